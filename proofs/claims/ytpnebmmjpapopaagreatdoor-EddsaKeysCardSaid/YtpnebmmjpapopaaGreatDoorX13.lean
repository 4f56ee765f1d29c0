/-
  Part of the proof of a statement: the means.
-/
import Derived.Test.YtpnebmmjpapopaaGreatDoorX6
set_option linter.unusedSectionVars false
set_option linter.unusedVariables false
set_option linter.unusedSimpArgs false
set_option linter.deprecated false
section
namespace Go.Sx
def W64 (xs:List Int):Prop :=∀ a ∈ xs,0<=a/\a<18446744073709551616
def wV:List Int->Nat
 | []=>0
 | x :: l=>x.toNat+18446744073709551616*wV l
end Go.Sx
end
section
namespace Go.Sx
def wd (V j:Nat):Nat:=V / 18446744073709551616^j % 18446744073709551616
end Go.Sx
end
section
namespace Go.Sx
structure Prod (xs ys:List Int) (i k:Nat) (o:Int) (u:List Int):Prop where
 len:u.length=xs.length+ys.length
 w:W64 u
 z : ∀ j,i+ys.length<=j->u.getD j 0=0
 ov:0<=o/\o<18446744073709551616
 val:wV u+o.toNat*18446744073709551616^(i+k)=wV (xs.take i)*wV ys+(xs.getD i 0).toNat*wV (ys.take k)*18446744073709551616^i
theorem qru {a b U:Nat} (hb:b<2^U):a*2^U ||| b=a*2^U+b:=by
 rw[<- Nat.shiftLeft_eq,Nat.shiftLeft_add_eq_or_of_lt hb]
end Go.Sx
end
section
namespace Go.Sx
theorem uorN {a b:Nat} (ha:a<18446744073709551616) (hb:b<18446744073709551616):binL .or .u64 (a:Int) (b:Int)=((a ||| b:Nat):Int):=by
 rw[uorb,BitVec.ofInt_natCast,BitVec.ofInt_natCast,BitVec.toNat_or,BitVec.toNat_ofNat,BitVec.toNat_ofNat,Nat.mod_eq_of_lt ha,Nat.mod_eq_of_lt hb]
end Go.Sx
end
section

end
section
namespace Go.Sx
theorem sorN {a b:Nat} (ha:a<9223372036854775808) (hb:b<9223372036854775808):binL .or .i64 (a:Int) (b:Int)=((a ||| b:Nat):Int):=by
 show IntKind.i64.wrap ((BitVec.ofInt 64 (a:Int) ||| BitVec.ofInt 64 (b:Int)).toNat:Int)=_
 rw[BitVec.ofInt_natCast,BitVec.ofInt_natCast,BitVec.toNat_or,BitVec.toNat_ofNat,BitVec.toNat_ofNat,Nat.mod_eq_of_lt (by omega),Nat.mod_eq_of_lt (by omega)]
 have:a ||| b<2^63:=Nat.or_lt_two_pow (by omega) (by omega)
 exact qal (by omega) (by omega)
theorem qrv {a k:Nat} (hk:k<=64) (h:a*2^k<9223372036854775808):binL .shl .i64 (a:Int) (k:Int)=((a*2^k:Nat):Int):=by
 show IntKind.i64.wrap ((a:Int)*2^(min (k:Int).toNat 64))=_
 rw[Int.toNat_natCast,Nat.min_eq_left hk,show((2:Int)^k)=((2^k:Nat):Int)by rw[Int.natCast_pow];rfl,<- Int.natCast_mul]
 exact qal (by omega) (by omega)
theorem qrw : ∀ y:Fin 256,binL .and .u8 (y.val:Int) 1=((y.val % 2:Nat):Int):=by decide +kernel
theorem qrx {bs:List Int} (hb:Byt bs) (i:Nat):IntKind.i64.wrap (binL .and .u8 (binL .shr .u8 (bs.getD (i / 8) 0) ((i % 8:Nat):Int)) 1)=((bitN (nV bs) i:Nat):Int):=by
 rw[qiv hb]
 have hx:nV bs / 256^(i / 8) % 256<256:=Nat.mod_lt _ (by decide)
 have e:=qmv (nV bs) i
 generalize nV bs / 256^(i / 8) % 256=x at *
 have e2:binL .shr .u8 (x:Int) ((i % 8:Nat):Int)=((x / 2^(i % 8):Nat):Int):=by
  show(x:Int).fdiv (2^(min ((i % 8:Nat):Int).toNat 8))=_
  rw[Int.toNat_natCast,Nat.min_eq_left (by omega),show((2:Int)^(i % 8))=((2^(i % 8):Nat):Int)by rw[Int.natCast_pow];rfl]
  exact Int.fdiv_eq_ediv_of_nonneg _ (Int.natCast_nonneg _)
 rw[e2]
 have hy:x / 2^(i % 8)<256:=Nat.lt_of_le_of_lt (Nat.div_le_self _ _) hx
 have:=qrw ⟨x / 2^(i % 8),hy⟩
 simp only at this
 rw[this,e]
 have:=qcW (nV bs) i
 exact qal (by omega) (by omega)
theorem qry {bs:List Int} (hb:Byt bs) {i:Nat} (h:8*bs.length<=i):bitN (nV bs) i=0:=by
 unfold bitN
 rw[Nat.div_eq_of_lt (Nat.lt_of_lt_of_le (qfH hb) (Nat.pow_le_pow_right (by decide) h))]
end Go.Sx
end
section

end
section

end
section

end
section
namespace Go.Sx
theorem qrR {a b:Int} (ha:0<=a/\a<1000) (hb:0<=b/\b<1000) :
  binL .sub .i64 1 (IntKind.i64.wrap (binL .shr .u64 (binL .or .u64 (binL .xor .u64 (IntKind.u64.wrap a) (IntKind.u64.wrap b)) (unL .neg .u64 (binL .xor .u64 (IntKind.u64.wrap a) (IntKind.u64.wrap b)))) 63))=if a=b then 1 else 0:=by
 rw[qhI (a:=a) (by omega) (by omega),qhI (a:=b) (by omega) (by omega),uxor]
 obtain⟨m,rfl⟩:=Int.eq_ofNat_of_zero_le ha.1
 obtain⟨n,rfl⟩:=Int.eq_ofNat_of_zero_le hb.1
 obtain⟨x,hx⟩ : ∃ x:BitVec 64,x=BitVec.ofInt 64 (m:Int) ^^^ BitVec.ofInt 64 (n:Int):=⟨_,rfl⟩
 rw[<- hx]
 have e0:unL .neg .u64 ((x.toNat:Nat):Int)=(((-x).toNat:Nat):Int):=by
  show IntKind.u64.wrap (0-((x.toNat:Nat):Int))=_
  rw[IntKind.wrap_u64,BitVec.toNat_neg]
  have:=x.isLt
  omega
 have hlt:=(x ||| -x).isLt
 rw[e0,uorN x.isLt (-x).isLt,show(63:Int)=((63:Nat):Int) from rfl,ushr _ _ (by decide),<- BitVec.toNat_or]
 have hm:x=0#64 ↔ m=n:=by
  rw[hx,BitVec.ofInt_natCast,BitVec.ofInt_natCast]
  constructor
  ·intro h
   have h2:=(BitVec.xor_eq_zero_iff).1 h
   have h3:=congrArg BitVec.toNat h2
   rw[BitVec.toNat_ofNat,BitVec.toNat_ofNat]at h3
   omega
  ·rintro rfl
   exact BitVec.xor_self
 have hd:((x ||| -x).toNat / 2^63:Nat)=if m=n then 0 else 1:=by
  by_cases h:m=n
  ·rw[if_pos h,hm.2 h];rfl
  ·rw[if_neg h]
   have hx0:x ≠ 0#64:=fun e=>h (hm.1 e)
   have hmsb:(x ||| -x).msb=true:=by
    rw[BitVec.msb_or,BitVec.msb_neg]
    by_cases h1:x=BitVec.intMin 64
    ·rw[h1];decide
    ·cases hb:x.msb<;>simp[hx0,h1]
   rw[BitVec.msb_eq_decide]at hmsb
   have:=of_decide_eq_true hmsb
   omega
 have e2:(((x ||| -x).toNat:Nat):Int) / ((2^63:Nat):Int)=(((x ||| -x).toNat / 2^63:Nat):Int):=rfl
 rw[e2,hd]
 by_cases h:m=n
 ·rw[if_pos h,if_pos (by rw[h])];decide
 ·rw[if_neg h,if_neg (by omega)];decide
end Go.Sx
end
section

end
section
namespace Go.Sx
structure T3 where
 x:Fp
 y:Fp
 z:Fp
def R3 (P:AP) (Q:T3):Prop:=P.on/\Q.z ≠ 0/\Q.x=P.x*Q.z/\Q.y=P.y*Q.z
end Go.Sx
end
