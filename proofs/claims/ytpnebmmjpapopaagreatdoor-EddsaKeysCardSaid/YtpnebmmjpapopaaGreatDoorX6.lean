/-
  Part of the proof of a statement: the means.
-/
import Derived.Test.YtpnebmmjpapopaaGreatDoorX5
import Derived.Test.YtpnebmmjpapopaaGreatDoorX31
set_option linter.unusedSectionVars false
set_option linter.unusedVariables false
set_option linter.unusedSimpArgs false
set_option linter.deprecated false
section

end
section

end
section

end
section
namespace Go.Sx
theorem qd5 (b:Int) : ∀ (l m:List Int),valB b (l++m)=valB b l+b^l.length*valB b m
 | [],m=>by simp[valB]
 | x :: l,m=>by
   simp only[List.cons_append,valB,qd5 b l m,List.length_cons,Int.pow_succ]
   generalize b^l.length=w
   generalize valB b l=u
   generalize valB b m=v
   have e:w*b*v=b*(w*v):=by rw[Int.mul_comm w,Int.mul_assoc]
   rw[e,Int.mul_add];omega
theorem qcT (b:Int) : ∀ (l:List Int) (j:Nat) (v:Int),j<l.length->valB b (l.set j v)=valB b l+(v-l.getD j 0)*b^j
 | [],j,v,h=>by simp at h
 | x :: l,0,v,_=>by simp only[List.set_cons_zero,valB,List.getD_cons_zero,Int.pow_zero];omega
 | x :: l,j+1,v,h=>by
   simp only[List.set_cons_succ,valB,List.getD_cons_succ,Int.pow_succ]
   rw[qcT b l j v (by simpa using h)]
   generalize b^j=w
   generalize v-l.getD j 0=z
   generalize valB b l=u
   have e:z*(w*b)=b*(z*w):=by rw[<- Int.mul_assoc,Int.mul_comm]
   rw[e,Int.mul_add];omega
theorem qis (b:Int) {l:List Int} {i:Nat} (h:i<l.length):valB b (l.take (i+1))=valB b (l.take i)+l.getD i 0*b^i:=by
 rw[List.take_succ_eq_append_getElem h,qd5,List.length_take,Nat.min_eq_left (Nat.le_of_lt h)]
 have e:l.getD i 0=l[i]:=by simp[List.getD,h]
 rw[e]
 simp only[valB,Int.mul_zero,Int.add_zero]
 rw[Int.mul_comm]
theorem getD_set {l:List Int} {i j:Nat} {v:Int} (h:i<l.length):(l.set i v).getD j 0=if i=j then v else l.getD j 0:=by
 split
 ·rename_i e;subst e;simp[List.getD,h]
 ·rename_i e;simp[List.getD,List.getElem?_set_ne e]
structure Cv (xs ys:List Int) (i k:Nat) (v:List Int):Prop where
 len:v.length=31
 bd : ∀ j,0<=v.getD j 0/\v.getD j 0<=(if i<=j/\j<i+k then (i:Int)+1 else i)*72057593501057025
 val:valB 268435456 v=valB 268435456 (xs.take i)*valB 268435456 ys+xs.getD i 0*268435456^i*valB 268435456 (ys.take k)
def z31:List Int:=[0,0,0,0,0,0,0,0,0,0,0,0,0,0,0,0,0,0,0,0,0,0,0,0,0,0,0,0,0,0,0]
theorem qra (j:Nat):z31.getD j 0=0:=by
 have:z31=List.replicate 31 0:=rfl
 rw[this,List.getD_eq_getElem?_getD,List.getElem?_replicate]
 split<;>rfl
theorem Cv.zero (xs ys:List Int):Cv xs ys 0 0 z31:=by
 refine⟨rfl,fun j => ?_,?_⟩
 ·rw[qra];split<;>omega
 ·have e:valB 268435456 z31=0:=by decide +kernel
  simp only[List.take_zero,valB,Int.zero_mul,Int.mul_zero,Int.add_zero];exact e
theorem qrb {x y:Int} (hx:0<=x/\x<268435456) (hy:0<=y/\y<268435456):0<=x*y/\x*y<=72057593501057025:=by
 refine⟨Int.mul_nonneg hx.1 hy.1,?_⟩
 have h1:x*y<=268435455*y:=Int.mul_le_mul_of_nonneg_right (by omega) hy.1
 omega
section
variable {xs ys v:List Int} {i k:Nat} (hx:xs.length=16) (hy:ys.length=16) (dx : ∀ a ∈ xs,0<=a/\a<268435456) (dy : ∀ a ∈ ys,0<=a/\a<268435456)
include hx hy dx dy
theorem Cv.rng (h:Cv xs ys i k v) (hi:i<16) (hk:k<16):(0<=xs.getD i 0*ys.getD k 0/\xs.getD i 0*ys.getD k 0<=72057593501057025)/\0<=v.getD (i+k) 0/\v.getD (i+k) 0<=1080863902515855375:=by
 refine⟨qrb (dx _ (qS (by omega))) (dy _ (qS (by omega))),(h.bd (i+k)).1,?_⟩
 have:=(h.bd (i+k)).2
 rw[if_neg (by omega)]at this
 omega
theorem Cv.step (h:Cv xs ys i k v) (hi:i<16) (hk:k<16):Cv xs ys i (k+1) (v.set (i+k) (v.getD (i+k) 0+xs.getD i 0*ys.getD k 0)):=by
 have hr:=h.rng hx hy dx dy hi hk
 have hl:i+k<v.length:=by rw[h.len];omega
 refine⟨by rw[List.length_set,h.len],fun j => ?_,?_⟩
 ·rw[getD_set hl]
  have:=h.bd j
  by_cases e:i+k=j
  ·subst e
   rw[if_pos rfl,if_pos (by omega)]
   rw[if_neg (by omega)]at this
   omega
  ·rw[if_neg e]
   by_cases c:i<=j/\j<i+k
   ·rw[if_pos c]at this
    rw[if_pos (by omega)];exact this
   ·rw[if_neg c]at this
    rw[if_neg (by omega)];exact this
 ·rw[qcT _ _ _ _ hl,h.val,qis _ (by omega)]
  have e:v.getD (i+k) 0+xs.getD i 0*ys.getD k 0-v.getD (i+k) 0=xs.getD i 0*ys.getD k 0:=by omega
  rw[e,Int.pow_add]
  generalize xs.getD i 0=a
  generalize ys.getD k 0=b
  generalize (268435456:Int)^i=p
  generalize (268435456:Int)^k=q
  generalize valB 268435456 (ys.take k)=w
  rw[Int.mul_add,Int.add_assoc]
  congr 2
  ac_rfl
theorem Cv.row (h:Cv xs ys i 16 v) (hi:i<16):Cv xs ys (i+1) 0 v:=by
 refine⟨h.len,fun j => ?_,?_⟩
 ·have:=h.bd j
  rw[if_neg (by omega)]
  refine⟨this.1,Int.le_trans this.2 ?_⟩
  split<;>omega
 ·rw[h.val,qis _ (l:=xs) (i:=i) (by omega),List.take_zero,List.take_of_length_le (l:=ys) (by omega)]
  simp only[valB,Int.mul_zero,Int.add_zero]
  rw[Int.add_mul]
end
def wt (m:Nat):Nat:=if m+8<=30 then 2 else 1
def cap (i j:Nat):Nat:=1+(if i<j+8/\j+8<=30 then wt (j+8) else 0)+(if i<j+16/\j+16<=30 then wt (j+16) else 0)
def fstp (u:List Int) (i:Nat):List Int:=(u.set (i-16) (u.getD (i-16) 0+u.getD i 0)).set (i-8) ((u.set (i-16) (u.getD (i-16) 0+u.getD i 0)).getD (i-8) 0+(u.set (i-16) (u.getD (i-16) 0+u.getD i 0)).getD i 0)
structure Fd (V:Fp) (i:Nat) (u:List Int):Prop where
 len:u.length=31
 bd : ∀ j,j<=i->0<=u.getD j 0/\u.getD j 0<=(cap i j:Int)*1152921496016912400
 val:fI (valB 268435456 (u.take (i+1)))=V
theorem Fd.start {xs ys v:List Int} (hx:xs.length=16) (h:Cv xs ys 16 0 v):Fd (fI (valB 268435456 xs)*fI (valB 268435456 ys)) 30 v:=by
 refine⟨h.len,fun j hj => ?_,?_⟩
 ·have:=h.bd j
  rw[if_neg (by omega)]at this
  have e:1<=cap 30 j:=by unfold cap;omega
  have e1:(1:Int)<=(cap 30 j:Int):=Int.ofNat_le.2 e
  omega
 ·rw[List.take_of_length_le (by rw[h.len];omega),h.val,List.take_zero,List.take_of_length_le (by omega)]
  simp only[valB,Int.mul_zero,Int.add_zero]
  exact qdP _ _
theorem qrc (j:Nat) (h:16<=j) (h2:j<=30):cap j j=wt j:=by
 unfold cap wt
 rw[if_neg (show ¬ (j<j+16/\j+16<=30)by omega)]
 by_cases e:j+8<=30
 ·rw[if_pos (show j<j+8/\j+8<=30 by omega),if_neg (by omega),if_pos e]
 ·rw[if_neg (show ¬ (j<j+8/\j+8<=30)by omega),if_neg e]
theorem qit (i j:Nat) (h:15<=i) (hj:j<=i):cap i j<=4:=by
 unfold cap wt
 split<;>split<;>(repeat' split)<;>omega
theorem qrd (i:Nat) (h:16<=i) (h2:i<=30):cap (i-1) (i-8)=cap i (i-8)+wt i:=by
 unfold cap
 have e1:i-8+8=i:=by omega
 rw[e1,if_pos (show i-1<i/\i<=30 by omega),if_neg (show ¬ (i<i/\i<=30)by omega)]
 have e2:(i-1<i-8+16/\i-8+16<=30) ↔ (i<i-8+16/\i-8+16<=30):=by omega
 by_cases c:i<i-8+16/\i-8+16<=30
 ·rw[if_pos c,if_pos (e2.2 c)];omega
 ·rw[if_neg c,if_neg (fun h=>c (e2.1 h))];omega
theorem qre (i:Nat) (h:16<=i) (h2:i<=30):cap (i-1) (i-16)=cap i (i-16)+wt i:=by
 unfold cap
 have e1:i-16+16=i:=by omega
 rw[e1,if_pos (show i-1<i/\i<=30 by omega),if_neg (show ¬ (i<i/\i<=30)by omega),if_neg (show ¬ (i<i-16+8/\i-16+8<=30)by omega),if_neg (show ¬ (i-1<i-16+8/\i-16+8<=30)by omega)]
theorem qrf (i j:Nat) (h:16<=i) (h2:i<=30) (h3:j ≠ i-8) (h4:j ≠ i-16):cap (i-1) j=cap i j:=by
 have a1:(i-1<j+8/\j+8<=30) ↔ (i<j+8/\j+8<=30):=by omega
 have a2:(i-1<j+16/\j+16<=30) ↔ (i<j+16/\j+16<=30):=by omega
 unfold cap
 simp only[a1,a2]
theorem qml {u:List Int} {i j:Nat} {v:Int} (h:j<i):(u.set j v).take i=(u.take i).set j v:=List.take_set
theorem qrg (n:Nat):fI (268435456^(n+16))=fI (268435456^n+268435456^(n+8)):=by
 have e:(268435456:Int)^(n+16)=268435456^n+268435456^(n+8)+268435456^n*726838724295606890549323807888004534353641360687318060281490199180612328166730772686396383698676545930088884461843637361053498018365439:=by
  rw[Int.pow_add,Int.pow_add]
  generalize (268435456:Int)^n=w
  have e1:(268435456:Int)^16=1+268435456^8+726838724295606890549323807888004534353641360687318060281490199180612328166730772686396383698676545930088884461843637361053498018365439:=by decide +kernel
  rw[e1,Int.mul_add,Int.mul_add,Int.mul_one]
 rw[e,qaD,fI_p];grind -lia -linarith -order -ac (splits:=0)
theorem Fd.step {V:Fp} {i:Nat} {u:List Int} (h:Fd V i u) (hi:16<=i) (hi2:i<=30):Fd V (i-1) (fstp u i)/\(0<=u.getD (i-16) 0+u.getD i 0/\u.getD (i-16) 0+u.getD i 0<9223372036854775808)/\(0<=u.getD (i-8) 0+u.getD i 0/\u.getD (i-8) 0+u.getD i 0<9223372036854775808)/\(u.set (i-16) (u.getD (i-16) 0+u.getD i 0)).getD (i-8) 0=u.getD (i-8) 0/\(u.set (i-16) (u.getD (i-16) 0+u.getD i 0)).getD i 0=u.getD i 0:=by
 have hl:=h.len
 have b0:=h.bd i (Nat.le_refl _)
 rw[qrc i hi hi2]at b0
 have b1:=h.bd (i-16) (by omega)
 have b2:=h.bd (i-8) (by omega)
 have c1:=qit i (i-16) (by omega) (by omega)
 have c2:=qit i (i-8) (by omega) (by omega)
 have c0:wt i<=2:=by unfold wt;split<;>omega
 have c0':(wt i:Int)<=2:=Int.ofNat_le.2 c0
 have c1':(cap i (i-16):Int)<=4:=Int.ofNat_le.2 c1
 have c2':(cap i (i-8):Int)<=4:=Int.ofNat_le.2 c2
 have g1:(u.set (i-16) (u.getD (i-16) 0+u.getD i 0)).getD (i-8) 0=u.getD (i-8) 0:=by
  rw[getD_set (by omega),if_neg (by omega)]
 have g2:(u.set (i-16) (u.getD (i-16) 0+u.getD i 0)).getD i 0=u.getD i 0:=by
  rw[getD_set (by omega),if_neg (by omega)]
 refine⟨⟨?_,?_,?_⟩,⟨by omega,by omega⟩,⟨by omega,by omega⟩,g1,g2⟩
 ·unfold fstp;rw[List.length_set,List.length_set,hl]
 ·intro j hj
  unfold fstp
  rw[g1,g2,getD_set (by rw[List.length_set];omega)]
  by_cases e:i-8=j
  ·subst e
   rw[if_pos rfl,qrd i hi hi2,Int.natCast_add,Int.add_mul]
   omega
  ·rw[if_neg e,getD_set (by omega)]
   by_cases e2:i-16=j
   ·subst e2
    rw[if_pos rfl,qre i hi hi2,Int.natCast_add,Int.add_mul]
    omega
   ·rw[if_neg e2,qrf i j hi hi2 (Ne.symm e) (Ne.symm e2)]
    exact h.bd j (by omega)
 ·rw[<- h.val,qis _ (l:=u) (i:=i) (by omega)]
  unfold fstp
  rw[g1,g2,show i-1+1=i by omega,qml (by omega),qml (by omega)]
  have t1:(u.take i).getD (i-16) 0=u.getD (i-16) 0:=by
   simp[List.getD,List.getElem?_take,show i-16<i by omega]
  have t2:(u.take i).getD (i-8) 0=u.getD (i-8) 0:=by
   simp[List.getD,List.getElem?_take,show i-8<i by omega]
  have tl:(u.take i).length=i:=by rw[List.length_take];omega
  rw[qcT _ _ _ _ (by rw[List.length_set,tl];omega),qcT _ _ _ _ (by omega),getD_set (by omega),if_neg (by omega),t1,t2]
  have hp:=qrg (i-16)
  rw[show i-16+16=i by omega,show i-16+8=i-8 by omega,qaD]at hp
  rw[qaD,qaD,qaD,qdP,qdP,qdP,hp]
  have e1:u.getD (i-16) 0+u.getD i 0-u.getD (i-16) 0=u.getD i 0:=by omega
  have e2:u.getD (i-8) 0+u.getD i 0-u.getD (i-8) 0=u.getD i 0:=by omega
  rw[e1,e2]
  generalize fI (u.getD i 0)=a
  generalize fI (268435456^(i-16))=b
  generalize fI (268435456^(i-8))=c
  generalize fI (valB 268435456 (u.take i))=d
  clear hp b0 b1 b2 c1 c2 c0 c0' c1' c2' g1 g2 e1 e2 t1 t2 tl h
  grind -lia -linarith -order -ac (splits:=0)
theorem Fd.done {V:Fp} {u:List Int} (h:Fd V 15 u):(u.take 16).length=16/\(∀ a ∈ u.take 16,-4611686018427387904<a/\a<4611686018427387904)/\fI (valB 268435456 (u.take 16))=V:=by
 refine⟨by rw[List.length_take,h.len];rfl,fun a ha => ?_,h.val⟩
 obtain⟨j,hj,rfl⟩:=List.getElem_of_mem ha
 have hj':j<16:=by rw[List.length_take,h.len]at hj;exact hj
 have b:=h.bd j (by omega)
 have c:=qit 15 j (by omega) (by omega)
 have c':(cap 15 j:Int)<=4:=Int.ofNat_le.2 c
 have e:(u.take 16)[j]=u.getD j 0:=by
  rw[List.getElem_take]
  simp[List.getD,show j<u.length by rw[h.len];omega]
 rw[e]
 omega
end Go.Sx
end
section
namespace Go.Sx
theorem qcU (b:Int) (hb:0<b) : ∀ (l:List Int),(∀ a ∈ l,0<=a/\a<b)->0<=valB b l/\valB b l<b^l.length
 | [],_=>by simp[valB]
 | x :: l,h=>by
   have ih:=qcU b hb l fun a ha=>h a (List.mem_cons_of_mem _ ha)
   have hx:=h x (List.mem_cons_self ..)
   simp only[valB,List.length_cons,Int.pow_succ]
   generalize valB b l=v at *
   generalize b^l.length=w at *
   have h1:0<=b*v:=Int.mul_nonneg (by omega) ih.1
   have h2:b*(v+1)<=b*w:=Int.mul_le_mul_of_nonneg_left (by omega) (by omega)
   rw[Int.mul_add,Int.mul_one]at h2
   rw[Int.mul_comm w]
   omega
theorem qrh {bs:List Int} {j n:Nat} (h:j<bs.length):qK ((bs.drop j).take (n+1))=bs.getD j 0+256*qK ((bs.drop (j+1)).take n):=by
 rw[List.drop_eq_getElem_cons h,List.take_succ_cons]
 have e:bs.getD j 0=bs[j]:=by simp[List.getD,h]
 rw[e];rfl
theorem qfE {bs:List Int} (hb : ∀ a ∈ bs,0<=a/\a<256) (j n:Nat):0<=qK ((bs.drop j).take n)/\qK ((bs.drop j).take n)<256^n:=by
 have:=qcU 256 (by decide) ((bs.drop j).take n) fun a ha=>hb a (List.mem_of_mem_drop (List.mem_of_mem_take ha))
 refine⟨this.1,Int.lt_of_lt_of_le this.2 ?_⟩
 have e:((256^((bs.drop j).take n).length:Nat):Int)<=((256^n:Nat):Int):=Int.ofNat_le.2 (Nat.pow_le_pow_right (by decide) (by rw[List.length_take];omega))
 simpa using e
structure Ofs (bs:List Int) (i:Nat) (v:List Int):Prop where
 len:v.length=16
 bd : ∀ j,0<=v.getD j 0/\v.getD j 0<268435456
 z : ∀ j,2*i<=j->v.getD j 0=0
 val:valB 268435456 v=qK (bs.take (7*i))
def z16:List Int:=[0,0,0,0,0,0,0,0,0,0,0,0,0,0,0,0]
theorem qmn (j:Nat):z16.getD j 0=0:=by
 have:z16=List.replicate 16 0:=rfl
 rw[this,List.getD_eq_getElem?_getD,List.getElem?_replicate]
 split<;>rfl
theorem Ofs.zero (bs:List Int):Ofs bs 0 z16:=⟨rfl,fun j=>by rw[qmn];decide,fun j _=>qmn j,by
 show valB 268435456 z16=0
 decide⟩
theorem qmo (i:Nat):(256:Int)^(7*i)=268435456^(2*i):=by
 rw[Int.pow_mul,Int.pow_mul]
 congr 1
theorem qri {bs:List Int} (i:Nat):bs.take (7*(i+1))=bs.take (7*i)++(bs.drop (7*i)).take 7:=by
 rw[Nat.mul_add,Nat.mul_one,List.take_add]
theorem Ofs.step {bs v:List Int} {i:Nat} (h:Ofs bs i v) (hi:i<8) (hl:bs.length=56) (hb : ∀ a ∈ bs,0<=a/\a<256) {n:Int} (hn:n=qK ((bs.drop (7*i)).take 7)):Ofs bs (i+1) ((v.set (2*i) (n % 268435456)).set (2*i+1) (n / 268435456)):=by
 have hbd:=qfE hb (7*i) 7
 rw[<- hn]at hbd
 have h56:(256:Int)^7=72057594037927936:=by decide
 rw[h56]at hbd
 have l1:2*i<v.length:=by rw[h.len];omega
 have l2:2*i+1<(v.set (2*i) (n % 268435456)).length:=by rw[List.length_set,h.len];omega
 refine⟨by rw[List.length_set,List.length_set,h.len],fun j => ?_,fun j hj => ?_,?_⟩
 ·rw[getD_set l2,getD_set l1]
  split
  ·omega
  ·split
   ·omega
   ·exact h.bd j
 ·rw[getD_set l2,getD_set l1,if_neg (by omega),if_neg (by omega)]
  exact h.z j (by omega)
 ·rw[qcT _ _ _ _ l2,qcT _ _ _ _ l1,getD_set l1,if_neg (by omega),h.z _ (by omega),h.z _ (by omega),h.val,qri]
  unfold qK
  rw[qd5,List.length_take,hl,Nat.min_eq_left (by omega),qmo]
  have e:valB 256 ((bs.drop (7*i)).take 7)=n:=hn.symm
  rw[e,Int.pow_succ]
  generalize (268435456:Int)^(2*i)=w
  generalize valB 256 (bs.take (7*i))=u
  have e2:n=n % 268435456+n / 268435456*268435456:=by omega
  conv=>rhs;rw[e2]
  rw[Int.mul_add,Int.sub_zero,Int.sub_zero,Int.add_assoc]
  congr 1
  rw[Int.mul_comm w,Int.mul_left_comm w]
  congr 1
  rw[Int.mul_comm w]
  ac_rfl
theorem Ofs.done {bs v:List Int} (h:Ofs bs 8 v) (hl:bs.length=56):valB 268435456 v=qK bs /\ ∀ a ∈ v,-4611686018427387904<a/\a<4611686018427387904:=by
 refine⟨by rw[h.val,List.take_of_length_le (by omega)],fun a ha => ?_⟩
 obtain⟨j,hj,rfl⟩:=List.getElem_of_mem ha
 have:=h.bd j
 rw[show v.getD j 0=v[j]by simp[List.getD,hj]]at this
 omega
def qZ (N n:Nat):List Int:=(List.range n).map fun j=>((N / 256^j % 256:Nat):Int)
theorem qcV (N n:Nat):(qZ N n).length=n:=by simp[qZ]
theorem qmp (N n:Nat):qZ N (n+1)=qZ N n++[((N / 256^n % 256:Nat):Int)]:=by
 unfold qZ;rw[List.range_succ,List.map_append];rfl
theorem qrj (x:Fp):qap x=qZ x.val 56:=by unfold qap qZ;rfl
theorem dig2 {xs:List Int} {N i:Nat} (hl:xs.length=16) (hd : ∀ a ∈ xs,0<=a/\a<268435456) (hv:valB 268435456 xs=N) (hi:i<8):xs.getD (2*i) 0+xs.getD (2*i+1) 0*268435456=((N / 256^(7*i) % 72057594037927936:Nat):Int):=by
 have h1:2*i<xs.length:=by omega
 have h2:2*i+1<xs.length:=by omega
 have e:xs=xs.take (2*i)++(xs.getD (2*i) 0 :: xs.getD (2*i+1) 0 :: xs.drop (2*i+2)):=by
  conv=>lhs;rw[<- List.take_append_drop (2*i) xs,List.drop_eq_getElem_cons h1,List.drop_eq_getElem_cons h2]
  have e1:xs.getD (2*i) 0=xs[2*i]:=by simp[List.getD,h1]
  have e2:xs.getD (2*i+1) 0=xs[2*i+1]:=by simp[List.getD,h2]
  rw[e1,e2]
 have b1:=qcU 268435456 (by decide) (xs.take (2*i)) fun a ha=>hd a (List.mem_of_mem_take ha)
 have b2:=qcU 268435456 (by decide) (xs.drop (2*i+2)) fun a ha=>hd a (List.mem_of_mem_drop ha)
 have b3:=hd _ (qS h1)
 have b4:=hd _ (qS h2)
 have hv2:=hv
 rw[e,qd5]at hv2
 simp only[valB]at hv2
 rw[List.length_take,Nat.min_eq_left (by omega)]at hv2 b1
 have hp:(268435456:Int)^(2*i)=((256^(7*i):Nat):Int):=by rw[<- qmo];simp
 rw[hp]at hv2 b1
 have hpos:0<256^(7*i):=Nat.pow_pos (by decide)
 generalize 256^(7*i)=w at *
 generalize valB 268435456 (xs.take (2*i))=u at *
 generalize valB 268435456 (xs.drop (2*i+2))=t at *
 generalize xs.getD (2*i) 0=a at *
 generalize xs.getD (2*i+1) 0=b at *
 have q:((N / w:Nat):Int)=a+268435456*(b+268435456*t):=by
  rw[Int.natCast_ediv,<- hv2,Int.add_mul_ediv_left _ _ (by omega),Int.ediv_eq_zero_of_lt b1.1 b1.2,Int.zero_add]
 rw[Int.natCast_emod,q]
 omega
theorem qfF (N i k:Nat) (hk:k<7):N / 256^(7*i) % 72057594037927936 / 256^k % 256=N / 256^(7*i+k) % 256:=by
 have e:72057594037927936=256^k*256^(7-k):=by rw[<- Nat.pow_add,show k+(7-k)=7 by omega]
 rw[e,Nat.mod_mul_right_div_self,Nat.mod_mod_of_dvd,Nat.div_div_eq_div_mul,<- Nat.pow_add]
 exact Nat.dvd_trans (Nat.dvd_refl 256) (by rw[show 7-k=(6-k)+1 by omega,Nat.pow_succ];exact Nat.dvd_mul_left ..)
theorem qmq (a b:Int) (ha : -268435456<=a/\a<=268435456) (hb : -34359738368<=b/\b<=34359738368):((z16.set 0 a).set 1 b).length=16/\(∀ x ∈ (z16.set 0 a).set 1 b,-4611686018427387904<x/\x<4611686018427387904)/\valB 268435456 ((z16.set 0 a).set 1 b)=a+268435456*b:=by
 refine⟨rfl,fun x hx => ?_,?_⟩
 ·have:x=a\/x=b\/x=0:=by
   simp only[z16,List.set_cons_zero,List.set_cons_succ,List.mem_cons,List.not_mem_nil,or_false]at hx
   omega
  omega
 ·simp only[z16,List.set_cons_zero,List.set_cons_succ,valB];omega
theorem qmr {n:Int} (h0 : -9223372036854775808<=n) (h1:n<9223372036854775808):(-268435456<n.tmod 268435456/\n.tmod 268435456<268435456)/\(-34359738368<=n.tdiv 268435456/\n.tdiv 268435456<=34359738368)/\268435456*n.tdiv 268435456+n.tmod 268435456=n:=by
 have e:=Int.mul_tdiv_add_tmod n 268435456
 rcases qim n with h|h
 ·omega
 ·omega
def qbX:List Int:=[255,255,255,255,255,255,255,255,255,255,255,255,255,255,255,255,255,255,255,255,255,255,255,255,255,255,255,255,254,255,255,255,255,255,255,255,255,255,255,255,255,255,255,255,255,255,255,255,255,255,255,255,255,255,255,255]
theorem qrk:qZ (valB 268435456 pL).toNat 56=qbX:=by decide +kernel
end Go.Sx
end
section
namespace Go.Sx
abbrev Byt (bs:List Int):Prop :=∀ a ∈ bs,0<=a/\a<256
def nV (bs:List Int):Nat:=(qK bs).toNat
theorem qd6 {bs:List Int} (h:Byt bs):((nV bs:Nat):Int)=qK bs:=by
 have:=(qcU 256 (by decide) bs h).1
 unfold nV qK;omega
theorem qcl {bs:List Int} (h:Byt bs):nV bs<256^bs.length:=by
 have h1:=(qcU 256 (by decide) bs h).2
 have h2:=qd6 h
 have e:((nV bs:Nat):Int)<((256^bs.length:Nat):Int):=by
  rw[h2,Int.natCast_pow];exact h1
 exact Int.ofNat_lt.1 e
theorem qrl {bs:List Int} (h:Byt bs) (i:Nat):Byt (bs.drop i):=fun a ha=>h a (List.mem_of_mem_drop ha)
theorem qfG {bs:List Int} (h:Byt bs) (i:Nat):Byt (bs.take i):=fun a ha=>h a (List.mem_of_mem_take ha)
theorem qd7 {bs:List Int} (h:Byt bs) (i:Nat):0<=bs.getD i 0/\bs.getD i 0<256:=by
 by_cases hi:i<bs.length
 ·exact h _ (qS hi)
 ·rw[show bs.getD i 0=0 by simp[List.getD,Nat.not_lt.1 hi]];decide
theorem qiu {x:Int} {l:List Int} (hx:0<=x) (h:Byt l):nV (x :: l)=x.toNat+256*nV l:=by
 have h2:=qd6 h
 show(x+256*valB 256 l).toNat=_
 unfold qK at h2
 rw[<- h2];omega
theorem qms {l m:List Int} (hl:Byt l) (hm:Byt m):nV (l++m)=nV l+256^l.length*nV m:=by
 have h1:=qd6 hl
 have h2:=qd6 hm
 have h3:=qd6 (bs:=l++m) (fun a ha=>(List.mem_append.1 ha).elim (hl a) (hm a))
 have h4:=qd5 256 l m
 unfold qK at *
 rw[h4,<- h1,<- h2]at h3
 have e:((nV (l++m):Nat):Int)=((nV l+256^l.length*nV m:Nat):Int):=by
  rw[h3,Int.natCast_add,Int.natCast_mul,Int.natCast_pow];rfl
 exact Int.ofNat_inj.1 e
theorem qiv {bs:List Int} (h:Byt bs) (i:Nat):bs.getD i 0=((nV bs / 256^i % 256:Nat):Int):=by
 induction i generalizing bs with
 | zero=>cases bs with
   | nil=>rfl
   | cons x l =>
     have hx:=h x (List.mem_cons_self ..)
     rw[qiu hx.1 (fun a ha=>h a (List.mem_cons_of_mem _ ha)),Nat.pow_zero,Nat.div_one,List.getD_cons_zero];omega
 | succ i ih=>cases bs with
   | nil =>
     have e:nV []=0:=rfl
     rw[e,Nat.zero_div];rfl
   | cons x l =>
     have hx:=h x (List.mem_cons_self ..)
     have hl:Byt l:=fun a ha=>h a (List.mem_cons_of_mem _ ha)
     rw[qiu hx.1 hl,List.getD_cons_succ,ih hl,Nat.pow_succ',<- Nat.div_div_eq_div_mul]
     congr 3;omega
theorem qiw {bs:List Int} (h:Byt bs) (i:Nat):nV (bs.take i)=nV bs % 256^i:=by
 by_cases hi:i<=bs.length
 ·have e:=qms (qfG h i) (qrl h i)
  rw[List.take_append_drop,List.length_take,Nat.min_eq_left hi]at e
  have:=qcl (qfG h i)
  rw[List.length_take,Nat.min_eq_left hi]at this
  rw[e,Nat.add_mul_mod_self_left,Nat.mod_eq_of_lt this]
 ·rw[List.take_of_length_le (by omega),Nat.mod_eq_of_lt]
  exact Nat.lt_of_lt_of_le (qcl h) (Nat.pow_le_pow_right (by decide) (by omega))
theorem qix {bs:List Int} (h:Byt bs) (i:Nat):((nV (bs.take (i+1)):Nat):Int)=nV (bs.take i)+bs.getD i 0*256^i:=by
 rw[qiw h,qiw h,qiv h,Nat.pow_succ,Nat.mod_mul,Int.natCast_add,Int.natCast_mul,Int.mul_comm (256^i:Nat),Int.natCast_pow];rfl
theorem qmt {l:List Int} {x:Int} (hl:Byt l) (hx:0<=x/\x<256):((nV (l++[x]):Nat):Int)=nV l+x*256^l.length:=by
 rw[qms hl (fun a ha=>by rw[List.mem_singleton]at ha;rw[ha];exact hx),qiu hx.1 (fun a ha=>by simp at ha)]
 have e:nV []=0:=rfl
 rw[e,Int.natCast_add,Int.natCast_mul,Int.natCast_pow,Int.mul_comm]
 congr 2
 omega
theorem qmu {l:List Int} {x:Int} (hl:Byt l) (hx:0<=x/\x<256):Byt (l++[x]):=fun a ha=>by
 rcases List.mem_append.1 ha with h|h
 ·exact hl a h
 ·rw[List.mem_singleton]at h;rw[h];exact hx
theorem qrm {bs:List Int} (h:Byt bs) {n:Nat} (hz:bs.getD n 0=0) (e:nV (bs.take (n+1))=nV bs):nV (bs.take n)=nV bs:=by
 have:=qix h n
 rw[hz,Int.zero_mul,Int.add_zero,e]at this
 omega
def bitN (V i:Nat):Nat:=V / 2^i % 2
theorem qmv (V i:Nat):V / 256^(i / 8) % 256 / 2^(i % 8) % 2=bitN V i:=by
 have e:(256:Nat)=2^(i % 8)*2^(8-i % 8):=by
  rw[<- Nat.pow_add,show i % 8+(8-i % 8)=8 by omega]
 unfold bitN
 have e3:(256:Nat)^(i / 8)*2^(i % 8)=2^i:=by
  rw[show(256:Nat)=2^8 from rfl,<- Nat.pow_mul,<- Nat.pow_add,show 8*(i / 8)+i % 8=i by omega]
 have e2:V / 256^(i / 8) % 256 / 2^(i % 8) % 2=V / 256^(i / 8) / 2^(i % 8) % 2:=by
  generalize V / 256^(i / 8)=W
  rw[e,Nat.mod_mul_right_div_self,Nat.mod_mod_of_dvd]
  rw[show 8-i % 8=(7-i % 8)+1 by omega,Nat.pow_succ]
  exact Nat.dvd_mul_left ..
 rw[e2,Nat.div_div_eq_div_mul,e3]
theorem qcW (V i:Nat):bitN V i<2:=Nat.mod_lt _ (by decide)
def qiy (V n:Nat):Prop:=V<2^n/\(n=0\/2^(n-1)<=V)
theorem qmw {V n:Nat} (h:V<2^(n+1)) (hb:bitN V n=0):V<2^n:=by
 unfold bitN at hb
 have:V / 2^n<2:=by exact(Nat.div_lt_iff_lt_mul (Nat.pow_pos (by decide))).2 (by rw[Nat.mul_comm,<- Nat.pow_succ];exact h)
 have e:V / 2^n=0:=by
  revert this hb;generalize V / 2^n=q;omega
 rcases Nat.div_eq_zero_iff.1 e with h|h
 ·exact absurd h (Nat.ne_of_gt (Nat.pow_pos (by decide)))
 ·exact h
theorem qmx {V n:Nat} (hb:bitN V n ≠ 0):2^n<=V:=by
 apply Nat.le_of_not_lt
 intro h
 apply hb
 unfold bitN
 rw[Nat.div_eq_of_lt h]
theorem half_bit (V i:Nat):V / 2^i=2*(V / 2^(i+1))+bitN V i:=by
 unfold bitN
 rw[Nat.pow_succ,<- Nat.div_div_eq_div_mul];omega
theorem qfH {bs:List Int} (h:Byt bs):nV bs<2^(8*bs.length):=by
 rw[Nat.pow_mul];exact qcl h
theorem qrn (V n:Nat):nV (qZ V n)=V % 256^n:=by
 unfold nV qZ;rw[qq3];rfl
theorem qro (V n:Nat):Byt (qZ V n):=fun a ha=>by
 unfold qZ at ha
 obtain⟨j,_,rfl⟩:=List.mem_map.1 ha
 omega
theorem qrp {V n:Nat} (h:V<256^n) : ∃ z:List Int × Nat,nV z.1=V/\Byt z.1/\z.1.length<=n/\z.1.length<=z.2 :=
 ⟨(qZ V n,n),by rw[qrn,Nat.mod_eq_of_lt h],qro V n,by simp[qcV],by simp[qcV]⟩
theorem qrq {V n:Nat} (h:V<2^n) : ∃ z,qiy V z/\z<=n:=by
 induction n with
 | zero=>exact⟨0,⟨h,.inl rfl⟩,Nat.le_refl _⟩
 | succ n ih =>
   by_cases hb:bitN V n=0
   · obtain⟨z,h1,h2⟩:=ih (qmw h hb)
     exact⟨z,h1,by omega⟩
   · exact⟨n+1,⟨h,.inr (qmx hb)⟩,Nat.le_refl _⟩
theorem qrr {xs ys u:List Int} {i:Nat} {l:Nat} (bx:Byt xs) (bys:Byt ys) (hl:l<=1) (hub:Byt u) (hul:u.length=i) (hv:((nV u:Nat):Int)=nV (xs.take i)-nV (ys.take i)+l*256^i) {d:Int} (hd:d=xs.getD i 0-ys.getD i 0-l) :
  (d<0->Byt (u++[d+256])/\((nV (u++[d+256]):Nat):Int)=nV (xs.take (i+1))-nV (ys.take (i+1))+(1:Nat)*256^(i+1))/\(¬ d<0->Byt (u++[d])/\((nV (u++[d]):Nat):Int)=nV (xs.take (i+1))-nV (ys.take (i+1))+(0:Nat)*256^(i+1)):=by
 have gx:=qd7 bx i
 have gy:=qd7 bys i
 have ex:=qix bx i
 have ey:=qix bys i
 rw[ex,ey,Int.pow_succ]
 have l1:(l:Int)<=1:=by omega
 have l0:(0:Int)<=l:=by omega
 refine⟨fun h => ?_,fun h => ?_⟩
 ·have hr:0<=d+256/\d+256<256:=by omega
  refine⟨qmu hub hr,?_⟩
  rw[qmt hub hr,hv,hul]
  generalize (256:Int)^i=w
  rw[hd]
  generalize xs.getD i 0=a
  generalize ys.getD i 0=b
  have e:(a-b-(l:Int)+256)*w=a*w-b*w-l*w+w*256:=by rw[Int.add_mul,Int.sub_mul,Int.sub_mul,Int.mul_comm 256]
  rw[e];omega
 ·have hr:0<=d/\d<256:=by omega
  refine⟨qmu hub hr,?_⟩
  rw[qmt hub hr,hv,hul]
  generalize (256:Int)^i=w
  rw[hd]
  generalize xs.getD i 0=a
  generalize ys.getD i 0=b
  have e:(a-b-(l:Int))*w=a*w-b*w-l*w:=by rw[Int.sub_mul,Int.sub_mul]
  rw[e];omega
theorem qrs {xs ys u:List Int} {l:Nat} (bx:Byt xs) (bys:Byt ys) (hub:Byt u) (hul:u.length=xs.length) (hv:((nV u:Nat):Int)=nV (xs.take xs.length)-nV (ys.take xs.length)+l*256^xs.length) (hle:nV ys<=nV xs):nV u=nV xs-nV ys:=by
 have h1:=qcl bx
 have h2:=qcl hub
 rw[hul]at h2
 rw[List.take_length,qiw bys,Nat.mod_eq_of_lt (Nat.lt_of_le_of_lt hle h1)]at hv
 have e:(256:Int)^xs.length=((256^xs.length:Nat):Int):=by rw[Int.natCast_pow];rfl
 rw[e]at hv
 generalize 256^xs.length=w at *
 rcases Nat.eq_zero_or_pos l with h|h
 ·subst h
  simp only[Int.natCast_zero,Int.zero_mul,Int.add_zero]at hv
  omega
 ·have:(1:Int)*w<=l*w:=Int.mul_le_mul_of_nonneg_right (by omega) (by omega)
  omega
theorem qrt (W i m:Nat) (n:Nat):W / 2^(i+m) % 2^(n+1)=2*(W / 2^(i+(m+1)) % 2^n)+bitN W (i+m):=by
 unfold bitN
 rw[<- Nat.add_assoc,Nat.pow_succ 2 (i+m),<- Nat.div_div_eq_div_mul]
 generalize W / 2^(i+m)=A
 rw[Nat.pow_succ',Nat.mod_mul];omega
end Go.Sx
end
section
namespace Go.Sx
theorem qrL:okRe 0 [0,0,0,0,0,0,0,0,0,0,0,0,0,0,0,0]:=⟨rfl,by decide,by decide⟩
theorem qrM (a:Fp):pw a (nV qbX-nV [2])=finv a:=by
 unfold finv
 have:nV qbX-nV [2]=pN-2:=by decide +kernel
 rw[this]
theorem qrN {x:Fp} {xs:List Int} (h:okRe x xs):xs.getD 0 0 % 2=((x.val % 2:Nat):Int):=by
 obtain⟨hl,hd,hv⟩:=h
 match xs,hl with
 | a :: l,_ =>
   simp only[valB]at hv
   simp only[List.getD_cons_zero]
   omega
end Go.Sx
end
section
namespace Go.Sx
def nsm:Nat->AP->AP
 | 0,_=>pid
 | n+1,P=>padd (nsm n P) P
theorem qiC {P:AP} (h:P.on) : ∀ n,(nsm n P).on
 | 0=>qih
 | n+1=>qcS (qiC h n) h
theorem qfU {P:AP} (h:P.on) (m:Nat) : ∀ n,nsm (m+n) P=padd (nsm m P) (nsm n P)
 | 0=>(qqS _).symm
 | n+1=>by
   show padd (nsm (m+n) P) P=padd (nsm m P) (padd (nsm n P) P)
   rw[qfU h m n,qqX (qiC h m) (qiC h n) h]
theorem qiD {P:AP} (h:P.on) (m:Nat):nsm (2*m) P=padd (nsm m P) (nsm m P):=by
 rw[show 2*m=m+m by omega,qfU h]
theorem qrO {P:AP} (h:P.on) (m b:Nat) (hb:b<2):nsm (2*m+b) P=if b=1 then padd (padd (nsm m P) (nsm m P)) P else padd (nsm m P) (nsm m P):=by
 rw[<- qiD h]
 by_cases e:b=1
 ·rw[if_pos e,e];rfl
 ·rw[if_neg e,show b=0 by omega];rfl
theorem qrP {P Q:AP} {X1 Y1 Z1 X2 Y2 Z2:Fp} (hP:P.on) (hQ:Q.on) (z1:Z1 ≠ 0) (x1:X1=P.x*Z1) (y1:Y1=P.y*Z1) (z2:Z2 ≠ 0) (x2:X2=Q.x*Z2) (y2:Y2=Q.y*Z2) :
  (Z1*Z2*(Z1*Z2)+dF*(X1*Y2*(X2*Y1)))*(Z1*Z2*(Z1*Z2)-dF*(X1*Y2*(X2*Y1))) ≠ 0 /\
  Z1*Z2*(X1*Y2+X2*Y1)*(Z1*Z2*(Z1*Z2)-dF*(X1*Y2*(X2*Y1)))=(padd P Q).x*((Z1*Z2*(Z1*Z2)+dF*(X1*Y2*(X2*Y1)))*(Z1*Z2*(Z1*Z2)-dF*(X1*Y2*(X2*Y1)))) /\
  Z1*Z2*(Y1*Y2-X1*X2)*(Z1*Z2*(Z1*Z2)+dF*(X1*Y2*(X2*Y1)))=(padd P Q).y*((Z1*Z2*(Z1*Z2)+dF*(X1*Y2*(X2*Y1)))*(Z1*Z2*(Z1*Z2)-dF*(X1*Y2*(X2*Y1)))):=by
 have hc:=qbo hP hQ
 have hx:=qbT hP hQ
 have hy:=qbU hP hQ
 obtain⟨t,ht⟩ : ∃ t,t=pt P Q:=⟨_,rfl⟩
 have ht2:t=dF*P.x*Q.x*P.y*Q.y:=ht
 rw[<- ht]at hc hx hy
 obtain⟨u,hu⟩ : ∃ u,u=(padd P Q).x:=⟨_,rfl⟩
 obtain⟨v,hv⟩ : ∃ v,v=(padd P Q).y:=⟨_,rfl⟩
 rw[<- hu]at hx ⊢
 rw[<- hv]at hy ⊢
 clear hu hv ht hP hQ
 obtain⟨x,y⟩:=P
 obtain⟨z,w⟩:=Q
 simp only at *
 generalize dF=d at *
 have e1:Z1*Z2*(Z1*Z2)+d*(X1*Y2*(X2*Y1))=Z1*Z2*(Z1*Z2)*(1+t):=by rw[x1,y1,x2,y2,ht2];clear hx hy hc;grind -lia -linarith -order -ac (splits:=0)
 have e2:Z1*Z2*(Z1*Z2)-d*(X1*Y2*(X2*Y1))=Z1*Z2*(Z1*Z2)*(1-t):=by rw[x1,y1,x2,y2,ht2];clear hx hy hc;grind -lia -linarith -order -ac (splits:=0)
 rw[e1,e2]
 have n12:=qV z1 z2
 refine⟨qV (qV (qV n12 n12) hc.1) (qV (qV n12 n12) hc.2),?_,?_⟩
 ·have e3:Z1*Z2*(X1*Y2+X2*Y1)=Z1*Z2*(Z1*Z2)*(u*(1+t)):=by rw[hx,x1,y1,x2,y2];clear hx hy hc ht2 e1 e2;grind -lia -linarith -order -ac (splits:=0)
  rw[e3];clear hx hy hc ht2 e1 e2 e3;grind -lia -linarith -order -ac (splits:=0)
 ·have e3:Z1*Z2*(Y1*Y2-X1*X2)=Z1*Z2*(Z1*Z2)*(v*(1-t)):=by rw[hy,x1,y1,x2,y2];clear hx hy hc ht2 e1 e2;grind -lia -linarith -order -ac (splits:=0)
  rw[e3];clear hx hy hc ht2 e1 e2 e3;grind -lia -linarith -order -ac (splits:=0)
abbrev qc0 (b:Int):Prop:=(48<=b/\b<=57)\/(97<=b/\b<=102)
def hd (b:Int):Int:=if 97<=b then b-87 else b-48
theorem hd_rng {b:Int} (h:qc0 b):0<=hd b/\hd b<16:=by
 unfold hd;split<;>omega
def hexB (xs:List Int):List Int:=(List.range 56).map fun t=>hd (xs.getD (111-2*t) 48)+16*hd (xs.getD (110-2*t) 48)
def hexT (xs:List Int) (i:Nat):List Int:=(List.range i).map fun t=>hd (xs.getD (111-2*t) 48)+16*hd (xs.getD (110-2*t) 48)
theorem hexT_succ (xs:List Int) (i:Nat):hexT xs (i+1)=hexT xs i++[hd (xs.getD (111-2*i) 48)+16*hd (xs.getD (110-2*i) 48)]:=by
 unfold hexT;rw[List.range_succ,List.map_append];rfl
theorem hexT_len (xs:List Int) (i:Nat):(hexT xs i).length=i:=by simp[hexT]
def hexE (xs:List Int) (i:Nat):List Int:=(List.range 56).map fun t=>if 2*t+1<i then hd (xs.getD (111-2*t) 48)+16*hd (xs.getD (110-2*t) 48) else if 2*t<i then hd (xs.getD (111-2*t) 48) else 0
theorem hexE_len (xs:List Int) (i:Nat):(hexE xs i).length=56:=by simp[hexE]
theorem hexE_get (xs:List Int) (i t:Nat) (ht:t<56):(hexE xs i).getD t 0=if 2*t+1<i then hd (xs.getD (111-2*t) 48)+16*hd (xs.getD (110-2*t) 48) else if 2*t<i then hd (xs.getD (111-2*t) 48) else 0:=by
 simp[hexE,List.getD,ht]
theorem hexE_zero (xs:List Int):hexE xs 0=List.replicate 56 0:=by
 apply List.ext_getElem
 ·simp[hexE]
 ·intro i h1 h2
  simp only[hexE,List.getElem_map,List.getElem_range,List.getElem_replicate]
  rw[if_neg (by omega),if_neg (by omega)]
theorem hexE_end (xs:List Int):hexE xs 112=hexB xs:=by
 unfold hexE hexB
 apply List.map_congr_left
 intro t ht
 rw[List.mem_range]at ht
 rw[if_pos (by omega)]
theorem hexE_even (xs:List Int) {k:Nat} (hk:k<56):hexE xs (2*k+1)=(hexE xs (2*k)).set k (hd (xs.getD (111-2*k) 48)):=by
 apply List.ext_getElem
 ·simp[hexE]
 ·intro i h1 h2
  rw[List.getElem_set]
  have hi:i<56:=by rw[hexE_len]at h1;exact h1
  by_cases e:k=i
  ·subst e
   rw[if_pos rfl]
   simp[hexE]
  ·rw[if_neg e]
   simp only[hexE,List.getElem_map,List.getElem_range]
   by_cases c:2*i+1<2*k
   ·rw[if_pos c,if_pos (by omega)]
   ·rw[if_neg c,if_neg (by omega)]
    by_cases c2:2*i<2*k
    ·exfalso;omega
    ·rw[if_neg c2,if_neg (by omega)]
theorem hexE_odd (xs:List Int) {k:Nat} (hk:k<56):hexE xs (2*k+2)=(hexE xs (2*k+1)).set k ((hexE xs (2*k+1)).getD k 0+16*hd (xs.getD (110-2*k) 48)):=by
 have g:(hexE xs (2*k+1)).getD k 0=hd (xs.getD (111-2*k) 48):=by
  rw[hexE_get xs _ _ hk,if_neg (by omega),if_pos (by omega)]
 rw[g]
 apply List.ext_getElem
 ·simp[hexE]
 ·intro i h1 h2
  rw[List.getElem_set]
  have hi:i<56:=by rw[hexE_len]at h1;exact h1
  by_cases e:k=i
  ·subst e
   rw[if_pos rfl]
   simp only[hexE,List.getElem_map,List.getElem_range]
   rw[if_pos (by omega)]
  ·rw[if_neg e]
   simp only[hexE,List.getElem_map,List.getElem_range]
   by_cases c:2*i+1<2*k+2
   ·rw[if_pos c,if_pos (by omega)]
   ·rw[if_neg c,if_neg (by omega),if_neg (by omega),if_neg (by omega)]
theorem or16 : ∀ a b:Fin 16,binL .or .u8 (a.val:Int) (binL .mul .u8 (b.val:Int) 16)=(a.val:Int)+16*(b.val:Int):=by decide +kernel
theorem qmC {a b:Int} (ha:0<=a/\a<16) (hb:0<=b/\b<16):binL .or .u8 a (binL .mul .u8 b 16)=a+16*b:=by
 have h:=or16 ⟨a.toNat,by omega⟩ ⟨b.toNat,by omega⟩
 simp only at h
 rw[show((a.toNat:Nat):Int)=a by omega,show((b.toNat:Nat):Int)=b by omega]at h
 exact h
def baseP:AP:=⟨fI 224580040295924300187604334099896036246789641632564134246125461686950415467406032909029192869357953282578032075146446173674602635247710,fI 298819210078481492676017930443930673437544040154080242095928241372331506189835876003536878655418784733982303233503462500531545062832660⟩
theorem qfV:baseP.on:=by unfold baseP AP.on;decide +kernel
def codB (P:AP):List Int:=qap P.y++[if P.x.val % 2=1 then 128 else 0]
theorem qaR (P:AP):(codB P).length=57:=by simp[codB,qdZ]
theorem qrQ {P:AP} {x1:List Int} {X Y Z:Fp} (h1:okRe X x1) (h:P.on) (hz:Z ≠ 0) (hx:X=P.x*Z) (hy:Y=P.y*Z):qdh [.row .i64 16 x1,.ab (.re Y),.ab (.re Z)] (.rp P):=by
 intro ρ H us hr
 obtain⟨u1,w1,rfl,h1',r1⟩:=RepC_cons.1 hr
 obtain⟨u2,w2,rfl,h2,r2⟩:=RepC_cons.1 r1
 obtain⟨u3,w3,rfl,h3,r3⟩:=RepC_cons.1 r2
 simp only[RepC]at r3
 subst r3
 simp only[Rep]at h1' h2 h3
 obtain⟨_,rfl⟩:=h1'
 obtain⟨b,rfl,h2⟩:=h2
 obtain⟨c,rfl,h3⟩:=h3
 exact⟨x1++(b++c),by simp[Pay.k],h,X,Y,Z,x1,b,c,rfl,h1,h2,h3,hz,hx,hy⟩
end Go.Sx
end
section

end
section

end
section

end
section

end
