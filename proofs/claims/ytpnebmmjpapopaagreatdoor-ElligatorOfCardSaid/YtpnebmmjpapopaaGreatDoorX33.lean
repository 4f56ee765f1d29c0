/-
  Part of the proof of a statement: the means.
-/
import Derived.Test.YtpnebmmjpapopaaGreatDoorX27
set_option linter.unusedSectionVars false
set_option linter.unusedVariables false
set_option linter.unusedSimpArgs false
set_option linter.deprecated false
section
set_option maxHeartbeats 4000000
namespace Go.Sx.Tryz
open Go.Proofs
set_option maxRecDepth 40000
theorem qqj (l:Int) : ∀ n,∀ a ∈ K.lbUp l n,0<=a/\a<256
 | 0,a,h=>by simp[K.lbUp]at h
 | n+1,a,h=>by
   simp only[K.lbUp,List.mem_append,List.mem_singleton]at h
   rcases h with h|h
   · exact qqj l n a h
   · rw[h,IntKind.wrap_u8]
     omega
theorem qkY (s:List Int) : ∀ n,∀ a ∈ K.bytesUp s n,0<=a/\a<256
 | 0,a,h=>by simp[K.bytesUp]at h
 | n+1,a,h=>by
   simp only[K.bytesUp,List.mem_append]at h
   rcases h with h|h
   · exact qkY s n a h
   · exact qqj _ 8 a h
theorem qqk (s:List Int) : ∀ n,∀ a ∈ K.sq s n,0<=a/\a<256
 | 0,a,h=>by simp[K.sq]at h
 | n+1,a,h=>by
   simp only[K.sq,List.mem_append]at h
   rcases h with h|h
   · exact qqk s n a h
   · exact qkY _ 25 a (List.mem_of_mem_take h)
theorem qxj (M:List Int) (n:Nat) : ∀ a ∈ K.tl M n,0<=a/\a<256:=by
 intro a h
 have h:=List.mem_of_mem_take h
 unfold K.tail at h
 rcases List.mem_append.1 h with h|h
 ·unfold K.tellR at h
  rw[if_neg (by decide)]at h
  exact qkY _ 25 a (List.mem_of_mem_take h)
 ·exact qqk _ _ a h
@[irreducible] def ofB (d:List Int) (xss:List (List Int)):List Int:=K.tl ([[(d.length:Int)],d]++xss).flatten 112
theorem qkZ (d:List Int) (xss:List (List Int)):(ofB d xss).length=112:=by unfold ofB;exact K.tl_len _ _
theorem qql (d:List Int) (xss:List (List Int)) : ∀ a ∈ ofB d xss,0<=a/\a<256:=by unfold ofB;exact qxj _ _
@[irreducible] def ofP (d:List Int) (xss:List (List Int)):AP:=padd (padd pid (ePt (((ofB d xss).drop 0).take 56))) (ePt (((ofB d xss).drop 56).take 56))
theorem qiy (d:List Int) (xss:List (List Int)):ofP d xss=padd (padd pid (ePt (((ofB d xss).drop 0).take 56))) (ePt (((ofB d xss).drop 56).take 56)):=by unfold ofP;rfl
theorem qxk (d:List Int) (xss:List (List Int)):ofP d [xss.flatten]=ofP d xss:=by
 have e:ofB d [xss.flatten]=ofB d xss:=by
  unfold ofB
  congr 1
  simp
 rw[qiy,qiy,e]
def qiz (Ω:Om):qd:=fun args=>match args with
 | [.val (.string s),.rol .u8 xss]=>⟨∀ _:Unit,(strB s).length<100000/\xss.length<1000/\xss.flatten.length<=100000,Bool,fun z=>z=decide ((strB s).length<=255),fun z=>match z with|true =>.tup [.ab (.pt (Ω.hide _ fun _=>ofP (strB s) xss)),.lit .i64 0]|false =>.tup [.ab (.pt (Ω.hide _ fun _=>pid)),.lit .i64 21]⟩
 | _=>PR.none
theorem qxl:Ctr Tryz.prog T glob 42 (qiz Om.real):=by
 refine qo T_ok qf qg (fun Ω=>[(66,qir Ω),(39,qfs Ω),(49,qcy Ω)]) [] (fun Ω=>[]) [] (qb qqd (qb qp5 (qb qe1 qh))) qi qk ql Tryz.func42 (by rfl) (by kernel_rfl) Tryz.call42 ?_ ?_
 ·intro args;unfold qiz;split
  ·exact qba ⟨fun x=>by cases x<;>repeat' (first|exact trivial|constructor),fun E x b=>by cases x<;>rfl⟩ (by repeat' (first|exact trivial|constructor)) (fun _=>⟨_,rfl⟩)
  ·exact PR.good_none
 ·intro P Ω hΩ hE hI hm args pr hs hp Q hQ
  unfold qiz at hs
  split at hs<;>subst hs<;>try (exact hp.elim)
  rename_i s xss
  obtain⟨hs1,hs2,hs3⟩:=hp ()
  obtain⟨d,hd⟩ : ∃ d,strB s=d:=⟨_,rfl⟩
  rw[hd]at hQ hs1
  have hd2:=hd
  conv at hd2=>lhs;cbv
  refine⟨1000,?_⟩
  conv=>cbv
  rw[hd2]
  constructor
  ·intro hc
   have hgt : ¬ d.length<=255:=by
    subst hΩ
    have h2:((d.length:Nat):Int) > 255:=of_decide_eq_true hc
    omega
   conv=>cbv
   repeat (constructor;(first|exact fun(_:Unit)=>trivial|exact fun(_:Unit) (_:Unit)=>(by decide));intro _ _;conv=>cbv)
   refine hQ false _ _ _ (decide_eq_false hgt).symm ?_
   subst hΩ
   exact⟨⟨rfl,⟨rfl,rfl⟩,trivial⟩,rfl,rfl⟩
  intro hc
  have hle:d.length<=255:=by
   subst hΩ
   have h2 : ¬ ((d.length:Nat):Int) > 255:=of_decide_eq_false hc
   omega
  conv=>cbv
  rw[hd2]
  intro cap hcap
  conv=>cbv
  constructor
  ·exact fun(_:Unit)=>(by subst hΩ;show(2+xss.length)*24<=140737488355328;omega)
  constructor
  ·exact fun(_:Unit)=>⟨rfl,by subst hΩ;show xss.length=0+xss.length;omega⟩
  intro cap2 hcap2
  conv=>cbv
  constructor
  ·exact fun(_:Unit)=>⟨trivial,⟨⟨(by decide:(0:Nat)+1<=1),(by subst hΩ;show 0+d.length<=d.length;omega),trivial⟩,(by subst hΩ;rfl)⟩,trivial⟩
  constructor
  ·intro _ _
   subst hΩ
   show([IntKind.u8.wrap (d.length:Int)] :: (d.drop 0).take d.length :: xss).length<4611686018427387904/\([IntKind.u8.wrap (d.length:Int)] :: (d.drop 0).take d.length :: xss).flatten.length<=140737488355328
   rw[List.drop_zero,List.take_length]
   simp only[List.length_cons,List.flatten_cons,List.length_append,List.length_nil]
   omega
  intro z hz
  conv=>cbv
  have hz:=qkX (Ω:=Ω) (n:=112) hz (by unfold K.badN;omega)
  have hzo:z.out=ofB d xss:=by
   refine hz.2.1.trans ?_
   subst hΩ
   unfold ofB
   show K.tl ([IntKind.u8.wrap (d.length:Int)] :: (d.drop 0).take d.length :: xss).flatten 112=K.tl ([[(d.length:Int)],d]++xss).flatten 112
   rw[IntKind.wrap_u8,show((d.length:Int) % 256)=d.length by omega,List.drop_zero,List.take_length]
   rfl
  have hsx:(z.out.drop 0).take z.out.length=ofB d xss:=by rw[List.drop_zero,List.take_length];exact hzo
  constructor
  ·intro h
   have h':False:=by
    have h2:Ω.cmp .neq z.er 0=true:=h
    rw[hz.1]at h2
    subst hΩ
    exact absurd h2 (by decide)
   exact h'.elim
  intro _
  conv=>cbv
  constructor
  ·exact fun(_:Unit)=>⟨by subst hΩ;show 0+z.out.length<=z.out.length;omega,trivial⟩
  constructor
  ·intro _ _
   subst hΩ
   show(∀ a ∈ (z.out.drop 0).take z.out.length,0<=a/\a<256)/\((z.out.drop 0).take z.out.length).length<9223372036854775808
   rw[hsx,qkZ]
   exact⟨qql _ _,by decide⟩
  intro y hy
  conv=>cbv
  have hy1:y=true:=by
   subst hΩ
   have h2:y=decide (((z.out.drop 0).take z.out.length).length=112):=hy
   rw[h2,hsx,qkZ]
   rfl
  subst hy1
  conv=>cbv
  refine hQ true _ _ _ (decide_eq_true hle).symm ?_
  subst hΩ
  refine⟨⟨?_,⟨rfl,rfl⟩,trivial⟩,rfl,rfl⟩
  show Pay.pt (padd (padd pid (ePt ((((z.out.drop 0).take z.out.length).drop 0).take 56))) (ePt ((((z.out.drop 0).take z.out.length).drop 56).take 56)))=Pay.pt (ofP d xss)
  rw[hsx,qiy]
end Go.Sx.Tryz
end
section
set_option maxHeartbeats 4000000
namespace Go.Sx.Tryz
open Go.Proofs
set_option maxRecDepth 40000
def qqm (Ω:Om):qd:=K.s26
theorem qxm:Ctr Tryz.prog T glob 69 (qqm Om.real):=K.c26
theorem qxn (s:ByteArray) : ∀ a ∈ strB s,0<=a/\a<256:=by
 intro a h
 unfold strB at h
 obtain⟨b,_,rfl⟩:=List.mem_map.1 h
 have:=b.toBitVec.isLt
 have h2:b.toNat<256:=b.toNat_lt
 omega
def qiA (Ω:Om):qd:=fun args=>match args with
 | [.val (.string s),.rol .u8 xss]=>⟨∀ _:Unit,((strB s).length<=255/\xss.length<1000/\xss.flatten.length<=100000)/\(∀ xs ∈ xss,∀ a ∈ xs,0<=a/\a<256),Unit,fun _=>True,fun _ =>.ab (.rp (Ω.hide _ fun _=>ofP (strB s) xss))⟩
 | _=>PR.none
theorem qxo:Ctr Tryz.prog T glob 43 (qiA Om.real):=by
 refine qo T_ok qf qg (fun Ω=>[(69,qqm Ω),(40,qiw Ω)]) [] (fun Ω=>[]) [] (qb qxm (qb qxh qh)) qi qk ql Tryz.func43 (by rfl) (by kernel_rfl) Tryz.call43 ?_ ?_
 ·intro args;unfold qiA;split
  ·exact qt (by repeat' constructor) (fun _ _=>rfl) (by repeat' constructor)
  ·exact PR.good_none
 ·intro P Ω hΩ hE hI hm args pr hs hp Q hQ
  unfold qiA at hs
  split at hs<;>subst hs<;>try (exact hp.elim)
  rename_i s xss
  obtain⟨⟨hs1,hs2,hs3⟩,hb⟩:=hp ()
  have hdb:=qxn s
  obtain⟨d,hd⟩ : ∃ d,strB s=d:=⟨_,rfl⟩
  rw[hd]at hQ hs1 hdb
  have hd2:=hd
  conv at hd2=>lhs;cbv
  refine⟨1000,?_⟩
  conv=>cbv
  rw[hd2]
  intro cap hcap
  conv=>cbv
  constructor
  ·exact fun(_:Unit)=>(by subst hΩ;show(2+xss.length)*24<=140737488355328;omega)
  constructor
  ·exact fun(_:Unit)=>⟨rfl,by subst hΩ;show xss.length=0+xss.length;omega⟩
  intro cap2 hcap2
  conv=>cbv
  constructor
  ·exact fun(_:Unit)=>⟨trivial,⟨⟨(by decide:(0:Nat)+1<=1),(by subst hΩ;show 0+d.length<=d.length;omega),trivial⟩,(by subst hΩ;rfl)⟩,trivial⟩
  constructor
  ·intro _ _
   subst hΩ
   show(0:Int)<=112/\(112:Int)<=1099511627776/\([IntKind.u8.wrap (d.length:Int)] :: (d.drop 0).take d.length :: xss).length<4611686018427387904/\([IntKind.u8.wrap (d.length:Int)] :: (d.drop 0).take d.length :: xss).flatten.length<=70368744177664
   rw[List.drop_zero,List.take_length]
   simp only[List.length_cons,List.flatten_cons,List.length_append,List.length_nil]
   omega
  intro z hz
  conv=>cbv
  have hzo:z.1=ofB d xss:=by
   have h1:z.1=K.told ([Ω.cv .u8 (Ω.ofN (Ω.len d))] :: Ω.sub d 0 (Ω.len d) :: xss).flatten 112/\z.1.length<=z.2:=hz
   refine h1.1.trans ?_
   subst hΩ
   unfold ofB
   show K.told ([IntKind.u8.wrap (d.length:Int)] :: (d.drop 0).take d.length :: xss).flatten 112=K.tl ([[(d.length:Int)],d]++xss).flatten 112
   rw[IntKind.wrap_u8,show((d.length:Int) % 256)=d.length by omega,List.drop_zero,List.take_length,K.tl_told]
   ·rfl
   ·intro a ha
    obtain⟨xs,h3,h4⟩:=List.mem_flatten.1 ha
    rcases List.mem_cons.1 h3 with h5|h5
    ·rw[h5]at h4
     have h6:=List.mem_singleton.1 h4
     unfold K.InB
     omega
    ·rcases List.mem_cons.1 h5 with h6|h6
     ·rw[h6]at h4;exact hdb a h4
     ·exact hb xs h6 a h4
  have hsx:(z.1.drop 0).take z.1.length=ofB d xss:=by rw[List.drop_zero,List.take_length];exact hzo
  constructor
  ·exact fun(_:Unit)=>⟨by subst hΩ;show 0+z.1.length<=z.1.length;omega,trivial⟩
  constructor
  ·intro _ _
   subst hΩ
   show((z.1.drop 0).take z.1.length).length=112/\(∀ a ∈ (z.1.drop 0).take z.1.length,0<=a/\a<256)
   rw[hsx]
   exact⟨qkZ _ _,qql _ _⟩
  intro _ _
  conv=>cbv
  refine hQ () _ _ _ trivial ?_
  subst hΩ
  show Pay.rp (padd (ePt ((((z.1.drop 0).take z.1.length).drop 0).take 56)) (ePt ((((z.1.drop 0).take z.1.length).drop 56).take 56)))=Pay.rp (ofP d xss)
  rw[hsx,qiy,qbb]
end Go.Sx.Tryz
end
