/-
  Part of the proof of a statement: the means.
-/
import Derived.Test.YtpnebmmjpapopaaGreatDoorX23
import Derived.Test.YtpnebmmjpapopaaGreatDoorX14
set_option linter.unusedSectionVars false
set_option linter.unusedVariables false
set_option linter.unusedSimpArgs false
set_option linter.deprecated false
section
set_option maxHeartbeats 4000000
namespace Go.Sx.Tryz.K
open Go.Proofs
def qT (s r:List Int):Nat->List Int
 | 0=>s
 | n+1=>qbg (qaw (qT s r n) ((r.drop (136*n)).take 136) 136)
theorem qbx (s:List Int):(qbg s).length=s.length:=qgj s 24
theorem qen (s r:List Int) : ∀ n,(qT s r n).length=s.length
 | 0=>rfl
 | n+1=>by rw[qT,qbx,qa1,qen s r n]
def m28:qU:=fun d rest=>match d,rest with
 | [.row .u64 25 s,.fr .u8 r c,.bs tells],[.roi .u8 b]=>⟨∀ _:Unit,s.length=25/\r.length<=c/\(tells=false->r.length+b.length<=140737488355328),List Int × List Int × Nat,fun z=>z.2.1.length<=z.2.2/\z.1=(if tells then s else qT s (r++b) ((r++b).length / 136))/\z.2.1=(if tells then r else (r++b).drop (136*((r++b).length / 136))),fun z=>[.int .i64 (if tells then 16 else 0)],fun z=>[.row .u64 25 z.1,.fr .u8 z.2.1 z.2.2,.bs tells]⟩
 | _,_=>MR.none
noncomputable def i28:List (FuncId × Func):=[(229,Tryz.f229)]
theorem mc28:MCtr Tryz.prog T glob 157 m28:=by
 refine qhD T_ok qf qg [(231,s14),(255,s17)] i28 [] (qc c14 (qc c17 qh)) (qE Tryz.call229 Tryz.func229 (by kernel_rfl) qi) qk Tryz.func157 (by rfl) (by kernel_rfl) Tryz.call157 ?_ ?_
 ·intro d rest;unfold m28;split
  ·exact⟨fun _=>⟨⟨trivial,trivial,trivial,trivial⟩,⟨trivial,trivial⟩,Nat.le_of_ble_eq_true rfl⟩,fun _=>⟨⟨trivial,trivial,trivial,trivial,trivial⟩,Nat.le_of_ble_eq_true rfl⟩⟩
  ·exact MR.good_none
 ·intro P Ω hΩ hE hI hm d rest pr hs hp Q hQ
  unfold m28 at hs
  split at hs<;>subst hs<;>try (exact hp.elim)
  rename_i s r c tells b
  obtain⟨ls,hrc,hlen⟩:=hp ()
  refine⟨1000,?_⟩
  cbv
  constructor
  ·intro ht
   cbv
   have htt:tells=true:=ht
   refine hQ (s,r,c) _ _ _ ⟨hrc,by rw[htt];rfl,by rw[htt];rfl⟩ ?_
   have hlr:Ω.len r=r.length:=by subst hΩ;rfl
   have hsr:Ω.sub r 0 (Ω.len r)=r:=by subst hΩ;exact List.take_length
   refine⟨⟨⟨rfl,by rw[htt];rfl⟩,⟨rfl,rfl,rfl⟩,⟨rfl,rfl,by show 0+Ω.len r<=r.length;omega,hsr.symm⟩,rfl,trivial⟩,rfl,rfl⟩
  ·intro ht
   have htf:tells=false:=ht
   have hlen:=hlen htf
   have hlr:Ω.len r=r.length:=by subst hΩ;rfl
   have hlb:Ω.len b=b.length:=by subst hΩ;rfl
   cbv
   constructor
   ·exact fun _=>by show(Ω.len r+Ω.len b)*1<=_;omega
   constructor
   ·exact fun _=>⟨by show 0+Ω.len r*1<=r.length;omega,trivial⟩
   intro cap hcap
   obtain⟨a,ha⟩ : ∃ a,a=r++b:=⟨_,rfl⟩
   have hla:a.length=r.length+b.length:=by rw[ha,List.length_append]
   have hcap:a.length<=cap:=by rw[hla,<- hlr,<- hlb];exact hcap
   obtain⟨L,hL⟩ : ∃ L,L=a.length:=⟨_,rfl⟩
   have hsr:Ω.sub r 0 (Ω.len r)=r:=by subst hΩ;exact List.take_length
   have hcat:Ω.cat (Ω.sub r 0 (Ω.len r)) b=a:=by rw[hsr,ha];subst hΩ;rfl
   have hadd:Ω.nadd (Ω.len r) (Ω.len b)=L:=by rw[hL,hla,<- hlr,<- hlb];subst hΩ;rfl
   cbv
   refine qn hE hI hm (fun x:Nat × List Int × Nat × Nat × Nat=>(mkT 43 [(0,.ptr 0 (.l 0)),(1,.roi .u8 b),(4,.lit .i64 0)],[(136,.seq .u8 a),(0,.agg [.row .u64 25 x.2.1,.sl 136 1 (.s x.2.2.1) (.s x.2.2.2.1) (.s x.2.2.2.2),.bs tells])])) (fun x=>x.2.2.1=136*x.1/\x.2.2.1+x.2.2.2.1=L/\x.2.1=qT s a x.1/\x.2.2.2.1<=x.2.2.2.2) (fun x=>L-x.2.2.1) 0 ⟨(0,s,0,L,cap),[],⟨rfl,Nat.zero_add _,rfl,by rw[hL];exact hcap⟩,Nat.le_refl _,?_⟩ fun x hj=>⟨1000,?_⟩
   ·cbv
    exact⟨hcat,hadd,trivial⟩
   obtain⟨n,s',off,len,cap'⟩:=x
   obtain⟨ho,hol,hs',hc'⟩:off=136*n/\off+len=L/\s'=qT s a n/\len<=cap':=hj
   have ls':s'.length=25:=by rw[hs',qen,ls]
   cbv
   constructor
   ·intro hd
    rw[hΩ]at hd;simp (disch:=omega) only[Om.real,qb,decide_eq_true_eq,decide_eq_false_iff_not]at hd
    have hn:n=L / 136:=by omega
    have hdrop:a.drop off=(a.drop off).take len:=(List.take_of_length_le (by rw[List.length_drop];omega)).symm
    cbv
    refine hQ (s',a.drop off,cap') _ _ _ ⟨by dsimp only;rw[List.length_drop];omega,?_,?_⟩ ?_
    ·show s'=if tells=true then s else qT s (r++b) ((r++b).length / 136)
     rw[htf,<- ha,<- hL,<- hn,hs'];rfl
    ·show a.drop off=if tells=true then r else (r++b).drop (136*((r++b).length / 136))
     rw[htf,<- ha,<- hL,<- hn,ho];rfl
    ·refine⟨⟨⟨rfl,by rw[htf];rfl⟩,⟨rfl,rfl,rfl⟩,⟨rfl,rfl,by show off+len<=a.length;omega,by subst hΩ;exact hdrop⟩,rfl,trivial⟩,rfl,rfl⟩
   ·intro hd
    rw[hΩ]at hd;simp (disch:=omega) only[Om.real,qb,decide_eq_true_eq,decide_eq_false_iff_not]at hd
    have hsub:Ω.sub a off 136=(a.drop (136*n)).take 136:=by subst hΩ;rw[ho];rfl
    have hsl:(Ω.sub a off 136).length=136:=by rw[hsub,List.length_take,List.length_drop];omega
    cbv
    constructor
    ·exact fun _=>⟨trivial,trivial,trivial,by show 0<=136;omega,by show 136<=136;omega,by show 136<=cap';omega⟩
    constructor
    ·exact fun _=>⟨trivial,by show off+136<=a.length;omega,trivial⟩
    constructor
    ·exact fun _ _=>⟨ls',by show(Ω.sub a off 136).length<_;rw[hsl];omega⟩
    intro z hz
    obtain⟨s2,e2⟩:=z
    have hz:(s2,e2)=(qaw s' ((a.drop (136*n)).take 136) 136,0):=by
     have h:(s2,e2)=xorF s' (Ω.sub a off 136):=hz
     have h2:((a.drop (136*n)).take 136).length=136:=by rw[<- hsub];exact hsl
     rw[h,hsub,xorF,if_neg (by rw[h2];decide),h2]
    obtain⟨hs2,rfl⟩:=Prod.mk.inj hz
    have ls2:s2.length=25:=by rw[hs2,qa1,ls']
    cbv
    constructor
    ·exact fun _ _=>ls2
    intro s3 hs3
    have hs3:s3=qT s a (n+1):=by rw[qT,<- hs',<- hs2];exact hs3
    cbv
    obtain⟨o2,ho2⟩ : ∃ o2,o2=off+136:=⟨_,rfl⟩
    obtain⟨l2,hl2⟩ : ∃ l2,l2=len-136:=⟨_,rfl⟩
    obtain⟨c2,hc2⟩ : ∃ c2,c2=cap'-136:=⟨_,rfl⟩
    refine⟨fun _=>⟨trivial,trivial,trivial,by show 136<=len;omega,by show len<=cap';omega,by show cap'<=cap';omega⟩,(n+1,s3,o2,l2,c2),[],⟨by dsimp only;omega,by dsimp only;omega,hs3,by dsimp only;omega⟩,by dsimp only;omega,by simp,?_⟩
    cbv
    subst hΩ
    exact⟨ho2.symm,hl2.symm,hc2.symm,trivial⟩
end Go.Sx.Tryz.K
end
section
set_option maxHeartbeats 4000000
namespace Go.Sx.Tryz.K
open Go.Proofs
def qbs (r:List Int):List Int:=(r++List.replicate (136-r.length) 0).set r.length 31
def qby (r:List Int):List Int:=(qbs r).set 135 (binL .xor .u8 ((qbs r).getD 135 0) 128)
theorem qsV {r:List Int} (h:r.length<136):(qby r).length=136:=by
 simp[qby,qbs];omega
def qaO (s r:List Int):List Int:=qbg (qaw s (qby r) 136)
def m53:qU:=fun d rest=>match d,rest with
 | [.row .u64 25 s,.fr .u8 r c,.bs tells],[]=>⟨∀ _:Unit,s.length=25/\r.length<136/\r.length<=c,List Int × List Int × Nat,fun z=>z.1=qaO s r/\z.2.1=(bytesUp (qaO s r) 25).take 136/\136<=z.2.2,fun z=>[],fun z=>[.row .u64 25 z.1,.fr .u8 z.2.1 z.2.2,.bs true]⟩
 | _,_=>MR.none
noncomputable def i53:List (FuncId × Func):=[(229,Tryz.f229)]
theorem mc53:MCtr Tryz.prog T glob 230 m53:=by
 refine qhD T_ok qf qg [(231,s14),(255,s17),(232,s20)] i53 [] (qc c14 (qc c17 (qc c20 qh))) (qE Tryz.call229 Tryz.func229 (by kernel_rfl) qi) qk Tryz.func230 (by rfl) (by kernel_rfl) Tryz.call230 ?_ ?_
 ·intro d rest;unfold m53;split
  ·exact⟨fun _=>⟨⟨trivial,trivial,trivial,trivial⟩,trivial,Nat.le_of_ble_eq_true rfl⟩,fun _=>⟨⟨trivial,trivial,trivial,trivial⟩,Nat.le_of_ble_eq_true rfl⟩⟩
  ·exact MR.good_none
 ·intro P Ω hΩ hE hI hm d rest pr hs hp Q hQ
  unfold m53 at hs
  split at hs<;>subst hs<;>try (exact hp.elim)
  rename_i s r c tells
  obtain⟨ls,hr,hrc⟩:=hp ()
  have hlr:Ω.len r=r.length:=by subst hΩ;rfl
  refine⟨1000,?_⟩
  have hA:Ω.set (Ω.put (Ω.zer 136) 0 (Ω.sub (Ω.sub r 0 (Ω.len r)) 0 136)) (Ω.toN (Ω.ofN (Ω.len r))) 31=qbs r:=by
   subst hΩ
   show(((List.replicate 136 (0:Int)).take 0++(((r.drop 0).take r.length).drop 0).take 136)++(List.replicate 136 (0:Int)).drop (0+((((r.drop 0).take r.length).drop 0).take 136).length)).set ((r.length:Int)).toNat 31=qbs r
   have e:(((r.drop 0).take r.length).drop 0).take 136=r:=by
    rw[List.drop_zero,List.drop_zero,List.take_length,List.take_of_length_le (by omega)]
   rw[e,List.take_zero,List.nil_append,List.drop_replicate,Int.toNat_natCast,Nat.zero_add]
   rfl
  have hF:Ω.set (Ω.set (Ω.put (Ω.zer 136) 0 (Ω.sub (Ω.sub r 0 (Ω.len r)) 0 136)) (Ω.toN (Ω.ofN (Ω.len r))) 31) 135 (Ω.bin .xor .u8 (Ω.at' (Ω.set (Ω.put (Ω.zer 136) 0 (Ω.sub (Ω.sub r 0 (Ω.len r)) 0 136)) (Ω.toN (Ω.ofN (Ω.len r))) 31) 135) 128)=qby r:=by
   rw[hA];subst hΩ;rfl
  have hFl:=qsV hr
  cbv
  refine⟨fun _=>⟨by show 0+Ω.len r<=r.length;omega,by show 0<136;omega,by show 0+136<=136;omega⟩,fun _ => ?_,fun _ => ?_,fun _=>⟨trivial,by show 0+136<=136;omega,trivial⟩,fun _ _=>⟨ls,by show(Ω.set _ _ _).length<_;rw[hF,hFl];omega⟩,fun z hz => ?_⟩
  ·subst hΩ;show 0<=(r.length:Int)/\(r.length:Int)<((136:Nat):Int);omega
  ·subst hΩ;show((r.length:Int)).toNat<136;omega
  obtain⟨s2,e2⟩:=z
  have hz:(s2,e2)=(qaw s (qby r) 136,0):=by
   have h:(s2,e2)=xorF s (Ω.set (Ω.set (Ω.put (Ω.zer 136) 0 (Ω.sub (Ω.sub r 0 (Ω.len r)) 0 136)) (Ω.toN (Ω.ofN (Ω.len r))) 31) 135 (Ω.bin .xor .u8 (Ω.at' (Ω.set (Ω.put (Ω.zer 136) 0 (Ω.sub (Ω.sub r 0 (Ω.len r)) 0 136)) (Ω.toN (Ω.ofN (Ω.len r))) 31) 135) 128)):=hz
   rw[h,hF,xorF,if_neg (by rw[hFl];decide),hFl]
  obtain⟨hs2,rfl⟩:=Prod.mk.inj hz
  have ls2:s2.length=25:=by rw[hs2,qa1,ls]
  clear hA hF
  cbv
  constructor
  ·exact fun _ _=>ls2
  intro s3 hs3
  have hs3:s3=qaO s r:=by rw[qaO,<- hs2];exact hs3
  have ls3:s3.length=25:=by rw[hs3,qaO,qbx,qa1,ls]
  cbv
  constructor
  ·exact fun _ _=>ls3
  intro z4 hz4
  obtain⟨o,c4⟩:=z4
  obtain⟨ho,hc4⟩:o=bytesUp s3 25/\200<=c4:=hz4
  have lo:o.length=200:=by rw[ho,qae]
  cbv
  refine⟨fun _=>⟨trivial,trivial,trivial,by show 0<=136;omega,by show 136<=136;omega,by show 136<=c4;omega⟩,?_⟩
  refine hQ (s3,o.take 136,136) _ _ _ ⟨hs3,by dsimp only;rw[ho,hs3],Nat.le_refl _⟩ ?_
  refine⟨⟨⟨rfl,rfl,rfl⟩,⟨rfl,rfl,by show 0+136<=o.length;omega,by subst hΩ;rfl⟩,rfl,trivial⟩,rfl,rfl⟩
def pit (s:List Int):Nat->List Int
 | 0=>s
 | k+1=>qbg (pit s k)
def sq (s:List Int):Nat->List Int
 | 0=>[]
 | k+1=>sq s k++(bytesUp (pit s (k+1)) 25).take 136
theorem qgy (s:List Int) : ∀ n,(pit s n).length=s.length
 | 0=>rfl
 | n+1=>by rw[pit,qbx,qgy s n]
theorem qgz (s:List Int) : ∀ n,(sq s n).length=136*n
 | 0=>rfl
 | n+1=>by simp[sq,qgz s n,qae];omega
def qaf (s r:List Int) (tells:Bool):List Int:=if tells then s else qaO s r
def tellR (s r:List Int) (tells:Bool):List Int:=if tells then r else (bytesUp (qaO s r) 25).take 136
def badN (n:Int):Prop:=n<0\/65536<n
instance (n:Int):Decidable (badN n):=by unfold badN;exact inferInstance
theorem qgA {l:List Int} {a b:Nat} (h:a<=b):l.take a++(l.drop a).take (b-a)=l.take b:=by
 rw[<- List.take_add,Nat.add_sub_cancel' h]
def qnq (s1 r1:List Int) (m:Nat) (x:Nat × List Int × Nat × Nat × List Int × List Int × Nat × Nat × Nat):Prop :=
 x.2.2.1=x.2.1.length/\x.2.2.1<=m/\x.2.2.1<=x.2.2.2.1/\x.2.2.2.2.1=pit s1 x.1/\x.2.2.2.2.2.2.1+x.2.2.2.2.2.2.2.1<=x.2.2.2.2.2.1.length/\x.2.2.2.2.2.2.2.1<=x.2.2.2.2.2.2.2.2 /\
  x.2.1++(x.2.2.2.2.2.1.drop x.2.2.2.2.2.2.1).take x.2.2.2.2.2.2.2.1=r1++sq s1 x.1/\(x.2.2.2.2.2.2.2.1<=136\/x.2.2.2.2.2.2.2.1<=r1.length)
structure RdRes where
 out:List Int
 c:Nat
 s:List Int
 r:List Int
 c2:Nat
 k:Nat
 er:Int
 tl:Bool
def m29:qU:=fun d rest=>match d,rest with
 | [.row .u64 25 s,.fr .u8 r c,.bs tells],[.int .i64 n]=>⟨∀ _:Unit,s.length=25/\(tells=false->r.length<136)/\r.length<=c,RdRes,fun z=>(if badN n then z.out=[]/\z.c=0/\z.s=s/\z.r=r/\z.c2=c/\z.er=10/\z.tl=tells else z.er=0/\z.tl=true/\z.s=pit (qaf s r tells) z.k/\z.out=(tellR s r tells++sq (qaf s r tells) z.k).take n.toNat/\z.r=(tellR s r tells++sq (qaf s r tells) z.k).drop n.toNat/\n.toNat<=(tellR s r tells).length+136*z.k/\(z.r.length<=z.c2/\(z.r.length<=136\/z.r.length<=r.length))/\z.out.length<=z.c),fun z=>[.fr .u8 z.out z.c,.int .i64 z.er],fun z=>[.row .u64 25 z.s,.fr .u8 z.r z.c2,.bs z.tl]⟩
 | _,_=>MR.none
theorem mc29:MCtr Tryz.prog T glob 158 m29:=by
 refine qhD T_ok qf qg [(231,s14),(232,s20)] [] [(230,m53)] (qc c14 (qc c20 qh)) qi (qhB mc53 qk) Tryz.func158 (by rfl) (by kernel_rfl) Tryz.call158 ?_ ?_
 ·intro d rest;unfold m29;split
  ·exact⟨fun _=>⟨⟨trivial,trivial,trivial,trivial⟩,⟨trivial,trivial⟩,Nat.le_of_ble_eq_true rfl⟩,fun _=>⟨⟨trivial,trivial,trivial,trivial,trivial,trivial⟩,Nat.le_of_ble_eq_true rfl⟩⟩
  ·exact MR.good_none
 ·intro P Ω hΩ hE hI hm d rest pr hs hp Q hQ
  unfold m29 at hs
  split at hs<;>subst hs<;>try (exact hp.elim)
  rename_i s r c tells n
  obtain⟨ls,hr,hrc⟩:=hp ()
  refine⟨1000,?_⟩
  have hlr:Ω.len r=r.length:=by subst hΩ;rfl
  have hsr:Ω.sub r 0 (Ω.len r)=r:=by subst hΩ;exact List.take_length
  have hBad:badN n -> ∀ h t0,look h 0 = .agg [.row .u64 25 s,.sl 1 1 (.l 0) (.s (Ω.len r)) (.s c),.bs tells]->look h 1 = .seq .u8 r->Q (.tup [.val (.slice none 0 0),.lit .i64 10]) h t0:=by
   intro hb h t0 h0 h1
   refine hQ ⟨[],0,s,r,c,0,10,tells⟩ _ _ _ ?_ ?_
   ·show if badN n then _ else _
    rw[if_pos hb]
    exact⟨rfl,rfl,rfl,rfl,rfl,rfl,rfl⟩
   ·unfold qdC
    rw[h0]
    refine⟨⟨⟨rfl,rfl⟩,⟨rfl,rfl⟩,⟨rfl,rfl,rfl⟩,⟨rfl,?_⟩,rfl,trivial⟩,rfl,rfl⟩
    ·rw[h1]
     exact⟨rfl,by show 0+Ω.len r<=r.length;omega,hsr.symm⟩
  cbv
  constructor
  ·intro h1
   have hb:badN n :=.inl (by subst hΩ;exact of_decide_eq_true (show decide (n<0)=true from h1))
   cbv
   exact hBad hb _ _ rfl rfl
  ·intro h1
   have hn0:0<=n:=by subst hΩ;have:=of_decide_eq_false (show decide (n<0)=false from h1);omega
   cbv
   constructor
   ·intro h2
    have hb:badN n :=.inr (by subst hΩ;exact of_decide_eq_true (show decide (65536<n)=true from h2))
    cbv
    exact hBad hb _ _ rfl rfl
   ·intro h2
    have hn1:n<=65536:=by subst hΩ;have:=of_decide_eq_false (show decide (65536<n)=false from h2);omega
    have hnb : ¬ badN n:=by unfold badN;omega
    obtain⟨m,hm'⟩ : ∃ m:Nat,n=m:=⟨n.toNat,by omega⟩
    subst hm'
    have hm1:m<=65536:=by omega
    clear hBad hn0 hn1 h1 h2
    cbv
    constructor
    ·intro h3
     have htf:tells=false:=by subst hΩ;revert h3;cases tells<;>decide
     subst htf
     have hr:=hr rfl
     have hrl:(Ω.sub r 0 (Ω.len r)).length=r.length:=by rw[hsr]
     cbv
     constructor
     ·exact fun _=>⟨⟨by show 0+Ω.len r<=r.length;omega,trivial⟩,trivial⟩
     constructor
     ·exact fun _ _=>⟨ls,by show(Ω.sub r 0 (Ω.len r)).length<136;omega,by show(Ω.sub r 0 (Ω.len r)).length<=c;omega⟩
     intro z hz
     obtain⟨s1,r1,c4⟩:=z
     obtain⟨hs1,hr1,hc4⟩:s1=qaO s (Ω.sub r 0 (Ω.len r))/\r1=(bytesUp (qaO s (Ω.sub r 0 (Ω.len r))) 25).take 136/\136<=c4:=hz
     rw[hsr]at hs1 hr1
     have ls1:s1.length=25:=by rw[hs1,qaO,qbx,qa1,ls]
     set_option maxRecDepth 20000 in cbv
     have hlr1:Ω.len r1=r1.length:=by subst hΩ;rfl
     have hrc1:r1.length<=c4:=by rw[hr1,List.length_take];omega
     have hT:qaf s r false=s1:=by rw[hs1,qaf,if_neg (by decide)]
     have hR1:tellR s r false=r1:=by rw[hr1,tellR,if_neg (by decide)]
     obtain⟨R,hR⟩ : ∃ R,R=r1.length:=⟨_,rfl⟩
     refine qn hE hI hm (fun x:Nat × List Int × Nat × Nat × List Int × List Int × Nat × Nat × Nat=>(mkT 80 [(0,.ptr 0 (.l 0)),(1,.int .i64 m),(5,.lit .i64 0),(6,.sl 176 1 (.l 0) (.s x.2.2.1) (.s x.2.2.2.1))],[(177,.seq .u8 x.2.2.2.2.2.1),(176,.seq .u8 x.2.1),(0,.agg [.row .u64 25 x.2.2.2.2.1,.sl 177 1 (.s x.2.2.2.2.2.2.1) (.s x.2.2.2.2.2.2.2.1) (.s x.2.2.2.2.2.2.2.2),.bs true])])) (fun x=>qnq s1 r1 m x) (fun x=>m-x.2.2.1) 1 ⟨(0,[],0,0,s1,r1,0,R,c4),[none,some 160],⟨rfl,Nat.zero_le _,Nat.le_refl _,rfl,by show 0+R<=r1.length;omega,by rw[hR];exact hrc1,by show []++(r1.drop 0).take R=r1++[];rw[hR];simp,.inr (by show R<=r1.length;omega)⟩,by decide,?_⟩ fun x hj=>⟨1000,?_⟩
     ·cbv
      exact⟨hlr1.trans hR.symm,trivial⟩
     obtain⟨k,out,olen,ocap,st,blk,roff,rlen,rcap⟩:=x
     obtain⟨j1,j2,j3,j4,j5,j6,j7,j8⟩:olen=out.length/\olen<=m/\olen<=ocap/\st=pit s1 k/\roff+rlen<=blk.length/\rlen<=rcap/\out++(blk.drop roff).take rlen=r1++sq s1 k/\(rlen<=136\/rlen<=r1.length):=hj
     have lst:st.length=25:=by rw[j4,qgy,ls1]
     cbv
     constructor
     ·intro hd
      rw[hΩ]at hd;simp (disch:=omega) only[Om.real,qb,decide_eq_true_eq,decide_eq_false_iff_not]at hd
      cbv
      constructor
      ·intro he
       rw[hΩ]at he;simp (disch:=omega) only[Om.real,qb,decide_eq_true_eq,decide_eq_false_iff_not]at he
       have he0:rlen=0:=he
       have hor:out=r1++sq s1 k:=by rw[<- j7,he0];simp
       cbv
       constructor
       ·exact fun _ _=>lst
       intro st2 hst2
       have hst2:st2=qbg st:=hst2
       have hst3:st2=pit s1 (k+1):=by rw[hst2,j4];rfl
       have lst2:st2.length=25:=by rw[hst2,qbx,lst]
       cbv
       constructor
       ·exact fun _ _=>lst2
       intro zb hzb
       obtain⟨o,c5⟩:=zb
       obtain⟨ho,hc4⟩:o=bytesUp st2 25/\200<=c5:=hzb
       have lo:o.length=200:=by rw[ho,qae]
       cbv
       obtain⟨kk,hkk⟩ : ∃ kk,kk=min (m-olen) 136:=⟨_,rfl⟩
       have hKI:Ω.imin (Ω.bin .sub .i64 (Int.ofNat m) (Ω.ofN olen)) (Int.ofNat 136)=(kk:Int):=by
        subst hΩ
        show min (binL .sub .i64 (m:Int) (olen:Int)) ((136:Nat):Int)=kk
        rw[qbb _ _ (by omega) (by omega)]
        omega
       have hKK:Ω.toN (Ω.imin (Ω.bin .sub .i64 (Int.ofNat m) (Ω.ofN olen)) (Int.ofNat 136))=kk:=by
        rw[hKI];subst hΩ;exact Int.toNat_natCast kk
       have a1:0<=Ω.imin (Ω.bin .sub .i64 (Int.ofNat m) (Ω.ofN olen)) (Int.ofNat 136):=by rw[hKI];omega
       have a3:Ω.toN (Ω.imin (Ω.bin .sub .i64 (Int.ofNat m) (Ω.ofN olen)) (Int.ofNat 136))<=136:=by omega
       have a5:(olen+Ω.toN (Ω.imin (Ω.bin .sub .i64 (Int.ofNat m) (Ω.ofN olen)) (Int.ofNat 136)))*1<=140737488355328:=by omega
       have a6:0+olen*1<=out.length:=by omega
       have a7:0+Ω.toN (Ω.imin (Ω.bin .sub .i64 (Int.ofNat m) (Ω.ofN olen)) (Int.ofNat 136))*1<=o.length:=by omega
       have a9:136<=c5:=by omega
       constructor
       ·exact fun _=>⟨trivial,trivial,trivial,Nat.zero_le _,Nat.le_refl _,a9⟩
       constructor
       ·exact fun _=>⟨trivial,a1,trivial,Nat.zero_le _,a3,Nat.le_refl _⟩
       constructor
       ·exact fun _=>a5
       constructor
       ·exact fun _=>⟨a6,a7⟩
       intro cap2 hcap2
       cbv
       have hcap2:olen+kk<=cap2:=by rw[<- hKK];exact hcap2
       obtain⟨olen2,h2⟩ : ∃ x,x=olen+kk:=⟨_,rfl⟩
       obtain⟨rlen2,h4⟩ : ∃ x,x=136-kk:=⟨_,rfl⟩
       obtain⟨out2,h6⟩ : ∃ x,x=out++(o.drop 0).take kk:=⟨_,rfl⟩
       have e2:Ω.nadd olen (Ω.toN (Ω.imin (Ω.bin .sub .i64 (Int.ofNat m) (Ω.ofN olen)) (Int.ofNat 136)))=olen2:=by rw[hKK,h2];subst hΩ;rfl
       have e4:Ω.nsub 136 (Ω.toN (Ω.imin (Ω.bin .sub .i64 (Int.ofNat m) (Ω.ofN olen)) (Int.ofNat 136)))=rlen2:=by rw[hKK,h4];subst hΩ;rfl
       have e6:Ω.cat (Ω.sub out 0 olen) (Ω.sub o 0 (Ω.toN (Ω.imin (Ω.bin .sub .i64 (Int.ofNat m) (Ω.ofN olen)) (Int.ofNat 136))))=out2:=by
        rw[hKK,h6];subst hΩ
        show(out.drop 0).take olen++(o.drop 0).take kk=_
        rw[List.drop_zero,List.take_of_length_le (by omega)]
       have hout2:out2.length=olen2:=by rw[h6,List.length_append,List.length_take,List.length_drop];omega
       have hinv:out2++(o.drop kk).take rlen2=r1++sq s1 (k+1):=by
        rw[h6,h4,List.append_assoc,List.drop_zero,qgA (by omega),hor,List.append_assoc,sq,<- hst3,<- ho]
       constructor
       ·exact fun _=>⟨a1,trivial,trivial,a3,Nat.le_refl _,Nat.le_refl _⟩
       refine⟨(k+1,out2,olen2,cap2,st2,o,kk,rlen2,rlen2),[some 560,some 376],⟨hout2.symm,by show olen2<=m;omega,by show olen2<=cap2;omega,hst3,by show kk+rlen2<=o.length;omega,Nat.le_refl _,hinv,.inl (by show rlen2<=136;omega)⟩,by show m-olen2<m-olen;omega,by show 2<=8*1;omega,?_⟩
       set_option maxRecDepth 20000 in cbv
       exact⟨e2,e6,hKK,e4,e4,trivial⟩
      ·intro he
       rw[hΩ]at he;simp (disch:=omega) only[Om.real,qb,decide_eq_true_eq,decide_eq_false_iff_not]at he
       cbv
       obtain⟨kk,hkk⟩ : ∃ kk,kk=min (m-olen) rlen:=⟨_,rfl⟩
       have hKK:Ω.toN (Ω.imin (Ω.bin .sub .i64 (Int.ofNat m) (Ω.ofN olen)) (Ω.ofN rlen))=kk:=by
        subst hΩ
        show(min (binL .sub .i64 (m:Int) (olen:Int)) (rlen:Int)).toNat=kk
        rw[qbb _ _ (by omega) (by omega)]
        omega
       have hKI:Ω.imin (Ω.bin .sub .i64 (Int.ofNat m) (Ω.ofN olen)) (Ω.ofN rlen)=(kk:Int):=by
        subst hΩ
        show min (binL .sub .i64 (m:Int) (olen:Int)) (rlen:Int)=kk
        rw[qbb _ _ (by omega) (by omega)]
        omega
       have a1:0<=Ω.imin (Ω.bin .sub .i64 (Int.ofNat m) (Ω.ofN olen)) (Ω.ofN rlen):=by rw[hKI];omega
       have a2:0<=Ω.toN (Ω.imin (Ω.bin .sub .i64 (Int.ofNat m) (Ω.ofN olen)) (Ω.ofN rlen)):=Nat.zero_le _
       have a3:Ω.toN (Ω.imin (Ω.bin .sub .i64 (Int.ofNat m) (Ω.ofN olen)) (Ω.ofN rlen))<=rcap:=by omega
       have a5:(olen+Ω.toN (Ω.imin (Ω.bin .sub .i64 (Int.ofNat m) (Ω.ofN olen)) (Ω.ofN rlen)))*1<=140737488355328:=by omega
       have a6:0+olen*1<=out.length:=by omega
       have a7:roff+Ω.toN (Ω.imin (Ω.bin .sub .i64 (Int.ofNat m) (Ω.ofN olen)) (Ω.ofN rlen))*1<=blk.length:=by omega
       have a8:Ω.toN (Ω.imin (Ω.bin .sub .i64 (Int.ofNat m) (Ω.ofN olen)) (Ω.ofN rlen))<=rlen:=by omega
       constructor
       ·exact fun _=>⟨trivial,a1,trivial,a2,a3,Nat.le_refl _⟩
       constructor
       ·exact fun _=>a5
       constructor
       ·exact fun _=>⟨a6,a7⟩
       intro cap2 hcap2
       cbv
       have hcap2:olen+kk<=cap2:=by rw[<- hKK];exact hcap2
       obtain⟨olen2,h2⟩ : ∃ x,x=olen+kk:=⟨_,rfl⟩
       obtain⟨roff2,h3⟩ : ∃ x,x=roff+kk:=⟨_,rfl⟩
       obtain⟨rlen2,h4⟩ : ∃ x,x=rlen-kk:=⟨_,rfl⟩
       obtain⟨rcap2,h5⟩ : ∃ x,x=rcap-kk:=⟨_,rfl⟩
       obtain⟨out2,h6⟩ : ∃ x,x=out++(blk.drop roff).take kk:=⟨_,rfl⟩
       have e2:Ω.nadd olen (Ω.toN (Ω.imin (Ω.bin .sub .i64 (Int.ofNat m) (Ω.ofN olen)) (Ω.ofN rlen)))=olen2:=by rw[hKK,h2];subst hΩ;rfl
       have e3:Ω.nadd roff (Ω.toN (Ω.imin (Ω.bin .sub .i64 (Int.ofNat m) (Ω.ofN olen)) (Ω.ofN rlen)))=roff2:=by rw[hKK,h3];subst hΩ;rfl
       have e4:Ω.nsub rlen (Ω.toN (Ω.imin (Ω.bin .sub .i64 (Int.ofNat m) (Ω.ofN olen)) (Ω.ofN rlen)))=rlen2:=by rw[hKK,h4];subst hΩ;rfl
       have e5:Ω.nsub rcap (Ω.toN (Ω.imin (Ω.bin .sub .i64 (Int.ofNat m) (Ω.ofN olen)) (Ω.ofN rlen)))=rcap2:=by rw[hKK,h5];subst hΩ;rfl
       have e6:Ω.cat (Ω.sub out 0 olen) (Ω.sub blk roff (Ω.toN (Ω.imin (Ω.bin .sub .i64 (Int.ofNat m) (Ω.ofN olen)) (Ω.ofN rlen))))=out2:=by
        rw[hKK,h6];subst hΩ
        show(out.drop 0).take olen++(blk.drop roff).take kk=_
        rw[List.drop_zero,List.take_of_length_le (by omega)]
       have hout2:out2.length=olen2:=by rw[h6,List.length_append,List.length_take,List.length_drop];omega
       have hinv:out2++(blk.drop roff2).take rlen2=r1++sq s1 k:=by
        rw[h6,h3,h4,List.append_assoc,<- j7,<- List.drop_drop,qgA (by omega)]
       constructor
       ·exact fun _=>⟨a1,trivial,trivial,a8,j6,Nat.le_refl _⟩
       refine⟨(k,out2,olen2,cap2,st,blk,roff2,rlen2,rcap2),[some 408,some 177],⟨hout2.symm,by show olen2<=m;omega,by show olen2<=cap2;omega,j4,by show roff2+rlen2<=blk.length;omega,by show rlen2<=rcap2;omega,hinv,by show rlen2<=136\/rlen2<=r1.length;omega⟩,by show m-olen2<m-olen;omega,by show 2<=8*1;omega,?_⟩
       cbv
       exact⟨e2,e6,e3,e4,e5,trivial⟩
     ·intro hd
      rw[hΩ]at hd;simp (disch:=omega) only[Om.real,qb,decide_eq_true_eq,decide_eq_false_iff_not]at hd
      have hom:olen=m:=by omega
      have hsub:(blk.drop roff).take rlen=Ω.sub blk roff rlen:=by subst hΩ;rfl
      have hsub2:out=Ω.sub out 0 olen:=by subst hΩ;exact(by rw[j1];exact List.take_length.symm:out=(out.drop 0).take olen)
      have hlq:=congrArg List.length j7
      rw[List.length_append,List.length_append,qgz,List.length_take,List.length_drop]at hlq
      cbv
      refine hQ ⟨out,ocap,st,(blk.drop roff).take rlen,rcap,k,0,true⟩ _ _ _ ?_ ?_
      ·show if badN (m:Int) then _ else _
       rw[if_neg hnb,hT,hR1]
       refine⟨rfl,rfl,j4,?_,?_,?_,?_,?_⟩
       ·show out=(r1++sq s1 k).take (m:Int).toNat
        rw[Int.toNat_natCast,<- j7,List.take_left' (by omega)]
       ·show(blk.drop roff).take rlen=(r1++sq s1 k).drop (m:Int).toNat
        rw[Int.toNat_natCast,<- j7,List.drop_left' (by omega)]
       ·show(m:Int).toNat<=r1.length+136*k
        rw[Int.toNat_natCast];omega
       ·refine⟨by show((blk.drop roff).take rlen).length<=rcap;rw[List.length_take];omega,.inl ?_⟩
        show((blk.drop roff).take rlen).length<=136
        have hr136:r1.length<=136:=by rw[hr1,List.length_take];omega
        rw[List.length_take];omega
       ·show out.length<=ocap
        omega
      ·refine⟨⟨⟨rfl,rfl,by show 0+olen<=out.length;omega,hsub2⟩,⟨rfl,rfl⟩,⟨rfl,rfl,rfl⟩,⟨rfl,rfl,by show roff+rlen<=blk.length;omega,hsub⟩,rfl,trivial⟩,rfl,rfl⟩
    ·intro h3
     have htt:tells=true:=by subst hΩ;revert h3;cases tells<;>decide
     subst htt
     cbv
     obtain⟨R,hR⟩ : ∃ R,R=r.length:=⟨_,rfl⟩
     refine qn hE hI hm (fun x:Nat × List Int × Nat × Nat × List Int × List Int × Nat × Nat × Nat=>(mkT 80 [(0,.ptr 0 (.l 0)),(1,.int .i64 m),(5,.lit .i64 0),(6,.sl 160 1 (.l 0) (.s x.2.2.1) (.s x.2.2.2.1))],[(161,.seq .u8 x.2.2.2.2.2.1),(160,.seq .u8 x.2.1),(0,.agg [.row .u64 25 x.2.2.2.2.1,.sl 161 1 (.s x.2.2.2.2.2.2.1) (.s x.2.2.2.2.2.2.2.1) (.s x.2.2.2.2.2.2.2.2),.bs true])])) (fun x=>qnq s r m x) (fun x=>m-x.2.2.1) 1 ⟨(0,[],0,0,s,r,0,R,c),[none,some 1],⟨rfl,Nat.zero_le _,Nat.le_refl _,rfl,by show 0+R<=r.length;omega,by rw[hR];exact hrc,by show []++(r.drop 0).take R=r++[];rw[hR];simp,.inr (by show R<=r.length;omega)⟩,by decide,?_⟩ fun x hj=>⟨1000,?_⟩
     ·cbv
      exact⟨hlr.trans hR.symm,trivial⟩
     obtain⟨k,out,olen,ocap,st,blk,roff,rlen,rcap⟩:=x
     obtain⟨j1,j2,j3,j4,j5,j6,j7,j8⟩:olen=out.length/\olen<=m/\olen<=ocap/\st=pit s k/\roff+rlen<=blk.length/\rlen<=rcap/\out++(blk.drop roff).take rlen=r++sq s k/\(rlen<=136\/rlen<=r.length):=hj
     have lst:st.length=25:=by rw[j4,qgy,ls]
     cbv
     constructor
     ·intro hd
      rw[hΩ]at hd;simp (disch:=omega) only[Om.real,qb,decide_eq_true_eq,decide_eq_false_iff_not]at hd
      cbv
      constructor
      ·intro he
       rw[hΩ]at he;simp (disch:=omega) only[Om.real,qb,decide_eq_true_eq,decide_eq_false_iff_not]at he
       have he0:rlen=0:=he
       have hor:out=r++sq s k:=by rw[<- j7,he0];simp
       cbv
       constructor
       ·exact fun _ _=>lst
       intro st2 hst2
       have hst2:st2=qbg st:=hst2
       have hst3:st2=pit s (k+1):=by rw[hst2,j4];rfl
       have lst2:st2.length=25:=by rw[hst2,qbx,lst]
       cbv
       constructor
       ·exact fun _ _=>lst2
       intro zb hzb
       obtain⟨o,c4⟩:=zb
       obtain⟨ho,hc4⟩:o=bytesUp st2 25/\200<=c4:=hzb
       have lo:o.length=200:=by rw[ho,qae]
       cbv
       obtain⟨kk,hkk⟩ : ∃ kk,kk=min (m-olen) 136:=⟨_,rfl⟩
       have hKI:Ω.imin (Ω.bin .sub .i64 (Int.ofNat m) (Ω.ofN olen)) (Int.ofNat 136)=(kk:Int):=by
        subst hΩ
        show min (binL .sub .i64 (m:Int) (olen:Int)) ((136:Nat):Int)=kk
        rw[qbb _ _ (by omega) (by omega)]
        omega
       have hKK:Ω.toN (Ω.imin (Ω.bin .sub .i64 (Int.ofNat m) (Ω.ofN olen)) (Int.ofNat 136))=kk:=by
        rw[hKI];subst hΩ;exact Int.toNat_natCast kk
       have a1:0<=Ω.imin (Ω.bin .sub .i64 (Int.ofNat m) (Ω.ofN olen)) (Int.ofNat 136):=by rw[hKI];omega
       have a3:Ω.toN (Ω.imin (Ω.bin .sub .i64 (Int.ofNat m) (Ω.ofN olen)) (Int.ofNat 136))<=136:=by omega
       have a5:(olen+Ω.toN (Ω.imin (Ω.bin .sub .i64 (Int.ofNat m) (Ω.ofN olen)) (Int.ofNat 136)))*1<=140737488355328:=by omega
       have a6:0+olen*1<=out.length:=by omega
       have a7:0+Ω.toN (Ω.imin (Ω.bin .sub .i64 (Int.ofNat m) (Ω.ofN olen)) (Int.ofNat 136))*1<=o.length:=by omega
       have a9:136<=c4:=by omega
       constructor
       ·exact fun _=>⟨trivial,trivial,trivial,Nat.zero_le _,Nat.le_refl _,a9⟩
       constructor
       ·exact fun _=>⟨trivial,a1,trivial,Nat.zero_le _,a3,Nat.le_refl _⟩
       constructor
       ·exact fun _=>a5
       constructor
       ·exact fun _=>⟨a6,a7⟩
       intro cap2 hcap2
       cbv
       have hcap2:olen+kk<=cap2:=by rw[<- hKK];exact hcap2
       obtain⟨olen2,h2⟩ : ∃ x,x=olen+kk:=⟨_,rfl⟩
       obtain⟨rlen2,h4⟩ : ∃ x,x=136-kk:=⟨_,rfl⟩
       obtain⟨out2,h6⟩ : ∃ x,x=out++(o.drop 0).take kk:=⟨_,rfl⟩
       have e2:Ω.nadd olen (Ω.toN (Ω.imin (Ω.bin .sub .i64 (Int.ofNat m) (Ω.ofN olen)) (Int.ofNat 136)))=olen2:=by rw[hKK,h2];subst hΩ;rfl
       have e4:Ω.nsub 136 (Ω.toN (Ω.imin (Ω.bin .sub .i64 (Int.ofNat m) (Ω.ofN olen)) (Int.ofNat 136)))=rlen2:=by rw[hKK,h4];subst hΩ;rfl
       have e6:Ω.cat (Ω.sub out 0 olen) (Ω.sub o 0 (Ω.toN (Ω.imin (Ω.bin .sub .i64 (Int.ofNat m) (Ω.ofN olen)) (Int.ofNat 136))))=out2:=by
        rw[hKK,h6];subst hΩ
        show(out.drop 0).take olen++(o.drop 0).take kk=_
        rw[List.drop_zero,List.take_of_length_le (by omega)]
       have hout2:out2.length=olen2:=by rw[h6,List.length_append,List.length_take,List.length_drop];omega
       have hinv:out2++(o.drop kk).take rlen2=r++sq s (k+1):=by
        rw[h6,h4,List.append_assoc,List.drop_zero,qgA (by omega),hor,List.append_assoc,sq,<- hst3,<- ho]
       constructor
       ·exact fun _=>⟨a1,trivial,trivial,a3,Nat.le_refl _,Nat.le_refl _⟩
       refine⟨(k+1,out2,olen2,cap2,st2,o,kk,rlen2,rlen2),[some 544,some 360],⟨hout2.symm,by show olen2<=m;omega,by show olen2<=cap2;omega,hst3,by show kk+rlen2<=o.length;omega,Nat.le_refl _,hinv,.inl (by show rlen2<=136;omega)⟩,by show m-olen2<m-olen;omega,by show 2<=8*1;omega,?_⟩
       set_option maxRecDepth 20000 in cbv
       exact⟨e2,e6,hKK,e4,e4,trivial⟩
      ·intro he
       rw[hΩ]at he;simp (disch:=omega) only[Om.real,qb,decide_eq_true_eq,decide_eq_false_iff_not]at he
       cbv
       obtain⟨kk,hkk⟩ : ∃ kk,kk=min (m-olen) rlen:=⟨_,rfl⟩
       have hKK:Ω.toN (Ω.imin (Ω.bin .sub .i64 (Int.ofNat m) (Ω.ofN olen)) (Ω.ofN rlen))=kk:=by
        subst hΩ
        show(min (binL .sub .i64 (m:Int) (olen:Int)) (rlen:Int)).toNat=kk
        rw[qbb _ _ (by omega) (by omega)]
        omega
       have hKI:Ω.imin (Ω.bin .sub .i64 (Int.ofNat m) (Ω.ofN olen)) (Ω.ofN rlen)=(kk:Int):=by
        subst hΩ
        show min (binL .sub .i64 (m:Int) (olen:Int)) (rlen:Int)=kk
        rw[qbb _ _ (by omega) (by omega)]
        omega
       have a1:0<=Ω.imin (Ω.bin .sub .i64 (Int.ofNat m) (Ω.ofN olen)) (Ω.ofN rlen):=by rw[hKI];omega
       have a2:0<=Ω.toN (Ω.imin (Ω.bin .sub .i64 (Int.ofNat m) (Ω.ofN olen)) (Ω.ofN rlen)):=Nat.zero_le _
       have a3:Ω.toN (Ω.imin (Ω.bin .sub .i64 (Int.ofNat m) (Ω.ofN olen)) (Ω.ofN rlen))<=rcap:=by omega
       have a5:(olen+Ω.toN (Ω.imin (Ω.bin .sub .i64 (Int.ofNat m) (Ω.ofN olen)) (Ω.ofN rlen)))*1<=140737488355328:=by omega
       have a6:0+olen*1<=out.length:=by omega
       have a7:roff+Ω.toN (Ω.imin (Ω.bin .sub .i64 (Int.ofNat m) (Ω.ofN olen)) (Ω.ofN rlen))*1<=blk.length:=by omega
       have a8:Ω.toN (Ω.imin (Ω.bin .sub .i64 (Int.ofNat m) (Ω.ofN olen)) (Ω.ofN rlen))<=rlen:=by omega
       constructor
       ·exact fun _=>⟨trivial,a1,trivial,a2,a3,Nat.le_refl _⟩
       constructor
       ·exact fun _=>a5
       constructor
       ·exact fun _=>⟨a6,a7⟩
       intro cap2 hcap2
       cbv
       have hcap2:olen+kk<=cap2:=by rw[<- hKK];exact hcap2
       obtain⟨olen2,h2⟩ : ∃ x,x=olen+kk:=⟨_,rfl⟩
       obtain⟨roff2,h3⟩ : ∃ x,x=roff+kk:=⟨_,rfl⟩
       obtain⟨rlen2,h4⟩ : ∃ x,x=rlen-kk:=⟨_,rfl⟩
       obtain⟨rcap2,h5⟩ : ∃ x,x=rcap-kk:=⟨_,rfl⟩
       obtain⟨out2,h6⟩ : ∃ x,x=out++(blk.drop roff).take kk:=⟨_,rfl⟩
       have e2:Ω.nadd olen (Ω.toN (Ω.imin (Ω.bin .sub .i64 (Int.ofNat m) (Ω.ofN olen)) (Ω.ofN rlen)))=olen2:=by rw[hKK,h2];subst hΩ;rfl
       have e3:Ω.nadd roff (Ω.toN (Ω.imin (Ω.bin .sub .i64 (Int.ofNat m) (Ω.ofN olen)) (Ω.ofN rlen)))=roff2:=by rw[hKK,h3];subst hΩ;rfl
       have e4:Ω.nsub rlen (Ω.toN (Ω.imin (Ω.bin .sub .i64 (Int.ofNat m) (Ω.ofN olen)) (Ω.ofN rlen)))=rlen2:=by rw[hKK,h4];subst hΩ;rfl
       have e5:Ω.nsub rcap (Ω.toN (Ω.imin (Ω.bin .sub .i64 (Int.ofNat m) (Ω.ofN olen)) (Ω.ofN rlen)))=rcap2:=by rw[hKK,h5];subst hΩ;rfl
       have e6:Ω.cat (Ω.sub out 0 olen) (Ω.sub blk roff (Ω.toN (Ω.imin (Ω.bin .sub .i64 (Int.ofNat m) (Ω.ofN olen)) (Ω.ofN rlen))))=out2:=by
        rw[hKK,h6];subst hΩ
        show(out.drop 0).take olen++(blk.drop roff).take kk=_
        rw[List.drop_zero,List.take_of_length_le (by omega)]
       have hout2:out2.length=olen2:=by rw[h6,List.length_append,List.length_take,List.length_drop];omega
       have hinv:out2++(blk.drop roff2).take rlen2=r++sq s k:=by
        rw[h6,h3,h4,List.append_assoc,<- j7,<- List.drop_drop,qgA (by omega)]
       constructor
       ·exact fun _=>⟨a1,trivial,trivial,a8,j6,Nat.le_refl _⟩
       refine⟨(k,out2,olen2,cap2,st,blk,roff2,rlen2,rcap2),[some 392,some 161],⟨hout2.symm,by show olen2<=m;omega,by show olen2<=cap2;omega,j4,by show roff2+rlen2<=blk.length;omega,by show rlen2<=rcap2;omega,hinv,by show rlen2<=136\/rlen2<=r.length;omega⟩,by show m-olen2<m-olen;omega,by show 2<=8*1;omega,?_⟩
       cbv
       exact⟨e2,e6,e3,e4,e5,trivial⟩
     ·intro hd
      rw[hΩ]at hd;simp (disch:=omega) only[Om.real,qb,decide_eq_true_eq,decide_eq_false_iff_not]at hd
      have hom:olen=m:=by omega
      have hsub:(blk.drop roff).take rlen=Ω.sub blk roff rlen:=by subst hΩ;rfl
      have hsub2:out=Ω.sub out 0 olen:=by subst hΩ;exact(by rw[j1];exact List.take_length.symm:out=(out.drop 0).take olen)
      have hlq:=congrArg List.length j7
      rw[List.length_append,List.length_append,qgz,List.length_take,List.length_drop]at hlq
      cbv
      refine hQ ⟨out,ocap,st,(blk.drop roff).take rlen,rcap,k,0,true⟩ _ _ _ ?_ ?_
      ·show if badN (m:Int) then _ else _
       rw[if_neg hnb]
       refine⟨rfl,rfl,j4,?_,?_,?_,?_,?_⟩
       ·show out=(r++sq s k).take (m:Int).toNat
        rw[Int.toNat_natCast,<- j7,List.take_left' (by omega)]
       ·show(blk.drop roff).take rlen=(r++sq s k).drop (m:Int).toNat
        rw[Int.toNat_natCast,<- j7,List.drop_left' (by omega)]
       ·show(m:Int).toNat<=r.length+136*k
        rw[Int.toNat_natCast];omega
       ·refine⟨by show((blk.drop roff).take rlen).length<=rcap;rw[List.length_take];omega,?_⟩
        show((blk.drop roff).take rlen).length<=136\/((blk.drop roff).take rlen).length<=r.length
        rw[List.length_take];omega
       ·show out.length<=ocap
        omega
      ·refine⟨⟨⟨rfl,rfl,by show 0+olen<=out.length;omega,hsub2⟩,⟨rfl,rfl⟩,⟨rfl,rfl,rfl⟩,⟨rfl,rfl,by show roff+rlen<=blk.length;omega,hsub⟩,rfl,trivial⟩,rfl,rfl⟩
end Go.Sx.Tryz.K
end
section

end
section

end
section
namespace Go.Sx.Tryz.K
open Go.Proofs
def hrdS (M:List Int):List Int:=qT (List.replicate 25 0) M (M.length / 136)
def hrdR (M:List Int):List Int:=M.drop (136*(M.length / 136))
theorem qnr (s M:List Int) (k:Nat) : ∀ j,qT s M (k+j)=qT (qT s M k) (M.drop (136*k)) j
 | 0=>rfl
 | j+1=>by
   rw[<- Nat.add_assoc,qT,qnr s M k j,qT,List.drop_drop,Nat.mul_add]
theorem qns (s M b:List Int) : ∀ n,136*n<=M.length->qT s (M++b) n=qT s M n
 | 0,_=>rfl
 | n+1,h=>by
   rw[qT,qT,qns s M b n (by omega),List.drop_append_of_le_length (by omega),List.take_append_of_le_length (by rw[List.length_drop];omega)]
theorem hrd_len (M b:List Int):(M++b).length / 136=M.length / 136+(hrdR M++b).length / 136:=by
 rw[hrdR,List.length_append,List.length_append,List.length_drop];omega
theorem hrdS_app (M b:List Int):hrdS (M++b)=qT (hrdS M) (hrdR M++b) ((hrdR M++b).length / 136):=by
 rw[hrdS,hrd_len,qnr,qns _ _ _ _ (by omega),List.drop_append_of_le_length (by omega)]
 rfl
theorem hrdR_app (M b:List Int):hrdR (M++b)=(hrdR M++b).drop (136*((hrdR M++b).length / 136)):=by
 rw[hrdR,hrd_len,Nat.mul_add,<- List.drop_drop,List.drop_append_of_le_length (by omega)]
 rfl
theorem hrdR_lt (M:List Int):(hrdR M).length<136:=by
 rw[hrdR,List.length_drop];omega
theorem hrdS_len (M:List Int):(hrdS M).length=25:=by
 rw[hrdS,qen,List.length_replicate]
end Go.Sx.Tryz.K
end
section
set_option maxHeartbeats 4000000
namespace Go.Sx.Tryz.K
open Go.Proofs
theorem qnt (n:Int) (xss:List (List Int)) : ∃ z:RdRes,if badN n then z.out=[]/\z.er=10 else z.er=0/\z.out=(tellR (hrdS xss.flatten) (hrdR xss.flatten) false++sq (qaf (hrdS xss.flatten) (hrdR xss.flatten) false) z.k).take n.toNat/\n.toNat<=136+136*z.k/\z.out.length<=z.c:=by
 by_cases hb:badN n
 ·refine⟨⟨[],0,[],[],0,0,10,false⟩,?_⟩
  rw[if_pos hb];exact⟨rfl,rfl⟩
 ·refine⟨⟨(tellR (hrdS xss.flatten) (hrdR xss.flatten) false++sq (qaf (hrdS xss.flatten) (hrdR xss.flatten) false) n.toNat).take n.toNat,((tellR (hrdS xss.flatten) (hrdR xss.flatten) false++sq (qaf (hrdS xss.flatten) (hrdR xss.flatten) false) n.toNat).take n.toNat).length,[],[],0,n.toNat,0,false⟩,?_⟩
  rw[if_neg hb];exact⟨rfl,rfl,(by show n.toNat<=136+136*n.toNat;omega),Nat.le_refl _⟩
def s25:qe:=fun args=>match args with
 | [.int .i64 n,.rol .u8 xss]=>⟨∀ _:Unit,xss.length<4611686018427387904/\xss.flatten.length<=140737488355328,RdRes,fun z=>(if badN n then z.out=[]/\z.er=10 else z.er=0/\z.out=(tellR (hrdS xss.flatten) (hrdR xss.flatten) false++sq (qaf (hrdS xss.flatten) (hrdR xss.flatten) false) z.k).take n.toNat/\n.toNat<=136+136*z.k/\z.out.length<=z.c),fun z =>.tup [.fr .u8 z.out z.c,.int .i64 z.er]⟩
 | [.int .i64 n,.roi .u8 xs]=>⟨∀ _:Unit,xs=[],RdRes,fun z=>(if badN n then z.out=[]/\z.er=10 else z.er=0/\z.out=(tellR (hrdS []) (hrdR []) false++sq (qaf (hrdS []) (hrdR []) false) z.k).take n.toNat/\n.toNat<=136+136*z.k/\z.out.length<=z.c),fun z =>.tup [.fr .u8 z.out z.c,.int .i64 z.er]⟩
 | _=>PR.none
noncomputable def i25:List (FuncId × Func):=[(156,Tryz.f156)]
theorem c25:Ctr Tryz.prog T glob 66 s25:=by
 refine qkZ T_ok qf qg [] i25 [(157,m28),(158,m29)] qh (qE Tryz.call156 Tryz.func156 (by kernel_rfl) qi) (qhB mc28 (qhB mc29 qk))  Tryz.func66 (by rfl) (by kernel_rfl) Tryz.call66 ?_ ?_
 ·intro args;unfold s25;split
  ·exact qfI ⟨trivial,trivial,trivial⟩ fun _=>qnt _ _
  ·exact qfI ⟨trivial,trivial,trivial⟩ fun _=>qnt _ []
  ·exact PR.good_none
 ·intro P Ω hΩ hE hI hm args pr hs hp Q hQ
  unfold s25 at hs
  split at hs<;>subst hs<;>try (exact hp.elim)
  ·rename_i n xss
   obtain⟨lx,ly⟩:=hp ()
   refine⟨1000,?_⟩
   obtain⟨L,hL⟩ : ∃ L,L=xss.length:=⟨_,rfl⟩
   have hL2:Ω.len2 xss=L:=by subst hΩ;exact hL.symm
   cbv
   refine qn hE hI hm (fun x:Nat × List Int × List Int × Nat × Nat=>(mkT 32 [(0,.int .i64 n),(1,.rol .u8 xss),(6,.ptr 112 (.l 0)),(7,.fn 157 [.ptr 112 (.l 0)] []),(14,.rol .u8 xss),(15,.int .i64 L),(16,.int .i64 x.1)],[(113,.seq .u8 x.2.2.1),(112,.agg [.row .u64 25 x.2.1,.sl 113 1 (.l 0) (.s x.2.2.2.1) (.s x.2.2.2.2),.bs false])])) (fun x=>x.1<=L/\x.2.1=hrdS (xss.take x.1).flatten/\x.2.2.1=hrdR (xss.take x.1).flatten/\x.2.2.2.1=x.2.2.1.length/\x.2.2.2.1<=x.2.2.2.2) (fun x=>L-x.1) 1 ⟨(0,List.replicate 25 0,[],0,0),[some 48,none],⟨Nat.zero_le _,by simp[hrdS,qT],by simp[hrdR],rfl,Nat.le_refl _⟩,by decide,?_⟩ fun x hj=>⟨1000,?_⟩
   ·cbv
    exact⟨by subst hΩ;show((xss.length:Nat):Int)=L;rw[hL],rfl,trivial⟩
   obtain⟨i,s,r,R,c⟩:=x
   obtain⟨j1,j2,j3,j4,j5⟩:i<=L/\s=hrdS (xss.take i).flatten/\r=hrdR (xss.take i).flatten/\R=r.length/\R<=c:=hj
   cbv
   constructor
   ·intro hc
    cbv
    rw[hΩ]at hc;simp (disch:=omega) only[Om.real,qb,decide_eq_true_eq,decide_eq_false_iff_not]at hc
    repeat (refine⟨by ((try intro _);(try subst hΩ);simp (disch:=omega) only[Om.real,qb,SN.v];omega),?_⟩)
    have hi:i<xss.length:=by omega
    have hsub:Ω.sub r 0 R=r:=by rw[j4];subst hΩ;exact List.take_length
    have htk:(xss.take (i+1)).flatten=(xss.take i).flatten++xss.getD i []:=by
     rw[List.take_succ_eq_append_getElem hi,List.flatten_append]
     simp[List.getD,hi]
    constructor
    ·exact fun _=>⟨⟨by show 0+R<=r.length;omega,trivial⟩,trivial,trivial⟩
    constructor
    ·intro _ _
     refine⟨by rw[j2,hrdS_len],by show(Ω.sub r 0 R).length<=c;rw[hsub];omega,?_⟩
     intro _
     show(Ω.sub r 0 R).length+(Ω.at2 xss (Ω.toN (Int.ofNat i))).length<=140737488355328
     rw[hsub]
     have h1:(xss.take (i+1)).flatten.length<=xss.flatten.length:=by
      conv=>rhs;rw[<- List.take_append_drop (i+1) xss,List.flatten_append,List.length_append]
      omega
     rw[htk,List.length_append]at h1
     have h2:r.length<=(xss.take i).flatten.length:=by rw[j3,hrdR,List.length_drop];omega
     have h3:(Ω.at2 xss (Ω.toN (Int.ofNat i))).length=(xss.getD i []).length:=by subst hΩ;rfl
     exact(by omega:r.length+(Ω.at2 xss (Ω.toN (Int.ofNat i))).length<=140737488355328)
    intro z hz
    obtain⟨s2,r2,c2⟩:=z
    obtain⟨hc2,hs2,hr2⟩:r2.length<=c2/\s2=qT s (Ω.sub r 0 R++xss.getD i []) ((Ω.sub r 0 R++xss.getD i []).length / 136)/\r2=(Ω.sub r 0 R++xss.getD i []).drop (136*((Ω.sub r 0 R++xss.getD i []).length / 136)):=by subst hΩ;exact hz
    rw[hsub,j2,j3]at hs2
    rw[hsub,j3]at hr2
    rw[<- hrdS_app,<- htk]at hs2
    rw[<- hrdR_app,<- htk]at hr2
    obtain⟨R2,hR2⟩ : ∃ R2,R2=r2.length:=⟨_,rfl⟩
    cbv
    constructor
    ·intro h
     have h2:False:=by subst hΩ;exact Bool.noConfusion (show false=true from h)
     contradiction
    intro _
    cbv
    refine⟨(i+1,s2,r2,R2,c2),[some 112,some 168],⟨by show i+1<=L;omega,hs2,hr2,hR2,by show R2<=c2;omega⟩,by show L-(i+1)<L-i;omega,by show 2<=8*1;omega,?_⟩
    cbv
    refine⟨?_,by subst hΩ;exact hR2.symm,trivial⟩
    subst hΩ
    show binL .add .i64 (i:Int) 1=((i+1:Nat):Int)
    exact qfc i 1 (by show i+1<9223372036854775808;omega)
   ·intro hc
    cbv
    rw[hΩ]at hc;simp (disch:=omega) only[Om.real,qb,decide_eq_true_eq,decide_eq_false_iff_not]at hc
    constructor
    ·exact fun _=>⟨⟨by show 0+R<=r.length;omega,trivial⟩,trivial,trivial⟩
    have hiL:i=xss.length:=by omega
    have hsub:Ω.sub r 0 R=r:=by rw[j4];subst hΩ;exact List.take_length
    have htk:xss.take i=xss:=by rw[hiL,List.take_length]
    rw[htk]at j2 j3
    have hrl:r.length<136:=by rw[j3];exact hrdR_lt _
    have hpre:s.length=25/\(false=false->(Ω.sub r 0 R).length<136)/\(Ω.sub r 0 R).length<=c:=by
     rw[hsub];exact⟨by rw[j2,hrdS_len],fun _=>hrl,by omega⟩
    constructor
    ·exact fun _ _=>hpre
    intro z hz
    obtain⟨out,oc,s2,r2,c2,k,er,tl⟩:=z
    have hz:if badN n then out=[]/\oc=0/\s2=s/\r2=Ω.sub r 0 R/\c2=c/\er=10/\tl=false else er=0/\tl=true/\s2=pit (qaf s (Ω.sub r 0 R) false) k/\out=(tellR s (Ω.sub r 0 R) false++sq (qaf s (Ω.sub r 0 R) false) k).take n.toNat/\r2=(tellR s (Ω.sub r 0 R) false++sq (qaf s (Ω.sub r 0 R) false) k).drop n.toNat/\n.toNat<=(tellR s (Ω.sub r 0 R) false).length+136*k/\(r2.length<=c2/\(r2.length<=136\/r2.length<=(Ω.sub r 0 R).length))/\out.length<=oc:=hz
    rw[hsub,j2,j3]at hz
    cbv
    refine hQ ⟨out,oc,s2,r2,c2,k,er,tl⟩ _ _ _ ?_ ?_
    ·show if badN n then _ else _
     by_cases hb:badN n
     ·rw[if_pos hb]at hz ⊢
      exact⟨hz.1,hz.2.2.2.2.2.1⟩
     ·rw[if_neg hb]at hz ⊢
      refine⟨hz.1,hz.2.2.2.1,?_,hz.2.2.2.2.2.2.2⟩
      have h1:=hz.2.2.2.2.2.1
      have h2:(tellR (hrdS xss.flatten) (hrdR xss.flatten) false).length<=136:=by rw[tellR,if_neg (by decide),List.length_take];omega
      show n.toNat<=136+136*k
      omega
    ·refine⟨⟨⟨rfl,rfl,by show 0+Ω.len out<=out.length;subst hΩ;exact Nat.le_of_eq (Nat.zero_add _),by subst hΩ;exact List.take_length.symm⟩,⟨rfl,rfl⟩,trivial⟩,(by first|trivial|exact⟨rfl,rfl⟩|cbv|(cbv;trivial))⟩
  ·rename_i n xs
   have hx:=hp ()
   refine⟨1000,?_⟩
   have hL:Ω.len xs=0:=by rw[hx];subst hΩ;rfl
   cbv
   refine qn hE hI hm (fun x:List Int × List Int × Nat × Nat=>(mkT 32 [(0,.int .i64 n),(1,.roi .u8 xs),(6,.ptr 112 (.l 0)),(7,.fn 157 [.ptr 112 (.l 0)] []),(14,.roi .u8 xs),(15,.int .i64 (0:Nat)),(16,.int .i64 (0:Nat))],[(113,.seq .u8 x.2.1),(112,.agg [.row .u64 25 x.1,.sl 113 1 (.l 0) (.s x.2.2.1) (.s x.2.2.2),.bs false])])) (fun x=>x.1=hrdS []/\x.2.1=hrdR []/\x.2.2.1=x.2.1.length/\x.2.2.1<=x.2.2.2) (fun _=>0) 1 ⟨(List.replicate 25 0,[],0,0),[some 48,none],⟨by simp[hrdS,qT],by simp[hrdR],rfl,Nat.le_refl _⟩,by decide,?_⟩ fun x hj=>⟨1000,?_⟩
   ·cbv
    exact⟨by subst hΩ;show((xs.length:Nat):Int)=0;rw[hx];rfl,rfl,trivial⟩
   obtain⟨s,r,R,c⟩:=x
   obtain⟨j2,j3,j4,j5⟩:s=hrdS []/\r=hrdR []/\R=r.length/\R<=c:=hj
   cbv
   constructor
   ·intro hc
    have h2:False:=by subst hΩ;exact Bool.noConfusion (show false=true from hc)
    contradiction
   ·intro hc
    cbv
    constructor
    ·exact fun _=>⟨⟨by show 0+R<=r.length;omega,trivial⟩,trivial,trivial⟩
    have hsub:Ω.sub r 0 R=r:=by rw[j4];subst hΩ;exact List.take_length
    have hrl:r.length<136:=by rw[j3];exact hrdR_lt _
    have hpre:s.length=25/\(false=false->(Ω.sub r 0 R).length<136)/\(Ω.sub r 0 R).length<=c:=by
     rw[hsub];exact⟨by rw[j2,hrdS_len],fun _=>hrl,by omega⟩
    constructor
    ·exact fun _ _=>hpre
    intro z hz
    obtain⟨out,oc,s2,r2,c2,k,er,tl⟩:=z
    have hz:if badN n then out=[]/\oc=0/\s2=s/\r2=Ω.sub r 0 R/\c2=c/\er=10/\tl=false else er=0/\tl=true/\s2=pit (qaf s (Ω.sub r 0 R) false) k/\out=(tellR s (Ω.sub r 0 R) false++sq (qaf s (Ω.sub r 0 R) false) k).take n.toNat/\r2=(tellR s (Ω.sub r 0 R) false++sq (qaf s (Ω.sub r 0 R) false) k).drop n.toNat/\n.toNat<=(tellR s (Ω.sub r 0 R) false).length+136*k/\(r2.length<=c2/\(r2.length<=136\/r2.length<=(Ω.sub r 0 R).length))/\out.length<=oc:=hz
    rw[hsub,j2,j3]at hz
    cbv
    refine hQ ⟨out,oc,s2,r2,c2,k,er,tl⟩ _ _ _ ?_ ?_
    ·show if badN n then _ else _
     by_cases hb:badN n
     ·rw[if_pos hb]at hz ⊢
      exact⟨hz.1,hz.2.2.2.2.2.1⟩
     ·rw[if_neg hb]at hz ⊢
      refine⟨hz.1,hz.2.2.2.1,?_,hz.2.2.2.2.2.2.2⟩
      have h1:=hz.2.2.2.2.2.1
      have h2:(tellR (hrdS []) (hrdR []) false).length<=136:=by rw[tellR,if_neg (by decide),List.length_take];omega
      show n.toNat<=136+136*k
      omega
    ·refine⟨⟨⟨rfl,rfl,by show 0+Ω.len out<=out.length;subst hΩ;exact Nat.le_of_eq (Nat.zero_add _),by subst hΩ;exact List.take_length.symm⟩,⟨rfl,rfl⟩,trivial⟩,(by first|trivial|exact⟨rfl,rfl⟩|cbv|(cbv;trivial))⟩
end Go.Sx.Tryz.K
end
section
set_option maxHeartbeats 4000000
namespace Go.Sx.Tryz.K
open Go.Proofs
def padN (b:List Int):Nat:=(136-(b.length+1) % 136) % 136
def padB (b:List Int):List Int:=b++31 :: List.replicate (padN b) 0
def qN (b:List Int):List Int:=(padB b).set ((padB b).length-1) (binL .xor .u8 ((padB b).getD ((padB b).length-1) 0) 128)
def s51:qe:=fun args=>match args with
 | [.roi .u8 b]=>⟨∀ _:Unit,b.length<=70368744177664,List Int × Nat,fun z=>z.1=qN b/\z.1.length<=z.2,fun z =>.fr .u8 z.1 z.2⟩
 | _=>PR.none
theorem c51:Ctr Tryz.prog T glob 162 s51:=by
 refine qaQ T_ok qf qg [] [] qh qi   Tryz.func162 (by rfl) (by kernel_rfl) Tryz.call162 ?_ ?_
 ·intro args;unfold s51;split
  ·exact qav ⟨trivial,trivial⟩ fun _=>⟨(qN _,(qN _).length),rfl,Nat.le_refl _⟩
  ·exact PR.good_none
 ·intro P Ω hΩ hE hI hm args pr hs hp Q hQ
  unfold s51 at hs
  split at hs<;>subst hs<;>try (exact hp.elim)
  rename_i b
  have lb:=hp ()
  refine⟨1000,?_⟩
  have hlb:Ω.len b=b.length:=by subst hΩ;rfl
  cbv
  constructor
  ·exact fun _=>by show(0+Ω.len b)*1<=140737488355328;omega
  constructor
  ·exact fun _=>⟨trivial,by show _;trivial⟩
  intro cap1 hcap1
  cbv
  constructor
  ·exact fun _=>by show(Ω.len b+1)*1<=140737488355328;omega
  constructor
  ·exact fun _=>⟨by show 0+Ω.len b*1<=b.length;omega,by show 0+1*1<=1;omega⟩
  intro cap2 hcap2
  obtain⟨L0,hL0⟩ : ∃ L0,L0=b.length+1:=⟨_,rfl⟩
  obtain⟨x0,hx0⟩ : ∃ x0,x0=b++[31]:=⟨_,rfl⟩
  have e0:Ω.nadd (Ω.len b) 1=L0:=by rw[hL0];subst hΩ;rfl
  have e1:Ω.cat (Ω.sub b 0 (Ω.len b)) [31]=x0:=by
   rw[hx0];subst hΩ
   show(b.drop 0).take b.length++[31]=_
   rw[List.drop_zero,List.take_length]
  have hc2:L0<=cap2:=by have:Ω.len b+1<=cap2:=hcap2;omega
  cbv
  refine qn hE hI hm (fun x:Nat × List Int × Nat × Nat=>(mkT 30 [(0,.roi .u8 b),(3,.sl 80 1 (.l 0) (.s x.2.2.1) (.s x.2.2.2))],[(80,.seq .u8 x.2.1)])) (fun x=>x.1<=padN b/\x.2.1=b++31 :: List.replicate x.1 0/\x.2.2.1=b.length+1+x.1/\x.2.2.1<=x.2.2.2) (fun x=>padN b-x.1) 1 ⟨(0,x0,L0,cap2),[some 64],⟨Nat.zero_le _,hx0,hL0,hc2⟩,by decide,?_⟩ fun x hj=>⟨1000,?_⟩
  ·cbv
   exact⟨e0,e1⟩
  obtain⟨j,xs,L,c⟩:=x
  obtain⟨j1,j2,j3,j4⟩:j<=padN b/\xs=b++31 :: List.replicate j 0/\L=b.length+1+j/\L<=c:=hj
  have hxl:xs.length=L:=by rw[j2];simp;omega
  cbv
  constructor
  ·intro hc
   cbv
   rw[hΩ]at hc;simp (disch:=omega) only[Om.real,qb,decide_eq_true_eq,decide_eq_false_iff_not]at hc
   have hpn:padN b<136:=Nat.mod_lt _ (by decide)
   have hj1:j<padN b:=by unfold padN at *;omega
   constructor
   ·exact fun _=>by show(L+1)*1<=140737488355328;omega
   constructor
   ·exact fun _=>⟨by show 0+L*1<=xs.length;omega,by show 0+1*1<=1;omega⟩
   intro cap3 hcap3
   have hcap3:L+1<=cap3:=hcap3
   obtain⟨L1,hL1⟩ : ∃ L1,L1=L+1:=⟨_,rfl⟩
   obtain⟨x1,hx1⟩ : ∃ x1,x1=xs++[0]:=⟨_,rfl⟩
   have f0:Ω.nadd L 1=L1:=by rw[hL1];subst hΩ;rfl
   have f1:Ω.cat (Ω.sub xs 0 L) [0]=x1:=by
    rw[hx1];subst hΩ
    show(xs.drop 0).take L++[0]=_
    rw[List.drop_zero,<- hxl,List.take_length]
   cbv
   refine⟨(j+1,x1,L1,cap3),[some 136],⟨hj1,?_,by show L1=b.length+1+(j+1);omega,by show L1<=cap3;omega⟩,by show padN b-(j+1)<padN b-j;omega,by show 1<=8*1;omega,?_⟩
   ·show x1=b++31 :: List.replicate (j+1) 0
    rw[hx1,j2,List.replicate_succ']
    simp
   cbv
   exact⟨f0,f1⟩
  ·intro hc
   cbv
   rw[hΩ]at hc;simp (disch:=omega) only[Om.real,qb,decide_eq_true_eq,decide_eq_false_iff_not]at hc
   have hpn:padN b<136:=Nat.mod_lt _ (by decide)
   have hI1:Ω.bin .sub .i64 (Ω.ofN L) 1=((L-1:Nat):Int):=by
    subst hΩ;exact qhJ L 1 (by show 1<=L;omega) (by omega)
   have hN1:Ω.toN (Ω.bin .sub .i64 (Ω.ofN L) 1)=L-1:=by rw[hI1];subst hΩ;rfl
   have g1:0<=Ω.bin .sub .i64 (Ω.ofN L) 1/\Ω.bin .sub .i64 (Ω.ofN L) 1<((L:Nat):Int):=by rw[hI1];omega
   have g2:Ω.toN (Ω.bin .sub .i64 (Ω.ofN L) 1)+1<=xs.length:=by omega
   have hp2:padN b=(136-(b.length+1) % 136) % 136:=rfl
   have hjp:j=padN b:=by omega
   have hxp:xs=padB b:=by rw[j2,hjp,padB]
   have hres:Ω.set xs (Ω.toN (Ω.bin .sub .i64 (Ω.ofN L) 1)) (Ω.bin .xor .u8 (Ω.at' xs (Ω.toN (Ω.bin .sub .i64 (Ω.ofN L) 1))) 128)=qN b:=by
    rw[hN1,<- hxl,hxp];subst hΩ;rfl
   refine⟨fun _=>g1,fun _=>g2,fun _=>g1,fun _=>g2,?_⟩
   have hfl:(qN b).length=L:=by rw[qN,List.length_set,<- hxp,hxl]
   refine hQ (qN b,c) _ _ _ ⟨rfl,by show(qN b).length<=c;rw[hfl];exact j4⟩ ?_
   refine⟨rfl,rfl,?_,?_⟩
   ·show 0+L<=(Ω.set xs _ _).length
    rw[hres,hfl];omega
   ·show qN b=Ω.sub (Ω.set xs _ _) 0 L
    rw[hres];subst hΩ
    show qN b=((qN b).drop 0).take L
    rw[List.drop_zero,List.take_of_length_le (by omega)]
end Go.Sx.Tryz.K
end
section
namespace Go.Sx.Tryz.K
open Go.Proofs
def xorB (s b:List Int):Nat->List Int
 | 0=>s
 | k+1=>(xorB s b k).set k (binL .xor .u8 ((xorB s b k).getD k 0) (b.getD k 0))
theorem qeo (s b:List Int) : ∀ n,(xorB s b n).length=s.length
 | 0=>rfl
 | n+1=>by rw[xorB,List.length_set,qeo s b n]
def qb3 (s:List Int):List Int:=qa2 (qc4 (qam s 25)) 25
def absR (F:List Int):Nat->List Int
 | 0=>List.replicate 200 0
 | j+1=>qb3 (xorB (absR F j) (F.drop (136*j)) 136)
def pitR (s:List Int):Nat->List Int
 | 0=>s
 | k+1=>qb3 (pitR s k)
def sqR (s:List Int):Nat->List Int
 | 0=>[]
 | k+1=>sqR s k++(pitR s k).take 136
theorem qnu (s:List Int):(qb3 s).length=200:=qgs _ 25
theorem qgB (F:List Int) : ∀ n,(absR F n).length=200
 | 0=>List.length_replicate
 | n+1=>qnu _
theorem qiX {s:List Int} (h:s.length=200) : ∀ n,(pitR s n).length=200
 | 0=>h
 | n+1=>qnu _
theorem qep {s:List Int} (h:s.length=200) : ∀ n,(sqR s n).length=136*n
 | 0=>rfl
 | n+1=>by rw[sqR,List.length_append,qep h n,List.length_take,qiX h n];omega
theorem qnv {s:List Int} (h:s.length=200) (a:Nat) : ∀ j,(sqR s (a+j)).take (136*a)=sqR s a
 | 0=>by rw[Nat.add_zero,<- qep h a,List.take_length]
 | j+1=>by rw[<- Nat.add_assoc,sqR,List.take_append_of_le_length (by rw[qep h];omega),qnv h a j]
theorem qsW {s:List Int} (h:s.length=200) {m a b:Nat} (ha:m<=136*a) (hb:m<=136*b):(sqR s a).take m=(sqR s b).take m:=by
 have key : ∀ a b,a<=b->m<=136*a->(sqR s a).take m=(sqR s b).take m:=fun a b hab ha=>by
  obtain⟨j,rfl⟩ : ∃ j,b=a+j:=⟨b-a,by omega⟩
  rw[<- qnv h a j,List.take_take,Nat.min_eq_left ha]
 rcases Nat.le_total a b with h1|h1
 ·exact key a b h1 ha
 ·exact(key b a h1 hb).symm
def told (M:List Int) (m:Nat):List Int:=(sqR (absR (qN M) ((qN M).length / 136)) m).take m
theorem qnw (M:List Int) {m k:Nat} (h:m<=136*k):(sqR (absR (qN M) ((qN M).length / 136)) k).take m=told M m :=
 qsW (qgB _ _) h (by omega)
theorem qsX (x y:BitVec 8):binL .xor .u8 (x.toNat:Int) (y.toNat:Int)=((x ^^^ y).toNat:Int):=by
 show IntKind.u8.wrap ((BitVec.ofInt 8 (x.toNat:Int) ^^^ BitVec.ofInt 8 (y.toNat:Int)).toNat:Int)=_
 rw[qgu]
 have hx:BitVec.ofInt 8 (x.toNat:Int)=x:=qgv x
 have hy:BitVec.ofInt 8 (y.toNat:Int)=y:=qgv y
 rw[hx,hy,Nat.mod_eq_of_lt (x ^^^ y).isLt]
theorem qiY {s b:List Int} : ∀ n,n<=s.length -> ∀ j,(xorB s b n).getD j 0=if j<n then binL .xor .u8 (s.getD j 0) (b.getD j 0) else s.getD j 0
 | 0,_,j=>by rw[if_neg (by omega)];rfl
 | n+1,h,j=>by
   rw[xorB,getD_set _ _ _ _ (by rw[qeo];omega),qiY n (by omega),qiY n (by omega)]
   by_cases h1:n=j
   · subst h1;rw[if_pos rfl,if_neg (by omega),if_pos (by omega)]
   · rw[if_neg h1]
     by_cases h2:j<n
     · rw[if_pos h2,if_pos (by omega)]
     · rw[if_neg h2,if_neg (by omega)]
theorem qnx {s b c:List Int} (ls:s.length=25) (hs : ∀ a ∈ s,InR a) (hb : ∀ a ∈ b,InB a) (hc : ∀ j,j<136->c.getD j 0=b.getD j 0):xorB (bytesUp s 25) c 136=bytesUp (qaw s b 136) 25:=by
 refine qsQ (by rw[qeo,qae,qae]) fun j hj => ?_
 rw[qeo,qae]at hj
 rw[qiY 136 (by rw[qae];omega),qgx (qb2 hs _) j hj,qgw ls hb 136 (by omega) j hj,qgx hs j hj]
 by_cases h:j<136
 ·rw[if_pos h,if_pos h,hc j h,<- qng (qiV hb j),qsX,qgv]
 ·rw[if_neg h,if_neg h]
theorem qgC {s:List Int} (hs : ∀ a ∈ s,InR a) : ∀ a ∈ qbg s,InR a:=qm9 hs 24
theorem qiZ {s:List Int} (ls:s.length=25) (hs : ∀ a ∈ s,InR a):qb3 (bytesUp s 25)=bytesUp (qbg s) 25:=by
 have h1:ofF (bytesUp s 25)=(qam (bytesUp s 25) 25,0):=qsU (by rw[qae]) (qnj hs)
 rw[qsP ls hs]at h1
 have h2:qam (bytesUp s 25) 25=s:=(Prod.mk.inj h1).1.symm
 rw[qb3,h2,<- qiR s ls,qnd (qgC hs)]
theorem qgD {s r:List Int} (hs : ∀ a ∈ s,InR a) : ∀ n,∀ a ∈ qT s r n,InR a
 | 0=>hs
 | n+1=>qgC (qb2 (qgD hs n) _)
theorem hrdS_rng (M:List Int) : ∀ a ∈ hrdS M,InR a:=qgD qc9 _
theorem qsY:List.replicate 200 (0:Int)=bytesUp (List.replicate 25 0) 25:=by decide +kernel
theorem qny {b:List Int} (hb : ∀ a ∈ b,InB a) (n:Nat) : ∀ a ∈ b.drop n,InB a:=fun a ha=>hb a (List.mem_of_mem_drop ha)
theorem qsZ {b:List Int} (hb : ∀ a ∈ b,InB a) (n:Nat) : ∀ a ∈ b.take n,InB a:=fun a ha=>hb a (List.mem_of_mem_take ha)
theorem qs0 {b:List Int} {j n:Nat} (h:j<n):(b.take n).getD j 0=b.getD j 0:=by
 rw[List.getD_eq_getElem?_getD,List.getD_eq_getElem?_getD,List.getElem?_take_of_lt h]
theorem qeq (M:List Int):(padB M).length=136*(M.length / 136+1):=by
 rw[padB,List.length_append,List.length_cons,List.length_replicate,padN];omega
theorem qi0 (M:List Int):(qN M).length=136*(M.length / 136+1):=by
 rw[qN,List.length_set,qeq]
theorem qi1 (a b:List Int) (j:Nat):(a++b).getD j 0=if j<a.length then a.getD j 0 else b.getD (j-a.length) 0:=by
 split
 ·exact qiT (by assumption)
 ·exact qiU (by omega)
theorem qnz (n j:Nat):(List.replicate n (0:Int)).getD j 0=0:=by
 rw[List.getD_eq_getElem?_getD,List.getElem?_replicate];split<;>rfl
theorem qer (a:List Int) (n j:Nat):(a.drop n).getD j 0=a.getD (n+j) 0:=by
 rw[List.getD_eq_getElem?_getD,List.getD_eq_getElem?_getD,List.getElem?_drop]
theorem qs1 (M:List Int) {j:Nat} (h:j<136*(M.length / 136)):(qN M).getD j 0=M.getD j 0:=by
 rw[qN,getD_set _ _ _ _ (by rw[qeq];omega),if_neg (by rw[qeq];omega),padB,qi1,if_pos (by omega)]
theorem qs2 {r:List Int} (h:r.length<136):(qbs r).length=136:=by
 simp[qbs];omega
theorem qnA (M:List Int) {j:Nat} (h:j<136):(padB M).getD (136*(M.length / 136)+j) 0=(qbs (hrdR M)).getD j 0:=by
 have hl:(hrdR M).length=M.length-136*(M.length / 136):=by rw[hrdR,List.length_drop]
 rw[padB,qi1,qbs,getD_set _ _ _ _ (by simp;omega),qi1,qnz,hrdR,qer,<- hrdR,hl]
 by_cases h1:136*(M.length / 136)+j<M.length
 ·rw[if_pos h1,if_neg (by omega),if_pos (by omega)]
 ·rw[if_neg h1]
  by_cases h2:M.length-136*(M.length / 136)=j
  ·rw[if_pos h2]
   have:136*(M.length / 136)+j-M.length=0:=by omega
   rw[this];rfl
  ·rw[if_neg h2,if_neg (by omega)]
   obtain⟨k,hk⟩ : ∃ k,136*(M.length / 136)+j-M.length=k+1:=⟨136*(M.length / 136)+j-M.length-1,by omega⟩
   rw[hk,List.getD_cons_succ,qnz]
theorem qs3 (M:List Int) {j:Nat} (h:j<136):(qN M).getD (136*(M.length / 136)+j) 0=(qby (hrdR M)).getD j 0:=by
 have e:(padB M).length-1=136*(M.length / 136)+135:=by rw[qeq];omega
 rw[qN,e,qby,getD_set _ _ _ _ (by rw[qeq];omega),getD_set _ _ _ _ (by rw[qs2 (hrdR_lt M)];omega),qnA M (by omega),qnA M h]
 by_cases h1:j=135
 ·subst h1;rw[if_pos rfl,if_pos rfl]
 ·rw[if_neg (by omega),if_neg (by omega)]
theorem qs4 {r:List Int} (hr : ∀ a ∈ r,InB a) : ∀ a ∈ qby r,InB a:=fun a ha=>by
 have hA : ∀ a ∈ qbs r,InB a:=fun a ha=>by
  rcases List.mem_or_eq_of_mem_set ha with h|h
  ·rcases List.mem_append.1 h with h|h
   ·exact hr a h
   ·rw[List.eq_of_mem_replicate h];exact⟨Int.le_refl _,by decide⟩
  ·rw[h];exact⟨by decide,by decide⟩
 rcases List.mem_or_eq_of_mem_set ha with h|h
 ·exact hA a h
 ·rw[h]
  show InB (IntKind.u8.wrap _)
  rw[qgu];exact⟨Int.natCast_nonneg _,by omega⟩
theorem qnB {M:List Int} (hM : ∀ a ∈ M,InB a) : ∀ n,n<=M.length / 136->absR (qN M) n=bytesUp (qT (List.replicate 25 0) M n) 25
 | 0,_=>qsY
 | n+1,h=>by
   rw[absR,qnB hM n (by omega),qT]
   rw[qnx (b:=(M.drop (136*n)).take 136) (by rw[qen,List.length_replicate]) (qgD qc9 _) (qsZ (qny hM _) _) fun j hj=>by
     rw[qs0 hj,qer,qer,qs1 M (by omega)]]
   exact qiZ (by rw[qa1,qen,List.length_replicate]) (qb2 (qgD qc9 _) _)
theorem qs5 {M:List Int} (hM : ∀ a ∈ M,InB a):absR (qN M) ((qN M).length / 136)=bytesUp (qaO (hrdS M) (hrdR M)) 25:=by
 have e:(qN M).length / 136=M.length / 136+1:=by rw[qi0];omega
 rw[e,absR,qnB hM _ (Nat.le_refl _)]
 show qb3 (xorB (bytesUp (hrdS M) 25) _ 136)=_
 rw[qnx (b:=qby (hrdR M)) (hrdS_len M) (hrdS_rng M) (qs4 (qny hM _)) fun j hj=>by
  rw[qer,qs3 M hj]]
 rw[qiZ (by rw[qa1,hrdS_len]) (qb2 (hrdS_rng M) _)]
 rfl
theorem qs6 {s r:List Int} (hs : ∀ a ∈ s,InR a) : ∀ a ∈ qaO s r,InR a:=qgC (qb2 hs _)
theorem qs7 (s r:List Int):(qaO s r).length=s.length:=by rw[qaO,qbx,qa1]
theorem qnC {s:List Int} (hs : ∀ a ∈ s,InR a) : ∀ n,∀ a ∈ pit s n,InR a
 | 0=>hs
 | n+1=>qgC (qnC hs n)
theorem qnD {s:List Int} (ls:s.length=25) (hs : ∀ a ∈ s,InR a) : ∀ n,pitR (bytesUp s 25) n=bytesUp (pit s n) 25
 | 0=>rfl
 | n+1=>by rw[pitR,qnD ls hs n,qiZ (by rw[qgy];exact ls) (qnC hs n)];rfl
theorem qnE {s:List Int} (ls:s.length=25) (hs : ∀ a ∈ s,InR a) : ∀ n,sqR (bytesUp s 25) (n+1)=(bytesUp s 25).take 136++sq s n
 | 0=>by rw[sqR,sqR,sq,List.nil_append,List.append_nil];rfl
 | n+1=>by rw[sqR,qnE ls hs n,sq,qnD ls hs,List.append_assoc]
def tail (M:List Int) (k:Nat):List Int:=tellR (hrdS M) (hrdR M) false++sq (qaf (hrdS M) (hrdR M) false) k
theorem qs8 {M:List Int} (hM : ∀ a ∈ M,InB a) (k:Nat):tail M k=sqR (absR (qN M) ((qN M).length / 136)) (k+1):=by
 rw[qs5 hM,qnE (by rw[qs7,hrdS_len]) (qs6 (hrdS_rng M)),tail,tellR,qaf,if_neg (by decide),if_neg (by decide)]
theorem qs9 {M:List Int} (hM : ∀ a ∈ M,InB a) {k m:Nat} (h:m<=136+136*k):(tail M k).take m=told M m:=by
 rw[qs8 hM,qnw M (by omega)]
end Go.Sx.Tryz.K
end
section
set_option maxHeartbeats 4000000
namespace Go.Sx.Tryz.K
open Go.Proofs
def s26:qe:=fun args=>match args with
 | [.int .i64 n,.rol .u8 xss]=>⟨∀ _:Unit,0<=n/\n<=1099511627776/\xss.length<4611686018427387904/\xss.flatten.length<=70368744177664,List Int × Nat,fun z=>z.1=told xss.flatten n.toNat/\z.1.length<=z.2,fun z =>.fr .u8 z.1 z.2⟩
 | _=>PR.none
theorem c26:Ctr Tryz.prog T glob 69 s26:=by
 refine qaQ T_ok qf qg [(162,s51),(165,s22),(164,s15),(163,s18)] [] (qc c51 (qc c22 (qc c15 (qc c18 qh)))) qi   Tryz.func69 (by rfl) (by kernel_rfl) Tryz.call69 ?_ ?_
 ·intro args;unfold s26;split
  ·exact qav ⟨trivial,trivial,trivial⟩ fun _=>⟨(told _ _,(told _ _).length),rfl,Nat.le_refl _⟩
  ·exact PR.good_none
 ·intro P Ω hΩ hE hI hm args pr hs hp Q hQ
  unfold s26 at hs
  split at hs<;>subst hs<;>try (exact hp.elim)
  rename_i n xss
  obtain⟨n0,n1,lx,ly⟩:=hp ()
  obtain⟨m,hm'⟩ : ∃ m:Nat,n=m:=⟨n.toNat,by omega⟩
  subst hm'
  have m1:m<=1099511627776:=by omega
  refine⟨1000,?_⟩
  obtain⟨L,hL⟩ : ∃ L,L=xss.length:=⟨_,rfl⟩
  have hL2:Ω.len2 xss=L:=by subst hΩ;exact hL.symm
  cbv
  refine qn hE hI hm (fun x:Nat × List Int × Nat × Nat=>(mkT 72 [(0,.int .i64 m),(1,.rol .u8 xss),(4,.val (.slice none 0 0)),(5,.sl 24 1 (.l 0) (.s x.2.2.1) (.s x.2.2.2)),(6,.int .i64 x.1)],[(24,.seq .u8 x.2.1)])) (fun x=>x.1<=L/\x.2.1=(xss.take x.1).flatten/\x.2.2.1=x.2.1.length/\x.2.2.1<=x.2.2.2) (fun x=>L-x.1) 1 ⟨(0,[],0,0),[none],⟨Nat.zero_le _,by simp,rfl,Nat.le_refl _⟩,by decide,?_⟩ fun x hj=>⟨1000,?_⟩
  ·cbv
  obtain⟨i,a,la,ca⟩:=x
  obtain⟨j1,j2,j3,j4⟩:i<=L/\a=(xss.take i).flatten/\la=a.length/\la<=ca:=hj
  cbv
  constructor
  ·intro hc
   cbv
   rw[hΩ]at hc;simp (disch:=omega) only[Om.real,qb,decide_eq_true_eq,decide_eq_false_iff_not]at hc
   repeat (refine⟨by ((try intro _);(try subst hΩ);simp (disch:=omega) only[Om.real,qb,SN.v];omega),?_⟩)
   have hi:i<xss.length:=by omega
   have htk:(xss.take (i+1)).flatten=a++xss.getD i []:=by
    rw[List.take_succ_eq_append_getElem hi,List.flatten_append,j2]
    simp[List.getD,hi]
   have h1:(xss.take (i+1)).flatten.length<=xss.flatten.length:=by
    conv=>rhs;rw[<- List.take_append_drop (i+1) xss,List.flatten_append,List.length_append]
    omega
   rw[htk,List.length_append]at h1
   obtain⟨b,hb⟩ : ∃ b,b=xss.getD i []:=⟨_,rfl⟩
   have hAt:Ω.at2 xss (Ω.toN (Int.ofNat i))=b:=by rw[hb];subst hΩ;rfl
   have hLn:Ω.len (Ω.at2 xss (Ω.toN (Int.ofNat i)))=b.length:=by rw[hAt];subst hΩ;rfl
   rw[<- hb]at h1 htk
   constructor
   ·exact fun _=>by show(la+Ω.len (Ω.at2 xss (Ω.toN (Int.ofNat i))))*1<=140737488355328;rw[hLn];omega
   constructor
   ·exact fun _=>⟨by show 0+la*1<=a.length;omega,trivial⟩
   intro cap2 hcap2
   have hcap2:la+b.length<=cap2:=by rw[<- hLn];exact hcap2
   obtain⟨a2,ha2⟩ : ∃ a2,a2=a++b:=⟨_,rfl⟩
   obtain⟨l2,hl2⟩ : ∃ l2,l2=la+b.length:=⟨_,rfl⟩
   have f0:Ω.nadd la (Ω.len (Ω.at2 xss (Ω.toN (Int.ofNat i))))=l2:=by rw[hLn,hl2];subst hΩ;rfl
   have f1:Ω.cat (Ω.sub a 0 la) (Ω.at2 xss (Ω.toN (Int.ofNat i)))=a2:=by
    rw[hAt,ha2];subst hΩ
    show(a.drop 0).take la++b=_
    rw[List.drop_zero,j3,List.take_length]
   cbv
   refine⟨(i+1,a2,l2,cap2),[some 104],⟨by show i+1<=L;omega,by show a2=_;rw[htk,ha2],by show l2=a2.length;rw[ha2,List.length_append,hl2,j3],by show l2<=cap2;omega⟩,by show L-(i+1)<L-i;omega,by show 1<=8*1;omega,?_⟩
   cbv
   refine⟨f0,?_,f1⟩
   subst hΩ
   exact qfc i 1 (by show i+1<9223372036854775808;omega)
  ·intro hc
   cbv
   rw[hΩ]at hc;simp (disch:=omega) only[Om.real,qb,decide_eq_true_eq,decide_eq_false_iff_not]at hc
   have hiL:i=xss.length:=by omega
   have hsub:Ω.sub a 0 la=a:=by rw[j3];subst hΩ;exact List.take_length
   have ha:a=xss.flatten:=by rw[j2,hiL,List.take_length]
   constructor
   ·exact fun _=>⟨by show 0+la<=a.length;omega,trivial⟩
   constructor
   ·exact fun _ _=>by show(Ω.sub a 0 la).length<=_;rw[hsub,ha];exact ly
   intro z hz
   obtain⟨F,cF⟩:=z
   obtain⟨hF,hcF⟩:F=qN (Ω.sub a 0 la)/\F.length<=cF:=hz
   rw[hsub,ha]at hF
   have hFl:F.length=136*(xss.flatten.length / 136+1):=by rw[hF,qi0]
   obtain⟨lF,hlF⟩ : ∃ lF,lF=F.length:=⟨_,rfl⟩
   have hlF2:Ω.len F=lF:=by subst hΩ;exact hlF.symm
   cbv
   refine qn hE hI hm (fun x:Nat × List Int × Nat × Nat=>(mkT 72 [(0,.int .i64 m),(4,.val (.slice none 0 0)),(5,.sl 72 1 (.l 0) (.s lF) (.s cF)),(7,.sl 112 1 (.l 0) (.s x.2.2.1) (.s x.2.2.2)),(8,.int .i64 ((136*x.1:Nat):Int))],[(112,.seq .u8 x.2.1),(72,.seq .u8 F)])) (fun x=>x.1<=xss.flatten.length / 136+1/\x.2.1=absR F x.1/\x.2.2.1=200/\200<=x.2.2.2) (fun x=>xss.flatten.length / 136+1-x.1) 1 ⟨(0,List.replicate 200 0,200,200),[some 88],⟨Nat.zero_le _,rfl,rfl,Nat.le_refl _⟩,by decide,?_⟩ fun x hj=>⟨1000,?_⟩
   ·cbv
    exact⟨hlF2,rfl,by subst hΩ;rfl,trivial⟩
   obtain⟨j,s,ls,cs⟩:=x
   obtain⟨k1,k2,k3,k4⟩:j<=xss.flatten.length / 136+1/\s=absR F j/\ls=200/\200<=cs:=hj
   obtain⟨J,hJ⟩ : ∃ J,J=136*j:=⟨_,rfl⟩
   rw[<- hJ]
   cbv
   constructor
   ·intro hd
    cbv
    rw[hΩ]at hd;simp (disch:=omega) only[Om.real,qb,decide_eq_true_eq,decide_eq_false_iff_not]at hd
    have hJl:J+136<=F.length:=by omega
    refine qn hE hI hm (fun x:Nat × List Int=>(mkT 72 [(0,.int .i64 m),(4,.val (.slice none 0 0)),(5,.sl 72 1 (.l 0) (.s lF) (.s cF)),(7,.sl 112 1 (.l 0) (.s ls) (.s cs)),(8,.int .i64 J),(9,.int .i64 x.1)],[(112,.seq .u8 x.2),(72,.seq .u8 F)])) (fun x=>x.1<=136/\x.2=xorB s (F.drop J) x.1) (fun x=>136-x.1) 0 ⟨(0,s),[],⟨Nat.zero_le _,rfl⟩,Nat.le_refl _,?_⟩ fun x hj=>⟨1000,?_⟩
    ·cbv
     exact⟨rfl,trivial⟩
    obtain⟨k,t⟩:=x
    obtain⟨q1,q2⟩:k<=136/\t=xorB s (F.drop J) k:=hj
    have htl:t.length=200:=by rw[q2,qeo,k2,qgB]
    cbv
    constructor
    ·intro he
     cbv
     rw[hΩ]at he;simp (disch:=omega) only[Om.real,qb,decide_eq_true_eq,decide_eq_false_iff_not]at he
     repeat (refine⟨by ((try intro _);(try subst hΩ);simp (disch:=omega) only[Om.real,qb,SN.v];omega),?_⟩)
     obtain⟨t2,ht2⟩ : ∃ t2,t2=xorB s (F.drop J) (k+1):=⟨_,rfl⟩
     refine⟨(k+1,t2),[],⟨by show k+1<=136;omega,ht2⟩,by show 136-(k+1)<136-k;omega,by show 0<=8*0;omega,?_⟩
     cbv
     subst hΩ
     simp (disch:=omega) only[Om.real,qb]
     rw[ht2,xorB,<- q2,qer]
     exact⟨trivial,rfl,trivial⟩
    ·intro he
     cbv
     rw[hΩ]at he;simp (disch:=omega) only[Om.real,qb,decide_eq_true_eq,decide_eq_false_iff_not]at he
     have hk:k=136:=by omega
     have hsub:Ω.sub t 0 ls=t:=by subst hΩ;show(t.drop 0).take ls=t;rw[List.drop_zero,List.take_of_length_le (by omega)]
     constructor
     ·exact fun _=>⟨by show 0+ls<=t.length;omega,trivial⟩
     constructor
     ·exact fun _ _=>by show(Ω.sub t 0 ls).length=200;rw[hsub,htl]
     intro s1 hs1
     have hs1:s1=qam (Ω.sub t 0 ls) 25:=hs1
     rw[hsub]at hs1
     have ls1:s1.length=25:=by rw[hs1,qcq]
     cbv
     constructor
     ·exact fun _ _=>ls1
     intro s2 hs2
     have hs2:s2=qc4 s1:=hs2
     have ls2:s2.length=25:=by rw[hs2,<- qiR s1 ls1,qbx,ls1]
     cbv
     constructor
     ·exact fun _ _=>ls2
     intro z hz
     obtain⟨s3,c3⟩:=z
     obtain⟨hs3,hc3⟩:s3=qa2 s2 25/\200<=c3:=hz
     have hst:s3=absR F (j+1):=by rw[absR,qb3,hs3,hs2,hs1,q2,hk,k2,hJ]
     have ls3:s3.length=200:=by rw[hst,qgB]
     cbv
     obtain⟨J2,hJ2⟩ : ∃ J2,J2=136*(j+1):=⟨_,rfl⟩
     obtain⟨l3,hl3⟩ : ∃ l3,l3=200:=⟨_,rfl⟩
     refine⟨(j+1,s3,l3,c3),[some 200],⟨by show j+1<=xss.flatten.length / 136+1;omega,hst,hl3,by show 200<=c3;omega⟩,by show xss.flatten.length / 136+1-(j+1)<xss.flatten.length / 136+1-j;omega,by show 1<=8*1;omega,?_⟩
     show entP _ _ _ (mkT 72 [(0,.int .i64 m),(4,.val (.slice none 0 0)),(5,.sl 72 1 (.l 0) (.s lF) (.s cF)),(7,.sl 112 1 (.l 0) (.s l3) (.s c3)),(8,.int .i64 ((136*(j+1):Nat):Int))],([(112,.seq .u8 s3),(72,.seq .u8 F)]:List (Nat × SVal))).1 (mkT 72 [(0,.int .i64 m),(4,.val (.slice none 0 0)),(5,.sl 72 1 (.l 0) (.s lF) (.s cF)),(7,.sl 112 1 (.l 0) (.s l3) (.s c3)),(8,.int .i64 ((136*(j+1):Nat):Int))],([(112,.seq .u8 s3),(72,.seq .u8 F)]:List (Nat × SVal))).2
     rw[<- hJ2]
     cbv
     subst hΩ
     refine⟨ls3.trans hl3.symm,?_,trivial⟩
     rw[hJ2]
     simp (disch:=omega) only[Om.real,qb]
     omega
   ·intro hd
    cbv
    rw[hΩ]at hd;simp (disch:=omega) only[Om.real,qb,decide_eq_true_eq,decide_eq_false_iff_not]at hd
    have hje:j=(qN xss.flatten).length / 136:=by rw[qi0];omega
    rw[hje,hF]at k2
    have lsS:s.length=200:=by rw[k2,qgB]
    have hT : ∀ k,m<=136*k->(sqR s k).take m=told xss.flatten m:=fun k h=>by rw[k2];exact qnw _ h
    refine qn hE hI hm (fun x:Nat × List Int × Nat × Nat × List Int × Nat × Nat=>(mkT 72 [(0,.int .i64 m),(7,.sl 161 1 (.l 0) (.s x.2.2.2.2.2.1) (.s x.2.2.2.2.2.2)),(10,.sl 160 1 (.l 0) (.s x.2.2.1) (.s x.2.2.2.1))],[(161,.seq .u8 x.2.2.2.2.1),(160,.seq .u8 x.2.1)])) (fun x=>x.2.2.1=x.2.1.length/\x.2.2.1<=x.2.2.2.1/\x.2.1=(sqR s x.1).take m/\x.2.2.2.2.1=pitR s x.1/\x.2.2.2.2.2.1=200/\200<=x.2.2.2.2.2.2) (fun x=>m-x.2.2.1) 1 ⟨(0,[],0,0,s,ls,cs),[none,some 112],⟨rfl,Nat.le_refl _,List.take_nil.symm,rfl,k3,k4⟩,by decide,?_⟩ fun x hj=>⟨1000,?_⟩
    ·cbv
    obtain⟨k,out,lo,co,t,lt,ct⟩:=x
    obtain⟨q1,q2,q3,q4,q5,q6⟩:lo=out.length/\lo<=co/\out=(sqR s k).take m/\t=pitR s k/\lt=200/\200<=ct:=hj
    have htl:t.length=200:=by rw[q4,qiX lsS]
    have hlo:lo=min m (136*k):=by rw[q1,q3,List.length_take,qep lsS]
    cbv
    constructor
    ·intro he
     cbv
     rw[hΩ]at he;simp (disch:=omega) only[Om.real,qb,decide_eq_true_eq,decide_eq_false_iff_not]at he
     have hkm:136*k<m:=by omega
     have hout:out=sqR s k:=by rw[q3,List.take_of_length_le (by rw[qep lsS];omega)]
     obtain⟨kk,hkk⟩ : ∃ kk,kk=min 136 (m-lo):=⟨_,rfl⟩
     have hKI:Ω.imin 136 (Ω.bin .sub .i64 (Int.ofNat m) (Ω.ofN lo))=(kk:Int):=by
      subst hΩ
      show min 136 (binL .sub .i64 (m:Int) (lo:Int))=kk
      rw[qbb _ _ (by omega) (by omega)]
      omega
     have hKK:Ω.toN (Ω.imin 136 (Ω.bin .sub .i64 (Int.ofNat m) (Ω.ofN lo)))=kk:=by
      rw[hKI];subst hΩ;exact Int.toNat_natCast kk
     have a1:0<=Ω.imin 136 (Ω.bin .sub .i64 (Int.ofNat m) (Ω.ofN lo)):=by rw[hKI];omega
     have a2:0<=Ω.toN (Ω.imin 136 (Ω.bin .sub .i64 (Int.ofNat m) (Ω.ofN lo))):=Nat.zero_le _
     have a3:Ω.toN (Ω.imin 136 (Ω.bin .sub .i64 (Int.ofNat m) (Ω.ofN lo)))<=ct:=by omega
     have a5:(lo+Ω.toN (Ω.imin 136 (Ω.bin .sub .i64 (Int.ofNat m) (Ω.ofN lo))))*1<=140737488355328:=by omega
     have a6:0+lo*1<=out.length:=by omega
     have a7:0+Ω.toN (Ω.imin 136 (Ω.bin .sub .i64 (Int.ofNat m) (Ω.ofN lo)))*1<=t.length:=by omega
     constructor
     ·exact fun _=>⟨trivial,a1,trivial,a2,a3,Nat.le_refl _⟩
     constructor
     ·exact fun _=>a5
     constructor
     ·exact fun _=>⟨a6,a7⟩
     intro cap2 hcap2
     have hcap2:lo+kk<=cap2:=by rw[<- hKK];exact hcap2
     have hsub:Ω.sub t 0 lt=t:=by subst hΩ;show(t.drop 0).take lt=t;rw[List.drop_zero,List.take_of_length_le (by omega)]
     cbv
     constructor
     ·exact fun _=>⟨by show 0+lt<=t.length;omega,trivial⟩
     constructor
     ·exact fun _ _=>by show(Ω.sub t 0 lt).length=200;rw[hsub,htl]
     intro s1 hs1
     have hs1:s1=qam (Ω.sub t 0 lt) 25:=hs1
     rw[hsub]at hs1
     have ls1:s1.length=25:=by rw[hs1,qcq]
     cbv
     constructor
     ·exact fun _ _=>ls1
     intro s2 hs2
     have hs2:s2=qc4 s1:=hs2
     have ls2:s2.length=25:=by rw[hs2,<- qiR s1 ls1,qbx,ls1]
     cbv
     constructor
     ·exact fun _ _=>ls2
     intro z hz
     obtain⟨s3,c3⟩:=z
     obtain⟨hs3,hc3⟩:s3=qa2 s2 25/\200<=c3:=hz
     have hst:s3=pitR s (k+1):=by rw[pitR,qb3,hs3,hs2,hs1,q4]
     have ls3:s3.length=200:=by rw[hst,qiX lsS]
     obtain⟨l3,hl3⟩ : ∃ l3,l3=200:=⟨_,rfl⟩
     obtain⟨lo2,hlo2⟩ : ∃ x,x=lo+kk:=⟨_,rfl⟩
     obtain⟨out2,ho2⟩ : ∃ x,x=out++t.take kk:=⟨_,rfl⟩
     have e1:Ω.nadd lo (Ω.toN (Ω.imin 136 (Ω.bin .sub .i64 (Int.ofNat m) (Ω.ofN lo))))=lo2:=by rw[hKK,hlo2];subst hΩ;rfl
     have e2:Ω.cat (Ω.sub out 0 lo) (Ω.sub t 0 (Ω.toN (Ω.imin 136 (Ω.bin .sub .i64 (Int.ofNat m) (Ω.ofN lo)))))=out2:=by
      rw[hKK,ho2];subst hΩ
      show(out.drop 0).take lo++(t.drop 0).take kk=_
      rw[List.drop_zero,List.drop_zero,List.take_of_length_le (by omega)]
     have e3:Ω.len s3=l3:=by subst hΩ;exact ls3.trans hl3.symm
     have ho3:out2=(sqR s (k+1)).take m:=by
      have h5:List.take m out=out:=List.take_of_length_le (by omega)
      rw[sqR,List.take_append,<- hout,<- q1,h5,<- q4,List.take_take,ho2,hkk,Nat.min_comm]
     have ll2:out2.length=lo2:=by rw[ho2,List.length_append,List.length_take,hlo2,q1];omega
     cbv
     refine⟨(k+1,out2,lo2,cap2,s3,l3,c3),[some 264,some 304],⟨ll2.symm,by show lo2<=cap2;omega,ho3,hst,hl3,by show 200<=c3;omega⟩,by show m-lo2<m-lo;omega,by show 2<=8*1;omega,?_⟩
     cbv
     exact⟨e3,e1,e2⟩
    ·intro he
     cbv
     rw[hΩ]at he;simp (disch:=omega) only[Om.real,qb,decide_eq_true_eq,decide_eq_false_iff_not]at he
     have hk:m<=136*k:=by omega
     have hout:out=told xss.flatten m:=by rw[q3,hT k hk]
     refine hQ (out,co) _ _ _ ⟨hout,by show out.length<=co;omega⟩ ?_
     refine⟨rfl,rfl,?_,?_⟩
     ·show 0+lo<=out.length
      omega
     ·subst hΩ
      show out=(out.drop 0).take lo
      rw[List.drop_zero,List.take_of_length_le (by omega)]
end Go.Sx.Tryz.K
end
section
namespace Go.Sx.Tryz.K
open Go.Proofs
theorem qta (s r:List Int):(tellR s r false).length=136:=by
 rw[tellR,if_neg (by decide),List.length_take,qae];rfl
theorem qnF (s:List Int) (k:Nat) : ∀ j,pit s (k+j)=pit (pit s k) j
 | 0=>rfl
 | j+1=>by rw[<- Nat.add_assoc,pit,qnF s k j,pit]
theorem qnG (s:List Int) (k:Nat) : ∀ j,sq s (k+j)=sq s k++sq (pit s k) j
 | 0=>by rw[Nat.add_zero,sq,List.append_nil]
 | j+1=>by rw[<- Nat.add_assoc,sq,qnG s k j,sq,List.append_assoc,Nat.add_assoc,qnF s k (j+1)]
def tsS (M:List Int):List Int:=qaf (hrdS M) (hrdR M) false
theorem qtb (M:List Int) (k j:Nat):tail M (k+j)=tail M k++sq (pit (tsS M) k) j:=by
 rw[tail,qnG,<- List.append_assoc,<- tail];rfl
theorem qnH (M:List Int) (k:Nat):(tail M k).length=136+136*k:=by
 rw[tail,List.length_append,qta,qgz]
def tl (M:List Int) (n:Nat):List Int:=(tail M n).take n
theorem qtc (M:List Int) {m a b:Nat} (ha:m<=136+136*a) (hb:m<=136+136*b):(tail M a).take m=(tail M b).take m:=by
 have key : ∀ a b,a<=b->m<=136+136*a->(tail M a).take m=(tail M b).take m:=fun a b hab ha=>by
  obtain⟨j,rfl⟩ : ∃ j,b=a+j:=⟨b-a,by omega⟩
  rw[qtb,List.take_append_of_le_length (by rw[qnH];omega)]
 rcases Nat.le_total a b with h1|h1
 ·exact key a b h1 ha
 ·exact(key b a h1 hb).symm
theorem qtd (M:List Int) {m k:Nat} (h:m<=136+136*k):(tail M k).take m=tl M m:=qtc M h (by omega)
theorem tl_len (M:List Int) (n:Nat):(tl M n).length=n:=by
 rw[tl,List.length_take,qnH];omega
theorem tl_told {M:List Int} (hM : ∀ a ∈ M,InB a) (n:Nat):tl M n=told M n:=qs9 hM (by omega)
theorem sum_of {n:Int} {xss:List (List Int)} {z:RdRes} (h:(s25 [.int .i64 n,.rol .u8 xss]).post z) :
  (badN n->z.out=[]/\z.er=10)/\(¬ badN n->z.er=0/\z.out=tl xss.flatten n.toNat/\z.out.length<=z.c):=by
 have h:if badN n then z.out=[]/\z.er=10 else z.er=0/\z.out=(tellR (hrdS xss.flatten) (hrdR xss.flatten) false++sq (qaf (hrdS xss.flatten) (hrdR xss.flatten) false) z.k).take n.toNat/\n.toNat<=136+136*z.k/\z.out.length<=z.c:=h
 refine⟨fun hb=>by rwa[if_pos hb]at h,fun hb => ?_⟩
 rw[if_neg hb]at h
 exact⟨h.1,by rw[h.2.1];exact qtd _ h.2.2.1,h.2.2.2⟩
end Go.Sx.Tryz.K
end
