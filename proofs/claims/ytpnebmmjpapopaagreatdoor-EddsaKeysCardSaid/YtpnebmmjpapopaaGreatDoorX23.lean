/-
  Part of the proof of a statement: the means.
-/
import Derived.Test.YtpnebmmjpapopaaGreatDoorX8
import Derived.Laws.Bits64
import Derived.KernelRfl
set_option linter.unusedSectionVars false
set_option linter.unusedVariables false
set_option linter.unusedSimpArgs false
set_option linter.deprecated false
section
namespace Go.Sx
namespace Tryz.K
open Go.Proofs
def rotl (x k:Int):Int :=
 binL .or .u64 (binL .shl .u64 x (binL .and .u64 (IntKind.u64.wrap k) 63)) (binL .shr .u64 x (binL .sub .u64 64 (binL .and .u64 (IntKind.u64.wrap k) 63)))
def s57:qe:=fun args=>match args with
 | [.int .u64 x,.int .i64 k]=>⟨True,Int,fun z=>z=rotl x k,fun z =>.int .u64 z⟩
 | _=>PR.none
theorem c57:Ctr Tryz.prog T glob 263 s57:=by
 refine qaQ T_ok qf qg [] [] (by simp) (by simp) Tryz.func263 (by rfl) (by kernel_rfl) Tryz.call263 ?_ ?_
 ·intro args;unfold s57;split<;>first|exact PR.good_none|exact qic ⟨trivial,trivial,trivial⟩ fun _=>⟨_,rfl⟩
 ·intro P Ω hΩ hE hI hm args pr hs hp Q hQ
  unfold s57 at hs
  split at hs<;>subst hs<;>try (exact hp.elim)
  rename_i x k
  refine⟨1000,?_⟩
  cbv
  subst hΩ
  exact⟨fun _=>qia _,fun _=>qia _,hQ _ _ _ _ rfl ⟨rfl,rfl⟩⟩
def dcol (c:List Int) (x:Int):Int:=binL .xor .u64 (c.getD ((x+4) % 5).toNat 0) (rotl (c.getD ((x+1) % 5).toNat 0) 1)
def s56:qe:=fun args=>match args with
 | [.int .i64 x,.rop (.row .u64 5 c) (.l 0)]=>⟨∀ _:Unit,0<=x/\x<5,Int,fun z=>z=dcol c x,fun z =>.int .u64 z⟩
 | _=>PR.none
theorem c56:Ctr Tryz.prog T glob 262 s56:=by
 refine qaQ T_ok qf qg [(263,s57)] [] (by simpa using c57) (by simp) Tryz.func262 (by rfl) (by kernel_rfl) Tryz.call262 ?_ ?_
 ·intro args;unfold s56;split<;>first|exact PR.good_none|exact qic ⟨trivial,trivial,trivial⟩ fun _=>⟨_,rfl⟩
 ·intro P Ω hΩ hE hI hm args pr hs hp Q hQ
  unfold s56 at hs
  split at hs<;>subst hs<;>try (exact hp.elim)
  rename_i x c
  refine⟨1000,?_⟩
  cbv
  obtain⟨h0,h5⟩:=hp ()
  have r : ∀ a:Int,0<=a->a<=4->binL .rem .i64 (binL .add .i64 x a) 5=(x+a) % 5:=fun a ha hb=>by
   show(IntKind.i64.wrap (x+a)).tmod 5=(x+a) % 5
   rw[IntKind.wrap_i64,Int.tmod_eq_emod_of_nonneg (by omega)]
   omega
  have r4:=r 4 (by omega) (by omega)
  have r1:=r 1 (by omega) (by omega)
  refine⟨fun _ => ?_,fun _ => ?_,fun _ => ?_,fun _ => ?_,fun _=>trivial,fun z hz => ?_⟩
  ·subst hΩ;simp only[Om.real,r4];exact⟨by omega,(by omega:(x+4) % 5<5)⟩
  ·subst hΩ;simp only[Om.real,r4];omega
  ·subst hΩ;simp only[Om.real,r1];exact⟨by omega,(by omega:(x+1) % 5<5)⟩
  ·subst hΩ;simp only[Om.real,r1];omega
  ·cbv
   refine hQ _ _ _ _ ?_ ⟨rfl,rfl⟩
   subst hΩ
   simp only[Om.real,r1]at hz
   simp only[Om.real,r4,hz]
   rfl
end Tryz.K
end Go.Sx
end
section
namespace Go.Sx.Tryz.K
open Go.Proofs
def qaq (s:List Int):Nat->List Int
 | 0=>List.replicate 5 0
 | i+1=>(qaq s i).set (i % 5) (binL .xor .u64 ((qaq s i).getD (i % 5) 0) (s.getD i 0))
def qaY (s c:List Int):Nat->List Int
 | 0=>s
 | i+1=>(qaY s c i).set i (binL .xor .u64 ((qaY s c i).getD i 0) (dcol c (i % 5:Nat)))
def mix (s:List Int):List Int:=qaY s (qaq s 25) 25
def qaz (s:List Int):Nat->Int × List Int
 | 0=>(s.getD 1 0,s)
 | i+1=>((qaz s i).2.getD (way.getD i 0).toNat 0,(qaz s i).2.set (way.getD i 0).toNat (rotl (qaz s i).1 (offsets.getD i 0)))
def move (s:List Int):List Int:=(qaz s 24).2
def qbq (row:List Int) (y:Nat) (s:List Int):Nat->List Int
 | 0=>s
 | n+1=>(qbq row y s n).set (y+n) (binL .xor .u64 (row.getD n 0) (binL .and .u64 (unL .xor .u64 (row.getD ((n+1) % 5) 0)) (row.getD ((n+2) % 5) 0)))
def qbf (s:List Int):Nat->List Int
 | 0=>s
 | q+1=>qbq (((qbf s q).drop (5*q)).take 5) (5*q) (qbf s q) 5
def bend (s:List Int):List Int:=qbf s 5
theorem qmK (row:List Int) (y:Nat) (s:List Int) : ∀ n,(qbq row y s n).length=s.length
 | 0=>rfl
 | n+1=>by simp only[qbq,List.length_set];exact qmK row y s n
theorem qmL (s:List Int) : ∀ q,(qbf s q).length=s.length
 | 0=>rfl
 | q+1=>by simp only[qbf];rw[qmK];exact qmL s q
theorem qiI (s c:List Int) : ∀ n,(qaY s c n).length=s.length
 | 0=>rfl
 | n+1=>by simp only[qaY,List.length_set];exact qiI s c n
theorem qiJ (s:List Int) : ∀ n,(qaz s n).2.length=s.length
 | 0=>rfl
 | n+1=>by simp only[qaz,List.length_set];exact qiJ s n
def turn (s:List Int) (i:Nat):List Int:=(bend (move (mix s))).set 0 (binL .xor .u64 ((bend (move (mix s))).getD 0 0) (constants.getD i 0))
def qaZ (s:List Int):Nat->List Int
 | 0=>s
 | i+1=>turn (qaZ s i) i
def qbg (s:List Int):List Int:=qaZ s 24
theorem qsn (s:List Int) (i:Nat):(turn s i).length=s.length:=by
 simp only[turn,List.length_set,bend,qmL,move,qiJ,mix,qiI]
theorem qgj (s:List Int) : ∀ n,(qaZ s n).length=s.length
 | 0=>rfl
 | n+1=>by simp only[qaZ];rw[qsn];exact qgj s n
theorem rem5 (j:Nat):binL .rem .i64 (Int.ofNat j) 5=((j % 5:Nat):Int):=by
 show(Int.ofNat j).tmod 5=_
 rw[Int.ofNat_eq_natCast,Int.tmod_eq_emod_of_nonneg (Int.natCast_nonneg j)]
 omega
theorem qaE (j:Nat) (h:j<1000000000):binL .add .i64 (Int.ofNat j) 1=((j+1:Nat):Int):=by
 show IntKind.i64.wrap (Int.ofNat j+1)=_
 rw[IntKind.wrap_i64,Int.ofNat_eq_natCast]
 omega
theorem remk (j k:Nat) (h:j<1000000000) (hk:k<1000000000):binL .rem .i64 (binL .add .i64 (Int.ofNat j) (Int.ofNat k)) 5=(((j+k) % 5:Nat):Int):=by
 show(IntKind.i64.wrap (Int.ofNat j+Int.ofNat k)).tmod 5=_
 rw[IntKind.wrap_i64,Int.ofNat_eq_natCast,Int.ofNat_eq_natCast,Int.tmod_eq_emod_of_nonneg (by omega)]
 omega
theorem addk (j k:Nat) (h:j<1000000000) (hk:k<1000000000):binL .add .i64 (Int.ofNat j) (Int.ofNat k)=((j+k:Nat):Int):=by
 show IntKind.i64.wrap (Int.ofNat j+Int.ofNat k)=_
 rw[IntKind.wrap_i64,Int.ofNat_eq_natCast,Int.ofNat_eq_natCast]
 omega
theorem qa0 {j n:Nat} (h:decide ((j:Int)<(n:Int))=true):j<n:=by
 simp only[decide_eq_true_eq]at h
 omega
theorem qaS {j n:Nat} (h:decide ((j:Int)<(n:Int))=false):n<=j:=by
 simp only[decide_eq_false_iff_not]at h
 omega
theorem qso : ∀ p,p<24->0<=way.getD p 0/\way.getD p 0<25:=by decide
def s14:qe:=fun args=>match args with
 | [.row .u64 25 s]=>⟨∀ _:Unit,s.length=25,List Int,fun z=>z=qbg s,fun z =>.row .u64 25 z⟩
 | _=>PR.none
noncomputable def i14:List (FuncId × Func):=[(256,Tryz.f256),(257,Tryz.f257),(258,Tryz.f258)]
theorem c14:Ctr Tryz.prog T glob 231 s14:=by
 refine qaQ T_ok qf qg [(263,s57),(262,s56)] i14 (qc c57 (qc c56 qh)) (qE Tryz.call256 Tryz.func256 (by kernel_rfl) (qE Tryz.call257 Tryz.func257 (by kernel_rfl) (qE Tryz.call258 Tryz.func258 (by kernel_rfl) qi))) Tryz.func231 (by rfl) (by kernel_rfl) Tryz.call231 ?_ ?_
 ·intro args;unfold s14;split<;>first|exact PR.good_none|exact qfs ⟨trivial,trivial⟩ fun _=>⟨_,rfl⟩
 ·intro P Ω hΩ hE hI hm args pr hs hp Q hQ
  unfold s14 at hs
  split at hs<;>subst hs<;>try (exact hp.elim)
  rename_i s
  refine⟨1000,?_⟩
  cbv
  refine qn hE hI hm (fun x:Nat × List Int=>(mkT 19 [(1,.ptr 0 (.l 0)),(2,.ptr 8 (.l 0)),(4,.int .i64 x.1)],[(8,.row .u64 25 (List.replicate 25 0)),(0,.row .u64 25 x.2)])) (fun x=>x.1<=24/\x.2=qaZ s x.1) (fun x=>24-x.1) 0 ⟨(0,s),[],⟨Nat.zero_le _,rfl⟩,Nat.le_refl _,by cbv;exact⟨rfl,trivial⟩⟩ fun⟨i,u⟩ hi=>⟨1000,?_⟩
  cbv
  refine⟨fun hc => ?_,fun hc => ?_⟩
  ·cbv
   have hi24:i<24:=by
    subst hΩ
    have h1:decide ((i:Int)<24)=true:=hc
    simp only[decide_eq_true_eq]at h1
    omega
   have hu:u.length=25:=by
    have:u=qaZ s i:=hi.2
    rw[this,qgj];exact hp ()
   refine qn hE hI hm (fun x:Nat × List Int=>(mkT 39 [(0,.ptr 0 (.l 0)),(2,.ptr 56 (.l 0)),(7,.ptr 0 (.l 0)),(8,.int .i64 x.1)],[(56,.row .u64 5 x.2),(8,.row .u64 25 (List.replicate 25 0)),(0,.row .u64 25 u)])) (fun x=>x.1<=25/\x.2=qaq u x.1) (fun x=>25-x.1) 0 ⟨(0,List.replicate 5 0),[],⟨Nat.zero_le _,rfl⟩,Nat.le_refl _,?_⟩ fun⟨j,c⟩ hj=>⟨1000,?_⟩
   ·cbv
    exact⟨rfl,trivial⟩
   ·cbv
    obtain⟨hj1,hj2⟩:j<=25/\c=qaq u j:=hj
    refine⟨fun hd => ?_,fun hd => ?_⟩
    ·cbv
     have hj25:j<25:=by subst hΩ;exact qa0 hd
     obtain⟨c',hc'⟩ : ∃ c',c'=qaq u (j+1):=⟨_,rfl⟩
     refine⟨fun _ => ?_,fun _ => ?_,fun _ => ?_,fun _ => ?_,fun _ => ?_,fun _ => ?_,(j+1,c'),[],⟨hj25,hc'⟩,by simp only;omega,Nat.zero_le _,?_⟩
     ·exact⟨Int.natCast_nonneg j,Int.ofNat_lt.2 hj25⟩
     ·subst hΩ;simp only[Om.real,Int.ofNat_eq_natCast,Int.toNat_natCast];omega
     ·subst hΩ;simp only[Om.real,rem5];exact⟨Int.natCast_nonneg _,Int.ofNat_lt.2 (by show j % 5<5;omega)⟩
     ·subst hΩ;simp only[Om.real,rem5,Int.toNat_natCast];omega
     ·subst hΩ;simp only[Om.real,rem5];exact⟨Int.natCast_nonneg _,Int.ofNat_lt.2 (by show j % 5<5;omega)⟩
     ·subst hΩ;simp only[Om.real,rem5,Int.toNat_natCast];omega
     ·cbv
      subst hΩ
      refine⟨qaE j (by omega),?_,trivial⟩
      simp only[Om.real,rem5,Int.toNat_natCast]
      rw[hc',hj2]
      rfl
    ·cbv
     have hj25:j=25:=by
      have h1:25<=j:=by subst hΩ;exact qaS hd
      omega
     have hcc:c=qaq u 25:=by rw[hj2,hj25]
     refine qn hE hI hm (fun x:Nat × List Int=>(mkT 39 [(0,.ptr 0 (.l 0)),(2,.ptr 56 (.l 0)),(5,.fn 262 [] [.ptr 56 (.l 0)]),(23,.int .i64 x.1)],[(56,.row .u64 5 c),(8,.row .u64 25 (List.replicate 25 0)),(0,.row .u64 25 x.2)])) (fun x=>x.1<=25/\x.2=qaY u c x.1) (fun x=>25-x.1) 0 ⟨(0,u),[],⟨Nat.zero_le _,rfl⟩,Nat.le_refl _,?_⟩ fun⟨l,v⟩ hl=>⟨1000,?_⟩
     ·cbv
      exact⟨rfl,trivial⟩
     ·cbv
      obtain⟨hl1,hl2⟩:l<=25/\v=qaY u c l:=hl
      refine⟨fun he => ?_,fun he => ?_⟩
      ·cbv
       have hl25:l<25:=by subst hΩ;exact qa0 he
       obtain⟨v',hv'⟩ : ∃ v',v'=qaY u c (l+1):=⟨_,rfl⟩
       refine⟨fun _ => ?_,fun _ => ?_,fun _ _ => ?_,fun z hz => ?_⟩
       ·exact⟨Int.natCast_nonneg l,Int.ofNat_lt.2 hl25⟩
       ·subst hΩ;simp only[Om.real,Int.ofNat_eq_natCast,Int.toNat_natCast];omega
       ·subst hΩ;simp only[Om.real,rem5];omega
       ·cbv
        refine⟨fun _ => ?_,fun _ => ?_,(l+1,v'),[],⟨hl25,hv'⟩,by simp only;omega,Nat.zero_le _,?_⟩
        ·exact⟨Int.natCast_nonneg l,Int.ofNat_lt.2 hl25⟩
        ·subst hΩ;simp only[Om.real,Int.ofNat_eq_natCast,Int.toNat_natCast];omega
        ·cbv
         subst hΩ
         refine⟨qaE l (by omega),?_⟩
         simp only[Om.real,rem5]at hz ⊢
         rw[hv',hz,hl2]
         rfl
      ·cbv
       have hl25:l=25:=by
        have h1:25<=l:=by subst hΩ;exact qaS he
        omega
       have hv:v=mix u:=by rw[hl2,hl25,hcc];rfl
       obtain⟨l0,hl0⟩ : ∃ l0,l0=v.getD 1 0:=⟨_,rfl⟩
       refine qn hE hI hm (fun x:Nat × Int × List Int=>(mkT 29 [(0,.ptr 0 (.l 0)),(2,.int .u64 x.2.1),(9,.row .i64 24 way),(10,.int .i64 x.1)],[(8,.row .u64 25 (List.replicate 25 0)),(0,.row .u64 25 x.2.2)])) (fun x=>x.1<=24/\x.2=qaz (mix u) x.1) (fun x=>24-x.1) 0 ⟨(0,l0,v),[],⟨Nat.zero_le _,by rw[hl0,hv];rfl⟩,Nat.le_refl _,?_⟩ fun⟨p,a,t⟩ hq=>⟨1000,?_⟩
       ·cbv
        subst hΩ
        exact⟨hl0.symm,rfl,trivial⟩
       ·cbv
        obtain⟨hp1,hp2⟩:p<=24/\(a,t)=qaz (mix u) p:=hq
        refine⟨fun hf => ?_,fun hf => ?_⟩
        ·cbv
         have hp24:p<24:=by subst hΩ;exact qa0 hf
         have hw:=qso p hp24
         obtain⟨r',hr'⟩ : ∃ r',r'=qaz (mix u) (p+1):=⟨_,rfl⟩
         obtain⟨a',t'⟩:=r'
         refine⟨fun _ => ?_,fun _ => ?_,fun _ => ?_,fun _ => ?_,fun _ => ?_,fun _=>trivial,fun z hz => ?_⟩
         ·exact⟨Int.natCast_nonneg p,Int.ofNat_lt.2 hp24⟩
         ·subst hΩ;exact hw
         ·subst hΩ;show(way.getD p 0).toNat+1<=25;omega
         ·exact⟨Int.natCast_nonneg p,Int.ofNat_lt.2 hp24⟩
         ·subst hΩ;show p+1<=24;omega
         ·cbv
          refine⟨fun _ => ?_,fun _ => ?_,(p+1,a',t'),[],⟨hp24,hr'⟩,by simp only;omega,Nat.zero_le _,?_⟩
          ·subst hΩ;exact hw
          ·subst hΩ;show(way.getD p 0).toNat<25;omega
          ·cbv
           subst hΩ
           have hr2:(a',t')=(t.getD (way.getD p 0).toNat 0,t.set (way.getD p 0).toNat (rotl a (offsets.getD p 0))):=by
            rw[hr']
            show((qaz (mix u) p).2.getD (way.getD p 0).toNat 0,(qaz (mix u) p).2.set (way.getD p 0).toNat (rotl (qaz (mix u) p).1 (offsets.getD p 0)))=_
            rw[<- hp2]
           simp only[Prod.mk.injEq]at hr2
           refine⟨hr2.1.symm,qaE p (by omega),?_⟩
           rw[hr2.2,hz]
           rfl
        ·cbv
         have hp24:p=24:=by
          have h1:24<=p:=by subst hΩ;exact qaS hf
          omega
         have ht:t=move (mix u):=by unfold move;rw[<- hp24,<- hp2]
         have htl:t.length=25:=by rw[ht];simp only[move,qiJ,mix,qiI];exact hu
         refine qn hE hI hm (fun x:Nat × Nat × List Int=>(mkT 42 [(0,.ptr 0 (.l 0)),(2,.int .i64 x.2.1)],[(8,.row .u64 25 (List.replicate 25 0)),(0,.row .u64 25 x.2.2)])) (fun x=>x.1<=5/\x.2.1=5*x.1/\x.2.2=qbf t x.1) (fun x=>5-x.1) 0 ⟨(0,0,t),[],⟨Nat.zero_le _,rfl,rfl⟩,Nat.le_refl _,?_⟩ fun⟨q,y,w⟩ hb=>⟨1000,?_⟩
         ·cbv
          exact⟨rfl,trivial⟩
         ·cbv
          obtain⟨hq1,hy,hq2⟩:q<=5/\y=5*q/\w=qbf t q:=hb
          refine⟨fun hg => ?_,fun hg => ?_⟩
          ·cbv
           have hy25:y<25:=by subst hΩ;exact qa0 hg
           have hq5:q<5:=by omega
           refine⟨fun _ => ?_,fun _ => ?_,fun _ => ?_,?_⟩
           ·subst hΩ;exact⟨Int.natCast_nonneg y,trivial,trivial,(show y<=25 by omega),Nat.le_refl _,Nat.le_refl _⟩
           ·subst hΩ;exact⟨by omega,(show 5<=25-y by omega)⟩
           ·subst hΩ;show y+5<=25;omega
           ·obtain⟨r,hr⟩ : ∃ r,r=(w.drop y).take 5:=⟨_,rfl⟩
            refine qn hE hI hm (fun x:Nat × List Int=>(mkT 42 [(0,.ptr 0 (.l 0)),(2,.int .i64 (Int.ofNat y)),(3,.ptr 272 (.l 0)),(16,.row .u64 5 r),(17,.int .i64 x.1)],[(272,.row .u64 5 r),(8,.row .u64 25 (List.replicate 25 0)),(0,.row .u64 25 x.2)])) (fun x=>x.1<=5/\x.2=qbq r y w x.1) (fun x=>5-x.1) 0 ⟨(0,w),[],⟨Nat.zero_le _,rfl⟩,Nat.le_refl _,?_⟩ fun⟨e,g⟩ hz=>⟨1000,?_⟩
            ·cbv
             subst hΩ
             exact⟨hr.symm,rfl,hr.symm,trivial⟩
            ·cbv
             obtain⟨he1,he2⟩:e<=5/\g=qbq r y w e:=hz
             refine⟨fun hh => ?_,fun hh => ?_⟩
             ·cbv
              have he5:e<5:=by subst hΩ;exact qa0 hh
              obtain⟨g',hg'⟩ : ∃ g',g'=qbq r y w (e+1):=⟨_,rfl⟩
              have r1:=remk e 1 (by omega) (by omega)
              have r2:=remk e 2 (by omega) (by omega)
              have r3:=addk y e (by omega) (by omega)
              have b1:(e+1) % 5<5:=Nat.mod_lt _ (by omega)
              have b2:(e+2) % 5<5:=Nat.mod_lt _ (by omega)
              have e1:Int.ofNat 1=1:=rfl
              have e2:Int.ofNat 2=2:=rfl
              rw[e1]at r1
              rw[e2]at r2
              refine⟨fun _ => ?_,fun _ => ?_,fun _ => ?_,fun _ => ?_,fun _ => ?_,fun _ => ?_,fun _ => ?_,(e+1,g'),[],⟨he5,hg'⟩,by simp only;omega,Nat.zero_le _,?_⟩
              ·exact⟨Int.natCast_nonneg e,Int.ofNat_lt.2 he5⟩
              ·subst hΩ;simp only[Om.real,r1];exact⟨Int.natCast_nonneg _,Int.ofNat_lt.2 b1⟩
              ·subst hΩ;simp only[Om.real,r1,Int.toNat_natCast];omega
              ·subst hΩ;simp only[Om.real,r2];exact⟨Int.natCast_nonneg _,Int.ofNat_lt.2 b2⟩
              ·subst hΩ;simp only[Om.real,r2,Int.toNat_natCast];omega
              ·subst hΩ;simp only[Om.real,r3];exact⟨Int.natCast_nonneg _,Int.ofNat_lt.2 (show y+e<25 by omega)⟩
              ·subst hΩ;simp only[Om.real,r3,Int.toNat_natCast];omega
              ·cbv
               subst hΩ
               refine⟨qaE e (by omega),?_⟩
               simp only[Om.real,r1,r2,r3,Int.toNat_natCast]
               rw[hg',he2]
               rfl
             ·cbv
              have he5:e=5:=by
               have h1:5<=e:=by subst hΩ;exact qaS hh
               omega
              obtain⟨w',hw'⟩ : ∃ w',w'=qbf t (q+1):=⟨_,rfl⟩
              obtain⟨y',hy'⟩ : ∃ y',y'=5*(q+1):=⟨_,rfl⟩
              refine⟨(q+1,y',w'),[],⟨hq5,hy',hw'⟩,by simp only;omega,Nat.zero_le _,?_⟩
              cbv
              subst hΩ
              refine⟨?_,?_⟩
              ·show binL .add .i64 (Int.ofNat y) (Int.ofNat 5)=Int.ofNat y'
               rw[addk y 5 (by omega) (by omega),hy',hy]
               rfl
              ·rw[hw',he2,he5,hr,hy,hq2]
               rfl
          ·cbv
           have hq5:q=5:=by
            have h1:25<=y:=by subst hΩ;exact qaS hg
            omega
           have hwb:w=bend (move (mix u)):=by rw[hq2,hq5,ht];rfl
           obtain⟨u',hu'⟩ : ∃ u',u'=qaZ s (i+1):=⟨_,rfl⟩
           refine⟨fun _ => ?_,fun _ => ?_,(i+1,u'),[],⟨hi24,hu'⟩,by simp only;omega,Nat.zero_le _,?_⟩
           ·exact⟨Int.natCast_nonneg i,Int.ofNat_lt.2 hi24⟩
           ·subst hΩ;show i+1<=24;omega
           ·cbv
            subst hΩ
            refine⟨qaE i (by omega),?_⟩
            have hui:u=qaZ s i:=hi.2
            show w.set 0 (binL .xor .u64 (w.getD 0 0) (constants.getD i 0))=u'
            rw[hu',hwb,hui]
            rfl
  ·cbv
   refine hQ _ _ _ _ ?_ ⟨rfl,rfl,rfl⟩
   have hi25:i=24:=by
    have h1:24<=i:=by subst hΩ;exact qaS hc
    have h2:i<=24:=hi.1
    omega
   have h3:u=qaZ s i:=hi.2
   show u=qbg s
   rw[h3,hi25]
   rfl
end Go.Sx.Tryz.K
end
section
namespace Go.Sx.Tryz.K
open Go.Proofs
def qbZ (a k:Int):Int:=if k=0 then a else binL .or .u64 (binL .shl .u64 a k) (binL .shr .u64 a (64-k))
def s50:qe:=fun args=>match args with
 | [.int .u64 a,.int .i64 k]=>⟨∀ _:Unit,0<=k/\k<64,Int,fun z=>z=qbZ a k,fun z =>.int .u64 z⟩
 | _=>PR.none
theorem c50:Ctr Tryz.prog T glob 240 s50:=by
 refine qaQ T_ok qf qg [] [] qh qi Tryz.func240 (by rfl) (by kernel_rfl) Tryz.call240 ?_ ?_
 ·intro args;unfold s50;split<;>first|exact PR.good_none|exact qic ⟨trivial,trivial,trivial⟩ fun _=>⟨_,rfl⟩
 ·intro P Ω hΩ hE hI hm args pr hs hp Q hQ
  unfold s50 at hs
  split at hs<;>subst hs<;>try (exact hp.elim)
  rename_i a k
  obtain⟨h0,h64⟩:=hp ()
  refine⟨1000,?_⟩
  cbv
  refine⟨fun hk => ?_,fun hk => ?_⟩
  ·cbv
   refine hQ _ _ _ _ ?_ ⟨rfl,rfl⟩
   subst hΩ
   have h1:(k == 0)=true:=hk
   show a=qbZ a k
   rw[eq_of_beq h1]
   rfl
  ·cbv
   have hk':k ≠ 0:=by
    subst hΩ
    have h1:(k == 0)=false:=hk
    simpa using h1
   have hsub:binL .sub .i64 64 k=64-k:=by
    show IntKind.i64.wrap (64-k)=64-k
    rw[IntKind.wrap_i64]
    omega
   refine⟨fun _=>h0,fun _ => ?_,?_⟩
   ·subst hΩ;simp only[Om.real,hsub];omega
   ·refine hQ _ _ _ _ ?_ ⟨rfl,rfl⟩
    subst hΩ
    show binL .or .u64 (binL .shl .u64 a k) (binL .shr .u64 a (binL .sub .i64 64 k))=qbZ a k
    rw[hsub,qbZ,if_neg hk']
def offs:List Int:=[0,1,62,28,27,36,44,6,55,20,3,10,43,25,39,41,45,15,21,8,18,2,61,56,14]
def s48:qe:=fun args=>match args with
 | []=>⟨True,List Int,fun z=>z=offs,fun z =>.row .i64 25 z⟩
 | _=>PR.none
theorem c48:Ctr Tryz.prog T glob 238 s48:=by
 refine qaQ T_ok qf qg [] [] qh qi Tryz.func238 (by rfl) (by kernel_rfl) Tryz.call238 ?_ ?_
 ·intro args;unfold s48;split<;>first|exact PR.good_none|exact qfs trivial fun _=>⟨_,rfl⟩
 ·intro P Ω hΩ hE hI hm args pr hs hp Q hQ
  unfold s48 at hs
  split at hs<;>subst hs<;>try (exact hp.elim)
  refine⟨1000,?_⟩
  cbv
  repeat (refine qau hE hI hm (n:=1000) ?_;cbv)
  refine hQ _ _ _ _ ?_ ⟨rfl,rfl,rfl⟩
  subst hΩ
  rfl
end Go.Sx.Tryz.K
end
section
namespace Go.Sx.Tryz.K
open Go.Proofs
def lfsr (r:Int):Int:=if r / 128=1 then binL .xor .i64 (r*2 % 256) 113 else r*2 % 256
def qb0:Nat->Int
 | 0=>1
 | i+1=>lfsr (qb0 i)
def qaN:Nat->List Int
 | 0=>[]
 | i+1=>qaN i++[qb0 i % 2]
theorem qgk : ∀ n,(qaN n).length=n
 | 0=>rfl
 | n+1=>by simp[qaN,qgk n]
theorem qsp : ∀ i,i<169->0<=qb0 i/\qb0 i<256:=by decide +kernel
def s49:qe:=fun args=>match args with
 | [.int .i64 n]=>⟨∀ _:Unit,n=168,List Int × Nat,fun z=>z.1=qaN 168/\168<=z.2,fun z =>.fr .i64 z.1 z.2⟩
 | _=>PR.none
theorem c49:Ctr Tryz.prog T glob 239 s49:=by
 refine qaQ T_ok qf qg [] [] qh qi Tryz.func239 (by rfl) (by kernel_rfl) Tryz.call239 ?_ ?_
 ·intro args;unfold s49;split
  ·exact⟨fun _=>trivial,fun E x b q hq=>by simp[place]at hq;subst hq;exact⟨Nat.le_refl _,by simp⟩,fun _=>⟨trivial,trivial⟩,fun _=>⟨(_,168),rfl,Nat.le_refl _⟩⟩
  ·exact PR.good_none
 ·intro P Ω hΩ hE hI hm args pr hs hp Q hQ
  unfold s49 at hs
  split at hs<;>subst hs<;>try (exact hp.elim)
  rename_i n
  have hn:n=168:=hp ()
  refine⟨1000,?_⟩
  cbv
  refine qn hE hI hm (fun x:Nat × Nat × Int × List Int × Nat=>(mkT 27 [(0,.int .i64 n),(3,.sl 32 1 (.l 0) (.s x.2.1) (.s x.2.2.2.2)),(4,.int .i64 x.2.2.1),(5,.int .i64 x.1)],[(32,.seq .i64 x.2.2.2.1)])) (fun x=>x.1<=168/\x.2.1=x.1/\x.2.2.1=qb0 x.1/\x.2.2.2.1=qaN x.1/\x.2.1<=x.2.2.2.2) (fun x=>168-x.1) 1 ⟨(0,0,1,[],0),[none],⟨Nat.zero_le _,rfl,rfl,rfl,Nat.le_refl _⟩,by decide,?_⟩ fun⟨i,len,r,out,cap⟩ hi=>⟨1000,?_⟩
  ·cbv
  ·cbv
   obtain⟨hi1,hi2,hi3,hi4,hi5⟩:i<=168/\len=i/\r=qb0 i/\out=qaN i/\len<=cap:=hi
   refine⟨fun hc => ?_,fun hc => ?_⟩
   ·cbv
    have hi168:i<168:=by
     subst hΩ hn
     simp only[Om.real,cmpL,decide_eq_true_eq,Int.ofNat_eq_natCast]at hc
     omega
    have hol:out.length=i:=by rw[hi4,qgk]
    refine⟨fun _=>(show(len+1)*8<=140737488355328 by omega),fun _=>⟨(show 0+len*1<=out.length by omega),(show 0+1*1<=1 by omega)⟩,fun cap' hcap => ?_⟩
    cbv
    obtain⟨out',ho'⟩ : ∃ out',out'=qaN (i+1):=⟨_,rfl⟩
    obtain⟨r',hr'⟩ : ∃ r',r'=qb0 (i+1):=⟨_,rfl⟩
    obtain⟨len',hl'⟩ : ∃ len',len'=len+1:=⟨_,rfl⟩
    have hrr:=qsp i (by omega)
    rw[<- hi3]at hrr
    have hmul:binL .rem .i64 (binL .mul .i64 r 2) 256=r*2 % 256:=by
     show(IntKind.i64.wrap (r*2)).tmod 256=_
     rw[IntKind.wrap_i64,Int.tmod_eq_emod_of_nonneg (by omega)]
     omega
    have hquo:binL .quo .i64 r 128=r / 128:=by
     show IntKind.i64.wrap (r.tdiv 128)=_
     rw[IntKind.wrap_i64,Int.tdiv_eq_ediv_of_nonneg (by omega)]
     omega
    have hrem:binL .rem .i64 r 2=r % 2:=by
     show r.tmod 2=_
     exact Int.tmod_eq_emod_of_nonneg (by omega)
    have hout:(out.drop 0).take len++[r % 2]=out':=by
     rw[ho',qaN,List.drop_zero,List.take_of_length_le (by omega),hi4,hi3]
    have hreg:r'=lfsr r:=by rw[hr',qb0,hi3]
    refine⟨fun hd => ?_,fun hd => ?_⟩
    ·cbv
     refine⟨(i+1,len',r',out',cap'),[some 96],⟨hi168,by rw[hl',hi2],hr',ho',by rw[hl'];exact hcap⟩,by simp only;omega,by simp,?_⟩
     cbv
     subst hΩ
     have hd':(r / 128 == 1)=true:=by rw[<- hquo];exact hd
     refine⟨hl'.symm,?_,qaE i (by omega),?_⟩
     ·simp only[Om.real,hmul]
      rw[hreg,lfsr,if_pos (eq_of_beq hd')]
     ·simp only[Om.real,hrem]
      exact hout
    ·cbv
     refine⟨(i+1,len',r',out',cap'),[some 96],⟨hi168,by rw[hl',hi2],hr',ho',by rw[hl'];exact hcap⟩,by simp only;omega,by simp,?_⟩
     cbv
     subst hΩ
     have hd':(r / 128 == 1)=false:=by rw[<- hquo];exact hd
     refine⟨hl'.symm,?_,qaE i (by omega),?_⟩
     ·simp only[Om.real,hmul]
      rw[hreg,lfsr,if_neg (by simpa using hd')]
     ·simp only[Om.real,hrem]
      exact hout
   ·cbv
    have hi168:i=168:=by
     subst hΩ hn
     simp only[Om.real,cmpL,decide_eq_false_iff_not,Int.ofNat_eq_natCast]at hc
     omega
    have hol:out.length=i:=by rw[hi4,qgk]
    refine hQ (out,cap) _ _ _ ⟨by rw[hi4,hi168],by omega⟩ ?_
    refine⟨rfl,rfl,?_,?_⟩
    ·show 0+len<=out.length
     omega
    ·subst hΩ
     show out=(out.drop 0).take len
     rw[List.drop_zero,List.take_of_length_le (by omega)]
end Go.Sx.Tryz.K
end
section
namespace Go.Sx.Tryz.K
open Go.Proofs
def qiK (a c:List Int) (x y:Nat):Int :=
 qbZ (binL .xor .u64 (binL .xor .u64 (a.getD (x+5*y) 0) (c.getD ((x+4) % 5) 0)) (qbZ (c.getD ((x+1) % 5) 0) 1)) (offs.getD (x+5*y) 0)
def bRow (a c:List Int) (y:Nat) (b:List Int):Nat->List Int
 | 0=>b
 | x+1=>(bRow a c y b x).set (y+5*((2*x+3*y) % 5)) (qiK a c x y)
def bAll (a c:List Int):Nat->List Int
 | 0=>List.replicate 25 0
 | y+1=>bRow a c y (bAll a c y) 5
def qmM (b:List Int) (x y:Nat):Int :=
 binL .xor .u64 (b.getD (x+5*y) 0) (binL .sub .u64 (b.getD ((x+2) % 5+5*y) 0) (binL .and .u64 (b.getD ((x+2) % 5+5*y) 0) (b.getD ((x+1) % 5+5*y) 0)))
def aRow (b:List Int) (y:Nat) (a:List Int):Nat->List Int
 | 0=>a
 | x+1=>(aRow b y a x).set (x+5*y) (qmM b x y)
def aAll (b a:List Int):Nat->List Int
 | 0=>a
 | y+1=>aRow b y (aAll b a y) 5
def jAll (bits:List Int) (r:Nat) (a:List Int):Nat->List Int
 | 0=>a
 | j+1=>if bits.getD (7*r+j) 0=1 then (jAll bits r a j).set 0 (binL .xor .u64 ((jAll bits r a j).getD 0 0) (binL .shl .u64 1 (binL .sub .u64 (binL .shl .u64 1 j) 1))) else jAll bits r a j
def qej (bits a:List Int) (r:Nat):List Int:=jAll bits r (aAll (bAll a (qaq a 25) 5) a 5) 7
def qbr (bits a:List Int):Nat->List Int
 | 0=>a
 | r+1=>qej bits (qbr bits a r) r
def qc4 (a:List Int):List Int:=qbr (qaN 168) a 24
theorem qmN (b:List Int) (y:Nat) (a:List Int) : ∀ n,(aRow b y a n).length=a.length
 | 0=>rfl
 | n+1=>by simp only[aRow,List.length_set];exact qmN b y a n
theorem qiL (b a:List Int) : ∀ n,(aAll b a n).length=a.length
 | 0=>rfl
 | n+1=>by simp only[aAll];rw[qmN];exact qiL b a n
theorem qiM (bits:List Int) (r:Nat) (a:List Int) : ∀ n,(jAll bits r a n).length=a.length
 | 0=>rfl
 | n+1=>by
   simp only[jAll]
   split
   · rw[List.length_set];exact qiM bits r a n
   · exact qiM bits r a n
theorem qmO (bits a:List Int) : ∀ n,(qbr bits a n).length=a.length
 | 0=>rfl
 | n+1=>by simp only[qbr,qej];rw[qiM,qiL];exact qmO bits a n
theorem mulk (k j:Nat) (h:j<1000000) (hk:k<1000000):binL .mul .i64 (Int.ofNat k) (Int.ofNat j)=((k*j:Nat):Int):=by
 show IntKind.i64.wrap (Int.ofNat k*Int.ofNat j)=_
 have h1:Int.ofNat k*Int.ofNat j=((k*j:Nat):Int):=by simp
 have h2:k*j<=1000000*1000000:=Nat.mul_le_mul (by omega) (by omega)
 rw[h1,IntKind.wrap_i64]
 generalize k*j=q at *
 omega
theorem remn (n:Nat):binL .rem .i64 (n:Int) 5=((n % 5:Nat):Int):=by
 show(n:Int).tmod 5=_
 rw[Int.tmod_eq_emod_of_nonneg (Int.natCast_nonneg n)]
 omega
theorem addn (j k:Nat) (h:j<1000000000) (hk:k<1000000000):binL .add .i64 (j:Int) (k:Int)=((j+k:Nat):Int):=addk j k h hk
theorem muln (k j:Nat) (h:j<1000000) (hk:k<1000000):binL .mul .i64 (k:Int) (j:Int)=((k*j:Nat):Int):=mulk k j h hk
theorem qsq : ∀ k,k<25->0<=offs.getD k 0/\offs.getD k 0<64:=by decide
def s15:qe:=fun args=>match args with
 | [.row .u64 25 s]=>⟨∀ _:Unit,s.length=25,List Int,fun z=>z=qc4 s,fun z =>.row .u64 25 z⟩
 | _=>PR.none
theorem c15:Ctr Tryz.prog T glob 164 s15:=by
 refine qaQ T_ok qf qg [(238,s48),(239,s49),(240,s50)] [] (qc c48 (qc c49 (qc c50 qh))) qi Tryz.func164 (by rfl) (by kernel_rfl) Tryz.call164 ?_ ?_
 ·intro args;unfold s15;split<;>first|exact PR.good_none|exact qfs ⟨trivial,trivial⟩ fun _=>⟨_,rfl⟩
 ·intro P Ω hΩ hE hI hm args pr hs hp Q hQ
  unfold s15 at hs
  split at hs<;>subst hs<;>try (exact hp.elim)
  rename_i s
  refine⟨1000,?_⟩
  cbv
  refine⟨fun _=>trivial,fun os hos => ?_⟩
  cbv
  refine⟨fun _ _=>rfl,fun⟨bits,cap⟩ hbits => ?_⟩
  cbv
  have hos':os=offs:=hos
  have hb1:bits=qaN 168:=hbits.1
  have hbl:bits.length=168:=by rw[hb1,qgk]
  refine qn hE hI hm (fun x:Nat × List Int=>(mkT 150 [(1,.ptr 0 (.l 0)),(2,.ptr 8 (.l 0)),(3,.ptr 24 (.l 0)),(4,.sl 40 1 (.l 0) (.s (Ω.len bits)) (.s cap)),(5,.int .i64 x.1)],[(40,.seq .i64 bits),(24,.row .i64 25 os),(8,.row .u64 25 (List.replicate 25 0)),(0,.row .u64 25 x.2)])) (fun x=>x.1<=24/\x.2=qbr bits s x.1) (fun x=>24-x.1) 0 ⟨(0,s),[],⟨Nat.zero_le _,rfl⟩,Nat.le_refl _,?_⟩ fun⟨r,a⟩ hr=>⟨1000,?_⟩
  ·cbv
   exact⟨rfl,trivial⟩
  cbv
  obtain⟨hr1,hr2⟩:r<=24/\a=qbr bits s r:=hr
  have hal:a.length=25:=by rw[hr2,qmO];exact hp ()
  refine⟨fun hc => ?_,fun hc => ?_⟩
  ·cbv
   have hr24:r<24:=by
    subst hΩ
    exact qa0 hc
   refine qn hE hI hm (fun x:Nat × List Int=>(mkT 150 [(1,.ptr 0 (.l 0)),(2,.ptr 8 (.l 0)),(3,.ptr 24 (.l 0)),(4,.sl 40 1 (.l 0) (.s (Ω.len bits)) (.s cap)),(5,.int .i64 (Int.ofNat r)),(6,.ptr 80 (.l 0)),(7,.int .i64 x.1)],[(80,.row .u64 5 x.2),(40,.seq .i64 bits),(24,.row .i64 25 os),(8,.row .u64 25 (List.replicate 25 0)),(0,.row .u64 25 a)])) (fun x=>x.1<=25/\x.2=qaq a x.1) (fun x=>25-x.1) 0 ⟨(0,List.replicate 5 0),[],⟨Nat.zero_le _,rfl⟩,Nat.le_refl _,?_⟩ fun⟨i,c⟩ hi=>⟨1000,?_⟩
   ·cbv
    exact⟨rfl,trivial⟩
   cbv
   obtain⟨hi1,hi2⟩:i<=25/\c=qaq a i:=hi
   refine⟨fun hd => ?_,fun hd => ?_⟩
   ·cbv
    have hi25:i<25:=by subst hΩ;exact qa0 hd
    obtain⟨c',hc'⟩ : ∃ c',c'=qaq a (i+1):=⟨_,rfl⟩
    refine⟨fun _ => ?_,fun _ => ?_,fun _ => ?_,fun _ => ?_,fun _ => ?_,fun _ => ?_,(i+1,c'),[],⟨hi25,hc'⟩,by simp only;omega,Nat.zero_le _,?_⟩
    ·subst hΩ;simp only[Om.real,rem5];exact⟨Int.natCast_nonneg _,Int.ofNat_lt.2 (by show i % 5<5;omega)⟩
    ·subst hΩ;simp only[Om.real,rem5,Int.toNat_natCast];omega
    ·exact⟨Int.natCast_nonneg i,Int.ofNat_lt.2 hi25⟩
    ·subst hΩ;simp only[Om.real,Int.ofNat_eq_natCast,Int.toNat_natCast];omega
    ·subst hΩ;simp only[Om.real,rem5];exact⟨Int.natCast_nonneg _,Int.ofNat_lt.2 (by show i % 5<5;omega)⟩
    ·subst hΩ;simp only[Om.real,rem5,Int.toNat_natCast];omega
    ·cbv
     subst hΩ
     refine⟨qaE i (by omega),?_,trivial⟩
     simp only[Om.real,rem5,Int.toNat_natCast]
     rw[hc',hi2]
     rfl
   ·cbv
    have hi25:i=25:=by
     have h1:25<=i:=by subst hΩ;exact qaS hd
     omega
    have hcc:c=qaq a 25:=by rw[hi2,hi25]
    refine qn hE hI hm (fun x:Nat × List Int=>(mkT 150 [(1,.ptr 0 (.l 0)),(2,.ptr 8 (.l 0)),(3,.ptr 24 (.l 0)),(4,.sl 40 1 (.l 0) (.s (Ω.len bits)) (.s cap)),(5,.int .i64 (Int.ofNat r)),(6,.ptr 80 (.l 0)),(8,.ptr 112 (.l 0)),(9,.int .i64 x.1)],[(112,.row .u64 25 x.2),(80,.row .u64 5 c),(40,.seq .i64 bits),(24,.row .i64 25 os),(8,.row .u64 25 (List.replicate 25 0)),(0,.row .u64 25 a)])) (fun x=>x.1<=5/\x.2=bAll a c x.1) (fun x=>5-x.1) 0 ⟨(0,List.replicate 25 0),[],⟨Nat.zero_le _,rfl⟩,Nat.le_refl _,?_⟩ fun⟨y,b⟩ hy=>⟨1000,?_⟩
    ·cbv
     exact⟨rfl,trivial⟩
    cbv
    obtain⟨hy1,hy2⟩:y<=5/\b=bAll a c y:=hy
    refine⟨fun he => ?_,fun he => ?_⟩
    ·cbv
     have hy5:y<5:=by subst hΩ;exact qa0 he
     refine qn hE hI hm (fun x:Nat × List Int=>(mkT 150 [(1,.ptr 0 (.l 0)),(2,.ptr 8 (.l 0)),(3,.ptr 24 (.l 0)),(4,.sl 40 1 (.l 0) (.s (Ω.len bits)) (.s cap)),(5,.int .i64 (Int.ofNat r)),(6,.ptr 80 (.l 0)),(8,.ptr 112 (.l 0)),(9,.int .i64 (Int.ofNat y)),(10,.int .i64 x.1)],[(112,.row .u64 25 x.2),(80,.row .u64 5 c),(40,.seq .i64 bits),(24,.row .i64 25 os),(8,.row .u64 25 (List.replicate 25 0)),(0,.row .u64 25 a)])) (fun x=>x.1<=5/\x.2=bRow a c y b x.1) (fun x=>5-x.1) 0 ⟨(0,b),[],⟨Nat.zero_le _,rfl⟩,Nat.le_refl _,?_⟩ fun⟨x,d⟩ hx=>⟨1000,?_⟩
     ·cbv
      exact⟨rfl,trivial⟩
     cbv
     obtain⟨hx1,hx2⟩:x<=5/\d=bRow a c y b x:=hx
     refine⟨fun hf => ?_,fun hf => ?_⟩
     ·cbv
      have hx5:x<5:=by subst hΩ;exact qa0 hf
      have m1:binL .add .i64 (Int.ofNat x) (binL .mul .i64 5 (Int.ofNat y))=((x+5*y:Nat):Int):=by
       rw[show(5:Int)=Int.ofNat 5 from rfl,mulk 5 y (by omega) (by omega)]
       exact addn x (5*y) (by omega) (by omega)
      have m2:=remk x 4 (by omega) (by omega)
      have m3:=remk x 1 (by omega) (by omega)
      rw[show Int.ofNat 4=4 from rfl]at m2
      rw[show Int.ofNat 1=1 from rfl]at m3
      have n2:(x+4) % 5<5:=Nat.mod_lt _ (by omega)
      have n3:(x+1) % 5<5:=Nat.mod_lt _ (by omega)
      refine⟨fun _ => ?_,fun _ => ?_,fun _ => ?_,fun _ => ?_,fun _ => ?_,fun _ => ?_,fun _ _=>by decide,fun z hz => ?_⟩
      ·subst hΩ;simp only[Om.real,m1];exact⟨Int.natCast_nonneg _,Int.ofNat_lt.2 (show x+5*y<25 by omega)⟩
      ·subst hΩ;simp only[Om.real,m1,Int.toNat_natCast];omega
      ·subst hΩ;simp only[Om.real,m2];exact⟨Int.natCast_nonneg _,Int.ofNat_lt.2 n2⟩
      ·subst hΩ;simp only[Om.real,m2,Int.toNat_natCast];omega
      ·subst hΩ;simp only[Om.real,m3];exact⟨Int.natCast_nonneg _,Int.ofNat_lt.2 n3⟩
      ·subst hΩ;simp only[Om.real,m3,Int.toNat_natCast];omega
      ·cbv
       have hof:=qsq (x+5*y) (by omega)
       obtain⟨d',hd'⟩ : ∃ d',d'=bRow a c y b (x+1):=⟨_,rfl⟩
       refine⟨fun _ => ?_,fun _ => ?_,fun _ _ => ?_,fun z2 hz2 => ?_⟩
       ·subst hΩ;simp only[Om.real,m1];exact⟨Int.natCast_nonneg _,Int.ofNat_lt.2 (show x+5*y<25 by omega)⟩
       ·subst hΩ;simp only[Om.real,m1,Int.toNat_natCast];omega
       ·subst hΩ;simp only[Om.real,m1,Int.toNat_natCast,hos'];exact hof
       ·cbv
        have m4:binL .add .i64 (Int.ofNat y) (binL .mul .i64 5 (binL .rem .i64 (binL .add .i64 (binL .mul .i64 2 (Int.ofNat x)) (binL .mul .i64 3 (Int.ofNat y))) 5))=((y+5*((2*x+3*y) % 5):Nat):Int):=by
         rw[show(2:Int)=Int.ofNat 2 from rfl,show(3:Int)=Int.ofNat 3 from rfl,mulk 2 x (by omega) (by omega),mulk 3 y (by omega) (by omega),addn _ _ (by omega) (by omega),remn]
         have:(2*x+3*y) % 5<5:=Nat.mod_lt _ (by omega)
         rw[show(5:Int)=((5:Nat):Int) from rfl,muln 5 _ (by omega) (by omega)]
         exact addn y _ (by omega) (by omega)
        have n4:(2*x+3*y) % 5<5:=Nat.mod_lt _ (by omega)
        refine⟨fun _ => ?_,fun _ => ?_,(x+1,d'),[],⟨hx5,hd'⟩,by simp only;omega,Nat.zero_le _,?_⟩
        ·subst hΩ;simp only[Om.real,m4];exact⟨Int.natCast_nonneg _,Int.ofNat_lt.2 (show y+5*((2*x+3*y) % 5)<25 by omega)⟩
        ·subst hΩ;simp only[Om.real,m4,Int.toNat_natCast];omega
        ·cbv
         subst hΩ
         refine⟨qaE x (by omega),?_,trivial⟩
         simp only[Om.real,m3,Int.toNat_natCast]at hz
         simp only[Om.real,m1,m2,Int.toNat_natCast]at hz2
         simp only[Om.real,m4,Int.toNat_natCast]
         rw[hd',hx2,hz2,hz,hos']
         rfl
     ·cbv
      have hx5:x=5:=by
       have h1:5<=x:=by subst hΩ;exact qaS hf
       omega
      obtain⟨b',hb'⟩ : ∃ b',b'=bAll a c (y+1):=⟨_,rfl⟩
      refine⟨(y+1,b'),[],⟨hy5,hb'⟩,by simp only;omega,Nat.zero_le _,?_⟩
      cbv
      subst hΩ
      refine⟨qaE y (by omega),?_,trivial⟩
      rw[hb',hx2,hx5,hy2]
      rfl
    ·cbv
     have hy5:y=5:=by
      have h1:5<=y:=by subst hΩ;exact qaS he
      omega
     have hbb:b=bAll a (qaq a 25) 5:=by rw[hy2,hy5,hcc]
     refine qn hE hI hm (fun x:Nat × List Int=>(mkT 150 [(1,.ptr 0 (.l 0)),(2,.ptr 8 (.l 0)),(3,.ptr 24 (.l 0)),(4,.sl 40 1 (.l 0) (.s (Ω.len bits)) (.s cap)),(5,.int .i64 (Int.ofNat r)),(8,.ptr 112 (.l 0)),(12,.int .i64 x.1)],[(112,.row .u64 25 b),(40,.seq .i64 bits),(24,.row .i64 25 os),(8,.row .u64 25 (List.replicate 25 0)),(0,.row .u64 25 x.2)])) (fun x=>x.1<=5/\x.2=aAll b a x.1) (fun x=>5-x.1) 0 ⟨(0,a),[],⟨Nat.zero_le _,rfl⟩,Nat.le_refl _,?_⟩ fun⟨p,u⟩ hq=>⟨1000,?_⟩
     ·cbv
      exact⟨rfl,trivial⟩
     cbv
     obtain⟨hp1,hp2⟩:p<=5/\u=aAll b a p:=hq
     refine⟨fun hf => ?_,fun hf => ?_⟩
     ·cbv
      have hp5:p<5:=by subst hΩ;exact qa0 hf
      refine qn hE hI hm (fun x:Nat × List Int=>(mkT 150 [(1,.ptr 0 (.l 0)),(2,.ptr 8 (.l 0)),(3,.ptr 24 (.l 0)),(4,.sl 40 1 (.l 0) (.s (Ω.len bits)) (.s cap)),(5,.int .i64 (Int.ofNat r)),(8,.ptr 112 (.l 0)),(12,.int .i64 (Int.ofNat p)),(13,.int .i64 x.1)],[(112,.row .u64 25 b),(40,.seq .i64 bits),(24,.row .i64 25 os),(8,.row .u64 25 (List.replicate 25 0)),(0,.row .u64 25 x.2)])) (fun x=>x.1<=5/\x.2=aRow b p u x.1) (fun x=>5-x.1) 0 ⟨(0,u),[],⟨Nat.zero_le _,rfl⟩,Nat.le_refl _,?_⟩ fun⟨x,d⟩ hx=>⟨1000,?_⟩
      ·cbv
       exact⟨rfl,trivial⟩
      cbv
      obtain⟨hx1,hx2⟩:x<=5/\d=aRow b p u x:=hx
      refine⟨fun hg => ?_,fun hg => ?_⟩
      ·cbv
       have hx5:x<5:=by subst hΩ;exact qa0 hg
       have q5:binL .mul .i64 5 (Int.ofNat p)=((5*p:Nat):Int):=mulk 5 p (by omega) (by omega)
       have m1:=remk x 1 (by omega) (by omega)
       have m2:=remk x 2 (by omega) (by omega)
       rw[show Int.ofNat 1=1 from rfl]at m1
       rw[show Int.ofNat 2=2 from rfl]at m2
       have n1:(x+1) % 5<5:=Nat.mod_lt _ (by omega)
       have n2:(x+2) % 5<5:=Nat.mod_lt _ (by omega)
       have k0:binL .add .i64 (Int.ofNat x) (binL .mul .i64 5 (Int.ofNat p))=((x+5*p:Nat):Int):=by rw[q5];exact addn x _ (by omega) (by omega)
       have k1:binL .add .i64 (binL .rem .i64 (binL .add .i64 (Int.ofNat x) 1) 5) (binL .mul .i64 5 (Int.ofNat p))=(((x+1) % 5+5*p:Nat):Int):=by rw[q5,m1];exact addn _ _ (by omega) (by omega)
       have k2:binL .add .i64 (binL .rem .i64 (binL .add .i64 (Int.ofNat x) 2) 5) (binL .mul .i64 5 (Int.ofNat p))=(((x+2) % 5+5*p:Nat):Int):=by rw[q5,m2];exact addn _ _ (by omega) (by omega)
       obtain⟨d',hd'⟩ : ∃ d',d'=aRow b p u (x+1):=⟨_,rfl⟩
       refine⟨fun _ => ?_,fun _ => ?_,fun _ => ?_,fun _ => ?_,fun _ => ?_,fun _ => ?_,fun _ => ?_,fun _ => ?_,fun _ => ?_,fun _ => ?_,(x+1,d'),[],⟨hx5,hd'⟩,by simp only;omega,Nat.zero_le _,?_⟩
       ·subst hΩ;simp only[Om.real,k1];exact⟨Int.natCast_nonneg _,Int.ofNat_lt.2 (show(x+1) % 5+5*p<25 by omega)⟩
       ·subst hΩ;simp only[Om.real,k1,Int.toNat_natCast];omega
       ·subst hΩ;simp only[Om.real,k0];exact⟨Int.natCast_nonneg _,Int.ofNat_lt.2 (show x+5*p<25 by omega)⟩
       ·subst hΩ;simp only[Om.real,k0,Int.toNat_natCast];omega
       ·subst hΩ;simp only[Om.real,k2];exact⟨Int.natCast_nonneg _,Int.ofNat_lt.2 (show(x+2) % 5+5*p<25 by omega)⟩
       ·subst hΩ;simp only[Om.real,k2,Int.toNat_natCast];omega
       ·subst hΩ;simp only[Om.real,k2];exact⟨Int.natCast_nonneg _,Int.ofNat_lt.2 (show(x+2) % 5+5*p<25 by omega)⟩
       ·subst hΩ;simp only[Om.real,k2,Int.toNat_natCast];omega
       ·subst hΩ;simp only[Om.real,k0];exact⟨Int.natCast_nonneg _,Int.ofNat_lt.2 (show x+5*p<25 by omega)⟩
       ·subst hΩ;simp only[Om.real,k0,Int.toNat_natCast];omega
       ·cbv
        subst hΩ
        refine⟨qaE x (by omega),?_⟩
        simp only[Om.real,k0,k1,k2,Int.toNat_natCast]
        rw[hd',hx2]
        rfl
      ·cbv
       have hx5:x=5:=by
        have h1:5<=x:=by subst hΩ;exact qaS hg
        omega
       obtain⟨u',hu'⟩ : ∃ u',u'=aAll b a (p+1):=⟨_,rfl⟩
       refine⟨(p+1,u'),[],⟨hp5,hu'⟩,by simp only;omega,Nat.zero_le _,?_⟩
       cbv
       subst hΩ
       refine⟨qaE p (by omega),?_⟩
       rw[hu',hx2,hx5,hp2]
       rfl
     ·cbv
      have hp5:p=5:=by
       have h1:5<=p:=by subst hΩ;exact qaS hf
       omega
      have huu:u=aAll (bAll a (qaq a 25) 5) a 5:=by rw[hp2,hp5,hbb]
      refine qn hE hI hm (fun x:Nat × List Int=>(mkT 150 [(1,.ptr 0 (.l 0)),(2,.ptr 8 (.l 0)),(3,.ptr 24 (.l 0)),(4,.sl 40 1 (.l 0) (.s (Ω.len bits)) (.s cap)),(5,.int .i64 (Int.ofNat r)),(15,.int .i64 x.1)],[(40,.seq .i64 bits),(24,.row .i64 25 os),(8,.row .u64 25 (List.replicate 25 0)),(0,.row .u64 25 x.2)])) (fun x=>x.1<=7/\x.2=jAll bits r u x.1) (fun x=>7-x.1) 0 ⟨(0,u),[],⟨Nat.zero_le _,rfl⟩,Nat.le_refl _,?_⟩ fun⟨j,d⟩ hj=>⟨1000,?_⟩
      ·cbv
       exact⟨rfl,trivial⟩
      cbv
      obtain⟨hj1,hj2⟩:j<=7/\d=jAll bits r u j:=hj
      refine⟨fun hg => ?_,fun hg => ?_⟩
      ·cbv
       have hj7:j<7:=by subst hΩ;exact qa0 hg
       have k0:binL .add .i64 (binL .mul .i64 7 (Int.ofNat r)) (Int.ofNat j)=((7*r+j:Nat):Int):=by
        rw[show(7:Int)=Int.ofNat 7 from rfl,mulk 7 r (by omega) (by omega)]
        exact addn _ _ (by omega) (by omega)
       obtain⟨d',hd'⟩ : ∃ d',d'=jAll bits r u (j+1):=⟨_,rfl⟩
       refine⟨fun _ => ?_,fun _ => ?_,fun hh => ?_,fun hh => ?_⟩
       ·subst hΩ;simp only[Om.real,k0];exact⟨Int.natCast_nonneg _,Int.ofNat_lt.2 (show 7*r+j<bits.length by omega)⟩
       ·subst hΩ;simp only[Om.real,k0,Int.toNat_natCast];omega
       ·cbv
        refine⟨fun _=>Int.natCast_nonneg j,fun _ => ?_,(j+1,d'),[],⟨hj7,hd'⟩,by simp only;omega,Nat.zero_le _,?_⟩
        ·subst hΩ;exact qia _
        ·cbv
         subst hΩ
         simp only[Om.real,k0,Int.toNat_natCast,cmpL]at hh
         refine⟨qaE j (by omega),?_⟩
         rw[hd',jAll,if_pos (by simpa using hh),hj2]
         rfl
       ·cbv
        refine⟨(j+1,d'),[],⟨hj7,hd'⟩,by simp only;omega,Nat.zero_le _,?_⟩
        cbv
        subst hΩ
        simp only[Om.real,k0,Int.toNat_natCast,cmpL]at hh
        refine⟨qaE j (by omega),?_⟩
        rw[hd',jAll,if_neg (by simpa using hh)]
        exact hj2
      ·cbv
       have hj7:j=7:=by
        have h1:7<=j:=by subst hΩ;exact qaS hg
        omega
       obtain⟨a',ha'⟩ : ∃ a',a'=qbr bits s (r+1):=⟨_,rfl⟩
       refine⟨(r+1,a'),[],⟨hr24,ha'⟩,by simp only;omega,Nat.zero_le _,?_⟩
       cbv
       subst hΩ
       refine⟨qaE r (by omega),?_⟩
       rw[ha',qbr,qej,hj2,hj7,huu,hr2]
  ·cbv
   have hr24:r=24:=by
    have h1:24<=r:=by subst hΩ;exact qaS hc
    omega
   refine hQ _ _ _ _ ?_ ⟨rfl,rfl,rfl⟩
   show a=qc4 s
   rw[hr2,hr24,hb1]
   rfl
end Go.Sx.Tryz.K
end
section
namespace Go.Sx.Tryz.K
open Go.Proofs
theorem qek (n:Int):BitVec.ofInt 64 (IntKind.u64.wrap n)=BitVec.ofInt 64 n:=by
 rw[IntKind.wrap_u64]
 apply BitVec.eq_of_toInt_eq
 simp only[BitVec.toInt_ofInt]
 exact Int.emod_bmod ..
theorem qgl (b:BitVec 64):IntKind.u64.wrap b.toNat=b.toNat:=by
 rw[IntKind.wrap_u64]
 have:=b.isLt
 omega
theorem qgm (b:BitVec 64):BitVec.ofInt 64 (b.toNat:Int)=b:=by
 apply BitVec.eq_of_toNat_eq
 simp
theorem qiN (a b:Int):binL .xor .u64 a b=(BitVec.ofInt 64 a ^^^ BitVec.ofInt 64 b).toNat:=qgl _
theorem qmP (a b:Int):binL .and .u64 a b=(BitVec.ofInt 64 a &&& BitVec.ofInt 64 b).toNat:=qgl _
theorem qsr (a b:Int):binL .sub .u64 a b=(BitVec.ofInt 64 a-BitVec.ofInt 64 b).toNat:=by
 show IntKind.u64.wrap (a-b)=_
 rw[<- qgl]
 rw[IntKind.wrap_u64,IntKind.wrap_u64]
 have h:BitVec.ofInt 64 a-BitVec.ofInt 64 b=BitVec.ofInt 64 (a-b):=by
  apply BitVec.eq_of_toInt_eq
  simp[BitVec.toInt_sub,BitVec.toInt_ofInt]
 rw[h]
 simp[BitVec.toNat_ofInt]
 try omega
theorem qss (a:Int):unL .xor .u64 a=(~~~ BitVec.ofInt 64 a).toNat:=by
 show IntKind.u64.wrap ((BitVec.ofInt 64 (if IntKind.u64.signed then -1 else IntKind.u64.max) ^^^ BitVec.ofInt 64 a).toNat:Int)=_
 rw[qgl]
 congr 1
theorem xor_assoc (a b c:Int):binL .xor .u64 (binL .xor .u64 a b) c=binL .xor .u64 a (binL .xor .u64 b c):=by
 simp only[qiN,qgm,BitVec.xor_assoc]
theorem qst (b n:Int):binL .sub .u64 b (binL .and .u64 b n)=binL .and .u64 (unL .xor .u64 n) b:=by
 simp only[qsr,qmP,qss,qgm]
 generalize BitVec.ofInt 64 b=x
 generalize BitVec.ofInt 64 n=y
 have h1:(x &&& y) &&& (~~~ y &&& x)=0#64:=by
  ext i
  simp
  intros;simp_all
 have h2:x=(x &&& y)+(~~~ y &&& x):=by
  rw[BitVec.add_eq_or_of_and_eq_zero _ _ h1]
  ext i
  simp
  cases x[i]<;>cases y[i]<;>rfl
 refine congrArg (fun z:BitVec 64=>(z.toNat:Int)) ?_
 calc x-(x &&& y)=((x &&& y)+(~~~ y &&& x))-(x &&& y):=by rw[<- h2]
  _ = ~~~ y &&& x:=by rw[BitVec.add_comm,BitVec.add_sub_cancel]
theorem qmQ (a k:Int) (h0:0<k) (h:k<64):qbZ a k=rotl a k:=by
 have h1:binL .and .u64 (IntKind.u64.wrap k) 63=k:=by
  rw[qmP,qek]
  have:k=((k.toNat:Nat):Int):=by omega
  rw[this]
  have hk:k.toNat<64:=by omega
  generalize k.toNat=m at hk
  have key : ∀ m,m<64->(BitVec.ofInt 64 ((m:Nat):Int) &&& BitVec.ofInt 64 63).toNat=m:=by decide
  rw[key m hk]
 have h2:binL .sub .u64 64 k=64-k:=by
  show IntKind.u64.wrap (64-k)=_
  rw[IntKind.wrap_u64]
  omega
 unfold qbZ rotl
 rw[if_neg (by omega),h1,h2]
end Go.Sx.Tryz.K
end
section
namespace Go.Sx.Tryz.K
open Go.Proofs
section
variable (x rt:Int->Int->Int) (bd:Int->Int->Int->Int)
def qmR (s:List Int):Nat->List Int
 | 0=>List.replicate 5 0
 | i+1=>(qmR s i).set (i % 5) (x ((qmR s i).getD (i % 5) 0) (s.getD i 0))
def qiO (c:List Int) (i:Nat):Int:=x (c.getD ((i+4) % 5) 0) (rt (c.getD ((i+1) % 5) 0) 1)
def mixG (s c:List Int):Nat->List Int
 | 0=>s
 | i+1=>(mixG s c i).set i (x ((mixG s c i).getD i 0) (qiO x rt c (i % 5)))
def qc5 (s:List Int):Nat->Int × List Int
 | 0=>(s.getD 1 0,s)
 | i+1=>((qc5 s i).2.getD (way.getD i 0).toNat 0,(qc5 s i).2.set (way.getD i 0).toNat (rt (qc5 s i).1 (offsets.getD i 0)))
def qgn (row:List Int) (y:Nat) (s:List Int):Nat->List Int
 | 0=>s
 | n+1=>(qgn row y s n).set (y+n) (bd (row.getD n 0) (row.getD ((n+1) % 5) 0) (row.getD ((n+2) % 5) 0))
def qel (s:List Int):Nat->List Int
 | 0=>s
 | q+1=>qgn bd (((qel s q).drop (5*q)).take 5) (5*q) (qel s q) 5
def qiP (a c:List Int) (i y:Nat):Int :=
 let l:=x (a.getD (i+5*y) 0) (x (c.getD ((i+4) % 5) 0) (rt (c.getD ((i+1) % 5) 0) 1))
 match i+5*y with
 | 0=>l
 | _=>rt l (offs.getD (i+5*y) 0)
def qgo (a c:List Int) (y:Nat) (b:List Int):Nat->List Int
 | 0=>b
 | i+1=>(qgo a c y b i).set (y+5*((2*i+3*y) % 5)) (qiP x rt a c i y)
def qgp (a c:List Int):Nat->List Int
 | 0=>List.replicate 25 0
 | y+1=>qgo x rt a c y (qgp a c y) 5
def qgq (b:List Int) (y:Nat) (a:List Int):Nat->List Int
 | 0=>a
 | i+1=>(qgq b y a i).set (i+5*y) (bd (b.getD (i+5*y) 0) (b.getD ((i+1) % 5+5*y) 0) (b.getD ((i+2) % 5+5*y) 0))
def qgr (b a:List Int):Nat->List Int
 | 0=>a
 | y+1=>qgq bd b y (qgr b a y) 5
theorem qsu (x0 x1 x2 x3 x4 x5 x6 x7 x8 x9 x10 x11 x12 x13 x14 x15 x16 x17 x18 x19 x20 x21 x22 x23 x24 c0 c1 c2 c3 c4:Int) :
  (qc5 rt (mixG x rt [x0,x1,x2,x3,x4,x5,x6,x7,x8,x9,x10,x11,x12,x13,x14,x15,x16,x17,x18,x19,x20,x21,x22,x23,x24] [c0,c1,c2,c3,c4] 25) 24).2=qgp x rt [x0,x1,x2,x3,x4,x5,x6,x7,x8,x9,x10,x11,x12,x13,x14,x15,x16,x17,x18,x19,x20,x21,x22,x23,x24] [c0,c1,c2,c3,c4] 5:=by
 kernel_rfl
theorem qsv (x0 x1 x2 x3 x4 x5 x6 x7 x8 x9 x10 x11 x12 x13 x14 x15 x16 x17 x18 x19 x20 x21 x22 x23 x24 b0 b1 b2 b3 b4 b5 b6 b7 b8 b9 b10 b11 b12 b13 b14 b15 b16 b17 b18 b19 b20 b21 b22 b23 b24:Int) :
  qel bd [b0,b1,b2,b3,b4,b5,b6,b7,b8,b9,b10,b11,b12,b13,b14,b15,b16,b17,b18,b19,b20,b21,b22,b23,b24] 5=qgr bd [b0,b1,b2,b3,b4,b5,b6,b7,b8,b9,b10,b11,b12,b13,b14,b15,b16,b17,b18,b19,b20,b21,b22,b23,b24] [x0,x1,x2,x3,x4,x5,x6,x7,x8,x9,x10,x11,x12,x13,x14,x15,x16,x17,x18,x19,x20,x21,x22,x23,x24] 5:=by
 kernel_rfl
end
end Go.Sx.Tryz.K
end
section
namespace Go.Sx.Tryz.K
open Go.Proofs
def xo (a b:Int):Int:=binL .xor .u64 a b
def bdo (l a b:Int):Int:=binL .xor .u64 l (binL .and .u64 (unL .xor .u64 a) b)
theorem qsw (c:List Int) (i:Nat):dcol c (i:Nat)=qiO xo rotl c i:=by
 unfold dcol qiO
 have h1:(((i:Int)+4) % 5).toNat=(i+4) % 5:=by omega
 have h2:(((i:Int)+1) % 5).toNat=(i+1) % 5:=by omega
 rw[h1,h2]
 rfl
theorem qmS (s c:List Int) : ∀ n,qaY s c n=mixG xo rotl s c n
 | 0=>rfl
 | n+1=>by simp only[qaY,mixG,qmS s c n,qsw];rfl
theorem qmT (s:List Int) : ∀ n,qaz s n=qc5 rotl s n
 | 0=>rfl
 | n+1=>by simp only[qaz,qc5,qmT s n]
theorem qmU (row:List Int) (y:Nat) (s:List Int) : ∀ n,qbq row y s n=qgn bdo row y s n
 | 0=>rfl
 | n+1=>by simp only[qbq,qgn,qmU row y s n];rfl
theorem qmV (s:List Int) : ∀ n,qbf s n=qel bdo s n
 | 0=>rfl
 | n+1=>by simp only[qbf,qel,qmV s n,qmU]
theorem qsx (a c:List Int) (i y:Nat) (hi:i<5) (hy:y<5):qiK a c i y=qiP xo rotl a c i y:=by
 unfold qiK qiP
 rw[qmQ _ 1 (by omega) (by omega)]
 have hx:binL .xor .u64 (binL .xor .u64 (a.getD (i+5*y) 0) (c.getD ((i+4) % 5) 0)) (rotl (c.getD ((i+1) % 5) 0) 1)=xo (a.getD (i+5*y) 0) (xo (c.getD ((i+4) % 5) 0) (rotl (c.getD ((i+1) % 5) 0) 1)):=xor_assoc _ _ _
 rw[hx]
 have ho : ∀ m,m<25->0<m->0<offs.getD m 0/\offs.getD m 0<64:=by decide
 have hm:i+5*y<25:=by omega
 generalize i+5*y=m at *
 cases m with
 | zero=>rfl
 | succ m =>
   obtain⟨h1,h2⟩:=ho (m+1) hm (by omega)
   exact qmQ _ _ h1 h2
theorem qmW (a c:List Int) (y:Nat) (b:List Int) (hy:y<5) : ∀ n,n<=5->bRow a c y b n=qgo xo rotl a c y b n
 | 0,_=>rfl
 | n+1,h=>by simp only[bRow,qgo,qmW a c y b hy n (by omega),qsx a c n y (by omega) hy]
theorem qmX (a c:List Int) : ∀ n,n<=5->bAll a c n=qgp xo rotl a c n
 | 0,_=>rfl
 | n+1,h=>by simp only[bAll,qgp,qmX a c n (by omega),qmW a c n _ (by omega) 5 (Nat.le_refl _)]
theorem qmY (b:List Int) (y:Nat) (a:List Int) : ∀ n,aRow b y a n=qgq bdo b y a n
 | 0=>rfl
 | n+1=>by
   simp only[aRow,qgq,qmY b y a n,qmM,qst]
   rfl
theorem qmZ (b a:List Int) : ∀ n,aAll b a n=qgr bdo b a n
 | 0=>rfl
 | n+1=>by simp only[aAll,qgr,qmZ b a n,qmY]
theorem qm0 (s:List Int) : ∀ n,(qaq s n).length=5
 | 0=>rfl
 | n+1=>by simp only[qaq,List.length_set];exact qm0 s n
theorem qm1 (a c:List Int) (y:Nat) (b:List Int) : ∀ n,(bRow a c y b n).length=b.length
 | 0=>rfl
 | n+1=>by simp only[bRow,List.length_set];exact qm1 a c y b n
theorem qm2 (a c:List Int) : ∀ n,(bAll a c n).length=25
 | 0=>rfl
 | n+1=>by simp only[bAll,qm1];exact qm2 a c n
theorem qsy (s c:List Int) (hs:s.length=25) (hc:c.length=5):(qaz (qaY s c 25) 24).2=bAll s c 5:=by
 rw[qmS,qmT,qmX _ _ _ (Nat.le_refl _)]
 match s,hs,c,hc with
 | [x0,x1,x2,x3,x4,x5,x6,x7,x8,x9,x10,x11,x12,x13,x14,x15,x16,x17,x18,x19,x20,x21,x22,x23,x24],_,[c0,c1,c2,c3,c4],_=>exact qsu ..
theorem qsz (s b:List Int) (hs:s.length=25) (hb:b.length=25):bend b=aAll b s 5:=by
 rw[bend,qmV,qmZ]
 match s,hs,b,hb with
 | [x0,x1,x2,x3,x4,x5,x6,x7,x8,x9,x10,x11,x12,x13,x14,x15,x16,x17,x18,x19,x20,x21,x22,x23,x24],_,[b0,b1,b2,b3,b4,b5,b6,b7,b8,b9,b10,b11,b12,b13,b14,b15,b16,b17,b18,b19,b20,b21,b22,b23,b24],_=>exact qsv ..
def qc6 (bits:List Int) (r:Nat):Nat->Int
 | 0=>0
 | j+1=>if bits.getD (7*r+j) 0=1 then binL .xor .u64 (qc6 bits r j) (binL .shl .u64 1 (binL .sub .u64 (binL .shl .u64 1 j) 1)) else qc6 bits r j
theorem qsA (a b:Int):binL .xor .u64 a (binL .xor .u64 0 b)=binL .xor .u64 a b:=by
 simp only[qiN,qgm]
 simp
theorem set0 (a:List Int) (x y:Int) (ha:a.length=25):(a.set 0 x).set 0 y=a.set 0 y:=by simp
theorem qiQ (bits:List Int) (r:Nat) (a:List Int) (ha:a.length=25) : ∀ n,(jAll bits r a n=a/\qc6 bits r n=0)\/(jAll bits r a n=a.set 0 (binL .xor .u64 (a.getD 0 0) (qc6 bits r n)))
 | 0 =>.inl ⟨rfl,rfl⟩
 | n+1=>by
   simp only[jAll,qc6]
   split
   · right
     rcases qiQ bits r a ha n with⟨h1,h2⟩|h1
     · rw[h1,h2,qsA]
     · rw[h1]
       have h3 : ∀ x,(a.set 0 x).getD 0 0=x:=fun x=>by
         cases a with
         | nil=>simp at ha
         | cons y l=>rfl
       rw[h3,set0 _ _ _ ha,xor_assoc]
   · exact qiQ bits r a ha n
theorem qsB : ∀ r,r<24->qc6 (qaN 168) r 7=constants.getD r 0/\constants.getD r 0 ≠ 0:=by decide +kernel
theorem qsC (s:List Int) (r:Nat) (hs:s.length=25) (hr:r<24):turn s r=qej (qaN 168) s r:=by
 have h1:bend (move (mix s))=aAll (bAll s (qaq s 25) 5) s 5:=by
  rw[move,mix,qsy s _ hs (qm0 s 25)]
  exact qsz s _ hs (qm2 _ _ _)
 unfold turn qej
 rw[h1]
 obtain⟨h2,h3⟩:=qsB r hr
 rcases qiQ (qaN 168) r (aAll (bAll s (qaq s 25) 5) s 5) (by rw[qiL];exact hs) 7 with⟨h4,h5⟩|h4
 ·rw[h2]at h5;exact absurd h5 h3
 ·rw[h4,h2]
theorem qm3 (s:List Int) (hs:s.length=25) : ∀ n,n<=24->qaZ s n=qbr (qaN 168) s n
 | 0,_=>rfl
 | n+1,h=>by
   simp only[qaZ,qbr]
   rw[qsC _ _ (by rw[qgj];exact hs) (by omega),qm3 s hs n (by omega)]
theorem qiR (s:List Int) (hs:s.length=25):qbg s=qc4 s:=qm3 s hs 24 (Nat.le_refl _)
end Go.Sx.Tryz.K
end
section

end
section
set_option maxHeartbeats 4000000
namespace Go.Sx.Tryz.K
open Go.Proofs
def qaw (s b:List Int):Nat->List Int
 | 0=>s
 | i+1=>(qaw s b i).set (i / 8) (binL .xor .u64 ((qaw s b i).getD (i / 8) 0) (binL .shl .u64 (IntKind.u64.wrap (b.getD i 0)) ((8*(i % 8):Nat):Int)))
def xorF (s b:List Int):List Int × Int:=if b.length > 200 then (List.replicate 25 0,11) else (qaw s b b.length,0)
theorem qa1 (s b:List Int) : ∀ n,(qaw s b n).length=s.length
 | 0=>rfl
 | n+1=>by simp only[qaw,List.length_set];exact qa1 s b n
def s17:qe:=fun args=>match args with
 | [.row .u64 25 s,.roi .u8 b]=>⟨∀ _:Unit,s.length=25/\b.length<9223372036854775808,List Int × Int,fun z=>z=xorF s b,fun z =>.tup [.row .u64 25 z.1,.int .i64 z.2]⟩
 | _=>PR.none
theorem c17:Ctr Tryz.prog T glob 255 s17:=by
 refine qaQ T_ok qf qg [] [] qh qi   Tryz.func255 (by rfl) (by kernel_rfl) Tryz.call255 ?_ ?_
 ·intro args;unfold s17;split
  ·exact qib ⟨fun _=>⟨trivial,trivial,trivial⟩,fun _ _ _=>rfl⟩ ⟨trivial,trivial,trivial⟩ fun _=>⟨_,rfl⟩
  ·exact PR.good_none
 ·intro P Ω hΩ hE hI hm args pr hs hp Q hQ
  unfold s17 at hs
  split at hs<;>subst hs<;>try (exact hp.elim)
  rename_i s b
  obtain⟨ls,lb⟩:=hp ()
  refine⟨1000,?_⟩
  cbv
  constructor
  ·intro hc
   cbv
   rw[hΩ]at hc;simp (disch:=omega) only[Om.real,qb,decide_eq_true_eq,decide_eq_false_iff_not]at hc
   refine hQ (List.replicate 25 0,11) _ _ _ ?_ ?_
   ·exact(if_pos hc).symm
   ·cbv
  ·intro hc
   cbv
   rw[hΩ]at hc;simp (disch:=omega) only[Om.real,qb,decide_eq_true_eq,decide_eq_false_iff_not]at hc
   refine qn hE hI hm (fun x:Nat × List Int=>(mkT 33 [(2,.ptr 0 (.l 0)),(4,.ptr 8 (.l 0)),(5,.lit .i64 0),(12,.roi .u8 b),(13,.int .i64 (Ω.ofN (Ω.len b))),(14,.int .i64 x.1)],[(8,.row .u64 25 (List.replicate 25 0)),(0,.row .u64 25 x.2)])) (fun x=>x.1<=b.length/\x.2=qaw s b x.1) (fun x=>b.length-x.1) 0 ⟨(0,s),[],⟨Nat.zero_le _,rfl⟩,Nat.le_refl _,by cbv;exact⟨rfl,trivial⟩⟩ fun⟨i,u⟩ ⟨hi,hu⟩=>⟨1000,?_⟩
   dsimp only at hi hu
   cbv
   constructor
   ·intro hd
    cbv
    rw[hΩ]at hd;simp (disch:=omega) only[Om.real,qb,decide_eq_true_eq,decide_eq_false_iff_not]at hd
    obtain⟨u',hu'⟩ : ∃ u',u'=qaw s b (i+1):=⟨_,rfl⟩
    repeat (refine⟨by ((try intro _);(try subst hΩ);simp (disch:=omega) only[Om.real,qb,SN.v];omega),?_⟩)
    refine⟨(i+1,u'),[],⟨hd,hu'⟩,by simp only;omega,Nat.zero_le _,?_⟩
    cbv
    subst hΩ
    simp (disch:=omega) only[Om.real,qb]
    refine⟨trivial,?_⟩
    rw[hu',hu]
    rfl
   ·intro hd
    cbv
    rw[hΩ]at hd;simp (disch:=omega) only[Om.real,qb,decide_eq_true_eq,decide_eq_false_iff_not]at hd
    refine hQ (u,0) _ _ _ ?_ ?_
    ·have:i=b.length:=by omega
     rw[hu,this]
     exact(if_neg hc).symm
    ·cbv
end Go.Sx.Tryz.K
end
section
set_option maxHeartbeats 4000000
namespace Go.Sx.Tryz.K
open Go.Proofs
def lbUp (l:Int):Nat->List Int
 | 0=>[]
 | k+1=>lbUp l k++[IntKind.u8.wrap (binL .shr .u64 l ((8*k:Nat):Int))]
theorem qc8 (l:Int) : ∀ n,(lbUp l n).length=n
 | 0=>rfl
 | n+1=>by simp[lbUp,qc8 l n]
def bytesUp (s:List Int):Nat->List Int
 | 0=>[]
 | i+1=>bytesUp s i++lbUp (s.getD i 0) 8
theorem qae (s:List Int) : ∀ n,(bytesUp s n).length=8*n
 | 0=>rfl
 | n+1=>by simp[bytesUp,qae s n,qc8];omega
def s20:qe:=fun args=>match args with
 | [.row .u64 25 s]=>⟨∀ _:Unit,s.length=25,List Int × Nat,fun z=>z.1=bytesUp s 25/\200<=z.2,fun z =>.fr .u8 z.1 z.2⟩
 | _=>PR.none
theorem c20:Ctr Tryz.prog T glob 232 s20:=by
 refine qaQ T_ok qf qg [] [] qh qi   Tryz.func232 (by rfl) (by kernel_rfl) Tryz.call232 ?_ ?_
 ·intro args;unfold s20;split
  ·exact qav ⟨trivial,trivial⟩ fun _=>⟨(_,200),rfl,Nat.le_refl _⟩
  ·exact PR.good_none
 ·intro P Ω hΩ hE hI hm args pr hs hp Q hQ
  unfold s20 at hs
  split at hs<;>subst hs<;>try (exact hp.elim)
  rename_i s
  have ls:=hp ()
  refine⟨1000,?_⟩
  cbv
  refine qn hE hI hm (fun x:Nat × Nat × Nat × List Int=>(mkT 25 [(3,.sl 40 1 (.l 0) (.s x.2.1) (.s x.2.2.1)),(7,.row .u64 25 s),(8,.int .i64 x.1)],[(40,.seq .u8 x.2.2.2)])) (fun x=>x.1<=25/\x.2.1=8*x.1/\x.2.2.2=bytesUp s x.1/\x.2.1<=x.2.2.1) (fun x=>25-x.1) 1 ⟨(0,0,0,[]),[none],⟨Nat.zero_le _,rfl,rfl,Nat.le_refl _⟩,by decide,?_⟩ fun⟨i,len,cap,out⟩ ⟨hi,hl,ho,hc⟩=>⟨1000,?_⟩
  ·cbv
  dsimp only at hi hl ho hc
  cbv
  constructor
  ·intro hd
   cbv
   rw[hΩ]at hd;simp (disch:=omega) only[Om.real,qb,decide_eq_true_eq,decide_eq_false_iff_not]at hd
   repeat (refine⟨by ((try intro _);(try subst hΩ);simp (disch:=omega) only[Om.real,qb,SN.v];omega),?_⟩)
   obtain⟨l,hll⟩ : ∃ l,l=s.getD i 0:=⟨_,rfl⟩
   refine qn hE hI hm (fun x:Nat × Nat × Nat × List Int=>(mkT 25 [(3,.sl 80 1 (.l 0) (.s x.2.1) (.s x.2.2.1)),(5,.int .u64 l),(7,.row .u64 25 s),(8,.int .i64 i),(11,.int .i64 x.1)],[(80,.seq .u8 x.2.2.2)])) (fun x=>x.1<=8/\x.2.1=8*i+x.1/\x.2.2.2=bytesUp s i++lbUp l x.1/\x.2.1<=x.2.2.1) (fun x=>8-x.1) 1 ⟨(0,len,cap,out),[some 40],⟨Nat.zero_le _,hl,by rw[ho];exact(List.append_nil _).symm,hc⟩,by decide,?_⟩ fun⟨k,len',cap',out'⟩ ⟨hk,hl',ho',hc'⟩=>⟨1000,?_⟩
   ·cbv
    subst hΩ
    simp (disch:=omega) only[Om.real,qb]
    exact⟨hll.symm,rfl,trivial⟩
   dsimp only at hk hl' ho' hc'
   have hol:out'.length=len':=by rw[ho',List.length_append,qae,qc8,hl']
   cbv
   constructor
   ·intro he
    cbv
    rw[hΩ]at he;simp (disch:=omega) only[Om.real,qb,decide_eq_true_eq,decide_eq_false_iff_not]at he
    repeat (refine⟨by ((try intro _);(try subst hΩ);simp (disch:=omega) only[Om.real,qb,SN.v];omega),?_⟩)
    refine⟨(fun _=>⟨(show 0+len'*1<=out'.length by omega),(show 0+1*1<=1 by omega)⟩),fun cap2 hcap2 => ?_⟩;simp only[SN.v]at hcap2
    obtain⟨o2,ho2⟩ : ∃ o2,o2=bytesUp s i++lbUp l (k+1):=⟨_,rfl⟩
    obtain⟨l2,hl2⟩ : ∃ l2,l2=len'+1:=⟨_,rfl⟩
    cbv
    refine⟨(k+1,l2,cap2,o2),[some 168],⟨by dsimp only;omega,by dsimp only;omega,ho2,by dsimp only;omega⟩,by dsimp only;omega,by simp,?_⟩
    cbv
    subst hΩ
    simp (disch:=omega) only[Om.real,qb]
    refine⟨hl2.symm,trivial,?_⟩
    rw[ho2,lbUp,<- List.append_assoc,<- ho',List.drop_zero,List.take_of_length_le (by omega)]
   ·intro he
    cbv
    rw[hΩ]at he;simp (disch:=omega) only[Om.real,qb,decide_eq_true_eq,decide_eq_false_iff_not]at he
    have hk8:k=8:=by omega
    refine⟨(i+1,len',cap',out'),[some 80],⟨by dsimp only;omega,by dsimp only;omega,by dsimp only;rw[ho',hk8,hll];rfl,by dsimp only;omega⟩,by dsimp only;omega,by simp,?_⟩
    cbv
    subst hΩ
    simp (disch:=omega) only[Om.real,qb]
    exact⟨trivial,trivial⟩
  ·intro hd
   cbv
   rw[hΩ]at hd;simp (disch:=omega) only[Om.real,qb,decide_eq_true_eq,decide_eq_false_iff_not]at hd
   have hi25:i=25:=by omega
   subst hi25
   have hol:out.length=len:=by rw[ho,qae,hl]
   refine hQ (out,cap) _ _ _ ⟨ho,by dsimp only;omega⟩ ?_
   refine⟨rfl,rfl,?_,?_⟩
   ·show 0+len<=out.length
    omega
   ·subst hΩ
    show out=(out.drop 0).take len
    rw[List.drop_zero,List.take_of_length_le (by omega)]
end Go.Sx.Tryz.K
end
section
set_option maxHeartbeats 4000000
namespace Go.Sx.Tryz.K
open Go.Proofs
def rbUp (l:Int):Nat->List Int × Int
 | 0=>([],l)
 | k+1=>((rbUp l k).1++[IntKind.u8.wrap (binL .rem .u64 (rbUp l k).2 256)],binL .quo .u64 (rbUp l k).2 256)
theorem qiS (l:Int) : ∀ n,(rbUp l n).1.length=n
 | 0=>rfl
 | n+1=>by simp[rbUp,qiS l n]
def qa2 (s:List Int):Nat->List Int
 | 0=>[]
 | i+1=>qa2 s i++(rbUp (s.getD i 0) 8).1
theorem qgs (s:List Int) : ∀ n,(qa2 s n).length=8*n
 | 0=>rfl
 | n+1=>by simp[qa2,qgs s n,qiS];omega
def s18:qe:=fun args=>match args with
 | [.row .u64 25 s]=>⟨∀ _:Unit,s.length=25,List Int × Nat,fun z=>z.1=qa2 s 25/\200<=z.2,fun z =>.fr .u8 z.1 z.2⟩
 | _=>PR.none
theorem c18:Ctr Tryz.prog T glob 163 s18:=by
 refine qaQ T_ok qf qg [] [] qh qi   Tryz.func163 (by rfl) (by kernel_rfl) Tryz.call163 ?_ ?_
 ·intro args;unfold s18;split
  ·exact qav ⟨trivial,trivial⟩ fun _=>⟨(_,200),rfl,Nat.le_refl _⟩
  ·exact PR.good_none
 ·intro P Ω hΩ hE hI hm args pr hs hp Q hQ
  unfold s18 at hs
  split at hs<;>subst hs<;>try (exact hp.elim)
  rename_i s
  have ls:=hp ()
  refine⟨1000,?_⟩
  cbv
  refine qn hE hI hm (fun x:Nat × Nat × Nat × List Int=>(mkT 27 [(1,.ptr 0 (.l 0)),(3,.sl 32 1 (.l 0) (.s x.2.1) (.s x.2.2.1)),(4,.int .i64 x.1)],[(32,.seq .u8 x.2.2.2),(0,.row .u64 25 s)])) (fun x=>x.1<=25/\x.2.1=8*x.1/\x.2.2.2=qa2 s x.1/\x.2.1<=x.2.2.1) (fun x=>25-x.1) 1 ⟨(0,0,0,[]),[none],⟨Nat.zero_le _,rfl,rfl,Nat.le_refl _⟩,by decide,?_⟩ fun⟨i,len,cap,out⟩ ⟨hi,hl,ho,hc⟩=>⟨1000,?_⟩
  ·cbv
   exact⟨rfl,trivial⟩
  dsimp only at hi hl ho hc
  cbv
  constructor
  ·intro hd
   cbv
   rw[hΩ]at hd;simp (disch:=omega) only[Om.real,qb,decide_eq_true_eq,decide_eq_false_iff_not]at hd
   repeat (refine⟨by ((try intro _);(try subst hΩ);simp (disch:=omega) only[Om.real,qb,SN.v];omega),?_⟩)
   obtain⟨l,hll⟩ : ∃ l,l=s.getD i 0:=⟨_,rfl⟩
   refine qn hE hI hm (fun x:Nat × Nat × Nat × Int × List Int=>(mkT 27 [(1,.ptr 0 (.l 0)),(3,.sl 96 1 (.l 0) (.s x.2.1) (.s x.2.2.1)),(4,.int .i64 i),(5,.int .u64 x.2.2.2.1),(6,.int .i64 x.1)],[(96,.seq .u8 x.2.2.2.2),(0,.row .u64 25 s)])) (fun x=>x.1<=8/\x.2.1=8*i+x.1/\x.2.2.2.1=(rbUp l x.1).2/\x.2.2.2.2=qa2 s i++(rbUp l x.1).1/\x.2.1<=x.2.2.1) (fun x=>8-x.1) 1 ⟨(0,len,cap,l,out),[some 32],⟨Nat.zero_le _,hl,rfl,by rw[ho];exact(List.append_nil _).symm,hc⟩,by decide,?_⟩ fun⟨k,len',cap',r,out'⟩ ⟨hk,hl',hr,ho',hc'⟩=>⟨1000,?_⟩
   ·cbv
    subst hΩ
    simp (disch:=omega) only[Om.real,qb]
    exact⟨hll.symm,rfl,trivial⟩
   dsimp only at hk hl' hr ho' hc'
   have hol:out'.length=len':=by rw[ho',List.length_append,qgs,qiS,hl']
   cbv
   constructor
   ·intro he
    cbv
    rw[hΩ]at he;simp (disch:=omega) only[Om.real,qb,decide_eq_true_eq,decide_eq_false_iff_not]at he
    repeat (refine⟨by ((try intro _);(try subst hΩ);simp (disch:=omega) only[Om.real,qb,SN.v];omega),?_⟩)
    refine⟨(fun _=>⟨(show 0+len'*1<=out'.length by omega),(show 0+1*1<=1 by omega)⟩),fun cap2 hcap2 => ?_⟩;simp only[SN.v]at hcap2
    obtain⟨o2,ho2⟩ : ∃ o2,o2=qa2 s i++(rbUp l (k+1)).1:=⟨_,rfl⟩
    obtain⟨r2,hr2⟩ : ∃ r2,r2=(rbUp l (k+1)).2:=⟨_,rfl⟩
    obtain⟨l2,hl2⟩ : ∃ l2,l2=len'+1:=⟨_,rfl⟩
    cbv
    refine⟨(k+1,l2,cap2,r2,o2),[some 160],⟨by dsimp only;omega,by dsimp only;omega,hr2,ho2,by dsimp only;omega⟩,by dsimp only;omega,by simp,?_⟩
    cbv
    subst hΩ
    simp (disch:=omega) only[Om.real,qb]
    refine⟨hl2.symm,by rw[hr2,rbUp,<- hr],trivial,?_,trivial⟩
    rw[ho2,rbUp,<- List.append_assoc,<- ho',List.drop_zero,List.take_of_length_le (by omega),<- hr]
   ·intro he
    cbv
    rw[hΩ]at he;simp (disch:=omega) only[Om.real,qb,decide_eq_true_eq,decide_eq_false_iff_not]at he
    have hk8:k=8:=by omega
    refine⟨(i+1,len',cap',out'),[some 96],⟨by dsimp only;omega,by dsimp only;omega,by dsimp only;rw[ho',hk8,hll];rfl,by dsimp only;omega⟩,by dsimp only;omega,by simp,?_⟩
    cbv
    subst hΩ
    simp (disch:=omega) only[Om.real,qb]
    exact⟨trivial,trivial⟩
  ·intro hd
   cbv
   rw[hΩ]at hd;simp (disch:=omega) only[Om.real,qb,decide_eq_true_eq,decide_eq_false_iff_not]at hd
   have hi25:i=25:=by omega
   subst hi25
   have hol:out.length=len:=by rw[ho,qgs,hl]
   refine hQ (out,cap) _ _ _ ⟨ho,by dsimp only;omega⟩ ?_
   refine⟨rfl,rfl,?_,?_⟩
   ·show 0+len<=out.length
    omega
   ·subst hΩ
    show out=(out.drop 0).take len
    rw[List.drop_zero,List.take_of_length_le (by omega)]
end Go.Sx.Tryz.K
end
section
set_option maxHeartbeats 4000000
namespace Go.Sx.Tryz.K
open Go.Proofs
def ofF (b:List Int):List Int × Int:=if b.length ≠ 200 then (List.replicate 25 0,11) else xorF (List.replicate 25 0) b
def inUp (b u:List Int) (i:Nat):Nat->List Int
 | 0=>u
 | m+1=>(inUp b u i m).set i (binL .add .u64 (binL .mul .u64 ((inUp b u i m).getD i 0) 256) (IntKind.u64.wrap (b.getD (8*i+(7-m)) 0)))
def qam (b:List Int):Nat->List Int
 | 0=>List.replicate 25 0
 | n+1=>inUp b (qam b n) (24-n) 8
theorem qgt (b u:List Int) (i:Nat) : ∀ n,(inUp b u i n).length=u.length
 | 0=>rfl
 | n+1=>by simp[inUp,qgt b u i n]
theorem qcq (b:List Int) : ∀ n,(qam b n).length=25
 | 0=>rfl
 | n+1=>by simp[qam,qgt,qcq b n]
def s22:qe:=fun args=>match args with
 | [.roi .u8 b]=>⟨∀ _:Unit,b.length=200,List Int,fun z=>z=qam b 25,fun z =>.row .u64 25 z⟩
 | _=>PR.none
theorem c22:Ctr Tryz.prog T glob 165 s22:=by
 refine qaQ T_ok qf qg [] [] qh qi   Tryz.func165 (by rfl) (by kernel_rfl) Tryz.call165 ?_ ?_
 ·intro args;unfold s22;split
  ·exact qfs ⟨trivial,trivial⟩ fun _=>⟨_,rfl⟩
  ·exact PR.good_none
 ·intro P Ω hΩ hE hI hm args pr hs hp Q hQ
  unfold s22 at hs
  split at hs<;>subst hs<;>try (exact hp.elim)
  rename_i b
  have lb:=hp ()
  refine⟨1000,?_⟩
  cbv
  refine qn hE hI hm (fun x:Nat × Int × List Int=>(mkT 30 [(0,.roi .u8 b),(2,.ptr 0 (.l 0)),(3,.ptr 8 (.l 0)),(4,.int .i64 x.2.1)],[(8,.row .u64 25 x.2.2),(0,.row .u64 25 (List.replicate 25 0))])) (fun x=>x.1<=25/\x.2.1=24-(x.1:Int)/\x.2.2=qam b x.1) (fun x=>25-x.1) 0 ⟨(0,24,List.replicate 25 0),[],⟨Nat.zero_le _,rfl,rfl⟩,by decide,?_⟩ fun x hj=>⟨1000,?_⟩
  ·cbv
  obtain⟨n,i,u⟩:=x
  cbv
  obtain⟨hn,hi,hu⟩:n<=25/\i=24-(n:Int)/\u=qam b n:=hj
  constructor
  ·intro hd
   have hd':0<=i:=by subst hΩ;exact of_decide_eq_true (show decide (0<=i)=true from hd)
   obtain⟨p,hp'⟩ : ∃ p:Nat,i=p:=⟨24-n,by omega⟩
   subst hp'
   have hpn:p+n=24:=by omega
   clear hi hd'
   cbv
   refine qn hE hI hm (fun x:Nat × Int × List Int=>(mkT 30 [(0,.roi .u8 b),(2,.ptr 0 (.l 0)),(3,.ptr 8 (.l 0)),(4,.int .i64 p),(5,.int .i64 x.2.1)],[(8,.row .u64 25 x.2.2),(0,.row .u64 25 (List.replicate 25 0))])) (fun x=>x.1<=8/\x.2.1=7-(x.1:Int)/\x.2.2=inUp b u p x.1) (fun x=>8-x.1) 0 ⟨(0,7,u),[],⟨Nat.zero_le _,rfl,rfl⟩,by decide,?_⟩ fun x hj'=>⟨1000,?_⟩
   ·cbv
   obtain⟨m,k,v⟩:=x
   cbv
   obtain⟨hm',hk,hv⟩:m<=8/\k=7-(m:Int)/\v=inUp b u p m:=hj'
   constructor
   ·intro he
    have he':0<=k:=by subst hΩ;exact of_decide_eq_true (show decide (0<=k)=true from he)
    obtain⟨q,hq'⟩ : ∃ q:Nat,k=q:=⟨7-m,by omega⟩
    subst hq'
    have hqm:q+m=7:=by omega
    clear hk he'
    cbv
    repeat (refine⟨by ((try intro _);(try subst hΩ);simp (disch:=omega) only[Om.real,qb,SN.v];omega),?_⟩)
    obtain⟨v2,hv2⟩ : ∃ v2,v2=inUp b u p (m+1):=⟨_,rfl⟩
    obtain⟨k2,hk2⟩ : ∃ k2:Int,k2=(q:Int)-1:=⟨_,rfl⟩
    refine⟨(m+1,k2,v2),[],⟨by dsimp only;omega,by show k2=7-((m+1:Nat):Int);omega,hv2⟩,by dsimp only;omega,by simp,?_⟩
    cbv
    subst hΩ
    simp (disch:=omega) only[Om.real,qb]
    have e1:binL .sub .i64 (q:Int) 1=q-1:=qal (by omega) (by omega)
    have e2:q=7-m:=by omega
    refine⟨by rw[hk2,e1],?_,trivial⟩
    rw[hv2,inUp,<- hv,<- e2]
   ·intro he
    have he' : ¬ 0<=k:=by subst hΩ;exact of_decide_eq_false (show decide (0<=k)=false from he)
    have hm8:m=8:=by omega
    clear hk he'
    cbv
    obtain⟨k2,hk2⟩ : ∃ k2:Int,k2=p-1:=⟨_,rfl⟩
    have hpn':p=24-n:=by omega
    refine⟨(n+1,k2,v),[],⟨by dsimp only;omega,by show k2=24-((n+1:Nat):Int);omega,by dsimp only;rw[hv,hm8,qam,<- hu,<- hpn']⟩,by dsimp only;omega,by simp,?_⟩
    cbv
    subst hΩ
    simp (disch:=omega) only[Om.real,qb]
    have e1:binL .sub .i64 (p:Int) 1=p-1:=qal (by omega) (by omega)
    exact⟨by rw[hk2,e1],trivial⟩
  ·intro hd
   have hd' : ¬ 0<=i:=by subst hΩ;exact of_decide_eq_false (show decide (0<=i)=false from hd)
   have hn25:n=25:=by omega
   clear hi hd'
   cbv
   refine hQ u _ _ _ (by rw[<- hn25];exact hu) ?_
   cbv
end Go.Sx.Tryz.K
end
section
namespace Go.Sx.Tryz.K
open Go.Proofs
def lb (a:Int):BitVec 64:=BitVec.ofInt 64 a
theorem qsD (b:BitVec 64):lb (b.toNat:Int)=b:=qgm b
theorem qsE (a b:Int):lb (xo a b)=lb a ^^^ lb b:=by rw[xo,qiN,qsD];rfl
end Go.Sx.Tryz.K
end
section
namespace Go.Sx.Tryz.K
open Go.Proofs
def InR (a:Int):Prop:=0<=a/\a<18446744073709551616
theorem qc7 (a:Int):InR (IntKind.u64.wrap a):=by
 rw[IntKind.wrap_u64];unfold InR;omega
theorem qm4 {a:Int} (h:InR a):((lb a).toNat:Int)=a:=by
 unfold InR at h
 simp only[lb,BitVec.toNat_ofInt]
 omega
theorem qsF {a b:Int} (ha:InR a) (hb:InR b) (h:lb a=lb b):a=b:=by
 rw[<- qm4 ha,<- qm4 hb,h]
theorem qsG (a:Int) (k:Nat) (hk:k<64):lb (binL .shl .u64 a k)=lb a <<< k:=by
 have h1:binL .shl .u64 a k=IntKind.u64.wrap (a*2^k):=by
  show IntKind.u64.wrap (a*2^(min ((k:Int)).toNat 64))=_
  rw[Int.toNat_natCast,Nat.min_eq_left (by omega)]
 rw[h1,lb,qek,BitVec.shiftLeft_eq_mul_twoPow]
 have h2:(2:Int)^k=((2^k:Nat):Int):=by simp
 rw[h2,BitVec.ofInt_mul,BitVec.ofInt_natCast]
 congr 1
 apply BitVec.eq_of_toNat_eq
 simp
end Go.Sx.Tryz.K
end
section

end
section
namespace Go.Sx.Tryz.K
open Go.Proofs
theorem mem_map {l:List Int} {P:Int->Prop} (h : ∀ i,i<l.length->P (l.getD i 0)) : ∀ a ∈ l,P a:=fun a ha=>by
 obtain⟨i,hi,rfl⟩:=List.mem_iff_getElem.1 ha
 have:=h i hi
 rwa[List.getD_eq_getElem?_getD,List.getElem?_eq_getElem hi]at this
theorem qm5 (s c:List Int) (hs : ∀ a ∈ s,InR a) : ∀ n,∀ a ∈ qaY s c n,InR a
 | 0=>hs
 | n+1=>fun a ha=>by
   rcases List.mem_or_eq_of_mem_set ha with h|h
   · exact qm5 s c hs n a h
   · rw[h];exact qc7 _
theorem qm6 (s:List Int) (hs : ∀ a ∈ s,InR a) (h0:InR (s.getD 1 0)) : ∀ n,(∀ a ∈ (qaz s n).2,InR a)
 | 0=>hs
 | n+1=>fun a ha=>by
   rcases List.mem_or_eq_of_mem_set ha with h|h
   · exact qm6 s hs h0 n a h
   · rw[h];exact qc7 _
theorem qm7 (row:List Int) (y:Nat) (s:List Int) (hs : ∀ a ∈ s,InR a) : ∀ n,∀ a ∈ qbq row y s n,InR a
 | 0=>hs
 | n+1=>fun a ha=>by
   rcases List.mem_or_eq_of_mem_set ha with h|h
   · exact qm7 row y s hs n a h
   · rw[h];exact qc7 _
theorem qm8 (s:List Int) (hs : ∀ a ∈ s,InR a) : ∀ n,∀ a ∈ qbf s n,InR a
 | 0=>hs
 | n+1=>qm7 _ _ _ (qm8 s hs n) 5
theorem qem {s:List Int} (hs : ∀ a ∈ s,InR a) (i:Nat):InR (s.getD i 0):=by
 rw[List.getD_eq_getElem?_getD]
 cases h:s[i]? with
 | none=>exact⟨Int.le_refl _,by decide⟩
 | some a=>exact hs a (List.mem_of_getElem? h)
theorem qsH {s:List Int} (hs : ∀ a ∈ s,InR a) : ∀ a ∈ mix s,InR a:=qm5 _ _ hs 25
theorem qsI {s:List Int} (hs : ∀ a ∈ s,InR a) : ∀ a ∈ move s,InR a:=qm6 _ hs (qem hs 1) 24
theorem qsJ {s:List Int} (hs : ∀ a ∈ s,InR a) : ∀ a ∈ bend s,InR a:=qm8 _ hs 5
theorem qsK {s:List Int} (hs : ∀ a ∈ s,InR a) (r:Nat) : ∀ a ∈ turn s r,InR a:=fun a ha=>by
 rcases List.mem_or_eq_of_mem_set ha with h|h
 ·exact qsJ (qsI (qsH hs)) a h
 ·rw[h];exact qc7 _
theorem qm9 {s:List Int} (hs : ∀ a ∈ s,InR a) : ∀ n,∀ a ∈ qaZ s n,InR a
 | 0=>hs
 | n+1=>qsK (qm9 hs n) n
end Go.Sx.Tryz.K
end
section
namespace Go.Sx.Tryz.K
open Go.Proofs
def byo (x:BitVec 64) (k:Nat):BitVec 8:=x.extractLsb' (8*k) 8
theorem qb1 (x:BitVec 64) (k i:Nat) (hi:i<8):(byo x k).getLsbD i=x.getLsbD (8*k+i):=by
 simp[byo,BitVec.getLsbD_extractLsb',hi]
theorem qsL {x y:BitVec 64} (h : ∀ k,k<8->byo x k=byo y k):x=y:=by
 apply BitVec.eq_of_getLsbD_eq
 intro i hi
 have h1:=congrArg (fun z:BitVec 8=>z.getLsbD (i % 8)) (h (i / 8) (by omega))
 simp only[qb1 _ _ _ (Nat.mod_lt i (by omega:0<8))]at h1
 have h2:8*(i / 8)+i % 8=i:=by omega
 rwa[h2]at h1
theorem qgu (n:Nat):IntKind.u8.wrap (n:Int)=((n % 256:Nat):Int):=by
 rw[IntKind.wrap_u8];omega
theorem qna {a:Int} (h:InR a) (k:Nat) (hk:k<8):IntKind.u8.wrap (binL .shr .u64 a ((8*k:Nat):Int))=((byo (lb a) k).toNat:Int):=by
 have h1:binL .shr .u64 a ((8*k:Nat):Int)=a.fdiv (2^(8*k)):=by
  show a.fdiv (2^(min (((8*k:Nat):Int)).toNat 64))=_
  rw[Int.toNat_natCast,Nat.min_eq_left (by omega)]
 obtain⟨h0,h2⟩:=h
 obtain⟨n,rfl⟩:=Int.eq_ofNat_of_zero_le h0
 rw[h1]
 have h3:(2:Int)^(8*k)=((2^(8*k):Nat):Int):=by simp
 rw[h3,Int.fdiv_eq_ediv_of_nonneg _ (Int.natCast_nonneg _),<- Int.natCast_ediv,qgu]
 congr 1
 simp only[byo,lb,BitVec.extractLsb'_toNat,BitVec.ofInt_natCast,BitVec.toNat_ofNat,Nat.shiftRight_eq_div_pow]
 rw[Nat.mod_eq_of_lt (by omega:n<2^64)]
theorem qsM {n:Nat} (k:Nat) (h:n<18446744073709551616):IntKind.u8.wrap (binL .rem .u64 ((n / 256^k:Nat):Int) 256)=((byo (lb (n:Int)) k).toNat:Int):=by
 have h1:binL .rem .u64 ((n / 256^k:Nat):Int) 256=((n / 256^k % 256:Nat):Int):=by
  show((n / 256^k:Nat):Int).tmod 256=_
  rw[Int.tmod_eq_emod_of_nonneg (Int.natCast_nonneg _)]
  rfl
 rw[h1,qgu,Nat.mod_mod]
 simp only[byo,lb,BitVec.extractLsb'_toNat,BitVec.ofInt_natCast,BitVec.toNat_ofNat,Nat.shiftRight_eq_div_pow]
 rw[Nat.mod_eq_of_lt (by omega:n<2^64),Nat.pow_mul]
theorem qnb {n:Nat} (h:n<18446744073709551616) : ∀ k,(rbUp (n:Int) k).2=((n / 256^k:Nat):Int)
 | 0=>by simp[rbUp]
 | k+1=>by
   simp only[rbUp,qnb h k]
   show IntKind.u64.wrap (((n / 256^k:Nat):Int).tdiv 256)=_
   rw[Int.tdiv_eq_ediv_of_nonneg (Int.natCast_nonneg _)]
   have h1:((n / 256^k:Nat):Int) / 256=((n / 256^k / 256:Nat):Int):=rfl
   have h2:n / 256^k / 256<=n:=Nat.le_trans (Nat.div_le_self _ _) (Nat.div_le_self _ _)
   rw[h1,qhI (Int.natCast_nonneg _) (by omega),Nat.div_div_eq_div_mul,Nat.pow_succ]
theorem qnc {a:Int} (h:InR a) : ∀ k,k<=8->(rbUp a k).1=lbUp a k
 | 0,_=>rfl
 | k+1,hk=>by
   obtain⟨n,rfl⟩:=Int.eq_ofNat_of_zero_le h.1
   have h2:n<18446744073709551616:=by have:=h.2;omega
   simp only[rbUp,lbUp]
   rw[qnc h k (by omega),qnb h2 k,qsM k h2,qna h k (by omega)]
theorem qnd {s:List Int} (hs : ∀ a ∈ s,InR a) : ∀ n,qa2 s n=bytesUp s n
 | 0=>rfl
 | n+1=>by simp only[qa2,bytesUp,qnd hs n,qnc (qem hs n) 8 (Nat.le_refl _)]
theorem qiT {l m:List Int} {j:Nat} (h:j<l.length):(l++m).getD j 0=l.getD j 0:=by
 simp only[List.getD_eq_getElem?_getD]
 rw[List.getElem?_append_left h]
theorem qiU {l m:List Int} {j:Nat} (h:l.length<=j):(l++m).getD j 0=m.getD (j-l.length) 0:=by
 simp only[List.getD_eq_getElem?_getD]
 rw[List.getElem?_append_right h]
theorem qne {a:Int} (h:InR a) : ∀ n,n<=8 -> ∀ k,k<n->(lbUp a n).getD k 0=((byo (lb a) k).toNat:Int)
 | n+1,hn,k,hk=>by
   rw[lbUp]
   by_cases h1:k<n
   · rw[qiT (by rw[qc8];exact h1),qne h n (by omega) k h1]
   · have:k=n:=by omega
     subst this
     rw[qiU (by rw[qc8];exact Nat.le_refl _),qc8,Nat.sub_self,List.getD_cons_zero,qna h k (by omega)]
theorem qnf {s:List Int} (hs : ∀ a ∈ s,InR a) : ∀ n j,j<8*n->(bytesUp s n).getD j 0=((byo (lb (s.getD (j / 8) 0)) (j % 8)).toNat:Int)
 | n+1,j,hj=>by
   rw[bytesUp]
   by_cases h1:j<8*n
   · rw[qiT (by rw[qae];exact h1),qnf hs n j h1]
   · have e1:j / 8=n:=by omega
     have e2:j-8*n=j % 8:=by omega
     rw[qiU (by rw[qae];omega),qae,e2,qne (qem hs n) 8 (Nat.le_refl _) _ (by omega),e1]
def InB (a:Int):Prop:=0<=a/\a<256
def b8 (a:Int):BitVec 8:=BitVec.ofInt 8 a
theorem qng {a:Int} (h:InB a):((b8 a).toNat:Int)=a:=by
 unfold InB at h
 simp only[b8,BitVec.toNat_ofInt]
 omega
theorem qgv (x:BitVec 8):b8 (x.toNat:Int)=x:=by
 apply BitVec.eq_of_toNat_eq
 simp[b8]
theorem qsN (x:BitVec 8):InB (x.toNat:Int):=⟨Int.natCast_nonneg _,by have:=x.isLt;omega⟩
theorem qnh {a:Int} (h:InB a):lb (IntKind.u64.wrap a)=(b8 a).setWidth 64:=by
 rw[lb,qek]
 apply BitVec.eq_of_toNat_eq
 have h1:=qng h
 unfold InB at h
 rw[BitVec.toNat_setWidth,Nat.mod_eq_of_lt (by have:=(b8 a).isLt;omega),BitVec.toNat_ofInt]
 omega
theorem qsO (x:BitVec 64) (c:BitVec 8) (m k:Nat) (hm:m<8) (hk:k<8):byo (x ^^^ (c.setWidth 64 <<< (8*m))) k=if k=m then byo x k ^^^ c else byo x k:=by
 apply BitVec.eq_of_getLsbD_eq
 intro i hi
 rw[qb1 _ _ _ hi,BitVec.getLsbD_xor,BitVec.getLsbD_shiftLeft,BitVec.getLsbD_setWidth]
 have h1:8*k+i<64:=by omega
 by_cases h:k=m
 ·subst h
  have h3:8*k+i-8*k=i:=by omega
  rw[if_pos rfl,BitVec.getLsbD_xor,qb1 _ _ _ hi,h3]
  have h2 : ¬ 8*k+i<8*k:=by omega
  simp[h1,h2,show i<64 by omega]
 ·rw[if_neg h,qb1 _ _ _ hi]
  by_cases h2:8*k+i<8*m
  ·simp[h2]
  ·have:8<=8*k+i-8*m:=by omega
   simp[BitVec.getLsbD_of_ge c _ this]
def sb (s:List Int) (j:Nat):BitVec 8:=byo (lb (s.getD (j / 8) 0)) (j % 8)
theorem qni {s t:List Int} (ls:s.length=25) (lt:t.length=25) (hs : ∀ a ∈ s,InR a) (ht : ∀ a ∈ t,InR a) (h : ∀ j,j<200->sb s j=sb t j):s=t:=by
 apply List.ext_getElem (by omega)
 intro i h1 h2
 have e1:s.getD i 0=s[i]:=by simp[List.getD,h1]
 have e2:t.getD i 0=t[i]:=by simp[List.getD,h2]
 rw[<- e1,<- e2]
 refine qsF (qem hs i) (qem ht i) (qsL fun k hk => ?_)
 have:=h (8*i+k) (by omega)
 unfold sb at this
 have e3:(8*i+k) / 8=i:=by omega
 have e4:(8*i+k) % 8=k:=by omega
 rwa[e3,e4]at this
theorem qb2 {s b:List Int} (hs : ∀ a ∈ s,InR a) : ∀ n,∀ a ∈ qaw s b n,InR a
 | 0=>hs
 | n+1=>fun a ha=>by
   rcases List.mem_or_eq_of_mem_set ha with h|h
   · exact qb2 hs n a h
   · rw[h];exact qc7 _
theorem getD_set (l:List Int) (i j:Nat) (x:Int) (hi:i<l.length):(l.set i x).getD j 0=if i=j then x else l.getD j 0:=by
 simp only[List.getD_eq_getElem?_getD,List.getElem?_set]
 split
 ·simp_all
 ·rfl
theorem qiV {b:List Int} (hb : ∀ a ∈ b,InB a) (i:Nat):InB (b.getD i 0):=by
 rw[List.getD_eq_getElem?_getD]
 cases h:b[i]? with
 | none=>exact⟨Int.le_refl _,by decide⟩
 | some a=>exact hb a (List.mem_of_getElem? h)
theorem qgw {s b:List Int} (ls:s.length=25) (hb : ∀ a ∈ b,InB a) : ∀ n,n<=200 -> ∀ j,j<200->sb (qaw s b n) j=if j<n then sb s j ^^^ b8 (b.getD j 0) else sb s j
 | 0,_,j,hj=>by simp[qaw]
 | n+1,hn,j,hj=>by
   have ih:=qgw ls hb n (by omega) j hj
   simp only[sb,qaw]
   rw[getD_set _ _ _ _ (by rw[qa1];omega)]
   by_cases h:n / 8=j / 8
   · rw[if_pos h]
     have h1:=qsE ((qaw s b n).getD (n / 8) 0) (binL .shl .u64 (IntKind.u64.wrap (b.getD n 0)) ((8*(n % 8):Nat):Int))
     rw[xo]at h1
     rw[h1,qsG _ _ (by omega),qnh (qiV hb n),qsO _ _ _ _ (by omega) (by omega)]
     unfold sb at ih
     rw[h,ih]
     by_cases h2:j % 8=n % 8
     · have:j=n:=by omega
       subst this
       rw[if_pos h2,if_neg (by omega),if_pos (by omega)]
     · rw[if_neg h2]
       by_cases h3:j<n
       · rw[if_pos h3,if_pos (by omega)]
       · rw[if_neg h3,if_neg (by omega)]
   · rw[if_neg h]
     unfold sb at ih
     rw[ih]
     by_cases h3:j<n
     · rw[if_pos h3,if_pos (by omega)]
     · rw[if_neg h3,if_neg (by omega)]
theorem qgx {s:List Int} (hs : ∀ a ∈ s,InR a) (j:Nat) (hj:j<200):(bytesUp s 25).getD j 0=((sb s j).toNat:Int):=qnf hs 25 j hj
theorem qnj {s:List Int} (hs : ∀ a ∈ s,InR a) : ∀ a ∈ bytesUp s 25,InB a:=mem_map fun i hi=>by
 rw[qae]at hi
 rw[qgx hs i hi]
 exact qsN _
theorem qc9 : ∀ a ∈ List.replicate 25 (0:Int),InR a:=fun a ha=>by
 rw[List.eq_of_mem_replicate ha];exact⟨Int.le_refl _,by decide⟩
theorem qnk (j:Nat):sb (List.replicate 25 0) j=0#8:=by
 unfold sb
 have:(List.replicate 25 (0:Int)).getD (j / 8) 0=0:=by
  simp only[List.getD_eq_getElem?_getD,List.getElem?_replicate]
  split<;>rfl
 rw[this]
 apply BitVec.eq_of_getLsbD_eq
 intro i hi
 rw[qb1 _ _ _ hi]
 have:lb 0=0#64:=rfl
 rw[this]
 simp
theorem qsP {s:List Int} (ls:s.length=25) (hs : ∀ a ∈ s,InR a):ofF (bytesUp s 25)=(s,0):=by
 unfold ofF xorF
 rw[if_neg (by rw[qae];decide),if_neg (by rw[qae];decide),qae]
 refine congrArg (·,(0:Int)) (qni (by rw[qa1];rfl) ls (qb2 qc9 _) hs fun j hj => ?_)
 rw[qgw rfl (qnj hs) _ (by omega) j hj,if_pos (by omega),qnk,qgx hs j hj,qgv]
 simp
theorem qsQ {b c:List Int} (hl:b.length=c.length) (h : ∀ j,j<b.length->b.getD j 0=c.getD j 0):b=c:=by
 apply List.ext_getElem hl
 intro i h1 h2
 have:=h i h1
 simpa[List.getD,h1,h2]using this
end Go.Sx.Tryz.K
end
section
namespace Go.Sx.Tryz.K
open Go.Proofs
theorem qsR (a b:Int):lb (binL .add .u64 a b)=lb a+lb b:=by
 show lb (IntKind.u64.wrap (a+b))=_
 rw[lb,qek,BitVec.ofInt_add];rfl
theorem qsS (a b:Int):lb (binL .mul .u64 a b)=lb a*lb b:=by
 show lb (IntKind.u64.wrap (a*b))=_
 rw[lb,qek,BitVec.ofInt_mul];rfl
theorem horner (x:BitVec 64) (c:BitVec 8):x*lb 256+c.setWidth 64=x <<< 8 ||| c.setWidth 64:=by
 have h1:x*lb 256=x <<< 8:=by
  rw[BitVec.shiftLeft_eq_mul_twoPow];rfl
 rw[h1]
 apply BitVec.add_eq_or_of_and_eq_zero
 apply BitVec.eq_of_getLsbD_eq
 intro i hi
 simp only[BitVec.getLsbD_and,BitVec.getLsbD_shiftLeft,BitVec.getLsbD_setWidth,BitVec.getLsbD_zero]
 by_cases h:i<8
 ·simp[h]
 ·simp[BitVec.getLsbD_of_ge c i (by omega)]
theorem qsT (x:BitVec 64) (c:BitVec 8) (k:Nat) (hk:k<8):byo (x*lb 256+c.setWidth 64) k=if k=0 then c else byo x (k-1):=by
 rw[horner]
 apply BitVec.eq_of_getLsbD_eq
 intro i hi
 rw[qb1 _ _ _ hi,BitVec.getLsbD_or,BitVec.getLsbD_shiftLeft,BitVec.getLsbD_setWidth]
 by_cases h:k=0
 ·subst h
  simp[hi,show i<64 by omega]
 ·rw[if_neg h,qb1 _ _ _ hi]
  have e1:8*k+i-8=8*(k-1)+i:=by omega
  rw[e1,BitVec.getLsbD_of_ge c _ (by omega)]
  simp[show 8*k+i<64 by omega,show ¬ 8*k+i<8 by omega]
theorem qiW (b u:List Int) (i j:Nat) (hi:i<u.length) (hij:i ≠ j) : ∀ m,(inUp b u i m).getD j 0=u.getD j 0
 | 0=>rfl
 | m+1=>by
   rw[inUp,getD_set _ _ _ _ (by rw[qgt];exact hi),if_neg hij,qiW b u i j hi hij m]
theorem qnl {b u:List Int} (hb : ∀ a ∈ b,InB a) (i:Nat) (hi:i<u.length) (h0:u.getD i 0=0) : ∀ m,m<=8 -> ∀ k,k<8->byo (lb ((inUp b u i m).getD i 0)) k=if k<m then b8 (b.getD (8*i+(8-m+k)) 0) else 0#8
 | 0,_,k,hk=>by
   rw[inUp,h0,if_neg (by omega)]
   apply BitVec.eq_of_getLsbD_eq
   intro i hi
   rw[qb1 _ _ _ hi]
   have:lb 0=0#64:=rfl
   rw[this]
   simp
 | m+1,hm,k,hk=>by
   rw[inUp,getD_set _ _ _ _ (by rw[qgt];exact hi),if_pos rfl,qsR,qsS,qnh (qiV hb _),qsT _ _ _ hk]
   by_cases h:k=0
   · subst h
     rw[if_pos rfl,if_pos (by omega)]
     congr 2;omega
   · rw[if_neg h,qnl hb i hi h0 m (by omega) (k-1) (by omega)]
     by_cases h2:k<m+1
     · rw[if_pos h2,if_pos (by omega)]
       congr 2;omega
     · rw[if_neg h2,if_neg (by omega)]
theorem qnm (b:List Int) : ∀ n,n<=25 -> ∀ j,j<25-n->(qam b n).getD j 0=0
 | 0,_,j,hj=>by
   rw[qam]
   simp only[List.getD_eq_getElem?_getD,List.getElem?_replicate]
   split<;>rfl
 | n+1,hn,j,hj=>by
   rw[qam,qiW _ _ _ _ (by rw[qcq];omega) (by omega),qnm b n (by omega) j (by omega)]
theorem qnn {b:List Int} (hb : ∀ a ∈ b,InB a) : ∀ n,n<=25 -> ∀ j,25-n<=j->j<25 -> ∀ k,k<8->byo (lb ((qam b n).getD j 0)) k=b8 (b.getD (8*j+k) 0)
 | 0,_,j,h1,h2,k,hk=>by omega
 | n+1,hn,j,h1,h2,k,hk=>by
   rw[qam]
   by_cases h:24-n=j
   · rw[h,qnl hb j (by rw[qcq];omega) (qnm b n (by omega) j (by omega)) 8 (Nat.le_refl _) k hk,if_pos hk]
     congr 2;omega
   · rw[qiW _ _ _ _ (by rw[qcq];omega) h,qnn hb n (by omega) j (by omega) h2 k hk]
theorem qno {b u:List Int} (hu : ∀ a ∈ u,InR a) (i:Nat) : ∀ m,∀ a ∈ inUp b u i m,InR a
 | 0=>hu
 | m+1=>fun a ha=>by
   rcases List.mem_or_eq_of_mem_set ha with h|h
   · exact qno hu i m a h
   · rw[h];exact qc7 _
theorem qnp (b:List Int) : ∀ n,∀ a ∈ qam b n,InR a
 | 0=>qc9
 | n+1=>qno (qnp b n) _ 8
theorem qsU {b:List Int} (lb':b.length=200) (hb : ∀ a ∈ b,InB a):ofF b=(qam b 25,0):=by
 unfold ofF xorF
 rw[if_neg (by omega),if_neg (by omega),lb']
 refine congrArg (·,(0:Int)) (qni (by rw[qa1];rfl) (qcq b 25) (qb2 qc9 _) (qnp b 25) fun j hj => ?_)
 rw[qgw rfl hb _ (Nat.le_refl _) j hj,if_pos hj,qnk,BitVec.zero_xor]
 unfold sb
 rw[qnn hb 25 (Nat.le_refl _) (j / 8) (by omega) (by omega) (j % 8) (by omega)]
 congr 2;omega
end Go.Sx.Tryz.K
end
