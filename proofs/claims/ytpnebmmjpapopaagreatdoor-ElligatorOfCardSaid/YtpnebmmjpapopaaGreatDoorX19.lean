/-
  Part of the proof of a statement: the means.
-/
import Derived.Test.YtpnebmmjpapopaaGreatDoorX13
import Derived.Test.YtpnebmmjpapopaaGreatDoorX6
import Derived.Test.YtpnebmmjpapopaaGreatDoorX5
set_option linter.unusedSectionVars false
set_option linter.unusedVariables false
set_option linter.unusedSimpArgs false
set_option linter.deprecated false
section
namespace Go.Sx
def eR (t:Fp):Fp :=-(t*t)
def eV (r:Fp):Fp:=(-((r-fI 1)*fI 39081)+fI 1)*(-((r-fI 1)*fI 39081)-r)
def eQ (t:Fp):Fp:=qI (fI 78163) ((eR t+fI 1)*eV (eR t))
def eI (t:Fp):Bool:=decide ((eR t+fI 1)*eV (eR t)*(fI 78163*qq (fI 78163*((eR t+fI 1)*eV (eR t)))*(fI 78163*qq (fI 78163*((eR t+fI 1)*eV (eR t)))))=fI 78163)
def eW (t:Fp):Fp:=if eI t=true then eQ t else t*eQ t
def eG (t:Fp):Fp:=if eI t=true then fI 1 else -fI 1
def eS (t:Fp):Fp:=eW t*(eR t+fI 1)
def eX (t:Fp):Fp:=fabs (eS t)*fI 2*finv (eS t*eS t+fI 1)
def eY (t:Fp):Fp:=(eS t*eS t-fI 1)*finv (qV [eW t,eS t,eR t-fI 1]*fI 78163+eG t)
theorem c_is:fI 78163=1-2*dF:=by decide +kernel
theorem u_is:fI 39081 = -dF:=by decide +kernel
theorem c_ne:fI 78163 ≠ 0:=by decide +kernel
theorem quF:bp pN 0 (39081*39082,0) 448 363419362147803445274661903944002267176820680343659030140745099590306164083365386343198191849338272965044442230921818680526749009182719=(726838724295606890549323807888004534353641360687318060281490199180612328166730772686396383698676545930088884461843637361053498018365438,0):=by
 decide +kernel
theorem quG:pw (dF*(dF-1)) 363419362147803445274661903944002267176820680343659030140745099590306164083365386343198191849338272965044442230921818680526749009182719 = -1:=by
 have hg:=qcq (q:=pN) (n:=pN) (Nat.dvd_refl _) 0 (39081*39082,0) 448 363419362147803445274661903944002267176820680343659030140745099590306164083365386343198191849338272965044442230921818680526749009182719 (by decide +kernel)
 rw[quF]at hg
 simp only[toQ,ofNat_zero,qb3]at hg
 have h1:Fin.ofNat pN 726838724295606890549323807888004534353641360687318060281490199180612328166730772686396383698676545930088884461843637361053498018365438=pw (Fin.ofNat pN (39081*39082)) 363419362147803445274661903944002267176820680343659030140745099590306164083365386343198191849338272965044442230921818680526749009182719:=congrArg Prod.fst hg
 have e:dF*(dF-1)=Fin.ofNat pN (39081*39082):=by decide +kernel
 rw[e,<- h1]
 decide +kernel
theorem qoP {c m f:Fp} (hc:c ≠ 0) (hm:m ≠ 0) (hf:c*m*(f*f)=1\/c*m*(f*f) = -1) :
  (m*(c*f*(c*f))=c)\/(¬ m*(c*f*(c*f))=c/\m*(c*f*(c*f)) = -c):=by
 rcases hf with h|h
 ·left
  have:m*(c*f*(c*f))=c*(c*m*(f*f)):=by grind -lia -linarith -order -ac (splits:=0)
  rw[this,h];grind -lia -linarith -order -ac (splits:=0)
 ·right
  have e:m*(c*f*(c*f)) = -c:=by
   have:m*(c*f*(c*f))=c*(c*m*(f*f)):=by grind -lia -linarith -order -ac (splits:=0)
   rw[this,h];grind -lia -linarith -order -ac (splits:=0)
  refine⟨fun h2 => ?_,e⟩
  rw[e]at h2
  have:2*c=0:=by grind -lia -linarith -order -ac (splits:=0)
  rcases qa3 this with h|h
  ·exact qeI h
  ·exact hc h
theorem quH {d r v w s b g:Fp} (hv:v=(d*(r-1)+1)*(d*(r-1)-r)) (hs:s=w*(r+1)) (hb:b=w*s*(r-1)*(1-2*d)+g)
  (hg:(g=1/\w*w*((r+1)*v)=1-2*d)\/(g = -1/\w*w*((r+1)*v)=r*(1-2*d))\/(w=0/\g*g=1)) :
  b*b=(1+s*s)*(1+s*s)-4*d*(s*s):=by
 subst hb hs hv
 rcases hg with⟨rfl,h⟩|⟨rfl,h⟩|⟨rfl,h⟩
 ·grind -lia -linarith -order -ac (splits:=0)
 ·grind -lia -linarith -order -ac (splits:=0)
 ·grind -lia -linarith -order -ac (splits:=0)
theorem quI (t:Fp):(eG t=1/\eW t*eW t*((eR t+1)*eV (eR t))=1-2*dF)\/(eG t = -1/\eW t*eW t*((eR t+1)*eV (eR t))=eR t*(1-2*dF))\/(eW t=0/\eG t*eG t=1):=by
 obtain⟨m,hm⟩ : ∃ m,m=(eR t+fI 1)*eV (eR t):=⟨_,rfl⟩
 obtain⟨c,hc⟩ : ∃ c,c=fI 78163:=⟨_,rfl⟩
 obtain⟨f,hf⟩ : ∃ f,f=qq (c*m):=⟨_,rfl⟩
 have hQ:eQ t=fabs (c*f):=by unfold eQ qI;rw[<- hm,<- hc,<- hf]
 have hI:eI t=decide (m*(c*f*(c*f))=c):=by unfold eI;rw[<- hm,<- hc,<- hf]
 have hm1:(eR t+1)*eV (eR t)=m:=by rw[hm,qao]
 rw[hm1,<- c_is,<- hc]
 have hc0:c ≠ 0:=by rw[hc];exact c_ne
 by_cases h0:m=0
 ·right;right
  have hf0:f=0:=by
   rw[hf,h0,show c*0=0 by grind -lia -linarith -order -ac (splits:=0)];exact qoH
  have hq0:eQ t=0:=by rw[hQ,hf0,show c*0=0 by grind -lia -linarith -order -ac (splits:=0)];exact qka
  refine⟨?_,?_⟩
  ·unfold eW;rw[hq0];split
   ·rfl
   ·grind -lia -linarith -order -ac (splits:=0)
  ·unfold eG;rw[qao];split<;>grind -lia -linarith -order -ac (splits:=0)
 rcases qoP hc0 h0 (f:=f) (by rw[hf];exact qeH (qT hc0 h0))with h|⟨h,h2⟩
 ·left
  have hI1:eI t=true:=by rw[hI];exact decide_eq_true h
  refine⟨by unfold eG;rw[if_pos hI1,qao],?_⟩
  have:eW t=fabs (c*f):=by unfold eW;rw[if_pos hI1,hQ]
  rw[this,qg7,<- h];grind -lia -linarith -order -ac (splits:=0)
 ·right;left
  have hI1 : ¬ eI t=true:=by rw[hI];exact fun q=>h (of_decide_eq_true q)
  refine⟨by unfold eG;rw[if_neg hI1,qao],?_⟩
  have hw:eW t=t*fabs (c*f):=by unfold eW;rw[if_neg hI1,hQ]
  have hsq:=qg7 (c*f)
  rw[hw]
  have hr:eR t = -(t*t):=rfl
  rw[hr]
  generalize fabs (c*f)=q at hsq ⊢
  have e:t*q*(t*q)*m=t*t*(m*(q*q)):=by grind -lia -linarith -order -ac (splits:=0)
  rw[e,hsq,h2];grind -lia -linarith -order -ac (splits:=0)
def eB (t:Fp):Fp:=qV [eW t,eS t,eR t-fI 1]*fI 78163+eG t
theorem qkt (t:Fp):eB t*eB t=(1+eS t*eS t)*(1+eS t*eS t)-4*dF*(eS t*eS t):=by
 refine quH (r:=eR t) (v:=eV (eR t)) (w:=eW t) (g:=eG t) ?_ ?_ ?_ (quI t)
 ·unfold eV;rw[qao,u_is];generalize dF=d;grind -lia -linarith -order -ac (splits:=0)
 ·unfold eS;rw[qao]
 ·unfold eB;rw[qe9,qao,c_is]
theorem quJ {d n a i b k:Fp} (hn:n*i=1) (ha:n=a*a+1) (hb:b*k=1) (h:b*b=n*n-4*d*(a*a)) :
  a*2*i*(a*2*i)+(a*a-1)*k*((a*a-1)*k)=1+d*(a*2*i)*(a*2*i)*((a*a-1)*k)*((a*a-1)*k):=by
 obtain⟨I,hI⟩ : ∃ I,I=i*i:=⟨_,rfl⟩
 obtain⟨K,hK⟩ : ∃ K,K=k*k:=⟨_,rfl⟩
 obtain⟨S,hS⟩ : ∃ S,S=a*a:=⟨_,rfl⟩
 have e1:a*2*i*(a*2*i)=4*S*I:=by rw[hS,hI];grind -lia -linarith -order -ac (splits:=0)
 have e2:(a*a-1)*k*((a*a-1)*k)=(S-1)*(S-1)*K:=by rw[hS,hK];grind -lia -linarith -order -ac (splits:=0)
 have e3:1+d*(a*2*i)*(a*2*i)*((a*a-1)*k)*((a*a-1)*k)=1+d*(4*S*I)*((S-1)*(S-1)*K):=by rw[hS,hI,hK];grind -lia -linarith -order -ac (splits:=0)
 have h1:(S+1)*(S+1)*I=1:=by
  rw[hS,hI,<- ha]
  have:n*n*(i*i)=n*i*(n*i):=by grind -lia -linarith -order -ac (splits:=0)
  rw[this,hn]
  grind -lia -linarith -order -ac (splits:=0)
 have h2:((S+1)*(S+1)-4*d*S)*K=1:=by
  have:((S+1)*(S+1)-4*d*S)=b*b:=by rw[h,hS,ha]
  rw[this,hK]
  have:b*b*(k*k)=b*k*(b*k):=by grind -lia -linarith -order -ac (splits:=0)
  rw[this,hb]
  grind -lia -linarith -order -ac (splits:=0)
 rw[e1,e2,e3]
 clear hI hK hS e1 e2 e3
 grind -lia -linarith -order -ac (splits:=0)
theorem qoQ (t:Fp):eS t*eS t+fI 1 ≠ 0:=by
 rw[qao]
 intro h
 refine qgy (eS t) ?_
 generalize eS t=s at *
 grind -lia -linarith -order -ac (splits:=0)
theorem quK (t:Fp):eB t ≠ 0:=by
 intro h0
 have h:=qkt t
 rw[h0]at h
 generalize eS t=s at *
 have h2:=qaR qeI
 refine qgx (b:=(s*s+(1-2*dF))*finv 2) quG ?_
 generalize finv 2=k at *
 generalize dF=d at *
 grind -lia -linarith -order -ac (splits:=0)
theorem e_on (t:Fp):AP.on ⟨eX t,eY t⟩:=by
 have h:=qkt t
 have hn:=qaR (qoQ t)
 have hb:=qaR (quK t)
 have hY:eY t=(eS t*eS t-1)*finv (eB t):=by unfold eY eB;rw[qao]
 have hx:=qg7 (eS t)
 have hX:eX t=fabs (eS t)*2*finv (eS t*eS t+1):=by unfold eX;rw[qao,fI_2]
 rw[qao]at hn
 unfold AP.on
 rw[hX,hY]
 rw[<- hx]at h hn ⊢
 generalize fabs (eS t)=a at *
 generalize finv (eB t)=k at *
 generalize eB t=b at *
 generalize dF=d at *
 exact quJ hn rfl hb (by rw[h];grind -lia -linarith -order -ac (splits:=0))
theorem quL {d n a i b:Fp} (hn:n*i=1) (ha:n=a*a+1) (h:b*b=n*n-4*d*(a*a)):1-d*(a*2*i*(a*2*i))=b*i*(b*i):=by
 have e:b*i*(b*i)=(n*n-4*d*(a*a))*(i*i):=by rw[<- h];grind -lia -linarith -order -ac (splits:=0)
 rw[e];grind -lia -linarith -order -ac (splits:=0)
theorem quM (t:Fp) : ∃ z,1-dF*(eX t*eX t)=z*z:=by
 have h:=qkt t
 have hn:=qaR (qoQ t)
 have hx:=qg7 (eS t)
 have hX:eX t=fabs (eS t)*2*finv (eS t*eS t+1):=by unfold eX;rw[qao,fI_2]
 rw[qao]at hn
 rw[hX]
 rw[<- hx]at h hn ⊢
 refine⟨_,quL (b:=eB t) hn rfl ?_⟩
 rw[h]
 generalize fabs (eS t)=a at *
 generalize dF=d at *
 grind -lia -linarith -order -ac (splits:=0)
end Go.Sx
end
section
namespace Go.Sx
theorem qoR (a:Fp):a+a=a*fI 2:=by rw[fI_2];grind -lia -linarith -order -ac (splits:=0)
theorem e_u (r:Fp):fI (-39081)*(r-fI 1) = -((r-fI 1)*fI 39081):=by
 rw[qgz];generalize fI 39081=k;generalize fI 1=o;grind -lia -linarith -order -ac (splits:=0)
theorem e_v (r:Fp):(fI (-39081)*(r-fI 1)+fI 1)*(fI (-39081)*(r-fI 1)-r)=eV r:=by
 rw[e_u];rfl
theorem qoS (w s r g:Fp):fI 78163*(w*s*(r-fI 1))+g=qV [w,s,r-fI 1]*fI 78163+g:=by
 rw[qe9];generalize fI 78163=c;generalize fI 1=o;grind -lia -linarith -order -ac (splits:=0)
def eIv (m:Fp):Bool:=decide (m*(fI 78163*qq (fI 78163*m)*(fI 78163*qq (fI 78163*m)))=fI 78163)
def eM (t:Fp):Fp:=(eR t+fI 1)*((fI (-39081)*(eR t-fI 1)+fI 1)*(fI (-39081)*(eR t-fI 1)-eR t))
theorem qoT (t:Fp):eM t=(eR t+fI 1)*eV (eR t):=by unfold eM;rw[e_v]
theorem eI_m (t:Fp):eIv (eM t)=eI t:=by rw[qoT];rfl
theorem eQ_m (t:Fp):qI (fI 78163) (eM t)=eQ t:=by rw[qoT];rfl
theorem eS_t {t:Fp} (h:eI t=true):eS t=eQ t*(eR t+fI 1):=by unfold eS eW;rw[if_pos h]
theorem eS_f {t:Fp} (h:eI t=false):eS t=t*eQ t*(eR t+fI 1):=by unfold eS eW;rw[if_neg (by rw[h];decide)]
theorem eY_t {t:Fp} (h:eI t=true):eY t=(eS t*eS t-fI 1)*finv (qV [eQ t,eS t,eR t-fI 1]*fI 78163+fI 1):=by unfold eY eW eG;rw[if_pos h,if_pos h]
theorem eY_f {t:Fp} (h:eI t=false):eY t=(eS t*eS t-fI 1)*finv (qV [t*eQ t,eS t,eR t-fI 1]*fI 78163 + -fI 1):=by unfold eY eW eG;rw[if_neg (by rw[h];decide),if_neg (by rw[h];decide)]
end Go.Sx
end
section
namespace Go.Sx
section
variable {q:Nat} [NeZero q] (D:Fin q)
theorem quS (x:Q2 q) : ∀ (m n:Nat),qp D x m=(1,0)->qp D x n=(1,0)->qp D x (Nat.gcd m n)=(1,0):=by
 intro m n
 induction m,n using Nat.gcd.induction with
 | H0 n=>intro _ h;rw[Nat.gcd_zero_left];exact h
 | H1 m n hm ih =>
   intro h1 h2
   rw[Nat.gcd_rec]
   refine ih ?_ h1
   have e:qp D x (m*(n / m)+n % m)=(1,0):=by rw[Nat.div_add_mod];exact h2
   rw[qeF,qcY,h1,qeG,qgt]at e
   exact e
theorem need {x:Q2 q} {N p m:Nat} (hp:Prm p) (h1:qp D x N=(1,0)) (h2:qp D x (p*m)=(1,0)) (h3:qp D x m ≠ (1,0)):p ∣ N:=by
 apply Classical.byContradiction
 intro hn
 have hc:=hp.coprime hn
 have hg:=quS D x N (p*m) h1 h2
 have hd:Nat.gcd N (p*m) ∣ m:=by
  have h4:Nat.Coprime (Nat.gcd N (p*m)) p:=Nat.Coprime.coprime_dvd_left (Nat.gcd_dvd_left N (p*m)) hc.symm
  exact h4.dvd_of_dvd_mul_left (Nat.gcd_dvd_right N (p*m))
 obtain⟨k,hk⟩:=hd
 apply h3
 rw[hk,qcY,hg,qeG]
end
def chkP (n D:Nat) (x:Nat × Nat) (N p:Nat):Bool :=
 Nat.beq (N % p) 0 && Nat.beq (Nat.gcd (Nat.gcd ((bp n D x 512 (N / p)).1+(n-1)) (bp n D x 512 (N / p)).2) n) 1
def chkN (n D:Nat) (x:Nat × Nat) (N:Nat) (ps:List Nat):Bool :=
 decide (bp n D x 512 N=(1,0)) && (decide (N<2^512) && ps.all fun p=>chkP n D x N p)
theorem qhr {q a b:Nat} [NeZero q] (h:Fin.ofNat q a=Fin.ofNat q b):a % q=b % q:=congrArg Fin.val h
theorem qku {n D:Nat} {x:Nat × Nat} {N:Nat} {ps:List Nat} (hc:chkN n D x N ps=true) (h2:2<=n) {q:Nat} [NeZero q] (hq:Prm q) (hd:q ∣ n) {E:Nat} (hE:qp (Fin.ofNat q D) (toQ q x) E=(1,0)) :
  ∀ p ∈ ps,Prm p->p ∣ E:=by
 intro p hp hpp
 unfold chkN at hc
 simp only[Bool.and_eq_true,decide_eq_true_eq,List.all_eq_true]at hc
 obtain⟨c1,c2,c3⟩:=hc
 have c3:=c3 p hp
 unfold chkP at c3
 simp only[Bool.and_eq_true]at c3
 have d1:=Nat.eq_of_beq_eq_true c3.1
 have d2:=Nat.eq_of_beq_eq_true c3.2
 have hN:p*(N / p)=N:=Nat.mul_div_cancel' (Nat.dvd_of_mod_eq_zero d1)
 refine need (Fin.ofNat q D) hpp hE (m:=N / p) ?_ ?_
 ·rw[hN,<- qcq hd D x 512 N c2,c1]
  rfl
 ·rw[<- qcq hd D x 512 (N / p) (Nat.lt_of_le_of_lt (Nat.div_le_self _ _) c2)]
  intro h
  have e1:Fin.ofNat q (bp n D x 512 (N / p)).1=Fin.ofNat q 1:=congrArg Prod.fst h
  have e2:Fin.ofNat q (bp n D x 512 (N / p)).2=0:=congrArg Prod.snd h
  have f2:q ∣ (bp n D x 512 (N / p)).2:=Nat.dvd_of_mod_eq_zero (qhr (e2.trans ofNat_zero.symm) |>.trans (Nat.zero_mod q))
  have f1:q ∣ (bp n D x 512 (N / p)).1+(n-1):=by
   have e3:Fin.ofNat q ((bp n D x 512 (N / p)).1+(n-1))=0:=by
    rw[qbO,e1,<- qbO,show 1+(n-1)=n by omega]
    exact qju hd
   exact Nat.dvd_of_mod_eq_zero (qhr (e3.trans ofNat_zero.symm) |>.trans (Nat.zero_mod q))
  have f:=Nat.dvd_gcd (Nat.dvd_gcd f1 f2) hd
  rw[d2]at f
  have:=Nat.le_of_dvd (by omega) f
  have:=hq.1
  omega
theorem qoU {n a:Nat} {ps:List Nat} (h2:2<=n) (hc:chkN n 0 (a,0) (n-1) ps=true) {q:Nat} (hq:Prm q) (hd:q ∣ n) (hg:Nat.gcd a n=1) : ∀ p ∈ ps,Prm p->p ∣ q-1:=by
 have hq2:=hq.1
 haveI:NeZero q:=⟨by omega⟩
 refine qku hc h2 hq hd ?_
 have ha:Fin.ofNat q a ≠ 0:=by
  intro e
  have f:q ∣ a:=Nat.dvd_of_mod_eq_zero (qhr (e.trans ofNat_zero.symm) |>.trans (Nat.zero_mod q))
  have f:=Nat.dvd_gcd f hd
  rw[hg]at f
  have:=Nat.le_of_dvd (by omega) f
  omega
 show qp _ (Fin.ofNat q a,Fin.ofNat q 0) (q-1)=(1,0)
 rw[ofNat_zero,qb3,qgv hq ha]
theorem quT {n D t:Nat} {ps:List Nat} (h2:2<=n) (hc:chkN n D (t,1) (n+1) ps=true) (ht:t*t=D+1) {q:Nat} (hq:Prm q) (hd:q ∣ n) (hg:Nat.gcd (2*D) n=1):(∀ p ∈ ps,Prm p->p ∣ q-1)\/(∀ p ∈ ps,Prm p->p ∣ q+1):=by
 have hq2:=hq.1
 haveI:NeZero q:=⟨by omega⟩
 have hno : ∀ b,b ∣ 2*D -> ¬ q ∣ b:=fun b hb hqb=>by
  have f:=Nat.dvd_gcd (Nat.dvd_trans hqb hb) hd
  rw[hg]at f
  have:=Nat.le_of_dvd (by omega) f
  omega
 have hodd:q % 2=1:=by
  rcases Nat.mod_two_eq_zero_or_one q with h|h
  ·exfalso
   rcases hq.2 2 (Nat.dvd_of_mod_eq_zero h)with h3|h3
   ·omega
   ·exact hno 2 (Nat.dvd_mul_right 2 D) (by rw[<- h3];exact Nat.dvd_refl 2)
  ·exact h
 have hD:Fin.ofNat q D ≠ 0:=fun e=>hno D (Nat.dvd_mul_left D 2) (Nat.dvd_of_mod_eq_zero (qhr (e.trans ofNat_zero.symm) |>.trans (Nat.zero_mod q)))
 obtain⟨m,hm⟩ : ∃ m,q=2*m+1:=⟨q / 2,by omega⟩
 have hf:=qnm (Fin.ofNat q D) hq (a:=Fin.ofNat q t) (b:=Fin.ofNat q 1) hm
 have hn:Fin.ofNat q t*Fin.ofNat q t=Fin.ofNat q D+1:=by rw[<- qjt,ht,qbO,qbA]
 have hcj:qm (Fin.ofNat q D) (toQ q (t,1)) (Fin.ofNat q t,-Fin.ofNat q 1)=(1,0):=by
  simp only[toQ,qbA]
  apply qS<;>simp only[qm]<;>grind -lia -linarith -order -ac (splits:=0)
 rcases qjA hq hD (m:=m) (by omega)with e|e
 ·left
  refine qku hc h2 hq hd ?_
  have e1:qp (Fin.ofNat q D) (toQ q (t,1)) q=qm (Fin.ofNat q D) (qp (Fin.ofNat q D) (toQ q (t,1)) (q-1)) (toQ q (t,1)):=qnk _ _ (by omega)
  have e2:qp (Fin.ofNat q D) (toQ q (t,1)) q=toQ q (t,1):=by
   show qp (Fin.ofNat q D) (Fin.ofNat q t,Fin.ofNat q 1) q=(Fin.ofNat q t,Fin.ofNat q 1)
   rw[hf,e]
   apply qS<;>grind -lia -linarith -order -ac (splits:=0)
  have e3:qm (Fin.ofNat q D) (qm (Fin.ofNat q D) (qp (Fin.ofNat q D) (toQ q (t,1)) (q-1)) (toQ q (t,1))) (Fin.ofNat q t,-Fin.ofNat q 1)=(1,0):=by rw[<- e1,e2,hcj]
  rw[qeE,hcj,qgs]at e3
  exact e3
 ·right
  refine qku hc h2 hq hd ?_
  have e2:qp (Fin.ofNat q D) (toQ q (t,1)) q=(Fin.ofNat q t,-Fin.ofNat q 1):=by
   show qp (Fin.ofNat q D) (Fin.ofNat q t,Fin.ofNat q 1) q=_
   rw[hf,e]
   apply qS<;>grind -lia -linarith -order -ac (splits:=0)
  rw[qp,e2,qb2,hcj]
def prL:List Nat->Nat
 | []=>1
 | p :: l=>p*prL l
def copL:List Nat->Bool
 | []=>true
 | p :: l=>Nat.beq (Nat.gcd p (prL l)) 1 && copL l
theorem qfe {n:Nat} : ∀ {ps:List Nat},copL ps=true->(∀ p ∈ ps,p ∣ n)->prL ps ∣ n
 | [],_,_=>Nat.one_dvd n
 | p :: l,hc,h=>by
   simp only[copL,Bool.and_eq_true]at hc
   exact Nat.Coprime.mul_dvd_of_dvd_of_dvd (Nat.eq_of_beq_eq_true hc.1) (h p (List.mem_cons_self ..)) (qfe hc.2 fun x hx=>h x (List.mem_cons_of_mem _ hx))
theorem pock {n a:Nat} {ps:List Nat} (hc:chkN n 0 (a,0) (n-1) ps=true) (h2:(decide (2<=n) && (Nat.beq (Nat.gcd a n) 1 && (copL ps && decide (n<=prL ps*prL ps))))=true) (hp : ∀ p ∈ ps,Prm p):Prm n:=by
 simp only[Bool.and_eq_true,decide_eq_true_eq]at h2
 obtain⟨b1,b2,b3,b4⟩:=h2
 apply Classical.byContradiction
 intro hn
 obtain⟨q,hq,hqp,hs⟩:=qgp b1 hn
 have hq2:=hq.1
 have hd:=qfe b3 fun p hpm=>qoU b1 hc hq hqp (Nat.eq_of_beq_eq_true b2) p hpm (hp p hpm)
 have hle:=Nat.le_of_dvd (by omega) hd
 have h3:prL ps*prL ps<q*q:=Nat.mul_lt_mul'' (by omega) (by omega)
 omega
def noD (n:Nat):Nat->Bool
 | 0=>true
 | k+1=>(Nat.ble k 0 || Nat.blt 0 (n % (k+1))) && noD n k
theorem qoV {n:Nat} : ∀ {k:Nat},noD n k=true -> ∀ q,2<=q->q<=k -> ¬ q ∣ n
 | 0,_,q,h2,hk,_=>by omega
 | k+1,h,q,h2,hk,hd=>by
   simp only[noD,Bool.and_eq_true,Bool.or_eq_true]at h
   by_cases e:q=k+1
   · rcases h.1 with h1|h1
     · have:=Nat.le_of_ble_eq_true h1;omega
     · have h4:0<n % (k+1):=Nat.le_of_ble_eq_true h1
       rw[<- e,Nat.mod_eq_zero_of_dvd hd]at h4
       omega
   · exact qoV h.2 q h2 (by omega) hd
theorem qbl {n k:Nat} (h:(decide (2<=n) && (decide (n<(k+1)*(k+1)) && noD n k))=true):Prm n:=by
 simp only[Bool.and_eq_true,decide_eq_true_eq]at h
 obtain⟨b1,b2,b3⟩:=h
 apply Classical.byContradiction
 intro hn
 obtain⟨q,hq,hqp,hs⟩:=qgp b1 hn
 refine qoV b3 q hq.1 ?_ hqp
 apply Classical.byContradiction
 intro hgt
 have:=Nat.mul_le_mul (show k+1<=q by omega) (show k+1<=q by omega)
 omega
theorem qoW {A B c q X:Nat} (hA:A ∣ q-1) (hB:B ∣ q+1) (h2:2<=q) (hq:q<X) (hc:(Nat.beq (Nat.gcd A B) 1 && (Nat.beq ((c-1) % A) 0 && (Nat.beq ((c+1) % B) 0 && (decide (X<=c) && decide (c<=A*B+1)))))=true):False:=by
 simp only[Bool.and_eq_true,decide_eq_true_eq]at hc
 obtain⟨c1,c2,c3,c4,c5⟩:=hc
 have d1:A ∣ c-q:=by
  have:=Nat.dvd_sub (Nat.dvd_of_mod_eq_zero (Nat.eq_of_beq_eq_true c2)) hA
  rwa[show c-1-(q-1)=c-q by omega]at this
 have d2:B ∣ c-q:=by
  have:=Nat.dvd_sub (Nat.dvd_of_mod_eq_zero (Nat.eq_of_beq_eq_true c3)) hB
  rwa[show c+1-(q+1)=c-q by omega]at this
 have d:=Nat.Coprime.mul_dvd_of_dvd_of_dvd (Nat.eq_of_beq_eq_true c1) d1 d2
 have:=Nat.le_of_dvd (by omega) d
 omega
end Go.Sx
end
section
namespace Go.Sx
theorem qu2:Prm 19:=qbl (k:=5) (by decide +kernel)
theorem qu3:Prm 97:=qbl (k:=10) (by decide +kernel)
theorem qu4:Prm 5:=qbl (k:=3) (by decide +kernel)
theorem qu5:Prm 227393:=qbl (k:=500) (by decide +kernel)
theorem qu6:Prm 3009341:=qbl (k:=1800) (by decide +kernel)
theorem qu7:Prm 766223:=qbl (k:=900) (by decide +kernel)
theorem qu8:Prm 342682509629:=pock (a:=2) (ps:=[766223]) (by decide +kernel) (by decide +kernel) (by intro p hp;simp only[List.mem_cons,List.not_mem_nil,or_false]at hp;subst hp;exact qu7)
theorem qu9:Prm 34819:=qbl (k:=200) (by decide +kernel)
theorem qva:Prm 66301:=qbl (k:=300) (by decide +kernel)
theorem qvb:Prm 23085345191:=pock (a:=2) (ps:=[34819,66301]) (by decide +kernel) (by decide +kernel) (by intro p hp;simp only[List.mem_cons,List.not_mem_nil,or_false]at hp;rcases hp with rfl|rfl;exact qu9;exact qva)
theorem qvc:Prm 40426179255361943:=pock (a:=2) (ps:=[23085345191]) (by decide +kernel) (by decide +kernel) (by intro p hp;simp only[List.mem_cons,List.not_mem_nil,or_false]at hp;subst hp;exact qvb)
theorem qvd:Prm 13:=qbl (k:=4) (by decide +kernel)
theorem qve:Prm 709:=qbl (k:=30) (by decide +kernel)
theorem qvf:Prm 7529:=qbl (k:=90) (by decide +kernel)
theorem qvg:Prm 412051:=qbl (k:=700) (by decide +kernel)
theorem qvh:Prm 117022176685990080317952907:=pock (a:=3) (ps:=[13,709,7529,412051]) (by decide +kernel) (by decide +kernel) (by
 intro p hp
 simp only[List.mem_cons,List.not_mem_nil,or_false]at hp
 rcases hp with rfl|rfl|rfl|rfl
 ·exact qvd
 ·exact qve
 ·exact qvf
 ·exact qvg)
theorem prm_L:Prm LN:=by
 apply Classical.byContradiction
 intro hn
 obtain⟨q,hq,hqp,hs⟩:=qgp (n:=LN) (by decide +kernel) hn
 have h2:=hq.1
 have hA:=qoU (n:=LN) (a:=2) (ps:=[19,97,227393,3009341,342682509629]) (by decide +kernel) (by decide +kernel) hq hqp (by decide +kernel)
 have hB:=quT (n:=LN) (D:=3) (t:=2) (ps:=[5,40426179255361943,117022176685990080317952907]) (by decide +kernel) (by decide +kernel) rfl hq hqp (by decide +kernel)
 have k1 : ∀ p ∈ [19,97,227393,3009341,342682509629],p ∣ q-1:=fun p hp=>hA p hp (by
  simp only[List.mem_cons,List.not_mem_nil,or_false]at hp
  rcases hp with rfl|rfl|rfl|rfl|rfl
  ·exact qu2
  ·exact qu3
  ·exact qu5
  ·exact qu6
  ·exact qu8)
 have kp : ∀ p ∈ [5,40426179255361943,117022176685990080317952907],Prm p:=fun p hp=>by
  simp only[List.mem_cons,List.not_mem_nil,or_false]at hp
  rcases hp with rfl|rfl|rfl
  ·exact qu4
  ·exact qvc
  ·exact qvh
 have hlt:q<13479973333575319897333507543509815336818572211270286240551805124608:=by
  apply Classical.byContradiction
  intro hge
  have h3:=Nat.mul_le_mul (Nat.le_of_not_lt hge) (Nat.le_of_not_lt hge)
  exact absurd (Nat.le_trans h3 hs) (by decide +kernel)
 have d1:=qfe (ps:=[19,97,227393,3009341,342682509629]) (by decide +kernel) k1
 rcases hB with hB|hB
 ·have d2:=qfe (ps:=[5,40426179255361943,117022176685990080317952907]) (by decide +kernel) fun p hp=>hB p hp (kp p hp)
  have d3:=Nat.Coprime.mul_dvd_of_dvd_of_dvd (show Nat.Coprime (prL [19,97,227393,3009341,342682509629]) (prL [5,40426179255361943,117022176685990080317952907])by decide +kernel) d1 d2
  exact qoW (c:=10222724132341282008700164285599470483295081555536045681292913502142556) d3 (Nat.one_dvd _) h2 hlt (by decide +kernel)
 ·have d2:=qfe (ps:=[5,40426179255361943,117022176685990080317952907]) (by decide +kernel) fun p hp=>hB p hp (kp p hp)
  exact qoW (c:=8416194870148775309121508890017965679862582201482651783221522339479449) d1 d2 h2 hlt (by decide +kernel)
end Go.Sx
end
section
namespace Go.Sx
def fP (P:AP):Fp:=1-dF*(P.x*P.x)
def Sq (a:Fp):Prop :=∃ z,a=z*z
theorem qfg (P:AP):fP P ≠ 0:=by
 intro h
 have h1:dF*(P.x*P.x)=1*1:=by unfold fP at h;generalize dF*(P.x*P.x)=k at *;grind -lia -linarith -order -ac (splits:=0)
 have h2:=d_sq h1
 unfold fP at h
 rw[h2]at h
 apply qc1
 rw[<- h]
 generalize dF=d
 grind -lia -linarith -order -ac (splits:=0)
theorem qoZ {a b:Fp} (ha:Sq a) (hab:Sq (a*b)) (h0:a ≠ 0):Sq b:=by
 obtain⟨z,hz⟩:=ha
 obtain⟨w,hw⟩:=hab
 have hz0:z ≠ 0:=by rintro rfl;apply h0;rw[hz];grind -lia -linarith -order -ac (splits:=0)
 have hi:=qaR hz0
 refine⟨w*finv z,?_⟩
 generalize finv z=k at *
 have e:b=z*k*(z*k)*b:=by rw[hi];grind -lia -linarith -order -ac (splits:=0)
 rw[e]
 have e2:z*k*(z*k)*b=a*b*(k*k):=by rw[hz];grind -lia -linarith -order -ac (splits:=0)
 rw[e2,hw]
 grind -lia -linarith -order -ac (splits:=0)
theorem qvi {a b:Fp} (ha:Sq a) (hb:Sq b):Sq (a*b):=by
 obtain⟨z,rfl⟩:=ha
 obtain⟨w,rfl⟩:=hb
 exact⟨z*w,by grind -lia -linarith -order -ac (splits:=0)⟩
theorem qvj {d x1 y1 x2 y2 i:Fp} (e1:x1*x1+y1*y1=1+d*x1*x1*y1*y1) (e2:x2*x2+y2*y2=1+d*x2*x2*y2*y2) (hi:(1+d*x1*x2*y1*y2)*i=1) :
  (1-d*((x1*y2+x2*y1)*i*((x1*y2+x2*y1)*i)))*((1-d*(x1*x1))*(1-d*(x2*x2)))=(1-d*(x1*x1)-d*(x2*x2)+d*(x1*x1)*(x2*x2))*i*((1-d*(x1*x1)-d*(x2*x2)+d*(x1*x1)*(x2*x2))*i):=by
 obtain⟨n,hn⟩ : ∃ n,n=1+d*x1*x2*y1*y2:=⟨_,rfl⟩
 rw[<- hn]at hi
 have k1:1-d*((x1*y2+x2*y1)*i*((x1*y2+x2*y1)*i))=(n*n-d*((x1*y2+x2*y1)*(x1*y2+x2*y1)))*(i*i):=by grind -lia -linarith -order -ac (splits:=0)
 have k2:n*n-d*((x1*y2+x2*y1)*(x1*y2+x2*y1))=(1-d*(x1*x1)*(y2*y2))*(1-d*(x2*x2)*(y1*y1)):=by rw[hn];grind -lia -linarith -order -ac (splits:=0)
 have k3:(1-d*(x1*x1)*(y2*y2))*(1-d*(x2*x2))=1-d*(x1*x1)-d*(x2*x2)+d*(x1*x1)*(x2*x2):=by grind -lia -linarith -order -ac (splits:=0)
 have k4:(1-d*(x2*x2)*(y1*y1))*(1-d*(x1*x1))=1-d*(x1*x1)-d*(x2*x2)+d*(x1*x1)*(x2*x2):=by grind -lia -linarith -order -ac (splits:=0)
 rw[k1,k2]
 generalize 1-d*(x1*x1)*(y2*y2)=A at *
 generalize 1-d*(x2*x2)*(y1*y1)=B at *
 generalize 1-d*(x1*x1)-d*(x2*x2)+d*(x1*x1)*(x2*x2)=W at *
 generalize 1-d*(x1*x1)=F1 at *
 generalize 1-d*(x2*x2)=F2 at *
 have e:A*B*(i*i)*(F1*F2)=A*F2*(B*F1)*(i*i):=by grind -lia -linarith -order -ac (splits:=0)
 rw[e,k3,k4]
 grind -lia -linarith -order -ac (splits:=0)
theorem qo0 {P Q:AP} (hP:P.on) (hQ:Q.on):Sq (fP (padd P Q)*(fP P*fP Q)):=by
 have hi:=qaR (qbi hP hQ).1
 refine⟨_,qvj (i:=finv (1+pt P Q)) hP hQ hi⟩
theorem qo1 {P:AP} (h:P.on):Sq (fP (padd P P)):=by
 refine qoZ ⟨fP P,rfl⟩ ?_ (qT (qfg P) (qfg P))
 rw[Fin.mul_comm]
 exact qo0 h h
theorem qvk {P Q:AP} (hP:P.on) (hQ:Q.on) (h1:Sq (fP P)) (h2:Sq (fP Q)):Sq (fP (padd P Q)):=by
 refine qoZ (qvi h1 h2) ?_ (qT (qfg P) (qfg Q))
 rw[Fin.mul_comm]
 exact qo0 hP hQ
theorem qvl (P:AP):fP (pneg P)=fP P:=by
 unfold fP pneg
 simp only
 generalize dF=d
 grind -lia -linarith -order -ac (splits:=0)
theorem qvm:bp pN 0 (39082,0) 448 363419362147803445274661903944002267176820680343659030140745099590306164083365386343198191849338272965044442230921818680526749009182719=(726838724295606890549323807888004534353641360687318060281490199180612328166730772686396383698676545930088884461843637361053498018365438,0):=by
 decide +kernel
theorem qvn:pw (1-dF) 363419362147803445274661903944002267176820680343659030140745099590306164083365386343198191849338272965044442230921818680526749009182719 = -1:=by
 have hg:=qcq (q:=pN) (n:=pN) (Nat.dvd_refl _) 0 (39082,0) 448 363419362147803445274661903944002267176820680343659030140745099590306164083365386343198191849338272965044442230921818680526749009182719 (by decide +kernel)
 rw[qvm]at hg
 simp only[toQ,ofNat_zero,qb3]at hg
 have h1:Fin.ofNat pN 726838724295606890549323807888004534353641360687318060281490199180612328166730772686396383698676545930088884461843637361053498018365438=pw (Fin.ofNat pN 39082) 363419362147803445274661903944002267176820680343659030140745099590306164083365386343198191849338272965044442230921818680526749009182719:=congrArg Prod.fst hg
 have e:1-dF=Fin.ofNat pN 39082:=by decide +kernel
 rw[e,<- h1]
 decide +kernel
theorem y_ne {P:AP} (h:P.on) (hs:Sq (fP P)):P.y ≠ 0:=by
 intro hy
 obtain⟨z,hz⟩:=hs
 refine qgx (b:=z) qvn ?_
 rw[<- hz]
 unfold AP.on at h
 unfold fP
 rw[hy]at h
 generalize dF=d at *
 have hx:P.x*P.x=1:=by grind -lia -linarith -order -ac (splits:=0)
 rw[hx];grind -lia -linarith -order -ac (splits:=0)
theorem half_x {P:AP} (h:P.on) (hs:Sq (fP P)) (h2:(padd P P).x=0):P.x=0:=by
 have e:=qbF h h
 rw[h2]at e
 have hy:=y_ne h hs
 have e2:2*(P.x*P.y)=0:=by
  generalize pt P P=k at *
  grind -lia -linarith -order -ac (splits:=0)
 rcases qa3 e2 with h|h
 ·exact absurd h qeI
 ·rcases qa3 h with h|h
  ·exact h
  ·exact absurd h hy
theorem php : ∀ (m n:Nat) (f:Nat->Nat),(∀ i,i<n->f i<m)->m<n -> ∃ i j,i<j/\j<n/\f i=f j
 | 0,n,f,h,hn=>absurd (h 0 hn) (Nat.not_lt_zero _)
 | m+1,n,f,h,hn=>by
   obtain⟨n,rfl⟩ : ∃ k,n=k+1:=⟨n-1,by omega⟩
   by_cases hx : ∃ i,i<n/\f i=f n
   · obtain⟨i,hi,e⟩:=hx
     exact⟨i,n,hi,by omega,e⟩
   · have hne : ∀ i,i<n->f i ≠ f n:=fun i hi e=>hx ⟨i,hi,e⟩
     have hfn:=h n (by omega)
     obtain⟨i,j,h1,h2,h3⟩:=php m n (fun i=>if f i<f n then f i else f i-1) (fun i hi=>by
       have a:=h i (by omega)
       have b:=hne i hi
       split<;>omega) (by omega)
     refine⟨i,j,h1,by omega,?_⟩
     have a:=hne i (by omega)
     have b:=hne j (by omega)
     split at h3<;>split at h3<;>omega
def cdP (P:AP):Nat:=P.y.val*2+P.x.val % 2
theorem qvo (P:AP):cdP P<2*pN:=by
 have:=P.y.isLt
 unfold cdP
 omega
theorem qvp {P Q:AP} (hP:P.on) (hQ:Q.on) (h:cdP P=cdP Q):P=Q:=by
 unfold cdP at h
 have hy:P.y=Q.y:=Fin.ext (by omega)
 have hpar:P.x.val % 2=Q.x.val % 2:=by omega
 refine AP.ext ?_ hy
 have hsq:P.x*P.x=Q.x*Q.x:=by
  unfold AP.on at hP hQ
  rw[<- hy]at hQ
  have hne:1-dF*(P.y*P.y) ≠ 0:=qfg ⟨P.y,P.x⟩
  refine qbB hne ?_
  generalize dF=d at *
  grind -lia -linarith -order -ac (splits:=0)
 rcases qnn hsq with e|e
 ·exact e
 ·by_cases h0:Q.x=0
  ·rw[h0]at e ⊢
   rw[e];grind -lia -linarith -order -ac (splits:=0)
  ·exfalso
   have h1:=qoi h0
   rw[e,h1]at hpar
   have h2:=Q.x.isLt
   have h3:pN % 2=1:=by decide +kernel
   omega
end Go.Sx
end
section
namespace Go.Sx
def t4:AP:=⟨1,0⟩
theorem qam:t4.on:=by unfold AP.on t4;generalize dF=d;simp only;grind -lia -linarith -order -ac (splits:=0)
theorem t4_2:padd t4 t4=⟨0,-1⟩:=by
 unfold padd pt t4
 simp only
 have e1:(1:Fp)+dF*1*1*0*0=1:=by generalize dF=d;grind -lia -linarith -order -ac (splits:=0)
 have e2:(1:Fp)-dF*1*1*0*0=1:=by generalize dF=d;grind -lia -linarith -order -ac (splits:=0)
 rw[e1,e2,qjX]
 apply AP.ext<;>simp only<;>grind -lia -linarith -order -ac (splits:=0)
theorem t4_4:padd ⟨0,-1⟩ ⟨0,-1⟩=pid:=by
 unfold padd pt pid
 simp only
 have e1:(1:Fp)+dF*0*0 * -1 * -1=1:=by generalize dF=d;grind -lia -linarith -order -ac (splits:=0)
 have e2:(1:Fp)-dF*0*0 * -1 * -1=1:=by generalize dF=d;grind -lia -linarith -order -ac (splits:=0)
 rw[e1,e2,qjX]
 apply AP.ext<;>simp only<;>grind -lia -linarith -order -ac (splits:=0)
theorem qdg (P:AP):nsm 1 P=P:=by
 show padd (nsm 0 P) P=P
 exact qbb P
theorem qhu:nsm 2 t4=⟨0,-1⟩:=by
 rw[show 2=2*1 from rfl,qdV qam,qdg];exact t4_2
theorem qo2:nsm 4 t4=pid:=by
 rw[show 4=2*2 from rfl,qdV qam,qhu];exact t4_4
theorem qvq:(nsm 3 t4).y=0:=by
 rw[show 3=2+1 from rfl,qaL qam,qhu,qdg]
 unfold padd t4
 simp only
 generalize finv (1-pt ⟨0,-1⟩ ⟨1,0⟩)=k
 grind -lia -linarith -order -ac (splits:=0)
theorem qo3 {j:Nat} (h0:0<j) (hj:j<4):nsm j t4 ≠ pid:=by
 intro h
 have hy:=congrArg AP.y h
 have h1y:(1:Fp) ≠ 0:=qc1
 have hj2:j=1\/j=2\/j=3:=by omega
 rcases hj2 with rfl|rfl|rfl
 ·rw[qdg]at hy;exact h1y hy.symm
 ·rw[qhu]at hy;exact qnq hy
 ·rw[qvq]at hy;exact h1y hy.symm
section
variable {P Q R S:AP}
theorem qfh (hP:P.on) (hQ:Q.on) (hR:R.on) (h:padd P Q=padd P R):Q=R:=by
 have e:=congrArg (padd (pneg P)) h
 have hn:padd (pneg P) P=pid:=by rw[qeZ];exact qgU hP
 rw[<- qbc (qbj hP) hP hQ,<- qbc (qbj hP) hP hR,hn,qbb,qbb]at e
 exact e
theorem qky (hP:P.on) {a b:Nat} (hab:a<=b) (h:nsm a P=nsm b P):nsm (b-a) P=pid:=by
 obtain⟨c,rfl⟩ : ∃ c,b=a+c:=⟨b-a,by omega⟩
 rw[Nat.add_sub_cancel_left]
 rw[qaL hP]at h
 refine(qfh (qB hP a) qeY (qB hP c) ?_).symm
 rw[qbQ];exact h
theorem qvr (hP:P.on) : ∀ (m n:Nat),nsm m P=pid->nsm n P=pid->nsm (Nat.gcd m n) P=pid:=by
 intro m n
 induction m,n using Nat.gcd.induction with
 | H0 n=>intro _ h;rw[Nat.gcd_zero_left];exact h
 | H1 m n hm ih =>
   intro h1 h2
   rw[Nat.gcd_rec]
   refine ih ?_ h1
   have e:nsm (m*(n / m)+n % m) P=pid:=by rw[Nat.div_add_mod];exact h2
   rw[qaL hP,Nat.mul_comm,<- qaV hP,h1,qb8,qbb]at e
   exact e
end
theorem qvs:baseP ≠ pid:=by
 intro h
 have:=congrArg AP.x h
 revert this
 unfold baseP pid
 decide +kernel
theorem qvt {m:Nat} (h:nsm m baseP=pid):LN ∣ m:=by
 apply Classical.byContradiction
 intro hn
 have hc:=prm_L.coprime hn
 have hg:=qvr qai LN m qff h
 rw[hc,qdg]at hg
 exact qvs hg
def hB (k j:Nat):AP:=padd (nsm k baseP) (nsm j t4)
theorem hB_on (k j:Nat):(hB k j).on:=qaT (qB qai k) (qB qam j)
theorem hB_add (k j k' j':Nat):padd (hB k j) (hB k' j')=hB (k+k') (j+j'):=by
 unfold hB
 rw[qhk (qB qai k) (qB qam j) (qB qai k') (qB qam j'),<- qaL qai,<- qaL qam]
theorem hB_inj {k j k' j':Nat} (hk:k<LN) (hk':k'<LN) (hj:j<4) (hj':j'<4) (h:hB k j=hB k' j'):k=k'/\j=j':=by
 have key : ∀ {k j k' j':Nat},k<=k'->k'<LN->hB k j=hB k' j'->k=k':=by
  intro k j k' j' hle hk' h
  have e:=congrArg (nsm 4) h
  unfold hB at e
  rw[qht (qB qai _) (qB qam _),qht (qB qai _) (qB qam _),qaV qai,qaV qai,qaV qam,qaV qam,Nat.mul_comm 4 j,Nat.mul_comm 4 j',<- qaV qam,<- qaV qam,qo2,qb8,qb8,qbQ,qbQ]at e
  have hd:=qvt (qky qai (show 4*k<=4*k' by omega) e)
  rw[<- Nat.mul_sub]at hd
  have hc:Nat.Coprime LN 4:=by decide +kernel
  have hd2:=hc.dvd_of_dvd_mul_left hd
  apply Classical.byContradiction
  intro hne
  have:=Nat.le_of_dvd (by omega) hd2
  omega
 have hkk:k=k':=by
  rcases Nat.le_total k k' with hle|hle
  ·exact key hle hk' h
  ·exact(key hle hk h.symm).symm
 subst hkk
 have ht:=qfh (qB qai k) (qB qam j) (qB qam j') h
 refine⟨rfl,?_⟩
 apply Classical.byContradiction
 intro hne
 rcases Nat.lt_or_gt_of_ne hne with hl|hl
 ·exact qo3 (by omega) (by omega) (qky qam (by omega) ht)
 ·exact qo3 (by omega) (by omega) (qky qam (by omega) ht.symm)
theorem qvu:2*pN<12*LN:=by decide +kernel
def ptU (P:AP) (u:Nat):AP:=padd (nsm (u / (4*LN)) P) (hB (u % (4*LN) % LN) (u % (4*LN) / LN))
theorem qo4 {P:AP} (h:P.on) (u:Nat):(ptU P u).on:=qaT (qB h _) (hB_on _ _)
theorem qvv {P:AP} (h:P.on) : ∃ k j,padd P P=hB k j:=by
 obtain⟨u,v,huv,hv,he⟩:=php (2*pN) (12*LN) (fun u=>cdP (ptU P u)) (fun u _=>qvo _) qvu
 have he:=qvp (qo4 h u) (qo4 h v) he
 unfold ptU at he
 have hL:0<LN:=by decide +kernel
 obtain⟨L,eL⟩ : ∃ L,L=LN:=⟨_,rfl⟩
 have hcl : ∀ w,w % (4*LN) % LN<LN:=fun w=>Nat.mod_lt _ hL
 have hdl : ∀ w,w % (4*LN) / LN<4:=fun w=>Nat.div_lt_of_lt_mul (by rw[Nat.mul_comm];exact Nat.mod_lt _ (by omega))
 obtain⟨i,hi⟩ : ∃ i,u / (4*LN)=i:=⟨_,rfl⟩
 obtain⟨i',hi'⟩ : ∃ i,v / (4*LN)=i:=⟨_,rfl⟩
 obtain⟨k,hk⟩ : ∃ k,u % (4*LN) % LN=k:=⟨_,rfl⟩
 obtain⟨k',hk'⟩ : ∃ k,v % (4*LN) % LN=k:=⟨_,rfl⟩
 obtain⟨j,hj⟩ : ∃ k,u % (4*LN) / LN=k:=⟨_,rfl⟩
 obtain⟨j',hj'⟩ : ∃ k,v % (4*LN) / LN=k:=⟨_,rfl⟩
 have hkl:=hcl u
 have hkl':=hcl v
 have hjl:=hdl u
 have hjl':=hdl v
 have hii:i<=i':=by rw[<- hi,<- hi'];exact Nat.div_le_div_right (Nat.le_of_lt huv)
 have hi3:i'<3:=by rw[<- hi'];exact Nat.div_lt_of_lt_mul (by omega)
 rw[hk]at hkl
 rw[hk']at hkl'
 rw[hj]at hjl
 rw[hj']at hjl'
 rw[hi,hi',hk,hk',hj,hj']at he
 by_cases hee:i=i'
 ·exfalso
  subst hee
  have h1:=qfh (qB h i) (hB_on _ _) (hB_on _ _) he
  obtain⟨e1,e2⟩:=hB_inj hkl hkl' hjl hjl' h1
  have a1:=Nat.div_add_mod u (4*LN)
  have a2:=Nat.div_add_mod v (4*LN)
  have b1:=Nat.div_add_mod (u % (4*LN)) LN
  have b2:=Nat.div_add_mod (v % (4*LN)) LN
  rw[hj,hk]at b1
  rw[hj',hk',<- e1,<- e2]at b2
  rw[hi,<- b1]at a1
  rw[hi',<- b2,a1]at a2
  omega
 ·obtain⟨e,rfl⟩ : ∃ e,i'=i+e:=⟨i'-i,by omega⟩
  rw[qaL h,qbc (qB h i) (qB h e) (hB_on _ _)]at he
  have h1:=qfh (qB h i) (hB_on _ _) (qaT (qB h e) (hB_on _ _)) he
  have h2:nsm e P=hB (k+(LN-1)*k') (j+3*j'):=by
   have hz:padd (hB k' j') (hB ((LN-1)*k') (3*j'))=pid:=by
    rw[hB_add]
    unfold hB
    rw[show k'+(LN-1)*k'=k'*LN by rw[Nat.sub_mul,Nat.one_mul,Nat.mul_comm LN,Nat.add_sub_cancel' (Nat.le_mul_of_pos_right _ hL)],show j'+3*j'=j'*4 by omega,<- qaV qai,<- qaV qam,qff,qo2,qb8,qb8,qbQ]
   rw[<- hB_add,h1,qbc (qB h e) (hB_on _ _) (hB_on _ _),hz,qbQ]
  have he2:e=1\/e=2:=by omega
  rcases he2 with rfl|rfl
  ·rw[qdg]at h2
   exact⟨_,_,by rw[h2,hB_add]⟩
  ·rw[show 2=2*1 from rfl,qdV h,qdg]at h2
   exact⟨_,_,h2⟩
theorem qvw {P:AP} (h:P.on) (hs:Sq (fP P)):(nsm LN P).x=0:=by
 obtain⟨k,j,hkj⟩:=qvv h
 obtain⟨m,hm⟩ : ∃ m,LN+1=2*m:=⟨(LN+1) / 2,by decide +kernel⟩
 obtain⟨B',eB⟩ : ∃ B',B'=nsm (m*k) baseP:=⟨_,rfl⟩
 have hB':B'.on:=by rw[eB];exact qB qai _
 have h2B:padd B' B'=nsm k baseP:=by
  rw[eB,<- qdV qai,<- Nat.mul_assoc,<- hm,Nat.add_mul,Nat.one_mul,qaL qai,Nat.mul_comm,<- qaV qai,qff,qb8,qbb]
 obtain⟨Q,eQ⟩ : ∃ Q,Q=padd P (pneg B'):=⟨_,rfl⟩
 have hnB:=qbj hB'
 have hQ:Q.on:=by rw[eQ];exact qaT h hnB
 have hP:P=padd B' Q:=by
  rw[eQ,qeZ P,<- qbc hB' hnB h,qgU hB',qbb]
 have h2Q:padd Q Q=nsm j t4:=by
  have e:padd (padd B' B') (padd Q Q)=padd (nsm k baseP) (nsm j t4):=by
   rw[qhk hB' hB' hQ hQ,<- hP,hkj];rfl
  rw[h2B]at e
  exact qfh (qB qai k) (qaT hQ hQ) (qB qam j) e
 have hsB:Sq (fP B'):=by
  have e:B'=padd (nsm (m*(m*k)) baseP) (nsm (m*(m*k)) baseP):=by
   rw[<- qdV qai,<- Nat.mul_assoc,<- hm,Nat.add_mul,Nat.one_mul,qaL qai,Nat.mul_comm,<- qaV qai,qff,qb8,qbb,eB]
  rw[e]
  exact qo1 (qB qai _)
 have hsQ:Sq (fP Q):=by
  rw[eQ]
  exact qvk h hnB hs (by rw[qvl];exact hsB)
 have hs2:=qo1 hQ
 have hx2:(padd Q Q).x=0:=by
  rw[h2Q]at hs2 ⊢
  obtain⟨r,hr⟩ : ∃ r,j=2*r\/j=2*r+1:=⟨j / 2,by omega⟩
  have hev:(nsm (2*r) t4).x=0:=by
   rw[Nat.mul_comm,<- qaV qam,qhu]
   exact qkx rfl r
  rcases hr with rfl|rfl
  ·exact hev
  ·exfalso
   have hy:=y_ne (qB qam _) hs2
   apply hy
   rw[qaL qam,qdg]
   generalize nsm (2*r) t4=E at hev
   unfold padd t4
   simp only
   rw[hev]
   generalize finv (1-pt E ⟨1,0⟩)=k
   grind -lia -linarith -order -ac (splits:=0)
 have hxQ:=half_x hQ hsQ hx2
 rw[hP,qht hB' hQ,eB,qaV qai,Nat.mul_comm,<- qaV qai,qff,qb8,qbb]
 exact qkx hxQ _
theorem e_L (t:Fp):(nsm LN ⟨eX t,eY t⟩).x=0:=qvw (e_on t) (quM t)
end Go.Sx
end
section
namespace Go.Sx
theorem qd2 {a b:Fp} (h:a*b=1):finv a=b:=by
 have ha:a ≠ 0:=by rintro rfl;apply qc1;rw[<- h];grind -lia -linarith -order -ac (splits:=0)
 have h2:=qaR ha
 generalize finv a=k at *
 have e:k=k*(a*b):=by rw[h];grind -lia -linarith -order -ac (splits:=0)
 rw[e]
 have e2:k*(a*b)=a*k*b:=by grind -lia -linarith -order -ac (splits:=0)
 rw[e2,h2];grind -lia -linarith -order -ac (splits:=0)
theorem qp6 {a b c m:Fp} (hc:c ≠ 0) (hm:m ≠ 0) (h1:m*(a*a)=c) (h2:m*(b*b) = -c):False:=by
 have hb:b ≠ 0:=by
  rintro rfl
  apply hc
  have e:c = -(m*(0*0)):=by rw[h2];grind -lia -linarith -order -ac (splits:=0)
  rw[e];grind -lia -linarith -order -ac (splits:=0)
 have hi:=qaR hb
 have e:a*a = -(b*b):=by
  refine qbB hm ?_
  have e1:a*a*m=c:=by rw[<- h1];grind -lia -linarith -order -ac (splits:=0)
  have e2 : -(b*b)*m=c:=by
   have : -(b*b)*m = -(m*(b*b)):=by grind -lia -linarith -order -ac (splits:=0)
   rw[this,h2];grind -lia -linarith -order -ac (splits:=0)
  rw[e1,e2]
 refine qgy (a*finv b) ?_
 generalize finv b=k at *
 grind -lia -linarith -order -ac (splits:=0)
theorem eIQ {t q c:Fp} {s:Bool} (hc:c=fI 78163) (h0:(eR t+fI 1)*eV (eR t) ≠ 0) (h:(eR t+fI 1)*eV (eR t)*(q*q)=if s then c else -c):eI t=s/\eQ t=fabs q:=by
 obtain⟨m,hm⟩ : ∃ m,m=(eR t+fI 1)*eV (eR t):=⟨_,rfl⟩
 obtain⟨f,hf⟩ : ∃ f,f=qq (c*m):=⟨_,rfl⟩
 have hQ:eQ t=fabs (c*f):=by unfold eQ qI;rw[<- hm,<- hc,<- hf]
 have hI:eI t=decide (m*(c*f*(c*f))=c):=by unfold eI;rw[<- hm,<- hc,<- hf]
 rw[<- hm]at h h0
 have hc0:c ≠ 0:=by rw[hc];exact c_ne
 rcases qoP hc0 h0 (f:=f) (by rw[hf];exact qeH (qT hc0 h0))with h1|⟨h1,h2⟩
 ·cases s with
  | true =>
    have h:m*(q*q)=c:=h
    refine⟨by rw[hI];exact decide_eq_true h1,?_⟩
    rw[hQ]
    refine qg8 (qbB h0 ?_)
    rw[Fin.mul_comm _ m,h1,Fin.mul_comm _ m,h]
  | false=>exact(qp6 hc0 h0 h1 h).elim
 ·cases s with
  | true=>exact(qp6 hc0 h0 h h2).elim
  | false =>
    have h:m*(q*q) = -c:=h
    refine⟨by rw[hI];exact decide_eq_false h1,?_⟩
    rw[hQ]
    refine qg8 (qbB h0 ?_)
    rw[Fin.mul_comm _ m,h2,Fin.mul_comm _ m,h]
theorem wa_q:eI (fI 262703750398122772740496308420542439167666618027174639850310374939615374797368866921477429918162006318184832148308696565277656360057885)=true/\eQ (fI 262703750398122772740496308420542439167666618027174639850310374939615374797368866921477429918162006318184832148308696565277656360057885)=fabs (fI 106540979162649398412991873019442586761073474560593543425866524215744590655815474924792740939298169056010533172426606457778298168589320):=eIQ (s:=true) rfl (by decide +kernel) (by decide +kernel)
theorem wa_s:eS (fI 262703750398122772740496308420542439167666618027174639850310374939615374797368866921477429918162006318184832148308696565277656360057885)=fI 17601588159409133283228154773135571234599348330929934101863318945893421442036278990884469254877496095516413121248755831974053941039265:=by
 rw[eS_t wa_q.1,wa_q.2]
 decide +kernel
theorem wa_x:eX (fI 262703750398122772740496308420542439167666618027174639850310374939615374797368866921477429918162006318184832148308696565277656360057885)=fI 46556917348878580629914271460674073740828123661449351983688089770489681493570682140907813903714087797347516635917950297089297231311518:=by
 unfold eX
 rw[wa_s,qd2 (b:=fI 203036556012155767776367821761899072698404635758978023112464859689809639117254860691075985952153759157802677500886973930108381006885820) (by decide +kernel)]
 decide +kernel
theorem wa_y:eY (fI 262703750398122772740496308420542439167666618027174639850310374939615374797368866921477429918162006318184832148308696565277656360057885)=fI 598527216728091148126900150701722448120904388439395769074617139248959823637991026106115612305242210444827735444167274000234931264461253:=by
 rw[eY_t wa_q.1,wa_s,wa_q.2,qd2 (b:=fI 300638074730555829256264252603661210101046591327129906536388066206628987930674932424381120780717964856805758798232630687918338315455343) (by decide +kernel)]
 decide +kernel
theorem wb_q:eI (fI 241194411079127407753902686713313350778301044215209553473362827568264274044274673436232993307222871864530388855074329495789747256595895)=false/\eQ (fI 241194411079127407753902686713313350778301044215209553473362827568264274044274673436232993307222871864530388855074329495789747256595895)=fabs (fI 476139794963265504966771156206230002525050432503105965078268287523724776390748062850623609892959052049485906412579240188284844389908828):=eIQ (s:=false) rfl (by decide +kernel) (by decide +kernel)
theorem wb_s:eS (fI 241194411079127407753902686713313350778301044215209553473362827568264274044274673436232993307222871864530388855074329495789747256595895)=fI 456322977041087448437832697591107451597199460082808060944838732055037369471148819856447016100587561750970538578282910592166367873968265:=by
 rw[eS_f wb_q.1,wb_q.2]
 decide +kernel
theorem wb_x:eX (fI 241194411079127407753902686713313350778301044215209553473362827568264274044274673436232993307222871864530388855074329495789747256595895)=fI 324748172864733151059478474880817182882313541584122208574848442047702274098867415229246740874010592104274404948351478279012572023998130:=by
 unfold eX
 rw[wb_s,qd2 (b:=fI 218683061553001785684206773371602287719824219682214719529537976349104713284324025962615923916342981026623861661242027514039619365880914) (by decide +kernel)]
 decide +kernel
theorem wb_y:eY (fI 241194411079127407753902686713313350778301044215209553473362827568264274044274673436232993307222871864530388855074329495789747256595895)=fI 539755247145245135325202364727562740619483677574924405324220201006426392259243380411875741772059212965337492475818333934542126568723892:=by
 rw[eY_f wb_q.1,wb_s,wb_q.2,qd2 (b:=fI 279358650997448297404014693454272911882274353402565032597015638205854339436814911377907545640024070824628785522826976572758380406522948) (by decide +kernel)]
 decide +kernel
theorem wz_q:eI (fI 0)=false/\eQ (fI 0)=fabs (fI 76210121292605901516788992860191753328667542033576735758020612629489765092479706646659437908169684068053125458013348684701698018764854):=eIQ (s:=false) rfl (by decide +kernel) (by decide +kernel)
theorem wz_s:eS (fI 0)=fI 0:=by
 rw[eS_f wz_q.1,wz_q.2]
 decide +kernel
theorem wz_x:eX (fI 0)=fI 0:=by
 unfold eX
 rw[wz_s,qd2 (b:=fI 1) (by decide +kernel)]
 decide +kernel
theorem wz_y:eY (fI 0)=fI 1:=by
 rw[eY_f wz_q.1,wz_s,wz_q.2,qd2 (b:=fI 726838724295606890549323807888004534353641360687318060281490199180612328166730772686396383698676545930088884461843637361053498018365438) (by decide +kernel)]
 decide +kernel
def exB:List Int:=[29,124,46,151,4,149,96,185,238,192,3,166,233,221,115,142,49,158,194,135,132,129,210,173,211,177,76,150,212,189,243,212,79,168,37,42,115,161,198,59,151,94,141,199,104,234,29,166,211,92,100,141,70,229,134,92,183,149,70,73,87,71,95,107,210,160,18,141,47,227,251,169,180,32,43,4,244,52,89,34,15,45,101,115,174,65,79,104,67,164,175,82,50,68,50,97,215,74,157,29,197,240,77,18,213,41,35,190,25,125,243,84]
def exP:AP:=⟨fI 46556917348878580629914271460674073740828123661449351983688089770489681493570682140907813903714087797347516635917950297089297231311518,fI 598527216728091148126900150701722448120904388439395769074617139248959823637991026106115612305242210444827735444167274000234931264461253⟩
def exQ:AP:=⟨fI 324748172864733151059478474880817182882313541584122208574848442047702274098867415229246740874010592104274404948351478279012572023998130,fI 539755247145245135325202364727562740619483677574924405324220201006426392259243380411875741772059212965337492475818333934542126568723892⟩
theorem ex_a:(⟨eX (fI (qe ((exB.drop 0).take 56))),eY (fI (qe ((exB.drop 0).take 56)))⟩:AP)=exP:=by
 rw[show qe ((exB.drop 0).take 56)=262703750398122772740496308420542439167666618027174639850310374939615374797368866921477429918162006318184832148308696565277656360057885 by decide +kernel,wa_x,wa_y]
 rfl
theorem ex_b:(⟨eX (fI (qe ((exB.drop 56).take 56))),eY (fI (qe ((exB.drop 56).take 56)))⟩:AP)=exQ:=by
 rw[show qe ((exB.drop 56).take 56)=241194411079127407753902686713313350778301044215209553473362827568264274044274673436232993307222871864530388855074329495789747256595895 by decide +kernel,wb_x,wb_y]
 rfl
theorem ex_z:(⟨eX (fI (qe (List.replicate 56 0))),eY (fI (qe (List.replicate 56 0)))⟩:AP)=pid:=by
 rw[show qe (List.replicate 56 0)=0 by decide +kernel,wz_x,wz_y]
 decide +kernel
theorem ex_on:exP.on/\exQ.on:=⟨by rw[<- ex_a];exact e_on _,by rw[<- ex_b];exact e_on _⟩
theorem qwO:(padd (padd pid exP) exQ).x ≠ 0:=by
 rw[qbb]
 intro h
 have e:=qbF ex_on.1 ex_on.2
 rw[h]at e
 have e2:(0:Fp)*(1+pt exP exQ)=0:=by generalize pt exP exQ=k;grind -lia -linarith -order -ac (splits:=0)
 rw[e2]at e
 exact absurd e.symm (by decide +kernel)
end Go.Sx
end
