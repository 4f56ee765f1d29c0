/-
  Part of the proof of a statement: the means.
-/
import Derived.Test.YtpnebmmjpapopaaGreatDoorX1
import Derived.Test.YtpnebmmjpapopaaGreatDoorX31
import Derived.Laws.MathBits
set_option linter.unusedSectionVars false
set_option linter.unusedVariables false
set_option linter.unusedSimpArgs false
set_option linter.deprecated false
section
namespace Go.Sx
def Prm (q:Nat):Prop:=2<=q /\ ∀ d,d ∣ q->d=1\/d=q
theorem Prm.coprime {q a:Nat} (h:Prm q) (ha : ¬ q ∣ a):Nat.Coprime q a:=by
 rcases h.2 (Nat.gcd q a) (Nat.gcd_dvd_left _ _)with h1|h1
 ·exact h1
 ·exact absurd (h1 ▸ Nat.gcd_dvd_right q a) ha
theorem Prm.dvd_mul {q a b:Nat} (h:Prm q) (hd:q ∣ a*b):q ∣ a\/q ∣ b:=by
 by_cases ha:q ∣ a
 ·exact .inl ha
 ·exact .inr ((h.coprime ha).dvd_of_dvd_mul_left hd)
theorem qll : ∀ (n:Nat),2<=n -> ∃ q,Prm q/\q ∣ n:=by
 intro n
 induction n using Nat.strongRecOn with
 | _ n ih =>
   intro h
   by_cases hp:Prm n
   · exact⟨n,hp,Nat.dvd_refl _⟩
   · have : ∃ d,d ∣ n/\d ≠ 1/\d ≠ n:=by
       apply Classical.byContradiction
       intro hn
       apply hp
       refine⟨h,fun d hd => ?_⟩
       apply Classical.byContradiction
       intro h2
       exact hn ⟨d,hd,fun e=>h2 (.inl e),fun e=>h2 (.inr e)⟩
     obtain⟨d,hd,h1,h2⟩:=this
     have h3:d<=n:=Nat.le_of_dvd (by omega) hd
     have h4:d ≠ 0:=by rintro rfl;have:=Nat.eq_zero_of_zero_dvd hd;omega
     obtain⟨q,hq,hqd⟩:=ih d (by omega) (by omega)
     exact⟨q,hq,Nat.dvd_trans hqd hd⟩
theorem qpD {n:Nat} (h:2<=n) (hn : ¬ Prm n) : ∃ q,Prm q/\q ∣ n/\q*q<=n:=by
 have : ∃ d,d ∣ n/\d ≠ 1/\d ≠ n:=by
  apply Classical.byContradiction
  intro h1
  apply hn
  refine⟨h,fun d hd => ?_⟩
  apply Classical.byContradiction
  intro h2
  exact h1 ⟨d,hd,fun e=>h2 (.inl e),fun e=>h2 (.inr e)⟩
 obtain⟨d,⟨e,rfl⟩,h1,h2⟩:=this
 have d0:d ≠ 0:=by rintro rfl;simp at h
 have e0:e ≠ 0:=by rintro rfl;simp at h
 have e1:e ≠ 1:=by rintro rfl;simp at h2
 rcases Nat.le_total d e with hl|hl
 ·obtain⟨q,hq,hqd⟩:=qll d (by omega)
  have:=Nat.le_of_dvd (by omega) hqd
  exact⟨q,hq,Nat.dvd_trans hqd (Nat.dvd_mul_right _ _),Nat.mul_le_mul this (by omega)⟩
 ·obtain⟨q,hq,hqd⟩:=qll e (by omega)
  have:=Nat.le_of_dvd (by omega) hqd
  exact⟨q,hq,Nat.dvd_trans hqd (Nat.dvd_mul_left _ _),Nat.mul_le_mul (by omega) this⟩
def ch:Nat->Nat->Nat
 | _,0=>1
 | 0,_+1=>0
 | n+1,k+1=>ch n k+ch n (k+1)
theorem qdJ (n:Nat):ch n 0=1:=by cases n<;>rfl
theorem qfi : ∀ (n k:Nat),n<k->ch n k=0
 | 0,k+1,_=>rfl
 | n+1,k+1,h=>by simp only[ch];rw[qfi n k (by omega),qfi n (k+1) (by omega)]
theorem qlm : ∀ (n:Nat),ch n n=1
 | 0=>rfl
 | n+1=>by simp only[ch];rw[qlm n,qfi n (n+1) (by omega)]
theorem qfj : ∀ (n k:Nat),(k+1)*ch (n+1) (k+1)=(n+1)*ch n k
 | 0,0=>rfl
 | 0,k+1=>by simp[ch]
 | n+1,0=>by
   have h:=qfj n 0
   simp only[qdJ,Nat.mul_one,Nat.zero_add,Nat.one_mul]at h ⊢
   rw[ch,h,qdJ];omega
 | n+1,j+1=>by
   have h1:=qfj n j
   have h2:=qfj n (j+1)
   rw[ch]
   have e:ch (n+1) (j+1)=ch n j+ch n (j+1):=rfl
   have a1:(j+1+1)*(ch (n+1) (j+1)+ch (n+1) (j+1+1))=(j+1)*ch (n+1) (j+1)+ch (n+1) (j+1)+(j+1+1)*ch (n+1) (j+1+1):=by
     rw[Nat.mul_add,Nat.add_mul (j+1) 1,Nat.one_mul]
   rw[a1,h1,h2]
   have a2:(n+1)*ch n j+(n+1)*ch n (j+1)=(n+1)*ch (n+1) (j+1):=by rw[e,Nat.mul_add]
   have a3:(n+1+1)*ch (n+1) (j+1)=(n+1)*ch (n+1) (j+1)+ch (n+1) (j+1):=by rw[Nat.add_mul (n+1) 1,Nat.one_mul]
   omega
theorem qpE {q k:Nat} (h:Prm q) (h0:0<k) (hk:k<q):q ∣ ch q k:=by
 obtain⟨n,rfl⟩ : ∃ n,q=n+1:=⟨q-1,by omega⟩
 obtain⟨j,rfl⟩ : ∃ j,k=j+1:=⟨k-1,by omega⟩
 have h1:=qfj n j
 rcases h.dvd_mul (a:=j+1) (b:=ch (n+1) (j+1)) ⟨_,h1⟩with h2|h2
 ·have:=Nat.le_of_dvd (by omega) h2;omega
 ·exact h2
section
variable {q:Nat} [NeZero q] (D:Fin q)
abbrev Q2 (q:Nat):=Fin q × Fin q
def qm (x y:Q2 q):Q2 q:=(x.1*y.1+D*x.2*y.2,x.1*y.2+x.2*y.1)
def qa (x y:Q2 q):Q2 q:=(x.1+y.1,x.2+y.2)
def qp (x:Q2 q):Nat->Q2 q
 | 0=>(1,0)
 | n+1=>qm D (qp x n) x
def qs (n:Nat) (x:Q2 q):Q2 q:=(Fin.ofNat q n*x.1,Fin.ofNat q n*x.2)
theorem qcf (a b:Nat):Fin.ofNat q (a+b)=Fin.ofNat q a+Fin.ofNat q b:=by
 apply Fin.ext;simp[Fin.ofNat,Fin.add_def,Nat.add_mod]
theorem qln (a b:Nat):Fin.ofNat q (a*b)=Fin.ofNat q a*Fin.ofNat q b:=by
 apply Fin.ext;simp[Fin.ofNat,Fin.mul_def,Nat.mul_mod]
theorem qbN:Fin.ofNat q 1=1:=rfl
theorem qfk:Fin.ofNat q 0=0:=rfl
theorem qlo {n:Nat} (h:q ∣ n):Fin.ofNat q n=0:=by
 apply Fin.ext;simp[Fin.ofNat,Nat.mod_eq_zero_of_dvd h]
theorem qR {x y:Q2 q} (h1:x.1=y.1) (h2:x.2=y.2):x=y:=Prod.ext h1 h2
theorem qhN (x:Q2 q):qm D x (1,0)=x:=by
 apply qR<;>simp only[qm]<;>grind -lia -linarith -order -ac (splits:=0)
theorem qhO (x:Q2 q):qm D (1,0) x=x:=by
 apply qR<;>simp only[qm]<;>grind -lia -linarith -order -ac (splits:=0)
theorem qfl (x y z:Q2 q):qm D (qm D x y) z=qm D x (qm D y z):=by
 apply qR<;>simp only[qm]<;>grind -lia -linarith -order -ac (splits:=0)
theorem qbO (x y:Q2 q):qm D x y=qm D y x:=by
 apply qR<;>simp only[qm]<;>grind -lia -linarith -order -ac (splits:=0)
theorem qlp (x y z:Q2 q):qm D x (qa y z)=qa (qm D x y) (qm D x z):=by
 apply qR<;>simp only[qm,qa]<;>grind -lia -linarith -order -ac (splits:=0)
theorem qfm (x:Q2 q) (m n:Nat):qp D x (m+n)=qm D (qp D x m) (qp D x n):=by
 induction n with
 | zero=>simp only[Nat.add_zero,qp,qhN]
 | succ n ih =>
   show qm D (qp D x (m+n)) x=_
   rw[ih,qfl];rfl
theorem qhP (x:Q2 q):qp D x 1=x:=by simp only[qp,qhO]
theorem qdK (x:Q2 q) (m n:Nat):qp D x (m*n)=qp D (qp D x m) n:=by
 induction n with
 | zero=>simp only[Nat.mul_zero,qp]
 | succ n ih=>simp only[Nat.mul_succ,qfm,ih,qp]
theorem qhQ (n:Nat):qp D (1,0) n=(1,0):=by
 induction n with
 | zero=>rfl
 | succ n ih=>simp only[qp,ih,qhN]
def qH (x y:Q2 q):Nat->(Nat->Nat)->Q2 q
 | 0,f=>qs (f 0) (1,0)
 | n+1,f=>qa (qs (f 0) (qp D x (n+1))) (qm D y (qH x y n fun k=>f (k+1)))
theorem qlq (a b:Nat) (x:Q2 q):qs (a+b) x=qa (qs a x) (qs b x):=by
 apply qR<;>simp only[qs,qa,qcf]<;>grind -lia -linarith -order -ac (splits:=0)
theorem qlr (x:Q2 q):qs 0 x=(0,0):=by
 apply qR<;>simp only[qs,qfk]<;>grind -lia -linarith -order -ac (splits:=0)
theorem qls (x:Q2 q):qs 1 x=x:=by
 apply qR<;>simp only[qs,qbN]<;>grind -lia -linarith -order -ac (splits:=0)
theorem qlt (n:Nat) (x y:Q2 q):qm D (qs n x) y=qs n (qm D x y):=by
 apply qR<;>simp only[qs,qm]<;>grind -lia -linarith -order -ac (splits:=0)
theorem qpF (x:Q2 q):qa x (0,0)=x:=by
 apply qR<;>simp only[qa]<;>grind -lia -linarith -order -ac (splits:=0)
theorem qpG (x:Q2 q):qa (0,0) x=x:=by
 apply qR<;>simp only[qa]<;>grind -lia -linarith -order -ac (splits:=0)
theorem qpH (x:Q2 q):qm D x (0,0)=(0,0):=by
 apply qR<;>simp only[qm]<;>grind -lia -linarith -order -ac (splits:=0)
theorem qpI (a b c d:Q2 q):qa (qa a b) (qa c d)=qa (qa a c) (qa b d):=by
 apply qR<;>simp only[qa]<;>grind -lia -linarith -order -ac (splits:=0)
theorem qlu (x y:Q2 q) : ∀ (n:Nat) (f g:Nat->Nat),qH D x y n (fun k=>f k+g k)=qa (qH D x y n f) (qH D x y n g)
 | 0,f,g=>by simp only[qH,qlq]
 | n+1,f,g=>by
   simp only[qH,qlq]
   rw[qlu x y n (fun k=>f (k+1)) (fun k=>g (k+1)),qlp,qpI]
theorem qH_y (x y:Q2 q) (n:Nat) (f:Nat->Nat) (h:f 0=0):qH D x y (n+1) f=qm D y (qH D x y n fun k=>f (k+1)):=by
 simp only[qH,h,qlr,qpG]
theorem qH_x (x y:Q2 q) : ∀ (n:Nat) (f:Nat->Nat),f (n+1)=0->qH D x y (n+1) f=qm D x (qH D x y n f)
 | 0,f,h=>by
   simp only[Nat.zero_add]at h
   simp only[qH,Nat.zero_add,h,qlr,qpH,qpF]
   rw[qhP,qbO,qlt,qhO]
 | n+1,f,h=>by
   rw[qH,qH_x x y n (fun k=>f (k+1)) h]
   conv=>rhs;rw[qH]
   rw[qlp,qp,<- qfl D y x,qbO D y x,qfl D x y,<- qlt,qbO D x (qs _ _)]
theorem qlv (x y:Q2 q) : ∀ n,qp D (qa x y) n=qH D x y n (ch n)
 | 0=>by simp only[qp,qH,qdJ,qls]
 | n+1=>by
   have e:qH D x y (n+1) (ch (n+1))=qa (qH D x y (n+1) (fun k=>match k with|0=>0|k+1=>ch n k)) (qH D x y (n+1) (ch n)):=by
     rw[<- qlu]
     congr 1
     funext k
     cases k with
     | zero=>simp only[qdJ]
     | succ k=>simp only[ch]
   rw[e,qH_x D x y n (ch n) (qfi n (n+1) (by omega)),qH_y _ _ _ _ _ rfl]
   simp only[qp,qlv x y n]
   rw[qbO,qbO D (qa x y)]
   apply qR<;>simp only[qm,qa]<;>grind -lia -linarith -order -ac (splits:=0)
theorem qlw (x y:Q2 q) : ∀ (n:Nat) (f:Nat->Nat),(∀ k,k<n->Fin.ofNat q (f k)=0)->Fin.ofNat q (f n)=1->qH D x y n f=qp D y n
 | 0,f,h,h1=>by
   simp only[qH,qp]
   apply qR<;>simp only[qs,h1]<;>grind -lia -linarith -order -ac (splits:=0)
 | n+1,f,h,h1=>by
   have h0:Fin.ofNat q (f 0)=0:=h 0 (by omega)
   rw[qH,qlw x y n (fun k=>f (k+1)) (fun k hk=>h (k+1) (by omega)) h1,qbO D y]
   show _=qm D (qp D y n) y
   apply qR<;>simp only[qs,h0,qa]<;>grind -lia -linarith -order -ac (splits:=0)
theorem frob {x y:Q2 q} (h:Prm q):qp D (qa x y) q=qa (qp D x q) (qp D y q):=by
 rw[qlv]
 obtain⟨n,hn⟩ : ∃ n,q=n+1:=⟨q-1,by have:=h.1;omega⟩
 have key : ∀ m,m=n+1->(∀ k,0<k->k<m->Fin.ofNat q (ch m k)=0)->qH D x y m (ch m)=qa (qp D x m) (qp D y m):=by
  rintro m rfl hk
  rw[qH,qdJ,qls,qlw D x y n (fun k=>ch (n+1) (k+1)) (fun k hk'=>hk (k+1) (by omega) (by omega)) (by rw[qlm];rfl),qbO]
  rfl
 exact key q hn fun k h0 hk=>qlo (qpE h h0 hk)
theorem qhR (h:Prm q) {a b:Fin q} (hm:a*b=0):a=0\/b=0:=by
 have h1:(a.val*b.val) % q=0:=by
  have:=congrArg Fin.val hm
  simpa[Fin.mul_def]using this
 rcases h.dvd_mul (Nat.dvd_of_mod_eq_zero h1)with h2|h2
 ·refine .inl (Fin.ext ?_)
  have:=Nat.eq_zero_of_dvd_of_lt h2 a.isLt
  simpa using this
 ·refine .inr (Fin.ext ?_)
  have:=Nat.eq_zero_of_dvd_of_lt h2 b.isLt
  simpa using this
def pw (a:Fin q):Nat->Fin q
 | 0=>1
 | n+1=>pw a n*a
theorem qdL (a:Fin q) (n:Nat):qp D (a,0) n=(pw a n,0):=by
 induction n with
 | zero=>rfl
 | succ n ih =>
   simp only[qp,ih,pw]
   apply qR<;>simp only[qm]<;>grind -lia -linarith -order -ac (splits:=0)
theorem qdM (a:Fin q) (m n:Nat):pw a (m+n)=pw a m*pw a n:=by
 induction n with
 | zero=>simp only[Nat.add_zero,pw];grind -lia -linarith -order -ac (splits:=0)
 | succ n ih =>
   show pw a (m+n)*a=pw a m*(pw a n*a)
   rw[ih];grind -lia -linarith -order -ac (splits:=0)
theorem qlx (a:Fin q) {n m:Nat} (h:n=m+1):pw a n=pw a m*a:=by rw[h];rfl
theorem qpJ (x:Q2 q) {n m:Nat} (h:n=m+1):qp D x n=qm D (qp D x m) x:=by rw[h];rfl
theorem qcJ (a:Fin q):pw a 1=a:=by simp only[pw];grind -lia -linarith -order -ac (splits:=0)
theorem qpK (n:Nat):pw (1:Fin q) n=1:=by
 induction n with
 | zero=>rfl
 | succ n ih=>simp only[pw,ih];grind -lia -linarith -order -ac (splits:=0)
theorem qbP (a:Fin q) (m n:Nat):pw a (m*n)=pw (pw a m) n:=by
 induction n with
 | zero=>simp only[Nat.mul_zero,pw]
 | succ n ih=>simp only[Nat.mul_succ,qdM,ih,pw]
theorem qly (a b:Fin q) (n:Nat):pw (a*b) n=pw a n*pw b n:=by
 induction n with
 | zero=>simp only[pw];grind -lia -linarith -order -ac (splits:=0)
 | succ n ih=>simp only[pw,ih];grind -lia -linarith -order -ac (splits:=0)
theorem qlz {n:Nat} (h:0<n):pw (0:Fin q) n=0:=by
 obtain⟨m,rfl⟩ : ∃ m,n=m+1:=⟨n-1,by omega⟩
 simp only[pw];grind -lia -linarith -order -ac (splits:=0)
theorem qhS (h:Prm q) : ∀ (a:Fin q),pw a q=a:=by
 have key : ∀ n:Nat,pw (Fin.ofNat q n) q=Fin.ofNat q n:=by
  intro n
  induction n with
  | zero=>rw[qfk];exact qlz (by have:=h.1;omega)
  | succ n ih =>
    have e:=frob (D:=(0:Fin q)) (x:=(Fin.ofNat q n,0)) (y:=(1,0)) h
    rw[qhQ,qdL,ih]at e
    have e2:qa (Fin.ofNat q n,(0:Fin q)) (1,0)=(Fin.ofNat q (n+1),0):=by
      apply qR<;>simp only[qa,qcf,qbN]<;>grind -lia -linarith -order -ac (splits:=0)
    rw[e2,qdL]at e
    have:=congrArg Prod.fst e
    simp only[qa]at this
    rw[this,qcf,qbN]
 intro a
 have:Fin.ofNat q a.val=a:=by apply Fin.ext;simp[Fin.ofNat,Nat.mod_eq_of_lt a.isLt]
 rw[<- this];exact key _
theorem qhT (h:Prm q) {a:Fin q} (ha:a ≠ 0):pw a (q-1)=1:=by
 have e:=qhS h a
 have e2:pw a q=pw a (q-1)*a:=qlx a (by have:=h.1;omega)
 rw[e2]at e
 have e3:(pw a (q-1)-1)*a=0:=by grind -lia -linarith -order -ac (splits:=0)
 rcases qhR h e3 with h1|h1
 ·grind -lia -linarith -order -ac (splits:=0)
 ·exact absurd h1 ha
theorem qpL (h:Prm q) {a:Fin q} (ha:a ≠ 0) {m:Nat} (hm:q-1=m*2):pw a m=1\/pw a m = -1:=by
 have e:=qhT h ha
 rw[hm,qbP]at e
 simp only[pw]at e
 have e3:(pw a m-1)*(pw a m+1)=0:=by grind -lia -linarith -order -ac (splits:=0)
 rcases qhR h e3 with h1|h1
 ·left;grind -lia -linarith -order -ac (splits:=0)
 ·right;grind -lia -linarith -order -ac (splits:=0)
theorem qpM (b:Fin q) (m:Nat):qp D (0,b) (2*m+1)=(0,pw D m*pw b (2*m+1)):=by
 have e2:qp D (0,b) 2=(D*b*b,0):=by
  simp only[qp]
  apply qR<;>simp only[qm]<;>grind -lia -linarith -order -ac (splits:=0)
 rw[qfm,qdK,e2,qdL,qhP]
 have e3:pw b (2*m+1)=pw (b*b) m*b:=by
  rw[qdM,qcJ,qbP];simp only[pw]
  congr 2;grind -lia -linarith -order -ac (splits:=0)
 rw[e3]
 have e4:D*b*b=D*(b*b):=by grind -lia -linarith -order -ac (splits:=0)
 rw[e4,qly]
 apply qR<;>simp only[qm]<;>grind -lia -linarith -order -ac (splits:=0)
theorem qpN (h:Prm q) {a b:Fin q} {m:Nat} (hm:q=2*m+1):qp D (a,b) q=(a,pw D m*b):=by
 have e:(a,b)=qa (a,(0:Fin q)) (0,b):=by apply qR<;>simp only[qa]<;>grind -lia -linarith -order -ac (splits:=0)
 rw[e,frob (D:=D) h,qdL,qhS h]
 have e2:qp D (0,b) q=(0,pw D m*b):=by
  have:=qpM D b m
  rw[<- hm]at this
  rw[this,qhS h]
 rw[e2]
 apply qR<;>simp only[qa]<;>grind -lia -linarith -order -ac (splits:=0)
theorem qpO : ∀ (n:Nat),0<n -> ∃ s m,n=2^s*(2*m+1):=by
 intro n
 induction n using Nat.strongRecOn with
 | _ n ih =>
   intro h
   rcases Nat.mod_two_eq_zero_or_one n with h1|h1
   · obtain⟨s,m,e⟩:=ih (n / 2) (by omega) (by omega)
     refine⟨s+1,m,?_⟩
     rw[Nat.pow_succ,Nat.mul_assoc,Nat.mul_comm 2,<- Nat.mul_assoc,<- e];omega
   · exact⟨0,n / 2,by omega⟩
theorem qpP (h:Prm q) (hq:q % 2=1) (hD:D ≠ 0) {x:Q2 q} (hn:x.1*x.1-D*x.2*x.2=1) {k:Nat} (hk:qp D x (2^k)=(-1,0)):2^(k+1) ∣ q-1\/2^(k+1) ∣ q+1:=by
 have h2:=h.1
 have ne:(-1:Fin q) ≠ 1:=by
  intro e
  have e2:(Fin.ofNat q 2)=0:=by
   rw[show(2:Nat)=1+1 from rfl,qcf,qbN];grind -lia -linarith -order -ac (splits:=0)
  have:=congrArg Fin.val e2
  simp[Fin.ofNat]at this
  have:=Nat.dvd_of_mod_eq_zero this
  have:=Nat.le_of_dvd (by omega) this
  omega
 have odd : ∀ m,qp D ((-1:Fin q),0) (2*m+1)=(-1,0):=by
  intro m
  have e2:qp D ((-1:Fin q),0) 2=(1,0):=by
   simp only[qp]
   apply qR<;>simp only[qm]<;>grind -lia -linarith -order -ac (splits:=0)
  rw[qfm,qdK,e2,qhQ,qhP,qhO]
 have main : ∀ N,0<N->qp D x N=(1,0)->2^(k+1) ∣ N:=by
  intro N hN e
  obtain⟨s,m,rfl⟩:=qpO N hN
  by_cases hs:k+1<=s
  ·exact Nat.dvd_trans (Nat.pow_dvd_pow 2 hs) (Nat.dvd_mul_right _ _)
  ·exfalso
   have e1:qp D x (2^s*(2*m+1)*2^(k-s))=(1,0):=by rw[qdK,e,qhQ]
   have e2:2^s*(2*m+1)*2^(k-s)=2^k*(2*m+1):=by
    have:2^k=2^s*2^(k-s):=by rw[<- Nat.pow_add];congr 1;omega
    rw[this,Nat.mul_assoc,Nat.mul_assoc,Nat.mul_comm (2*m+1)]
   rw[e2,qdK,hk,odd]at e1
   exact ne (congrArg Prod.fst e1)
 obtain⟨m,hm⟩ : ∃ m,q=2*m+1:=⟨q / 2,by omega⟩
 have hf:=qpN D h (a:=x.1) (b:=x.2) hm
 have hc:qm D x (x.1,-x.2)=(1,0):=by
  apply qR<;>simp only[qm]<;>grind -lia -linarith -order -ac (splits:=0)
 rcases qpL h hD (m:=m) (by omega)with e|e
 ·left
  refine main (q-1) (by omega) ?_
  have e1:qp D x q=qm D (qp D x (q-1)) x:=qpJ D x (by omega)
  have e2:qp D x q=x:=by
   rw[show x=(x.1,x.2) from rfl,hf,e]
   apply qR<;>grind -lia -linarith -order -ac (splits:=0)
  have e3:qm D (qm D (qp D x (q-1)) x) (x.1,-x.2)=(1,0):=by rw[<- e1,e2,hc]
  rw[qfl,hc,qhN]at e3
  exact e3
 ·right
  refine main (q+1) (by omega) ?_
  have e2:qp D x q=(x.1,-x.2):=by
   rw[show x=(x.1,x.2) from rfl,hf,e]
   apply qR<;>grind -lia -linarith -order -ac (splits:=0)
  rw[qp,e2,qbO,hc]
end
end Go.Sx
end
section
namespace Go.Sx
def qmm (n D:Nat) (x y:Nat × Nat):Nat × Nat:=((x.1*y.1+D*x.2*y.2) % n,(x.1*y.2+x.2*y.1) % n)
def bp (n D:Nat) (x:Nat × Nat):Nat->Nat->Nat × Nat
 | 0,_=>(1,0)
 | f+1,e=>match e % 2 with
   | 0=>qmm n D (bp n D x f (e / 2)) (bp n D x f (e / 2))
   | _=>qmm n D (qmm n D (bp n D x f (e / 2)) (bp n D x f (e / 2))) x
section
variable {q n:Nat} [NeZero q]
theorem qpQ (h:q ∣ n) (a:Nat):Fin.ofNat q (a % n)=Fin.ofNat q a:=by
 apply Fin.ext;simp[Fin.ofNat,Nat.mod_mod_of_dvd a h]
def toQ (q:Nat) [NeZero q] (x:Nat × Nat):Q2 q:=(Fin.ofNat q x.1,Fin.ofNat q x.2)
theorem qhU (h:q ∣ n) (D:Nat) (x y:Nat × Nat):toQ q (qmm n D x y)=qm (Fin.ofNat q D) (toQ q x) (toQ q y):=by
 apply qR<;>simp only[toQ,qmm,qm,qpQ h,qcf,qln]
theorem qhV (h:q ∣ n) (D:Nat) (x:Nat × Nat) : ∀ (f e:Nat),e<2^f->toQ q (bp n D x f e)=qp (Fin.ofNat q D) (toQ q x) e
 | 0,e,he=>by
   have:e=0:=by simp at he;omega
   subst this;rfl
 | f+1,e,he=>by
   have ih:=qhV h D x f (e / 2) (by rw[Nat.pow_succ]at he;omega)
   have e2:qp (Fin.ofNat q D) (toQ q x) (e / 2*2)=qm (Fin.ofNat q D) (qp (Fin.ofNat q D) (toQ q x) (e / 2)) (qp (Fin.ofNat q D) (toQ q x) (e / 2)):=by
     rw[Nat.mul_two,qfm]
   simp only[bp]
   split
   · rename_i h0
     rw[qhU h,ih,<- e2]
     congr 1;omega
   · rename_i h0
     rw[qhU h,qhU h,ih,<- e2]
     have:e=e / 2*2+1:=by
       have:e % 2 ≠ 0:=fun q=>h0 q
       omega
     conv=>rhs;rw[this]
     rfl
theorem qpR (D:Fin q) (x y:Q2 q):(qm D x y).1*(qm D x y).1-D*(qm D x y).2*(qm D x y).2=(x.1*x.1-D*x.2*x.2)*(y.1*y.1-D*y.2*y.2):=by
 simp only[qm];grind -lia -linarith -order -ac (splits:=0)
theorem qpS (D:Fin q) (x:Q2 q) (h:x.1*x.1-D*x.2*x.2=1) (n:Nat):(qp D x n).1*(qp D x n).1-D*(qp D x n).2*(qp D x n).2=1:=by
 induction n with
 | zero=>simp only[qp];grind -lia -linarith -order -ac (splits:=0)
 | succ n ih=>rw[qp,qpR,ih,h];grind -lia -linarith -order -ac (splits:=0)
end
theorem qpT:bp pN 35 (6,1) 448 363419362147803445274661903944002267176820680343659030140745099590306164083365386343198191849338272965044442230921818680526749009182720=(726838724295606890549323807888004534353641360687318060281490199180612328166730772686396383698676545930088884461843637361053498018365438,0):=by
 decide +kernel
theorem qhW:Prm pN:=by
 apply Classical.byContradiction
 intro hn
 obtain⟨q,hq,hqp,hs⟩:=qpD (n:=pN) (by decide +kernel) hn
 have h2:=hq.1
 haveI:NeZero q:=⟨by omega⟩
 have hodd:q % 2=1:=by
  rcases Nat.mod_two_eq_zero_or_one q with h|h
  ·have:2 ∣ pN:=Nat.dvd_trans (Nat.dvd_of_mod_eq_zero h) hqp
   exact absurd this (by decide +kernel)
  ·exact h
 have hD:(Fin.ofNat q 35) ≠ 0:=by
  intro e
  have e:=congrArg Fin.val e
  simp[Fin.ofNat]at e
  have h35:=Nat.dvd_gcd (Nat.dvd_of_mod_eq_zero e) hqp
  rw[show Nat.gcd 35 pN=1 by decide +kernel]at h35
  have:=Nat.le_of_dvd (by omega) h35
  omega
 have hg:=qhV (q:=q) (n:=pN) hqp 35 (6,1) 448 363419362147803445274661903944002267176820680343659030140745099590306164083365386343198191849338272965044442230921818680526749009182720 (by decide +kernel)
 rw[qpT]at hg
 have hm1:Fin.ofNat q 726838724295606890549323807888004534353641360687318060281490199180612328166730772686396383698676545930088884461843637361053498018365438 = -1:=by
  have e:Fin.ofNat q 726838724295606890549323807888004534353641360687318060281490199180612328166730772686396383698676545930088884461843637361053498018365438+Fin.ofNat q 1=0:=by
   rw[<- qcf];exact qlo hqp
  rw[qbN]at e
  grind -lia -linarith -order -ac (splits:=0)
 have hk:qp (Fin.ofNat q 35) (qp (Fin.ofNat q 35) (toQ q (6,1)) 26959946667150639794667015087019630673637144422540572481103610249215) (2^223)=(-1,0):=by
  rw[<- qdK]
  have e:26959946667150639794667015087019630673637144422540572481103610249215*2^223=363419362147803445274661903944002267176820680343659030140745099590306164083365386343198191849338272965044442230921818680526749009182720:=by decide +kernel
  rw[e,<- hg]
  simp only[toQ,hm1,qfk]
 have hnorm:(toQ q (6,1)).1*(toQ q (6,1)).1-Fin.ofNat q 35*(toQ q (6,1)).2*(toQ q (6,1)).2=1:=by
  simp only[toQ,qbN]
  have e:Fin.ofNat q 6*Fin.ofNat q 6=Fin.ofNat q 35+Fin.ofNat q 1:=by rw[<- qln,<- qcf]
  rw[e,qbN];grind -lia -linarith -order -ac (splits:=0)
 have hl:=qpP (Fin.ofNat q 35) hq hodd hD (qpS _ _ hnorm _) hk
 have hbig:2^224<=q+1:=by
  rcases hl with h|h
  ·have:=Nat.le_of_dvd (by omega) h;omega
  ·exact Nat.le_of_dvd (by omega) h
 have e224:2^224=26959946667150639794667015087019630673637144422540572481103610249216:=by decide +kernel
 rw[e224]at hbig
 have hlt:q<26959946667150639794667015087019630673637144422540572481103610249216:=by
  apply Classical.byContradiction
  intro hge
  have hge:26959946667150639794667015087019630673637144422540572481103610249216<=q:=by omega
  have h3:=Nat.mul_le_mul hge hge
  have h4:=Nat.le_trans h3 hs
  exact absurd h4 (by decide +kernel)
 have hqe:q=26959946667150639794667015087019630673637144422540572481103610249215:=by omega
 rw[hqe]at hqp
 exact absurd hqp (by decide +kernel)
theorem qcg {a b:Fp} (h:a*b=0):a=0\/b=0:=qhR qhW h
theorem qhX {a b c:Fp} (hc:c ≠ 0) (h:a*c=b*c):a=b:=by
 have:(a-b)*c=0:=by grind -lia -linarith -order -ac (splits:=0)
 rcases qcg this with h1|h1
 ·grind -lia -linarith -order -ac (splits:=0)
 ·exact absurd h1 hc
theorem qV {a b:Fp} (ha:a ≠ 0) (hb:b ≠ 0):a*b ≠ 0:=fun h=>by rcases qcg h with h|h<;>contradiction
@[irreducible] def finv (a:Fp):Fp:=pw a (pN-2)
theorem qdN {a:Fp} (h:a ≠ 0):a*finv a=1:=by
 have e:=qhT qhW h
 have e2:pw a (pN-1)=pw a (pN-2)*a:=by
  have:pN-1=(pN-2)+1:=by decide +kernel
  rw[this];rfl
 unfold finv
 grind -lia -linarith -order -ac (splits:=0)
@[irreducible] def qcK (a:Fp):Fp:=pw a 181709681073901722637330951972001133588410340171829515070372549795153082041682693171599095924669136482522221115460909340263374504591359
theorem bp_d:bp pN 0 (39081,0) 448 363419362147803445274661903944002267176820680343659030140745099590306164083365386343198191849338272965044442230921818680526749009182719=(1,0):=by
 decide +kernel
theorem qpU:pw (-1:Fp) 363419362147803445274661903944002267176820680343659030140745099590306164083365386343198191849338272965044442230921818680526749009182719 = -1:=by
 have:363419362147803445274661903944002267176820680343659030140745099590306164083365386343198191849338272965044442230921818680526749009182719=2*181709681073901722637330951972001133588410340171829515070372549795153082041682693171599095924669136482522221115460909340263374504591359+1:=by decide +kernel
 rw[this,qdM,qbP]
 have e:pw (-1:Fp) 2=1:=by simp only[pw];grind -lia -linarith -order -ac (splits:=0)
 rw[e,qpK,qcJ];grind -lia -linarith -order -ac (splits:=0)
theorem qpV:pw dF 363419362147803445274661903944002267176820680343659030140745099590306164083365386343198191849338272965044442230921818680526749009182719 = -1:=by
 have hg:=qhV (q:=pN) (n:=pN) (Nat.dvd_refl _) 0 (39081,0) 448 363419362147803445274661903944002267176820680343659030140745099590306164083365386343198191849338272965044442230921818680526749009182719 (by decide +kernel)
 rw[bp_d]at hg
 simp only[toQ,qfk,qdL]at hg
 have h1:=congrArg Prod.fst hg
 simp only[qbN]at h1
 have e:dF = -1*Fin.ofNat pN 39081:=by decide +kernel
 rw[e,qly,qpU,<- h1];grind -lia -linarith -order -ac (splits:=0)
theorem qfn:(1:Fp) ≠ 0:=by decide +kernel
theorem qpW:(-1:Fp) ≠ 1:=by decide +kernel
theorem qpX:(2:Fp) ≠ 0:=by decide +kernel
theorem qpY {a b:Fp} (h:pw a 363419362147803445274661903944002267176820680343659030140745099590306164083365386343198191849338272965044442230921818680526749009182719 = -1):a ≠ b*b:=by
 rintro rfl
 have hb:b ≠ 0:=by
  rintro rfl
  rw[show(0:Fp)*0=0 by grind -lia -linarith -order -ac (splits:=0),qlz (by decide +kernel)]at h
  exact absurd h (by decide +kernel)
 have e:=qhT qhW hb
 have e2:pw (b*b) 363419362147803445274661903944002267176820680343659030140745099590306164083365386343198191849338272965044442230921818680526749009182719=pw b (pN-1):=by
  have:b*b=pw b 2:=by simp only[pw];grind -lia -linarith -order -ac (splits:=0)
  rw[this,<- qbP]
  have e3 : ∀ m n:Nat,m=n->pw b m=pw b n:=fun m n h=>by rw[h]
  exact e3 _ _ (by decide +kernel)
 rw[e2,e]at h
 exact qpW h.symm
theorem qpZ (b:Fp):dF ≠ b*b:=qpY qpV
end Go.Sx
end
section
namespace Go.Sx
theorem ua (a b:Int):binL .add .u64 a b=(a+b) % 18446744073709551616:=IntKind.wrap_u64 _
theorem us (a b:Int):binL .sub .u64 a b=(a-b) % 18446744073709551616:=IntKind.wrap_u64 _
theorem um (a b:Int):binL .mul .u64 a b=(a*b) % 18446744073709551616:=IntKind.wrap_u64 _
theorem uand (a:Int) (k:Nat) (hk:k<=64):binL .and .u64 a ((2^k-1:Nat):Int)=a % ((2^k:Nat):Int):=by
 have h2:(2:Nat)^k<=2^64:=Nat.pow_le_pow_right (by omega) hk
 have h0:0<(2:Nat)^k:=Nat.two_pow_pos k
 have h64:(2:Nat)^64=18446744073709551616:=by decide
 show IntKind.u64.wrap _=_
 have e:(BitVec.ofInt 64 a &&& BitVec.ofInt 64 ((2^k-1:Nat):Int)).toNat=(a % ((2^k:Nat):Int)).toNat:=by
  rw[BitVec.toNat_and]
  have e1:(BitVec.ofInt 64 ((2^k-1:Nat):Int)).toNat=2^k-1:=by
   rw[BitVec.toNat_ofInt,Int.emod_eq_of_lt (by omega) (by omega)];omega
  rw[e1,Nat.and_two_pow_sub_one_eq_mod,BitVec.toNat_ofInt]
  have hd:((2^k:Nat):Int) ∣ ((2^64:Nat):Int):=Int.natCast_dvd_natCast.2 (Nat.pow_dvd_pow 2 hk)
  have e2:=Int.emod_emod_of_dvd a hd
  have h3:=Int.emod_nonneg a (b:=((2^64:Nat):Int)) (by omega)
  rw[<- e2]
  generalize a % ((2^64:Nat):Int)=c at *
  obtain⟨n,rfl⟩:=Int.eq_ofNat_of_zero_le h3
  simp only[Int.toNat_natCast,<- Int.natCast_emod]
 have h3:=Int.emod_nonneg a (b:=((2^k:Nat):Int)) (by omega)
 have h4:=Int.emod_lt_of_pos a (b:=((2^k:Nat):Int)) (by omega)
 show IntKind.u64.wrap (((BitVec.ofInt 64 a &&& BitVec.ofInt 64 ((2^k-1:Nat):Int)).toNat:Nat):Int)=_
 rw[e,IntKind.wrap_u64,Int.toNat_of_nonneg h3,Int.emod_eq_of_lt h3 (by omega)]
theorem qch (a:Int):binL .and .u64 a 72057594037927935=a % 72057594037927936:=uand a 56 (by decide)
theorem qp0 (a:Int):binL .and .u64 a 4294967295=a % 4294967296:=uand a 32 (by decide)
theorem qp1 (a:Int):binL .and .u64 a 1=a % 2:=uand a 1 (by decide)
theorem ushr (a:Int) (k:Nat) (hk:k<=64):binL .shr .u64 a (k:Int)=a / ((2^k:Nat):Int):=by
 show a.fdiv (2^(min ((k:Int).toNat) 64))=_
 rw[Int.toNat_natCast,Nat.min_eq_left hk,Int.fdiv_eq_ediv_of_nonneg _ (by exact Int.le_of_lt (Int.pow_pos (by decide))),Int.natCast_pow]
 rfl
theorem qdO (a:Int):binL .shr .u64 a 56=a / 72057594037927936:=ushr a 56 (by decide)
theorem qp2 (a:Int):binL .shr .u64 a 32=a / 4294967296:=ushr a 32 (by decide)
theorem qlA (k:Nat) (hk:k<=64) (a b:Int) (h0:0<=a) (h:(a*((2^k:Nat):Int))<18446744073709551616) (hb:0<=b) (hb2:b<((2^k:Nat):Int)):binL .or .u64 (a*((2^k:Nat):Int)) b=a*((2^k:Nat):Int)+b:=by
 obtain⟨n,rfl⟩:=Int.eq_ofNat_of_zero_le h0
 obtain⟨m,rfl⟩:=Int.eq_ofNat_of_zero_le hb
 have e0:((n:Int)*((2^k:Nat):Int))=((n*2^k:Nat):Int):=(Int.natCast_mul _ _).symm
 rw[e0]at h ⊢
 have hm:m<2^k:=by omega
 have h2:(2:Nat)^k<=2^64:=Nat.pow_le_pow_right (by omega) hk
 have h64:(2:Nat)^64=18446744073709551616:=by decide
 show IntKind.u64.wrap (((BitVec.ofInt 64 ((n*2^k:Nat):Int) ||| BitVec.ofInt 64 (m:Int)).toNat:Nat):Int)=_
 have e1:(BitVec.ofInt 64 ((n*2^k:Nat):Int)).toNat=n*2^k:=by
  rw[BitVec.toNat_ofInt,Int.emod_eq_of_lt (by omega) (by omega)];omega
 have e2:(BitVec.ofInt 64 (m:Int)).toNat=m:=by
  rw[BitVec.toNat_ofInt,Int.emod_eq_of_lt (by omega) (by omega)];omega
 rw[BitVec.toNat_or,e1,e2,Nat.mul_comm,<- Nat.two_pow_add_eq_or_of_lt hm,IntKind.wrap_u64]
 have hlt:2^k*n+m<18446744073709551616:=by
  have hn:n<2^(64-k):=by
   apply Classical.byContradiction
   intro hge
   have hge:2^(64-k)<=n:=Nat.le_of_not_lt hge
   have h3:=Nat.mul_le_mul_right (2^k) hge
   rw[<- Nat.pow_add,show 64-k+k=64 by omega,h64]at h3
   omega
  have h4:=Nat.mul_le_mul_left (2^k) (show n+1<=2^(64-k) from hn)
  rw[<- Nat.pow_add,show k+(64-k)=64 by omega,h64,Nat.mul_add]at h4
  omega
 rw[Int.emod_eq_of_lt (by omega) (by omega)]
 omega
theorem uor8 (a b:Int) (h0:0<=a) (hb:0<=b) (hb2:b<256):binL .or .u64 (a*256 % 18446744073709551616) b=a*256 % 18446744073709551616+b:=by
 have e:a*256 % 18446744073709551616=(a % 72057594037927936)*((2^8:Nat):Int):=by
  show _=(a % 72057594037927936)*256
  omega
 rw[e]
 exact qlA 8 (by decide) _ _ (by omega) (by show a % 72057594037927936*256<_;omega) hb hb2
theorem qbc (a:Int):((fI a).val:Int)=a % pN:=by
 have h0:=Int.emod_nonneg a (b:=(pN:Int)) (by decide)
 have h1:=Int.emod_lt_of_pos a (b:=(pN:Int)) (by decide)
 show(((a % pN).toNat % pN:Nat):Int)=_
 rw[Nat.mod_eq_of_lt (by omega)];omega
theorem qp3 {a b:Int} (h:a % pN=b % pN):fI a=fI b:=by
 apply Fin.ext
 have h1:=qbc a
 have h2:=qbc b
 omega
theorem qaD (a b:Int):fI (a+b)=fI a+fI b:=by
 apply Fin.ext
 have h3:=qbc (a+b)
 have h4:((fI a+fI b).val:Int)=((fI a).val+(fI b).val:Int) % pN:=by
  rw[Fin.val_add,Int.natCast_emod,Int.natCast_add]
 rw[qbc,qbc,<- Int.add_emod]at h4
 omega
theorem qdP (a b:Int):fI (a*b)=fI a*fI b:=by
 apply Fin.ext
 have h3:=qbc (a*b)
 have h4:((fI a*fI b).val:Int)=((fI a).val*(fI b).val:Int) % pN:=by
  rw[Fin.val_mul,Int.natCast_emod,Int.natCast_mul]
 rw[qbc,qbc,<- Int.mul_emod]at h4
 omega
theorem qhY:fI 0=0:=by decide +kernel
theorem qlB:fI 1=1:=by decide +kernel
theorem qhZ (a:Int):fI (-a) = -fI a:=by
 have h:fI (-a)+fI a=0:=by rw[<- qaD,Int.add_left_neg,qhY]
 grind -lia -linarith -order -ac (splits:=0)
theorem qh0 (a b:Int):fI (a-b)=fI a-fI b:=by
 rw[Int.sub_eq_add_neg,qaD,qhZ];grind -lia -linarith -order -ac (splits:=0)
theorem fI_p (k:Int):fI (k*726838724295606890549323807888004534353641360687318060281490199180612328166730772686396383698676545930088884461843637361053498018365439)=0:=by
 rw[<- qhY]
 apply qp3
 show(k*(pN:Int)) % (pN:Int)=_
 rw[Int.mul_emod_left];rfl
theorem qdQ (x:Fp):fI (x.val:Int)=x:=by
 apply Fin.ext
 have h:=qbc (x.val:Int)
 have h1:=x.isLt
 rw[Int.emod_eq_of_lt (by omega) (by omega)]at h
 omega
def fabs (a:Fp):Fp:=if a.val % 2=1 then -a else a
@[irreducible] def qap (a:Fp):List Int:=(List.range 56).map fun j=>((a.val / 256^j % 256:Nat):Int)
def qK (l:List Int):Int:=valB 256 l
theorem qcL {l:List Int} (h:l.length=8) : ∃ a0 a1 a2 a3 a4 a5 a6 a7,l=[a0,a1,a2,a3,a4,a5,a6,a7]:=by
 match l,h with
 | [a0,a1,a2,a3,a4,a5,a6,a7],_=>exact⟨_,_,_,_,_,_,_,_,rfl⟩
theorem all8 {P:Int->Prop} {a0 a1 a2 a3 a4 a5 a6 a7:Int}:(∀ a ∈ [a0,a1,a2,a3,a4,a5,a6,a7],P a) ↔ P a0/\P a1/\P a2/\P a3/\P a4/\P a5/\P a6/\P a7:=by simp
theorem val8 (b a0 a1 a2 a3 a4 a5 a6 a7:Int):valB b [a0,a1,a2,a3,a4,a5,a6,a7]=a0+b*(a1+b*(a2+b*(a3+b*(a4+b*(a5+b*(a6+b*(a7+b*0))))))):=rfl
theorem qdR {k:IntKind} {a b:Int} {xs:List Int} (h:xs=[a,b]):qdi [.int k a,.int k b] k 2 xs:=by
 intro ρ H us hr
 obtain⟨u1,w1,rfl,h1,r1⟩:=RepC_cons.1 hr
 obtain⟨u2,w2,rfl,h2,r2⟩:=RepC_cons.1 r1
 simp only[RepC]at r2
 simp only[Rep]at h1 h2
 subst h1;subst h2;subst r2;subst h
 exact⟨rfl,rfl⟩
def qaU (s:Int × List Int) (i:Nat):Int × List Int :=
 let l:=s.2.set i (binL .add .u64 (s.2.getD i 0) s.1)
 (binL .shr .u64 (l.getD i 0) 56,l.set i (binL .and .u64 (l.getD i 0) 72057594037927935))
def qfo (a:List Int):Int × List Int:=qaU (qaU (qaU (qaU (qaU (qaU (qaU (qaU (0,a) 0) 1) 2) 3) 4) 5) 6) 7
def qh1 (a:List Int):Nat->Int × List Int
 | 0=>(0,a)
 | i+1=>qaU (qh1 a i) i
def qfp (s:Int × List Int):List Int :=
 let l:=s.2.set 0 (binL .add .u64 (s.2.getD 0 0) s.1)
 l.set 4 (binL .add .u64 (l.getD 4 0) s.1)
def qW (a:List Int):List Int:=qfp (qfo a)
theorem qh2 {a0 a1 a2 a3 a4 a5 a6 a7:Int} (h : ∀ a ∈ [a0,a1,a2,a3,a4,a5,a6,a7],0<=a/\a<4611686018427387904) :
  ∃ o1 o2 o3 o4 o5 o6 o7 o8 r0 r1 r2 r3 r4 r5 r6 r7:Int,qW [a0,a1,a2,a3,a4,a5,a6,a7]=[r0+o8,r1,r2,r3,r4+o8,r5,r6,r7] /\
   a0=r0+72057594037927936*o1/\a1+o1=r1+72057594037927936*o2/\a2+o2=r2+72057594037927936*o3/\a3+o3=r3+72057594037927936*o4 /\
   a4+o4=r4+72057594037927936*o5/\a5+o5=r5+72057594037927936*o6/\a6+o6=r6+72057594037927936*o7/\a7+o7=r7+72057594037927936*o8 /\
   (∀ o ∈ [o1,o2,o3,o4,o5,o6,o7,o8],0<=o/\o<=64) /\ ∀ r ∈ [r0,r1,r2,r3,r4,r5,r6,r7],0<=r/\r<72057594037927936:=by
 rw[all8]at h
 obtain⟨h0,h1,h2,h3,h4,h5,h6,h7⟩:=h
 unfold qW qfp qfo qaU
 simp only[List.set,List.getD,List.getElem?_cons_succ,List.getElem?_cons_zero,Option.getD_some,ua,qch,qdO,Int.add_zero]
 have step : ∀ (a o:Int),0<=a/\a<4611686018427387904->0<=o/\o<=64 -> ∃ r o',(a+o) % 18446744073709551616 % 72057594037927936=r/\(a+o) % 18446744073709551616 / 72057594037927936=o'/\a+o=r+72057594037927936*o'/\(0<=o'/\o'<=64)/\(0<=r/\r<72057594037927936):=fun a o ha ho=>⟨_,_,rfl,rfl,by omega,by omega,by omega⟩
 obtain⟨r0,o1,e0,f0,g0,p0,q0⟩:=step a0 0 h0 (by omega)
 rw[Int.add_zero]at e0 f0 g0
 rw[e0,f0]
 obtain⟨r1,o2,e1,f1,g1,p1,q1⟩:=step a1 o1 h1 p0
 rw[e1,f1]
 obtain⟨r2,o3,e2,f2,g2,p2,q2⟩:=step a2 o2 h2 p1
 rw[e2,f2]
 obtain⟨r3,o4,e3,f3,g3,p3,q3⟩:=step a3 o3 h3 p2
 rw[e3,f3]
 obtain⟨r4,o5,e4,f4,g4,p4,q4⟩:=step a4 o4 h4 p3
 rw[e4,f4]
 obtain⟨r5,o6,e5,f5,g5,p5,q5⟩:=step a5 o5 h5 p4
 rw[e5,f5]
 obtain⟨r6,o7,e6,f6,g6,p6,q6⟩:=step a6 o6 h6 p5
 rw[e6,f6]
 obtain⟨r7,o8,e7,f7,g7,p7,q7⟩:=step a7 o7 h7 p6
 rw[e7,f7]
 refine⟨o1,o2,o3,o4,o5,o6,o7,o8,r0,r1,r2,r3,r4,r5,r6,r7,?_,g0,g1,g2,g3,g4,g5,g6,g7,all8.2 ⟨p0,p1,p2,p3,p4,p5,p6,p7⟩,all8.2 ⟨q0,q1,q2,q3,q4,q5,q6,q7⟩⟩
 have e8:(r0+o8) % 18446744073709551616=r0+o8:=by omega
 have e9:(r4+o8) % 18446744073709551616=r4+o8:=by omega
 rw[e8,e9]
theorem qh3 {a:List Int} (hl:a.length=8) (h : ∀ x ∈ a,0<=x/\x<4611686018427387904):okFe (fI (valB 72057594037927936 a)) (qW a):=by
 obtain⟨a0,a1,a2,a3,a4,a5,a6,a7,rfl⟩:=qcL hl
 obtain⟨o1,o2,o3,o4,o5,o6,o7,o8,r0,r1,r2,r3,r4,r5,r6,r7,e,g0,g1,g2,g3,g4,g5,g6,g7,ho,hr⟩:=qh2 h
 rw[all8]at ho hr
 obtain⟨p0,p1,p2,p3,p4,p5,p6,p7⟩:=ho
 obtain⟨q0,q1,q2,q3,q4,q5,q6,q7⟩:=hr
 rw[e]
 refine⟨rfl,all8.2 ⟨by omega,by omega,by omega,by omega,by omega,by omega,by omega,by omega⟩,?_⟩
 have key:valB 72057594037927936 [r0+o8,r1,r2,r3,r4+o8,r5,r6,r7]+o8*726838724295606890549323807888004534353641360687318060281490199180612328166730772686396383698676545930088884461843637361053498018365439=valB 72057594037927936 [a0,a1,a2,a3,a4,a5,a6,a7]:=by
  rw[val8,val8];omega
 rw[<- key,qaD,fI_p];grind -lia -linarith -order -ac (splits:=0)
def qcM (x y:Int):Int:=x*y / 18446744073709551616
def qcN (x y:Int):Int:=x*y % 18446744073709551616
theorem qci {x:Fp} {xs:List Int} (h:okFe x xs) : ∃ a0 a1 a2 a3 a4 a5 a6 a7:Int,xs=[a0,a1,a2,a3,a4,a5,a6,a7]/\(0<=a0/\a0<72057594037928192)/\(0<=a1/\a1<72057594037928192)/\(0<=a2/\a2<72057594037928192)/\(0<=a3/\a3<72057594037928192)/\(0<=a4/\a4<72057594037928192)/\(0<=a5/\a5<72057594037928192)/\(0<=a6/\a6<72057594037928192)/\(0<=a7/\a7<72057594037928192) /\
  fI (a0+72057594037927936*(a1+72057594037927936*(a2+72057594037927936*(a3+72057594037927936*(a4+72057594037927936*(a5+72057594037927936*(a6+72057594037927936*(a7+72057594037927936*0))))))))=x:=by
 obtain⟨hl,hb,hv⟩:=h
 obtain⟨a0,a1,a2,a3,a4,a5,a6,a7,rfl⟩:=qcL hl
 rw[all8]at hb
 exact⟨a0,a1,a2,a3,a4,a5,a6,a7,rfl,hb.1,hb.2.1,hb.2.2.1,hb.2.2.2.1,hb.2.2.2.2.1,hb.2.2.2.2.2.1,hb.2.2.2.2.2.2.1,hb.2.2.2.2.2.2.2,hv⟩
theorem qh4 {x:Fp} {a0 a1 a2 a3 a4 a5 a6 a7:Int} (h0:0<=a0/\a0<4611686018427387904) (h1:0<=a1/\a1<4611686018427387904) (h2:0<=a2/\a2<4611686018427387904) (h3:0<=a3/\a3<4611686018427387904) (h4:0<=a4/\a4<4611686018427387904) (h5:0<=a5/\a5<4611686018427387904) (h6:0<=a6/\a6<4611686018427387904) (h7:0<=a7/\a7<4611686018427387904)
  (hx:fI (a0+72057594037927936*(a1+72057594037927936*(a2+72057594037927936*(a3+72057594037927936*(a4+72057594037927936*(a5+72057594037927936*(a6+72057594037927936*(a7+72057594037927936*0))))))))=x):okFe x (qW [a0,a1,a2,a3,a4,a5,a6,a7]):=by
 rw[<- hx]
 exact qh3 rfl (all8.2 ⟨h0,h1,h2,h3,h4,h5,h6,h7⟩)
theorem qp4 {x y:Fp} {xs ys:List Int} (hx:okFe x xs) (hy:okFe y ys):okFe (x+y) (qW [binL .add .u64 (xs.getD 0 0) (ys.getD 0 0),binL .add .u64 (xs.getD 1 0) (ys.getD 1 0),binL .add .u64 (xs.getD 2 0) (ys.getD 2 0),binL .add .u64 (xs.getD 3 0) (ys.getD 3 0),binL .add .u64 (xs.getD 4 0) (ys.getD 4 0),binL .add .u64 (xs.getD 5 0) (ys.getD 5 0),binL .add .u64 (xs.getD 6 0) (ys.getD 6 0),binL .add .u64 (xs.getD 7 0) (ys.getD 7 0)]):=by
 obtain⟨a0,a1,a2,a3,a4,a5,a6,a7,rfl,p0,p1,p2,p3,p4,p5,p6,p7,hx⟩:=qci hx
 obtain⟨b0,b1,b2,b3,b4,b5,b6,b7,rfl,q0,q1,q2,q3,q4,q5,q6,q7,hy⟩:=qci hy
 simp only[List.getD,List.getElem?_cons_succ,List.getElem?_cons_zero,Option.getD_some,ua]
 have e : ∀ a b:Int,(0<=a/\a<72057594037928192)->(0<=b/\b<72057594037928192)->(a+b) % 18446744073709551616=a+b:=fun a b _ _=>by omega
 rw[e _ _ p0 q0,e _ _ p1 q1,e _ _ p2 q2,e _ _ p3 q3,e _ _ p4 q4,e _ _ p5 q5,e _ _ p6 q6,e _ _ p7 q7]
 refine qh4 (by omega) (by omega) (by omega) (by omega) (by omega) (by omega) (by omega) (by omega) ?_
 rw[<- hx,<- hy,<- qaD]
 congr 1;omega
theorem qlC {x y:Fp} {xs ys:List Int} (hx:okFe x xs) (hy:okFe y ys):okFe (x-y) (qW [binL .sub .u64 (binL .add .u64 (xs.getD 0 0) (binL .mul .u64 2 72057594037927935)) (ys.getD 0 0),binL .sub .u64 (binL .add .u64 (xs.getD 1 0) (binL .mul .u64 2 72057594037927935)) (ys.getD 1 0),binL .sub .u64 (binL .add .u64 (xs.getD 2 0) (binL .mul .u64 2 72057594037927935)) (ys.getD 2 0),binL .sub .u64 (binL .add .u64 (xs.getD 3 0) (binL .mul .u64 2 72057594037927935)) (ys.getD 3 0),binL .sub .u64 (binL .add .u64 (xs.getD 4 0) (binL .mul .u64 2 72057594037927934)) (ys.getD 4 0),binL .sub .u64 (binL .add .u64 (xs.getD 5 0) (binL .mul .u64 2 72057594037927935)) (ys.getD 5 0),binL .sub .u64 (binL .add .u64 (xs.getD 6 0) (binL .mul .u64 2 72057594037927935)) (ys.getD 6 0),binL .sub .u64 (binL .add .u64 (xs.getD 7 0) (binL .mul .u64 2 72057594037927935)) (ys.getD 7 0)]):=by
 obtain⟨a0,a1,a2,a3,a4,a5,a6,a7,rfl,p0,p1,p2,p3,p4,p5,p6,p7,hx⟩:=qci hx
 obtain⟨b0,b1,b2,b3,b4,b5,b6,b7,rfl,q0,q1,q2,q3,q4,q5,q6,q7,hy⟩:=qci hy
 simp only[List.getD,List.getElem?_cons_succ,List.getElem?_cons_zero,Option.getD_some]
 have e : ∀ a b:Int,(0<=a/\a<72057594037928192)->(0<=b/\b<72057594037928192)->binL .sub .u64 (binL .add .u64 a (binL .mul .u64 2 72057594037927935)) b=a+144115188075855870-b:=fun a b _ _=>by
  rw[ua,us,show binL .mul .u64 2 72057594037927935=144115188075855870 by decide];omega
 have e4 : ∀ a b:Int,(0<=a/\a<72057594037928192)->(0<=b/\b<72057594037928192)->binL .sub .u64 (binL .add .u64 a (binL .mul .u64 2 72057594037927934)) b=a+144115188075855868-b:=fun a b _ _=>by
  rw[ua,us,show binL .mul .u64 2 72057594037927934=144115188075855868 by decide];omega
 rw[e _ _ p0 q0,e _ _ p1 q1,e _ _ p2 q2,e _ _ p3 q3,e4 _ _ p4 q4,e _ _ p5 q5,e _ _ p6 q6,e _ _ p7 q7]
 refine qh4 (by omega) (by omega) (by omega) (by omega) (by omega) (by omega) (by omega) (by omega) ?_
 rw[<- hx,<- hy,<- qh0]
 have h2:=fI_p 2
 rw[<- Fin.add_zero (fI (_-_)),<- h2,<- qaD]
 congr 1;omega
theorem qp5:okFe 0 [0,0,0,0,0,0,0,0]:=⟨rfl,by decide,qhY⟩
theorem qh5 {y:Fp} {ys:List Int} (hy:okFe y ys):okFe (-y) (qW [binL .sub .u64 (binL .add .u64 ([0,0,0,0,0,0,0,0].getD 0 0) (binL .mul .u64 2 ([72057594037927935,72057594037927935,72057594037927935,72057594037927935,72057594037927934,72057594037927935,72057594037927935,72057594037927935].getD 0 0))) (ys.getD 0 0),binL .sub .u64 (binL .add .u64 ([0,0,0,0,0,0,0,0].getD 1 0) (binL .mul .u64 2 ([72057594037927935,72057594037927935,72057594037927935,72057594037927935,72057594037927934,72057594037927935,72057594037927935,72057594037927935].getD 1 0))) (ys.getD 1 0),binL .sub .u64 (binL .add .u64 ([0,0,0,0,0,0,0,0].getD 2 0) (binL .mul .u64 2 ([72057594037927935,72057594037927935,72057594037927935,72057594037927935,72057594037927934,72057594037927935,72057594037927935,72057594037927935].getD 2 0))) (ys.getD 2 0),binL .sub .u64 (binL .add .u64 ([0,0,0,0,0,0,0,0].getD 3 0) (binL .mul .u64 2 ([72057594037927935,72057594037927935,72057594037927935,72057594037927935,72057594037927934,72057594037927935,72057594037927935,72057594037927935].getD 3 0))) (ys.getD 3 0),binL .sub .u64 (binL .add .u64 ([0,0,0,0,0,0,0,0].getD 4 0) (binL .mul .u64 2 ([72057594037927935,72057594037927935,72057594037927935,72057594037927935,72057594037927934,72057594037927935,72057594037927935,72057594037927935].getD 4 0))) (ys.getD 4 0),binL .sub .u64 (binL .add .u64 ([0,0,0,0,0,0,0,0].getD 5 0) (binL .mul .u64 2 ([72057594037927935,72057594037927935,72057594037927935,72057594037927935,72057594037927934,72057594037927935,72057594037927935,72057594037927935].getD 5 0))) (ys.getD 5 0),binL .sub .u64 (binL .add .u64 ([0,0,0,0,0,0,0,0].getD 6 0) (binL .mul .u64 2 ([72057594037927935,72057594037927935,72057594037927935,72057594037927935,72057594037927934,72057594037927935,72057594037927935,72057594037927935].getD 6 0))) (ys.getD 6 0),binL .sub .u64 (binL .add .u64 ([0,0,0,0,0,0,0,0].getD 7 0) (binL .mul .u64 2 ([72057594037927935,72057594037927935,72057594037927935,72057594037927935,72057594037927934,72057594037927935,72057594037927935,72057594037927935].getD 7 0))) (ys.getD 7 0)]):=by
 have h:=qlC qp5 hy
 have e:(0:Fp)-y = -y:=by grind -lia -linarith -order -ac (splits:=0)
 rw[e]at h
 exact h
theorem qlD (v:BitVec 64):BitVec.ofInt 64 ((v.toNat:Nat):Int)=v:=by
 apply BitVec.eq_of_toNat_eq
 rw[BitVec.toNat_ofInt]
 have:=v.isLt
 rw[Int.emod_eq_of_lt (by omega) (by omega)];omega
theorem qh6 (v:BitVec 64):IntKind.u64.wrap ((v.toNat:Nat):Int)=(v.toNat:Int):=by
 rw[IntKind.wrap_u64]
 have:=v.isLt
 omega
theorem uxor (a b:Int):binL .xor .u64 a b=((BitVec.ofInt 64 a ^^^ BitVec.ofInt 64 b).toNat:Int):=qh6 _
theorem qp6 (a b:Int):binL .and .u64 a b=((BitVec.ofInt 64 a &&& BitVec.ofInt 64 b).toNat:Int):=qh6 _
theorem uorb (a b:Int):binL .or .u64 a b=((BitVec.ofInt 64 a ||| BitVec.ofInt 64 b).toNat:Int):=qh6 _
theorem qlE {a:Int} (h0:0<=a) (h:a<18446744073709551616):((BitVec.ofInt 64 a).toNat:Int)=a:=by
 rw[BitVec.toNat_ofInt,Int.emod_eq_of_lt (by omega) (by omega)];omega
theorem usel (b x y:Int) (hx:0<=x/\x<18446744073709551616) (hy:0<=y/\y<18446744073709551616) :
  binL .xor .u64 x (binL .and .u64 (unL .neg .u64 (binL .and .u64 (IntKind.u64.wrap b) 1)) (binL .xor .u64 x y))=if b % 2=0 then x else y:=by
 have e1:binL .and .u64 (IntKind.u64.wrap b) 1=b % 2:=by rw[qp1,IntKind.wrap_u64];omega
 have e2:unL .neg .u64 (b % 2)=(0-b % 2) % 18446744073709551616:=IntKind.wrap_u64 _
 rw[e1,e2,uxor,qp6,uxor,qlD,qlD]
 split
 ·rename_i h
  rw[h]
  have:BitVec.ofInt 64 ((0-0) % 18446744073709551616)=0#64:=by decide
  rw[this,BitVec.zero_and,BitVec.xor_zero,qlE hx.1 hx.2]
 ·have h:b % 2=1:=by omega
  rw[h]
  have:BitVec.ofInt 64 ((0-1) % 18446744073709551616)=BitVec.allOnes 64:=by decide
  rw[this,BitVec.allOnes_and,<- BitVec.xor_assoc,BitVec.xor_self,BitVec.zero_xor,qlE hy.1 hy.2]
def U64 (a:List Int):Prop:=a.length=8 /\ ∀ x ∈ a,0<=x/\x<18446744073709551616
theorem qp7 {xs ys:List Int} (b:Int) (hx:U64 xs) (hy:U64 ys):[binL .xor .u64 (xs.getD 0 0) (binL .and .u64 (unL .neg .u64 (binL .and .u64 (IntKind.u64.wrap b) 1)) (binL .xor .u64 (xs.getD 0 0) (ys.getD 0 0))),binL .xor .u64 (xs.getD 1 0) (binL .and .u64 (unL .neg .u64 (binL .and .u64 (IntKind.u64.wrap b) 1)) (binL .xor .u64 (xs.getD 1 0) (ys.getD 1 0))),binL .xor .u64 (xs.getD 2 0) (binL .and .u64 (unL .neg .u64 (binL .and .u64 (IntKind.u64.wrap b) 1)) (binL .xor .u64 (xs.getD 2 0) (ys.getD 2 0))),binL .xor .u64 (xs.getD 3 0) (binL .and .u64 (unL .neg .u64 (binL .and .u64 (IntKind.u64.wrap b) 1)) (binL .xor .u64 (xs.getD 3 0) (ys.getD 3 0))),binL .xor .u64 (xs.getD 4 0) (binL .and .u64 (unL .neg .u64 (binL .and .u64 (IntKind.u64.wrap b) 1)) (binL .xor .u64 (xs.getD 4 0) (ys.getD 4 0))),binL .xor .u64 (xs.getD 5 0) (binL .and .u64 (unL .neg .u64 (binL .and .u64 (IntKind.u64.wrap b) 1)) (binL .xor .u64 (xs.getD 5 0) (ys.getD 5 0))),binL .xor .u64 (xs.getD 6 0) (binL .and .u64 (unL .neg .u64 (binL .and .u64 (IntKind.u64.wrap b) 1)) (binL .xor .u64 (xs.getD 6 0) (ys.getD 6 0))),binL .xor .u64 (xs.getD 7 0) (binL .and .u64 (unL .neg .u64 (binL .and .u64 (IntKind.u64.wrap b) 1)) (binL .xor .u64 (xs.getD 7 0) (ys.getD 7 0)))]=if b % 2=0 then xs else ys:=by
 obtain⟨hl,hx⟩:=hx
 obtain⟨hm,hy⟩:=hy
 obtain⟨a0,a1,a2,a3,a4,a5,a6,a7,rfl⟩:=qcL hl
 obtain⟨b0,b1,b2,b3,b4,b5,b6,b7,rfl⟩:=qcL hm
 rw[all8]at hx hy
 obtain⟨p0,p1,p2,p3,p4,p5,p6,p7⟩:=hx
 obtain⟨q0,q1,q2,q3,q4,q5,q6,q7⟩:=hy
 simp only[List.getD,List.getElem?_cons_succ,List.getElem?_cons_zero,Option.getD_some]
 rw[usel b a0 b0 p0 q0,usel b a1 b1 p1 q1,usel b a2 b2 p2 q2,usel b a3 b3 p3 q3,usel b a4 b4 p4 q4,usel b a5 b5 p5 q5,usel b a6 b6 p6 q6,usel b a7 b7 p7 q7]
 by_cases h:b % 2=0
 ·simp only[if_pos h]
 ·simp only[if_neg h]
theorem qp8 {x y:Fp} {xs ys:List Int} (b:Int) (hx:okFe x xs) (hy:okFe y ys):okFe (if b % 2=0 then x else y) [binL .xor .u64 (xs.getD 0 0) (binL .and .u64 (unL .neg .u64 (binL .and .u64 (IntKind.u64.wrap b) 1)) (binL .xor .u64 (xs.getD 0 0) (ys.getD 0 0))),binL .xor .u64 (xs.getD 1 0) (binL .and .u64 (unL .neg .u64 (binL .and .u64 (IntKind.u64.wrap b) 1)) (binL .xor .u64 (xs.getD 1 0) (ys.getD 1 0))),binL .xor .u64 (xs.getD 2 0) (binL .and .u64 (unL .neg .u64 (binL .and .u64 (IntKind.u64.wrap b) 1)) (binL .xor .u64 (xs.getD 2 0) (ys.getD 2 0))),binL .xor .u64 (xs.getD 3 0) (binL .and .u64 (unL .neg .u64 (binL .and .u64 (IntKind.u64.wrap b) 1)) (binL .xor .u64 (xs.getD 3 0) (ys.getD 3 0))),binL .xor .u64 (xs.getD 4 0) (binL .and .u64 (unL .neg .u64 (binL .and .u64 (IntKind.u64.wrap b) 1)) (binL .xor .u64 (xs.getD 4 0) (ys.getD 4 0))),binL .xor .u64 (xs.getD 5 0) (binL .and .u64 (unL .neg .u64 (binL .and .u64 (IntKind.u64.wrap b) 1)) (binL .xor .u64 (xs.getD 5 0) (ys.getD 5 0))),binL .xor .u64 (xs.getD 6 0) (binL .and .u64 (unL .neg .u64 (binL .and .u64 (IntKind.u64.wrap b) 1)) (binL .xor .u64 (xs.getD 6 0) (ys.getD 6 0))),binL .xor .u64 (xs.getD 7 0) (binL .and .u64 (unL .neg .u64 (binL .and .u64 (IntKind.u64.wrap b) 1)) (binL .xor .u64 (xs.getD 7 0) (ys.getD 7 0)))]:=by
 have hx':=hx
 have hy':=hy
 obtain⟨a0,a1,a2,a3,a4,a5,a6,a7,rfl,p0,p1,p2,p3,p4,p5,p6,p7,_⟩:=qci hx
 obtain⟨b0,b1,b2,b3,b4,b5,b6,b7,rfl,q0,q1,q2,q3,q4,q5,q6,q7,_⟩:=qci hy
 simp only[List.getD,List.getElem?_cons_succ,List.getElem?_cons_zero,Option.getD_some]
 rw[usel b a0 b0 (by omega) (by omega),usel b a1 b1 (by omega) (by omega),usel b a2 b2 (by omega) (by omega),usel b a3 b3 (by omega) (by omega),usel b a4 b4 (by omega) (by omega),usel b a5 b5 (by omega) (by omega),usel b a6 b6 (by omega) (by omega),usel b a7 b7 (by omega) (by omega)]
 by_cases h:b % 2=0
 ·simp only[if_pos h];exact hx'
 ·simp only[if_neg h];exact hy'
theorem qcj (k:Nat) (hk:k<=56) (n b:Int) (h0:0<=n) (hn:n<((2^k:Nat):Int)) (hb:0<=b/\b<256):binL .or .u64 n (binL .shl .u64 (IntKind.u64.wrap b) (k:Int))=n+b*((2^k:Nat):Int):=by
 have e1:IntKind.u64.wrap b=b:=by rw[IntKind.wrap_u64];omega
 have h2:(2:Nat)^k<=2^56:=Nat.pow_le_pow_right (by omega) hk
 have h56:(2:Nat)^56=72057594037927936:=by decide
 have h3:b*((2^k:Nat):Int)<=255*((2^k:Nat):Int):=Int.mul_le_mul_of_nonneg_right (by omega) (by omega)
 have h4:0<=b*((2^k:Nat):Int):=Int.mul_nonneg hb.1 (by omega)
 have e2:binL .shl .u64 b (k:Int)=b*((2^k:Nat):Int):=by
  show IntKind.u64.wrap (b*2^(min ((k:Int).toNat) 64))=_
  have e3:(2:Int)^k=((2^k:Nat):Int):=by rw[Int.natCast_pow];rfl
  rw[Int.toNat_natCast,Nat.min_eq_left (by omega),e3,IntKind.wrap_u64]
  exact Int.emod_eq_of_lt h4 (by omega)
 rw[e1,e2,uorb,BitVec.or_comm,<- uorb,qlA k (by omega) b n hb.1 (by omega) h0 hn]
 omega
theorem qbQ (b0 b1 b2 b3 b4 b5 b6:Int) (h0:0<=b0/\b0<256) (h1:0<=b1/\b1<256) (h2:0<=b2/\b2<256) (h3:0<=b3/\b3<256) (h4:0<=b4/\b4<256) (h5:0<=b5/\b5<256) (h6:0<=b6/\b6<256) :
  binL .or .u64 (binL .or .u64 (binL .or .u64 (binL .or .u64 (binL .or .u64 (binL .or .u64 (binL .or .u64 0 (binL .shl .u64 (IntKind.u64.wrap b0) 0)) (binL .shl .u64 (IntKind.u64.wrap b1) 8)) (binL .shl .u64 (IntKind.u64.wrap b2) 16)) (binL .shl .u64 (IntKind.u64.wrap b3) 24)) (binL .shl .u64 (IntKind.u64.wrap b4) 32)) (binL .shl .u64 (IntKind.u64.wrap b5) 40)) (binL .shl .u64 (IntKind.u64.wrap b6) 48) =
   b0+b1*256+b2*65536+b3*16777216+b4*4294967296+b5*1099511627776+b6*281474976710656:=by
 have e0:binL .or .u64 0 (binL .shl .u64 (IntKind.u64.wrap b0) 0)=b0:=by
  have:=qcj 0 (by omega) 0 b0 (by omega) (by decide) h0
  simpa using this
 have e1 : ∀ n,0<=n->n<256->binL .or .u64 n (binL .shl .u64 (IntKind.u64.wrap b1) 8)=n+b1*256:=fun n p q=>qcj 8 (by omega) n b1 p q h1
 have e2 : ∀ n,0<=n->n<65536->binL .or .u64 n (binL .shl .u64 (IntKind.u64.wrap b2) 16)=n+b2*65536:=fun n p q=>qcj 16 (by omega) n b2 p q h2
 have e3 : ∀ n,0<=n->n<16777216->binL .or .u64 n (binL .shl .u64 (IntKind.u64.wrap b3) 24)=n+b3*16777216:=fun n p q=>qcj 24 (by omega) n b3 p q h3
 have e4 : ∀ n,0<=n->n<4294967296->binL .or .u64 n (binL .shl .u64 (IntKind.u64.wrap b4) 32)=n+b4*4294967296:=fun n p q=>qcj 32 (by omega) n b4 p q h4
 have e5 : ∀ n,0<=n->n<1099511627776->binL .or .u64 n (binL .shl .u64 (IntKind.u64.wrap b5) 40)=n+b5*1099511627776:=fun n p q=>qcj 40 (by omega) n b5 p q h5
 have e6 : ∀ n,0<=n->n<281474976710656->binL .or .u64 n (binL .shl .u64 (IntKind.u64.wrap b6) 48)=n+b6*281474976710656:=fun n p q=>qcj 48 (by omega) n b6 p q h6
 rw[e0,e1 _ (by omega) (by omega),e2 _ (by omega) (by omega),e3 _ (by omega) (by omega),e4 _ (by omega) (by omega),e5 _ (by omega) (by omega),e6 _ (by omega) (by omega)]
theorem qw {l:List Int} {n:Nat} (h:l.length=n+1) : ∃ a m,l=a :: m/\m.length=n:=by
 cases l with
 | nil=>simp at h
 | cons a m=>exact⟨a,m,rfl,by simpa using h⟩
theorem qp9 {bs:List Int} (hl:bs.length=56) (hb : ∀ a ∈ bs,0<=a/\a<256):okFe (fI (qK bs)) [(binL .or .u64 (binL .or .u64 (binL .or .u64 (binL .or .u64 (binL .or .u64 (binL .or .u64 (binL .or .u64 0 (binL .shl .u64 (IntKind.u64.wrap (bs.getD 0 0)) 0)) (binL .shl .u64 (IntKind.u64.wrap (bs.getD 1 0)) 8)) (binL .shl .u64 (IntKind.u64.wrap (bs.getD 2 0)) 16)) (binL .shl .u64 (IntKind.u64.wrap (bs.getD 3 0)) 24)) (binL .shl .u64 (IntKind.u64.wrap (bs.getD 4 0)) 32)) (binL .shl .u64 (IntKind.u64.wrap (bs.getD 5 0)) 40)) (binL .shl .u64 (IntKind.u64.wrap (bs.getD 6 0)) 48)),(binL .or .u64 (binL .or .u64 (binL .or .u64 (binL .or .u64 (binL .or .u64 (binL .or .u64 (binL .or .u64 0 (binL .shl .u64 (IntKind.u64.wrap (bs.getD 7 0)) 0)) (binL .shl .u64 (IntKind.u64.wrap (bs.getD 8 0)) 8)) (binL .shl .u64 (IntKind.u64.wrap (bs.getD 9 0)) 16)) (binL .shl .u64 (IntKind.u64.wrap (bs.getD 10 0)) 24)) (binL .shl .u64 (IntKind.u64.wrap (bs.getD 11 0)) 32)) (binL .shl .u64 (IntKind.u64.wrap (bs.getD 12 0)) 40)) (binL .shl .u64 (IntKind.u64.wrap (bs.getD 13 0)) 48)),(binL .or .u64 (binL .or .u64 (binL .or .u64 (binL .or .u64 (binL .or .u64 (binL .or .u64 (binL .or .u64 0 (binL .shl .u64 (IntKind.u64.wrap (bs.getD 14 0)) 0)) (binL .shl .u64 (IntKind.u64.wrap (bs.getD 15 0)) 8)) (binL .shl .u64 (IntKind.u64.wrap (bs.getD 16 0)) 16)) (binL .shl .u64 (IntKind.u64.wrap (bs.getD 17 0)) 24)) (binL .shl .u64 (IntKind.u64.wrap (bs.getD 18 0)) 32)) (binL .shl .u64 (IntKind.u64.wrap (bs.getD 19 0)) 40)) (binL .shl .u64 (IntKind.u64.wrap (bs.getD 20 0)) 48)),(binL .or .u64 (binL .or .u64 (binL .or .u64 (binL .or .u64 (binL .or .u64 (binL .or .u64 (binL .or .u64 0 (binL .shl .u64 (IntKind.u64.wrap (bs.getD 21 0)) 0)) (binL .shl .u64 (IntKind.u64.wrap (bs.getD 22 0)) 8)) (binL .shl .u64 (IntKind.u64.wrap (bs.getD 23 0)) 16)) (binL .shl .u64 (IntKind.u64.wrap (bs.getD 24 0)) 24)) (binL .shl .u64 (IntKind.u64.wrap (bs.getD 25 0)) 32)) (binL .shl .u64 (IntKind.u64.wrap (bs.getD 26 0)) 40)) (binL .shl .u64 (IntKind.u64.wrap (bs.getD 27 0)) 48)),(binL .or .u64 (binL .or .u64 (binL .or .u64 (binL .or .u64 (binL .or .u64 (binL .or .u64 (binL .or .u64 0 (binL .shl .u64 (IntKind.u64.wrap (bs.getD 28 0)) 0)) (binL .shl .u64 (IntKind.u64.wrap (bs.getD 29 0)) 8)) (binL .shl .u64 (IntKind.u64.wrap (bs.getD 30 0)) 16)) (binL .shl .u64 (IntKind.u64.wrap (bs.getD 31 0)) 24)) (binL .shl .u64 (IntKind.u64.wrap (bs.getD 32 0)) 32)) (binL .shl .u64 (IntKind.u64.wrap (bs.getD 33 0)) 40)) (binL .shl .u64 (IntKind.u64.wrap (bs.getD 34 0)) 48)),(binL .or .u64 (binL .or .u64 (binL .or .u64 (binL .or .u64 (binL .or .u64 (binL .or .u64 (binL .or .u64 0 (binL .shl .u64 (IntKind.u64.wrap (bs.getD 35 0)) 0)) (binL .shl .u64 (IntKind.u64.wrap (bs.getD 36 0)) 8)) (binL .shl .u64 (IntKind.u64.wrap (bs.getD 37 0)) 16)) (binL .shl .u64 (IntKind.u64.wrap (bs.getD 38 0)) 24)) (binL .shl .u64 (IntKind.u64.wrap (bs.getD 39 0)) 32)) (binL .shl .u64 (IntKind.u64.wrap (bs.getD 40 0)) 40)) (binL .shl .u64 (IntKind.u64.wrap (bs.getD 41 0)) 48)),(binL .or .u64 (binL .or .u64 (binL .or .u64 (binL .or .u64 (binL .or .u64 (binL .or .u64 (binL .or .u64 0 (binL .shl .u64 (IntKind.u64.wrap (bs.getD 42 0)) 0)) (binL .shl .u64 (IntKind.u64.wrap (bs.getD 43 0)) 8)) (binL .shl .u64 (IntKind.u64.wrap (bs.getD 44 0)) 16)) (binL .shl .u64 (IntKind.u64.wrap (bs.getD 45 0)) 24)) (binL .shl .u64 (IntKind.u64.wrap (bs.getD 46 0)) 32)) (binL .shl .u64 (IntKind.u64.wrap (bs.getD 47 0)) 40)) (binL .shl .u64 (IntKind.u64.wrap (bs.getD 48 0)) 48)),(binL .or .u64 (binL .or .u64 (binL .or .u64 (binL .or .u64 (binL .or .u64 (binL .or .u64 (binL .or .u64 0 (binL .shl .u64 (IntKind.u64.wrap (bs.getD 49 0)) 0)) (binL .shl .u64 (IntKind.u64.wrap (bs.getD 50 0)) 8)) (binL .shl .u64 (IntKind.u64.wrap (bs.getD 51 0)) 16)) (binL .shl .u64 (IntKind.u64.wrap (bs.getD 52 0)) 24)) (binL .shl .u64 (IntKind.u64.wrap (bs.getD 53 0)) 32)) (binL .shl .u64 (IntKind.u64.wrap (bs.getD 54 0)) 40)) (binL .shl .u64 (IntKind.u64.wrap (bs.getD 55 0)) 48))]:=by
 obtain⟨b0,l0,rfl,k0⟩:=qw hl
 obtain⟨b1,l1,rfl,k1⟩:=qw k0
 obtain⟨b2,l2,rfl,k2⟩:=qw k1
 obtain⟨b3,l3,rfl,k3⟩:=qw k2
 obtain⟨b4,l4,rfl,k4⟩:=qw k3
 obtain⟨b5,l5,rfl,k5⟩:=qw k4
 obtain⟨b6,l6,rfl,k6⟩:=qw k5
 obtain⟨b7,l7,rfl,k7⟩:=qw k6
 obtain⟨b8,l8,rfl,k8⟩:=qw k7
 obtain⟨b9,l9,rfl,k9⟩:=qw k8
 obtain⟨b10,l10,rfl,k10⟩:=qw k9
 obtain⟨b11,l11,rfl,k11⟩:=qw k10
 obtain⟨b12,l12,rfl,k12⟩:=qw k11
 obtain⟨b13,l13,rfl,k13⟩:=qw k12
 obtain⟨b14,l14,rfl,k14⟩:=qw k13
 obtain⟨b15,l15,rfl,k15⟩:=qw k14
 obtain⟨b16,l16,rfl,k16⟩:=qw k15
 obtain⟨b17,l17,rfl,k17⟩:=qw k16
 obtain⟨b18,l18,rfl,k18⟩:=qw k17
 obtain⟨b19,l19,rfl,k19⟩:=qw k18
 obtain⟨b20,l20,rfl,k20⟩:=qw k19
 obtain⟨b21,l21,rfl,k21⟩:=qw k20
 obtain⟨b22,l22,rfl,k22⟩:=qw k21
 obtain⟨b23,l23,rfl,k23⟩:=qw k22
 obtain⟨b24,l24,rfl,k24⟩:=qw k23
 obtain⟨b25,l25,rfl,k25⟩:=qw k24
 obtain⟨b26,l26,rfl,k26⟩:=qw k25
 obtain⟨b27,l27,rfl,k27⟩:=qw k26
 obtain⟨b28,l28,rfl,k28⟩:=qw k27
 obtain⟨b29,l29,rfl,k29⟩:=qw k28
 obtain⟨b30,l30,rfl,k30⟩:=qw k29
 obtain⟨b31,l31,rfl,k31⟩:=qw k30
 obtain⟨b32,l32,rfl,k32⟩:=qw k31
 obtain⟨b33,l33,rfl,k33⟩:=qw k32
 obtain⟨b34,l34,rfl,k34⟩:=qw k33
 obtain⟨b35,l35,rfl,k35⟩:=qw k34
 obtain⟨b36,l36,rfl,k36⟩:=qw k35
 obtain⟨b37,l37,rfl,k37⟩:=qw k36
 obtain⟨b38,l38,rfl,k38⟩:=qw k37
 obtain⟨b39,l39,rfl,k39⟩:=qw k38
 obtain⟨b40,l40,rfl,k40⟩:=qw k39
 obtain⟨b41,l41,rfl,k41⟩:=qw k40
 obtain⟨b42,l42,rfl,k42⟩:=qw k41
 obtain⟨b43,l43,rfl,k43⟩:=qw k42
 obtain⟨b44,l44,rfl,k44⟩:=qw k43
 obtain⟨b45,l45,rfl,k45⟩:=qw k44
 obtain⟨b46,l46,rfl,k46⟩:=qw k45
 obtain⟨b47,l47,rfl,k47⟩:=qw k46
 obtain⟨b48,l48,rfl,k48⟩:=qw k47
 obtain⟨b49,l49,rfl,k49⟩:=qw k48
 obtain⟨b50,l50,rfl,k50⟩:=qw k49
 obtain⟨b51,l51,rfl,k51⟩:=qw k50
 obtain⟨b52,l52,rfl,k52⟩:=qw k51
 obtain⟨b53,l53,rfl,k53⟩:=qw k52
 obtain⟨b54,l54,rfl,k54⟩:=qw k53
 obtain⟨b55,l55,rfl,k55⟩:=qw k54
 obtain rfl:l55=[]:=List.length_eq_zero_iff.1 k55
 have h : ∀ i,(hi:i<56)->0<=[b0,b1,b2,b3,b4,b5,b6,b7,b8,b9,b10,b11,b12,b13,b14,b15,b16,b17,b18,b19,b20,b21,b22,b23,b24,b25,b26,b27,b28,b29,b30,b31,b32,b33,b34,b35,b36,b37,b38,b39,b40,b41,b42,b43,b44,b45,b46,b47,b48,b49,b50,b51,b52,b53,b54,b55].getD i 0/\[b0,b1,b2,b3,b4,b5,b6,b7,b8,b9,b10,b11,b12,b13,b14,b15,b16,b17,b18,b19,b20,b21,b22,b23,b24,b25,b26,b27,b28,b29,b30,b31,b32,b33,b34,b35,b36,b37,b38,b39,b40,b41,b42,b43,b44,b45,b46,b47,b48,b49,b50,b51,b52,b53,b54,b55].getD i 0<256:=fun i hi=>by
  have e:[b0,b1,b2,b3,b4,b5,b6,b7,b8,b9,b10,b11,b12,b13,b14,b15,b16,b17,b18,b19,b20,b21,b22,b23,b24,b25,b26,b27,b28,b29,b30,b31,b32,b33,b34,b35,b36,b37,b38,b39,b40,b41,b42,b43,b44,b45,b46,b47,b48,b49,b50,b51,b52,b53,b54,b55].getD i 0=[b0,b1,b2,b3,b4,b5,b6,b7,b8,b9,b10,b11,b12,b13,b14,b15,b16,b17,b18,b19,b20,b21,b22,b23,b24,b25,b26,b27,b28,b29,b30,b31,b32,b33,b34,b35,b36,b37,b38,b39,b40,b41,b42,b43,b44,b45,b46,b47,b48,b49,b50,b51,b52,b53,b54,b55][i]'hi:=by simp[List.getD,hi]
  rw[e];exact hb _ (List.getElem_mem hi)
 have q0:=qbQ b0 b1 b2 b3 b4 b5 b6 (h 0 (by decide)) (h 1 (by decide)) (h 2 (by decide)) (h 3 (by decide)) (h 4 (by decide)) (h 5 (by decide)) (h 6 (by decide))
 have q1:=qbQ b7 b8 b9 b10 b11 b12 b13 (h 7 (by decide)) (h 8 (by decide)) (h 9 (by decide)) (h 10 (by decide)) (h 11 (by decide)) (h 12 (by decide)) (h 13 (by decide))
 have q2:=qbQ b14 b15 b16 b17 b18 b19 b20 (h 14 (by decide)) (h 15 (by decide)) (h 16 (by decide)) (h 17 (by decide)) (h 18 (by decide)) (h 19 (by decide)) (h 20 (by decide))
 have q3:=qbQ b21 b22 b23 b24 b25 b26 b27 (h 21 (by decide)) (h 22 (by decide)) (h 23 (by decide)) (h 24 (by decide)) (h 25 (by decide)) (h 26 (by decide)) (h 27 (by decide))
 have q4:=qbQ b28 b29 b30 b31 b32 b33 b34 (h 28 (by decide)) (h 29 (by decide)) (h 30 (by decide)) (h 31 (by decide)) (h 32 (by decide)) (h 33 (by decide)) (h 34 (by decide))
 have q5:=qbQ b35 b36 b37 b38 b39 b40 b41 (h 35 (by decide)) (h 36 (by decide)) (h 37 (by decide)) (h 38 (by decide)) (h 39 (by decide)) (h 40 (by decide)) (h 41 (by decide))
 have q6:=qbQ b42 b43 b44 b45 b46 b47 b48 (h 42 (by decide)) (h 43 (by decide)) (h 44 (by decide)) (h 45 (by decide)) (h 46 (by decide)) (h 47 (by decide)) (h 48 (by decide))
 have q7:=qbQ b49 b50 b51 b52 b53 b54 b55 (h 49 (by decide)) (h 50 (by decide)) (h 51 (by decide)) (h 52 (by decide)) (h 53 (by decide)) (h 54 (by decide)) (h 55 (by decide))
 have r:(0<=b0/\b0<256)/\(0<=b1/\b1<256)/\(0<=b2/\b2<256)/\(0<=b3/\b3<256)/\(0<=b4/\b4<256)/\(0<=b5/\b5<256)/\(0<=b6/\b6<256)/\(0<=b7/\b7<256)/\(0<=b8/\b8<256)/\(0<=b9/\b9<256)/\(0<=b10/\b10<256)/\(0<=b11/\b11<256)/\(0<=b12/\b12<256)/\(0<=b13/\b13<256)/\(0<=b14/\b14<256)/\(0<=b15/\b15<256)/\(0<=b16/\b16<256)/\(0<=b17/\b17<256)/\(0<=b18/\b18<256)/\(0<=b19/\b19<256)/\(0<=b20/\b20<256)/\(0<=b21/\b21<256)/\(0<=b22/\b22<256)/\(0<=b23/\b23<256)/\(0<=b24/\b24<256)/\(0<=b25/\b25<256)/\(0<=b26/\b26<256)/\(0<=b27/\b27<256)/\(0<=b28/\b28<256)/\(0<=b29/\b29<256)/\(0<=b30/\b30<256)/\(0<=b31/\b31<256)/\(0<=b32/\b32<256)/\(0<=b33/\b33<256)/\(0<=b34/\b34<256)/\(0<=b35/\b35<256)/\(0<=b36/\b36<256)/\(0<=b37/\b37<256)/\(0<=b38/\b38<256)/\(0<=b39/\b39<256)/\(0<=b40/\b40<256)/\(0<=b41/\b41<256)/\(0<=b42/\b42<256)/\(0<=b43/\b43<256)/\(0<=b44/\b44<256)/\(0<=b45/\b45<256)/\(0<=b46/\b46<256)/\(0<=b47/\b47<256)/\(0<=b48/\b48<256)/\(0<=b49/\b49<256)/\(0<=b50/\b50<256)/\(0<=b51/\b51<256)/\(0<=b52/\b52<256)/\(0<=b53/\b53<256)/\(0<=b54/\b54<256)/\(0<=b55/\b55<256):=⟨h 0 (by decide),h 1 (by decide),h 2 (by decide),h 3 (by decide),h 4 (by decide),h 5 (by decide),h 6 (by decide),h 7 (by decide),h 8 (by decide),h 9 (by decide),h 10 (by decide),h 11 (by decide),h 12 (by decide),h 13 (by decide),h 14 (by decide),h 15 (by decide),h 16 (by decide),h 17 (by decide),h 18 (by decide),h 19 (by decide),h 20 (by decide),h 21 (by decide),h 22 (by decide),h 23 (by decide),h 24 (by decide),h 25 (by decide),h 26 (by decide),h 27 (by decide),h 28 (by decide),h 29 (by decide),h 30 (by decide),h 31 (by decide),h 32 (by decide),h 33 (by decide),h 34 (by decide),h 35 (by decide),h 36 (by decide),h 37 (by decide),h 38 (by decide),h 39 (by decide),h 40 (by decide),h 41 (by decide),h 42 (by decide),h 43 (by decide),h 44 (by decide),h 45 (by decide),h 46 (by decide),h 47 (by decide),h 48 (by decide),h 49 (by decide),h 50 (by decide),h 51 (by decide),h 52 (by decide),h 53 (by decide),h 54 (by decide),h 55 (by decide)⟩
 obtain⟨r0,r1,r2,r3,r4,r5,r6,r7,r8,r9,r10,r11,r12,r13,r14,r15,r16,r17,r18,r19,r20,r21,r22,r23,r24,r25,r26,r27,r28,r29,r30,r31,r32,r33,r34,r35,r36,r37,r38,r39,r40,r41,r42,r43,r44,r45,r46,r47,r48,r49,r50,r51,r52,r53,r54,r55⟩:=r
 simp only[List.getD,List.getElem?_cons_succ,List.getElem?_cons_zero,Option.getD_some]
 rw[q0,q1,q2,q3,q4,q5,q6,q7]
 clear h hb q0 q1 q2 q3 q4 q5 q6 q7
 refine⟨rfl,all8.2 ⟨by omega,by omega,by omega,by omega,by omega,by omega,by omega,by omega⟩,?_⟩
 congr 1
 simp only[qK,valB]
 omega
def qdS (a:List Int) (j:Nat):Int:=a.getD (j / 7) 0 / ((2^(8*(j % 7)):Nat):Int) % 256
def rawN (a:List Int):Nat->List Int
 | 0=>[]
 | n+1=>rawN a n++[qdS a n]
@[irreducible] def rawL (a:List Int):List Int:=rawN a 56
theorem qfq (a:List Int) : ∀ n,(rawN a n).length=n
 | 0=>rfl
 | n+1=>by simp[rawN,qfq a n]
def primeL:List Int:=[72057594037927935,72057594037927935,72057594037927935,72057594037927935,72057594037927934,72057594037927935,72057594037927935,72057594037927935]
def bor (a q:Int):Int:=if a<q+0 then 1 else 0
def qaV (a:List Int):Nat->Int × List Int
 | 0=>(0,a)
 | i+1 =>
   let s:=qaV a i
   let q:=binL .add .u64 (primeL.getD i 0) s.1
   (bor (a.getD i 0) q,s.2.set i (binL .and .u64 ((a.getD i 0-q-0) % 18446744073709551616) 72057594037927935))
def qh7 (b:List Int):List Int:=if IntKind.i64.wrap (binL .sub .u64 1 (qaV b 8).1) % 2=0 then b else (qaV b 8).2
def qbn (x:Fp):List Int:=[((x.val % 72057594037927936:Nat):Int),((x.val / 72057594037927936 % 72057594037927936:Nat):Int),((x.val / 5192296858534827628530496329220096 % 72057594037927936:Nat):Int),((x.val / 374144419156711147060143317175368453031918731001856 % 72057594037927936:Nat):Int),
 ((x.val / 26959946667150639794667015087019630673637144422540572481103610249216 % 72057594037927936:Nat):Int),((x.val / 1942668892225729070919461906823518906642406839052139521251812409738904285205208498176 % 72057594037927936:Nat):Int),((x.val / 139984046386112763159840142535527767382602843577165595931249318810236991948760059086304843329475444736 % 72057594037927936:Nat):Int),((x.val / 10086913586276986678343434265636765134100413253239154346994763111486904773503285916522052161250538404046496765518544896 % 72057594037927936:Nat):Int)]
theorem qh8 (a:List Int):(qW a).length=a.length:=by
 unfold qW qfp qfo qaU
 simp only[List.length_set]
def wv (w:List Int):Int:=w.getD 0 0*18446744073709551616+w.getD 1 0
def wOf (n:Int):List Int:=[n / 18446744073709551616 % 18446744073709551616,n % 18446744073709551616]
def qJ (v w:List Int):List Int:=wOf (wv v+wv w)
def qbd (w:List Int) (x y:Int):List Int:=wOf (wv w+x*y)
def qaL (w:List Int):List Int:=wOf (wv w / 72057594037927936)
def WN (w:List Int):Prop :=∃ h l,w=[h,l]/\0<=h/\h<18446744073709551616/\0<=l/\l<18446744073709551616
theorem qh9 (n:Int):WN (wOf n):=⟨_,_,rfl,by omega,by omega,by omega,by omega⟩
theorem qck (v w:List Int):WN (qJ v w):=by unfold qJ;exact qh9 _
theorem qlF (w:List Int) (x y:Int):WN (qbd w x y):=by unfold qbd;exact qh9 _
theorem qlG (w:List Int):WN (qaL w):=by unfold qaL;exact qh9 _
theorem qlH:WN [0,0]:=⟨0,0,rfl,by decide,by decide,by decide,by decide⟩
theorem qfr {n:Int} (h0:0<=n) (h:n<340282366920938463463374607431768211456):wv (wOf n)=n:=by
 simp only[wv,wOf,List.getD,List.getElem?_cons_succ,List.getElem?_cons_zero,Option.getD_some];omega
theorem qcO {w:List Int} (h:WN w):0<=wv w/\wv w<340282366920938463463374607431768211456:=by
 obtain⟨a,b,rfl,h1,h2,h3,h4⟩:=h
 simp only[wv,List.getD,List.getElem?_cons_succ,List.getElem?_cons_zero,Option.getD_some];omega
theorem qlI:wv [0,0]=0:=by decide
end Go.Sx
end
section
namespace Go.Sx
theorem stp1 {a o r o':Int} (h:a+o=r+72057594037927936*o') (ha:a<72057594037928192) (ho:o<=64) (hr:0<=r):o'<=1:=by omega
theorem stp0 {a o r o':Int} (h:a+o=r+72057594037927936*o') (ha:a+o<72057594037927936) (hr:0<=r) (ho:0<=o'):o'=0:=by omega
theorem stpz {a r o':Int} (h:a=r+72057594037927936*o') (ha:a<72057594037927936) (hr:0<=r) (ho:0<=o'):o'=0:=by omega
theorem up62 {a:Int} (h:0<=a/\a<72057594037928192):0<=a/\a<4611686018427387904:=by omega
theorem qlP {a o:Int} (h:0<=a/\a<72057594037927936) (ho:0<=o/\o<=64):0<=a+o/\a+o<4611686018427387904:=by omega
theorem qcQ {a:Int} (h:0<=a/\a<72057594037927936):0<=a/\a<4611686018427387904:=by omega
theorem zo {o:Int} (h:0<=o) (h1:o<=1):o=0\/o=1:=by omega
theorem bigo {a o r o' n:Int} (h:a+o=r+72057594037927936*o') (h1:o'=1) (ha:a<72057594037928192) (ho:o<=64) (hn:n<=64):r+n<72057594037927936:=by omega
theorem qif {x:Fp} {a:List Int} (h:okFe x a) : ∃ c0 c1 c2 c3 c4 c5 c6 c7:Int,qW (qW a)=[c0,c1,c2,c3,c4,c5,c6,c7]/\(∀ c ∈ [c0,c1,c2,c3,c4,c5,c6,c7],0<=c/\c<72057594037927936)/\fI (valB 72057594037927936 [c0,c1,c2,c3,c4,c5,c6,c7])=x:=by
 have hv:=h.2.2
 obtain⟨a0,a1,a2,a3,a4,a5,a6,a7,rfl,p0,p1,p2,p3,p4,p5,p6,p7,_⟩:=qci h
 have hb:=(all8 (P:=fun a=>0<=a/\a<4611686018427387904)).2 ⟨up62 p0,up62 p1,up62 p2,up62 p3,up62 p4,up62 p5,up62 p6,up62 p7⟩
 obtain⟨o1,o2,o3,o4,o5,o6,o7,o8,r0,r1,r2,r3,r4,r5,r6,r7,e,g0,g1,g2,g3,g4,g5,g6,g7,ho,hr⟩:=qh2 hb
 have f1:=qh3 rfl hb
 rw[all8]at ho hr
 obtain⟨s1,s2,s3,s4,s5,s6,s7,s8⟩:=ho
 obtain⟨q0,q1,q2,q3,q4,q5,q6,q7⟩:=hr
 have ho8:o8<=1:=stp1 g7 p7.2 s7.2 q7.1
 rw[e]at f1 ⊢
 have hb':=(all8 (P:=fun a=>0<=a/\a<4611686018427387904)).2 ⟨qlP q0 s8,qcQ q1,qcQ q2,qcQ q3,qlP q4 s8,qcQ q5,qcQ q6,qcQ q7⟩
 obtain⟨n1,n2,n3,n4,n5,n6,n7,n8,t0,t1,t2,t3,t4,t5,t6,t7,e',k0,k1,k2,k3,k4,k5,k6,k7,ho',hr'⟩:=qh2 hb'
 have f2:=qh3 rfl hb'
 rw[all8]at ho' hr'
 obtain⟨s1',s2',s3',s4',s5',s6',s7',s8'⟩:=ho'
 obtain⟨q0',q1',q2',q3',q4',q5',q6',q7'⟩:=hr'
 have hn8:n8=0:=by
  have hc:o8=0\/o8=1:=zo s8.1 ho8
  rcases hc with h0|h1
  ·rw[h0,Int.add_zero]at k0 k4
   have m1:=stpz k0 q0.2 q0'.1 s1'.1
   rw[m1]at k1
   have m2:=stp0 k1 (by rw[Int.add_zero];exact q1.2) q1'.1 s2'.1
   rw[m2]at k2
   have m3:=stp0 k2 (by rw[Int.add_zero];exact q2.2) q2'.1 s3'.1
   rw[m3]at k3
   have m4:=stp0 k3 (by rw[Int.add_zero];exact q3.2) q3'.1 s4'.1
   rw[m4]at k4
   have m5:=stp0 k4 (by rw[Int.add_zero];exact q4.2) q4'.1 s5'.1
   rw[m5]at k5
   have m6:=stp0 k5 (by rw[Int.add_zero];exact q5.2) q5'.1 s6'.1
   rw[m6]at k6
   have m7:=stp0 k6 (by rw[Int.add_zero];exact q6.2) q6'.1 s7'.1
   rw[m7]at k7
   exact stp0 k7 (by rw[Int.add_zero];exact q7.2) q7'.1 s8'.1
  ·exact stp0 k7 (bigo g7 h1 p7.2 s7.2 s7'.2) q7'.1 s8'.1
 rw[e',hn8]at f2 ⊢
 rw[Int.add_zero,Int.add_zero]at f2 ⊢
 exact⟨_,_,_,_,_,_,_,_,rfl,all8.2 ⟨q0',q1',q2',q3',q4',q5',q6',q7'⟩,by rw[f2.2.2,f1.2.2,hv]⟩
theorem qql {x:Fp} {a:List Int} (h:okFe x a) : ∀ i,i<8->0<=(qW (qW a)).getD i 0/\(qW (qW a)).getD i 0<72057594037927936:=by
 obtain⟨c0,c1,c2,c3,c4,c5,c6,c7,e,hc,hv⟩:=qif h
 rw[e]
 intro i hi
 have e:[c0,c1,c2,c3,c4,c5,c6,c7].getD i 0=[c0,c1,c2,c3,c4,c5,c6,c7][i]'hi:=by simp[List.getD,hi]
 rw[e];exact hc _ (List.getElem_mem hi)
theorem qqm {x:Fp} {a:List Int} (h:okFe x a):U64 (qW (qW a)):=by
 obtain⟨c0,c1,c2,c3,c4,c5,c6,c7,e,hc,hv⟩:=qif h
 rw[e]
 exact⟨rfl,fun x hx=>by have:=hc x hx;omega⟩
theorem qlQ {x:Fp} {c0 c1 c2 c3 c4 c5 c6 c7:Int} (h0:0<=c0/\c0<72057594037927936) (h1:0<=c1/\c1<72057594037927936) (h2:0<=c2/\c2<72057594037927936) (h3:0<=c3/\c3<72057594037927936) (h4:0<=c4/\c4<72057594037927936) (h5:0<=c5/\c5<72057594037927936) (h6:0<=c6/\c6<72057594037927936) (h7:0<=c7/\c7<72057594037927936)
  (hv:valB 72057594037927936 [c0,c1,c2,c3,c4,c5,c6,c7]=x.val):[c0,c1,c2,c3,c4,c5,c6,c7]=qbn x:=by
 have step : ∀ (n:Nat) (c m:Int),0<=c/\c<72057594037927936->c+72057594037927936*m=(n:Int)->c=((n % 72057594037927936:Nat):Int)/\m=((n / 72057594037927936:Nat):Int):=fun n c m hc h=>by omega
 rw[val8]at hv
 obtain⟨e0,v0⟩:=step _ _ _ h0 hv
 obtain⟨e1,v1⟩:=step _ _ _ h1 v0
 obtain⟨e2,v2⟩:=step _ _ _ h2 v1
 obtain⟨e3,v3⟩:=step _ _ _ h3 v2
 obtain⟨e4,v4⟩:=step _ _ _ h4 v3
 obtain⟨e5,v5⟩:=step _ _ _ h5 v4
 obtain⟨e6,v6⟩:=step _ _ _ h6 v5
 obtain⟨e7,v7⟩:=step _ _ _ h7 v6
 simp only[Nat.div_div_eq_div_mul]at e1 e2 e3 e4 e5 e6 e7
 unfold qbn
 simp only[List.cons.injEq,and_true]
 exact⟨e0,e1,e2,e3,e4,e5,e6,e7⟩
theorem qlR {c0 c1 c2 c3 c4 c5 c6 c7:Int} (h0:0<=c0/\c0<72057594037927936) (h1:0<=c1/\c1<72057594037927936) (h2:0<=c2/\c2<72057594037927936) (h3:0<=c3/\c3<72057594037927936) (h4:0<=c4/\c4<72057594037927936) (h5:0<=c5/\c5<72057594037927936) (h6:0<=c6/\c6<72057594037927936) (h7:0<=c7/\c7<72057594037927936) :
  0<=valB 72057594037927936 [c0,c1,c2,c3,c4,c5,c6,c7]/\valB 72057594037927936 [c0,c1,c2,c3,c4,c5,c6,c7]<726838724295606890549323807888004534353641360687318060281490199180639288113397923326191050713763565560762521606266177933534601628614656:=by
 rw[val8];constructor<;>omega
theorem qlS {v:Int} {x:Fp} (h0:0<=v) (h:v<726838724295606890549323807888004534353641360687318060281490199180612328166730772686396383698676545930088884461843637361053498018365439) (hx:fI v=x):v=x.val:=by
 have e:=qbc v
 rw[hx,show v % (pN:Int)=v from Int.emod_eq_of_lt h0 h]at e
 exact e.symm
theorem qlT {A:List Int} (h:U64 A) : ∀ i,U64 (qaV A i).2
 | 0=>h
 | i+1=>by
   obtain⟨h1,h2⟩:=qlT h i
   refine⟨by simp only[qaV,List.length_set];exact h1,fun x hx => ?_⟩
   simp only[qaV]at hx
   rcases List.mem_or_eq_of_mem_set hx with h3|h3
   · exact h2 x h3
   · rw[qch]at h3;omega
theorem qbS (a q:Int) (s:Int) (ha:0<=a/\a<72057594037927936) (hq:0<=q/\q<72057594037927936) (hs:s=0\/s=1) :
  ∃ r s':Int,bor a (binL .add .u64 q s)=s'/\binL .and .u64 ((a-binL .add .u64 q s-0) % 18446744073709551616) 72057594037927935=r/\a-q-s=r-72057594037927936*s'/\(0<=r/\r<72057594037927936)/\(s'=0\/s'=1):=by
 refine⟨_,_,rfl,rfl,?_⟩
 unfold bor
 rw[ua,qch]
 have e:(q+s) % 18446744073709551616=q+s:=by omega
 rw[e]
 split
 ·refine⟨by omega,by omega,.inr rfl⟩
 ·refine⟨by omega,by omega,.inl rfl⟩
theorem qqn {x:Fp} {a:List Int} (h:okFe x a):qh7 (qW (qW a))=qbn x:=by
 obtain⟨c0,c1,c2,c3,c4,c5,c6,c7,e,hc,hv⟩:=qif h
 rw[e]
 rw[all8]at hc
 obtain⟨h0,h1,h2,h3,h4,h5,h6,h7⟩:=hc
 obtain⟨r0,s1,w1,v1,z1,b1,y1⟩:=qbS c0 72057594037927935 0 h0 (by decide) (.inl rfl)
 obtain⟨r1,s2,w2,v2,z2,b2,y2⟩:=qbS c1 72057594037927935 s1 h1 (by decide) y1
 obtain⟨r2,s3,w3,v3,z3,b3,y3⟩:=qbS c2 72057594037927935 s2 h2 (by decide) y2
 obtain⟨r3,s4,w4,v4,z4,b4,y4⟩:=qbS c3 72057594037927935 s3 h3 (by decide) y3
 obtain⟨r4,s5,w5,v5,z5,b5,y5⟩:=qbS c4 72057594037927934 s4 h4 (by decide) y4
 obtain⟨r5,s6,w6,v6,z6,b6,y6⟩:=qbS c5 72057594037927935 s5 h5 (by decide) y5
 obtain⟨r6,s7,w7,v7,z7,b7,y7⟩:=qbS c6 72057594037927935 s6 h6 (by decide) y6
 obtain⟨r7,s8,w8,v8,z8,b8,y8⟩:=qbS c7 72057594037927935 s7 h7 (by decide) y7
 have hs:qaV [c0,c1,c2,c3,c4,c5,c6,c7] 8=(s8,[r0,r1,r2,r3,r4,r5,r6,r7]):=by
  simp only[qaV,primeL,List.set,List.getD,List.getElem?_cons_succ,List.getElem?_cons_zero,Option.getD_some,w1,v1,w2,v2,w3,v3,w4,v4,w5,v5,w6,v6,w7,v7,w8,v8]
 unfold qh7
 rw[hs]
 have hx:=x.isLt
 have key:valB 72057594037927936 [c0,c1,c2,c3,c4,c5,c6,c7]=valB 72057594037927936 [r0,r1,r2,r3,r4,r5,r6,r7]+726838724295606890549323807888004534353641360687318060281490199180612328166730772686396383698676545930088884461843637361053498018365439-726838724295606890549323807888004534353641360687318060281490199180639288113397923326191050713763565560762521606266177933534601628614656*s8:=by
  clear w1 w2 w3 w4 w5 w6 w7 w8 v1 v2 v3 v4 v5 v6 v7 v8 h0 h1 h2 h3 h4 h5 h6 h7 b1 b2 b3 b4 b5 b6 b7 b8 y1 y2 y3 y4 y5 y6 y7 y8
  rw[val8,val8];omega
 have hr:=qlR b1 b2 b3 b4 b5 b6 b7 b8
 have hcr:=qlR h0 h1 h2 h3 h4 h5 h6 h7
 rcases y8 with q|q
 ·subst q
  rw[if_neg (show ¬ IntKind.i64.wrap (binL .sub .u64 1 0) % 2=0 by decide)]
  refine qlQ b1 b2 b3 b4 b5 b6 b7 b8 (qlS (by omega) (by omega) ?_)
  have e2:=fI_p 1
  rw[<- hv,key,Int.mul_zero,Int.sub_zero,qaD]
  rw[Int.one_mul]at e2
  rw[e2];grind -lia -linarith -order -ac (splits:=0)
 ·subst q
  rw[if_pos (show IntKind.i64.wrap (binL .sub .u64 1 1) % 2=0 by decide)]
  exact qlQ h0 h1 h2 h3 h4 h5 h6 h7 (qlS hcr.1 (by omega) hv)
theorem qlU {m:Int} (h0:0<=m) (h1:m<=9223372036854775808):okFe (fI m) [m % 72057594037927936,m / 72057594037927936,0,0,0,0,0,0]:=by
 refine⟨rfl,all8.2 ⟨by omega,by omega,by decide,by decide,by decide,by decide,by decide,by decide⟩,?_⟩
 rw[val8]
 congr 1
 omega
theorem qqo {n:Int} (h0:0<=n) (h1:n<9223372036854775808):okFe (fI n) (([0,0,0,0,0,0,0,0].set 0 (binL .and .u64 (IntKind.u64.wrap n) 72057594037927935)).set 1 (binL .shr .u64 (IntKind.u64.wrap n) 56)):=by
 have e:IntKind.u64.wrap n=n:=by rw[IntKind.wrap_u64];omega
 rw[e,qch,qdO]
 exact qlU h0 (by omega)
theorem qqp {n:Int} (h0 : -9223372036854775808<=n) (h1:n<0):okFe (fI (-n)) (([0,0,0,0,0,0,0,0].set 0 (binL .and .u64 (IntKind.u64.wrap (unL .neg .i64 n)) 72057594037927935)).set 1 (binL .shr .u64 (IntKind.u64.wrap (unL .neg .i64 n)) 56)):=by
 have e:IntKind.u64.wrap (unL .neg .i64 n) = -n:=by
  show IntKind.u64.wrap (IntKind.i64.wrap (0-n))=_
  rw[IntKind.wrap_u64,IntKind.wrap_i64];omega
 rw[e,qch,qdO]
 exact qlU (by omega) (by omega)
theorem qqq (x:Fp) : ∀ i,i<8->(qbn x).getD i 0=((x.val / 72057594037927936^i % 72057594037927936:Nat):Int)
 | 0,_=>by show((x.val % 72057594037927936:Nat):Int)=((x.val / 1 % 72057594037927936:Nat):Int);rw[Nat.div_one]
 | 1,_=>rfl
 | 2,_=>rfl
 | 3,_=>rfl
 | 4,_=>rfl
 | 5,_=>rfl
 | 6,_=>rfl
 | 7,_=>rfl
theorem qqr (v i k:Nat) (hk:k<7):v / 72057594037927936^i % 72057594037927936 / 2^(8*k) % 256=v / 256^(7*i+k) % 256:=by
 have e1:72057594037927936^i=256^(7*i):=by rw[Nat.pow_mul]
 have e2:2^(8*k)=256^k:=by rw[Nat.pow_mul]
 have e3:72057594037927936=256^k*256^(7-k):=by rw[<- Nat.pow_add,show k+(7-k)=7 by omega]
 rw[e1,e2,Nat.pow_add,<- Nat.div_div_eq_div_mul]
 generalize v / 256^(7*i)=m
 rw[e3,Nat.mod_mul_right_div_self,Nat.mod_mod_of_dvd]
 exact⟨256^(7-k-1),by rw[<- Nat.pow_succ'];congr 1;omega⟩
theorem qqs (x:Fp) {j:Nat} (hj:j<56):qdS (qbn x) j=((x.val / 256^j % 256:Nat):Int):=by
 unfold qdS
 rw[qqq x (j / 7) (by omega)]
 have h:=qqr x.val (j / 7) (j % 7) (Nat.mod_lt _ (by decide))
 rw[show 7*(j / 7)+j % 7=j by omega]at h
 rw[<- h]
 simp only[Int.natCast_emod,Int.natCast_ediv]
 rfl
theorem qlV (x:Fp) : ∀ n,n<=56->rawN (qbn x) n=(List.range n).map fun j=>((x.val / 256^j % 256:Nat):Int)
 | 0,_=>rfl
 | n+1,h=>by rw[rawN,qlV x n (by omega),qqs x (by omega),List.range_succ,List.map_append];rfl
theorem qqt (x:Fp):rawL (qbn x)=qap x:=by
 unfold rawL qap
 exact qlV x 56 (by decide)
end Go.Sx
end
section
namespace Go.Sx
def cell (all:List Int) (j:Nat):List Int:=(all.drop (j*2)).take 2
def putc (all:List Int) (j:Nat) (w:List Int):List Int:=all.take (j*2)++w++all.drop (j*2+w.length)
def tval (all:List Int):Nat->Int
 | 0=>0
 | n+1=>tval all n+wv (cell all n)*72057594037927936^n
def psum (xs:List Int):Nat->Int
 | 0=>0
 | n+1=>psum xs n+xs.getD n 0*72057594037927936^n
section
variable {all w:List Int} {j:Nat} (hl:all.length=30) (hw:w.length=2) (hj:j<15)
include hl hw hj
theorem qqv:(putc all j w).length=30:=by
 simp only[putc,List.length_append,List.length_take,List.length_drop];omega
theorem qlW:cell (putc all j w) j=w:=by
 have h1:(all.take (j*2)).length=j*2:=by rw[List.length_take];omega
 unfold cell putc
 rw[List.append_assoc,List.drop_append,h1,Nat.sub_self,List.drop_zero,List.drop_eq_nil_of_le (by omega),List.nil_append,List.take_append,hw,Nat.sub_self,List.take_zero,List.append_nil,List.take_of_length_le (by omega)]
theorem qqw (t:Nat) (h:t<j*2\/j*2+2<=t):(putc all j w)[t]?=all[t]?:=by
 have h1:(all.take (j*2)).length=j*2:=by rw[List.length_take];omega
 unfold putc
 rcases h with h|h
 ·rw[List.append_assoc,List.getElem?_append_left (by omega),List.getElem?_take,if_pos h]
 ·rw[List.getElem?_append_right (by rw[List.length_append];omega),List.length_append,h1,hw,List.getElem?_drop]
  congr 1;omega
theorem qdX {i:Nat} (hi:i<15) (hne:i ≠ j):cell (putc all j w) i=cell all i:=by
 unfold cell
 apply List.ext_getElem?
 intro t
 rw[List.getElem?_take,List.getElem?_take]
 split
 ·rw[List.getElem?_drop,List.getElem?_drop,qqw hl hw hj]
  omega
 ·rfl
theorem qfz : ∀ n,n<=15->tval (putc all j w) n=tval all n+(if j<n then (wv w-wv (cell all j))*72057594037927936^j else 0)
 | 0,_=>by simp[tval]
 | n+1,h=>by
   have ih:=qfz n (by omega)
   simp only[tval]
   by_cases e:n=j
   · subst e
     rw[ih,qlW hl hw hj,if_neg (Nat.lt_irrefl n),if_pos (Nat.lt_succ_self n),Int.sub_mul]
     omega
   · rw[ih,qdX hl hw hj (by omega) e]
     by_cases e2:j<n
     · rw[if_pos e2,if_pos (by omega)];omega
     · rw[if_neg e2,if_neg (by omega)];omega
end
def Cells (all:List Int) (s:Int):Prop:=all.length=30 /\ ∀ j,j<15->WN (cell all j)/\wv (cell all j)<=s*5192296858534864521917661071376384
theorem qcR {w:List Int} (h:WN w):w.length=2:=by obtain⟨a,b,rfl,_⟩:=h;rfl
theorem qdY {all:List Int} {s t:Int} (h:Cells all s) (hs:s<=t):Cells all t :=
 ⟨h.1,fun j hj=>⟨(h.2 j hj).1,Int.le_trans (h.2 j hj).2 (Int.mul_le_mul_of_nonneg_right hs (by decide))⟩⟩
theorem qfA {all w:List Int} {s t:Int} {j:Nat} (h:Cells all s) (hj:j<15) (hw:WN w) (hst:s<=t) (hb:wv w<=t*5192296858534864521917661071376384):Cells (putc all j w) t:=by
 refine⟨qqv h.1 (qcR hw) hj,fun i hi => ?_⟩
 by_cases e:i=j
 ·subst e;rw[qlW h.1 (qcR hw) hj];exact⟨hw,hb⟩
 ·rw[qdX h.1 (qcR hw) hj hi e]
  exact(qdY h hst).2 i hi
theorem qqx:Cells [0,0,0,0,0,0,0,0,0,0,0,0,0,0,0,0,0,0,0,0,0,0,0,0,0,0,0,0,0,0] 0:=by
 refine⟨rfl,fun j hj => ?_⟩
 have:cell [0,0,0,0,0,0,0,0,0,0,0,0,0,0,0,0,0,0,0,0,0,0,0,0,0,0,0,0,0,0] j=[0,0]:=by
  have : ∀ j,j<15->cell [0,0,0,0,0,0,0,0,0,0,0,0,0,0,0,0,0,0,0,0,0,0,0,0,0,0,0,0,0,0] j=[0,0]:=by decide
  exact this j hj
 rw[this]
 exact⟨qlH,by decide⟩
theorem qqy:tval [0,0,0,0,0,0,0,0,0,0,0,0,0,0,0,0,0,0,0,0,0,0,0,0,0,0,0,0,0,0] 15=0:=by decide +kernel
theorem qqz {w:List Int} {x y s:Int} (hw:WN w) (hx:0<=x/\x<72057594037928192) (hy:0<=y/\y<72057594037928192) (hs:wv w<=s*5192296858534864521917661071376384) (h64:s<=64) :
  wv (qbd w x y)=wv w+x*y/\wv (qbd w x y)<=(s+1)*5192296858534864521917661071376384:=by
 have b1:0<=x*y:=Int.mul_nonneg hx.1 hy.1
 have b2:x*y<=72057594037928191*72057594037928191:=Int.mul_le_mul (by omega) (by omega) hy.1 (by decide)
 have r:=qcO hw
 have e:wv (qbd w x y)=wv w+x*y:=by
  unfold qbd
  generalize x*y=m at *
  exact qfr (by omega) (by omega)
 rw[e]
 generalize x*y=m at *
 exact⟨rfl,by omega⟩
theorem qig {v w:List Int} {s:Int} (hv:WN v) (hw:WN w) (h1:wv v<=s*5192296858534864521917661071376384) (h2:wv w<=s*5192296858534864521917661071376384) (hs:s<=4096) :
  wv (qJ v w)=wv v+wv w/\wv (qJ v w)<=(2*s)*5192296858534864521917661071376384:=by
 have r1:=qcO hv
 have r2:=qcO hw
 have e:wv (qJ v w)=wv v+wv w:=by
  unfold qJ
  exact qfr (by omega) (by omega)
 rw[e]
 exact⟨rfl,by omega⟩
theorem qqA {all:List Int} {s x y:Int} {j:Nat} (h:Cells all s) (h64:s<64) (hj:j<15) (hx:0<=x/\x<72057594037928192) (hy:0<=y/\y<72057594037928192) :
  Cells (putc all j (qbd (cell all j) x y)) (s+1)/\tval (putc all j (qbd (cell all j) x y)) 15=tval all 15+x*y*72057594037927936^j:=by
 obtain⟨c1,c2⟩:=h.2 j hj
 obtain⟨e1,e2⟩:=qqz c1 hx hy c2 (by omega)
 refine⟨qfA h hj (qlF _ _ _) (by omega) e2,?_⟩
 rw[qfz h.1 (qcR (qlF _ _ _)) hj 15 (Nat.le_refl _),if_pos hj,e1]
 congr 2;omega
theorem qqB {all:List Int} {s:Int} {i:Nat} (h:Cells all s) (hs:s<=4096) (h0:0<=s) (h8:8<=i) (hi:i<15) :
  Cells (putc (putc all (i-8) (qJ (cell all (i-8)) (cell all i))) (i-4) (qJ (cell (putc all (i-8) (qJ (cell all (i-8)) (cell all i))) (i-4)) (cell (putc all (i-8) (qJ (cell all (i-8)) (cell all i))) i))) (2*s) /\
   fI (tval (putc (putc all (i-8) (qJ (cell all (i-8)) (cell all i))) (i-4) (qJ (cell (putc all (i-8) (qJ (cell all (i-8)) (cell all i))) (i-4)) (cell (putc all (i-8) (qJ (cell all (i-8)) (cell all i))) i))) i)=fI (tval all (i+1)):=by
 have hl:=h.1
 obtain⟨a1,a2⟩:=h.2 (i-8) (by omega)
 obtain⟨b1,b2⟩:=h.2 (i-4) (by omega)
 obtain⟨c1,c2⟩:=h.2 i hi
 obtain⟨e1,e2⟩:=qig a1 c1 a2 c2 hs
 have w1:=qcR (qck (cell all (i-8)) (cell all i))
 rw[qdX hl w1 (by omega) (show i-4<15 by omega) (by omega),qdX hl w1 (by omega) hi (by omega)]
 obtain⟨f1,f2⟩:=qig b1 c1 b2 c2 hs
 have w2:=qcR (qck (cell all (i-4)) (cell all i))
 have hc:=qfA h (show i-8<15 by omega) (qck (cell all (i-8)) (cell all i)) (show s<=2*s by omega) e2
 refine⟨qfA hc (by omega) (qck _ _) (Int.le_refl _) f2,?_⟩
 rw[qfz hc.1 w2 (by omega) i (by omega),if_pos (by omega),qfz hl w1 (by omega) i (by omega),if_pos (by omega),qdX hl w1 (by omega) (show i-4<15 by omega) (by omega),e1,f1]
 simp only[tval]
 generalize wv (cell all i)=m
 have e3:(72057594037927936:Int)^i=72057594037927936^(i-8)*72057594037927936^8:=by rw[<- Int.pow_add];congr 1;omega
 have e4:(72057594037927936:Int)^(i-4)=72057594037927936^(i-8)*72057594037927936^4:=by rw[<- Int.pow_add];congr 1;omega
 rw[e3,e4]
 generalize (72057594037927936:Int)^(i-8)=q
 have e5:(72057594037927936:Int)^8=726838724295606890549323807888004534353641360687318060281490199180612328166730772686396383698676545930088884461843637361053498018365439+1+72057594037927936^4:=by decide +kernel
 rw[e5]
 have e6:=fI_p (m*q)
 rw[<- Fin.add_zero (fI (_+_+_)),<- e6,<- qaD]
 congr 1
 grind
def bnd (i:Nat):Int:=64*((2^(14-i):Nat):Int)
theorem qqC : ∀ i,i<15->8<=i->bnd i<=4096/\0<=bnd i/\bnd (i-1)=2*bnd i:=by decide
theorem qlX {x:Fp} {xs:List Int} (h:okFe x xs):fI (psum xs 8)=x:=by
 obtain⟨hl,hb,hv⟩:=h
 obtain⟨a0,a1,a2,a3,a4,a5,a6,a7,rfl⟩:=qcL hl
 rw[<- hv,val8]
 congr 1
 simp only[psum,List.getD,List.getElem?_cons_succ,List.getElem?_cons_zero,Option.getD_some]
 generalize (72057594037927936:Int)=b
 grind
theorem qlY {x:Fp} {xs:List Int} (h:okFe x xs) : ∀ i,i<8->0<=xs.getD i 0/\xs.getD i 0<72057594037928192:=by
 intro i hi
 have hl:=h.1
 have e:xs.getD i 0=xs[i]'(by omega):=by simp[List.getD,hl,hi]
 rw[e];exact h.2.1 _ (List.getElem_mem _)
theorem qqD {k:IntKind} {n:Nat} {xs:List Int} (hl:xs.length=n):qdi [.row k n xs] k n xs:=by
 intro ρ H us hr
 obtain⟨u1,w1,rfl,h1,r1⟩:=RepC_cons.1 hr
 simp only[RepC]at r1
 simp only[Rep]at h1
 subst r1
 exact⟨by rw[List.append_nil];exact h1.2,hl⟩
theorem qqE:qdi [.lit .u64 0,.lit .u64 0] .u64 2 [0,0]:=by
 intro ρ H us hr
 obtain⟨u1,w1,rfl,h1,r1⟩:=RepC_cons.1 hr
 obtain⟨u2,w2,rfl,h2,r2⟩:=RepC_cons.1 r1
 simp only[RepC]at r2
 simp only[Rep]at h1 h2
 subst h1;subst h2;subst r2
 exact⟨rfl,rfl⟩
theorem qlZ {w:List Int} (h:WN w):wv w=w.getD 0 0*18446744073709551616+w.getD 1 0/\0<=w.getD 1 0/\w.getD 1 0<18446744073709551616:=by
 obtain⟨a,b,rfl,h1,h2,h3,h4⟩:=h
 exact⟨rfl,h3,h4⟩
theorem qqF {c o:List Int} (hc:WN c) (ho:WN o) (h1:wv c<=8192*5192296858534864521917661071376384) (h2:wv o<=4722366482869645213696) :
  wv c+wv o=binL .and .u64 ((qJ c o).getD 1 0) 72057594037927935+72057594037927936*wv (qaL (qJ c o))/\(0<=binL .and .u64 ((qJ c o).getD 1 0) 72057594037927935/\binL .and .u64 ((qJ c o).getD 1 0) 72057594037927935<72057594037927936)/\wv (qaL (qJ c o))<=4722366482869645213696:=by
 have r1:=qcO hc
 have r2:=qcO ho
 have e:wv (qJ c o)=wv c+wv o:=by unfold qJ;exact qfr (by omega) (by omega)
 have g:=qlZ (qck c o)
 have e2:wv (qaL (qJ c o))=(wv c+wv o) / 72057594037927936:=by
  unfold qaL;rw[qfr (by omega) (by omega),e]
 rw[e2,qch]
 rw[e]at g
 omega
theorem ql0 {u:List Int} {i:Nat} {r:Int} : ∀ n,n<=i->psum (u.set i r) n=psum u n
 | 0,_=>rfl
 | n+1,h=>by
   simp only[psum]
   rw[ql0 n (by omega)]
   congr 2
   simp only[List.getD]
   rw[List.getElem?_set_ne (by omega)]
theorem ql1 {u:List Int} {i:Nat} {r:Int} (h:i<u.length):(u.set i r).getD i 0=r:=by simp[List.getD,h]
theorem qqG {u:List Int} {i j:Nat} {r:Int} (h:i ≠ j):(u.set i r).getD j 0=u.getD j 0:=by simp[List.getD,List.getElem?_set_ne h]
theorem qqH {z:Fp} {u o:List Int} (hl:u.length=8) (hb : ∀ i,i<8->0<=u.getD i 0/\u.getD i 0<72057594037927936) (ho:WN o) (hob:wv o<=4722366482869645213696) (hv:fI (psum u 8+wv o*72057594037927936^8)=z) :
  okFe z (qW ((((u.set 0 (binL .add .u64 (u.getD 0 0) (binL .and .u64 (o.getD 1 0) 72057594037927935))).set 4 (binL .add .u64 ((u.set 0 (binL .add .u64 (u.getD 0 0) (binL .and .u64 (o.getD 1 0) 72057594037927935))).getD 4 0) (binL .and .u64 (o.getD 1 0) 72057594037927935))).set 1 (binL .add .u64 (((u.set 0 (binL .add .u64 (u.getD 0 0) (binL .and .u64 (o.getD 1 0) 72057594037927935))).set 4 (binL .add .u64 ((u.set 0 (binL .add .u64 (u.getD 0 0) (binL .and .u64 (o.getD 1 0) 72057594037927935))).getD 4 0) (binL .and .u64 (o.getD 1 0) 72057594037927935))).getD 1 0) ((qaL o).getD 1 0))).set 5 (binL .add .u64 ((((u.set 0 (binL .add .u64 (u.getD 0 0) (binL .and .u64 (o.getD 1 0) 72057594037927935))).set 4 (binL .add .u64 ((u.set 0 (binL .add .u64 (u.getD 0 0) (binL .and .u64 (o.getD 1 0) 72057594037927935))).getD 4 0) (binL .and .u64 (o.getD 1 0) 72057594037927935))).set 1 (binL .add .u64 (((u.set 0 (binL .add .u64 (u.getD 0 0) (binL .and .u64 (o.getD 1 0) 72057594037927935))).set 4 (binL .add .u64 ((u.set 0 (binL .add .u64 (u.getD 0 0) (binL .and .u64 (o.getD 1 0) 72057594037927935))).getD 4 0) (binL .and .u64 (o.getD 1 0) 72057594037927935))).getD 1 0) ((qaL o).getD 1 0))).getD 5 0) ((qaL o).getD 1 0)))):=by
 have r:=qcO ho
 have g:=qlZ ho
 have e2:(qaL o).getD 1 0=wv o / 72057594037927936:=by
  unfold qaL
  show(wv o / 72057594037927936) % 18446744073709551616=_
  omega
 rw[e2,qch]
 obtain⟨lo,hlo⟩ : ∃ lo,lo=o.getD 1 0 % 72057594037927936:=⟨_,rfl⟩
 obtain⟨hi,hhi⟩ : ∃ hi,hi=wv o / 72057594037927936:=⟨_,rfl⟩
 have q1:wv o=lo+72057594037927936*hi:=by omega
 have q2:0<=lo/\lo<72057594037927936:=by omega
 have q3:0<=hi/\hi<=65536:=by omega
 rw[<- hlo,<- hhi]
 clear hlo hhi e2 g r
 obtain⟨u0,u1,u2,u3,u4,u5,u6,u7,rfl⟩:=qcL hl
 have h0:=hb 0 (by decide)
 have h1:=hb 1 (by decide)
 have h2:=hb 2 (by decide)
 have h3:=hb 3 (by decide)
 have h4:=hb 4 (by decide)
 have h5:=hb 5 (by decide)
 have h6:=hb 6 (by decide)
 have h7:=hb 7 (by decide)
 clear hb
 simp only[List.set,List.getD,List.getElem?_cons_succ,List.getElem?_cons_zero,Option.getD_some,ua]at h0 h1 h2 h3 h4 h5 h6 h7 ⊢
 have a0:(u0+lo) % 18446744073709551616=u0+lo:=by omega
 have a4:(u4+lo) % 18446744073709551616=u4+lo:=by omega
 have a1:(u1+hi) % 18446744073709551616=u1+hi:=by omega
 have a5:(u5+hi) % 18446744073709551616=u5+hi:=by omega
 rw[a0,a1,a4,a5]
 refine qh4 (by omega) (by omega) (by omega) (by omega) (by omega) (by omega) (by omega) (by omega) ?_
 rw[<- hv,q1]
 have e6:=fI_p (-(lo+72057594037927936*hi))
 rw[<- Fin.add_zero (fI (psum _ 8+_)),<- e6,<- qaD]
 congr 1
 simp only[psum,List.getD,List.getElem?_cons_succ,List.getElem?_cons_zero,Option.getD_some]
 have p1:(72057594037927936:Int)^8=726838724295606890549323807888004534353641360687318060281490199180639288113397923326191050713763565560762521606266177933534601628614656:=by decide +kernel
 have p2:(72057594037927936:Int)^7=10086913586276986678343434265636765134100413253239154346994763111486904773503285916522052161250538404046496765518544896:=by decide +kernel
 have p3:(72057594037927936:Int)^6=139984046386112763159840142535527767382602843577165595931249318810236991948760059086304843329475444736:=by decide +kernel
 have p4:(72057594037927936:Int)^5=1942668892225729070919461906823518906642406839052139521251812409738904285205208498176:=by decide +kernel
 have p5:(72057594037927936:Int)^4=26959946667150639794667015087019630673637144422540572481103610249216:=by decide +kernel
 have p6:(72057594037927936:Int)^3=374144419156711147060143317175368453031918731001856:=by decide +kernel
 have p7:(72057594037927936:Int)^2=5192296858534827628530496329220096:=by decide +kernel
 rw[p1,p2,p3,p4,p5,p6,p7]
 omega
end Go.Sx
end
section
namespace Go.Sx
def jn (x:Fp) (n:Int) (y:Fp):Fp:=pw x (2^n.toNat)*y
theorem qaW (x:Fp) (a b n c:Nat) (h:a*2^n+b=c):jn (pw x a) (n:Int) (pw x b)=pw x c:=by
 unfold jn
 rw[Int.toNat_natCast,<- h,qdM,qbP]
theorem qqI (x:Fp) : ∀ two three nine eighteen most most2 most3:Fp,two=jn x 1 x->three=jn two 1 x->nine=jn (jn three 3 three) 3 three->eighteen=jn nine 9 nine->most=jn (jn eighteen 1 x) 18 eighteen->most2=jn (jn most 37 most) 37 most->most3=jn most2 111 most2->jn (jn most3 1 x) 223 most3=qcK x:=by
 intro two three nine eighteen most most2 most3 e1 e2 e3 e4 e5 e6 e7
 have e0:x=pw x 1:=(qcJ x).symm
 have f1:two=pw x 3:=by rw[e1];exact(show jn x 1 x=jn (pw x 1) 1 (pw x 1)by rw[qcJ]).trans (qaW x 1 1 1 _ (by decide))
 have f2:three=pw x 7:=by rw[e2,f1];exact(congrArg (jn (pw x 3) 1) e0).trans (qaW x 3 1 1 _ (by decide))
 have f3:nine=pw x 511:=by rw[e3,f2];exact(congrArg (fun y=>jn y 3 (pw x 7)) (qaW x 7 7 3 63 (by decide))).trans (qaW x 63 7 3 _ (by decide))
 have f4:eighteen=pw x 262143:=by rw[e4,f3];exact qaW x 511 511 9 _ (by decide)
 have f5:most=pw x 137438953471:=by
  rw[e5,f4]
  have g:jn (pw x 262143) 1 x=pw x 524287:=(congrArg (jn (pw x 262143) 1) e0).trans (qaW x 262143 1 1 _ (by decide))
  rw[g];exact qaW x 524287 262143 18 _ (by decide)
 have f6:most2=pw x 2596148429267413814265248164610047:=by
  rw[e6,f5]
  have g:jn (pw x 137438953471) 37 (pw x 137438953471)=pw x 18889465931478580854783:=qaW x 137438953471 137438953471 37 _ (by decide)
  rw[g];exact qaW x 18889465931478580854783 137438953471 37 _ (by decide)
 have f7:most3=pw x 6739986666787659948666753771754907668409286105635143120275902562303:=by rw[e7,f6];exact qaW x 2596148429267413814265248164610047 2596148429267413814265248164610047 111 _ (by decide +kernel)
 rw[f7]
 have g:jn (pw x 6739986666787659948666753771754907668409286105635143120275902562303) 1 x=pw x 13479973333575319897333507543509815336818572211270286240551805124607:=(congrArg (jn (pw x 6739986666787659948666753771754907668409286105635143120275902562303) 1) e0).trans (qaW x 6739986666787659948666753771754907668409286105635143120275902562303 1 1 _ (by decide +kernel))
 rw[g]
 unfold qcK
 exact qaW x 13479973333575319897333507543509815336818572211270286240551805124607 6739986666787659948666753771754907668409286105635143120275902562303 223 _ (by decide +kernel)
theorem qqJ (x:Fp):(qap x).getD 0 0=((x.val % 256:Nat):Int):=by
 unfold qap
 show((x.val / 256^0 % 256:Nat):Int)=_
 rw[Nat.pow_zero,Nat.div_one]
theorem qdZ (x:Fp):(qap x).length=56:=by unfold qap;simp
theorem qqK (n:Nat) (h:n<256):binL .and .u8 (n:Int) 1=((n % 2:Nat):Int):=by
 show IntKind.u8.wrap (((BitVec.ofInt 8 (n:Int) &&& BitVec.ofInt 8 1).toNat:Nat):Int)=_
 have e1:(BitVec.ofInt 8 (n:Int)).toNat=n:=by rw[BitVec.toNat_ofInt,Int.emod_eq_of_lt (by omega) (by omega)];omega
 rw[BitVec.toNat_and,e1]
 show IntKind.u8.wrap ((n &&& (2^1-1):Nat):Int)=_
 rw[Nat.and_two_pow_sub_one_eq_mod,IntKind.wrap_u8']
 omega
theorem qqL (x:Fp):pw (qcK x) (2^(2:Int).toNat)*x=finv x:=by
 unfold qcK finv
 show pw (pw x _) 4*x=_
 rw[<- qbP]
 exact(qlx x (by decide +kernel)).symm
end Go.Sx
end
section
namespace Go.Sx
instance:DecidableEq AP:=fun P Q=>match P,Q with
 | ⟨a,b⟩,⟨c,e⟩=>if h:a=c/\b=e then isTrue (by rw[h.1,h.2]) else isFalse (fun q=>h (by cases q;exact⟨rfl,rfl⟩))
theorem AP.ext {P Q:AP} (h1:P.x=Q.x) (h2:P.y=Q.y):P=Q:=by cases P;cases Q;cases h1;cases h2;rfl
instance (P:AP):Decidable P.on:=by unfold AP.on;infer_instance
def pid:AP:=⟨0,1⟩
def pt (P Q:AP):Fp:=dF*P.x*Q.x*P.y*Q.y
def padd (P Q:AP):AP:=⟨(P.x*Q.y+Q.x*P.y)*finv (1+pt P Q),(P.y*Q.y-P.x*Q.x)*finv (1-pt P Q)⟩
theorem d_sq {w v:Fp} (h:dF*(w*w)=v*v):w=0:=by
 apply Classical.byContradiction
 intro hw
 have h1:=qdN hw
 refine qpZ (v*finv w) ?_
 have e:dF*(w*w)*(finv w*finv w)=v*v*(finv w*finv w):=by rw[h]
 have e2:(w*finv w)*(w*finv w)=1:=by rw[h1];grind -lia -linarith -order -ac (splits:=0)
 generalize dF=d at *
 generalize finv w=i at *
 clear hw h1 h
 have e3:d=d*((w*i)*(w*i)):=by rw[e2];grind -lia -linarith -order -ac (splits:=0)
 rw[e3]
 have e4:d*((w*i)*(w*i))=d*(w*w)*(i*i):=by grind -lia -linarith -order -ac (splits:=0)
 rw[e4,e];grind -lia -linarith -order -ac (splits:=0)
theorem qqM {a:Fp} (h:a+a=0):a=0:=by
 have:(2:Fp)*a=0:=by grind -lia -linarith -order -ac (splits:=0)
 rcases qcg this with h|h
 ·exact absurd h qpX
 ·exact h
theorem qbo {P Q:AP} (hP:P.on) (hQ:Q.on):1+pt P Q ≠ 0/\1-pt P Q ≠ 0:=by
 have key : ∀ e:Fp,e*e=1->pt P Q=e->False:=by
  intro e he ht
  unfold AP.on at hP hQ
  unfold pt at ht
  obtain⟨x1,y1⟩:=P
  obtain⟨x2,y2⟩:=Q
  simp only at hP hQ ht
  have hne:e ≠ 0:=by rintro rfl;rw[show(0:Fp)*0=0 by grind -lia -linarith -order -ac (splits:=0)]at he;exact qfn he.symm
  have hx1:x1 ≠ 0:=by rintro rfl;exact hne (by rw[<- ht];grind -lia -linarith -order -ac (splits:=0))
  have hy1:y1 ≠ 0:=by rintro rfl;exact hne (by rw[<- ht];grind -lia -linarith -order -ac (splits:=0))
  have hx2:x2 ≠ 0:=by rintro rfl;exact hne (by rw[<- ht];grind -lia -linarith -order -ac (splits:=0))
  have g1:dF*(x1*y1*(x2+y2)*(x1*y1*(x2+y2)))=(x1+e*y1)*(x1+e*y1):=by
   generalize dF=d at *
   grind -lia -linarith -order -ac (splits:=0)
  have g2:dF*(x1*y1*(x2-y2)*(x1*y1*(x2-y2)))=(x1-e*y1)*(x1-e*y1):=by
   generalize dF=d at *
   grind -lia -linarith -order -ac (splits:=0)
  have h1:=d_sq g1
  have h2:=d_sq g2
  have hxy:=qV hx1 hy1
  have s1:x2+y2=0:=by rcases qcg h1 with h|h;exact absurd h hxy;exact h
  have s2:x2-y2=0:=by rcases qcg h2 with h|h;exact absurd h hxy;exact h
  exact hx2 (qqM (by grind -lia -linarith -order -ac (splits:=0)))
 constructor
 ·intro h
  exact key (-1) (by grind -lia -linarith -order -ac (splits:=0)) (by grind -lia -linarith -order -ac (splits:=0))
 ·intro h
  exact key 1 (by grind -lia -linarith -order -ac (splits:=0)) (by grind -lia -linarith -order -ac (splits:=0))
theorem qbT {P Q:AP} (hP:P.on) (hQ:Q.on):(padd P Q).x*(1+pt P Q)=P.x*Q.y+Q.x*P.y:=by
 have h:=qdN (qbo hP hQ).1
 show _*finv _*_=_
 generalize finv (1+pt P Q)=i at *
 grind -lia -linarith -order -ac (splits:=0)
theorem qbU {P Q:AP} (hP:P.on) (hQ:Q.on):(padd P Q).y*(1-pt P Q)=P.y*Q.y-P.x*Q.x:=by
 have h:=qdN (qbo hP hQ).2
 show _*finv _*_=_
 generalize finv (1-pt P Q)=i at *
 grind -lia -linarith -order -ac (splits:=0)
theorem qih:pid.on:=by
 show(0:Fp)*0+1*1=1+dF*0*0*1*1
 generalize dF=d
 grind -lia -linarith -order -ac (splits:=0)
theorem qqN (d x1 y1 x2 y2:Fp) (e1:x1*x1+y1*y1=1+d*x1*x1*y1*y1) (e2:x2*x2+y2*y2=1+d*x2*x2*y2*y2) :
  (x1*y2+x2*y1)*(x1*y2+x2*y1)*((1-d*x1*x2*y1*y2)*(1-d*x1*x2*y1*y2))+(y1*y2-x1*x2)*(y1*y2-x1*x2)*((1+d*x1*x2*y1*y2)*(1+d*x1*x2*y1*y2)) =
   (1+d*x1*x2*y1*y2)*(1+d*x1*x2*y1*y2)*((1-d*x1*x2*y1*y2)*(1-d*x1*x2*y1*y2))+d*((x1*y2+x2*y1)*(x1*y2+x2*y1))*((y1*y2-x1*x2)*(y1*y2-x1*x2)):=by
 grind -lia -linarith -order -ac (splits:=0)
theorem qcS {P Q:AP} (hP:P.on) (hQ:Q.on):(padd P Q).on:=by
 have hx:=qbT hP hQ
 have hy:=qbU hP hQ
 obtain⟨n1,n2⟩:=qbo hP hQ
 have hpoly:=qqN dF P.x P.y Q.x Q.y hP hQ
 unfold pt at *
 show(padd P Q).x*(padd P Q).x+(padd P Q).y*(padd P Q).y=1+dF*(padd P Q).x*(padd P Q).x*(padd P Q).y*(padd P Q).y
 generalize padd P Q=S at *
 obtain⟨X,Y⟩:=S
 simp only at hx hy ⊢
 generalize hu:1+dF*P.x*Q.x*P.y*Q.y=u at *
 generalize hv:1-dF*P.x*Q.x*P.y*Q.y=v at *
 rw[<- hx,<- hy]at hpoly
 refine qhX (qV (qV n1 n1) (qV n2 n2)) ?_
 generalize dF=d at *
 clear hx hy n1 n2 hu hv
 grind -lia -linarith -order -ac (splits:=0)
theorem qqO (P Q:AP):pt P Q=pt Q P:=by unfold pt;generalize dF=d;grind -lia -linarith -order -ac (splits:=0)
theorem qqP (P Q:AP):padd P Q=padd Q P:=by
 unfold padd
 rw[qqO P Q]
 congr 1
 ·congr 1;grind -lia -linarith -order -ac (splits:=0)
 ·congr 1;grind -lia -linarith -order -ac (splits:=0)
theorem qqQ (P:AP):pt pid P=0:=by unfold pt pid;generalize dF=d;grind -lia -linarith -order -ac (splits:=0)
theorem qqR:finv 1=1:=by
 have h:=qdN qfn
 generalize finv 1=i at *
 grind -lia -linarith -order -ac (splits:=0)
theorem ql2 (P:AP):padd pid P=P:=by
 unfold padd
 rw[qqQ]
 have e1:(1:Fp)+0=1:=by grind -lia -linarith -order -ac (splits:=0)
 have e2:(1:Fp)-0=1:=by grind -lia -linarith -order -ac (splits:=0)
 rw[e1,e2,qqR]
 apply AP.ext<;>simp only[pid]<;>grind -lia -linarith -order -ac (splits:=0)
theorem qqS (P:AP):padd P pid=P:=by rw[qqP,ql2]
theorem qqT (x1 y1 x2 y2 x3 y3 xs ys xt yt d:Fp)
  (hs:xs*(1+d*x1*x2*y1*y2)=x1*y2+x2*y1) (hs':ys*(1-d*x1*x2*y1*y2)=y1*y2-x1*x2)
  (ht:xt*(1+d*x2*x3*y2*y3)=x2*y3+x3*y2) (ht':yt*(1-d*x2*x3*y2*y3)=y2*y3-x2*x3) :
  (1+d*x1*x2*y1*y2)*(1-d*x1*x2*y1*y2)*(1+d*x2*x3*y2*y3)*(1-d*x2*x3*y2*y3)*((xs*y3+x3*ys)*(1+d*x1*xt*y1*yt)-(x1*yt+xt*y1)*(1+d*xs*x3*ys*y3)) =
   ((x1*y2+x2*y1)*y3*(1-d*x1*x2*y1*y2)+x3*(y1*y2-x1*x2)*(1+d*x1*x2*y1*y2))*((1+d*x2*x3*y2*y3)*(1-d*x2*x3*y2*y3)+d*x1*y1*(x2*y3+x3*y2)*(y2*y3-x2*x3))-(x1*(y2*y3-x2*x3)*(1+d*x2*x3*y2*y3)+(x2*y3+x3*y2)*y1*(1-d*x2*x3*y2*y3))*((1+d*x1*x2*y1*y2)*(1-d*x1*x2*y1*y2)+d*x3*y3*(x1*y2+x2*y1)*(y1*y2-x1*x2)):=by
 rw[<- hs,<- hs',<- ht,<- ht'];clear hs hs' ht ht';grind -lia -linarith -order -ac (splits:=0)
theorem qqU (x1 y1 x2 y2 x3 y3 d:Fp)
  (e1:x1*x1+y1*y1=1+d*x1*x1*y1*y1) (e2:x2*x2+y2*y2=1+d*x2*x2*y2*y2) (e3:x3*x3+y3*y3=1+d*x3*x3*y3*y3) :
   ((x1*y2+x2*y1)*y3*(1-d*x1*x2*y1*y2)+x3*(y1*y2-x1*x2)*(1+d*x1*x2*y1*y2))*((1+d*x2*x3*y2*y3)*(1-d*x2*x3*y2*y3)+d*x1*y1*(x2*y3+x3*y2)*(y2*y3-x2*x3))-(x1*(y2*y3-x2*x3)*(1+d*x2*x3*y2*y3)+(x2*y3+x3*y2)*y1*(1-d*x2*x3*y2*y3))*((1+d*x1*x2*y1*y2)*(1-d*x1*x2*y1*y2)+d*x3*y3*(x1*y2+x2*y1)*(y1*y2-x1*x2))=0:=by
 grind -lia -linarith -order -ac (splits:=0)
theorem qqV (x1 y1 x2 y2 x3 y3 xs ys xt yt d:Fp)
  (hs:xs*(1+d*x1*x2*y1*y2)=x1*y2+x2*y1) (hs':ys*(1-d*x1*x2*y1*y2)=y1*y2-x1*x2)
  (ht:xt*(1+d*x2*x3*y2*y3)=x2*y3+x3*y2) (ht':yt*(1-d*x2*x3*y2*y3)=y2*y3-x2*x3) :
  (1+d*x1*x2*y1*y2)*(1-d*x1*x2*y1*y2)*(1+d*x2*x3*y2*y3)*(1-d*x2*x3*y2*y3)*((ys*y3-xs*x3)*(1-d*x1*xt*y1*yt)-(y1*yt-x1*xt)*(1-d*xs*x3*ys*y3)) =
   ((y1*y2-x1*x2)*y3*(1+d*x1*x2*y1*y2)-(x1*y2+x2*y1)*x3*(1-d*x1*x2*y1*y2))*((1+d*x2*x3*y2*y3)*(1-d*x2*x3*y2*y3)-d*x1*y1*(x2*y3+x3*y2)*(y2*y3-x2*x3))-(y1*(y2*y3-x2*x3)*(1+d*x2*x3*y2*y3)-x1*(x2*y3+x3*y2)*(1-d*x2*x3*y2*y3))*((1+d*x1*x2*y1*y2)*(1-d*x1*x2*y1*y2)-d*x3*y3*(x1*y2+x2*y1)*(y1*y2-x1*x2)):=by
 rw[<- hs,<- hs',<- ht,<- ht'];clear hs hs' ht ht';grind -lia -linarith -order -ac (splits:=0)
theorem qqW (x1 y1 x2 y2 x3 y3 d:Fp)
  (e1:x1*x1+y1*y1=1+d*x1*x1*y1*y1) (e2:x2*x2+y2*y2=1+d*x2*x2*y2*y2) (e3:x3*x3+y3*y3=1+d*x3*x3*y3*y3) :
   ((y1*y2-x1*x2)*y3*(1+d*x1*x2*y1*y2)-(x1*y2+x2*y1)*x3*(1-d*x1*x2*y1*y2))*((1+d*x2*x3*y2*y3)*(1-d*x2*x3*y2*y3)-d*x1*y1*(x2*y3+x3*y2)*(y2*y3-x2*x3))-(y1*(y2*y3-x2*x3)*(1+d*x2*x3*y2*y3)-x1*(x2*y3+x3*y2)*(1-d*x2*x3*y2*y3))*((1+d*x1*x2*y1*y2)*(1-d*x1*x2*y1*y2)-d*x3*y3*(x1*y2+x2*y1)*(y1*y2-x1*x2))=0:=by
 grind -lia -linarith -order -ac (splits:=0)
theorem qqX {P Q R:AP} (hP:P.on) (hQ:Q.on) (hR:R.on):padd (padd P Q) R=padd P (padd Q R):=by
 have hS:=qcS hP hQ
 have hT:=qcS hQ hR
 have a1:=qbT hP hQ
 have a2:=qbU hP hQ
 have b1:=qbT hQ hR
 have b2:=qbU hQ hR
 have c1:=qbT hS hR
 have c2:=qbU hS hR
 have e1:=qbT hP hT
 have e2:=qbU hP hT
 obtain⟨m1,m2⟩:=qbo hP hQ
 obtain⟨m3,m4⟩:=qbo hQ hR
 obtain⟨m5,m6⟩:=qbo hS hR
 obtain⟨m7,m8⟩:=qbo hP hT
 have q1:=qqT P.x P.y Q.x Q.y R.x R.y _ _ _ _ dF a1 a2 b1 b2
 rw[qqU P.x P.y Q.x Q.y R.x R.y dF hP hQ hR]at q1
 have q2:=qqV P.x P.y Q.x Q.y R.x R.y _ _ _ _ dF a1 a2 b1 b2
 rw[qqW P.x P.y Q.x Q.y R.x R.y dF hP hQ hR]at q2
 have hne:(1+pt P Q)*(1-pt P Q)*(1+pt Q R)*(1-pt Q R) ≠ 0:=qV (qV (qV m1 m2) m3) m4
 have r1:=(qcg q1).resolve_left hne
 have r2:=(qcg q2).resolve_left hne
 clear q1 q2 hne a1 a2 b1 b2
 apply AP.ext
 ·refine qhX (qV m5 m7) ?_
  unfold pt at *
  generalize padd (padd P Q) R=U at *
  generalize padd P (padd Q R)=V at *
  generalize padd P Q=S at *
  generalize padd Q R=W at *
  generalize dF=d at *
  clear m1 m2 m3 m4 m5 m6 m7 m8 hP hQ hR hS hT c2 e2 r2
  grind -lia -linarith -order -ac (splits:=0)
 ·refine qhX (qV m6 m8) ?_
  unfold pt at *
  generalize padd (padd P Q) R=U at *
  generalize padd P (padd Q R)=V at *
  generalize padd P Q=S at *
  generalize padd Q R=W at *
  generalize dF=d at *
  clear m1 m2 m3 m4 m5 m6 m7 m8 hP hQ hR hS hT c1 e1 r1
  grind -lia -linarith -order -ac (splits:=0)
theorem qqY {P:AP} (h:P.on):1+pt P P=P.x*P.x+P.y*P.y:=by
 unfold AP.on at h
 unfold pt
 rw[h]
theorem qqZ {P Q:AP} {X1 Y1 Z1 X2 Y2 Z2:Fp} (hP:P.on) (hQ:Q.on) (z1:Z1 ≠ 0) (x1:X1=P.x*Z1) (y1:Y1=P.y*Z1) (z2:Z2 ≠ 0) (x2:X2=Q.x*Z2) (y2:Y2=Q.y*Z2) :
  (Z1*Z2*(Z1*Z2)-X1*X2*(Y1*Y2)*dF)*(Z1*Z2*(Z1*Z2)+X1*X2*(Y1*Y2)*dF) ≠ 0 /\
  Z1*Z2*(Z1*Z2*(Z1*Z2)-X1*X2*(Y1*Y2)*dF)*((X1+Y1)*(X2+Y2)-X1*X2-Y1*Y2)=(padd P Q).x*((Z1*Z2*(Z1*Z2)-X1*X2*(Y1*Y2)*dF)*(Z1*Z2*(Z1*Z2)+X1*X2*(Y1*Y2)*dF)) /\
  Z1*Z2*(Z1*Z2*(Z1*Z2)+X1*X2*(Y1*Y2)*dF)*(Y1*Y2-X1*X2)=(padd P Q).y*((Z1*Z2*(Z1*Z2)-X1*X2*(Y1*Y2)*dF)*(Z1*Z2*(Z1*Z2)+X1*X2*(Y1*Y2)*dF)):=by
 have hx:=qbT hP hQ
 have hy:=qbU hP hQ
 obtain⟨n1,n2⟩:=qbo hP hQ
 generalize padd P Q=S at *
 unfold pt at *
 subst x1;subst y1;subst x2;subst y2
 generalize dF=d at *
 have hz:=qV z1 z2
 have e1:Z1*Z2*(Z1*Z2)-P.x*Z1*(Q.x*Z2)*(P.y*Z1*(Q.y*Z2))*d=Z1*Z2*(Z1*Z2)*(1-d*P.x*Q.x*P.y*Q.y):=by grind -lia -linarith -order -ac (splits:=0)
 have e2:Z1*Z2*(Z1*Z2)+P.x*Z1*(Q.x*Z2)*(P.y*Z1*(Q.y*Z2))*d=Z1*Z2*(Z1*Z2)*(1+d*P.x*Q.x*P.y*Q.y):=by grind -lia -linarith -order -ac (splits:=0)
 rw[e1,e2]
 refine⟨qV (qV (qV hz hz) n2) (qV (qV hz hz) n1),?_,?_⟩
 ·generalize hu:1+d*P.x*Q.x*P.y*Q.y=u at *
  generalize 1-d*P.x*Q.x*P.y*Q.y=v at *
  clear hu hy n1 n2 e1 e2 hz z1 z2 hP hQ
  grind -lia -linarith -order -ac (splits:=0)
 ·generalize hu:1+d*P.x*Q.x*P.y*Q.y=u at *
  generalize 1-d*P.x*Q.x*P.y*Q.y=v at *
  clear hu hx n1 n2 e1 e2 hz z1 z2 hP hQ
  grind -lia -linarith -order -ac (splits:=0)
theorem qq0 {P:AP} {X Y Z:Fp} (hP:P.on) (z1:Z ≠ 0) (x1:X=P.x*Z) (y1:Y=P.y*Z) :
  (X*X+Y*Y)*(X*X+Y*Y-Z*Z*2) ≠ 0 /\
  ((X+Y)*(X+Y)-(X*X+Y*Y))*(X*X+Y*Y-Z*Z*2)=(padd P P).x*((X*X+Y*Y)*(X*X+Y*Y-Z*Z*2)) /\
  (X*X+Y*Y)*(X*X-Y*Y)=(padd P P).y*((X*X+Y*Y)*(X*X+Y*Y-Z*Z*2)):=by
 have hx:=qbT hP hP
 have hy:=qbU hP hP
 obtain⟨n1,n2⟩:=qbo hP hP
 have ho:=qqY hP
 generalize padd P P=S at *
 generalize pt P P=t at *
 subst x1;subst y1
 have hz:=qV z1 z1
 have e1:P.x*Z*(P.x*Z)+P.y*Z*(P.y*Z)=Z*Z*(1+t):=by grind -lia -linarith -order -ac (splits:=0)
 have e2:P.x*Z*(P.x*Z)+P.y*Z*(P.y*Z)-Z*Z*2 = -(Z*Z*(1-t)):=by grind -lia -linarith -order -ac (splits:=0)
 have n3 : -(Z*Z*(1-t)) ≠ 0:=fun h=>qV hz n2 (by grind -lia -linarith -order -ac (splits:=0))
 rw[e2,e1]
 clear e1 e2
 refine⟨qV (qV hz n1) n3,?_,?_⟩
 ·clear n1 n2 n3 hz z1 hP hy
  grind -lia -linarith -order -ac (splits:=0)
 ·clear n1 n2 n3 hz z1 hP hx
  grind -lia -linarith -order -ac (splits:=0)
theorem qfB {a X Z:Fp} (z:Z ≠ 0) (x:X=a*Z):X*finv Z=a:=by
 have h:=qdN z
 subst x
 generalize finv Z=i at *
 grind -lia -linarith -order -ac (splits:=0)
theorem fI_d:fI (-39081)=dF:=by decide +kernel
theorem qii:fI 1 ≠ 0:=by rw[qlB];exact qfn
theorem fI_2:fI 2=2:=by decide +kernel
end Go.Sx
end
section
namespace Go.Sx
def qq1 (xs:List Fp):Fp:=xs.foldl (fun a x=>a*x) (fI 1)
def qq2 (u v:Fp):Fp:=fabs (u*qcK (u*v))
def decR (s:Fp):Fp:=qq2 (fI 1) (qq1 [(fI 1+s*s)*(fI 1+s*s)+s*s*fI 156324,fI 1+s*s,fI 1+s*s])
theorem qq3 (v:Nat) : ∀ n,qK ((List.range n).map fun j=>((v / 256^j % 256:Nat):Int))=((v % 256^n:Nat):Int):=by
 have key : ∀ n v,qK ((List.range n).map fun j=>((v / 256^j % 256:Nat):Int))=((v % 256^n:Nat):Int):=by
  intro n
  induction n with
  | zero=>intro v;show(0:Int)=_;rw[Nat.pow_zero,Nat.mod_one];rfl
  | succ n ih =>
    intro v
    rw[List.range_succ_eq_map,List.map_cons,List.map_map]
    have e:(fun j=>((v / 256^j % 256:Nat):Int)) ∘ Nat.succ=fun j=>((v / 256 / 256^j % 256:Nat):Int):=by
      funext j
      show((v / 256^(j+1) % 256:Nat):Int)=_
      rw[Nat.pow_succ',<- Nat.div_div_eq_div_mul]
    rw[e]
    show((v / 256^0 % 256:Nat):Int)+256*qK _=_
    rw[ih,Nat.pow_zero,Nat.div_one,Nat.pow_succ',Nat.mod_mul]
    omega
 exact fun n=>key n v
end Go.Sx
end
section
namespace Go.Sx
def rcar:Int->List Int->List Int × Int
 | c,[]=>([],c)
 | c,x :: l=>((x+c) % 268435456 :: (rcar ((x+c) / 268435456) l).1,(rcar ((x+c) / 268435456) l).2)
theorem qfC : ∀ (l:List Int) (c:Int),(rcar c l).1.length=l.length
 | [],_=>rfl
 | x :: l,c=>by simp only[rcar,List.length_cons,qfC l]
theorem ql3 : ∀ (l:List Int) (c:Int),∀ a ∈ (rcar c l).1,0<=a/\a<268435456
 | [],_,a,h=>by cases h
 | x :: l,c,a,h=>by
   simp only[rcar,List.mem_cons]at h
   rcases h with rfl|h
   · omega
   · exact ql3 l _ a h
theorem ql4 : ∀ (l:List Int) (c:Int),valB 268435456 (rcar c l).1+268435456^l.length*(rcar c l).2=valB 268435456 l+c
 | [],c=>by simp[rcar,valB]
 | x :: l,c=>by
   have ih:=ql4 l ((x+c) / 268435456)
   have h:=Int.emod_add_mul_ediv (x+c) 268435456
   simp only[rcar,valB,List.length_cons,Int.pow_succ]
   generalize (rcar ((x+c) / 268435456) l).2=z at *
   generalize valB 268435456 (rcar ((x+c) / 268435456) l).1=u at *
   generalize (268435456:Int)^l.length=w at *
   generalize valB 268435456 l=v at *
   generalize (x+c) / 268435456=q at *
   generalize (x+c) % 268435456=r at *
   have e:w*268435456*z=268435456*(w*z):=by rw[Int.mul_comm w,Int.mul_assoc]
   rw[e];omega
theorem qij : ∀ (l:List Int) (c x:Int),rcar c (l++[x])=((rcar c l).1++[(x+(rcar c l).2) % 268435456],(x+(rcar c l).2) / 268435456)
 | [],c,x=>by simp[rcar]
 | y :: l,c,x=>by simp only[List.cons_append,rcar,qij l]
theorem ql5 {B:Int} (hB:0<=B) : ∀ (l:List Int) (c:Int),(∀ a ∈ l,-4611686018427387904<a/\a<4611686018427387904) -> -68719476736<c->c<68719476736 -> -68719476736<(rcar c l).2/\(rcar c l).2<68719476736
 | [],c,_,h1,h2=>⟨h1,h2⟩
 | x :: l,c,h,h1,h2=>by
   have hx:=h x (List.mem_cons_self ..)
   exact ql5 hB l _ (fun a ha=>h a (List.mem_cons_of_mem _ ha)) (by omega) (by omega)
def rst (xs:List Int) (i:Nat):List Int:=(rcar 0 (xs.take i)).1++xs.drop i
def rov (xs:List Int) (i:Nat):Int:=(rcar 0 (xs.take i)).2
theorem ql6 (xs:List Int):rst xs 0=xs:=by simp[rst,rcar]
theorem qbw (xs:List Int) (i:Nat):(rst xs i).length=xs.length:=by
 simp only[rst,List.length_append,qfC,List.length_take,List.length_drop];omega
theorem ql7 {xs:List Int} {i:Nat} (h:i<xs.length):(rst xs i).getD i 0=xs.getD i 0:=by
 have hl:(rcar 0 (xs.take i)).1.length=i:=by rw[qfC,List.length_take];omega
 unfold rst
 rw[List.getD_eq_getElem?_getD,List.getElem?_append_right (by omega),hl,Nat.sub_self,List.getElem?_drop,Nat.add_zero,List.getD_eq_getElem?_getD]
theorem ql8 {xs:List Int} {i:Nat} (h:i<xs.length):rst xs (i+1)=(rst xs i).set i ((xs.getD i 0+rov xs i) % 268435456):=by
 have hl:(rcar 0 (xs.take i)).1.length=i:=by rw[qfC,List.length_take];omega
 have e:xs.getD i 0=xs[i]:=by simp[List.getD,h]
 unfold rst rov
 rw[List.take_succ_eq_append_getElem h,qij,List.set_append_right _ _ (by omega),hl,Nat.sub_self,List.drop_eq_getElem_cons h,List.set_cons_zero,e,List.append_assoc]
 rfl
theorem ql9 {xs:List Int} {i:Nat} (h:i<xs.length):rov xs (i+1)=(xs.getD i 0+rov xs i) / 268435456:=by
 have e:xs.getD i 0=xs[i]:=by simp[List.getD,h]
 unfold rov
 rw[List.take_succ_eq_append_getElem h,qij,e]
theorem qd0 {xs:List Int} (h : ∀ a ∈ xs,-4611686018427387904<a/\a<4611686018427387904) (i:Nat) : -68719476736<rov xs i/\rov xs i<68719476736 :=
 ql5 (B:=0) (Int.le_refl _) _ _ (fun a ha=>h a (List.mem_of_mem_take ha)) (by omega) (by omega)
theorem qbV : ∀ (l:List Int),(∀ a ∈ l,0<=a/\a<268435456)->0<=valB 268435456 l/\valB 268435456 l<268435456^l.length
 | [],_=>by simp[valB]
 | x :: l,h=>by
   have ih:=qbV l fun a ha=>h a (List.mem_cons_of_mem _ ha)
   have hx:=h x (List.mem_cons_self ..)
   simp only[valB,List.length_cons,Int.pow_succ]
   generalize (268435456:Int)^l.length=w at *
   generalize valB 268435456 l=v at *
   omega
theorem qik : ∀ (l:List Int) (i:Nat) (v:Int),i<l.length->valB 268435456 (l.set i v)=valB 268435456 l+(v-l.getD i 0)*268435456^i
 | [],i,v,h=>by simp at h
 | x :: l,0,v,_=>by
   simp only[List.set_cons_zero,valB,Int.pow_zero,Int.mul_one,List.getD_cons_zero];omega
 | x :: l,i+1,v,h=>by
   have ih:=qik l i v (by simpa using h)
   simp only[List.set_cons_succ,valB,List.getD_cons_succ,Int.pow_succ,ih]
   generalize v-l.getD i 0=d
   generalize (268435456:Int)^i=w
   generalize valB 268435456 l=u
   have e:268435456*(d*w)=d*(w*268435456):=by rw[Int.mul_comm,Int.mul_assoc]
   rw[Int.mul_add,e];omega
def qaX (xs:List Int):List Int:=((rst xs 16).set 0 ((rst xs 16).getD 0 0+rov xs 16)).set 8 ((rst xs 16).getD 8 0+rov xs 16)
theorem qil {xs:List Int} (h:xs.length=16):valB 268435456 (rst xs 16)+268435456^16*rov xs 16=valB 268435456 xs:=by
 have:=ql4 xs 0
 rw[h,Int.add_zero]at this
 unfold rst rov
 rw[List.take_of_length_le (by omega),List.drop_eq_nil_of_le (by omega),List.append_nil]
 exact this
theorem qq4 {xs:List Int} (h:xs.length=16):(qaX xs).length=16:=by
 unfold qaX
 rw[List.length_set,List.length_set,qbw,h]
theorem qma {xs:List Int} (h:xs.length=16):valB 268435456 (qaX xs)=valB 268435456 xs-rov xs 16*(726838724295606890549323807888004534353641360687318060281490199180612328166730772686396383698676545930088884461843637361053498018365439:Int):=by
 have hl:(rst xs 16).length=16:=by rw[qbw,h]
 unfold qaX
 rw[qik _ _ _ (by rw[List.length_set];omega),qik _ _ _ (by omega)]
 have e:((rst xs 16).set 0 ((rst xs 16).getD 0 0+rov xs 16)).getD 8 0=(rst xs 16).getD 8 0:=by
  simp[List.getD,List.getElem?_set]
 rw[e]
 have h2:=qil h
 generalize rov xs 16=o at *
 generalize (rst xs 16).getD 0 0=a at *
 generalize (rst xs 16).getD 8 0=b at *
 have e1:a+o-a=o:=by omega
 have e2:b+o-b=o:=by omega
 rw[e1,e2]
 omega
theorem qd1 {xs:List Int} (h:xs.length=16) : ∀ a ∈ rst xs 16,0<=a/\a<268435456:=by
 unfold rst
 rw[List.drop_eq_nil_of_le (by omega),List.append_nil]
 exact ql3 _ _
theorem qS {l:List Int} {i:Nat} (h:i<l.length):l.getD i 0 ∈ l:=by
 rw[show l.getD i 0=l[i]by simp[List.getD,h]]
 exact List.getElem_mem h
theorem qq5 {xs:List Int} (h:xs.length=16) (hb : ∀ a ∈ xs,-4611686018427387904<a/\a<4611686018427387904) : ∀ a ∈ qaX xs,-4611686018427387904<a/\a<4611686018427387904:=by
 have hl:(rst xs 16).length=16:=by rw[qbw,h]
 have hd:=qd1 h
 have ho:=qd0 hb 16
 have h0:=hd _ (qS (l:=rst xs 16) (i:=0) (by omega))
 have h8:=hd _ (qS (l:=rst xs 16) (i:=8) (by omega))
 intro a ha
 unfold qaX at ha
 rcases List.mem_or_eq_of_mem_set ha with ha|ha
 ·rcases List.mem_or_eq_of_mem_set ha with ha|ha
  ·have:=hd a ha;omega
  ·omega
 ·omega
theorem qq6 {xs:List Int} (h:xs.length=16) (ho:rov xs 16=0) : ∀ a ∈ qaX xs,0<=a/\a<268435456:=by
 have hl:(rst xs 16).length=16:=by rw[qbw,h]
 have hd:=qd1 h
 have h0:=hd _ (qS (l:=rst xs 16) (i:=0) (by omega))
 have h8:=hd _ (qS (l:=rst xs 16) (i:=8) (by omega))
 intro a ha
 unfold qaX at ha
 rw[ho]at ha
 rcases List.mem_or_eq_of_mem_set ha with ha|ha
 ·rcases List.mem_or_eq_of_mem_set ha with ha|ha
  ·exact hd a ha
  ·omega
 ·omega
def pL:List Int:=[268435455,268435455,268435455,268435455,268435455,268435455,268435455,268435455,268435454,268435455,268435455,268435455,268435455,268435455,268435455,268435455]
theorem qd2:valB 268435456 pL=(726838724295606890549323807888004534353641360687318060281490199180612328166730772686396383698676545930088884461843637361053498018365439:Int):=by decide +kernel
theorem qmb : ∀ (l m:List Int),valB 268435456 (l++m)=valB 268435456 l+268435456^l.length*valB 268435456 m
 | [],m=>by simp[valB]
 | x :: l,m=>by
   simp only[List.cons_append,valB,qmb l m,List.length_cons,Int.pow_succ]
   generalize (268435456:Int)^l.length=w
   generalize valB 268435456 l=u
   generalize valB 268435456 m=v
   have e:w*268435456*v=268435456*(w*v):=by rw[Int.mul_comm w,Int.mul_assoc]
   rw[e];omega
theorem qmc {xs ys:List Int} (hl:xs.length=ys.length) (hx : ∀ a ∈ xs,0<=a/\a<268435456) (hy : ∀ a ∈ ys,0<=a/\a<268435456) {n:Nat} (hn:n<xs.length) (hd:xs.drop (n+1)=ys.drop (n+1)) (h:xs.getD n 0<ys.getD n 0):valB 268435456 xs<valB 268435456 ys:=by
 have key : ∀ zs:List Int,n<zs.length->(∀ a ∈ zs,0<=a/\a<268435456) -> ∃ u,0<=u/\u<268435456^n/\valB 268435456 zs=u+268435456^n*(zs.getD n 0+268435456*valB 268435456 (zs.drop (n+1))):=by
  intro zs hz hd
  refine⟨valB 268435456 (zs.take n),?_,?_,?_⟩
  ·exact(qbV _ fun a ha=>hd a (List.mem_of_mem_take ha)).1
  ·have:=(qbV _ fun a ha=>hd a (List.mem_of_mem_take (i:=n) ha)).2
   rw[List.length_take,Nat.min_eq_left (Nat.le_of_lt hz)]at this
   exact this
  ·conv=>lhs;rw[<- List.take_append_drop n zs,qmb,List.length_take,Nat.min_eq_left (Nat.le_of_lt hz),List.drop_eq_getElem_cons hz]
   have e:zs.getD n 0=zs[n]:=by simp[List.getD,hz]
   rw[e];rfl
 obtain⟨u,u0,u1,hu⟩:=key xs hn hx
 obtain⟨v,v0,v1,hv⟩:=key ys (by omega) hy
 rw[hu,hv,hd]
 generalize valB 268435456 (ys.drop (n+1))=z
 generalize xs.getD n 0=a at *
 generalize ys.getD n 0=b at *
 generalize (268435456:Int)^n=w at *
 have h1:w*(a+268435456*z)=w*a+w*(268435456*z):=Int.mul_add ..
 have h2:w*(b+268435456*z)=w*b+w*(268435456*z):=Int.mul_add ..
 rw[h1,h2]
 have h3:w*(a+1)<=w*b:=Int.mul_le_mul_of_nonneg_left h (by omega)
 rw[Int.mul_add,Int.mul_one]at h3
 omega
theorem qq7 {xs ys:List Int} {m:Nat} (hx:m<xs.length) (hy:m<ys.length) (h:xs.drop (m+1)=ys.drop (m+1)) (he:xs.getD m 0=ys.getD m 0):xs.drop m=ys.drop m:=by
 rw[List.drop_eq_getElem_cons hx,List.drop_eq_getElem_cons hy,h]
 simp[List.getD,hx,hy]at he
 rw[he]
theorem qF {a b:Int} (h0 : -9223372036854775808<=a+b) (h:a+b<9223372036854775808):binL .add .i64 a b=a+b:=qal h0 h
theorem qad {a b:Int} (h0 : -9223372036854775808<=a-b) (h:a-b<9223372036854775808):binL .sub .i64 a b=a-b:=qal h0 h
theorem qbe {a b:Int} (h0 : -9223372036854775808<=a*b) (h:a*b<9223372036854775808):binL .mul .i64 a b=a*b:=qal h0 h
theorem qbW {a b:Int} (h0 : -9223372036854775808<=a.tdiv b) (h:a.tdiv b<9223372036854775808):binL .quo .i64 a b=a.tdiv b:=qal h0 h
theorem qim (n:Int):(0<=n/\n.tmod 268435456=n % 268435456)\/(n<0/\n.tmod 268435456 = -((-n) % 268435456)):=by
 rcases Int.lt_or_le n 0 with h|h
 ·refine .inr ⟨h,?_⟩
  have e:n = -(-n):=by omega
  conv=>lhs;rw[e]
  rw[Int.neg_tmod,Int.tmod_eq_emod_of_nonneg (by omega)]
 ·exact .inl ⟨h,Int.tmod_eq_emod_of_nonneg h⟩
theorem qq8 {n:Int} (h:n.tmod 268435456<0):binL .add .i64 (n.tmod 268435456) 268435456=n % 268435456:=by
 rcases qim n with⟨h1,h2⟩|⟨h1,h2⟩
 ·rw[h2]at h;omega
 ·rw[qF (by omega) (by omega),h2];rw[h2]at h;omega
theorem qq9 {n:Int} (h : ¬ n.tmod 268435456<0):n.tmod 268435456=n % 268435456:=by
 rcases qim n with⟨h1,h2⟩|⟨h1,h2⟩
 ·exact h2
 ·rw[h2]at h;omega
theorem qmd {n:Int} (h0 : -9223372036317904896<=n) (h1:n<9223372036317904896):binL .quo .i64 (binL .sub .i64 n (n % 268435456)) 268435456=n / 268435456:=by
 rw[qad (by omega) (by omega)]
 have e:(n-n % 268435456).tdiv 268435456=n / 268435456:=by
  have e2:n-n % 268435456=n / 268435456*268435456:=by omega
  rw[e2,Int.mul_tdiv_cancel _ (by decide)]
 rw[qbW (by omega) (by omega),e]
theorem qd3 {v:List Int} {i:Nat} (h:i<v.length) (x:Int):(v.set i x).getD i 0=x:=by
 simp[List.getD,h]
theorem qme {v:List Int} {i:Nat} {c n:Int} (hl:i<v.length) (hn:binL .add .i64 (v.getD i 0) c=n) (h0 : -9223372036317904896<=n) (h1:n<9223372036317904896)
  (h:decide ((v.set i (binL .rem .i64 (binL .add .i64 (v.getD i 0) c) 268435456)).getD i 0<0)=true) :
  (v.set i (binL .rem .i64 (binL .add .i64 (v.getD i 0) c) 268435456)).set i (binL .add .i64 ((v.set i (binL .rem .i64 (binL .add .i64 (v.getD i 0) c) 268435456)).getD i 0) 268435456)=v.set i (n % 268435456) /\
  binL .quo .i64 (binL .sub .i64 (binL .add .i64 (v.getD i 0) c) (((v.set i (binL .rem .i64 (binL .add .i64 (v.getD i 0) c) 268435456)).set i (binL .add .i64 ((v.set i (binL .rem .i64 (binL .add .i64 (v.getD i 0) c) 268435456)).getD i 0) 268435456)).getD i 0)) 268435456=n / 268435456:=by
 have h:=of_decide_eq_true h
 rw[qd3 hl,hn]at h
 rw[qd3 hl,hn,List.set_set,qd3 hl]
 have e:=qq8 h
 have e':binL .add .i64 (binL .rem .i64 n 268435456) 268435456=n % 268435456:=e
 rw[e']
 exact⟨rfl,qmd h0 h1⟩
theorem qmf {v:List Int} {i:Nat} {c n:Int} (hl:i<v.length) (hn:binL .add .i64 (v.getD i 0) c=n) (h0 : -9223372036317904896<=n) (h1:n<9223372036317904896)
  (h:decide ((v.set i (binL .rem .i64 (binL .add .i64 (v.getD i 0) c) 268435456)).getD i 0<0)=false) :
  v.set i (binL .rem .i64 (binL .add .i64 (v.getD i 0) c) 268435456)=v.set i (n % 268435456) /\
  binL .quo .i64 (binL .sub .i64 (binL .add .i64 (v.getD i 0) c) ((v.set i (binL .rem .i64 (binL .add .i64 (v.getD i 0) c) 268435456)).getD i 0)) 268435456=n / 268435456:=by
 have h:=of_decide_eq_false h
 rw[qd3 hl,hn]at h
 rw[qd3 hl,hn]
 have e':binL .rem .i64 n 268435456=n % 268435456:=qq9 h
 rw[e']
 exact⟨rfl,qmd h0 h1⟩
def zst (f:Int->Int->Int) (u w:List Int) (i:Nat):List Int:=(List.zipWith f u w).take i++u.drop i
theorem qin (f:Int->Int->Int) (u w:List Int):zst f u w 0=u:=by simp[zst]
theorem qio {f:Int->Int->Int} {u w:List Int} (h:u.length=w.length) (i:Nat):(zst f u w i).length=u.length:=by
 simp only[zst,List.length_append,List.length_take,List.length_zipWith,List.length_drop];omega
theorem qip {f:Int->Int->Int} {u w:List Int} (h:u.length=w.length) {i:Nat} (hi:i<u.length):(zst f u w i).getD i 0=u.getD i 0:=by
 have hl:((List.zipWith f u w).take i).length=i:=by simp only[List.length_take,List.length_zipWith];omega
 unfold zst
 rw[List.getD_eq_getElem?_getD,List.getElem?_append_right (by omega),hl,Nat.sub_self,List.getElem?_drop,Nat.add_zero,List.getD_eq_getElem?_getD]
theorem qiq {f:Int->Int->Int} {u w:List Int} (h:u.length=w.length) {i:Nat} (hi:i<u.length):zst f u w (i+1)=(zst f u w i).set i (f (u.getD i 0) (w.getD i 0)):=by
 have hl:((List.zipWith f u w).take i).length=i:=by simp only[List.length_take,List.length_zipWith];omega
 have hz:i<(List.zipWith f u w).length:=by simp only[List.length_zipWith];omega
 have e:u.getD i 0=u[i]:=by simp[List.getD,hi]
 have e2:w.getD i 0=w[i]'(by omega):=by simp[List.getD,show i<w.length by omega]
 unfold zst
 rw[List.take_succ_eq_append_getElem hz,List.set_append_right _ _ (by omega),hl,Nat.sub_self,List.drop_eq_getElem_cons hi,List.set_cons_zero,List.append_assoc,List.getElem_zipWith,e,e2]
 rfl
theorem qir {f:Int->Int->Int} {u w:List Int} (h:u.length=w.length) {i:Nat} (hi:u.length<=i):zst f u w i=List.zipWith f u w:=by
 unfold zst
 rw[List.drop_eq_nil_of_le hi,List.append_nil,List.take_of_length_le (by simp only[List.length_zipWith];omega)]
theorem qmg : ∀ (u w:List Int),u.length=w.length->valB 268435456 (List.zipWith (fun x y=>x-y) u w)=valB 268435456 u-valB 268435456 w
 | [],[],_=>rfl
 | x :: u,y :: w,h=>by
   have ih:=qmg u w (by simpa using h)
   simp only[List.zipWith_cons_cons,valB,ih];omega
 | [],_ :: _,h=>by simp at h
 | _ :: _,[],h=>by simp at h
theorem qmh : ∀ (u w:List Int),u.length=w.length->valB 268435456 (List.zipWith (fun x y=>x+y) u w)=valB 268435456 u+valB 268435456 w
 | [],[],_=>rfl
 | x :: u,y :: w,h=>by
   have ih:=qmh u w (by simpa using h)
   simp only[List.zipWith_cons_cons,valB,ih];omega
 | [],_ :: _,h=>by simp at h
 | _ :: _,[],h=>by simp at h
theorem qmi : ∀ (u w:List Int),u.length=w.length->valB 268435456 (List.zipWith (fun x y=>y-x) u w)=valB 268435456 w-valB 268435456 u
 | [],[],_=>rfl
 | x :: u,y :: w,h=>by
   have ih:=qmi u w (by simpa using h)
   simp only[List.zipWith_cons_cons,valB,ih];omega
 | [],_ :: _,h=>by simp at h
 | _ :: _,[],h=>by simp at h
theorem qfD {f:Int->Int->Int} {P:Int->Prop} : ∀ (u w:List Int),u.length=w.length->(∀ x ∈ u,∀ y ∈ w,P (f x y)) -> ∀ a ∈ List.zipWith f u w,P a
 | [],[],_,_,a,h=>by simp at h
 | x :: u,y :: w,h,hp,a,ha=>by
   simp only[List.zipWith_cons_cons,List.mem_cons]at ha
   rcases ha with rfl|ha
   · exact hp x (List.mem_cons_self ..) y (List.mem_cons_self ..)
   · exact qfD u w (by simpa using h) (fun x hx y hy=>hp x (List.mem_cons_of_mem _ hx) y (List.mem_cons_of_mem _ hy)) a ha
 | [],_ :: _,h,_,_,_=>by simp at h
 | _ :: _,[],h,_,_,_=>by simp at h
theorem qd4 : ∀ a ∈ pL,0<=a/\a<268435456:=by decide
structure Rp (V:Int) (k:Nat) (xs:List Int) (o:Int):Prop where
 len:xs.length=16
 bd : ∀ a ∈ xs,-4611686018427387904<a/\a<4611686018427387904
 val : ∃ q:Int,valB 268435456 xs=V+q*(726838724295606890549323807888004534353641360687318060281490199180612328166730772686396383698676545930088884461843637361053498018365439:Int)
 le:k<=3
 z:o=0 -> ∀ a ∈ xs,0<=a/\a<268435456
 k3:k=3->o ≠ 0
 k2:k=2 -> -68719476736*(1+268435456^8)<valB 268435456 xs/\valB 268435456 xs<268435456^16+68719476736*(1+268435456^8)
 k1:k=1->0<=valB 268435456 xs/\valB 268435456 xs<268435456^16
 k0:k=0->o=0
theorem Rp.start {xs:List Int} (h:xs.length=16) (hb : ∀ a ∈ xs,-4611686018427387904<a/\a<4611686018427387904):Rp (valB 268435456 xs) 3 xs 1 :=
 ⟨h,hb,⟨0,by omega⟩,Nat.le_refl _,fun h=>by omega,fun _=>by omega,fun h=>by omega,fun h=>by omega,fun h=>by omega⟩
theorem Rp.step {V o:Int} {k:Nat} {xs:List Int} (h:Rp V k xs o) (ho:o ≠ 0):k ≠ 0/\Rp V (k-1) (qaX xs) (rov xs 16):=by
 have hk:k ≠ 0:=fun e=>ho (h.k0 e)
 have hv:=qma h.len
 have hs:=qil h.len
 have hd:=qbV _ (qd1 h.len)
 have hob:=qd0 h.bd 16
 rw[qbw,h.len]at hd
 obtain⟨q,hq⟩:=h.val
 refine⟨hk,qq4 h.len,qq5 h.len h.bd,⟨q-rov xs 16,?_⟩,by have:=h.le;omega,fun hz=>qq6 h.len hz,fun e=>by have:=h.le;omega,fun e => ?_,fun e => ?_,fun e => ?_⟩
 ·rw[hv,hq];omega
 ·omega
 ·have:=h.k2 (by omega)
  omega
 ·have:=h.k1 (by omega)
  omega
theorem Rp.done {V:Int} {k:Nat} {xs:List Int} (h:Rp V k xs 0):(∀ a ∈ xs,0<=a/\a<268435456)/\(0<=valB 268435456 xs/\valB 268435456 xs<268435456^16)/\fI (valB 268435456 xs)=fI V:=by
 have hd:=h.z rfl
 have:=qbV _ hd
 rw[h.len]at this
 obtain⟨q,hq⟩:=h.val
 refine⟨hd,this,?_⟩
 rw[hq,qaD,fI_p];grind -lia -linarith -order -ac (splits:=0)
theorem qmj {u:List Int} (h:u.length=16) (hb : ∀ a ∈ u,-4611686018427387904<a/\a<4611686018427387904) :
  ((rst u 16).set 0 (binL .add .i64 ((rst u 16).getD 0 0) (rov u 16))).set 8 (binL .add .i64 (((rst u 16).set 0 (binL .add .i64 ((rst u 16).getD 0 0) (rov u 16))).getD 8 0) (rov u 16))=qaX u:=by
 have hl:(rst u 16).length=16:=by rw[qbw,h]
 have hd:=qd1 h
 have h0:=hd _ (qS (l:=rst u 16) (i:=0) (by omega))
 have h8:=hd _ (qS (l:=rst u 16) (i:=8) (by omega))
 have ho:=qd0 hb 16
 have e : ∀ x,((rst u 16).set 0 x).getD 8 0=(rst u 16).getD 8 0:=fun x=>by
  simp[List.getD,List.getElem?_set]
 rw[e,qF (by omega) (by omega),qF (by omega) (by omega)]
 rfl
theorem Rp.one {xs:List Int} (h:xs.length=16) (h0:0<=valB 268435456 xs) (h1:valB 268435456 xs<(726838724295606890549323807888004534353641360687318060281490199180612328166730772686396383698676545930088884461843637361053498018365439:Int)):rov xs 16=0:=by
 have hs:=qil h
 have hd:=qbV _ (qd1 h)
 rw[qbw,h]at hd
 omega
theorem qmk {xs:List Int} {V:Int} (hl:xs.length=16) (hd : ∀ a ∈ xs,0<=a/\a<268435456) (h1:valB 268435456 xs<(726838724295606890549323807888004534353641360687318060281490199180612328166730772686396383698676545930088884461843637361053498018365439:Int)) (hv:fI (valB 268435456 xs)=fI V):okRe (fI V) xs:=by
 have h0:=(qbV _ hd).1
 refine⟨hl,hd,?_⟩
 rw[<- hv,qbc,Int.emod_eq_of_lt h0]
 exact h1
end Go.Sx
end
