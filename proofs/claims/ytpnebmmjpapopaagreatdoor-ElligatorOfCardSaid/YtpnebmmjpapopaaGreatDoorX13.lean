/-
  Part of the proof of a statement: the means.
-/
import Derived.Test.YtpnebmmjpapopaaGreatDoorX6
set_option linter.unusedSectionVars false
set_option linter.unusedVariables false
set_option linter.unusedSimpArgs false
set_option linter.deprecated false
section
namespace Go.Sx
def W64 (xs:List Int):Prop :=∀ a ∈ xs,0<=a/\a<18446744073709551616
def wV:List Int->Nat
 | []=>0
 | x :: l=>x.toNat+18446744073709551616*wV l
def natW (N:Nat):List Int :=
 if h:N=0 then [] else ((N % 18446744073709551616:Nat):Int) :: natW (N / 18446744073709551616)
termination_by N
decreasing_by exact Nat.div_lt_self (Nat.pos_of_ne_zero h) (by decide)
theorem qdd:natW 0=[]:=by rw[natW];rfl
theorem qhe {N:Nat} (h:N ≠ 0):natW N=((N % 18446744073709551616:Nat):Int) :: natW (N / 18446744073709551616):=by
 rw[natW,dif_neg h]
theorem qtR (N:Nat):wV (natW N)=N:=by
 induction N using Nat.strongRecOn with
 | _ N ih =>
   by_cases h:N=0
   · rw[h,qdd];rfl
   · rw[qhe h]
     simp only[wV,Int.toNat_natCast]
     rw[ih _ (Nat.div_lt_self (Nat.pos_of_ne_zero h) (by decide))]
     exact Nat.mod_add_div N _
theorem qtS (N:Nat):W64 (natW N):=by
 induction N using Nat.strongRecOn with
 | _ N ih =>
   by_cases h:N=0
   · rw[h,qdd];intro a ha;cases ha
   · rw[qhe h]
     intro a ha
     rcases List.mem_cons.1 ha with rfl|ha
     · have:=Nat.mod_lt N (show 0<18446744073709551616 by decide)
       omega
     · exact ih _ (Nat.div_lt_self (Nat.pos_of_ne_zero h) (by decide)) a ha
theorem qtT {k:Nat} : ∀ {N:Nat},N<18446744073709551616^k->(natW N).length<=k:=by
 induction k with
 | zero => intro N h;have:N=0:=by simpa using h
           rw[this,qdd];exact Nat.le_refl _
 | succ k ih =>
   intro N h
   by_cases h0:N=0
   · rw[h0,qdd];exact Nat.zero_le _
   · rw[qhe h0,List.length_cons]
     refine Nat.succ_le_succ (ih ?_)
     rw[Nat.pow_succ]at h
     exact Nat.div_lt_of_lt_mul (by rw[Nat.mul_comm];exact h)
theorem qhf : ∀ {xs:List Int},(∀ j,xs.getD j 0=0)->wV xs=0
 | [],_=>rfl
 | x :: l,h=>by
   have h0:x=0:=h 0
   have hl:wV l=0:=qhf fun j=>h (j+1)
   simp[wV,h0,hl]
theorem qhg : ∀ {xs:List Int} {n:Nat},W64 xs->n<=xs.length->(∀ j,n<=j->xs.getD j 0=0)->(n=0\/xs.getD (n-1) 0 ≠ 0)->xs.take n=natW (wV xs)
 | [],n,_,hn,_,_=>by
   have:n=0:=by simpa using hn
   subst this
   rw[show wV []=0 from rfl,qdd];rfl
 | x :: l,0,_,_,hz,_=>by
   rw[qhf fun j=>hz j (Nat.zero_le _),qdd];rfl
 | x :: l,n+1,hw,hn,hz,hl=>by
   have hx:=hw x (List.mem_cons_self ..)
   obtain⟨m,rfl⟩:=Int.eq_ofNat_of_zero_le hx.1
   have hm:m<18446744073709551616:=by have:=hx.2;omega
   have hl2:n=0\/l.getD (n-1) 0 ≠ 0:=by
     cases n with
     | zero=>exact .inl rfl
     | succ n =>
       rcases hl with h|h
       · cases h
       · exact .inr h
   have ih:=qhg (xs:=l) (n:=n) (fun a ha=>hw a (List.mem_cons_of_mem _ ha)) (by simpa using hn) (fun j hj=>by have:=hz (j+1) (by omega);exact this) hl2
   have hne:wV ((m:Int) :: l) ≠ 0:=by
     simp only[wV,Int.toNat_natCast]
     intro h0
     have e1:m=0:=by omega
     have e2:wV l=0:=by omega
     rw[e2,qdd]at ih
     cases n with
     | zero =>
       rcases hl with h|h
       · cases h
       · exact h (by show((m:Nat):Int)=0;omega)
     | succ n =>
       have:(l.take (n+1)).length=0:=by rw[ih];rfl
       rw[List.length_take]at this
       have:=List.length_cons (a:=(m:Int)) (as:=l)
       omega
   rw[qhe hne,List.take_succ_cons,ih]
   simp only[wV,Int.toNat_natCast]
   rw[Nat.add_mul_mod_self_left,Nat.mod_eq_of_lt hm,Nat.add_mul_div_left _ _ (by decide),Nat.div_eq_of_lt hm,Nat.zero_add]
theorem qde : ∀ {xs:List Int},W64 xs->wV xs<18446744073709551616^xs.length
 | [],_=>by simp[wV]
 | x :: l,h=>by
   have hx:=h x (List.mem_cons_self ..)
   have ih:=qde (xs:=l) fun a ha=>h a (List.mem_cons_of_mem _ ha)
   simp only[wV,List.length_cons,Nat.pow_succ]
   have:x.toNat<18446744073709551616:=by omega
   have h2:18446744073709551616*(wV l+1)<=18446744073709551616*18446744073709551616^l.length:=Nat.mul_le_mul_left _ ih
   rw[Nat.mul_comm (18446744073709551616^l.length)]
   omega
theorem qot : ∀ {xs:List Int} (i:Nat),W64 xs->(xs.getD i 0).toNat=wV xs / 18446744073709551616^i % 18446744073709551616
 | [],i,_=>by simp[wV]
 | x :: l,0,h=>by
   have hx:=h x (List.mem_cons_self ..)
   simp only[wV,List.getD_cons_zero,Nat.pow_zero,Nat.div_one]
   rw[Nat.add_mul_mod_self_left,Nat.mod_eq_of_lt (by omega)]
 | x :: l,i+1,h=>by
   have hx:=h x (List.mem_cons_self ..)
   rw[List.getD_cons_succ,qot i fun a ha=>h a (List.mem_cons_of_mem _ ha)]
   simp only[wV]
   rw[Nat.pow_succ,Nat.mul_comm (18446744073709551616^i),<- Nat.div_div_eq_div_mul,Nat.add_mul_div_left _ _ (by decide),Nat.div_eq_of_lt (show x.toNat<18446744073709551616 by omega),Nat.zero_add]
theorem qdf {xs:List Int} (h:W64 xs) (i:Nat):0<=xs.getD i 0/\xs.getD i 0<18446744073709551616:=by
 rw[List.getD_eq_getElem?_getD]
 cases hi:xs[i]? with
 | none=>simp
 | some a=>exact h a (List.mem_of_getElem? hi)
theorem W64.take {xs:List Int} (h:W64 xs) (n:Nat):W64 (xs.take n):=fun a ha=>h a (List.mem_of_mem_take ha)
theorem qfc : ∀ (xs:List Int) (i:Nat),wV (xs.take (i+1))=wV (xs.take i)+(xs.getD i 0).toNat*18446744073709551616^i
 | [],i=>by simp[wV]
 | x :: l,0=>by simp[wV]
 | x :: l,i+1=>by
   rw[List.take_succ_cons,List.take_succ_cons,List.getD_cons_succ]
   simp only[wV]
   rw[qfc l i,Nat.pow_succ,Nat.mul_add,Nat.add_assoc]
   congr 2
   rw[Nat.mul_comm (18446744073709551616^i),<- Nat.mul_assoc,<- Nat.mul_assoc,Nat.mul_comm 18446744073709551616]
theorem qtU {u:List Int} {i:Nat} {v:Int} (hu:W64 u) (hv:0<=v/\v<18446744073709551616):W64 (u.set i v):=by
 intro a ha
 rcases List.mem_or_eq_of_mem_set ha with h|h
 ·exact hu a h
 ·rw[h];exact hv
theorem qou {xs:List Int} {n:Nat} (h:xs.length<=n):xs.take n=xs:=List.take_of_length_le h
theorem IsLen.up {V s z:Nat} (h:IsLen (V / 2^s) z) (hV:2^s<=V):IsLen V (z+s):=by
 have hp:0<2^s:=Nat.pow_pos (by decide)
 have h1:1<=V / 2^s:=(Nat.le_div_iff_mul_le hp).2 (by omega)
 refine⟨?_,.inr ?_⟩
 ·rw[Nat.pow_add]
  exact(Nat.div_lt_iff_lt_mul hp).1 h.1
 ·have hz:z ≠ 0:=by
   rintro rfl
   have:=h.1
   simp at this
   omega
  have h2:2^(z-1)<=V / 2^s:=by
   rcases h.2 with e|e
   ·exact absurd e hz
   ·exact e
  rw[show z+s-1=z-1+s by omega,Nat.pow_add]
  exact(Nat.le_div_iff_mul_le hp).1 h2
def len8 (b:Nat):Nat:=if b=0 then 0 else if b<2 then 1 else if b<4 then 2 else if b<8 then 3 else if b<16 then 4 else if b<32 then 5 else if b<64 then 6 else if b<128 then 7 else 8
theorem qcB {b:Nat} (h:b<256):IsLen b (len8 b):=by
 unfold len8 IsLen
 repeat' split
 all_goals simp_all
 all_goals omega
theorem qaJ (b:Nat):len8 b<=8:=by
 unfold len8
 repeat' split
 all_goals omega
def tab8:List Int:=(List.range 256).map fun b=>(len8 b:Int)
theorem qcC {b:Nat} (h:b<256):tab8.getD b 0=(len8 b:Int):=by
 unfold tab8
 rw[List.getD_eq_getElem?_getD,List.getElem?_map,List.getElem?_range h]
 rfl
end Go.Sx
end
section
namespace Go.Sx
def wd (V j:Nat):Nat:=V / 18446744073709551616^j % 18446744073709551616
theorem qko (V j:Nat):wd V j<18446744073709551616:=Nat.mod_lt _ (by decide)
theorem w_wd {xs:List Int} (h:W64 xs) (j:Nat):xs.getD j 0=((wd (wV xs) j:Nat):Int):=by
 have h1:=qdf h j
 have h2:=qot j h
 unfold wd
 omega
theorem qov : ∀ {xs:List Int} {n:Nat},(∀ j,n<=j->xs.getD j 0=0)->wV (xs.take n)=wV xs
 | [],n,_=>by simp[wV]
 | x :: l,0,h=>by rw[qhf (xs:=x :: l) fun j=>h j (Nat.zero_le _)];rfl
 | x :: l,n+1,h=>by
   rw[List.take_succ_cons]
   simp only[wV]
   rw[qov fun j hj=>by have:=h (j+1) (by omega);rwa[List.getD_cons_succ]at this]
theorem wpow (i:Nat):18446744073709551616^i=2^(64*i):=by
 rw[Nat.pow_mul]
theorem qtV {xs:List Int} (h:W64 xs) (n:Nat):wV (xs.take n)<18446744073709551616^n :=
 Nat.lt_of_lt_of_le (qde (h.take n)) (Nat.pow_le_pow_right (by decide) (by rw[List.length_take];exact Nat.min_le_left _ _))
theorem qtW {xs:List Int} {n z:Nat} (h:W64 xs) (hz : ∀ j,n+1<=j->xs.getD j 0=0) (h0:xs.getD n 0 ≠ 0) (hl:IsLen (xs.getD n 0).toNat z):IsLen (wV xs) (z+64*n):=by
 have e:=qfc xs n
 rw[qov hz]at e
 have hlt:=qtV h n
 have hb:=qdf h n
 have hp:0<18446744073709551616^n:=Nat.pow_pos (by decide)
 have hd:wV xs / 2^(64*n)=(xs.getD n 0).toNat:=by
  rw[<- wpow,e,Nat.add_mul_div_right _ _ hp,Nat.div_eq_of_lt hlt,Nat.zero_add]
 refine IsLen.up (by rw[hd];exact hl) ?_
 rw[<- wpow,e]
 have h1:1<=(xs.getD n 0).toNat:=by omega
 have:=Nat.mul_le_mul_right (18446744073709551616^n) h1
 omega
def cmpN (A B:Nat):Int:=if A<B then -1 else if B<A then 1 else 0
theorem qkp (V i:Nat):V / 18446744073709551616^i=18446744073709551616*(V / 18446744073709551616^(i+1))+wd V i:=by
 unfold wd
 rw[Nat.pow_succ,<- Nat.div_div_eq_div_mul]
 exact(Nat.div_add_mod _ _).symm
theorem qow {A B i:Nat} (h:A / 18446744073709551616^(i+1)=B / 18446744073709551616^(i+1)):(wd A i<wd B i->A<B)/\(wd A i=wd B i->A / 18446744073709551616^i=B / 18446744073709551616^i):=by
 have ha:=qkp A i
 have hb:=qkp B i
 constructor
 ·intro hl
  apply qtJ (w:=18446744073709551616^i)
  rw[ha,hb,h];omega
 ·intro hl
  rw[ha,hb,h,hl]
theorem qox {xs:List Int} (h:W64 xs) {n:Nat} (hn:xs.length<=n):wV xs / 18446744073709551616^n=0 :=
 Nat.div_eq_of_lt (Nat.lt_of_lt_of_le (qde h) (Nat.pow_le_pow_right (by decide) hn))
structure Subs (xs ys:List Int) (N i:Nat) (o:Int) (u:List Int):Prop where
 len:u.length=N
 w:W64 u
 z : ∀ j,i<=j->u.getD j 0=0
 ov:o=0\/o=1
 val:wV (u.take i)+wV (ys.take i)=wV (xs.take i)+o.toNat*18446744073709551616^i
theorem Subs.start (xs ys:List Int) (N:Nat):Subs xs ys N 0 0 (List.replicate N 0) :=
 ⟨by simp,fun a ha=>by rw[List.eq_of_mem_replicate ha];decide,fun j _=>by rw[List.getD_eq_getElem?_getD,List.getElem?_replicate];split<;>rfl,.inl rfl,by simp[wV]⟩
theorem Subs.step {xs ys u:List Int} {N i:Nat} {o:Int} (h:Subs xs ys N i o u) (hx:W64 xs) (hy:W64 ys) (hi:i<N) :
  Subs xs ys N (i+1) (if xs.getD i 0<ys.getD i 0+o then 1 else 0) (u.set i ((xs.getD i 0-ys.getD i 0-o) % 18446744073709551616)):=by
 have bx:=qdf hx i
 have bY:=qdf hy i
 have hx':=qfc xs i
 have hy':=qfc ys i
 obtain⟨hl,hw,hz,ho,hv⟩:=h
 generalize xs.getD i 0=x at *
 generalize ys.getD i 0=y at *
 obtain⟨r,hr⟩ : ∃ r,(x-y-o) % 18446744073709551616=r:=⟨_,rfl⟩
 obtain⟨o',ho'⟩ : ∃ o':Int,(if x<y+o then 1 else 0)=o':=⟨_,rfl⟩
 have hoo:o'=0\/o'=1:=by rw[<- ho'];split<;>simp
 have hre:r=x-y-o+o'*18446744073709551616:=by
  rw[<- hr,<- ho']
  split<;>omega
 rw[hr,ho']
 have br:0<=r/\r<18446744073709551616:=by omega
 refine⟨by rw[List.length_set];exact hl,qtU hw br,fun j hj => ?_,hoo,?_⟩
 ·rw[getD_set (by omega),if_neg (by omega)]
  exact hz j (by omega)
 ·rw[qfc,getD_set (by omega),if_pos rfl,hx',hy']
  have et:(u.set i r).take i=u.take i:=by
   rw[List.take_set]
   exact List.set_eq_of_length_le (by rw[List.length_take];omega)
  rw[et,Nat.pow_succ]
  have hn:r.toNat+y.toNat+o.toNat=x.toNat+o'.toNat*18446744073709551616:=by omega
  generalize 18446744073709551616^i=W at *
  have hm:(r.toNat+y.toNat+o.toNat)*W=(x.toNat+o'.toNat*18446744073709551616)*W:=by rw[hn]
  rw[Nat.add_mul,Nat.add_mul,Nat.add_mul]at hm
  rw[Nat.mul_comm W,<- Nat.mul_assoc]
  omega
theorem qoy : ∀ {xs:List Int} (n:Nat),W64 xs -> ∃ q,wV xs=wV (xs.take n)+q*18446744073709551616^n
 | [],n,_=>⟨0,by simp[wV]⟩
 | x :: l,0,_=>⟨wV (x :: l),by simp[wV]⟩
 | x :: l,n+1,h=>by
   obtain⟨q,hq⟩:=qoy (xs:=l) n fun a ha=>h a (List.mem_cons_of_mem _ ha)
   refine⟨q,?_⟩
   rw[List.take_succ_cons]
   simp only[wV]
   rw[hq,Nat.pow_succ,Nat.mul_add,Nat.add_assoc]
   congr 2
   rw[<- Nat.mul_assoc,Nat.mul_comm 18446744073709551616 q,Nat.mul_assoc,Nat.mul_comm 18446744073709551616]
theorem Subs.done {xs ys u:List Int} {o:Int} (h:Subs xs ys xs.length xs.length o u) (hx:W64 xs) (hy:W64 ys) (hle:wV ys<=wV xs):wV u=wV xs-wV ys:=by
 have hv:=h.val
 have hu:=qde h.w
 rw[h.len]at hu
 rw[qou (by rw[h.len];exact Nat.le_refl _),qou (Nat.le_refl _)]at hv
 have hxl:=qde hx
 have e:wV (ys.take xs.length)=wV ys:=by
  obtain⟨q,hq⟩:=qoy xs.length hy
  have:q=0:=by
   cases q with
   | zero=>rfl
   | succ q =>
     rw[Nat.add_mul]at hq
     generalize 18446744073709551616^xs.length=W at *
     omega
  rw[this]at hq
  omega
 rw[e]at hv
 rcases h.ov with e|e<;>subst e
 ·simp at hv;omega
 ·simp at hv;omega
end Go.Sx
end
section
namespace Go.Sx
structure Prod (xs ys:List Int) (i k:Nat) (o:Int) (u:List Int):Prop where
 len:u.length=xs.length+ys.length
 w:W64 u
 z : ∀ j,i+ys.length<=j->u.getD j 0=0
 ov:0<=o/\o<18446744073709551616
 val:wV u+o.toNat*18446744073709551616^(i+k)=wV (xs.take i)*wV ys+(xs.getD i 0).toNat*wV (ys.take k)*18446744073709551616^i
theorem qtX (n j:Nat):(List.replicate n (0:Int)).getD j 0=0:=by
 rw[List.getD_eq_getElem?_getD,List.getElem?_replicate];split<;>rfl
def shV (V:Nat) (by':Int):Nat:=if 0<=by' then V*2^by'.toNat else V / 2^(-by').toNat
def wdI (V:Nat) (j:Int):Nat:=if 0<=j then wd V j.toNat else 0
theorem qtY {V U:Nat} (hU:U<64) (j:Nat):wd (V*2^U) (j+1)=wd V (j+1)*2^U % 18446744073709551616+wd V j / 2^(64-U):=by
 have h2:(18446744073709551616:Nat)=2^(64-U)*2^U:=by rw[<- Nat.pow_add,show 64-U+U=64 by omega]
 have hp:0<2^U:=Nat.pow_pos (by decide)
 have hp2:0<2^(64-U):=Nat.pow_pos (by decide)
 have hV:=qkp V j
 have e1:V*2^U / 18446744073709551616^(j+1)=(V / 18446744073709551616^j) / 2^(64-U):=by
  rw[Nat.div_div_eq_div_mul,Nat.pow_succ]
  conv=>lhs;rw[show 18446744073709551616^j*18446744073709551616=(18446744073709551616^j*2^(64-U))*2^U by rw[Nat.mul_assoc,<- h2]]
  exact Nat.mul_div_mul_right _ _ hp
 have e2:V / 18446744073709551616^j / 2^(64-U)=2^U*(V / 18446744073709551616^(j+1))+wd V j / 2^(64-U):=by
  rw[hV]
  conv=>lhs;rw[show 18446744073709551616*(V / 18446744073709551616^(j+1))=2^(64-U)*(2^U*(V / 18446744073709551616^(j+1)))by rw[<- Nat.mul_assoc,<- h2]]
  rw[Nat.mul_add_div hp2]
 unfold wd at e2 ⊢
 rw[e1,e2]
 generalize hQ:V / 18446744073709551616^(j+1)=Q at *
 have hq:V / 18446744073709551616^j % 18446744073709551616 / 2^(64-U)<2^U:=by
  apply Nat.div_lt_of_lt_mul
  rw[<- h2]
  exact Nat.mod_lt _ (by decide)
 generalize V / 18446744073709551616^j % 18446744073709551616 / 2^(64-U)=r at *
 have e3:Q % 18446744073709551616*2^U % 18446744073709551616=2^U*Q % 18446744073709551616:=by
  rw[Nat.mod_mul_mod,Nat.mul_comm]
 rw[e3]
 have e4:2^U*Q % 18446744073709551616=2^U*(Q % 2^(64-U)):=by
  rw[h2,Nat.mul_comm (2^(64-U)),Nat.mul_mod_mul_left]
 have e5:(2^U*Q+r) % 18446744073709551616=2^U*(Q % 2^(64-U))+r:=by
  have hlt:2^U*(Q % 2^(64-U))+r<18446744073709551616:=by
   have:Q % 2^(64-U)<2^(64-U):=Nat.mod_lt _ hp2
   have h3:=Nat.mul_le_mul_left (2^U) (show Q % 2^(64-U)+1<=2^(64-U)by omega)
   rw[Nat.mul_add,Nat.mul_comm (2^U) (2^(64-U)),<- h2]at h3
   omega
  rw[Nat.add_mod,e4,Nat.mod_eq_of_lt (show r<18446744073709551616 by omega),Nat.mod_eq_of_lt hlt]
 rw[e5,e4]
theorem qtZ (V U:Nat):wd (V*2^U) 0=wd V 0*2^U % 18446744073709551616:=by
 unfold wd
 rw[Nat.pow_zero,Nat.div_one,Nat.div_one,Nat.mod_mul_mod]
theorem qt0 {V U:Nat} (hU:U<64) (j:Int):wdI V j*2^U % 18446744073709551616+wdI V (j-1) / 2^(64-U)=wdI (V*2^U) j:=by
 unfold wdI
 by_cases h:0<=j
 ·rw[if_pos h,if_pos h]
  by_cases h1:0<=j-1
  ·rw[if_pos h1]
   have:j.toNat=(j-1).toNat+1:=by omega
   rw[this,qtY hU]
  ·rw[if_neg h1]
   have:j.toNat=0:=by omega
   rw[this,qtZ,Nat.zero_div,Nat.add_zero]
 ·rw[if_neg h,if_neg h,if_neg (by omega)]
  simp
theorem qoz {a b U:Nat} (hb:b<2^U):a*2^U ||| b=a*2^U+b:=by
 rw[<- Nat.shiftLeft_eq,Nat.shiftLeft_add_eq_or_of_lt hb]
theorem qt1 {V U:Nat} (hU:U<64) (j:Int):wdI V j*2^U % 18446744073709551616 ||| wdI V (j-1) / 2^(64-U)=wdI (V*2^U) j:=by
 rw[<- qt0 hU]
 have h2:(18446744073709551616:Nat)=2^(64-U)*2^U:=by rw[<- Nat.pow_add,show 64-U+U=64 by omega]
 have e:wdI V j*2^U % 18446744073709551616=(wdI V j % 2^(64-U))*2^U:=by
  conv=>lhs;rw[h2]
  rw[Nat.mul_mod_mul_right]
 rw[e]
 apply qoz
 apply Nat.div_lt_of_lt_mul
 rw[<- h2]
 unfold wdI
 split
 ·exact qko _ _
 ·decide
theorem qkq : ∀ {u:List Int} {R:Nat},(∀ j,j<u.length->u.getD j 0=((wd R j:Nat):Int))->wV u=R % 18446744073709551616^u.length
 | [],R,_=>by simp[wV,Nat.mod_one]
 | x :: l,R,h=>by
   have h0:x=((R % 18446744073709551616:Nat):Int):=by
     have:=h 0 (Nat.succ_pos _)
     rw[List.getD_cons_zero]at this
     rw[this];unfold wd;rw[Nat.pow_zero,Nat.div_one]
   have hl:=qkq (u:=l) (R:=R / 18446744073709551616) fun j hj=>by
     have:=h (j+1) (by simpa using hj)
     rw[List.getD_cons_succ]at this
     rw[this]
     unfold wd
     rw[Nat.pow_succ,Nat.mul_comm,<- Nat.div_div_eq_div_mul]
   simp only[wV,List.length_cons]
   rw[hl,h0,Int.toNat_natCast,Nat.pow_succ,Nat.mul_comm (_^_),Nat.mod_mul]
theorem qoA {u:List Int} {R:Nat} (h : ∀ j,j<u.length->u.getD j 0=((wd R j:Nat):Int)):W64 u:=by
 intro a ha
 obtain⟨j,hj,rfl⟩:=List.mem_iff_getElem.1 ha
 have:=h j hj
 rw[List.getD_eq_getElem?_getD,List.getElem?_eq_getElem hj]at this
 have hl:=qko R j
 simp only[Option.getD_some]at this
 omega
theorem qt2 {V W:Nat} (j:Int) (hj:0<=j):wdI V (j-W)=wd (V*18446744073709551616^W) j.toNat:=by
 unfold wdI wd
 have hp:0<18446744073709551616^W:=Nat.pow_pos (by decide)
 split
 ·rename_i h
  have:j.toNat=(j-W).toNat+W:=by omega
  rw[this,Nat.pow_add,Nat.mul_div_mul_right _ _ hp]
 ·rename_i h
  obtain⟨d,hd⟩ : ∃ d,W=j.toNat+1+d:=⟨W-j.toNat-1,by omega⟩
  rw[hd,Nat.pow_add,Nat.pow_succ,Nat.mul_comm V,Nat.mul_assoc,Nat.mul_assoc,Nat.mul_div_cancel_left _ (Nat.pow_pos (by decide)),Nat.mul_mod_right]
theorem qt3 {V W:Nat} (j:Nat):wdI V ((j:Int)+W)=wd (V / 18446744073709551616^W) j:=by
 unfold wdI wd
 rw[if_pos (by omega),Nat.div_div_eq_div_mul,<- Nat.pow_add]
 have:((j:Int)+W).toNat=W+j:=by omega
 rw[this]
theorem qoB {xs u:List Int} (hx:W64 xs) {W:Int} {U:Nat} {by':Int} (hU:U<64) (hb:by'=64*W+U) (hl:(u.length:Int)=max 0 (xs.length+W+1))
  (h : ∀ j,j<u.length->u.getD j 0=((wdI (wV xs*2^U) ((j:Int)-W):Nat):Int)):wV u=shV (wV xs) by'/\W64 u:=by
 have hlt:=qde hx
 have hp:2^U<18446744073709551616:=Nat.lt_of_lt_of_le (Nat.pow_lt_pow_right (by decide) hU) (by decide)
 have hVU:wV xs*2^U<18446744073709551616^(xs.length+1):=by
  rw[Nat.pow_succ]
  exact Nat.mul_lt_mul'' hlt hp
 unfold shV
 rcases Int.lt_or_le W 0 with hW|hW
 ·obtain⟨w,rfl⟩ : ∃ w:Nat,W = -(w:Int):=⟨(-W).toNat,by omega⟩
  have hj : ∀ j,j<u.length->u.getD j 0=((wd (wV xs*2^U / 18446744073709551616^w) j:Nat):Int):=fun j hj=>by
   rw[h j hj,<- qt3]
   congr 2
   omega
  refine⟨?_,qoA hj⟩
  rw[qkq hj,if_neg (by omega),wpow,Nat.mod_eq_of_lt]
  ·have:64*w=U+(-by').toNat:=by omega
   rw[this,Nat.pow_add,Nat.mul_comm (wV xs),Nat.mul_div_mul_left _ _ (Nat.pow_pos (by decide))]
  ·rw[<- wpow]
   apply Nat.div_lt_of_lt_mul
   rw[<- Nat.pow_add]
   exact Nat.lt_of_lt_of_le hVU (Nat.pow_le_pow_right (by decide) (by omega))
 ·obtain⟨w,rfl⟩ : ∃ w:Nat,W=(w:Int):=⟨W.toNat,by omega⟩
  have hj : ∀ j,j<u.length->u.getD j 0=((wd (wV xs*2^U*18446744073709551616^w) j:Nat):Int):=fun j hj=>by
   rw[h j hj,qt2 _ (by omega),Int.toNat_natCast]
  refine⟨?_,qoA hj⟩
  rw[qkq hj,if_pos (by omega),Nat.mod_eq_of_lt,Nat.mul_assoc,wpow,<- Nat.pow_add]
  ·congr 2;omega
  ·have:u.length=(xs.length+1)+w:=by omega
   rw[this,Nat.pow_add]
   exact Nat.mul_lt_mul_of_pos_right hVU (Nat.pow_pos (by decide))
end Go.Sx
end
section
namespace Go.Sx
theorem ushl (a:Int) (k:Nat) (hk:k<=64):binL .shl .u64 a (k:Int)=a*((2^k:Nat):Int) % 18446744073709551616:=by
 show IntKind.u64.wrap (a*2^(min (k:Int).toNat 64))=_
 rw[IntKind.wrap_u64,Int.toNat_natCast,Nat.min_eq_left hk]
 push_cast
 rfl
theorem uorN {a b:Nat} (ha:a<18446744073709551616) (hb:b<18446744073709551616):binL .or .u64 (a:Int) (b:Int)=((a ||| b:Nat):Int):=by
 rw[uorb,BitVec.ofInt_natCast,BitVec.ofInt_natCast,BitVec.toNat_or,BitVec.toNat_ofNat,BitVec.toNat_ofNat,Nat.mod_eq_of_lt ha,Nat.mod_eq_of_lt hb]
theorem qoC {V U:Nat} (hU:U<64) (j:Int) :
  binL .or .u64 (binL .shl .u64 ((wdI V j:Nat):Int) (U:Int)) (binL .shr .u64 ((wdI V (j-1):Nat):Int) (64-U:Nat))=((wdI (V*2^U) j:Nat):Int):=by
 rw[ushl _ _ (by omega),ushr _ _ (by omega),<- qt1 hU]
 have e1:((wdI V j:Nat):Int)*((2^U:Nat):Int) % 18446744073709551616=((wdI V j*2^U % 18446744073709551616:Nat):Int):=by
  rw[<- Int.natCast_mul];rfl
 have e2:((wdI V (j-1):Nat):Int) / ((2^(64-U):Nat):Int)=((wdI V (j-1) / 2^(64-U):Nat):Int):=rfl
 rw[e1,e2]
 apply uorN
 ·exact Nat.mod_lt _ (by decide)
 ·refine Nat.lt_of_le_of_lt (Nat.div_le_self _ _) ?_
  unfold wdI;split
  ·exact qko _ _
  ·decide
theorem qt4 (i:Nat):256^i=2^(8*(i % 8))*18446744073709551616^(i / 8):=by
 rw[wpow,<- Nat.pow_add,show(256:Nat)=2^8 from rfl,<- Nat.pow_mul]
 congr 1;omega
theorem qt5 (V i:Nat):wd V (i / 8) / 2^(8*(i % 8)) % 256=V / 256^i % 256:=by
 unfold wd
 have h2:(18446744073709551616:Nat)=2^(8*(i % 8))*(256*2^(56-8*(i % 8))):=by
  rw[show(256:Nat)=2^8 from rfl,<- Nat.pow_add,<- Nat.pow_add]
  have:8*(i % 8)+(8+(56-8*(i % 8)))=64:=by omega
  rw[this]
 rw[qt4,Nat.mul_comm (2^(8*(i % 8))),<- Nat.div_div_eq_div_mul]
 generalize V / 18446744073709551616^(i / 8)=Q
 conv=>lhs;rw[h2]
 rw[Nat.mod_mul_right_div_self,Nat.mod_mul_right_mod]
theorem qt6 (V i:Nat):IntKind.u8.wrap (binL .shr .u64 ((wd V (i / 8):Nat):Int) ((8*(i % 8):Nat):Int))=((V / 256^i % 256:Nat):Int):=by
 rw[ushr _ _ (by omega),IntKind.wrap_u8,<- qt5]
 rfl
theorem qt7 {xs:List Int} (h:W64 xs) (i:Nat):(if 0<=(i:Int) then xs.getD (i:Int).toNat 0 else 0)=((wd (wV xs) i:Nat):Int):=by
 rw[if_pos (by omega),Int.toNat_natCast,w_wd h]
theorem qhh {xs:List Int} (h:W64 xs) (i:Int):(if 0<=i then xs.getD i.toNat 0 else 0)=((wdI (wV xs) i:Nat):Int):=by
 unfold wdI
 split
 ·rw[w_wd h]
 ·rfl
theorem qt8 {xs:List Int} (h:W64 xs) (hl:xs.length<1000000) : ∃ z,IsLen (wV xs) z/\z<=64000000:=by
 have h1:=qde h
 rw[wpow]at h1
 obtain⟨z,h2,h3⟩:=qkn h1
 exact⟨z,h2,by omega⟩
theorem qt9:IsLen 0 0:=⟨by decide,.inl rfl⟩
end Go.Sx
end
section
namespace Go.Sx
def LN:Nat:=181709681073901722637330951972001133588410340171829515070372549795146003961539585716195755291692375963310293709091662304773755859649779
def T446:Nat:=2^223*2^223
def qhi:Nat:=13818066809895115352007386748515426880336692474882178609894547503885
def qcD:List Int:=[15890737349981092621,16038230375712583850,4301259484579875183,2201345046]
theorem qua:wV qcD=qhi:=by decide +kernel
theorem qub:W64 qcD:=by
 intro a ha
 have:a ∈ qcD:=ha
 simp only[qcD,List.mem_cons,List.not_mem_nil,or_false]at this
 omega
theorem quc:T446-qhi=LN:=by decide +kernel
theorem qud:qhi<=T446:=by decide +kernel
theorem qkr:LN<T446:=by decide +kernel
theorem qoD:T446<18446744073709551616^7:=by decide +kernel
theorem qoE:T446<256^57:=by decide +kernel
theorem que (V n m:Nat):shV V ((n+m:Nat):Int)=V*(2^n*2^m):=by
 unfold shV
 rw[if_pos (by omega),Int.toNat_natCast,Nat.pow_add]
theorem quf (V:Nat):shV V 446=V*T446:=que V 223 223
theorem qug:shV (wV [1]) 446=T446:=by
 rw[quf,show wV [1]=1 from rfl,Nat.one_mul]
theorem quh:W64 [1]:=by
 intro a ha
 rw[List.mem_singleton.1 ha];decide
theorem nw {l:List Int} {N:Nat} (k:Nat) (h:l=natW N) (hN:N<18446744073709551616^k) (hk:k<1000000):(W64 l/\l.length<1000000)/\wV l=N:=by
 subst h
 exact⟨⟨qtS N,Nat.lt_of_le_of_lt (qtT hN) hk⟩,qtR N⟩
theorem nwT {l:List Int} (h:l=natW T446):(W64 l/\l.length<1000000)/\wV l=T446:=nw 7 h qoD (by decide)
theorem nwL {l:List Int} (h:l=natW LN):(W64 l/\l.length<1000000)/\wV l=LN:=nw 7 h (Nat.lt_trans qkr qoD) (by decide)
theorem nwC {l:List Int} (h:l=qcD):(W64 l/\l.length<1000000)/\wV l=qhi:=by
 subst h
 exact⟨⟨qub,by decide⟩,qua⟩
end Go.Sx
end
section
namespace Go.Sx
theorem sorN {a b:Nat} (ha:a<9223372036854775808) (hb:b<9223372036854775808):binL .or .i64 (a:Int) (b:Int)=((a ||| b:Nat):Int):=by
 show IntKind.i64.wrap ((BitVec.ofInt 64 (a:Int) ||| BitVec.ofInt 64 (b:Int)).toNat:Int)=_
 rw[BitVec.ofInt_natCast,BitVec.ofInt_natCast,BitVec.toNat_or,BitVec.toNat_ofNat,BitVec.toNat_ofNat,Nat.mod_eq_of_lt (by omega),Nat.mod_eq_of_lt (by omega)]
 have:a ||| b<2^63:=Nat.or_lt_two_pow (by omega) (by omega)
 exact qad (by omega) (by omega)
theorem qoF {a k:Nat} (hk:k<=64) (h:a*2^k<9223372036854775808):binL .shl .i64 (a:Int) (k:Int)=((a*2^k:Nat):Int):=by
 show IntKind.i64.wrap ((a:Int)*2^(min (k:Int).toNat 64))=_
 rw[Int.toNat_natCast,Nat.min_eq_left hk,show((2:Int)^k)=((2^k:Nat):Int)by rw[Int.natCast_pow];rfl,<- Int.natCast_mul]
 exact qad (by omega) (by omega)
theorem qui (a:Int) {k:Nat} (hk:k<=64):binL .shr .i64 a (k:Int)=a / ((2^k:Nat):Int):=by
 show a.fdiv (2^(min (k:Int).toNat 64))=_
 rw[Int.toNat_natCast,Nat.min_eq_left hk,show((2:Int)^k)=((2^k:Nat):Int)by rw[Int.natCast_pow];rfl]
 exact Int.fdiv_eq_ediv_of_nonneg _ (Int.natCast_nonneg _)
theorem quj : ∀ y:Fin 256,binL .and .u8 (y.val:Int) 1=((y.val % 2:Nat):Int):=by decide +kernel
theorem quk {bs:List Int} (hb:Byt bs) (i:Nat):IntKind.i64.wrap (binL .and .u8 (binL .shr .u8 (bs.getD (i / 8) 0) ((i % 8:Nat):Int)) 1)=((bitN (nV bs) i:Nat):Int):=by
 rw[qkf hb]
 have hx:nV bs / 256^(i / 8) % 256<256:=Nat.mod_lt _ (by decide)
 have e:=qop (nV bs) i
 generalize nV bs / 256^(i / 8) % 256=x at *
 have e2:binL .shr .u8 (x:Int) ((i % 8:Nat):Int)=((x / 2^(i % 8):Nat):Int):=by
  show(x:Int).fdiv (2^(min ((i % 8:Nat):Int).toNat 8))=_
  rw[Int.toNat_natCast,Nat.min_eq_left (by omega),show((2:Int)^(i % 8))=((2^(i % 8):Nat):Int)by rw[Int.natCast_pow];rfl]
  exact Int.fdiv_eq_ediv_of_nonneg _ (Int.natCast_nonneg _)
 rw[e2]
 have hy:x / 2^(i % 8)<256:=Nat.lt_of_le_of_lt (Nat.div_le_self _ _) hx
 have:=quj ⟨x / 2^(i % 8),hy⟩
 simp only at this
 rw[this,e]
 have:=qhc (nV bs) i
 exact qad (by omega) (by omega)
theorem qul {bs:List Int} (hb:Byt bs) {i:Nat} (h:8*bs.length<=i):bitN (nV bs) i=0:=by
 unfold bitN
 rw[Nat.div_eq_of_lt (Nat.lt_of_lt_of_le (qhd hb) (Nat.pow_le_pow_right (by decide) h))]
theorem qum (V f:Nat) {k:Nat} (hk:k<16):binL .or .i64 ((V / 2^f % 2^k:Nat):Int) (binL .shl .i64 ((bitN V (f+k):Nat):Int) (k:Int))=((V / 2^f % 2^(k+1):Nat):Int):=by
 have hb:=qhc V (f+k)
 have h16:2^k<65536:=Nat.lt_of_lt_of_le (Nat.pow_lt_pow_right (by decide) hk) (by decide)
 have hm:V / 2^f % 2^k<2^k:=Nat.mod_lt _ (Nat.pow_pos (by decide))
 have hbk:bitN V (f+k)*2^k<=1*2^k:=Nat.mul_le_mul_right _ (by omega)
 rw[qoF (by omega) (by omega),sorN (by omega) (by omega),Nat.or_comm,qoz hm,Nat.mod_pow_succ]
 have:bitN V (f+k)=V / 2^f / 2^k % 2:=by unfold bitN;rw[Nat.div_div_eq_div_mul,<- Nat.pow_add]
 rw[this,Nat.mul_comm]
 omega
end Go.Sx
end
section
namespace Go.Sx
def qaK (V w n:Nat):List Int:=(List.range n).map fun i=>((V / 2^(w*i) % 2^w:Nat):Int)
theorem qfd (V w n:Nat):(qaK V w n).length=n:=by simp[qaK]
theorem qun (V w n:Nat):qaK V w (n+1)=qaK V w n++[((V / 2^(w*n) % 2^w:Nat):Int)]:=by
 simp[qaK,List.range_succ]
theorem qup {V w n i:Nat} (h:i<n):(qaK V w n).getD i 0=((V / 2^(w*i) % 2^w:Nat):Int):=by
 rw[List.getD_eq_getElem?_getD,List.getElem?_eq_getElem (by rw[qfd];exact h)]
 simp[qaK]
end Go.Sx
end
section
namespace Go.Sx
def Sg (l:List Int):Prop :=∀ d ∈ l,-8<=d/\d<=8
theorem qoG : ∀ (N V:Nat) (o:Int),V<16^N->(o=0\/o=1) -> ∃ l,l.length=N+1/\Sg l/\valB 16 l=V+o
 | 0,V,o,hV,ho=>⟨[o],rfl,fun d hd=>by rw[List.mem_singleton.1 hd];omega,by
  have:V=0:=by simpa using hV
  simp[valB,this]⟩
 | N+1,V,o,hV,ho=>by
   obtain⟨t,ht⟩ : ∃ t:Int,t=(V % 16:Nat)+o:=⟨_,rfl⟩
   obtain⟨o',ho',hd⟩ : ∃ o':Int,(o'=0\/o'=1) /\ -8<=t-o'*16/\t-o'*16<=8:=by
     by_cases h:t<8
     · exact⟨0,.inl rfl,by omega⟩
     · exact⟨1,.inr rfl,by omega⟩
   obtain⟨l,h1,h2,h3⟩:=qoG N (V / 16) o' (by rw[Nat.pow_succ]at hV;exact Nat.div_lt_of_lt_mul (by omega)) ho'
   refine⟨(t-o'*16) :: l,by simp[h1],fun d hd' => ?_,?_⟩
   · rcases List.mem_cons.1 hd' with rfl|h
     · exact hd
     · exact h2 d h
   · simp only[valB]
     rw[h3]
     omega
structure Sgs (V N i:Nat) (o:Int) (l:List Int):Prop where
 len:l.length=N
 rest : ∀ j,i<=j->j<N->l.getD j 0=((V / 2^(4*j) % 2^4:Nat):Int)
 sg : ∀ j,j<i -> -8<=l.getD j 0/\l.getD j 0<=8
 ov:o=0\/o=1
 val:valB 16 (l.take i)+o*16^i=((V % 16^i:Nat):Int)
theorem Sgs.start {V N:Nat}:Sgs V N 0 0 (qaK V 4 N) :=
 ⟨qfd ..,fun j _ hj=>qup hj,fun j hj=>by omega,.inl rfl,by simp[valB,Nat.mod_one]⟩
theorem Sgs.step {V N i:Nat} {o o':Int} {l:List Int} (h:Sgs V N i o l) (hi:i<N) (ho':o'=((l.getD i 0+o) / 8+1) / 2) :
  (0<=l.getD i 0/\l.getD i 0<=15)/\(0<=o'/\o'<=1)/\Sgs V N (i+1) o' (l.set i (l.getD i 0+o-o'*16)):=by
 obtain⟨hl,hr,hs,ho,hv⟩:=h
 have hd:=hr i (Nat.le_refl _) hi
 obtain⟨d,hdd⟩ : ∃ d:Nat,d=V / 2^(4*i) % 2^4:=⟨_,rfl⟩
 rw[<- hdd]at hd
 have hd16:d<16:=by rw[hdd];exact Nat.mod_lt _ (by decide)
 rw[hd]at ho' ⊢
 have hb:(0<=o'/\o'<=1) /\ -8<=(d:Int)+o-o'*16/\(d:Int)+o-o'*16<=8:=by omega
 refine⟨by omega,hb.1,by rw[List.length_set];exact hl,fun j h1 h2 => ?_,fun j hj => ?_,by omega,?_⟩
 ·rw[getD_set (by omega),if_neg (by omega)]
  exact hr j (by omega) h2
 ·rw[getD_set (by omega)]
  split
  ·exact hb.2
  ·exact hs j (by omega)
 ·rw[qg9 16 (by rw[List.length_set];omega),getD_set (by omega),if_pos rfl]
  have et:(l.set i ((d:Int)+o-o'*16)).take i=l.take i:=by
   rw[List.take_set]
   exact List.set_eq_of_length_le (by rw[List.length_take];omega)
  rw[et,Nat.mod_pow_succ,Int.natCast_add,<- hv]
  have e2:V / 16^i % 16=d:=by rw[hdd,Nat.pow_mul]
  rw[e2,Int.natCast_mul,Int.natCast_pow]
  show valB 16 (l.take i)+((d:Int)+o-o'*16)*16^i+o'*16^(i+1)=valB 16 (l.take i)+o*16^i+(16:Int)^i*d
  have e3:o'*(16:Int)^(i+1)=o'*16*16^i:=by rw[Int.pow_succ,Int.mul_comm (16^i),Int.mul_assoc]
  rw[e3]
  generalize (16:Int)^i=W
  rw[Int.sub_mul,Int.add_mul,Int.mul_comm W]
  omega
theorem Sgs.done {V N:Nat} {o:Int} {l:List Int} (h:Sgs V N N o l) (hV:V<16^N):valB 16 (l++[o])=V/\Sg (l++[o])/\(l++[o]).length=N+1:=by
 obtain⟨hl,_,hs,ho,hv⟩:=h
 rw[List.take_of_length_le (by omega),Nat.mod_eq_of_lt hV]at hv
 refine⟨?_,fun d hd => ?_,by simp[hl]⟩
 ·rw[qdS,hl,<- hv]
  simp[valB,Int.mul_comm]
 ·rcases List.mem_append.1 hd with h|h
  ·obtain⟨j,hj,rfl⟩:=List.mem_iff_getElem.1 h
   have:=hs j (by omega)
   rw[List.getD_eq_getElem?_getD,List.getElem?_eq_getElem hj]at this
   exact this
  ·rw[List.mem_singleton.1 h];omega
end Go.Sx
end
section

end
section
namespace Go.Sx
def zsm (n:Int) (P:AP):AP:=if 0<=n then nsm n.toNat P else pneg (nsm (-n).toNat P)
theorem quz (n:Nat) (P:AP):zsm n P=nsm n P:=by
 unfold zsm
 rw[if_pos (by omega),Int.toNat_natCast]
theorem qks {P:AP} (h:P.on) {a b:Nat} {n:Int} (e:n=(a:Int)-b):zsm n P=padd (nsm a P) (pneg (nsm b P)):=by
 unfold zsm
 split
 ·obtain⟨k,hk⟩ : ∃ k,n.toNat=k:=⟨_,rfl⟩
  rw[hk,show a=k+b by omega,qaL h,qbc (qB h _) (qB h _) (qbj (qB h _)),qgU (qB h _),qbQ]
 ·obtain⟨k,hk⟩ : ∃ k,(-n).toNat=k:=⟨_,rfl⟩
  rw[hk,show b=a+k by omega,qaL h,qoK,<- qbc (qB h _) (qbj (qB h _)) (qbj (qB h _)),qgU (qB h _),qbb]
theorem qoL (n:Int):n=((n.toNat:Nat):Int)-((-n).toNat:Nat):=by omega
theorem qoM {P:AP} (h:P.on) (m n:Int):zsm (m+n) P=padd (zsm m P) (zsm n P):=by
 rw[qks h (qoL m),qks h (qoL n),qks h (a:=m.toNat+n.toNat) (b:=(-m).toNat+(-n).toNat) (by omega),qaL h,qaL h,qoK,
  qhk (qB h _) (qB h _) (qbj (qB h _)) (qbj (qB h _))]
theorem qhl {P:AP} (h:P.on) (n:Int):zsm (2*n) P=padd (zsm n P) (zsm n P):=by
 rw[show 2*n=n+n by omega,qoM h]
theorem quA {P:AP} (h:P.on) (n:Int):padd (padd (padd (padd (zsm n P) (zsm n P)) (padd (zsm n P) (zsm n P))) (padd (padd (zsm n P) (zsm n P)) (padd (zsm n P) (zsm n P))))
  (padd (padd (padd (zsm n P) (zsm n P)) (padd (zsm n P) (zsm n P))) (padd (padd (zsm n P) (zsm n P)) (padd (zsm n P) (zsm n P))))=zsm (16*n) P:=by
 rw[<- qhl h,<- qhl h,<- qhl h,<- qhl h]
 congr 1;omega
def qaM (A B:AP):Nat->List AP
 | 0=>[]
 | n+1=>A :: qaM (padd A B) B n
theorem qoN (A B:AP) : ∀ n,(qaM A B n).length=n
 | 0=>rfl
 | n+1=>by simp[qaM,qoN _ B n]
theorem qoO {B:AP} (hB:B.on) : ∀ {n i:Nat} {A:AP} (d:AP),A.on->i<n->(qaM A B n).getD i d=padd A (nsm i B)
 | n+1,0,A,d,hA,_=>by
   show A=padd A pid
   rw[qbQ]
 | n+1,i+1,A,d,hA,hi=>by
   show(qaM (padd A B) B n).getD i d=_
   rw[qoO hB d (qaT hA hB) (by omega),qbc hA hB (qB hB _)]
   show padd A (padd B (nsm i B))=padd A (padd (nsm i B) B)
   rw[qeZ B]
def absD (d:Int):Int:=if d<0 then -d else d
theorem quB : ∀ d:Fin 17,binL .sub .i64 (binL .xor .i64 ((d.val:Int)-8) (binL .shr .i64 ((d.val:Int)-8) 63)) (binL .shr .i64 ((d.val:Int)-8) 63)=absD ((d.val:Int)-8) /\
 binL .and .i64 (binL .shr .i64 ((d.val:Int)-8) 63) 1=if (d.val:Int)-8<0 then 1 else 0:=by decide +kernel
theorem quC {d:Int} (h : -8<=d/\d<=8):binL .sub .i64 (binL .xor .i64 d (binL .shr .i64 d 63)) (binL .shr .i64 d 63)=absD d/\binL .and .i64 (binL .shr .i64 d 63) 1=if d<0 then 1 else 0:=by
 have:=quB ⟨(d+8).toNat,by omega⟩
 simp only at this
 rw[show(((d+8).toNat:Nat):Int)-8=d by omega]at this
 exact this
theorem quD {P:AP} {d:Int}:(if (if d<0 then (1:Int) else 0) % 2=0 then nsm (absD d).toNat P else pneg (nsm (absD d).toNat P))=zsm d P:=by
 unfold zsm absD
 by_cases h:d<0
 ·rw[if_pos h,if_pos h,if_neg (by decide),if_neg (by omega)]
 ·rw[if_neg h,if_neg h,if_pos (by decide),if_pos (by omega)]
theorem quE {a b:Int} (ha:0<=a/\a<1000) (hb:0<=b/\b<1000) :
  binL .sub .i64 1 (IntKind.i64.wrap (binL .shr .u64 (binL .or .u64 (binL .xor .u64 (IntKind.u64.wrap a) (IntKind.u64.wrap b)) (unL .neg .u64 (binL .xor .u64 (IntKind.u64.wrap a) (IntKind.u64.wrap b)))) 63))=if a=b then 1 else 0:=by
 rw[qjo (a:=a) (by omega) (by omega),qjo (a:=b) (by omega) (by omega),uxor]
 obtain⟨m,rfl⟩:=Int.eq_ofNat_of_zero_le ha.1
 obtain⟨n,rfl⟩:=Int.eq_ofNat_of_zero_le hb.1
 obtain⟨x,hx⟩ : ∃ x:BitVec 64,x=BitVec.ofInt 64 (m:Int) ^^^ BitVec.ofInt 64 (n:Int):=⟨_,rfl⟩
 rw[<- hx]
 have e0:unL .neg .u64 ((x.toNat:Nat):Int)=(((-x).toNat:Nat):Int):=by
  show IntKind.u64.wrap (0-((x.toNat:Nat):Int))=_
  rw[IntKind.wrap_u64,BitVec.toNat_neg]
  have:=x.isLt
  omega
 have hlt:=(x ||| -x).isLt
 rw[e0,uorN x.isLt (-x).isLt,show(63:Int)=((63:Nat):Int) from rfl,ushr _ _ (by decide),<- BitVec.toNat_or]
 have hm:x=0#64 ↔ m=n:=by
  rw[hx,BitVec.ofInt_natCast,BitVec.ofInt_natCast]
  constructor
  ·intro h
   have h2:=(BitVec.xor_eq_zero_iff).1 h
   have h3:=congrArg BitVec.toNat h2
   rw[BitVec.toNat_ofNat,BitVec.toNat_ofNat]at h3
   omega
  ·rintro rfl
   exact BitVec.xor_self
 have hd:((x ||| -x).toNat / 2^63:Nat)=if m=n then 0 else 1:=by
  by_cases h:m=n
  ·rw[if_pos h,hm.2 h];rfl
  ·rw[if_neg h]
   have hx0:x ≠ 0#64:=fun e=>h (hm.1 e)
   have hmsb:(x ||| -x).msb=true:=by
    rw[BitVec.msb_or,BitVec.msb_neg]
    by_cases h1:x=BitVec.intMin 64
    ·rw[h1];decide
    ·cases hb:x.msb<;>simp[hx0,h1]
   rw[BitVec.msb_eq_decide]at hmsb
   have:=of_decide_eq_true hmsb
   omega
 have e2:(((x ||| -x).toNat:Nat):Int) / ((2^63:Nat):Int)=(((x ||| -x).toNat / 2^63:Nat):Int):=rfl
 rw[e2,hd]
 by_cases h:m=n
 ·rw[if_pos h,if_pos (by rw[h])];decide
 ·rw[if_neg h,if_neg (by omega)];decide
end Go.Sx
end
section

end
section
namespace Go.Sx
def frc {α:Type} (n:Nat) (k:Nat->α):α :=
 match n with
 | 0=>k 0
 | m+1=>k (m+1)
theorem quU {α:Type} (n:Nat) (k:Nat->α):frc n k=k n:=by cases n<;>rfl
def frcF {α:Type} (x:Fp) (k:Fp->α):α:=frc x.val fun n=>k (Fin.ofNat pN n)
theorem quV {α:Type} (x:Fp) (k:Fp->α):frcF x k=k x:=by
 unfold frcF
 rw[quU]
 congr 1
 apply Fin.ext
 exact Nat.mod_eq_of_lt x.isLt
structure T3 where
 x:Fp
 y:Fp
 z:Fp
def jadd {α:Type} (P Q:T3) (k:T3->α):α :=
 frcF (P.z*Q.z) fun a=>frcF (a*a) fun b=>frcF (dF*(P.x*Q.y*(Q.x*P.y))) fun t =>
  frcF (a*(P.x*Q.y+Q.x*P.y)*(b-t)) fun x=>frcF (a*(P.y*Q.y-P.x*Q.x)*(b+t)) fun y=>frcF ((b+t)*(b-t)) fun z=>k ⟨x,y,z⟩
def R3 (P:AP) (Q:T3):Prop:=P.on/\Q.z ≠ 0/\Q.x=P.x*Q.z/\Q.y=P.y*Q.z
theorem qoX {α:Type} {P Q:AP} {A B:T3} (hP:R3 P A) (hQ:R3 Q B) (k:T3->α) : ∃ C,R3 (padd P Q) C/\jadd A B k=k C:=by
 obtain⟨o1,z1,x1,y1⟩:=hP
 obtain⟨o2,z2,x2,y2⟩:=hQ
 obtain⟨h1,h2,h3⟩:=qoJ o1 o2 z1 x1 y1 z2 x2 y2
 refine⟨⟨_,_,_⟩,⟨qaT o1 o2,h1,h2,h3⟩,?_⟩
 unfold jadd
 simp only[quV]
def jch (B:T3):List Bool->T3->T3
 | [],Q=>Q
 | b :: l,Q=>jadd Q Q fun D=>if b then jadd D B fun C=>jch B l C else jch B l D
def bitV:List Bool->Nat->Nat
 | [],m=>m
 | b :: l,m=>bitV l (2*m+(if b then 1 else 0))
theorem qkv {P:AP} {B:T3} (hP:R3 P B) : ∀ (l:List Bool) (m:Nat) (Q:T3),R3 (nsm m P) Q->R3 (nsm (bitV l m) P) (jch B l Q)
 | [],m,Q,h=>h
 | b :: l,m,Q,h=>by
   obtain⟨D,hD,e⟩:=qoX h h (fun D=>if b then jadd D B fun C=>jch B l C else jch B l D)
   rw[<- qdV hP.1]at hD
   unfold jch bitV
   rw[e]
   cases b with
   | true =>
     obtain⟨C,hC,e2⟩:=qoX hD hP (fun C=>jch B l C)
     rw[if_pos rfl,if_pos rfl,e2]
     exact qkv hP l _ C hC
   | false =>
     rw[if_neg (by decide),if_neg (by decide)]
     exact qkv hP l _ D hD
def qhs:List Bool:=(List.range 446).map fun i=>Nat.testBit LN (445-i)
theorem quW:bitV qhs 0=LN:=by decide +kernel
def qkw:T3:=⟨baseP.x,baseP.y,1⟩
def chB:T3:=jch qkw qhs ⟨0,1,1⟩
theorem quX:(chB.x == 0 && chB.y == chB.z)=true:=by decide +kernel
theorem lb1 (z:Fp):z-1*z=0:=by grind -lia -linarith -order -ac (splits:=0)
theorem lb2 (y:Fp) (h:y-1=0):y=1:=by grind -lia -linarith -order -ac (splits:=0)
theorem lb3 (a b f:Fp):(0*b+0*a)*f=0:=by grind -lia -linarith -order -ac (splits:=0)
theorem quY (y z:Fp):(y-1)*z=y*z-1*z:=by grind -lia -linarith -order -ac (splits:=0)
theorem qoY:(1:Fp) ≠ 0:=by decide +kernel
theorem quZ:R3 baseP qkw:=⟨qai,qoY,(Fin.mul_one _).symm,(Fin.mul_one _).symm⟩
theorem qu0:R3 pid ⟨0,1,1⟩:=⟨qeY,qoY,(Fin.mul_one _).symm,(Fin.mul_one _).symm⟩
theorem qff:nsm LN baseP=pid:=by
 have h:=qkv quZ qhs 0 ⟨0,1,1⟩ qu0
 rw[quW]at h
 obtain⟨_,hz,hx,hy⟩:=h
 have hc:=quX
 have e:chB=jch qkw qhs ⟨0,1,1⟩:=rfl
 rw[<- e]at hz hx hy
 rw[Bool.and_eq_true]at hc
 have c1:chB.x=0:=eq_of_beq hc.1
 have c2:chB.y=chB.z:=eq_of_beq hc.2
 rw[c1]at hx
 rw[c2]at hy
 clear hc c1 c2 e
 generalize chB.z=z at *
 generalize nsm LN baseP=R at *
 obtain⟨x,y⟩:=R
 have x0:x=0:=by
  rcases qa3 (show x*z=0 from hx.symm)with h|h
  ·exact h
  ·exact absurd h hz
 have y1:y=1:=by
  have h1:(y-1)*z=0:=by
   have h2:z=y*z:=hy
   rw[quY y z,<- h2]
   exact lb1 z
  rcases qa3 h1 with h|h
  ·exact lb2 y h
  ·exact absurd h hz
 rw[x0,y1]
 rfl
theorem qu1 {P Q:AP} (hP:P.x=0) (hQ:Q.x=0):(padd P Q).x=0:=by
 unfold padd
 simp only
 rw[hP,hQ]
 exact lb3 _ _ _
theorem qkx {P:AP} (hP:P.x=0) : ∀ n,(nsm n P).x=0
 | 0=>rfl
 | n+1=>qu1 (qkx hP n) hP
theorem qht {P Q:AP} (hP:P.on) (hQ:Q.on) : ∀ n,nsm n (padd P Q)=padd (nsm n P) (nsm n Q)
 | 0=>(qbQ pid).symm
 | n+1=>by
   rw[nsm,nsm,nsm,qht hP hQ n,qhk (qB hP n) (qB hQ n) hP hQ]
theorem qb8 : ∀ n,nsm n pid=pid
 | 0=>rfl
 | n+1=>by rw[nsm,qb8 n,qbQ]
theorem qaV {P:AP} (hP:P.on) (m:Nat) : ∀ n,nsm n (nsm m P)=nsm (n*m) P
 | 0=>by rw[Nat.zero_mul];rfl
 | n+1=>by rw[nsm,qaV hP m n,Nat.add_mul,Nat.one_mul,qaL hP]
end Go.Sx
end
