/-
  Part of the proof of a statement: the means.
-/
import Derived.Test.YtpnebmmjpapopaaGreatDoorX2
import Derived.AtR
import Derived.RangeFuncRecord
import Derived.RangeFuncIn
set_option linter.unusedSectionVars false
set_option linter.unusedVariables false
set_option linter.unusedSimpArgs false
set_option linter.deprecated false
section
namespace Go.Sx
def qy (w:World):Snap:=⟨fun b=>w.heap[b]?,w,[]⟩
def ρ0:Rho:=fun _=>⟨0,0,0,true⟩
def qY (w:World):Snap:=⟨fun _=>none,w,[]⟩
mutual
def qaJ:SVal->SVal->Prop
 | .lit k n,.lit k' m=>k=k'/\n=m
 | .lit k n,.int k' m=>k=k'/\n=m
 | .int k n,.lit k' m=>k=k'/\n=m
 | .int k n,.int k' m=>k=k'/\n=m
 | .bl b,.bl c=>b=c
 | .bl b,.bs c=>b=c
 | .bs b,.bl c=>b=c
 | .bs b,.bs c=>b=c
 | .val v,.val u=>v=u
 | .row k n xs,.row k' n' ys=>k=k'/\n=n'/\xs=ys
 | .agg l,.agg l'=>qbI l l'
 | .ab p,.ab q=>p=q
 | .row k _ xs,.ab p=>k=p.k/\p.ok xs
 | .agg l,.ab p=>qdh l p
 | .agg l,.row k n xs=>qdi l k n xs
 | _,_=>False
def qbI:List SVal->List SVal->Prop
 | [],[]=>True
 | s :: l,t :: m=>qaJ s t/\qbI l m
 | _,_=>False
end
section
variable (E:Env) (h:Heap)
def qan (r t:SVal):Prop :=
 match t with
 | .fr k ys cap=>match r with
   | .sl id 1 off len c=>c.v=cap/\match look h id with
     | .seq k' zs=>k=k'/\off.v+len.v<=zs.length/\ys=E.Ω.sub zs off.v len.v
     | .row k' n zs=>k=k'/\off.v+len.v<=n/\ys=E.Ω.sub zs off.v len.v
     | _=>False
   | .val (.slice none 0 0)=>ys=[]/\cap=0
   | _=>False
 | .fra q cap=>match r with
   | .sl id es (.l 0) len c=>c.v=cap/\es=q.es/\len.v=q.len/\match look h id with
     | .sab q'=>q'=q
     | _=>False
   | _=>False
 | t=>qaJ r t
def qaB:List SVal->List SVal->Prop
 | [],[]=>True
 | s :: l,t :: m=>qan E h s t/\qaB l m
 | _,_=>False
def qB:List SVal->List Nat
 | []=>[]
 | .sl id _ _ _ _ :: l=>id :: qB l
 | _ :: l=>qB l
def qai:List Nat->Bool
 | []=>true
 | x :: l => !(l.any fun y=>Nat.beq x y) && qai l
def fits (r t:SVal):Prop :=
 match t with
 | .tup m=>match r with
   | .tup l=>qaB E h l m/\qai (qB l)=true/\Nat.ble l.length 8=true
   | _=>False
 | .frp m=>match r with
   | .ptr id (.l 0)=>match look h id with
     | .agg l=>qaB E h l m/\qai (id :: qB l)=true/\Nat.ble l.length 7=true
     | _=>False
   | _=>False
 | t=>qan E h r t
end
mutual
theorem qj4 {ρ ρ':Rho} {H H':Snap} : ∀ (s t:SVal) {vs:List Value},qaJ s t->Rep ρ H s vs->Rep ρ' H' t vs
 | s,t,vs,hf,hr=>by
   cases s<;>cases t<;>simp only[qaJ]at hf
   case agg.agg l m=>simp only[Rep]at hr ⊢;exact qhj l m hf hr
   case row.row=>obtain⟨rfl,rfl,rfl⟩:=hf;simpa only[Rep]using hr
   case row.ab=>obtain⟨rfl,h2⟩:=hf;simp only[Rep]at hr ⊢;exact⟨_,hr.2,h2⟩
   case agg.ab=>simp only[Rep]at hr ⊢;exact hf _ _ _ hr
   case agg.row=>simp only[Rep]at hr ⊢;obtain⟨h1,h2⟩:=hf _ _ _ hr;exact⟨h2,h1⟩
   all_goals first
     | (obtain⟨rfl,rfl⟩:=hf;simpa only[Rep]using hr)
     | (subst hf;simpa only[Rep]using hr)
theorem qhj {ρ ρ':Rho} {H H':Snap} : ∀ (l m:List SVal) {vs:List Value},qbI l m->RepC ρ H l vs->RepC ρ' H' m vs
 | [],[],vs,hf,hr=>hr
 | s :: l,t :: m,vs,hf,hr=>by
   obtain⟨us,ws,rfl,h1,h2⟩:=RepC_cons.1 hr
   exact RepC_cons.2 ⟨us,ws,rfl,qj4 s t hf.1 h1,qhj l m hf.2 h2⟩
 | [],_ :: _,vs,hf,_=>by simp[qbI]at hf
 | _ :: _,[],vs,hf,_=>by simp[qbI]at hf
end
theorem qhk {ρ ρ':Rho} {H H':Snap} {s t:SVal} {v:Value} (hf:qaJ s t) (hd:Den ρ H s v):Den ρ' H' t v:=by
 cases s<;>cases t<;>simp only[qaJ]at hf
 case agg.agg l m =>
  obtain⟨us,h1,rfl⟩:=hd
  exact⟨us,qhj l m hf h1,rfl⟩
 case row.row=>obtain⟨rfl,rfl,rfl⟩:=hf;exact hd
 case row.ab=>obtain⟨rfl,h2⟩:=hf;exact⟨_,h2,hd.2⟩
 case agg.ab =>
  obtain⟨us,h1,rfl⟩:=hd
  obtain⟨xs,rfl,h2⟩:=hf _ _ _ h1
  exact⟨xs,h2,rfl⟩
 case agg.row =>
  obtain⟨us,h1,rfl⟩:=hd
  obtain⟨rfl,h2⟩:=hf _ _ _ h1
  exact⟨h2,rfl⟩
 all_goals first
  | (obtain⟨rfl,rfl⟩:=hf;simpa only[Den,Rep]using hd)
  | (subst hf;simpa only[Den,Rep]using hd)
section
variable {P:Program} {E:Env} {ρ:Rho} {h:Heap} {U:Top} {w w':World} {ts:List SVal} {a:Act}
theorem qhl {Hs:Snap} (hom:E.Ω=Om.real) (R:Rel E ρ Hs ts h U a w') {r:SVal} {k:IntKind} {ys:List Int} {cap:Nat} {v:Value} (hf:qan E h r (.fr k ys cap)) (hd:Den ρ Hs r v) :
  ∃ pos:Pos,(∀ ρ' i,ρ' i=pos->Den ρ' (qY w) (.sl i 1 (.l 0) (.s (E.Ω.len ys)) (.s cap)) v/\(qat ρ' i (.seq k ys) \/ ∃ arr t vs,Lies ρ' (qY w) w' i (.seq k ys) arr t vs))/\(pos.g=false->Hs pos.b=none) /\
   (∀ id es off len c,r = .sl id es off len c->pos.g=false->(ρ id).g=false/\pos.b=(ρ id).b/\look h id ≠ .junk)/\((∀ id es off len c,r ≠ .sl id es off len c)->pos.g=true):=by
 have hlen:E.Ω.len ys=ys.length:=by rw[hom];rfl
 unfold qan at hf
 simp only at hf
 split at hf
 ·rename_i id off len c
  obtain⟨rfl,hf⟩:=hf
  have hsub : ∀ zs,E.Ω.sub zs off.v len.v=(zs.drop off.v).take len.v:=fun zs=>by rw[hom];rfl
  have main : ∀ zs:List Int,look h id ≠ .junk->qah (look h id)=false->(∀ arr t vs,Lies ρ Hs w' id (look h id) arr t vs->vs=zs.map (Value.int k))->(qat ρ id (look h id)->zs=[])->off.v+len.v<=zs.length->ys=(zs.drop off.v).take len.v ->
    ∃ pos:Pos,(∀ ρ' i,ρ' i=pos->Den ρ' (qY w) (.sl i 1 (.l 0) (.s (E.Ω.len ys)) (.s c.v)) v/\(qat ρ' i (.seq k ys) \/ ∃ arr t vs,Lies ρ' (qY w) w' i (.seq k ys) arr t vs))/\(pos.g=false->Hs pos.b=none) /\
     (pos.g=false->(ρ id).g=false/\pos.b=(ρ id).b/\look h id ≠ .junk):=by
   intro zs hj hlk hvs hgh hin hys
   have hyl:ys.length=len.v:=by rw[hys];simp;omega
   simp only[Den,Rep,List.cons.injEq,and_true]at hd
   obtain⟨ad,rfl,hle,hroom,hg1,hg2⟩:=hd
   rcases R.lies hj with hg|⟨arr,t,vs,li⟩
   ·obtain⟨e1,e2⟩:=hg1 hg.1
    subst e1
    have hz:=hgh hg
    subst hz
    have hy0:ys=[]:=by rw[hys];simp
    refine⟨⟨0,0,0,true⟩,fun ρ' i e=>⟨?_,.inl ⟨by rw[e],by rw[e],some k,by rw[hy0];rfl⟩⟩,(fun q=>by cases q),(fun q=>by cases q)⟩
    simp only[Den,Rep,e,List.cons.injEq,and_true]
    exact⟨none,by rw[hlen,hyl];rfl,by rw[hlen,hyl];exact hle,by show 0+c.v*1<=0;omega,fun _=>⟨rfl,e2⟩,by simp⟩
   ·obtain⟨o',rfl,ho'⟩:=hg2 li.real
    have hroom2:=li.room
    refine⟨⟨(ρ id).b,(ρ id).o+off.v,c.v,false⟩,fun ρ' i e=>⟨?_,.inr ⟨arr,t,ys.map (Value.int k),by rw[e],by rw[e];exact li.blk,rfl,by simp only[Rep],by rw[e];dsimp only;omega,by rw[e,List.length_map];dsimp only;omega,fun j x hx => ?_,fun _=>li.fz hlk⟩⟩,fun _ => ?_,fun _=>⟨li.real,rfl,hj⟩⟩
    ·simp only[Den,Rep,e,List.cons.injEq,and_true]
     refine⟨_,by rw[hlen,hyl];rfl,by rw[hlen,hyl];exact hle,by simp only[SN.v];omega,by simp,fun _=>⟨o',rfl,fun hc => ?_⟩⟩
     exact ho' hc
    ·rw[e]
     dsimp only
     rw[Nat.add_assoc]
     refine li.cells _ _ ?_
     rw[hvs arr t vs li]
     rw[List.getElem?_map,Option.map_eq_some_iff]at hx ⊢
     obtain⟨z,hz,rfl⟩:=hx
     rw[hys,List.getElem?_take]at hz
     split at hz
     ·rw[List.getElem?_drop]at hz;exact⟨z,hz,rfl⟩
     ·cases hz
    ·exact li.own
  split at hf
  ·rename_i k' zs hl
   obtain⟨rfl,h1,h2⟩:=hf
   obtain⟨pos,q1,q2,q3⟩:=main zs (by rw[hl];simp) (by rw[hl];rfl) (fun arr t vs li=>by have:=li.rep;rw[hl]at this;simpa only[Rep]using this) (fun hg=>by obtain⟨_,_,k2,hk⟩:=hg;rw[hl]at hk;cases k2<;>cases hk;rfl) h1 (by rw[h2,hsub])
   exact⟨pos,q1,q2,(fun id' es' off' len' c' e=>by cases e;exact q3),fun hn=>absurd rfl (hn _ _ _ _ _)⟩
  ·rename_i k' n zs hl
   obtain⟨rfl,h1,h2⟩:=hf
   have hzl:zs.length=n:=by
    rcases R.lies (id:=id) (by rw[hl];simp)with hg|⟨arr,t,vs,li⟩
    ·obtain⟨_,_,k2,hk⟩:=hg;rw[hl]at hk;cases k2<;>cases hk
    ·have:=li.rep;rw[hl]at this;simp only[Rep]at this;exact this.1
   obtain⟨pos,q1,q2,q3⟩:=main zs (by rw[hl];simp) (by rw[hl];rfl) (fun arr t vs li=>by have:=li.rep;rw[hl]at this;simp only[Rep]at this;exact this.2) (fun hg=>by obtain⟨_,_,k2,hk⟩:=hg;rw[hl]at hk;cases k2<;>cases hk) (by rw[hzl];exact h1) (by rw[h2,hsub])
   exact⟨pos,q1,q2,(fun id' es' off' len' c' e=>by cases e;exact q3),fun hn=>absurd rfl (hn _ _ _ _ _)⟩
  ·exact hf.elim
 ·obtain⟨rfl,rfl⟩:=hf
  simp only[Den,Rep,List.cons.injEq,and_true]at hd
  refine⟨⟨0,0,0,true⟩,fun ρ' i e=>⟨?_,.inl ⟨by rw[e],by rw[e],some k,rfl⟩⟩,(fun q=>by cases q),(fun id es off len c e=>by cases e),fun _=>rfl⟩
  simp only[Den,Rep,e,List.cons.injEq,and_true]
  exact⟨none,by rw[hlen];exact hd.1,by rw[hlen];exact Nat.le_refl _,by simp[SN.v],fun _=>⟨rfl,rfl⟩,by simp⟩
 ·exact hf.elim
theorem qhm {Hs:Snap} (hom:E.Ω=Om.real) (R:Rel E ρ Hs ts h U a w') {r:SVal} {q:PayL} {cap:Nat} {v:Value} (hf:qan E h r (.fra q cap)) (hd:Den ρ Hs r v) :
  ∃ pos:Pos,(∀ ρ' i,ρ' i=pos->Den ρ' (qY w) (.sl i q.es (.l 0) (.s (lenO E q)) (.s cap)) v/\(qat ρ' i (.sab q) \/ ∃ arr t vs,Lies ρ' (qY w) w' i (.sab q) arr t vs))/\(pos.g=false->Hs pos.b=none) /\
   (∀ id es off len c,r = .sl id es off len c->pos.g=false->(ρ id).g=false/\pos.b=(ρ id).b/\look h id ≠ .junk)/\((∀ id es off len c,r ≠ .sl id es off len c)->pos.g=true):=by
 have hlen:lenO E q=q.len:=by unfold lenO;cases q<;>(rw[hom];rfl)
 unfold qan at hf
 simp only at hf
 split at hf<;>try (exact hf.elim)
 rename_i id es len c
 obtain⟨rfl,rfl,h1,hf⟩:=hf
 split at hf<;>try (exact hf.elim)
 rename_i q' hl
 subst hf
 simp only[Den,Rep,List.cons.injEq,and_true]at hd
 obtain⟨ad,rfl,hle,hroom,hg1,hg2⟩:=hd
 rcases R.lies (id:=id) (by rw[hl];simp)with hg|⟨arr,t,vs,li⟩
 ·obtain⟨_,_,k2,hk⟩:=hg
  rw[hl]at hk;cases k2<;>cases hk
 ·have hrep:=li.rep
  rw[hl]at hrep
  refine⟨ρ id,fun ρ' i e=>⟨?_,.inr ⟨arr,t,vs,by rw[e];exact li.real,by rw[e];exact li.blk,rfl,by simpa only[Rep]using hrep,by rw[e];exact li.room,by rw[e];exact li.fits,by rw[e];exact li.cells,fun _=>li.fz (by rw[hl];rfl)⟩⟩,fun _=>li.own,fun id' es' off' len' c' e _ => ?_,fun hn=>absurd rfl (hn _ _ _ _ _)⟩
  ·simp only[Den,Rep,e,List.cons.injEq,and_true]
   exact⟨ad,by rw[hlen,<- h1];rfl,by simp only[SN.v];rw[hlen,<- h1];exact hle,hroom,hg1,hg2⟩
  ·cases e
   exact⟨li.real,rfl,by rw[hl];simp⟩
end
end Go.Sx
end
section
namespace Go.Sx
mutual
theorem qhn : ∀ (s t:SVal),qaJ s t->IdsLt noId t
 | s,t,hf=>by
   cases s<;>cases t<;>simp only[qaJ]at hf<;>first
     | trivial
     | exact qj5 _ _ hf
theorem qj5 : ∀ (l m:List SVal),qbI l m->IdsLtL noId m
 | [],[],_=>trivial
 | s :: l,t :: m,hf=>⟨qhn s t hf.1,qj5 l m hf.2⟩
 | [],_ :: _,hf=>by simp[qbI]at hf
 | _ :: _,[],hf=>by simp[qbI]at hf
end
section
variable {P:Program} {E:Env} {ρ:Rho} {h:Heap} {U:Top} {w w':World} {ts:List SVal} {a:Act}
theorem qdy {w:World} {b:Nat} (h:qy w b=none):w.heap.size<=b:=Nat.le_of_not_lt fun hlt=>by
 simp only[qy]at h
 rw[Array.getElem?_eq_getElem hlt]at h
 cases h
theorem qbJ {Hs:Snap} (R:Rel E ρ Hs ts h U a w') {i j:Nat} (hi:look h i ≠ .junk) (hj:look h j ≠ .junk) (hne:i ≠ j) (gi:(ρ i).g=false) (gj:(ρ j).g=false):(ρ i).b ≠ (ρ j).b:=by
 have m1:=q9 rfl hi
 have m2:=q9 rfl hj
 have key : ∀ (l:Heap),l.Pairwise (ApartR ρ) -> ∀ p ∈ l,∀ q ∈ l,p.1 ≠ q.1->ApartR ρ p q:=by
  intro l
  induction l with
  | nil=>intro _ p hp;cases hp
  | cons x l ih =>
    intro hp p hpm q hqm hne
    rw[List.pairwise_cons]at hp
    rcases List.mem_cons.1 hpm with e|hpm
    · rcases List.mem_cons.1 hqm with e'|hqm
      · rw[e,e']at hne;exact absurd rfl hne
      · rw[e];exact hp.1 q hqm
    · rcases List.mem_cons.1 hqm with e'|hqm
      · rw[e'];exact(hp.1 p hpm).symm
      · exact ih hp.2 p hpm q hqm hne
 exact(key h R.heap.2 _ m1 _ m2 hne).2 gi gj
def OneM (ρ:Rho) (H:Snap) (m:Bool) (s:SVal) (u:List Value):Prop :=
 match m with
 | true =>∃ v,u=[v]/\Den ρ H s v
 | false=>Rep ρ H s u
def RepM (ρ:Rho) (H:Snap):List Bool->List SVal->List (List Value)->Prop
 | [],[],us=>us=[]
 | m :: ms,s :: l,us =>∃ u r,us=u :: r/\OneM ρ H m s u/\RepM ρ H ms l r
 | _,_,_=>False
theorem OneM.ext {ρ ρ':Rho} {H H':Snap} {t:Top} (hρ : ∀ i,t i->ρ' i=ρ i) (hH : ∀ b o,H b=some o->H' b=some o) {m:Bool} {s:SVal} {u:List Value} (hi:IdsLt t s) (h:OneM ρ H m s u):OneM ρ' H' m s u:=by
 cases m with
 | true=>obtain⟨v,e,hd⟩:=h;exact⟨v,e,Den.ext hρ hH hi hd⟩
 | false=>exact Rep.ext hρ hH s hi h
theorem RepM.ext {ρ ρ':Rho} {H H':Snap} {t:Top} (hρ : ∀ i,t i->ρ' i=ρ i) (hH : ∀ b o,H b=some o->H' b=some o) : ∀ {ms:List Bool} {l:List SVal} {us:List (List Value)},IdsLtL t l->RepM ρ H ms l us->RepM ρ' H' ms l us
 | [],[],us,_,h=>h
 | m :: ms,s :: l,us,hi,h=>by
   obtain⟨u,r,e,h1,h2⟩:=h
   exact⟨u,r,e,h1.ext hρ hH hi.1,RepM.ext hρ hH hi.2 h2⟩
 | [],_ :: _,_,_,h=>h.elim
 | _ :: _,[],_,_,h=>h.elim
theorem qeQ {ρ:Rho} {H:Snap} : ∀ {ms ns:List Bool} {l m:List SVal} {us:List (List Value)},ms.length=l.length->(RepM ρ H (ms++ns) (l++m) us ↔ ∃ xs ys,us=xs++ys/\RepM ρ H ms l xs/\RepM ρ H ns m ys)
 | [],ns,[],m,us,_=>⟨fun h=>⟨[],us,rfl,rfl,h⟩,fun⟨xs,ys,e,h1,h2⟩=>by cases h1;exact e ▸ h2⟩
 | x :: ms,ns,s :: l,m,us,hl=>by
   have hl':ms.length=l.length:=by simpa using hl
   simp only[List.cons_append,RepM]
   constructor
   · rintro ⟨u,r,rfl,h1,h2⟩
     obtain⟨xs,ys,rfl,h3,h4⟩:=(qeQ hl').1 h2
     exact⟨u :: xs,ys,rfl,⟨u,xs,rfl,h1,h3⟩,h4⟩
   · rintro ⟨xs,ys,rfl,⟨u,r,rfl,h1,h3⟩,h4⟩
     exact⟨u,r++ys,rfl,h1,(qeQ hl').2 ⟨r,ys,rfl,h3,h4⟩⟩
 | [],_,_ :: _,_,_,h=>by simp at h
 | _ :: _,_,[],_,_,h=>by simp at h
theorem RepM_V {ρ:Rho} {H:Snap} : ∀ {l:List SVal} {vs:List Value},RepV ρ H l vs ↔ RepM ρ H (List.replicate l.length true) l (vs.map ([·]))
 | [],vs=>by simp[RepV,RepM]
 | s :: l,vs=>by
   rw[RepV_cons]
   simp only[List.length_cons,List.replicate_succ,RepM]
   constructor
   · rintro ⟨v,ws,rfl,h1,h2⟩
     exact⟨[v],ws.map ([·]),rfl,⟨v,rfl,h1⟩,RepM_V.1 h2⟩
   · rintro ⟨u,r,e,⟨v,rfl,h1⟩,h2⟩
     cases vs with
     | nil=>simp at e
     | cons x vs =>
       simp only[List.map_cons,List.cons.injEq]at e
       obtain⟨e1,rfl⟩:=e
       obtain rfl:x=v:=by simpa using e1
       exact⟨_,vs,rfl,h1,RepM_V.2 h2⟩
theorem RepM_C {ρ:Rho} {H:Snap} : ∀ {l:List SVal} {vs:List Value},RepC ρ H l vs ↔ ∃ us,vs=us.flatten/\RepM ρ H (List.replicate l.length false) l us
 | [],vs=>by
   simp only[RepC,List.length_nil,List.replicate_zero,RepM]
   exact⟨fun h=>⟨[],by rw[h];rfl,rfl⟩,fun⟨us,e,h⟩=>by rw[e,h];rfl⟩
 | s :: l,vs=>by
   rw[RepC_cons]
   simp only[List.length_cons,List.replicate_succ,RepM]
   constructor
   · rintro ⟨u,ws,rfl,h1,h2⟩
     obtain⟨us,rfl,h3⟩:=RepM_C.1 h2
     exact⟨u :: us,by simp,u,us,rfl,h1,h3⟩
   · rintro ⟨us,rfl,u,r,rfl,h1,h2⟩
     exact⟨u,r.flatten,by simp,h1,RepM_C.2 ⟨r,rfl,h2⟩⟩
theorem qoO {ρ:Rho} {H:Snap} {m:Bool} {s:SVal} {u:List Value} {k:IntKind} {ys:List Int} {cap:Nat} (hf:qan E h s (.fr k ys cap)) (ho:OneM ρ H m s u) : ∃ v,u=[v]/\Den ρ H s v:=by
 cases m with
 | true=>exact ho
 | false =>
   simp only[qan]at hf
   split at hf
   · obtain⟨ad,e,hr⟩:=(show Rep ρ H (.sl _ 1 _ _ _) u from ho)
     exact⟨_,e,by simp only[Den,Rep,List.cons.injEq,and_true];exact⟨ad,rfl,hr⟩⟩
   · obtain⟨e,ho'⟩:=(show Rep ρ H (.val _) u from ho)
     exact⟨_,e,by simp only[Den,Rep,and_true];trivial⟩
   · exact hf.elim
theorem qoP {ρ:Rho} {H:Snap} {m:Bool} {s:SVal} {u:List Value} {q:PayL} {cap:Nat} (hf:qan E h s (.fra q cap)) (ho:OneM ρ H m s u) : ∃ v,u=[v]/\Den ρ H s v:=by
 cases m with
 | true=>exact ho
 | false =>
   simp only[qan]at hf
   split at hf
   · obtain⟨ad,e,hr⟩:=(show Rep ρ H (.sl _ _ _ _ _) u from ho)
     exact⟨_,e,by simp only[Den,Rep,List.cons.injEq,and_true];exact⟨ad,rfl,hr⟩⟩
   · exact hf.elim
theorem qj6 {ρ:Rho} {H:Snap} {m:Bool} {i es:Nat} {off len c:SN} {v:Value} (hd:Den ρ H (.sl i es off len c) v):OneM ρ H m (.sl i es off len c) [v]:=by
 cases m with
 | true=>exact⟨v,rfl,hd⟩
 | false=>exact hd
theorem qcE {Hs:Snap} (hom:E.Ω=Om.real) (R:Rel E ρ Hs ts h U a w') : ∀ (ms:List Bool) (l m:List SVal) {ws:List (List Value)},qaB E h l m->qai (qB l)=true->RepM ρ Hs ms l ws -> ∀ b,∃ ρ':Rho,
  RepM ρ' (qY w) ms (place.placeL E b m).1 ws/\IdsLtL (fun i=>b<=i) (place.placeL E b m).1/\(∀ p ∈ (place.placeL E b m).2,b<=p.1/\IdsLt noId p.2/\(qat ρ' p.1 p.2 \/ ∃ arr t vs,Lies ρ' (qY w) w' p.1 p.2 arr t vs))/\(place.placeL E b m).2.Pairwise (ApartR ρ') /\
  (∀ p ∈ (place.placeL E b m).2,(ρ' p.1).g=false->Hs (ρ' p.1).b=none /\ ∃ id ∈ qB l,(ρ id).g=false/\(ρ' p.1).b=(ρ id).b/\look h id ≠ .junk)
 | [],[],[],ws,_,_,hr,b=>⟨ρ0,hr,trivial,by intro p hp;simp[place.placeL]at hp,.nil,by intro p hp;simp[place.placeL]at hp⟩
 | _,[],_ :: _,ws,hf,_,_,b=>by simp[qaB]at hf
 | _,_ :: _,[],ws,hf,_,_,b=>by simp[qaB]at hf
 | _ :: _,[],_,ws,_,_,hr,b=>hr.elim
 | [],_ :: _,_,ws,_,_,hr,b=>hr.elim
 | md :: ms,s :: l,t :: m,ws,hf,hnd,hr,b=>by
   obtain⟨v,vs,rfl,hv,hr⟩:=hr
   obtain⟨hf1,hf2⟩:=hf
   have hnd':qai (qB l)=true:=by
     cases s<;>simp only[qB]at hnd<;>first
       | exact hnd
       | (simp only[qai,Bool.and_eq_true]at hnd;exact hnd.2)
   have hsub : ∀ id ∈ qB l,id ∈ qB (s :: l):=by
     intro id hid
     cases s<;>simp only[qB]<;>first|exact hid|exact List.mem_cons_of_mem _ hid
   have plain:(∀ k ys cap,t ≠ .fr k ys cap)->(∀ q cap,t ≠ .fra q cap)->qaJ s t -> ∃ ρ':Rho,
   RepM ρ' (qY w) (md :: ms) (place.placeL E b (t :: m)).1 (v :: vs)/\IdsLtL (fun i=>b<=i) (place.placeL E b (t :: m)).1/\(∀ p ∈ (place.placeL E b (t :: m)).2,b<=p.1/\IdsLt noId p.2/\(qat ρ' p.1 p.2 \/ ∃ arr t vs,Lies ρ' (qY w) w' p.1 p.2 arr t vs))/\(place.placeL E b (t :: m)).2.Pairwise (ApartR ρ') /\
   (∀ p ∈ (place.placeL E b (t :: m)).2,(ρ' p.1).g=false->Hs (ρ' p.1).b=none /\ ∃ id ∈ qB (s :: l),(ρ id).g=false/\(ρ' p.1).b=(ρ id).b/\look h id ≠ .junk):=by
     intro hne hne2 hfv
     have hpl:place.placeL E b (t :: m)=(t :: (place.placeL E b m).1,(place.placeL E b m).2):=by
       cases t<;>first|rfl|exact absurd rfl (hne _ _ _)|exact absurd rfl (hne2 _ _)
     rw[hpl]
     obtain⟨ρ',h1,h2,h3,h4,h5⟩:=qcE hom R ms l m hf2 hnd' hr b
     have hone:OneM ρ' (qY w) md t v:=by
       cases md with
       | true=>obtain⟨x,e,hd⟩:=hv;exact⟨x,e,qhk hfv hd⟩
       | false=>exact qj4 s t hfv hv
     refine⟨ρ',⟨v,vs,rfl,hone,h1⟩,⟨(qhn s t hfv).of_no,h2⟩,h3,h4,fun p hp hg => ?_⟩
     obtain⟨q1,id,q2,q3⟩:=h5 p hp hg
     exact⟨q1,id,hsub id q2,q3⟩
   cases t with
   | fr k ys cap =>
     obtain⟨v1,ev,hv1⟩:=qoO hf1 hv
     subst ev
     obtain⟨pos,p1,p2,p3,p4⟩:=qhl hom R hf1 hv1
     obtain⟨ρ1,h1,h2,h3,h4,h5⟩:=qcE hom R ms l m hf2 hnd' hr (b+1)
     let ρ':Rho:=fun i=>if i=b then pos else ρ1 i
     have e1:ρ' b=pos:=by simp[ρ']
     have e2 : ∀ i,b+1<=i->ρ' i=ρ1 i:=fun i hi=>by
       have:i ≠ b:=by omega
       simp[ρ',this]
     have hpl:place.placeL E b (.fr k ys cap :: m)=(.sl b 1 (.l 0) (.s (E.Ω.len ys)) (.s cap) :: (place.placeL E (b+1) m).1,(b,.seq k ys) :: (place.placeL E (b+1) m).2):=rfl
     rw[hpl]
     obtain⟨d1,d2⟩:=p1 ρ' b e1
     refine⟨ρ',⟨[v1],vs,rfl,qj6 d1,RepM.ext e2 (fun _ _ h=>h) h2 h1⟩,⟨Nat.le_refl _,IdsLtL.mono (fun i hi=>by omega) _ h2⟩,fun p hp => ?_,?_,fun p hp hg => ?_⟩
     · rcases List.mem_cons.1 hp with rfl|hp
       · exact⟨Nat.le_refl _,trivial,d2⟩
       · obtain⟨q1,q2,q3⟩:=h3 p hp
         refine⟨by omega,q2,?_⟩
         rcases q3 with hg|⟨arr,t,us,li⟩
         · exact .inl ⟨by rw[e2 _ q1];exact hg.1,by rw[e2 _ q1];exact hg.2.1,hg.2.2⟩
         · exact .inr ⟨arr,t,us,li.kept (U:=fun i=>b+1<=i) q1 q2.of_no e2 rfl⟩
     · rw[List.pairwise_cons]
       refine⟨fun p hp=>⟨by have:=(h3 p hp).1;dsimp only;omega,fun g1 g2 => ?_⟩,?_⟩
       · dsimp only at g1 ⊢
         rw[e1]at g1 ⊢
         have hp1:=(h3 p hp).1
         rw[e2 _ hp1]at g2 ⊢
         obtain⟨_,id',q2,q3,q4,q5⟩:=h5 p hp g2
         cases hs:s with
         | sl id es off len c =>
           obtain⟨r1,r2,r3⟩:=p3 id es off len c hs g1
           rw[r2,q4]
           refine qbJ R r3 q5 ?_ r1 q3
           rintro rfl
           subst hs
           simp only[qB,qai,Bool.and_eq_true,Bool.not_eq_true',List.any_eq_false]at hnd
           have:=hnd.1 id q2
           simp at this
         | _ =>
           have:pos.g=true:=p4 (fun id es off len c e=>by rw[hs]at e;cases e)
           rw[this]at g1
           cases g1
       · refine List.Pairwise.imp_of_mem (fun {p q} hp hq hpq => ?_) h4
         exact⟨hpq.1,by rw[e2 _ (h3 p hp).1,e2 _ (h3 q hq).1];exact hpq.2⟩
     · rcases List.mem_cons.1 hp with rfl|hp
       · dsimp only at hg ⊢
         rw[e1]at hg ⊢
         refine⟨p2 hg,?_⟩
         cases hs:s with
         | sl id es off len c =>
           obtain⟨r1,r2,r3⟩:=p3 id es off len c hs hg
           exact⟨id,by simp[qB],r1,r2,r3⟩
         | _ =>
           have:pos.g=true:=p4 (fun id es off len c e=>by rw[hs]at e;cases e)
           rw[this]at hg
           cases hg
       · have hp1:=(h3 p hp).1
         rw[e2 _ hp1]at hg ⊢
         obtain⟨q1,id,q2,q3⟩:=h5 p hp hg
         exact⟨q1,id,hsub id q2,q3⟩
   | fra q cap =>
     obtain⟨v1,ev,hv1⟩:=qoP hf1 hv
     subst ev
     obtain⟨pos,p1,p2,p3,p4⟩:=qhm hom R hf1 hv1
     obtain⟨ρ1,h1,h2,h3,h4,h5⟩:=qcE hom R ms l m hf2 hnd' hr (b+1)
     let ρ':Rho:=fun i=>if i=b then pos else ρ1 i
     have e1:ρ' b=pos:=by simp[ρ']
     have e2 : ∀ i,b+1<=i->ρ' i=ρ1 i:=fun i hi=>by
       have:i ≠ b:=by omega
       simp[ρ',this]
     have hpl:place.placeL E b (.fra q cap :: m)=(.sl b q.es (.l 0) (.s (lenO E q)) (.s cap) :: (place.placeL E (b+1) m).1,(b,.sab q) :: (place.placeL E (b+1) m).2):=rfl
     rw[hpl]
     obtain⟨d1,d2⟩:=p1 ρ' b e1
     refine⟨ρ',⟨[v1],vs,rfl,qj6 d1,RepM.ext e2 (fun _ _ h=>h) h2 h1⟩,⟨Nat.le_refl _,IdsLtL.mono (fun i hi=>by omega) _ h2⟩,fun p hp => ?_,?_,fun p hp hg => ?_⟩
     · rcases List.mem_cons.1 hp with rfl|hp
       · exact⟨Nat.le_refl _,trivial,d2⟩
       · obtain⟨q1,q2,q3⟩:=h3 p hp
         refine⟨by omega,q2,?_⟩
         rcases q3 with hg|⟨arr,t,us,li⟩
         · exact .inl ⟨by rw[e2 _ q1];exact hg.1,by rw[e2 _ q1];exact hg.2.1,hg.2.2⟩
         · exact .inr ⟨arr,t,us,li.kept (U:=fun i=>b+1<=i) q1 q2.of_no e2 rfl⟩
     · rw[List.pairwise_cons]
       refine⟨fun p hp=>⟨by have:=(h3 p hp).1;dsimp only;omega,fun g1 g2 => ?_⟩,?_⟩
       · dsimp only at g1 ⊢
         rw[e1]at g1 ⊢
         have hp1:=(h3 p hp).1
         rw[e2 _ hp1]at g2 ⊢
         obtain⟨_,id',q2,q3,q4,q5⟩:=h5 p hp g2
         cases hs:s with
         | sl id es off len c =>
           obtain⟨r1,r2,r3⟩:=p3 id es off len c hs g1
           rw[r2,q4]
           refine qbJ R r3 q5 ?_ r1 q3
           rintro rfl
           subst hs
           simp only[qB,qai,Bool.and_eq_true,Bool.not_eq_true',List.any_eq_false]at hnd
           have:=hnd.1 id q2
           simp at this
         | _ =>
           have:pos.g=true:=p4 (fun id es off len c e=>by rw[hs]at e;cases e)
           rw[this]at g1
           cases g1
       · refine List.Pairwise.imp_of_mem (fun {p q} hp hq hpq => ?_) h4
         exact⟨hpq.1,by rw[e2 _ (h3 p hp).1,e2 _ (h3 q hq).1];exact hpq.2⟩
     · rcases List.mem_cons.1 hp with rfl|hp
       · dsimp only at hg ⊢
         rw[e1]at hg ⊢
         refine⟨p2 hg,?_⟩
         cases hs:s with
         | sl id es off len c =>
           obtain⟨r1,r2,r3⟩:=p3 id es off len c hs hg
           exact⟨id,by simp[qB],r1,r2,r3⟩
         | _ =>
           have:pos.g=true:=p4 (fun id es off len c e=>by rw[hs]at e;cases e)
           rw[this]at hg
           cases hg
       · have hp1:=(h3 p hp).1
         rw[e2 _ hp1]at hg ⊢
         obtain⟨q1,id,q2,q3⟩:=h5 p hp hg
         exact⟨q1,id,hsub id q2,q3⟩
   | _=>exact plain (fun _ _ _ e=>by cases e) (fun _ _ e=>by cases e) (by simpa only[qan]using hf1)
end
end Go.Sx
end
section
namespace Go.Sx
def qho (E:Env) (w w':World) (s:SVal) (v:Value):Prop :=
 ∀ b,∃ ρ:Rho,Den ρ (qY w) (place E b s).1 v/\(∀ p ∈ (place E b s).2,qat ρ p.1 p.2 \/ ∃ arr t vs,Lies ρ (qY w) w' p.1 p.2 arr t vs)/\(place E b s).2.Pairwise (ApartR ρ) /\
  ∀ p ∈ (place E b s).2,(ρ p.1).g=false->w.heap.size<=(ρ p.1).b
def qeR (E:Env) (w:World):Prop :=∀ g,Den ρ0 (qy w) (E.glob g) (.pointer (some ⟨g,0,none⟩))
def PSpecOk (P:Program) (E:Env) (g:FuncId) (s:qe):Prop :=
 ∀ (w:World) (args:List SVal) (vs:List Value),qeR E w->RepV ρ0 (qy w) args vs->(s args).pre ->
  Calls P g vs.toArray w fun e w' =>∃ v,e = .returned v/\Same w w'/\Kept w w' /\ ∃ x,(s args).post x/\qho E w w' ((s args).res x) v
def qeS (E:Env) (Hs:Snap) (w w':World) (pos:Pos) (res out:List SVal) (v:Value):Prop :=
 ∀ b,∃ ρ:Rho,Den ρ (qY w) (qbu (qar res.length (place.placeL E b (res++out)).1)) v /\
  (∃ arr t us,w'.heap[pos.b]?=some (.cells arr t (0,0))/\RepC ρ (qY w) (qa8 res.length (place.placeL E b (res++out)).1) us/\pos.o+pos.room<=arr.size/\us.length<=pos.room /\ ∀ (j:Nat) u,us[j]?=some u->arr[pos.o+j]?=some u) /\
  (∀ p ∈ (place.placeL E b (res++out)).2,qat ρ p.1 p.2 \/ ∃ arr t vs,Lies ρ (qY w) w' p.1 p.2 arr t vs)/\(place.placeL E b (res++out)).2.Pairwise (ApartR ρ) /\
  ∀ p ∈ (place.placeL E b (res++out)).2,(ρ p.1).g=false->Hs (ρ p.1).b=none/\(ρ p.1).b ≠ pos.b
def MSpecOk (P:Program) (E:Env) (g:FuncId) (ms:qU):Prop :=
 ∀ (w:World) (Hs:Snap) (ρ:Rho) (d rest:List SVal) (vs:List Value),Hs.w0=w->Hs.defs=[]->Agree Hs w->(∀ g,Den ρ0 Hs (E.glob g) (.pointer (some ⟨g,0,none⟩))) ->
  RepV ρ Hs (.ptr 0 (.l 0) :: rest) vs->qdl ρ Hs w ((0,.agg (place.placeL E 1 d).1) :: (place.placeL E 1 d).2)->(ms d rest).pre ->
  Calls P g vs.toArray w fun e w' =>∃ v x,e = .returned v/\Same w w'/\Agree Hs w'/\(ms d rest).post x/\qeS E Hs w w' (ρ 0) ((ms d rest).res x) ((ms d rest).out x) v
structure EnvG (P:Program) (E:Env):Prop extends EnvOk P E,EnvIds' E where
 mspec : ∀ g ms,E.M g=some ms->MSpecOk P E g ms
 mclosed : ∀ g ms d rest,E.M g=some ms->(ms d rest).pre->IdsLtL noId rest
 mres : ∀ g ms d rest x,E.M g=some ms->IdsLtL noId ((ms d rest).res x++(ms d rest).out x)/\((ms d rest).res x++(ms d rest).out x).length<=8
 spec : ∀ g s,E.G g=some s->PSpecOk P E g s
 closed : ∀ g s args,E.G g=some s->(s args).pre->IdsLtL noId args
 some_x : ∀ g s args,E.G g=some s->(s args).pre -> ∃ x,(s args).post x
 call : ∀ g,(E.G g).isSome\/E.into g->qX P g
section
variable {P:Program} {E:Env} {ρ:Rho} {H:Snap} {ts:List SVal} {h:Heap} {U:Top} {a:Act} {w:World}
theorem qcF (R:Rel E ρ H ts h U a w) {all:List Oper} {o:Oper} {b:Bool} (hg:qP all ts o=some b):Region.wanted o (yielded all.toArray a.tmps)=b:=by
 unfold qP at hg
 unfold Region.wanted
 split at hg
 ·rename_i h1
  cases hg
  simp only[h1]
 ·rename_i j want h1
  simp only[h1]
  split at hg<;>try (cases hg;done)
  rename_i oj hj
  split at hg<;>try (cases hg;done)
  rename_i d hd
  split at hg<;>try (cases hg;done)
  rotate_left
  ·rename_i hb
   cases hg
   have hden:=R.den d
   rw[hb]at hden
   obtain⟨ws,e,-⟩:=hden
   have hy:yielded all.toArray a.tmps j=none:=by
    have:a.tmps[d]? ≠ some (.bool true)/\a.tmps[d]? ≠ some (.bool false):=by
     rw[Array.getD_eq_getD_getElem?]at e
     cases hq:a.tmps[d]? with
     | none=>simp
     | some u=>rw[hq]at e;simp at e;rw[e];simp
    simp only[yielded,hj,hd,List.getElem?_toArray,Option.bind_some]
    cases hq:a.tmps[d]? with
    | none=>rfl
    | some u =>
      cases u<;>try rfl
      rename_i bb
      rw[hq]at this
      cases bb
      · exact absurd rfl this.2
      · exact absurd rfl this.1
   rw[hy]
   rfl
  rename_i bb hb
  cases hg
  have hden:=R.den d
  rw[hb]at hden
  simp only[Den,Rep,List.cons.injEq,and_true]at hden
  have:a.tmps[d]?=some (.bool bb):=by
   rw[Array.getD_eq_getD_getElem?]at hden
   cases hq:a.tmps[d]? with
   | none=>rw[hq]at hden;simp[undef]at hden
   | some u=>rw[hq]at hden;simp at hden;rw[hden]
  have hy:yielded all.toArray a.tmps j=some bb:=by
   simp[yielded,hj,hd,this]
  rw[hy]
  cases bb<;>cases want<;>rfl
variable {b:Frame} {k:List Item} {cs:List Frame} {ops:Array Oper} {i:Nat} {rest:List Nat} {o:Oper}
theorem qeT {ro:Option Nat} {w':World} {nx:Next} (hr:(execOp a.eval o).run P w = .ok nx w') (hn : ∀ d,nx ≠ .defer d):(o.semAt ro a.eval).run P w = .ok nx w':=by
 rw[Oper.semAt_eq]
 ·exact hr
 ·intro c hc
  simp only[execOp,hc,Sem.run_bind]at hr
  cases h:(resolve a.eval c o.type).run P w with
  | ok d w1=>rw[h]at hr;simp[Result.andThen,Sem.run_pure]at hr;exact hn _ hr.1.symm
  | halt=>rw[h]at hr;cases hr
theorem qbm {v:Value} {w':World} (ho:ops[i]?=some o) (hw:Region.wanted o (yielded ops a.tmps)=true) (hr:(execOp a.eval o).run P w = .ok (.value v) w') :
  step P (lone (b.atR a (.inRegion ops (i :: rest) :: k)) cs w) = .next (lone (b.atR (a.put o.dst v) (.inRegion ops rest :: k)) cs w'):=by
 have hg:=stepGR_op (P:=P) (b:=b) (k:=k) (cs:=cs) (w:=w) (rest:=rest) ho hw
 refine step_lone_go ?_
 rw[hg]
 have hfin:(b.atR a (.inRegion ops (i :: rest) :: k)).finish v=b.atR (a.put o.dst v) (.inRegion ops rest :: k):=by rw[Frame.finish_atR,ho];rfl
 rw[<- hfin];simp[stepG.apply,qeT hr (by intro d h;cases h)]
theorem qj7 {w':World} (ho:ops[i]?=some o) (hw:Region.wanted o (yielded ops a.tmps)=true) (hr:(execOp a.eval o).run P w = .ok .skip w') :
  step P (lone (b.atR a (.inRegion ops (i :: rest) :: k)) cs w) = .next (lone (b.atR (a.put o.dst undef) (.inRegion ops rest :: k)) cs w'):=by
 have hg:=stepGR_op (P:=P) (b:=b) (k:=k) (cs:=cs) (w:=w) (rest:=rest) ho hw
 refine step_lone_go ?_
 rw[hg]
 have hfin:(b.atR a (.inRegion ops (i :: rest) :: k)).finish undef=b.atR (a.put o.dst undef) (.inRegion ops rest :: k):=by rw[Frame.finish_atR,ho];rfl
 rw[<- hfin];simp[stepG.apply,qeT hr (by intro d h;cases h)]
theorem qj8 {f:FuncId} {args:Array Value} {w':World} (ho:ops[i]?=some o) (hw:Region.wanted o (yielded ops a.tmps)=true) (hr:(execOp a.eval o).run P w = .ok (.enter f args) w') :
  step P (lone (b.atR a (.inRegion ops (i :: rest) :: k)) cs w) = .next (lone (Frame.enter P f args .normal) (b.atR a (.inRegion ops (i :: rest) :: k) :: cs) w'):=by
 have hg:=stepGR_op (P:=P) (b:=b) (k:=k) (cs:=cs) (w:=w) (rest:=rest) ho hw
 exact step_lone_go (by rw[hg];simp[stepG.apply,qeT hr (by intro d h;cases h),Frame.atR])
theorem qj9 {f:FuncId} {args:Array Value} {w':World} {Q:Value->World->Prop} (ho:ops[i]?=some o) (hw:Region.wanted o (yielded ops a.tmps)=true) (hr:(execOp a.eval o).run P w = .ok (.enter f args) w')
  (hc:Calls P f args w' fun e w'' =>∃ v,e = .returned v/\Q v w'') :
  ∃ v w'',Q v w''/\Steps P (lone (b.atR a (.inRegion ops (i :: rest) :: k)) cs w) (lone (b.atR (a.put o.dst v) (.inRegion ops rest :: k)) cs w''):=by
 obtain⟨e,w'',fr,⟨v,rfl,hQ⟩,hst,_,hl⟩:=hc (b.atR a (.inRegion ops (i :: rest) :: k) :: cs)
 refine⟨v,w'',hQ,.head (qj8 ho hw hr) (Steps.trans hst (.one ?_))⟩
 have hfin:(b.atR a (.inRegion ops (i :: rest) :: k)).finish v=b.atR (a.put o.dst v) (.inRegion ops rest :: k):=by rw[Frame.finish_atR,ho];rfl
 rw[<- hfin];exact step_leave_returned hl
variable (hE:EnvG P E)
include hE
theorem qdz (R:Rel E ρ H ts h U a w) {s:SVal} {v:Value} (hd:Den ρ H s v) (hp:bPre h s) (hc:IdsLt noId (qj E h s)):Den ρ0 (qy w) (qj E h s) v:=by
 have hroi : ∀ {k xs},qj E h s = .roi k xs->Den ρ0 (qy w) (qj E h s) v:=by
  intro k xs hb
  rw[hb]
  obtain⟨aa,c,rfl,h2,h3⟩:=qg8 hE.toEnvOk R hb hp hd
  simp only[Den,Rep,List.cons.injEq,and_true]
  refine⟨_,rfl,aa,c,rfl,h2,fun j x hj => ?_⟩
  obtain⟨b,o,e1,cs,te,fr,e2,e3⟩:=h3 j x hj
  exact⟨b,o,e1,by simp[qu,qy,e2,e3]⟩
 have same:qj E h s=s->Den ρ0 (qy w) (qj E h s) v:=by
  intro e
  rw[e]at hc ⊢
  exact Den.ext (t:=noId) (fun i h=>h.elim) (fun b o hb=>R.agree b o hb) hc hd
 generalize hb:qj E h s=r at *
 cases r with
 | junk=>trivial
 | roi k xs=>exact hroi rfl
 | int k n =>
   have hb':=hb
   unfold qj at hb'
   split at hb'
   · (repeat' split at hb')<;>cases hb'
   · cases hb'
   · cases hb'
     simpa[Den,Rep]using hd
   · cases hb'
   · split at hb'<;>cases hb'
   · exact same hb'.symm
 | bs b =>
   have hb':=hb
   unfold qj at hb'
   split at hb'
   · (repeat' split at hb')<;>cases hb'
   · cases hb'
   · cases hb'
   · cases hb'
     simpa[Den,Rep]using hd
   · split at hb'<;>cases hb'
   · exact same hb'.symm
 | rop c off =>
   have hb':=hb
   unfold qj at hb'
   split at hb'
   · (repeat' split at hb')<;>cases hb'
   · cases hb'
   · cases hb'
   · cases hb'
   · rename_i id off'
     simp only[Den,Rep,List.cons.injEq,and_true]at hd
     have main:look h id=c->c ≠ .junk->qbA c=true->off'=off->Den ρ0 (qy w) (.rop c off) v:=by
       rintro hl hj hpl rfl
       rcases R.lies (id:=id) (by rw[hl];exact hj)with hg|⟨arr,t,vs,li⟩
       · obtain⟨_,_,k,hk⟩:=hg
         rw[hl]at hk
         subst hk
         cases k with
         | some k =>
           simp only[gho,Den,Rep,List.cons.injEq,and_true]
           exact⟨_,_,[],hd,rfl,fun j u hj=>by simp at hj⟩
         | none =>
           simp only[gho,Den,Rep,RepV,List.cons.injEq,and_true]
           exact⟨_,_,[],hd,⟨[],[],rfl,rfl,fun v hv=>by simp at hv,rfl,fun j xs hj=>by simp at hj⟩,fun j u hj=>by simp at hj⟩
       · have hrep:=li.rep
         rw[hl]at hrep
         have hrep':Rep ρ0 (qy w) c vs:=Rep.ext (t:=noId) (fun i h=>h.elim) (fun b o hb=>R.agree b o hb) c hc hrep
         have e:=qdp (ρ:=ρ0) (H:=qy w) (off:=off') hpl (b:=(ρ id).b) (o:=(ρ id).o) hrep' fun j u hj=>by
           simp only[qu,qy]
           rw[li.blk]
           exact li.cells j u hj
         rw[hd]
         exact e
     split at hb'
     · cases hb'
     · cases hb'
     · cases hb'
     · rename_i h1 h2 h3
       cases hb'
       exact main rfl h1 (by cases hq:look h id<;>first|rfl|exact absurd hq (h2 _ _)|exact absurd hq (h3 _ _ _)) rfl
   · exact same hb'.symm
 | _ =>
   refine same ?_
   have hb':=hb
   unfold qj at hb'
   split at hb'
   · (repeat' split at hb')<;>cases hb'
   all_goals first|(cases hb';done)|exact hb'.symm|(split at hb'<;>cases hb';done)
omit hE in
theorem qoQ {l:List SVal} (hp : ∀ q,qdf h l=some q -> ∀ u,q u):qbC h l:=by
 unfold qdf at hp
 split at hp
 ·exact hp _ rfl ()
 ·rename_i hs
  have : ∀ (l:List SVal),hasS2 h l=false->qbC h l:=by
   intro l
   induction l with
   | nil=>intro _;trivial
   | cons s l ih =>
     intro hs
     unfold hasS2 at hs
     split at hs
     · cases hs
     · rename_i id
       split at hs
       · cases hs
       · rename_i hn
         refine⟨?_,ih hs⟩
         show(match look h id with
           | .agg l=>qaG h l
           | _=>True)
         split
         · rename_i l' hq
           exact absurd hq (hn l')
         · trivial
     · rename_i h1 h2
       refine⟨?_,ih hs⟩
       unfold qa6
       split
       · rename_i id off len cap
         exact absurd rfl (h1 id 1 off len cap)
       · rename_i id
         exact absurd rfl (h2 id)
       · rename_i id es off len cap _
         exact absurd rfl (h1 id es off len cap)
       · trivial
  exact this l hs
omit hE in
theorem qeU : ∀ {l:List SVal} {xss:List (List Int)},qbB l=some xss->l=xss.map (SVal.roi .u8)
 | [],xss,hr=>by simp only[qbB,Option.some.injEq]at hr;rw[<- hr];rfl
 | s :: l,xss,hr=>by
   simp only[qbB]at hr
   split at hr<;>try (cases hr;done)
   split at hr<;>try (cases hr;done)
   rename_i yss hy
   simp only[Option.some.injEq]at hr
   rw[<- hr,qeU hy];rfl
omit hE in
theorem qeV {ρ':Rho} {H':Snap} : ∀ {l:List SVal} {vs:List Value},RepV ρ' H' l vs -> ∀ {j:Nat} {s:SVal},l[j]?=some s -> ∃ v,vs[j]?=some v/\Den ρ' H' s v
 | [],vs,hr,j,s,hj=>by simp at hj
 | t :: l,vs,hr,j,s,hj=>by
   obtain⟨v,ws,rfl,h1,h2⟩:=RepV_cons.1 hr
   cases j with
   | zero=>simp at hj;subst hj;exact⟨v,rfl,h1⟩
   | succ j =>
     simp only[List.getElem?_cons_succ]at hj
     obtain⟨v',h3,h4⟩:=qeV h2 hj
     exact⟨v',by simpa using h3,h4⟩
omit hE in
theorem qhp : ∀ {l:List SVal},qaG h l -> ∀ {j:Nat} {s:SVal},l[j]?=some s->bPre h s
 | [],_,j,s,hj=>by simp at hj
 | t :: l,hp,j,s,hj=>by
   cases j with
   | zero=>simp at hj;subst hj;exact hp.1
   | succ j=>exact qhp hp.2 (by simpa using hj)
theorem qka (R:Rel E ρ H ts h U a w) {id es:Nat} {len cap:SN} {q:PayL} {v:Value} (hd:Den ρ H (.sl id es (.l 0) len cap) v) (hl:look h id = .sab q) (hlen:len.v=q.len):Den ρ0 (qy w) (.roa q) v:=by
 simp only[Den,Rep,List.cons.injEq,and_true]at hd ⊢
 obtain⟨ad,rfl,h1,h2,h3,h4⟩:=hd
 rcases R.lies (id:=id) (by rw[hl];simp)with hg|⟨arr,t,vs,li⟩
 ·obtain⟨_,_,k,hk⟩:=hg
  rw[hl]at hk;cases k<;>cases hk
 ·obtain⟨o',rfl,ho⟩:=h4 li.real
  have hrep:=li.rep
  rw[hl]at hrep
  simp only[Rep]at hrep
  obtain⟨ys,rfl,q2⟩:=hrep
  refine⟨_,cap.v,ys,by rw[<- hlen],by omega,q2,fun j y hj=>⟨_,_,rfl,?_⟩⟩
  have hjl:=(List.getElem?_eq_some_iff.1 hj).1
  have hc0:cap.v ≠ 0:=by
   intro h0
   have:q.len=0:=by omega
   rw[q2.1,this,Nat.zero_mul]at hjl
   omega
  have ho2:=ho hc0
  simp only[qu,qy,li.blk]
  have hcell:=li.cells j _ (by rw[List.getElem?_map,hj];rfl)
  rw[ho2,show(SN.l 0).v=0 from rfl,Nat.add_zero]
  exact hcell
theorem qkb (R:Rel E ρ H ts h U a w) : ∀ {l:List SVal} {vs:List Value},RepC ρ H l vs->qaG h l->allC (l.map (qaa E h))=true->IdsLtL noId (l.map (qaa E h))->RepC ρ0 (qy w) (l.map (qaa E h)) vs
 | [],vs,hr,_,_,_=>hr
 | s :: l,vs,hr,hp,ha,hc=>by
   obtain⟨us,ws,rfl,h1,h2⟩:=RepC_cons.1 hr
   simp only[List.map_cons,allC]at ha
   split at ha<;>try (cases ha;done)
   rename_i hcs
   refine RepC_cons.2 ⟨us,ws,rfl,?_,qkb R h2 hp.2 ha hc.2⟩
   have hc1:IdsLt noId (qaa E h s):=hc.1
   have same:qaa E h s=s->Rep ρ0 (qy w) (qaa E h s) us:=by
     intro e
     rw[e]at hc1 ⊢
     exact Rep.ext (t:=noId) (fun i h=>h.elim) (fun b o hb=>R.agree b o hb) s hc1 h1
   by_cases hsl : ∃ id es off len cap,s = .sl id es off len cap
   · obtain⟨id,es,off,len,cap,rfl⟩:=hsl
     have hd : ∃ v,us=[v]/\Den ρ H (.sl id es off len cap) v:=by
       obtain⟨ad,e,hr⟩:=(show Rep ρ H (.sl id es off len cap) us from h1)
       exact⟨_,e,by simp only[Den,Rep,List.cons.injEq,and_true];exact⟨ad,rfl,hr⟩⟩
     obtain⟨v,rfl,hd⟩:=hd
     by_cases hsab : ∃ q,look h id = .sab q
     · obtain⟨q,hq⟩:=hsab
       have e2:qaa E h (.sl id es off len cap) = .junk\/(off = .l 0/\es=q.es/\qaa E h (.sl id es off len cap) = .roa q):=by
         simp only[qaa,hq]
         split
         · rename_i hb
           exact .inr ⟨rfl,Nat.eq_of_beq_eq_true hb,rfl⟩
         · exact .inl rfl
       rcases e2 with e2|⟨rfl,he,e2⟩
       · rw[e2]at hcs
         cases hcs
       · rw[e2]
         have hlen:len.v=q.len:=by
           have h1:=hp.1
           subst he
           cases q<;>(simp only[bPre,PayL.es,hq]at h1;exact h1)
         exact qka hE R hd hq hlen
     have e:qaa E h (.sl id es off len cap)=qj E h (.sl id es off len cap):=by
       simp only[qaa]
       split
       · rename_i q hq
         exact absurd ⟨q,hq⟩ hsab
       · rfl
     rw[e]at hcs hc1 ⊢
     have hz:=qdz hE R hd hp.1 hc1
     generalize qj E h (.sl id es off len cap)=q at hz hcs
     cases q<;>simp only[qjc]at hcs<;>first|(cases hcs;done)|exact hz|skip
     all_goals (
       simp only[Den]at hz
       first
         | exact hz
         | (obtain⟨q1,_,q2⟩:=hz
            simp only[Den,Rep,List.cons.injEq,and_true]at hd
            obtain⟨_,hd,_⟩:=hd
            rw[hd]at q2
            exact Value.noConfusion q2)
         | (obtain⟨q1,q2⟩:=hz
            cases q2
            simp only[Den,Rep,List.cons.injEq,and_true]at hd
            obtain⟨_,hd,_⟩:=hd
            cases hd))
   · cases s<;>first
       | exact same rfl
       | (simpa only[qaa,Rep]using h1)
       | exact absurd ⟨_,_,_,_,_,rfl⟩ hsl
       | skip
     all_goals (
       rename_i v
       by_cases hv:v = .slice none 0 0
       · subst hv
         simp only[Rep]at h1
         simp only[qaa,Rep,h1.1]
         exact⟨_,rfl,none,0,rfl,Nat.le_refl _,fun j x hj=>by simp at hj⟩
       · exact same (by unfold qaa;split<;>simp_all))
omit hE in
theorem qkc {x:Pay} {a ys:List Int} {n:Nat} {f:Nat->Pay} (hx:x.ok a) (hn:x.n=n) {m:Nat} (hl:ys.length=m*n) (hf : ∀ i,i<m->(f i).ok ((ys.drop (i*n)).take n)) :
  (a++ys).length=(m+1)*n /\ ∀ i,i<m+1->(match i with|0=>x|i+1=>f i).ok (((a++ys).drop (i*n)).take n):=by
 have ha:a.length=n:=by rw[<- hn];exact Pay.len hx
 refine⟨by rw[List.length_append,ha,hl,Nat.add_mul,Nat.one_mul,Nat.add_comm],fun i hi => ?_⟩
 cases i with
 | zero=>simp only[Nat.zero_mul,List.drop_zero];rw[List.take_append_of_le_length (by omega),List.take_of_length_le (by omega)];exact hx
 | succ i =>
   simp only
   have e:(a++ys).drop ((i+1)*n)=ys.drop (i*n):=by
     rw[Nat.add_mul,Nat.one_mul,Nat.add_comm,List.drop_append,List.drop_eq_nil_of_le (by omega),List.nil_append,ha,Nat.add_sub_cancel_left]
   rw[e];exact hf i (by omega)
omit hE in
theorem qkd {ρ':Rho} {H':Snap} : ∀ {l:List SVal} {xs:List Fp} {vs:List Value},qdc l=some xs->RepC ρ' H' l vs->xs.length=l.length /\ ∃ ys,vs=ys.map (Value.int .u64)/\(PayL.fe xs).ok ys
 | [],xs,vs,hf,hr=>by
   simp only[qdc,Option.some.injEq]at hf
   subst hf
   simp only[RepC]at hr
   exact⟨rfl,[],hr,rfl,fun i hi=>absurd hi (Nat.not_lt_zero _)⟩
 | s :: l,xs,vs,hf,hr=>by
   simp only[qdc]at hf
   split at hf<;>try (cases hf;done)
   split at hf<;>try (cases hf;done)
   rename_i x zs hz
   simp only[Option.some.injEq]at hf
   subst hf
   obtain⟨us,ws,rfl,h1,h2⟩:=RepC_cons.1 hr
   obtain⟨i1,ys,rfl,i2,i3⟩:=qkd hz h2
   simp only[Rep]at h1
   obtain⟨a,rfl,h1⟩:=h1
   obtain⟨k1,k2⟩:=qkc (f:=fun i =>.fe (zs.getD i 0)) h1 rfl i2 i3
   refine⟨by simp[i1],a++ys,by rw[List.map_append];rfl,k1,fun i hi => ?_⟩
   have:=k2 i hi
   cases i<;>exact this
omit hE in
theorem qke {ρ':Rho} {H':Snap} : ∀ {l:List SVal} {xs:List AP} {vs:List Value},qdd l=some xs->RepC ρ' H' l vs->xs.length=l.length /\ ∃ ys,vs=ys.map (Value.int .u64)/\(PayL.pt xs).ok ys
 | [],xs,vs,hf,hr=>by
   simp only[qdd,Option.some.injEq]at hf
   subst hf
   simp only[RepC]at hr
   exact⟨rfl,[],hr,rfl,fun i hi=>absurd hi (Nat.not_lt_zero _)⟩
 | s :: l,xs,vs,hf,hr=>by
   simp only[qdd]at hf
   split at hf<;>try (cases hf;done)
   split at hf<;>try (cases hf;done)
   rename_i x zs hz
   simp only[Option.some.injEq]at hf
   subst hf
   obtain⟨us,ws,rfl,h1,h2⟩:=RepC_cons.1 hr
   obtain⟨i1,ys,rfl,i2,i3⟩:=qke hz h2
   simp only[Rep]at h1
   obtain⟨a,rfl,h1⟩:=h1
   obtain⟨k1,k2⟩:=qkc (f:=fun i =>.pt (zs.getD i ⟨0,1⟩)) h1 rfl i2 i3
   refine⟨by simp[i1],a++ys,by rw[List.map_append];rfl,k1,fun i hi => ?_⟩
   have:=k2 i hi
   cases i<;>exact this
omit hE in
theorem qkf {ρ':Rho} {H':Snap} {es:Nat} {l:List SVal} {q:PayL} {vs:List Value} (hq:qcw es l=some q) (hr:RepC ρ' H' l vs):q.len=l.length /\ ∃ ys,vs=ys.map (Value.int .u64)/\q.ok ys:=by
 unfold qcw at hq
 split at hq
 ·split at hq<;>try (cases hq;done)
  rename_i xs hx
  simp only[Option.some.injEq]at hq
  subst hq
  exact qkd hx hr
 ·split at hq<;>try (cases hq;done)
  rename_i xs hx
  simp only[Option.some.injEq]at hq
  subst hq
  exact qke hx hr
 ·cases hq
theorem qhq (R:Rel E ρ H ts h U a w) {es:Nat} {s:SVal} {v:Value} {id:Option Nat} {q:PayL} {n:SN} (hd:Den ρ H s v) (ha:appA h es s=some (id,q,n)) (hp:n.v=q.len) :
  ∃ ad cap xs,v = .slice ad n.v cap/\n.v<=cap/\q.ok xs/\q.es=es/\(∀ (j:Nat) z,xs[j]?=some z -> ∃ kk b o,(some IntKind.u64)=some kk/\ad=some ⟨b,o,none⟩/\w.cell? ⟨b,o+j,none⟩=some (.int kk z)) /\
   (∀ i,id=some i->look h i ≠ .junk /\ ∃ off len cp,s = .sl i es off len cp/\cp.v=cap)/\(id=none->v = .slice none 0 0/\xs=[]):=by
 have own : ∀ (i:Nat) (len cap:SN) (q:PayL),s = .sl i es (.l 0) len cap->len.v=q.len->q.es=es->look h i ≠ .junk->(∀ vs,Rep ρ H (look h i) vs -> ∃ ys,vs=ys.map (Value.int .u64)/\q.ok ys)->(∀ k,look h i ≠ gho k) ->
   ∃ ad cp xs,v = .slice ad len.v cp/\len.v<=cp/\q.ok xs/\q.es=es/\(∀ (j:Nat) z,xs[j]?=some z -> ∃ kk b o,(some IntKind.u64)=some kk/\ad=some ⟨b,o,none⟩/\w.cell? ⟨b,o+j,none⟩=some (.int kk z)) /\
   (∀ i',some i=some i'->look h i' ≠ .junk /\ ∃ off len cp2,s = .sl i' es off len cp2/\cp2.v=cp)/\(some i=none->v = .slice none 0 0/\xs=[]):=by
  rintro i len cap q rfl hlen hes hj hrep hne
  simp only[Den,Rep,List.cons.injEq,and_true]at hd
  obtain⟨ad,rfl,h1,h2,h3,h4⟩:=hd
  rcases R.lies hj with hg|⟨arr,t,vs,li⟩
  ·obtain⟨_,_,k,hk⟩:=hg
   exact absurd hk (hne k)
  ·obtain⟨o',rfl,ho⟩:=h4 li.real
   obtain⟨ys,rfl,hq⟩:=hrep _ li.rep
   refine⟨_,cap.v,ys,rfl,h1,hq,hes,fun j y hj=>⟨_,_,_,rfl,rfl,?_⟩,fun i' e=>by cases e;exact⟨hj,_,_,_,rfl,rfl⟩,nofun⟩
   have hjl:=(List.getElem?_eq_some_iff.1 hj).1
   have hc0:cap.v ≠ 0:=by
    intro h0
    have:q.len=0:=by omega
    rw[hq.1,this,Nat.zero_mul]at hjl
    omega
   rw[ho hc0,show(SN.l 0).v=0 from rfl,Nat.add_zero]
   exact li.cell _ _ (by rw[List.getElem?_map,hj];rfl)
 unfold appA at ha
 split at ha
 ·have hv:v = .slice none 0 0:=by
   simp only[Den,Rep,List.cons.injEq,and_true]at hd
   exact hd.1
  split at ha<;>try (cases ha;done)
  ·rename_i hb
   have hb:=Nat.eq_of_beq_eq_true hb
   cases ha
   refine⟨none,0,[],hv,Nat.le_refl _,⟨rfl,fun i hi=>absurd hi (Nat.not_lt_zero _)⟩,by rw[hb];rfl,fun j z hz=>by simp at hz,nofun,fun _=>⟨hv,rfl⟩⟩
  ·rename_i hb _
   have hb:=Nat.eq_of_beq_eq_true hb
   cases ha
   refine⟨none,0,[],hv,Nat.le_refl _,⟨rfl,fun i hi=>absurd hi (Nat.not_lt_zero _)⟩,by rw[hb];rfl,fun j z hz=>by simp at hz,nofun,fun _=>⟨hv,rfl⟩⟩
 ·rename_i i es' len cap
  split at ha<;>try (cases ha;done)
  ·rename_i q' hb hl
   have hb:=Nat.eq_of_beq_eq_true hb
   subst hb
   split at ha<;>cases ha
   rename_i hq
   have hq:=Nat.eq_of_beq_eq_true hq
   exact own i _ cap _ rfl hp hq.symm (by rw[hl];simp) (fun vs hr=>by rw[hl]at hr;simpa only[Rep]using hr) (by rw[hl];intro k;cases k<;>simp[gho])
  ·rename_i l hb hl
   have hb:=Nat.eq_of_beq_eq_true hb
   subst hb
   split at ha<;>cases ha
   rename_i hq
   have hes:q.es=es:=by
    unfold qcw at hq
    split at hq
    ·have h8:Nat.beq es 8=true:=by assumption
     split at hq<;>cases hq
     exact(Nat.eq_of_beq_eq_true h8).symm
    ·have h24:Nat.beq es 24=true:=by assumption
     split at hq<;>cases hq
     exact(Nat.eq_of_beq_eq_true h24).symm
    ·cases hq
   exact own i _ cap _ rfl hp hes (by rw[hl];simp) (fun vs hr=>by rw[hl]at hr;simp only[Rep]at hr;exact(qkf hq hr).2) (by rw[hl];intro k;cases k<;>simp[gho])
  ·rename_i hb hl
   have hb:=Nat.eq_of_beq_eq_true hb
   subst hb
   have emp : ∀ vs,Rep ρ H (look h i) vs->vs=[]:=fun vs hr=>by
    rw[hl]at hr
    simp only[Rep]at hr
    rw[hr.2,List.length_eq_zero_iff.1 hr.1,List.map_nil]
   split at ha<;>cases ha
   ·have h8:=Nat.eq_of_beq_eq_true (show Nat.beq _ 8=true by assumption)
    exact own i _ cap _ rfl hp h8.symm (by rw[hl];simp) (fun vs hr=>⟨[],emp vs hr,rfl,fun i hi=>absurd hi (Nat.not_lt_zero _)⟩) (by rw[hl];intro k;cases k<;>simp[gho])
   ·have h24:=Nat.eq_of_beq_eq_true (show Nat.beq _ 24=true by assumption)
    exact own i _ cap _ rfl hp h24.symm (by rw[hl];simp) (fun vs hr=>⟨[],emp vs hr,rfl,fun i hi=>absurd hi (Nat.not_lt_zero _)⟩) (by rw[hl];intro k;cases k<;>simp[gho])
 ·cases ha
theorem qoR (R:Rel E ρ H ts h U a w) {es bytes:Nat} {s x:SVal} (hO:qM P E ρ H h U a w o (.app es bytes s x)) (hH : ∀ b,w.heap.size<=b->H b=none) {id id2:Option Nat} {q1 q2 q:PayL} {n1 n2:SN}
  (h1:appA h es s=some (id,q1,n1)) (h2:appA h es x=some (id2,q2,n2)) (h4:q1.cat E.Ω q2=some q)
  (hb:(n1.v+n2.v)*bytes<=140737488355328) (e1:n1.v=q1.len) (e2:n2.v=q2.len) (h0:0<n2.v) :
  ∃ v w' pos cap,(execOp a.eval o).run P w = .ok (.value v) w'/\AppRes E U ρ H w id es (n1.add E.Ω n2) (.sab q) v w' pos cap:=by
 obtain⟨vs,vx,t,u,e,f,te,ad,hte,hes,hby,hb0,hu,huf,hrun,hds,hdx,_,_⟩:=hO
 obtain⟨ad1,cap1,xs,rfl,hle1,ok1,es1,hc1,hid1,hnil⟩:=qhq hE R hds h1 e1
 obtain⟨ad2,cap2,ys,rfl,hle2,ok2,es2,hc2,hid2,_⟩:=qhq hE R hdx h2 e2
 rw[hE.om]at h4
 obtain⟨_,_,_,hq⟩:=PayL.cat_ok h4 ok1 ok2
 have l1:xs.length=n1.v*es:=by rw[ok1.1,e1,es1]
 have l2:ys.length=n2.v*es:=by rw[ok2.1,e2,es2]
 have hpos:0<es:=by rw[<- es2];exact PayL.es_pos _
 refine qj0 (kk :=.u64) hE.toEnvOk R hH hte hes hby hb0 hu huf hrun hds hle1 l1 hc1 (fun i hi=>(hid1 i hi).2) hnil hle2 l2 hc2 (fun q h=>by cases h;rfl) (fun q h=>by cases h;rfl) hb (fun i hi=>⟨(hid1 i hi).1,.inl ?_⟩) (fun _ _=>by simp only[Rep];exact⟨_,rfl,hq⟩) (fun e => ?_) rfl
 ·subst hi
  obtain⟨off,len,cp,rfl,_⟩:=(hid1 i rfl).2
  cases hlk:look h i<;>first|rfl|(cases off with|l o=>(cases o<;>simp[appA,hlk]at h1)|s o=>simp[appA]at h1)
 ·have:=congrArg List.length e
  rw[List.length_append,l1,l2]at this
  have:=Nat.mul_pos h0 hpos
  simp at *
  omega
omit hE in
def qaj (l:List SVal):Option (List (List Int))->SVal
 | none =>.lst l
 | some xss =>.lsr l xss
omit hE in
theorem qcd {ρ':Rho} {H':Snap} : ∀ {l:List SVal} {vs:List Value},RepV ρ' H' l vs->vs.length=l.length
 | [],vs,h=>by simp only[RepV]at h;subst h;rfl
 | s :: l,vs,h=>by
   obtain⟨v,ws,rfl,_,h2⟩:=RepV_cons.1 h
   simp[qcd h2]
omit hE in
theorem qhr {ρ':Rho} {H':Snap} : ∀ {l m:List SVal} {us vs:List Value},RepV ρ' H' l us->RepV ρ' H' m vs->RepV ρ' H' (l++m) (us++vs)
 | [],m,us,vs,h,h2=>by simp only[RepV]at h;subst h;exact h2
 | s :: l,m,us,vs,h,h2=>by
   obtain⟨v,ws,rfl,h3,h4⟩:=RepV_cons.1 h
   exact RepV_cons.2 ⟨v,ws++vs,rfl,h3,qhr h4 h2⟩
omit hE in
theorem qdA {ρ':Rho} {H':Snap} {l:List SVal} {t:Option (List (List Int))} {vs:List Value} (h:Rep ρ' H' (qaj l t) vs):vs.length=lenL l t:=by
 cases t with
 | none=>simp only[qaj,Rep]at h;exact qcd h.1
 | some xss =>
   simp only[qaj,Rep]at h
   obtain⟨us,ws,rfl,h1,_,h2,_⟩:=h
   simp only[lenL,List.length_append,qcd h1,h2]
omit hE in
theorem qoS {H':Snap} {k:IntKind} {xs:List Int} {v:Value} (h:RoI H' k xs v):qaI v:=by
 obtain⟨a,c,rfl,_⟩:=h
 trivial
omit hE in
theorem qoT {ρ':Rho} {H':Snap} {l:List SVal} {t:Option (List (List Int))} {vs:List Value} (h:Rep ρ' H' (qaj l t) vs) : ∀ v ∈ vs,qaI v:=by
 cases t with
 | none=>simp only[qaj,Rep]at h;exact h.2
 | some xss =>
   simp only[qaj,Rep]at h
   obtain⟨us,ws,rfl,_,h1,h2,h3⟩:=h
   intro v hv
   rcases List.mem_append.1 hv with hv|hv
   · exact h1 v hv
   · obtain⟨j,hj,rfl⟩:=List.mem_iff_getElem.1 hv
     obtain⟨u,hu,hr⟩:=h3 j _ (List.getElem?_eq_getElem (show j<xss.length by omega))
     rw[List.getElem?_eq_getElem hj]at hu
     cases hu
     exact qoS hr
omit hE in
theorem qoU {ρ':Rho} {H':Snap} : ∀ {l:List SVal} {zss:List (List Int)} {vs:List Value},qbB l=some zss->RepV ρ' H' l vs->vs.length=zss.length /\ ∀ (j:Nat) xs,zss[j]?=some xs -> ∃ u,vs[j]?=some u/\RoI H' .u8 xs u:=by
 intro l zss vs hr h
 have e:=qeU hr
 refine⟨by rw[qcd h,e];simp,fun j xs hj => ?_⟩
 obtain⟨v,h1,h2⟩:=qeV h (show l[j]?=some (.roi .u8 xs)by rw[e,List.getElem?_map,hj];rfl)
 simp only[Den,Rep,List.cons.injEq,and_true]at h2
 obtain⟨_,rfl,h2⟩:=h2
 exact⟨v,h1,h2⟩
omit hE in
theorem qkg {H':Snap} {xss yss:List (List Int)} {us vs:List Value} (h1:us.length=xss.length) (h2 : ∀ (j:Nat) xs,xss[j]?=some xs -> ∃ u,us[j]?=some u/\RoI H' .u8 xs u)
  (h3:vs.length=yss.length) (h4 : ∀ (j:Nat) xs,yss[j]?=some xs -> ∃ u,vs[j]?=some u/\RoI H' .u8 xs u) :
  (us++vs).length=(xss++yss).length /\ ∀ (j:Nat) xs,(xss++yss)[j]?=some xs -> ∃ u,(us++vs)[j]?=some u/\RoI H' .u8 xs u:=by
 refine⟨by rw[List.length_append,List.length_append,h1,h3],fun j xs hj => ?_⟩
 by_cases hl:j<xss.length
 ·rw[List.getElem?_append_left hl]at hj
  obtain⟨u,hu,hr⟩:=h2 j xs hj
  exact⟨u,by rw[List.getElem?_append_left (by omega)];exact hu,hr⟩
 ·rw[List.getElem?_append_right (by omega)]at hj
  obtain⟨u,hu,hr⟩:=h4 _ xs hj
  exact⟨u,by rw[List.getElem?_append_right (by omega),h1];exact hu,hr⟩
omit hE in
theorem qkh {ρ':Rho} {H':Snap} {a b:List SVal} {s t:Option (List (List Int))} {c:SVal} {us vs:List Value} (hc:catL Om.real a s b t=some c) (h1:Rep ρ' H' (qaj a s) us) (h2:Rep ρ' H' (qaj b t) vs) :
  Rep ρ' H' c (us++vs)/\(us++vs=[] -> ∃ k,c=gho k):=by
 have e1:=qdA h1
 have e2:=qdA h2
 unfold catL at hc
 cases s with
 | none =>
   simp only[qaj,Rep]at h1
   cases t with
   | none =>
     simp only[qaj,Rep]at h2
     simp only at hc
     split at hc<;>cases hc
     rename_i hne
     refine⟨?_,fun e=>absurd ?_ hne⟩
     · simp only[Rep]
       refine⟨qhr h1.1 h2.1,fun v hv => ?_⟩
       rcases List.mem_append.1 hv with hv|hv
       · exact h1.2 v hv
       · exact h2.2 v hv
     · have:=congrArg List.length e
       rw[List.length_append,e1,e2]at this
       simp only[lenL,List.length_nil]at this
       exact List.eq_nil_of_length_eq_zero (by rw[List.length_append];omega)
   | some yss =>
     simp only[qaj,Rep]at h2
     obtain⟨vs1,ws,rfl,r1,r2,r3,r4⟩:=h2
     cases hc
     refine⟨?_,fun e=>⟨none,?_⟩⟩
     · simp only[Rep]
       refine⟨us++vs1,ws,(List.append_assoc _ _ _).symm,qhr h1.1 r1,fun v hv => ?_,r3,r4⟩
       rcases List.mem_append.1 hv with hv|hv
       · exact h1.2 v hv
       · exact r2 v hv
     · have:=congrArg List.length e
       rw[List.length_append,e1,e2]at this
       simp only[lenL,List.length_nil]at this
       rw[List.eq_nil_of_length_eq_zero (show(a++b).length=0 by rw[List.length_append];omega),List.eq_nil_of_length_eq_zero (show yss.length=0 by omega)]
       rfl
 | some xss =>
   simp only[qaj,Rep]at h1
   obtain⟨us1,ws,rfl,r1,r2,r3,r4⟩:=h1
   simp only at hc
   split at hc<;>try (cases hc;done)
   rename_i zss hz
   have key : ∀ yss,Rep ρ' H' (qaj b t) vs->(∃ w1 w2,vs=w1++w2/\RepV ρ' H' b w1/\w2.length=yss.length /\ ∀ (j:Nat) xs,yss[j]?=some xs -> ∃ u,w2[j]?=some u/\RoI H' .u8 xs u) ->
       Rep ρ' H' (.lsr a (xss++(zss++yss))) ((us1++ws)++vs)/\((us1++ws)++vs=[] -> ∃ k,SVal.lsr a (xss++(zss++yss))=gho k):=by
     intro yss _ hv
     obtain⟨w1,w2,rfl,q1,q2,q3⟩:=hv
     obtain⟨g1,g2⟩:=qoU hz q1
     have g:=qkg g1 g2 q2 q3
     have g':=qkg r3 r4 g.1 g.2
     refine⟨?_,fun e=>⟨none,?_⟩⟩
     · simp only[Rep]
       exact⟨us1,ws++(w1++w2),List.append_assoc _ _ _,r1,r2,g'.1,g'.2⟩
     · have l1:=congrArg List.length e
       have l2:=g'.1
       have l3:=qcd r1
       simp only[List.length_append,List.length_nil]at l1 l2
       rw[List.eq_nil_of_length_eq_zero (show a.length=0 by omega),List.eq_nil_of_length_eq_zero (show(xss++(zss++yss)).length=0 by simp only[List.length_append];omega)]
       rfl
   cases t with
   | none =>
     cases hc
     have hv:=h2
     simp only[qaj,Rep]at hv
     have:=key [] h2 ⟨vs,[],by simp,hv.1,rfl,fun j xs hj=>by simp at hj⟩
     rw[List.append_nil]at this
     exact this
   | some yss =>
     cases hc
     have hv:=h2
     simp only[qaj,Rep]at hv
     obtain⟨w1,w2,e,q1,_,q2,q3⟩:=hv
     exact key yss h2 ⟨w1,w2,e,q1,q2,q3⟩
theorem qki (R:Rel E ρ H ts h U a w) {s:SVal} {v:Value} {id:Option Nat} {l:List SVal} {t:Option (List (List Int))} {n:SN} (hd:Den ρ H s v) (ha:appL E h s=some (id,l,t,n)) (hp:n.v=lenL l t) :
  ∃ ad cap zs,v = .slice ad n.v cap/\n.v<=cap/\Rep ρ H (qaj l t) zs/\(∀ (j:Nat) z,zs[j]?=some z -> ∃ b o,ad=some ⟨b,o,none⟩/\w.cell? ⟨b,o+j,none⟩=some z)/\IdsLtL U l /\
   (∀ i,id=some i->look h i ≠ .junk /\ ∃ off len cp,s = .sl i 1 off len cp/\cp.v=cap)/\(qbh h s=true->id=none->v = .slice none 0 0/\zs=[]):=by
 unfold appL at ha
 split at ha
 ·cases ha
  simp only[Den,Rep,List.cons.injEq,and_true]at hd
  exact⟨none,0,[],hd.1,Nat.le_refl _,by simp[qaj,Rep,RepV],fun j z hz=>by simp at hz,trivial,nofun,fun _ _=>⟨hd.1,rfl⟩⟩
 ·rename_i xss
  cases ha
  simp only[Den,Rep,List.cons.injEq,and_true]at hd
  obtain⟨a',c,rfl,h1,h2⟩:=hd
  have e:(SN.s (E.Ω.len2 xss)).v=xss.length:=by rw[hE.om];rfl
  have hb : ∃ zs:List Value,zs.length=xss.length /\ ∀ (j:Nat) xs,xss[j]?=some xs -> ∃ b o u,a'=some ⟨b,o,none⟩/\qu H b (o+j)=some u/\RoI H .u8 xs u/\zs[j]?=some u:=by
   cases a' with
   | none =>
     have:xss=[]:=by
       cases xss with
       | nil=>rfl
       | cons x xs=>obtain⟨b,o,u,hc,_⟩:=h2 0 x rfl;cases hc
     subst this
     exact⟨[],rfl,fun j xs hj=>by simp at hj⟩
   | some ad =>
     refine⟨(List.range xss.length).map fun j=>(qu H ad.block (ad.off+j)).getD (.bool true),by simp,fun j xs hj => ?_⟩
     obtain⟨b,o,u,g1,g2,g3⟩:=h2 j xs hj
     cases g1
     have hl:=(List.getElem?_eq_some_iff.1 hj).1
     refine⟨b,o,u,rfl,g2,g3,?_⟩
     simp only[List.getElem?_map,List.getElem?_range hl,Option.map_some,g2,Option.getD_some]
  obtain⟨zs,hz1,hz2⟩:=hb
  refine⟨a',c,zs,by rw[e],by rw[e];exact h1,?_,fun j z hz => ?_,trivial,nofun,nofun⟩
  ·simp only[qaj,Rep,RepV]
   exact⟨[],zs,rfl,rfl,fun v hv=>by simp at hv,hz1,fun j xs hj=>by obtain⟨b,o,u,_,_,g3,g4⟩:=hz2 j xs hj;exact⟨u,g4,g3⟩⟩
  ·have hl:j<xss.length:=by rw[<- hz1];exact(List.getElem?_eq_some_iff.1 hz).1
   obtain⟨b,o,u,g1,g2,_,g4⟩:=hz2 j _ (List.getElem?_eq_getElem hl)
   rw[hz]at g4
   cases g4
   obtain⟨cs,te,fr,f1,f2⟩:=qg7 R.agree g2
   exact⟨b,o,g1,by simp[World.cell?,f1,f2]⟩
 ·rename_i i len cap
  have own : ∀ c:SVal,look h i=c->c ≠ .junk->(∀ vs,Rep ρ H c vs->vs.length=len.v) -> ∃ ad zs,v = .slice ad len.v cap.v/\len.v<=cap.v/\(Rep ρ H c zs\/(c = .lsr [] []/\zs=[]/\len.v=0) \/ ∃ k,c = .seq k []) /\
    (∀ (j:Nat) z,zs[j]?=some z -> ∃ b o,ad=some ⟨b,o,none⟩/\w.cell? ⟨b,o+j,none⟩=some z):=by
   intro c hl hj hlen
   simp only[Den,Rep,List.cons.injEq,and_true]at hd
   obtain⟨ad,rfl,h1,h2,h3,h4⟩:=hd
   rcases R.lies (id:=i) (by rw[hl];exact hj)with hg|⟨arr,te,vs,li⟩
   ·obtain⟨k1,_,k,hk⟩:=hg
    rw[hl]at hk
    have h0:=(h3 k1).2
    refine⟨ad,[],rfl,h1,?_,fun j z hz=>by simp at hz⟩
    cases k with
    | none=>exact .inr (.inl ⟨hk,rfl,by omega⟩)
    | some k=>exact .inr (.inr ⟨k,hk⟩)
   ·obtain⟨o',rfl,ho⟩:=h4 li.real
    have hrep:=li.rep
    rw[hl]at hrep
    refine⟨_,vs,rfl,h1,.inl hrep,fun j z hz=>⟨_,_,rfl,?_⟩⟩
    have hjl:=(List.getElem?_eq_some_iff.1 hz).1
    rw[hlen _ hrep]at hjl
    rw[ho (by omega),show(SN.l 0).v=0 from rfl,Nat.add_zero]
    exact li.cell _ _ hz
  have hid : ∀ c:SVal,look h i=c->c ≠ .junk -> ∀ i',some i=some i'->look h i' ≠ .junk /\ ∃ off len' cp,(SVal.sl i 1 (.l 0) len cap) = .sl i' 1 off len' cp/\cp.v=cap.v :=
   fun c hl hj i' e=>by cases e;exact⟨by rw[hl];exact hj,_,_,_,rfl,rfl⟩
  have hids:=R.lids i
  split at ha
  ·rename_i l' hl
   cases ha
   rw[hl]at hids
   obtain⟨ad,zs,h1,h2,h3,h4⟩:=own _ hl (by simp) (fun vs hr=>by simp only[Rep]at hr;rw[qcd hr.1];exact hp.symm)
   refine⟨ad,cap.v,zs,h1,h2,?_,h4,hids,hid _ hl (by simp),fun _=>nofun⟩
   rcases h3 with h3|⟨h3,_⟩|⟨k,h3⟩
   ·exact h3
   ·cases h3
   ·cases h3
  ·rename_i l' xss hl
   rw[hl]at hids
   split at ha
   ·cases ha
    simp only[Den,Rep,List.cons.injEq,and_true]at hd
    obtain⟨ad,rfl,h1,h2,h3,h4⟩:=hd
    exact⟨ad,cap.v,[],rfl,h1,by simp[qaj,Rep,RepV],fun j z hz=>by simp at hz,trivial,hid _ hl (by simp),fun _=>nofun⟩
   ·cases ha
    obtain⟨ad,zs,h1,h2,h3,h4⟩:=own _ hl (by simp) (fun vs hr=>by
     have:=qdA (l:=l) (t:=some xss) hr
     rw[this];exact hp.symm)
    refine⟨ad,cap.v,zs,h1,h2,?_,h4,hids,hid _ hl (by simp),fun _=>nofun⟩
    rcases h3 with h3|⟨h3,rfl,_⟩|⟨k,h3⟩
    ·exact h3
    ·cases h3
     exact qjk (k:=none)
    ·cases h3
  ·cases ha
 ·cases ha
omit hE in
theorem qoV {Ω:Om} {U:Top} {a b:List SVal} {s t:Option (List (List Int))} {c:SVal} (hc:catL Ω a s b t=some c) (h1:IdsLtL U a) (h2:IdsLtL U b):IdsLt U c:=by
 have happ : ∀ {l m:List SVal},IdsLtL U l->IdsLtL U m->IdsLtL U (l++m):=by
  intro l m h1 h2
  induction l with
  | nil=>exact h2
  | cons s l ih=>exact⟨h1.1,ih h1.2⟩
 unfold catL at hc
 split at hc
 ·split at hc
  ·split at hc<;>cases hc
   exact happ h1 h2
  ·cases hc
   exact happ h1 h2
 ·split at hc<;>try (cases hc;done)
  split at hc<;>cases hc<;>exact h1
omit hE in
theorem qoW {Ω:Om} {a b:List SVal} {s t:Option (List (List Int))} {c:SVal} (hc:catL Ω a s b t=some c):qah c=false:=by
 unfold catL at hc
 split at hc
 ·split at hc
  ·split at hc<;>cases hc
   rfl
  ·cases hc
   rfl
 ·split at hc<;>try (cases hc;done)
  split at hc<;>cases hc<;>rfl
theorem qoX (R:Rel E ρ H ts h U a w) {bytes:Nat} {s x:SVal} (hO:qM P E ρ H h U a w o (.app 1 bytes s x)) (hH : ∀ b,w.heap.size<=b->H b=none) {id id2:Option Nat} {l1 l2:List SVal} {t1 t2:Option (List (List Int))} {c:SVal} {n1 n2:SN}
  (h1:appL E h s=some (id,l1,t1,n1)) (h2:appL E h x=some (id2,l2,t2,n2)) (h3:qbh h s=true) (h4:catL E.Ω l1 t1 l2 t2=some c)
  (hb:(n1.v+n2.v)*bytes<=140737488355328) (e1:n1.v=lenL l1 t1) (e2:n2.v=lenL l2 t2) :
  (∃ v w' pos cap,(execOp a.eval o).run P w = .ok (.value v) w'/\AppRes E U ρ H w id 1 (n1.add E.Ω n2) c v w' pos cap)/\IdsLt U c /\ ∀ i,id=some i->look h i ≠ .junk:=by
 obtain⟨vs,vx,t,u,e,f,te,ad,hte,hes,hby,hb0,hu,huf,hrun,hds,hdx,_,_⟩:=hO
 obtain⟨ad1,cap1,xs,rfl,hle1,r1,hc1,i1,hid1,hnil⟩:=qki hE R hds h1 e1
 obtain⟨ad2,cap2,ys,rfl,hle2,r2,hc2,i2,hid2,_⟩:=qki hE R hdx h2 e2
 have h4':=h4
 rw[hE.om]at h4'
 have hids:=qoV h4 i1 i2
 refine⟨qjZ hE.toEnvOk R hH hte hes hby hb0 hu huf hrun hds hle1 (by rw[qdA r1,e1,Nat.mul_one]) hc1 (fun i hi=>(hid1 i hi).2) (fun e=>hnil h3 e) hle2 (by rw[qdA r2,e2,Nat.mul_one]) hc2 (qoT r2) hb (fun i hi=>⟨(hid1 i hi).1,.inl ?_⟩) (fun ρ' hρ => ?_) (qkh h4' r1 r2).2 (qoW h4),hids,fun i hi=>(hid1 i hi).1⟩
 ·subst hi
  obtain⟨off,len,cp,rfl,_⟩:=(hid1 i rfl).2
  cases hlk:look h i<;>first|rfl|(cases off with|l o=>(cases o<;>simp[appL,hlk]at h1)|s o=>simp[appL]at h1)
 exact Rep.ext hρ (fun b o hb=>hb) _ hids (qkh h4' r1 r2).1
theorem qoY (R:Rel E ρ H ts h U a w) {s:SVal} {v:Value} (hd:Den ρ H s v) (hp:qa6 h s) (hc:IdsLt noId (qO E h s)):Den ρ0 (qy w) (qO E h s) v:=by
 have plain:(bPre h s)->qO E h s=qj E h s->Den ρ0 (qy w) (qO E h s) v:=by
  intro h1 e
  rw[e]at hc ⊢
  exact qdz hE R hd h1 hc
 by_cases hsl : ∃ id off len cap l,s = .sl id 1 off len cap/\look h id = .lst l
 ·obtain⟨id,off,len,cap,l,rfl,hl⟩:=hsl
  simp only[qa6,hl]at hp
  simp only[qO,hl]at hc ⊢
  split<;>try trivial
  rename_i m
  split<;>try trivial
  rename_i xss hb hr
  have hm:=Nat.eq_of_beq_eq_true hb
  have hx:=qeU hr
  have hlen:xss.length=l.length:=by have:=congrArg List.length hx;simpa using this.symm
  simp only[Den,Rep,List.cons.injEq,and_true]at hd ⊢
  obtain⟨ad,rfl,h1,h2,h3,h4⟩:=hd
  have hml:m=xss.length:=by omega
  refine⟨ad,cap.v,by rw[<- hml];rfl,by rw[<- hml];exact h1,fun j xs hj => ?_⟩
  have hjl:j<xss.length:=(List.getElem?_eq_some_iff.1 hj).1
  rcases R.lies (id:=id) (by rw[hl];simp)with hg|⟨arr,t,vs,li⟩
  ·obtain⟨_,_,k,hk⟩:=hg
   rw[hl]at hk;cases k<;>cases hk
  ·obtain⟨o',rfl,ho⟩:=h4 li.real
   have hrep:=li.rep
   rw[hl]at hrep
   simp only[Rep]at hrep
   obtain⟨t1,ht1⟩ : ∃ t1,l[j]?=some t1:=⟨_,List.getElem?_eq_getElem (by omega)⟩
   obtain⟨u,hu,hdu⟩:=qeV hrep.1 ht1
   have hbt:qj E h t1 = .roi .u8 xs:=by
    have e:=congrArg (fun q=>q[j]?) hx
    simp only[List.getElem?_map,ht1,hj,Option.map_some,Option.some.injEq]at e
    exact e
   have hz:=qdz hE R hdu (qhp hp ht1) (by rw[hbt];trivial)
   rw[hbt]at hz
   simp only[Den,Rep,List.cons.injEq,and_true]at hz
   obtain⟨_,rfl,hz⟩:=hz
   have ho2:=ho (by have:(SN.l m).v<=cap.v:=h1;have:(SN.l m).v=m:=rfl;omega)
   refine⟨_,_,u,rfl,?_,hz⟩
   have:(SN.l 0).v=0:=rfl
   simp only[qu,qy,li.blk]
   have hcell:=li.cells j u hu
   rw[ho2,this,Nat.add_zero]
   exact hcell
 by_cases hsr : ∃ id off len cap l xss,s = .sl id 1 off len cap/\look h id = .lsr l xss
 ·obtain⟨id,off,len,cap,l,zss,rfl,hl⟩:=hsr
  simp only[qa6,hl]at hp
  simp only[qO,hl]at hc ⊢
  split<;>try trivial
  rename_i yss hr
  have hx:=qeU hr
  have hlen:yss.length=l.length:=by have:=congrArg List.length hx;simpa using this.symm
  simp only[Den,Rep,List.cons.injEq,and_true]at hd ⊢
  obtain⟨ad,rfl,h1,h2,h3,h4⟩:=hd
  have hml:len.v=(yss++zss).length:=by rw[List.length_append];omega
  refine⟨ad,cap.v,by rw[<- hml],by rw[<- hml];exact h1,fun j xs hj => ?_⟩
  have hjl:j<(yss++zss).length:=(List.getElem?_eq_some_iff.1 hj).1
  rcases R.lies (id:=id) (by rw[hl];simp)with hg|⟨arr,t,vs,li⟩
  ·have:=(h3 hg.1).2
   omega
  ·obtain⟨o',rfl,ho⟩:=h4 li.real
   have hrep:=li.rep
   rw[hl]at hrep
   simp only[Rep]at hrep
   obtain⟨us,ws,rfl,r1,r2,r3,r4⟩:=hrep
   have hul:=qcd r1
   have key : ∃ u,(us++ws)[j]?=some u/\RoI (qy w) .u8 xs u:=by
    by_cases hjy:j<yss.length
    ·rw[List.getElem?_append_left hjy]at hj
     obtain⟨t1,ht1⟩ : ∃ t1,l[j]?=some t1:=⟨_,List.getElem?_eq_getElem (by omega)⟩
     obtain⟨u,hu,hdu⟩:=qeV r1 ht1
     have hbt:qj E h t1 = .roi .u8 xs:=by
      have e:=congrArg (fun q=>q[j]?) hx
      simp only[List.getElem?_map,ht1,hj,Option.map_some,Option.some.injEq]at e
      exact e
     have hz:=qdz hE R hdu (qhp hp.1 ht1) (by rw[hbt];trivial)
     rw[hbt]at hz
     simp only[Den,Rep,List.cons.injEq,and_true]at hz
     obtain⟨_,rfl,hz⟩:=hz
     exact⟨u,by rw[List.getElem?_append_left (by omega)];exact hu,hz⟩
    ·rw[List.getElem?_append_right (by omega)]at hj
     obtain⟨u,hu,hr⟩:=r4 _ xs hj
     refine⟨u,by rw[List.getElem?_append_right (by omega),show j-us.length=j-yss.length by omega];exact hu,?_⟩
     obtain⟨a',c',e1,e2,e3⟩:=hr
     refine⟨a',c',e1,e2,fun i x hi => ?_⟩
     obtain⟨b,o,g1,g2⟩:=e3 i x hi
     obtain⟨cs,te,fr,f1,f2⟩:=qg7 R.agree g2
     exact⟨b,o,g1,by simp[qu,qy,f1,f2]⟩
   obtain⟨u,hu,hro⟩:=key
   have ho2:=ho (by omega)
   refine⟨_,_,u,rfl,?_,hro⟩
   have:(SN.l 0).v=0:=rfl
   simp only[qu,qy,li.blk]
   have hcell:=li.cells j u hu
   rw[ho2,this,Nat.add_zero]
   exact hcell
 by_cases hpt : ∃ id l,s = .ptr id (.l 0)/\look h id = .agg l/\allC (l.map (qaa E h))=true
 ·obtain⟨id,l,rfl,hl,hal⟩:=hpt
  simp only[qa6,hl]at hp
  simp only[qO,hl,hal]at hc ⊢
  have hcl:IdsLtL noId (l.map (qaa E h)):=hc
  rcases R.lies (id:=id) (by rw[hl];simp)with hg|⟨arr,t,vs,li⟩
  ·obtain⟨_,_,k,hk⟩:=hg
   rw[hl]at hk;cases k<;>cases hk
  ·have hrep:=li.rep
   rw[hl]at hrep
   simp only[Rep]at hrep
   simp only[Den,Rep,List.cons.injEq,and_true]at hd ⊢
   refine⟨_,_,vs,hd,qkb hE R hrep hp hal hcl,fun j u hu => ?_⟩
   simp only[qu,qy,li.blk]
   exact li.cells j u hu
 by_cases hag : ∃ id es n cap l,s = .sl id es (.l 0) (.l n) cap/\look h id = .agg l/\es ≠ 1
 ·obtain⟨id,es,n,cap,l,rfl,hl,hes⟩:=hag
  have e:qO E h (.sl id es (.l 0) (.l n) cap) = .junk \/ ∃ q,qcw es l=some q/\l.length=n/\qO E h (.sl id es (.l 0) (.l n) cap) = .roa q:=by
   unfold qO
   split
   ·rename_i hq;cases hq;exact absurd rfl hes
   ·rename_i hq;cases hq
   ·rename_i hq
    cases hq
    simp only[hl]
    split
    ·rename_i q hb hq
     exact .inr ⟨q,hq,Nat.eq_of_beq_eq_true hb,rfl⟩
    ·exact .inl rfl
   ·rename_i hq;cases hq
   ·rename_i hq _;exact absurd rfl (hq _ _ _ _)
  rcases e with e|⟨q,hq,hn,e⟩
  ·rw[e];trivial
  rw[e]
  simp only[Den,Rep,List.cons.injEq,and_true]at hd ⊢
  obtain⟨ad,rfl,h1,h2,h3,h4⟩:=hd
  have h1:n<=cap.v:=h1
  rcases R.lies (id:=id) (by rw[hl];simp)with hg|⟨arr,t,vs,li⟩
  ·obtain⟨_,_,k,hk⟩:=hg
   rw[hl]at hk;cases k<;>cases hk
  ·obtain⟨o',rfl,ho⟩:=h4 li.real
   have hrep:=li.rep
   rw[hl]at hrep
   simp only[Rep]at hrep
   obtain⟨q1,ys,rfl,q2⟩:=qkf hq hrep
   refine⟨_,cap.v,ys,by rw[q1,hn];rfl,by omega,q2,fun j y hj=>⟨_,_,rfl,?_⟩⟩
   have hjl:=(List.getElem?_eq_some_iff.1 hj).1
   have hc0:cap.v ≠ 0:=by
    intro h0
    have:n=0:=by omega
    rw[q2.1,q1,hn,this,Nat.zero_mul]at hjl
    omega
   have ho2:=ho hc0
   simp only[qu,qy,li.blk]
   have hcell:=li.cells j _ (by rw[List.getElem?_map,hj];rfl)
   rw[ho2,show(SN.l 0).v=0 from rfl,Nat.add_zero]
   exact hcell
 by_cases hsb : ∃ id es len cap q,s = .sl id es (.l 0) len cap/\look h id = .sab q/\es ≠ 1
 ·obtain⟨id,es,len,cap,q,rfl,hl,hes⟩:=hsb
  have hlen:len.v=q.len:=by
   unfold qa6 at hp
   split at hp
   ·rename_i hq;cases hq;exact absurd rfl hes
   ·rename_i hq;cases hq
   ·rename_i hq;cases hq;simp only[hl]at hp;exact hp
   ·rename_i hq;exact absurd rfl (hq _ _ _ _ _)
  have e:qO E h (.sl id es (.l 0) len cap) = .junk\/(es=q.es/\qO E h (.sl id es (.l 0) len cap) = .roa q):=by
   unfold qO
   split
   ·rename_i hq;cases hq;exact absurd rfl hes
   ·rename_i hq;cases hq
   ·rename_i hq
    cases hq
    simp only[hl]
    split
    ·rename_i hb
     exact .inr ⟨Nat.eq_of_beq_eq_true hb,rfl⟩
    ·exact .inl rfl
   ·rename_i hq
    cases hq
    simp only[hl]
    split
    ·rename_i hb
     exact .inr ⟨Nat.eq_of_beq_eq_true hb,rfl⟩
    ·exact .inl rfl
   ·rename_i h1 h2
    cases len with
    | l n=>exact absurd rfl (h1 _ _ _ _)
    | s n=>exact absurd rfl (h2 _ _ _ _)
  rcases e with e|⟨hqe,e⟩
  ·rw[e];trivial
  rw[e]
  exact qka hE R hd hl hlen
 ·have e:qO E h s=qj E h s:=by
   unfold qO
   split
   ·rename_i id off len cap
    split
    ·rename_i l hq
     exact absurd ⟨id,off,len,cap,l,rfl,hq⟩ hsl
    ·rename_i l xss hq
     exact absurd ⟨id,off,len,cap,l,xss,rfl,hq⟩ hsr
    ·rfl
   ·rename_i id
    split
    ·rename_i l hq
     split
     ·rename_i hal
      exact absurd ⟨id,l,rfl,hq,hal⟩ hpt
     ·rfl
    ·rfl
   ·rename_i id es n cap hne
    split
    ·rename_i l hq
     exact absurd ⟨id,es,n,cap,l,rfl,hq,hne⟩ hag
    ·rename_i q hq
     exact absurd ⟨id,es,.l n,cap,q,rfl,hq,hne⟩ hsb
    ·rfl
   ·rename_i id es n cap hne
    split
    ·rename_i q hq
     exact absurd ⟨id,es,.s n,cap,q,rfl,hq,hne⟩ hsb
    ·rfl
   ·rfl
  refine plain ?_ e
  unfold qa6 at hp
  split at hp
  ·rename_i id off len cap
   split at hp
   ·rename_i l hq
    exact absurd ⟨id,off,len,cap,l,rfl,hq⟩ hsl
   ·rename_i l xss hq
    exact absurd ⟨id,off,len,cap,l,xss,rfl,hq⟩ hsr
   ·exact hp
  ·trivial
  ·rename_i id es off len cap hn
   unfold bPre
   split
   ·rename_i hq
    cases hq
    exact absurd rfl hn
   ·rename_i hq
    cases hq
    exact hp
   ·trivial
  ·rename_i hn _ hn2
   unfold bPre
   split
   ·rename_i id off len cap
    first|exact absurd rfl (hn id off len cap)|exact absurd rfl (hn _ _ _ _)
   ·rename_i id es off len cap _
    first|exact absurd rfl (hn2 id es off len cap)|exact absurd rfl (hn2 _ _ _ _ _)
   ·trivial
theorem qkj (R:Rel E ρ H ts h U a w) : ∀ {l:List SVal} {vs:List Value},RepV ρ H l vs->qbC h l->IdsLtL noId (l.map (qO E h))->RepV ρ0 (qy w) (l.map (qO E h)) vs
 | [],vs,hr,_,_=>hr
 | s :: l,vs,hr,hp,hc=>by
   obtain⟨v,ws,rfl,h1,h2⟩:=RepV_cons.1 hr
   exact RepV_cons.2 ⟨v,ws,rfl,qoY hE R h1 hp.1 hc.1,qkj R h2 hp.2 hc.2⟩
omit hE in
theorem qkk (R:Rel E ρ H ts h U a w) {base:Nat} (hf : ∀ id,own base i id -> ¬ U id) {c:SVal} {mk:Nat->SVal} {u:Value} {arr:Array Value} {t:TypeId} {vs:List Value} (hr:Rep ρ H c vs) (hc:IdsLt U c) (hv:arr.toList=vs)
  (hm : ∀ (ρ':Rho) id,ρ' id=⟨w.heap.size,0,vs.length,false⟩->Den ρ' H (mk id) u/\IdsLt (fun i=>i=id) (mk id)) (d:Option Nat) (all:List Oper) :
  ∃ ρ',(∀ id,¬ own base i id->ρ' id=ρ id)/\Rel E ρ' H (putD ts d (gd all i (mk (base+8*i)))) (qC [(base+8*i,c)] h) (both U (own base i)) (a.put d u) (w.alloc (.cells arr t)):=by
 have hown:own base i (base+8*i):=⟨Nat.le_refl _,by omega⟩
 let ρ':Rho:=fun id=>if id=base+8*i then ⟨w.heap.size,0,vs.length,false⟩ else ρ id
 have e1:ρ' (base+8*i)=⟨w.heap.size,0,vs.length,false⟩:=by simp[ρ']
 have eU : ∀ id,U id->ρ' id=ρ id:=fun id hid=>by
  have:id ≠ base+8*i:=by rintro rfl;exact hf _ hown hid
  simp[ρ',this]
 have hlen:vs.length=arr.size:=by rw[<- hv];simp
 refine⟨ρ',fun id hid => ?_,?_⟩
 ·have:id ≠ base+8*i:=by rintro rfl;exact hid hown
  simp[ρ',this]
 ·have hk:Kept w (w.alloc (.cells arr t)):=fun b hb=>by
   simp only[World.alloc]
   rw[Array.getElem?_push,if_neg (by omega)]
  have R':=R.grow (w':=w.alloc (.cells arr t)) ⟨rfl,rfl,rfl,by show w.heap.size<=(w.heap.push _).size;simp⟩ hk (ρ':=ρ') (V:=own base i) (l:=[(base+8*i,c)]) eU
   (fun p hp=>by
    simp only[List.mem_singleton]at hp
    subst hp
    exact⟨hown,hf _ hown,IdsLt.mono (fun _ =>.inl) _ hc⟩)
   (fun p hp=>by
    simp only[List.mem_singleton]at hp
    subst hp
    refine .inr ⟨arr,(t,(0,0)),vs,by rw[e1],?_,by rw[e1];exact R.agree.size _ (Nat.le_refl _),Rep.ext eU (fun _ _ h=>h) c hc hr,by rw[e1];dsimp only;omega,by rw[e1];exact Nat.le_refl _,fun j v hj => ?_,fun _=>rfl⟩
    ·rw[e1]
     simp only[World.alloc]
     exact Array.getElem?_push_size
    ·rw[e1]
     dsimp only
     rw[Nat.zero_add,<- Array.getElem?_toList,hv]
     exact hj)
   (fun p hp _=>by
    simp only[List.mem_singleton]at hp
    subst hp
    rw[e1]
    exact Nat.le_refl _)
   (List.pairwise_singleton _ _)
  obtain⟨m1,m2⟩:=hm ρ' _ e1
  exact R'.set d (Rel.gd m1) (qcb (IdsLt.mono (fun id e =>.inr (by rw[e];exact hown)) _ m2))
theorem qkl (R:Rel E ρ H ts h U a w) {all:List Oper} {base:Nat} (ho:all[i]?=some o) (hf : ∀ id,own base i id -> ¬ U id) {K:Kt} (hT:T E all base i K ts h) :
  ∃ ρ' ts' h' a' w',Steps P (lone (b.atR a (.inRegion all.toArray (i :: rest) :: k)) cs w) (lone (b.atR a' (.inRegion all.toArray rest :: k)) cs w')/\(∀ id,¬ own base i id->ρ' id=ρ id) /\
   Rel E ρ' H ts' h' (both U (own base i)) a' w'/\K ts' h':=by
 have ho':all.toArray[i]?=some o:=by simpa using ho
 have widen : ∀ {ts h a w},Rel E ρ H ts h U a w->Rel E ρ H ts h (both U (own base i)) a w:=fun R =>
  ⟨R.len,R.den,fun i=>IdsLt.mono (fun _ =>.inl) _ (R.ids i),fun id c hc=>⟨.inl (R.hids _ _ hc).1,IdsLt.mono (fun _ =>.inl) _ (R.hids _ _ hc).2⟩,R.agree,R.heap,R.defers,R.glob,R.same⟩
 have hok:=qeH hE.toEnvOk hE.call R o
 unfold T at hT
 simp only[ho]at hT
 split at hT
 ·rename_i N hN
  obtain⟨p1,⟨x0,hx0⟩,p3⟩:=hT
  have hN':=hN
  unfold nfg at hN
  split at hN<;>try (cases hN;done)
  ·
   rename_i hg
   cases hN
   have hw:=qcF R hg
   refine⟨ρ,_,_,_,w,.one (stepR_op_skip (by simp[ho];simpa using hw)),fun _ _=>rfl,?_,p3 () trivial⟩
   simp only[ho',Option.bind_some]
   exact widen (R.set _ ⟨[],rfl,by simp only[RepV]⟩ trivial)
  ·rename_i hg
   have hw:=qcF R hg
   split at hN<;>try (cases hN;done)
   rename_i M hM
   cases hN
   generalize hs:qd E ts h o.op=out at hM hok
   cases out<;>simp only[nf]at hM<;>try (cases hM;done)
   case set v =>
    cases hM
    obtain⟨u,r1,r2,r3⟩:=hok
    exact⟨ρ,_,_,_,w,.one (qbm ho' hw r1),fun _ _=>rfl,widen (R.set _ (Rel.gd r2) (qcb r3)),p3 () trivial⟩
   case setp q v =>
    cases hM
    obtain⟨u,r1,r2,r3⟩:=hok (p1 ())
    exact⟨ρ,_,_,_,w,.one (qbm ho' hw r1),fun _ _=>rfl,widen (R.set _ (Rel.gd r2) (qcb r3)),p3 () trivial⟩
   case new c mk =>
    cases hM
    obtain⟨u,arr,t,vs,r1,r2,r3,r4,r5⟩:=hok
    obtain⟨ρ',q1,q2⟩:=qkk R hf r2 r3 r4 r5 o.dst all (t:=t)
    exact⟨ρ',_,_,_,_,.one (qbm ho' hw r1),q1,q2,p3 () trivial⟩
   case newp q c mk =>
    cases hM
    obtain⟨u,arr,t,vs,r1,r2,r3,r4,r5⟩:=hok (p1 ())
    obtain⟨ρ',q1,q2⟩:=qkk R hf r2 r3 r4 r5 o.dst all (t:=t)
    exact⟨ρ',_,_,_,_,.one (qbm ho' hw r1),q1,q2,p3 () trivial⟩
   case mkb q c n =>
    cases hM
    obtain⟨arr,tt,fr,cap,vs,c0,c1,r1,c2,c4,c3,c5,c6⟩:=hok (p1 ())
    have hA:AppRes E U ρ H w none 1 n c (.slice (some ⟨w.heap.size,0,none⟩) n.v cap) (w.drew.alloc (.cells arr tt fr)) ⟨w.heap.size,0,cap,false⟩ cap:=by
     refine⟨⟨rfl,rfl,rfl,by simp[World.alloc]⟩,c1,fun ρ' new e => ?_,fun ρ' new e _ => ?_,fun b hb _ => ?_,fun _ =>.inl rfl⟩
     ·simp only[Den,Rep,e,List.cons.injEq,and_true]
      exact⟨_,rfl,c1,by simp[SN.v],by simp,fun _=>⟨0,rfl,fun _=>by simp[SN.v]⟩⟩
     ·refine .inr ⟨arr,(tt,fr),vs,by rw[e],?_,by rw[e];exact R.agree.size _ (Nat.le_refl _),c4 _,by rw[e];dsimp only;omega,by rw[e,c0];exact c1,fun j v hj => ?_,c5⟩
      ·rw[e]
       simp only[World.alloc]
       exact Array.getElem?_push_size
      ·rw[e]
       dsimp only
       rw[Nat.zero_add]
       exact c3 j v hj
     ·simp only[World.alloc]
      rw[Array.getElem?_push,if_neg (by simp;omega)]
      rfl
    have hown:own base i (base+8*i):=⟨Nat.le_refl _,by omega⟩
    obtain⟨ρ',q1,q2,q3⟩:=R.app hA nofun (hf _ hown) c6 (V:=own base i) hown
    exact⟨ρ',_,_,_,_,.one (qbm ho' hw r1),fun id hid=>q1 id (by rintro rfl;exact hid hown),q2.set o.dst q3 (.inr hown),p3 cap c1⟩
   case any p =>
    cases hM
    obtain⟨u,r1,r2⟩:=hok
    exact⟨ρ,_,_,_,w,.one (qbm ho' hw r2),fun _ _=>rfl,widen (R.set _ (Rel.gd (v :=.bs u) (by simp[Den,Rep])) (qcb trivial)),p3 u r1⟩
   case call q s =>
    cases hM
    obtain⟨g,s0,args,vs,hg0,rfl,rfl,r1,r2,r3⟩:=hok
    have hcl:=hE.closed g s0 _ hg0 p1.2
    have hbp:=qoQ p1.1
    have hc:=hE.spec g s0 hg0 w _ vs (fun g=>Den.ext (t:=noId) (fun i h=>h.elim) (fun b o hb=>R.agree b o hb) (R.glob g).2 (R.glob g).1) (qkj hE R r2 hbp hcl) p1.2
    obtain⟨v,w'',⟨c1,c2,x,c3,c4⟩,hst⟩:=qj9 (b:=b) (k:=k) (cs:=cs) (rest:=rest) ho' hw r1 hc
    obtain⟨ρ1,d1,d2,d3,d4⟩:=c4 (base+8*i)
    have few:=hE.few g s0 (args.map (qO E h)) x hg0 (base+8*i)
    have hids:=qeN (E:=E) (b:=base+8*i) (U:=own base i) (hE.rid g s0 (args.map (qO E h)) x hg0) few
    let ρ':Rho:=fun id=>if base+8*i<=id/\id<base+8*i+8 then ρ1 id else ρ id
    have eo : ∀ id,own base i id->ρ' id=ρ1 id:=fun id hid=>if_pos hid
    have en : ∀ id,¬ own base i id->ρ' id=ρ id:=fun id hid=>if_neg hid
    have eU : ∀ id,U id->ρ' id=ρ id:=fun id hid=>en id fun q=>hf id q hid
    have R':=R.grow c1 c2 (ρ':=ρ') (V:=own base i) (l:=(place E (base+8*i) ((s0 (args.map (qO E h))).res x)).2) eU
     (fun p hp=>⟨few p hp,hf _ (few p hp),IdsLt.mono (fun _ =>.inr) _ (hids.2 p hp)⟩)
     (fun p hp=>by
      rcases d2 p hp with hgh|⟨arr,t,vs',li⟩
      ·exact .inl ⟨by rw[eo _ (few p hp)];exact hgh.1,by rw[eo _ (few p hp)];exact hgh.2.1,hgh.2.2⟩
      ·have e:=eo _ (few p hp)
       refine .inr ⟨arr,t,vs',by rw[e];exact li.real,by rw[e];exact li.blk,?_,Rep.ext eo (fun b o hb=>by cases hb) _ (hids.2 p hp) li.rep,by rw[e];exact li.room,by rw[e];exact li.fits,by rw[e];exact li.cells,li.fz⟩
       rw[e]
       exact R.agree.size _ (d4 p hp li.real))
     (fun p hp hg=>by
      rw[eo _ (few p hp)]at hg ⊢
      exact d4 p hp hg)
     (List.Pairwise.imp_of_mem (fun {p q} hp hq hpq=>⟨hpq.1,by rw[eo _ (few p hp),eo _ (few q hq)];exact hpq.2⟩) d3)
    have hden:Den ρ' H (place E (base+8*i) ((s0 (args.map (qO E h))).res x)).1 v:=Den.ext eo (fun b o hb=>by cases hb) hids.1 d1
    exact⟨ρ',_,_,_,_,hst,en,R'.set o.dst (Rel.gd hden) (qcb (IdsLt.mono (fun _ =>.inr) _ hids.1)),p3 x c3⟩
 ·split at hT<;>try (exact hT.elim)
  rename_i hg
  have hw:=qcF R hg
  generalize hs:qd E ts h o.op=out at hT hok
  cases out<;>simp only[wrT]at hT<;>try (exact hT.elim)
  case upd id c =>
   obtain⟨w',r1,r2⟩:=hok
   exact⟨ρ,_,_,_,w',.one (qj7 ho' hw r1),fun _ _=>rfl,widen ((R.upd r2).junk _ _),hT⟩
  case updp q id c =>
   obtain⟨w',r1,r2⟩:=hok (hT.1 ())
   exact⟨ρ,_,_,_,w',.one (qj7 ho' hw r1),fun _ _=>rfl,widen ((R.upd r2).junk _ _),hT.2⟩
  case cpy q v id c =>
   obtain⟨u,w',r1,r2,r3,r4⟩:=hok (hT.1 ())
   exact⟨ρ,_,_,_,w',.one (qbm ho' hw r1),fun _ _=>rfl,widen ((R.upd r4).set _ (Rel.gd r2) (qcb r3)),hT.2⟩
  case app es bytes s x =>
   split at hT
   rotate_left
   ·split at hT
    rotate_left
    ·split at hT<;>try (exact hT.elim)
     rename_i id l1 t1 n1 id2 l2 t2 n2 h1 h2 h3
     split at hT<;>try (exact hT.elim)
     rename_i c h4
     obtain⟨⟨g1,g2,g3⟩,hT⟩:=hT
     simp only[Bool.and_eq_true]at h3
     have hes:=Nat.eq_of_beq_eq_true h3.2
     subst hes
     obtain⟨⟨v,w',pos,cap,r1,hA⟩,hids,hjk⟩:=qoX hE R hok R.agree.size h1 h2 h3.1 h4 g1 g2 g3
     have hown:own base i (base+8*i):=⟨Nat.le_refl _,by omega⟩
     obtain⟨ρ',q1,q2,q3⟩:=R.app hA hjk (hf _ hown) hids (V:=own base i) hown
     refine⟨ρ',_,_,_,w',.one (qbm ho' hw r1),fun id hid=>q1 id (by rintro rfl;exact hid hown),q2.set o.dst q3 (.inr hown),hT cap ?_⟩
     have:=hA.le
     rw[show(n1.add E.Ω n2).v=n1.v+n2.v by rw[hE.om];exact SN.add_v _ _]at this
     exact this
    rename_i id q1 n1 id2 q2 n2 h1 h2
    split at hT<;>try (exact hT.elim)
    rename_i q h4
    obtain⟨⟨g1,g2,g3,g4⟩,hT⟩:=hT
    obtain⟨v,w',pos,cap,r1,hA⟩:=qoR hE R hok R.agree.size h1 h2 h4 g1 g2 g3 g4
    have hjk : ∀ i,id=some i->look h i ≠ .junk:=by
     intro i hi
     obtain⟨_,_,_,_,_,_,_,_,_,_,_,_,_,_,_,hds,_⟩:=hok
     obtain⟨_,_,_,_,_,_,_,_,hid1,_⟩:=qhq hE R hds h1 g2
     exact(hid1 i hi).1
    have hown:own base i (base+8*i):=⟨Nat.le_refl _,by omega⟩
    obtain⟨ρ',q1,q2,q3⟩:=R.app hA hjk (hf _ hown) (show IdsLt _ (.sab q) from trivial) (V:=own base i) hown
    refine⟨ρ',_,_,_,w',.one (qbm ho' hw r1),fun id hid=>q1 id (by rintro rfl;exact hid hown),q2.set o.dst q3 (.inr hown),hT cap ?_⟩
    have:=hA.le
    rw[show(n1.add E.Ω n2).v=n1.v+n2.v by rw[hE.om];exact SN.add_v _ _]at this
    exact this
   rename_i id k1 xs n1 id2 k2 ys n2 h1 h2 h3
   split at hT<;>try (exact hT.elim)
   rename_i kk h4
   obtain⟨⟨g1,g2,g3⟩,hT⟩:=hT
   obtain⟨v,w',pos,cap,r1,hA⟩:=qoM hE.toEnvOk R hok R.agree.size h1 h2 h3 h4 g1 g2 g3
   have hjk : ∀ i,id=some i->look h i ≠ .junk:=by
    rintro i rfl hj
    obtain⟨_,_,_,_,_,_,_,_,_,_,_,_,_,_,_,hds,_⟩:=hok
    obtain⟨_,_,_,_,_,_,_,hid1,_⟩:=qhh hE.toEnvOk R hds h1 g2
    obtain⟨off,len,cp,rfl,_⟩:=hid1 i rfl
    cases hbb:Nat.beq es es<;>simp[appS,hbb,hj]at h1
   have hown:own base i (base+8*i):=⟨Nat.le_refl _,by omega⟩
   obtain⟨ρ',q1,q2,q3⟩:=R.app hA hjk (hf _ hown) (show IdsLt _ (.seq kk (appC E.Ω id xs ys)) from trivial) (V:=own base i) hown
   refine⟨ρ',_,_,_,w',.one (qbm ho' hw r1),fun id hid=>q1 id (by rintro rfl;exact hid hown),q2.set o.dst q3 (.inr hown),hT cap ?_⟩
   have:=hA.le
   rw[show(n1.add E.Ω n2).v=n1.v+n2.v by rw[hE.om];exact SN.add_v _ _]at this
   exact this
end
end Go.Sx
end
section
namespace Go.Sx
theorem memN_iff {i:Nat} : ∀ {l:List Nat},memN i l=true ↔ i ∈ l
 | []=>by simp[memN]
 | j :: l=>by
   simp only[memN,List.mem_cons]
   split
   · rename_i h
     have:=Nat.eq_of_beq_eq_true h
     simp[this]
   · rename_i h
     rw[memN_iff]
     constructor
     · exact .inr
     · rintro (rfl|h')
       · rw[Nat.beq_refl]at h;cases h
       · exact h'
theorem qkm {i:Nat} {l:List Nat} (h:uniq (i :: l)=true):i ∉ l/\uniq l=true:=by
 simp only[uniq]at h
 split at h
 ·cases h
 ·rename_i hm
  exact⟨(fun hi=>by rw[memN_iff.2 hi]at hm;cases hm),h⟩
theorem qkn : ∀ {l:List Nat},uniq l=true->qai l=true
 | [],_=>rfl
 | i :: l,h=>by
   obtain⟨h1,h2⟩:=qkm h
   simp only[qai,Bool.and_eq_true,Bool.not_eq_true',List.any_eq_false]
   exact⟨(fun j hj e=>h1 (by rw[Nat.eq_of_beq_eq_true e];exact hj)),qkn h2⟩
theorem qhs {E:Env} {h:Heap} : ∀ {l d:List SVal} {ids:List Nat},qb7 E h l=some (d,ids)->qcz h l->qaB E h l d/\qB l=ids/\IdsLtL noId d
 | [],d,ids,hd,_=>by
   simp only[qb7,Option.some.injEq,Prod.mk.injEq]at hd
   obtain⟨rfl,rfl⟩:=hd
   exact⟨trivial,rfl,trivial⟩
 | s :: l,d,ids,hd,hp=>by
   simp only[qb7]at hd
   split at hd<;>try (cases hd;done)
   rename_i m ids' hm
   split at hd<;>try (cases hd;done)
   · rename_i id off len cap
     split at hd<;>try (cases hd;done)
     rename_i k xs hl
     simp only[Option.some.injEq,Prod.mk.injEq]at hd
     obtain⟨rfl,rfl⟩:=hd
     obtain⟨hp1,hp2⟩:=hp
     obtain⟨h1,h2,h3⟩:=qhs hm hp2
     simp only[hl]at hp1
     exact⟨⟨⟨rfl,by simp only[hl];exact⟨trivial,hp1,trivial⟩⟩,h1⟩,by simp only[qB,h2],trivial,h3⟩
   all_goals (
     simp only[Option.some.injEq,Prod.mk.injEq]at hd
     obtain⟨rfl,rfl⟩:=hd
     obtain⟨h1,h2,h3⟩:=qhs hm hp
     refine⟨⟨?_,h1⟩,h2,trivial,h3⟩
     simp[qan,qaJ])
theorem qko {ρ:Rho} {i:Nat} : ∀ {h:Heap},h.Pairwise (ApartR ρ) -> ∀ {p:Nat × SVal},p ∈ delH h i->p ∈ h/\p.1 ≠ i
 | [],_,p,hp=>by simp[delH]at hp
 | (j,d) :: r,hw,p,hp=>by
   rw[List.pairwise_cons]at hw
   simp only[delH]at hp
   split at hp
   · rename_i hb
     have:=Nat.eq_of_beq_eq_true hb
     subst this
     exact⟨List.mem_cons_of_mem _ hp,(hw.1 p hp).1.symm⟩
   · rename_i hb
     rcases List.mem_cons.1 hp with rfl|hp
     · exact⟨List.mem_cons_self ..,fun e=>by rw[<- e,Nat.beq_refl]at hb;cases hb⟩
     · obtain⟨h1,h2⟩:=qko hw.2 hp
       exact⟨List.mem_cons_of_mem _ h1,h2⟩
theorem qkp : ∀ (l:List Nat) (h:Heap),(qbE l h).Sublist h
 | [],h =>.refl _
 | i :: l,h=>(qkp l _).trans (qeP h)
theorem qkq {ρ:Rho} : ∀ {l:List Nat} {h:Heap},h.Pairwise (ApartR ρ) -> ∀ {p:Nat × SVal},p ∈ qbE l h->p ∈ h/\p.1 ∉ l
 | [],h,_,p,hp=>⟨hp,by simp⟩
 | i :: l,h,hw,p,hp=>by
   obtain⟨h1,h2⟩:=qkq (hw.sublist (qeP h)) hp
   obtain⟨h3,h4⟩:=qko hw h1
   exact⟨h3,by simp[h2,h4]⟩
section
variable {P:Program} {E:Env} {ρ:Rho} {H:Snap} {ts:List SVal} {h:Heap} {U:Top} {a:Act} {w:World}
noncomputable def holes (ρ:Rho) (w:World) (J:List Nat):Snap :=
 open Classical in ⟨fun b=>if ∃ j ∈ J,(ρ j).g=false/\(ρ j).b=b then none else w.heap[b]?,w,[]⟩
theorem holes_none {J:List Nat} {j:Nat} (hj:j ∈ J) (hg:(ρ j).g=false):holes ρ w J (ρ j).b=none:=by
 simp only[holes]
 rw[if_pos ⟨j,hj,hg,rfl⟩]
theorem holes_some {J:List Nat} {b:Nat} (hn : ∀ j ∈ J,(ρ j).g=false->(ρ j).b ≠ b):holes ρ w J b=w.heap[b]?:=by
 simp only[holes]
 rw[if_neg]
 rintro ⟨j,hj,hg,e⟩
 exact hn j hj hg e
theorem holes_le {J:List Nat} {b:Nat} {o:Obj} (h:holes ρ w J b=some o):w.heap[b]?=some o:=by
 simp only[holes]at h
 split at h
 ·cases h
 ·exact h
theorem holes_agree (R:Rel E ρ H ts h U a w) {J:List Nat} (hJ : ∀ j ∈ J,look h j ≠ .junk) {b:Nat} {o:Obj} (hb:H b=some o):holes ρ w J b=some o:=by
 rw[holes_some fun j hj hg e => ?_]
 ·exact R.agree b o hb
 ·rcases R.lies (hJ j hj)with hgh|⟨arr,t,vs,li⟩
  ·rw[hgh.1]at hg;cases hg
  ·rw[<- e,li.own]at hb;cases hb
variable (hE:EnvG P E)
include hE
theorem qoZ (R:Rel E ρ H ts h U a w) {J:List Nat} (hJ : ∀ j ∈ J,look h j ≠ .junk) {s:SVal} {v:Value} (hd:Den ρ H s v) (hp:bPre h s) (hc:IdsLt noId (qj E h s)) (hap:qa7 J [s]=true):Den ρ0 (holes ρ w J) (qj E h s) v:=by
 have hs:=qdz hE R hd hp hc
 have same:qj E h s=s->Den ρ0 (holes ρ w J) (qj E h s) v:=by
  intro e
  rw[e]at hc ⊢
  exact Den.ext (t:=noId) (fun i h=>h.elim) (fun b o hb=>holes_agree R hJ hb) hc hd
 have other : ∀ id,look h id ≠ .junk->(ρ id).g=false->memN id J=false->holes ρ w J (ρ id).b=w.heap[(ρ id).b]?:=fun id hl hg hm =>
  holes_some fun j hj hgj=>qbJ R (hJ j hj) hl (by rintro rfl;rw[memN_iff.2 hj]at hm;cases hm) hgj hg
 cases s
 case lit k n=>simpa[qj,Den,Rep]using hd
 case bl b=>simpa[qj,Den,Rep]using hd
 case val u =>
  by_cases hu:u = .slice none 0 0
  ·subst hu
   simp only[Den,Rep,List.cons.injEq,and_true]at hd
   obtain⟨rfl,_⟩:=hd
   simp only[qj,Den,Rep,List.cons.injEq,and_true]
   exact⟨_,rfl,none,0,rfl,Nat.le_refl _,fun j x hj=>by simp at hj⟩
  ·exact same (by unfold qj;split<;>simp_all)
 case sl id es off len cap =>
  have hm:memN id J=false:=by
   simp only[qa7]at hap
   split at hap
   ·cases hap
   ·rename_i h;exact h
  by_cases hes:es=1
  ·subst hes
   have hroi:(∃ k xs,qj E h (.sl id 1 off len cap) = .roi k xs/\look h id ≠ .junk)\/qj E h (.sl id 1 off len cap) = .junk:=by
    simp only[qj]
    cases hl:look h id<;>simp only<;>first
     | exact .inr trivial
     | exact .inr rfl
     | exact .inl ⟨_,_,rfl,by simp⟩
     | (repeat' split
        all_goals exact .inl ⟨_,_,rfl,by simp⟩)
   rcases hroi with⟨k,xs,e,hl⟩|e
   rotate_left
   ·rw[e];trivial
   rw[e]at hs ⊢
   simp only[Den,Rep,List.cons.injEq,and_true]at hs hd ⊢
   obtain⟨_,rfl,aa,c,e1,h2,h3⟩:=hs
   subst e1
   refine⟨_,rfl,aa,c,rfl,h2,fun j x hj => ?_⟩
   obtain⟨b,o,e2,h4⟩:=h3 j x hj
   subst e2
   refine⟨b,o,rfl,?_⟩
   obtain⟨ad,e3,_,_,hg1,hg2⟩:=hd
   simp only[Value.slice.injEq]at e3
   cases hg:(ρ id).g with
   | true=>obtain⟨e4,_⟩:=hg1 hg;rw[e4]at e3;cases e3.1
   | false =>
     obtain⟨o',e4,_⟩:=hg2 hg
     rw[e4]at e3
     have eb:b=(ρ id).b:=by have:=e3.1;simp at this;exact this.1
     subst eb
     simp only[qu]at h4 ⊢
     rw[other id hl hg hm]
     exact h4
  ·have e:qj E h (.sl id es off len cap) = .sl id es off len cap:=by
    unfold qj
    split<;>simp_all
   rw[e]at hc
   exact hc.elim
 case ptr id off=>cases hap
 all_goals exact same rfl
theorem qkr (R:Rel E ρ H ts h U a w) {J:List Nat} (hJ : ∀ j ∈ J,look h j ≠ .junk) : ∀ {l:List SVal} {vs:List Value},RepV ρ H l vs->qaG h l->IdsLtL noId (l.map (qj E h))->qa7 J l=true->RepV ρ0 (holes ρ w J) (l.map (qj E h)) vs
 | [],vs,hr,_,_,_=>hr
 | s :: l,vs,hr,hp,hc,ha=>by
   obtain⟨v,ws,rfl,h1,h2⟩:=RepV_cons.1 hr
   have ha2:qa7 J [s]=true/\qa7 J l=true:=by
     cases s<;>simp only[qa7]at ha ⊢ <;> first
       | (cases ha;done)
       | exact⟨rfl,ha⟩
       | exact⟨trivial,ha⟩
       | (split at ha
          · cases ha
          · exact⟨rfl,ha⟩)
       | (split at ha
          · cases ha
          · exact⟨trivial,ha⟩)
   exact RepV_cons.2 ⟨v,ws,rfl,qoZ hE R hJ h1 hp.1 hc.1 ha2.1,qkr R hJ h2 hp.2 hc.2 ha2.2⟩
variable {b:Frame} {k:List Item} {cs:List Frame} {i:Nat} {rest':List Nat} {o:Oper}
omit hE in
theorem qht {t:Top} : ∀ (n:Nat) (l:List SVal),IdsLtL t l->IdsLtL t (qar n l)
 | 0,l,_=>by cases l<;>trivial
 | n+1,[],_=>trivial
 | n+1,s :: l,h=>⟨h.1,qht n l h.2⟩
omit hE in
theorem qhu {t:Top} : ∀ (n:Nat) (l:List SVal),IdsLtL t l->IdsLtL t (qa8 n l)
 | 0,l,h=>by cases l<;>exact h
 | n+1,[],_=>trivial
 | n+1,s :: l,h=>qhu n l h.2
omit hE in
theorem qks {t:Top} {l:List SVal} (h:IdsLtL t l):IdsLt t (qbu l):=by
 unfold qbu
 split
 ·exact h.1
 ·exact h
omit hE in
theorem qdB : ∀ (l:List SVal) (b:Nat),∀ p ∈ (place.placeL E b l).2,b<=p.1/\p.1<b+l.length
 | [],b,p,hp=>by simp[place.placeL]at hp
 | s :: l,b,p,hp=>by
   cases s
   case fr k xs cap =>
     simp only[place.placeL]at hp
     rcases List.mem_cons.1 hp with rfl|hp
     · simp
     · have:=qdB l (b+1) p hp
       simp only[List.length_cons]
       omega
   case fra q cap =>
     simp only[place.placeL]at hp
     rcases List.mem_cons.1 hp with rfl|hp
     · simp
     · have:=qdB l (b+1) p hp
       simp only[List.length_cons]
       omega
   all_goals (
     have:=qdB l b p (by simpa only[place.placeL]using hp)
     simp only[List.length_cons]
     omega)
theorem qo0 (R:Rel E ρ H ts h U a w) {all:List Oper} {base:Nat} (ho:all[i]?=some o) (hf : ∀ id,own base i id -> ¬ U id) (hg:qP all ts o=some true) {g:FuncId} {ms:qU} {id:Nat} {rest l d:List SVal} {ids:List Nat}
  (hs:qd E ts h o.op = .into g (.ptr id (.l 0) :: rest)) (hM:E.M g=some ms) (hl:look h id = .agg l) (hd:qb7 E h l=some (d,ids)) (hu:uniq (id :: ids)=true) (hap:qa7 (id :: ids) rest=true) (hp1:qcz h l) (hp2:qaG h rest)
  (hpre:(ms d (rest.map (qj E h))).pre) :
  ∃ x ρ' w' u,(ms d (rest.map (qj E h))).post x/\Steps P (lone (b.atR a (.inRegion all.toArray (i :: rest') :: k)) cs w) (lone (b.atR (a.put o.dst u) (.inRegion all.toArray rest' :: k)) cs w')/\(∀ id,¬ own base i id->ρ' id=ρ id) /\
   Den ρ' H (qbu (qar ((ms d (rest.map (qj E h))).res x).length (place.placeL E (base+8*i) ((ms d (rest.map (qj E h))).res x++(ms d (rest.map (qj E h))).out x)).1)) u /\
   IdsLt (both U (own base i)) (qbu (qar ((ms d (rest.map (qj E h))).res x).length (place.placeL E (base+8*i) ((ms d (rest.map (qj E h))).res x++(ms d (rest.map (qj E h))).out x)).1)) /\
   Rel E ρ' H ts (qC ((id,.agg (qa8 ((ms d (rest.map (qj E h))).res x).length (place.placeL E (base+8*i) ((ms d (rest.map (qj E h))).res x++(ms d (rest.map (qj E h))).out x)).1)) :: (place.placeL E (base+8*i) ((ms d (rest.map (qj E h))).res x++(ms d (rest.map (qj E h))).out x)).2) (qbE (id :: ids) h)) (both U (own base i)) a w':=by
 have ho':all.toArray[i]?=some o:=by simpa using ho
 have hok:=qeH hE.toEnvOk hE.call R o
 rw[hs]at hok
 obtain⟨vs,r1,r2,r3⟩:=hok
 have hw:=qcF R hg
 obtain⟨f1,f2,f3⟩:=qhs hd hp1
 obtain⟨u1,u2⟩:=qkm hu
 have hjid:look h id ≠ .junk:=by rw[hl];simp
 have hfl : ∀ j ∈ ids,look h j ≠ .junk:=by
  rw[<- f2]
  have : ∀ (l d:List SVal),qaB E h l d -> ∀ j ∈ qB l,look h j ≠ .junk:=by
   intro l
   induction l with
   | nil=>intro d _ j hj;simp[qB]at hj
   | cons s l ih =>
     intro d hf j hj
     cases d with
     | nil=>simp[qaB]at hf
     | cons t d =>
       obtain⟨q1,q2⟩:=hf
       cases s<;>simp only[qB]at hj<;>first
         | exact ih d q2 j hj
         | (rcases List.mem_cons.1 hj with rfl|hj
            · cases t<;>simp only[qan,qaJ]at q1<;>(try (exact q1.elim))
              all_goals (split at q1<;>try (exact q1.elim))
              all_goals first
                | (rename_i e;cases e;done)
                | (rename_i e;cases e;intro hjk;rw[hjk]at q1;first|exact q1.2|exact q1.2.2.2)
            · exact ih d q2 j hj)
  exact this l d f1
 have hJ : ∀ j ∈ id :: ids,look h j ≠ .junk:=fun j hj=>by
  rcases List.mem_cons.1 hj with rfl|hj
  ·exact hjid
  ·exact hfl j hj
 obtain⟨arr,t,us,li⟩ : ∃ arr t us,Lies ρ H w id (.agg l) arr t us:=by
  rcases R.lies hjid with hgh|hli
  ·obtain⟨_,_,k,e⟩:=hgh;rw[hl]at e;cases k<;>cases e
  ·rwa[hl]at hli
 obtain⟨uss,e1,hm⟩:=RepM_C.1 (show RepC ρ H l us from li.rep)
 obtain⟨ρ1,k1,k2,k3,k4,k5⟩:=qcE (w:=w) hE.om R _ l d f1 (qkn (by rw[f2];exact u2)) hm 1
 let ρc:Rho:=fun j=>if j=0 then ρ id else ρ1 j
 have c0:ρc 0=ρ id:=rfl
 have c1 : ∀ j,1<=j->ρc j=ρ1 j:=fun j hj=>if_neg (by omega)
 have hAg:Agree (holes ρ w (id :: ids)) w:=fun b o hb=>holes_le hb
 have hlen:(List.replicate l.length false).length=(place.placeL E 1 d).1.length:=by
  have : ∀ (ms:List Bool) (l:List SVal) (us:List (List Value)),RepM ρ1 (qY w) ms l us->ms.length=l.length:=by
   intro ms
   induction ms with
   | nil=>intro l us hr;cases l with
     | nil=>rfl
     | cons=>exact hr.elim
   | cons m ms ih=>intro l us hr;cases l with
     | nil=>exact hr.elim
     | cons s l=>obtain⟨u,r,_,_,hr⟩:=hr;simp[ih l r hr]
  exact this _ _ _ k1
 have hrepc:RepC ρc (holes ρ w (id :: ids)) (place.placeL E 1 d).1 us:=by
  refine RepM_C.2 ⟨uss,e1,?_⟩
  have e:List.replicate (place.placeL E 1 d).1.length false=List.replicate l.length false:=by rw[<- hlen];simp
  rw[e]
  exact RepM.ext (t:=fun i=>1<=i) c1 (fun b o hb=>by cases hb) k2 k1
 have hheap:qdl ρc (holes ρ w (id :: ids)) w ((0,.agg (place.placeL E 1 d).1) :: (place.placeL E 1 d).2):=by
  refine⟨fun j c hc => ?_,?_⟩
  ·rcases List.mem_cons.1 hc with e|hc
   ·cases e
    exact .inr ⟨arr,t,us,li.real,li.blk,holes_none (List.mem_cons_self ..) li.real,hrepc,li.room,li.fits,li.cells,li.fz⟩
   ·obtain⟨q1,q2,q3⟩:=k3 _ hc
    rcases q3 with hgh|⟨arr',t',vs',li'⟩
    ·exact .inl ⟨by rw[c1 _ q1];exact hgh.1,by rw[c1 _ q1];exact hgh.2.1,hgh.2.2⟩
    ·refine .inr ⟨arr',t',vs',?_⟩
     have hown:holes ρ w (id :: ids) (ρ1 j).b=none:=by
      obtain⟨_,j',q4,q5,q6,q7⟩:=k5 _ hc li'.real
      rw[f2]at q4
      have:=holes_none (w:=w) (List.mem_cons_of_mem id q4) q5
      rw[show(ρ1 j).b=(ρ j').b from q6]
      exact this
     have e:=c1 j q1
     exact⟨by rw[e];exact li'.real,by rw[e];exact li'.blk,by rw[e];exact hown,Rep.ext (t:=noId) (fun i h=>h.elim) (fun b o hb=>by cases hb) _ q2 li'.rep,by rw[e];exact li'.room,by rw[e];exact li'.fits,by rw[e];exact li'.cells,li'.fz⟩
  ·rw[List.pairwise_cons]
   refine⟨fun p hp=>⟨by have:=(k3 p hp).1;dsimp only;omega,fun g1 g2 => ?_⟩,?_⟩
   ·have q1:=(k3 p hp).1
    rw[c1 _ q1]at g2 ⊢
    obtain⟨_,j',q4,q5,q6,q7⟩:=k5 _ hp g2
    rw[f2]at q4
    rw[q6]
    exact qbJ R hjid q7 (by rintro rfl;exact u1 q4) li.real q5
   ·refine List.Pairwise.imp_of_mem (fun {p q} hp hq hpq => ?_) k4
    exact⟨hpq.1,by rw[c1 _ (k3 p hp).1,c1 _ (k3 q hq).1];exact hpq.2⟩
 obtain⟨v0,ws,rfl,hd0,hrv⟩:=RepV_cons.1 r2
 have hcl:=hE.mclosed g ms d _ hM hpre
 have hrepv:RepV ρc (holes ρ w (id :: ids)) (.ptr 0 (.l 0) :: rest.map (qj E h)) (v0 :: ws):=by
  refine RepV_cons.2 ⟨v0,ws,rfl,hd0,?_⟩
  exact RepV.ext (t:=noId) (fun i h=>h.elim) (fun b o h=>h) _ hcl (qkr hE R hJ hrv hp2 hcl hap)
 have hc:=hE.mspec g ms hM w (holes ρ w (id :: ids)) ρc d (rest.map (qj E h)) (v0 :: ws) rfl rfl hAg (fun g=>Den.ext (t:=noId) (fun i h=>h.elim) (fun b o hb=>holes_agree R hJ hb) (R.glob g).2 (R.glob g).1) hrepv hheap hpre
 obtain⟨v,w',⟨x,n1,n2,n3,n4⟩,hst⟩:=qj9 (b:=b) (k:=k) (cs:=cs) (rest:=rest') (Q:=fun v w' =>∃ x,Same w w'/\Agree (holes ρ w (id :: ids)) w'/\(ms d (rest.map (qj E h))).post x/\qeS E (holes ρ w (id :: ids)) w w' (ρc 0) ((ms d (rest.map (qj E h))).res x) ((ms d (rest.map (qj E h))).out x) v) ho' hw r1 (hc.mono fun e w' ⟨v,x,he,hq⟩=>⟨v,he,x,hq⟩)
 obtain⟨ρ2,d1,⟨arr2,t2,us2,m1,m2,m3,m4,m5⟩,d2,d3,d4⟩:=n4 (base+8*i)
 obtain⟨i1,i2⟩:=hE.mres g ms d (rest.map (qj E h)) x hM
 refine⟨x,?_⟩
 generalize hres:(ms d (rest.map (qj E h))).res x=res at *
 generalize hout:(ms d (rest.map (qj E h))).out x=out at *
 have few : ∀ p ∈ (place.placeL E (base+8*i) (res++out)).2,own base i p.1:=fun p hp=>by
  have:=qdB _ _ p hp
  unfold own
  omega
 have hids:=qeN (E:=E) (b:=base+8*i) (U:=own base i) (v :=.tup (res++out)) i1 few
 have hidl:IdsLtL (own base i) (place.placeL E (base+8*i) (res++out)).1:=hids.1
 have hidr : ∀ p ∈ (place.placeL E (base+8*i) (res++out)).2,IdsLt (own base i) p.2:=hids.2
 let ρ':Rho:=fun j=>if base+8*i<=j/\j<base+8*i+8 then ρ2 j else ρ j
 have eo : ∀ j,own base i j->ρ' j=ρ2 j:=fun j hj=>if_pos hj
 have en : ∀ j,¬ own base i j->ρ' j=ρ j:=fun j hj=>if_neg hj
 have eU : ∀ j,U j->ρ' j=ρ j:=fun j hj=>en j fun q=>hf j q hj
 have hUid:U id:=(R.hids _ _ (q9 rfl hjid)).1
 have hnone : ∀ bb,holes ρ w (id :: ids) bb=none->H bb=none:=fun bb hb=>by
  cases hH:H bb with
  | none=>rfl
  | some oo=>rw[holes_agree R hJ hH]at hb;cases hb
 have hmem : ∀ p ∈ qbE (id :: ids) h,p ∈ h/\p.1 ∉ id :: ids:=fun p hp=>qkq R.heap.2 hp
 have hkeep : ∀ p ∈ qbE (id :: ids) h,∀ {arr t vs},Lies ρ H w p.1 p.2 arr t vs->holes ρ w (id :: ids) (ρ p.1).b=some (.cells arr t.1 t.2):=by
  intro p hp arr t vs li'
  obtain⟨q1,q2⟩:=hmem p hp
  rw[holes_some fun j hj hgj => ?_]
  ·exact li'.blk
  ·have hne:j ≠ p.1:=by rintro rfl;exact q2 hj
   have key : ∀ (l:Heap),l.Pairwise (ApartR ρ) -> ∀ p ∈ l,∀ q ∈ l,p.1 ≠ q.1->ApartR ρ p q:=by
    intro l
    induction l with
    | nil=>intro _ p hp;cases hp
    | cons x l ih =>
      intro hp p hpm q hqm hne
      rw[List.pairwise_cons]at hp
      rcases List.mem_cons.1 hpm with e|hpm
      · rcases List.mem_cons.1 hqm with e'|hqm
        · rw[e,e']at hne;exact absurd rfl hne
        · rw[e];exact hp.1 q hqm
      · rcases List.mem_cons.1 hqm with e'|hqm
        · rw[e'];exact(hp.1 p hpm).symm
        · exact ih hp.2 p hpm q hqm hne
   exact(key h R.heap.2 _ (q9 rfl (hJ j hj)) p q1 hne).2 hgj li'.real
 refine⟨ρ',w',v,n3,hst,en,?_,?_,?_⟩
 ·exact Den.ext eo (fun b o hb=>by cases hb) (qks (qht _ _ hidl)) d1
 ·exact IdsLt.mono (fun _ =>.inr) _ (qks (qht _ _ hidl))
 ·refine⟨R.len,fun j=>Den.ext eU (fun _ _ h=>h) (R.ids j) (R.den j),fun j=>IdsLt.mono (fun _ =>.inl) _ (R.ids j),fun j c hc => ?_,fun bb oo hb=>n2 bb oo (holes_agree R hJ hb),⟨fun j c hc => ?_,?_⟩,R.defers,
   fun g=>⟨Den.ext (t:=noId) (fun i h=>h.elim) (fun _ _ h=>h) (R.glob g).2 (R.glob g).1,(R.glob g).2⟩,R.same.trans n1⟩
  ·rcases (qcC _ _).1 hc with hc|hc
   ·rcases List.mem_cons.1 hc with e|hc
    ·cases e;exact⟨.inl hUid,IdsLt.mono (fun _ =>.inr) (.agg _) (qhu _ _ hidl)⟩
    ·exact⟨.inr (few _ hc),IdsLt.mono (fun _ =>.inr) _ (hidr _ hc)⟩
   ·have:=R.hids _ _ (hmem _ hc).1
    exact⟨.inl this.1,IdsLt.mono (fun _ =>.inl) _ this.2⟩
  ·rcases (qcC _ _).1 hc with hc|hc
   ·rcases List.mem_cons.1 hc with e|hc
    ·cases e
     have e:=eU id hUid
     refine .inr ⟨arr2,(t2,(0,0)),us2,by rw[e];exact li.real,by rw[e];exact m1,by rw[e];exact li.own,?_,by rw[e];exact m3,by rw[e];exact m4,by rw[e];exact m5,fun _=>rfl⟩
     exact RepC.ext eo (fun b o hb=>by cases hb) _ (qhu _ _ hidl) m2
    ·have e:=eo _ (few _ hc)
     rcases d2 _ hc with hgh|⟨arr',t',vs',li'⟩
     ·exact .inl ⟨by rw[e];exact hgh.1,by rw[e];exact hgh.2.1,hgh.2.2⟩
     ·exact .inr ⟨arr',t',vs',by rw[e];exact li'.real,by rw[e];exact li'.blk,by rw[e];exact hnone _ (d4 _ hc li'.real).1,Rep.ext eo (fun b o hb=>by cases hb) _ (hidr _ hc) li'.rep,by rw[e];exact li'.room,by rw[e];exact li'.fits,by rw[e];exact li'.cells,li'.fz⟩
   ·have q:=hmem _ hc
    have hid:=R.hids _ _ q.1
    have e:=eU _ hid.1
    rcases R.heap.1 j c q.1 with hgh|⟨arr',t',vs',li'⟩
    ·exact .inl ⟨by rw[e];exact hgh.1,by rw[e];exact hgh.2.1,hgh.2.2⟩
    ·refine .inr ⟨arr',t',vs',li'.kept hid.1 hid.2 eU ?_⟩
     rw[n2 _ _ (hkeep _ hc li'),li'.blk]
  ·refine((qeO _ _).pairwise_iff (R:=ApartR ρ') fun h=>h.symm).2 ?_
   rw[List.cons_append,List.pairwise_cons,List.pairwise_append]
   have hidn : ¬ own base i id:=fun q=>hf id q hUid
   refine⟨fun p hp => ?_,?_,?_,fun p hp q hq => ?_⟩
   ·rcases List.mem_append.1 hp with hp1|hp1
    ·have hp:=hp1
     refine⟨fun e=>hidn (by have:=few p hp1;rw[show id=p.1 from e];exact this),fun g1 g2 => ?_⟩
     rw[eo _ (few p hp)]at g2 ⊢
     dsimp only at g1 ⊢
     rw[eU _ hUid]
     exact((d4 p hp g2).2).symm
    ·have hp:=hp1
     have q:=hmem p hp1
     have hid:=R.hids _ _ q.1
     refine⟨fun e=>q.2 (by rw[<- show id=p.1 from e];exact List.mem_cons_self ..),fun g1 g2 => ?_⟩
     dsimp only at g1 ⊢
     rw[eU _ hUid]at g1 ⊢
     rw[eU _ hid.1]at g2 ⊢
     rcases R.heap.1 _ _ q.1 with hgh|⟨arr',t',vs',li'⟩
     ·rw[hgh.1]at g2;cases g2
     ·intro e
      have h1:=hkeep p hp li'
      rw[<- e,holes_none (List.mem_cons_self ..) g1]at h1
      cases h1
   ·refine List.Pairwise.imp_of_mem (fun {p q} hp hq hpq => ?_) d3
    exact⟨hpq.1,by rw[eo _ (few p hp),eo _ (few q hq)];exact hpq.2⟩
   ·refine List.Pairwise.imp_of_mem (fun {p q} hp hq hpq => ?_) (R.heap.2.sublist (qkp _ _))
    exact⟨hpq.1,by rw[eU _ (R.hids _ _ (hmem p hp).1).1,eU _ (R.hids _ _ (hmem q hq).1).1];exact hpq.2⟩
   ·have qm:=hmem q hq
    have hid:=R.hids _ _ qm.1
    refine⟨by rintro e;exact hf _ (few p hp) (by rw[e];exact hid.1),fun g1 g2 => ?_⟩
    rw[eo _ (few p hp)]at g1 ⊢
    rw[eU _ hid.1]at g2 ⊢
    rcases R.heap.1 _ _ qm.1 with hgh|⟨arr',t',vs',li'⟩
    ·rw[hgh.1]at g2;cases g2
    ·intro e
     have h1:=hkeep q hq li'
     rw[<- e,(d4 p hp g1).1]at h1
     cases h1
end
end Go.Sx
end
section
namespace Go.Sx
def qak (g:Unit->Bool) (v:SVal) (K:SVal->Prop):Prop :=
 match v with
 | .bs b=>match g ()with
   | true=>(b=true->K (.bl true))/\(b=false->K (.bl false))
   | false=>K (.bs b)
 | v=>K v
def qx:Code->Bool
 | .region _ ops true=>qhf ops.toList || retB ops.toList
 | .seq a b=>qx a && qx b
 | .cond _ a b=>qx a && qx b
 | .block _ c=>qx c
 | .loop c=>qx c
 | .scope c=>qx c
 | .rangeFunc _ _ a b=>qx a && qx b
 | _=>true
def ItOk:It->Prop
 | .code c=>qx c=true
 | .again c=>qx c=true
 | .scp c=>qx c=true
 | .rng _ _ _ a b=>qx a=true/\qx b=true
 | _=>True
def Snap.with (H:Snap) (l:Nat) (o:Obj):Snap:=⟨fun b=>if b=l then some o else H b,H.w0,H.defs⟩
def Snap.bare (H:Snap):Snap:=⟨H.f,H.w0,[]⟩
def Snap.marked (H:Snap) (r:Nat):Snap:=⟨fun b=>if b=r then some (.deferred (some [])) else H b,H.w0,{ target :=.collected r,args := #[] } :: H.defs⟩
inductive Grows:Snap->Snap->Prop
 | refl (H:Snap):Grows H H
 | mark {H H':Snap} {r:Nat}:Grows H H'->H' r=none->Grows H (H'.marked r)
theorem Grows.trans {A B C:Snap} (h:Grows A B) (k:Grows B C):Grows A C:=by
 induction k with
 | refl=>exact h
 | mark _ hr ih=>exact .mark ih hr
def GrowsIf (k:List It) (H H':Snap):Prop:=H'=H\/(qcB k=true/\Grows H H')
theorem GrowsIf.trans {k:List It} {A B C:Snap} (h:GrowsIf k A B) (g:GrowsIf k B C):GrowsIf k A C:=by
 rcases h with rfl|h
 ·exact g
 ·rcases g with rfl|g
  ·exact .inr h
  ·exact .inr ⟨h.1,h.2.trans g.2⟩
section
variable (P:Program) (E:Env) (Q:SVal->Heap->Nat->Prop) (rs:List ResultVar)
section
variable (G:Machine->Prop)
def Lays:List It->Snap->Rho->Top->Nat->Frame->List Item->List Frame->Prop
 | [],H,ρ,U,t,b,items,cs=>items=[]/\b.roundOf=none /\ ∀ (H':Snap) (ρ':Rho) (V:Top) (top:Nat) ts h a w todo,Grows H H'->(∀ id,U id->V id/\ρ' id=ρ id)->(∀ id,V id->U id\/t<=id)->(∀ id,V id->id<top)->Rel E ρ' H' ts h V a w ->
  resB E ts h rs=true->Q (resS E ts h rs) h top->G (lone { b.atR a todo with mode :=.returning } cs w)
 | .code c :: k,H,ρ,U,t,b,items,cs =>∃ r,items = .code c :: r/\Lays k H ρ U t b r cs
 | .ops _ base i all l :: k,H,ρ,U,t,b,items,cs =>∃ r,items = .inRegion all.toArray (List.range' i l.length) :: r/\l=all.drop i/\base<=t /\
  (∀ j,i<=j->j<all.length -> ∀ id,own base j id -> ¬ U id/\id<t)/\Lays k H ρ U base b r cs
 | .blk id :: k,H,ρ,U,t,b,items,cs =>∃ r,items = .inBlock id :: r/\Lays k H ρ U t b r cs
 | .scp c :: k,H,ρ,U,t,b,items,cs =>∃ r,items = .inScope c :: r/\Lays k H ρ U t b r cs
 | .again c :: k,H,ρ,U,t,b,items,cs =>∃ r,items = .inLoop c :: r/\Lays k H ρ U t b r cs
 | .back J :: k,H,ρ,U,t,b,items,cs =>∃ r c,items = .inLoop c :: r/\Lays k H ρ U t b r cs /\
  ∀ (H':Snap) (ρ':Rho) (V:Top) (top:Nat) ts h a w,GrowsIf k H H'->(∀ id,U id->V id/\ρ' id=ρ id)->(∀ id,V id->U id\/t<=id)->(∀ id,V id->id<top)->Rel E ρ' H' ts h V a w->J ts h top->G (lone (b.atR a (.inLoop c :: r)) cs w)
 | .frame ts' d rs' g :: k,H,ρ,U,t,b,items,cs=>items=[]/\b.roundOf=none/\b.kind = .normal/\(∃ fn,P.funcs[b.fn]?=some fn/\fn.results.toList=rs') /\ ∃ H0 b' a' cs' all i l r,H=H0.bare/\cs=b'.atR a' (.inRegion all (i :: l) :: r) :: cs' /\
  (∃ o,all[i]?=some o/\o.dst=d)/\a'.defers=H0.defs/\ts'.length<=a'.tmps.size/\(∀ j,Den ρ H0 (getT ts' j) (a'.tmps.getD j undef))/\(∀ j,IdsLt U (getT ts' j)) /\
  Lays k H0 ρ U t b' (.inRegion all l :: r) cs'
 | .rng id ts' ps as body :: k,H,ρ,U,t,b,items,cs=>items=[]/\b.roundOf=none/\b.kind = .normal/\(∃ fn,P.funcs[b.fn]?=some fn/\fn.results.toList=[])/\U id /\ ∃ H0 rec b' a' cs' r,H=(H0.with (ρ id).b (.loop rec)).bare /\
  H0 (ρ id).b=none/\rec.state = .ready/\rec.pending=none/\rec.fn=b'.fn/\rec.tmps=a'.tmps/\rec.params=ps.toArray/\rec.assign=as/\rec.body=body /\
  cs=b'.atR a' (.inRangeFunc (ρ id).b :: r) :: cs'/\a'.defers=H0.defs/\ts'.length<=a'.tmps.size/\(∀ j,Den ρ H0 (getT ts' j) (a'.tmps.getD j undef))/\(∀ j,IdsLt U (getT ts' j)) /\
  Lays k H0 ρ U t b' r cs'
 | .rnd id ts' d :: k,H,ρ,U,t,b,items,cs=>items=[]/\b.roundOf=some (ρ id).b/\b.kind = .normal/\U id /\ ∃ H0 rec b' a' cs' all i l r,H=(H0.with (ρ id).b (.loop { rec with state :=.busy })).bare /\
  H0 (ρ id).b=some (.loop rec)/\rec.state = .ready/\rec.pending=none/\cs=b'.atR a' (.inRegion all (i :: l) :: r) :: cs' /\
  (∃ o,all[i]?=some o/\o.dst=d)/\a'.defers=H0.defs/\ts'.length<=a'.tmps.size/\(∀ j,Den ρ H0 (getT ts' j) (a'.tmps.getD j undef))/\(∀ j,IdsLt U (getT ts' j)) /\
  Lays k H0 ρ U t b' (.inRegion all l :: r) cs'
 | .sback l J :: k,H,ρ,U,t,b,items,cs =>∃ r c y,items = .inScope c :: r/\findLabel c l=some (.seq .skip y)/\Lays k H ρ U t b r cs /\
  ∀ (H':Snap) (ρ':Rho) (V:Top) (top:Nat) ts h a w,GrowsIf k H H'->(∀ id,U id->V id/\ρ' id=ρ id)->(∀ id,V id->U id\/t<=id)->(∀ id,V id->id<top)->Rel E ρ' H' ts h V a w->J ts h top->G (lone (b.atR a (.code y :: .inScope c :: r)) cs w)
 | .bgn id :: k,H,ρ,U,t,b,items,cs =>∃ r rec,items = .beginRound :: r/\b.roundOf=some (ρ id).b/\U id/\H (ρ id).b=some (.loop rec)/\rec.state = .ready/\Lays k (H.with (ρ id).b (.loop { rec with state :=.busy })) ρ U t b r cs
end
structure LoopAt (c:Code) (k:List It) (ts:List SVal) (h:Heap) (top:Nat):Prop where
 run:qx c=true->(∀ x ∈ k,ItOk x) -> ∀ (G:Machine->Prop),(∀ m m',Steps P m m'->G m'->G m) -> ∀ (H:Snap) (ρ:Rho) (U:Top) a w b r cs,Rel E ρ H ts h U a w->(∀ id,U id->id<top) ->
  Lays P E Q rs G k H ρ U top b r cs->G (lone (b.atR a (.code c :: .inLoop c :: r)) cs w)
structure LabelAt (l:Nat) (y c:Code) (k:List It) (ts:List SVal) (h:Heap) (top:Nat):Prop where
 run:findLabel c l=some (.seq .skip y)->qx y=true->qx c=true->(∀ x ∈ k,ItOk x) -> ∀ (G:Machine->Prop),(∀ m m',Steps P m m'->G m'->G m) -> ∀ (H:Snap) (ρ:Rho) (U:Top) a w b r cs,Rel E ρ H ts h U a w->(∀ id,U id->id<top) ->
  Lays P E Q rs G k H ρ U top b r cs->G (lone (b.atR a (.code y :: .inScope c :: r)) cs w)
def ex:Nat->List It->List SVal->Heap->Nat->Prop
 | 0,_,_,_,_=>False
 | n+1,k,ts,h,top=>match k with
   | []=>match resB E ts h rs with
     | true=>Q (resS E ts h rs) h top
     | false=>False
   | .blk _ :: k=>ex n k ts h top
   | .scp _ :: k=>ex n k ts h top
   | .back J :: _=>J ts h top
   | .again c :: k=>LoopAt P E Q rs c k ts h top
   | .rng _ ts' _ _ _ :: k=>ex n k ts' h top
   | .rnd _ ts' d :: k=>ex n k (putD ts' d (.bl true)) h top
   | .bgn _ :: k=>ex n k ts h top
   | .sback _ _ :: k=>ex n k ts h top
   | .frame ts' d rs' g :: k=>match resB E ts h rs' with
     | true=>qak (fun _=>g) (resS E ts h rs') fun v=>ex n k (putD ts' d v) h top
     | false=>False
   | .ops _ _ _ _ [] :: k=>ex n k ts h top
   | .ops dr base i all (o :: r) :: k =>
     match qP all ts o with
     | none=>False
     | some false=>ex n (.ops dr base (i+1) all r :: k) (putD ts o.dst (.tup [])) h top
     | some true=>match qd E ts h o.op with
       | .bad=>False
       | .set v=>qak (fun _=>qas i all) v fun v=>ex n (.ops dr base (i+1) all r :: k) (putD ts o.dst v) h top
       | .setp p v=>(∀ u:Unit,p u)/\qak (fun _=>qas i all) v fun v=>ex n (.ops dr base (i+1) all r :: k) (putD ts o.dst v) h top
       | .new c v=>qak (fun _=>qas i all) (v (base+8*i)) fun v=>ex n (.ops dr base (i+1) all r :: k) (putD ts o.dst v) (insH (base+8*i) c h) top
       | .newp p c v=>(∀ u:Unit,p u)/\qak (fun _=>qas i all) (v (base+8*i)) fun v=>ex n (.ops dr base (i+1) all r :: k) (putD ts o.dst v) (insH (base+8*i) c h) top
       | .upd id c=>ex n (.ops dr base (i+1) all r :: k) (putD ts o.dst .junk) (updH h id c) top
       | .updp p id c=>(∀ u:Unit,p u)/\ex n (.ops dr base (i+1) all r :: k) (putD ts o.dst .junk) (updH h id c) top
       | .cpy p v id c=>(∀ u:Unit,p u)/\qak (fun _=>qas i all) v fun v=>ex n (.ops dr base (i+1) all r :: k) (putD ts o.dst v) (updH h id c) top
       | .call (some p) s=>(∀ u:Unit,p u)/\(Unit->s.pre) /\ ∀ x:s.X,s.post x->qak (fun _=>qas i all) (place E (base+8*i) (s.res x)).1 fun v=>ex n (.ops dr base (i+1) all r :: k) (putD ts o.dst v) (qC (place E (base+8*i) (s.res x)).2 h) top
       | .call none s=>(Unit->s.pre) /\ ∀ x:s.X,s.post x->qak (fun _=>qas i all) (place E (base+8*i) (s.res x)).1 fun v=>ex n (.ops dr base (i+1) all r :: k) (putD ts o.dst v) (qC (place E (base+8*i) (s.res x)).2 h) top
       | .any p =>∀ q:Bool,(q=true->p)->qak (fun _=>qas i all) (.bs q) fun v=>ex n (.ops dr base (i+1) all r :: k) (putD ts o.dst v) h top
       | .into f args=>match dr with
         | true=>False
         | false=>match E.M f,args with
           | some ms,.ptr id (.l 0) :: rest=>match look h id with
             | .agg l=>match qb7 E h l with
               | some (d,ids)=>match uniq (id :: ids) && qa7 (id :: ids) rest with
                 | true=>(∀ _:Unit,qcz h l/\qaG h rest)/\(Unit->(ms d (rest.map (qj E h))).pre) /\ ∀ x:(ms d (rest.map (qj E h))).X,(ms d (rest.map (qj E h))).post x ->
                   qak (fun _=>qas i all) (qbu (qar ((ms d (rest.map (qj E h))).res x).length (place.placeL E (base+8*i) ((ms d (rest.map (qj E h))).res x++(ms d (rest.map (qj E h))).out x)).1)) fun v =>
                     ex n (.ops dr base (i+1) all r :: k) (putD ts o.dst v) (qC ((id,.agg (qa8 ((ms d (rest.map (qj E h))).res x).length (place.placeL E (base+8*i) ((ms d (rest.map (qj E h))).res x++(ms d (rest.map (qj E h))).out x)).1)) :: (place.placeL E (base+8*i) ((ms d (rest.map (qj E h))).res x++(ms d (rest.map (qj E h))).out x)).2) (qbE (id :: ids) h)) top
                 | false=>False
               | none=>False
             | _=>False
           | _,_=>match E.inl f with
             | some fn=>match fn.body with
               | some c=>ex n (.code c :: .frame ts o.dst fn.results.toList (qas i all) :: .ops dr base (i+1) all r :: k) (args++List.replicate (fn.ntmps-args.length) .junk) h top
               | none=>False
             | none=>False
       | .yld id args=>match dr with
         | true=>False
         | false=>match toRng k with
           | some (id',ts',ps,as,body)=>match Nat.beq id id' with
             | true=>match qbG ts' ps args with
               | some ts2=>ex n (.code as :: .bgn id :: .code body :: .rnd id ts o.dst :: .ops dr base (i+1) all r :: k) ts2 h top
               | none=>False
             | false=>False
           | none=>False
       | .mkb p c m=>(∀ u:Unit,p u) /\ ∀ cap:Nat,m.v<=cap->qak (fun _=>qas i all) (.sl (base+8*i) 1 (.l 0) m (.s cap)) fun v=>ex n (.ops dr base (i+1) all r :: k) (putD ts o.dst v) (insH (base+8*i) c h) top
       | .app es bytes s x=>match appS E h es s,appS E h es x,qdg h s x with
         | some (id,k1,xs,n1),some (_,k2,ys,n2),true=>match appK k1 k2 with
           | some kk=>(Unit->(n1.v+n2.v)*bytes<=140737488355328)/\(Unit->aPre h es s/\aPre h es x) /\
             ∀ cap:Nat,n1.v+n2.v<=cap->ex n (.ops dr base (i+1) all r :: k) (putD ts o.dst (.sl (base+8*i) es (.l 0) (n1.add E.Ω n2) (.s cap))) (insH (base+8*i) (.seq kk (appC E.Ω id xs ys)) (delO id h)) top
           | none=>False
         | _,_,_=>match appA h es s,appA h es x with
           | some (id,q1,n1),some (_,q2,n2)=>match q1.cat E.Ω q2 with
             | some q=>(Unit->(n1.v+n2.v)*bytes<=140737488355328)/\(Unit->n1.v=q1.len/\n2.v=q2.len/\0<n2.v) /\
               ∀ cap:Nat,n1.v+n2.v<=cap->ex n (.ops dr base (i+1) all r :: k) (putD ts o.dst (.sl (base+8*i) es (.l 0) (n1.add E.Ω n2) (.s cap))) (insH (base+8*i) (.sab q) (delO id h)) top
             | none=>False
           | _,_=>match appL E h s,appL E h x,qbh h s && Nat.beq es 1 with
             | some (id,l1,t1,n1),some (_,l2,t2,n2),true=>match catL E.Ω l1 t1 l2 t2 with
               | some c=>(Unit->(n1.v+n2.v)*bytes<=140737488355328)/\(Unit->n1.v=lenL l1 t1/\n2.v=lenL l2 t2) /\
                 ∀ cap:Nat,n1.v+n2.v<=cap->ex n (.ops dr base (i+1) all r :: k) (putD ts o.dst (.sl (base+8*i) es (.l 0) (n1.add E.Ω n2) (.s cap))) (insH (base+8*i) c (delO id h)) top
               | none=>False
             | _,_,_=>False
   | .code c :: k=>match c with
     | .skip=>ex n k ts h top
     | .seq a b=>ex n (.code a :: .code b :: k) ts h top
     | .region _ ops dr=>match (match dr with|true=>(match retB ops.toList with|true=>qcc ops.toList ts|false=>true)|false=>true)with
       | true=>ex n (.ops dr top 0 ops.toList ops.toList :: k) ts h (top+8*ops.size)
       | false=>False
     | .cond c x y=>match evl E ts c with
       | .bl true=>ex n (.code x :: k) ts h top
       | .bl false=>ex n (.code y :: k) ts h top
       | .bs b=>(b=true->ex n (.code x :: k) ts h top)/\(b=false->ex n (.code y :: k) ts h top)
       | _=>False
     | .block id c=>ex n (.code c :: .blk id :: k) ts h top
     | .scope c=>ex n (.code c :: .scp c :: k) ts h top
     | .goto l=>match popJ l k with
       | some J=>J ts h top
       | none=>match qaH l k with
         | some k=>ex n k ts h top
         | none=>False
     | .loop c=>LoopAt P E Q rs c k ts h top
     | .exit id=>match qaP id k with
       | some k=>ex n k ts h top
       | none=>False
     | .label l=>match k with
       | .code y :: .scp c :: k'=>match qbF l y with
         | true=>findLabel c l=some (.seq .skip y)/\LabelAt P E Q rs l y c k' ts h top
         | false=>ex n k ts h top
       | k=>ex n k ts h top
     | .rangeFunc f ps as body=>match qcB k with
       | false=>False
       | true=>match evl E ts f with
         | .fn g first caps=>match E.inl g with
           | some fn=>match fn.body,fn.results.toList with
             | some c,[]=>ex n (.code c :: .rng top ts ps.toList as body :: k) ((first++(.yld top :: caps))++List.replicate (fn.ntmps-(first++(.yld top :: caps)).length) .junk) h (top+8)
             | _,_=>False
           | none=>False
         | _=>False
     | .ret=>match qgX k with
       | true=>False
       | false=>match qcA k with
         | some (ts',d,rs',g,k)=>match resB E ts h rs' with
           | true=>qak (fun _=>g) (resS E ts h rs') fun v=>ex n k (putD ts' d v) h top
           | false=>False
         | none=>match resB E ts h rs with
           | true=>Q (resS E ts h rs) h top
           | false=>False
     | _=>False
end
section
variable {P:Program} {E:Env} {Q:SVal->Heap->Nat->Prop} {rs:List ResultVar} {G:Machine->Prop}
theorem Lays.mono : ∀ {k:List It} {H:Snap} {ρ ρ':Rho} {U V:Top} {t t':Nat} {b:Frame} {items:List Item} {cs:List Frame},Lays P E Q rs G k H ρ U t b items cs ->
  (∀ id,U id->V id/\ρ' id=ρ id)->(∀ id,V id->U id\/t<=id)->t<=t'->Lays P E Q rs G k H ρ' V t' b items cs
 | [],H,ρ,ρ',U,V,t,t',b,items,cs,h,h1,h2,h3=>by
   refine⟨h.1,h.2.1,fun H' ρ'' W top ts hp a w todo hg q1 q2=>h.2.2 H' ρ'' W top ts hp a w todo hg (fun id hid => ?_) fun id hid => ?_⟩
   · have:=q1 id (h1 id hid).1
     exact⟨this.1,this.2.trans (h1 id hid).2⟩
   · rcases q2 id hid with q|q
     · exact h2 id q
     · exact .inr (Nat.le_trans h3 q)
 | .code c :: k,H,ρ,ρ',U,V,t,t',b,items,cs,h,h1,h2,h3=>by
   obtain⟨r,e,h⟩:=h
   exact⟨r,e,Lays.mono h h1 h2 h3⟩
 | .blk c :: k,H,ρ,ρ',U,V,t,t',b,items,cs,h,h1,h2,h3=>by
   obtain⟨r,e,h⟩:=h
   exact⟨r,e,Lays.mono h h1 h2 h3⟩
 | .scp c :: k,H,ρ,ρ',U,V,t,t',b,items,cs,h,h1,h2,h3=>by
   obtain⟨r,e,h⟩:=h
   exact⟨r,e,Lays.mono h h1 h2 h3⟩
 | .again c :: k,H,ρ,ρ',U,V,t,t',b,items,cs,h,h1,h2,h3=>by
   obtain⟨r,e,h⟩:=h
   exact⟨r,e,Lays.mono h h1 h2 h3⟩
 | .ops dr base i all l :: k,H,ρ,ρ',U,V,t,t',b,items,cs,h,h1,h2,h3=>by
   obtain⟨r,e,e2,hb,hf,h⟩:=h
   refine⟨r,e,e2,Nat.le_trans hb h3,fun j h4 h5 id hid => ?_,Lays.mono h h1 (fun id hid => ?_) (Nat.le_refl _)⟩
   · have:=hf j h4 h5 id hid
     refine⟨fun hv => ?_,by omega⟩
     rcases h2 id hv with q|q
     · exact this.1 q
     · omega
   · rcases h2 id hid with q|q
     · exact .inl q
     · exact .inr (Nat.le_trans hb q)
 | .back J :: k,H,ρ,ρ',U,V,t,t',b,items,cs,h,h1,h2,h3=>by
   obtain⟨r,c,e,h,hJ⟩:=h
   refine⟨r,c,e,Lays.mono h h1 h2 h3,fun H' ρ'' W top ts hp a w hg q1 q2=>hJ H' ρ'' W top ts hp a w hg (fun id hid => ?_) fun id hid => ?_⟩
   · have:=q1 id (h1 id hid).1
     exact⟨this.1,this.2.trans (h1 id hid).2⟩
   · rcases q2 id hid with q|q
     · exact h2 id q
     · exact .inr (Nat.le_trans h3 q)
 | .sback l J :: k,H,ρ,ρ',U,V,t,t',b,items,cs,h,h1,h2,h3=>by
   obtain⟨r,c,y,e,ef,h,hJ⟩:=h
   refine⟨r,c,y,e,ef,Lays.mono h h1 h2 h3,fun H' ρ'' W top ts hp a w hg q1 q2=>hJ H' ρ'' W top ts hp a w hg (fun id hid => ?_) fun id hid => ?_⟩
   · have:=q1 id (h1 id hid).1
     exact⟨this.1,this.2.trans (h1 id hid).2⟩
   · rcases q2 id hid with q|q
     · exact h2 id q
     · exact .inr (Nat.le_trans h3 q)
 | .frame ts' d rs' g :: k,H,ρ,ρ',U,V,t,t',b,items,cs,h,h1,h2,h3=>by
   obtain⟨e,hro,hk,hfn,H0,b',a',cs',all,i,l,r,eH,e2,ho,hd,hl,hden,hid,h⟩:=h
   exact⟨e,hro,hk,hfn,H0,b',a',cs',all,i,l,r,eH,e2,ho,hd,hl,fun j=>Den.ext (fun id q=>(h1 id q).2) (fun _ _ h=>h) (hid j) (hden j),fun j=>IdsLt.mono (fun id q=>(h1 id q).1) _ (hid j),Lays.mono h h1 h2 h3⟩
 | .rng id ts' ps as body :: k,H,ρ,ρ',U,V,t,t',b,items,cs,h,h1,h2,h3=>by
   obtain⟨e,hro,hk,hfn,hU,H0,rec,b',a',cs',r,eH,p1,p2,p3,p4,p5,p6,p7,p8,e2,hd,hl,hden,hid,h⟩:=h
   have eρ:=(h1 id hU).2
   refine⟨e,hro,hk,hfn,(h1 id hU).1,H0,rec,b',a',cs',r,?_,?_,p2,p3,p4,p5,p6,p7,p8,?_,hd,hl,fun j=>Den.ext (fun id q=>(h1 id q).2) (fun _ _ h=>h) (hid j) (hden j),fun j=>IdsLt.mono (fun id q=>(h1 id q).1) _ (hid j),Lays.mono h h1 h2 h3⟩
   · rw[eρ];exact eH
   · rw[eρ];exact p1
   · rw[eρ];exact e2
 | .rnd id ts' d :: k,H,ρ,ρ',U,V,t,t',b,items,cs,h,h1,h2,h3=>by
   obtain⟨e,hro,hk,hU,H0,rec,b',a',cs',all,i,l,r,eH,p1,p2,p3,e2,ho,hd,hl,hden,hid,h⟩:=h
   have eρ:=(h1 id hU).2
   refine⟨e,?_,hk,(h1 id hU).1,H0,rec,b',a',cs',all,i,l,r,?_,?_,p2,p3,e2,ho,hd,hl,fun j=>Den.ext (fun id q=>(h1 id q).2) (fun _ _ h=>h) (hid j) (hden j),fun j=>IdsLt.mono (fun id q=>(h1 id q).1) _ (hid j),Lays.mono h h1 h2 h3⟩
   · rw[eρ];exact hro
   · rw[eρ];exact eH
   · rw[eρ];exact p1
 | .bgn id :: k,H,ρ,ρ',U,V,t,t',b,items,cs,h,h1,h2,h3=>by
   obtain⟨r,rec,e,hro,hU,p1,p2,h⟩:=h
   have eρ:=(h1 id hU).2
   refine⟨r,rec,e,?_,(h1 id hU).1,?_,p2,?_⟩
   · rw[eρ];exact hro
   · rw[eρ];exact p1
   · rw[eρ];exact Lays.mono h h1 h2 h3
theorem Lays.growIf {k:List It} {H H':Snap} {ρ:Rho} {U:Top} {t:Nat} {b:Frame} {items:List Item} {cs:List Frame} (hg:GrowsIf k H H') (grow:qcB k=true->Grows H H'->Lays P E Q rs G k H' ρ U t b items cs) (h:Lays P E Q rs G k H ρ U t b items cs):Lays P E Q rs G k H' ρ U t b items cs:=by
 rcases hg with rfl|⟨hf,hg⟩
 ·exact h
 ·exact grow hf hg
theorem Lays.grow : ∀ {k:List It} {H H':Snap} {ρ:Rho} {U:Top} {t:Nat} {b:Frame} {items:List Item} {cs:List Frame},qcB k=true->Grows H H'->Lays P E Q rs G k H ρ U t b items cs->Lays P E Q rs G k H' ρ U t b items cs
 | [],H,H',ρ,U,t,b,items,cs,hf,hg,h=>⟨h.1,h.2.1,fun H'' ρ'' W top ts hp a w todo hg'=>h.2.2 H'' ρ'' W top ts hp a w todo (hg.trans hg')⟩
 | .code c :: k,H,H',ρ,U,t,b,items,cs,hf,hg,h=>by
   obtain⟨r,e,h⟩:=h
   exact⟨r,e,Lays.grow hf hg h⟩
 | .blk c :: k,H,H',ρ,U,t,b,items,cs,hf,hg,h=>by
   obtain⟨r,e,h⟩:=h
   exact⟨r,e,Lays.grow hf hg h⟩
 | .scp c :: k,H,H',ρ,U,t,b,items,cs,hf,hg,h=>by
   obtain⟨r,e,h⟩:=h
   exact⟨r,e,Lays.grow hf hg h⟩
 | .again c :: k,H,H',ρ,U,t,b,items,cs,hf,hg,h=>by
   obtain⟨r,e,h⟩:=h
   exact⟨r,e,Lays.grow hf hg h⟩
 | .ops dr base i all l :: k,H,H',ρ,U,t,b,items,cs,hf,hg,h=>by
   obtain⟨r,e,e2,hb,hff,h⟩:=h
   exact⟨r,e,e2,hb,hff,Lays.grow hf hg h⟩
 | .back J :: k,H,H',ρ,U,t,b,items,cs,hf,hg,h=>by
   obtain⟨r,c,e,h,hJ⟩:=h
   exact⟨r,c,e,Lays.grow hf hg h,fun H'' ρ'' W top ts hp a w hg'=>hJ H'' ρ'' W top ts hp a w (GrowsIf.trans (.inr ⟨hf,hg⟩) hg')⟩
 | .sback l J :: k,H,H',ρ,U,t,b,items,cs,hf,hg,h=>by
   obtain⟨r,c,y,e,ef,h,hJ⟩:=h
   exact⟨r,c,y,e,ef,Lays.grow hf hg h,fun H'' ρ'' W top ts hp a w hg'=>hJ H'' ρ'' W top ts hp a w (GrowsIf.trans (.inr ⟨hf,hg⟩) hg')⟩
 | .frame .. :: _,_,_,_,_,_,_,_,_,hf,_,_=>by cases hf
 | .rng .. :: _,_,_,_,_,_,_,_,_,hf,_,_=>by cases hf
 | .rnd .. :: _,_,_,_,_,_,_,_,_,hf,_,_=>by cases hf
 | .bgn _ :: _,_,_,_,_,_,_,_,_,hf,_,_=>by cases hf
theorem qbK {all:List Oper} {i:Nat} {v:SVal} {K:SVal->Prop} (h:qak (fun _=>qas i all) v K):K (gd all i v):=by
 cases v
 case bs b =>
  simp only[qak]at h
  simp only[gd]
  cases hg:qas i all with
  | true =>
    simp only[hg]at h
    cases b
    · exact h.2 rfl
    · exact h.1 rfl
  | false =>
    simp only[hg]at h
    exact h
 all_goals exact h
theorem ex_T (hE:EnvG P E) {n:Nat} {dr:Bool} {base i:Nat} {all r:List Oper} {o:Oper} {k:List It} {ts:List SVal} {h:Heap} {top:Nat} (ho:all[i]?=some o)
  (hx:ex P E Q rs (n+1) (.ops dr base i all (o :: r) :: k) ts h top) :
  T E all base i (fun ts' h'=>ex P E Q rs n (.ops dr base (i+1) all r :: k) ts' h' top) ts h \/
  (dr=false/\qP all ts o=some true /\ ∃ f args fn c,qd E ts h o.op = .into f args/\E.inl f=some fn/\fn.body=some c /\
   ex P E Q rs n (.code c :: .frame ts o.dst fn.results.toList (qas i all) :: .ops dr base (i+1) all r :: k) (args++List.replicate (fn.ntmps-args.length) .junk) h top) \/
  (dr=false/\qP all ts o=some true /\ ∃ id args ts' ps as body ts2,qd E ts h o.op = .yld id args/\toRng k=some (id,ts',ps,as,body)/\qbG ts' ps args=some ts2 /\
   ex P E Q rs n (.code as :: .bgn id :: .code body :: .rnd id ts o.dst :: .ops dr base (i+1) all r :: k) ts2 h top) \/
  (dr=false/\qP all ts o=some true /\ ∃ f ms id rest l d ids,qd E ts h o.op = .into f (.ptr id (.l 0) :: rest)/\E.M f=some ms/\look h id = .agg l/\qb7 E h l=some (d,ids)/\uniq (id :: ids)=true/\qa7 (id :: ids) rest=true/\qcz h l/\qaG h rest /\
   (ms d (rest.map (qj E h))).pre /\ ∀ x,(ms d (rest.map (qj E h))).post x ->
    qak (fun _=>qas i all) (qbu (qar ((ms d (rest.map (qj E h))).res x).length (place.placeL E (base+8*i) ((ms d (rest.map (qj E h))).res x++(ms d (rest.map (qj E h))).out x)).1)) fun v =>
     ex P E Q rs n (.ops dr base (i+1) all r :: k) (putD ts o.dst v) (qC ((id,.agg (qa8 ((ms d (rest.map (qj E h))).res x).length (place.placeL E (base+8*i) ((ms d (rest.map (qj E h))).res x++(ms d (rest.map (qj E h))).out x)).1)) :: (place.placeL E (base+8*i) ((ms d (rest.map (qj E h))).res x++(ms d (rest.map (qj E h))).out x)).2) (qbE (id :: ids) h)) top):=by
 simp only[ex]at hx
 have key : ∀ N,nfg E all base i o ts h=some N->N.pre->(∃ x,N.post x)->(∀ x,N.post x->ex P E Q rs n (.ops dr base (i+1) all r :: k) (putD ts o.dst (N.v x)) (qC (N.l x) h) top) ->
   T E all base i (fun ts' h'=>ex P E Q rs n (.ops dr base (i+1) all r :: k) ts' h' top) ts h:=by
  intro N h1 h2 h3 h4
  exact T_of ho h1 h2 h3 h4
 have wkey : ∀ {out},qd E ts h o.op=out->qP all ts o=some true->nf E (base+8*i) out=none->wrT E all base i o (fun ts' h'=>ex P E Q rs n (.ops dr base (i+1) all r :: k) ts' h' top) ts h out ->
   T E all base i (fun ts' h'=>ex P E Q rs n (.ops dr base (i+1) all r :: k) ts' h' top) ts h:=by
  intro out h1 h2 h3 h4
  unfold T
  simp only[ho,nfg,h1,h2,h3]
  exact h4
 split at hx
 ·exact hx.elim
 ·rename_i hg
  exact .inl (key ⟨True,Unit,fun _=>True,fun _ =>.tup [],fun _=>[]⟩ (by simp only[nfg,hg]) trivial ⟨(),trivial⟩ fun x _=>hx)
 ·rename_i hg
  generalize hs:qd E ts h o.op=out at hx
  cases out<;>try dsimp only at hx
  case set v=>exact .inl (key _ (by simp only[nfg,hg,hs,nf];rfl) trivial ⟨(),trivial⟩ fun x _=>qbK (all:=all) (i:=i) hx)
  case setp p v=>exact .inl (key _ (by simp only[nfg,hg,hs,nf];rfl) hx.1 ⟨(),trivial⟩ fun x _=>qbK (all:=all) (i:=i) hx.2)
  case new c mk=>exact .inl (key _ (by simp only[nfg,hg,hs,nf];rfl) trivial ⟨(),trivial⟩ fun x _=>qbK (all:=all) (i:=i) hx)
  case newp p c mk=>exact .inl (key _ (by simp only[nfg,hg,hs,nf];rfl) hx.1 ⟨(),trivial⟩ fun x _=>qbK (all:=all) (i:=i) hx.2)
  case upd id c=>exact .inl (wkey hs hg rfl hx)
  case updp p id c=>exact .inl (wkey hs hg rfl hx)
  case cpy p v id c=>exact .inl (wkey hs hg rfl ⟨hx.1,qbK (all:=all) (i:=i) hx.2⟩)
  case call p s =>
   obtain⟨g,s0,args,hg0,rfl⟩:=qjS hs
   have hx':(∀ q,p=some q -> ∀ u,q u)/\(s0 args).pre /\ ∀ x,(s0 args).post x->qak (fun _=>qas i all) (place E (base+8*i) ((s0 args).res x)).1 fun v=>ex P E Q rs n (.ops dr base (i+1) all r :: k) (putD ts o.dst v) (qC (place E (base+8*i) ((s0 args).res x)).2 h) top:=by
    cases p with
    | none=>exact⟨nofun,hx.1 (),hx.2⟩
    | some q=>exact⟨(fun q' h=>by cases h;exact hx.1),hx.2.1 (),hx.2.2⟩
   exact .inl (key ⟨(∀ q,p=some q -> ∀ u,q u)/\(s0 args).pre,(s0 args).X,(s0 args).post,fun x=>gd all i (place E (base+8*i) ((s0 args).res x)).1,fun x=>(place E (base+8*i) ((s0 args).res x)).2⟩ (by simp only[nfg,hg,hs,nf]) ⟨hx'.1,hx'.2.1⟩ (hE.some_x g s0 args hg0 hx'.2.1) fun x hpx=>qbK (all:=all) (i:=i) (hx'.2.2 x hpx))
  case any p=>exact .inl (key _ (by simp only[nfg,hg,hs,nf];rfl) trivial ⟨false,fun h=>Bool.noConfusion h⟩ fun x hpx=>qbK (all:=all) (i:=i) (hx x hpx))
  case into f args =>
   split at hx<;>try (exact hx.elim)
   split at hx
   ·rename_i ms id rest hM
    split at hx<;>try (exact hx.elim)
    rename_i l hl
    split at hx<;>try (exact hx.elim)
    rename_i d ids hd
    split at hx<;>try (exact hx.elim)
    rename_i hu
    simp only[Bool.and_eq_true]at hu
    exact .inr (.inr (.inr ⟨rfl,hg,f,ms,id,rest,l,d,ids,rfl,hM,hl,hd,hu.1,hu.2,(hx.1 ()).1,(hx.1 ()).2,hx.2.1 (),hx.2.2⟩))
   ·split at hx<;>try (exact hx.elim)
    rename_i fn hfn
    split at hx<;>try (exact hx.elim)
    rename_i c hc
    exact .inr (.inl ⟨rfl,hg,f,_,fn,c,rfl,hfn,hc,hx⟩)
  case yld id args =>
   split at hx<;>try (exact hx.elim)
   split at hx<;>try (exact hx.elim)
   rename_i id' ts' ps as body hr
   split at hx<;>try (exact hx.elim)
   rename_i hb
   have:=Nat.eq_of_beq_eq_true hb
   subst this
   split at hx<;>try (exact hx.elim)
   rename_i ts2 hp
   exact .inr (.inr (.inl ⟨rfl,hg,id,args,ts',ps,as,body,ts2,rfl,hr,hp,hx⟩))
  case mkb p c m=>exact .inl (key _ (by simp only[nfg,hg,hs,nf];rfl) hx.1 ⟨m.v,Nat.le_refl _⟩ fun cap hcap=>qbK (all:=all) (i:=i) (hx.2 cap hcap))
  case app es bytes s x =>
   refine .inl (wkey hs hg rfl ?_)
   simp only[wrT]
   split at hx
   rotate_left
   ·rename_i hne
    split
    ·rename_i h1 h2 h3
     exact(hne _ _ _ _ _ _ _ _ h1 h2 h3).elim
    split at hx
    rotate_left
    ·rename_i hna
     split
     ·rename_i h1 h2
      exact(hna _ _ _ _ _ _ h1 h2).elim
     split at hx<;>try (exact hx.elim)
     rename_i h1 h2 h3
     simp only[h1,h2,h3]
     split at hx<;>try (exact hx.elim)
     rename_i c h4
     simp only[h4]
     exact⟨⟨hx.1 (),hx.2.1 ()⟩,hx.2.2⟩
    rename_i h1 h2
    simp only[h1,h2]
    split at hx<;>try (exact hx.elim)
    rename_i q h4
    simp only[h4]
    exact⟨⟨hx.1 (),hx.2.1 ()⟩,hx.2.2⟩
   rename_i h1 h2 h3
   simp only[h1,h2,h3]
   split at hx<;>try (exact hx.elim)
   rename_i kk h4
   simp only[h4]
   exact⟨⟨hx.1 (),hx.2.1 ()⟩,hx.2.2⟩
end
end Go.Sx
end
section
namespace Go.Sx
inductive All2 {α β:Type} (R:α->β->Prop):List α->List β->Prop
 | nil:All2 R [] []
 | cons {x:α} {y:β} {l:List α} {m:List β}:R x y->All2 R l m->All2 R (x :: l) (y :: m)
def resF (a:Act) (r:ResultVar):Sem Value :=
 match r with
 | .tmp t=>pure (a.tmps.getD t undef)
 | .cell ad t=>do loadVar t (<- asAddr (a.tmps.getD ad undef))
section
variable {P:Program} {E:Env} {ρ:Rho} {H:Snap} {ts:List SVal} {h:Heap} {U:Top} {a:Act} {w:World}
theorem qkt {α:Type} (f:α->Sem Value) (R:α->Value->Prop) (w:World) : ∀ (l:List α),(∀ x ∈ l,∃ v,(f x).run P w = .ok v w/\R x v) ->
  ∃ vs,(l.mapM f).run P w = .ok vs w/\All2 R l vs
 | [],_=>⟨[],rfl,.nil⟩
 | x :: l,hl=>by
   obtain⟨v,h1,h2⟩:=hl x (List.mem_cons_self ..)
   obtain⟨vs,h3,h4⟩:=qkt f R w l fun y hy=>hl y (List.mem_cons_of_mem _ hy)
   exact⟨v :: vs,by simp[List.mapM_cons,h1,h3],.cons h2 h4⟩
variable (hE:EnvOk P E)
include hE
theorem qo1 (R:Rel E ρ H ts h U a w) {r:ResultVar} (hr:resB E ts h [r]=true) :
  ∃ v,(resF a r).run P w = .ok v w/\Den ρ H (resV E ts h r) v/\IdsLt U (resV E ts h r):=by
 cases r with
 | tmp t=>exact⟨_,rfl,R.den t,R.ids t⟩
 | cell ad t =>
   simp only[resB]at hr
   split at hr<;>try (cases hr;done)
   rename_i ti ht
   split at hr<;>try (cases hr;done)
   rename_i id o hp
   simp only[Bool.and_true]at hr
   have hty:=hE.ty t ti ht
   have hd:=R.den ad
   rw[hp]at hd
   simp only[Den,Rep,List.cons.injEq,and_true,SN.v]at hd
   have hj:look h id ≠ .junk:=by intro e;rw[e]at hr;simp[qaA]at hr
   simp only[resV,ht,hp]
   rcases R.lies hj with hg|⟨arr,te,vs,li⟩
   · obtain⟨_,_,k,hk⟩:=hg
     rw[hk]at hr
     cases k<;>simp[gho,qaA]at hr
   · have hl:=qb8 li.rep hr hty.pos
     obtain⟨v,h1,h2,h3⟩:=qeC (P:=P) hty (w:=w) (b:=(ρ id).b) (o:=(ρ id).o) li.cell hl
     refine⟨v,?_,qdj hE.om _ o ti.size ti.agg li.rep hl hty.one v h2 h3,qbv _ _ _ _ (R.lids id)⟩
     show(asAddr (a.tmps.getD ad undef) >>= fun x=>loadVar t x).run P w=_
     rw[hd]
     simpa[asAddr]using h1
theorem qeW (R:Rel E ρ H ts h U a w) {fn:Func} {rs:List ResultVar} (hf:fn.results.toList=rs) (hr:resB E ts h rs=true) :
  ∃ v,(results fn a.tmps).run P w = .ok v w/\Den ρ H (resS E ts h rs) v/\IdsLt U (resS E ts h rs):=by
 have hall : ∀ (l:List ResultVar),resB E ts h l=true -> ∀ r ∈ l,resB E ts h [r]=true:=by
  intro l
  induction l with
  | nil=>intro _ r hr;cases hr
  | cons x l ih =>
    intro hl r hr
    cases x with
    | tmp t =>
      simp only[resB]at hl
      rcases List.mem_cons.1 hr with rfl|hr
      · rfl
      · exact ih hl r hr
    | cell ad t =>
      simp only[resB]at hl
      split at hl<;>try (cases hl;done)
      rename_i ti ht
      split at hl<;>try (cases hl;done)
      rename_i id o hp
      simp only[Bool.and_eq_true]at hl
      rcases List.mem_cons.1 hr with rfl|hr
      · simp only[resB,ht,hp,hl.1,Bool.and_self]
      · exact ih hl.2 r hr
 obtain⟨vs,h1,h2⟩:=qkt (P:=P) (resF a)
  (fun r v=>Den ρ H (resV E ts h r) v/\IdsLt U (resV E ts h r)) w rs fun r hr'=>qo1 hE R (hall rs hr r hr')
 have hm:(fn.results.mapM (resF a)).run P w = .ok vs.toArray w:=by
  rw[Array.mapM_eq_mapM_toList,hf,Sem.run_map,h1]
  rfl
 have hrun:(results fn a.tmps).run P w = .ok (if h:vs.toArray.size=1 then vs.toArray[0] else .tuple vs.toArray) w:=by
  show((fn.results.mapM (resF a)) >>= fun vs=>pure (if h:vs.size=1 then vs[0] else Value.tuple vs)).run P w=_
  rw[Sem.run_bind,hm]
  rfl
 refine⟨_,hrun,?_⟩
 cases h2 with
 | nil=>exact⟨by simp[resS,Den,Rep,RepV],trivial⟩
 | cons h3 h4 =>
   cases h4 with
   | nil=>simpa[resS]using h3
   | cons h5 h6 =>
     rename_i x v y u l us
     have rep : ∀ {l:List ResultVar} {vs:List Value},All2 (fun r v=>Den ρ H (resV E ts h r) v/\IdsLt U (resV E ts h r)) l vs->RepV ρ H (l.map (resV E ts h)) vs/\IdsLtL U (l.map (resV E ts h)):=by
       intro l vs hh
       induction hh with
       | nil=>exact⟨rfl,trivial⟩
       | cons q1 q2 ih=>exact⟨RepV_cons.2 ⟨_,_,rfl,q1.1,ih.1⟩,⟨q1.2,ih.2⟩⟩
     have:=rep (.cons h3 (.cons h5 h6))
     refine⟨?_,this.2⟩
     simp only[resS,Den,Rep]
     exact⟨_,by simp,this.1⟩
end
end Go.Sx
end
section
namespace Go.Sx
section
variable {E:Env} {all:List Oper} {base:Nat}
theorem qku {i:Nat} {K K':Kt} {ts:List SVal} {h:Heap} (hT:T E all base i K ts h) (hK : ∀ ts' h',K ts' h'->K' ts' h'):T E all base i K' ts h:=by
 unfold T at hT ⊢
 split
 ·rename_i h1;simp only[h1]at hT
 ·rename_i o h1
  simp only[h1]at hT
  split
  ·rename_i N hN
   simp only[hN]at hT
   exact⟨hT.1,hT.2.1,fun x hx=>hK _ _ (hT.2.2 x hx)⟩
  ·rename_i hN
   simp only[hN]at hT
   split
   ·rename_i hg
    simp only[hg]at hT
    generalize qd E ts h o.op=out at hT
    cases out<;>simp only[wrT]at hT ⊢
    case upd=>exact hK _ _ hT
    case updp=>exact⟨hT.1,hK _ _ hT.2⟩
    case cpy=>exact⟨hT.1,hK _ _ hT.2⟩
    case app =>
     split at hT
     ·split at hT<;>try (exact hT.elim)
      exact⟨hT.1,fun cap hc=>hK _ _ (hT.2 cap hc)⟩
     ·split at hT
      ·split at hT<;>try (exact hT.elim)
       exact⟨hT.1,fun cap hc=>hK _ _ (hT.2 cap hc)⟩
      ·split at hT<;>try (exact hT.elim)
       split at hT<;>try (exact hT.elim)
       exact⟨hT.1,fun cap hc=>hK _ _ (hT.2 cap hc)⟩
   ·rename_i hg
    cases hg':qP all ts o with
    | none=>simp only[hg']at hT
    | some b=>cases b with
      | false=>simp only[hg']at hT
      | true=>exact absurd hg' hg
end
section
variable {P:Program} {E:Env} {Q:SVal->Heap->Nat->Prop} {rs:List ResultVar} {G:Machine->Prop} {H:Snap}
theorem Lays.exit {id:Nat} : ∀ {k k':List It} {ρ:Rho} {U:Top} {t:Nat} {b:Frame} {items:List Item} {cs:List Frame},qaP id k=some k'->Lays P E Q rs G k H ρ U t b items cs ->
  ∃ items',exitTo id items=some items'/\Lays P E Q rs G k' H ρ U t b items' cs
 | [],k',ρ,U,t,b,items,cs,hp,h=>by simp[qaP]at hp
 | .code c :: k,k',ρ,U,t,b,items,cs,hp,h=>by
   obtain⟨r,rfl,h⟩:=h
   obtain⟨items',h1,h2⟩:=Lays.exit (k:=k) (items:=r) hp h
   exact⟨items',by simpa[exitTo]using h1,h2⟩
 | .again c :: k,k',ρ,U,t,b,items,cs,hp,h=>by
   obtain⟨r,rfl,h⟩:=h
   obtain⟨items',h1,h2⟩:=Lays.exit (k:=k) (items:=r) hp h
   exact⟨items',by simpa[exitTo]using h1,h2⟩
 | .scp c :: k,k',ρ,U,t,b,items,cs,hp,h=>by
   obtain⟨r,rfl,h⟩:=h
   obtain⟨items',h1,h2⟩:=Lays.exit (k:=k) (items:=r) hp h
   exact⟨items',by simpa[exitTo]using h1,h2⟩
 | .back J :: k,k',ρ,U,t,b,items,cs,hp,h=>by
   obtain⟨r,c,rfl,h,_⟩:=h
   obtain⟨items',h1,h2⟩:=Lays.exit (k:=k) (items:=r) hp h
   exact⟨items',by simpa[exitTo]using h1,h2⟩
 | .ops dr base i all l :: k,k',ρ,U,t,b,items,cs,hp,h=>by
   obtain⟨r,rfl,_,hb,_,h⟩:=h
   obtain⟨items',h1,h2⟩:=Lays.exit (k:=k) (items:=r) hp (Lays.mono h (fun id hid=>⟨hid,rfl⟩) (fun id hid =>.inl hid) hb)
   exact⟨items',by simpa[exitTo]using h1,h2⟩
 | .sback l J :: k,k',ρ,U,t,b,items,cs,hp,h=>by
   obtain⟨r,c,y,rfl,_,h,_⟩:=h
   obtain⟨items',h1,h2⟩:=Lays.exit (k:=k) (items:=r) hp h
   exact⟨items',by simpa[exitTo]using h1,h2⟩
 | .frame .. :: k,k',ρ,U,t,b,items,cs,hp,h=>by simp[qaP]at hp
 | .rng .. :: k,k',ρ,U,t,b,items,cs,hp,h=>by simp[qaP]at hp
 | .rnd .. :: k,k',ρ,U,t,b,items,cs,hp,h=>by simp[qaP]at hp
 | .bgn _ :: k,k',ρ,U,t,b,items,cs,hp,h=>by simp[qaP]at hp
 | .blk j :: k,k',ρ,U,t,b,items,cs,hp,h=>by
   obtain⟨r,rfl,h⟩:=h
   simp only[qaP]at hp
   split at hp
   · rename_i hb
     have:=Nat.eq_of_beq_eq_true hb
     subst this
     cases hp
     exact⟨r,by simp[exitTo],h⟩
   · rename_i hb
     obtain⟨items',h1,h2⟩:=Lays.exit (k:=k) hp h
     refine⟨items',?_,h2⟩
     have:(j == id)=false:=by
       rw[beq_eq_false_iff_ne]
       rintro rfl
       rw[Nat.beq_refl]at hb
       cases hb
     simp[exitTo,this,h1]
theorem qo2 : ∀ {c r:Code} {l:Nat},findLabel c l=some r->qx c=true->qx r=true:=by
 intro c
 induction c with
 | seq a b iha ihb =>
   intro r l h hr
   simp only[qx,Bool.and_eq_true]at hr
   simp only[findLabel]at h
   split at h
   · rename_i rest hq
     cases h
     simp only[qx,Bool.and_eq_true]
     exact⟨iha hq hr.1,hr.2⟩
   · exact ihb h hr.2
 | label l' =>
   intro r l h hr
   simp only[findLabel]at h
   split at h
   · cases h;rfl
   · cases h
 | _=>intro r l h hr;simp[findLabel]at h
theorem Lays.goto {l:Nat} : ∀ {k k':List It} {ρ:Rho} {U:Top} {t:Nat} {b:Frame} {items:List Item} {cs:List Frame},qaH l k=some k'->Lays P E Q rs G k H ρ U t b items cs ->
  ∃ items',gotoIn l items=some items'/\Lays P E Q rs G k' H ρ U t b items' cs
 | [],k',ρ,U,t,b,items,cs,hp,h=>by simp[qaH]at hp
 | .code c :: k,k',ρ,U,t,b,items,cs,hp,h=>by
   obtain⟨r,rfl,h⟩:=h
   obtain⟨items',h1,h2⟩:=Lays.goto (k:=k) (items:=r) hp h
   exact⟨items',by simpa[gotoIn]using h1,h2⟩
 | .again c :: k,k',ρ,U,t,b,items,cs,hp,h=>by
   obtain⟨r,rfl,h⟩:=h
   obtain⟨items',h1,h2⟩:=Lays.goto (k:=k) (items:=r) hp h
   exact⟨items',by simpa[gotoIn]using h1,h2⟩
 | .blk c :: k,k',ρ,U,t,b,items,cs,hp,h=>by
   obtain⟨r,rfl,h⟩:=h
   obtain⟨items',h1,h2⟩:=Lays.goto (k:=k) (items:=r) hp h
   exact⟨items',by simpa[gotoIn]using h1,h2⟩
 | .back J :: k,k',ρ,U,t,b,items,cs,hp,h=>by
   obtain⟨r,c,rfl,h,_⟩:=h
   obtain⟨items',h1,h2⟩:=Lays.goto (k:=k) (items:=r) hp h
   exact⟨items',by simpa[gotoIn]using h1,h2⟩
 | .ops dr base i all ll :: k,k',ρ,U,t,b,items,cs,hp,h=>by
   obtain⟨r,rfl,_,hb,_,h⟩:=h
   obtain⟨items',h1,h2⟩:=Lays.goto (k:=k) (items:=r) hp (Lays.mono h (fun id hid=>⟨hid,rfl⟩) (fun id hid =>.inl hid) hb)
   exact⟨items',by simpa[gotoIn]using h1,h2⟩
 | .sback l J :: k,k',ρ,U,t,b,items,cs,hp,h=>by
   simp only[qaH]at hp
   split at hp<;>cases hp
 | .frame .. :: k,k',ρ,U,t,b,items,cs,hp,h=>by simp[qaH]at hp
 | .rng .. :: k,k',ρ,U,t,b,items,cs,hp,h=>by simp[qaH]at hp
 | .rnd .. :: k,k',ρ,U,t,b,items,cs,hp,h=>by simp[qaH]at hp
 | .bgn _ :: k,k',ρ,U,t,b,items,cs,hp,h=>by simp[qaH]at hp
 | .scp c :: k,k',ρ,U,t,b,items,cs,hp,h=>by
   obtain⟨r,rfl,h⟩:=h
   simp only[qaH]at hp
   split at hp
   · rename_i rest hq
     cases hp
     exact⟨_,by simp[gotoIn,hq],_,rfl,_,rfl,h⟩
   · rename_i hq
     obtain⟨items',h1,h2⟩:=Lays.goto (k:=k) hp h
     exact⟨items',by simp[gotoIn,hq,h1],h2⟩
theorem Lays.jump {l:Nat} {J:List SVal->Heap->Nat->Prop} : ∀ {k:List It} {ρ:Rho} {U:Top} {t:Nat} {b:Frame} {items:List Item} {cs:List Frame},popJ l k=some J->Lays P E Q rs G k H ρ U t b items cs ->
  ∃ y c r,gotoIn l items=some (.code (.seq .skip y) :: .inScope c :: r) /\ ∀ (V:Top) (top:Nat) ts h a w,(∀ id,U id->V id)->(∀ id,V id->U id\/t<=id)->(∀ id,V id->id<top)->Rel E ρ H ts h V a w->J ts h top->G (lone (b.atR a (.code y :: .inScope c :: r)) cs w)
 | [],ρ,U,t,b,items,cs,hp,h=>by simp[popJ]at hp
 | .code c :: k,ρ,U,t,b,items,cs,hp,h=>by
   obtain⟨r,rfl,h⟩:=h
   obtain⟨y,c,r',h1,h2⟩:=Lays.jump (k:=k) (items:=r) hp h
   exact⟨y,c,r',by simpa[gotoIn]using h1,h2⟩
 | .again c :: k,ρ,U,t,b,items,cs,hp,h=>by
   obtain⟨r,rfl,h⟩:=h
   obtain⟨y,c,r',h1,h2⟩:=Lays.jump (k:=k) (items:=r) hp h
   exact⟨y,c,r',by simpa[gotoIn]using h1,h2⟩
 | .blk c :: k,ρ,U,t,b,items,cs,hp,h=>by
   obtain⟨r,rfl,h⟩:=h
   obtain⟨y,c,r',h1,h2⟩:=Lays.jump (k:=k) (items:=r) hp h
   exact⟨y,c,r',by simpa[gotoIn]using h1,h2⟩
 | .back J :: k,ρ,U,t,b,items,cs,hp,h=>by
   obtain⟨r,c,rfl,h,_⟩:=h
   obtain⟨y,c,r',h1,h2⟩:=Lays.jump (k:=k) (items:=r) hp h
   exact⟨y,c,r',by simpa[gotoIn]using h1,h2⟩
 | .ops dr base i all ll :: k,ρ,U,t,b,items,cs,hp,h=>by
   obtain⟨r,rfl,_,hb,_,h⟩:=h
   obtain⟨y,c,r',h1,h2⟩:=Lays.jump (k:=k) (items:=r) hp (Lays.mono h (fun id hid=>⟨hid,rfl⟩) (fun id hid =>.inl hid) hb)
   exact⟨y,c,r',by simpa[gotoIn]using h1,h2⟩
 | .sback l' J' :: k,ρ,U,t,b,items,cs,hp,h=>by
   obtain⟨r,c,y,rfl,ef,h,hJ⟩:=h
   simp only[popJ]at hp
   split at hp
   · rename_i hb
     have:=Nat.eq_of_beq_eq_true hb
     subst this
     cases hp
     exact⟨y,c,r,by simp[gotoIn,ef],fun V top ts h a w q1 q2 q3 R hj=>hJ H ρ V top ts h a w (.inl rfl) (fun id hid=>⟨q1 id hid,rfl⟩) q2 q3 R hj⟩
   · cases hp
 | .frame .. :: k,ρ,U,t,b,items,cs,hp,h=>by simp[popJ]at hp
 | .rng .. :: k,ρ,U,t,b,items,cs,hp,h=>by simp[popJ]at hp
 | .rnd .. :: k,ρ,U,t,b,items,cs,hp,h=>by simp[popJ]at hp
 | .bgn _ :: k,ρ,U,t,b,items,cs,hp,h=>by simp[popJ]at hp
 | .scp c :: k,ρ,U,t,b,items,cs,hp,h=>by
   obtain⟨r,rfl,h⟩:=h
   simp only[popJ]at hp
   split at hp
   · cases hp
   · rename_i hq
     obtain⟨y',c',r',h1,h2⟩:=Lays.jump (k:=k) (items:=r) hp h
     exact⟨y',c',r',by simp[gotoIn,hq,h1],h2⟩
def qkv (P:Program) (E:Env) (Q:SVal->Heap->Nat->Prop) (rs:List ResultVar) (G:Machine->Prop) (H:Snap) (ts':List SVal) (d:Option Nat) (rs':List ResultVar) (k:List It) (ρ:Rho) (U:Top) (t:Nat) (b:Frame) (cs:List Frame):Prop :=
 b.roundOf=none/\b.kind = .normal/\(∃ fn,P.funcs[b.fn]?=some fn/\fn.results.toList=rs') /\ ∃ H0 b' a' cs' all i l r,H=Snap.bare H0/\cs=b'.atR a' (.inRegion all (i :: l) :: r) :: cs' /\
  (∃ o,all[i]?=some o/\o.dst=d)/\a'.defers=H0.defs/\ts'.length<=a'.tmps.size/\(∀ j,Den ρ H0 (getT ts' j) (a'.tmps.getD j undef))/\(∀ j,IdsLt U (getT ts' j)) /\
  Lays P E Q rs G k H0 ρ U t b' (.inRegion all l :: r) cs'
def qhv (P:Program) (E:Env) (Q:SVal->Heap->Nat->Prop) (rs:List ResultVar) (G:Machine->Prop) (H:Snap) (ts':List SVal) (k:List It) (ρ:Rho) (U:Top) (t:Nat) (b:Frame) (cs:List Frame):Prop :=
 b.roundOf=none/\b.kind = .normal/\(∃ fn,P.funcs[b.fn]?=some fn/\fn.results.toList=[]) /\ ∃ H0 lp rec b' a' cs' r,H=(Snap.with H0 lp (.loop rec)).bare /\
  H0 lp=none/\rec.state = .ready/\rec.pending=none/\cs=b'.atR a' (.inRangeFunc lp :: r) :: cs'/\a'.defers=H0.defs/\ts'.length<=a'.tmps.size/\(∀ j,Den ρ H0 (getT ts' j) (a'.tmps.getD j undef))/\(∀ j,IdsLt U (getT ts' j)) /\
  Lays P E Q rs G k H0 ρ U t b' r cs'
def qo3 (E:Env) (Q:SVal->Heap->Nat->Prop) (rs:List ResultVar) (G:Machine->Prop) (H:Snap) (ρ:Rho) (U:Top) (t:Nat) (b:Frame) (cs:List Frame):Prop :=
 b.roundOf=none /\ ∀ (H':Snap) (ρ':Rho) (V:Top) (top:Nat) ts h a w todo,Grows H H'->(∀ id,U id->V id/\ρ' id=ρ id)->(∀ id,V id->U id\/t<=id)->(∀ id,V id->id<top)->Rel E ρ' H' ts h V a w ->
  resB E ts h rs=true->Q (resS E ts h rs) h top->G (lone { b.atR a todo with mode :=.returning } cs w)
theorem Lays.ret : ∀ {k:List It} {ρ:Rho} {U:Top} {t:Nat} {b:Frame} {items:List Item} {cs:List Frame},qgX k=false->Lays P E Q rs G k H ρ U t b items cs ->
  match qcA k with
  | some (ts',d,rs',_,k')=>qkv P E Q rs G H ts' d rs' k' ρ U t b cs\/(d=none/\rs'=[]/\qhv P E Q rs G H ts' k' ρ U t b cs)
  | none=>qo3 E Q rs G H ρ U t b cs
 | [],ρ,U,t,b,items,cs,_,h=>h.2
 | .code c :: k,ρ,U,t,b,items,cs,hi,h=>by
   obtain⟨r,rfl,h⟩:=h
   exact Lays.ret (k:=k) hi h
 | .again c :: k,ρ,U,t,b,items,cs,hi,h=>by
   obtain⟨r,rfl,h⟩:=h
   exact Lays.ret (k:=k) hi h
 | .blk c :: k,ρ,U,t,b,items,cs,hi,h=>by
   obtain⟨r,rfl,h⟩:=h
   exact Lays.ret (k:=k) hi h
 | .scp c :: k,ρ,U,t,b,items,cs,hi,h=>by
   obtain⟨r,rfl,h⟩:=h
   exact Lays.ret (k:=k) hi h
 | .back J :: k,ρ,U,t,b,items,cs,hi,h=>by
   obtain⟨r,c,rfl,h,_⟩:=h
   exact Lays.ret (k:=k) hi h
 | .sback l J :: k,ρ,U,t,b,items,cs,hi,h=>by
   obtain⟨r,c,y,rfl,_,h,_⟩:=h
   exact Lays.ret (k:=k) hi h
 | .ops dr base i all l :: k,ρ,U,t,b,items,cs,hi,h=>by
   obtain⟨r,rfl,_,hb,_,h⟩:=h
   exact Lays.ret (k:=k) hi (Lays.mono h (fun id hid=>⟨hid,rfl⟩) (fun id hid =>.inl hid) hb)
 | .frame ts' d rs' g :: k,ρ,U,t,b,items,cs,_,h =>.inl h.2
 | .rng id ts' ps as body :: k,ρ,U,t,b,items,cs,_,h=>by
   obtain⟨_,h1,h2,h3,_,H0,rec,b',a',cs',r,eH,p1,p2,p3,_,_,_,_,_,e2,hd,hl,hden,hid,h⟩:=h
   exact .inr ⟨rfl,rfl,h1,h2,h3,H0,_,rec,b',a',cs',r,eH,p1,p2,p3,e2,hd,hl,hden,hid,h⟩
 | .rnd .. :: k,ρ,U,t,b,items,cs,hi,h=>by cases hi
 | .bgn _ :: k,ρ,U,t,b,items,cs,hi,h=>by cases hi
theorem qkw {g:Bool} {v:SVal} {K:SVal->Prop} (h:qak (fun _=>g) v K) : ∃ v',K v'/\(∀ {ρ:Rho} {H:Snap} {u:Value},Den ρ H v u->Den ρ H v' u) /\ ∀ {U:Top},IdsLt U v->IdsLt U v':=by
 cases v
 case bs b =>
  simp only[qak]at h
  cases g with
  | true =>
    refine⟨.bl b,?_,fun h=>h,fun _=>trivial⟩
    cases b
    · exact h.2 rfl
    · exact h.1 rfl
  | false=>exact⟨_,h,fun h=>h,fun h=>h⟩
 all_goals exact⟨_,h,fun h=>h,fun h=>h⟩
theorem Rel.world {ρ:Rho} {ts:List SVal} {h:Heap} {U:Top} {a:Act} {w w':World} (R:Rel E ρ H ts h U a w) (hw:w'.heap=w.heap) (hs:Same w w'):Rel E ρ H ts h U a w' :=
 ⟨R.len,R.den,R.ids,R.hids,fun b o hb=>by rw[hw];exact R.agree b o hb,⟨fun id c hc=>by
  rcases R.heap.1 id c hc with hg|⟨arr,t,vs,li⟩
  ·exact .inl hg
  ·exact .inr ⟨arr,t,vs,li.real,by rw[hw];exact li.blk,li.own,li.rep,li.room,li.fits,li.cells,li.fz⟩,R.heap.2⟩,R.defers,R.glob,R.same.trans hs⟩
theorem Rel.conv {ρ:Rho} {H':Snap} {ts:List SVal} {h:Heap} {U:Top} {a a':Act} {w w':World} (R:Rel E ρ H ts h U a w) (hro : ∀ b o v,qu H b o=some v->qu H' b o=some v) (hA:Agree H' w')
  (hown : ∀ b c t x,w.heap[b]?=some (.cells c t x)->H b=none->H' b=none/\w'.heap[b]?=w.heap[b]?) (hS:Same H'.w0 w') (hd:a'.defers=H'.defs) (ht:a'.tmps=a.tmps):Rel E ρ H' ts h U a' w':=by
 refine⟨by rw[ht];exact R.len,fun i => ?_,R.ids,R.hids,hA,⟨fun id c hc => ?_,R.heap.2⟩,hd,fun g=>⟨Den.extR (t:=noId) (fun i h=>h.elim) hro (R.glob g).2 (R.glob g).1,(R.glob g).2⟩,hS⟩
 ·rw[ht];exact Den.extR (t:=U) (fun _ _=>rfl) hro (R.ids i) (R.den i)
 ·rcases R.heap.1 id c hc with hg|⟨arr,t,vs,li⟩
  ·exact .inl hg
  ·obtain⟨q1,q2⟩:=hown _ _ _ _ li.blk li.own
   exact .inr ⟨arr,t,vs,li.real,by rw[q2];exact li.blk,q1,Rep.extR (t:=U) (fun _ _=>rfl) hro c (R.hids _ _ hc).2 li.rep,li.room,li.fits,li.cells,li.fz⟩
theorem qkx {H:Snap} {l:Nat} {rec:Loop} {b o:Nat} {v:Value} (h:qu (H.with l (.loop rec)) b o=some v):qu H b o=some v:=by
 unfold qu Snap.with at h
 unfold qu
 dsimp only at h
 by_cases hb:b=l
 ·rw[if_pos hb]at h;cases h
 ·rw[if_neg hb]at h;exact h
theorem qeX {H:Snap} {l:Nat} {rec:Loop} (hl : ∀ c t x,H l ≠ some (.cells c t x)) {b o:Nat} {v:Value} (h:qu H b o=some v):qu (H.with l (.loop rec)) b o=some v:=by
 unfold qu Snap.with
 unfold qu at h
 dsimp only
 by_cases hb:b=l
 ·subst hb
  cases hc:H b with
  | none=>rw[hc]at h;cases h
  | some ob =>
    rw[hc]at h
    cases ob<;>first|exact absurd hc (hl _ _ _)|cases h
 ·rw[if_neg hb];exact h
theorem qeY (w:World) (l:Nat) (o:Obj):Same w (w.putObj l o):=⟨rfl,rfl,rfl,by simp⟩
theorem Rel.unbare {ρ:Rho} {ts:List SVal} {h:Heap} {U:Top} {a a':Act} {w:World} (R:Rel E ρ H.bare ts h U a w) (hd:a'.defers=H.defs) (ht:a'.tmps=a.tmps):Rel E ρ H ts h U a' w :=
 R.conv (fun _ _ _ h=>h) R.agree (fun _ _ _ _ _ h=>⟨h,rfl⟩) R.same hd ht
theorem Rel.bare {ρ:Rho} {ts:List SVal} {h:Heap} {U:Top} {a a':Act} {w:World} (R:Rel E ρ H ts h U a w) (hd:a'.defers=[]) (ht:a'.tmps=a.tmps):Rel E ρ H.bare ts h U a' w :=
 R.conv (fun _ _ _ h=>h) R.agree (fun _ _ _ _ _ h=>⟨h,rfl⟩) R.same hd ht
variable (hE:EnvG P E) (hG : ∀ m m',Steps P m m'->G m'->G m)
include hE hG
theorem qky {ts':List SVal} {d:Option Nat} {rs':List ResultVar} {k:List It} {ρ:Rho} {U:Top} {t:Nat} {b:Frame} {cs:List Frame} {ts:List SVal} {h:Heap} {a:Act} {w:World} {todo:List Item} {g:Bool} {K:SVal->Prop}
  (hF:qkv P E Q rs G H ts' d rs' k ρ U t b cs) (R:Rel E ρ H ts h U a w) (hr:resB E ts h rs'=true) (hK:qak (fun _=>g) (resS E ts h rs') K)
  (next : ∀ v H' b' items' cs' a' w',K v->Rel E ρ H' (putD ts' d v) h U a' w'->Lays P E Q rs G k H' ρ U t b' items' cs'->G (lone (b'.atR a' items') cs' w')) :
  G (lone { b.atR a todo with mode :=.returning } cs w):=by
 obtain⟨_,hk,⟨fn,hf1,hf2⟩,H0,b',a',cs',all,i,l,r,rfl,rfl,⟨o,ho,hd⟩,hdf,hlen,hden,hids,hL⟩:=hF
 obtain⟨v,h1,h2,h3⟩:=qeW hE.toEnvOk R hf2 hr
 have hleave:Frame.leaving P { b.atR a todo with mode :=.returning } w (.returned v):=⟨rfl,R.defers,hk,fn,hf1,h1⟩
 refine hG _ _ (.one (step_leave_returned hleave)) ?_
 rw[Frame.finish_atR,ho]
 simp only[Option.bind_some,hd]
 obtain⟨v',k1,k2,k3⟩:=qkw hK
 refine next v' H0 b' _ cs' _ w k1 ?_ hL
 have R0:Rel E ρ H0 ts h U { a with defers:=H0.defs } w:=R.unbare rfl rfl
 have R':Rel E ρ H0 ts' h U a' w:=⟨hlen,hden,hids,R0.hids,R0.agree,R0.heap,hdf,R0.glob,R0.same⟩
 exact R'.set d (k2 (Den.extR (H:=Snap.bare H0) (H':=H0) (t:=U) (fun _ _=>rfl) (fun _ _ _ h=>h) h3 h2)) (k3 h3)
theorem qkz {ts':List SVal} {k:List It} {ρ:Rho} {U:Top} {t:Nat} {b:Frame} {cs:List Frame} {ts:List SVal} {h:Heap} {a:Act} {w:World} {todo:List Item}
  (hF:qhv P E Q rs G H ts' k ρ U t b cs) (R:Rel E ρ H ts h U a w)
  (next : ∀ H' b' items' cs' a' w',Rel E ρ H' ts' h U a' w'->Lays P E Q rs G k H' ρ U t b' items' cs'->G (lone (b'.atR a' items') cs' w')) :
  G (lone { b.atR a todo with mode :=.returning } cs w):=by
 obtain⟨_,hk,⟨fn,hf1,hf2⟩,H0,lp,rec,b',a',cs',r,rfl,hn,hst,hpe,rfl,hdf,hlen,hden,hids,hL⟩:=hF
 obtain⟨v,h1,h2,h3⟩:=qeW (rs:=[]) hE.toEnvOk R hf2 rfl
 have hleave:Frame.leaving P { b.atR a todo with mode :=.returning } w (.returned v):=⟨rfl,R.defers,hk,fn,hf1,h1⟩
 refine hG _ _ (.one (step_leave_returned hleave)) ?_
 rw[finish_atR_inRangeFunc]
 have hl:w.heap[lp]?=some (.loop rec):=R.agree lp _ (by simp[Snap.bare,Snap.with])
 have hend:(Instr.endLoop lp).run P w = .ok none (w.putObj lp (.loop { rec with state :=.exhausted })):=(run_endLoop (P:=P) hl (by rw[hst];simp)).trans (by rw[hpe])
 refine hG _ _ (.one (stepR_endRangeFunc hend)) ?_
 refine next H0 b' r cs' a' _ ?_ hL
 have R0:Rel E ρ H0 ts h U { a with defers:=H0.defs } (w.putObj lp (.loop { rec with state :=.exhausted })):=by
  refine R.conv (fun b o v hv=>qkx (H:=H0) (l:=lp) (rec:=rec) hv) (fun b o hb => ?_) (fun b c t x _ hb => ?_) (R.same.trans (qeY _ _ _)) rfl rfl
  ·have hbl:b ≠ lp:=by rintro rfl;rw[hn]at hb;cases hb
   rw[World.putObj_heap_other hbl]
   exact R.agree b o (by simp only[Snap.bare,Snap.with];rw[if_neg hbl];exact hb)
  ·have hbl:b ≠ lp:=by rintro rfl;simp[Snap.bare,Snap.with]at hb
   refine⟨?_,World.putObj_heap_other hbl⟩
   simp only[Snap.bare,Snap.with]at hb
   rw[if_neg hbl]at hb
   exact hb
 exact⟨hlen,hden,hids,R0.hids,R0.agree,R0.heap,hdf,R0.glob,R0.same⟩
theorem qo4 {id:Nat} {ts':List SVal} {d:Option Nat} {k:List It} {ρ:Rho} {U:Top} {t:Nat} {b:Frame} {items:List Item} {cs:List Frame} {ts:List SVal} {h:Heap} {a:Act} {w:World}
  (hF:Lays P E Q rs G (.rnd id ts' d :: k) H ρ U t b items cs) (R:Rel E ρ H ts h U a w)
  (next : ∀ H' b' items' cs' a' w',Rel E ρ H' (putD ts' d (.bl true)) h U a' w'->Lays P E Q rs G k H' ρ U t b' items' cs'->G (lone (b'.atR a' items') cs' w')) :
  G (lone (b.atR a items) cs w):=by
 obtain⟨rfl,hro,hk,hU,H0,rec,b',a',cs',all,i,l,r,rfl,hn,hst,hpe,rfl,⟨o,ho,hd⟩,hdf,hlen,hden,hids,hL⟩:=hF
 generalize (ρ id).b=lp at *
 have hl:w.heap[lp]?=some (.loop { rec with state :=.busy }):=R.agree lp _ (by simp[Snap.bare,Snap.with])
 have hend:=run_endRound (P:=P) none hl
 have erec:({ ({ rec with state :=.busy }:Loop)with state:=if (none:Option Code).isNone then .ready else .done,pending:=none }:Loop)=rec:=by
  cases rec;simp at hst hpe ⊢;exact⟨hst.symm,hpe.symm⟩
 rw[erec]at hend
 refine hG _ _ (.one (stepR_round_end hro hk hend)) ?_
 rw[Frame.finish_atR,ho]
 simp only[Option.bind_some,hd]
 refine next H0 b' _ cs' _ _ ?_ hL
 have R0:Rel E ρ H0 ts h U { a with defers:=H0.defs } (w.putObj lp (.loop rec)):=by
  refine R.conv (fun b o v hv=>qkx (H:=H0) (l:=lp) (rec := { rec with state :=.busy }) hv) (fun b o hb => ?_) (fun b c t x _ hb => ?_) (R.same.trans (qeY _ _ _)) rfl rfl
  ·by_cases hbl:b=lp
   ·subst hbl
    rw[hn]at hb
    rw[World.putObj_heap_same (Array.getElem?_eq_some_iff.1 hl).1]
    exact hb
   ·rw[World.putObj_heap_other hbl]
    exact R.agree b o (by simp only[Snap.bare,Snap.with];rw[if_neg hbl];exact hb)
  ·have hbl:b ≠ lp:=by rintro rfl;simp[Snap.bare,Snap.with]at hb
   refine⟨?_,World.putObj_heap_other hbl⟩
   simp only[Snap.bare,Snap.with]at hb
   rw[if_neg hbl]at hb
   exact hb
 have R':Rel E ρ H0 ts' h U a' (w.putObj lp (.loop rec)):=⟨hlen,hden,hids,R0.hids,R0.agree,R0.heap,hdf,R0.glob,R0.same⟩
 exact R'.set d (by simp[Den,Rep]) trivial
theorem qo5 {id:Nat} {k:List It} {ρ:Rho} {U:Top} {t:Nat} {b:Frame} {items:List Item} {cs:List Frame} {ts:List SVal} {h:Heap} {a:Act} {w:World}
  (hF:Lays P E Q rs G (.bgn id :: k) H ρ U t b items cs) (R:Rel E ρ H ts h U a w)
  (next : ∀ H' items' w',Rel E ρ H' ts h U a w'->Lays P E Q rs G k H' ρ U t b items' cs->G (lone (b.atR a items') cs w')) :
  G (lone (b.atR a items) cs w):=by
 obtain⟨r,rec,rfl,hro,hU,hn,hst,hL⟩:=hF
 generalize (ρ id).b=lp at *
 have hl:w.heap[lp]?=some (.loop rec):=R.agree lp _ hn
 refine hG _ _ (.one (stepR_beginRound hro (run_beginRound hl hst))) ?_
 refine next _ r _ ?_ hL
 refine R.conv (fun b o v hv=>qeX (by intro c t x;rw[hn];simp) hv) (fun b o hb => ?_) (fun b c t x _ hb => ?_) (R.same.trans (qeY _ _ _)) R.defers rfl
 ·simp only[Snap.with]at hb
  by_cases hbl:b=lp
  ·subst hbl
   rw[if_pos rfl]at hb
   rw[World.putObj_heap_same (Array.getElem?_eq_some_iff.1 hl).1]
   exact hb
  ·rw[if_neg hbl]at hb
   rw[World.putObj_heap_other hbl]
   exact R.agree b o hb
 ·have hbl:b ≠ lp:=by rintro rfl;rw[hn]at hb;cases hb
  refine⟨?_,World.putObj_heap_other hbl⟩
  simp only[Snap.with]
  rw[if_neg hbl]
  exact hb
end
end Go.Sx
end
section
namespace Go.Sx
def rem (n:Nat) (listed:Array Bool):List Nat:=(List.range n).filter fun j => !listed.getD j true
theorem mem_rem {n j:Nat} {listed:Array Bool}:j ∈ rem n listed ↔ j<n/\listed.getD j true=false:=by
 simp only[rem,List.mem_filter,List.mem_range,Bool.not_eq_true']
theorem qo6 (n:Nat) (listed:Array Bool):(rem n listed).Nodup:=List.Pairwise.filter _ List.nodup_range
theorem qkA (n:Nat) (listed:Array Bool):(rem n listed).Pairwise (· < ·):=List.Pairwise.filter _ (List.pairwise_lt_range)
theorem qo7 {n j:Nat} {listed:Array Bool} (hj:j<listed.size):rem n (listed.setIfInBounds j true)=(rem n listed).filter (· != j):=by
 simp only[rem,List.filter_filter]
 refine List.filter_congr fun x hx => ?_
 by_cases e:x=j
 ·subst e
  simp[Array.getElem?_setIfInBounds,hj]
 ·have:j ≠ x:=fun q=>e q.symm
  simp[Array.getElem?_setIfInBounds,this,e]
theorem qo8 {all:List Oper} {ts0:List SVal} (h:qcc all ts0=true):(∀ (j:Nat) p,all[j]?=some p -> ∀ e ∈ p.after.toList,Region.binds .any e=true->e.on<j) /\
  ∀ j r,j<all.length->r<j->r ∈ (ancs all []).getD j [] \/ ∃ o p,all[r]?=some o/\all[j]?=some p/\qcD all ts0 o p=true:=by
 unfold qcc at h
 simp only[Bool.and_eq_true]at h
 obtain⟨h1,h2⟩:=h
 refine⟨fun j p hp e he hb => ?_,fun j r hj hr => ?_⟩
 ·unfold qhe at h1
  rw[List.all_eq_true]at h1
  have hj:j<all.length:=(List.getElem?_eq_some_iff.1 hp).1
  have:=h1 j (List.mem_range.2 hj)
  simp only[hp]at this
  rw[List.all_eq_true]at this
  have:=this e he
  simp only[hb,Bool.not_true,Bool.false_or]at this
  exact Nat.le_of_ble_eq_true this
 ·rw[List.all_eq_true]at h2
  have:=h2 j (List.mem_range.2 hj)
  rw[List.all_eq_true]at this
  have:=this r (List.mem_range.2 hr)
  simp only[Bool.or_eq_true]at this
  rcases this with h|h
  ·exact .inl (by simpa using h)
  ·refine .inr ?_
   split at h
   ·rename_i o p h1 h2
    exact⟨o,p,h1,h2,h⟩
   ·cases h
theorem qo9 {all:List Oper} (h:qhf all=true) (ts:List SVal):qcc all ts=true:=by
 unfold qhf at h
 unfold qcc
 simp only[Bool.and_eq_true]at h ⊢
 refine⟨h.1,?_⟩
 have h2:=h.2
 rw[List.all_eq_true]at h2 ⊢
 intro j hj
 have:=h2 j hj
 rw[List.all_eq_true]at this ⊢
 intro r hr
 have:=this r hr
 simp only[Bool.or_eq_true]at this ⊢
 rcases this with h|h
 ·exact .inl h
 ·refine .inr ?_
  split at h
  ·rename_i o p h1 h2
   unfold qcD
   rw[h];rfl
  ·cases h
theorem qpa {E:Env} {all:List Oper} {base:Nat} {ts0:List SVal} {i:Nat} {K:Kt} {ts:List SVal} {h:Heap} (hk:Keep all ts0 ts) (hT:T E all base i K ts h):T E all base i (fun ts' h'=>Keep all ts0 ts'/\K ts' h') ts h:=by
 unfold T at hT ⊢
 split
 ·rename_i h1;simp only[h1]at hT
 ·rename_i o h1
  simp only[h1]at hT
  have hp : ∀ v,Keep all ts0 (putD ts o.dst v):=fun v=>hk.put h1 v
  split
  ·rename_i N hN
   simp only[hN]at hT
   exact⟨hT.1,hT.2.1,fun x hx=>⟨hp _,hT.2.2 x hx⟩⟩
  ·rename_i hN
   simp only[hN]at hT
   split
   ·rename_i hg
    simp only[hg]at hT
    generalize qd E ts h o.op=out at hT
    cases out<;>simp only[wrT]at hT ⊢
    case upd=>exact⟨hp _,hT⟩
    case updp=>exact⟨hT.1,hp _,hT.2⟩
    case cpy=>exact⟨hT.1,hp _,hT.2⟩
    case app =>
     split at hT
     ·split at hT<;>try (exact hT.elim)
      exact⟨hT.1,fun cap hc=>⟨hp _,hT.2 cap hc⟩⟩
     ·split at hT
      ·split at hT<;>try (exact hT.elim)
       exact⟨hT.1,fun cap hc=>⟨hp _,hT.2 cap hc⟩⟩
      ·split at hT<;>try (exact hT.elim)
       split at hT<;>try (exact hT.elim)
       exact⟨hT.1,fun cap hc=>⟨hp _,hT.2 cap hc⟩⟩
   ·rename_i hg
    cases hg':qP all ts o with
    | none=>simp only[hg']at hT
    | some b=>cases b with
      | false=>simp only[hg']at hT
      | true=>exact absurd hg' hg
section
variable {P:Program} {E:Env} {Q:SVal->Heap->Nat->Prop} {rs:List ResultVar} {G:Machine->Prop} {H:Snap}
variable (hE:EnvG P E) (hG : ∀ m m',Steps P m m'->G m'->G m)
include hE hG
theorem qpb {all:List Oper} {base:Nat} {K:Kt} {b:Frame} {r:List Item} {cs:List Frame} {ρs:Rho} {Us:Top} {ts0:List SVal} (hO:qcc all ts0=true)
  (next : ∀ ρ U ts h a w,(∀ id,Us id->U id/\ρ id=ρs id)->(∀ id,U id->Us id\/(base<=id/\id<base+8*all.length))->Rel E ρ H ts h U a w->K ts h->G (lone (b.atR a (.inRegion all.toArray [] :: r)) cs w)) :
  ∀ (fuel t:Nat) (listed:Array Bool),listed.size=all.length->Down all listed->(rem all.length listed).length<=fuel -> ∀ (ρ:Rho) (U:Top) ts h a w,(∀ id,Us id->U id/\ρ id=ρs id) ->
   (∀ id,U id->Us id\/(base<=id/\id<base+8*all.length))->(∀ j ∈ rem all.length listed,∀ id,own base j id -> ¬ U id)->(∀ j,∀ id,own base j id -> ¬ Us id)->Rel E ρ H ts h U a w->Keep all ts0 ts->qca E all base (rem all.length listed) K ts h ->
   G (lone (b.atR a (.inRegion all.toArray (Region.linearise.go .any all.toArray fuel t listed []) :: r)) cs w):=by
 obtain⟨hback,hpair⟩:=qo8 hO
 obtain⟨hanc,hancl⟩:=qjY (all:=all) all [] [] rfl rfl (fun m hm=>by simp at hm)
 have hready : ∀ listed:Array Bool,Down all listed->Region.ready .any all.toArray listed=[]->rem all.length listed=[]:=by
  intro listed hD he
  cases hr:rem all.length listed with
  | nil=>rfl
  | cons j l =>
    exfalso
    have hj:=mem_rem.1 (show j ∈ rem all.length listed by rw[hr];exact List.mem_cons_self ..)
    have hmin : ∀ x ∈ rem all.length listed,j<=x:=by
      intro x hx
      have hs:=qkA all.length listed
      rw[hr]at hs hx
      rcases List.mem_cons.1 hx with rfl|hx
      · exact Nat.le_refl _
      · exact Nat.le_of_lt ((List.pairwise_cons.1 hs).1 x hx)
    have:j ∈ Region.ready .any all.toArray listed:=by
      unfold Region.ready
      rw[List.mem_filter]
      refine⟨by simpa using hj.1,?_⟩
      have hp:(all.toArray)[j]?=some all[j]:=by simp[hj.1]
      simp only[hj.2,Bool.not_false,Bool.true_and,hp,Option.map_some,Option.getD_some]
      rw[<- Array.all_toList,List.all_eq_true]
      intro e he'
      cases hb:Region.binds .any e with
      | false=>rfl
      | true =>
        have hlt:=hback j all[j] (by simp[hj.1]) e he' hb
        simp only[Bool.not_true,Bool.false_or]
        cases hl:listed.getD e.on true with
        | true =>
          by_cases hsz:e.on<listed.size
          · simpa[hsz]using hl
          · exfalso
            have hl2:listed.getD j true=false:=hj.2
            have:listed.getD j true=true:=by
              rw[Array.getD_eq_getD_getElem?,Array.getElem?_eq_none (by omega)];rfl
            rw[this]at hl2
            cases hl2
        | false =>
          have:=hmin e.on (mem_rem.2 ⟨by omega,hl⟩)
          omega
    rw[he]at this
    cases this
 intro fuel
 induction fuel with
 | zero =>
   intro t listed hsz hD hlen ρ U ts h a w e1 e2 hf hfs R hk hT
   have:rem all.length listed=[]:=List.eq_nil_of_length_eq_zero (by omega)
   rw[this]at hT
   exact next ρ U ts h a w e1 e2 R hT
 | succ fuel ih =>
   intro t listed hsz hD hlen ρ U ts h a w e1 e2 hf hfs R hk hT
   simp only[Region.linearise.go]
   change G (lone (b.atR a (.inRegion all.toArray (match (Region.ready .any all.toArray listed)[t % (Region.ready .any all.toArray listed).length]? with
     | some i=>Region.linearise.go .any all.toArray fuel (t / (Region.ready .any all.toArray listed).length) (listed.setIfInBounds i true) [i]
     | none=>[].reverse) :: r)) cs w)
   cases hi:(Region.ready .any all.toArray listed)[t % (Region.ready .any all.toArray listed).length]? with
   | none =>
     have hnil:Region.ready .any all.toArray listed=[]:=by
       cases hr:Region.ready .any all.toArray listed with
       | nil=>rfl
       | cons x xs =>
         rw[hr]at hi
         have hlt:t % (x :: xs).length<(x :: xs).length:=Nat.mod_lt _ (by simp)
         rw[List.getElem?_eq_getElem hlt]at hi
         cases hi
     rw[hready listed hD hnil]at hT
     exact next ρ U ts h a w e1 e2 R hT
   | some i =>
     simp only[]
     rw[linearise_go_acc,List.reverse_singleton,List.singleton_append]
     obtain⟨hil,hiu,p,hp,hpa⟩:=qoL (List.mem_of_getElem? hi)
     have hmem:i ∈ rem all.length listed:=mem_rem.2 ⟨hil,hiu⟩
     obtain⟨R1,R2,hR⟩:=List.append_of_mem hmem
     have hnd:=qo6 all.length listed
     have hso:=qkA all.length listed
     rw[hR]at hnd hso hT
     have hin : ∀ x ∈ R1,x<i:=fun x hx=>(List.pairwise_append.1 hso).2.2 x hx i (List.mem_cons_self ..)
     have hrem : ∀ x ∈ R1++i :: R2,x ∈ rem all.length listed:=fun x hx=>by rw[hR];exact hx
     have hb:=qjV hE.toEnvIds' hp R2 R1 R.wf hk (fun q hq=>by
         refine⟨Nat.ne_of_lt (hin q hq),?_⟩
         rcases hpair i q hil (hin q hq)with hq'|⟨o,p',ho,hp',hs⟩
         · exfalso
           have:=qoK hanc hD i (by rw[hancl];exact hil) hq' (fun o ho e he hb=>by
             rw[hp]at ho
             cases ho
             exact hpa e he hb)
           have h2:=(mem_rem.1 (hrem q (List.mem_append_left _ hq))).2
           have:listed.getD q true=true:=by
             by_cases hsz':q<listed.size
             · simpa[hsz']using this
             · rw[Array.getD_eq_getD_getElem?,Array.getElem?_eq_none (by omega)];rfl
           rw[this]at h2
           cases h2
         · rw[hp]at hp'
           cases hp'
           exact⟨o,ho,hs⟩)
       (List.nodup_append.1 hnd).1
       (fun q hq id hid=>hf q (by
         rcases List.mem_cons.1 hq with rfl|hq
         · exact hmem
         · exact hrem q (List.mem_append_left _ hq)) id hid) hT
     obtain⟨ρ',ts',h',a',w',hst,hρ',R',hK⟩:=qkl (b:=b) (k:=r) (cs:=cs) (rest:=Region.linearise.go .any all.toArray fuel (t / (Region.ready .any all.toArray listed).length) (listed.setIfInBounds i true) []) hE R hp (hf i hmem) (qpa hk hb)
     refine hG _ _ hst ?_
     have hrs:rem all.length (listed.setIfInBounds i true)=R1++R2:=by
       rw[qo7 (by omega),hR,List.filter_append,List.filter_cons]
       have n1 : ∀ x ∈ R1,(x != i)=true:=fun x hx=>by
         have:=hin x hx
         simp;omega
       have n2 : ∀ x ∈ R2,(x != i)=true:=fun x hx=>by
         have:=(List.pairwise_cons.1 (List.pairwise_append.1 hso).2.1).1 x hx
         simp;omega
       rw[List.filter_eq_self.2 n1,List.filter_eq_self.2 n2]
       simp
     refine ih _ _ (by simpa using hsz) ?_ ?_ ρ' _ ts' h' a' w' (fun id hid => ?_) (fun id hid => ?_) (fun j hj id hid => ?_) hfs R' hK.1 (by rw[hrs];exact hK.2)
     · intro m o hm ho e he hb'
       have key : ∀ x,listed.getD x false=true->(listed.setIfInBounds i true).getD x false=true:=by
         intro x hx
         by_cases e:i=x
         · subst e
           simp[Array.getElem?_setIfInBounds]
           rw[if_pos (by omega)];rfl
         · simpa[Array.getElem?_setIfInBounds,e]using hx
       by_cases e1:i=m
       · subst e1
         rw[hp]at ho
         cases ho
         exact key _ (hpa e he hb')
       · refine key _ (hD m o ?_ ho e he hb')
         simpa[Array.getElem?_setIfInBounds,e1]using hm
     · rw[hrs]
       rw[hR]at hlen
       simp at hlen ⊢
       omega
     · have:=e1 id hid
       refine⟨.inl this.1,?_⟩
       rw[hρ' id (fun q=>hfs i id q hid)]
       exact this.2
     · rcases hid with hid|hid
       · exact e2 id hid
       · unfold own at hid
         exact .inr (by omega)
     · rw[hrs]at hj
       have hj':j ∈ rem all.length listed/\j ≠ i:=by
         rcases List.mem_append.1 hj with hq|hq
         · exact⟨hrem j (List.mem_append_left _ hq),Nat.ne_of_lt (hin j hq)⟩
         · refine⟨hrem j (List.mem_append_right _ (List.mem_cons_of_mem _ hq)),?_⟩
           have:=(List.pairwise_cons.1 (List.pairwise_append.1 hso).2.1).1 j hq
           omega
       rintro (hu|hu)
       · exact hf j hj'.1 id hid hu
       · have:=hj'.2
         unfold own at hid hu
         omega
end
end Go.Sx
end
