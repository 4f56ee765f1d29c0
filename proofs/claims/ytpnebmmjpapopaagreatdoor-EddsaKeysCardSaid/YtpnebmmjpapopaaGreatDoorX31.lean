/-
  Part of the proof of a statement: the means.
-/
import Derived.Test.YtpnebmmjpapopaaGreatDoorX3
import Derived.Scope
import Derived.Laws.Bits64
set_option linter.unusedSectionVars false
set_option linter.unusedVariables false
set_option linter.unusedSimpArgs false
set_option linter.deprecated false
section
namespace Go.Sx
section
variable {P:Program} {E:Env} {Q:SVal->Heap->Nat->Prop} {rs:List ResultVar} {G:Machine->Prop}
def qaC (P:Program) (E:Env):Prop :=∀ g fn,E.inl g=some fn->P.funcs[g]?=some fn /\ ∀ c,fn.body=some c->qx c=true
theorem qkB {l m:List SVal} : ∀ {i:Nat},i<l.length->getT (l++m) i=getT l i:=by
 induction l with
 | nil=>intro i h;simp at h
 | cons s l ih =>
   intro i h
   cases i with
   | zero=>rfl
   | succ i=>simp only[List.cons_append,getT];exact ih (by simpa using h)
theorem qkC {l m:List SVal} : ∀ {i:Nat},l.length<=i->getT (l++m) i=getT m (i-l.length):=by
 induction l with
 | nil=>intro i h;simp
 | cons s l ih =>
   intro i h
   cases i with
   | zero=>simp at h
   | succ i=>simp only[List.cons_append,getT];rw[ih (by simpa using h)];simp
theorem qhw : ∀ (n i:Nat),getT (List.replicate n .junk) i = .junk
 | 0,i=>by simp[getT]
 | n+1,0=>by simp[List.replicate,getT]
 | n+1,i+1=>by simp only[List.replicate,getT];exact qhw n i
theorem RepV.get {ρ:Rho} {H:Snap} : ∀ {l:List SVal} {vs:List Value},RepV ρ H l vs->l.length=vs.length /\ ∀ i,i<l.length->Den ρ H (getT l i) (vs.getD i undef)
 | [],vs,h=>by
   simp only[RepV]at h
   subst h
   exact⟨rfl,fun i hi=>by simp at hi⟩
 | s :: l,vs,h=>by
   obtain⟨v,ws,rfl,h1,h2⟩:=RepV_cons.1 h
   obtain⟨h3,h4⟩:=RepV.get h2
   refine⟨by simp[h3],fun i hi => ?_⟩
   cases i with
   | zero=>exact h1
   | succ i=>simpa[getT]using h4 i (by simpa using hi)
theorem qeZ {ρ:Rho} {H:Snap} {args:List SVal} {vs:List Value} {h:Heap} {U:Top} {w:World} (ha:RepV ρ H args vs) (hi:IdsLtL U args) (hh : ∀ id c,(id,c) ∈ h->U id/\IdsLt U c) (hA:Agree H w) (hH:qdl ρ H w h)
  (hg : ∀ g,Den ρ H (E.glob g) (.pointer (some ⟨g,0,none⟩))/\IdsLt noId (E.glob g)) (hs:Same H.w0 w) (hd:H.defs=[]) (n:Nat) :
  Rel E ρ H (args++List.replicate (n-args.length) .junk) h U { tmps:=vs.toArray++Array.replicate (n-vs.toArray.size) undef,defers:=[] } w:=by
 obtain⟨hl,hget⟩:=RepV.get ha
 refine⟨by simp[hl],fun i => ?_,fun i => ?_,hh,hA,hH,hd.symm,hg,hs⟩
 ·by_cases hi':i<args.length
  ·rw[qkB hi']
   have:=hget i hi'
   have e:(vs.toArray++Array.replicate (n-vs.toArray.size) undef).getD i undef=vs.getD i undef:=by
    rw[Array.getD_eq_getD_getElem?,Array.getElem?_append_left (by simp;omega)]
    simp[List.getD]
   rw[e]
   exact this
  ·rw[qkC (by omega),qhw];trivial
 ·by_cases hi':i<args.length
  ·rw[qkB hi'];exact qdm _ _ hi
  ·rw[qkC (by omega),qhw];trivial
theorem qkD (hE:EnvG P E) {base:Nat} {all:List Oper} {k:List It} {top:Nat} : ∀ (n i:Nat) {ts:List SVal} {h:Heap},ex P E Q rs n (.ops true base i all (all.drop i) :: k) ts h top ->
  qca E all base (List.range' i (all.length-i)) (fun ts' h' =>∃ m,m<n/\ex P E Q rs m k ts' h' top) ts h
 | 0,i,ts,h,hx=>by simp only[ex]at hx
 | n+1,i,ts,h,hx=>by
   by_cases hi:i<all.length
   · have hd:all.drop i=all[i] :: all.drop (i+1):=List.drop_eq_getElem_cons hi
     rw[hd]at hx
     rw[show all.length-i=(all.length-(i+1))+1 by omega,List.range'_succ]
     rcases ex_T hE (show all[i]?=some all[i]by simp[hi]) hx with hT|⟨hd,_⟩|⟨hd,_⟩|⟨hd,_⟩
     · refine qku hT fun ts' h' hK => ?_
       have hf:=qkD hE n (i+1) hK
       have mono : ∀ (L:List Nat) {K K':Kt} {ts h},(∀ ts h,K ts h->K' ts h)->qca E all base L K ts h->qca E all base L K' ts h:=by
         intro L
         induction L with
         | nil=>intro K K' ts h hh hf;exact hh _ _ hf
         | cons j L ih=>intro K K' ts h hh hf;exact qku hf fun ts' h'=>ih hh
       exact mono _ (fun ts h ⟨m,hm,hx⟩=>⟨m,by omega,hx⟩) hf
     · cases hd
     · cases hd
     · cases hd
   · rw[List.drop_eq_nil_of_le (by omega)]at hx
     rw[show all.length-i=0 by omega]
     simp only[ex]at hx
     exact⟨n,by omega,hx⟩
theorem Lays.toRng {H:Snap} {id:Nat} {ts':List SVal} {ps:List Nat} {as body:Code} : ∀ {k:List It} {ρ:Rho} {U:Top} {t:Nat} {b:Frame} {items:List Item} {cs:List Frame},toRng k=some (id,ts',ps,as,body)->Lays P E Q rs G k H ρ U t b items cs ->
  U id /\ ∃ rec,H (ρ id).b=some (.loop rec)/\rec.state = .ready/\rec.pending=none/\H.defs=[]/\rec.params=ps.toArray/\rec.assign=as/\rec.body=body /\
   ts'.length<=rec.tmps.size/\(∀ j,Den ρ H (getT ts' j) (rec.tmps.getD j undef))/\(∀ j,IdsLt U (getT ts' j))
 | [],ρ,U,t,b,items,cs,hp,h=>by simp[Sx.toRng]at hp
 | .code c :: k,ρ,U,t,b,items,cs,hp,h=>by
   obtain⟨r,rfl,h⟩:=h
   exact Lays.toRng (k:=k) hp h
 | .again c :: k,ρ,U,t,b,items,cs,hp,h=>by
   obtain⟨r,rfl,h⟩:=h
   exact Lays.toRng (k:=k) hp h
 | .blk c :: k,ρ,U,t,b,items,cs,hp,h=>by
   obtain⟨r,rfl,h⟩:=h
   exact Lays.toRng (k:=k) hp h
 | .scp c :: k,ρ,U,t,b,items,cs,hp,h=>by
   obtain⟨r,rfl,h⟩:=h
   exact Lays.toRng (k:=k) hp h
 | .back J :: k,ρ,U,t,b,items,cs,hp,h=>by
   obtain⟨r,c,rfl,h,_⟩:=h
   exact Lays.toRng (k:=k) hp h
 | .sback l J :: k,ρ,U,t,b,items,cs,hp,h=>by
   obtain⟨r,c,y,rfl,_,h,_⟩:=h
   exact Lays.toRng (k:=k) hp h
 | .ops dr base i all l :: k,ρ,U,t,b,items,cs,hp,h=>by
   obtain⟨r,rfl,_,hb,_,h⟩:=h
   exact Lays.toRng (k:=k) hp h
 | .frame .. :: k,ρ,U,t,b,items,cs,hp,h=>by simp[Sx.toRng]at hp
 | .rnd .. :: k,ρ,U,t,b,items,cs,hp,h=>by simp[Sx.toRng]at hp
 | .bgn _ :: k,ρ,U,t,b,items,cs,hp,h=>by simp[Sx.toRng]at hp
 | .rng id' ts2 ps2 as2 body2 :: k,ρ,U,t,b,items,cs,hp,h=>by
   simp only[Sx.toRng,Option.some.injEq,Prod.mk.injEq]at hp
   obtain⟨rfl,rfl,rfl,rfl,rfl⟩:=hp
   obtain⟨_,_,_,_,hU,H0,rec,b',a',cs',r,rfl,p1,p2,p3,p4,p5,p6,p7,p8,e2,hd,hl,hden,hid,h⟩:=h
   refine⟨hU,rec,by simp[Snap.bare,Snap.with],p2,p3,rfl,p6,p7,p8,by rw[p5];exact hl,fun j => ?_,hid⟩
   rw[p5]
   exact Den.extR (H:=H0) (H':=(H0.with (ρ id').b (.loop rec)).bare) (t:=U) (fun _ _=>rfl) (fun b o v hv=>qeX (H:=H0) (l:=(ρ id').b) (rec:=rec) (by intro c t x;rw[p1];simp) hv) (hid j) (hden j)
theorem Lays.base_none {H:Snap} : ∀ {k:List It} {ρ:Rho} {U:Top} {t:Nat} {b:Frame} {items:List Item} {cs:List Frame},qcB k=true->Lays P E Q rs G k H ρ U t b items cs->b.roundOf=none
 | [],ρ,U,t,b,items,cs,hp,h=>h.2.1
 | .code c :: k,ρ,U,t,b,items,cs,hp,h=>by
   obtain⟨r,rfl,h⟩:=h
   exact Lays.base_none (k:=k) hp h
 | .again c :: k,ρ,U,t,b,items,cs,hp,h=>by
   obtain⟨r,rfl,h⟩:=h
   exact Lays.base_none (k:=k) hp h
 | .blk c :: k,ρ,U,t,b,items,cs,hp,h=>by
   obtain⟨r,rfl,h⟩:=h
   exact Lays.base_none (k:=k) hp h
 | .scp c :: k,ρ,U,t,b,items,cs,hp,h=>by
   obtain⟨r,rfl,h⟩:=h
   exact Lays.base_none (k:=k) hp h
 | .back J :: k,ρ,U,t,b,items,cs,hp,h=>by
   obtain⟨r,c,rfl,h,_⟩:=h
   exact Lays.base_none (k:=k) hp h
 | .sback l J :: k,ρ,U,t,b,items,cs,hp,h=>by
   obtain⟨r,c,y,rfl,_,h,_⟩:=h
   exact Lays.base_none (k:=k) hp h
 | .ops dr base i all l :: k,ρ,U,t,b,items,cs,hp,h=>by
   obtain⟨r,rfl,_,hb,_,h⟩:=h
   exact Lays.base_none (k:=k) hp h
 | .frame .. :: k,ρ,U,t,b,items,cs,hp,h=>by cases hp
 | .rng .. :: k,ρ,U,t,b,items,cs,hp,h=>by cases hp
 | .rnd .. :: k,ρ,U,t,b,items,cs,hp,h=>by cases hp
 | .bgn _ :: k,ρ,U,t,b,items,cs,hp,h=>by cases hp
theorem qkE {id:Nat} {ts':List SVal} {ps:List Nat} {as body:Code} : ∀ {k:List It},toRng k=some (id,ts',ps,as,body)->(∀ x ∈ k,ItOk x)->qx as=true/\qx body=true
 | [],hp,h=>by simp[Sx.toRng]at hp
 | it :: k,hp,h=>by
   have ih:=fun(hp:Sx.toRng k=some (id,ts',ps,as,body))=>qkE (k:=k) hp fun x hx=>h x (List.mem_cons_of_mem _ hx)
   cases it<;>simp only[Sx.toRng,Option.some.injEq,Prod.mk.injEq,reduceCtorEq]at hp<;>first
     | exact ih hp
     | (obtain⟨rfl,rfl,rfl,rfl,rfl⟩:=hp;exact h _ (List.mem_cons_self ..))
theorem qkF {ρ:Rho} {H:Snap} {h:Heap} {U:Top} {w:World} : ∀ (ps:List Nat) (args:List SVal) {vs:List Value} {ts ts2:List SVal} {a:Act},qbG ts ps args=some ts2->RepV ρ H args vs->IdsLtL U args->Rel E ρ H ts h U a w ->
  ps.length=vs.length/\Rel E ρ H ts2 h U { a with tmps:=(ps.zip vs).foldl (fun tmps x=>tmps.setIfInBounds x.1 x.2) a.tmps } w
 | [],[],vs,ts,ts2,a,hp,hr,hi,R=>by
   simp only[qbG,Option.some.injEq]at hp
   simp only[RepV]at hr
   subst hp;subst hr
   exact⟨rfl,R⟩
 | [],_ :: _,vs,ts,ts2,a,hp,hr,hi,R=>by simp[qbG]at hp
 | _ :: _,[],vs,ts,ts2,a,hp,hr,hi,R=>by simp[qbG]at hp
 | t :: ps,s :: args,vs,ts,ts2,a,hp,hr,hi,R=>by
   obtain⟨v,ws,rfl,h1,h2⟩:=RepV_cons.1 hr
   simp only[qbG]at hp
   obtain⟨q1,q2⟩:=qkF ps args hp h2 hi.2 (R.set (some t) h1 hi.1)
   exact⟨by simp[q1],q2⟩
theorem qpc {b:Frame} {a:Act} {k:List Item} {cs:List Frame} {w:World} {ops:Array Oper} {i:Nat} {rest:List Nat} {o:Oper} {l:Nat} {f:FuncId} {tmps:Array Value} {x y:Code} {w':World} (ho:ops[i]?=some o) (hw:Region.wanted o (yielded ops a.tmps)=true) (hr:(execOp a.eval o).run P w = .ok (.round l f tmps x y) w') :
  step P (lone (b.atR a (.inRegion ops (i :: rest) :: k)) cs w) = .next (lone (Frame.round l f tmps x y .normal) (b.atR a (.inRegion ops (i :: rest) :: k) :: cs) w'):=by
 have hg:=stepGR_op (P:=P) (b:=b) (k:=k) (cs:=cs) (w:=w) (rest:=rest) ho hw
 exact step_lone_go (by rw[hg];simp[stepG.apply,qeT hr (by intro d h;cases h),Frame.atR])
theorem qpd {ρ:Rho} {H:Snap} {ts:List SVal} {h:Heap} {U:Top} {a:Act} {w:World} (R:Rel E ρ H ts h U a w) (rec:Loop) :
  H w.heap.size=none/\H (w.heap.size+1)=none/\Rel E ρ (H.marked w.heap.size) ts h U { a with defers := { target :=.collected w.heap.size,args := #[] } :: a.defers } (w.alloc (.deferred (some []))) /\
  Rel E ρ ((H.marked w.heap.size).with (w.heap.size+1) (.loop rec)).bare ts h U { a with defers:=[] } ((w.alloc (.deferred (some []))).alloc (.loop rec)):=by
 have hb : ∀ b,w.heap.size<=b->H b=none:=by
  intro b hb
  cases hh:H b with
  | none=>rfl
  | some o =>
    have:=(Array.getElem?_eq_some_iff.1 (R.agree b o hh)).1
    omega
 have old : ∀ (w:World) (o:Obj) b,b<w.heap.size->(w.alloc o).heap[b]?=w.heap[b]?:=by
  intro w o b hb
  show(w.heap.push o)[b]?=_
  rw[Array.getElem?_push_lt hb]
  exact(Array.getElem?_eq_getElem hb).symm
 have sz : ∀ (w:World) (o:Obj),(w.alloc o).heap.size=w.heap.size+1:=fun w o=>World.size_alloc ..
 have same : ∀ (w:World) (o:Obj),Same w (w.alloc o):=fun w o=>⟨rfl,rfl,rfl,by rw[sz];omega⟩
 have R1:Rel E ρ (H.marked w.heap.size) ts h U { a with defers := { target :=.collected w.heap.size,args := #[] } :: a.defers } (w.alloc (.deferred (some []))):=by
  refine R.conv (fun b o v hv => ?_) (fun b o hb' => ?_) (fun b c t x hc hb' => ?_) (R.same.trans (same _ _)) (by simp only[Snap.marked];rw[R.defers]) rfl
  ·unfold qu at hv
   unfold qu Snap.marked
   dsimp only
   by_cases e:b=w.heap.size
   ·rw[e,hb _ (Nat.le_refl _)]at hv;cases hv
   ·rw[if_neg e];exact hv
  ·simp only[Snap.marked]at hb'
   by_cases e:b=w.heap.size
   ·rw[if_pos e]at hb'
    rw[e,World.alloc_heap_new];exact hb'
   ·rw[if_neg e]at hb'
    rw[old _ _ _ (Array.getElem?_eq_some_iff.1 (R.agree b o hb')).1]
    exact R.agree b o hb'
  ·have hlt:=(Array.getElem?_eq_some_iff.1 hc).1
   refine⟨?_,old _ _ _ hlt⟩
   simp only[Snap.marked]
   rw[if_neg (by omega)]
   exact hb'
 refine⟨hb _ (Nat.le_refl _),hb _ (by omega),R1,?_⟩
 have hn:H.marked w.heap.size (w.heap.size+1)=none:=by
  simp only[Snap.marked]
  rw[if_neg (by omega)]
  exact hb _ (by omega)
 refine R1.conv (fun b o v hv=>qeX (H:=H.marked w.heap.size) (l:=w.heap.size+1) (rec:=rec) (by intro c t x;rw[hn];simp) hv) (fun b o hb' => ?_) (fun b c t x hc hb' => ?_) (R1.same.trans (same _ _)) rfl rfl
 ·simp only[Snap.bare,Snap.with]at hb'
  by_cases e:b=w.heap.size+1
  ·rw[if_pos e]at hb'
   have:=World.alloc_heap_new (w.alloc (.deferred (some []))) (.loop rec)
   rw[sz]at this
   rw[e,this];exact hb'
  ·rw[if_neg e]at hb'
   rw[old _ _ _ (Array.getElem?_eq_some_iff.1 (R1.agree b o hb')).1]
   exact R1.agree b o hb'
 ·have hlt:=(Array.getElem?_eq_some_iff.1 hc).1
  have hlt':=hlt
  rw[sz]at hlt'
  refine⟨?_,old _ _ _ hlt⟩
  simp only[Snap.bare,Snap.with]
  rw[if_neg (by omega)]
  exact hb'
theorem qpe {b:Frame} {a:Act} {k:List Item} {cs:List Frame} {w:World} {c:Code}:step P (lone (b.atR a (.code (.scope c) :: k)) cs w) = .next (lone (b.atR a (.code c :: .inScope c :: k)) cs w) :=
 step_lone_go (by simp[stepG,stepG.exec,Frame.atR])
theorem qkG {b:Frame} {a:Act} {k:List Item} {cs:List Frame} {w:World} {c:Code}:step P (lone (b.atR a (.inScope c :: k)) cs w) = .next (lone (b.atR a k) cs w) :=
 step_lone_go (by simp[stepG,stepG.exec,Frame.atR])
variable (hE:EnvG P E) (hI:qaC P E) (hm:P.follows .mixedOrders=true) (hG : ∀ m m',Steps P m m'->G m'->G m)
include hE hI hm hG
theorem qe0 : ∀ (n:Nat) (k:List It) (ts:List SVal) (h:Heap) (top:Nat),ex P E Q rs n k ts h top->(∀ x ∈ k,ItOk x) -> ∀ (H:Snap) (ρ:Rho) (U:Top) a w b items cs,Rel E ρ H ts h U a w->(∀ id,U id->id<top) ->
  Lays P E Q rs G k H ρ U top b items cs->G (lone (b.atR a items) cs w):=by
 intro n
 induction n using Nat.strongRecOn with
 | _ n ih =>
 cases n with
 | zero=>intro k ts h top hx;simp only[ex]at hx
 | succ n =>
 intro k ts h top hx hok H ρ U a w b items cs R hU hL
 have ih1:=ih n (Nat.lt_succ_self n)
 have self : ∀ id,U id->U id/\ρ id=ρ id:=fun id hid=>⟨hid,rfl⟩
 have okt : ∀ {x:It} {k:List It},(∀ y ∈ x :: k,ItOk y) -> ∀ y ∈ k,ItOk y:=fun h y hy=>h y (List.mem_cons_of_mem _ hy)
 cases k with
 | nil =>
   obtain⟨rfl,hro,hB⟩:=hL
   simp only[ex]at hx
   split at hx<;>try (exact hx.elim)
   rename_i hr
   exact hG _ _ (.one (stepR_end hro)) (hB H ρ U top ts h a w [] (.refl H) self (fun id hid =>.inl hid) hU R hr hx)
 | cons it k =>
 have hok':=okt hok
 cases it with
 | blk id =>
   obtain⟨r,rfl,hL⟩:=hL
   simp only[ex]at hx
   exact hG _ _ (.one stepR_inBlock) (ih1 k ts h top hx hok' H ρ U a w b r cs R hU hL)
 | scp c =>
   obtain⟨r,rfl,hL⟩:=hL
   simp only[ex]at hx
   exact hG _ _ (.one qkG) (ih1 k ts h top hx hok' H ρ U a w b r cs R hU hL)
 | back J =>
   obtain⟨r,c,rfl,hL,hJ⟩:=hL
   simp only[ex]at hx
   exact hJ H ρ U top ts h a w (.inl rfl) self (fun id hid =>.inl hid) hU R hx
 | sback l J =>
   obtain⟨r,c,y,rfl,_,hL,_⟩:=hL
   simp only[ex]at hx
   exact hG _ _ (.one qkG) (ih1 k ts h top hx hok' H ρ U a w b r cs R hU hL)
 | again c =>
   obtain⟨r,rfl,hL⟩:=hL
   simp only[ex]at hx
   have hc:=hok (.again c) (List.mem_cons_self ..)
   exact hG _ _ (.one stepR_inLoop) (hx.run hc hok' G hG H ρ U a w b r cs R hU hL)
 | frame ts' d rs' g =>
   obtain⟨rfl,hF⟩:=hL
   simp only[ex]at hx
   split at hx<;>try (exact hx.elim)
   rename_i hr
   refine hG _ _ (.one (stepR_end hF.1)) (qky hE hG hF R hr hx fun v H' b' items' cs' a' w' hv R' hL' => ?_)
   exact ih1 k _ h top hv hok' H' ρ U a' w' b' items' cs' R' hU hL'
 | rng id ts' ps as body =>
   simp only[ex]at hx
   obtain⟨rfl,hro,h2,h3,_,H0,rec,b',a',cs',r,eH,p1,p2,p3,_,_,_,_,_,e2,hd,hl,hden,hid,h⟩:=hL
   have hF:qhv P E Q rs G H ts' k ρ U top b cs:=⟨hro,h2,h3,H0,_,rec,b',a',cs',r,eH,p1,p2,p3,e2,hd,hl,hden,hid,h⟩
   exact hG _ _ (.one (stepR_end hro)) (qkz hE hG hF R fun H' b' items' cs' a' w' R' hL'=>ih1 k ts' _ top hx hok' H' ρ U a' w' b' items' cs' R' hU hL')
 | rnd id ts' d =>
   simp only[ex]at hx
   exact qo4 hE hG hL R fun H' b' items' cs' a' w' R' hL'=>ih1 k _ h top hx hok' H' ρ U a' w' b' items' cs' R' hU hL'
 | bgn id =>
   simp only[ex]at hx
   exact qo5 hE hG hL R fun H' items' w' R' hL'=>ih1 k ts h top hx hok' H' ρ U a w' b items' cs R' hU hL'
 | ops dr base i all l =>
   obtain⟨r,rfl,hl,hb,hf,hL⟩:=hL
   cases l with
   | nil =>
     simp only[ex]at hx
     exact hG _ _ (.one stepR_region_end) (ih1 k ts h top hx hok' H ρ U a w b r cs R hU (hL.mono self (fun id hid =>.inl hid) hb))
   | cons o l =>
     have hil:i<all.length:=by
       by_cases hil:i<all.length
       · exact hil
       · rw[List.drop_eq_nil_of_le (by omega)]at hl;cases hl
     rw[List.drop_eq_getElem_cons hil]at hl
     simp only[List.cons.injEq]at hl
     obtain⟨ho,hl⟩:=hl
     have ho':all[i]?=some o:=by rw[ho];simp[hil]
     have hrange:List.range' i (o :: l).length=i :: List.range' (i+1) l.length:=by
       rw[List.length_cons,List.range'_succ]
     rw[hrange]
     have hrest : ∀ (ρ':Rho) (V:Top),(∀ id,U id->V id/\ρ' id=ρ id)->(∀ id,V id->U id\/own base i id)->Lays P E Q rs G (.ops dr base (i+1) all l :: k) H ρ' V top b (.inRegion all.toArray (List.range' (i+1) l.length) :: r) cs:=by
       intro ρ' V h1 h2
       refine⟨r,rfl,hl,hb,fun j hj1 hj2 id hid=>⟨fun hv => ?_,(hf j (by omega) hj2 id hid).2⟩,hL.mono h1 (fun id hid => ?_) (Nat.le_refl _)⟩
       · rcases h2 id hv with q|q
         · exact(hf j (by omega) hj2 id hid).1 q
         · unfold own at hid q;omega
       · rcases h2 id hid with q|q
         · exact .inl q
         · unfold own at q;exact .inr (by omega)
     have hfi : ∀ id,own base i id -> ¬ U id:=fun id hid=>(hf i (Nat.le_refl _) hil id hid).1
     rcases ex_T hE ho' hx with hT|⟨_,hg,f,args,fn,c,hs,hfn,hc,hx'⟩|⟨_,hg,id,args,ts',ps,as,body,ts2,hs,hr,hpa,hx'⟩|⟨_,hg,f,ms,id,rest,l2,d,ids,hs,hM,hl2,hd,hu,hap,hp1,hp2,hpre,hx'⟩
     · obtain⟨ρ',ts',h',a',w',hst,hρ',R',hK⟩:=qkl (b:=b) (k:=r) (cs:=cs) (rest:=List.range' (i+1) l.length) hE R ho' hfi hT
       refine hG _ _ hst (ih1 _ ts' h' top hK ?_ H ρ' _ a' w' b _ cs R' (fun id hid => ?_) (hrest ρ' _ (fun id hid=>⟨.inl hid,hρ' id fun q=>hfi id q hid⟩) fun id hid=>hid))
       · intro y hy
         rcases List.mem_cons.1 hy with rfl|hy
         · trivial
         · exact hok' y hy
       · rcases hid with hid|hid
         · exact hU id hid
         · exact(hf i (Nat.le_refl _) hil id hid).2
     ·
       obtain⟨hfun,hreg⟩:=hI f fn hfn
       have hout:=qeH hE.toEnvOk hE.call R o
       rw[hs]at hout
       obtain⟨vs,r1,r2,r3⟩:=hout
       have hw:=qcF R hg
       refine hG _ _ (.one (qj8 (by simpa using ho') hw r1)) ?_
       let b':Frame := { (default:Frame)with fn:=f,kind :=.normal }
       have henter:Frame.enter P f vs.toArray .normal=b'.atR { tmps:=vs.toArray++Array.replicate (fn.ntmps-vs.toArray.size) undef,defers:=[] } [.code c]:=by
         simp[Frame.enter,Frame.atR,hfun,hc,b']
         rfl
       rw[henter]
       have Rb:Rel E ρ H.bare ts h U { a with defers:=[] } w:=R.bare rfl rfl
       refine ih1 _ _ h top hx' ?_ H.bare ρ U _ w b' _ _ (qeZ (RepV.extR (H:=H) (H':=H.bare) (t:=U) (fun _ _=>rfl) (fun _ _ _ h=>h) _ r3 r2) r3 Rb.hids Rb.agree Rb.heap Rb.glob Rb.same rfl fn.ntmps) hU ?_
       · intro y hy
         rcases List.mem_cons.1 hy with rfl|hy
         · exact hreg c hc
         · rcases List.mem_cons.1 hy with rfl|hy
           · trivial
           · rcases List.mem_cons.1 hy with rfl|hy
             · trivial
             · exact hok' y hy
       · refine⟨[],rfl,rfl,rfl,rfl,⟨fn,hfun,rfl⟩,H,b,a,cs,all.toArray,i,List.range' (i+1) l.length,r,rfl,rfl,⟨o,by simpa using ho',rfl⟩,R.defers,R.len,R.den,R.ids,hrest ρ U self fun id hid =>.inl hid⟩
     ·
       have hout:=qeH hE.toEnvOk hE.call R o
       rw[hs]at hout
       obtain⟨vs,r1,r2,_,r3,hrun⟩:=hout
       have hw:=qcF R hg
       obtain⟨_,rec,e1,e2,e3,e4,e5,e6,e7,e8,e9,e10⟩:=hL.toRng hr
       obtain⟨okA,okB⟩:=qkE hr hok'
       have hrec:w.heap[(ρ id).b]?=some (.loop rec):=R.agree _ _ e1
       have R0:Rel E ρ H ts' h U { tmps:=rec.tmps,defers:=[] } w:=⟨e8,e9,e10,R.hids,R.agree,R.heap,e4.symm,R.glob,R.same⟩
       obtain⟨q1,R2⟩:=qkF ps args hpa r1 r2 R0
       have hrun':=hrun rec hrec (by rw[e5];simp[q1])
       have efold:(rec.params.zip vs.toArray).foldl (fun tmps (t,a)=>tmps.setIfInBounds t a) rec.tmps=(ps.zip vs).foldl (fun tmps x=>tmps.setIfInBounds x.1 x.2) rec.tmps:=by
         rw[e5];simp
       rw[efold]at hrun'
       refine hG _ _ (.one (qpc (by simpa using ho') hw hrun')) ?_
       let b':Frame := { (default:Frame)with fn:=rec.fn,kind :=.normal,roundOf:=some (ρ id).b }
       have hround:Frame.round (ρ id).b rec.fn ((ps.zip vs).foldl (fun tmps x=>tmps.setIfInBounds x.1 x.2) rec.tmps) rec.assign rec.body .normal =
           b'.atR { tmps:=(ps.zip vs).foldl (fun tmps x=>tmps.setIfInBounds x.1 x.2) rec.tmps,defers:=[] } [.code as,.beginRound,.code body]:=by
         simp[Frame.round,Frame.atR,b',e6,e7]
       rw[hround]
       refine ih1 _ _ h top hx' ?_ H ρ U _ w b' _ _ R2 hU ?_
       · intro y hy
         rcases List.mem_cons.1 hy with rfl|hy
         · exact okA
         · rcases List.mem_cons.1 hy with rfl|hy
           · trivial
           · rcases List.mem_cons.1 hy with rfl|hy
             · exact okB
             · rcases List.mem_cons.1 hy with rfl|hy
               · trivial
               · rcases List.mem_cons.1 hy with rfl|hy
                 · trivial
                 · exact hok' y hy
       · refine⟨_,rfl,_,rec,rfl,rfl,r3,e1,e2,_,rfl,rfl,rfl,rfl,r3,H,rec,b,a,cs,all.toArray,i,List.range' (i+1) l.length,r,?_,e1,e2,e3,rfl,⟨o,by simpa using ho',rfl⟩,R.defers,R.len,R.den,R.ids,hrest ρ U self fun id hid =>.inl hid⟩
         simp only[Snap.with,Snap.bare,e4]
     ·
       obtain⟨x,ρ',w',u,q1,hst,q2,q3,q4,q5⟩:=qo0 (b:=b) (k:=r) (cs:=cs) (rest':=List.range' (i+1) l.length) hE R ho' hfi hg hs hM hl2 hd hu hap hp1 hp2 hpre
       obtain⟨v',k1,k2,k3⟩:=qkw (hx' x q1)
       refine hG _ _ hst (ih1 _ _ _ top k1 ?_ H ρ' _ _ w' b _ cs (q5.set o.dst (k2 q3) (k3 q4)) (fun id hid => ?_) (hrest ρ' _ (fun id hid=>⟨.inl hid,q2 id fun q=>hfi id q hid⟩) fun id hid=>hid))
       · intro y hy
         rcases List.mem_cons.1 hy with rfl|hy
         · trivial
         · exact hok' y hy
       · rcases hid with hid|hid
         · exact hU id hid
         · exact(hf i (Nat.le_refl _) hil id hid).2
 | code c =>
   obtain⟨r,rfl,hL⟩:=hL
   have hc:=hok (.code c) (List.mem_cons_self ..)
   simp only[ItOk]at hc
   cases c with
   | skip =>
     simp only[ex]at hx
     exact hG _ _ (.one stepR_skip) (ih1 k ts h top hx hok' H ρ U a w b r cs R hU hL)
   | label l =>
     refine hG _ _ (.one stepR_label) ?_
     simp only[ex]at hx
     split at hx
     · rename_i y c k'
       split at hx
       · obtain⟨r1,rfl,r2,rfl,hL'⟩:=hL
         exact hx.2.run hx.1 (hok' (.code y) (List.mem_cons_self ..)) (hok' (.scp c) (List.mem_cons_of_mem _ (List.mem_cons_self ..))) (fun x hx=>hok' x (List.mem_cons_of_mem _ (List.mem_cons_of_mem _ hx))) G hG H ρ U a w b r2 cs R hU hL'
       · exact ih1 _ ts h top hx hok' H ρ U a w b r cs R hU hL
     · exact ih1 _ ts h top hx hok' H ρ U a w b r cs R hU hL
   | seq x y =>
     simp only[ex]at hx
     simp only[qx,Bool.and_eq_true]at hc
     refine hG _ _ (.one stepR_seq) (ih1 _ ts h top hx ?_ H ρ U a w b _ cs R hU ⟨_,rfl,_,rfl,hL⟩)
     intro z hz
     rcases List.mem_cons.1 hz with rfl|hz
     · exact hc.1
     · rcases List.mem_cons.1 hz with rfl|hz
       · exact hc.2
       · exact hok' z hz
   | block id x =>
     simp only[ex]at hx
     refine hG _ _ (.one stepR_block) (ih1 _ ts h top hx ?_ H ρ U a w b _ cs R hU ⟨_,rfl,_,rfl,hL⟩)
     intro z hz
     rcases List.mem_cons.1 hz with rfl|hz
     · exact hc
     · rcases List.mem_cons.1 hz with rfl|hz
       · trivial
       · exact hok' z hz
   | scope x =>
     simp only[ex]at hx
     refine hG _ _ (.one qpe) (ih1 _ ts h top hx ?_ H ρ U a w b _ cs R hU ⟨_,rfl,_,rfl,hL⟩)
     intro z hz
     rcases List.mem_cons.1 hz with rfl|hz
     · exact hc
     · rcases List.mem_cons.1 hz with rfl|hz
       · exact hc
       · exact hok' z hz
   | goto l =>
     simp only[ex]at hx
     split at hx
     · rename_i J hp
       obtain⟨y,c,r',h1,h2⟩:=hL.jump hp
       exact hG _ _ (Steps.head (stepR_goto h1) (Steps.head stepR_seq (.one stepR_skip))) (h2 U top ts h a w (fun id hid=>hid) (fun id hid =>.inl hid) hU R hx)
     split at hx<;>try (exact hx.elim)
     rename_i k' hp
     obtain⟨items',h1,h2⟩:=hL.goto hp
     refine hG _ _ (.one (stepR_goto h1)) (ih1 k' ts h top hx ?_ H ρ U a w b items' cs R hU h2)
     have : ∀ (k k':List It),qaH l k=some k'->(∀ y ∈ k,ItOk y) -> ∀ y ∈ k',ItOk y:=by
       intro k
       induction k with
       | nil=>intro k' h;simp[qaH]at h
       | cons z k ihk =>
         intro k' h hk y hy
         have hk' : ∀ y ∈ k,ItOk y:=fun y hy=>hk y (List.mem_cons_of_mem _ hy)
         cases z<;>simp only[qaH]at h
         case scp c =>
           split at h
           · rename_i rest hq
             cases h
             have hcc:=hk (.scp c) (List.mem_cons_self ..)
             rcases List.mem_cons.1 hy with rfl|hy
             · exact qo2 hq hcc
             · rcases List.mem_cons.1 hy with rfl|hy
               · exact hcc
               · exact hk' y hy
           · exact ihk _ h hk' y hy
         case frame=>cases h
         case rng=>cases h
         case rnd=>cases h
         case bgn=>cases h
         case sback=>split at h<;>cases h
         all_goals exact ihk _ h hk' y hy
     exact this k k' hp hok'
   | loop x =>
     simp only[ex]at hx
     exact hG _ _ (.one stepR_loop) (hx.run hc hok' G hG H ρ U a w b r cs R hU hL)
   | exit id =>
     simp only[ex]at hx
     split at hx<;>try (exact hx.elim)
     rename_i k' hp
     obtain⟨items',h1,h2⟩:=hL.exit hp
     refine hG _ _ (.one (stepR_exit h1)) (ih1 k' ts h top hx ?_ H ρ U a w b items' cs R hU h2)
     have : ∀ (k k':List It),qaP id k=some k' -> ∀ y ∈ k',y ∈ k:=by
       intro k
       induction k with
       | nil=>intro k' h;simp[qaP]at h
       | cons z k ihk =>
         intro k' h y hy
         cases z<;>simp only[qaP]at h
         case blk j =>
           split at h
           · cases h;exact List.mem_cons_of_mem _ hy
           · exact List.mem_cons_of_mem _ (ihk _ h y hy)
         case frame=>cases h
         case rng=>cases h
         case rnd=>cases h
         case bgn=>cases h
         all_goals exact List.mem_cons_of_mem _ (ihk _ h y hy)
     exact fun y hy=>hok' y (this k k' hp y hy)
   | rangeFunc f ps as body =>
     simp only[ex]at hx
     simp only[qx,Bool.and_eq_true]at hc
     split at hx<;>try (exact hx.elim)
     rename_i hfl
     split at hx<;>try (exact hx.elim)
     rename_i g first caps hf
     split at hx<;>try (exact hx.elim)
     rename_i fn hfn
     split at hx<;>try (exact hx.elim)
     rename_i c hcb hres
     obtain⟨hfun,hreg⟩:=hI g fn hfn
     have hro:=hL.base_none hfl
     have hd:=R.den1 f
     have hdi:=R.ids1 f
     rw[hf]at hd hdi
     simp only[Den,Rep,List.cons.injEq,and_true]at hd
     obtain⟨fs,cs0,hv,h1,h2⟩:=hd
     have hcall:=hE.call g (.inr (by simp[Env.into,hfn]))
     let rec':Loop := { state :=.ready,pending:=none,fn:=b.fn,tmps:=a.tmps,params:=ps,assign:=as,body,defers:=w.heap.size }
     obtain⟨n1,n2,R1,R2⟩:=qpd R rec'
     have he:=run_enterLoop_outer (P:=P) (w:=w) b.fn a.tmps ps as body
     rw[<- hro]at he
     let yv:Value :=.func (.yield (w.heap.size+1)) #[] #[]
     have hrs:(resolve a.eval (rangeCall f (w.heap.size+1)) 0).run P ((w.alloc (.deferred (some []))).alloc (.loop rec')) =
         .ok { target :=.fn (.func g) cs0.toArray,args:=fs.toArray ++ #[yv] } ((w.alloc (.deferred (some []))).alloc (.loop rec')):=by
       simp only[rangeCall,resolve,hv,Deferred.ofValue]
       rw[Sem.run_pure]
       simp[yv]
       rfl
     have hinv:(invoke (.fn (.func g) cs0.toArray) (fs.toArray ++ #[yv])).run P ((w.alloc (.deferred (some []))).alloc (.loop rec')) =
         .ok (.enter g (fs++(yv :: cs0)).toArray) ((w.alloc (.deferred (some []))).alloc (.loop rec')):=by
       have ea:fs.toArray ++ #[yv]++cs0.toArray=(fs++(yv :: cs0)).toArray:=by
         apply Array.ext'
         simp
       simp only[invoke,ea]
       exact hcall _ _
     refine hG _ _ (.one (stepR_rangeFunc he hrs hinv)) ?_
     let b':Frame := { (default:Frame)with fn:=g,kind :=.normal }
     have henter:Frame.enter P g (fs++(yv :: cs0)).toArray .normal=b'.atR { tmps:=(fs++(yv :: cs0)).toArray++Array.replicate (fn.ntmps-(fs++(yv :: cs0)).toArray.size) undef,defers:=[] } [.code c]:=by
       simp[Frame.enter,Frame.atR,hfun,hcb,b']
       rfl
     rw[henter]
     let ρ':Rho:=fun i=>if i=top then ⟨w.heap.size+1,0,0,true⟩ else ρ i
     have htop : ¬ U top:=fun h=>Nat.lt_irrefl _ (hU top h)
     have hρ : ∀ i,U i->ρ' i=ρ i:=fun i hi=>if_neg (by rintro rfl;exact htop hi)
     have R3:=R2.grow (Same.refl _) (fun b hb=>rfl) (V:=fun i=>i=top) (l:=[]) hρ (by intro p hp;cases hp) (by intro p hp;cases hp) (by intro p hp;cases hp) .nil
     have self' : ∀ id,U id->(both U fun i=>i=top) id/\ρ' id=ρ id:=fun id hid=>⟨.inl hid,hρ id hid⟩
     have hargs:RepV ρ' ((H.marked w.heap.size).with (w.heap.size+1) (.loop rec')).bare (first++(.yld top :: caps)) (fs++(yv :: cs0)):=by
       have hr : ∀ b o v,qu H b o=some v->qu ((H.marked w.heap.size).with (w.heap.size+1) (.loop rec')).bare b o=some v:=by
         intro b o v hv
         refine qeX (H:=H.marked w.heap.size) (l:=w.heap.size+1) (rec:=rec') ?_ ?_
         · intro c t x
           simp only[Snap.marked]
           rw[if_neg (by omega),n2]
           simp
         · unfold qu at hv
           unfold qu Snap.marked
           dsimp only
           by_cases e:b=w.heap.size
           · rw[e,n1]at hv;cases hv
           · rw[if_neg e];exact hv
       have app : ∀ (l1 l2:List SVal) (v1 v2:List Value) {ρ:Rho} {H:Snap},RepV ρ H l1 v1->RepV ρ H l2 v2->RepV ρ H (l1++l2) (v1++v2):=by
         intro l1
         induction l1 with
         | nil=>intro l2 v1 v2 ρ H g1 g2;simp only[RepV]at g1;subst g1;exact g2
         | cons s l ih =>
           intro l2 v1 v2 ρ H g1 g2
           obtain⟨v,ws,rfl,g3,g4⟩:=RepV_cons.1 g1
           exact RepV_cons.2 ⟨v,ws++v2,rfl,g3,ih l2 ws v2 g4 g2⟩
       refine app _ _ _ _ (RepV.extR (t:=U) hρ hr _ hdi.1 h1) (RepV_cons.2 ⟨_,_,rfl,?_,RepV.extR (t:=U) hρ hr _ hdi.2 h2⟩)
       simp[Den,Rep,ρ',yv]
     have hargI:IdsLtL (both U fun i=>i=top) (first++(.yld top :: caps)):=by
       have appI : ∀ (l1 l2:List SVal) {t:Top},IdsLtL t l1->IdsLtL t l2->IdsLtL t (l1++l2):=by
         intro l1
         induction l1 with
         | nil=>intro l2 t _ g2;exact g2
         | cons s l ih=>intro l2 t g1 g2;exact⟨g1.1,ih l2 g1.2 g2⟩
       exact appI _ _ (IdsLtL.mono (fun _ =>.inl) _ hdi.1) ⟨.inr rfl,IdsLtL.mono (fun _ =>.inl) _ hdi.2⟩
     refine ih1 _ _ h (top+8) hx ?_ _ ρ' (both U fun i=>i=top) _ _ b' _ _ (qeZ hargs hargI R3.hids R3.agree R3.heap R3.glob R3.same rfl fn.ntmps) (fun id hid => ?_) ?_
     · intro y hy
       rcases List.mem_cons.1 hy with rfl|hy
       · exact hreg c hcb
       · rcases List.mem_cons.1 hy with rfl|hy
         · exact⟨hc.1,hc.2⟩
         · exact hok' y hy
     · rcases hid with hid|rfl
       · have:=hU id hid;omega
       · omega
     · have eb:(ρ' top).b=w.heap.size+1:=by simp[ρ']
       refine⟨[],rfl,rfl,rfl,rfl,⟨fn,hfun,hres⟩,.inr rfl,H.marked w.heap.size,rec',b,{ a with defers := { target :=.collected w.heap.size,args := #[] } :: a.defers },cs,r,?_,?_,rfl,rfl,rfl,rfl,?_,rfl,rfl,?_,R1.defers,R1.len,fun j=>Den.ext hρ (fun _ _ h=>h) (R1.ids j) (R1.den j),fun j=>IdsLt.mono (fun _ =>.inl) _ (R1.ids j),?_⟩
       · rw[eb]
       · rw[eb]
         simp only[Snap.marked]
         rw[if_neg (by omega)]
         exact n2
       · simp[rec']
       · rw[eb];rfl
       · exact Lays.mono (hL.grow hfl (.mark (.refl H) n1)) self' (fun id hid=>hid.elim .inl fun e =>.inr (by rw[e];exact Nat.le_refl _)) (by omega)
   | ret =>
     simp only[ex]at hx
     split at hx<;>try (exact hx.elim)
     rename_i hin
     have hret:=hL.ret hin
     split at hx
     · rename_i ts' d rs' g k' hp
       rw[hp]at hret
       split at hx<;>try (exact hx.elim)
       rename_i hr
       have hmem : ∀ (k k':List It) {x:List SVal × Option Nat × List ResultVar × Bool},qcA k=some (x.1,x.2.1,x.2.2.1,x.2.2.2,k') -> ∀ y ∈ k',y ∈ k:=by
         intro k
         induction k with
         | nil=>intro k' x h;simp[qcA]at h
         | cons z k ihk =>
           intro k' x h y hy
           cases z<;>simp only[qcA]at h
           case frame=>cases h;exact List.mem_cons_of_mem _ hy
           case rng =>
             simp only[Option.some.injEq,Prod.mk.injEq]at h
             obtain⟨_,_,_,_,rfl⟩:=h
             exact List.mem_cons_of_mem _ hy
           case rnd=>cases h
           all_goals exact List.mem_cons_of_mem _ (ihk _ h y hy)
       have hok2 : ∀ y ∈ k',ItOk y:=fun y hy=>hok' y (hmem k k' (x:=(ts',d,rs',g)) hp y hy)
       rcases hret with hret|⟨rfl,rfl,hret⟩
       · refine hG _ _ (.one (stepR_ret hret.1)) ?_
         exact qky hE hG hret R hr hx fun v H' b' items' cs' a' w' hv R' hL'=>ih1 k' _ h top hv hok2 H' ρ U a' w' b' items' cs' R' hU hL'
       · refine hG _ _ (.one (stepR_ret hret.1)) ?_
         exact qkz hE hG hret R fun H' b' items' cs' a' w' R' hL'=>ih1 k' _ h top hx hok2 H' ρ U a' w' b' items' cs' R' hU hL'
     · rename_i hp
       rw[hp]at hret
       split at hx<;>try (exact hx.elim)
       rename_i hr
       exact hG _ _ (.one (stepR_ret hret.1)) (hret.2 H ρ U top ts h a w _ (.refl H) self (fun id hid =>.inl hid) hU R hr hx)
   | cond x y z =>
     simp only[ex]at hx
     simp only[qx,Bool.and_eq_true]at hc
     have hd:=R.den1 x
     have go : ∀ (t:Bool) (K:Code),a.eval x = .bool t->(if t then y else z)=K->qx K=true->ex P E Q rs n (.code K :: k) ts h top->G (lone (b.atR a (.code (.cond x y z) :: r)) cs w):=by
       intro t K h1 h2 h3 h4
       refine hG _ _ (.one (stepR_cond h1)) ?_
       rw[h2]
       refine ih1 _ ts h top h4 ?_ H ρ U a w b _ cs R hU ⟨_,rfl,hL⟩
       intro q hq
       rcases List.mem_cons.1 hq with rfl|hq
       · exact h3
       · exact hok' q hq
     split at hx<;>try (exact hx.elim)
     · rename_i he
       rw[he]at hd
       simp only[Den,Rep,List.cons.injEq,and_true]at hd
       exact go true y hd rfl hc.1 hx
     · rename_i he
       rw[he]at hd
       simp only[Den,Rep,List.cons.injEq,and_true]at hd
       exact go false z hd rfl hc.2 hx
     · rename_i bb he
       rw[he]at hd
       simp only[Den,Rep,List.cons.injEq,and_true]at hd
       cases bb
       · exact go false z hd rfl hc.2 (hx.2 rfl)
       · exact go true y hd rfl hc.1 (hx.1 rfl)
   | region id ops dr =>
     simp only[ex]at hx
     split at hx<;>try (exact hx.elim)
     rename_i hdyn
     have hsz:ops.toList.length=ops.size:=by simp
     cases dr with
     | false =>
       refine hG _ _ (.one stepR_region) (ih1 _ ts h _ hx ?_ H ρ U a w b _ cs R (fun id hid=>Nat.lt_of_lt_of_le (hU id hid) (Nat.le_add_right ..)) ⟨r,by simp[List.range_eq_range'],by simp,Nat.le_add_right ..,?_,hL⟩)
       · intro y hy
         rcases List.mem_cons.1 hy with rfl|hy
         · trivial
         · exact hok' y hy
       · intro j _ hj id hid
         unfold own at hid
         refine⟨fun hu => ?_,by rw[hsz]at hj;omega⟩
         have:=hU id hu
         omega
     | true =>
       simp only[qx]at hc
       have hO:qcc ops.toList ts=true:=by
         cases hrb:retB ops.toList with
         | true =>
           simp only[hrb]at hdyn
           exact hdyn
         | false =>
           rw[hrb,Bool.or_false]at hc
           exact qo9 hc ts
       refine hG _ _ (.one stepR_region_draw) ?_
       have hfold:=qkD hE n 0 (all:=ops.toList) (by simpa using hx)
       simp only[Nat.sub_zero,<- List.range_eq_range']at hfold
       simp only[Region.schedule,hm,Bool.true_or,if_true,Region.linearise]
       have hrem0:rem ops.toList.length (Array.replicate ops.size false)=List.range ops.toList.length:=by
         unfold rem
         rw[List.filter_eq_self]
         intro j hj
         have hj:=List.mem_range.1 hj
         rw[hsz]at hj
         simp[hj]
       have:=qpb (K:=fun ts' h' =>∃ m,m<n/\ex P E Q rs m k ts' h' (top+8*ops.size)) (b:=b) (r:=r) (cs:=cs) (ρs:=ρ) (Us:=U) hE hG hO
         (fun ρ' V ts' h' a' w' h1 h2 R' ⟨m,hmn,hx'⟩=>by
           refine hG _ _ (.one stepR_region_end) (ih m (by omega) k ts' h' _ hx' hok' H ρ' V a' w' b r cs R' (fun id hid => ?_) (hL.mono h1 (fun id hid => ?_) (Nat.le_add_right ..)))
           · rcases h2 id hid with q|q
             · exact Nat.lt_of_lt_of_le (hU id q) (Nat.le_add_right ..)
             · rw[hsz]at q;exact q.2
           · rcases h2 id hid with q|q
             · exact .inl q
             · exact .inr q.1)
         ops.size (w.tape w.drawn (.order b.fn id)) (Array.replicate ops.size false) (by simp) (fun m o hmm=>by exfalso;rw[Array.getD_eq_getD_getElem?,Array.getElem?_replicate]at hmm;split at hmm<;>simp at hmm) (by rw[hrem0];simp) ρ U ts h a { w with drawn:=w.drawn+1 } self (fun id hid =>.inl hid)
         (fun j _ id hid hu=>by have:=hU id hu;unfold own at hid;omega) (fun j id hid hu=>by have:=hU id hu;unfold own at hid;omega) (R.world rfl ⟨rfl,rfl,rfl,Nat.le_refl _⟩) (fun _ _=>rfl) (by rw[hrem0];exact hfold)
       simpa using this
   | _=>simp only[ex]at hx
end
end Go.Sx
end
section
namespace Go.Sx
section
variable {P:Program} {E:Env} {ρ:Rho} {h:Heap} {U:Top} {w w':World} {ts:List SVal} {a:Act}
theorem qe1 {Hs:Snap} (hom:E.Ω=Om.real) (R:Rel E ρ Hs ts h U a w') : ∀ (l m:List SVal) {ws:List Value},qaB E h l m->qai (qB l)=true->RepV ρ Hs l ws -> ∀ b,∃ ρ':Rho,
  RepV ρ' (qY w) (place.placeL E b m).1 ws/\IdsLtL (fun i=>b<=i) (place.placeL E b m).1/\(∀ p ∈ (place.placeL E b m).2,b<=p.1/\IdsLt noId p.2/\(qat ρ' p.1 p.2 \/ ∃ arr t vs,Lies ρ' (qY w) w' p.1 p.2 arr t vs))/\(place.placeL E b m).2.Pairwise (ApartR ρ') /\
  (∀ p ∈ (place.placeL E b m).2,(ρ' p.1).g=false->Hs (ρ' p.1).b=none /\ ∃ id ∈ qB l,(ρ id).g=false/\(ρ' p.1).b=(ρ id).b/\look h id ≠ .junk)
 | [],[],ws,_,_,hr,b=>⟨ρ0,hr,trivial,by intro p hp;simp[place.placeL]at hp,.nil,by intro p hp;simp[place.placeL]at hp⟩
 | [],_ :: _,ws,hf,_,_,b=>by simp[qaB]at hf
 | _ :: _,[],ws,hf,_,_,b=>by simp[qaB]at hf
 | s :: l,t :: m,ws,hf,hnd,hr,b=>by
   obtain⟨v,vs,rfl,hv,hr⟩:=RepV_cons.1 hr
   obtain⟨hf1,hf2⟩:=hf
   have hnd':qai (qB l)=true:=by
     cases s<;>simp only[qB]at hnd<;>first
       | exact hnd
       | (simp only[qai,Bool.and_eq_true]at hnd;exact hnd.2)
   have hsub : ∀ id ∈ qB l,id ∈ qB (s :: l):=by
     intro id hid
     cases s<;>simp only[qB]<;>first|exact hid|exact List.mem_cons_of_mem _ hid
   have plain:(∀ k ys cap,t ≠ .fr k ys cap)->(∀ q cap,t ≠ .fra q cap)->qaJ s t -> ∃ ρ':Rho,
   RepV ρ' (qY w) (place.placeL E b (t :: m)).1 (v :: vs)/\IdsLtL (fun i=>b<=i) (place.placeL E b (t :: m)).1/\(∀ p ∈ (place.placeL E b (t :: m)).2,b<=p.1/\IdsLt noId p.2/\(qat ρ' p.1 p.2 \/ ∃ arr t vs,Lies ρ' (qY w) w' p.1 p.2 arr t vs))/\(place.placeL E b (t :: m)).2.Pairwise (ApartR ρ') /\
   (∀ p ∈ (place.placeL E b (t :: m)).2,(ρ' p.1).g=false->Hs (ρ' p.1).b=none /\ ∃ id ∈ qB (s :: l),(ρ id).g=false/\(ρ' p.1).b=(ρ id).b/\look h id ≠ .junk):=by
     intro hne hne2 hfv
     have hpl:place.placeL E b (t :: m)=(t :: (place.placeL E b m).1,(place.placeL E b m).2):=by
       cases t<;>first|rfl|exact absurd rfl (hne _ _ _)|exact absurd rfl (hne2 _ _)
     rw[hpl]
     obtain⟨ρ',h1,h2,h3,h4,h5⟩:=qe1 hom R l m hf2 hnd' hr b
     refine⟨ρ',RepV_cons.2 ⟨v,vs,rfl,qhk hfv hv,h1⟩,⟨(qhn s t hfv).of_no,h2⟩,h3,h4,fun p hp hg => ?_⟩
     obtain⟨q1,id,q2,q3⟩:=h5 p hp hg
     exact⟨q1,id,hsub id q2,q3⟩
   cases t with
   | fr k ys cap =>
     obtain⟨pos,p1,p2,p3,p4⟩:=qhl hom R hf1 hv
     obtain⟨ρ1,h1,h2,h3,h4,h5⟩:=qe1 hom R l m hf2 hnd' hr (b+1)
     let ρ':Rho:=fun i=>if i=b then pos else ρ1 i
     have e1:ρ' b=pos:=by simp[ρ']
     have e2 : ∀ i,b+1<=i->ρ' i=ρ1 i:=fun i hi=>by
       have:i ≠ b:=by omega
       simp[ρ',this]
     have hpl:place.placeL E b (.fr k ys cap :: m)=(.sl b 1 (.l 0) (.s (E.Ω.len ys)) (.s cap) :: (place.placeL E (b+1) m).1,(b,.seq k ys) :: (place.placeL E (b+1) m).2):=rfl
     rw[hpl]
     obtain⟨d1,d2⟩:=p1 ρ' b e1
     refine⟨ρ',RepV_cons.2 ⟨v,vs,rfl,d1,RepV.ext e2 (fun _ _ h=>h) _ h2 h1⟩,⟨Nat.le_refl _,IdsLtL.mono (fun i hi=>by omega) _ h2⟩,fun p hp => ?_,?_,fun p hp hg => ?_⟩
     · rcases List.mem_cons.1 hp with rfl|hp
       · exact⟨Nat.le_refl _,trivial,d2⟩
       · obtain⟨q1,q2,q3⟩:=h3 p hp
         refine⟨by omega,q2,?_⟩
         rcases q3 with hg|⟨arr,t,us,li⟩
         · exact .inl ⟨by rw[e2 _ q1];exact hg.1,by rw[e2 _ q1];exact hg.2.1,hg.2.2⟩
         · exact .inr ⟨arr,t,us,li.kept (U:=fun i=>b+1<=i) q1 q2.of_no e2 rfl⟩
     · rw[List.pairwise_cons]
       refine⟨fun p hp=>⟨by have:=(h3 p hp).1;dsimp only;omega,fun g1 g2 => ?_⟩,?_⟩
       · dsimp only at g1 ⊢
         rw[e1]at g1 ⊢
         have hp1:=(h3 p hp).1
         rw[e2 _ hp1]at g2 ⊢
         obtain⟨_,id',q2,q3,q4,q5⟩:=h5 p hp g2
         cases hs:s with
         | sl id es off len c =>
           obtain⟨r1,r2,r3⟩:=p3 id es off len c hs g1
           rw[r2,q4]
           refine qbJ R r3 q5 ?_ r1 q3
           rintro rfl
           subst hs
           simp only[qB,qai,Bool.and_eq_true,Bool.not_eq_true',List.any_eq_false]at hnd
           have:=hnd.1 id q2
           simp at this
         | _ =>
           have:pos.g=true:=p4 (fun id es off len c e=>by rw[hs]at e;cases e)
           rw[this]at g1
           cases g1
       · refine List.Pairwise.imp_of_mem (fun {p q} hp hq hpq => ?_) h4
         exact⟨hpq.1,by rw[e2 _ (h3 p hp).1,e2 _ (h3 q hq).1];exact hpq.2⟩
     · rcases List.mem_cons.1 hp with rfl|hp
       · dsimp only at hg ⊢
         rw[e1]at hg ⊢
         refine⟨p2 hg,?_⟩
         cases hs:s with
         | sl id es off len c =>
           obtain⟨r1,r2,r3⟩:=p3 id es off len c hs hg
           exact⟨id,by simp[qB],r1,r2,r3⟩
         | _ =>
           have:pos.g=true:=p4 (fun id es off len c e=>by rw[hs]at e;cases e)
           rw[this]at hg
           cases hg
       · have hp1:=(h3 p hp).1
         rw[e2 _ hp1]at hg ⊢
         obtain⟨q1,id,q2,q3⟩:=h5 p hp hg
         exact⟨q1,id,hsub id q2,q3⟩
   | fra q cap =>
     obtain⟨pos,p1,p2,p3,p4⟩:=qhm hom R hf1 hv
     obtain⟨ρ1,h1,h2,h3,h4,h5⟩:=qe1 hom R l m hf2 hnd' hr (b+1)
     let ρ':Rho:=fun i=>if i=b then pos else ρ1 i
     have e1:ρ' b=pos:=by simp[ρ']
     have e2 : ∀ i,b+1<=i->ρ' i=ρ1 i:=fun i hi=>by
       have:i ≠ b:=by omega
       simp[ρ',this]
     have hpl:place.placeL E b (.fra q cap :: m)=(.sl b q.es (.l 0) (.s (lenO E q)) (.s cap) :: (place.placeL E (b+1) m).1,(b,.sab q) :: (place.placeL E (b+1) m).2):=rfl
     rw[hpl]
     obtain⟨d1,d2⟩:=p1 ρ' b e1
     refine⟨ρ',RepV_cons.2 ⟨v,vs,rfl,d1,RepV.ext e2 (fun _ _ h=>h) _ h2 h1⟩,⟨Nat.le_refl _,IdsLtL.mono (fun i hi=>by omega) _ h2⟩,fun p hp => ?_,?_,fun p hp hg => ?_⟩
     · rcases List.mem_cons.1 hp with rfl|hp
       · exact⟨Nat.le_refl _,trivial,d2⟩
       · obtain⟨q1,q2,q3⟩:=h3 p hp
         refine⟨by omega,q2,?_⟩
         rcases q3 with hg|⟨arr,t,us,li⟩
         · exact .inl ⟨by rw[e2 _ q1];exact hg.1,by rw[e2 _ q1];exact hg.2.1,hg.2.2⟩
         · exact .inr ⟨arr,t,us,li.kept (U:=fun i=>b+1<=i) q1 q2.of_no e2 rfl⟩
     · rw[List.pairwise_cons]
       refine⟨fun p hp=>⟨by have:=(h3 p hp).1;dsimp only;omega,fun g1 g2 => ?_⟩,?_⟩
       · dsimp only at g1 ⊢
         rw[e1]at g1 ⊢
         have hp1:=(h3 p hp).1
         rw[e2 _ hp1]at g2 ⊢
         obtain⟨_,id',q2,q3,q4,q5⟩:=h5 p hp g2
         cases hs:s with
         | sl id es off len c =>
           obtain⟨r1,r2,r3⟩:=p3 id es off len c hs g1
           rw[r2,q4]
           refine qbJ R r3 q5 ?_ r1 q3
           rintro rfl
           subst hs
           simp only[qB,qai,Bool.and_eq_true,Bool.not_eq_true',List.any_eq_false]at hnd
           have:=hnd.1 id q2
           simp at this
         | _ =>
           have:pos.g=true:=p4 (fun id es off len c e=>by rw[hs]at e;cases e)
           rw[this]at g1
           cases g1
       · refine List.Pairwise.imp_of_mem (fun {p q} hp hq hpq => ?_) h4
         exact⟨hpq.1,by rw[e2 _ (h3 p hp).1,e2 _ (h3 q hq).1];exact hpq.2⟩
     · rcases List.mem_cons.1 hp with rfl|hp
       · dsimp only at hg ⊢
         rw[e1]at hg ⊢
         refine⟨p2 hg,?_⟩
         cases hs:s with
         | sl id es off len c =>
           obtain⟨r1,r2,r3⟩:=p3 id es off len c hs hg
           exact⟨id,by simp[qB],r1,r2,r3⟩
         | _ =>
           have:pos.g=true:=p4 (fun id es off len c e=>by rw[hs]at e;cases e)
           rw[this]at hg
           cases hg
       · have hp1:=(h3 p hp).1
         rw[e2 _ hp1]at hg ⊢
         obtain⟨q1,id,q2,q3⟩:=h5 p hp hg
         exact⟨q1,id,hsub id q2,q3⟩
   | _=>exact plain (fun _ _ _ e=>by cases e) (fun _ _ e=>by cases e) (by simpa only[qan]using hf1)
theorem qkH {ρ:Rho} {H:Snap} : ∀ {ms:List Bool} {l:List SVal} {us:List (List Value)},RepM ρ H ms l us->ms.length=l.length
 | [],[],_,_=>rfl
 | _ :: ms,_ :: l,us,h=>by
   obtain⟨u,r,_,_,h2⟩:=h
   simp[qkH h2]
 | [],_ :: _,_,h=>h.elim
 | _ :: _,[],_,h=>h.elim
theorem qpf (hom:E.Ω=Om.real) (R:Rel E ρ (qy w) ts h U a w') {r t:SVal} {v:Value} (hf:fits E h r t) (hd:Den ρ (qy w) r v):qho E w w' t v:=by
 intro b
 have plain:(∀ k ys cap,t ≠ .fr k ys cap)->(∀ q cap,t ≠ .fra q cap)->(∀ l,t ≠ .tup l)->(∀ l,t ≠ .frp l)->qaJ r t -> ∃ ρ:Rho,Den ρ (qY w) (place E b t).1 v/\(∀ p ∈ (place E b t).2,qat ρ p.1 p.2 \/ ∃ arr t vs,Lies ρ (qY w) w' p.1 p.2 arr t vs)/\(place E b t).2.Pairwise (ApartR ρ) /\
  ∀ p ∈ (place E b t).2,(ρ p.1).g=false->w.heap.size<=(ρ p.1).b:=by
  intro h1 h1' h2 h2' hfv
  have hpl:place E b t=(t,[]):=by
   cases t<;>first|rfl|exact absurd rfl (h1 _ _ _)|exact absurd rfl (h1' _ _)|exact absurd rfl (h2 _)|exact absurd rfl (h2' _)
  rw[hpl]
  exact⟨ρ0,qhk hfv hd,(by intro p hp;cases hp),.nil,(by intro p hp;cases hp)⟩
 cases t with
 | tup m =>
   simp only[fits]at hf
   split at hf<;>try (exact hf.elim)
   rename_i l
   simp only[Den,Rep,List.cons.injEq,and_true]at hd
   obtain⟨ws,rfl,hr⟩:=hd
   obtain⟨ρ',h1,h2,h3,h4,h5⟩:=qe1 hom R l m hf.1 hf.2.1 hr b
   refine⟨ρ',?_,fun p hp=>(h3 p hp).2.2,h4,fun p hp hg=>qdy (h5 p hp hg).1⟩
   simp only[place,Den,Rep,List.cons.injEq,and_true]
   exact⟨ws,rfl,h1⟩
 | fr k ys cap =>
   obtain⟨pos,p1,p2,p3,p4⟩:=qhl hom R (show qan E h r (.fr k ys cap) from hf) hd
   obtain⟨d1,d2⟩:=p1 (fun _=>pos) b rfl
   refine⟨fun _=>pos,d1,fun p hp => ?_,List.pairwise_singleton _ _,fun p hp hg=>qdy (p2 hg)⟩
   simp only[place,List.mem_singleton]at hp
   subst hp
   exact d2
 | fra q cap =>
   obtain⟨pos,p1,p2,p3,p4⟩:=qhm hom R (show qan E h r (.fra q cap) from hf) hd
   obtain⟨d1,d2⟩:=p1 (fun _=>pos) b rfl
   refine⟨fun _=>pos,d1,fun p hp => ?_,List.pairwise_singleton _ _,fun p hp hg=>qdy (p2 hg)⟩
   simp only[place,List.mem_singleton]at hp
   subst hp
   exact d2
 | frp m =>
   simp only[fits]at hf
   split at hf<;>try (exact hf.elim)
   rename_i id
   split at hf<;>try (exact hf.elim)
   rename_i l hl
   obtain⟨hf1,hf2,_⟩:=hf
   have hnd:qai (qB l)=true:=by
     simp only[qai,Bool.and_eq_true]at hf2;exact hf2.2
   have hni:id ∉ qB l:=by
     simp only[qai,Bool.and_eq_true,Bool.not_eq_true',List.any_eq_false]at hf2
     intro hi
     have:=hf2.1 id hi
     simp at this
   rcases R.lies (id:=id) (by rw[hl];simp)with hg|⟨arr,tt,vs,li⟩
   · obtain⟨_,_,k,hk⟩:=hg
     rw[hl]at hk;cases k<;>cases hk
   · have hrep:=li.rep
     rw[hl]at hrep
     simp only[Rep]at hrep
     obtain⟨us,hus,hM⟩:=RepM_C.1 hrep
     obtain⟨ρ1,h1,h2,h3,h4,h5⟩:=qcE hom R _ l m hf1 hnd hM (b+1)
     let ρ':Rho:=fun i=>if i=b then ρ id else ρ1 i
     have e1:ρ' b=ρ id:=by simp[ρ']
     have e2 : ∀ i,b+1<=i->ρ' i=ρ1 i:=fun i hi=>by
       have:i ≠ b:=by omega
       simp[ρ',this]
     have hlen:(place.placeL E (b+1) m).1.length=l.length:=by
       have:=qkH h1
       simpa using this.symm
     have hC:RepC ρ' (qY w) (place.placeL E (b+1) m).1 vs:=by
       refine RepM_C.2 ⟨us,hus,?_⟩
       rw[hlen]
       exact RepM.ext e2 (fun _ _ h=>h) h2 h1
     simp only[Den,Rep,List.cons.injEq,and_true]at hd
     refine⟨ρ',?_,fun p hp => ?_,?_,fun p hp hg => ?_⟩
     · simp only[place,Den,Rep,List.cons.injEq,and_true,e1]
       exact hd
     · rcases List.mem_cons.1 hp with rfl|hp
       · exact .inr ⟨arr,tt,vs,by rw[e1];exact li.real,by rw[e1];exact li.blk,rfl,by simp only[Rep];exact hC,by rw[e1];exact li.room,by rw[e1];exact li.fits,by rw[e1];exact li.cells,fun _=>li.fz (by rw[hl];rfl)⟩
       · obtain⟨q1,q2,q3⟩:=h3 p hp
         rcases q3 with hg|⟨arr,t,us,li⟩
         · exact .inl ⟨by rw[e2 _ q1];exact hg.1,by rw[e2 _ q1];exact hg.2.1,hg.2.2⟩
         · exact .inr ⟨arr,t,us,li.kept (U:=fun i=>b+1<=i) q1 q2.of_no e2 rfl⟩
     · show((b,_) :: (place.placeL E (b+1) m).2).Pairwise _
       rw[List.pairwise_cons]
       refine⟨fun p hp=>⟨by have:=(h3 p hp).1;dsimp only;omega,fun g1 g2 => ?_⟩,?_⟩
       · dsimp only at g1 ⊢
         rw[e1]at g1 ⊢
         have hp1:=(h3 p hp).1
         rw[e2 _ hp1]at g2 ⊢
         obtain⟨_,id',q2,q3,q4,q5⟩:=h5 p hp g2
         rw[q4]
         exact qbJ R (by rw[hl];simp) q5 (by rintro rfl;exact hni q2) li.real q3
       · refine List.Pairwise.imp_of_mem (fun {p q} hp hq hpq => ?_) h4
         exact⟨hpq.1,by rw[e2 _ (h3 p hp).1,e2 _ (h3 q hq).1];exact hpq.2⟩
     · rcases List.mem_cons.1 hp with rfl|hp
       · dsimp only at hg ⊢
         rw[e1]
         exact qdy li.own
       · rw[e2 _ (h3 p hp).1]at hg ⊢
         exact qdy (h5 p hp hg).1
 | _=>exact plain (fun _ _ _ e=>by cases e) (fun _ _ e=>by cases e) (fun _ e=>by cases e) (fun _ e=>by cases e) (by simpa only[fits,qan]using hf)
end
theorem qkI {P:Program} {E:Env} {ρ:Rho} {H:Snap} {ts:List SVal} {h:Heap} {U:Top} {b:Frame} {todo:List Item} {cs:List Frame} : ∀ {H':Snap},Grows H H' -> ∀ {a:Act} {w:World},Rel E ρ H' ts h U a w ->
  ∃ w',Steps P (lone { b.atR a todo with mode :=.returning } cs w) (lone { b.atR { a with defers:=H.defs } todo with mode :=.returning } cs w')/\Rel E ρ H ts h U { a with defers:=H.defs } w':=by
 intro H' hg
 induction hg with
 | refl =>
   intro a w R
   refine⟨w,?_,R.conv (fun _ _ _ h=>h) R.agree (fun _ _ _ _ _ h=>⟨h,rfl⟩) R.same rfl rfl⟩
   rw[<- R.defers]
   exact Steps.refl _ _
 | mark hg hr ih =>
   rename_i H1 r
   intro a w R
   have hl:w.heap[r]?=some (.deferred (some [])):=R.agree r _ (by simp[Snap.marked])
   have hst:=step_collected (P:=P) (fr := { b.atR a todo with mode :=.returning }) (cs:=cs) (w:=w) (d := { target :=.collected r,args := #[] }) (ds:=H1.defs) (by simp) (show a.defers=_ from R.defers) rfl (run_takeDeferred hl)
   have R1:Rel E ρ H1 ts h U { a with defers:=H1.defs } (w.putObj r (.deferred none)):=by
     refine R.conv (fun b o v hv => ?_) (fun b o hb => ?_) (fun b c t x _ hb => ?_) (R.same.trans (qeY _ _ _)) rfl rfl
     · unfold qu Snap.marked at hv
       unfold qu
       dsimp only at hv
       by_cases e:b=r
       · rw[if_pos e]at hv;cases hv
       · rw[if_neg e]at hv;exact hv
     · have e:b ≠ r:=by rintro rfl;rw[hr]at hb;cases hb
       rw[World.putObj_heap_other e]
       exact R.agree b o (by simp only[Snap.marked];rw[if_neg e];exact hb)
     · have e:b ≠ r:=by rintro rfl;simp[Snap.marked]at hb
       refine⟨?_,World.putObj_heap_other e⟩
       simp only[Snap.marked]at hb
       rw[if_neg e]at hb
       exact hb
   obtain⟨w',h1,h2⟩:=ih R1
   exact⟨w',.head hst h1,h2⟩
theorem qkJ {P:Program} {E:Env} (hE:EnvG P E) (hI:qaC P E) (hm:P.follows .mixedOrders=true) {g:FuncId} {fn:Func} {c:Code} {s:qe} (hf:P.funcs[g]?=some fn) (hb:fn.body=some c) (hreg:qx c=true) (hcl : ∀ args,(s args).pre->IdsLtL noId args)
  (hx : ∀ args,(s args).pre -> ∃ n,ex P E (fun r h _ =>∃ x,(s args).post x/\fits E h r ((s args).res x)) fn.results.toList n [.code c] (args++List.replicate (fn.ntmps-args.length) .junk) [] 0) :
  PSpecOk P E g s:=by
 intro w args vs hgl hr hp
 obtain⟨n,hn⟩:=hx args hp
 intro cs
 let Fin:Machine->Prop:=fun m =>∃ e w' fr,(∃ v,e=Ending.returned v/\Same w w'/\Kept w w' /\ ∃ x,(s args).post x/\qho E w w' ((s args).res x) v)/\Comes P m (lone fr cs w') e/\fr.fn=g/\fr.leaving P w' e
 have hG : ∀ m m',Steps P m m'->Fin m'->Fin m:=by
  rintro m m' hst ⟨e,w',fr,h1,h2,h3⟩
  exact⟨e,w',fr,h1,.of_steps hst h2,h3⟩
 let b:Frame := { (default:Frame)with fn:=g,kind :=.normal }
 have henter:Frame.enter P g vs.toArray .normal=b.atR { tmps:=vs.toArray++Array.replicate (fn.ntmps-vs.toArray.size) undef,defers:=[] } [.code c]:=by
  simp[Frame.enter,Frame.atR,hf,hb,b]
  rfl
 rw[henter]
 have R:Rel E ρ0 (qy w) (args++List.replicate (fn.ntmps-args.length) .junk) [] (fun _=>False) { tmps:=vs.toArray++Array.replicate (fn.ntmps-vs.toArray.size) undef,defers:=[] } w :=
  qeZ hr (hcl args hp) (fun id c hc=>by cases hc) (fun b o hb=>hb) ⟨fun id c hc=>(by cases hc),.nil⟩ (fun g=>⟨hgl g,hE.gid g⟩) (Same.refl w) rfl fn.ntmps
 refine qe0 hE hI hm hG n _ _ _ 0 hn ?_ (qy w) ρ0 _ _ w b _ cs R (fun _ h=>h.elim) ⟨[],rfl,rfl,rfl,?_⟩
 ·intro y hy
  rcases List.mem_cons.1 hy with rfl|hy
  ·exact hreg
  ·cases hy
 ·intro H' ρ' V top ts h a w0 todo hg _ _ _ R0 hrb ⟨x,hx1,hx2⟩
  obtain⟨w',hst,R'⟩:=qkI (b:=b) (todo:=todo) (cs:=cs) hg R0
  refine hG _ _ hst ?_
  obtain⟨v,q1,q2,q3⟩:=qeW hE.toEnvOk R' rfl hrb
  refine⟨.returned v,w',_,⟨v,rfl,R'.same,fun b hb => ?_,x,hx1,qpf hE.om R' hx2 q2⟩,Steps.refl _ _,rfl,rfl,R'.defers,rfl,fn,hf,q1⟩
  have:=R'.agree b w.heap[b] (by simp[qy,hb])
  rw[this]
  exact(Array.getElem?_eq_getElem hb).symm
end Go.Sx
end
section
namespace Go.Sx
def unT (n:Nat) (r:SVal):List SVal :=
 match n with
 | 1=>[r]
 | _=>match r with
   | .tup l=>l
   | r=>[r]
theorem qpg {n:Nat} {l:List SVal} (hn:n ≠ 1):unT n (.tup l)=l:=by
 unfold unT
 split
 ·exact absurd rfl hn
 ·rfl
theorem qph {n:Nat} {r:SVal} (hr : ∀ l,r ≠ .tup l):unT n r=[r]:=by
 unfold unT
 split
 ·rfl
 ·split
  ·exact absurd rfl (hr _)
  ·rfl
def qdC (E:Env) (h:Heap) (r:SVal) (res out:List SVal):Prop :=
 match look h 0 with
 | .agg l=>qaB E h (unT res.length r++l) (res++out)/\qai (qB (unT res.length r++l))=true/\Nat.beq (unT res.length r).length res.length=true
 | _=>False
def heap0 (E:Env) (d:List SVal):Heap:=qC ((0,.agg (place.placeL E 1 d).1) :: (place.placeL E 1 d).2) []
theorem qkK {E:Env} : ∀ (l:List SVal) (b:Nat),(place.placeL E b l).1.length=l.length
 | [],b=>rfl
 | s :: l,b=>by cases s<;>simp[place.placeL,qkK l]
theorem qhx : ∀ (n:Nat) (l:List SVal),qar n l=l.take n
 | 0,l=>by simp[qar]
 | n+1,[]=>rfl
 | n+1,s :: l=>by simp[qar,qhx n l]
theorem qkL : ∀ (n:Nat) (l:List SVal),qa8 n l=l.drop n
 | 0,l=>by simp[qa8]
 | n+1,[]=>rfl
 | n+1,s :: l=>by simp[qa8,qkL n l]
section
variable {P:Program} {E:Env} {ρ:Rho} {h:Heap} {U:Top} {w w':World} {ts:List SVal} {a:Act}
theorem qpi {Hs:Snap} (hom:E.Ω=Om.real) (R:Rel E ρ Hs ts h U a w') {r:SVal} {v:Value} {res out:List SVal} (hf:qdC E h r res out) (hd:Den ρ Hs r v):qeS E Hs w w' (ρ 0) res out v:=by
 unfold qdC at hf
 split at hf<;>try (exact hf.elim)
 rename_i l hl
 obtain⟨f1,f2,f3⟩:=hf
 have f3:=Nat.eq_of_beq_eq_true f3
 intro b
 have hj0:look h 0 ≠ .junk:=by rw[hl];simp
 obtain⟨arr,t,us,li⟩ : ∃ arr t us,Lies ρ Hs w' 0 (.agg l) arr t us:=by
  rcases R.lies hj0 with hgh|hli
  ·obtain⟨_,_,k,e⟩:=hgh;rw[hl]at e;cases k<;>cases e
  ·rwa[hl]at hli
 obtain⟨uss,e1,hm⟩:=RepM_C.1 (show RepC ρ Hs l us from li.rep)
 have hres : ∃ vs:List Value,RepV ρ Hs (unT res.length r) vs/\(res.length=1->vs=[v])/\(res.length ≠ 1->v = .tuple vs.toArray):=by
  by_cases hn:res.length=1
  ·rw[hn]
   exact⟨[v],RepV_cons.2 ⟨v,[],rfl,hd,rfl⟩,fun _=>rfl,fun q=>absurd rfl q⟩
  ·by_cases hr : ∃ l,r = .tup l
   ·obtain⟨l',rfl⟩:=hr
    rw[qpg hn]
    simp only[Den,Rep,List.cons.injEq,and_true]at hd
    obtain⟨ws,rfl,hr⟩:=hd
    exact⟨ws,hr,fun q=>absurd q hn,fun _=>rfl⟩
   ·rw[qph (fun l e=>hr ⟨l,e⟩)]at f3
    exact absurd f3.symm hn
 obtain⟨vs,hv1,hv2,hv3⟩:=hres
 have hvl:(unT res.length r).length=vs.length:=(RepV.get hv1).1
 have hM:=RepM_V.1 hv1
 have hall:RepM ρ Hs (List.replicate (unT res.length r).length true++List.replicate l.length false) (unT res.length r++l) (vs.map ([·])++uss):=(qeQ (by simp)).2 ⟨_,_,rfl,hM,hm⟩
 obtain⟨ρ',k1,k2,k3,k4,k5⟩:=qcE (w:=w) hom R _ _ _ f1 f2 hall b
 have hsplit:(place.placeL E b (res++out)).1=qar res.length (place.placeL E b (res++out)).1++qa8 res.length (place.placeL E b (res++out)).1:=by
  rw[qhx,qkL,List.take_append_drop]
 rw[hsplit]at k1
 have htl:(qar res.length (place.placeL E b (res++out)).1).length=res.length:=by
  rw[qhx,List.length_take,qkK,List.length_append];omega
 obtain⟨xs,ys,e2,j1,j2⟩:=(qeQ (by rw[htl,List.length_replicate,f3])).1 k1
 have hlen : ∀ {ρ:Rho} {H:Snap} (ms:List Bool) (l:List SVal) (us:List (List Value)),RepM ρ H ms l us->ms.length=l.length/\us.length=l.length:=by
  intro ρ H ms
  induction ms with
  | nil=>intro l us hr;cases l with
    | nil=>exact⟨rfl,by cases hr;rfl⟩
    | cons=>exact hr.elim
  | cons m ms ih=>intro l us hr;cases l with
    | nil=>exact hr.elim
    | cons s l=>obtain⟨u,r,rfl,_,hr⟩:=hr;simp[ih l r hr]
 have hxl:xs.length=(vs.map ([·])).length:=by
  rw[(hlen _ _ _ j1).2,htl,List.length_map,<- hvl,f3]
 obtain⟨rfl,rfl⟩:=List.append_inj e2 hxl.symm
 refine⟨ρ',?_,⟨arr,t.1,us,li.blk0 (by first|rfl|simp_all [qah]),?_,li.room,li.fits,li.cells⟩,fun p hp=>(k3 p hp).2.2,k4,fun p hp hg=>⟨(k5 p hp hg).1,?_⟩⟩
 ·have hrl:List.replicate (unT res.length r).length true=List.replicate (qar res.length (place.placeL E b (res++out)).1).length true:=by rw[htl,f3]
  rw[hrl]at j1
  have hV:=RepM_V.2 j1
  by_cases hn:res.length=1
  ·have:=hv2 hn
   subst this
   have ht1 : ∃ s,qar res.length (place.placeL E b (res++out)).1=[s]:=by
    have:=htl
    rw[hn]at this
    match hq:qar res.length (place.placeL E b (res++out)).1,this with
    | [],h=>rw[hn]at hq;rw[hq]at h;simp at h
    | [s],_=>exact⟨s,rfl⟩
    | _ :: _ :: _,h=>rw[hn]at hq;rw[hq]at h;simp at h
   obtain⟨s,hs⟩:=ht1
   rw[hs]at hV ⊢
   obtain⟨v',ws,e3,h1,h2⟩:=RepV_cons.1 hV
   cases e3
   exact h1
  ·have:=hv3 hn
   subst this
   have hro:qbu (qar res.length (place.placeL E b (res++out)).1) = .tup (qar res.length (place.placeL E b (res++out)).1):=by
    unfold qbu
    split
    ·rename_i s hs
     rw[hs]at htl
     simp at htl
     exact absurd htl.symm hn
    ·rfl
   rw[hro]
   simp only[Den,Rep,List.cons.injEq,and_true]
   exact⟨vs,rfl,hV⟩
 ·refine RepM_C.2 ⟨uss,e1,?_⟩
  have hdl:(qa8 res.length (place.placeL E b (res++out)).1).length=l.length:=by
   have:=(hlen _ _ _ j2).1
   rw[List.length_replicate]at this
   exact this.symm
  rw[hdl]
  exact j2
 ·obtain⟨ _,id,q1,q2,q3,q4⟩:=k5 p hp hg
  rw[q3]
  have hne:id ≠ 0:=by
   rintro rfl
   have : ∀ (l d:List SVal),qaB E h l d -> ∀ j ∈ qB l,∀ m,look h j ≠ .agg m:=by
    intro l
    induction l with
    | nil=>intro d _ j hj;simp[qB]at hj
    | cons s l ih =>
      intro d hf j hj m
      cases d with
      | nil=>simp[qaB]at hf
      | cons t d =>
        obtain⟨q1,q2⟩:=hf
        cases s<;>simp only[qB]at hj<;>first
          | exact ih d q2 j hj m
          | (rcases List.mem_cons.1 hj with rfl|hj
             · cases t<;>simp only[qan,qaJ]at q1<;>(try (exact q1.elim))
               all_goals (split at q1<;>try (exact q1.elim))
               all_goals first
                 | (rename_i e;cases e;done)
                 | (rename_i e;cases e;intro hjk;rw[hjk]at q1;first|exact q1.2|exact q1.2.2.2)
             · exact ih d q2 j hj m)
   exact this _ _ f1 0 q1 l hl
  exact qbJ R q4 hj0 hne q2 li.real
end
theorem qpj {P:Program} {E:Env} (hE:EnvG P E) (hI:qaC P E) (hm:P.follows .mixedOrders=true) {g:FuncId} {fn:Func} {c:Code} {ms:qU} (hf:P.funcs[g]?=some fn) (hb:fn.body=some c) (hreg:qx c=true) (hcl : ∀ d rest,(ms d rest).pre->IdsLtL noId d/\IdsLtL noId rest/\d.length<=8)
  (hx : ∀ d rest,(ms d rest).pre -> ∃ n,ex P E (fun r h _ =>∃ x,(ms d rest).post x/\qdC E h r ((ms d rest).res x) ((ms d rest).out x)) fn.results.toList n [.code c] ((.ptr 0 (.l 0) :: rest)++List.replicate (fn.ntmps-(.ptr 0 (.l 0) :: rest:List SVal).length) .junk) (heap0 E d) 16) :
  MSpecOk P E g ms:=by
 intro w Hs ρ d rest vs hw0 hd0 hag hgl hr hheap hp
 obtain⟨n,hn⟩:=hx d rest hp
 obtain⟨cd,cr,cl⟩:=hcl d rest hp
 intro cs
 let Fin:Machine->Prop:=fun m =>∃ e w' fr,(∃ v x,e=Ending.returned v/\Same w w'/\Agree Hs w'/\(ms d rest).post x/\qeS E Hs w w' (ρ 0) ((ms d rest).res x) ((ms d rest).out x) v)/\Comes P m (lone fr cs w') e/\fr.fn=g/\fr.leaving P w' e
 have hG : ∀ m m',Steps P m m'->Fin m'->Fin m:=by
  rintro m m' hst ⟨e,w',fr,h1,h2,h3⟩
  exact⟨e,w',fr,h1,.of_steps hst h2,h3⟩
 let b:Frame := { (default:Frame)with fn:=g,kind :=.normal }
 have henter:Frame.enter P g vs.toArray .normal=b.atR { tmps:=vs.toArray++Array.replicate (fn.ntmps-vs.toArray.size) undef,defers:=[] } [.code c]:=by
  simp[Frame.enter,Frame.atR,hf,hb,b]
  rfl
 rw[henter]
 have few : ∀ p ∈ (place.placeL E 1 d).2,(fun i=>i<16) p.1:=fun p hp=>by
  have:=qdB d 1 p hp
  dsimp only
  omega
 have hids:=qeN (E:=E) (b:=1) (U:=fun i=>i<16) (v :=.tup d) cd few
 have hids1:IdsLtL (fun i=>i<16) (place.placeL E 1 d).1:=hids.1
 have hids2 : ∀ p ∈ (place.placeL E 1 d).2,IdsLt (fun i=>i<16) p.2:=hids.2
 have hperm:=qeO ((0,.agg (place.placeL E 1 d).1) :: (place.placeL E 1 d).2) []
 rw[List.append_nil]at hperm
 have hh:qdl ρ Hs w (heap0 E d):=⟨fun id c hc=>hheap.1 id c (hperm.mem_iff.1 hc),(hperm.pairwise_iff (R:=ApartR ρ) fun h=>h.symm).2 hheap.2⟩
 have hsame:Same Hs.w0 w:=by rw[hw0];exact Same.refl w
 have R:Rel E ρ Hs ((.ptr 0 (.l 0) :: rest)++List.replicate (fn.ntmps-(.ptr 0 (.l 0) :: rest:List SVal).length) .junk) (heap0 E d) (fun i=>i<16) { tmps:=vs.toArray++Array.replicate (fn.ntmps-vs.toArray.size) undef,defers:=[] } w :=
  qeZ (U:=fun i=>i<16) hr ⟨(show(0:Nat)<16 by decide),IdsLtL.mono (fun _ h=>h.elim) _ cr⟩ (fun id c hc=>by
   rcases List.mem_cons.1 (hperm.mem_iff.1 hc)with e|hc
   ·cases e;exact⟨(by decide:(0:Nat)<16),hids1⟩
   ·exact⟨few _ hc,hids2 _ hc⟩) hag hh (fun g=>⟨Den.ext (t:=noId) (fun i h=>h.elim) (fun _ _ h=>h) (hE.gid g) (hgl g),hE.gid g⟩) hsame hd0 fn.ntmps
 refine qe0 hE hI hm hG n _ _ _ 16 hn ?_ Hs ρ _ _ w b _ cs R (fun _ h=>h) ⟨[],rfl,rfl,rfl,?_⟩
 ·intro y hy
  rcases List.mem_cons.1 hy with rfl|hy
  ·exact hreg
  ·cases hy
 ·intro H' ρ' V top ts h a w0 todo hg hV _ _ R0 hrb ⟨x,hx1,hx2⟩
  obtain⟨w',hst,R'⟩:=qkI (b:=b) (todo:=todo) (cs:=cs) hg R0
  refine hG _ _ hst ?_
  obtain⟨v,q1,q2,q3⟩:=qeW hE.toEnvOk R' rfl hrb
  have e0:ρ' 0=ρ 0:=(hV 0 (by decide:(0:Nat)<16)).2
  refine⟨.returned v,w',_,⟨v,x,rfl,?_,R'.agree,hx1,by rw[<- e0];exact qpi hE.om R' hx2 q2⟩,Steps.refl _ _,rfl,rfl,R'.defers.trans hd0,rfl,fn,hf,q1⟩
  have:=R'.same
  rwa[hw0]at this
end Go.Sx
end
section
namespace Go.Sx
def qe2:SVal->Bool
 | .junk | .lit .. | .int .. | .bl _ | .bs _ | .val _ | .row .. | .seq .. | .roi .. | .rol .. | .ror .. | .roe .. | .roa _=>true
 | _=>false
def qe3:List SVal->Bool
 | []=>true
 | s :: l=>match qe2 s with
   | true=>qe3 l
   | false=>false
def qkM:SVal->Bool
 | .agg l=>qe3 l
 | s=>qe2 s
theorem qkN {c:SVal} (h:qkM c=true):IdsLt noId c:=by
 have h0 : ∀ {s:SVal},qe2 s=true->IdsLt noId s:=fun {s} h=>by cases s<;>first|trivial|simp[qe2]at h
 have hL : ∀ {l:List SVal},qe3 l=true->IdsLtL noId l:=by
  intro l
  induction l with
  | nil=>intro _;trivial
  | cons s l ih =>
    intro h
    simp only[qe3]at h
    split at h
    · rename_i hs
      exact⟨h0 hs,ih h⟩
    · cases h
 cases c<;>first|exact hL h|exact h0 h
abbrev Ren:=Nat->Option (Option Nat)
def cat2 (a b:Option (List Prop)):Option (List Prop) :=
 match a with
 | some xs=>match b with
   | some ys=>some (xs++ys)
   | none=>none
 | none=>none
def when (b:Bool) (ps:List Prop):Option (List Prop) :=
 match b with
 | true=>some ps
 | false=>none
def snEq (a b:SN):Option (List Prop) :=
 match a,b with
 | .l n,.l m=>when (Nat.beq n m) []
 | a,b=>some [a.v=b.v]
def isId (σ:Ren) (id' id:Nat):Bool :=
 match σ id' with
 | some (some i)=>Nat.beq i id
 | _=>false
def qkO (σ:Ren) (id':Nat):Bool :=
 match σ id' with
 | some none=>true
 | _=>false
mutual
def leq (σ:Ren):SVal->SVal->Option (List Prop)
 | _,.junk=>some []
 | .lit k n,.lit k' m=>when (keq k k' && decide (n=m)) []
 | .lit k n,.int k' m=>when (keq k k') [n=m]
 | .int k n,.int k' m=>when (keq k k') [n=m]
 | .bl b,.bl c=>when (b == c) []
 | .bl b,.bs c=>some [b=c]
 | .bs b,.bs c=>some [b=c]
 | .val v,.val u=>some [v=u]
 | .row k n xs,.row k' n' ys=>when (keq k k' && Nat.beq n n') [xs=ys]
 | .seq k xs,.seq k' ys=>when (keq k k') [xs=ys]
 | .lck k xs,.lck k' ys=>when (keq k k') [xs=ys]
 | .agg l,.agg m=>leqC σ l m
 | .ab p,.ab q=>some [p=q]
 | .sab p,.sab q=>some [p=q]
 | .row k n xs,.ab p=>when (keq k p.k) [p.ok xs]
 | .agg l,.ab p=>some [qdh l p]
 | .agg l,.row k n xs=>some [qdi l k n xs]
 | .lst l,.lst m=>leqL σ l m
 | .lsr l xss,.lsr m yss=>cat2 (leqL σ l m) (some [xss=yss])
 | .tup l,.tup m=>leqL σ l m
 | .ptr id off,.ptr id' off'=>cat2 (when (isId σ id' id) []) (snEq off off')
 | .sl id es off len cap,.sl id' es' off' len' cap'=>cat2 (when (isId σ id' id && Nat.beq es es') []) (cat2 (snEq off off') (cat2 (snEq len len') (snEq cap cap')))
 | .val v,.sl id' _ off' len' cap'=>match v with
   | .slice none 0 0=>when (qkO σ id') [off'.v=0,len'.v=0,cap'.v=0]
   | _=>none
 | .roi k xs,.roi k' ys=>when (keq k k') [xs=ys]
 | .rol k xs,.rol k' ys=>when (keq k k') [xs=ys]
 | .ror k es xs,.ror k' es' ys=>when (keq k k' && Nat.beq es es') [xs=ys]
 | .roe cols n,.roe cols' n'=>some [cols=cols',n=n']
 | .roa q,.roa q'=>some [q=q']
 | .rop c off,.rop c' off'=>cat2 (when (qkM c) [c=c']) (snEq off off')
 | .yld id,.yld id'=>when (isId σ id' id) []
 | .fn f a b,.fn f' a' b'=>cat2 (when (Nat.beq f f') []) (cat2 (leqL σ a a') (leqL σ b b'))
 | _,_=>none
def leqL (σ:Ren):List SVal->List SVal->Option (List Prop)
 | [],[]=>some []
 | s :: l,t :: m=>cat2 (leq σ s t) (leqL σ l m)
 | _,_=>none
def leqC (σ:Ren):List SVal->List SVal->Option (List Prop)
 | [],[]=>some []
 | s :: l,t :: m=>match t with
   | .junk=>none
   | t=>cat2 (leq σ s t) (leqC σ l m)
 | _,_=>none
end
def leqH (σ:Ren) (h:Heap):Heap->Option (List Prop)
 | []=>some []
 | (id,c) :: r=>match σ id with
   | some (some i)=>match look h i with
     | .junk=>none
     | .row k n xs=>match c with
       | .seq k' ys=>cat2 (when (keq k k') [xs=ys]) (leqH σ h r)
       | .row k' n' ys=>cat2 (when (keq k k' && Nat.beq n n') [xs=ys]) (leqH σ h r)
       | _=>none
     | d=>match c with
       | .junk=>none
       | c=>cat2 (leq σ d c) (leqH σ h r)
   | some none=>match c with
     | .seq _ []=>leqH σ h r
     | .seq _ xs=>cat2 (some [xs=[]]) (leqH σ h r)
     | _=>none
   | none=>none
def qe4 (σ:Ren) (i:Nat):Heap->Bool
 | []=>true
 | (j,_) :: r => !(Nat.beq i j) && (match σ i,σ j with
   | some (some a),some (some b) => !(Nat.beq a b)
   | _,_=>true) && qe4 σ i r
def qe5 (σ:Ren):Heap->Bool
 | []=>true
 | (i,_) :: r=>qe4 σ i r && qe5 σ r
def allP:List Prop->Prop
 | []=>True
 | p :: r=>match r with
   | []=>p
   | r=>p/\allP r
def entP (σ:Ren) (ts:List SVal) (h:Heap) (ts':List SVal) (h':Heap):Prop :=
 match qe5 σ h',leqL σ ts ts',leqH σ h h' with
 | true,some a,some b=>allP (a++b)
 | _,_,_=>False
def qcG (lo:Nat) (l:List (Option Nat)):Ren:=fun id =>
 match Nat.blt id lo with
 | true=>some (some id)
 | false=>l[id-lo]?
theorem qkP : ∀ {l:List Prop},allP l -> ∀ p ∈ l,p
 | [p],h,q,hq=>by rw[List.mem_singleton.1 hq];exact h
 | p :: p' :: r,h,q,hq=>by
   rcases List.mem_cons.1 hq with rfl|hq
   · exact h.1
   · exact qkP (l:=p' :: r) h.2 q hq
theorem qaK {a b:Option (List Prop)} {ps:List Prop} (h:cat2 a b=some ps) (hp : ∀ p ∈ ps,p) : ∃ xs ys,a=some xs/\b=some ys/\(∀ p ∈ xs,p) /\ ∀ p ∈ ys,p:=by
 unfold cat2 at h
 split at h<;>try (cases h;done)
 split at h<;>try (cases h;done)
 cases h
 exact⟨_,_,rfl,rfl,fun p q=>hp p (List.mem_append_left _ q),fun p q=>hp p (List.mem_append_right _ q)⟩
theorem qab {b:Bool} {xs ps:List Prop} (h:when b xs=some ps) (hp : ∀ p ∈ ps,p):b=true /\ ∀ p ∈ xs,p:=by
 unfold when at h
 split at h
 ·cases h;exact⟨rfl,hp⟩
 ·cases h
theorem qdD {a b:SN} {ps:List Prop} (h:snEq a b=some ps) (hp : ∀ p ∈ ps,p):a.v=b.v:=by
 unfold snEq at h
 split at h
 ·have:=(qab h hp).1
  exact Nat.eq_of_beq_eq_true this
 ·cases h
  exact hp _ (List.mem_singleton_self _)
def qQ (σ:Ren) (ρ:Rho):Rho:=fun id =>
 match σ id with
 | some (some i)=>ρ i
 | _=>⟨0,0,0,true⟩
theorem qhy {σ:Ren} {ρ:Rho} {id' id:Nat} (h:isId σ id' id=true):σ id'=some (some id)/\qQ σ ρ id'=ρ id:=by
 unfold isId at h
 split at h
 ·rename_i i hs
  have:=Nat.eq_of_beq_eq_true h
  subst this
  exact⟨hs,by simp only[qQ,hs]⟩
 ·cases h
def Via (σ:Ren) (U:Top):Top:=fun id=>σ id=some none \/ ∃ i,σ id=some (some i)/\U i
section
variable {ρ:Rho} {H:Snap} {σ:Ren} {U:Top}
theorem qkQ {s t:SVal} {ps:List Prop} {v:Value} (hr:t ≠ .junk -> ∀ vs,Rep ρ H s vs->Rep (qQ σ ρ) H t vs/\IdsLt (Via σ U) t) (hl:leq σ s t=some ps) (hd:Den ρ H s v):Den (qQ σ ρ) H t v/\IdsLt (Via σ U) t:=by
 cases t
 case junk=>exact⟨trivial,trivial⟩
 case agg m =>
  cases s<;>simp only[leq]at hl<;>try (cases hl;done)
  obtain⟨us,h1,rfl⟩:=hd
  obtain⟨q1,q2⟩:=hr (by simp) us (by simpa only[Rep]using h1)
  exact⟨⟨us,by simpa only[Rep]using q1,rfl⟩,q2⟩
 case row k n xs =>
  cases s<;>simp only[leq]at hl<;>try (cases hl;done)
  ·rename_i k' n' ys
   obtain⟨h1,rfl⟩:=hd
   obtain⟨q1,q2⟩:=hr (by simp) (ys.map (Value.int k')) ⟨h1,rfl⟩
   simp only[Rep]at q1
   exact⟨⟨q1.1,by rw[q1.2]⟩,q2⟩
  ·obtain⟨us,h1,rfl⟩:=hd
   obtain⟨q1,q2⟩:=hr (by simp) us (by simpa only[Rep]using h1)
   simp only[Rep]at q1
   exact⟨⟨q1.1,by rw[q1.2]⟩,q2⟩
 case ab p =>
  cases s<;>simp only[leq]at hl<;>try (cases hl;done)
  ·obtain⟨h1,rfl⟩:=hd
   obtain⟨q1,q2⟩:=hr (by simp) _ ⟨h1,rfl⟩
   simp only[Rep]at q1
   obtain⟨xs,e,h⟩:=q1
   exact⟨⟨xs,h,by rw[e]⟩,q2⟩
  ·obtain⟨us,h1,rfl⟩:=hd
   obtain⟨q1,q2⟩:=hr (by simp) us (by simpa only[Rep]using h1)
   simp only[Rep]at q1
   obtain⟨xs,rfl,h⟩:=q1
   exact⟨⟨xs,h,rfl⟩,q2⟩
  ·obtain⟨xs,h,rfl⟩:=hd
   obtain⟨q1,q2⟩:=hr (by simp) _ ⟨xs,rfl,h⟩
   simp only[Rep]at q1
   obtain⟨ys,e,h⟩:=q1
   exact⟨⟨ys,h,by rw[e]⟩,q2⟩
 all_goals
  have hd':Rep ρ H s [v]:=by
   cases s<;>simp only[leq]at hl<;>first|(cases hl;done)|exact hd
  exact hr (by simp) [v] hd'
mutual
theorem qe6 : ∀ (s t:SVal) {ps:List Prop} {vs:List Value},leq σ s t=some ps->(∀ p ∈ ps,p)->t ≠ .junk->Rep ρ H s vs->IdsLt U s->Rep (qQ σ ρ) H t vs/\IdsLt (Via σ U) t
 | s,t,ps,vs,hl,hp,ht,hr,hi=>by
   cases t<;>first|exact absurd rfl ht|skip
   all_goals (cases s<;>simp only[leq]at hl<;>try (cases hl;done))
   case lit.lit k m k' n =>
     obtain⟨h1,_⟩:=qab hl hp
     simp only[Bool.and_eq_true,decide_eq_true_eq]at h1
     obtain⟨h1,rfl⟩:=h1
     rw[<- keq_iff.1 h1]
     exact⟨hr,trivial⟩
   case int.lit k m k' n =>
     obtain⟨h1,h2⟩:=qab hl hp
     have h2:=h2 _ (List.mem_singleton_self _)
     subst h2
     rw[<- keq_iff.1 h1]
     simp only[Rep]at hr ⊢
     exact⟨hr,trivial⟩
   case int.int k m k' n =>
     obtain⟨h1,h2⟩:=qab hl hp
     have h2:=h2 _ (List.mem_singleton_self _)
     subst h2
     rw[<- keq_iff.1 h1]
     exact⟨hr,trivial⟩
   case bl.bl b c =>
     obtain⟨h1,_⟩:=qab hl hp
     rw[<- eq_of_beq h1]
     exact⟨hr,trivial⟩
   case bs.bl b c =>
     cases hl
     have h2:=hp _ (List.mem_singleton_self _)
     subst h2
     simp only[Rep]at hr ⊢
     exact⟨hr,trivial⟩
   case bs.bs b c =>
     cases hl
     have h2:=hp _ (List.mem_singleton_self _)
     subst h2
     exact⟨hr,trivial⟩
   case val.val b c =>
     cases hl
     have h2:=hp _ (List.mem_singleton_self _)
     subst h2
     exact⟨hr,trivial⟩
   case row.row k n xs k' n' ys =>
     obtain⟨h1,h2⟩:=qab hl hp
     have h2:=h2 _ (List.mem_singleton_self _)
     subst h2
     simp only[Bool.and_eq_true]at h1
     rw[<- keq_iff.1 h1.1,<- Nat.eq_of_beq_eq_true h1.2]
     exact⟨hr,trivial⟩
   case sab.sab q q' =>
     cases hl
     have h2:=hp _ (List.mem_singleton_self _)
     subst h2
     exact⟨hr,trivial⟩
   case ab.ab q q' =>
     cases hl
     have h2:=hp _ (List.mem_singleton_self _)
     subst h2
     exact⟨hr,trivial⟩
   case ab.row q k n xs =>
     obtain⟨h1,h2⟩:=qab hl hp
     have h2:=h2 _ (List.mem_singleton_self _)
     simp only[Rep]at hr ⊢
     rw[<- keq_iff.1 h1]
     exact⟨⟨xs,hr.2,h2⟩,trivial⟩
   case row.agg k n xs l =>
     cases hl
     have h2:=hp _ (List.mem_singleton_self _)
     simp only[Rep]at hr ⊢
     obtain⟨h3,h4⟩:=h2 _ _ _ hr
     exact⟨⟨h4,h3⟩,trivial⟩
   case ab.agg q l =>
     cases hl
     have h2:=hp _ (List.mem_singleton_self _)
     simp only[Rep]at hr ⊢
     exact⟨h2 _ _ _ hr,trivial⟩
   case seq.seq k xs k' ys =>
     obtain⟨h1,h2⟩:=qab hl hp
     have h2:=h2 _ (List.mem_singleton_self _)
     subst h2
     rw[<- keq_iff.1 h1]
     exact⟨hr,trivial⟩
   case lck.lck k xs k' ys =>
     obtain⟨h1,h2⟩:=qab hl hp
     have h2:=h2 _ (List.mem_singleton_self _)
     subst h2
     rw[<- keq_iff.1 h1]
     exact⟨hr,trivial⟩
   case agg.agg m l =>
     simp only[Rep]at hr ⊢
     exact qkR l m hl hp hr hi
   case lst.lst m l =>
     simp only[Rep]at hr ⊢
     obtain⟨h1,h2⟩:=qcH l m hl hp hr.1 hi
     exact⟨⟨h1,hr.2⟩,h2⟩
   case lsr.lsr m yss l xss =>
     obtain⟨xs,ys,h1,h2,h3,h4⟩:=qaK hl hp
     cases h2
     have h5:=h4 _ (List.mem_singleton_self _)
     subst h5
     simp only[Rep]at hr ⊢
     obtain⟨us,ws,e,r1,r2⟩:=hr
     obtain⟨g1,g2⟩:=qcH l m h1 h3 r1 hi
     exact⟨⟨us,ws,e,g1,r2⟩,g2⟩
   case tup.tup m l =>
     simp only[Rep]at hr ⊢
     obtain⟨ws,e,hr⟩:=hr
     obtain⟨h1,h2⟩:=qcH l m hl hp hr hi
     exact⟨⟨ws,e,h1⟩,h2⟩
   case ptr.ptr id' off' id off =>
     obtain⟨xs,ys,h1,h2,h3,h4⟩:=qaK hl hp
     obtain⟨h1,_⟩:=qab h1 h3
     obtain⟨q1,q2⟩:=qhy (ρ:=ρ) h1
     simp only[Rep]at hr ⊢
     rw[q2,<- qdD h2 h4]
     exact⟨hr,.inr ⟨_,q1,hi⟩⟩
   case yld.yld id' id =>
     obtain⟨h1,_⟩:=qab hl hp
     obtain⟨q1,q2⟩:=qhy (ρ:=ρ) h1
     simp only[Rep]at hr ⊢
     rw[q2]
     exact⟨hr,.inr ⟨_,q1,hi⟩⟩
   case sl.sl id' es' off' len' cap' id es off len cap =>
     obtain⟨xs,ys,h1,h2,h3,h4⟩:=qaK hl hp
     obtain⟨h1,_⟩:=qab h1 h3
     simp only[Bool.and_eq_true]at h1
     obtain⟨q1,q2⟩:=qhy (ρ:=ρ) h1.1
     obtain⟨xs2,ys2,h5,h6,h7,h8⟩:=qaK h2 h4
     obtain⟨xs3,ys3,h9,h10,h11,h12⟩:=qaK h6 h8
     simp only[Rep]at hr ⊢
     rw[q2,<- qdD h5 h7,<- qdD h9 h11,<- qdD h10 h12,<- Nat.eq_of_beq_eq_true h1.2]
     exact⟨hr,.inr ⟨_,q1,hi⟩⟩
   case sl.val id' es' off' len' cap' v =>
     split at hl<;>try (cases hl;done)
     obtain⟨h1,h2⟩:=qab hl hp
     have e1:=h2 (off'.v=0) (by simp)
     have e2:=h2 (len'.v=0) (by simp)
     have e3:=h2 (cap'.v=0) (by simp)
     have hg:σ id'=some none:=by
       unfold qkO at h1
       split at h1
       · assumption
       · cases h1
     have hρ:qQ σ ρ id'=⟨0,0,0,true⟩:=by simp only[qQ,hg]
     simp only[Rep]at hr ⊢
     rw[hρ,e1,e2,e3]
     exact⟨⟨none,hr.1,Nat.le_refl _,by simp,fun _=>⟨rfl,rfl⟩,by simp⟩,.inl hg⟩
   case roi.roi k xs k' ys =>
     obtain⟨h1,h2⟩:=qab hl hp
     have h2:=h2 _ (List.mem_singleton_self _)
     subst h2
     rw[<- keq_iff.1 h1]
     exact⟨hr,trivial⟩
   case rol.rol k xs k' ys =>
     obtain⟨h1,h2⟩:=qab hl hp
     have h2:=h2 _ (List.mem_singleton_self _)
     subst h2
     rw[<- keq_iff.1 h1]
     exact⟨hr,trivial⟩
   case ror.ror k n xs k' n' ys =>
     obtain⟨h1,h2⟩:=qab hl hp
     have h2:=h2 _ (List.mem_singleton_self _)
     subst h2
     simp only[Bool.and_eq_true]at h1
     rw[<- keq_iff.1 h1.1,<- Nat.eq_of_beq_eq_true h1.2]
     exact⟨hr,trivial⟩
   case roe.roe cols n cols' n' =>
     simp only[Option.some.injEq]at hl
     subst hl
     have e1:=hp (cols'=cols) (by simp)
     have e2:=hp (n'=n) (by simp)
     subst e1;subst e2
     exact⟨hr,trivial⟩
   case roa.roa q q' =>
     cases hl
     have h2:=hp _ (List.mem_singleton_self _)
     subst h2
     exact⟨hr,trivial⟩
   case rop.rop c' off' c off =>
     obtain⟨xs,ys,h1,h2,h3,h4⟩:=qaK hl hp
     obtain⟨hfr,h5⟩:=qab h1 h3
     have h5:=h5 _ (List.mem_singleton_self _)
     subst h5
     have hcl:IdsLt noId (SVal.rop c off):=(qkN (c:=c) hfr:IdsLt noId c)
     have hr':Rep (qQ σ ρ) H (.rop c off) vs:=Rep.ext (t:=noId) (fun i h=>h.elim) (fun _ _ h=>h) _ hcl hr
     have e:=qdD h2 h4
     refine⟨?_,IdsLt.of_no (s :=.rop c off') (qkN (c:=c) hfr:IdsLt noId c)⟩
     cases c<;>simp only[Rep,e]at hr' ⊢ <;> exact hr'
   case fn.fn f' a' b' f a b =>
     obtain⟨xs,ys,h1,h2,h3,h4⟩:=qaK hl hp
     obtain⟨h1,_⟩:=qab h1 h3
     obtain⟨xs2,ys2,h5,h6,h7,h8⟩:=qaK h2 h4
     have:=Nat.eq_of_beq_eq_true h1
     subst this
     simp only[Rep]at hr ⊢
     obtain⟨fs,cs,e,r1,r2⟩:=hr
     obtain⟨d1,d2⟩:=qcH a a' h5 h7 r1 hi.1
     obtain⟨d3,d4⟩:=qcH b b' h6 h8 r2 hi.2
     exact⟨⟨fs,cs,e,d1,d3⟩,d2,d4⟩
theorem qcH : ∀ (l m:List SVal) {ps:List Prop} {vs:List Value},leqL σ l m=some ps->(∀ p ∈ ps,p)->RepV ρ H l vs->IdsLtL U l->RepV (qQ σ ρ) H m vs/\IdsLtL (Via σ U) m
 | [],[],ps,vs,hl,hp,hr,hi=>⟨hr,trivial⟩
 | s :: l,t :: m,ps,vs,hl,hp,hr,hi=>by
   simp only[leqL]at hl
   obtain⟨xs,ys,h1,h2,h3,h4⟩:=qaK hl hp
   obtain⟨v,ws,rfl,r1,r2⟩:=RepV_cons.1 hr
   obtain⟨d1,d2⟩:=qcH l m h2 h4 r2 hi.2
   obtain⟨d3,d4⟩:=qkQ (fun ht vs hr'=>qe6 s t h1 h3 ht hr' hi.1) h1 r1
   exact⟨RepV_cons.2 ⟨v,ws,rfl,d3,d1⟩,d4,d2⟩
 | [],_ :: _,ps,vs,hl,hp,hr,hi=>by simp[leqL]at hl
 | _ :: _,[],ps,vs,hl,hp,hr,hi=>by simp[leqL]at hl
theorem qkR : ∀ (l m:List SVal) {ps:List Prop} {vs:List Value},leqC σ l m=some ps->(∀ p ∈ ps,p)->RepC ρ H l vs->IdsLtL U l->RepC (qQ σ ρ) H m vs/\IdsLtL (Via σ U) m
 | [],[],ps,vs,hl,hp,hr,hi=>⟨hr,trivial⟩
 | s :: l,t :: m,ps,vs,hl,hp,hr,hi=>by
   have ht:t ≠ .junk:=by rintro rfl;simp[leqC]at hl
   have hl':cat2 (leq σ s t) (leqC σ l m)=some ps:=by
     cases t<;>first|exact absurd rfl ht|simpa only[leqC]using hl
   obtain⟨xs,ys,h1,h2,h3,h4⟩:=qaK hl' hp
   obtain⟨us,ws,rfl,r1,r2⟩:=RepC_cons.1 hr
   obtain⟨d1,d2⟩:=qe6 s t h1 h3 ht r1 hi.1
   obtain⟨d3,d4⟩:=qkR l m h2 h4 r2 hi.2
   exact⟨RepC_cons.2 ⟨us,ws,rfl,d1,d3⟩,d2,d4⟩
 | [],_ :: _,ps,vs,hl,hp,hr,hi=>by simp[leqC]at hl
 | _ :: _,[],ps,vs,hl,hp,hr,hi=>by simp[leqC]at hl
end
end
end Go.Sx
end
section
namespace Go.Sx
section
variable {P:Program} {E:Env} {ρ:Rho} {H:Snap} {σ:Ren} {U:Top} {ts ts2:List SVal} {h h2:Heap} {a:Act} {w:World}
theorem qkS : ∀ {l m:List SVal} {ps:List Prop},leqL σ l m=some ps->(∀ p ∈ ps,p)->l.length=m.length /\ ∀ i,∃ qs,leq σ (getT l i) (getT m i)=some qs /\ ∀ p ∈ qs,p
 | [],[],ps,hl,hp=>⟨rfl,fun i=>⟨[],by simp[getT,leq],by intro p hp;cases hp⟩⟩
 | s :: l,t :: m,ps,hl,hp=>by
   simp only[leqL]at hl
   obtain⟨xs,ys,h1,h2,h3,h4⟩:=qaK hl hp
   obtain⟨h5,h6⟩:=qkS h2 h4
   refine⟨by simp[h5],fun i => ?_⟩
   cases i with
   | zero=>exact⟨xs,h1,h3⟩
   | succ i=>exact h6 i
 | [],_ :: _,ps,hl,hp=>by simp[leqL]at hl
 | _ :: _,[],ps,hl,hp=>by simp[leqL]at hl
theorem qe7 (R:Rel E ρ H ts h U a w) : ∀ {h2:Heap} {ps:List Prop},leqH σ h h2=some ps->(∀ p ∈ ps,p) -> ∀ kid c,(kid,c) ∈ h2->(Via σ U kid/\IdsLt (Via σ U) c)/\(qat (qQ σ ρ) kid c \/ ∃ arr t vs,Lies (qQ σ ρ) H w kid c arr t vs) /\
  ∀ i,σ kid=some (some i)->look h i ≠ .junk
 | [],ps,hl,hp,kid,c,hm=>by cases hm
 | (j,d) :: r,ps,hl,hp,kid,c,hm=>by
   simp only[leqH]at hl
   rcases hσ:σ j with _|_|i
   · simp only[hσ]at hl;cases hl
   rotate_left
   · simp only[hσ]at hl
     have hρ:qQ σ ρ j=ρ i:=by simp only[qQ,hσ]
     have key : ∀ {xs:Option (List Prop)} {e:SVal},look h i=e->e ≠ .junk->cat2 xs (leqH σ h r)=some ps->(∀ qs,xs=some qs->(∀ p ∈ qs,p)->(∀ vs,Rep ρ H e vs->Rep (qQ σ ρ) H d vs/\IdsLt (Via σ U) d)/\(∀ k,e=gho k->d=gho k)/\(qah d=false->qah e=false)) ->
         (Via σ U kid/\IdsLt (Via σ U) c)/\(qat (qQ σ ρ) kid c \/ ∃ arr t vs,Lies (qQ σ ρ) H w kid c arr t vs) /\ ∀ i,σ kid=some (some i)->look h i ≠ .junk:=by
       intro xs e he hj hc hx
       obtain⟨qs,ys,h1,h2,h3,h4⟩:=qaK hc hp
       rcases List.mem_cons.1 hm with hm|hm
       · cases hm
         obtain⟨hx1,hx2,hx3⟩:=hx qs h1 h3
         have hjj:look h i ≠ .junk:=by rw[he];exact hj
         have hu:U i:=(R.hids _ _ (q9 rfl hjj)).1
         have hv:Via σ U j :=.inr ⟨i,hσ,hu⟩
         rcases R.lies hjj with hg|⟨arr,t,vs,li⟩
         · obtain⟨g1,g2,k,g3⟩:=hg
           rw[he]at g3
           have hd:=hx2 k g3
           subst hd
           exact⟨⟨hv,by cases k<;>trivial⟩,.inl ⟨by rw[hρ];exact g1,by rw[hρ];exact g2,k,rfl⟩,fun i' e'=>by rw[hσ]at e';cases e';exact hjj⟩
         · have hrep:=li.rep
           rw[he]at hrep
           obtain⟨r1,r2⟩:=hx1 vs hrep
           exact⟨⟨hv,r2⟩,.inr ⟨arr,t,vs,by rw[hρ];exact li.real,by rw[hρ];exact li.blk,by rw[hρ];exact li.own,r1,by rw[hρ];exact li.room,by rw[hρ];exact li.fits,by rw[hρ];exact li.cells,fun hd=>li.fz (by rw[he];exact hx3 hd)⟩,fun i' e'=>by rw[hσ]at e';cases e';exact hjj⟩
       · exact qe7 R h2 h4 kid c hm
     have hids : ∀ e,look h i=e->IdsLt U e:=by rintro e rfl;exact R.lids i
     split at hl<;>try (cases hl;done)
     · rename_i k n xs he
       split at hl<;>try (cases hl;done)
       · refine key he (by simp) hl fun qs h1 h2=>⟨fun vs hr => ?_,fun k e=>(by cases k<;>cases e),fun _=>rfl⟩
         obtain⟨q1,q2⟩:=qab h1 h2
         have q2:=q2 _ (List.mem_singleton_self _)
         subst q2
         rw[<- keq_iff.1 q1]
         simp only[Rep]at hr ⊢
         exact⟨hr.2,trivial⟩
       · refine key he (by simp) hl fun qs h1 h2=>⟨fun vs hr => ?_,fun k e=>(by cases k<;>cases e),fun _=>rfl⟩
         obtain⟨q1,q2⟩:=qab h1 h2
         have q2:=q2 _ (List.mem_singleton_self _)
         subst q2
         simp only[Bool.and_eq_true]at q1
         rw[<- keq_iff.1 q1.1,<- Nat.eq_of_beq_eq_true q1.2]
         exact⟨hr,trivial⟩
     · rename_i e hn1 hn2
       split at hl<;>try (cases hl;done)
       rename_i hdn
       refine key (e:=look h i) rfl (fun q => ?_) hl fun qs h1 h2=>⟨fun vs hr=>qe6 _ _ h1 h2 (fun q => ?_) hr (R.lids i),fun k q => ?_,fun hd => ?_⟩
       · exact hn1 q
       · exact hdn q
       · rw[q]at h1
         cases k with
         | none =>
           simp only[gho]at h1
           cases d<;>simp only[leq]at h1<;>try (cases h1;done)
           · exact absurd rfl hdn
           · rename_i m yss
             obtain⟨p1,p2,e1,e2,e3,e4⟩:=qaK h1 h2
             cases e2
             have e5:=e4 _ (List.mem_singleton_self _)
             subst e5
             cases m with
             | nil=>rfl
             | cons s m=>simp only[leqL]at e1;cases e1
         | some k =>
           simp only[gho]at h1
           cases d<;>simp only[leq]at h1<;>try (cases h1;done)
           · exact absurd rfl hdn
           · obtain⟨q1,q2⟩:=qab h1 h2
             have q2:=q2 _ (List.mem_singleton_self _)
             rw[<- keq_iff.1 q1,<- q2]
             rfl
       · cases hlk:look h i<;>first|rfl|(rw[hlk]at h1;cases d<;>simp only[leq]at h1<;>first|(cases h1;done)|(exact absurd rfl hdn)|exact absurd hd (by simp[qah]))
   · simp only[hσ]at hl
     have hρ:qQ σ ρ j=⟨0,0,0,true⟩:=by simp only[qQ,hσ]
     split at hl<;>try (cases hl;done)
     · rename_i k
       rcases List.mem_cons.1 hm with hm|hm
       · cases hm
         exact⟨⟨.inl hσ,trivial⟩,.inl ⟨by rw[hρ],by rw[hρ],some k,rfl⟩,fun i e=>by rw[hσ]at e;cases e⟩
       · exact qe7 R hl hp kid c hm
     · rename_i k xs _
       obtain⟨qs,ys,h1,h2,h3,h4⟩:=qaK hl hp
       cases h1
       have hx:=h3 _ (List.mem_singleton_self _)
       subst hx
       rcases List.mem_cons.1 hm with hm|hm
       · cases hm
         exact⟨⟨.inl hσ,trivial⟩,.inl ⟨by rw[hρ],by rw[hρ],some k,rfl⟩,fun i e=>by rw[hσ]at e;cases e⟩
       · exact qe7 R h2 h4 kid c hm
theorem qkT {i:Nat} : ∀ {l:Heap},qe4 σ i l=true -> ∀ p ∈ l,i ≠ p.1 /\ ∀ x y,σ i=some (some x)->σ p.1=some (some y)->x ≠ y
 | (j,d) :: r,hl,p,hp=>by
   simp only[qe4,Bool.and_eq_true,Bool.not_eq_true']at hl
   obtain⟨⟨h1,h2⟩,h3⟩:=hl
   rcases List.mem_cons.1 hp with rfl|hp
   · refine⟨?_,fun x y hx hy => ?_⟩
     · rintro rfl;rw[Nat.beq_refl]at h1;cases h1
     · dsimp only at hy
       simp only[hx,hy,Bool.not_eq_true']at h2
       rintro rfl;rw[Nat.beq_refl]at h2;cases h2
   · exact qkT h3 p hp
theorem qkU (hg : ∀ g,IdsLt noId (E.glob g)) (R:Rel E ρ H ts h U a w) (hP:entP σ ts h ts2 h2):Rel E (qQ σ ρ) H ts2 h2 (Via σ U) a w:=by
 unfold entP at hP
 split at hP<;>try (exact hP.elim)
 rename_i ps qs hA h1 h3
 have hall:=qkP hP
 obtain⟨hlen,hget⟩:=qkS h1 fun p hp=>hall p (List.mem_append_left _ hp)
 have hH:=qe7 R h3 fun p hp=>hall p (List.mem_append_right _ hp)
 have hd : ∀ i,Den (qQ σ ρ) H (getT ts2 i) (a.tmps.getD i undef)/\IdsLt (Via σ U) (getT ts2 i):=fun i=>by
  obtain⟨rs,q1,q2⟩:=hget i
  exact qkQ (fun ht vs hr=>qe6 _ _ q1 q2 ht hr (R.ids i)) q1 (R.den i)
 refine⟨by rw[<- hlen];exact R.len,fun i=>(hd i).1,fun i=>(hd i).2,fun id c hc=>(hH id c hc).1,R.agree,⟨fun id c hc=>(hH id c hc).2.1,?_⟩,R.defers,
  fun g=>⟨Den.ext (t:=noId) (fun i h=>h.elim) (fun _ _ h=>h) (hg g) (R.glob g).1,hg g⟩,R.same⟩
 have key : ∀ (l:Heap),qe5 σ l=true->(∀ p ∈ l,p ∈ h2)->l.Pairwise (ApartR (qQ σ ρ)):=by
  intro l
  induction l with
  | nil=>intro _ _;exact .nil
  | cons p l ih =>
    obtain⟨i,d⟩:=p
    intro hl hm
    simp only[qe5,Bool.and_eq_true]at hl
    rw[List.pairwise_cons]
    refine⟨fun q hq => ?_,ih hl.2 fun q hq=>hm q (List.mem_cons_of_mem _ hq)⟩
    obtain⟨g1,g2⟩:=qkT hl.1 q hq
    refine⟨g1,fun e1 e2 => ?_⟩
    dsimp only at e1 ⊢
    have m1:=hH i d (hm _ (List.mem_cons_self ..))
    have m2:=hH q.1 q.2 (hm _ (List.mem_cons_of_mem _ hq))
    rcases m1.1.1 with n1|⟨x,n1,_⟩
    · simp only[qQ,n1]at e1;cases e1
    rcases m2.1.1 with n2|⟨y,n2,_⟩
    · simp only[qQ,n2]at e2;cases e2
    have hxy:=g2 x y n1 n2
    simp only[qQ,n1,n2]at e1 e2 ⊢
    have j1:=q9 rfl (m1.2.2 x n1)
    have j2:=q9 rfl (m2.2.2 y n2)
    have pw : ∀ (l:Heap),l.Pairwise (ApartR ρ) -> ∀ p ∈ l,∀ q ∈ l,p.1 ≠ q.1->ApartR ρ p q:=by
      intro l
      induction l with
      | nil=>intro _ p hp;cases hp
      | cons x l ih =>
        intro hp p hpm q hqm hne
        rw[List.pairwise_cons]at hp
        rcases List.mem_cons.1 hpm with e|hpm
        · rcases List.mem_cons.1 hqm with e'|hqm
          · rw[e,e']at hne;exact absurd rfl hne
          · rw[e];exact hp.1 q hqm
        · rcases List.mem_cons.1 hqm with e'|hqm
          · rw[e'];exact(hp.1 p hpm).symm
          · exact ih hp.2 p hpm q hqm hne
    exact(pw h R.heap.2 _ j1 _ j2 hxy).2 e1 e2
 exact key h2 hA fun p hp=>hp
end
section
variable {P:Program} {E:Env} {Q:SVal->Heap->Nat->Prop} {rs:List ResultVar} {c:Code} {k:List It} {ts:List SVal} {h:Heap} {top:Nat}
theorem qau (hE:EnvG P E) (hI:qaC P E) (hm:P.follows .mixedOrders=true) {n:Nat} (hx:ex P E Q rs n (.code c :: .again c :: k) ts h top):LoopAt P E Q rs c k ts h top:=by
 refine⟨fun hc hk G hG H ρ U a w b r cs R hU hL=>qe0 hE hI hm hG n _ ts h top hx ?_ H ρ U a w b _ cs R hU ⟨_,rfl,_,rfl,hL⟩⟩
 intro y hy
 rcases List.mem_cons.1 hy with rfl|hy
 ·exact hc
 ·rcases List.mem_cons.1 hy with rfl|hy
  ·exact hc
  ·exact hk y hy
theorem qn (hE:EnvG P E) (hI:qaC P E) (hm:P.follows .mixedOrders=true) {X:Type} (S:X->List SVal × Heap) (ok:X->Prop) (μ:X->Nat) (m:Nat)
  (entry : ∃ x σ,ok x/\σ.length<=8*m/\entP (qcG top σ) ts h (S x).1 (S x).2)
  (round : ∀ x,ok x -> ∃ n,ex P E Q rs n (.code c :: .back (fun ts' h' _ =>∃ x' σ,ok x'/\μ x'<μ x/\σ.length<=8*m/\entP (qcG top σ) ts' h' (S x').1 (S x').2) :: k) (S x).1 (S x).2 (top+8*m)) :
  LoopAt P E Q rs c k ts h top:=by
 refine⟨fun hc hk G hG H ρ U a w b r cs R hU hL => ?_⟩
 have low : ∀ {σ:List (Option Nat)} {id:Nat},id<top->qcG top σ id=some (some id):=fun {σ id} hid=>by
  have:Nat.blt id top=true:=Nat.ble_eq_true_of_le hid
  simp only[qcG,this]
 have high : ∀ {σ:List (Option Nat)} {id:Nat} {V:Top},σ.length<=8*m->Via (qcG top σ) V id->id<top+8*m/\(id<top->V id):=fun {σ id V} hσ hv=>by
  by_cases hid:id<top
  ·refine⟨by omega,fun _ => ?_⟩
   rcases hv with hv|⟨i,hv,hi⟩
   ·rw[low hid]at hv;cases hv
   ·rw[low hid]at hv;cases hv;exact hi
  ·refine⟨?_,fun q=>absurd q hid⟩
   have hb:Nat.blt id top=false:=by rw[Bool.eq_false_iff];intro q;exact hid (Nat.le_of_ble_eq_true q)
   have : ∃ x,σ[id-top]?=some x:=by
    rcases hv with hv|⟨i,hv,_⟩<;>simp only[qcG,hb]at hv<;>exact⟨_,hv⟩
   obtain⟨x,hx⟩:=this
   have:=(List.getElem?_eq_some_iff.1 hx).1
   omega
 have main : ∀ (N:Nat) (x:X),μ x=N->ok x -> ∀ (H2:Snap) (ρ2:Rho) (U2:Top) a w,GrowsIf k H H2->(∀ id,U id->U2 id/\ρ2 id=ρ id)->(∀ id,U2 id->U id\/top<=id)->(∀ id,U2 id->id<top+8*m)->Rel E ρ2 H2 (S x).1 (S x).2 U2 a w ->
   G (lone (b.atR a (.code c :: .inLoop c :: r)) cs w):=by
  intro N
  induction N using Nat.strongRecOn with
  | _ N ih =>
    intro x hμ hok H2 ρ2 U2 a w h0 h1 h2 h3 R2
    obtain⟨n,hx⟩:=round x hok
    have hL2:=(Lays.growIf h0 (fun hf hg=>hL.grow hf hg) hL).mono (ρ':=ρ2) (V:=U2) (t':=top+8*m) h1 h2 (Nat.le_add_right ..)
    refine qe0 hE hI hm hG n _ _ _ _ hx ?_ H2 ρ2 U2 a w b _ cs R2 h3 ⟨_,rfl,r,c,rfl,hL2,?_⟩
    · intro y hy
      rcases List.mem_cons.1 hy with rfl|hy
      · exact hc
      · rcases List.mem_cons.1 hy with rfl|hy
        · trivial
        · exact hk y hy
    · intro H' ρ' V top' ts' h' a' w' e0 e1 e2 _ R' ⟨x',σ,hok',hlt,hσ,hent⟩
      refine hG _ _ (.one stepR_inLoop) ?_
      refine ih (μ x') (by omega) x' rfl hok' _ _ _ a' w' (h0.trans e0) (fun id hid => ?_) (fun id hid => ?_) (fun id hid=>(high hσ hid).1) (qkU hE.gid R' hent)
      · have ht:=hU id hid
        have q:=e1 id (h1 id hid).1
        refine⟨.inr ⟨id,low ht,q.1⟩,?_⟩
        simp only[qQ,low ht]
        exact q.2.trans (h1 id hid).2
      · by_cases ht:id<top
        · have:=(high hσ hid).2 ht
          rcases e2 id this with q|q
          · exact h2 id q
          · omega
        · exact .inr (by omega)
 obtain⟨x,σ,hok,hσ,hent⟩:=entry
 refine main (μ x) x rfl hok H _ _ a w (.inl rfl) (fun id hid => ?_) (fun id hid => ?_) (fun id hid=>(high hσ hid).1) (qkU hE.gid R hent)
 ·have ht:=hU id hid
  exact⟨.inr ⟨id,low ht,hid⟩,by simp only[qQ,low ht]⟩
 ·by_cases ht:id<top
  ·exact .inl ((high hσ hid).2 ht)
  ·exact .inr (by omega)
end
end Go.Sx
end
section
namespace Go.Sx
mutual
def flat:SVal->List Value
 | .lit k n=>[.int k n]
 | .bl b=>[.bool b]
 | .val v=>[v]
 | .row k _ xs=>xs.map (Value.int k)
 | .agg l=>qe8 l
 | _=>[]
def qe8:List SVal->List Value
 | []=>[]
 | s :: l=>flat s++qe8 l
end
def oneB:Value->Bool
 | .agg _=>false
 | .tuple _=>false
 | _=>true
mutual
def told:SVal->Bool
 | .lit .. => true
 | .bl _=>true
 | .val v=>oneB v
 | .row _ n xs=>Nat.beq xs.length n
 | .agg l=>qe9 l
 | _=>false
def qe9:List SVal->Bool
 | []=>true
 | s :: l=>told s && qe9 l
end
mutual
theorem qfa {ρ:Rho} {H:Snap} : ∀ (s:SVal),told s=true->Rep ρ H s (flat s)/\IdsLt noId s
 | s,h=>by
   cases s<;>simp only[told]at h<;>try (cases h;done)
   case lit=>exact⟨rfl,trivial⟩
   case bl=>exact⟨rfl,trivial⟩
   case val v=>exact⟨⟨rfl,by cases v<;>first|trivial|cases h⟩,trivial⟩
   case row k n xs=>exact⟨⟨Nat.eq_of_beq_eq_true h,rfl⟩,trivial⟩
   case agg l =>
     obtain⟨h1,h2⟩:=qkV (ρ:=ρ) (H:=H) l h
     exact⟨by simpa only[Rep,flat]using h1,h2⟩
theorem qkV {ρ:Rho} {H:Snap} : ∀ (l:List SVal),qe9 l=true->RepC ρ H l (qe8 l)/\IdsLtL noId l
 | [],_=>⟨rfl,trivial⟩
 | s :: l,h=>by
   simp only[qe9,Bool.and_eq_true]at h
   obtain⟨h1,h2⟩:=qfa (ρ:=ρ) (H:=H) s h.1
   obtain⟨h3,h4⟩:=qkV (ρ:=ρ) (H:=H) l h.2
   exact⟨RepC_cons.2 ⟨_,_,rfl,h1,h3⟩,h2,h4⟩
end
def boxV (ag:Bool) (l:List Value):Value :=
 match ag with
 | true =>.agg l.toArray
 | false=>match l with
   | [v]=>v
   | _=>undef
theorem qpk {ρ:Rho} {H:Snap} {s:SVal} (h:told s=true):Den ρ H s (boxV s.isAgg (flat s)):=by
 have hr:=(qfa (ρ:=ρ) (H:=H) s h).1
 cases s<;>simp only[told]at h<;>try (cases h;done)
 case row k n xs=>exact⟨Nat.eq_of_beq_eq_true h,rfl⟩
 case agg l=>exact⟨qe8 l,by simpa only[Rep,flat]using hr,rfl⟩
 all_goals exact hr
def tdB (d:TypeDesc):TD->Bool
 | .int k=>match d with | .int k'=>keq k k'|_=>false
 | .bool=>match d with | .bool=>true|_=>false
 | .str=>match d with | .string=>true|_=>false
 | .ptr e=>match d with | .pointer e'=>Nat.beq e e'|_=>false
 | .slice e=>match d with | .slice e'=>Nat.beq e e'|_=>false
 | .arr n e=>match d with | .array n' e'=>Nat.beq n n' && Nat.beq e e'|_=>false
 | .st fs=>match d with | .struct l=>decide (fs=l.toList.map fun f=>(f.offset,f.type))|_=>false
 | .other=>match d with | .struct _=>false | .array .. => false|_=>true
def aggB (ti:TI):Bool :=
 match ti.d with
 | .st _=>ti.agg && ti.zero.isAgg
 | .arr .. => ti.agg && ti.zero.isAgg
 | _ => !ti.agg && (Nat.beq ti.size 1 && !ti.zero.isAgg)
theorem qr {P:Program} {t:TypeId} {i:TypeInfo} {d:TypeDesc} {ti:TI} (hi:P.info? t=some i) (hu:P.underlying t=some d) (h1:tdB d ti.d=true) (h2:aggB ti=true) (h3:Nat.blt 0 ti.size=true) (h4:Nat.beq i.size ti.size=true) (h5:Nat.beq i.bytes ti.bytes=true)
  (h6:told ti.zero=true) (h7:Nat.beq (flat ti.zero).length ti.size=true) (h8:i.zero=some (boxV ti.zero.isAgg (flat ti.zero))):TyOk P t ti:=by
 have hcells:(boxV ti.zero.isAgg (flat ti.zero)).cells.toList=flat ti.zero:=by
  generalize hz:ti.zero=z at *
  cases z<;>simp only[told]at h6<;>try (cases h6;done)
  case val v =>
   simp only[boxV,SVal.isAgg,flat]
   cases v<;>first|rfl|(simp[oneB]at h6)
  all_goals rfl
 refine⟨⟨d,hu,?_⟩,?_,⟨i,_,hi,Nat.eq_of_beq_eq_true h4,Nat.eq_of_beq_eq_true h5,h8,?_,fun ρ H=>⟨qpk h6,by rw[hcells];exact(qfa _ h6).1⟩⟩,Nat.le_of_ble_eq_true h3,fun ha => ?_,(qfa (ρ:=ρ0) (H:=⟨fun _=>none,default,[]⟩) _ h6).2⟩
 ·generalize ti.d=td at h1
  cases td<;>simp only[tdB]at h1<;>cases d<;>simp only[TDm]<;>first
   | (cases h1;done)
   | exact congrArg _ (keq_iff.1 h1).symm
   | exact congrArg _ (Nat.eq_of_beq_eq_true h1).symm
   | trivial
   | (simp only[Bool.and_eq_true]at h1;rw[Nat.eq_of_beq_eq_true h1.1,Nat.eq_of_beq_eq_true h1.2])
   | exact⟨_,rfl,of_decide_eq_true h1⟩
   | exact⟨(by rintro ⟨l,h⟩;cases h),(by intro n e h;cases h)⟩
 ·unfold aggB at h2
  split at h2
  ·rename_i fs hd
   simp only[Bool.and_eq_true]at h2
   exact⟨fun _ =>.inl ⟨fs,hd⟩,fun _=>h2.1⟩
  ·rename_i n e hd
   simp only[Bool.and_eq_true]at h2
   exact⟨fun _ =>.inr ⟨n,e,hd⟩,fun _=>h2.1⟩
  ·rename_i n1 n2
   simp only[Bool.and_eq_true,Bool.not_eq_true']at h2
   rw[h2.1]
   refine⟨(fun h=>by cases h),?_⟩
   rintro (⟨fs,h⟩|⟨n,e,h⟩)
   ·exact absurd h (n1 fs)
   ·exact absurd h (n2 n e)
 ·have:=congrArg List.length hcells
  rw[<- Nat.eq_of_beq_eq_true h7,<- this];simp
 ·unfold aggB at h2
  split at h2
  ·simp[ha]at h2
  ·simp[ha]at h2
  ·simp only[Bool.and_eq_true]at h2
   exact Nat.eq_of_beq_eq_true h2.2.1
end Go.Sx
end
section
namespace Go.Sx
def qI (fn:Func):Code :=
 match fn.body with
 | some c=>c
 | none =>.skip
theorem qhz {E E':Env} (h:E.Ω=E'.Ω) (q:PayL):lenO E q=lenO E' q:=by
 unfold lenO;rw[h]
theorem qpl {E E':Env} (h:E.Ω=E'.Ω) (b:Nat) (v:SVal):place E b v=place E' b v:=by
 have key : ∀ (l:List SVal) (b:Nat),place.placeL E b l=place.placeL E' b l:=by
  intro l
  induction l with
  | nil=>intro b;rfl
  | cons s l ih =>
    intro b
    cases s<;>simp only[place.placeL,ih,h,qhz h]
 cases v<;>simp only[place,key,h,qhz h]
theorem PSpecOk.congr {P:Program} {E E':Env} (h:E.Ω=E'.Ω) (hg:E.glob=E'.glob) {g:FuncId} {s:qe} (hs:PSpecOk P E g s):PSpecOk P E' g s:=by
 intro w args vs hgl hr hp
 refine(hs w args vs (by unfold qeR at *;rw[hg];exact hgl) hr hp).mono ?_
 rintro e w' ⟨v,h1,h2,h3,x,h4,h5⟩
 refine⟨v,h1,h2,h3,x,h4,fun b => ?_⟩
 rw[<- qpl h]
 exact h5 b
theorem qkW {E E':Env} (h:E.Ω=E'.Ω) : ∀ (l:List SVal) (b:Nat),place.placeL E b l=place.placeL E' b l:=by
 intro l
 induction l with
 | nil=>intro b;rfl
 | cons s l ih =>
   intro b
   cases s<;>simp only[place.placeL,ih,h,qhz h]
theorem MSpecOk.congr {P:Program} {E E':Env} (h:E.Ω=E'.Ω) (hg:E.glob=E'.glob) {g:FuncId} {ms:qU} (hs:MSpecOk P E g ms):MSpecOk P E' g ms:=by
 intro w Hs ρ d rest vs h1 h1' h2 h3 h4 h5 h6
 refine(hs w Hs ρ d rest vs h1 h1' h2 (by rw[hg];exact h3) h4 (by rw[qkW h];exact h5) h6).mono ?_
 rintro e w' ⟨v,x,q1,q2,q3,q4,q5⟩
 refine⟨v,x,q1,q2,q3,q4,fun b => ?_⟩
 have:=q5 b
 rw[qkW h]at this
 exact this
def getM:List (FuncId × qU)->FuncId->Option qU
 | [],_=>none
 | (g,s) :: r,f=>match Nat.beq g f with
   | true=>some s
   | false=>getM r f
theorem qdE {f:FuncId} {s:qU} : ∀ {l:List (FuncId × qU)},getM l f=some s->(f,s) ∈ l
 | (g,t) :: r,h=>by
   simp only[getM]at h
   split at h
   · rename_i hb
     cases h
     rw[Nat.eq_of_beq_eq_true hb]
     exact List.mem_cons_self ..
   · exact List.mem_cons_of_mem _ (qdE h)
def getX:List (FuncId × XK)->FuncId->Option XK
 | [],_=>none
 | (g,s) :: r,f=>match Nat.beq g f with
   | true=>some s
   | false=>getX r f
theorem qkX {f:FuncId} {s:XK} : ∀ {l:List (FuncId × XK)},getX l f=some s->(f,s) ∈ l
 | (g,t) :: r,h=>by
   simp only[getX]at h
   split at h
   · rename_i hb
     cases h
     rw[Nat.eq_of_beq_eq_true hb]
     exact List.mem_cons_self ..
   · exact List.mem_cons_of_mem _ (qkX h)
def getG:List (FuncId × qe)->FuncId->Option qe
 | [],_=>none
 | (g,s) :: r,f=>match Nat.beq g f with
   | true=>some s
   | false=>getG r f
def getI:List (FuncId × Func)->FuncId->Option Func
 | [],_=>none
 | (g,s) :: r,f=>match Nat.beq g f with
   | true=>some s
   | false=>getI r f
theorem qce {f:FuncId} {s:qe} : ∀ {l:List (FuncId × qe)},getG l f=some s->(f,s) ∈ l
 | (g,t) :: r,h=>by
   simp only[getG]at h
   split at h
   · rename_i hb
     cases h
     rw[Nat.eq_of_beq_eq_true hb]
     exact List.mem_cons_self ..
   · exact List.mem_cons_of_mem _ (qce h)
theorem qdF {f:FuncId} {s:Func} : ∀ {l:List (FuncId × Func)},getI l f=some s->(f,s) ∈ l
 | (g,t) :: r,h=>by
   simp only[getI]at h
   split at h
   · rename_i hb
     cases h
     rw[Nat.eq_of_beq_eq_true hb]
     exact List.mem_cons_self ..
   · exact List.mem_cons_of_mem _ (qdF h)
structure Ctr (P:Program) (T:TypeId->Option TI) (glob:Nat->SVal) (g:FuncId) (s:qe):Prop where
 rid : ∀ args x,IdsLt noId ((s args).res x)
 few : ∀ E:Env,∀ args x b,∀ p ∈ (place E b ((s args).res x)).2,b<=p.1/\p.1<b+8
 closed : ∀ args,(s args).pre->IdsLtL noId args
 some_x : ∀ args,(s args).pre -> ∃ x,(s args).post x
 call:qX P g
 spec:PSpecOk P ⟨T,fun _=>none,fun _=>none,glob,Om.real,fun _=>none,fun _=>none⟩ g s
structure MCtr (P:Program) (T:TypeId->Option TI) (glob:Nat->SVal) (g:FuncId) (ms:qU):Prop where
 mclosed : ∀ d rest,(ms d rest).pre->IdsLtL noId d/\IdsLtL noId rest/\d.length<=8
 mres : ∀ d rest x,IdsLtL noId ((ms d rest).res x++(ms d rest).out x)/\((ms d rest).res x++(ms d rest).out x).length<=8
 call:qX P g
 spec:MSpecOk P ⟨T,fun _=>none,fun _=>none,glob,Om.real,fun _=>none,fun _=>none⟩ g ms
def qD (T:TypeId->Option TI) (glob:Nat->SVal) (l:List (FuncId × qe)) (i:List (FuncId × Func)) (m:List (FuncId × qU)) (x:List (FuncId × XK)) (Ω:Om):Env:=⟨T,getG l,getI i,glob,Ω,getM m,getX x⟩
theorem qhA {P:Program} {T:TypeId->Option TI} {glob:Nat->SVal} (hT : ∀ t ti,T t=some ti->TyOk P t ti) (hg : ∀ g,IdsLt noId (glob g)) (l:List (FuncId × qe)) (i:List (FuncId × Func)) (m:List (FuncId × qU)) (x:List (FuncId × XK)) (hl : ∀ p ∈ l,Ctr P T glob p.1 p.2) (hi : ∀ p ∈ i,qX P p.1) (hmc : ∀ p ∈ m,MCtr P T glob p.1 p.2) (hxk : ∀ p ∈ x,XOk P p.1 p.2) :
  EnvG P (qD T glob l i m x Om.real) where
 om:=rfl
 ext:=fun g k h=>hxk _ (qkX h)
 ty:=hT
 zid:=fun t ti h=>(hT t ti h).zid
 gid:=hg
 rid:=fun g s args y h=>(hl _ (qce h)).rid args y
 few:=fun g s args y h b=>(hl _ (qce h)).few _ args y b
 spec:=fun g s h=>PSpecOk.congr (E:=⟨T,fun _=>none,fun _=>none,glob,Om.real,fun _=>none,fun _=>none⟩) (E':=qD T glob l i m x Om.real) rfl rfl (hl _ (qce h)).spec
 closed:=fun g s args h=>(hl _ (qce h)).closed args
 some_x:=fun g s args h=>(hl _ (qce h)).some_x args
 mspec:=fun g s h=>MSpecOk.congr (E:=⟨T,fun _=>none,fun _=>none,glob,Om.real,fun _=>none,fun _=>none⟩) (E':=qD T glob l i m x Om.real) rfl rfl (hmc _ (qdE h)).spec
 mclosed:=fun g s d rest h hp=>((hmc _ (qdE h)).mclosed d rest hp).2.1
 mres:=fun g s d rest y h=>(hmc _ (qdE h)).mres d rest y
 call:=fun g h=>by
  rcases h with h|h
  ·obtain⟨s,hs⟩:=Option.isSome_iff_exists.1 h
   exact(hl _ (qce hs)).call
  ·simp only[Env.into,Bool.or_eq_true]at h
   rcases h with h|h
   ·obtain⟨s,hs⟩:=Option.isSome_iff_exists.1 h
    exact hi _ (qdF hs)
   ·obtain⟨s,hs⟩:=Option.isSome_iff_exists.1 h
    exact(hmc _ (qdE hs)).call
structure PR.Good (pr:PR) (args:List SVal):Prop where
 rid : ∀ x,IdsLt noId (pr.res x)
 few : ∀ E:Env,∀ x b,∀ p ∈ (place E b (pr.res x)).2,b<=p.1/\p.1<b+8
 closed:pr.pre->IdsLtL noId args
 some_x:pr.pre -> ∃ x,pr.post x
theorem PR.good_none {args:List SVal}:PR.none.Good args:=⟨fun _=>trivial,fun E x b p hp=>by simp[place,PR.none]at hp,fun h=>h.elim,fun h=>h.elim⟩
theorem qkY {P:Program} {T:TypeId->Option TI} {glob:Nat->SVal} (hT : ∀ t ti,T t=some ti->TyOk P t ti) (hg : ∀ g,IdsLt noId (glob g)) (hm:P.follows .mixedOrders=true) {g:FuncId} {fn:Func} {s:qe} (l:List (FuncId × qe)) (i:List (FuncId × Func)) (m:List (FuncId × qU)) (x:List (FuncId × XK))
  (hl : ∀ p ∈ l,Ctr P T glob p.1 p.2) (hi : ∀ p ∈ i,qX P p.1/\P.funcs[p.1]?=some p.2/\qx (qI p.2)=true) (hmc : ∀ p ∈ m,MCtr P T glob p.1 p.2) (hxk : ∀ p ∈ x,XOk P p.1 p.2) (hf:P.funcs[g]?=some fn) (hb:fn.body.isSome=true) (hreg:qx (qI fn)=true) (hcall:qX P g)
  (good : ∀ args,(s args).Good args)
  (hx : ∀ (P':Program) (Ω:Om),Ω=Om.real->EnvG P' (qD T glob l i m x Ω)->qaC P' (qD T glob l i m x Ω)->P'.follows .mixedOrders=true -> ∀ args pr,s args=pr->pr.pre -> ∀ Q:SVal->Heap->Nat->Prop,
   (∀ y r h t,pr.post y->fits (qD T glob l i m x Ω) h r (pr.res y)->Q r h t) -> ∃ n,ex P' (qD T glob l i m x Ω) Q fn.results.toList n [.code (qI fn)] (args++List.replicate (fn.ntmps-args.length) .junk) [] 0) :
  Ctr P T glob g s:=by
 have hE:=qhA hT hg l i m x hl (fun p hp=>(hi p hp).1) hmc hxk
 have hI:qaC P (qD T glob l i m x Om.real):=fun f fn' h=>by
  obtain⟨h1,h2,h3⟩:=hi _ (qdF h)
  refine⟨h2,fun c hc => ?_⟩
  simp only[qI,hc]at h3
  exact h3
 obtain⟨c,hc⟩:=Option.isSome_iff_exists.1 hb
 have hbody:qI fn=c:=by simp only[qI,hc]
 refine⟨fun args=>(good args).rid,fun E args=>(good args).few E,fun args=>(good args).closed,fun args=>(good args).some_x,hcall,
  PSpecOk.congr (E:=qD T glob l i m x Om.real) (E':=⟨T,fun _=>none,fun _=>none,glob,Om.real,fun _=>none,fun _=>none⟩) rfl rfl (qkJ hE hI hm hf hc (by rw[<- hbody];exact hreg) (fun args=>(good args).closed) fun args hp => ?_)⟩
 rw[<- hbody]
 exact hx P Om.real rfl hE hI hm args _ rfl hp _ fun x r h t h1 h2=>⟨x,h1,h2⟩
theorem qk {P:Program} {T:TypeId->Option TI} {glob:Nat->SVal} : ∀ p ∈ ([]:List (FuncId × qU)),MCtr P T glob p.1 p.2:=fun p hp=>by cases hp
theorem qhB {P:Program} {T:TypeId->Option TI} {glob:Nat->SVal} {g:FuncId} {s:qU} {l:List (FuncId × qU)} (h:MCtr P T glob g s) (hl : ∀ p ∈ l,MCtr P T glob p.1 p.2) : ∀ p ∈ (g,s) :: l,MCtr P T glob p.1 p.2:=fun p hp=>by
 rcases List.mem_cons.1 hp with rfl|hp
 ·exact h
 ·exact hl p hp
theorem ql {P:Program} : ∀ p ∈ ([]:List (FuncId × XK)),XOk P p.1 p.2:=fun p hp=>by cases hp
theorem qhC {P:Program} {g:FuncId} {s:XK} {l:List (FuncId × XK)} (h:XOk P g s) (hl : ∀ p ∈ l,XOk P p.1 p.2) : ∀ p ∈ (g,s) :: l,XOk P p.1 p.2:=fun p hp=>by
 rcases List.mem_cons.1 hp with rfl|hp
 ·exact h
 ·exact hl p hp
theorem x_of {P:Program} {g:FuncId} {fn:Func} {k:XK} (hf:P.funcs[g]?=some fn) (hname:(fn.name == "runtime.NumGoroutine")=false) (hb:fn.body.isNone=true) (hn:Extern.findNext fn=none) (he:Extern.find fn=some k.entry):XOk P g k:=fun args w=>run_callFunc_extern hf hname hb hn he args w
theorem qkZ {P:Program} {T:TypeId->Option TI} {glob:Nat->SVal} (hT : ∀ t ti,T t=some ti->TyOk P t ti) (hg : ∀ g,IdsLt noId (glob g)) (hm:P.follows .mixedOrders=true) {g:FuncId} {fn:Func} {s:qe} (l:List (FuncId × qe)) (i:List (FuncId × Func)) (m:List (FuncId × qU))
 (hl : ∀ p ∈ l,Ctr P T glob p.1 p.2) (hi : ∀ p ∈ i,qX P p.1/\P.funcs[p.1]?=some p.2/\qx (qI p.2)=true) (hmc : ∀ p ∈ m,MCtr P T glob p.1 p.2) (hf:P.funcs[g]?=some fn) (hb:fn.body.isSome=true) (hreg:qx (qI fn)=true) (hcall:qX P g)
 (good : ∀ args,(s args).Good args)
 (hx : ∀ (P':Program) (Ω:Om),Ω=Om.real->EnvG P' (qD T glob l i m [] Ω)->qaC P' (qD T glob l i m [] Ω)->P'.follows .mixedOrders=true -> ∀ args pr,s args=pr->pr.pre -> ∀ Q:SVal->Heap->Nat->Prop,
  (∀ x r h t,pr.post x->fits (qD T glob l i m [] Ω) h r (pr.res x)->Q r h t) -> ∃ n,ex P' (qD T glob l i m [] Ω) Q fn.results.toList n [.code (qI fn)] (args++List.replicate (fn.ntmps-args.length) .junk) [] 0) :
 Ctr P T glob g s:=qkY hT hg hm l i m [] hl hi hmc ql hf hb hreg hcall good hx
theorem qaQ {P:Program} {T:TypeId->Option TI} {glob:Nat->SVal} (hT : ∀ t ti,T t=some ti->TyOk P t ti) (hg : ∀ g,IdsLt noId (glob g)) (hm:P.follows .mixedOrders=true) {g:FuncId} {fn:Func} {s:qe} (l:List (FuncId × qe)) (i:List (FuncId × Func))
 (hl : ∀ p ∈ l,Ctr P T glob p.1 p.2) (hi : ∀ p ∈ i,qX P p.1/\P.funcs[p.1]?=some p.2/\qx (qI p.2)=true) (hf:P.funcs[g]?=some fn) (hb:fn.body.isSome=true) (hreg:qx (qI fn)=true) (hcall:qX P g)
 (good : ∀ args,(s args).Good args)
 (hx : ∀ (P':Program) (Ω:Om),Ω=Om.real->EnvG P' (qD T glob l i [] [] Ω)->qaC P' (qD T glob l i [] [] Ω)->P'.follows .mixedOrders=true -> ∀ args pr,s args=pr->pr.pre -> ∀ Q:SVal->Heap->Nat->Prop,
  (∀ x r h t,pr.post x->fits (qD T glob l i [] [] Ω) h r (pr.res x)->Q r h t) -> ∃ n,ex P' (qD T glob l i [] [] Ω) Q fn.results.toList n [.code (qI fn)] (args++List.replicate (fn.ntmps-args.length) .junk) [] 0) :
 Ctr P T glob g s:=qkZ hT hg hm l i [] hl hi qk hf hb hreg hcall good hx
structure MR.Good (m:MR) (d rest:List SVal):Prop where
 closed:m.pre->IdsLtL noId d/\IdsLtL noId rest/\d.length<=8
 res : ∀ x,IdsLtL noId (m.res x++m.out x)/\(m.res x++m.out x).length<=8
theorem MR.good_none {d rest:List SVal}:MR.none.Good d rest:=⟨fun h=>h.elim,fun _=>⟨trivial,Nat.zero_le _⟩⟩
theorem qhD {P:Program} {T:TypeId->Option TI} {glob:Nat->SVal} (hT : ∀ t ti,T t=some ti->TyOk P t ti) (hg : ∀ g,IdsLt noId (glob g)) (hm:P.follows .mixedOrders=true) {g:FuncId} {fn:Func} {ms:qU} (l:List (FuncId × qe)) (i:List (FuncId × Func)) (m:List (FuncId × qU))
  (hl : ∀ p ∈ l,Ctr P T glob p.1 p.2) (hi : ∀ p ∈ i,qX P p.1/\P.funcs[p.1]?=some p.2/\qx (qI p.2)=true) (hmc : ∀ p ∈ m,MCtr P T glob p.1 p.2) (hf:P.funcs[g]?=some fn) (hb:fn.body.isSome=true) (hreg:qx (qI fn)=true) (hcall:qX P g)
  (good : ∀ d rest,(ms d rest).Good d rest)
  (hx : ∀ (P':Program) (Ω:Om),Ω=Om.real->EnvG P' (qD T glob l i m [] Ω)->qaC P' (qD T glob l i m [] Ω)->P'.follows .mixedOrders=true -> ∀ d rest pr,ms d rest=pr->pr.pre -> ∀ Q:SVal->Heap->Nat->Prop,
   (∀ x r h t,pr.post x->qdC (qD T glob l i m [] Ω) h r (pr.res x) (pr.out x)->Q r h t) ->
    ∃ n,ex P' (qD T glob l i m [] Ω) Q fn.results.toList n [.code (qI fn)] ((.ptr 0 (.l 0) :: rest)++List.replicate (fn.ntmps-(.ptr 0 (.l 0) :: rest:List SVal).length) .junk) (heap0 (qD T glob l i m [] Ω) d) 16) :
  MCtr P T glob g ms:=by
 have hE:=qhA hT hg l i m [] hl (fun p hp=>(hi p hp).1) hmc ql
 have hI:qaC P (qD T glob l i m [] Om.real):=fun f fn' h=>by
  obtain⟨h1,h2,h3⟩:=hi _ (qdF h)
  refine⟨h2,fun c hc => ?_⟩
  simp only[qI,hc]at h3
  exact h3
 obtain⟨c,hc⟩:=Option.isSome_iff_exists.1 hb
 have hbody:qI fn=c:=by simp only[qI,hc]
 refine⟨fun d rest=>(good d rest).closed,fun d rest=>(good d rest).res,hcall,
  MSpecOk.congr (E:=qD T glob l i m [] Om.real) (E':=⟨T,fun _=>none,fun _=>none,glob,Om.real,fun _=>none,fun _=>none⟩) rfl rfl (qpj hE hI hm hf hc (by rw[<- hbody];exact hreg) (fun d rest=>(good d rest).closed) fun d rest hp => ?_)⟩
 rw[<- hbody]
 exact hx P Om.real rfl hE hI hm d rest _ rfl hp _ fun x r h t h1 h2=>⟨x,h1,h2⟩
end Go.Sx
end
section
namespace Go.Sx
def Opn (a c:SVal):Prop :=
 match a with
 | .ab (.pt P) =>∃ X Y Z:Fp,c = .agg [.ab (.fe X),.ab (.fe Y),.ab (.fe Z)]/\P.on/\Z ≠ 0/\X=P.x*Z/\Y=P.y*Z
 | .ab (.rp P) =>∃ X Y Z:Fp,c = .agg [.ab (.re X),.ab (.re Y),.ab (.re Z)]/\P.on/\Z ≠ 0/\X=P.x*Z/\Y=P.y*Z
 | .ab p =>∃ xs,c = .row p.k p.n xs/\p.ok xs
 | a=>c=a
def OpnL:List SVal->List SVal->Prop
 | [],cs=>cs=[]
 | a :: l,cs =>∃ c m,cs=c :: m/\Opn a c/\OpnL l m
section
variable {ρ:Rho} {H:Snap}
theorem qk4 {k:Fp->Pay} {ok:Fp->List Int->Prop} (hk : ∀ x,(k x).ok=ok x) {q:Pay} (hq : ∀ x,(k x).k=q.k) {xs:List Int} {X Y Z:Fp} {a b c:List Int} (e:xs=a++(b++c)) (h1:ok X a) (h2:ok Y b) (h3:ok Z c) :
  Den ρ H (.agg [.ab (k X),.ab (k Y),.ab (k Z)]) (.agg (xs.map (Value.int q.k)).toArray):=by
 refine⟨xs.map (Value.int q.k),?_,rfl⟩
 rw[e,List.map_append,List.map_append]
 refine RepC_cons.2 ⟨_,_,rfl,?_,RepC_cons.2 ⟨_,_,rfl,?_,RepC_cons.2 ⟨_,[],(List.append_nil _).symm,?_,rfl⟩⟩⟩
 ·simp only[Rep];exact⟨a,by rw[hq],by rw[hk];exact h1⟩
 ·simp only[Rep];exact⟨b,by rw[hq],by rw[hk];exact h2⟩
 ·simp only[Rep];exact⟨c,by rw[hq],by rw[hk];exact h3⟩
theorem Opn.ok {a:SVal} {v:Value} (hd:Den ρ H a v) (hi:IdsLt noId a) : ∃ c,Opn a c/\Den ρ H c v/\IdsLt noId c:=by
 have row : ∀ p:Pay,Den ρ H (.ab p) v -> ∃ c,(∃ xs,c = .row p.k p.n xs/\p.ok xs)/\Den ρ H c v/\IdsLt noId c:=by
  rintro p ⟨xs,h1,h2⟩
  exact⟨_,⟨xs,rfl,h1⟩,⟨Pay.len h1,h2⟩,trivial⟩
 cases a with
 | ab p =>
   cases p with
   | pt P =>
     obtain⟨xs,⟨h1,X,Y,Z,a,b,c,e,h2,h3,h4,h5⟩,rfl⟩:=hd
     exact⟨_,⟨X,Y,Z,rfl,h1,h5⟩,qk4 (k:=Pay.fe) (fun _=>rfl) (fun _=>rfl) e h2 h3 h4,⟨trivial,trivial,trivial,trivial⟩⟩
   | rp P =>
     obtain⟨xs,⟨h1,X,Y,Z,a,b,c,e,h2,h3,h4,h5⟩,rfl⟩:=hd
     exact⟨_,⟨X,Y,Z,rfl,h1,h5⟩,qk4 (k:=Pay.re) (fun _=>rfl) (fun _=>rfl) e h2 h3 h4,⟨trivial,trivial,trivial,trivial⟩⟩
   | _=>exact row _ hd
 | _=>exact⟨_,rfl,hd,hi⟩
theorem OpnL.ok : ∀ {l:List SVal} {vs:List Value},RepV ρ H l vs->IdsLtL noId l -> ∃ cs,OpnL l cs/\RepV ρ H cs vs/\IdsLtL noId cs
 | [],vs,hr,_=>⟨[],rfl,hr,trivial⟩
 | a :: l,vs,hr,hi=>by
   obtain⟨v,ws,rfl,h1,h2⟩:=RepV_cons.1 hr
   obtain⟨c,h3,h4,h5⟩:=Opn.ok h1 hi.1
   obtain⟨m,h6,h7,h8⟩:=OpnL.ok h2 hi.2
   exact⟨c :: m,⟨c,m,rfl,h3,h6⟩,RepV_cons.2 ⟨v,ws,rfl,h4,h7⟩,h5,h8⟩
end
theorem qcI {P:AP} {X Y Z:Fp} (h:P.on) (hz:Z ≠ 0) (hx:X=P.x*Z) (hy:Y=P.y*Z):qdh [.ab (.fe X),.ab (.fe Y),.ab (.fe Z)] (.pt P):=by
 intro ρ H us hr
 obtain⟨u1,w1,rfl,h1,r1⟩:=RepC_cons.1 hr
 obtain⟨u2,w2,rfl,h2,r2⟩:=RepC_cons.1 r1
 obtain⟨u3,w3,rfl,h3,r3⟩:=RepC_cons.1 r2
 simp only[RepC]at r3
 subst r3
 simp only[Rep]at h1 h2 h3
 obtain⟨a,rfl,h1⟩:=h1
 obtain⟨b,rfl,h2⟩:=h2
 obtain⟨c,rfl,h3⟩:=h3
 exact⟨a++(b++c),by simp[Pay.k],h,X,Y,Z,a,b,c,rfl,h1,h2,h3,hz,hx,hy⟩
theorem qk5 {P:AP} {X Y Z:Fp} (h:P.on) (hz:Z ≠ 0) (hx:X=P.x*Z) (hy:Y=P.y*Z):qdh [.ab (.re X),.ab (.re Y),.ab (.re Z)] (.rp P):=by
 intro ρ H us hr
 obtain⟨u1,w1,rfl,h1,r1⟩:=RepC_cons.1 hr
 obtain⟨u2,w2,rfl,h2,r2⟩:=RepC_cons.1 r1
 obtain⟨u3,w3,rfl,h3,r3⟩:=RepC_cons.1 r2
 simp only[RepC]at r3
 subst r3
 simp only[Rep]at h1 h2 h3
 obtain⟨a,rfl,h1⟩:=h1
 obtain⟨b,rfl,h2⟩:=h2
 obtain⟨c,rfl,h3⟩:=h3
 exact⟨a++(b++c),by simp[Pay.k],h,X,Y,Z,a,b,c,rfl,h1,h2,h3,hz,hx,hy⟩
theorem qpC {P:Program} {T:TypeId->Option TI} {glob:Nat->SVal} (hT : ∀ t ti,T t=some ti->TyOk P t ti) (hg : ∀ g,IdsLt noId (glob g)) (hm:P.follows .mixedOrders=true) {g:FuncId} {fn:Func} {s:qe} (l:List (FuncId × qe)) (i:List (FuncId × Func)) (m:List (FuncId × qU)) (x:List (FuncId × XK))
  (hl : ∀ p ∈ l,Ctr P T glob p.1 p.2) (hi : ∀ p ∈ i,qX P p.1/\P.funcs[p.1]?=some p.2/\qx (qI p.2)=true) (hmc : ∀ p ∈ m,MCtr P T glob p.1 p.2) (hxk : ∀ p ∈ x,XOk P p.1 p.2) (hf:P.funcs[g]?=some fn) (hb:fn.body.isSome=true) (hreg:qx (qI fn)=true) (hcall:qX P g)
  (good : ∀ args,(s args).Good args)
  (hx : ∀ (P':Program) (Ω:Om),Ω=Om.real->EnvG P' (qD T glob l i m x Ω)->qaC P' (qD T glob l i m x Ω)->P'.follows .mixedOrders=true -> ∀ args pr,s args=pr->pr.pre -> ∀ cs,OpnL args cs -> ∀ Q:SVal->Heap->Nat->Prop,
   (∀ y r h t,pr.post y->fits (qD T glob l i m x Ω) h r (pr.res y)->Q r h t) -> ∃ n,ex P' (qD T glob l i m x Ω) Q fn.results.toList n [.code (qI fn)] (cs++List.replicate (fn.ntmps-cs.length) .junk) [] 0) :
  Ctr P T glob g s:=by
 have hE:=qhA hT hg l i m x hl (fun p hp=>(hi p hp).1) hmc hxk
 have hI:qaC P (qD T glob l i m x Om.real):=fun f fn' h=>by
  obtain⟨h1,h2,h3⟩:=hi _ (qdF h)
  refine⟨h2,fun c hc => ?_⟩
  simp only[qI,hc]at h3
  exact h3
 obtain⟨c,hc⟩:=Option.isSome_iff_exists.1 hb
 have hbody:qI fn=c:=by simp only[qI,hc]
 refine⟨fun args=>(good args).rid,fun E args=>(good args).few E,fun args=>(good args).closed,fun args=>(good args).some_x,hcall,?_⟩
 intro w args vs hgl hr hp
 obtain⟨cs,h1,h2,h3⟩:=OpnL.ok hr ((good args).closed hp)
 have key:=PSpecOk.congr (E:=qD T glob l i m x Om.real) (E':=⟨T,fun _=>none,fun _=>none,glob,Om.real,fun _=>none,fun _=>none⟩) rfl rfl (qkJ (s:=fun ds=>⟨ds=cs,(s args).X,(s args).post,(s args).res⟩) hE hI hm hf hc (by rw[<- hbody];exact hreg) (fun ds hd=>by subst hd;exact h3) fun ds hd=>by
  subst hd
  rw[<- hbody]
  exact hx P Om.real rfl hE hI hm args _ rfl hp ds h1 _ fun y r h t q1 q2=>⟨y,q1,q2⟩)
 exact key w cs vs hgl h2 rfl
theorem qao {P:Program} {T:TypeId->Option TI} {glob:Nat->SVal} (hT : ∀ t ti,T t=some ti->TyOk P t ti) (hg : ∀ g,IdsLt noId (glob g)) (hm:P.follows .mixedOrders=true) {g:FuncId} {fn:Func} {s:Om->qe} (l:Om->List (FuncId × qe)) (i:List (FuncId × Func)) (m:Om->List (FuncId × qU)) (x:List (FuncId × XK))
  (hl : ∀ p ∈ l Om.real,Ctr P T glob p.1 p.2) (hi : ∀ p ∈ i,qX P p.1/\P.funcs[p.1]?=some p.2/\qx (qI p.2)=true) (hmc : ∀ p ∈ m Om.real,MCtr P T glob p.1 p.2) (hxk : ∀ p ∈ x,XOk P p.1 p.2) (hf:P.funcs[g]?=some fn) (hb:fn.body.isSome=true) (hreg:qx (qI fn)=true) (hcall:qX P g)
  (good : ∀ args,(s Om.real args).Good args)
  (hx : ∀ (P':Program) (Ω:Om),Ω=Om.real->EnvG P' (qD T glob (l Ω) i (m Ω) x Ω)->qaC P' (qD T glob (l Ω) i (m Ω) x Ω)->P'.follows .mixedOrders=true -> ∀ args pr,s Ω args=pr->pr.pre -> ∀ cs,OpnL args cs -> ∀ Q:SVal->Heap->Nat->Prop,
   (∀ y r h t,pr.post y->fits (qD T glob (l Ω) i (m Ω) x Ω) h r (pr.res y)->Q r h t) -> ∃ n,ex P' (qD T glob (l Ω) i (m Ω) x Ω) Q fn.results.toList n [.code (qI fn)] (cs++List.replicate (fn.ntmps-cs.length) .junk) [] 0) :
  Ctr P T glob g (s Om.real) :=
 qpC hT hg hm (l Om.real) i (m Om.real) x hl hi hmc hxk hf hb hreg hcall good fun P' Ω hΩ=>by subst hΩ;exact hx P' Om.real rfl
theorem qq {P:Program} {T:TypeId->Option TI} {glob:Nat->SVal} (hT : ∀ t ti,T t=some ti->TyOk P t ti) (hg : ∀ g,IdsLt noId (glob g)) (hm:P.follows .mixedOrders=true) {g:FuncId} {fn:Func} {s:Om->qe} (l:Om->List (FuncId × qe)) (i:List (FuncId × Func)) (m:Om->List (FuncId × qU)) (x:List (FuncId × XK))
  (hl : ∀ p ∈ l Om.real,Ctr P T glob p.1 p.2) (hi : ∀ p ∈ i,qX P p.1/\P.funcs[p.1]?=some p.2/\qx (qI p.2)=true) (hmc : ∀ p ∈ m Om.real,MCtr P T glob p.1 p.2) (hxk : ∀ p ∈ x,XOk P p.1 p.2) (hf:P.funcs[g]?=some fn) (hb:fn.body.isSome=true) (hreg:qx (qI fn)=true) (hcall:qX P g)
  (good : ∀ args,(s Om.real args).Good args)
  (hx : ∀ (P':Program) (Ω:Om),Ω=Om.real->EnvG P' (qD T glob (l Ω) i (m Ω) x Ω)->qaC P' (qD T glob (l Ω) i (m Ω) x Ω)->P'.follows .mixedOrders=true -> ∀ args pr,s Ω args=pr->pr.pre -> ∀ Q:SVal->Heap->Nat->Prop,
   (∀ y r h t,pr.post y->fits (qD T glob (l Ω) i (m Ω) x Ω) h r (pr.res y)->Q r h t) -> ∃ n,ex P' (qD T glob (l Ω) i (m Ω) x Ω) Q fn.results.toList n [.code (qI fn)] (args++List.replicate (fn.ntmps-args.length) .junk) [] 0) :
  Ctr P T glob g (s Om.real) :=
 qkY hT hg hm (l Om.real) i (m Om.real) x hl hi hmc hxk hf hb hreg hcall good fun P' Ω hΩ=>by subst hΩ;exact hx P' Om.real rfl
end Go.Sx
end
section
namespace Go.Sx
theorem qal {a:Int} (h0 : -9223372036854775808<=a) (h:a<9223372036854775808):IntKind.i64.wrap a=a:=by
 rw[IntKind.wrap_i64];omega
theorem qhI {a:Int} (h0:0<=a) (h:a<18446744073709551616):IntKind.u64.wrap a=a:=by
 rw[IntKind.wrap_u64];omega
section
variable (a b:Nat)
theorem qdH (h:a+b<9223372036854775808):binL .add .i64 (a:Int) (b:Int)=((a+b:Nat):Int):=by
 show IntKind.i64.wrap _=_;rw[qal]<;>omega
theorem qfc (h:a+(OfNat.ofNat b)<9223372036854775808):binL .add .i64 (a:Int) (no_index (OfNat.ofNat b))=((a+(OfNat.ofNat b):Nat):Int):=qdH a b h
theorem qk6 (h:(OfNat.ofNat a)+b<9223372036854775808):binL .add .i64 (no_index (OfNat.ofNat a)) (b:Int)=(((OfNat.ofNat a)+b:Nat):Int):=qdH a b h
theorem qbb (hb:b<=a) (h:a<9223372036854775808):binL .sub .i64 (a:Int) (b:Int)=((a-b:Nat):Int):=by
 show IntKind.i64.wrap _=_;rw[qal]<;>omega
theorem qhJ (hb:(OfNat.ofNat b)<=a) (h:a<9223372036854775808):binL .sub .i64 (a:Int) (no_index (OfNat.ofNat b))=((a-(OfNat.ofNat b):Nat):Int):=qbb a b hb h
theorem qk7 (hb:b<=(OfNat.ofNat a)) (h:(OfNat.ofNat a)<9223372036854775808):binL .sub .i64 (no_index (OfNat.ofNat a)) (b:Int)=(((OfNat.ofNat a)-b:Nat):Int):=qbb a b hb h
theorem qfd (h:a*b<9223372036854775808):binL .mul .i64 (a:Int) (b:Int)=((a*b:Nat):Int):=by
 show IntKind.i64.wrap _=_
 rw[<- Int.natCast_mul]
 generalize a*b=c at *
 rw[qal]<;>omega
theorem qk8 (h:a*(OfNat.ofNat b)<9223372036854775808):binL .mul .i64 (a:Int) (no_index (OfNat.ofNat b))=((a*(OfNat.ofNat b):Nat):Int):=qfd a b h
theorem qk9 (h:(OfNat.ofNat a)*b<9223372036854775808):binL .mul .i64 (no_index (OfNat.ofNat a)) (b:Int)=(((OfNat.ofNat a)*b:Nat):Int):=qfd a b h
theorem qdI (h:a<9223372036854775808):binL .quo .i64 (a:Int) (b:Int)=((a / b:Nat):Int):=by
 show IntKind.i64.wrap _=_
 rw[Int.tdiv_eq_ediv_of_nonneg (by omega),<- Int.natCast_ediv]
 have:a / b<=a:=Nat.div_le_self _ _
 generalize a / b=c at *
 rw[qal]<;>omega
theorem qla (h:a<9223372036854775808):binL .quo .i64 (a:Int) (no_index (OfNat.ofNat b))=((a / (OfNat.ofNat b):Nat):Int):=qdI a b h
theorem qfe:binL .rem .i64 (a:Int) (b:Int)=((a % b:Nat):Int):=by
 show(a:Int).tmod b=_
 rw[Int.tmod_eq_emod_of_nonneg (by omega),<- Int.natCast_emod]
theorem qlb:binL .rem .i64 (a:Int) (no_index (OfNat.ofNat b))=((a % (OfNat.ofNat b):Nat):Int):=qfe a b
theorem qff:cmpL .lss (a:Int) (b:Int)=decide (a<b):=by show decide _=_;congr 1;exact propext Int.ofNat_lt
theorem qlc:cmpL .lss (a:Int) (no_index (OfNat.ofNat b))=decide (a<(OfNat.ofNat b)):=qff a b
theorem qld:cmpL .lss (no_index (OfNat.ofNat a)) (b:Int)=decide ((OfNat.ofNat a)<b):=qff a b
theorem qfg:cmpL .leq (a:Int) (b:Int)=decide (a<=b):=by show decide _=_;congr 1;exact propext Int.ofNat_le
theorem qle:cmpL .leq (a:Int) (no_index (OfNat.ofNat b))=decide (a<=(OfNat.ofNat b)):=qfg a b
theorem qlf:cmpL .leq (no_index (OfNat.ofNat a)) (b:Int)=decide ((OfNat.ofNat a)<=b):=qfg a b
theorem qfh:cmpL .gtr (a:Int) (b:Int)=decide (b<a):=by show decide _=_;congr 1;exact propext Int.ofNat_lt
theorem qlg:cmpL .gtr (a:Int) (no_index (OfNat.ofNat b))=decide ((OfNat.ofNat b)<a):=qfh a b
theorem qlh:cmpL .gtr (no_index (OfNat.ofNat a)) (b:Int)=decide (b<(OfNat.ofNat a)):=qfh a b
theorem qhK:cmpL .geq (a:Int) (b:Int)=decide (b<=a):=by show decide _=_;congr 1;exact propext Int.ofNat_le
theorem qli:cmpL .geq (a:Int) (no_index (OfNat.ofNat b))=decide ((OfNat.ofNat b)<=a):=qhK a b
theorem qhL:cmpL .eql (a:Int) (b:Int)=decide (a=b):=by
 show((a:Int) == b)=_
 by_cases h:a=b
 ·subst h;simp
 ·have:((a:Int) == b)=false:=by rw[beq_eq_false_iff_ne];omega
  rw[this];simp[h]
theorem qlj:cmpL .eql (a:Int) (no_index (OfNat.ofNat b))=decide (a=(OfNat.ofNat b)):=qhL a b
theorem qhM:cmpL .neq (a:Int) (b:Int)=decide (a ≠ b):=by
 show((a:Int) != b)=_
 by_cases h:a=b
 ·subst h;simp
 ·have:((a:Int) != b)=true:=by rw[bne_iff_ne];omega
  rw[this];simp[h]
theorem qlk:cmpL .neq (a:Int) (no_index (OfNat.ofNat b))=decide (a ≠ (OfNat.ofNat b)):=qhM a b
end
theorem nc (n:Nat) : @NatCast.natCast Int instNatCastInt n=(n:Int):=rfl
theorem qb:type_of% @nc/\type_of% @Nat.succ_eq_add_one/\type_of% @Int.ofNat_eq_natCast/\type_of% @Int.toNat_natCast/\type_of% @qdH/\type_of% @qfc/\type_of% @qk6/\type_of% @qbb/\type_of% @qhJ/\type_of% @qk7/\type_of% @qfd/\type_of% @qk8/\type_of% @qk9/\type_of% @qdI/\type_of% @qla/\type_of% @qfe/\type_of% @qlb/\type_of% @qff/\type_of% @qlc/\type_of% @qld/\type_of% @qfg/\type_of% @qle/\type_of% @qlf/\type_of% @qfh/\type_of% @qlg/\type_of% @qlh/\type_of% @qhK/\type_of% @qli/\type_of% @qhL/\type_of% @qlj/\type_of% @qhM/\type_of% @qlk:=⟨@nc,@Nat.succ_eq_add_one,@Int.ofNat_eq_natCast,@Int.toNat_natCast,@qdH,@qfc,@qk6,@qbb,@qhJ,@qk7,@qfd,@qk8,@qk9,@qdI,@qla,@qfe,@qlb,@qff,@qlc,@qld,@qfg,@qle,@qlf,@qfh,@qlg,@qlh,@qhK,@qli,@qhL,@qlj,@qhM,@qlk⟩
end Go.Sx
end
