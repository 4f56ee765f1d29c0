/-
  Part of the proof of a statement: the means.
-/
import Derived.Test.YtpnebmmjpapopaaGreatDoorX31
import Derived.ProofKit
import Derived.OpenShut
import Derived.ChangeOld
import Derived.Below
import Derived.Carry
import Derived.ChangeSame
import Derived.ChangeVars
import Derived.JoinedOf
import Derived.RowKit
import Derived.LaidLaws
import Derived.Stop.Joined
import Derived.Deep.Slices
import Derived.DataReads
import Derived.Handed
set_option linter.unusedSectionVars false
set_option linter.unusedVariables false
set_option linter.unusedSimpArgs false
set_option linter.deprecated false
section
namespace Go.Sx
open Go.ChangeShapes Go.WideShapes Go.RowKit Go.ChangeAt
def qbL (P:Program) (t:TypeId) (D:SVal->Prop):Prop :=
 ∀ {H:Type} {enc:TypeId × Value->H} {held:Bool} (W:World) (fuel:Nat) (cs:List Value) (x:DataW H × List MemPlace),
  DataW.trod enc P W 0 (fun _=>true) held fuel t cs=some x -> ∃ s,D s/\Rep ρ0 (qy W) s cs
def qay (k:IntKind) (n:Int):Prop:=(Lit.int k n).wf=true
theorem qpm {P:Program} {t:TypeId} {k:IntKind} (ht:P.underlying t=some (.int k)):qbL P t fun s =>∃ n,s = .int k n/\qay k n:=by
 intro H enc held W fuel cs x hx
 cases fuel with
 | zero=>simp[DataW.trod]at hx
 | succ fuel =>
   simp only[DataW.trod,ht]at hx
   split at hx<;>first|(cases hx;done)|skip
   all_goals first|(rename_i h1 h2;cases h1;done)|skip
   all_goals rename_i heq
   all_goals cases heq
   split at hx
   · rename_i h
     exact⟨_,⟨_,rfl,h.2⟩,by rw[h.1];rfl⟩
   · cases hx
theorem qhE {P:Program} {t e:TypeId} {k:IntKind} (ht:P.underlying t=some (.slice e)) (he:P.underlying e=some (.int k)) (hc:P.cellsOf e=1) :
  qbL P t fun s =>∃ xs,s = .roi k xs/\xs.length<=maxLen /\ ∀ x ∈ xs,qay k x:=by
 intro H enc held W fuel cs x hx
 rcases open_ints ht he hc hx with⟨rfl,_⟩|⟨a,len,cap,zs,rfl,_,hl,hm,hz,_,hcell,hwz⟩
 ·exact⟨_,⟨[],rfl,by simp,by simp⟩,_,rfl,none,0,rfl,by simp,by simp⟩
 ·simp only[if_true]at hz
  refine⟨_,⟨zs.take len,rfl,by simp;omega,fun x hx=>hwz x (List.mem_of_mem_take hx)⟩,_,rfl,some a,cap,?_,by simp;omega,fun j x hj => ?_⟩
  ·simp only[List.length_take]
   rw[Nat.min_eq_left (by omega)]
  ·rw[List.getElem?_take]at hj
   split at hj
   ·rename_i hjl
    have hj2:j<zs.length:=by omega
    have h1:=hcell j hj2
    have h2:=World.cell?_spot (hcell 0 (by omega))
    have h3:zs.getD j 0=x:=by simp[List.getD,hj]
    rw[h3]at h1
    obtain⟨b,o,sp⟩:=a
    have h2:sp=none:=by simpa[Addr.add]using h2
    subst h2
    have h1:W.cell? ⟨b,o+j,none⟩=some (.int k x):=by
     simp only[Addr.add]at h1
     split at h1
     ·rename_i hj0;subst hj0;exact h1
     ·exact h1
    refine⟨b,o,rfl,?_⟩
    simp only[World.cell?]at h1
    simp only[qu,qy]
    split at h1
    ·rename_i heq
     rw[heq]
     simpa using h1
    ·cases h1
   ·cases hj
end Go.Sx
end
section
namespace Go.Sx
open Go.ChangeShapes Go.WideShapes Go.RowKit Go.ChangeAt
def qdG (P:Program) (t:TypeId) (D:SVal->Prop):Prop :=
 ∀ {H:Type} {enc:TypeId × Value->H} {held:Bool} (W:World) (base:Nat) (v:Value) (d:DataW H) (ps:List MemPlace),
  Value.okWide P W .any base t v->DataW.Trod enc P W 0 (fun _=>true) held t v d ps -> ∃ s,D s/\Den ρ0 (qy W) s v
inductive OpenAll (P:Program):List TypeId->List (SVal->Prop)->Prop
 | nil:OpenAll P [] []
 | cons {t ts D Ds}:qdG P t D->OpenAll P ts Ds->OpenAll P (t :: ts) (D :: Ds)
def qhF:List (SVal->Prop)->List SVal->Prop
 | [],[]=>True
 | D :: Ds,s :: l=>D s/\qhF Ds l
 | _,_=>False
theorem qpn {H:Type} {enc:TypeId × Value->H} {held:Bool} {P:Program} {W:World} {base:Nat} {ts:List TypeId} {Ds:List (SVal->Prop)} (h:OpenAll P ts Ds) : ∀ {vs:List Value} {ds:List (DataW H)} {ps:List MemPlace},
  (∀ (j:Nat) t v,ts[j]?=some t->vs[j]?=some v->Value.okWide P W .any base t v)->DataW.TrodAll enc P W 0 (fun _=>true) held ts vs ds ps -> ∃ args,qhF Ds args/\RepV ρ0 (qy W) args vs:=by
 induction h with
 | nil =>
   intro vs ds ps hv hA
   obtain⟨rfl,rfl,rfl⟩:=trodAll_nil hA
   exact⟨[],trivial,rfl⟩
 | @cons t ts D Ds ho _ ih =>
   intro vs ds ps hv hA
   obtain⟨v,vs',d,ds',p,q,rfl,rfl,rfl,h1,h2⟩:=trodAll_cons hA
   obtain⟨args,h3,h4⟩:=ih (fun j t' v' a b=>hv (j+1) t' v' a b) h2
   obtain⟨s,h5,h6⟩:=ho W base v d p (hv 0 t v rfl rfl) h1
   exact⟨s :: args,⟨h5,h3⟩,RepV_cons.2 ⟨v,vs',rfl,h6,h4⟩⟩
theorem qk0 {H:Type} {enc:TypeId × Value->H} {held:Bool} {P:Program} {W:World} {base:Nat} {sp:Nat->Bool} : ∀ {ts:List TypeId} {vs:List Value} {ds:List (DataW H)} {ps:List MemPlace},DataW.TrodAll enc P W base sp held ts vs ds ps->ds.length=ts.length
 | [],vs,ds,ps,h=>by obtain⟨rfl,rfl,rfl⟩:=trodAll_nil h;rfl
 | t :: ts,vs,ds,ps,h=>by
   obtain⟨v,vs',d,ds',p,q,rfl,rfl,rfl,h1,h2⟩:=trodAll_cons h
   simp[qk0 h2]
theorem qk1 {H:Type} {enc:TypeId × Value->H} {P:Program} (hl:laidOutB P=true) {W W':World} (hb:Below W.heap.size W W') : ∀ {ts:List TypeId} {vs:List Value} {ds:List (DataW H)} {ps:List MemPlace},
  (∀ t ∈ ts,P.readableRec t=true/\t<P.types.size)->DataW.TrodAll enc P W 0 (fun _=>true) true ts vs ds ps->DataW.TrodAll enc P W' 0 (fun b=>decide (b<W.heap.size)) true ts vs ds ps
 | [],vs,ds,ps,_,h=>by obtain⟨rfl,rfl,rfl⟩:=trodAll_nil h;exact trodAll_mk0
 | t :: ts,vs,ds,ps,ht,h=>by
   obtain⟨v,vs',d,ds',p,q,rfl,rfl,rfl,h1,h2⟩:=trodAll_cons h
   have lt : ∀ x ∈ p,x.block<W.heap.size:=by obtain⟨m,hm⟩:=h1;exact DataW.trod_lt m _ _ _ hm
   exact trodAll_cons_mk (Below.trod hl (ht t (List.mem_cons_self ..)).1 (ht t (List.mem_cons_self ..)).2 h1 hb lt) (qk1 hl hb (fun t' h'=>ht t' (List.mem_cons_of_mem _ h')) h2)
theorem qpo {w w':World} (h:Same w w') (k:Kept w w'):Below w.heap.size w w':=⟨h.os,h.tape,h.output,h.size,k⟩
theorem qpp {H:Type} {enc:TypeId × Value->H} {P:Program} {T:TypeId->Option TI} {glob:Nat->SVal} {f:FuncId} {fn:Func} {s:ChangeSpec} {sp:qe} {apart fresh handsOn:Bool} {tb:TypeId}
  (hc:Ctr P T glob f sp) {Ds:List (SVal->Prop)} (hopen:OpenAll P fn.params.toList Ds) (hpre : ∀ args,qhF Ds args->(sp args).pre /\ ∀ x,(sp args).post x->(sp args).res x = .bs true)
  (hlaid:laidOutB P=true) (hread : ∀ t ∈ fn.params.toList,P.readableRec t=true/\t<P.types.size)
  (hvars:s.vars=[]) (hres:fn.resultTypes = #[tb]) (htb:P.underlying tb=some .bool)
  (hfn : ∀ ds:List (DataW H),ds.length=fn.params.toList.length->s.fn H (ds++[]) = { results:=[.lit (.bool true)],args:=ds })
  {W:World} {base:Nat} {args:Array Value} {ds gs:List (DataW H)} {before:List MemPlace} (hval : ∀ (j:Nat) t v,fn.params[j]?=some t->args[j]?=some v->Value.okWide P W .any base t v)
  (hW:DataW.Whole enc P fn.params.toList s.vars apart W args.toList ds gs before) (hg:qeR ⟨T,fun _=>none,fun _=>none,glob,Om.real,fun _=>none,fun _=>none⟩ W) :
  Calls P f args W fun e W' =>∃ v,e = .returned v/\s.post enc P fn apart fresh handsOn false W args v W':=by
 have hW':=hW
 obtain⟨p,q,hA,hV,rfl,hfz,hnd⟩:=hW
 rw[hvars]at hV
 obtain⟨rfl,rfl⟩:=trodVars_none hV
 have hval' : ∀ (j:Nat) t v,fn.params.toList[j]?=some t->args.toList[j]?=some v->Value.okWide P W .any base t v:=fun j t v h1 h2=>hval j t v (by simpa using h1) (by simpa using h2)
 obtain⟨zs,h1,h2⟩:=qpn hopen hval' hA
 obtain⟨h3,h4⟩:=hpre zs h1
 have h5:=hc.spec W zs args.toList hg h2 h3
 rw[Array.toArray_toList]at h5
 refine h5.mono fun e W' he => ?_
 obtain⟨v,rfl,hs,hk,x,hx,hr⟩:=he
 have hv:v = .bool true:=by
  obtain⟨ρ,hd,_⟩:=hr 0
  rw[h4 x hx]at hd
  simpa[place,Den,Rep]using hd
 subst hv
 have bel:=qpo hs hk
 have hf:=hfn ds (qk0 hA)
 refine⟨_,rfl,ds,[],_,[],p,[],hW',?_,?_,?_,bel.frame _,fun h=>by cases h⟩
 ·rw[hf,hres]
  exact trodAll_mk1 (shut_bool htb true)
 ·rw[hf]
  exact qk1 hlaid bel hread hA
 ·rw[hf,hvars]
  rfl
end Go.Sx
end
section
namespace Go.Sx
open Go.ChangeShapes Go.WideShapes Go.RowKit Go.ChangeAt
theorem qpq {H:Type} {enc:TypeId × Value->H} {P:Program} {W:World} {base:Nat} {sp:Nat->Bool} {held:Bool} {e:TypeId} {k:IntKind} {fuel:Nat} {cs:List Value} {y:DataW H × List MemPlace} (he:P.underlying e=some (.int k))
  (hx:DataW.trod enc P W base sp held fuel e cs=some y) : ∃ z,cs=[.int k z]/\y.1 = .lit (.int k z):=by
 cases fuel with
 | zero=>simp[DataW.trod]at hx
 | succ fuel =>
   simp only[DataW.trod,he]at hx
   split at hx<;>first|(cases hx;done)|skip
   all_goals first|(rename_i h1 h2;cases h1;done)|skip
   all_goals rename_i heq
   all_goals cases heq
   split at hx
   · rename_i h
     cases hx
     exact⟨_,by rw[h.1],rfl⟩
   · cases hx
theorem qpr {H:Type} {enc:TypeId × Value->H} {P:Program} {W:World} {base:Nat} {sp:Nat->Bool} {held:Bool} {t e:TypeId} {n:Nat} {k:IntKind} {fuel:Nat} {cs:List Value} {xs:List Int} {p:List MemPlace}
  (ht:P.underlying t=some (.array n e)) (he:P.underlying e=some (.int k)) (hc:P.cellsOf e=1) (hn:P.cellsOf t=n)
  (hx:DataW.trod enc P W base sp held fuel t cs=some (.agg (xs.map fun z =>.lit (.int k z)),p)):cs=xs.map (Value.int k):=by
 cases fuel with
 | zero=>simp[DataW.trod]at hx
 | succ fuel =>
   simp only[DataW.trod,ht]at hx
   split at hx
   · rename_i hl
     rw[hn]at hl
     rw[Option.map_eq_some_iff]at hx
     obtain⟨ys,hy,hd⟩:=hx
     have h2:=mapM_some_length hy
     simp only[List.length_range]at h2
     simp only[Prod.mk.injEq,DataW.agg.injEq]at hd
     have hxl:xs.length=n:=by
       have:=congrArg List.length hd.1
       simp at this
       omega
     apply List.ext_getElem
     · simp[hl,hxl]
     · intro i h3 h4
       have h1:=mapM_some_get hy i i (by rw[List.getElem?_range (by omega)])
       rw[List.getElem?_eq_getElem (by omega)]at h1
       obtain⟨z,h5,h6⟩:=qpq he h1
       rw[hc,Nat.mul_one]at h5
       have h7:=congrArg (fun l=>l[0]?) h5
       simp[List.getElem?_take,List.getElem?_drop,h3]at h7
       have h8:(ys.map (·.1))[i]?=(xs.map fun z=>DataW.lit (H:=H) (.int k z))[i]?:=by rw[hd.1]
       have hi1:i<ys.length:=by omega
       have hi2:i<xs.length:=by omega
       simp[hi1,hi2]at h8
       rw[h6]at h8
       simp only[DataW.lit.injEq,Lit.int.injEq,true_and]at h8
       simp[h7,h8]
   · cases hx
theorem qps {P:Program} {W:World} {n:String} {g:Nat} {cs:Array Value} (hg:P.globalNamed n=some g) (h:W.var? P n=some cs) : ∃ t z,W.heap[g]?=some (.cells cs t z):=by
 simp only[World.var?,hg,Option.bind_some]at h
 split at h
 ·rename_i h1
  cases h
  exact⟨_,_,h1⟩
 ·cases h
theorem qhG {P:Program} {W:World} {name:String} {g:Nat} {t e:TypeId} {n:Nat} {k:IntKind} {xs:List Int} {l:List (String × DataW Unit)} {ps:List MemPlace}
  (ht:P.underlying t=some (.array n e)) (he:P.underlying e=some (.int k)) (hc:P.cellsOf e=1) (hn:P.cellsOf t=n) (hg:P.globalNamed name=some g) (hty:(P.globals[g]?).map (·.type)=some t) (hx:xs.length=n)
  (h:DataW.LaidVars P W l ps) (hm:(name,.agg (xs.map fun z =>.lit (.int k z))) ∈ l):Den ρ0 (qy W) (.rop (.row k n xs) (.l 0)) (.pointer (some ⟨g,0,none⟩)):=by
 induction l generalizing ps with
 | nil=>cases hm
 | cons a l ih =>
   obtain⟨nm,d⟩:=a
   obtain⟨g',t',cs,fuel,p,q,h1,h2,h3,h4,h5,_⟩:=h
   rcases List.mem_cons.1 hm with hm|hm
   · simp only[Prod.mk.injEq]at hm
     obtain⟨rfl,rfl⟩:=hm
     obtain rfl:g=g':=Option.some.inj (hg.symm.trans h1)
     obtain rfl:t=t':=Option.some.inj (hty.symm.trans h2)
     have h6:=qpr ht he hc hn h4
     obtain⟨tt,z,h7⟩:=qps h1 h3
     refine⟨g,0,cs.toList,rfl,⟨hx,h6⟩,fun j v hj => ?_⟩
     simp only[qu,qy]
     rw[h7]
     simpa using hj
   · exact ih h5 hm
end Go.Sx
end
section
namespace Go.Sx
open Go.ChangeShapes Go.WideShapes Go.RowKit Go.ChangeAt
theorem qpt {W:World} {a:Addr} {j:Nat} {v v0:Value} (h:W.cell? (a.add j)=some v) (h0:W.cell? (a.add 0)=some v0) : ∃ b o,a=⟨b,o,none⟩/\qu (qy W) b (o+j)=some v:=by
 have h2:=World.cell?_spot h0
 obtain⟨b,o,sp⟩:=a
 have h2:sp=none:=by simpa[Addr.add]using h2
 subst h2
 have h1:W.cell? ⟨b,o+j,none⟩=some v:=by
  simp only[Addr.add]at h
  split at h
  ·rename_i hj0;subst hj0;exact h
  ·exact h
 refine⟨b,o,rfl,?_⟩
 simp only[World.cell?]at h1
 simp only[qu,qy]
 split at h1
 ·rename_i heq
  rw[heq]
  simpa using h1
 ·cases h1
theorem qpu {P:Program} {t e q:TypeId} {k:IntKind} (ht:P.underlying t=some (.slice e)) (he:P.underlying e=some (.slice q)) (hq:P.underlying q=some (.int k)) (ce:P.cellsOf e=1) (cq:P.cellsOf q=1) :
  qbL P t fun s =>∃ xss,s = .rol k xss/\xss.length<=maxLen /\ ∀ xs ∈ xss,xs.length<=maxLen /\ ∀ x ∈ xs,qay k x:=by
 intro H enc held W fuel cs x hx
 rcases Go.Deep.open_slice1 ht ce hx with⟨rfl,_⟩|⟨a,len,cap,m,n,V,D,Pl,rfl,hb,hl,hm,hmm,rfl,hv⟩
 ·exact⟨_,⟨[],rfl,by simp,by simp⟩,none,0,rfl,Nat.le_refl _,by simp⟩
 ·simp only[if_true]at hmm
  subst hmm
  have each : ∀ i,i<len -> ∃ xs,RoI (qy W) k xs (V i)/\xs.length<=maxLen /\ ∀ x ∈ xs,qay k x:=fun i hi=>by
   obtain⟨s,⟨xs,rfl,h1,h2⟩,h3⟩:=qhE he hq cq W n [V i] _ (hv i (by omega)).2
   obtain⟨v,h4,h5⟩:=h3
   cases h4
   exact⟨xs,h5,h1,h2⟩
  obtain⟨f,hf⟩:=Go.Deep.choose_lt (p:=fun i xs=>RoI (qy W) k xs (V i)/\xs.length<=maxLen /\ ∀ x ∈ xs,qay k x) each
  refine⟨.rol k ((List.range len).map f),⟨_,rfl,by simp;omega,fun xs hxs => ?_⟩,some a,m,by simp,by simpa using hl,fun j xs hj => ?_⟩
  ·obtain⟨i,hi,rfl⟩:=List.mem_map.1 hxs
   exact(hf i (List.mem_range.1 hi)).2
  ·rw[List.getElem?_map]at hj
   by_cases hjl:j<len
   ·rw[List.getElem?_range hjl]at hj
    simp only[Option.map_some,Option.some.injEq]at hj
    subst hj
    obtain⟨b,o,rfl,h1⟩:=qpt (hv j (by omega)).1 (hv 0 (by omega)).1
    exact⟨b,o,_,rfl,h1,(hf j hjl).1⟩
   ·rw[List.getElem?_eq_none (by simp;omega)]at hj
    cases hj
end Go.Sx
end
section
namespace Go.Sx
open Go.ChangeShapes Go.WideShapes Go.RowKit Go.ChangeAt
theorem qpv {H:Type} {enc:TypeId × Value->H} {P:Program} {W:World} {base:Nat} {sp:Nat->Bool} {held:Bool} {t:TypeId} {fs:Array Field} {fuel:Nat} {cs:List Value} {x:DataW H × List MemPlace} (ht:P.underlying t=some (.struct fs))
  (hx:DataW.trod enc P W base sp held fuel t cs=some x) : ∃ m,cs.length=P.cellsOf t /\ ∀ (j:Nat) f,fs[j]?=some f -> ∃ y,DataW.trod enc P W base sp held m f.type ((cs.drop f.offset).take (P.cellsOf f.type))=some y:=by
 cases fuel with
 | zero=>simp[DataW.trod]at hx
 | succ fuel =>
   simp only[DataW.trod,ht]at hx
   split at hx
   · rename_i hl
     refine⟨fuel,hl,fun j f hf => ?_⟩
     rw[Option.map_eq_some_iff]at hx
     obtain⟨ys,hy,_⟩:=hx
     have h1:=mapM_some_get hy j f (by simpa using hf)
     have h2:=mapM_some_length hy
     have h3:j<fs.size:=(Array.getElem?_eq_some_iff.1 hf).1
     rw[List.getElem?_eq_getElem (by rw[h2];simpa using h3)]at h1
     exact⟨_,h1⟩
   · cases hx
end Go.Sx
end
section
namespace Go.Sx
open Go.ChangeShapes Go.WideShapes Go.RowKit Go.ChangeAt
theorem qpw {P:Program} {w:World} {r:Reach} {base:Nat} {t:TypeId} {fs:Array Field} {v:Value} (ht:P.underlying t=some (.struct fs)) (h:Value.okWide P w r base t v) : ∃ cs,v = .agg cs:=by
 unfold Value.okWide at h
 simp only[ht]at h
 obtain⟨cs,h1,_⟩:=h
 exact⟨cs,h1⟩
theorem qpx {P:Program} {t:TypeId} {D:SVal->Prop} (ho:qbL P t D) (hD : ∀ s,D s -> ∃ l,s = .agg l) (hok : ∀ (W:World) base v,Value.okWide P W .any base t v -> ∃ cs,v = .agg cs):qdG P t D:=by
 intro H enc held W base v d ps hv ⟨fuel,hx⟩
 obtain⟨cs,rfl⟩:=hok W base v hv
 obtain⟨s,hs,h2⟩:=ho W fuel _ _ hx
 obtain⟨l,rfl⟩:=hD s hs
 refine⟨_,hs,?_⟩
 simp only[Rep]at h2
 exact⟨cs.toList,h2,by simp⟩
theorem qk2 {a:Int} (h:qay .u8 a):0<=a/\a<256:=by
 have h':(Lit.int .u8 a).wf=true:=h
 simp only[Lit.wf,Bool.and_eq_true,decide_eq_true_eq]at h'
 have h1:IntKind.u8.min=0:=by rfl
 have h2:IntKind.u8.max=255:=by rfl
 rw[h1,h2]at h'
 omega
theorem qhH {n:Nat} (h:n<=maxLen):n<9223372036854775808:=by
 have:n<=9223372036854775807:=h
 omega
end Go.Sx
end
section
namespace Go.Sx
open Go.ChangeShapes Go.WideShapes Go.RowKit Go.ChangeAt
def qbM (P:Program) (n:Nat):Nat->List Field->List (SVal->Prop)->Prop
 | o,[],[]=>o=n
 | o,f :: fs,D :: Ds=>f.offset=o/\qbL P f.type D/\qbM P n (o+P.cellsOf f.type) fs Ds
 | _,_,_=>False
def AllD:List (SVal->Prop)->List SVal->Prop
 | [],[]=>True
 | D :: Ds,s :: l=>D s/\AllD Ds l
 | _,_=>False
theorem qk3 {P:Program} {n:Nat} {H:Type} {enc:TypeId × Value->H} {held:Bool} {W:World} {m:Nat} {cs:List Value} (hn:cs.length=n) : ∀ (fs:List Field) (Ds:List (SVal->Prop)) (o:Nat),o<=n->qbM P n o fs Ds ->
  (∀ f ∈ fs,∃ y,DataW.trod enc P W 0 (fun _=>true) held m f.type ((cs.drop f.offset).take (P.cellsOf f.type))=some y) -> ∃ l,AllD Ds l/\RepC ρ0 (qy W) l (cs.drop o)
 | [],[],o,_,h,_=>⟨[],trivial,by
   have h:o=n:=h
   simp only[RepC]
   exact List.drop_eq_nil_of_le (by omega)⟩
 | f :: fs,D :: Ds,o,ho,h,hf=>by
   obtain⟨h1,h2,h3⟩:f.offset=o/\qbL P f.type D/\qbM P n (o+P.cellsOf f.type) fs Ds:=h
   obtain⟨y,hy⟩:=hf f List.mem_cons_self
   obtain⟨s,d,r⟩:=h2 W m _ _ hy
   rw[h1]at r
   by_cases hle:o+P.cellsOf f.type<=n
   · obtain⟨l,hl,hr⟩:=qk3 hn fs Ds _ hle h3 fun g hg=>hf g (List.mem_cons_of_mem _ hg)
     refine⟨s :: l,⟨d,hl⟩,RepC_cons.2 ⟨_,_,?_,r,hr⟩⟩
     rw[<- List.drop_drop]
     exact(List.take_append_drop _ _).symm
   · exact absurd (chain_le fs Ds _ h3) hle
 | [],_ :: _,_,_,h,_=>h.elim
 | _ :: _,[],_,_,h,_=>h.elim
where
 chain_le {P:Program} {n:Nat} : ∀ (fs:List Field) (Ds:List (SVal->Prop)) (o:Nat),qbM P n o fs Ds->o<=n
 | [],[],o,h=>Nat.le_of_eq h
 | f :: fs,D :: Ds,o,h=>by
   obtain⟨_,_,h3⟩:f.offset=o/\qbL P f.type D/\qbM P n (o+P.cellsOf f.type) fs Ds:=h
   have:=chain_le fs Ds _ h3
   omega
 | [],_ :: _,_,h=>h.elim
 | _ :: _,[],_,h=>h.elim
theorem qpy {P:Program} {t:TypeId} {fs:List Field} {Ds:List (SVal->Prop)} (ht:P.underlying t=some (.struct fs.toArray)) (hc:qbM P (P.cellsOf t) 0 fs Ds):qbL P t fun s =>∃ l,s = .agg l/\AllD Ds l:=by
 intro H enc held W fuel cs x hx
 obtain⟨m,hl,hf⟩:=qpv ht hx
 obtain⟨l,h1,h2⟩:=qk3 hl fs Ds 0 (Nat.zero_le _) hc fun f hfm=>by
  obtain⟨j,hj,rfl⟩:=List.mem_iff_getElem.1 hfm
  exact hf j _ (by simp[hj])
 refine⟨_,⟨l,rfl,h1⟩,?_⟩
 simp only[Rep]
 rw[List.drop_zero]at h2
 exact h2
theorem qpz {P:Program} {t:TypeId} {fs:List Field} {Ds:List (SVal->Prop)} (ht:P.underlying t=some (.struct fs.toArray)) (hc:qbM P (P.cellsOf t) 0 fs Ds):qdG P t fun s =>∃ l,s = .agg l/\AllD Ds l :=
 qpx (qpy ht hc) (fun s h=>by obtain⟨l,rfl,_⟩:=h;exact⟨_,rfl⟩) fun W base v=>qpw ht
theorem qfb {D:SVal->Prop} {Ds:List (SVal->Prop)} {l:List SVal} (h:AllD (D :: Ds) l) : ∃ s l',l=s :: l'/\D s/\AllD Ds l':=by
 cases l with
 | nil=>exact h.elim
 | cons s l=>exact⟨s,l,rfl,h.1,h.2⟩
theorem qpA {l:List SVal} (h:AllD [] l):l=[]:=by
 cases l with
 | nil=>rfl
 | cons s l=>exact h.elim
def DByt (s:SVal):Prop :=∃ xs,s = .roi .u8 xs/\xs.length<=maxLen /\ ∀ x ∈ xs,qay .u8 x
def DRol (s:SVal):Prop :=∃ xss,s = .rol .u8 xss/\xss.length<=maxLen /\ ∀ xs ∈ xss,xs.length<=maxLen /\ ∀ x ∈ xs,qay .u8 x
def DInt (s:SVal):Prop :=∃ n,s = .int .i64 n/\qay .i64 n
theorem qpB {P:Program} {t e1 e2 e3 e4:TypeId} {f0 f1 f2 f3:Field} (ht:P.underlying t=some (.struct #[f0,f1,f2,f3])) (o0:f0.offset=0) (o1:f1.offset=1) (o2:f2.offset=2) (o3:f3.offset=3) (hn:P.cellsOf t=4)
  (h0:P.underlying f0.type=some (.int .i64)) (h1:P.underlying f1.type=some (.slice e1)) (h2:P.underlying f2.type=some (.slice e2)) (h3:P.underlying f3.type=some (.slice e3))
  (b1:P.underlying e1=some (.int .u8)) (b2:P.underlying e2=some (.int .u8)) (b3:P.underlying e3=some (.slice e4)) (b4:P.underlying e4=some (.int .u8))
  (c0:P.cellsOf f0.type=1) (c1:P.cellsOf f1.type=1) (c2:P.cellsOf f2.type=1) (c3:P.cellsOf f3.type=1) (d1:P.cellsOf e1=1) (d2:P.cellsOf e2=1) (d3:P.cellsOf e3=1) (d4:P.cellsOf e4=1) :
  qdG P t fun s =>∃ n sd cx xss,s = .agg [.int .i64 n,.roi .u8 sd,.roi .u8 cx,.rol .u8 xss]/\qay .i64 n/\(sd.length<=maxLen /\ ∀ x ∈ sd,qay .u8 x)/\(cx.length<=maxLen /\ ∀ x ∈ cx,qay .u8 x)/\xss.length<=maxLen /\ ∀ xs ∈ xss,xs.length<=maxLen /\ ∀ x ∈ xs,qay .u8 x:=by
 have hc:qbM P (P.cellsOf t) 0 [f0,f1,f2,f3] [DInt,DByt,DByt,DRol]:=by
  rw[hn]
  refine⟨o0,qpm h0,?_⟩
  rw[c0]
  refine⟨o1,qhE h1 b1 d1,?_⟩
  rw[c1]
  refine⟨o2,qhE h2 b2 d2,?_⟩
  rw[c2]
  refine⟨o3,qpu h3 b3 b4 d3 d4,?_⟩
  rw[c3]
  rfl
 intro H enc held W base v d ps hv hx
 obtain⟨s,h,hden⟩:=qpz ht hc W base v d ps hv hx
 refine⟨s,?_,hden⟩
 obtain⟨l,el,h⟩:=h
 obtain⟨s0,l1,e0,h0,h⟩:=qfb h
 obtain⟨s1,l2,e1,h1,h⟩:=qfb h
 obtain⟨s2,l3,e2,h2,h⟩:=qfb h
 obtain⟨s3,l4,e3,h3,h⟩:=qfb h
 have e4:=qpA h
 obtain⟨n,g0,q0⟩:=h0
 obtain⟨sd,g1,q1⟩:=h1
 obtain⟨cx,g2,q2⟩:=h2
 obtain⟨xss,g3,q3⟩:=h3
 exact⟨n,sd,cx,xss,by rw[el,e0,e1,e2,e3,e4,g0,g1,g2,g3],q0,q1,q2,q3⟩
end Go.Sx
end
section
namespace Go.Sx
open Go.ChangeShapes Go.WideShapes Go.RowKit Go.ChangeAt
theorem qtI {P:Program} {t e1 e2 e3 e4:TypeId} {f0 f1 f2 f3:Field} (ht:P.underlying t=some (.struct #[f0,f1,f2,f3])) (o0:f0.offset=0) (o1:f1.offset=1) (o2:f2.offset=2) (o3:f3.offset=3) (hn:P.cellsOf t=4)
  (h0:P.underlying f0.type=some (.int .i64)) (h1:P.underlying f1.type=some (.slice e1)) (h2:P.underlying f2.type=some (.slice e2)) (h3:P.underlying f3.type=some (.slice e3))
  (b1:P.underlying e1=some (.int .u8)) (b2:P.underlying e2=some (.int .u8)) (b3:P.underlying e3=some (.slice e4)) (b4:P.underlying e4=some (.int .u8))
  (c0:P.cellsOf f0.type=1) (c1:P.cellsOf f1.type=1) (c2:P.cellsOf f2.type=1) (c3:P.cellsOf f3.type=1) (d1:P.cellsOf e1=1) (d2:P.cellsOf e2=1) (d3:P.cellsOf e3=1) (d4:P.cellsOf e4=1) :
  qdG P t fun s =>∃ n sd cx xss,s = .agg [.int .i64 n,.roi .u8 sd,.roi .u8 cx,.rol .u8 xss]/\(sd.length<=maxLen /\ ∀ x ∈ sd,qay .u8 x)/\(cx.length<=maxLen /\ ∀ x ∈ cx,qay .u8 x)/\xss.length<=maxLen /\ ∀ xs ∈ xss,xs.length<=maxLen /\ ∀ x ∈ xs,qay .u8 x:=by
 intro H enc held W base v d ps hv hx
 obtain⟨s,h,hden⟩:=qpB ht o0 o1 o2 o3 hn h0 h1 h2 h3 b1 b2 b3 b4 c0 c1 c2 c3 d1 d2 d3 d4 W base v d ps hv hx
 obtain⟨n,sd,cx,xss,e,_,r⟩:=h
 exact⟨s,⟨n,sd,cx,xss,e,r⟩,hden⟩
end Go.Sx
end
