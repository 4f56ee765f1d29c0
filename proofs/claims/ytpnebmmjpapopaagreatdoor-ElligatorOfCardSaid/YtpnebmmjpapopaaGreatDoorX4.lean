/-
  Part of the proof of a statement: the means.
-/
import Derived.Test.YtpnebmmjpapopaaGreatDoorX31
import Derived.ProofKit
import Derived.OpenShut
import Derived.ChangeOld
import Derived.Below
import Derived.Carry
import Derived.ChangeSame
import Derived.ChangeVars
import Derived.JoinedOf
import Derived.RowKit
import Derived.LaidLaws
import Derived.Stop.Joined
import Derived.Deep.Slices
import Derived.DataReads
import Derived.Handed
set_option linter.unusedSectionVars false
set_option linter.unusedVariables false
set_option linter.unusedSimpArgs false
set_option linter.deprecated false
section
namespace Go.Sx
open Go.ChangeShapes Go.WideShapes Go.RowKit Go.ChangeAt
def qjk (P:Program) (t:TypeId) (D:SVal->Prop):Prop :=
 ∀ {H:Type} {enc:TypeId × Value->H} {held:Bool} (W:World) (fuel:Nat) (cs:List Value) (x:DataW H × List MemPlace),
  DataW.trod enc P W 0 (fun _=>true) held fuel t cs=some x -> ∃ s,D s/\Rep ρ0 (qC W) s cs
def qdD (k:IntKind) (n:Int):Prop:=(Lit.int k n).wf=true
theorem qrN {P:Program} {t:TypeId} (ht:P.underlying t=some .string):qjk P t fun s =>∃ b:ByteArray,s = .val (.string b)/\b.size<=maxLen:=by
 intro H enc held W fuel cs x hx
 cases fuel with
 | zero=>simp[DataW.trod]at hx
 | succ fuel =>
   simp only[DataW.trod,ht]at hx
   split at hx<;>first|(cases hx;done)|skip
   all_goals first|(rename_i h1 h2;cases h1;done)|skip
   all_goals rename_i heq
   all_goals cases heq
   split at hx
   · rename_i h
     exact⟨_,⟨_,rfl,h⟩,rfl,trivial⟩
   · cases hx
theorem qrO {P:Program} {t e:TypeId} {k:IntKind} (ht:P.underlying t=some (.slice e)) (he:P.underlying e=some (.int k)) (hc:P.cellsOf e=1) :
  qjk P t fun s =>∃ xs,s = .roi k xs/\xs.length<=maxLen /\ ∀ x ∈ xs,qdD k x:=by
 intro H enc held W fuel cs x hx
 rcases open_ints ht he hc hx with⟨rfl,_⟩|⟨a,len,cap,zs,rfl,_,hl,hm,hz,_,hcell,hwz⟩
 ·exact⟨_,⟨[],rfl,by simp,by simp⟩,_,rfl,none,0,rfl,by simp,by simp⟩
 ·simp only[if_true]at hz
  refine⟨_,⟨zs.take len,rfl,by simp;omega,fun x hx=>hwz x (List.mem_of_mem_take hx)⟩,_,rfl,some a,cap,?_,by simp;omega,fun j x hj => ?_⟩
  ·simp only[List.length_take]
   rw[Nat.min_eq_left (by omega)]
  ·rw[List.getElem?_take]at hj
   split at hj
   ·rename_i hjl
    have hj2:j<zs.length:=by omega
    have h1:=hcell j hj2
    have h2:=World.cell?_spot (hcell 0 (by omega))
    have h3:zs.getD j 0=x:=by simp[List.getD,hj]
    rw[h3]at h1
    obtain⟨b,o,sp⟩:=a
    have h2:sp=none:=by simpa[Addr.add]using h2
    subst h2
    have h1:W.cell? ⟨b,o+j,none⟩=some (.int k x):=by
     simp only[Addr.add]at h1
     split at h1
     ·rename_i hj0;subst hj0;exact h1
     ·exact h1
    refine⟨b,o,rfl,?_⟩
    simp only[World.cell?]at h1
    simp only[qu,qC]
    split at h1
    ·rename_i heq
     rw[heq]
     simpa using h1
    ·cases h1
   ·cases hj
end Go.Sx
end
section
namespace Go.Sx
open Go.ChangeShapes Go.WideShapes Go.RowKit Go.ChangeAt
def qjl (P:Program) (t:TypeId) (D:SVal->Prop):Prop :=
 ∀ {H:Type} {enc:TypeId × Value->H} {held:Bool} (W:World) (base:Nat) (v:Value) (d:DataW H) (ps:List MemPlace),
  Value.okWide P W .any base t v->DataW.Trod enc P W 0 (fun _=>true) held t v d ps -> ∃ s,D s/\Den ρ0 (qC W) s v
theorem qrP {P:Program} {t:TypeId} (ht:P.underlying t=some .string):qjl P t fun s =>∃ b:ByteArray,s = .val (.string b)/\b.size<=maxLen:=by
 intro H enc held W base v d ps hv ⟨fuel,hx⟩
 obtain⟨n,rfl⟩:=okWide_string ht hv
 obtain⟨s,⟨m,rfl,hm⟩,h2⟩:=qrN ht W fuel _ _ hx
 exact⟨_,⟨m,rfl,hm⟩,h2⟩
inductive OpenAll (P:Program):List TypeId->List (SVal->Prop)->Prop
 | nil:OpenAll P [] []
 | cons {t ts D Ds}:qjl P t D->OpenAll P ts Ds->OpenAll P (t :: ts) (D :: Ds)
def qjm:List (SVal->Prop)->List SVal->Prop
 | [],[]=>True
 | D :: Ds,s :: l=>D s/\qjm Ds l
 | _,_=>False
theorem qrQ {H:Type} {enc:TypeId × Value->H} {held:Bool} {P:Program} {W:World} {base:Nat} {ts:List TypeId} {Ds:List (SVal->Prop)} (h:OpenAll P ts Ds) : ∀ {vs:List Value} {ds:List (DataW H)} {ps:List MemPlace},
  (∀ (j:Nat) t v,ts[j]?=some t->vs[j]?=some v->Value.okWide P W .any base t v)->DataW.TrodAll enc P W 0 (fun _=>true) held ts vs ds ps -> ∃ args,qjm Ds args/\RepV ρ0 (qC W) args vs:=by
 induction h with
 | nil =>
   intro vs ds ps hv hA
   obtain⟨rfl,rfl,rfl⟩:=trodAll_nil hA
   exact⟨[],trivial,rfl⟩
 | @cons t ts D Ds ho _ ih =>
   intro vs ds ps hv hA
   obtain⟨v,vs',d,ds',p,q,rfl,rfl,rfl,h1,h2⟩:=trodAll_cons hA
   obtain⟨args,h3,h4⟩:=ih (fun j t' v' a b=>hv (j+1) t' v' a b) h2
   obtain⟨s,h5,h6⟩:=ho W base v d p (hv 0 t v rfl rfl) h1
   exact⟨s :: args,⟨h5,h3⟩,RepV_cons.2 ⟨v,vs',rfl,h6,h4⟩⟩
theorem qmR {H:Type} {enc:TypeId × Value->H} {held:Bool} {P:Program} {W:World} {base:Nat} {sp:Nat->Bool} : ∀ {ts:List TypeId} {vs:List Value} {ds:List (DataW H)} {ps:List MemPlace},DataW.TrodAll enc P W base sp held ts vs ds ps->ds.length=ts.length
 | [],vs,ds,ps,h=>by obtain⟨rfl,rfl,rfl⟩:=trodAll_nil h;rfl
 | t :: ts,vs,ds,ps,h=>by
   obtain⟨v,vs',d,ds',p,q,rfl,rfl,rfl,h1,h2⟩:=trodAll_cons h
   simp[qmR h2]
theorem qmS {H:Type} {enc:TypeId × Value->H} {P:Program} (hl:laidOutB P=true) {W W':World} (hb:Below W.heap.size W W') : ∀ {ts:List TypeId} {vs:List Value} {ds:List (DataW H)} {ps:List MemPlace},
  (∀ t ∈ ts,P.readableRec t=true/\t<P.types.size)->DataW.TrodAll enc P W 0 (fun _=>true) true ts vs ds ps->DataW.TrodAll enc P W' 0 (fun b=>decide (b<W.heap.size)) true ts vs ds ps
 | [],vs,ds,ps,_,h=>by obtain⟨rfl,rfl,rfl⟩:=trodAll_nil h;exact trodAll_mk0
 | t :: ts,vs,ds,ps,ht,h=>by
   obtain⟨v,vs',d,ds',p,q,rfl,rfl,rfl,h1,h2⟩:=trodAll_cons h
   have lt : ∀ x ∈ p,x.block<W.heap.size:=by obtain⟨m,hm⟩:=h1;exact DataW.trod_lt m _ _ _ hm
   exact trodAll_cons_mk (Below.trod hl (ht t (List.mem_cons_self ..)).1 (ht t (List.mem_cons_self ..)).2 h1 hb lt) (qmS hl hb (fun t' h'=>ht t' (List.mem_cons_of_mem _ h')) h2)
theorem qrR {w w':World} (h:Same w w') (k:Kept w w'):Below w.heap.size w w':=⟨h.os,h.tape,h.output,h.size,k⟩
theorem qrS {H:Type} {enc:TypeId × Value->H} {P:Program} {T:TypeId->Option TI} {glob:Nat->SVal} {f:FuncId} {fn:Func} {s:ChangeSpec} {sp:qd} {apart fresh handsOn:Bool} {tb:TypeId}
  (hc:Ctr P T glob f sp) {Ds:List (SVal->Prop)} (hopen:OpenAll P fn.params.toList Ds) (hpre : ∀ args,qjm Ds args->(sp args).pre /\ ∀ x,(sp args).post x->(sp args).res x = .bs true)
  (hlaid:laidOutB P=true) (hread : ∀ t ∈ fn.params.toList,P.readableRec t=true/\t<P.types.size)
  (hvars:s.vars=[]) (hres:fn.resultTypes = #[tb]) (htb:P.underlying tb=some .bool)
  (hfn : ∀ ds:List (DataW H),ds.length=fn.params.toList.length->s.fn H (ds++[]) = { results:=[.lit (.bool true)],args:=ds })
  {W:World} {base:Nat} {args:Array Value} {ds gs:List (DataW H)} {before:List MemPlace} (hval : ∀ (j:Nat) t v,fn.params[j]?=some t->args[j]?=some v->Value.okWide P W .any base t v)
  (hW:DataW.Whole enc P fn.params.toList s.vars apart W args.toList ds gs before) (hg:qf0 ⟨T,fun _=>none,fun _=>none,glob,Om.real,fun _=>none,fun _=>none⟩ W) :
  Calls P f args W fun e W' =>∃ v,e = .returned v/\s.post enc P fn apart fresh handsOn false W args v W':=by
 have hW':=hW
 obtain⟨p,q,hA,hV,rfl,hfz,hnd⟩:=hW
 rw[hvars]at hV
 obtain⟨rfl,rfl⟩:=trodVars_none hV
 have hval' : ∀ (j:Nat) t v,fn.params.toList[j]?=some t->args.toList[j]?=some v->Value.okWide P W .any base t v:=fun j t v h1 h2=>hval j t v (by simpa using h1) (by simpa using h2)
 obtain⟨zs,h1,h2⟩:=qrQ hopen hval' hA
 obtain⟨h3,h4⟩:=hpre zs h1
 have h5:=hc.spec W zs args.toList hg h2 h3
 rw[Array.toArray_toList]at h5
 refine h5.mono fun e W' he => ?_
 obtain⟨v,rfl,hs,hk,x,hx,hr⟩:=he
 have hv:v = .bool true:=by
  obtain⟨ρ,hd,_⟩:=hr 0
  rw[h4 x hx]at hd
  simpa[place,Den,Rep]using hd
 subst hv
 have bel:=qrR hs hk
 have hf:=hfn ds (qmR hA)
 refine⟨_,rfl,ds,[],_,[],p,[],hW',?_,?_,?_,bel.frame _,fun h=>by cases h⟩
 ·rw[hf,hres]
  exact trodAll_mk1 (shut_bool htb true)
 ·rw[hf]
  exact qmS hlaid bel hread hA
 ·rw[hf,hvars]
  rfl
end Go.Sx
end
section
namespace Go.Sx
open Go.ChangeShapes Go.WideShapes Go.RowKit Go.ChangeAt
theorem qrT {H:Type} {enc:TypeId × Value->H} {P:Program} {W:World} {base:Nat} {sp:Nat->Bool} {held:Bool} {e:TypeId} {k:IntKind} {fuel:Nat} {cs:List Value} {y:DataW H × List MemPlace} (he:P.underlying e=some (.int k))
  (hx:DataW.trod enc P W base sp held fuel e cs=some y) : ∃ z,cs=[.int k z]/\y.1 = .lit (.int k z):=by
 cases fuel with
 | zero=>simp[DataW.trod]at hx
 | succ fuel =>
   simp only[DataW.trod,he]at hx
   split at hx<;>first|(cases hx;done)|skip
   all_goals first|(rename_i h1 h2;cases h1;done)|skip
   all_goals rename_i heq
   all_goals cases heq
   split at hx
   · rename_i h
     cases hx
     exact⟨_,by rw[h.1],rfl⟩
   · cases hx
theorem qrU {H:Type} {enc:TypeId × Value->H} {P:Program} {W:World} {base:Nat} {sp:Nat->Bool} {held:Bool} {t e:TypeId} {n:Nat} {k:IntKind} {fuel:Nat} {cs:List Value} {xs:List Int} {p:List MemPlace}
  (ht:P.underlying t=some (.array n e)) (he:P.underlying e=some (.int k)) (hc:P.cellsOf e=1) (hn:P.cellsOf t=n)
  (hx:DataW.trod enc P W base sp held fuel t cs=some (.agg (xs.map fun z =>.lit (.int k z)),p)):cs=xs.map (Value.int k):=by
 cases fuel with
 | zero=>simp[DataW.trod]at hx
 | succ fuel =>
   simp only[DataW.trod,ht]at hx
   split at hx
   · rename_i hl
     rw[hn]at hl
     rw[Option.map_eq_some_iff]at hx
     obtain⟨ys,hy,hd⟩:=hx
     have h2:=mapM_some_length hy
     simp only[List.length_range]at h2
     simp only[Prod.mk.injEq,DataW.agg.injEq]at hd
     have hxl:xs.length=n:=by
       have:=congrArg List.length hd.1
       simp at this
       omega
     apply List.ext_getElem
     · simp[hl,hxl]
     · intro i h3 h4
       have h1:=mapM_some_get hy i i (by rw[List.getElem?_range (by omega)])
       rw[List.getElem?_eq_getElem (by omega)]at h1
       obtain⟨z,h5,h6⟩:=qrT he h1
       rw[hc,Nat.mul_one]at h5
       have h7:=congrArg (fun l=>l[0]?) h5
       simp[List.getElem?_take,List.getElem?_drop,h3]at h7
       have h8:(ys.map (·.1))[i]?=(xs.map fun z=>DataW.lit (H:=H) (.int k z))[i]?:=by rw[hd.1]
       have hi1:i<ys.length:=by omega
       have hi2:i<xs.length:=by omega
       simp[hi1,hi2]at h8
       rw[h6]at h8
       simp only[DataW.lit.injEq,Lit.int.injEq,true_and]at h8
       simp[h7,h8]
   · cases hx
theorem qrV {P:Program} {W:World} {n:String} {g:Nat} {cs:Array Value} (hg:P.globalNamed n=some g) (h:W.var? P n=some cs) : ∃ t z,W.heap[g]?=some (.cells cs t z):=by
 simp only[World.var?,hg,Option.bind_some]at h
 split at h
 ·rename_i h1
  cases h
  exact⟨_,_,h1⟩
 ·cases h
theorem qjn {P:Program} {W:World} {name:String} {g:Nat} {t e:TypeId} {n:Nat} {k:IntKind} {xs:List Int} {l:List (String × DataW Unit)} {ps:List MemPlace}
  (ht:P.underlying t=some (.array n e)) (he:P.underlying e=some (.int k)) (hc:P.cellsOf e=1) (hn:P.cellsOf t=n) (hg:P.globalNamed name=some g) (hty:(P.globals[g]?).map (·.type)=some t) (hx:xs.length=n)
  (h:DataW.LaidVars P W l ps) (hm:(name,.agg (xs.map fun z =>.lit (.int k z))) ∈ l):Den ρ0 (qC W) (.rop (.row k n xs) (.l 0)) (.pointer (some ⟨g,0,none⟩)):=by
 induction l generalizing ps with
 | nil=>cases hm
 | cons a l ih =>
   obtain⟨nm,d⟩:=a
   obtain⟨g',t',cs,fuel,p,q,h1,h2,h3,h4,h5,_⟩:=h
   rcases List.mem_cons.1 hm with hm|hm
   · simp only[Prod.mk.injEq]at hm
     obtain⟨rfl,rfl⟩:=hm
     obtain rfl:g=g':=Option.some.inj (hg.symm.trans h1)
     obtain rfl:t=t':=Option.some.inj (hty.symm.trans h2)
     have h6:=qrU ht he hc hn h4
     obtain⟨tt,z,h7⟩:=qrV h1 h3
     refine⟨g,0,cs.toList,rfl,⟨hx,h6⟩,fun j v hj => ?_⟩
     simp only[qu,qC]
     rw[h7]
     simpa using hj
   · exact ih h5 hm
end Go.Sx
end
section
namespace Go.Sx
open Go.ChangeShapes Go.WideShapes Go.RowKit Go.ChangeAt
theorem qxa {W:World} {a:Addr} {j:Nat} {v v0:Value} (h:W.cell? (a.add j)=some v) (h0:W.cell? (a.add 0)=some v0) : ∃ b o,a=⟨b,o,none⟩/\qu (qC W) b (o+j)=some v:=by
 have h2:=World.cell?_spot h0
 obtain⟨b,o,sp⟩:=a
 have h2:sp=none:=by simpa[Addr.add]using h2
 subst h2
 have h1:W.cell? ⟨b,o+j,none⟩=some v:=by
  simp only[Addr.add]at h
  split at h
  ·rename_i hj0;subst hj0;exact h
  ·exact h
 refine⟨b,o,rfl,?_⟩
 simp only[World.cell?]at h1
 simp only[qu,qC]
 split at h1
 ·rename_i heq
  rw[heq]
  simpa using h1
 ·cases h1
theorem qxb {P:Program} {t e q:TypeId} {k:IntKind} (ht:P.underlying t=some (.slice e)) (he:P.underlying e=some (.slice q)) (hq:P.underlying q=some (.int k)) (ce:P.cellsOf e=1) (cq:P.cellsOf q=1) :
  qjk P t fun s =>∃ xss,s = .rol k xss/\xss.length<=maxLen /\ ∀ xs ∈ xss,xs.length<=maxLen /\ ∀ x ∈ xs,qdD k x:=by
 intro H enc held W fuel cs x hx
 rcases Go.Deep.open_slice1 ht ce hx with⟨rfl,_⟩|⟨a,len,cap,m,n,V,D,Pl,rfl,hb,hl,hm,hmm,rfl,hv⟩
 ·exact⟨_,⟨[],rfl,by simp,by simp⟩,none,0,rfl,Nat.le_refl _,by simp⟩
 ·simp only[if_true]at hmm
  subst hmm
  have each : ∀ i,i<len -> ∃ xs,RoI (qC W) k xs (V i)/\xs.length<=maxLen /\ ∀ x ∈ xs,qdD k x:=fun i hi=>by
   obtain⟨s,⟨xs,rfl,h1,h2⟩,h3⟩:=qrO he hq cq W n [V i] _ (hv i (by omega)).2
   obtain⟨v,h4,h5⟩:=h3
   cases h4
   exact⟨xs,h5,h1,h2⟩
  obtain⟨f,hf⟩:=Go.Deep.choose_lt (p:=fun i xs=>RoI (qC W) k xs (V i)/\xs.length<=maxLen /\ ∀ x ∈ xs,qdD k x) each
  refine⟨.rol k ((List.range len).map f),⟨_,rfl,by simp;omega,fun xs hxs => ?_⟩,some a,m,by simp,by simpa using hl,fun j xs hj => ?_⟩
  ·obtain⟨i,hi,rfl⟩:=List.mem_map.1 hxs
   exact(hf i (List.mem_range.1 hi)).2
  ·rw[List.getElem?_map]at hj
   by_cases hjl:j<len
   ·rw[List.getElem?_range hjl]at hj
    simp only[Option.map_some,Option.some.injEq]at hj
    subst hj
    obtain⟨b,o,rfl,h1⟩:=qxa (hv j (by omega)).1 (hv 0 (by omega)).1
    exact⟨b,o,_,rfl,h1,(hf j hjl).1⟩
   ·rw[List.getElem?_eq_none (by simp;omega)]at hj
    cases hj
theorem qxc {P:Program} {t e q:TypeId} {k:IntKind} (ht:P.underlying t=some (.slice e)) (he:P.underlying e=some (.slice q)) (hq:P.underlying q=some (.int k)) (ce:P.cellsOf e=1) (cq:P.cellsOf q=1) :
  qjl P t fun s =>∃ xss,s = .rol k xss/\xss.length<=maxLen /\ ∀ xs ∈ xss,xs.length<=maxLen /\ ∀ x ∈ xs,qdD k x:=by
 intro H enc held W base v d ps hv ⟨fuel,hx⟩
 obtain⟨a,l,c,rfl⟩:=okWide_slice ht hv
 obtain⟨s,⟨xs,rfl,hm⟩,h2⟩:=qxb ht he hq ce cq W fuel _ _ hx
 exact⟨_,⟨xs,rfl,hm⟩,h2⟩
end Go.Sx
end
section

end
section
namespace Go.Sx
open Go.ChangeShapes Go.WideShapes Go.RowKit Go.ChangeAt
theorem qxd {a:Int} (h:qdD .u8 a):0<=a/\a<256:=by
 have h':(Lit.int .u8 a).wf=true:=h
 simp only[Lit.wf,Bool.and_eq_true,decide_eq_true_eq]at h'
 have h1:IntKind.u8.min=0:=by rfl
 have h2:IntKind.u8.max=255:=by rfl
 rw[h1,h2]at h'
 omega
theorem qqh {n:Nat} (h:n<=maxLen):n<9223372036854775808:=by
 have:n<=9223372036854775807:=h
 omega
end Go.Sx
end
