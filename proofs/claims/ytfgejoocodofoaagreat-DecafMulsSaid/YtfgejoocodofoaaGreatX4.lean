/-
  Part of the proof of a statement: the means.
-/
import Derived.Test.YtfgejoocodofoaaGreatX3
import Derived.ProofKit
import Derived.OpenShut
import Derived.ChangeOld
import Derived.Below
import Derived.Carry
import Derived.ChangeSame
import Derived.ChangeVars
import Derived.JoinedOf
import Derived.RowKit
import Derived.LaidLaws
import Derived.Stop.Joined
import Derived.Deep.Slices
import Derived.DataReads
import Derived.Handed
set_option linter.unusedSectionVars false
set_option linter.unusedVariables false
set_option linter.unusedSimpArgs false
set_option linter.deprecated false
section
namespace Go.Sx
open Go.ChangeShapes Go.WideShapes Go.RowKit Go.ChangeAt
def Opens (P : Program) (t : TypeId) (D : SVal -> Prop) : Prop :=
 ∀ {H : Type} {enc : TypeId × Value -> H} {held : Bool} (W : World) (fuel : Nat) (cs : List Value) (x : DataW H × List MemPlace),
  DataW.trod enc P W 0 (fun _ => true) held fuel t cs = some x -> ∃ s, D s /\ Rep ρ0 (qR W) s cs
theorem Opens.mono {P : Program} {t : TypeId} {D D' : SVal -> Prop} (h : Opens P t D) (hd : ∀ s, D s -> D' s) : Opens P t D' := fun W fuel cs x hx => by
 obtain ⟨s, h1, h2⟩ := h W fuel cs x hx
 exact ⟨s, hd s h1, h2⟩
def qke (k : IntKind) (n : Int) : Prop := (Lit.int k n).wf = true
theorem quv {P : Program} {t : TypeId} {k : IntKind} (ht : P.underlying t = some (.int k)) : Opens P t fun s => ∃ n, s = .int k n /\ qke k n := by
 intro H enc held W fuel cs x hx
 cases fuel with
 | zero => simp [DataW.trod] at hx
 | succ fuel =>
   simp only [DataW.trod, ht] at hx
   split at hx <;> first | (cases hx; done) | skip
   all_goals first | (rename_i h1 h2; cases h1; done) | skip
   all_goals rename_i heq
   all_goals cases heq
   split at hx
   · rename_i h
     exact ⟨_, ⟨_, rfl, h.2⟩, by rw [h.1]; rfl⟩
   · cases hx
theorem quw {H : Type} {enc : TypeId × Value -> H} {P : Program} {W : World} {base : Nat} {sp : Nat -> Bool} {held : Bool} {t e : TypeId} {n fuel : Nat} {cs : List Value} {x : DataW H × List MemPlace} (ht : P.underlying t = some (.array n e))
  (hx : DataW.trod enc P W base sp held fuel t cs = some x) : ∃ m, cs.length = P.cellsOf t /\ ∀ i, i < n -> ∃ y, DataW.trod enc P W base sp held m e ((cs.drop (i * P.cellsOf e)).take (P.cellsOf e)) = some y := by
 cases fuel with
 | zero => simp [DataW.trod] at hx
 | succ fuel =>
   simp only [DataW.trod, ht] at hx
   split at hx
   · rename_i hl
     refine ⟨fuel, hl, fun i hi => ?_⟩
     rw [Option.map_eq_some_iff] at hx
     obtain ⟨ys, hy, _⟩ := hx
     have h1 := mapM_some_get hy i i (by simp [hi])
     have h2 := mapM_some_length hy
     simp only [List.length_range] at h2
     rw [List.getElem?_eq_getElem (by omega)] at h1
     exact ⟨_, h1⟩
   · cases hx
theorem qoO {P : Program} {t e : TypeId} {k : IntKind} (ht : P.underlying t = some (.slice e)) (he : P.underlying e = some (.int k)) (hc : P.cellsOf e = 1) :
  Opens P t fun s => ∃ xs, s = .roi k xs /\ xs.length <= maxLen /\ ∀ x ∈ xs, qke k x := by
 intro H enc held W fuel cs x hx
 rcases open_ints ht he hc hx with ⟨rfl, _⟩ | ⟨a, len, cap, zs, rfl, _, hl, hm, hz, _, hcell, hwz⟩
 ·exact ⟨_, ⟨[], rfl, by simp, by simp⟩, _, rfl, none, 0, rfl, by simp, by simp⟩
 ·simp only [if_true] at hz
  refine ⟨_, ⟨zs.take len, rfl, by simp; omega, fun x hx => hwz x (List.mem_of_mem_take hx)⟩, _, rfl, some a, cap, ?_, by simp; omega, fun j x hj => ?_⟩
  ·simp only [List.length_take]
   rw [Nat.min_eq_left (by omega)]
  ·rw [List.getElem?_take] at hj
   split at hj
   ·rename_i hjl
    have hj2 : j < zs.length := by omega
    have h1 := hcell j hj2
    have h2 := World.cell?_spot (hcell 0 (by omega))
    have h3 : zs.getD j 0 = x := by simp [List.getD, hj]
    rw [h3] at h1
    obtain ⟨b, o, sp⟩ := a
    have h2 : sp = none := by simpa [Addr.add] using h2
    subst h2
    have h1 : W.cell? ⟨b, o + j, none⟩ = some (.int k x) := by
     simp only [Addr.add] at h1
     split at h1
     ·rename_i hj0; subst hj0; exact h1
     ·exact h1
    refine ⟨b, o, rfl, ?_⟩
    simp only [World.cell?] at h1
    simp only [qz, qR]
    split at h1
    ·rename_i heq
     rw [heq]
     simpa using h1
    ·cases h1
   ·cases hj
end Go.Sx
end
section
namespace Go.Sx
open Go.ChangeShapes Go.WideShapes Go.RowKit Go.ChangeAt
def qkf (P : Program) (t : TypeId) (D : SVal -> Prop) : Prop :=
 ∀ {H : Type} {enc : TypeId × Value -> H} {held : Bool} (W : World) (base : Nat) (v : Value) (d : DataW H) (ps : List MemPlace),
  Value.okWide P W .any base t v -> DataW.Trod enc P W 0 (fun _ => true) held t v d ps -> ∃ s, D s /\ Den ρ0 (qR W) s v
theorem qux {P : Program} {w : World} {r : Reach} {base : Nat} {t e : TypeId} {n : Nat} {v : Value} (ht : P.underlying t = some (.array n e)) (h : Value.okWide P w r base t v) : ∃ cs, v = .agg cs := by
 unfold Value.okWide at h
 simp only [ht] at h
 obtain ⟨cs, h1, _⟩ := h
 exact ⟨cs, h1⟩
inductive OpenAll (P : Program) : List TypeId -> List (SVal -> Prop) -> Prop
 | nil : OpenAll P [] []
 | cons {t ts D Ds} : qkf P t D -> OpenAll P ts Ds -> OpenAll P (t :: ts) (D :: Ds)
def qkg : List (SVal -> Prop) -> List SVal -> Prop
 | [], [] => True
 | D :: Ds, s :: l => D s /\ qkg Ds l
 | _, _ => False
theorem quy {H : Type} {enc : TypeId × Value -> H} {held : Bool} {P : Program} {W : World} {base : Nat} {ts : List TypeId} {Ds : List (SVal -> Prop)} (h : OpenAll P ts Ds) : ∀ {vs : List Value} {ds : List (DataW H)} {ps : List MemPlace},
  (∀ (j : Nat) t v, ts[j]? = some t -> vs[j]? = some v -> Value.okWide P W .any base t v) -> DataW.TrodAll enc P W 0 (fun _ => true) held ts vs ds ps -> ∃ args, qkg Ds args /\ RepV ρ0 (qR W) args vs := by
 induction h with
 | nil =>
   intro vs ds ps hv hA
   obtain ⟨rfl, rfl, rfl⟩ := trodAll_nil hA
   exact ⟨[], trivial, rfl⟩
 | @cons t ts D Ds ho _ ih =>
   intro vs ds ps hv hA
   obtain ⟨v, vs', d, ds', p, q, rfl, rfl, rfl, h1, h2⟩ := trodAll_cons hA
   obtain ⟨args, h3, h4⟩ := ih (fun j t' v' a b => hv (j + 1) t' v' a b) h2
   obtain ⟨s, h5, h6⟩ := ho W base v d p (hv 0 t v rfl rfl) h1
   exact ⟨s :: args, ⟨h5, h3⟩, RepV_cons.2 ⟨v, vs', rfl, h6, h4⟩⟩
theorem qoP {H : Type} {enc : TypeId × Value -> H} {held : Bool} {P : Program} {W : World} {base : Nat} {sp : Nat -> Bool} : ∀ {ts : List TypeId} {vs : List Value} {ds : List (DataW H)} {ps : List MemPlace}, DataW.TrodAll enc P W base sp held ts vs ds ps -> ds.length = ts.length
 | [], vs, ds, ps, h => by obtain ⟨rfl, rfl, rfl⟩ := trodAll_nil h; rfl
 | t :: ts, vs, ds, ps, h => by
   obtain ⟨v, vs', d, ds', p, q, rfl, rfl, rfl, h1, h2⟩ := trodAll_cons h
   simp [qoP h2]
theorem qoQ {H : Type} {enc : TypeId × Value -> H} {P : Program} (hl : laidOutB P = true) {W W' : World} (hb : Below W.heap.size W W') : ∀ {ts : List TypeId} {vs : List Value} {ds : List (DataW H)} {ps : List MemPlace},
  (∀ t ∈ ts, P.readableRec t = true /\ t < P.types.size) -> DataW.TrodAll enc P W 0 (fun _ => true) true ts vs ds ps -> DataW.TrodAll enc P W' 0 (fun b => decide (b < W.heap.size)) true ts vs ds ps
 | [], vs, ds, ps, _, h => by obtain ⟨rfl, rfl, rfl⟩ := trodAll_nil h; exact trodAll_mk0
 | t :: ts, vs, ds, ps, ht, h => by
   obtain ⟨v, vs', d, ds', p, q, rfl, rfl, rfl, h1, h2⟩ := trodAll_cons h
   have lt : ∀ x ∈ p, x.block < W.heap.size := by obtain ⟨m, hm⟩ := h1; exact DataW.trod_lt m _ _ _ hm
   exact trodAll_cons_mk (Below.trod hl (ht t (List.mem_cons_self ..)).1 (ht t (List.mem_cons_self ..)).2 h1 hb lt) (qoQ hl hb (fun t' h' => ht t' (List.mem_cons_of_mem _ h')) h2)
theorem quz {w w' : World} (h : Same w w') (k : Kept w w') : Below w.heap.size w w' := ⟨h.os, h.tape, h.output, h.size, k⟩
theorem quA {H : Type} {enc : TypeId × Value -> H} {P : Program} {T : TypeId -> Option TI} {glob : Nat -> SVal} {f : FuncId} {fn : Func} {s : ChangeSpec} {sp : qd} {apart fresh handsOn : Bool} {tb : TypeId}
  (hc : Ctr P T glob f sp) {Ds : List (SVal -> Prop)} (hopen : OpenAll P fn.params.toList Ds) (hpre : ∀ args, qkg Ds args -> (sp args).pre /\ ∀ x, (sp args).post x -> (sp args).res x = .bs true)
  (hlaid : laidOutB P = true) (hread : ∀ t ∈ fn.params.toList, P.readableRec t = true /\ t < P.types.size)
  (hvars : s.vars = []) (hres : fn.resultTypes = #[tb]) (htb : P.underlying tb = some .bool)
  (hfn : ∀ ds : List (DataW H), ds.length = fn.params.toList.length -> s.fn H (ds ++ []) = { results := [.lit (.bool true)], args := ds })
  {W : World} {base : Nat} {args : Array Value} {ds gs : List (DataW H)} {before : List MemPlace} (hval : ∀ (j : Nat) t v, fn.params[j]? = some t -> args[j]? = some v -> Value.okWide P W .any base t v)
  (hW : DataW.Whole enc P fn.params.toList s.vars apart W args.toList ds gs before) (hg : qiL ⟨T, fun _ => none, fun _ => none, glob, Om.real, fun _ => none, fun _ => none⟩ W) :
  Calls P f args W fun e W' => ∃ v, e = .returned v /\ s.post enc P fn apart fresh handsOn false W args v W' := by
 have hW' := hW
 obtain ⟨p, q, hA, hV, rfl, hfz, hnd⟩ := hW
 rw [hvars] at hV
 obtain ⟨rfl, rfl⟩ := trodVars_none hV
 have hval' : ∀ (j : Nat) t v, fn.params.toList[j]? = some t -> args.toList[j]? = some v -> Value.okWide P W .any base t v := fun j t v h1 h2 => hval j t v (by simpa using h1) (by simpa using h2)
 obtain ⟨zs, h1, h2⟩ := quy hopen hval' hA
 obtain ⟨h3, h4⟩ := hpre zs h1
 have h5 := hc.spec W zs args.toList hg h2 h3
 rw [Array.toArray_toList] at h5
 refine h5.mono fun e W' he => ?_
 obtain ⟨v, rfl, hs, hk, x, hx, hr⟩ := he
 have hv : v = .bool true := by
  obtain ⟨ρ, hd, _⟩ := hr 0
  rw [h4 x hx] at hd
  simpa [place, Den, Rep] using hd
 subst hv
 have bel := quz hs hk
 have hf := hfn ds (qoP hA)
 refine ⟨_, rfl, ds, [], _, [], p, [], hW', ?_, ?_, ?_, bel.frame _, fun h => by cases h⟩
 ·rw [hf, hres]
  exact trodAll_mk1 (shut_bool htb true)
 ·rw [hf]
  exact qoQ hlaid bel hread hA
 ·rw [hf, hvars]
  rfl
end Go.Sx
end
section

end
section

end
section
namespace Go.Sx
open Go.ChangeShapes Go.WideShapes Go.RowKit Go.ChangeAt
theorem quB {H : Type} {enc : TypeId × Value -> H} {P : Program} {W : World} {base : Nat} {sp : Nat -> Bool} {held : Bool} {t : TypeId} {fs : Array Field} {fuel : Nat} {cs : List Value} {x : DataW H × List MemPlace} (ht : P.underlying t = some (.struct fs))
  (hx : DataW.trod enc P W base sp held fuel t cs = some x) : ∃ m, cs.length = P.cellsOf t /\ ∀ (j : Nat) f, fs[j]? = some f -> ∃ y, DataW.trod enc P W base sp held m f.type ((cs.drop f.offset).take (P.cellsOf f.type)) = some y := by
 cases fuel with
 | zero => simp [DataW.trod] at hx
 | succ fuel =>
   simp only [DataW.trod, ht] at hx
   split at hx
   · rename_i hl
     refine ⟨fuel, hl, fun j f hf => ?_⟩
     rw [Option.map_eq_some_iff] at hx
     obtain ⟨ys, hy, _⟩ := hx
     have h1 := mapM_some_get hy j f (by simpa using hf)
     have h2 := mapM_some_length hy
     have h3 : j < fs.size := (Array.getElem?_eq_some_iff.1 hf).1
     rw [List.getElem?_eq_getElem (by rw [h2]; simpa using h3)] at h1
     exact ⟨_, h1⟩
   · cases hx
end Go.Sx
end
section
namespace Go.Sx
open Go.ChangeShapes Go.WideShapes Go.RowKit Go.ChangeAt
theorem qoR {ρ : Rho} {H : Snap} {a b : SVal} {cs us ws : List Value} (e : cs = us ++ ws) (h1 : Rep ρ H a us) (h2 : Rep ρ H b ws) : Rep ρ H (.agg [a, b]) cs := by
 simp only [Rep]
 exact RepC_cons.2 ⟨us, ws, e, h1, RepC_cons.2 ⟨ws, [], (List.append_nil _).symm, h2, rfl⟩⟩
theorem quC {P : Program} {t : TypeId} {f0 f1 : Field} {D0 D1 : SVal -> Prop} (ht : P.underlying t = some (.struct #[f0, f1])) (o0 : f0.offset = 0) (o1 : f1.offset = P.cellsOf f0.type) (hn : P.cellsOf t = P.cellsOf f0.type + P.cellsOf f1.type)
  (h0 : Opens P f0.type D0) (h1 : Opens P f1.type D1) : Opens P t fun s => ∃ a b, s = .agg [a, b] /\ D0 a /\ D1 b := by
 intro H enc held W fuel cs x hx
 obtain ⟨m, hl, hf⟩ := quB ht hx
 obtain ⟨y0, hy0⟩ := hf 0 f0 rfl
 obtain ⟨y1, hy1⟩ := hf 1 f1 rfl
 obtain ⟨a, d0, r0⟩ := h0 W m _ _ hy0
 obtain ⟨b, d1, r1⟩ := h1 W m _ _ hy1
 rw [o0, List.drop_zero] at r0
 rw [o1] at r1
 refine ⟨_, ⟨a, b, rfl, d0, d1⟩, qoR ?_ r0 r1⟩
 rw [List.take_of_length_le (l := cs.drop _) (by rw [List.length_drop]; omega), List.take_append_drop]
theorem quD {P : Program} {t e : TypeId} {D : SVal -> Prop} (ht : P.underlying t = some (.array 2 e)) (hn : P.cellsOf t = P.cellsOf e + P.cellsOf e) (h : Opens P e D) : Opens P t fun s => ∃ a b, s = .agg [a, b] /\ D a /\ D b := by
 intro H enc held W fuel cs x hx
 obtain ⟨m, hl, hf⟩ := quw ht hx
 obtain ⟨y0, hy0⟩ := hf 0 (by decide)
 obtain ⟨y1, hy1⟩ := hf 1 (by decide)
 obtain ⟨a, d0, r0⟩ := h W m _ _ hy0
 obtain ⟨b, d1, r1⟩ := h W m _ _ hy1
 rw [Nat.zero_mul, List.drop_zero] at r0
 rw [Nat.one_mul] at r1
 refine ⟨_, ⟨a, b, rfl, d0, d1⟩, qoR ?_ r0 r1⟩
 rw [List.take_of_length_le (l := cs.drop _) (by rw [List.length_drop]; omega), List.take_append_drop]
theorem quE {P : Program} {t : TypeId} {D : SVal -> Prop} (ho : Opens P t D) (hD : ∀ s, D s -> ∃ l, s = .agg l) (hok : ∀ (W : World) base v, Value.okWide P W .any base t v -> ∃ cs, v = .agg cs) : qkf P t D := by
 intro H enc held W base v d ps hv ⟨fuel, hx⟩
 obtain ⟨cs, rfl⟩ := hok W base v hv
 obtain ⟨s, hs, h2⟩ := ho W fuel _ _ hx
 obtain ⟨l, rfl⟩ := hD s hs
 refine ⟨_, hs, ?_⟩
 simp only [Rep] at h2
 exact ⟨cs.toList, h2, by simp⟩
theorem qoS {P : Program} {t e : TypeId} {D : SVal -> Prop} (ht : P.underlying t = some (.array 2 e)) (hn : P.cellsOf t = P.cellsOf e + P.cellsOf e) (h : Opens P e D) : qkf P t fun s => ∃ a b, s = .agg [a, b] /\ D a /\ D b :=
 quE (quD ht hn h) (fun s h => by obtain ⟨a, b, rfl, _⟩ := h; exact ⟨_, rfl⟩) fun W base v => qux ht
theorem quF {P : Program} {t : TypeId} {k : IntKind} (ht : P.underlying t = some (.int k)) : Opens P t fun s => ∃ n, s = .int k n :=
 Opens.mono (quv ht) fun s h => by obtain ⟨n, rfl, _⟩ := h; exact ⟨n, rfl⟩
theorem qie {a : Int} (h : qke .u8 a) : 0 <= a /\ a < 256 := by
 have h' : (Lit.int .u8 a).wf = true := h
 simp only [Lit.wf, Bool.and_eq_true, decide_eq_true_eq] at h'
 have h1 : IntKind.u8.min = 0 := by rfl
 have h2 : IntKind.u8.max = 255 := by rfl
 rw [h1, h2] at h'
 omega
theorem qif {n : Nat} (h : n <= maxLen) : n < 9223372036854775808 := by
 have : n <= 9223372036854775807 := h
 omega
end Go.Sx
end
