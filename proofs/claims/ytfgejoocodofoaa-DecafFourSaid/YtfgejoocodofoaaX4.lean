/-
  Part of the proof of a statement: the means.
-/
import Derived.Test.YtfgejoocodofoaaX3
import Derived.ProofKit
import Derived.OpenShut
import Derived.ChangeOld
import Derived.Below
import Derived.Carry
import Derived.ChangeSame
import Derived.ChangeVars
import Derived.JoinedOf
import Derived.RowKit
import Derived.LaidLaws
import Derived.Stop.Joined
import Derived.Deep.Slices
import Derived.DataReads
import Derived.Handed
set_option linter.unusedSectionVars false
set_option linter.unusedVariables false
set_option linter.unusedSimpArgs false
set_option linter.deprecated false
section
namespace Go.Sx
open Go.ChangeShapes Go.WideShapes Go.RowKit Go.ChangeAt

/-- Whatever a type's cells read as, they stand for such a value. -/
def Opens (P : Program) (t : TypeId) (D : SVal → Prop) : Prop :=
  ∀ {H : Type} {enc : TypeId × Value → H} {held : Bool} (W : World) (fuel : Nat) (cs : List Value) (x : DataW H × List MemPlace),
    DataW.trod enc P W 0 (fun _ => true) held fuel t cs = some x → ∃ s, D s ∧ Rep ρ0 (snapOf W) s cs
theorem Opens.mono {P : Program} {t : TypeId} {D D' : SVal → Prop} (h : Opens P t D) (hd : ∀ s, D s → D' s) : Opens P t D' := fun W fuel cs x hx => by
  obtain ⟨s, h1, h2⟩ := h W fuel cs x hx
  exact ⟨s, hd s h1, h2⟩

def isInt (k : IntKind) (n : Int) : Prop := (Lit.int k n).wf = true
theorem opens_int {P : Program} {t : TypeId} {k : IntKind} (ht : P.underlying t = some (.int k)) : Opens P t fun s => ∃ n, s = .int k n ∧ isInt k n := by
  intro H enc held W fuel cs x hx
  cases fuel with
  | zero => simp [DataW.trod] at hx
  | succ fuel =>
    simp only [DataW.trod, ht] at hx
    split at hx <;> first | (cases hx; done) | skip
    all_goals first | (rename_i h1 h2; cases h1; done) | skip
    all_goals rename_i heq
    all_goals cases heq
    split at hx
    · rename_i h
      exact ⟨_, ⟨_, rfl, h.2⟩, by rw [h.1]; rfl⟩
    · cases hx
theorem opens_bool {P : Program} {t : TypeId} (ht : P.underlying t = some .bool) : Opens P t fun s => ∃ b, s = .bs b := by
  intro H enc held W fuel cs x hx
  cases fuel with
  | zero => simp [DataW.trod] at hx
  | succ fuel =>
    simp only [DataW.trod, ht] at hx
    split at hx <;> first | (cases hx; done) | skip
    all_goals first | (rename_i h1 h2; cases h1; done) | skip
    all_goals rename_i heq
    all_goals cases heq
    exact ⟨_, ⟨_, rfl⟩, rfl⟩
theorem opens_str {P : Program} {t : TypeId} (ht : P.underlying t = some .string) : Opens P t fun s => ∃ b : ByteArray, s = .val (.string b) ∧ b.size ≤ maxLen := by
  intro H enc held W fuel cs x hx
  cases fuel with
  | zero => simp [DataW.trod] at hx
  | succ fuel =>
    simp only [DataW.trod, ht] at hx
    split at hx <;> first | (cases hx; done) | skip
    all_goals first | (rename_i h1 h2; cases h1; done) | skip
    all_goals rename_i heq
    all_goals cases heq
    split at hx
    · rename_i h
      exact ⟨_, ⟨_, rfl, h⟩, rfl, trivial⟩
    · cases hx

theorem trod_array {H : Type} {enc : TypeId × Value → H} {P : Program} {W : World} {base : Nat} {sp : Nat → Bool} {held : Bool} {t e : TypeId} {n fuel : Nat} {cs : List Value} {x : DataW H × List MemPlace} (ht : P.underlying t = some (.array n e))
    (hx : DataW.trod enc P W base sp held fuel t cs = some x) : ∃ m, cs.length = P.cellsOf t ∧ ∀ i, i < n → ∃ y, DataW.trod enc P W base sp held m e ((cs.drop (i * P.cellsOf e)).take (P.cellsOf e)) = some y := by
  cases fuel with
  | zero => simp [DataW.trod] at hx
  | succ fuel =>
    simp only [DataW.trod, ht] at hx
    split at hx
    · rename_i hl
      refine ⟨fuel, hl, fun i hi => ?_⟩
      rw [Option.map_eq_some_iff] at hx
      obtain ⟨ys, hy, _⟩ := hx
      have h1 := mapM_some_get hy i i (by simp [hi])
      have h2 := mapM_some_length hy
      simp only [List.length_range] at h2
      rw [List.getElem?_eq_getElem (by omega)] at h1
      exact ⟨_, h1⟩
    · cases hx
/-- An array of numbers. -/
theorem opens_row {P : Program} {t e : TypeId} {n : Nat} {k : IntKind} (ht : P.underlying t = some (.array n e)) (he : P.underlying e = some (.int k)) (hc : P.cellsOf e = 1) (hn : P.cellsOf t = n) :
    Opens P t fun s => ∃ xs, s = .row k n xs ∧ xs.length = n ∧ ∀ x ∈ xs, isInt k x := by
  intro H enc held W fuel cs x hx
  obtain ⟨m, hl, hy⟩ := trod_array ht hx
  rw [hn] at hl
  have each : ∀ i, i < n → ∃ z, cs[i]? = some (.int k z) ∧ isInt k z := fun i hi => by
    obtain ⟨y, hy⟩ := hy i hi
    obtain ⟨s, ⟨z, rfl, hz⟩, h2⟩ := opens_int he W m _ y hy
    refine ⟨z, ?_, hz⟩
    simp only [Rep] at h2
    rw [hc, Nat.mul_one] at h2
    have h3 := congrArg (fun l => l[0]?) h2
    simpa using h3
  refine ⟨.row k n (cs.map fun v => match v with | .int _ z => z | _ => 0), ⟨_, rfl, by simp [hl], fun x hx => ?_⟩, ?_⟩
  · obtain ⟨v, hv, rfl⟩ := List.mem_map.1 hx
    obtain ⟨i, hi, rfl⟩ := List.mem_iff_getElem.1 hv
    obtain ⟨z, h1, h2⟩ := each i (by omega)
    rw [List.getElem?_eq_getElem hi, Option.some.injEq] at h1
    simp only [h1]
    exact h2
  · simp only [Rep]
    refine ⟨by simp [hl], ?_⟩
    apply List.ext_getElem
    · simp
    · intro i h1 h2
      obtain ⟨z, h3, h4⟩ := each i (by omega)
      rw [List.getElem?_eq_getElem h1, Option.some.injEq] at h3
      simp [h3]
/-- A slice of numbers. -/
theorem opens_ints {P : Program} {t e : TypeId} {k : IntKind} (ht : P.underlying t = some (.slice e)) (he : P.underlying e = some (.int k)) (hc : P.cellsOf e = 1) :
    Opens P t fun s => ∃ xs, s = .roi k xs ∧ xs.length ≤ maxLen ∧ ∀ x ∈ xs, isInt k x := by
  intro H enc held W fuel cs x hx
  rcases open_ints ht he hc hx with ⟨rfl, _⟩ | ⟨a, len, cap, zs, rfl, _, hl, hm, hz, _, hcell, hwz⟩
  · exact ⟨_, ⟨[], rfl, by simp, by simp⟩, _, rfl, none, 0, rfl, by simp, by simp⟩
  · simp only [if_true] at hz
    refine ⟨_, ⟨zs.take len, rfl, by simp; omega, fun x hx => hwz x (List.mem_of_mem_take hx)⟩, _, rfl, some a, cap, ?_, by simp; omega, fun j x hj => ?_⟩
    · simp only [List.length_take]
      rw [Nat.min_eq_left (by omega)]
    · rw [List.getElem?_take] at hj
      split at hj
      · rename_i hjl
        have hj2 : j < zs.length := by omega
        have h1 := hcell j hj2
        have h2 := World.cell?_spot (hcell 0 (by omega))
        have h3 : zs.getD j 0 = x := by simp [List.getD, hj]
        rw [h3] at h1
        obtain ⟨b, o, sp⟩ := a
        have h2 : sp = none := by simpa [Addr.add] using h2
        subst h2
        have h1 : W.cell? ⟨b, o + j, none⟩ = some (.int k x) := by
          simp only [Addr.add] at h1
          split at h1
          · rename_i hj0; subst hj0; exact h1
          · exact h1
        refine ⟨b, o, rfl, ?_⟩
        simp only [World.cell?] at h1
        simp only [roCell, snapOf]
        split at h1
        · rename_i heq
          rw [heq]
          simpa using h1
        · cases h1
      · cases hj
end Go.Sx
end
section
namespace Go.Sx
open Go.ChangeShapes Go.WideShapes Go.RowKit Go.ChangeAt

/-- Whatever an argument reads as, it stands for such a value. -/
def OpensV (P : Program) (t : TypeId) (D : SVal → Prop) : Prop :=
  ∀ {H : Type} {enc : TypeId × Value → H} {held : Bool} (W : World) (base : Nat) (v : Value) (d : DataW H) (ps : List MemPlace),
    Value.okWide P W .any base t v → DataW.Trod enc P W 0 (fun _ => true) held t v d ps → ∃ s, D s ∧ Den ρ0 (snapOf W) s v

theorem den_one {ρ : Rho} {H : Snap} {s : SVal} {v : Value} (h : Rep ρ H s [v]) (h1 : ∀ k n xs, s ≠ .row k n xs) (h2 : ∀ l, s ≠ .agg l) (h3 : ∀ p, s ≠ .ab p) : Den ρ H s v := by
  cases s <;> first | exact h | skip
  · trivial
  · exact absurd rfl (h1 _ _ _)
  · exact absurd rfl (h2 _)
  · exact absurd rfl (h3 _)

theorem opensV_int {P : Program} {t : TypeId} {k : IntKind} (ht : P.underlying t = some (.int k)) : OpensV P t fun s => ∃ n, s = .int k n ∧ isInt k n := by
  intro H enc held W base v d ps hv ⟨fuel, hx⟩
  obtain ⟨n, rfl⟩ := okWide_int ht hv
  obtain ⟨s, ⟨m, rfl, hm⟩, h2⟩ := opens_int ht W fuel _ _ hx
  exact ⟨_, ⟨m, rfl, hm⟩, h2⟩
theorem opensV_bool {P : Program} {t : TypeId} (ht : P.underlying t = some .bool) : OpensV P t fun s => ∃ b, s = .bs b := by
  intro H enc held W base v d ps hv ⟨fuel, hx⟩
  obtain ⟨n, rfl⟩ := okWide_bool ht hv
  obtain ⟨s, ⟨m, rfl⟩, h2⟩ := opens_bool ht W fuel _ _ hx
  exact ⟨_, ⟨m, rfl⟩, h2⟩
theorem opensV_str {P : Program} {t : TypeId} (ht : P.underlying t = some .string) : OpensV P t fun s => ∃ b : ByteArray, s = .val (.string b) ∧ b.size ≤ maxLen := by
  intro H enc held W base v d ps hv ⟨fuel, hx⟩
  obtain ⟨n, rfl⟩ := okWide_string ht hv
  obtain ⟨s, ⟨m, rfl, hm⟩, h2⟩ := opens_str ht W fuel _ _ hx
  exact ⟨_, ⟨m, rfl, hm⟩, h2⟩
theorem opensV_ints {P : Program} {t e : TypeId} {k : IntKind} (ht : P.underlying t = some (.slice e)) (he : P.underlying e = some (.int k)) (hc : P.cellsOf e = 1) :
    OpensV P t fun s => ∃ xs, s = .roi k xs ∧ xs.length ≤ maxLen ∧ ∀ x ∈ xs, isInt k x := by
  intro H enc held W base v d ps hv ⟨fuel, hx⟩
  obtain ⟨a, l, c, rfl⟩ := okWide_slice ht hv
  obtain ⟨s, ⟨xs, rfl, hm⟩, h2⟩ := opens_ints ht he hc W fuel _ _ hx
  exact ⟨_, ⟨xs, rfl, hm⟩, h2⟩
theorem okWide_arr {P : Program} {w : World} {r : Reach} {base : Nat} {t e : TypeId} {n : Nat} {v : Value} (ht : P.underlying t = some (.array n e)) (h : Value.okWide P w r base t v) : ∃ cs, v = .agg cs := by
  unfold Value.okWide at h
  simp only [ht] at h
  obtain ⟨cs, h1, _⟩ := h
  exact ⟨cs, h1⟩
theorem opensV_row {P : Program} {t e : TypeId} {n : Nat} {k : IntKind} (ht : P.underlying t = some (.array n e)) (he : P.underlying e = some (.int k)) (hc : P.cellsOf e = 1) (hn : P.cellsOf t = n) :
    OpensV P t fun s => ∃ xs, s = .row k n xs ∧ xs.length = n ∧ ∀ x ∈ xs, isInt k x := by
  intro H enc held W base v d ps hv ⟨fuel, hx⟩
  obtain ⟨cs, rfl⟩ := okWide_arr ht hv
  obtain ⟨s, ⟨xs, rfl, hm⟩, h2⟩ := opens_row ht he hc hn W fuel _ _ hx
  refine ⟨_, ⟨xs, rfl, hm⟩, h2.1, ?_⟩
  have h3 : cs.toList = xs.map (Value.int k) := h2.2
  rw [← h3]

inductive OpenAll (P : Program) : List TypeId → List (SVal → Prop) → Prop
  | nil : OpenAll P [] []
  | cons {t ts D Ds} : OpensV P t D → OpenAll P ts Ds → OpenAll P (t :: ts) (D :: Ds)
def MeetsAll : List (SVal → Prop) → List SVal → Prop
  | [], [] => True
  | D :: Ds, s :: l => D s ∧ MeetsAll Ds l
  | _, _ => False
theorem open_all {H : Type} {enc : TypeId × Value → H} {held : Bool} {P : Program} {W : World} {base : Nat} {ts : List TypeId} {Ds : List (SVal → Prop)} (h : OpenAll P ts Ds) : ∀ {vs : List Value} {ds : List (DataW H)} {ps : List MemPlace},
    (∀ (j : Nat) t v, ts[j]? = some t → vs[j]? = some v → Value.okWide P W .any base t v) → DataW.TrodAll enc P W 0 (fun _ => true) held ts vs ds ps → ∃ args, MeetsAll Ds args ∧ RepV ρ0 (snapOf W) args vs := by
  induction h with
  | nil =>
    intro vs ds ps hv hA
    obtain ⟨rfl, rfl, rfl⟩ := trodAll_nil hA
    exact ⟨[], trivial, rfl⟩
  | @cons t ts D Ds ho _ ih =>
    intro vs ds ps hv hA
    obtain ⟨v, vs', d, ds', p, q, rfl, rfl, rfl, h1, h2⟩ := trodAll_cons hA
    obtain ⟨args, h3, h4⟩ := ih (fun j t' v' a b => hv (j + 1) t' v' a b) h2
    obtain ⟨s, h5, h6⟩ := ho W base v d p (hv 0 t v rfl rfl) h1
    exact ⟨s :: args, ⟨h5, h3⟩, RepV_cons.2 ⟨v, vs', rfl, h6, h4⟩⟩
theorem trodAll_len {H : Type} {enc : TypeId × Value → H} {held : Bool} {P : Program} {W : World} {base : Nat} {sp : Nat → Bool} : ∀ {ts : List TypeId} {vs : List Value} {ds : List (DataW H)} {ps : List MemPlace}, DataW.TrodAll enc P W base sp held ts vs ds ps → ds.length = ts.length
  | [], vs, ds, ps, h => by obtain ⟨rfl, rfl, rfl⟩ := trodAll_nil h; rfl
  | t :: ts, vs, ds, ps, h => by
    obtain ⟨v, vs', d, ds', p, q, rfl, rfl, rfl, h1, h2⟩ := trodAll_cons h
    simp [trodAll_len h2]
theorem trodAll_below {H : Type} {enc : TypeId × Value → H} {P : Program} (hl : laidOutB P = true) {W W' : World} (hb : Below W.heap.size W W') : ∀ {ts : List TypeId} {vs : List Value} {ds : List (DataW H)} {ps : List MemPlace},
    (∀ t ∈ ts, P.readableRec t = true ∧ t < P.types.size) → DataW.TrodAll enc P W 0 (fun _ => true) true ts vs ds ps → DataW.TrodAll enc P W' 0 (fun b => decide (b < W.heap.size)) true ts vs ds ps
  | [], vs, ds, ps, _, h => by obtain ⟨rfl, rfl, rfl⟩ := trodAll_nil h; exact trodAll_mk0
  | t :: ts, vs, ds, ps, ht, h => by
    obtain ⟨v, vs', d, ds', p, q, rfl, rfl, rfl, h1, h2⟩ := trodAll_cons h
    have lt : ∀ x ∈ p, x.block < W.heap.size := by obtain ⟨m, hm⟩ := h1; exact DataW.trod_lt m _ _ _ hm
    exact trodAll_cons_mk (Below.trod hl (ht t (List.mem_cons_self ..)).1 (ht t (List.mem_cons_self ..)).2 h1 hb lt) (trodAll_below hl hb (fun t' h' => ht t' (List.mem_cons_of_mem _ h')) h2)
theorem below_of {w w' : World} (h : Same w w') (k : Kept w w') : Below w.heap.size w w' := ⟨h.os, h.tape, h.output, h.size, k⟩

/-- A law that a contract tells to answer true does what its row asks. -/
theorem law_calls {H : Type} {enc : TypeId × Value → H} {P : Program} {T : TypeId → Option TI} {glob : Nat → SVal} {f : FuncId} {fn : Func} {s : ChangeSpec} {sp : PSpec} {apart fresh handsOn : Bool} {tb : TypeId}
    (hc : Ctr P T glob f sp) {Ds : List (SVal → Prop)} (hopen : OpenAll P fn.params.toList Ds) (hpre : ∀ args, MeetsAll Ds args → (sp args).pre ∧ ∀ x, (sp args).post x → (sp args).res x = .bs true)
    (hlaid : laidOutB P = true) (hread : ∀ t ∈ fn.params.toList, P.readableRec t = true ∧ t < P.types.size)
    (hvars : s.vars = []) (hres : fn.resultTypes = #[tb]) (htb : P.underlying tb = some .bool)
    (hfn : ∀ ds : List (DataW H), ds.length = fn.params.toList.length → s.fn H (ds ++ []) = { results := [.lit (.bool true)], args := ds })
    {W : World} {base : Nat} {args : Array Value} {ds gs : List (DataW H)} {before : List MemPlace} (hval : ∀ (j : Nat) t v, fn.params[j]? = some t → args[j]? = some v → Value.okWide P W .any base t v)
    (hW : DataW.Whole enc P fn.params.toList s.vars apart W args.toList ds gs before) (hg : Globs ⟨T, fun _ => none, fun _ => none, glob, Om.real, fun _ => none, fun _ => none⟩ W) :
    Calls P f args W fun e W' => ∃ v, e = .returned v ∧ s.post enc P fn apart fresh handsOn false W args v W' := by
  have hW' := hW
  obtain ⟨p, q, hA, hV, rfl, hfz, hnd⟩ := hW
  rw [hvars] at hV
  obtain ⟨rfl, rfl⟩ := trodVars_none hV
  have hval' : ∀ (j : Nat) t v, fn.params.toList[j]? = some t → args.toList[j]? = some v → Value.okWide P W .any base t v := fun j t v h1 h2 => hval j t v (by simpa using h1) (by simpa using h2)
  obtain ⟨zs, h1, h2⟩ := open_all hopen hval' hA
  obtain ⟨h3, h4⟩ := hpre zs h1
  have h5 := hc.spec W zs args.toList hg h2 h3
  rw [Array.toArray_toList] at h5
  refine h5.mono fun e W' he => ?_
  obtain ⟨v, rfl, hs, hk, x, hx, hr⟩ := he
  have hv : v = .bool true := by
    obtain ⟨ρ, hd, _⟩ := hr 0
    rw [h4 x hx] at hd
    simpa [place, Den, Rep] using hd
  subst hv
  have bel := below_of hs hk
  have hf := hfn ds (trodAll_len hA)
  refine ⟨_, rfl, ds, [], _, [], p, [], hW', ?_, ?_, ?_, bel.frame _, fun h => by cases h⟩
  · rw [hf, hres]
    exact trodAll_mk1 (shut_bool htb true)
  · rw [hf]
    exact trodAll_below hlaid bel hread hA
  · rw [hf, hvars]
    rfl
end Go.Sx
end
section
namespace Go.Sx
open Go.ChangeShapes Go.WideShapes Go.RowKit Go.ChangeAt

theorem lit_of_trod {H : Type} {enc : TypeId × Value → H} {P : Program} {W : World} {base : Nat} {sp : Nat → Bool} {held : Bool} {e : TypeId} {k : IntKind} {fuel : Nat} {cs : List Value} {y : DataW H × List MemPlace} (he : P.underlying e = some (.int k))
    (hx : DataW.trod enc P W base sp held fuel e cs = some y) : ∃ z, cs = [.int k z] ∧ y.1 = .lit (.int k z) := by
  cases fuel with
  | zero => simp [DataW.trod] at hx
  | succ fuel =>
    simp only [DataW.trod, he] at hx
    split at hx <;> first | (cases hx; done) | skip
    all_goals first | (rename_i h1 h2; cases h1; done) | skip
    all_goals rename_i heq
    all_goals cases heq
    split at hx
    · rename_i h
      cases hx
      exact ⟨_, by rw [h.1], rfl⟩
    · cases hx
/-- What a table's cells are, whose datum is told. -/
theorem row_of_trod {H : Type} {enc : TypeId × Value → H} {P : Program} {W : World} {base : Nat} {sp : Nat → Bool} {held : Bool} {t e : TypeId} {n : Nat} {k : IntKind} {fuel : Nat} {cs : List Value} {xs : List Int} {p : List MemPlace}
    (ht : P.underlying t = some (.array n e)) (he : P.underlying e = some (.int k)) (hc : P.cellsOf e = 1) (hn : P.cellsOf t = n)
    (hx : DataW.trod enc P W base sp held fuel t cs = some (.agg (xs.map fun z => .lit (.int k z)), p)) : cs = xs.map (Value.int k) := by
  cases fuel with
  | zero => simp [DataW.trod] at hx
  | succ fuel =>
    simp only [DataW.trod, ht] at hx
    split at hx
    · rename_i hl
      rw [hn] at hl
      rw [Option.map_eq_some_iff] at hx
      obtain ⟨ys, hy, hd⟩ := hx
      have h2 := mapM_some_length hy
      simp only [List.length_range] at h2
      simp only [Prod.mk.injEq, DataW.agg.injEq] at hd
      have hxl : xs.length = n := by
        have := congrArg List.length hd.1
        simp at this
        omega
      apply List.ext_getElem
      · simp [hl, hxl]
      · intro i h3 h4
        have h1 := mapM_some_get hy i i (by rw [List.getElem?_range (by omega)])
        rw [List.getElem?_eq_getElem (by omega)] at h1
        obtain ⟨z, h5, h6⟩ := lit_of_trod he h1
        rw [hc, Nat.mul_one] at h5
        have h7 := congrArg (fun l => l[0]?) h5
        simp [List.getElem?_take, List.getElem?_drop, h3] at h7
        have h8 : (ys.map (·.1))[i]? = (xs.map fun z => DataW.lit (H := H) (.int k z))[i]? := by rw [hd.1]
        have hi1 : i < ys.length := by omega
        have hi2 : i < xs.length := by omega
        simp [hi1, hi2] at h8
        rw [h6] at h8
        simp only [DataW.lit.injEq, Lit.int.injEq, true_and] at h8
        simp [h7, h8]
    · cases hx
theorem block_of_var {P : Program} {W : World} {n : String} {g : Nat} {cs : Array Value} (hg : P.globalNamed n = some g) (h : W.var? P n = some cs) : ∃ t z, W.heap[g]? = some (.cells cs t z) := by
  simp only [World.var?, hg, Option.bind_some] at h
  split at h
  · rename_i h1
    cases h
    exact ⟨_, _, h1⟩
  · cases h
/-- A table that is laid is what the contracts lean on. -/
theorem den_table {P : Program} {W : World} {name : String} {g : Nat} {t e : TypeId} {n : Nat} {k : IntKind} {xs : List Int} {l : List (String × DataW Unit)} {ps : List MemPlace}
    (ht : P.underlying t = some (.array n e)) (he : P.underlying e = some (.int k)) (hc : P.cellsOf e = 1) (hn : P.cellsOf t = n) (hg : P.globalNamed name = some g) (hty : (P.globals[g]?).map (·.type) = some t) (hx : xs.length = n)
    (h : DataW.LaidVars P W l ps) (hm : (name, .agg (xs.map fun z => .lit (.int k z))) ∈ l) : Den ρ0 (snapOf W) (.rop (.row k n xs) (.l 0)) (.pointer (some ⟨g, 0, none⟩)) := by
  induction l generalizing ps with
  | nil => cases hm
  | cons a l ih =>
    obtain ⟨nm, d⟩ := a
    obtain ⟨g', t', cs, fuel, p, q, h1, h2, h3, h4, h5, _⟩ := h
    rcases List.mem_cons.1 hm with hm | hm
    · simp only [Prod.mk.injEq] at hm
      obtain ⟨rfl, rfl⟩ := hm
      obtain rfl : g = g' := Option.some.inj (hg.symm.trans h1)
      obtain rfl : t = t' := Option.some.inj (hty.symm.trans h2)
      have h6 := row_of_trod ht he hc hn h4
      obtain ⟨tt, z, h7⟩ := block_of_var h1 h3
      refine ⟨g, 0, cs.toList, rfl, ⟨hx, h6⟩, fun j v hj => ?_⟩
      simp only [roCell, snapOf]
      rw [h7]
      simpa using hj
    · exact ih h5 hm
end Go.Sx
end
section
namespace Go.Sx
open Go.ChangeShapes Go.WideShapes Go.RowKit Go.ChangeAt

theorem cell_snap {W : World} {a : Addr} {j : Nat} {v v0 : Value} (h : W.cell? (a.add j) = some v) (h0 : W.cell? (a.add 0) = some v0) : ∃ b o, a = ⟨b, o, none⟩ ∧ roCell (snapOf W) b (o + j) = some v := by
  have h2 := World.cell?_spot h0
  obtain ⟨b, o, sp⟩ := a
  have h2 : sp = none := by simpa [Addr.add] using h2
  subst h2
  have h1 : W.cell? ⟨b, o + j, none⟩ = some v := by
    simp only [Addr.add] at h
    split at h
    · rename_i hj0; subst hj0; exact h
    · exact h
  refine ⟨b, o, rfl, ?_⟩
  simp only [World.cell?] at h1
  simp only [roCell, snapOf]
  split at h1
  · rename_i heq
    rw [heq]
    simpa using h1
  · cases h1
/-- A slice of slices of numbers. -/
theorem opens_rol {P : Program} {t e q : TypeId} {k : IntKind} (ht : P.underlying t = some (.slice e)) (he : P.underlying e = some (.slice q)) (hq : P.underlying q = some (.int k)) (ce : P.cellsOf e = 1) (cq : P.cellsOf q = 1) :
    Opens P t fun s => ∃ xss, s = .rol k xss ∧ xss.length ≤ maxLen ∧ ∀ xs ∈ xss, xs.length ≤ maxLen ∧ ∀ x ∈ xs, isInt k x := by
  intro H enc held W fuel cs x hx
  rcases Go.Deep.open_slice1 ht ce hx with ⟨rfl, _⟩ | ⟨a, len, cap, m, n, V, D, Pl, rfl, hb, hl, hm, hmm, rfl, hv⟩
  · exact ⟨_, ⟨[], rfl, by simp, by simp⟩, none, 0, rfl, Nat.le_refl _, by simp⟩
  · simp only [if_true] at hmm
    subst hmm
    have each : ∀ i, i < len → ∃ xs, RoI (snapOf W) k xs (V i) ∧ xs.length ≤ maxLen ∧ ∀ x ∈ xs, isInt k x := fun i hi => by
      obtain ⟨s, ⟨xs, rfl, h1, h2⟩, h3⟩ := opens_ints he hq cq W n [V i] _ (hv i (by omega)).2
      obtain ⟨v, h4, h5⟩ := h3
      cases h4
      exact ⟨xs, h5, h1, h2⟩
    obtain ⟨f, hf⟩ := Go.Deep.choose_lt (p := fun i xs => RoI (snapOf W) k xs (V i) ∧ xs.length ≤ maxLen ∧ ∀ x ∈ xs, isInt k x) each
    refine ⟨.rol k ((List.range len).map f), ⟨_, rfl, by simp; omega, fun xs hxs => ?_⟩, some a, m, by simp, by simpa using hl, fun j xs hj => ?_⟩
    · obtain ⟨i, hi, rfl⟩ := List.mem_map.1 hxs
      exact (hf i (List.mem_range.1 hi)).2
    · rw [List.getElem?_map] at hj
      by_cases hjl : j < len
      · rw [List.getElem?_range hjl] at hj
        simp only [Option.map_some, Option.some.injEq] at hj
        subst hj
        obtain ⟨b, o, rfl, h1⟩ := cell_snap (hv j (by omega)).1 (hv 0 (by omega)).1
        exact ⟨b, o, _, rfl, h1, (hf j hjl).1⟩
      · rw [List.getElem?_eq_none (by simp; omega)] at hj
        cases hj
theorem opensV_rol {P : Program} {t e q : TypeId} {k : IntKind} (ht : P.underlying t = some (.slice e)) (he : P.underlying e = some (.slice q)) (hq : P.underlying q = some (.int k)) (ce : P.cellsOf e = 1) (cq : P.cellsOf q = 1) :
    OpensV P t fun s => ∃ xss, s = .rol k xss ∧ xss.length ≤ maxLen ∧ ∀ xs ∈ xss, xs.length ≤ maxLen ∧ ∀ x ∈ xs, isInt k x := by
  intro H enc held W base v d ps hv ⟨fuel, hx⟩
  obtain ⟨a, l, c, rfl⟩ := okWide_slice ht hv
  obtain ⟨s, ⟨xs, rfl, hm⟩, h2⟩ := opens_rol ht he hq ce cq W fuel _ _ hx
  exact ⟨_, ⟨xs, rfl, hm⟩, h2⟩
/-- A number, whatever its bounds. -/
theorem opensV_num {P : Program} {t : TypeId} {k : IntKind} (ht : P.underlying t = some (.int k)) : OpensV P t fun s => ∃ n, s = .int k n := by
  intro H enc held W base v d ps hv hx
  obtain ⟨s, h1, h2⟩ := opensV_int ht W base v d ps hv hx
  exact ⟨s, Exists.imp (fun _ h => h.1) h1, h2⟩
end Go.Sx
end
section
namespace Go.Sx
open Go.ChangeShapes Go.WideShapes Go.RowKit Go.ChangeAt

theorem trod_struct {H : Type} {enc : TypeId × Value → H} {P : Program} {W : World} {base : Nat} {sp : Nat → Bool} {held : Bool} {t : TypeId} {fs : Array Field} {fuel : Nat} {cs : List Value} {x : DataW H × List MemPlace} (ht : P.underlying t = some (.struct fs))
    (hx : DataW.trod enc P W base sp held fuel t cs = some x) : ∃ m, cs.length = P.cellsOf t ∧ ∀ (j : Nat) f, fs[j]? = some f → ∃ y, DataW.trod enc P W base sp held m f.type ((cs.drop f.offset).take (P.cellsOf f.type)) = some y := by
  cases fuel with
  | zero => simp [DataW.trod] at hx
  | succ fuel =>
    simp only [DataW.trod, ht] at hx
    split at hx
    · rename_i hl
      refine ⟨fuel, hl, fun j f hf => ?_⟩
      rw [Option.map_eq_some_iff] at hx
      obtain ⟨ys, hy, _⟩ := hx
      have h1 := mapM_some_get hy j f (by simpa using hf)
      have h2 := mapM_some_length hy
      have h3 : j < fs.size := (Array.getElem?_eq_some_iff.1 hf).1
      rw [List.getElem?_eq_getElem (by rw [h2]; simpa using h3)] at h1
      exact ⟨_, h1⟩
    · cases hx
/-- A slice of structs of a number, bytes and a number. -/
theorem opens_ops {P : Program} {t e q : TypeId} {f0 f1 f2 : Field} {k : IntKind} (ht : P.underlying t = some (.slice e)) (he : P.underlying e = some (.struct #[f0, f1, f2])) (ce : P.cellsOf e = 3) (o0 : f0.offset = 0) (o1 : f1.offset = 1) (o2 : f2.offset = 2)
    (h0 : P.underlying f0.type = some (.int k)) (h1 : P.underlying f1.type = some (.slice q)) (hq : P.underlying q = some (.int .u8)) (cq : P.cellsOf q = 1) (h2 : P.underlying f2.type = some (.int k))
    (c0 : P.cellsOf f0.type = 1) (c1 : P.cellsOf f1.type = 1) (c2 : P.cellsOf f2.type = 1) :
    Opens P t fun s => ∃ ak bss ns n, s = .roe [.ints k ak, .byts bss, .ints k ns] n ∧ n ≤ maxLen ∧ ∀ i, i < n → ∀ x ∈ bss.getD i [], isInt .u8 x := by
  intro H enc held W fuel cs x hx
  rcases Go.Deep.open_slice ht hx with ⟨rfl, _⟩ | ⟨a, len, cap, m, n, D, Pl, rfl, hb, hl, hm, hmm, rfl, hv⟩
  · exact ⟨_, ⟨[], [], [], 0, rfl, Nat.zero_le _, fun i h => absurd h (Nat.not_lt_zero _)⟩, none, 0, rfl, Nat.le_refl _, fun h => absurd h (Nat.lt_irrefl _)⟩
  · simp only [if_true] at hmm
    subst hmm
    have each : ∀ i, i < len → ∃ y : Int × List Int × Int, (∃ u, W.cell? ((a.add (i * 3)).add 1) = some u ∧ RoI (snapOf W) .u8 y.2.1 u) ∧ W.cell? ((a.add (i * 3)).add 0) = some (.int k y.1) ∧ W.cell? ((a.add (i * 3)).add 2) = some (.int k y.2.2) ∧ ∀ x ∈ y.2.1, isInt .u8 x := fun i hi => by
      obtain ⟨cs', hc, hd⟩ := hv i (by omega)
      rw [ce] at hc
      obtain ⟨_, hcl, hcc⟩ := World.cells?_some hc
      obtain ⟨m', _, hf⟩ := trod_struct he hd
      match cs', hcl with
      | [v0, v1, v2], _ =>
        obtain ⟨y0, hy0⟩ := hf 0 f0 rfl
        obtain ⟨y1, hy1⟩ := hf 1 f1 rfl
        obtain ⟨y2, hy2⟩ := hf 2 f2 rfl
        rw [o0, c0] at hy0
        rw [o1, c1] at hy1
        rw [o2, c2] at hy2
        obtain ⟨s0, ⟨z0, rfl, _⟩, e0⟩ := opens_int h0 W m' _ _ hy0
        obtain ⟨s1, ⟨xs, rfl, _, r1⟩, e1⟩ := opens_ints h1 hq cq W m' _ _ hy1
        obtain ⟨s2, ⟨z2, rfl, _⟩, e2⟩ := opens_int h2 W m' _ _ hy2
        simp only [Rep, List.drop_zero, List.take_succ_cons, List.take_zero, List.drop_succ_cons, List.cons.injEq, and_true] at e0 e1 e2
        obtain ⟨u, e1, r2⟩ := e1
        refine ⟨(z0, xs, z2), ⟨u, ?_, r2⟩, ?_, ?_, r1⟩
        · rw [hcc 1 (by omega)]; simp [e1]
        · rw [hcc 0 (by omega)]; simp [e0]
        · rw [hcc 2 (by omega)]; simp [e2]
    obtain ⟨f, hf⟩ := Go.Deep.choose_lt each
    refine ⟨.roe [.ints k ((List.range len).map fun i => (f i).1), .byts ((List.range len).map fun i => (f i).2.1), .ints k ((List.range len).map fun i => (f i).2.2)] len, ⟨_, _, _, _, rfl, by omega, fun i hi x hx => ?_⟩, some a, m, rfl, by omega, fun hn => ?_⟩
    · have e : ((List.range len).map fun i => (f i).2.1).getD i [] = (f i).2.1 := by simp [List.getD, hi]
      rw [e] at hx
      exact (hf i hi).2.2.2 x hx
    · have hsp := World.cell?_spot (hf 0 hn).2.1
      obtain ⟨b, o, sp⟩ := a
      have hsp : sp = none := by simpa [Addr.add] using hsp
      subst hsp
      refine ⟨b, o, rfl, fun j hj g col hg => ?_⟩
      obtain ⟨⟨u, w1, w2⟩, w0, w3, _⟩ := hf j hj
      have roc : ∀ q v, W.cell? (((⟨b, o, none⟩ : Addr).add (j * 3)).add q) = some v → roCell (snapOf W) b (o + j * 3 + q) = some v := by
        intro q v hv
        rw [Addr_add, Addr_add] at hv
        simp only [World.cell?] at hv
        simp only [roCell, snapOf]
        split at hv
        · rename_i heq
          rw [heq]
          simpa using hv
        · cases hv
      have gi : ∀ {α : Type} (h : Nat → α), ((List.range len).map h)[j]? = some (h j) := fun h => by simp [hj]
      match g, hg with
      | 0, hg => cases hg; exact ⟨_, roc 0 _ w0, _, gi _, rfl⟩
      | 1, hg => cases hg; exact ⟨u, roc 1 _ w1, _, gi _, w2⟩
      | 2, hg => cases hg; exact ⟨_, roc 2 _ w3, _, gi _, rfl⟩
      | g + 3, hg => simp [getCol] at hg
theorem opensV_ops {P : Program} {t e q : TypeId} {f0 f1 f2 : Field} {k : IntKind} (ht : P.underlying t = some (.slice e)) (he : P.underlying e = some (.struct #[f0, f1, f2])) (ce : P.cellsOf e = 3) (o0 : f0.offset = 0) (o1 : f1.offset = 1) (o2 : f2.offset = 2)
    (h0 : P.underlying f0.type = some (.int k)) (h1 : P.underlying f1.type = some (.slice q)) (hq : P.underlying q = some (.int .u8)) (cq : P.cellsOf q = 1) (h2 : P.underlying f2.type = some (.int k))
    (c0 : P.cellsOf f0.type = 1) (c1 : P.cellsOf f1.type = 1) (c2 : P.cellsOf f2.type = 1) :
    OpensV P t fun s => ∃ ak bss ns n, s = .roe [.ints k ak, .byts bss, .ints k ns] n ∧ n ≤ maxLen ∧ ∀ i, i < n → ∀ x ∈ bss.getD i [], isInt .u8 x := by
  intro H enc held W base v d ps hv ⟨fuel, hx⟩
  obtain ⟨a, l, c, rfl⟩ := okWide_slice ht hv
  obtain ⟨s, ⟨ak, bss, ns, n, rfl, hm⟩, h2⟩ := opens_ops ht he ce o0 o1 o2 h0 h1 hq cq h2 c0 c1 c2 W fuel _ _ hx
  exact ⟨_, ⟨ak, bss, ns, n, rfl, hm⟩, h2⟩
end Go.Sx
end
section
namespace Go.Sx
open Go.ChangeShapes Go.WideShapes Go.RowKit Go.ChangeAt

theorem rep_two {ρ : Rho} {H : Snap} {a b : SVal} {cs us ws : List Value} (e : cs = us ++ ws) (h1 : Rep ρ H a us) (h2 : Rep ρ H b ws) : Rep ρ H (.agg [a, b]) cs := by
  simp only [Rep]
  exact RepC_cons.2 ⟨us, ws, e, h1, RepC_cons.2 ⟨ws, [], (List.append_nil _).symm, h2, rfl⟩⟩
/-- A struct of two fields. -/
theorem opens_st2 {P : Program} {t : TypeId} {f0 f1 : Field} {D0 D1 : SVal → Prop} (ht : P.underlying t = some (.struct #[f0, f1])) (o0 : f0.offset = 0) (o1 : f1.offset = P.cellsOf f0.type) (hn : P.cellsOf t = P.cellsOf f0.type + P.cellsOf f1.type)
    (h0 : Opens P f0.type D0) (h1 : Opens P f1.type D1) : Opens P t fun s => ∃ a b, s = .agg [a, b] ∧ D0 a ∧ D1 b := by
  intro H enc held W fuel cs x hx
  obtain ⟨m, hl, hf⟩ := trod_struct ht hx
  obtain ⟨y0, hy0⟩ := hf 0 f0 rfl
  obtain ⟨y1, hy1⟩ := hf 1 f1 rfl
  obtain ⟨a, d0, r0⟩ := h0 W m _ _ hy0
  obtain ⟨b, d1, r1⟩ := h1 W m _ _ hy1
  rw [o0, List.drop_zero] at r0
  rw [o1] at r1
  refine ⟨_, ⟨a, b, rfl, d0, d1⟩, rep_two ?_ r0 r1⟩
  rw [List.take_of_length_le (l := cs.drop _) (by rw [List.length_drop]; omega), List.take_append_drop]
/-- An array of two. -/
theorem opens_arr2 {P : Program} {t e : TypeId} {D : SVal → Prop} (ht : P.underlying t = some (.array 2 e)) (hn : P.cellsOf t = P.cellsOf e + P.cellsOf e) (h : Opens P e D) : Opens P t fun s => ∃ a b, s = .agg [a, b] ∧ D a ∧ D b := by
  intro H enc held W fuel cs x hx
  obtain ⟨m, hl, hf⟩ := trod_array ht hx
  obtain ⟨y0, hy0⟩ := hf 0 (by decide)
  obtain ⟨y1, hy1⟩ := hf 1 (by decide)
  obtain ⟨a, d0, r0⟩ := h W m _ _ hy0
  obtain ⟨b, d1, r1⟩ := h W m _ _ hy1
  rw [Nat.zero_mul, List.drop_zero] at r0
  rw [Nat.one_mul] at r1
  refine ⟨_, ⟨a, b, rfl, d0, d1⟩, rep_two ?_ r0 r1⟩
  rw [List.take_of_length_le (l := cs.drop _) (by rw [List.length_drop]; omega), List.take_append_drop]
theorem okWide_st {P : Program} {w : World} {r : Reach} {base : Nat} {t : TypeId} {fs : Array Field} {v : Value} (ht : P.underlying t = some (.struct fs)) (h : Value.okWide P w r base t v) : ∃ cs, v = .agg cs := by
  unfold Value.okWide at h
  simp only [ht] at h
  obtain ⟨cs, h1, _⟩ := h
  exact ⟨cs, h1⟩
theorem opensV_agg {P : Program} {t : TypeId} {D : SVal → Prop} (ho : Opens P t D) (hD : ∀ s, D s → ∃ l, s = .agg l) (hok : ∀ (W : World) base v, Value.okWide P W .any base t v → ∃ cs, v = .agg cs) : OpensV P t D := by
  intro H enc held W base v d ps hv ⟨fuel, hx⟩
  obtain ⟨cs, rfl⟩ := hok W base v hv
  obtain ⟨s, hs, h2⟩ := ho W fuel _ _ hx
  obtain ⟨l, rfl⟩ := hD s hs
  refine ⟨_, hs, ?_⟩
  simp only [Rep] at h2
  exact ⟨cs.toList, h2, by simp⟩
theorem opensV_st2 {P : Program} {t : TypeId} {f0 f1 : Field} {D0 D1 : SVal → Prop} (ht : P.underlying t = some (.struct #[f0, f1])) (o0 : f0.offset = 0) (o1 : f1.offset = P.cellsOf f0.type) (hn : P.cellsOf t = P.cellsOf f0.type + P.cellsOf f1.type)
    (h0 : Opens P f0.type D0) (h1 : Opens P f1.type D1) : OpensV P t fun s => ∃ a b, s = .agg [a, b] ∧ D0 a ∧ D1 b :=
  opensV_agg (opens_st2 ht o0 o1 hn h0 h1) (fun s h => by obtain ⟨a, b, rfl, _⟩ := h; exact ⟨_, rfl⟩) fun W base v => okWide_st ht
theorem opensV_arr2 {P : Program} {t e : TypeId} {D : SVal → Prop} (ht : P.underlying t = some (.array 2 e)) (hn : P.cellsOf t = P.cellsOf e + P.cellsOf e) (h : Opens P e D) : OpensV P t fun s => ∃ a b, s = .agg [a, b] ∧ D a ∧ D b :=
  opensV_agg (opens_arr2 ht hn h) (fun s h => by obtain ⟨a, b, rfl, _⟩ := h; exact ⟨_, rfl⟩) fun W base v => okWide_arr ht
theorem opens_num {P : Program} {t : TypeId} {k : IntKind} (ht : P.underlying t = some (.int k)) : Opens P t fun s => ∃ n, s = .int k n :=
  Opens.mono (opens_int ht) fun s h => by obtain ⟨n, rfl, _⟩ := h; exact ⟨n, rfl⟩
theorem isByte {a : Int} (h : isInt .u8 a) : 0 ≤ a ∧ a < 256 := by
  have h' : (Lit.int .u8 a).wf = true := h
  simp only [Lit.wf, Bool.and_eq_true, decide_eq_true_eq] at h'
  have h1 : IntKind.u8.min = 0 := by rfl
  have h2 : IntKind.u8.max = 255 := by rfl
  rw [h1, h2] at h'
  omega
theorem isI64 {a : Int} (h : isInt .i64 a) : -9223372036854775808 ≤ a ∧ a < 9223372036854775808 := by
  have h' : (Lit.int .i64 a).wf = true := h
  simp only [Lit.wf, Bool.and_eq_true, decide_eq_true_eq] at h'
  have h1 : IntKind.i64.min = -9223372036854775808 := by rfl
  have h2 : IntKind.i64.max = 9223372036854775807 := by rfl
  rw [h1, h2] at h'
  omega
theorem maxLen_lt {n : Nat} (h : n ≤ maxLen) : n < 9223372036854775808 := by
  have : n ≤ 9223372036854775807 := h
  omega
end Go.Sx
end
