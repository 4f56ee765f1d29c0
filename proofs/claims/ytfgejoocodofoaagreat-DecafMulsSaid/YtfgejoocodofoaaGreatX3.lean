/-
  Part of the proof of a statement: the means.
-/
import Derived.Test.YtfgejoocodofoaaGreatX2
import Derived.AtR
import Derived.RangeFuncRecord
import Derived.RangeFuncIn
import Derived.Scope
import Derived.Laws.Bits64
set_option linter.unusedSectionVars false
set_option linter.unusedVariables false
set_option linter.unusedSimpArgs false
set_option linter.deprecated false
section
namespace Go.Sx
def qR (w : World) : Snap := ⟨fun b => w.heap[b]?, w, []⟩
def ρ0 : Rho := fun _ => ⟨0, 0, 0, true⟩
def qad (w : World) : Snap := ⟨fun _ => none, w, []⟩
mutual
def qa3 : SVal -> SVal -> Prop
 | .lit k n, .lit k' m => k = k' /\ n = m
 | .lit k n, .int k' m => k = k' /\ n = m
 | .int k n, .lit k' m => k = k' /\ n = m
 | .int k n, .int k' m => k = k' /\ n = m
 | .bl b, .bl c => b = c
 | .bl b, .bs c => b = c
 | .bs b, .bl c => b = c
 | .bs b, .bs c => b = c
 | .val v, .val u => v = u
 | .row k n xs, .row k' n' ys => k = k' /\ n = n' /\ xs = ys
 | .agg l, .agg l' => qcc l l'
 | .ab p, .ab q => p = q
 | .row k _ xs, .ab p => k = p.k /\ p.ok xs
 | .agg l, .ab p => qdw l p
 | .agg l, .row k n xs => qee l k n xs
 | _, _ => False
def qcc : List SVal -> List SVal -> Prop
 | [], [] => True
 | s :: l, t :: m => qa3 s t /\ qcc l m
 | _, _ => False
end
section
variable (E : Env) (h : Heap)
def qaC (r t : SVal) : Prop :=
 match t with
 | .fr k ys cap => match r with
   | .sl id 1 off len c => c.v = cap /\ match look h id with
     | .seq k' zs => k = k' /\ off.v + len.v <= zs.length /\ ys = E.Ω.sub zs off.v len.v
     | .row k' n zs => k = k' /\ off.v + len.v <= n /\ ys = E.Ω.sub zs off.v len.v
     | _ => False
   | .val (.slice none 0 0) => ys = [] /\ cap = 0
   | _ => False
 | .fra q cap => match r with
   | .sl id es (.l 0) len c => c.v = cap /\ es = q.es /\ len.v = q.len /\ match look h id with
     | .sab q' => q' = q
     | _ => False
   | _ => False
 | t => qa3 r t
def qa8 : List SVal -> List SVal -> Prop
 | [], [] => True
 | s :: l, t :: m => qaC E h s t /\ qa8 l m
 | _, _ => False
def qM : List SVal -> List Nat
 | [] => []
 | .sl id _ _ _ _ :: l => id :: qM l
 | _ :: l => qM l
def qas : List Nat -> Bool
 | [] => true
 | x :: l => !(l.any fun y => Nat.beq x y) && qas l
def fits (r t : SVal) : Prop :=
 match t with
 | .tup m => match r with
   | .tup l => qa8 E h l m /\ qas (qM l) = true /\ Nat.ble l.length 8 = true
   | _ => False
 | .frp m => match r with
   | .ptr id (.l 0) => match look h id with
     | .agg l => qa8 E h l m /\ qas (id :: qM l) = true /\ Nat.ble l.length 7 = true
     | _ => False
   | _ => False
 | t => qaC E h r t
end
mutual
theorem qld {ρ ρ' : Rho} {H H' : Snap} : ∀ (s t : SVal) {vs : List Value}, qa3 s t -> Rep ρ H s vs -> Rep ρ' H' t vs
 | s, t, vs, hf, hr => by
   cases s <;> cases t <;> simp only [qa3] at hf
   case agg.agg l m => simp only [Rep] at hr ⊢; exact qiF l m hf hr
   case row.row => obtain ⟨rfl, rfl, rfl⟩ := hf; simpa only [Rep] using hr
   case row.ab => obtain ⟨rfl, h2⟩ := hf; simp only [Rep] at hr ⊢; exact ⟨_, hr.2, h2⟩
   case agg.ab => simp only [Rep] at hr ⊢; exact hf _ _ _ hr
   case agg.row => simp only [Rep] at hr ⊢; obtain ⟨h1, h2⟩ := hf _ _ _ hr; exact ⟨h2, h1⟩
   all_goals first
     | (obtain ⟨rfl, rfl⟩ := hf; simpa only [Rep] using hr)
     | (subst hf; simpa only [Rep] using hr)
theorem qiF {ρ ρ' : Rho} {H H' : Snap} : ∀ (l m : List SVal) {vs : List Value}, qcc l m -> RepC ρ H l vs -> RepC ρ' H' m vs
 | [], [], vs, hf, hr => hr
 | s :: l, t :: m, vs, hf, hr => by
   obtain ⟨us, ws, rfl, h1, h2⟩ := RepC_cons.1 hr
   exact RepC_cons.2 ⟨us, ws, rfl, qld s t hf.1 h1, qiF l m hf.2 h2⟩
 | [], _ :: _, vs, hf, _ => by simp [qcc] at hf
 | _ :: _, [], vs, hf, _ => by simp [qcc] at hf
end
theorem qiG {ρ ρ' : Rho} {H H' : Snap} {s t : SVal} {v : Value} (hf : qa3 s t) (hd : Den ρ H s v) : Den ρ' H' t v := by
 cases s <;> cases t <;> simp only [qa3] at hf
 case agg.agg l m =>
  obtain ⟨us, h1, rfl⟩ := hd
  exact ⟨us, qiF l m hf h1, rfl⟩
 case row.row => obtain ⟨rfl, rfl, rfl⟩ := hf; exact hd
 case row.ab => obtain ⟨rfl, h2⟩ := hf; exact ⟨_, h2, hd.2⟩
 case agg.ab =>
  obtain ⟨us, h1, rfl⟩ := hd
  obtain ⟨xs, rfl, h2⟩ := hf _ _ _ h1
  exact ⟨xs, h2, rfl⟩
 case agg.row =>
  obtain ⟨us, h1, rfl⟩ := hd
  obtain ⟨rfl, h2⟩ := hf _ _ _ h1
  exact ⟨h2, rfl⟩
 all_goals first
  | (obtain ⟨rfl, rfl⟩ := hf; simpa only [Den, Rep] using hd)
  | (subst hf; simpa only [Den, Rep] using hd)
section
variable {P : Program} {E : Env} {ρ : Rho} {h : Heap} {U : Top} {w w' : World} {ts : List SVal} {a : Act}
theorem qiH {Hs : Snap} (hom : E.Ω = Om.real) (R : Rel E ρ Hs ts h U a w') {r : SVal} {k : IntKind} {ys : List Int} {cap : Nat} {v : Value} (hf : qaC E h r (.fr k ys cap)) (hd : Den ρ Hs r v) :
  ∃ pos : Pos, (∀ ρ' i, ρ' i = pos -> Den ρ' (qad w) (.sl i 1 (.l 0) (.s (E.Ω.len ys)) (.s cap)) v /\ (qaB ρ' i (.seq k ys) \/ ∃ arr t vs, Lies ρ' (qad w) w' i (.seq k ys) arr t vs)) /\ (pos.g = false -> Hs pos.b = none) /\
   (∀ id es off len c, r = .sl id es off len c -> pos.g = false -> (ρ id).g = false /\ pos.b = (ρ id).b /\ look h id ≠ .junk) /\ ((∀ id es off len c, r ≠ .sl id es off len c) -> pos.g = true) := by
 have hlen : E.Ω.len ys = ys.length := by rw [hom]; rfl
 unfold qaC at hf
 simp only at hf
 split at hf
 ·rename_i id off len c
  obtain ⟨rfl, hf⟩ := hf
  have hsub : ∀ zs, E.Ω.sub zs off.v len.v = (zs.drop off.v).take len.v := fun zs => by rw [hom]; rfl
  have main : ∀ zs : List Int, look h id ≠ .junk -> (∀ arr t vs, Lies ρ Hs w' id (look h id) arr t vs -> vs = zs.map (Value.int k)) -> (qaB ρ id (look h id) -> zs = []) -> off.v + len.v <= zs.length -> ys = (zs.drop off.v).take len.v ->
    ∃ pos : Pos, (∀ ρ' i, ρ' i = pos -> Den ρ' (qad w) (.sl i 1 (.l 0) (.s (E.Ω.len ys)) (.s c.v)) v /\ (qaB ρ' i (.seq k ys) \/ ∃ arr t vs, Lies ρ' (qad w) w' i (.seq k ys) arr t vs)) /\ (pos.g = false -> Hs pos.b = none) /\
     (pos.g = false -> (ρ id).g = false /\ pos.b = (ρ id).b /\ look h id ≠ .junk) := by
   intro zs hj hvs hgh hin hys
   have hyl : ys.length = len.v := by rw [hys]; simp; omega
   simp only [Den, Rep, List.cons.injEq, and_true] at hd
   obtain ⟨ad, rfl, hle, hroom, hg1, hg2⟩ := hd
   rcases R.lies hj with hg | ⟨arr, t, vs, li⟩
   ·obtain ⟨e1, e2⟩ := hg1 hg.1
    subst e1
    have hz := hgh hg
    subst hz
    have hy0 : ys = [] := by rw [hys]; simp
    refine ⟨⟨0, 0, 0, true⟩, fun ρ' i e => ⟨?_, .inl ⟨by rw [e], by rw [e], k, by rw [hy0]⟩⟩, (fun q => by cases q), (fun q => by cases q)⟩
    simp only [Den, Rep, e, List.cons.injEq, and_true]
    exact ⟨none, by rw [hlen, hyl]; rfl, by rw [hlen, hyl]; exact hle, by show 0 + c.v * 1 <= 0; omega, fun _ => ⟨rfl, e2⟩, by simp⟩
   ·obtain ⟨o', rfl, ho'⟩ := hg2 li.real
    have hroom2 := li.room
    refine ⟨⟨(ρ id).b, (ρ id).o + off.v, c.v, false⟩, fun ρ' i e => ⟨?_, .inr ⟨arr, t, ys.map (Value.int k), by rw [e], by rw [e]; exact li.blk, rfl, by simp only [Rep], by rw [e]; dsimp only; omega, by rw [e, List.length_map]; dsimp only; omega, fun j x hx => ?_⟩⟩, fun _ => ?_, fun _ => ⟨li.real, rfl, hj⟩⟩
    ·simp only [Den, Rep, e, List.cons.injEq, and_true]
     refine ⟨_, by rw [hlen, hyl]; rfl, by rw [hlen, hyl]; exact hle, by simp only [SN.v]; omega, by simp, fun _ => ⟨o', rfl, fun hc => ?_⟩⟩
     exact ho' hc
    ·rw [e]
     dsimp only
     rw [Nat.add_assoc]
     refine li.cells _ _ ?_
     rw [hvs arr t vs li]
     rw [List.getElem?_map, Option.map_eq_some_iff] at hx ⊢
     obtain ⟨z, hz, rfl⟩ := hx
     rw [hys, List.getElem?_take] at hz
     split at hz
     ·rw [List.getElem?_drop] at hz; exact ⟨z, hz, rfl⟩
     ·cases hz
    ·exact li.own
  split at hf
  ·rename_i k' zs hl
   obtain ⟨rfl, h1, h2⟩ := hf
   obtain ⟨pos, q1, q2, q3⟩ := main zs (by rw [hl]; simp) (fun arr t vs li => by have := li.rep; rw [hl] at this; simpa only [Rep] using this) (fun hg => by obtain ⟨_, _, k2, hk⟩ := hg; rw [hl] at hk; cases hk; rfl) h1 (by rw [h2, hsub])
   exact ⟨pos, q1, q2, (fun id' es' off' len' c' e => by cases e; exact q3), fun hn => absurd rfl (hn _ _ _ _ _)⟩
  ·rename_i k' n zs hl
   obtain ⟨rfl, h1, h2⟩ := hf
   have hzl : zs.length = n := by
    rcases R.lies (id := id) (by rw [hl]; simp) with hg | ⟨arr, t, vs, li⟩
    ·obtain ⟨_, _, k2, hk⟩ := hg; rw [hl] at hk; cases hk
    ·have := li.rep; rw [hl] at this; simp only [Rep] at this; exact this.1
   obtain ⟨pos, q1, q2, q3⟩ := main zs (by rw [hl]; simp) (fun arr t vs li => by have := li.rep; rw [hl] at this; simp only [Rep] at this; exact this.2) (fun hg => by obtain ⟨_, _, k2, hk⟩ := hg; rw [hl] at hk; cases hk) (by rw [hzl]; exact h1) (by rw [h2, hsub])
   exact ⟨pos, q1, q2, (fun id' es' off' len' c' e => by cases e; exact q3), fun hn => absurd rfl (hn _ _ _ _ _)⟩
  ·exact hf.elim
 ·obtain ⟨rfl, rfl⟩ := hf
  simp only [Den, Rep, List.cons.injEq, and_true] at hd
  refine ⟨⟨0, 0, 0, true⟩, fun ρ' i e => ⟨?_, .inl ⟨by rw [e], by rw [e], k, rfl⟩⟩, (fun q => by cases q), (fun id es off len c e => by cases e), fun _ => rfl⟩
  simp only [Den, Rep, e, List.cons.injEq, and_true]
  exact ⟨none, by rw [hlen]; exact hd.1, by rw [hlen]; exact Nat.le_refl _, by simp [SN.v], fun _ => ⟨rfl, rfl⟩, by simp⟩
 ·exact hf.elim
theorem qiI {Hs : Snap} (hom : E.Ω = Om.real) (R : Rel E ρ Hs ts h U a w') {r : SVal} {q : PayL} {cap : Nat} {v : Value} (hf : qaC E h r (.fra q cap)) (hd : Den ρ Hs r v) :
  ∃ pos : Pos, (∀ ρ' i, ρ' i = pos -> Den ρ' (qad w) (.sl i q.es (.l 0) (.s (lenO E q)) (.s cap)) v /\ (qaB ρ' i (.sab q) \/ ∃ arr t vs, Lies ρ' (qad w) w' i (.sab q) arr t vs)) /\ (pos.g = false -> Hs pos.b = none) /\
   (∀ id es off len c, r = .sl id es off len c -> pos.g = false -> (ρ id).g = false /\ pos.b = (ρ id).b /\ look h id ≠ .junk) /\ ((∀ id es off len c, r ≠ .sl id es off len c) -> pos.g = true) := by
 have hlen : lenO E q = q.len := by unfold lenO; cases q <;> (rw [hom]; rfl)
 unfold qaC at hf
 simp only at hf
 split at hf <;> try (exact hf.elim)
 rename_i id es len c
 obtain ⟨rfl, rfl, h1, hf⟩ := hf
 split at hf <;> try (exact hf.elim)
 rename_i q' hl
 subst hf
 simp only [Den, Rep, List.cons.injEq, and_true] at hd
 obtain ⟨ad, rfl, hle, hroom, hg1, hg2⟩ := hd
 rcases R.lies (id := id) (by rw [hl]; simp) with hg | ⟨arr, t, vs, li⟩
 ·obtain ⟨_, _, k2, hk⟩ := hg
  rw [hl] at hk; cases hk
 ·have hrep := li.rep
  rw [hl] at hrep
  refine ⟨ρ id, fun ρ' i e => ⟨?_, .inr ⟨arr, t, vs, by rw [e]; exact li.real, by rw [e]; exact li.blk, rfl, by simpa only [Rep] using hrep, by rw [e]; exact li.room, by rw [e]; exact li.fits, by rw [e]; exact li.cells⟩⟩, fun _ => li.own, fun id' es' off' len' c' e _ => ?_, fun hn => absurd rfl (hn _ _ _ _ _)⟩
  ·simp only [Den, Rep, e, List.cons.injEq, and_true]
   exact ⟨ad, by rw [hlen, <- h1]; rfl, by simp only [SN.v]; rw [hlen, <- h1]; exact hle, hroom, hg1, hg2⟩
  ·cases e
   exact ⟨li.real, rfl, by rw [hl]; simp⟩
end
end Go.Sx
end
section
namespace Go.Sx
mutual
theorem qiJ : ∀ (s t : SVal), qa3 s t -> IdsLt noId t
 | s, t, hf => by
   cases s <;> cases t <;> simp only [qa3] at hf <;> first
     | trivial
     | exact qle _ _ hf
theorem qle : ∀ (l m : List SVal), qcc l m -> IdsLtL noId m
 | [], [], _ => trivial
 | s :: l, t :: m, hf => ⟨qiJ s t hf.1, qle l m hf.2⟩
 | [], _ :: _, hf => by simp [qcc] at hf
 | _ :: _, [], hf => by simp [qcc] at hf
end
section
variable {P : Program} {E : Env} {ρ : Rho} {h : Heap} {U : Top} {w w' : World} {ts : List SVal} {a : Act}
theorem qes {w : World} {b : Nat} (h : qR w b = none) : w.heap.size <= b := Nat.le_of_not_lt fun hlt => by
 simp only [qR] at h
 rw [Array.getElem?_eq_getElem hlt] at h
 cases h
theorem qcP {Hs : Snap} (R : Rel E ρ Hs ts h U a w') {i j : Nat} (hi : look h i ≠ .junk) (hj : look h j ≠ .junk) (hne : i ≠ j) (gi : (ρ i).g = false) (gj : (ρ j).g = false) : (ρ i).b ≠ (ρ j).b := by
 have m1 := qan rfl hi
 have m2 := qan rfl hj
 have key : ∀ (l : Heap), l.Pairwise (ApartR ρ) -> ∀ p ∈ l, ∀ q ∈ l, p.1 ≠ q.1 -> ApartR ρ p q := by
  intro l
  induction l with
  | nil => intro _ p hp; cases hp
  | cons x l ih =>
    intro hp p hpm q hqm hne
    rw [List.pairwise_cons] at hp
    rcases List.mem_cons.1 hpm with e | hpm
    · rcases List.mem_cons.1 hqm with e' | hqm
      · rw [e, e'] at hne; exact absurd rfl hne
      · rw [e]; exact hp.1 q hqm
    · rcases List.mem_cons.1 hqm with e' | hqm
      · rw [e']; exact (hp.1 p hpm).symm
      · exact ih hp.2 p hpm q hqm hne
 exact (key h R.heap.2 _ m1 _ m2 hne).2 gi gj
def OneM (ρ : Rho) (H : Snap) (m : Bool) (s : SVal) (u : List Value) : Prop :=
 match m with
 | true => ∃ v, u = [v] /\ Den ρ H s v
 | false => Rep ρ H s u
def RepM (ρ : Rho) (H : Snap) : List Bool -> List SVal -> List (List Value) -> Prop
 | [], [], us => us = []
 | m :: ms, s :: l, us => ∃ u r, us = u :: r /\ OneM ρ H m s u /\ RepM ρ H ms l r
 | _, _, _ => False
theorem OneM.ext {ρ ρ' : Rho} {H H' : Snap} {t : Top} (hρ : ∀ i, t i -> ρ' i = ρ i) (hH : ∀ b o, H b = some o -> H' b = some o) {m : Bool} {s : SVal} {u : List Value} (hi : IdsLt t s) (h : OneM ρ H m s u) : OneM ρ' H' m s u := by
 cases m with
 | true => obtain ⟨v, e, hd⟩ := h; exact ⟨v, e, Den.ext hρ hH hi hd⟩
 | false => exact Rep.ext hρ hH s hi h
theorem RepM.ext {ρ ρ' : Rho} {H H' : Snap} {t : Top} (hρ : ∀ i, t i -> ρ' i = ρ i) (hH : ∀ b o, H b = some o -> H' b = some o) : ∀ {ms : List Bool} {l : List SVal} {us : List (List Value)}, IdsLtL t l -> RepM ρ H ms l us -> RepM ρ' H' ms l us
 | [], [], us, _, h => h
 | m :: ms, s :: l, us, hi, h => by
   obtain ⟨u, r, e, h1, h2⟩ := h
   exact ⟨u, r, e, h1.ext hρ hH hi.1, RepM.ext hρ hH hi.2 h2⟩
 | [], _ :: _, _, _, h => h.elim
 | _ :: _, [], _, _, h => h.elim
theorem RepM_C {ρ : Rho} {H : Snap} : ∀ {l : List SVal} {vs : List Value}, RepC ρ H l vs ↔ ∃ us, vs = us.flatten /\ RepM ρ H (List.replicate l.length false) l us
 | [], vs => by
   simp only [RepC, List.length_nil, List.replicate_zero, RepM]
   exact ⟨fun h => ⟨[], by rw [h]; rfl, rfl⟩, fun ⟨us, e, h⟩ => by rw [e, h]; rfl⟩
 | s :: l, vs => by
   rw [RepC_cons]
   simp only [List.length_cons, List.replicate_succ, RepM]
   constructor
   · rintro ⟨u, ws, rfl, h1, h2⟩
     obtain ⟨us, rfl, h3⟩ := RepM_C.1 h2
     exact ⟨u :: us, by simp, u, us, rfl, h1, h3⟩
   · rintro ⟨us, rfl, u, r, rfl, h1, h2⟩
     exact ⟨u, r.flatten, by simp, h1, RepM_C.2 ⟨r, rfl, h2⟩⟩
theorem qpM {ρ : Rho} {H : Snap} {m : Bool} {s : SVal} {u : List Value} {k : IntKind} {ys : List Int} {cap : Nat} (hf : qaC E h s (.fr k ys cap)) (ho : OneM ρ H m s u) : ∃ v, u = [v] /\ Den ρ H s v := by
 cases m with
 | true => exact ho
 | false =>
   simp only [qaC] at hf
   split at hf
   · obtain ⟨ad, e, hr⟩ := (show Rep ρ H (.sl _ 1 _ _ _) u from ho)
     exact ⟨_, e, by simp only [Den, Rep, List.cons.injEq, and_true]; exact ⟨ad, rfl, hr⟩⟩
   · obtain ⟨e, ho'⟩ := (show Rep ρ H (.val _) u from ho)
     exact ⟨_, e, by simp only [Den, Rep, and_true]; trivial⟩
   · exact hf.elim
theorem qpN {ρ : Rho} {H : Snap} {m : Bool} {s : SVal} {u : List Value} {q : PayL} {cap : Nat} (hf : qaC E h s (.fra q cap)) (ho : OneM ρ H m s u) : ∃ v, u = [v] /\ Den ρ H s v := by
 cases m with
 | true => exact ho
 | false =>
   simp only [qaC] at hf
   split at hf
   · obtain ⟨ad, e, hr⟩ := (show Rep ρ H (.sl _ _ _ _ _) u from ho)
     exact ⟨_, e, by simp only [Den, Rep, List.cons.injEq, and_true]; exact ⟨ad, rfl, hr⟩⟩
   · exact hf.elim
theorem qlf {ρ : Rho} {H : Snap} {m : Bool} {i es : Nat} {off len c : SN} {v : Value} (hd : Den ρ H (.sl i es off len c) v) : OneM ρ H m (.sl i es off len c) [v] := by
 cases m with
 | true => exact ⟨v, rfl, hd⟩
 | false => exact hd
theorem qet {Hs : Snap} (hom : E.Ω = Om.real) (R : Rel E ρ Hs ts h U a w') : ∀ (ms : List Bool) (l m : List SVal) {ws : List (List Value)}, qa8 E h l m -> qas (qM l) = true -> RepM ρ Hs ms l ws -> ∀ b, ∃ ρ' : Rho,
  RepM ρ' (qad w) ms (place.placeL E b m).1 ws /\ IdsLtL (fun i => b <= i) (place.placeL E b m).1 /\ (∀ p ∈ (place.placeL E b m).2, b <= p.1 /\ IdsLt noId p.2 /\ (qaB ρ' p.1 p.2 \/ ∃ arr t vs, Lies ρ' (qad w) w' p.1 p.2 arr t vs)) /\ (place.placeL E b m).2.Pairwise (ApartR ρ') /\
  (∀ p ∈ (place.placeL E b m).2, (ρ' p.1).g = false -> Hs (ρ' p.1).b = none /\ ∃ id ∈ qM l, (ρ id).g = false /\ (ρ' p.1).b = (ρ id).b /\ look h id ≠ .junk)
 | [], [], [], ws, _, _, hr, b => ⟨ρ0, hr, trivial, by intro p hp; simp [place.placeL] at hp, .nil, by intro p hp; simp [place.placeL] at hp⟩
 | _, [], _ :: _, ws, hf, _, _, b => by simp [qa8] at hf
 | _, _ :: _, [], ws, hf, _, _, b => by simp [qa8] at hf
 | _ :: _, [], _, ws, _, _, hr, b => hr.elim
 | [], _ :: _, _, ws, _, _, hr, b => hr.elim
 | md :: ms, s :: l, t :: m, ws, hf, hnd, hr, b => by
   obtain ⟨v, vs, rfl, hv, hr⟩ := hr
   obtain ⟨hf1, hf2⟩ := hf
   have hnd' : qas (qM l) = true := by
     cases s <;> simp only [qM] at hnd <;> first
       | exact hnd
       | (simp only [qas, Bool.and_eq_true] at hnd; exact hnd.2)
   have hsub : ∀ id ∈ qM l, id ∈ qM (s :: l) := by
     intro id hid
     cases s <;> simp only [qM] <;> first | exact hid | exact List.mem_cons_of_mem _ hid
   have plain : (∀ k ys cap, t ≠ .fr k ys cap) -> (∀ q cap, t ≠ .fra q cap) -> qa3 s t -> ∃ ρ' : Rho,
   RepM ρ' (qad w) (md :: ms) (place.placeL E b (t :: m)).1 (v :: vs) /\ IdsLtL (fun i => b <= i) (place.placeL E b (t :: m)).1 /\ (∀ p ∈ (place.placeL E b (t :: m)).2, b <= p.1 /\ IdsLt noId p.2 /\ (qaB ρ' p.1 p.2 \/ ∃ arr t vs, Lies ρ' (qad w) w' p.1 p.2 arr t vs)) /\ (place.placeL E b (t :: m)).2.Pairwise (ApartR ρ') /\
   (∀ p ∈ (place.placeL E b (t :: m)).2, (ρ' p.1).g = false -> Hs (ρ' p.1).b = none /\ ∃ id ∈ qM (s :: l), (ρ id).g = false /\ (ρ' p.1).b = (ρ id).b /\ look h id ≠ .junk) := by
     intro hne hne2 hfv
     have hpl : place.placeL E b (t :: m) = (t :: (place.placeL E b m).1, (place.placeL E b m).2) := by
       cases t <;> first | rfl | exact absurd rfl (hne _ _ _) | exact absurd rfl (hne2 _ _)
     rw [hpl]
     obtain ⟨ρ', h1, h2, h3, h4, h5⟩ := qet hom R ms l m hf2 hnd' hr b
     have hone : OneM ρ' (qad w) md t v := by
       cases md with
       | true => obtain ⟨x, e, hd⟩ := hv; exact ⟨x, e, qiG hfv hd⟩
       | false => exact qld s t hfv hv
     refine ⟨ρ', ⟨v, vs, rfl, hone, h1⟩, ⟨(qiJ s t hfv).of_no, h2⟩, h3, h4, fun p hp hg => ?_⟩
     obtain ⟨q1, id, q2, q3⟩ := h5 p hp hg
     exact ⟨q1, id, hsub id q2, q3⟩
   cases t with
   | fr k ys cap =>
     obtain ⟨v1, ev, hv1⟩ := qpM hf1 hv
     subst ev
     obtain ⟨pos, p1, p2, p3, p4⟩ := qiH hom R hf1 hv1
     obtain ⟨ρ1, h1, h2, h3, h4, h5⟩ := qet hom R ms l m hf2 hnd' hr (b + 1)
     let ρ' : Rho := fun i => if i = b then pos else ρ1 i
     have e1 : ρ' b = pos := by simp [ρ']
     have e2 : ∀ i, b + 1 <= i -> ρ' i = ρ1 i := fun i hi => by
       have : i ≠ b := by omega
       simp [ρ', this]
     have hpl : place.placeL E b (.fr k ys cap :: m) = (.sl b 1 (.l 0) (.s (E.Ω.len ys)) (.s cap) :: (place.placeL E (b + 1) m).1, (b, .seq k ys) :: (place.placeL E (b + 1) m).2) := rfl
     rw [hpl]
     obtain ⟨d1, d2⟩ := p1 ρ' b e1
     refine ⟨ρ', ⟨[v1], vs, rfl, qlf d1, RepM.ext e2 (fun _ _ h => h) h2 h1⟩, ⟨Nat.le_refl _, IdsLtL.mono (fun i hi => by omega) _ h2⟩, fun p hp => ?_, ?_, fun p hp hg => ?_⟩
     · rcases List.mem_cons.1 hp with rfl | hp
       · exact ⟨Nat.le_refl _, trivial, d2⟩
       · obtain ⟨q1, q2, q3⟩ := h3 p hp
         refine ⟨by omega, q2, ?_⟩
         rcases q3 with hg | ⟨arr, t, us, li⟩
         · exact .inl ⟨by rw [e2 _ q1]; exact hg.1, by rw [e2 _ q1]; exact hg.2.1, hg.2.2⟩
         · exact .inr ⟨arr, t, us, li.kept (U := fun i => b + 1 <= i) q1 q2.of_no e2 rfl⟩
     · rw [List.pairwise_cons]
       refine ⟨fun p hp => ⟨by have := (h3 p hp).1; dsimp only; omega, fun g1 g2 => ?_⟩, ?_⟩
       · dsimp only at g1 ⊢
         rw [e1] at g1 ⊢
         have hp1 := (h3 p hp).1
         rw [e2 _ hp1] at g2 ⊢
         obtain ⟨_, id', q2, q3, q4, q5⟩ := h5 p hp g2
         cases hs : s with
         | sl id es off len c =>
           obtain ⟨r1, r2, r3⟩ := p3 id es off len c hs g1
           rw [r2, q4]
           refine qcP R r3 q5 ?_ r1 q3
           rintro rfl
           subst hs
           simp only [qM, qas, Bool.and_eq_true, Bool.not_eq_true', List.any_eq_false] at hnd
           have := hnd.1 id q2
           simp at this
         | _ =>
           have : pos.g = true := p4 (fun id es off len c e => by rw [hs] at e; cases e)
           rw [this] at g1
           cases g1
       · refine List.Pairwise.imp_of_mem (fun {p q} hp hq hpq => ?_) h4
         exact ⟨hpq.1, by rw [e2 _ (h3 p hp).1, e2 _ (h3 q hq).1]; exact hpq.2⟩
     · rcases List.mem_cons.1 hp with rfl | hp
       · dsimp only at hg ⊢
         rw [e1] at hg ⊢
         refine ⟨p2 hg, ?_⟩
         cases hs : s with
         | sl id es off len c =>
           obtain ⟨r1, r2, r3⟩ := p3 id es off len c hs hg
           exact ⟨id, by simp [qM], r1, r2, r3⟩
         | _ =>
           have : pos.g = true := p4 (fun id es off len c e => by rw [hs] at e; cases e)
           rw [this] at hg
           cases hg
       · have hp1 := (h3 p hp).1
         rw [e2 _ hp1] at hg ⊢
         obtain ⟨q1, id, q2, q3⟩ := h5 p hp hg
         exact ⟨q1, id, hsub id q2, q3⟩
   | fra q cap =>
     obtain ⟨v1, ev, hv1⟩ := qpN hf1 hv
     subst ev
     obtain ⟨pos, p1, p2, p3, p4⟩ := qiI hom R hf1 hv1
     obtain ⟨ρ1, h1, h2, h3, h4, h5⟩ := qet hom R ms l m hf2 hnd' hr (b + 1)
     let ρ' : Rho := fun i => if i = b then pos else ρ1 i
     have e1 : ρ' b = pos := by simp [ρ']
     have e2 : ∀ i, b + 1 <= i -> ρ' i = ρ1 i := fun i hi => by
       have : i ≠ b := by omega
       simp [ρ', this]
     have hpl : place.placeL E b (.fra q cap :: m) = (.sl b q.es (.l 0) (.s (lenO E q)) (.s cap) :: (place.placeL E (b + 1) m).1, (b, .sab q) :: (place.placeL E (b + 1) m).2) := rfl
     rw [hpl]
     obtain ⟨d1, d2⟩ := p1 ρ' b e1
     refine ⟨ρ', ⟨[v1], vs, rfl, qlf d1, RepM.ext e2 (fun _ _ h => h) h2 h1⟩, ⟨Nat.le_refl _, IdsLtL.mono (fun i hi => by omega) _ h2⟩, fun p hp => ?_, ?_, fun p hp hg => ?_⟩
     · rcases List.mem_cons.1 hp with rfl | hp
       · exact ⟨Nat.le_refl _, trivial, d2⟩
       · obtain ⟨q1, q2, q3⟩ := h3 p hp
         refine ⟨by omega, q2, ?_⟩
         rcases q3 with hg | ⟨arr, t, us, li⟩
         · exact .inl ⟨by rw [e2 _ q1]; exact hg.1, by rw [e2 _ q1]; exact hg.2.1, hg.2.2⟩
         · exact .inr ⟨arr, t, us, li.kept (U := fun i => b + 1 <= i) q1 q2.of_no e2 rfl⟩
     · rw [List.pairwise_cons]
       refine ⟨fun p hp => ⟨by have := (h3 p hp).1; dsimp only; omega, fun g1 g2 => ?_⟩, ?_⟩
       · dsimp only at g1 ⊢
         rw [e1] at g1 ⊢
         have hp1 := (h3 p hp).1
         rw [e2 _ hp1] at g2 ⊢
         obtain ⟨_, id', q2, q3, q4, q5⟩ := h5 p hp g2
         cases hs : s with
         | sl id es off len c =>
           obtain ⟨r1, r2, r3⟩ := p3 id es off len c hs g1
           rw [r2, q4]
           refine qcP R r3 q5 ?_ r1 q3
           rintro rfl
           subst hs
           simp only [qM, qas, Bool.and_eq_true, Bool.not_eq_true', List.any_eq_false] at hnd
           have := hnd.1 id q2
           simp at this
         | _ =>
           have : pos.g = true := p4 (fun id es off len c e => by rw [hs] at e; cases e)
           rw [this] at g1
           cases g1
       · refine List.Pairwise.imp_of_mem (fun {p q} hp hq hpq => ?_) h4
         exact ⟨hpq.1, by rw [e2 _ (h3 p hp).1, e2 _ (h3 q hq).1]; exact hpq.2⟩
     · rcases List.mem_cons.1 hp with rfl | hp
       · dsimp only at hg ⊢
         rw [e1] at hg ⊢
         refine ⟨p2 hg, ?_⟩
         cases hs : s with
         | sl id es off len c =>
           obtain ⟨r1, r2, r3⟩ := p3 id es off len c hs hg
           exact ⟨id, by simp [qM], r1, r2, r3⟩
         | _ =>
           have : pos.g = true := p4 (fun id es off len c e => by rw [hs] at e; cases e)
           rw [this] at hg
           cases hg
       · have hp1 := (h3 p hp).1
         rw [e2 _ hp1] at hg ⊢
         obtain ⟨q1, id, q2, q3⟩ := h5 p hp hg
         exact ⟨q1, id, hsub id q2, q3⟩
   | _ => exact plain (fun _ _ _ e => by cases e) (fun _ _ e => by cases e) (by simpa only [qaC] using hf1)
end
end Go.Sx
end
section
namespace Go.Sx
def qiK (E : Env) (w w' : World) (s : SVal) (v : Value) : Prop :=
 ∀ b, ∃ ρ : Rho, Den ρ (qad w) (place E b s).1 v /\ (∀ p ∈ (place E b s).2, qaB ρ p.1 p.2 \/ ∃ arr t vs, Lies ρ (qad w) w' p.1 p.2 arr t vs) /\ (place E b s).2.Pairwise (ApartR ρ) /\
  ∀ p ∈ (place E b s).2, (ρ p.1).g = false -> w.heap.size <= (ρ p.1).b
def qiL (E : Env) (w : World) : Prop := ∀ g, Den ρ0 (qR w) (E.glob g) (.pointer (some ⟨g, 0, none⟩))
def PSpecOk (P : Program) (E : Env) (g : FuncId) (s : qd) : Prop :=
 ∀ (w : World) (args : List SVal) (vs : List Value), qiL E w -> RepV ρ0 (qR w) args vs -> (s args).pre ->
  Calls P g vs.toArray w fun e w' => ∃ v, e = .returned v /\ Same w w' /\ Kept w w' /\ ∃ x, (s args).post x /\ qiK E w w' ((s args).res x) v
def qlg (E : Env) (Hs : Snap) (w w' : World) (pos : Pos) (res out : List SVal) (v : Value) : Prop :=
 ∀ b, ∃ ρ : Rho, Den ρ (qad w) (qcI (qcJ res.length (place.placeL E b (res ++ out)).1)) v /\
  (∃ arr t us, w'.heap[pos.b]? = some (.cells arr t (0, 0)) /\ RepC ρ (qad w) (qdt res.length (place.placeL E b (res ++ out)).1) us /\ pos.o + pos.room <= arr.size /\ us.length <= pos.room /\ ∀ (j : Nat) u, us[j]? = some u -> arr[pos.o + j]? = some u) /\
  (∀ p ∈ (place.placeL E b (res ++ out)).2, qaB ρ p.1 p.2 \/ ∃ arr t vs, Lies ρ (qad w) w' p.1 p.2 arr t vs) /\ (place.placeL E b (res ++ out)).2.Pairwise (ApartR ρ) /\
  ∀ p ∈ (place.placeL E b (res ++ out)).2, (ρ p.1).g = false -> Hs (ρ p.1).b = none /\ (ρ p.1).b ≠ pos.b
def MSpecOk (P : Program) (E : Env) (g : FuncId) (ms : qaG) : Prop :=
 ∀ (w : World) (Hs : Snap) (ρ : Rho) (d rest : List SVal) (vs : List Value), Hs.w0 = w -> Hs.defs = [] -> Agree Hs w -> (∀ g, Den ρ0 Hs (E.glob g) (.pointer (some ⟨g, 0, none⟩))) ->
  RepV ρ Hs (.ptr 0 (.l 0) :: rest) vs -> qfM ρ Hs w ((0, .agg (place.placeL E 1 d).1) :: (place.placeL E 1 d).2) -> (ms d rest).pre ->
  Calls P g vs.toArray w fun e w' => ∃ v x, e = .returned v /\ Same w w' /\ Agree Hs w' /\ (ms d rest).post x /\ qlg E Hs w w' (ρ 0) ((ms d rest).res x) ((ms d rest).out x) v
structure EnvG (P : Program) (E : Env) : Prop extends EnvOk P E, EnvIds' E where
 mspec : ∀ g ms, E.M g = some ms -> MSpecOk P E g ms
 mclosed : ∀ g ms d rest, E.M g = some ms -> (ms d rest).pre -> IdsLtL noId rest
 mres : ∀ g ms d rest x, E.M g = some ms -> IdsLtL noId ((ms d rest).res x ++ (ms d rest).out x) /\ ((ms d rest).res x ++ (ms d rest).out x).length <= 8
 spec : ∀ g s, E.G g = some s -> PSpecOk P E g s
 closed : ∀ g s args, E.G g = some s -> (s args).pre -> IdsLtL noId args
 some_x : ∀ g s args, E.G g = some s -> (s args).pre -> ∃ x, (s args).post x
 call : ∀ g, (E.G g).isSome \/ E.into g -> qar P g
section
variable {P : Program} {E : Env} {ρ : Rho} {H : Snap} {ts : List SVal} {h : Heap} {U : Top} {a : Act} {w : World}
theorem qdz (R : Rel E ρ H ts h U a w) {all : List Oper} {o : Oper} {b : Bool} (hg : qZ all ts o = some b) : Region.wanted o (yielded all.toArray a.tmps) = b := by
 unfold qZ at hg
 unfold Region.wanted
 split at hg
 ·rename_i h1
  cases hg
  simp only [h1]
 ·rename_i j want h1
  simp only [h1]
  split at hg <;> try (cases hg; done)
  rename_i oj hj
  split at hg <;> try (cases hg; done)
  rename_i d hd
  split at hg <;> try (cases hg; done)
  rotate_left
  ·rename_i hb
   cases hg
   have hden := R.den d
   rw [hb] at hden
   obtain ⟨ws, e, -⟩ := hden
   have hy : yielded all.toArray a.tmps j = none := by
    have : a.tmps[d]? ≠ some (.bool true) /\ a.tmps[d]? ≠ some (.bool false) := by
     rw [Array.getD_eq_getD_getElem?] at e
     cases hq : a.tmps[d]? with
     | none => simp
     | some u => rw [hq] at e; simp at e; rw [e]; simp
    simp only [yielded, hj, hd, List.getElem?_toArray, Option.bind_some]
    cases hq : a.tmps[d]? with
    | none => rfl
    | some u =>
      cases u <;> try rfl
      rename_i bb
      rw [hq] at this
      cases bb
      · exact absurd rfl this.2
      · exact absurd rfl this.1
   rw [hy]
   rfl
  rename_i bb hb
  cases hg
  have hden := R.den d
  rw [hb] at hden
  simp only [Den, Rep, List.cons.injEq, and_true] at hden
  have : a.tmps[d]? = some (.bool bb) := by
   rw [Array.getD_eq_getD_getElem?] at hden
   cases hq : a.tmps[d]? with
   | none => rw [hq] at hden; simp [undef] at hden
   | some u => rw [hq] at hden; simp at hden; rw [hden]
  have hy : yielded all.toArray a.tmps j = some bb := by
   simp [yielded, hj, hd, this]
  rw [hy]
  cases bb <;> cases want <;> rfl
variable {b : Frame} {k : List Item} {cs : List Frame} {ops : Array Oper} {i : Nat} {rest : List Nat} {o : Oper}
theorem qf0 {ro : Option Nat} {w' : World} {nx : Next} (hr : (execOp a.eval o).run P w = .ok nx w') (hn : ∀ d, nx ≠ .defer d) : (o.semAt ro a.eval).run P w = .ok nx w' := by
 rw [Oper.semAt_eq]
 ·exact hr
 ·intro c hc
  simp only [execOp, hc, Sem.run_bind] at hr
  cases h : (resolve a.eval c o.type).run P w with
  | ok d w1 => rw [h] at hr; simp [Result.andThen, Sem.run_pure] at hr; exact hn _ hr.1.symm
  | halt => rw [h] at hr; cases hr
theorem qcd {v : Value} {w' : World} (ho : ops[i]? = some o) (hw : Region.wanted o (yielded ops a.tmps) = true) (hr : (execOp a.eval o).run P w = .ok (.value v) w') :
  step P (lone (b.atR a (.inRegion ops (i :: rest) :: k)) cs w) = .next (lone (b.atR (a.put o.dst v) (.inRegion ops rest :: k)) cs w') := by
 have hg := stepGR_op (P := P) (b := b) (k := k) (cs := cs) (w := w) (rest := rest) ho hw
 refine step_lone_go ?_
 rw [hg]
 have hfin : (b.atR a (.inRegion ops (i :: rest) :: k)).finish v = b.atR (a.put o.dst v) (.inRegion ops rest :: k) := by rw [Frame.finish_atR, ho]; rfl
 rw [<- hfin]; simp [stepG.apply, qf0 hr (by intro d h; cases h)]
theorem qlh {w' : World} (ho : ops[i]? = some o) (hw : Region.wanted o (yielded ops a.tmps) = true) (hr : (execOp a.eval o).run P w = .ok .skip w') :
  step P (lone (b.atR a (.inRegion ops (i :: rest) :: k)) cs w) = .next (lone (b.atR (a.put o.dst undef) (.inRegion ops rest :: k)) cs w') := by
 have hg := stepGR_op (P := P) (b := b) (k := k) (cs := cs) (w := w) (rest := rest) ho hw
 refine step_lone_go ?_
 rw [hg]
 have hfin : (b.atR a (.inRegion ops (i :: rest) :: k)).finish undef = b.atR (a.put o.dst undef) (.inRegion ops rest :: k) := by rw [Frame.finish_atR, ho]; rfl
 rw [<- hfin]; simp [stepG.apply, qf0 hr (by intro d h; cases h)]
theorem qli {f : FuncId} {args : Array Value} {w' : World} (ho : ops[i]? = some o) (hw : Region.wanted o (yielded ops a.tmps) = true) (hr : (execOp a.eval o).run P w = .ok (.enter f args) w') :
  step P (lone (b.atR a (.inRegion ops (i :: rest) :: k)) cs w) = .next (lone (Frame.enter P f args .normal) (b.atR a (.inRegion ops (i :: rest) :: k) :: cs) w') := by
 have hg := stepGR_op (P := P) (b := b) (k := k) (cs := cs) (w := w) (rest := rest) ho hw
 exact step_lone_go (by rw [hg]; simp [stepG.apply, qf0 hr (by intro d h; cases h), Frame.atR])
theorem qlj {f : FuncId} {args : Array Value} {w' : World} {Q : Value -> World -> Prop} (ho : ops[i]? = some o) (hw : Region.wanted o (yielded ops a.tmps) = true) (hr : (execOp a.eval o).run P w = .ok (.enter f args) w')
  (hc : Calls P f args w' fun e w'' => ∃ v, e = .returned v /\ Q v w'') :
  ∃ v w'', Q v w'' /\ Steps P (lone (b.atR a (.inRegion ops (i :: rest) :: k)) cs w) (lone (b.atR (a.put o.dst v) (.inRegion ops rest :: k)) cs w'') := by
 obtain ⟨e, w'', fr, ⟨v, rfl, hQ⟩, hst, _, hl⟩ := hc (b.atR a (.inRegion ops (i :: rest) :: k) :: cs)
 refine ⟨v, w'', hQ, .head (qli ho hw hr) (Steps.trans hst (.one ?_))⟩
 have hfin : (b.atR a (.inRegion ops (i :: rest) :: k)).finish v = b.atR (a.put o.dst v) (.inRegion ops rest :: k) := by rw [Frame.finish_atR, ho]; rfl
 rw [<- hfin]; exact step_leave_returned hl
variable (hE : EnvG P E)
include hE
theorem qf1 (R : Rel E ρ H ts h U a w) {s : SVal} {v : Value} (hd : Den ρ H s v) (hp : bPre h s) (hc : IdsLt noId (qt E h s)) : Den ρ0 (qR w) (qt E h s) v := by
 have hroi : ∀ {k xs}, qt E h s = .roi k xs -> Den ρ0 (qR w) (qt E h s) v := by
  intro k xs hb
  rw [hb]
  obtain ⟨aa, c, rfl, h2, h3⟩ := qkS hE.toEnvOk R hb hp hd
  simp only [Den, Rep, List.cons.injEq, and_true]
  refine ⟨_, rfl, aa, c, rfl, h2, fun j x hj => ?_⟩
  obtain ⟨b, o, e1, cs, te, fr, e2, e3⟩ := h3 j x hj
  exact ⟨b, o, e1, by simp [qz, qR, e2, e3]⟩
 have same : qt E h s = s -> Den ρ0 (qR w) (qt E h s) v := by
  intro e
  rw [e] at hc ⊢
  exact Den.ext (t := noId) (fun i h => h.elim) (fun b o hb => R.agree b o hb) hc hd
 generalize hb : qt E h s = r at *
 cases r with
 | junk => trivial
 | roi k xs => exact hroi rfl
 | int k n =>
   have hb' := hb
   unfold qt at hb'
   split at hb'
   · (repeat' split at hb') <;> cases hb'
   · cases hb'
   · cases hb'
     simpa [Den, Rep] using hd
   · cases hb'
   · split at hb' <;> cases hb'
   · exact same hb'.symm
 | bs b =>
   have hb' := hb
   unfold qt at hb'
   split at hb'
   · (repeat' split at hb') <;> cases hb'
   · cases hb'
   · cases hb'
   · cases hb'
     simpa [Den, Rep] using hd
   · split at hb' <;> cases hb'
   · exact same hb'.symm
 | rop c off =>
   have hb' := hb
   unfold qt at hb'
   split at hb'
   · (repeat' split at hb') <;> cases hb'
   · cases hb'
   · cases hb'
   · cases hb'
   · rename_i id off'
     simp only [Den, Rep, List.cons.injEq, and_true] at hd
     have main : look h id = c -> c ≠ .junk -> qbW c = true -> off' = off -> Den ρ0 (qR w) (.rop c off) v := by
       rintro hl hj hpl rfl
       rcases R.lies (id := id) (by rw [hl]; exact hj) with hg | ⟨arr, t, vs, li⟩
       · obtain ⟨_, _, k, hk⟩ := hg
         rw [hl] at hk
         subst hk
         simp only [Den, Rep, List.cons.injEq, and_true]
         exact ⟨_, _, [], hd, rfl, fun j u hj => by simp at hj⟩
       · have hrep := li.rep
         rw [hl] at hrep
         have hrep' : Rep ρ0 (qR w) c vs := Rep.ext (t := noId) (fun i h => h.elim) (fun b o hb => R.agree b o hb) c hc hrep
         have e := qek (ρ := ρ0) (H := qR w) (off := off') hpl (b := (ρ id).b) (o := (ρ id).o) hrep' fun j u hj => by
           simp only [qz, qR]
           rw [li.blk]
           exact li.cells j u hj
         rw [hd]
         exact e
     split at hb'
     · cases hb'
     · cases hb'
     · cases hb'
     · rename_i h1 h2 h3
       cases hb'
       exact main rfl h1 (by cases hq : look h id <;> first | rfl | exact absurd hq (h2 _ _) | exact absurd hq (h3 _ _ _)) rfl
   · exact same hb'.symm
 | _ =>
   refine same ?_
   have hb' := hb
   unfold qt at hb'
   split at hb'
   · (repeat' split at hb') <;> cases hb'
   all_goals first | (cases hb'; done) | exact hb'.symm | (split at hb' <;> cases hb'; done)
omit hE in
theorem qpO {l : List SVal} (hp : ∀ q, qed h l = some q -> ∀ u, q u) : qbX h l := by
 unfold qed at hp
 split at hp
 ·exact hp _ rfl ()
 ·rename_i hs
  have : ∀ (l : List SVal), hasS2 h l = false -> qbX h l := by
   intro l
   induction l with
   | nil => intro _; trivial
   | cons s l ih =>
     intro hs
     unfold hasS2 at hs
     split at hs
     · cases hs
     · rename_i id
       split at hs
       · cases hs
       · rename_i hn
         refine ⟨?_, ih hs⟩
         show (match look h id with
           | .agg l => qaZ h l
           | _ => True)
         split
         · rename_i l' hq
           exact absurd hq (hn l')
         · trivial
     · rename_i h1 h2
       refine ⟨?_, ih hs⟩
       unfold qbu
       split
       · rename_i id off len cap
         exact absurd rfl (h1 id 1 off len cap)
       · rename_i id
         exact absurd rfl (h2 id)
       · rename_i id es off len cap _
         exact absurd rfl (h1 id es off len cap)
       · trivial
  exact this l hs
omit hE in
theorem qlk : ∀ {l : List SVal} {xss : List (List Int)}, qec l = some xss -> l = xss.map (SVal.roi .u8)
 | [], xss, hr => by simp only [qec, Option.some.injEq] at hr; rw [<- hr]; rfl
 | s :: l, xss, hr => by
   simp only [qec] at hr
   split at hr <;> try (cases hr; done)
   split at hr <;> try (cases hr; done)
   rename_i yss hy
   simp only [Option.some.injEq] at hr
   rw [<- hr, qlk hy]; rfl
omit hE in
theorem qll {ρ' : Rho} {H' : Snap} : ∀ {l : List SVal} {vs : List Value}, RepV ρ' H' l vs -> ∀ {j : Nat} {s : SVal}, l[j]? = some s -> ∃ v, vs[j]? = some v /\ Den ρ' H' s v
 | [], vs, hr, j, s, hj => by simp at hj
 | t :: l, vs, hr, j, s, hj => by
   obtain ⟨v, ws, rfl, h1, h2⟩ := RepV_cons.1 hr
   cases j with
   | zero => simp at hj; subst hj; exact ⟨v, rfl, h1⟩
   | succ j =>
     simp only [List.getElem?_cons_succ] at hj
     obtain ⟨v', h3, h4⟩ := qll h2 hj
     exact ⟨v', by simpa using h3, h4⟩
omit hE in
theorem qlm : ∀ {l : List SVal}, qaZ h l -> ∀ {j : Nat} {s : SVal}, l[j]? = some s -> bPre h s
 | [], _, j, s, hj => by simp at hj
 | t :: l, hp, j, s, hj => by
   cases j with
   | zero => simp at hj; subst hj; exact hp.1
   | succ j => exact qlm hp.2 (by simpa using hj)
theorem qln (R : Rel E ρ H ts h U a w) : ∀ {l : List SVal} {vs : List Value}, RepC ρ H l vs -> qaZ h l -> allC (l.map (qaA E h)) = true -> IdsLtL noId (l.map (qaA E h)) -> RepC ρ0 (qR w) (l.map (qaA E h)) vs
 | [], vs, hr, _, _, _ => hr
 | s :: l, vs, hr, hp, ha, hc => by
   obtain ⟨us, ws, rfl, h1, h2⟩ := RepC_cons.1 hr
   simp only [List.map_cons, allC] at ha
   split at ha <;> try (cases ha; done)
   rename_i hcs
   refine RepC_cons.2 ⟨us, ws, rfl, ?_, qln R h2 hp.2 ha hc.2⟩
   have hc1 : IdsLt noId (qaA E h s) := hc.1
   have same : qaA E h s = s -> Rep ρ0 (qR w) (qaA E h s) us := by
     intro e
     rw [e] at hc1 ⊢
     exact Rep.ext (t := noId) (fun i h => h.elim) (fun b o hb => R.agree b o hb) s hc1 h1
   by_cases hsl : ∃ id es off len cap, s = .sl id es off len cap
   · obtain ⟨id, es, off, len, cap, rfl⟩ := hsl
     have hd : ∃ v, us = [v] /\ Den ρ H (.sl id es off len cap) v := by
       obtain ⟨ad, e, hr⟩ := (show Rep ρ H (.sl id es off len cap) us from h1)
       exact ⟨_, e, by simp only [Den, Rep, List.cons.injEq, and_true]; exact ⟨ad, rfl, hr⟩⟩
     obtain ⟨v, rfl, hd⟩ := hd
     have hz := qf1 hE R hd hp.1 hc1
     have e : qaA E h (.sl id es off len cap) = qt E h (.sl id es off len cap) := rfl
     rw [e] at hcs ⊢
     generalize qt E h (.sl id es off len cap) = q at hz hcs
     cases q <;> simp only [qkl] at hcs <;> first | (cases hcs; done) | exact hz | skip
     all_goals (
       simp only [Den] at hz
       first
         | exact hz
         | (obtain ⟨q1, _, q2⟩ := hz
            simp only [Den, Rep, List.cons.injEq, and_true] at hd
            obtain ⟨_, hd, _⟩ := hd
            rw [hd] at q2
            exact Value.noConfusion q2)
         | (obtain ⟨q1, q2⟩ := hz
            cases q2
            simp only [Den, Rep, List.cons.injEq, and_true] at hd
            obtain ⟨_, hd, _⟩ := hd
            cases hd))
   · cases s <;> first
       | exact same rfl
       | (simpa only [qaA, Rep] using h1)
       | exact absurd ⟨_, _, _, _, _, rfl⟩ hsl
       | skip
     all_goals (
       rename_i v
       by_cases hv : v = .slice none 0 0
       · subst hv
         simp only [Rep] at h1
         simp only [qaA, Rep, h1.1]
         exact ⟨_, rfl, none, 0, rfl, Nat.le_refl _, fun j x hj => by simp at hj⟩
       · exact same (by unfold qaA; split <;> simp_all))
omit hE in
theorem qlo {x : Pay} {a ys : List Int} {n : Nat} {f : Nat -> Pay} (hx : x.ok a) (hn : x.n = n) {m : Nat} (hl : ys.length = m * n) (hf : ∀ i, i < m -> (f i).ok ((ys.drop (i * n)).take n)) :
  (a ++ ys).length = (m + 1) * n /\ ∀ i, i < m + 1 -> (match i with | 0 => x | i + 1 => f i).ok (((a ++ ys).drop (i * n)).take n) := by
 have ha : a.length = n := by rw [<- hn]; exact Pay.len hx
 refine ⟨by rw [List.length_append, ha, hl, Nat.add_mul, Nat.one_mul, Nat.add_comm], fun i hi => ?_⟩
 cases i with
 | zero => simp only [Nat.zero_mul, List.drop_zero]; rw [List.take_append_of_le_length (by omega), List.take_of_length_le (by omega)]; exact hx
 | succ i =>
   simp only
   have e : (a ++ ys).drop ((i + 1) * n) = ys.drop (i * n) := by
     rw [Nat.add_mul, Nat.one_mul, Nat.add_comm, List.drop_append, List.drop_eq_nil_of_le (by omega), List.nil_append, ha, Nat.add_sub_cancel_left]
   rw [e]; exact hf i (by omega)
omit hE in
theorem qlp {ρ' : Rho} {H' : Snap} : ∀ {l : List SVal} {xs : List Fp} {vs : List Value}, qd9 l = some xs -> RepC ρ' H' l vs -> xs.length = l.length /\ ∃ ys, vs = ys.map (Value.int .u64) /\ (PayL.fe xs).ok ys
 | [], xs, vs, hf, hr => by
   simp only [qd9, Option.some.injEq] at hf
   subst hf
   simp only [RepC] at hr
   exact ⟨rfl, [], hr, rfl, fun i hi => absurd hi (Nat.not_lt_zero _)⟩
 | s :: l, xs, vs, hf, hr => by
   simp only [qd9] at hf
   split at hf <;> try (cases hf; done)
   split at hf <;> try (cases hf; done)
   rename_i x zs hz
   simp only [Option.some.injEq] at hf
   subst hf
   obtain ⟨us, ws, rfl, h1, h2⟩ := RepC_cons.1 hr
   obtain ⟨i1, ys, rfl, i2, i3⟩ := qlp hz h2
   simp only [Rep] at h1
   obtain ⟨a, rfl, h1⟩ := h1
   obtain ⟨k1, k2⟩ := qlo (f := fun i => .fe (zs.getD i 0)) h1 rfl i2 i3
   refine ⟨by simp [i1], a ++ ys, by rw [List.map_append]; rfl, k1, fun i hi => ?_⟩
   have := k2 i hi
   cases i <;> exact this
omit hE in
theorem qlq {ρ' : Rho} {H' : Snap} : ∀ {l : List SVal} {xs : List AP} {vs : List Value}, qea l = some xs -> RepC ρ' H' l vs -> xs.length = l.length /\ ∃ ys, vs = ys.map (Value.int .u64) /\ (PayL.pt xs).ok ys
 | [], xs, vs, hf, hr => by
   simp only [qea, Option.some.injEq] at hf
   subst hf
   simp only [RepC] at hr
   exact ⟨rfl, [], hr, rfl, fun i hi => absurd hi (Nat.not_lt_zero _)⟩
 | s :: l, xs, vs, hf, hr => by
   simp only [qea] at hf
   split at hf <;> try (cases hf; done)
   split at hf <;> try (cases hf; done)
   rename_i x zs hz
   simp only [Option.some.injEq] at hf
   subst hf
   obtain ⟨us, ws, rfl, h1, h2⟩ := RepC_cons.1 hr
   obtain ⟨i1, ys, rfl, i2, i3⟩ := qlq hz h2
   simp only [Rep] at h1
   obtain ⟨a, rfl, h1⟩ := h1
   obtain ⟨k1, k2⟩ := qlo (f := fun i => .pt (zs.getD i ⟨0, 1⟩)) h1 rfl i2 i3
   refine ⟨by simp [i1], a ++ ys, by rw [List.map_append]; rfl, k1, fun i hi => ?_⟩
   have := k2 i hi
   cases i <;> exact this
omit hE in
theorem qlr {ρ' : Rho} {H' : Snap} {es : Nat} {l : List SVal} {q : PayL} {vs : List Value} (hq : qdp es l = some q) (hr : RepC ρ' H' l vs) : q.len = l.length /\ ∃ ys, vs = ys.map (Value.int .u64) /\ q.ok ys := by
 unfold qdp at hq
 split at hq
 ·split at hq <;> try (cases hq; done)
  rename_i xs hx
  simp only [Option.some.injEq] at hq
  subst hq
  exact qlp hx hr
 ·split at hq <;> try (cases hq; done)
  rename_i xs hx
  simp only [Option.some.injEq] at hq
  subst hq
  exact qlq hx hr
 ·cases hq
theorem qiM (R : Rel E ρ H ts h U a w) {es : Nat} {s : SVal} {v : Value} {id : Option Nat} {q : PayL} {n : SN} (hd : Den ρ H s v) (ha : appA h es s = some (id, q, n)) (hp : n.v = q.len) :
  ∃ ad cap xs, v = .slice ad n.v cap /\ n.v <= cap /\ q.ok xs /\ q.es = es /\ (∀ (j : Nat) z, xs[j]? = some z -> ∃ kk b o, (some IntKind.u64) = some kk /\ ad = some ⟨b, o, none⟩ /\ w.cell? ⟨b, o + j, none⟩ = some (.int kk z)) /\
   (∀ i, id = some i -> look h i ≠ .junk /\ ∃ off len cp, s = .sl i es off len cp /\ cp.v = cap) /\ (id = none -> v = .slice none 0 0 /\ xs = []) := by
 have own : ∀ (i : Nat) (len cap : SN) (q : PayL), s = .sl i es (.l 0) len cap -> len.v = q.len -> q.es = es -> look h i ≠ .junk -> (∀ vs, Rep ρ H (look h i) vs -> ∃ ys, vs = ys.map (Value.int .u64) /\ q.ok ys) -> (∀ k, look h i ≠ .seq k []) ->
   ∃ ad cp xs, v = .slice ad len.v cp /\ len.v <= cp /\ q.ok xs /\ q.es = es /\ (∀ (j : Nat) z, xs[j]? = some z -> ∃ kk b o, (some IntKind.u64) = some kk /\ ad = some ⟨b, o, none⟩ /\ w.cell? ⟨b, o + j, none⟩ = some (.int kk z)) /\
   (∀ i', some i = some i' -> look h i' ≠ .junk /\ ∃ off len cp2, s = .sl i' es off len cp2 /\ cp2.v = cp) /\ (some i = none -> v = .slice none 0 0 /\ xs = []) := by
  rintro i len cap q rfl hlen hes hj hrep hne
  simp only [Den, Rep, List.cons.injEq, and_true] at hd
  obtain ⟨ad, rfl, h1, h2, h3, h4⟩ := hd
  rcases R.lies hj with hg | ⟨arr, t, vs, li⟩
  ·obtain ⟨_, _, k, hk⟩ := hg
   exact absurd hk (hne k)
  ·obtain ⟨o', rfl, ho⟩ := h4 li.real
   obtain ⟨ys, rfl, hq⟩ := hrep _ li.rep
   refine ⟨_, cap.v, ys, rfl, h1, hq, hes, fun j y hj => ⟨_, _, _, rfl, rfl, ?_⟩, fun i' e => by cases e; exact ⟨hj, _, _, _, rfl, rfl⟩, nofun⟩
   have hjl := (List.getElem?_eq_some_iff.1 hj).1
   have hc0 : cap.v ≠ 0 := by
    intro h0
    have : q.len = 0 := by omega
    rw [hq.1, this, Nat.zero_mul] at hjl
    omega
   rw [ho hc0, show (SN.l 0).v = 0 from rfl, Nat.add_zero]
   exact li.cell _ _ (by rw [List.getElem?_map, hj]; rfl)
 unfold appA at ha
 split at ha
 ·have hv : v = .slice none 0 0 := by
   simp only [Den, Rep, List.cons.injEq, and_true] at hd
   exact hd.1
  split at ha <;> try (cases ha; done)
  ·rename_i hb
   have hb := Nat.eq_of_beq_eq_true hb
   cases ha
   refine ⟨none, 0, [], hv, Nat.le_refl _, ⟨rfl, fun i hi => absurd hi (Nat.not_lt_zero _)⟩, by rw [hb]; rfl, fun j z hz => by simp at hz, nofun, fun _ => ⟨hv, rfl⟩⟩
  ·rename_i hb _
   have hb := Nat.eq_of_beq_eq_true hb
   cases ha
   refine ⟨none, 0, [], hv, Nat.le_refl _, ⟨rfl, fun i hi => absurd hi (Nat.not_lt_zero _)⟩, by rw [hb]; rfl, fun j z hz => by simp at hz, nofun, fun _ => ⟨hv, rfl⟩⟩
 ·rename_i i es' len cap
  split at ha <;> try (cases ha; done)
  ·rename_i q' hb hl
   have hb := Nat.eq_of_beq_eq_true hb
   subst hb
   split at ha <;> cases ha
   rename_i hq
   have hq := Nat.eq_of_beq_eq_true hq
   exact own i _ cap _ rfl hp hq.symm (by rw [hl]; simp) (fun vs hr => by rw [hl] at hr; simpa only [Rep] using hr) (by rw [hl]; simp)
  ·rename_i l hb hl
   have hb := Nat.eq_of_beq_eq_true hb
   subst hb
   split at ha <;> cases ha
   rename_i hq
   have hes : q.es = es := by
    unfold qdp at hq
    split at hq
    ·have h8 : Nat.beq es 8 = true := by assumption
     split at hq <;> cases hq
     exact (Nat.eq_of_beq_eq_true h8).symm
    ·have h24 : Nat.beq es 24 = true := by assumption
     split at hq <;> cases hq
     exact (Nat.eq_of_beq_eq_true h24).symm
    ·cases hq
   exact own i _ cap _ rfl hp hes (by rw [hl]; simp) (fun vs hr => by rw [hl] at hr; simp only [Rep] at hr; exact (qlr hq hr).2) (by rw [hl]; simp)
 ·cases ha
theorem qpP (R : Rel E ρ H ts h U a w) {es bytes : Nat} {s x : SVal} (hO : q8 P E ρ H h U a w o (.app es bytes s x)) (hH : ∀ b, w.heap.size <= b -> H b = none) {id id2 : Option Nat} {q1 q2 q : PayL} {n1 n2 : SN}
  (h1 : appA h es s = some (id, q1, n1)) (h2 : appA h es x = some (id2, q2, n2)) (h4 : q1.cat E.Ω q2 = some q)
  (hb : (n1.v + n2.v) * bytes <= 140737488355328) (e1 : n1.v = q1.len) (e2 : n2.v = q2.len) (h0 : 0 < n2.v) :
  ∃ v w' pos cap, (execOp a.eval o).run P w = .ok (.value v) w' /\ AppRes E ρ H w id es (n1.add E.Ω n2) (.sab q) v w' pos cap := by
 obtain ⟨vs, vx, t, u, e, f, te, ad, hte, hes, hby, hb0, hu, huf, hrun, hds, hdx, _, _⟩ := hO
 obtain ⟨ad1, cap1, xs, rfl, hle1, ok1, es1, hc1, hid1, hnil⟩ := qiM hE R hds h1 e1
 obtain ⟨ad2, cap2, ys, rfl, hle2, ok2, es2, hc2, hid2, _⟩ := qiM hE R hdx h2 e2
 rw [hE.om] at h4
 obtain ⟨_, _, _, hq⟩ := PayL.cat_ok h4 ok1 ok2
 have l1 : xs.length = n1.v * es := by rw [ok1.1, e1, es1]
 have l2 : ys.length = n2.v * es := by rw [ok2.1, e2, es2]
 have hpos : 0 < es := by rw [<- es2]; exact PayL.es_pos _
 refine qk9 (kk := .u64) hE.toEnvOk R hH hte hes hby hb0 hu huf hrun hds hle1 l1 hc1 (fun i hi => (hid1 i hi).2) hnil hle2 l2 hc2 (fun q h => by cases h; rfl) (fun q h => by cases h; rfl) hb (fun i hi => (hid1 i hi).1) (fun _ _ => by simp only [Rep]; exact ⟨_, rfl, hq⟩) (fun e => ?_)
 have := congrArg List.length e
 rw [List.length_append, l1, l2] at this
 have := Nat.mul_pos h0 hpos
 simp at *
 omega
theorem qpQ (R : Rel E ρ H ts h U a w) {s : SVal} {v : Value} (hd : Den ρ H s v) (hp : qbu h s) (hc : IdsLt noId (qY E h s)) : Den ρ0 (qR w) (qY E h s) v := by
 have plain : (bPre h s) -> qY E h s = qt E h s -> Den ρ0 (qR w) (qY E h s) v := by
  intro h1 e
  rw [e] at hc ⊢
  exact qf1 hE R hd h1 hc
 by_cases hsl : ∃ id off len cap l, s = .sl id 1 off len cap /\ look h id = .lst l
 ·obtain ⟨id, off, len, cap, l, rfl, hl⟩ := hsl
  simp only [qbu, hl] at hp
  simp only [qY, hl] at hc ⊢
  split <;> try trivial
  rename_i m
  split <;> try trivial
  rename_i xss hb hr
  have hm := Nat.eq_of_beq_eq_true hb
  have hx := qlk hr
  have hlen : xss.length = l.length := by have := congrArg List.length hx; simpa using this.symm
  simp only [Den, Rep, List.cons.injEq, and_true] at hd ⊢
  obtain ⟨ad, rfl, h1, h2, h3, h4⟩ := hd
  have hml : m = xss.length := by omega
  refine ⟨ad, cap.v, by rw [<- hml]; rfl, by rw [<- hml]; exact h1, fun j xs hj => ?_⟩
  have hjl : j < xss.length := (List.getElem?_eq_some_iff.1 hj).1
  rcases R.lies (id := id) (by rw [hl]; simp) with hg | ⟨arr, t, vs, li⟩
  ·obtain ⟨_, _, k, hk⟩ := hg
   rw [hl] at hk; cases hk
  ·obtain ⟨o', rfl, ho⟩ := h4 li.real
   have hrep := li.rep
   rw [hl] at hrep
   simp only [Rep] at hrep
   obtain ⟨t1, ht1⟩ : ∃ t1, l[j]? = some t1 := ⟨_, List.getElem?_eq_getElem (by omega)⟩
   obtain ⟨u, hu, hdu⟩ := qll hrep.1 ht1
   have hbt : qt E h t1 = .roi .u8 xs := by
    have e := congrArg (fun q => q[j]?) hx
    simp only [List.getElem?_map, ht1, hj, Option.map_some, Option.some.injEq] at e
    exact e
   have hz := qf1 hE R hdu (qlm hp ht1) (by rw [hbt]; trivial)
   rw [hbt] at hz
   simp only [Den, Rep, List.cons.injEq, and_true] at hz
   obtain ⟨_, rfl, hz⟩ := hz
   have ho2 := ho (by have : (SN.l m).v <= cap.v := h1; have : (SN.l m).v = m := rfl; omega)
   refine ⟨_, _, u, rfl, ?_, hz⟩
   have : (SN.l 0).v = 0 := rfl
   simp only [qz, qR, li.blk]
   have hcell := li.cells j u hu
   rw [ho2, this, Nat.add_zero]
   exact hcell
 by_cases hpt : ∃ id l, s = .ptr id (.l 0) /\ look h id = .agg l /\ allC (l.map (qaA E h)) = true
 ·obtain ⟨id, l, rfl, hl, hal⟩ := hpt
  simp only [qbu, hl] at hp
  simp only [qY, hl, hal] at hc ⊢
  have hcl : IdsLtL noId (l.map (qaA E h)) := hc
  rcases R.lies (id := id) (by rw [hl]; simp) with hg | ⟨arr, t, vs, li⟩
  ·obtain ⟨_, _, k, hk⟩ := hg
   rw [hl] at hk; cases hk
  ·have hrep := li.rep
   rw [hl] at hrep
   simp only [Rep] at hrep
   simp only [Den, Rep, List.cons.injEq, and_true] at hd ⊢
   refine ⟨_, _, vs, hd, qln hE R hrep hp hal hcl, fun j u hu => ?_⟩
   simp only [qz, qR, li.blk]
   exact li.cells j u hu
 by_cases hag : ∃ id es n cap l, s = .sl id es (.l 0) (.l n) cap /\ look h id = .agg l /\ es ≠ 1
 ·obtain ⟨id, es, n, cap, l, rfl, hl, hes⟩ := hag
  have e : qY E h (.sl id es (.l 0) (.l n) cap) = .junk \/ ∃ q, qdp es l = some q /\ l.length = n /\ qY E h (.sl id es (.l 0) (.l n) cap) = .roa q := by
   unfold qY
   split
   ·rename_i hq; cases hq; exact absurd rfl hes
   ·rename_i hq; cases hq
   ·rename_i hq
    cases hq
    simp only [hl]
    split
    ·rename_i q hb hq
     exact .inr ⟨q, hq, Nat.eq_of_beq_eq_true hb, rfl⟩
    ·exact .inl rfl
   ·rename_i hq; cases hq
   ·rename_i hq _; exact absurd rfl (hq _ _ _ _)
  rcases e with e | ⟨q, hq, hn, e⟩
  ·rw [e]; trivial
  rw [e]
  simp only [Den, Rep, List.cons.injEq, and_true] at hd ⊢
  obtain ⟨ad, rfl, h1, h2, h3, h4⟩ := hd
  have h1 : n <= cap.v := h1
  rcases R.lies (id := id) (by rw [hl]; simp) with hg | ⟨arr, t, vs, li⟩
  ·obtain ⟨_, _, k, hk⟩ := hg
   rw [hl] at hk; cases hk
  ·obtain ⟨o', rfl, ho⟩ := h4 li.real
   have hrep := li.rep
   rw [hl] at hrep
   simp only [Rep] at hrep
   obtain ⟨q1, ys, rfl, q2⟩ := qlr hq hrep
   refine ⟨_, cap.v, ys, by rw [q1, hn]; rfl, by omega, q2, fun j y hj => ⟨_, _, rfl, ?_⟩⟩
   have hjl := (List.getElem?_eq_some_iff.1 hj).1
   have hc0 : cap.v ≠ 0 := by
    intro h0
    have : n = 0 := by omega
    rw [q2.1, q1, hn, this, Nat.zero_mul] at hjl
    omega
   have ho2 := ho hc0
   simp only [qz, qR, li.blk]
   have hcell := li.cells j _ (by rw [List.getElem?_map, hj]; rfl)
   rw [ho2, show (SN.l 0).v = 0 from rfl, Nat.add_zero]
   exact hcell
 by_cases hsb : ∃ id es len cap q, s = .sl id es (.l 0) len cap /\ look h id = .sab q /\ es ≠ 1
 ·obtain ⟨id, es, len, cap, q, rfl, hl, hes⟩ := hsb
  have hlen : len.v = q.len := by
   unfold qbu at hp
   split at hp
   ·rename_i hq; cases hq; exact absurd rfl hes
   ·rename_i hq; cases hq
   ·rename_i hq; cases hq; simp only [hl] at hp; exact hp
   ·rename_i hq; exact absurd rfl (hq _ _ _ _ _)
  have e : qY E h (.sl id es (.l 0) len cap) = .junk \/ (es = q.es /\ qY E h (.sl id es (.l 0) len cap) = .roa q) := by
   unfold qY
   split
   ·rename_i hq; cases hq; exact absurd rfl hes
   ·rename_i hq; cases hq
   ·rename_i hq
    cases hq
    simp only [hl]
    split
    ·rename_i hb
     exact .inr ⟨Nat.eq_of_beq_eq_true hb, rfl⟩
    ·exact .inl rfl
   ·rename_i hq
    cases hq
    simp only [hl]
    split
    ·rename_i hb
     exact .inr ⟨Nat.eq_of_beq_eq_true hb, rfl⟩
    ·exact .inl rfl
   ·rename_i h1 h2
    cases len with
    | l n => exact absurd rfl (h1 _ _ _ _)
    | s n => exact absurd rfl (h2 _ _ _ _)
  rcases e with e | ⟨hqe, e⟩
  ·rw [e]; trivial
  rw [e]
  simp only [Den, Rep, List.cons.injEq, and_true] at hd ⊢
  obtain ⟨ad, rfl, h1, h2, h3, h4⟩ := hd
  rcases R.lies (id := id) (by rw [hl]; simp) with hg | ⟨arr, t, vs, li⟩
  ·obtain ⟨_, _, k, hk⟩ := hg
   rw [hl] at hk; cases hk
  ·obtain ⟨o', rfl, ho⟩ := h4 li.real
   have hrep := li.rep
   rw [hl] at hrep
   simp only [Rep] at hrep
   obtain ⟨ys, rfl, q2⟩ := hrep
   refine ⟨_, cap.v, ys, by rw [<- hlen], by omega, q2, fun j y hj => ⟨_, _, rfl, ?_⟩⟩
   have hjl := (List.getElem?_eq_some_iff.1 hj).1
   have hc0 : cap.v ≠ 0 := by
    intro h0
    have : q.len = 0 := by omega
    rw [q2.1, this, Nat.zero_mul] at hjl
    omega
   have ho2 := ho hc0
   simp only [qz, qR, li.blk]
   have hcell := li.cells j _ (by rw [List.getElem?_map, hj]; rfl)
   rw [ho2, show (SN.l 0).v = 0 from rfl, Nat.add_zero]
   exact hcell
 ·have e : qY E h s = qt E h s := by
   unfold qY
   split
   ·rename_i id off len cap
    split
    ·rename_i l hq
     exact absurd ⟨id, off, len, cap, l, rfl, hq⟩ hsl
    ·rfl
   ·rename_i id
    split
    ·rename_i l hq
     split
     ·rename_i hal
      exact absurd ⟨id, l, rfl, hq, hal⟩ hpt
     ·rfl
    ·rfl
   ·rename_i id es n cap hne
    split
    ·rename_i l hq
     exact absurd ⟨id, es, n, cap, l, rfl, hq, hne⟩ hag
    ·rename_i q hq
     exact absurd ⟨id, es, .l n, cap, q, rfl, hq, hne⟩ hsb
    ·rfl
   ·rename_i id es n cap hne
    split
    ·rename_i q hq
     exact absurd ⟨id, es, .s n, cap, q, rfl, hq, hne⟩ hsb
    ·rfl
   ·rfl
  refine plain ?_ e
  unfold qbu at hp
  split at hp
  ·rename_i id off len cap
   split at hp
   ·rename_i l hq
    exact absurd ⟨id, off, len, cap, l, rfl, hq⟩ hsl
   ·exact hp
  ·trivial
  ·rename_i id es off len cap hn
   unfold bPre
   split
   ·rename_i hq
    cases hq
    exact absurd rfl hn
   ·trivial
  ·rename_i hn _ _
   unfold bPre
   split
   ·rename_i id off len cap
    first | exact absurd rfl (hn id off len cap) | exact absurd rfl (hn _ _ _ _)
   ·trivial
theorem qls (R : Rel E ρ H ts h U a w) : ∀ {l : List SVal} {vs : List Value}, RepV ρ H l vs -> qbX h l -> IdsLtL noId (l.map (qY E h)) -> RepV ρ0 (qR w) (l.map (qY E h)) vs
 | [], vs, hr, _, _ => hr
 | s :: l, vs, hr, hp, hc => by
   obtain ⟨v, ws, rfl, h1, h2⟩ := RepV_cons.1 hr
   exact RepV_cons.2 ⟨v, ws, rfl, qpQ hE R h1 hp.1 hc.1, qls R h2 hp.2 hc.2⟩
omit hE in
theorem qlt (R : Rel E ρ H ts h U a w) {base : Nat} (hf : ∀ id, own base i id -> ¬ U id) {c : SVal} {mk : Nat -> SVal} {u : Value} {arr : Array Value} {t : TypeId} {vs : List Value} (hr : Rep ρ H c vs) (hc : IdsLt U c) (hv : arr.toList = vs)
  (hm : ∀ (ρ' : Rho) id, ρ' id = ⟨w.heap.size, 0, vs.length, false⟩ -> Den ρ' H (mk id) u /\ IdsLt (fun i => i = id) (mk id)) (d : Option Nat) (all : List Oper) :
  ∃ ρ', (∀ id, ¬ own base i id -> ρ' id = ρ id) /\ Rel E ρ' H (putD ts d (gd all i (mk (base + 8 * i)))) (qI [(base + 8 * i, c)] h) (both U (own base i)) (a.put d u) (w.alloc (.cells arr t)) := by
 have hown : own base i (base + 8 * i) := ⟨Nat.le_refl _, by omega⟩
 let ρ' : Rho := fun id => if id = base + 8 * i then ⟨w.heap.size, 0, vs.length, false⟩ else ρ id
 have e1 : ρ' (base + 8 * i) = ⟨w.heap.size, 0, vs.length, false⟩ := by simp [ρ']
 have eU : ∀ id, U id -> ρ' id = ρ id := fun id hid => by
  have : id ≠ base + 8 * i := by rintro rfl; exact hf _ hown hid
  simp [ρ', this]
 have hlen : vs.length = arr.size := by rw [<- hv]; simp
 refine ⟨ρ', fun id hid => ?_, ?_⟩
 ·have : id ≠ base + 8 * i := by rintro rfl; exact hid hown
  simp [ρ', this]
 ·have hk : Kept w (w.alloc (.cells arr t)) := fun b hb => by
   simp only [World.alloc]
   rw [Array.getElem?_push, if_neg (by omega)]
  have R' := R.grow (w' := w.alloc (.cells arr t)) ⟨rfl, rfl, rfl, by show w.heap.size <= (w.heap.push _).size; simp⟩ hk (ρ' := ρ') (V := own base i) (l := [(base + 8 * i, c)]) eU
   (fun p hp => by
    simp only [List.mem_singleton] at hp
    subst hp
    exact ⟨hown, hf _ hown, IdsLt.mono (fun _ => .inl) _ hc⟩)
   (fun p hp => by
    simp only [List.mem_singleton] at hp
    subst hp
    refine .inr ⟨arr, t, vs, by rw [e1], ?_, by rw [e1]; exact R.agree.size _ (Nat.le_refl _), Rep.ext eU (fun _ _ h => h) c hc hr, by rw [e1]; dsimp only; omega, by rw [e1]; exact Nat.le_refl _, fun j v hj => ?_⟩
    ·rw [e1]
     simp only [World.alloc]
     exact Array.getElem?_push_size
    ·rw [e1]
     dsimp only
     rw [Nat.zero_add, <- Array.getElem?_toList, hv]
     exact hj)
   (fun p hp _ => by
    simp only [List.mem_singleton] at hp
    subst hp
    rw [e1]
    exact Nat.le_refl _)
   (List.pairwise_singleton _ _)
  obtain ⟨m1, m2⟩ := hm ρ' _ e1
  exact R'.set d (Rel.gd m1) (qcN (IdsLt.mono (fun id e => .inr (by rw [e]; exact hown)) _ m2))
theorem qlu (R : Rel E ρ H ts h U a w) {all : List Oper} {base : Nat} (ho : all[i]? = some o) (hf : ∀ id, own base i id -> ¬ U id) {K : Kt} (hT : T E all base i K ts h) :
  ∃ ρ' ts' h' a' w', Steps P (lone (b.atR a (.inRegion all.toArray (i :: rest) :: k)) cs w) (lone (b.atR a' (.inRegion all.toArray rest :: k)) cs w') /\ (∀ id, ¬ own base i id -> ρ' id = ρ id) /\
   Rel E ρ' H ts' h' (both U (own base i)) a' w' /\ K ts' h' := by
 have ho' : all.toArray[i]? = some o := by simpa using ho
 have widen : ∀ {ts h a w}, Rel E ρ H ts h U a w -> Rel E ρ H ts h (both U (own base i)) a w := fun R =>
  ⟨R.len, R.den, fun i => IdsLt.mono (fun _ => .inl) _ (R.ids i), fun id c hc => ⟨.inl (R.hids _ _ hc).1, IdsLt.mono (fun _ => .inl) _ (R.hids _ _ hc).2⟩, R.agree, R.heap, R.defers, R.glob, R.same⟩
 have hok := qfV hE.toEnvOk hE.call R o
 unfold T at hT
 simp only [ho] at hT
 split at hT
 ·rename_i N hN
  obtain ⟨p1, ⟨x0, hx0⟩, p3⟩ := hT
  have hN' := hN
  unfold nfg at hN
  split at hN <;> try (cases hN; done)
  ·
   rename_i hg
   cases hN
   have hw := qdz R hg
   refine ⟨ρ, _, _, _, w, .one (stepR_op_skip (by simp [ho]; simpa using hw)), fun _ _ => rfl, ?_, p3 () trivial⟩
   simp only [ho', Option.bind_some]
   exact widen (R.set _ ⟨[], rfl, by simp only [RepV]⟩ trivial)
  ·rename_i hg
   have hw := qdz R hg
   split at hN <;> try (cases hN; done)
   rename_i M hM
   cases hN
   generalize hs : qn E ts h o.op = out at hM hok
   cases out <;> simp only [nf] at hM <;> try (cases hM; done)
   case set v =>
    cases hM
    obtain ⟨u, r1, r2, r3⟩ := hok
    exact ⟨ρ, _, _, _, w, .one (qcd ho' hw r1), fun _ _ => rfl, widen (R.set _ (Rel.gd r2) (qcN r3)), p3 () trivial⟩
   case setp q v =>
    cases hM
    obtain ⟨u, r1, r2, r3⟩ := hok (p1 ())
    exact ⟨ρ, _, _, _, w, .one (qcd ho' hw r1), fun _ _ => rfl, widen (R.set _ (Rel.gd r2) (qcN r3)), p3 () trivial⟩
   case new c mk =>
    cases hM
    obtain ⟨u, arr, t, vs, r1, r2, r3, r4, r5⟩ := hok
    obtain ⟨ρ', q1, q2⟩ := qlt R hf r2 r3 r4 r5 o.dst all (t := t)
    exact ⟨ρ', _, _, _, _, .one (qcd ho' hw r1), q1, q2, p3 () trivial⟩
   case newp q c mk =>
    cases hM
    obtain ⟨u, arr, t, vs, r1, r2, r3, r4, r5⟩ := hok (p1 ())
    obtain ⟨ρ', q1, q2⟩ := qlt R hf r2 r3 r4 r5 o.dst all (t := t)
    exact ⟨ρ', _, _, _, _, .one (qcd ho' hw r1), q1, q2, p3 () trivial⟩
   case any p =>
    cases hM
    obtain ⟨u, r1, r2⟩ := hok
    exact ⟨ρ, _, _, _, w, .one (qcd ho' hw r2), fun _ _ => rfl, widen (R.set _ (Rel.gd (v := .bs u) (by simp [Den, Rep])) (qcN trivial)), p3 u r1⟩
   case call q s =>
    cases hM
    obtain ⟨g, s0, args, vs, hg0, rfl, rfl, r1, r2, r3⟩ := hok
    have hcl := hE.closed g s0 _ hg0 p1.2
    have hbp := qpO p1.1
    have hc := hE.spec g s0 hg0 w _ vs (fun g => Den.ext (t := noId) (fun i h => h.elim) (fun b o hb => R.agree b o hb) (R.glob g).2 (R.glob g).1) (qls hE R r2 hbp hcl) p1.2
    obtain ⟨v, w'', ⟨c1, c2, x, c3, c4⟩, hst⟩ := qlj (b := b) (k := k) (cs := cs) (rest := rest) ho' hw r1 hc
    obtain ⟨ρ1, d1, d2, d3, d4⟩ := c4 (base + 8 * i)
    have few := hE.few g s0 (args.map (qY E h)) x hg0 (base + 8 * i)
    have hids := qiv (E := E) (b := base + 8 * i) (U := own base i) (hE.rid g s0 (args.map (qY E h)) x hg0) few
    let ρ' : Rho := fun id => if base + 8 * i <= id /\ id < base + 8 * i + 8 then ρ1 id else ρ id
    have eo : ∀ id, own base i id -> ρ' id = ρ1 id := fun id hid => if_pos hid
    have en : ∀ id, ¬ own base i id -> ρ' id = ρ id := fun id hid => if_neg hid
    have eU : ∀ id, U id -> ρ' id = ρ id := fun id hid => en id fun q => hf id q hid
    have R' := R.grow c1 c2 (ρ' := ρ') (V := own base i) (l := (place E (base + 8 * i) ((s0 (args.map (qY E h))).res x)).2) eU
     (fun p hp => ⟨few p hp, hf _ (few p hp), IdsLt.mono (fun _ => .inr) _ (hids.2 p hp)⟩)
     (fun p hp => by
      rcases d2 p hp with hgh | ⟨arr, t, vs', li⟩
      ·exact .inl ⟨by rw [eo _ (few p hp)]; exact hgh.1, by rw [eo _ (few p hp)]; exact hgh.2.1, hgh.2.2⟩
      ·have e := eo _ (few p hp)
       refine .inr ⟨arr, t, vs', by rw [e]; exact li.real, by rw [e]; exact li.blk, ?_, Rep.ext eo (fun b o hb => by cases hb) _ (hids.2 p hp) li.rep, by rw [e]; exact li.room, by rw [e]; exact li.fits, by rw [e]; exact li.cells⟩
       rw [e]
       exact R.agree.size _ (d4 p hp li.real))
     (fun p hp hg => by
      rw [eo _ (few p hp)] at hg ⊢
      exact d4 p hp hg)
     (List.Pairwise.imp_of_mem (fun {p q} hp hq hpq => ⟨hpq.1, by rw [eo _ (few p hp), eo _ (few q hq)]; exact hpq.2⟩) d3)
    have hden : Den ρ' H (place E (base + 8 * i) ((s0 (args.map (qY E h))).res x)).1 v := Den.ext eo (fun b o hb => by cases hb) hids.1 d1
    exact ⟨ρ', _, _, _, _, hst, en, R'.set o.dst (Rel.gd hden) (qcN (IdsLt.mono (fun _ => .inr) _ hids.1)), p3 x c3⟩
 ·split at hT <;> try (exact hT.elim)
  rename_i hg
  have hw := qdz R hg
  generalize hs : qn E ts h o.op = out at hT hok
  cases out <;> simp only [wrT] at hT <;> try (exact hT.elim)
  case upd id c =>
   obtain ⟨w', r1, r2⟩ := hok
   exact ⟨ρ, _, _, _, w', .one (qlh ho' hw r1), fun _ _ => rfl, widen ((R.upd r2).junk _ _), hT⟩
  case updp q id c =>
   obtain ⟨w', r1, r2⟩ := hok (hT.1 ())
   exact ⟨ρ, _, _, _, w', .one (qlh ho' hw r1), fun _ _ => rfl, widen ((R.upd r2).junk _ _), hT.2⟩
  case cpy q v id c =>
   obtain ⟨u, w', r1, r2, r3, r4⟩ := hok (hT.1 ())
   exact ⟨ρ, _, _, _, w', .one (qcd ho' hw r1), fun _ _ => rfl, widen ((R.upd r4).set _ (Rel.gd r2) (qcN r3)), hT.2⟩
  case app es bytes s x =>
   split at hT
   rotate_left
   ·split at hT <;> try (exact hT.elim)
    rename_i id q1 n1 id2 q2 n2 h1 h2
    split at hT <;> try (exact hT.elim)
    rename_i q h4
    obtain ⟨⟨g1, g2, g3, g4⟩, hT⟩ := hT
    obtain ⟨v, w', pos, cap, r1, hA⟩ := qpP hE R hok R.agree.size h1 h2 h4 g1 g2 g3 g4
    have hjk : ∀ i, id = some i -> look h i ≠ .junk := by
     intro i hi
     obtain ⟨_, _, _, _, _, _, _, _, _, _, _, _, _, _, _, hds, _⟩ := hok
     obtain ⟨_, _, _, _, _, _, _, _, hid1, _⟩ := qiM hE R hds h1 g2
     exact (hid1 i hi).1
    have hown : own base i (base + 8 * i) := ⟨Nat.le_refl _, by omega⟩
    obtain ⟨ρ', q1, q2, q3⟩ := R.app hA hjk (hf _ hown) (show IdsLt noId (.sab q) from trivial) (V := own base i) hown
    refine ⟨ρ', _, _, _, w', .one (qcd ho' hw r1), fun id hid => q1 id (by rintro rfl; exact hid hown), q2.set o.dst q3 (.inr hown), hT cap ?_⟩
    have := hA.le
    rw [show (n1.add E.Ω n2).v = n1.v + n2.v by rw [hE.om]; exact SN.add_v _ _] at this
    exact this
   rename_i id k1 xs n1 id2 k2 ys n2 h1 h2 h3
   split at hT <;> try (exact hT.elim)
   rename_i kk h4
   obtain ⟨⟨g1, g2, g3⟩, hT⟩ := hT
   obtain ⟨v, w', pos, cap, r1, hA⟩ := qpK hE.toEnvOk R hok R.agree.size h1 h2 h3 h4 g1 g2 g3
   have hjk : ∀ i, id = some i -> look h i ≠ .junk := by
    rintro i rfl hj
    obtain ⟨_, _, _, _, _, _, _, _, _, _, _, _, _, _, _, hds, _⟩ := hok
    obtain ⟨_, _, _, _, _, _, _, hid1, _⟩ := qiC hE.toEnvOk R hds h1 g2
    obtain ⟨off, len, cp, rfl, _⟩ := hid1 i rfl
    cases hbb : Nat.beq es es <;> simp [appS, hbb, hj] at h1
   have hown : own base i (base + 8 * i) := ⟨Nat.le_refl _, by omega⟩
   obtain ⟨ρ', q1, q2, q3⟩ := R.app hA hjk (hf _ hown) (show IdsLt noId (.seq kk (appC E.Ω id xs ys)) from trivial) (V := own base i) hown
   refine ⟨ρ', _, _, _, w', .one (qcd ho' hw r1), fun id hid => q1 id (by rintro rfl; exact hid hown), q2.set o.dst q3 (.inr hown), hT cap ?_⟩
   have := hA.le
   rw [show (n1.add E.Ω n2).v = n1.v + n2.v by rw [hE.om]; exact SN.add_v _ _] at this
   exact this
end
end Go.Sx
end
section
namespace Go.Sx
theorem memN_iff {i : Nat} : ∀ {l : List Nat}, memN i l = true ↔ i ∈ l
 | [] => by simp [memN]
 | j :: l => by
   simp only [memN, List.mem_cons]
   split
   · rename_i h
     have := Nat.eq_of_beq_eq_true h
     simp [this]
   · rename_i h
     rw [memN_iff]
     constructor
     · exact .inr
     · rintro (rfl | h')
       · rw [Nat.beq_refl] at h; cases h
       · exact h'
theorem qlv {i : Nat} {l : List Nat} (h : uniq (i :: l) = true) : i ∉ l /\ uniq l = true := by
 simp only [uniq] at h
 split at h
 ·cases h
 ·rename_i hm
  exact ⟨(fun hi => by rw [memN_iff.2 hi] at hm; cases hm), h⟩
theorem qlw : ∀ {l : List Nat}, uniq l = true -> qas l = true
 | [], _ => rfl
 | i :: l, h => by
   obtain ⟨h1, h2⟩ := qlv h
   simp only [qas, Bool.and_eq_true, Bool.not_eq_true', List.any_eq_false]
   exact ⟨(fun j hj e => h1 (by rw [Nat.eq_of_beq_eq_true e]; exact hj)), qlw h2⟩
theorem qiN {E : Env} {h : Heap} : ∀ {l d : List SVal} {ids : List Nat}, qcH E h l = some (d, ids) -> qds h l -> qa8 E h l d /\ qM l = ids /\ IdsLtL noId d
 | [], d, ids, hd, _ => by
   simp only [qcH, Option.some.injEq, Prod.mk.injEq] at hd
   obtain ⟨rfl, rfl⟩ := hd
   exact ⟨trivial, rfl, trivial⟩
 | s :: l, d, ids, hd, hp => by
   simp only [qcH] at hd
   split at hd <;> try (cases hd; done)
   rename_i m ids' hm
   split at hd <;> try (cases hd; done)
   · rename_i id off len cap
     split at hd <;> try (cases hd; done)
     rename_i k xs hl
     simp only [Option.some.injEq, Prod.mk.injEq] at hd
     obtain ⟨rfl, rfl⟩ := hd
     obtain ⟨hp1, hp2⟩ := hp
     obtain ⟨h1, h2, h3⟩ := qiN hm hp2
     simp only [hl] at hp1
     exact ⟨⟨⟨rfl, by simp only [hl]; exact ⟨trivial, hp1, trivial⟩⟩, h1⟩, by simp only [qM, h2], trivial, h3⟩
   all_goals (
     simp only [Option.some.injEq, Prod.mk.injEq] at hd
     obtain ⟨rfl, rfl⟩ := hd
     obtain ⟨h1, h2, h3⟩ := qiN hm hp
     refine ⟨⟨?_, h1⟩, h2, trivial, h3⟩
     simp [qaC, qa3])
theorem qlx {ρ : Rho} {i : Nat} : ∀ {h : Heap}, h.Pairwise (ApartR ρ) -> ∀ {p : Nat × SVal}, p ∈ delH h i -> p ∈ h /\ p.1 ≠ i
 | [], _, p, hp => by simp [delH] at hp
 | (j, d) :: r, hw, p, hp => by
   rw [List.pairwise_cons] at hw
   simp only [delH] at hp
   split at hp
   · rename_i hb
     have := Nat.eq_of_beq_eq_true hb
     subst this
     exact ⟨List.mem_cons_of_mem _ hp, (hw.1 p hp).1.symm⟩
   · rename_i hb
     rcases List.mem_cons.1 hp with rfl | hp
     · exact ⟨List.mem_cons_self .., fun e => by rw [<- e, Nat.beq_refl] at hb; cases hb⟩
     · obtain ⟨h1, h2⟩ := qlx hw.2 hp
       exact ⟨List.mem_cons_of_mem _ h1, h2⟩
theorem qly : ∀ (l : List Nat) (h : Heap), (qbZ l h).Sublist h
 | [], h => .refl _
 | i :: l, h => (qly l _).trans (qfZ h)
theorem qlz {ρ : Rho} : ∀ {l : List Nat} {h : Heap}, h.Pairwise (ApartR ρ) -> ∀ {p : Nat × SVal}, p ∈ qbZ l h -> p ∈ h /\ p.1 ∉ l
 | [], h, _, p, hp => ⟨hp, by simp⟩
 | i :: l, h, hw, p, hp => by
   obtain ⟨h1, h2⟩ := qlz (hw.sublist (qfZ h)) hp
   obtain ⟨h3, h4⟩ := qlx hw h1
   exact ⟨h3, by simp [h2, h4]⟩
section
variable {P : Program} {E : Env} {ρ : Rho} {H : Snap} {ts : List SVal} {h : Heap} {U : Top} {a : Act} {w : World}
noncomputable def holes (ρ : Rho) (w : World) (J : List Nat) : Snap :=
 open Classical in ⟨fun b => if ∃ j ∈ J, (ρ j).g = false /\ (ρ j).b = b then none else w.heap[b]?, w, []⟩
theorem holes_none {J : List Nat} {j : Nat} (hj : j ∈ J) (hg : (ρ j).g = false) : holes ρ w J (ρ j).b = none := by
 simp only [holes]
 rw [if_pos ⟨j, hj, hg, rfl⟩]
theorem holes_some {J : List Nat} {b : Nat} (hn : ∀ j ∈ J, (ρ j).g = false -> (ρ j).b ≠ b) : holes ρ w J b = w.heap[b]? := by
 simp only [holes]
 rw [if_neg]
 rintro ⟨j, hj, hg, e⟩
 exact hn j hj hg e
theorem holes_le {J : List Nat} {b : Nat} {o : Obj} (h : holes ρ w J b = some o) : w.heap[b]? = some o := by
 simp only [holes] at h
 split at h
 ·cases h
 ·exact h
theorem holes_agree (R : Rel E ρ H ts h U a w) {J : List Nat} (hJ : ∀ j ∈ J, look h j ≠ .junk) {b : Nat} {o : Obj} (hb : H b = some o) : holes ρ w J b = some o := by
 rw [holes_some fun j hj hg e => ?_]
 ·exact R.agree b o hb
 ·rcases R.lies (hJ j hj) with hgh | ⟨arr, t, vs, li⟩
  ·rw [hgh.1] at hg; cases hg
  ·rw [<- e, li.own] at hb; cases hb
variable (hE : EnvG P E)
include hE
theorem qpR (R : Rel E ρ H ts h U a w) {J : List Nat} (hJ : ∀ j ∈ J, look h j ≠ .junk) {s : SVal} {v : Value} (hd : Den ρ H s v) (hp : bPre h s) (hc : IdsLt noId (qt E h s)) (hap : qbj J [s] = true) : Den ρ0 (holes ρ w J) (qt E h s) v := by
 have hs := qf1 hE R hd hp hc
 have same : qt E h s = s -> Den ρ0 (holes ρ w J) (qt E h s) v := by
  intro e
  rw [e] at hc ⊢
  exact Den.ext (t := noId) (fun i h => h.elim) (fun b o hb => holes_agree R hJ hb) hc hd
 have other : ∀ id, look h id ≠ .junk -> (ρ id).g = false -> memN id J = false -> holes ρ w J (ρ id).b = w.heap[(ρ id).b]? := fun id hl hg hm =>
  holes_some fun j hj hgj => qcP R (hJ j hj) hl (by rintro rfl; rw [memN_iff.2 hj] at hm; cases hm) hgj hg
 cases s
 case lit k n => simpa [qt, Den, Rep] using hd
 case bl b => simpa [qt, Den, Rep] using hd
 case val u =>
  by_cases hu : u = .slice none 0 0
  ·subst hu
   simp only [Den, Rep, List.cons.injEq, and_true] at hd
   obtain ⟨rfl, _⟩ := hd
   simp only [qt, Den, Rep, List.cons.injEq, and_true]
   exact ⟨_, rfl, none, 0, rfl, Nat.le_refl _, fun j x hj => by simp at hj⟩
  ·exact same (by unfold qt; split <;> simp_all)
 case sl id es off len cap =>
  have hm : memN id J = false := by
   simp only [qbj] at hap
   split at hap
   ·cases hap
   ·rename_i h; exact h
  by_cases hes : es = 1
  ·subst hes
   have hroi : (∃ k xs, qt E h (.sl id 1 off len cap) = .roi k xs /\ look h id ≠ .junk) \/ qt E h (.sl id 1 off len cap) = .junk := by
    simp only [qt]
    cases hl : look h id <;> simp only <;> first
     | exact .inr trivial
     | exact .inr rfl
     | exact .inl ⟨_, _, rfl, by simp⟩
     | (repeat' split
        all_goals exact .inl ⟨_, _, rfl, by simp⟩)
   rcases hroi with ⟨k, xs, e, hl⟩ | e
   rotate_left
   ·rw [e]; trivial
   rw [e] at hs ⊢
   simp only [Den, Rep, List.cons.injEq, and_true] at hs hd ⊢
   obtain ⟨_, rfl, aa, c, e1, h2, h3⟩ := hs
   subst e1
   refine ⟨_, rfl, aa, c, rfl, h2, fun j x hj => ?_⟩
   obtain ⟨b, o, e2, h4⟩ := h3 j x hj
   subst e2
   refine ⟨b, o, rfl, ?_⟩
   obtain ⟨ad, e3, _, _, hg1, hg2⟩ := hd
   simp only [Value.slice.injEq] at e3
   cases hg : (ρ id).g with
   | true => obtain ⟨e4, _⟩ := hg1 hg; rw [e4] at e3; cases e3.1
   | false =>
     obtain ⟨o', e4, _⟩ := hg2 hg
     rw [e4] at e3
     have eb : b = (ρ id).b := by have := e3.1; simp at this; exact this.1
     subst eb
     simp only [qz] at h4 ⊢
     rw [other id hl hg hm]
     exact h4
  ·have e : qt E h (.sl id es off len cap) = .sl id es off len cap := by
    unfold qt
    split <;> simp_all
   rw [e] at hc
   exact hc.elim
 case ptr id off => cases hap
 all_goals exact same rfl
theorem qlA (R : Rel E ρ H ts h U a w) {J : List Nat} (hJ : ∀ j ∈ J, look h j ≠ .junk) : ∀ {l : List SVal} {vs : List Value}, RepV ρ H l vs -> qaZ h l -> IdsLtL noId (l.map (qt E h)) -> qbj J l = true -> RepV ρ0 (holes ρ w J) (l.map (qt E h)) vs
 | [], vs, hr, _, _, _ => hr
 | s :: l, vs, hr, hp, hc, ha => by
   obtain ⟨v, ws, rfl, h1, h2⟩ := RepV_cons.1 hr
   have ha2 : qbj J [s] = true /\ qbj J l = true := by
     cases s <;> simp only [qbj] at ha ⊢ <;> first
       | (cases ha; done)
       | exact ⟨rfl, ha⟩
       | exact ⟨trivial, ha⟩
       | (split at ha
          · cases ha
          · exact ⟨rfl, ha⟩)
       | (split at ha
          · cases ha
          · exact ⟨trivial, ha⟩)
   exact RepV_cons.2 ⟨v, ws, rfl, qpR hE R hJ h1 hp.1 hc.1 ha2.1, qlA R hJ h2 hp.2 hc.2 ha2.2⟩
variable {b : Frame} {k : List Item} {cs : List Frame} {i : Nat} {rest' : List Nat} {o : Oper}
omit hE in
theorem qiO {t : Top} : ∀ (n : Nat) (l : List SVal), IdsLtL t l -> IdsLtL t (qcJ n l)
 | 0, l, _ => by cases l <;> trivial
 | n + 1, [], _ => trivial
 | n + 1, s :: l, h => ⟨h.1, qiO n l h.2⟩
omit hE in
theorem qiP {t : Top} : ∀ (n : Nat) (l : List SVal), IdsLtL t l -> IdsLtL t (qdt n l)
 | 0, l, h => by cases l <;> exact h
 | n + 1, [], _ => trivial
 | n + 1, s :: l, h => qiP n l h.2
omit hE in
theorem qlB {t : Top} {l : List SVal} (h : IdsLtL t l) : IdsLt t (qcI l) := by
 unfold qcI
 split
 ·exact h.1
 ·exact h
omit hE in
theorem qf2 : ∀ (l : List SVal) (b : Nat), ∀ p ∈ (place.placeL E b l).2, b <= p.1 /\ p.1 < b + l.length
 | [], b, p, hp => by simp [place.placeL] at hp
 | s :: l, b, p, hp => by
   cases s
   case fr k xs cap =>
     simp only [place.placeL] at hp
     rcases List.mem_cons.1 hp with rfl | hp
     · simp
     · have := qf2 l (b + 1) p hp
       simp only [List.length_cons]
       omega
   case fra q cap =>
     simp only [place.placeL] at hp
     rcases List.mem_cons.1 hp with rfl | hp
     · simp
     · have := qf2 l (b + 1) p hp
       simp only [List.length_cons]
       omega
   all_goals (
     have := qf2 l b p (by simpa only [place.placeL] using hp)
     simp only [List.length_cons]
     omega)
theorem qpS (R : Rel E ρ H ts h U a w) {all : List Oper} {base : Nat} (ho : all[i]? = some o) (hf : ∀ id, own base i id -> ¬ U id) (hg : qZ all ts o = some true) {g : FuncId} {ms : qaG} {id : Nat} {rest l d : List SVal} {ids : List Nat}
  (hs : qn E ts h o.op = .into g (.ptr id (.l 0) :: rest)) (hM : E.M g = some ms) (hl : look h id = .agg l) (hd : qcH E h l = some (d, ids)) (hu : uniq (id :: ids) = true) (hap : qbj (id :: ids) rest = true) (hp1 : qds h l) (hp2 : qaZ h rest)
  (hpre : (ms d (rest.map (qt E h))).pre) :
  ∃ x ρ' w' u, (ms d (rest.map (qt E h))).post x /\ Steps P (lone (b.atR a (.inRegion all.toArray (i :: rest') :: k)) cs w) (lone (b.atR (a.put o.dst u) (.inRegion all.toArray rest' :: k)) cs w') /\ (∀ id, ¬ own base i id -> ρ' id = ρ id) /\
   Den ρ' H (qcI (qcJ ((ms d (rest.map (qt E h))).res x).length (place.placeL E (base + 8 * i) ((ms d (rest.map (qt E h))).res x ++ (ms d (rest.map (qt E h))).out x)).1)) u /\
   IdsLt (both U (own base i)) (qcI (qcJ ((ms d (rest.map (qt E h))).res x).length (place.placeL E (base + 8 * i) ((ms d (rest.map (qt E h))).res x ++ (ms d (rest.map (qt E h))).out x)).1)) /\
   Rel E ρ' H ts (qI ((id, .agg (qdt ((ms d (rest.map (qt E h))).res x).length (place.placeL E (base + 8 * i) ((ms d (rest.map (qt E h))).res x ++ (ms d (rest.map (qt E h))).out x)).1)) :: (place.placeL E (base + 8 * i) ((ms d (rest.map (qt E h))).res x ++ (ms d (rest.map (qt E h))).out x)).2) (qbZ (id :: ids) h)) (both U (own base i)) a w' := by
 have ho' : all.toArray[i]? = some o := by simpa using ho
 have hok := qfV hE.toEnvOk hE.call R o
 rw [hs] at hok
 obtain ⟨vs, r1, r2, r3⟩ := hok
 have hw := qdz R hg
 obtain ⟨f1, f2, f3⟩ := qiN hd hp1
 obtain ⟨u1, u2⟩ := qlv hu
 have hjid : look h id ≠ .junk := by rw [hl]; simp
 have hfl : ∀ j ∈ ids, look h j ≠ .junk := by
  rw [<- f2]
  have : ∀ (l d : List SVal), qa8 E h l d -> ∀ j ∈ qM l, look h j ≠ .junk := by
   intro l
   induction l with
   | nil => intro d _ j hj; simp [qM] at hj
   | cons s l ih =>
     intro d hf j hj
     cases d with
     | nil => simp [qa8] at hf
     | cons t d =>
       obtain ⟨q1, q2⟩ := hf
       cases s <;> simp only [qM] at hj <;> first
         | exact ih d q2 j hj
         | (rcases List.mem_cons.1 hj with rfl | hj
            · cases t <;> simp only [qaC, qa3] at q1 <;> (try (exact q1.elim))
              all_goals (split at q1 <;> try (exact q1.elim))
              all_goals first
                | (rename_i e; cases e; done)
                | (rename_i e; cases e; intro hjk; rw [hjk] at q1; first | exact q1.2 | exact q1.2.2.2)
            · exact ih d q2 j hj)
  exact this l d f1
 have hJ : ∀ j ∈ id :: ids, look h j ≠ .junk := fun j hj => by
  rcases List.mem_cons.1 hj with rfl | hj
  ·exact hjid
  ·exact hfl j hj
 obtain ⟨arr, t, us, li⟩ : ∃ arr t us, Lies ρ H w id (.agg l) arr t us := by
  rcases R.lies hjid with hgh | hli
  ·obtain ⟨_, _, k, e⟩ := hgh; rw [hl] at e; cases e
  ·rwa [hl] at hli
 obtain ⟨uss, e1, hm⟩ := RepM_C.1 (show RepC ρ H l us from li.rep)
 obtain ⟨ρ1, k1, k2, k3, k4, k5⟩ := qet (w := w) hE.om R _ l d f1 (qlw (by rw [f2]; exact u2)) hm 1
 let ρc : Rho := fun j => if j = 0 then ρ id else ρ1 j
 have c0 : ρc 0 = ρ id := rfl
 have c1 : ∀ j, 1 <= j -> ρc j = ρ1 j := fun j hj => if_neg (by omega)
 have hAg : Agree (holes ρ w (id :: ids)) w := fun b o hb => holes_le hb
 have hlen : (List.replicate l.length false).length = (place.placeL E 1 d).1.length := by
  have : ∀ (ms : List Bool) (l : List SVal) (us : List (List Value)), RepM ρ1 (qad w) ms l us -> ms.length = l.length := by
   intro ms
   induction ms with
   | nil => intro l us hr; cases l with
     | nil => rfl
     | cons => exact hr.elim
   | cons m ms ih => intro l us hr; cases l with
     | nil => exact hr.elim
     | cons s l => obtain ⟨u, r, _, _, hr⟩ := hr; simp [ih l r hr]
  exact this _ _ _ k1
 have hrepc : RepC ρc (holes ρ w (id :: ids)) (place.placeL E 1 d).1 us := by
  refine RepM_C.2 ⟨uss, e1, ?_⟩
  have e : List.replicate (place.placeL E 1 d).1.length false = List.replicate l.length false := by rw [<- hlen]; simp
  rw [e]
  exact RepM.ext (t := fun i => 1 <= i) c1 (fun b o hb => by cases hb) k2 k1
 have hheap : qfM ρc (holes ρ w (id :: ids)) w ((0, .agg (place.placeL E 1 d).1) :: (place.placeL E 1 d).2) := by
  refine ⟨fun j c hc => ?_, ?_⟩
  ·rcases List.mem_cons.1 hc with e | hc
   ·cases e
    exact .inr ⟨arr, t, us, li.real, li.blk, holes_none (List.mem_cons_self ..) li.real, hrepc, li.room, li.fits, li.cells⟩
   ·obtain ⟨q1, q2, q3⟩ := k3 _ hc
    rcases q3 with hgh | ⟨arr', t', vs', li'⟩
    ·exact .inl ⟨by rw [c1 _ q1]; exact hgh.1, by rw [c1 _ q1]; exact hgh.2.1, hgh.2.2⟩
    ·refine .inr ⟨arr', t', vs', ?_⟩
     have hown : holes ρ w (id :: ids) (ρ1 j).b = none := by
      obtain ⟨_, j', q4, q5, q6, q7⟩ := k5 _ hc li'.real
      rw [f2] at q4
      have := holes_none (w := w) (List.mem_cons_of_mem id q4) q5
      rw [show (ρ1 j).b = (ρ j').b from q6]
      exact this
     have e := c1 j q1
     exact ⟨by rw [e]; exact li'.real, by rw [e]; exact li'.blk, by rw [e]; exact hown, Rep.ext (t := noId) (fun i h => h.elim) (fun b o hb => by cases hb) _ q2 li'.rep, by rw [e]; exact li'.room, by rw [e]; exact li'.fits, by rw [e]; exact li'.cells⟩
  ·rw [List.pairwise_cons]
   refine ⟨fun p hp => ⟨by have := (k3 p hp).1; dsimp only; omega, fun g1 g2 => ?_⟩, ?_⟩
   ·have q1 := (k3 p hp).1
    rw [c1 _ q1] at g2 ⊢
    obtain ⟨_, j', q4, q5, q6, q7⟩ := k5 _ hp g2
    rw [f2] at q4
    rw [q6]
    exact qcP R hjid q7 (by rintro rfl; exact u1 q4) li.real q5
   ·refine List.Pairwise.imp_of_mem (fun {p q} hp hq hpq => ?_) k4
    exact ⟨hpq.1, by rw [c1 _ (k3 p hp).1, c1 _ (k3 q hq).1]; exact hpq.2⟩
 obtain ⟨v0, ws, rfl, hd0, hrv⟩ := RepV_cons.1 r2
 have hcl := hE.mclosed g ms d _ hM hpre
 have hrepv : RepV ρc (holes ρ w (id :: ids)) (.ptr 0 (.l 0) :: rest.map (qt E h)) (v0 :: ws) := by
  refine RepV_cons.2 ⟨v0, ws, rfl, hd0, ?_⟩
  exact RepV.ext (t := noId) (fun i h => h.elim) (fun b o h => h) _ hcl (qlA hE R hJ hrv hp2 hcl hap)
 have hc := hE.mspec g ms hM w (holes ρ w (id :: ids)) ρc d (rest.map (qt E h)) (v0 :: ws) rfl rfl hAg (fun g => Den.ext (t := noId) (fun i h => h.elim) (fun b o hb => holes_agree R hJ hb) (R.glob g).2 (R.glob g).1) hrepv hheap hpre
 obtain ⟨v, w', ⟨x, n1, n2, n3, n4⟩, hst⟩ := qlj (b := b) (k := k) (cs := cs) (rest := rest') (Q := fun v w' => ∃ x, Same w w' /\ Agree (holes ρ w (id :: ids)) w' /\ (ms d (rest.map (qt E h))).post x /\ qlg E (holes ρ w (id :: ids)) w w' (ρc 0) ((ms d (rest.map (qt E h))).res x) ((ms d (rest.map (qt E h))).out x) v) ho' hw r1 (hc.mono fun e w' ⟨v, x, he, hq⟩ => ⟨v, he, x, hq⟩)
 obtain ⟨ρ2, d1, ⟨arr2, t2, us2, m1, m2, m3, m4, m5⟩, d2, d3, d4⟩ := n4 (base + 8 * i)
 obtain ⟨i1, i2⟩ := hE.mres g ms d (rest.map (qt E h)) x hM
 refine ⟨x, ?_⟩
 generalize hres : (ms d (rest.map (qt E h))).res x = res at *
 generalize hout : (ms d (rest.map (qt E h))).out x = out at *
 have few : ∀ p ∈ (place.placeL E (base + 8 * i) (res ++ out)).2, own base i p.1 := fun p hp => by
  have := qf2 _ _ p hp
  unfold own
  omega
 have hids := qiv (E := E) (b := base + 8 * i) (U := own base i) (v := .tup (res ++ out)) i1 few
 have hidl : IdsLtL (own base i) (place.placeL E (base + 8 * i) (res ++ out)).1 := hids.1
 have hidr : ∀ p ∈ (place.placeL E (base + 8 * i) (res ++ out)).2, IdsLt (own base i) p.2 := hids.2
 let ρ' : Rho := fun j => if base + 8 * i <= j /\ j < base + 8 * i + 8 then ρ2 j else ρ j
 have eo : ∀ j, own base i j -> ρ' j = ρ2 j := fun j hj => if_pos hj
 have en : ∀ j, ¬ own base i j -> ρ' j = ρ j := fun j hj => if_neg hj
 have eU : ∀ j, U j -> ρ' j = ρ j := fun j hj => en j fun q => hf j q hj
 have hUid : U id := (R.hids _ _ (qan rfl hjid)).1
 have hnone : ∀ bb, holes ρ w (id :: ids) bb = none -> H bb = none := fun bb hb => by
  cases hH : H bb with
  | none => rfl
  | some oo => rw [holes_agree R hJ hH] at hb; cases hb
 have hmem : ∀ p ∈ qbZ (id :: ids) h, p ∈ h /\ p.1 ∉ id :: ids := fun p hp => qlz R.heap.2 hp
 have hkeep : ∀ p ∈ qbZ (id :: ids) h, ∀ {arr t vs}, Lies ρ H w p.1 p.2 arr t vs -> holes ρ w (id :: ids) (ρ p.1).b = some (.cells arr t (0, 0)) := by
  intro p hp arr t vs li'
  obtain ⟨q1, q2⟩ := hmem p hp
  rw [holes_some fun j hj hgj => ?_]
  ·exact li'.blk
  ·have hne : j ≠ p.1 := by rintro rfl; exact q2 hj
   have key : ∀ (l : Heap), l.Pairwise (ApartR ρ) -> ∀ p ∈ l, ∀ q ∈ l, p.1 ≠ q.1 -> ApartR ρ p q := by
    intro l
    induction l with
    | nil => intro _ p hp; cases hp
    | cons x l ih =>
      intro hp p hpm q hqm hne
      rw [List.pairwise_cons] at hp
      rcases List.mem_cons.1 hpm with e | hpm
      · rcases List.mem_cons.1 hqm with e' | hqm
        · rw [e, e'] at hne; exact absurd rfl hne
        · rw [e]; exact hp.1 q hqm
      · rcases List.mem_cons.1 hqm with e' | hqm
        · rw [e']; exact (hp.1 p hpm).symm
        · exact ih hp.2 p hpm q hqm hne
   exact (key h R.heap.2 _ (qan rfl (hJ j hj)) p q1 hne).2 hgj li'.real
 refine ⟨ρ', w', v, n3, hst, en, ?_, ?_, ?_⟩
 ·exact Den.ext eo (fun b o hb => by cases hb) (qlB (qiO _ _ hidl)) d1
 ·exact IdsLt.mono (fun _ => .inr) _ (qlB (qiO _ _ hidl))
 ·refine ⟨R.len, fun j => Den.ext eU (fun _ _ h => h) (R.ids j) (R.den j), fun j => IdsLt.mono (fun _ => .inl) _ (R.ids j), fun j c hc => ?_, fun bb oo hb => n2 bb oo (holes_agree R hJ hb), ⟨fun j c hc => ?_, ?_⟩, R.defers,
   fun g => ⟨Den.ext (t := noId) (fun i h => h.elim) (fun _ _ h => h) (R.glob g).2 (R.glob g).1, (R.glob g).2⟩, R.same.trans n1⟩
  ·rcases (qdx _ _).1 hc with hc | hc
   ·rcases List.mem_cons.1 hc with e | hc
    ·cases e; exact ⟨.inl hUid, IdsLt.mono (fun _ => .inr) (.agg _) (qiP _ _ hidl)⟩
    ·exact ⟨.inr (few _ hc), IdsLt.mono (fun _ => .inr) _ (hidr _ hc)⟩
   ·have := R.hids _ _ (hmem _ hc).1
    exact ⟨.inl this.1, IdsLt.mono (fun _ => .inl) _ this.2⟩
  ·rcases (qdx _ _).1 hc with hc | hc
   ·rcases List.mem_cons.1 hc with e | hc
    ·cases e
     have e := eU id hUid
     refine .inr ⟨arr2, t2, us2, by rw [e]; exact li.real, by rw [e]; exact m1, by rw [e]; exact li.own, ?_, by rw [e]; exact m3, by rw [e]; exact m4, by rw [e]; exact m5⟩
     exact RepC.ext eo (fun b o hb => by cases hb) _ (qiP _ _ hidl) m2
    ·have e := eo _ (few _ hc)
     rcases d2 _ hc with hgh | ⟨arr', t', vs', li'⟩
     ·exact .inl ⟨by rw [e]; exact hgh.1, by rw [e]; exact hgh.2.1, hgh.2.2⟩
     ·exact .inr ⟨arr', t', vs', by rw [e]; exact li'.real, by rw [e]; exact li'.blk, by rw [e]; exact hnone _ (d4 _ hc li'.real).1, Rep.ext eo (fun b o hb => by cases hb) _ (hidr _ hc) li'.rep, by rw [e]; exact li'.room, by rw [e]; exact li'.fits, by rw [e]; exact li'.cells⟩
   ·have q := hmem _ hc
    have hid := R.hids _ _ q.1
    have e := eU _ hid.1
    rcases R.heap.1 j c q.1 with hgh | ⟨arr', t', vs', li'⟩
    ·exact .inl ⟨by rw [e]; exact hgh.1, by rw [e]; exact hgh.2.1, hgh.2.2⟩
    ·refine .inr ⟨arr', t', vs', li'.kept hid.1 hid.2 eU ?_⟩
     rw [n2 _ _ (hkeep _ hc li'), li'.blk]
  ·refine ((qiE _ _).pairwise_iff (R := ApartR ρ') fun h => h.symm).2 ?_
   rw [List.cons_append, List.pairwise_cons, List.pairwise_append]
   have hidn : ¬ own base i id := fun q => hf id q hUid
   refine ⟨fun p hp => ?_, ?_, ?_, fun p hp q hq => ?_⟩
   ·rcases List.mem_append.1 hp with hp1 | hp1
    ·have hp := hp1
     refine ⟨fun e => hidn (by have := few p hp1; rw [show id = p.1 from e]; exact this), fun g1 g2 => ?_⟩
     rw [eo _ (few p hp)] at g2 ⊢
     dsimp only at g1 ⊢
     rw [eU _ hUid]
     exact ((d4 p hp g2).2).symm
    ·have hp := hp1
     have q := hmem p hp1
     have hid := R.hids _ _ q.1
     refine ⟨fun e => q.2 (by rw [<- show id = p.1 from e]; exact List.mem_cons_self ..), fun g1 g2 => ?_⟩
     dsimp only at g1 ⊢
     rw [eU _ hUid] at g1 ⊢
     rw [eU _ hid.1] at g2 ⊢
     rcases R.heap.1 _ _ q.1 with hgh | ⟨arr', t', vs', li'⟩
     ·rw [hgh.1] at g2; cases g2
     ·intro e
      have h1 := hkeep p hp li'
      rw [<- e, holes_none (List.mem_cons_self ..) g1] at h1
      cases h1
   ·refine List.Pairwise.imp_of_mem (fun {p q} hp hq hpq => ?_) d3
    exact ⟨hpq.1, by rw [eo _ (few p hp), eo _ (few q hq)]; exact hpq.2⟩
   ·refine List.Pairwise.imp_of_mem (fun {p q} hp hq hpq => ?_) (R.heap.2.sublist (qly _ _))
    exact ⟨hpq.1, by rw [eU _ (R.hids _ _ (hmem p hp).1).1, eU _ (R.hids _ _ (hmem q hq).1).1]; exact hpq.2⟩
   ·have qm := hmem q hq
    have hid := R.hids _ _ qm.1
    refine ⟨by rintro e; exact hf _ (few p hp) (by rw [e]; exact hid.1), fun g1 g2 => ?_⟩
    rw [eo _ (few p hp)] at g1 ⊢
    rw [eU _ hid.1] at g2 ⊢
    rcases R.heap.1 _ _ qm.1 with hgh | ⟨arr', t', vs', li'⟩
    ·rw [hgh.1] at g2; cases g2
    ·intro e
     have h1 := hkeep q hq li'
     rw [<- e, (d4 p hp g1).1] at h1
     cases h1
end
end Go.Sx
end
section
namespace Go.Sx
def qat (g : Unit -> Bool) (v : SVal) (K : SVal -> Prop) : Prop :=
 match v with
 | .bs b => match g () with
   | true => (b = true -> K (.bl true)) /\ (b = false -> K (.bl false))
   | false => K (.bs b)
 | v => K v
def qE : Code -> Bool
 | .region _ ops true => qiA ops.toList || retB ops.toList
 | .seq a b => qE a && qE b
 | .cond _ a b => qE a && qE b
 | .block _ c => qE c
 | .loop c => qE c
 | .scope c => qE c
 | .rangeFunc _ _ a b => qE a && qE b
 | _ => true
def ItOk : It -> Prop
 | .code c => qE c = true
 | .again c => qE c = true
 | .scp c => qE c = true
 | .rng _ _ _ a b => qE a = true /\ qE b = true
 | _ => True
def Snap.with (H : Snap) (l : Nat) (o : Obj) : Snap := ⟨fun b => if b = l then some o else H b, H.w0, H.defs⟩
def Snap.bare (H : Snap) : Snap := ⟨H.f, H.w0, []⟩
def Snap.marked (H : Snap) (r : Nat) : Snap := ⟨fun b => if b = r then some (.deferred (some [])) else H b, H.w0, { target := .collected r, args := #[] } :: H.defs⟩
inductive Grows : Snap -> Snap -> Prop
 | refl (H : Snap) : Grows H H
 | mark {H H' : Snap} {r : Nat} : Grows H H' -> H' r = none -> Grows H (H'.marked r)
theorem Grows.trans {A B C : Snap} (h : Grows A B) (k : Grows B C) : Grows A C := by
 induction k with
 | refl => exact h
 | mark _ hr ih => exact .mark ih hr
def GrowsIf (k : List It) (H H' : Snap) : Prop := H' = H \/ (qdv k = true /\ Grows H H')
theorem GrowsIf.trans {k : List It} {A B C : Snap} (h : GrowsIf k A B) (g : GrowsIf k B C) : GrowsIf k A C := by
 rcases h with rfl | h
 ·exact g
 ·rcases g with rfl | g
  ·exact .inr h
  ·exact .inr ⟨h.1, h.2.trans g.2⟩
section
variable (P : Program) (E : Env) (Q : SVal -> Heap -> Nat -> Prop) (rs : List ResultVar)
section
variable (G : Machine -> Prop)
def Lays : List It -> Snap -> Rho -> Top -> Nat -> Frame -> List Item -> List Frame -> Prop
 | [], H, ρ, U, t, b, items, cs => items = [] /\ b.roundOf = none /\ ∀ (H' : Snap) (ρ' : Rho) (V : Top) (top : Nat) ts h a w todo, Grows H H' -> (∀ id, U id -> V id /\ ρ' id = ρ id) -> (∀ id, V id -> U id \/ t <= id) -> (∀ id, V id -> id < top) -> Rel E ρ' H' ts h V a w ->
  resB E ts h rs = true -> Q (resS E ts h rs) h top -> G (lone { b.atR a todo with mode := .returning } cs w)
 | .code c :: k, H, ρ, U, t, b, items, cs => ∃ r, items = .code c :: r /\ Lays k H ρ U t b r cs
 | .ops _ base i all l :: k, H, ρ, U, t, b, items, cs => ∃ r, items = .inRegion all.toArray (List.range' i l.length) :: r /\ l = all.drop i /\ base <= t /\
  (∀ j, i <= j -> j < all.length -> ∀ id, own base j id -> ¬ U id /\ id < t) /\ Lays k H ρ U base b r cs
 | .blk id :: k, H, ρ, U, t, b, items, cs => ∃ r, items = .inBlock id :: r /\ Lays k H ρ U t b r cs
 | .scp c :: k, H, ρ, U, t, b, items, cs => ∃ r, items = .inScope c :: r /\ Lays k H ρ U t b r cs
 | .again c :: k, H, ρ, U, t, b, items, cs => ∃ r, items = .inLoop c :: r /\ Lays k H ρ U t b r cs
 | .back J :: k, H, ρ, U, t, b, items, cs => ∃ r c, items = .inLoop c :: r /\ Lays k H ρ U t b r cs /\
  ∀ (H' : Snap) (ρ' : Rho) (V : Top) (top : Nat) ts h a w, GrowsIf k H H' -> (∀ id, U id -> V id /\ ρ' id = ρ id) -> (∀ id, V id -> U id \/ t <= id) -> (∀ id, V id -> id < top) -> Rel E ρ' H' ts h V a w -> J ts h top -> G (lone (b.atR a (.inLoop c :: r)) cs w)
 | .frame ts' d rs' g :: k, H, ρ, U, t, b, items, cs => items = [] /\ b.roundOf = none /\ b.kind = .normal /\ (∃ fn, P.funcs[b.fn]? = some fn /\ fn.results.toList = rs') /\ ∃ H0 b' a' cs' all i l r, H = H0.bare /\ cs = b'.atR a' (.inRegion all (i :: l) :: r) :: cs' /\
  (∃ o, all[i]? = some o /\ o.dst = d) /\ a'.defers = H0.defs /\ ts'.length <= a'.tmps.size /\ (∀ j, Den ρ H0 (getT ts' j) (a'.tmps.getD j undef)) /\ (∀ j, IdsLt U (getT ts' j)) /\
  Lays k H0 ρ U t b' (.inRegion all l :: r) cs'
 | .rng id ts' ps as body :: k, H, ρ, U, t, b, items, cs => items = [] /\ b.roundOf = none /\ b.kind = .normal /\ (∃ fn, P.funcs[b.fn]? = some fn /\ fn.results.toList = []) /\ U id /\ ∃ H0 rec b' a' cs' r, H = (H0.with (ρ id).b (.loop rec)).bare /\
  H0 (ρ id).b = none /\ rec.state = .ready /\ rec.pending = none /\ rec.fn = b'.fn /\ rec.tmps = a'.tmps /\ rec.params = ps.toArray /\ rec.assign = as /\ rec.body = body /\
  cs = b'.atR a' (.inRangeFunc (ρ id).b :: r) :: cs' /\ a'.defers = H0.defs /\ ts'.length <= a'.tmps.size /\ (∀ j, Den ρ H0 (getT ts' j) (a'.tmps.getD j undef)) /\ (∀ j, IdsLt U (getT ts' j)) /\
  Lays k H0 ρ U t b' r cs'
 | .rnd id ts' d :: k, H, ρ, U, t, b, items, cs => items = [] /\ b.roundOf = some (ρ id).b /\ b.kind = .normal /\ U id /\ ∃ H0 rec b' a' cs' all i l r, H = (H0.with (ρ id).b (.loop { rec with state := .busy })).bare /\
  H0 (ρ id).b = some (.loop rec) /\ rec.state = .ready /\ rec.pending = none /\ cs = b'.atR a' (.inRegion all (i :: l) :: r) :: cs' /\
  (∃ o, all[i]? = some o /\ o.dst = d) /\ a'.defers = H0.defs /\ ts'.length <= a'.tmps.size /\ (∀ j, Den ρ H0 (getT ts' j) (a'.tmps.getD j undef)) /\ (∀ j, IdsLt U (getT ts' j)) /\
  Lays k H0 ρ U t b' (.inRegion all l :: r) cs'
 | .sback l J :: k, H, ρ, U, t, b, items, cs => ∃ r c y, items = .inScope c :: r /\ findLabel c l = some (.seq .skip y) /\ Lays k H ρ U t b r cs /\
  ∀ (H' : Snap) (ρ' : Rho) (V : Top) (top : Nat) ts h a w, GrowsIf k H H' -> (∀ id, U id -> V id /\ ρ' id = ρ id) -> (∀ id, V id -> U id \/ t <= id) -> (∀ id, V id -> id < top) -> Rel E ρ' H' ts h V a w -> J ts h top -> G (lone (b.atR a (.code y :: .inScope c :: r)) cs w)
 | .bgn id :: k, H, ρ, U, t, b, items, cs => ∃ r rec, items = .beginRound :: r /\ b.roundOf = some (ρ id).b /\ U id /\ H (ρ id).b = some (.loop rec) /\ rec.state = .ready /\ Lays k (H.with (ρ id).b (.loop { rec with state := .busy })) ρ U t b r cs
end
structure LoopAt (c : Code) (k : List It) (ts : List SVal) (h : Heap) (top : Nat) : Prop where
 run : qE c = true -> (∀ x ∈ k, ItOk x) -> ∀ (G : Machine -> Prop), (∀ m m', Steps P m m' -> G m' -> G m) -> ∀ (H : Snap) (ρ : Rho) (U : Top) a w b r cs, Rel E ρ H ts h U a w -> (∀ id, U id -> id < top) ->
  Lays P E Q rs G k H ρ U top b r cs -> G (lone (b.atR a (.code c :: .inLoop c :: r)) cs w)
structure LabelAt (l : Nat) (y c : Code) (k : List It) (ts : List SVal) (h : Heap) (top : Nat) : Prop where
 run : findLabel c l = some (.seq .skip y) -> qE y = true -> qE c = true -> (∀ x ∈ k, ItOk x) -> ∀ (G : Machine -> Prop), (∀ m m', Steps P m m' -> G m' -> G m) -> ∀ (H : Snap) (ρ : Rho) (U : Top) a w b r cs, Rel E ρ H ts h U a w -> (∀ id, U id -> id < top) ->
  Lays P E Q rs G k H ρ U top b r cs -> G (lone (b.atR a (.code y :: .inScope c :: r)) cs w)
def ex : Nat -> List It -> List SVal -> Heap -> Nat -> Prop
 | 0, _, _, _, _ => False
 | n + 1, k, ts, h, top => match k with
   | [] => match resB E ts h rs with
     | true => Q (resS E ts h rs) h top
     | false => False
   | .blk _ :: k => ex n k ts h top
   | .scp _ :: k => ex n k ts h top
   | .back J :: _ => J ts h top
   | .again c :: k => LoopAt P E Q rs c k ts h top
   | .rng _ ts' _ _ _ :: k => ex n k ts' h top
   | .rnd _ ts' d :: k => ex n k (putD ts' d (.bl true)) h top
   | .bgn _ :: k => ex n k ts h top
   | .sback _ _ :: k => ex n k ts h top
   | .frame ts' d rs' g :: k => match resB E ts h rs' with
     | true => qat (fun _ => g) (resS E ts h rs') fun v => ex n k (putD ts' d v) h top
     | false => False
   | .ops _ _ _ _ [] :: k => ex n k ts h top
   | .ops dr base i all (o :: r) :: k =>
     match qZ all ts o with
     | none => False
     | some false => ex n (.ops dr base (i + 1) all r :: k) (putD ts o.dst (.tup [])) h top
     | some true => match qn E ts h o.op with
       | .bad => False
       | .set v => qat (fun _ => qaH i all) v fun v => ex n (.ops dr base (i + 1) all r :: k) (putD ts o.dst v) h top
       | .setp p v => (∀ u : Unit, p u) /\ qat (fun _ => qaH i all) v fun v => ex n (.ops dr base (i + 1) all r :: k) (putD ts o.dst v) h top
       | .new c v => qat (fun _ => qaH i all) (v (base + 8 * i)) fun v => ex n (.ops dr base (i + 1) all r :: k) (putD ts o.dst v) (insH (base + 8 * i) c h) top
       | .newp p c v => (∀ u : Unit, p u) /\ qat (fun _ => qaH i all) (v (base + 8 * i)) fun v => ex n (.ops dr base (i + 1) all r :: k) (putD ts o.dst v) (insH (base + 8 * i) c h) top
       | .upd id c => ex n (.ops dr base (i + 1) all r :: k) (putD ts o.dst .junk) (updH h id c) top
       | .updp p id c => (∀ u : Unit, p u) /\ ex n (.ops dr base (i + 1) all r :: k) (putD ts o.dst .junk) (updH h id c) top
       | .cpy p v id c => (∀ u : Unit, p u) /\ qat (fun _ => qaH i all) v fun v => ex n (.ops dr base (i + 1) all r :: k) (putD ts o.dst v) (updH h id c) top
       | .call (some p) s => (∀ u : Unit, p u) /\ (Unit -> s.pre) /\ ∀ x : s.X, s.post x -> qat (fun _ => qaH i all) (place E (base + 8 * i) (s.res x)).1 fun v => ex n (.ops dr base (i + 1) all r :: k) (putD ts o.dst v) (qI (place E (base + 8 * i) (s.res x)).2 h) top
       | .call none s => (Unit -> s.pre) /\ ∀ x : s.X, s.post x -> qat (fun _ => qaH i all) (place E (base + 8 * i) (s.res x)).1 fun v => ex n (.ops dr base (i + 1) all r :: k) (putD ts o.dst v) (qI (place E (base + 8 * i) (s.res x)).2 h) top
       | .any p => ∀ q : Bool, (q = true -> p) -> qat (fun _ => qaH i all) (.bs q) fun v => ex n (.ops dr base (i + 1) all r :: k) (putD ts o.dst v) h top
       | .into f args => match dr with
         | true => False
         | false => match E.M f, args with
           | some ms, .ptr id (.l 0) :: rest => match look h id with
             | .agg l => match qcH E h l with
               | some (d, ids) => match uniq (id :: ids) && qbj (id :: ids) rest with
                 | true => (∀ _ : Unit, qds h l /\ qaZ h rest) /\ (Unit -> (ms d (rest.map (qt E h))).pre) /\ ∀ x : (ms d (rest.map (qt E h))).X, (ms d (rest.map (qt E h))).post x ->
                   qat (fun _ => qaH i all) (qcI (qcJ ((ms d (rest.map (qt E h))).res x).length (place.placeL E (base + 8 * i) ((ms d (rest.map (qt E h))).res x ++ (ms d (rest.map (qt E h))).out x)).1)) fun v =>
                     ex n (.ops dr base (i + 1) all r :: k) (putD ts o.dst v) (qI ((id, .agg (qdt ((ms d (rest.map (qt E h))).res x).length (place.placeL E (base + 8 * i) ((ms d (rest.map (qt E h))).res x ++ (ms d (rest.map (qt E h))).out x)).1)) :: (place.placeL E (base + 8 * i) ((ms d (rest.map (qt E h))).res x ++ (ms d (rest.map (qt E h))).out x)).2) (qbZ (id :: ids) h)) top
                 | false => False
               | none => False
             | _ => False
           | _, _ => match E.inl f with
             | some fn => match fn.body with
               | some c => ex n (.code c :: .frame ts o.dst fn.results.toList (qaH i all) :: .ops dr base (i + 1) all r :: k) (args ++ List.replicate (fn.ntmps - args.length) .junk) h top
               | none => False
             | none => False
       | .yld id args => match dr with
         | true => False
         | false => match toRng k with
           | some (id', ts', ps, as, body) => match Nat.beq id id' with
             | true => match qca ts' ps args with
               | some ts2 => ex n (.code as :: .bgn id :: .code body :: .rnd id ts o.dst :: .ops dr base (i + 1) all r :: k) ts2 h top
               | none => False
             | false => False
           | none => False
       | .app es bytes s x => match appS E h es s, appS E h es x, qfK s with
         | some (id, k1, xs, n1), some (_, k2, ys, n2), true => match appK k1 k2 with
           | some kk => (Unit -> (n1.v + n2.v) * bytes <= 140737488355328) /\ (Unit -> aPre h es s /\ aPre h es x) /\
             ∀ cap : Nat, n1.v + n2.v <= cap -> ex n (.ops dr base (i + 1) all r :: k) (putD ts o.dst (.sl (base + 8 * i) es (.l 0) (n1.add E.Ω n2) (.s cap))) (insH (base + 8 * i) (.seq kk (appC E.Ω id xs ys)) (delO id h)) top
           | none => False
         | _, _, _ => match appA h es s, appA h es x with
           | some (id, q1, n1), some (_, q2, n2) => match q1.cat E.Ω q2 with
             | some q => (Unit -> (n1.v + n2.v) * bytes <= 140737488355328) /\ (Unit -> n1.v = q1.len /\ n2.v = q2.len /\ 0 < n2.v) /\
               ∀ cap : Nat, n1.v + n2.v <= cap -> ex n (.ops dr base (i + 1) all r :: k) (putD ts o.dst (.sl (base + 8 * i) es (.l 0) (n1.add E.Ω n2) (.s cap))) (insH (base + 8 * i) (.sab q) (delO id h)) top
             | none => False
           | _, _ => False
   | .code c :: k => match c with
     | .skip => ex n k ts h top
     | .seq a b => ex n (.code a :: .code b :: k) ts h top
     | .region _ ops dr => match (match dr with | true => (match retB ops.toList with | true => qcO ops.toList ts | false => true) | false => true) with
       | true => ex n (.ops dr top 0 ops.toList ops.toList :: k) ts h (top + 8 * ops.size)
       | false => False
     | .cond c x y => match evl E ts c with
       | .bl true => ex n (.code x :: k) ts h top
       | .bl false => ex n (.code y :: k) ts h top
       | .bs b => (b = true -> ex n (.code x :: k) ts h top) /\ (b = false -> ex n (.code y :: k) ts h top)
       | _ => False
     | .block id c => ex n (.code c :: .blk id :: k) ts h top
     | .scope c => ex n (.code c :: .scp c :: k) ts h top
     | .goto l => match popJ l k with
       | some J => J ts h top
       | none => match qaT l k with
         | some k => ex n k ts h top
         | none => False
     | .loop c => LoopAt P E Q rs c k ts h top
     | .exit id => match qa0 id k with
       | some k => ex n k ts h top
       | none => False
     | .label l => match k with
       | .code y :: .scp c :: k' => match qb0 l y with
         | true => findLabel c l = some (.seq .skip y) /\ LabelAt P E Q rs l y c k' ts h top
         | false => ex n k ts h top
       | k => ex n k ts h top
     | .rangeFunc f ps as body => match qdv k with
       | false => False
       | true => match evl E ts f with
         | .fn g first caps => match E.inl g with
           | some fn => match fn.body, fn.results.toList with
             | some c, [] => ex n (.code c :: .rng top ts ps.toList as body :: k) ((first ++ (.yld top :: caps)) ++ List.replicate (fn.ntmps - (first ++ (.yld top :: caps)).length) .junk) h (top + 8)
             | _, _ => False
           | none => False
         | _ => False
     | .ret => match qii k with
       | true => False
       | false => match qdu k with
         | some (ts', d, rs', g, k) => match resB E ts h rs' with
           | true => qat (fun _ => g) (resS E ts h rs') fun v => ex n k (putD ts' d v) h top
           | false => False
         | none => match resB E ts h rs with
           | true => Q (resS E ts h rs) h top
           | false => False
     | _ => False
end
section
variable {P : Program} {E : Env} {Q : SVal -> Heap -> Nat -> Prop} {rs : List ResultVar} {G : Machine -> Prop}
theorem Lays.mono : ∀ {k : List It} {H : Snap} {ρ ρ' : Rho} {U V : Top} {t t' : Nat} {b : Frame} {items : List Item} {cs : List Frame}, Lays P E Q rs G k H ρ U t b items cs ->
  (∀ id, U id -> V id /\ ρ' id = ρ id) -> (∀ id, V id -> U id \/ t <= id) -> t <= t' -> Lays P E Q rs G k H ρ' V t' b items cs
 | [], H, ρ, ρ', U, V, t, t', b, items, cs, h, h1, h2, h3 => by
   refine ⟨h.1, h.2.1, fun H' ρ'' W top ts hp a w todo hg q1 q2 => h.2.2 H' ρ'' W top ts hp a w todo hg (fun id hid => ?_) fun id hid => ?_⟩
   · have := q1 id (h1 id hid).1
     exact ⟨this.1, this.2.trans (h1 id hid).2⟩
   · rcases q2 id hid with q | q
     · exact h2 id q
     · exact .inr (Nat.le_trans h3 q)
 | .code c :: k, H, ρ, ρ', U, V, t, t', b, items, cs, h, h1, h2, h3 => by
   obtain ⟨r, e, h⟩ := h
   exact ⟨r, e, Lays.mono h h1 h2 h3⟩
 | .blk c :: k, H, ρ, ρ', U, V, t, t', b, items, cs, h, h1, h2, h3 => by
   obtain ⟨r, e, h⟩ := h
   exact ⟨r, e, Lays.mono h h1 h2 h3⟩
 | .scp c :: k, H, ρ, ρ', U, V, t, t', b, items, cs, h, h1, h2, h3 => by
   obtain ⟨r, e, h⟩ := h
   exact ⟨r, e, Lays.mono h h1 h2 h3⟩
 | .again c :: k, H, ρ, ρ', U, V, t, t', b, items, cs, h, h1, h2, h3 => by
   obtain ⟨r, e, h⟩ := h
   exact ⟨r, e, Lays.mono h h1 h2 h3⟩
 | .ops dr base i all l :: k, H, ρ, ρ', U, V, t, t', b, items, cs, h, h1, h2, h3 => by
   obtain ⟨r, e, e2, hb, hf, h⟩ := h
   refine ⟨r, e, e2, Nat.le_trans hb h3, fun j h4 h5 id hid => ?_, Lays.mono h h1 (fun id hid => ?_) (Nat.le_refl _)⟩
   · have := hf j h4 h5 id hid
     refine ⟨fun hv => ?_, by omega⟩
     rcases h2 id hv with q | q
     · exact this.1 q
     · omega
   · rcases h2 id hid with q | q
     · exact .inl q
     · exact .inr (Nat.le_trans hb q)
 | .back J :: k, H, ρ, ρ', U, V, t, t', b, items, cs, h, h1, h2, h3 => by
   obtain ⟨r, c, e, h, hJ⟩ := h
   refine ⟨r, c, e, Lays.mono h h1 h2 h3, fun H' ρ'' W top ts hp a w hg q1 q2 => hJ H' ρ'' W top ts hp a w hg (fun id hid => ?_) fun id hid => ?_⟩
   · have := q1 id (h1 id hid).1
     exact ⟨this.1, this.2.trans (h1 id hid).2⟩
   · rcases q2 id hid with q | q
     · exact h2 id q
     · exact .inr (Nat.le_trans h3 q)
 | .sback l J :: k, H, ρ, ρ', U, V, t, t', b, items, cs, h, h1, h2, h3 => by
   obtain ⟨r, c, y, e, ef, h, hJ⟩ := h
   refine ⟨r, c, y, e, ef, Lays.mono h h1 h2 h3, fun H' ρ'' W top ts hp a w hg q1 q2 => hJ H' ρ'' W top ts hp a w hg (fun id hid => ?_) fun id hid => ?_⟩
   · have := q1 id (h1 id hid).1
     exact ⟨this.1, this.2.trans (h1 id hid).2⟩
   · rcases q2 id hid with q | q
     · exact h2 id q
     · exact .inr (Nat.le_trans h3 q)
 | .frame ts' d rs' g :: k, H, ρ, ρ', U, V, t, t', b, items, cs, h, h1, h2, h3 => by
   obtain ⟨e, hro, hk, hfn, H0, b', a', cs', all, i, l, r, eH, e2, ho, hd, hl, hden, hid, h⟩ := h
   exact ⟨e, hro, hk, hfn, H0, b', a', cs', all, i, l, r, eH, e2, ho, hd, hl, fun j => Den.ext (fun id q => (h1 id q).2) (fun _ _ h => h) (hid j) (hden j), fun j => IdsLt.mono (fun id q => (h1 id q).1) _ (hid j), Lays.mono h h1 h2 h3⟩
 | .rng id ts' ps as body :: k, H, ρ, ρ', U, V, t, t', b, items, cs, h, h1, h2, h3 => by
   obtain ⟨e, hro, hk, hfn, hU, H0, rec, b', a', cs', r, eH, p1, p2, p3, p4, p5, p6, p7, p8, e2, hd, hl, hden, hid, h⟩ := h
   have eρ := (h1 id hU).2
   refine ⟨e, hro, hk, hfn, (h1 id hU).1, H0, rec, b', a', cs', r, ?_, ?_, p2, p3, p4, p5, p6, p7, p8, ?_, hd, hl, fun j => Den.ext (fun id q => (h1 id q).2) (fun _ _ h => h) (hid j) (hden j), fun j => IdsLt.mono (fun id q => (h1 id q).1) _ (hid j), Lays.mono h h1 h2 h3⟩
   · rw [eρ]; exact eH
   · rw [eρ]; exact p1
   · rw [eρ]; exact e2
 | .rnd id ts' d :: k, H, ρ, ρ', U, V, t, t', b, items, cs, h, h1, h2, h3 => by
   obtain ⟨e, hro, hk, hU, H0, rec, b', a', cs', all, i, l, r, eH, p1, p2, p3, e2, ho, hd, hl, hden, hid, h⟩ := h
   have eρ := (h1 id hU).2
   refine ⟨e, ?_, hk, (h1 id hU).1, H0, rec, b', a', cs', all, i, l, r, ?_, ?_, p2, p3, e2, ho, hd, hl, fun j => Den.ext (fun id q => (h1 id q).2) (fun _ _ h => h) (hid j) (hden j), fun j => IdsLt.mono (fun id q => (h1 id q).1) _ (hid j), Lays.mono h h1 h2 h3⟩
   · rw [eρ]; exact hro
   · rw [eρ]; exact eH
   · rw [eρ]; exact p1
 | .bgn id :: k, H, ρ, ρ', U, V, t, t', b, items, cs, h, h1, h2, h3 => by
   obtain ⟨r, rec, e, hro, hU, p1, p2, h⟩ := h
   have eρ := (h1 id hU).2
   refine ⟨r, rec, e, ?_, (h1 id hU).1, ?_, p2, ?_⟩
   · rw [eρ]; exact hro
   · rw [eρ]; exact p1
   · rw [eρ]; exact Lays.mono h h1 h2 h3
theorem Lays.growIf {k : List It} {H H' : Snap} {ρ : Rho} {U : Top} {t : Nat} {b : Frame} {items : List Item} {cs : List Frame} (hg : GrowsIf k H H') (grow : qdv k = true -> Grows H H' -> Lays P E Q rs G k H' ρ U t b items cs) (h : Lays P E Q rs G k H ρ U t b items cs) : Lays P E Q rs G k H' ρ U t b items cs := by
 rcases hg with rfl | ⟨hf, hg⟩
 ·exact h
 ·exact grow hf hg
theorem Lays.grow : ∀ {k : List It} {H H' : Snap} {ρ : Rho} {U : Top} {t : Nat} {b : Frame} {items : List Item} {cs : List Frame}, qdv k = true -> Grows H H' -> Lays P E Q rs G k H ρ U t b items cs -> Lays P E Q rs G k H' ρ U t b items cs
 | [], H, H', ρ, U, t, b, items, cs, hf, hg, h => ⟨h.1, h.2.1, fun H'' ρ'' W top ts hp a w todo hg' => h.2.2 H'' ρ'' W top ts hp a w todo (hg.trans hg')⟩
 | .code c :: k, H, H', ρ, U, t, b, items, cs, hf, hg, h => by
   obtain ⟨r, e, h⟩ := h
   exact ⟨r, e, Lays.grow hf hg h⟩
 | .blk c :: k, H, H', ρ, U, t, b, items, cs, hf, hg, h => by
   obtain ⟨r, e, h⟩ := h
   exact ⟨r, e, Lays.grow hf hg h⟩
 | .scp c :: k, H, H', ρ, U, t, b, items, cs, hf, hg, h => by
   obtain ⟨r, e, h⟩ := h
   exact ⟨r, e, Lays.grow hf hg h⟩
 | .again c :: k, H, H', ρ, U, t, b, items, cs, hf, hg, h => by
   obtain ⟨r, e, h⟩ := h
   exact ⟨r, e, Lays.grow hf hg h⟩
 | .ops dr base i all l :: k, H, H', ρ, U, t, b, items, cs, hf, hg, h => by
   obtain ⟨r, e, e2, hb, hff, h⟩ := h
   exact ⟨r, e, e2, hb, hff, Lays.grow hf hg h⟩
 | .back J :: k, H, H', ρ, U, t, b, items, cs, hf, hg, h => by
   obtain ⟨r, c, e, h, hJ⟩ := h
   exact ⟨r, c, e, Lays.grow hf hg h, fun H'' ρ'' W top ts hp a w hg' => hJ H'' ρ'' W top ts hp a w (GrowsIf.trans (.inr ⟨hf, hg⟩) hg')⟩
 | .sback l J :: k, H, H', ρ, U, t, b, items, cs, hf, hg, h => by
   obtain ⟨r, c, y, e, ef, h, hJ⟩ := h
   exact ⟨r, c, y, e, ef, Lays.grow hf hg h, fun H'' ρ'' W top ts hp a w hg' => hJ H'' ρ'' W top ts hp a w (GrowsIf.trans (.inr ⟨hf, hg⟩) hg')⟩
 | .frame .. :: _, _, _, _, _, _, _, _, _, hf, _, _ => by cases hf
 | .rng .. :: _, _, _, _, _, _, _, _, _, hf, _, _ => by cases hf
 | .rnd .. :: _, _, _, _, _, _, _, _, _, hf, _, _ => by cases hf
 | .bgn _ :: _, _, _, _, _, _, _, _, _, hf, _, _ => by cases hf
theorem qcQ {all : List Oper} {i : Nat} {v : SVal} {K : SVal -> Prop} (h : qat (fun _ => qaH i all) v K) : K (gd all i v) := by
 cases v
 case bs b =>
  simp only [qat] at h
  simp only [gd]
  cases hg : qaH i all with
  | true =>
    simp only [hg] at h
    cases b
    · exact h.2 rfl
    · exact h.1 rfl
  | false =>
    simp only [hg] at h
    exact h
 all_goals exact h
theorem ex_T (hE : EnvG P E) {n : Nat} {dr : Bool} {base i : Nat} {all r : List Oper} {o : Oper} {k : List It} {ts : List SVal} {h : Heap} {top : Nat} (ho : all[i]? = some o)
  (hx : ex P E Q rs (n + 1) (.ops dr base i all (o :: r) :: k) ts h top) :
  T E all base i (fun ts' h' => ex P E Q rs n (.ops dr base (i + 1) all r :: k) ts' h' top) ts h \/
  (dr = false /\ qZ all ts o = some true /\ ∃ f args fn c, qn E ts h o.op = .into f args /\ E.inl f = some fn /\ fn.body = some c /\
   ex P E Q rs n (.code c :: .frame ts o.dst fn.results.toList (qaH i all) :: .ops dr base (i + 1) all r :: k) (args ++ List.replicate (fn.ntmps - args.length) .junk) h top) \/
  (dr = false /\ qZ all ts o = some true /\ ∃ id args ts' ps as body ts2, qn E ts h o.op = .yld id args /\ toRng k = some (id, ts', ps, as, body) /\ qca ts' ps args = some ts2 /\
   ex P E Q rs n (.code as :: .bgn id :: .code body :: .rnd id ts o.dst :: .ops dr base (i + 1) all r :: k) ts2 h top) \/
  (dr = false /\ qZ all ts o = some true /\ ∃ f ms id rest l d ids, qn E ts h o.op = .into f (.ptr id (.l 0) :: rest) /\ E.M f = some ms /\ look h id = .agg l /\ qcH E h l = some (d, ids) /\ uniq (id :: ids) = true /\ qbj (id :: ids) rest = true /\ qds h l /\ qaZ h rest /\
   (ms d (rest.map (qt E h))).pre /\ ∀ x, (ms d (rest.map (qt E h))).post x ->
    qat (fun _ => qaH i all) (qcI (qcJ ((ms d (rest.map (qt E h))).res x).length (place.placeL E (base + 8 * i) ((ms d (rest.map (qt E h))).res x ++ (ms d (rest.map (qt E h))).out x)).1)) fun v =>
     ex P E Q rs n (.ops dr base (i + 1) all r :: k) (putD ts o.dst v) (qI ((id, .agg (qdt ((ms d (rest.map (qt E h))).res x).length (place.placeL E (base + 8 * i) ((ms d (rest.map (qt E h))).res x ++ (ms d (rest.map (qt E h))).out x)).1)) :: (place.placeL E (base + 8 * i) ((ms d (rest.map (qt E h))).res x ++ (ms d (rest.map (qt E h))).out x)).2) (qbZ (id :: ids) h)) top) := by
 simp only [ex] at hx
 have key : ∀ N, nfg E all base i o ts h = some N -> N.pre -> (∃ x, N.post x) -> (∀ x, N.post x -> ex P E Q rs n (.ops dr base (i + 1) all r :: k) (putD ts o.dst (N.v x)) (qI (N.l x) h) top) ->
   T E all base i (fun ts' h' => ex P E Q rs n (.ops dr base (i + 1) all r :: k) ts' h' top) ts h := by
  intro N h1 h2 h3 h4
  exact T_of ho h1 h2 h3 h4
 have wkey : ∀ {out}, qn E ts h o.op = out -> qZ all ts o = some true -> nf E (base + 8 * i) out = none -> wrT E all base i o (fun ts' h' => ex P E Q rs n (.ops dr base (i + 1) all r :: k) ts' h' top) ts h out ->
   T E all base i (fun ts' h' => ex P E Q rs n (.ops dr base (i + 1) all r :: k) ts' h' top) ts h := by
  intro out h1 h2 h3 h4
  unfold T
  simp only [ho, nfg, h1, h2, h3]
  exact h4
 split at hx
 ·exact hx.elim
 ·rename_i hg
  exact .inl (key ⟨True, Unit, fun _ => True, fun _ => .tup [], fun _ => []⟩ (by simp only [nfg, hg]) trivial ⟨(), trivial⟩ fun x _ => hx)
 ·rename_i hg
  generalize hs : qn E ts h o.op = out at hx
  cases out <;> try dsimp only at hx
  case set v => exact .inl (key _ (by simp only [nfg, hg, hs, nf]; rfl) trivial ⟨(), trivial⟩ fun x _ => qcQ (all := all) (i := i) hx)
  case setp p v => exact .inl (key _ (by simp only [nfg, hg, hs, nf]; rfl) hx.1 ⟨(), trivial⟩ fun x _ => qcQ (all := all) (i := i) hx.2)
  case new c mk => exact .inl (key _ (by simp only [nfg, hg, hs, nf]; rfl) trivial ⟨(), trivial⟩ fun x _ => qcQ (all := all) (i := i) hx)
  case newp p c mk => exact .inl (key _ (by simp only [nfg, hg, hs, nf]; rfl) hx.1 ⟨(), trivial⟩ fun x _ => qcQ (all := all) (i := i) hx.2)
  case upd id c => exact .inl (wkey hs hg rfl hx)
  case updp p id c => exact .inl (wkey hs hg rfl hx)
  case cpy p v id c => exact .inl (wkey hs hg rfl ⟨hx.1, qcQ (all := all) (i := i) hx.2⟩)
  case call p s =>
   obtain ⟨g, s0, args, hg0, rfl⟩ := qk2 hs
   have hx' : (∀ q, p = some q -> ∀ u, q u) /\ (s0 args).pre /\ ∀ x, (s0 args).post x -> qat (fun _ => qaH i all) (place E (base + 8 * i) ((s0 args).res x)).1 fun v => ex P E Q rs n (.ops dr base (i + 1) all r :: k) (putD ts o.dst v) (qI (place E (base + 8 * i) ((s0 args).res x)).2 h) top := by
    cases p with
    | none => exact ⟨nofun, hx.1 (), hx.2⟩
    | some q => exact ⟨(fun q' h => by cases h; exact hx.1), hx.2.1 (), hx.2.2⟩
   exact .inl (key ⟨(∀ q, p = some q -> ∀ u, q u) /\ (s0 args).pre, (s0 args).X, (s0 args).post, fun x => gd all i (place E (base + 8 * i) ((s0 args).res x)).1, fun x => (place E (base + 8 * i) ((s0 args).res x)).2⟩ (by simp only [nfg, hg, hs, nf]) ⟨hx'.1, hx'.2.1⟩ (hE.some_x g s0 args hg0 hx'.2.1) fun x hpx => qcQ (all := all) (i := i) (hx'.2.2 x hpx))
  case any p => exact .inl (key _ (by simp only [nfg, hg, hs, nf]; rfl) trivial ⟨false, fun h => Bool.noConfusion h⟩ fun x hpx => qcQ (all := all) (i := i) (hx x hpx))
  case into f args =>
   split at hx <;> try (exact hx.elim)
   split at hx
   ·rename_i ms id rest hM
    split at hx <;> try (exact hx.elim)
    rename_i l hl
    split at hx <;> try (exact hx.elim)
    rename_i d ids hd
    split at hx <;> try (exact hx.elim)
    rename_i hu
    simp only [Bool.and_eq_true] at hu
    exact .inr (.inr (.inr ⟨rfl, hg, f, ms, id, rest, l, d, ids, rfl, hM, hl, hd, hu.1, hu.2, (hx.1 ()).1, (hx.1 ()).2, hx.2.1 (), hx.2.2⟩))
   ·split at hx <;> try (exact hx.elim)
    rename_i fn hfn
    split at hx <;> try (exact hx.elim)
    rename_i c hc
    exact .inr (.inl ⟨rfl, hg, f, _, fn, c, rfl, hfn, hc, hx⟩)
  case yld id args =>
   split at hx <;> try (exact hx.elim)
   split at hx <;> try (exact hx.elim)
   rename_i id' ts' ps as body hr
   split at hx <;> try (exact hx.elim)
   rename_i hb
   have := Nat.eq_of_beq_eq_true hb
   subst this
   split at hx <;> try (exact hx.elim)
   rename_i ts2 hp
   exact .inr (.inr (.inl ⟨rfl, hg, id, args, ts', ps, as, body, ts2, rfl, hr, hp, hx⟩))
  case app es bytes s x =>
   refine .inl (wkey hs hg rfl ?_)
   simp only [wrT]
   split at hx
   rotate_left
   ·rename_i hne
    split
    ·rename_i h1 h2 h3
     exact (hne _ _ _ _ _ _ _ _ h1 h2 h3).elim
    split at hx <;> try (exact hx.elim)
    rename_i h1 h2
    simp only [h1, h2]
    split at hx <;> try (exact hx.elim)
    rename_i q h4
    simp only [h4]
    exact ⟨⟨hx.1 (), hx.2.1 ()⟩, hx.2.2⟩
   rename_i h1 h2 h3
   simp only [h1, h2, h3]
   split at hx <;> try (exact hx.elim)
   rename_i kk h4
   simp only [h4]
   exact ⟨⟨hx.1 (), hx.2.1 ()⟩, hx.2.2⟩
end
end Go.Sx
end
section
namespace Go.Sx
inductive All2 {α β : Type} (R : α -> β -> Prop) : List α -> List β -> Prop
 | nil : All2 R [] []
 | cons {x : α} {y : β} {l : List α} {m : List β} : R x y -> All2 R l m -> All2 R (x :: l) (y :: m)
def resF (a : Act) (r : ResultVar) : Sem Value :=
 match r with
 | .tmp t => pure (a.tmps.getD t undef)
 | .cell ad t => do loadVar t (<- asAddr (a.tmps.getD ad undef))
section
variable {P : Program} {E : Env} {ρ : Rho} {H : Snap} {ts : List SVal} {h : Heap} {U : Top} {a : Act} {w : World}
theorem qlC {α : Type} (f : α -> Sem Value) (R : α -> Value -> Prop) (w : World) : ∀ (l : List α), (∀ x ∈ l, ∃ v, (f x).run P w = .ok v w /\ R x v) ->
  ∃ vs, (l.mapM f).run P w = .ok vs w /\ All2 R l vs
 | [], _ => ⟨[], rfl, .nil⟩
 | x :: l, hl => by
   obtain ⟨v, h1, h2⟩ := hl x (List.mem_cons_self ..)
   obtain ⟨vs, h3, h4⟩ := qlC f R w l fun y hy => hl y (List.mem_cons_of_mem _ hy)
   exact ⟨v :: vs, by simp [List.mapM_cons, h1, h3], .cons h2 h4⟩
variable (hE : EnvOk P E)
include hE
theorem qpT (R : Rel E ρ H ts h U a w) {r : ResultVar} (hr : resB E ts h [r] = true) :
  ∃ v, (resF a r).run P w = .ok v w /\ Den ρ H (resV E ts h r) v /\ IdsLt U (resV E ts h r) := by
 cases r with
 | tmp t => exact ⟨_, rfl, R.den t, R.ids t⟩
 | cell ad t =>
   simp only [resB] at hr
   split at hr <;> try (cases hr; done)
   rename_i ti ht
   split at hr <;> try (cases hr; done)
   rename_i id o hp
   simp only [Bool.and_true] at hr
   have hty := hE.ty t ti ht
   have hd := R.den ad
   rw [hp] at hd
   simp only [Den, Rep, List.cons.injEq, and_true, SN.v] at hd
   have hj : look h id ≠ .junk := by intro e; rw [e] at hr; simp [qaR] at hr
   simp only [resV, ht, hp]
   rcases R.lies hj with hg | ⟨arr, te, vs, li⟩
   · obtain ⟨_, _, k, hk⟩ := hg
     rw [hk] at hr
     simp [qaR] at hr
   · have hl := qcK li.rep hr hty.pos
     obtain ⟨v, h1, h2, h3⟩ := qfP (P := P) hty (w := w) (b := (ρ id).b) (o := (ρ id).o) li.cell hl
     refine ⟨v, ?_, qef hE.om _ o ti.size ti.agg li.rep hl hty.one v h2 h3, qbI _ _ _ _ (R.lids id)⟩
     show (asAddr (a.tmps.getD ad undef) >>= fun x => loadVar t x).run P w = _
     rw [hd]
     simpa [asAddr] using h1
theorem qiQ (R : Rel E ρ H ts h U a w) {fn : Func} {rs : List ResultVar} (hf : fn.results.toList = rs) (hr : resB E ts h rs = true) :
  ∃ v, (results fn a.tmps).run P w = .ok v w /\ Den ρ H (resS E ts h rs) v /\ IdsLt U (resS E ts h rs) := by
 have hall : ∀ (l : List ResultVar), resB E ts h l = true -> ∀ r ∈ l, resB E ts h [r] = true := by
  intro l
  induction l with
  | nil => intro _ r hr; cases hr
  | cons x l ih =>
    intro hl r hr
    cases x with
    | tmp t =>
      simp only [resB] at hl
      rcases List.mem_cons.1 hr with rfl | hr
      · rfl
      · exact ih hl r hr
    | cell ad t =>
      simp only [resB] at hl
      split at hl <;> try (cases hl; done)
      rename_i ti ht
      split at hl <;> try (cases hl; done)
      rename_i id o hp
      simp only [Bool.and_eq_true] at hl
      rcases List.mem_cons.1 hr with rfl | hr
      · simp only [resB, ht, hp, hl.1, Bool.and_self]
      · exact ih hl.2 r hr
 obtain ⟨vs, h1, h2⟩ := qlC (P := P) (resF a)
  (fun r v => Den ρ H (resV E ts h r) v /\ IdsLt U (resV E ts h r)) w rs fun r hr' => qpT hE R (hall rs hr r hr')
 have hm : (fn.results.mapM (resF a)).run P w = .ok vs.toArray w := by
  rw [Array.mapM_eq_mapM_toList, hf, Sem.run_map, h1]
  rfl
 have hrun : (results fn a.tmps).run P w = .ok (if h : vs.toArray.size = 1 then vs.toArray[0] else .tuple vs.toArray) w := by
  show ((fn.results.mapM (resF a)) >>= fun vs => pure (if h : vs.size = 1 then vs[0] else Value.tuple vs)).run P w = _
  rw [Sem.run_bind, hm]
  rfl
 refine ⟨_, hrun, ?_⟩
 cases h2 with
 | nil => exact ⟨by simp [resS, Den, Rep, RepV], trivial⟩
 | cons h3 h4 =>
   cases h4 with
   | nil => simpa [resS] using h3
   | cons h5 h6 =>
     rename_i x v y u l us
     have rep : ∀ {l : List ResultVar} {vs : List Value}, All2 (fun r v => Den ρ H (resV E ts h r) v /\ IdsLt U (resV E ts h r)) l vs -> RepV ρ H (l.map (resV E ts h)) vs /\ IdsLtL U (l.map (resV E ts h)) := by
       intro l vs hh
       induction hh with
       | nil => exact ⟨rfl, trivial⟩
       | cons q1 q2 ih => exact ⟨RepV_cons.2 ⟨_, _, rfl, q1.1, ih.1⟩, ⟨q1.2, ih.2⟩⟩
     have := rep (.cons h3 (.cons h5 h6))
     refine ⟨?_, this.2⟩
     simp only [resS, Den, Rep]
     exact ⟨_, by simp, this.1⟩
end
end Go.Sx
end
section
namespace Go.Sx
section
variable {E : Env} {all : List Oper} {base : Nat}
theorem qlD {i : Nat} {K K' : Kt} {ts : List SVal} {h : Heap} (hT : T E all base i K ts h) (hK : ∀ ts' h', K ts' h' -> K' ts' h') : T E all base i K' ts h := by
 unfold T at hT ⊢
 split
 ·rename_i h1; simp only [h1] at hT
 ·rename_i o h1
  simp only [h1] at hT
  split
  ·rename_i N hN
   simp only [hN] at hT
   exact ⟨hT.1, hT.2.1, fun x hx => hK _ _ (hT.2.2 x hx)⟩
  ·rename_i hN
   simp only [hN] at hT
   split
   ·rename_i hg
    simp only [hg] at hT
    generalize qn E ts h o.op = out at hT
    cases out <;> simp only [wrT] at hT ⊢
    case upd => exact hK _ _ hT
    case updp => exact ⟨hT.1, hK _ _ hT.2⟩
    case cpy => exact ⟨hT.1, hK _ _ hT.2⟩
    case app =>
     split at hT
     ·split at hT <;> try (exact hT.elim)
      exact ⟨hT.1, fun cap hc => hK _ _ (hT.2 cap hc)⟩
     ·split at hT <;> try (exact hT.elim)
      split at hT <;> try (exact hT.elim)
      exact ⟨hT.1, fun cap hc => hK _ _ (hT.2 cap hc)⟩
   ·rename_i hg
    cases hg' : qZ all ts o with
    | none => simp only [hg'] at hT
    | some b => cases b with
      | false => simp only [hg'] at hT
      | true => exact absurd hg' hg
end
section
variable {P : Program} {E : Env} {Q : SVal -> Heap -> Nat -> Prop} {rs : List ResultVar} {G : Machine -> Prop} {H : Snap}
theorem Lays.exit {id : Nat} : ∀ {k k' : List It} {ρ : Rho} {U : Top} {t : Nat} {b : Frame} {items : List Item} {cs : List Frame}, qa0 id k = some k' -> Lays P E Q rs G k H ρ U t b items cs ->
  ∃ items', exitTo id items = some items' /\ Lays P E Q rs G k' H ρ U t b items' cs
 | [], k', ρ, U, t, b, items, cs, hp, h => by simp [qa0] at hp
 | .code c :: k, k', ρ, U, t, b, items, cs, hp, h => by
   obtain ⟨r, rfl, h⟩ := h
   obtain ⟨items', h1, h2⟩ := Lays.exit (k := k) (items := r) hp h
   exact ⟨items', by simpa [exitTo] using h1, h2⟩
 | .again c :: k, k', ρ, U, t, b, items, cs, hp, h => by
   obtain ⟨r, rfl, h⟩ := h
   obtain ⟨items', h1, h2⟩ := Lays.exit (k := k) (items := r) hp h
   exact ⟨items', by simpa [exitTo] using h1, h2⟩
 | .scp c :: k, k', ρ, U, t, b, items, cs, hp, h => by
   obtain ⟨r, rfl, h⟩ := h
   obtain ⟨items', h1, h2⟩ := Lays.exit (k := k) (items := r) hp h
   exact ⟨items', by simpa [exitTo] using h1, h2⟩
 | .back J :: k, k', ρ, U, t, b, items, cs, hp, h => by
   obtain ⟨r, c, rfl, h, _⟩ := h
   obtain ⟨items', h1, h2⟩ := Lays.exit (k := k) (items := r) hp h
   exact ⟨items', by simpa [exitTo] using h1, h2⟩
 | .ops dr base i all l :: k, k', ρ, U, t, b, items, cs, hp, h => by
   obtain ⟨r, rfl, _, hb, _, h⟩ := h
   obtain ⟨items', h1, h2⟩ := Lays.exit (k := k) (items := r) hp (Lays.mono h (fun id hid => ⟨hid, rfl⟩) (fun id hid => .inl hid) hb)
   exact ⟨items', by simpa [exitTo] using h1, h2⟩
 | .sback l J :: k, k', ρ, U, t, b, items, cs, hp, h => by
   obtain ⟨r, c, y, rfl, _, h, _⟩ := h
   obtain ⟨items', h1, h2⟩ := Lays.exit (k := k) (items := r) hp h
   exact ⟨items', by simpa [exitTo] using h1, h2⟩
 | .frame .. :: k, k', ρ, U, t, b, items, cs, hp, h => by simp [qa0] at hp
 | .rng .. :: k, k', ρ, U, t, b, items, cs, hp, h => by simp [qa0] at hp
 | .rnd .. :: k, k', ρ, U, t, b, items, cs, hp, h => by simp [qa0] at hp
 | .bgn _ :: k, k', ρ, U, t, b, items, cs, hp, h => by simp [qa0] at hp
 | .blk j :: k, k', ρ, U, t, b, items, cs, hp, h => by
   obtain ⟨r, rfl, h⟩ := h
   simp only [qa0] at hp
   split at hp
   · rename_i hb
     have := Nat.eq_of_beq_eq_true hb
     subst this
     cases hp
     exact ⟨r, by simp [exitTo], h⟩
   · rename_i hb
     obtain ⟨items', h1, h2⟩ := Lays.exit (k := k) hp h
     refine ⟨items', ?_, h2⟩
     have : (j == id) = false := by
       rw [beq_eq_false_iff_ne]
       rintro rfl
       rw [Nat.beq_refl] at hb
       cases hb
     simp [exitTo, this, h1]
theorem qpU : ∀ {c r : Code} {l : Nat}, findLabel c l = some r -> qE c = true -> qE r = true := by
 intro c
 induction c with
 | seq a b iha ihb =>
   intro r l h hr
   simp only [qE, Bool.and_eq_true] at hr
   simp only [findLabel] at h
   split at h
   · rename_i rest hq
     cases h
     simp only [qE, Bool.and_eq_true]
     exact ⟨iha hq hr.1, hr.2⟩
   · exact ihb h hr.2
 | label l' =>
   intro r l h hr
   simp only [findLabel] at h
   split at h
   · cases h; rfl
   · cases h
 | _ => intro r l h hr; simp [findLabel] at h
theorem Lays.goto {l : Nat} : ∀ {k k' : List It} {ρ : Rho} {U : Top} {t : Nat} {b : Frame} {items : List Item} {cs : List Frame}, qaT l k = some k' -> Lays P E Q rs G k H ρ U t b items cs ->
  ∃ items', gotoIn l items = some items' /\ Lays P E Q rs G k' H ρ U t b items' cs
 | [], k', ρ, U, t, b, items, cs, hp, h => by simp [qaT] at hp
 | .code c :: k, k', ρ, U, t, b, items, cs, hp, h => by
   obtain ⟨r, rfl, h⟩ := h
   obtain ⟨items', h1, h2⟩ := Lays.goto (k := k) (items := r) hp h
   exact ⟨items', by simpa [gotoIn] using h1, h2⟩
 | .again c :: k, k', ρ, U, t, b, items, cs, hp, h => by
   obtain ⟨r, rfl, h⟩ := h
   obtain ⟨items', h1, h2⟩ := Lays.goto (k := k) (items := r) hp h
   exact ⟨items', by simpa [gotoIn] using h1, h2⟩
 | .blk c :: k, k', ρ, U, t, b, items, cs, hp, h => by
   obtain ⟨r, rfl, h⟩ := h
   obtain ⟨items', h1, h2⟩ := Lays.goto (k := k) (items := r) hp h
   exact ⟨items', by simpa [gotoIn] using h1, h2⟩
 | .back J :: k, k', ρ, U, t, b, items, cs, hp, h => by
   obtain ⟨r, c, rfl, h, _⟩ := h
   obtain ⟨items', h1, h2⟩ := Lays.goto (k := k) (items := r) hp h
   exact ⟨items', by simpa [gotoIn] using h1, h2⟩
 | .ops dr base i all ll :: k, k', ρ, U, t, b, items, cs, hp, h => by
   obtain ⟨r, rfl, _, hb, _, h⟩ := h
   obtain ⟨items', h1, h2⟩ := Lays.goto (k := k) (items := r) hp (Lays.mono h (fun id hid => ⟨hid, rfl⟩) (fun id hid => .inl hid) hb)
   exact ⟨items', by simpa [gotoIn] using h1, h2⟩
 | .sback l J :: k, k', ρ, U, t, b, items, cs, hp, h => by
   simp only [qaT] at hp
   split at hp <;> cases hp
 | .frame .. :: k, k', ρ, U, t, b, items, cs, hp, h => by simp [qaT] at hp
 | .rng .. :: k, k', ρ, U, t, b, items, cs, hp, h => by simp [qaT] at hp
 | .rnd .. :: k, k', ρ, U, t, b, items, cs, hp, h => by simp [qaT] at hp
 | .bgn _ :: k, k', ρ, U, t, b, items, cs, hp, h => by simp [qaT] at hp
 | .scp c :: k, k', ρ, U, t, b, items, cs, hp, h => by
   obtain ⟨r, rfl, h⟩ := h
   simp only [qaT] at hp
   split at hp
   · rename_i rest hq
     cases hp
     exact ⟨_, by simp [gotoIn, hq], _, rfl, _, rfl, h⟩
   · rename_i hq
     obtain ⟨items', h1, h2⟩ := Lays.goto (k := k) hp h
     exact ⟨items', by simp [gotoIn, hq, h1], h2⟩
theorem Lays.jump {l : Nat} {J : List SVal -> Heap -> Nat -> Prop} : ∀ {k : List It} {ρ : Rho} {U : Top} {t : Nat} {b : Frame} {items : List Item} {cs : List Frame}, popJ l k = some J -> Lays P E Q rs G k H ρ U t b items cs ->
  ∃ y c r, gotoIn l items = some (.code (.seq .skip y) :: .inScope c :: r) /\ ∀ (V : Top) (top : Nat) ts h a w, (∀ id, U id -> V id) -> (∀ id, V id -> U id \/ t <= id) -> (∀ id, V id -> id < top) -> Rel E ρ H ts h V a w -> J ts h top -> G (lone (b.atR a (.code y :: .inScope c :: r)) cs w)
 | [], ρ, U, t, b, items, cs, hp, h => by simp [popJ] at hp
 | .code c :: k, ρ, U, t, b, items, cs, hp, h => by
   obtain ⟨r, rfl, h⟩ := h
   obtain ⟨y, c, r', h1, h2⟩ := Lays.jump (k := k) (items := r) hp h
   exact ⟨y, c, r', by simpa [gotoIn] using h1, h2⟩
 | .again c :: k, ρ, U, t, b, items, cs, hp, h => by
   obtain ⟨r, rfl, h⟩ := h
   obtain ⟨y, c, r', h1, h2⟩ := Lays.jump (k := k) (items := r) hp h
   exact ⟨y, c, r', by simpa [gotoIn] using h1, h2⟩
 | .blk c :: k, ρ, U, t, b, items, cs, hp, h => by
   obtain ⟨r, rfl, h⟩ := h
   obtain ⟨y, c, r', h1, h2⟩ := Lays.jump (k := k) (items := r) hp h
   exact ⟨y, c, r', by simpa [gotoIn] using h1, h2⟩
 | .back J :: k, ρ, U, t, b, items, cs, hp, h => by
   obtain ⟨r, c, rfl, h, _⟩ := h
   obtain ⟨y, c, r', h1, h2⟩ := Lays.jump (k := k) (items := r) hp h
   exact ⟨y, c, r', by simpa [gotoIn] using h1, h2⟩
 | .ops dr base i all ll :: k, ρ, U, t, b, items, cs, hp, h => by
   obtain ⟨r, rfl, _, hb, _, h⟩ := h
   obtain ⟨y, c, r', h1, h2⟩ := Lays.jump (k := k) (items := r) hp (Lays.mono h (fun id hid => ⟨hid, rfl⟩) (fun id hid => .inl hid) hb)
   exact ⟨y, c, r', by simpa [gotoIn] using h1, h2⟩
 | .sback l' J' :: k, ρ, U, t, b, items, cs, hp, h => by
   obtain ⟨r, c, y, rfl, ef, h, hJ⟩ := h
   simp only [popJ] at hp
   split at hp
   · rename_i hb
     have := Nat.eq_of_beq_eq_true hb
     subst this
     cases hp
     exact ⟨y, c, r, by simp [gotoIn, ef], fun V top ts h a w q1 q2 q3 R hj => hJ H ρ V top ts h a w (.inl rfl) (fun id hid => ⟨q1 id hid, rfl⟩) q2 q3 R hj⟩
   · cases hp
 | .frame .. :: k, ρ, U, t, b, items, cs, hp, h => by simp [popJ] at hp
 | .rng .. :: k, ρ, U, t, b, items, cs, hp, h => by simp [popJ] at hp
 | .rnd .. :: k, ρ, U, t, b, items, cs, hp, h => by simp [popJ] at hp
 | .bgn _ :: k, ρ, U, t, b, items, cs, hp, h => by simp [popJ] at hp
 | .scp c :: k, ρ, U, t, b, items, cs, hp, h => by
   obtain ⟨r, rfl, h⟩ := h
   simp only [popJ] at hp
   split at hp
   · cases hp
   · rename_i hq
     obtain ⟨y', c', r', h1, h2⟩ := Lays.jump (k := k) (items := r) hp h
     exact ⟨y', c', r', by simp [gotoIn, hq, h1], h2⟩
def qlE (P : Program) (E : Env) (Q : SVal -> Heap -> Nat -> Prop) (rs : List ResultVar) (G : Machine -> Prop) (H : Snap) (ts' : List SVal) (d : Option Nat) (rs' : List ResultVar) (k : List It) (ρ : Rho) (U : Top) (t : Nat) (b : Frame) (cs : List Frame) : Prop :=
 b.roundOf = none /\ b.kind = .normal /\ (∃ fn, P.funcs[b.fn]? = some fn /\ fn.results.toList = rs') /\ ∃ H0 b' a' cs' all i l r, H = Snap.bare H0 /\ cs = b'.atR a' (.inRegion all (i :: l) :: r) :: cs' /\
  (∃ o, all[i]? = some o /\ o.dst = d) /\ a'.defers = H0.defs /\ ts'.length <= a'.tmps.size /\ (∀ j, Den ρ H0 (getT ts' j) (a'.tmps.getD j undef)) /\ (∀ j, IdsLt U (getT ts' j)) /\
  Lays P E Q rs G k H0 ρ U t b' (.inRegion all l :: r) cs'
def qiR (P : Program) (E : Env) (Q : SVal -> Heap -> Nat -> Prop) (rs : List ResultVar) (G : Machine -> Prop) (H : Snap) (ts' : List SVal) (k : List It) (ρ : Rho) (U : Top) (t : Nat) (b : Frame) (cs : List Frame) : Prop :=
 b.roundOf = none /\ b.kind = .normal /\ (∃ fn, P.funcs[b.fn]? = some fn /\ fn.results.toList = []) /\ ∃ H0 lp rec b' a' cs' r, H = (Snap.with H0 lp (.loop rec)).bare /\
  H0 lp = none /\ rec.state = .ready /\ rec.pending = none /\ cs = b'.atR a' (.inRangeFunc lp :: r) :: cs' /\ a'.defers = H0.defs /\ ts'.length <= a'.tmps.size /\ (∀ j, Den ρ H0 (getT ts' j) (a'.tmps.getD j undef)) /\ (∀ j, IdsLt U (getT ts' j)) /\
  Lays P E Q rs G k H0 ρ U t b' r cs'
def qpV (E : Env) (Q : SVal -> Heap -> Nat -> Prop) (rs : List ResultVar) (G : Machine -> Prop) (H : Snap) (ρ : Rho) (U : Top) (t : Nat) (b : Frame) (cs : List Frame) : Prop :=
 b.roundOf = none /\ ∀ (H' : Snap) (ρ' : Rho) (V : Top) (top : Nat) ts h a w todo, Grows H H' -> (∀ id, U id -> V id /\ ρ' id = ρ id) -> (∀ id, V id -> U id \/ t <= id) -> (∀ id, V id -> id < top) -> Rel E ρ' H' ts h V a w ->
  resB E ts h rs = true -> Q (resS E ts h rs) h top -> G (lone { b.atR a todo with mode := .returning } cs w)
theorem Lays.ret : ∀ {k : List It} {ρ : Rho} {U : Top} {t : Nat} {b : Frame} {items : List Item} {cs : List Frame}, qii k = false -> Lays P E Q rs G k H ρ U t b items cs ->
  match qdu k with
  | some (ts', d, rs', _, k') => qlE P E Q rs G H ts' d rs' k' ρ U t b cs \/ (d = none /\ rs' = [] /\ qiR P E Q rs G H ts' k' ρ U t b cs)
  | none => qpV E Q rs G H ρ U t b cs
 | [], ρ, U, t, b, items, cs, _, h => h.2
 | .code c :: k, ρ, U, t, b, items, cs, hi, h => by
   obtain ⟨r, rfl, h⟩ := h
   exact Lays.ret (k := k) hi h
 | .again c :: k, ρ, U, t, b, items, cs, hi, h => by
   obtain ⟨r, rfl, h⟩ := h
   exact Lays.ret (k := k) hi h
 | .blk c :: k, ρ, U, t, b, items, cs, hi, h => by
   obtain ⟨r, rfl, h⟩ := h
   exact Lays.ret (k := k) hi h
 | .scp c :: k, ρ, U, t, b, items, cs, hi, h => by
   obtain ⟨r, rfl, h⟩ := h
   exact Lays.ret (k := k) hi h
 | .back J :: k, ρ, U, t, b, items, cs, hi, h => by
   obtain ⟨r, c, rfl, h, _⟩ := h
   exact Lays.ret (k := k) hi h
 | .sback l J :: k, ρ, U, t, b, items, cs, hi, h => by
   obtain ⟨r, c, y, rfl, _, h, _⟩ := h
   exact Lays.ret (k := k) hi h
 | .ops dr base i all l :: k, ρ, U, t, b, items, cs, hi, h => by
   obtain ⟨r, rfl, _, hb, _, h⟩ := h
   exact Lays.ret (k := k) hi (Lays.mono h (fun id hid => ⟨hid, rfl⟩) (fun id hid => .inl hid) hb)
 | .frame ts' d rs' g :: k, ρ, U, t, b, items, cs, _, h => .inl h.2
 | .rng id ts' ps as body :: k, ρ, U, t, b, items, cs, _, h => by
   obtain ⟨_, h1, h2, h3, _, H0, rec, b', a', cs', r, eH, p1, p2, p3, _, _, _, _, _, e2, hd, hl, hden, hid, h⟩ := h
   exact .inr ⟨rfl, rfl, h1, h2, h3, H0, _, rec, b', a', cs', r, eH, p1, p2, p3, e2, hd, hl, hden, hid, h⟩
 | .rnd .. :: k, ρ, U, t, b, items, cs, hi, h => by cases hi
 | .bgn _ :: k, ρ, U, t, b, items, cs, hi, h => by cases hi
theorem qlF {g : Bool} {v : SVal} {K : SVal -> Prop} (h : qat (fun _ => g) v K) : ∃ v', K v' /\ (∀ {ρ : Rho} {H : Snap} {u : Value}, Den ρ H v u -> Den ρ H v' u) /\ ∀ {U : Top}, IdsLt U v -> IdsLt U v' := by
 cases v
 case bs b =>
  simp only [qat] at h
  cases g with
  | true =>
    refine ⟨.bl b, ?_, fun h => h, fun _ => trivial⟩
    cases b
    · exact h.2 rfl
    · exact h.1 rfl
  | false => exact ⟨_, h, fun h => h, fun h => h⟩
 all_goals exact ⟨_, h, fun h => h, fun h => h⟩
theorem Rel.world {ρ : Rho} {ts : List SVal} {h : Heap} {U : Top} {a : Act} {w w' : World} (R : Rel E ρ H ts h U a w) (hw : w'.heap = w.heap) (hs : Same w w') : Rel E ρ H ts h U a w' :=
 ⟨R.len, R.den, R.ids, R.hids, fun b o hb => by rw [hw]; exact R.agree b o hb, ⟨fun id c hc => by
  rcases R.heap.1 id c hc with hg | ⟨arr, t, vs, li⟩
  ·exact .inl hg
  ·exact .inr ⟨arr, t, vs, li.real, by rw [hw]; exact li.blk, li.own, li.rep, li.room, li.fits, li.cells⟩, R.heap.2⟩, R.defers, R.glob, R.same.trans hs⟩
theorem Rel.conv {ρ : Rho} {H' : Snap} {ts : List SVal} {h : Heap} {U : Top} {a a' : Act} {w w' : World} (R : Rel E ρ H ts h U a w) (hro : ∀ b o v, qz H b o = some v -> qz H' b o = some v) (hA : Agree H' w')
  (hown : ∀ b c t x, w.heap[b]? = some (.cells c t x) -> H b = none -> H' b = none /\ w'.heap[b]? = w.heap[b]?) (hS : Same H'.w0 w') (hd : a'.defers = H'.defs) (ht : a'.tmps = a.tmps) : Rel E ρ H' ts h U a' w' := by
 refine ⟨by rw [ht]; exact R.len, fun i => ?_, R.ids, R.hids, hA, ⟨fun id c hc => ?_, R.heap.2⟩, hd, fun g => ⟨Den.extR (t := noId) (fun i h => h.elim) hro (R.glob g).2 (R.glob g).1, (R.glob g).2⟩, hS⟩
 ·rw [ht]; exact Den.extR (t := U) (fun _ _ => rfl) hro (R.ids i) (R.den i)
 ·rcases R.heap.1 id c hc with hg | ⟨arr, t, vs, li⟩
  ·exact .inl hg
  ·obtain ⟨q1, q2⟩ := hown _ _ _ _ li.blk li.own
   exact .inr ⟨arr, t, vs, li.real, by rw [q2]; exact li.blk, q1, Rep.extR (t := U) (fun _ _ => rfl) hro c (R.hids _ _ hc).2 li.rep, li.room, li.fits, li.cells⟩
theorem qlG {H : Snap} {l : Nat} {rec : Loop} {b o : Nat} {v : Value} (h : qz (H.with l (.loop rec)) b o = some v) : qz H b o = some v := by
 unfold qz Snap.with at h
 unfold qz
 dsimp only at h
 by_cases hb : b = l
 ·rw [if_pos hb] at h; cases h
 ·rw [if_neg hb] at h; exact h
theorem qf3 {H : Snap} {l : Nat} {rec : Loop} (hl : ∀ c t x, H l ≠ some (.cells c t x)) {b o : Nat} {v : Value} (h : qz H b o = some v) : qz (H.with l (.loop rec)) b o = some v := by
 unfold qz Snap.with
 unfold qz at h
 dsimp only
 by_cases hb : b = l
 ·subst hb
  cases hc : H b with
  | none => rw [hc] at h; cases h
  | some ob =>
    rw [hc] at h
    cases ob <;> first | exact absurd hc (hl _ _ _) | cases h
 ·rw [if_neg hb]; exact h
theorem qf4 (w : World) (l : Nat) (o : Obj) : Same w (w.putObj l o) := ⟨rfl, rfl, rfl, by simp⟩
theorem Rel.unbare {ρ : Rho} {ts : List SVal} {h : Heap} {U : Top} {a a' : Act} {w : World} (R : Rel E ρ H.bare ts h U a w) (hd : a'.defers = H.defs) (ht : a'.tmps = a.tmps) : Rel E ρ H ts h U a' w :=
 R.conv (fun _ _ _ h => h) R.agree (fun _ _ _ _ _ h => ⟨h, rfl⟩) R.same hd ht
theorem Rel.bare {ρ : Rho} {ts : List SVal} {h : Heap} {U : Top} {a a' : Act} {w : World} (R : Rel E ρ H ts h U a w) (hd : a'.defers = []) (ht : a'.tmps = a.tmps) : Rel E ρ H.bare ts h U a' w :=
 R.conv (fun _ _ _ h => h) R.agree (fun _ _ _ _ _ h => ⟨h, rfl⟩) R.same hd ht
variable (hE : EnvG P E) (hG : ∀ m m', Steps P m m' -> G m' -> G m)
include hE hG
theorem qlH {ts' : List SVal} {d : Option Nat} {rs' : List ResultVar} {k : List It} {ρ : Rho} {U : Top} {t : Nat} {b : Frame} {cs : List Frame} {ts : List SVal} {h : Heap} {a : Act} {w : World} {todo : List Item} {g : Bool} {K : SVal -> Prop}
  (hF : qlE P E Q rs G H ts' d rs' k ρ U t b cs) (R : Rel E ρ H ts h U a w) (hr : resB E ts h rs' = true) (hK : qat (fun _ => g) (resS E ts h rs') K)
  (next : ∀ v H' b' items' cs' a' w', K v -> Rel E ρ H' (putD ts' d v) h U a' w' -> Lays P E Q rs G k H' ρ U t b' items' cs' -> G (lone (b'.atR a' items') cs' w')) :
  G (lone { b.atR a todo with mode := .returning } cs w) := by
 obtain ⟨_, hk, ⟨fn, hf1, hf2⟩, H0, b', a', cs', all, i, l, r, rfl, rfl, ⟨o, ho, hd⟩, hdf, hlen, hden, hids, hL⟩ := hF
 obtain ⟨v, h1, h2, h3⟩ := qiQ hE.toEnvOk R hf2 hr
 have hleave : Frame.leaving P { b.atR a todo with mode := .returning } w (.returned v) := ⟨rfl, R.defers, hk, fn, hf1, h1⟩
 refine hG _ _ (.one (step_leave_returned hleave)) ?_
 rw [Frame.finish_atR, ho]
 simp only [Option.bind_some, hd]
 obtain ⟨v', k1, k2, k3⟩ := qlF hK
 refine next v' H0 b' _ cs' _ w k1 ?_ hL
 have R0 : Rel E ρ H0 ts h U { a with defers := H0.defs } w := R.unbare rfl rfl
 have R' : Rel E ρ H0 ts' h U a' w := ⟨hlen, hden, hids, R0.hids, R0.agree, R0.heap, hdf, R0.glob, R0.same⟩
 exact R'.set d (k2 (Den.extR (H := Snap.bare H0) (H' := H0) (t := U) (fun _ _ => rfl) (fun _ _ _ h => h) h3 h2)) (k3 h3)
theorem qlI {ts' : List SVal} {k : List It} {ρ : Rho} {U : Top} {t : Nat} {b : Frame} {cs : List Frame} {ts : List SVal} {h : Heap} {a : Act} {w : World} {todo : List Item}
  (hF : qiR P E Q rs G H ts' k ρ U t b cs) (R : Rel E ρ H ts h U a w)
  (next : ∀ H' b' items' cs' a' w', Rel E ρ H' ts' h U a' w' -> Lays P E Q rs G k H' ρ U t b' items' cs' -> G (lone (b'.atR a' items') cs' w')) :
  G (lone { b.atR a todo with mode := .returning } cs w) := by
 obtain ⟨_, hk, ⟨fn, hf1, hf2⟩, H0, lp, rec, b', a', cs', r, rfl, hn, hst, hpe, rfl, hdf, hlen, hden, hids, hL⟩ := hF
 obtain ⟨v, h1, h2, h3⟩ := qiQ (rs := []) hE.toEnvOk R hf2 rfl
 have hleave : Frame.leaving P { b.atR a todo with mode := .returning } w (.returned v) := ⟨rfl, R.defers, hk, fn, hf1, h1⟩
 refine hG _ _ (.one (step_leave_returned hleave)) ?_
 rw [finish_atR_inRangeFunc]
 have hl : w.heap[lp]? = some (.loop rec) := R.agree lp _ (by simp [Snap.bare, Snap.with])
 have hend : (Instr.endLoop lp).run P w = .ok none (w.putObj lp (.loop { rec with state := .exhausted })) := (run_endLoop (P := P) hl (by rw [hst]; simp)).trans (by rw [hpe])
 refine hG _ _ (.one (stepR_endRangeFunc hend)) ?_
 refine next H0 b' r cs' a' _ ?_ hL
 have R0 : Rel E ρ H0 ts h U { a with defers := H0.defs } (w.putObj lp (.loop { rec with state := .exhausted })) := by
  refine R.conv (fun b o v hv => qlG (H := H0) (l := lp) (rec := rec) hv) (fun b o hb => ?_) (fun b c t x _ hb => ?_) (R.same.trans (qf4 _ _ _)) rfl rfl
  ·have hbl : b ≠ lp := by rintro rfl; rw [hn] at hb; cases hb
   rw [World.putObj_heap_other hbl]
   exact R.agree b o (by simp only [Snap.bare, Snap.with]; rw [if_neg hbl]; exact hb)
  ·have hbl : b ≠ lp := by rintro rfl; simp [Snap.bare, Snap.with] at hb
   refine ⟨?_, World.putObj_heap_other hbl⟩
   simp only [Snap.bare, Snap.with] at hb
   rw [if_neg hbl] at hb
   exact hb
 exact ⟨hlen, hden, hids, R0.hids, R0.agree, R0.heap, hdf, R0.glob, R0.same⟩
theorem qpW {id : Nat} {ts' : List SVal} {d : Option Nat} {k : List It} {ρ : Rho} {U : Top} {t : Nat} {b : Frame} {items : List Item} {cs : List Frame} {ts : List SVal} {h : Heap} {a : Act} {w : World}
  (hF : Lays P E Q rs G (.rnd id ts' d :: k) H ρ U t b items cs) (R : Rel E ρ H ts h U a w)
  (next : ∀ H' b' items' cs' a' w', Rel E ρ H' (putD ts' d (.bl true)) h U a' w' -> Lays P E Q rs G k H' ρ U t b' items' cs' -> G (lone (b'.atR a' items') cs' w')) :
  G (lone (b.atR a items) cs w) := by
 obtain ⟨rfl, hro, hk, hU, H0, rec, b', a', cs', all, i, l, r, rfl, hn, hst, hpe, rfl, ⟨o, ho, hd⟩, hdf, hlen, hden, hids, hL⟩ := hF
 generalize (ρ id).b = lp at *
 have hl : w.heap[lp]? = some (.loop { rec with state := .busy }) := R.agree lp _ (by simp [Snap.bare, Snap.with])
 have hend := run_endRound (P := P) none hl
 have erec : ({ ({ rec with state := .busy } : Loop) with state := if (none : Option Code).isNone then .ready else .done, pending := none } : Loop) = rec := by
  cases rec; simp at hst hpe ⊢; exact ⟨hst.symm, hpe.symm⟩
 rw [erec] at hend
 refine hG _ _ (.one (stepR_round_end hro hk hend)) ?_
 rw [Frame.finish_atR, ho]
 simp only [Option.bind_some, hd]
 refine next H0 b' _ cs' _ _ ?_ hL
 have R0 : Rel E ρ H0 ts h U { a with defers := H0.defs } (w.putObj lp (.loop rec)) := by
  refine R.conv (fun b o v hv => qlG (H := H0) (l := lp) (rec := { rec with state := .busy }) hv) (fun b o hb => ?_) (fun b c t x _ hb => ?_) (R.same.trans (qf4 _ _ _)) rfl rfl
  ·by_cases hbl : b = lp
   ·subst hbl
    rw [hn] at hb
    rw [World.putObj_heap_same (Array.getElem?_eq_some_iff.1 hl).1]
    exact hb
   ·rw [World.putObj_heap_other hbl]
    exact R.agree b o (by simp only [Snap.bare, Snap.with]; rw [if_neg hbl]; exact hb)
  ·have hbl : b ≠ lp := by rintro rfl; simp [Snap.bare, Snap.with] at hb
   refine ⟨?_, World.putObj_heap_other hbl⟩
   simp only [Snap.bare, Snap.with] at hb
   rw [if_neg hbl] at hb
   exact hb
 have R' : Rel E ρ H0 ts' h U a' (w.putObj lp (.loop rec)) := ⟨hlen, hden, hids, R0.hids, R0.agree, R0.heap, hdf, R0.glob, R0.same⟩
 exact R'.set d (by simp [Den, Rep]) trivial
theorem qpX {id : Nat} {k : List It} {ρ : Rho} {U : Top} {t : Nat} {b : Frame} {items : List Item} {cs : List Frame} {ts : List SVal} {h : Heap} {a : Act} {w : World}
  (hF : Lays P E Q rs G (.bgn id :: k) H ρ U t b items cs) (R : Rel E ρ H ts h U a w)
  (next : ∀ H' items' w', Rel E ρ H' ts h U a w' -> Lays P E Q rs G k H' ρ U t b items' cs -> G (lone (b.atR a items') cs w')) :
  G (lone (b.atR a items) cs w) := by
 obtain ⟨r, rec, rfl, hro, hU, hn, hst, hL⟩ := hF
 generalize (ρ id).b = lp at *
 have hl : w.heap[lp]? = some (.loop rec) := R.agree lp _ hn
 refine hG _ _ (.one (stepR_beginRound hro (run_beginRound hl hst))) ?_
 refine next _ r _ ?_ hL
 refine R.conv (fun b o v hv => qf3 (by intro c t x; rw [hn]; simp) hv) (fun b o hb => ?_) (fun b c t x _ hb => ?_) (R.same.trans (qf4 _ _ _)) R.defers rfl
 ·simp only [Snap.with] at hb
  by_cases hbl : b = lp
  ·subst hbl
   rw [if_pos rfl] at hb
   rw [World.putObj_heap_same (Array.getElem?_eq_some_iff.1 hl).1]
   exact hb
  ·rw [if_neg hbl] at hb
   rw [World.putObj_heap_other hbl]
   exact R.agree b o hb
 ·have hbl : b ≠ lp := by rintro rfl; rw [hn] at hb; cases hb
  refine ⟨?_, World.putObj_heap_other hbl⟩
  simp only [Snap.with]
  rw [if_neg hbl]
  exact hb
end
end Go.Sx
end
section
namespace Go.Sx
def rem (n : Nat) (listed : Array Bool) : List Nat := (List.range n).filter fun j => !listed.getD j true
theorem mem_rem {n j : Nat} {listed : Array Bool} : j ∈ rem n listed ↔ j < n /\ listed.getD j true = false := by
 simp only [rem, List.mem_filter, List.mem_range, Bool.not_eq_true']
theorem qpY (n : Nat) (listed : Array Bool) : (rem n listed).Nodup := List.Pairwise.filter _ List.nodup_range
theorem qlJ (n : Nat) (listed : Array Bool) : (rem n listed).Pairwise (· < ·) := List.Pairwise.filter _ (List.pairwise_lt_range)
theorem qpZ {n j : Nat} {listed : Array Bool} (hj : j < listed.size) : rem n (listed.setIfInBounds j true) = (rem n listed).filter (· != j) := by
 simp only [rem, List.filter_filter]
 refine List.filter_congr fun x hx => ?_
 by_cases e : x = j
 ·subst e
  simp [Array.getElem?_setIfInBounds, hj]
 ·have : j ≠ x := fun q => e q.symm
  simp [Array.getElem?_setIfInBounds, this, e]
theorem qp0 {all : List Oper} {ts0 : List SVal} (h : qcO all ts0 = true) : (∀ (j : Nat) p, all[j]? = some p -> ∀ e ∈ p.after.toList, Region.binds .any e = true -> e.on < j) /\
  ∀ j r, j < all.length -> r < j -> r ∈ (ancs all []).getD j [] \/ ∃ o p, all[r]? = some o /\ all[j]? = some p /\ qdy all ts0 o p = true := by
 unfold qcO at h
 simp only [Bool.and_eq_true] at h
 obtain ⟨h1, h2⟩ := h
 refine ⟨fun j p hp e he hb => ?_, fun j r hj hr => ?_⟩
 ·unfold qiz at h1
  rw [List.all_eq_true] at h1
  have hj : j < all.length := (List.getElem?_eq_some_iff.1 hp).1
  have := h1 j (List.mem_range.2 hj)
  simp only [hp] at this
  rw [List.all_eq_true] at this
  have := this e he
  simp only [hb, Bool.not_true, Bool.false_or] at this
  exact Nat.le_of_ble_eq_true this
 ·rw [List.all_eq_true] at h2
  have := h2 j (List.mem_range.2 hj)
  rw [List.all_eq_true] at this
  have := this r (List.mem_range.2 hr)
  simp only [Bool.or_eq_true] at this
  rcases this with h | h
  ·exact .inl (by simpa using h)
  ·refine .inr ?_
   split at h
   ·rename_i o p h1 h2
    exact ⟨o, p, h1, h2, h⟩
   ·cases h
theorem qp1 {all : List Oper} (h : qiA all = true) (ts : List SVal) : qcO all ts = true := by
 unfold qiA at h
 unfold qcO
 simp only [Bool.and_eq_true] at h ⊢
 refine ⟨h.1, ?_⟩
 have h2 := h.2
 rw [List.all_eq_true] at h2 ⊢
 intro j hj
 have := h2 j hj
 rw [List.all_eq_true] at this ⊢
 intro r hr
 have := this r hr
 simp only [Bool.or_eq_true] at this ⊢
 rcases this with h | h
 ·exact .inl h
 ·refine .inr ?_
  split at h
  ·rename_i o p h1 h2
   unfold qdy
   rw [h]; rfl
  ·cases h
theorem qp2 {E : Env} {all : List Oper} {base : Nat} {ts0 : List SVal} {i : Nat} {K : Kt} {ts : List SVal} {h : Heap} (hk : Keep all ts0 ts) (hT : T E all base i K ts h) : T E all base i (fun ts' h' => Keep all ts0 ts' /\ K ts' h') ts h := by
 unfold T at hT ⊢
 split
 ·rename_i h1; simp only [h1] at hT
 ·rename_i o h1
  simp only [h1] at hT
  have hp : ∀ v, Keep all ts0 (putD ts o.dst v) := fun v => hk.put h1 v
  split
  ·rename_i N hN
   simp only [hN] at hT
   exact ⟨hT.1, hT.2.1, fun x hx => ⟨hp _, hT.2.2 x hx⟩⟩
  ·rename_i hN
   simp only [hN] at hT
   split
   ·rename_i hg
    simp only [hg] at hT
    generalize qn E ts h o.op = out at hT
    cases out <;> simp only [wrT] at hT ⊢
    case upd => exact ⟨hp _, hT⟩
    case updp => exact ⟨hT.1, hp _, hT.2⟩
    case cpy => exact ⟨hT.1, hp _, hT.2⟩
    case app =>
     split at hT
     ·split at hT <;> try (exact hT.elim)
      exact ⟨hT.1, fun cap hc => ⟨hp _, hT.2 cap hc⟩⟩
     ·split at hT <;> try (exact hT.elim)
      split at hT <;> try (exact hT.elim)
      exact ⟨hT.1, fun cap hc => ⟨hp _, hT.2 cap hc⟩⟩
   ·rename_i hg
    cases hg' : qZ all ts o with
    | none => simp only [hg'] at hT
    | some b => cases b with
      | false => simp only [hg'] at hT
      | true => exact absurd hg' hg
section
variable {P : Program} {E : Env} {Q : SVal -> Heap -> Nat -> Prop} {rs : List ResultVar} {G : Machine -> Prop} {H : Snap}
variable (hE : EnvG P E) (hG : ∀ m m', Steps P m m' -> G m' -> G m)
include hE hG
theorem qp3 {all : List Oper} {base : Nat} {K : Kt} {b : Frame} {r : List Item} {cs : List Frame} {ρs : Rho} {Us : Top} {ts0 : List SVal} (hO : qcO all ts0 = true)
  (next : ∀ ρ U ts h a w, (∀ id, Us id -> U id /\ ρ id = ρs id) -> (∀ id, U id -> Us id \/ (base <= id /\ id < base + 8 * all.length)) -> Rel E ρ H ts h U a w -> K ts h -> G (lone (b.atR a (.inRegion all.toArray [] :: r)) cs w)) :
  ∀ (fuel t : Nat) (listed : Array Bool), listed.size = all.length -> Down all listed -> (rem all.length listed).length <= fuel -> ∀ (ρ : Rho) (U : Top) ts h a w, (∀ id, Us id -> U id /\ ρ id = ρs id) ->
   (∀ id, U id -> Us id \/ (base <= id /\ id < base + 8 * all.length)) -> (∀ j ∈ rem all.length listed, ∀ id, own base j id -> ¬ U id) -> (∀ j, ∀ id, own base j id -> ¬ Us id) -> Rel E ρ H ts h U a w -> Keep all ts0 ts -> qcM E all base (rem all.length listed) K ts h ->
   G (lone (b.atR a (.inRegion all.toArray (Region.linearise.go .any all.toArray fuel t listed []) :: r)) cs w) := by
 obtain ⟨hback, hpair⟩ := qp0 hO
 obtain ⟨hanc, hancl⟩ := qk8 (all := all) all [] [] rfl rfl (fun m hm => by simp at hm)
 have hready : ∀ listed : Array Bool, Down all listed -> Region.ready .any all.toArray listed = [] -> rem all.length listed = [] := by
  intro listed hD he
  cases hr : rem all.length listed with
  | nil => rfl
  | cons j l =>
    exfalso
    have hj := mem_rem.1 (show j ∈ rem all.length listed by rw [hr]; exact List.mem_cons_self ..)
    have hmin : ∀ x ∈ rem all.length listed, j <= x := by
      intro x hx
      have hs := qlJ all.length listed
      rw [hr] at hs hx
      rcases List.mem_cons.1 hx with rfl | hx
      · exact Nat.le_refl _
      · exact Nat.le_of_lt ((List.pairwise_cons.1 hs).1 x hx)
    have : j ∈ Region.ready .any all.toArray listed := by
      unfold Region.ready
      rw [List.mem_filter]
      refine ⟨by simpa using hj.1, ?_⟩
      have hp : (all.toArray)[j]? = some all[j] := by simp [hj.1]
      simp only [hj.2, Bool.not_false, Bool.true_and, hp, Option.map_some, Option.getD_some]
      rw [<- Array.all_toList, List.all_eq_true]
      intro e he'
      cases hb : Region.binds .any e with
      | false => rfl
      | true =>
        have hlt := hback j all[j] (by simp [hj.1]) e he' hb
        simp only [Bool.not_true, Bool.false_or]
        cases hl : listed.getD e.on true with
        | true =>
          by_cases hsz : e.on < listed.size
          · simpa [hsz] using hl
          · exfalso
            have hl2 : listed.getD j true = false := hj.2
            have : listed.getD j true = true := by
              rw [Array.getD_eq_getD_getElem?, Array.getElem?_eq_none (by omega)]; rfl
            rw [this] at hl2
            cases hl2
        | false =>
          have := hmin e.on (mem_rem.2 ⟨by omega, hl⟩)
          omega
    rw [he] at this
    cases this
 intro fuel
 induction fuel with
 | zero =>
   intro t listed hsz hD hlen ρ U ts h a w e1 e2 hf hfs R hk hT
   have : rem all.length listed = [] := List.eq_nil_of_length_eq_zero (by omega)
   rw [this] at hT
   exact next ρ U ts h a w e1 e2 R hT
 | succ fuel ih =>
   intro t listed hsz hD hlen ρ U ts h a w e1 e2 hf hfs R hk hT
   simp only [Region.linearise.go]
   change G (lone (b.atR a (.inRegion all.toArray (match (Region.ready .any all.toArray listed)[t % (Region.ready .any all.toArray listed).length]? with
     | some i => Region.linearise.go .any all.toArray fuel (t / (Region.ready .any all.toArray listed).length) (listed.setIfInBounds i true) [i]
     | none => [].reverse) :: r)) cs w)
   cases hi : (Region.ready .any all.toArray listed)[t % (Region.ready .any all.toArray listed).length]? with
   | none =>
     have hnil : Region.ready .any all.toArray listed = [] := by
       cases hr : Region.ready .any all.toArray listed with
       | nil => rfl
       | cons x xs =>
         rw [hr] at hi
         have hlt : t % (x :: xs).length < (x :: xs).length := Nat.mod_lt _ (by simp)
         rw [List.getElem?_eq_getElem hlt] at hi
         cases hi
     rw [hready listed hD hnil] at hT
     exact next ρ U ts h a w e1 e2 R hT
   | some i =>
     simp only []
     rw [linearise_go_acc, List.reverse_singleton, List.singleton_append]
     obtain ⟨hil, hiu, p, hp, hpa⟩ := qpJ (List.mem_of_getElem? hi)
     have hmem : i ∈ rem all.length listed := mem_rem.2 ⟨hil, hiu⟩
     obtain ⟨R1, R2, hR⟩ := List.append_of_mem hmem
     have hnd := qpY all.length listed
     have hso := qlJ all.length listed
     rw [hR] at hnd hso hT
     have hin : ∀ x ∈ R1, x < i := fun x hx => (List.pairwise_append.1 hso).2.2 x hx i (List.mem_cons_self ..)
     have hrem : ∀ x ∈ R1 ++ i :: R2, x ∈ rem all.length listed := fun x hx => by rw [hR]; exact hx
     have hb := qk5 hE.toEnvIds' hp R2 R1 R.wf hk (fun q hq => by
         refine ⟨Nat.ne_of_lt (hin q hq), ?_⟩
         rcases hpair i q hil (hin q hq) with hq' | ⟨o, p', ho, hp', hs⟩
         · exfalso
           have := qpI hanc hD i (by rw [hancl]; exact hil) hq' (fun o ho e he hb => by
             rw [hp] at ho
             cases ho
             exact hpa e he hb)
           have h2 := (mem_rem.1 (hrem q (List.mem_append_left _ hq))).2
           have : listed.getD q true = true := by
             by_cases hsz' : q < listed.size
             · simpa [hsz'] using this
             · rw [Array.getD_eq_getD_getElem?, Array.getElem?_eq_none (by omega)]; rfl
           rw [this] at h2
           cases h2
         · rw [hp] at hp'
           cases hp'
           exact ⟨o, ho, hs⟩)
       (List.nodup_append.1 hnd).1
       (fun q hq id hid => hf q (by
         rcases List.mem_cons.1 hq with rfl | hq
         · exact hmem
         · exact hrem q (List.mem_append_left _ hq)) id hid) hT
     obtain ⟨ρ', ts', h', a', w', hst, hρ', R', hK⟩ := qlu (b := b) (k := r) (cs := cs) (rest := Region.linearise.go .any all.toArray fuel (t / (Region.ready .any all.toArray listed).length) (listed.setIfInBounds i true) []) hE R hp (hf i hmem) (qp2 hk hb)
     refine hG _ _ hst ?_
     have hrs : rem all.length (listed.setIfInBounds i true) = R1 ++ R2 := by
       rw [qpZ (by omega), hR, List.filter_append, List.filter_cons]
       have n1 : ∀ x ∈ R1, (x != i) = true := fun x hx => by
         have := hin x hx
         simp; omega
       have n2 : ∀ x ∈ R2, (x != i) = true := fun x hx => by
         have := (List.pairwise_cons.1 (List.pairwise_append.1 hso).2.1).1 x hx
         simp; omega
       rw [List.filter_eq_self.2 n1, List.filter_eq_self.2 n2]
       simp
     refine ih _ _ (by simpa using hsz) ?_ ?_ ρ' _ ts' h' a' w' (fun id hid => ?_) (fun id hid => ?_) (fun j hj id hid => ?_) hfs R' hK.1 (by rw [hrs]; exact hK.2)
     · intro m o hm ho e he hb'
       have key : ∀ x, listed.getD x false = true -> (listed.setIfInBounds i true).getD x false = true := by
         intro x hx
         by_cases e : i = x
         · subst e
           simp [Array.getElem?_setIfInBounds]
           rw [if_pos (by omega)]; rfl
         · simpa [Array.getElem?_setIfInBounds, e] using hx
       by_cases e1 : i = m
       · subst e1
         rw [hp] at ho
         cases ho
         exact key _ (hpa e he hb')
       · refine key _ (hD m o ?_ ho e he hb')
         simpa [Array.getElem?_setIfInBounds, e1] using hm
     · rw [hrs]
       rw [hR] at hlen
       simp at hlen ⊢
       omega
     · have := e1 id hid
       refine ⟨.inl this.1, ?_⟩
       rw [hρ' id (fun q => hfs i id q hid)]
       exact this.2
     · rcases hid with hid | hid
       · exact e2 id hid
       · unfold own at hid
         exact .inr (by omega)
     · rw [hrs] at hj
       have hj' : j ∈ rem all.length listed /\ j ≠ i := by
         rcases List.mem_append.1 hj with hq | hq
         · exact ⟨hrem j (List.mem_append_left _ hq), Nat.ne_of_lt (hin j hq)⟩
         · refine ⟨hrem j (List.mem_append_right _ (List.mem_cons_of_mem _ hq)), ?_⟩
           have := (List.pairwise_cons.1 (List.pairwise_append.1 hso).2.1).1 j hq
           omega
       rintro (hu | hu)
       · exact hf j hj'.1 id hid hu
       · have := hj'.2
         unfold own at hid hu
         omega
end
end Go.Sx
end
section
namespace Go.Sx
section
variable {P : Program} {E : Env} {Q : SVal -> Heap -> Nat -> Prop} {rs : List ResultVar} {G : Machine -> Prop}
def qbm (P : Program) (E : Env) : Prop := ∀ g fn, E.inl g = some fn -> P.funcs[g]? = some fn /\ ∀ c, fn.body = some c -> qE c = true
theorem qlK {l m : List SVal} : ∀ {i : Nat}, i < l.length -> getT (l ++ m) i = getT l i := by
 induction l with
 | nil => intro i h; simp at h
 | cons s l ih =>
   intro i h
   cases i with
   | zero => rfl
   | succ i => simp only [List.cons_append, getT]; exact ih (by simpa using h)
theorem qlL {l m : List SVal} : ∀ {i : Nat}, l.length <= i -> getT (l ++ m) i = getT m (i - l.length) := by
 induction l with
 | nil => intro i h; simp
 | cons s l ih =>
   intro i h
   cases i with
   | zero => simp at h
   | succ i => simp only [List.cons_append, getT]; rw [ih (by simpa using h)]; simp
theorem qiS : ∀ (n i : Nat), getT (List.replicate n .junk) i = .junk
 | 0, i => by simp [getT]
 | n + 1, 0 => by simp [List.replicate, getT]
 | n + 1, i + 1 => by simp only [List.replicate, getT]; exact qiS n i
theorem RepV.get {ρ : Rho} {H : Snap} : ∀ {l : List SVal} {vs : List Value}, RepV ρ H l vs -> l.length = vs.length /\ ∀ i, i < l.length -> Den ρ H (getT l i) (vs.getD i undef)
 | [], vs, h => by
   simp only [RepV] at h
   subst h
   exact ⟨rfl, fun i hi => by simp at hi⟩
 | s :: l, vs, h => by
   obtain ⟨v, ws, rfl, h1, h2⟩ := RepV_cons.1 h
   obtain ⟨h3, h4⟩ := RepV.get h2
   refine ⟨by simp [h3], fun i hi => ?_⟩
   cases i with
   | zero => exact h1
   | succ i => simpa [getT] using h4 i (by simpa using hi)
theorem qiT {ρ : Rho} {H : Snap} {args : List SVal} {vs : List Value} {h : Heap} {U : Top} {w : World} (ha : RepV ρ H args vs) (hi : IdsLtL U args) (hh : ∀ id c, (id, c) ∈ h -> U id /\ IdsLt U c) (hA : Agree H w) (hH : qfM ρ H w h)
  (hg : ∀ g, Den ρ H (E.glob g) (.pointer (some ⟨g, 0, none⟩)) /\ IdsLt noId (E.glob g)) (hs : Same H.w0 w) (hd : H.defs = []) (n : Nat) :
  Rel E ρ H (args ++ List.replicate (n - args.length) .junk) h U { tmps := vs.toArray ++ Array.replicate (n - vs.toArray.size) undef, defers := [] } w := by
 obtain ⟨hl, hget⟩ := RepV.get ha
 refine ⟨by simp [hl], fun i => ?_, fun i => ?_, hh, hA, hH, hd.symm, hg, hs⟩
 ·by_cases hi' : i < args.length
  ·rw [qlK hi']
   have := hget i hi'
   have e : (vs.toArray ++ Array.replicate (n - vs.toArray.size) undef).getD i undef = vs.getD i undef := by
    rw [Array.getD_eq_getD_getElem?, Array.getElem?_append_left (by simp; omega)]
    simp [List.getD]
   rw [e]
   exact this
  ·rw [qlL (by omega), qiS]; trivial
 ·by_cases hi' : i < args.length
  ·rw [qlK hi']; exact qeh _ _ hi
  ·rw [qlL (by omega), qiS]; trivial
theorem qlM (hE : EnvG P E) {base : Nat} {all : List Oper} {k : List It} {top : Nat} : ∀ (n i : Nat) {ts : List SVal} {h : Heap}, ex P E Q rs n (.ops true base i all (all.drop i) :: k) ts h top ->
  qcM E all base (List.range' i (all.length - i)) (fun ts' h' => ∃ m, m < n /\ ex P E Q rs m k ts' h' top) ts h
 | 0, i, ts, h, hx => by simp only [ex] at hx
 | n + 1, i, ts, h, hx => by
   by_cases hi : i < all.length
   · have hd : all.drop i = all[i] :: all.drop (i + 1) := List.drop_eq_getElem_cons hi
     rw [hd] at hx
     rw [show all.length - i = (all.length - (i + 1)) + 1 by omega, List.range'_succ]
     rcases ex_T hE (show all[i]? = some all[i] by simp [hi]) hx with hT | ⟨hd, _⟩ | ⟨hd, _⟩ | ⟨hd, _⟩
     · refine qlD hT fun ts' h' hK => ?_
       have hf := qlM hE n (i + 1) hK
       have mono : ∀ (L : List Nat) {K K' : Kt} {ts h}, (∀ ts h, K ts h -> K' ts h) -> qcM E all base L K ts h -> qcM E all base L K' ts h := by
         intro L
         induction L with
         | nil => intro K K' ts h hh hf; exact hh _ _ hf
         | cons j L ih => intro K K' ts h hh hf; exact qlD hf fun ts' h' => ih hh
       exact mono _ (fun ts h ⟨m, hm, hx⟩ => ⟨m, by omega, hx⟩) hf
     · cases hd
     · cases hd
     · cases hd
   · rw [List.drop_eq_nil_of_le (by omega)] at hx
     rw [show all.length - i = 0 by omega]
     simp only [ex] at hx
     exact ⟨n, by omega, hx⟩
theorem Lays.toRng {H : Snap} {id : Nat} {ts' : List SVal} {ps : List Nat} {as body : Code} : ∀ {k : List It} {ρ : Rho} {U : Top} {t : Nat} {b : Frame} {items : List Item} {cs : List Frame}, toRng k = some (id, ts', ps, as, body) -> Lays P E Q rs G k H ρ U t b items cs ->
  U id /\ ∃ rec, H (ρ id).b = some (.loop rec) /\ rec.state = .ready /\ rec.pending = none /\ H.defs = [] /\ rec.params = ps.toArray /\ rec.assign = as /\ rec.body = body /\
   ts'.length <= rec.tmps.size /\ (∀ j, Den ρ H (getT ts' j) (rec.tmps.getD j undef)) /\ (∀ j, IdsLt U (getT ts' j))
 | [], ρ, U, t, b, items, cs, hp, h => by simp [Sx.toRng] at hp
 | .code c :: k, ρ, U, t, b, items, cs, hp, h => by
   obtain ⟨r, rfl, h⟩ := h
   exact Lays.toRng (k := k) hp h
 | .again c :: k, ρ, U, t, b, items, cs, hp, h => by
   obtain ⟨r, rfl, h⟩ := h
   exact Lays.toRng (k := k) hp h
 | .blk c :: k, ρ, U, t, b, items, cs, hp, h => by
   obtain ⟨r, rfl, h⟩ := h
   exact Lays.toRng (k := k) hp h
 | .scp c :: k, ρ, U, t, b, items, cs, hp, h => by
   obtain ⟨r, rfl, h⟩ := h
   exact Lays.toRng (k := k) hp h
 | .back J :: k, ρ, U, t, b, items, cs, hp, h => by
   obtain ⟨r, c, rfl, h, _⟩ := h
   exact Lays.toRng (k := k) hp h
 | .sback l J :: k, ρ, U, t, b, items, cs, hp, h => by
   obtain ⟨r, c, y, rfl, _, h, _⟩ := h
   exact Lays.toRng (k := k) hp h
 | .ops dr base i all l :: k, ρ, U, t, b, items, cs, hp, h => by
   obtain ⟨r, rfl, _, hb, _, h⟩ := h
   exact Lays.toRng (k := k) hp h
 | .frame .. :: k, ρ, U, t, b, items, cs, hp, h => by simp [Sx.toRng] at hp
 | .rnd .. :: k, ρ, U, t, b, items, cs, hp, h => by simp [Sx.toRng] at hp
 | .bgn _ :: k, ρ, U, t, b, items, cs, hp, h => by simp [Sx.toRng] at hp
 | .rng id' ts2 ps2 as2 body2 :: k, ρ, U, t, b, items, cs, hp, h => by
   simp only [Sx.toRng, Option.some.injEq, Prod.mk.injEq] at hp
   obtain ⟨rfl, rfl, rfl, rfl, rfl⟩ := hp
   obtain ⟨_, _, _, _, hU, H0, rec, b', a', cs', r, rfl, p1, p2, p3, p4, p5, p6, p7, p8, e2, hd, hl, hden, hid, h⟩ := h
   refine ⟨hU, rec, by simp [Snap.bare, Snap.with], p2, p3, rfl, p6, p7, p8, by rw [p5]; exact hl, fun j => ?_, hid⟩
   rw [p5]
   exact Den.extR (H := H0) (H' := (H0.with (ρ id').b (.loop rec)).bare) (t := U) (fun _ _ => rfl) (fun b o v hv => qf3 (H := H0) (l := (ρ id').b) (rec := rec) (by intro c t x; rw [p1]; simp) hv) (hid j) (hden j)
theorem Lays.base_none {H : Snap} : ∀ {k : List It} {ρ : Rho} {U : Top} {t : Nat} {b : Frame} {items : List Item} {cs : List Frame}, qdv k = true -> Lays P E Q rs G k H ρ U t b items cs -> b.roundOf = none
 | [], ρ, U, t, b, items, cs, hp, h => h.2.1
 | .code c :: k, ρ, U, t, b, items, cs, hp, h => by
   obtain ⟨r, rfl, h⟩ := h
   exact Lays.base_none (k := k) hp h
 | .again c :: k, ρ, U, t, b, items, cs, hp, h => by
   obtain ⟨r, rfl, h⟩ := h
   exact Lays.base_none (k := k) hp h
 | .blk c :: k, ρ, U, t, b, items, cs, hp, h => by
   obtain ⟨r, rfl, h⟩ := h
   exact Lays.base_none (k := k) hp h
 | .scp c :: k, ρ, U, t, b, items, cs, hp, h => by
   obtain ⟨r, rfl, h⟩ := h
   exact Lays.base_none (k := k) hp h
 | .back J :: k, ρ, U, t, b, items, cs, hp, h => by
   obtain ⟨r, c, rfl, h, _⟩ := h
   exact Lays.base_none (k := k) hp h
 | .sback l J :: k, ρ, U, t, b, items, cs, hp, h => by
   obtain ⟨r, c, y, rfl, _, h, _⟩ := h
   exact Lays.base_none (k := k) hp h
 | .ops dr base i all l :: k, ρ, U, t, b, items, cs, hp, h => by
   obtain ⟨r, rfl, _, hb, _, h⟩ := h
   exact Lays.base_none (k := k) hp h
 | .frame .. :: k, ρ, U, t, b, items, cs, hp, h => by cases hp
 | .rng .. :: k, ρ, U, t, b, items, cs, hp, h => by cases hp
 | .rnd .. :: k, ρ, U, t, b, items, cs, hp, h => by cases hp
 | .bgn _ :: k, ρ, U, t, b, items, cs, hp, h => by cases hp
theorem qlN {id : Nat} {ts' : List SVal} {ps : List Nat} {as body : Code} : ∀ {k : List It}, toRng k = some (id, ts', ps, as, body) -> (∀ x ∈ k, ItOk x) -> qE as = true /\ qE body = true
 | [], hp, h => by simp [Sx.toRng] at hp
 | it :: k, hp, h => by
   have ih := fun (hp : Sx.toRng k = some (id, ts', ps, as, body)) => qlN (k := k) hp fun x hx => h x (List.mem_cons_of_mem _ hx)
   cases it <;> simp only [Sx.toRng, Option.some.injEq, Prod.mk.injEq, reduceCtorEq] at hp <;> first
     | exact ih hp
     | (obtain ⟨rfl, rfl, rfl, rfl, rfl⟩ := hp; exact h _ (List.mem_cons_self ..))
theorem qlO {ρ : Rho} {H : Snap} {h : Heap} {U : Top} {w : World} : ∀ (ps : List Nat) (args : List SVal) {vs : List Value} {ts ts2 : List SVal} {a : Act}, qca ts ps args = some ts2 -> RepV ρ H args vs -> IdsLtL U args -> Rel E ρ H ts h U a w ->
  ps.length = vs.length /\ Rel E ρ H ts2 h U { a with tmps := (ps.zip vs).foldl (fun tmps x => tmps.setIfInBounds x.1 x.2) a.tmps } w
 | [], [], vs, ts, ts2, a, hp, hr, hi, R => by
   simp only [qca, Option.some.injEq] at hp
   simp only [RepV] at hr
   subst hp; subst hr
   exact ⟨rfl, R⟩
 | [], _ :: _, vs, ts, ts2, a, hp, hr, hi, R => by simp [qca] at hp
 | _ :: _, [], vs, ts, ts2, a, hp, hr, hi, R => by simp [qca] at hp
 | t :: ps, s :: args, vs, ts, ts2, a, hp, hr, hi, R => by
   obtain ⟨v, ws, rfl, h1, h2⟩ := RepV_cons.1 hr
   simp only [qca] at hp
   obtain ⟨q1, q2⟩ := qlO ps args hp h2 hi.2 (R.set (some t) h1 hi.1)
   exact ⟨by simp [q1], q2⟩
theorem qp4 {b : Frame} {a : Act} {k : List Item} {cs : List Frame} {w : World} {ops : Array Oper} {i : Nat} {rest : List Nat} {o : Oper} {l : Nat} {f : FuncId} {tmps : Array Value} {x y : Code} {w' : World} (ho : ops[i]? = some o) (hw : Region.wanted o (yielded ops a.tmps) = true) (hr : (execOp a.eval o).run P w = .ok (.round l f tmps x y) w') :
  step P (lone (b.atR a (.inRegion ops (i :: rest) :: k)) cs w) = .next (lone (Frame.round l f tmps x y .normal) (b.atR a (.inRegion ops (i :: rest) :: k) :: cs) w') := by
 have hg := stepGR_op (P := P) (b := b) (k := k) (cs := cs) (w := w) (rest := rest) ho hw
 exact step_lone_go (by rw [hg]; simp [stepG.apply, qf0 hr (by intro d h; cases h), Frame.atR])
theorem qp5 {ρ : Rho} {H : Snap} {ts : List SVal} {h : Heap} {U : Top} {a : Act} {w : World} (R : Rel E ρ H ts h U a w) (rec : Loop) :
  H w.heap.size = none /\ H (w.heap.size + 1) = none /\ Rel E ρ (H.marked w.heap.size) ts h U { a with defers := { target := .collected w.heap.size, args := #[] } :: a.defers } (w.alloc (.deferred (some []))) /\
  Rel E ρ ((H.marked w.heap.size).with (w.heap.size + 1) (.loop rec)).bare ts h U { a with defers := [] } ((w.alloc (.deferred (some []))).alloc (.loop rec)) := by
 have hb : ∀ b, w.heap.size <= b -> H b = none := by
  intro b hb
  cases hh : H b with
  | none => rfl
  | some o =>
    have := (Array.getElem?_eq_some_iff.1 (R.agree b o hh)).1
    omega
 have old : ∀ (w : World) (o : Obj) b, b < w.heap.size -> (w.alloc o).heap[b]? = w.heap[b]? := by
  intro w o b hb
  show (w.heap.push o)[b]? = _
  rw [Array.getElem?_push_lt hb]
  exact (Array.getElem?_eq_getElem hb).symm
 have sz : ∀ (w : World) (o : Obj), (w.alloc o).heap.size = w.heap.size + 1 := fun w o => World.size_alloc ..
 have same : ∀ (w : World) (o : Obj), Same w (w.alloc o) := fun w o => ⟨rfl, rfl, rfl, by rw [sz]; omega⟩
 have R1 : Rel E ρ (H.marked w.heap.size) ts h U { a with defers := { target := .collected w.heap.size, args := #[] } :: a.defers } (w.alloc (.deferred (some []))) := by
  refine R.conv (fun b o v hv => ?_) (fun b o hb' => ?_) (fun b c t x hc hb' => ?_) (R.same.trans (same _ _)) (by simp only [Snap.marked]; rw [R.defers]) rfl
  ·unfold qz at hv
   unfold qz Snap.marked
   dsimp only
   by_cases e : b = w.heap.size
   ·rw [e, hb _ (Nat.le_refl _)] at hv; cases hv
   ·rw [if_neg e]; exact hv
  ·simp only [Snap.marked] at hb'
   by_cases e : b = w.heap.size
   ·rw [if_pos e] at hb'
    rw [e, World.alloc_heap_new]; exact hb'
   ·rw [if_neg e] at hb'
    rw [old _ _ _ (Array.getElem?_eq_some_iff.1 (R.agree b o hb')).1]
    exact R.agree b o hb'
  ·have hlt := (Array.getElem?_eq_some_iff.1 hc).1
   refine ⟨?_, old _ _ _ hlt⟩
   simp only [Snap.marked]
   rw [if_neg (by omega)]
   exact hb'
 refine ⟨hb _ (Nat.le_refl _), hb _ (by omega), R1, ?_⟩
 have hn : H.marked w.heap.size (w.heap.size + 1) = none := by
  simp only [Snap.marked]
  rw [if_neg (by omega)]
  exact hb _ (by omega)
 refine R1.conv (fun b o v hv => qf3 (H := H.marked w.heap.size) (l := w.heap.size + 1) (rec := rec) (by intro c t x; rw [hn]; simp) hv) (fun b o hb' => ?_) (fun b c t x hc hb' => ?_) (R1.same.trans (same _ _)) rfl rfl
 ·simp only [Snap.bare, Snap.with] at hb'
  by_cases e : b = w.heap.size + 1
  ·rw [if_pos e] at hb'
   have := World.alloc_heap_new (w.alloc (.deferred (some []))) (.loop rec)
   rw [sz] at this
   rw [e, this]; exact hb'
  ·rw [if_neg e] at hb'
   rw [old _ _ _ (Array.getElem?_eq_some_iff.1 (R1.agree b o hb')).1]
   exact R1.agree b o hb'
 ·have hlt := (Array.getElem?_eq_some_iff.1 hc).1
  have hlt' := hlt
  rw [sz] at hlt'
  refine ⟨?_, old _ _ _ hlt⟩
  simp only [Snap.bare, Snap.with]
  rw [if_neg (by omega)]
  exact hb'
theorem qp6 {b : Frame} {a : Act} {k : List Item} {cs : List Frame} {w : World} {c : Code} : step P (lone (b.atR a (.code (.scope c) :: k)) cs w) = .next (lone (b.atR a (.code c :: .inScope c :: k)) cs w) :=
 step_lone_go (by simp [stepG, stepG.exec, Frame.atR])
theorem qlP {b : Frame} {a : Act} {k : List Item} {cs : List Frame} {w : World} {c : Code} : step P (lone (b.atR a (.inScope c :: k)) cs w) = .next (lone (b.atR a k) cs w) :=
 step_lone_go (by simp [stepG, stepG.exec, Frame.atR])
variable (hE : EnvG P E) (hI : qbm P E) (hm : P.follows .mixedOrders = true) (hG : ∀ m m', Steps P m m' -> G m' -> G m)
include hE hI hm hG
theorem qf5 : ∀ (n : Nat) (k : List It) (ts : List SVal) (h : Heap) (top : Nat), ex P E Q rs n k ts h top -> (∀ x ∈ k, ItOk x) -> ∀ (H : Snap) (ρ : Rho) (U : Top) a w b items cs, Rel E ρ H ts h U a w -> (∀ id, U id -> id < top) ->
  Lays P E Q rs G k H ρ U top b items cs -> G (lone (b.atR a items) cs w) := by
 intro n
 induction n using Nat.strongRecOn with
 | _ n ih =>
 cases n with
 | zero => intro k ts h top hx; simp only [ex] at hx
 | succ n =>
 intro k ts h top hx hok H ρ U a w b items cs R hU hL
 have ih1 := ih n (Nat.lt_succ_self n)
 have self : ∀ id, U id -> U id /\ ρ id = ρ id := fun id hid => ⟨hid, rfl⟩
 have okt : ∀ {x : It} {k : List It}, (∀ y ∈ x :: k, ItOk y) -> ∀ y ∈ k, ItOk y := fun h y hy => h y (List.mem_cons_of_mem _ hy)
 cases k with
 | nil =>
   obtain ⟨rfl, hro, hB⟩ := hL
   simp only [ex] at hx
   split at hx <;> try (exact hx.elim)
   rename_i hr
   exact hG _ _ (.one (stepR_end hro)) (hB H ρ U top ts h a w [] (.refl H) self (fun id hid => .inl hid) hU R hr hx)
 | cons it k =>
 have hok' := okt hok
 cases it with
 | blk id =>
   obtain ⟨r, rfl, hL⟩ := hL
   simp only [ex] at hx
   exact hG _ _ (.one stepR_inBlock) (ih1 k ts h top hx hok' H ρ U a w b r cs R hU hL)
 | scp c =>
   obtain ⟨r, rfl, hL⟩ := hL
   simp only [ex] at hx
   exact hG _ _ (.one qlP) (ih1 k ts h top hx hok' H ρ U a w b r cs R hU hL)
 | back J =>
   obtain ⟨r, c, rfl, hL, hJ⟩ := hL
   simp only [ex] at hx
   exact hJ H ρ U top ts h a w (.inl rfl) self (fun id hid => .inl hid) hU R hx
 | sback l J =>
   obtain ⟨r, c, y, rfl, _, hL, _⟩ := hL
   simp only [ex] at hx
   exact hG _ _ (.one qlP) (ih1 k ts h top hx hok' H ρ U a w b r cs R hU hL)
 | again c =>
   obtain ⟨r, rfl, hL⟩ := hL
   simp only [ex] at hx
   have hc := hok (.again c) (List.mem_cons_self ..)
   exact hG _ _ (.one stepR_inLoop) (hx.run hc hok' G hG H ρ U a w b r cs R hU hL)
 | frame ts' d rs' g =>
   obtain ⟨rfl, hF⟩ := hL
   simp only [ex] at hx
   split at hx <;> try (exact hx.elim)
   rename_i hr
   refine hG _ _ (.one (stepR_end hF.1)) (qlH hE hG hF R hr hx fun v H' b' items' cs' a' w' hv R' hL' => ?_)
   exact ih1 k _ h top hv hok' H' ρ U a' w' b' items' cs' R' hU hL'
 | rng id ts' ps as body =>
   simp only [ex] at hx
   obtain ⟨rfl, hro, h2, h3, _, H0, rec, b', a', cs', r, eH, p1, p2, p3, _, _, _, _, _, e2, hd, hl, hden, hid, h⟩ := hL
   have hF : qiR P E Q rs G H ts' k ρ U top b cs := ⟨hro, h2, h3, H0, _, rec, b', a', cs', r, eH, p1, p2, p3, e2, hd, hl, hden, hid, h⟩
   exact hG _ _ (.one (stepR_end hro)) (qlI hE hG hF R fun H' b' items' cs' a' w' R' hL' => ih1 k ts' _ top hx hok' H' ρ U a' w' b' items' cs' R' hU hL')
 | rnd id ts' d =>
   simp only [ex] at hx
   exact qpW hE hG hL R fun H' b' items' cs' a' w' R' hL' => ih1 k _ h top hx hok' H' ρ U a' w' b' items' cs' R' hU hL'
 | bgn id =>
   simp only [ex] at hx
   exact qpX hE hG hL R fun H' items' w' R' hL' => ih1 k ts h top hx hok' H' ρ U a w' b items' cs R' hU hL'
 | ops dr base i all l =>
   obtain ⟨r, rfl, hl, hb, hf, hL⟩ := hL
   cases l with
   | nil =>
     simp only [ex] at hx
     exact hG _ _ (.one stepR_region_end) (ih1 k ts h top hx hok' H ρ U a w b r cs R hU (hL.mono self (fun id hid => .inl hid) hb))
   | cons o l =>
     have hil : i < all.length := by
       by_cases hil : i < all.length
       · exact hil
       · rw [List.drop_eq_nil_of_le (by omega)] at hl; cases hl
     rw [List.drop_eq_getElem_cons hil] at hl
     simp only [List.cons.injEq] at hl
     obtain ⟨ho, hl⟩ := hl
     have ho' : all[i]? = some o := by rw [ho]; simp [hil]
     have hrange : List.range' i (o :: l).length = i :: List.range' (i + 1) l.length := by
       rw [List.length_cons, List.range'_succ]
     rw [hrange]
     have hrest : ∀ (ρ' : Rho) (V : Top), (∀ id, U id -> V id /\ ρ' id = ρ id) -> (∀ id, V id -> U id \/ own base i id) -> Lays P E Q rs G (.ops dr base (i + 1) all l :: k) H ρ' V top b (.inRegion all.toArray (List.range' (i + 1) l.length) :: r) cs := by
       intro ρ' V h1 h2
       refine ⟨r, rfl, hl, hb, fun j hj1 hj2 id hid => ⟨fun hv => ?_, (hf j (by omega) hj2 id hid).2⟩, hL.mono h1 (fun id hid => ?_) (Nat.le_refl _)⟩
       · rcases h2 id hv with q | q
         · exact (hf j (by omega) hj2 id hid).1 q
         · unfold own at hid q; omega
       · rcases h2 id hid with q | q
         · exact .inl q
         · unfold own at q; exact .inr (by omega)
     have hfi : ∀ id, own base i id -> ¬ U id := fun id hid => (hf i (Nat.le_refl _) hil id hid).1
     rcases ex_T hE ho' hx with hT | ⟨_, hg, f, args, fn, c, hs, hfn, hc, hx'⟩ | ⟨_, hg, id, args, ts', ps, as, body, ts2, hs, hr, hpa, hx'⟩ | ⟨_, hg, f, ms, id, rest, l2, d, ids, hs, hM, hl2, hd, hu, hap, hp1, hp2, hpre, hx'⟩
     · obtain ⟨ρ', ts', h', a', w', hst, hρ', R', hK⟩ := qlu (b := b) (k := r) (cs := cs) (rest := List.range' (i + 1) l.length) hE R ho' hfi hT
       refine hG _ _ hst (ih1 _ ts' h' top hK ?_ H ρ' _ a' w' b _ cs R' (fun id hid => ?_) (hrest ρ' _ (fun id hid => ⟨.inl hid, hρ' id fun q => hfi id q hid⟩) fun id hid => hid))
       · intro y hy
         rcases List.mem_cons.1 hy with rfl | hy
         · trivial
         · exact hok' y hy
       · rcases hid with hid | hid
         · exact hU id hid
         · exact (hf i (Nat.le_refl _) hil id hid).2
     ·
       obtain ⟨hfun, hreg⟩ := hI f fn hfn
       have hout := qfV hE.toEnvOk hE.call R o
       rw [hs] at hout
       obtain ⟨vs, r1, r2, r3⟩ := hout
       have hw := qdz R hg
       refine hG _ _ (.one (qli (by simpa using ho') hw r1)) ?_
       let b' : Frame := { (default : Frame) with fn := f, kind := .normal }
       have henter : Frame.enter P f vs.toArray .normal = b'.atR { tmps := vs.toArray ++ Array.replicate (fn.ntmps - vs.toArray.size) undef, defers := [] } [.code c] := by
         simp [Frame.enter, Frame.atR, hfun, hc, b']
         rfl
       rw [henter]
       have Rb : Rel E ρ H.bare ts h U { a with defers := [] } w := R.bare rfl rfl
       refine ih1 _ _ h top hx' ?_ H.bare ρ U _ w b' _ _ (qiT (RepV.extR (H := H) (H' := H.bare) (t := U) (fun _ _ => rfl) (fun _ _ _ h => h) _ r3 r2) r3 Rb.hids Rb.agree Rb.heap Rb.glob Rb.same rfl fn.ntmps) hU ?_
       · intro y hy
         rcases List.mem_cons.1 hy with rfl | hy
         · exact hreg c hc
         · rcases List.mem_cons.1 hy with rfl | hy
           · trivial
           · rcases List.mem_cons.1 hy with rfl | hy
             · trivial
             · exact hok' y hy
       · refine ⟨[], rfl, rfl, rfl, rfl, ⟨fn, hfun, rfl⟩, H, b, a, cs, all.toArray, i, List.range' (i + 1) l.length, r, rfl, rfl, ⟨o, by simpa using ho', rfl⟩, R.defers, R.len, R.den, R.ids, hrest ρ U self fun id hid => .inl hid⟩
     ·
       have hout := qfV hE.toEnvOk hE.call R o
       rw [hs] at hout
       obtain ⟨vs, r1, r2, _, r3, hrun⟩ := hout
       have hw := qdz R hg
       obtain ⟨_, rec, e1, e2, e3, e4, e5, e6, e7, e8, e9, e10⟩ := hL.toRng hr
       obtain ⟨okA, okB⟩ := qlN hr hok'
       have hrec : w.heap[(ρ id).b]? = some (.loop rec) := R.agree _ _ e1
       have R0 : Rel E ρ H ts' h U { tmps := rec.tmps, defers := [] } w := ⟨e8, e9, e10, R.hids, R.agree, R.heap, e4.symm, R.glob, R.same⟩
       obtain ⟨q1, R2⟩ := qlO ps args hpa r1 r2 R0
       have hrun' := hrun rec hrec (by rw [e5]; simp [q1])
       have efold : (rec.params.zip vs.toArray).foldl (fun tmps (t, a) => tmps.setIfInBounds t a) rec.tmps = (ps.zip vs).foldl (fun tmps x => tmps.setIfInBounds x.1 x.2) rec.tmps := by
         rw [e5]; simp
       rw [efold] at hrun'
       refine hG _ _ (.one (qp4 (by simpa using ho') hw hrun')) ?_
       let b' : Frame := { (default : Frame) with fn := rec.fn, kind := .normal, roundOf := some (ρ id).b }
       have hround : Frame.round (ρ id).b rec.fn ((ps.zip vs).foldl (fun tmps x => tmps.setIfInBounds x.1 x.2) rec.tmps) rec.assign rec.body .normal =
           b'.atR { tmps := (ps.zip vs).foldl (fun tmps x => tmps.setIfInBounds x.1 x.2) rec.tmps, defers := [] } [.code as, .beginRound, .code body] := by
         simp [Frame.round, Frame.atR, b', e6, e7]
       rw [hround]
       refine ih1 _ _ h top hx' ?_ H ρ U _ w b' _ _ R2 hU ?_
       · intro y hy
         rcases List.mem_cons.1 hy with rfl | hy
         · exact okA
         · rcases List.mem_cons.1 hy with rfl | hy
           · trivial
           · rcases List.mem_cons.1 hy with rfl | hy
             · exact okB
             · rcases List.mem_cons.1 hy with rfl | hy
               · trivial
               · rcases List.mem_cons.1 hy with rfl | hy
                 · trivial
                 · exact hok' y hy
       · refine ⟨_, rfl, _, rec, rfl, rfl, r3, e1, e2, _, rfl, rfl, rfl, rfl, r3, H, rec, b, a, cs, all.toArray, i, List.range' (i + 1) l.length, r, ?_, e1, e2, e3, rfl, ⟨o, by simpa using ho', rfl⟩, R.defers, R.len, R.den, R.ids, hrest ρ U self fun id hid => .inl hid⟩
         simp only [Snap.with, Snap.bare, e4]
     ·
       obtain ⟨x, ρ', w', u, q1, hst, q2, q3, q4, q5⟩ := qpS (b := b) (k := r) (cs := cs) (rest' := List.range' (i + 1) l.length) hE R ho' hfi hg hs hM hl2 hd hu hap hp1 hp2 hpre
       obtain ⟨v', k1, k2, k3⟩ := qlF (hx' x q1)
       refine hG _ _ hst (ih1 _ _ _ top k1 ?_ H ρ' _ _ w' b _ cs (q5.set o.dst (k2 q3) (k3 q4)) (fun id hid => ?_) (hrest ρ' _ (fun id hid => ⟨.inl hid, q2 id fun q => hfi id q hid⟩) fun id hid => hid))
       · intro y hy
         rcases List.mem_cons.1 hy with rfl | hy
         · trivial
         · exact hok' y hy
       · rcases hid with hid | hid
         · exact hU id hid
         · exact (hf i (Nat.le_refl _) hil id hid).2
 | code c =>
   obtain ⟨r, rfl, hL⟩ := hL
   have hc := hok (.code c) (List.mem_cons_self ..)
   simp only [ItOk] at hc
   cases c with
   | skip =>
     simp only [ex] at hx
     exact hG _ _ (.one stepR_skip) (ih1 k ts h top hx hok' H ρ U a w b r cs R hU hL)
   | label l =>
     refine hG _ _ (.one stepR_label) ?_
     simp only [ex] at hx
     split at hx
     · rename_i y c k'
       split at hx
       · obtain ⟨r1, rfl, r2, rfl, hL'⟩ := hL
         exact hx.2.run hx.1 (hok' (.code y) (List.mem_cons_self ..)) (hok' (.scp c) (List.mem_cons_of_mem _ (List.mem_cons_self ..))) (fun x hx => hok' x (List.mem_cons_of_mem _ (List.mem_cons_of_mem _ hx))) G hG H ρ U a w b r2 cs R hU hL'
       · exact ih1 _ ts h top hx hok' H ρ U a w b r cs R hU hL
     · exact ih1 _ ts h top hx hok' H ρ U a w b r cs R hU hL
   | seq x y =>
     simp only [ex] at hx
     simp only [qE, Bool.and_eq_true] at hc
     refine hG _ _ (.one stepR_seq) (ih1 _ ts h top hx ?_ H ρ U a w b _ cs R hU ⟨_, rfl, _, rfl, hL⟩)
     intro z hz
     rcases List.mem_cons.1 hz with rfl | hz
     · exact hc.1
     · rcases List.mem_cons.1 hz with rfl | hz
       · exact hc.2
       · exact hok' z hz
   | block id x =>
     simp only [ex] at hx
     refine hG _ _ (.one stepR_block) (ih1 _ ts h top hx ?_ H ρ U a w b _ cs R hU ⟨_, rfl, _, rfl, hL⟩)
     intro z hz
     rcases List.mem_cons.1 hz with rfl | hz
     · exact hc
     · rcases List.mem_cons.1 hz with rfl | hz
       · trivial
       · exact hok' z hz
   | scope x =>
     simp only [ex] at hx
     refine hG _ _ (.one qp6) (ih1 _ ts h top hx ?_ H ρ U a w b _ cs R hU ⟨_, rfl, _, rfl, hL⟩)
     intro z hz
     rcases List.mem_cons.1 hz with rfl | hz
     · exact hc
     · rcases List.mem_cons.1 hz with rfl | hz
       · exact hc
       · exact hok' z hz
   | goto l =>
     simp only [ex] at hx
     split at hx
     · rename_i J hp
       obtain ⟨y, c, r', h1, h2⟩ := hL.jump hp
       exact hG _ _ (Steps.head (stepR_goto h1) (Steps.head stepR_seq (.one stepR_skip))) (h2 U top ts h a w (fun id hid => hid) (fun id hid => .inl hid) hU R hx)
     split at hx <;> try (exact hx.elim)
     rename_i k' hp
     obtain ⟨items', h1, h2⟩ := hL.goto hp
     refine hG _ _ (.one (stepR_goto h1)) (ih1 k' ts h top hx ?_ H ρ U a w b items' cs R hU h2)
     have : ∀ (k k' : List It), qaT l k = some k' -> (∀ y ∈ k, ItOk y) -> ∀ y ∈ k', ItOk y := by
       intro k
       induction k with
       | nil => intro k' h; simp [qaT] at h
       | cons z k ihk =>
         intro k' h hk y hy
         have hk' : ∀ y ∈ k, ItOk y := fun y hy => hk y (List.mem_cons_of_mem _ hy)
         cases z <;> simp only [qaT] at h
         case scp c =>
           split at h
           · rename_i rest hq
             cases h
             have hcc := hk (.scp c) (List.mem_cons_self ..)
             rcases List.mem_cons.1 hy with rfl | hy
             · exact qpU hq hcc
             · rcases List.mem_cons.1 hy with rfl | hy
               · exact hcc
               · exact hk' y hy
           · exact ihk _ h hk' y hy
         case frame => cases h
         case rng => cases h
         case rnd => cases h
         case bgn => cases h
         case sback => split at h <;> cases h
         all_goals exact ihk _ h hk' y hy
     exact this k k' hp hok'
   | loop x =>
     simp only [ex] at hx
     exact hG _ _ (.one stepR_loop) (hx.run hc hok' G hG H ρ U a w b r cs R hU hL)
   | exit id =>
     simp only [ex] at hx
     split at hx <;> try (exact hx.elim)
     rename_i k' hp
     obtain ⟨items', h1, h2⟩ := hL.exit hp
     refine hG _ _ (.one (stepR_exit h1)) (ih1 k' ts h top hx ?_ H ρ U a w b items' cs R hU h2)
     have : ∀ (k k' : List It), qa0 id k = some k' -> ∀ y ∈ k', y ∈ k := by
       intro k
       induction k with
       | nil => intro k' h; simp [qa0] at h
       | cons z k ihk =>
         intro k' h y hy
         cases z <;> simp only [qa0] at h
         case blk j =>
           split at h
           · cases h; exact List.mem_cons_of_mem _ hy
           · exact List.mem_cons_of_mem _ (ihk _ h y hy)
         case frame => cases h
         case rng => cases h
         case rnd => cases h
         case bgn => cases h
         all_goals exact List.mem_cons_of_mem _ (ihk _ h y hy)
     exact fun y hy => hok' y (this k k' hp y hy)
   | rangeFunc f ps as body =>
     simp only [ex] at hx
     simp only [qE, Bool.and_eq_true] at hc
     split at hx <;> try (exact hx.elim)
     rename_i hfl
     split at hx <;> try (exact hx.elim)
     rename_i g first caps hf
     split at hx <;> try (exact hx.elim)
     rename_i fn hfn
     split at hx <;> try (exact hx.elim)
     rename_i c hcb hres
     obtain ⟨hfun, hreg⟩ := hI g fn hfn
     have hro := hL.base_none hfl
     have hd := R.den1 f
     have hdi := R.ids1 f
     rw [hf] at hd hdi
     simp only [Den, Rep, List.cons.injEq, and_true] at hd
     obtain ⟨fs, cs0, hv, h1, h2⟩ := hd
     have hcall := hE.call g (.inr (by simp [Env.into, hfn]))
     let rec' : Loop := { state := .ready, pending := none, fn := b.fn, tmps := a.tmps, params := ps, assign := as, body, defers := w.heap.size }
     obtain ⟨n1, n2, R1, R2⟩ := qp5 R rec'
     have he := run_enterLoop_outer (P := P) (w := w) b.fn a.tmps ps as body
     rw [<- hro] at he
     let yv : Value := .func (.yield (w.heap.size + 1)) #[] #[]
     have hrs : (resolve a.eval (rangeCall f (w.heap.size + 1)) 0).run P ((w.alloc (.deferred (some []))).alloc (.loop rec')) =
         .ok { target := .fn (.func g) cs0.toArray, args := fs.toArray ++ #[yv] } ((w.alloc (.deferred (some []))).alloc (.loop rec')) := by
       simp only [rangeCall, resolve, hv, Deferred.ofValue]
       rw [Sem.run_pure]
       simp [yv]
       rfl
     have hinv : (invoke (.fn (.func g) cs0.toArray) (fs.toArray ++ #[yv])).run P ((w.alloc (.deferred (some []))).alloc (.loop rec')) =
         .ok (.enter g (fs ++ (yv :: cs0)).toArray) ((w.alloc (.deferred (some []))).alloc (.loop rec')) := by
       have ea : fs.toArray ++ #[yv] ++ cs0.toArray = (fs ++ (yv :: cs0)).toArray := by
         apply Array.ext'
         simp
       simp only [invoke, ea]
       exact hcall _ _
     refine hG _ _ (.one (stepR_rangeFunc he hrs hinv)) ?_
     let b' : Frame := { (default : Frame) with fn := g, kind := .normal }
     have henter : Frame.enter P g (fs ++ (yv :: cs0)).toArray .normal = b'.atR { tmps := (fs ++ (yv :: cs0)).toArray ++ Array.replicate (fn.ntmps - (fs ++ (yv :: cs0)).toArray.size) undef, defers := [] } [.code c] := by
       simp [Frame.enter, Frame.atR, hfun, hcb, b']
       rfl
     rw [henter]
     let ρ' : Rho := fun i => if i = top then ⟨w.heap.size + 1, 0, 0, true⟩ else ρ i
     have htop : ¬ U top := fun h => Nat.lt_irrefl _ (hU top h)
     have hρ : ∀ i, U i -> ρ' i = ρ i := fun i hi => if_neg (by rintro rfl; exact htop hi)
     have R3 := R2.grow (Same.refl _) (fun b hb => rfl) (V := fun i => i = top) (l := []) hρ (by intro p hp; cases hp) (by intro p hp; cases hp) (by intro p hp; cases hp) .nil
     have self' : ∀ id, U id -> (both U fun i => i = top) id /\ ρ' id = ρ id := fun id hid => ⟨.inl hid, hρ id hid⟩
     have hargs : RepV ρ' ((H.marked w.heap.size).with (w.heap.size + 1) (.loop rec')).bare (first ++ (.yld top :: caps)) (fs ++ (yv :: cs0)) := by
       have hr : ∀ b o v, qz H b o = some v -> qz ((H.marked w.heap.size).with (w.heap.size + 1) (.loop rec')).bare b o = some v := by
         intro b o v hv
         refine qf3 (H := H.marked w.heap.size) (l := w.heap.size + 1) (rec := rec') ?_ ?_
         · intro c t x
           simp only [Snap.marked]
           rw [if_neg (by omega), n2]
           simp
         · unfold qz at hv
           unfold qz Snap.marked
           dsimp only
           by_cases e : b = w.heap.size
           · rw [e, n1] at hv; cases hv
           · rw [if_neg e]; exact hv
       have app : ∀ (l1 l2 : List SVal) (v1 v2 : List Value) {ρ : Rho} {H : Snap}, RepV ρ H l1 v1 -> RepV ρ H l2 v2 -> RepV ρ H (l1 ++ l2) (v1 ++ v2) := by
         intro l1
         induction l1 with
         | nil => intro l2 v1 v2 ρ H g1 g2; simp only [RepV] at g1; subst g1; exact g2
         | cons s l ih =>
           intro l2 v1 v2 ρ H g1 g2
           obtain ⟨v, ws, rfl, g3, g4⟩ := RepV_cons.1 g1
           exact RepV_cons.2 ⟨v, ws ++ v2, rfl, g3, ih l2 ws v2 g4 g2⟩
       refine app _ _ _ _ (RepV.extR (t := U) hρ hr _ hdi.1 h1) (RepV_cons.2 ⟨_, _, rfl, ?_, RepV.extR (t := U) hρ hr _ hdi.2 h2⟩)
       simp [Den, Rep, ρ', yv]
     have hargI : IdsLtL (both U fun i => i = top) (first ++ (.yld top :: caps)) := by
       have appI : ∀ (l1 l2 : List SVal) {t : Top}, IdsLtL t l1 -> IdsLtL t l2 -> IdsLtL t (l1 ++ l2) := by
         intro l1
         induction l1 with
         | nil => intro l2 t _ g2; exact g2
         | cons s l ih => intro l2 t g1 g2; exact ⟨g1.1, ih l2 g1.2 g2⟩
       exact appI _ _ (IdsLtL.mono (fun _ => .inl) _ hdi.1) ⟨.inr rfl, IdsLtL.mono (fun _ => .inl) _ hdi.2⟩
     refine ih1 _ _ h (top + 8) hx ?_ _ ρ' (both U fun i => i = top) _ _ b' _ _ (qiT hargs hargI R3.hids R3.agree R3.heap R3.glob R3.same rfl fn.ntmps) (fun id hid => ?_) ?_
     · intro y hy
       rcases List.mem_cons.1 hy with rfl | hy
       · exact hreg c hcb
       · rcases List.mem_cons.1 hy with rfl | hy
         · exact ⟨hc.1, hc.2⟩
         · exact hok' y hy
     · rcases hid with hid | rfl
       · have := hU id hid; omega
       · omega
     · have eb : (ρ' top).b = w.heap.size + 1 := by simp [ρ']
       refine ⟨[], rfl, rfl, rfl, rfl, ⟨fn, hfun, hres⟩, .inr rfl, H.marked w.heap.size, rec', b, { a with defers := { target := .collected w.heap.size, args := #[] } :: a.defers }, cs, r, ?_, ?_, rfl, rfl, rfl, rfl, ?_, rfl, rfl, ?_, R1.defers, R1.len, fun j => Den.ext hρ (fun _ _ h => h) (R1.ids j) (R1.den j), fun j => IdsLt.mono (fun _ => .inl) _ (R1.ids j), ?_⟩
       · rw [eb]
       · rw [eb]
         simp only [Snap.marked]
         rw [if_neg (by omega)]
         exact n2
       · simp [rec']
       · rw [eb]; rfl
       · exact Lays.mono (hL.grow hfl (.mark (.refl H) n1)) self' (fun id hid => hid.elim .inl fun e => .inr (by rw [e]; exact Nat.le_refl _)) (by omega)
   | ret =>
     simp only [ex] at hx
     split at hx <;> try (exact hx.elim)
     rename_i hin
     have hret := hL.ret hin
     split at hx
     · rename_i ts' d rs' g k' hp
       rw [hp] at hret
       split at hx <;> try (exact hx.elim)
       rename_i hr
       have hmem : ∀ (k k' : List It) {x : List SVal × Option Nat × List ResultVar × Bool}, qdu k = some (x.1, x.2.1, x.2.2.1, x.2.2.2, k') -> ∀ y ∈ k', y ∈ k := by
         intro k
         induction k with
         | nil => intro k' x h; simp [qdu] at h
         | cons z k ihk =>
           intro k' x h y hy
           cases z <;> simp only [qdu] at h
           case frame => cases h; exact List.mem_cons_of_mem _ hy
           case rng =>
             simp only [Option.some.injEq, Prod.mk.injEq] at h
             obtain ⟨_, _, _, _, rfl⟩ := h
             exact List.mem_cons_of_mem _ hy
           case rnd => cases h
           all_goals exact List.mem_cons_of_mem _ (ihk _ h y hy)
       have hok2 : ∀ y ∈ k', ItOk y := fun y hy => hok' y (hmem k k' (x := (ts', d, rs', g)) hp y hy)
       rcases hret with hret | ⟨rfl, rfl, hret⟩
       · refine hG _ _ (.one (stepR_ret hret.1)) ?_
         exact qlH hE hG hret R hr hx fun v H' b' items' cs' a' w' hv R' hL' => ih1 k' _ h top hv hok2 H' ρ U a' w' b' items' cs' R' hU hL'
       · refine hG _ _ (.one (stepR_ret hret.1)) ?_
         exact qlI hE hG hret R fun H' b' items' cs' a' w' R' hL' => ih1 k' _ h top hx hok2 H' ρ U a' w' b' items' cs' R' hU hL'
     · rename_i hp
       rw [hp] at hret
       split at hx <;> try (exact hx.elim)
       rename_i hr
       exact hG _ _ (.one (stepR_ret hret.1)) (hret.2 H ρ U top ts h a w _ (.refl H) self (fun id hid => .inl hid) hU R hr hx)
   | cond x y z =>
     simp only [ex] at hx
     simp only [qE, Bool.and_eq_true] at hc
     have hd := R.den1 x
     have go : ∀ (t : Bool) (K : Code), a.eval x = .bool t -> (if t then y else z) = K -> qE K = true -> ex P E Q rs n (.code K :: k) ts h top -> G (lone (b.atR a (.code (.cond x y z) :: r)) cs w) := by
       intro t K h1 h2 h3 h4
       refine hG _ _ (.one (stepR_cond h1)) ?_
       rw [h2]
       refine ih1 _ ts h top h4 ?_ H ρ U a w b _ cs R hU ⟨_, rfl, hL⟩
       intro q hq
       rcases List.mem_cons.1 hq with rfl | hq
       · exact h3
       · exact hok' q hq
     split at hx <;> try (exact hx.elim)
     · rename_i he
       rw [he] at hd
       simp only [Den, Rep, List.cons.injEq, and_true] at hd
       exact go true y hd rfl hc.1 hx
     · rename_i he
       rw [he] at hd
       simp only [Den, Rep, List.cons.injEq, and_true] at hd
       exact go false z hd rfl hc.2 hx
     · rename_i bb he
       rw [he] at hd
       simp only [Den, Rep, List.cons.injEq, and_true] at hd
       cases bb
       · exact go false z hd rfl hc.2 (hx.2 rfl)
       · exact go true y hd rfl hc.1 (hx.1 rfl)
   | region id ops dr =>
     simp only [ex] at hx
     split at hx <;> try (exact hx.elim)
     rename_i hdyn
     have hsz : ops.toList.length = ops.size := by simp
     cases dr with
     | false =>
       refine hG _ _ (.one stepR_region) (ih1 _ ts h _ hx ?_ H ρ U a w b _ cs R (fun id hid => Nat.lt_of_lt_of_le (hU id hid) (Nat.le_add_right ..)) ⟨r, by simp [List.range_eq_range'], by simp, Nat.le_add_right .., ?_, hL⟩)
       · intro y hy
         rcases List.mem_cons.1 hy with rfl | hy
         · trivial
         · exact hok' y hy
       · intro j _ hj id hid
         unfold own at hid
         refine ⟨fun hu => ?_, by rw [hsz] at hj; omega⟩
         have := hU id hu
         omega
     | true =>
       simp only [qE] at hc
       have hO : qcO ops.toList ts = true := by
         cases hrb : retB ops.toList with
         | true =>
           simp only [hrb] at hdyn
           exact hdyn
         | false =>
           rw [hrb, Bool.or_false] at hc
           exact qp1 hc ts
       refine hG _ _ (.one stepR_region_draw) ?_
       have hfold := qlM hE n 0 (all := ops.toList) (by simpa using hx)
       simp only [Nat.sub_zero, <- List.range_eq_range'] at hfold
       simp only [Region.schedule, hm, Bool.true_or, if_true, Region.linearise]
       have hrem0 : rem ops.toList.length (Array.replicate ops.size false) = List.range ops.toList.length := by
         unfold rem
         rw [List.filter_eq_self]
         intro j hj
         have hj := List.mem_range.1 hj
         rw [hsz] at hj
         simp [hj]
       have := qp3 (K := fun ts' h' => ∃ m, m < n /\ ex P E Q rs m k ts' h' (top + 8 * ops.size)) (b := b) (r := r) (cs := cs) (ρs := ρ) (Us := U) hE hG hO
         (fun ρ' V ts' h' a' w' h1 h2 R' ⟨m, hmn, hx'⟩ => by
           refine hG _ _ (.one stepR_region_end) (ih m (by omega) k ts' h' _ hx' hok' H ρ' V a' w' b r cs R' (fun id hid => ?_) (hL.mono h1 (fun id hid => ?_) (Nat.le_add_right ..)))
           · rcases h2 id hid with q | q
             · exact Nat.lt_of_lt_of_le (hU id q) (Nat.le_add_right ..)
             · rw [hsz] at q; exact q.2
           · rcases h2 id hid with q | q
             · exact .inl q
             · exact .inr q.1)
         ops.size (w.tape w.drawn (.order b.fn id)) (Array.replicate ops.size false) (by simp) (fun m o hmm => by exfalso; rw [Array.getD_eq_getD_getElem?, Array.getElem?_replicate] at hmm; split at hmm <;> simp at hmm) (by rw [hrem0]; simp) ρ U ts h a { w with drawn := w.drawn + 1 } self (fun id hid => .inl hid)
         (fun j _ id hid hu => by have := hU id hu; unfold own at hid; omega) (fun j id hid hu => by have := hU id hu; unfold own at hid; omega) (R.world rfl ⟨rfl, rfl, rfl, Nat.le_refl _⟩) (fun _ _ => rfl) (by rw [hrem0]; exact hfold)
       simpa using this
   | _ => simp only [ex] at hx
end
end Go.Sx
end
section
namespace Go.Sx
section
variable {P : Program} {E : Env} {ρ : Rho} {h : Heap} {U : Top} {w w' : World} {ts : List SVal} {a : Act}
theorem qf6 {Hs : Snap} (hom : E.Ω = Om.real) (R : Rel E ρ Hs ts h U a w') : ∀ (l m : List SVal) {ws : List Value}, qa8 E h l m -> qas (qM l) = true -> RepV ρ Hs l ws -> ∀ b, ∃ ρ' : Rho,
  RepV ρ' (qad w) (place.placeL E b m).1 ws /\ IdsLtL (fun i => b <= i) (place.placeL E b m).1 /\ (∀ p ∈ (place.placeL E b m).2, b <= p.1 /\ IdsLt noId p.2 /\ (qaB ρ' p.1 p.2 \/ ∃ arr t vs, Lies ρ' (qad w) w' p.1 p.2 arr t vs)) /\ (place.placeL E b m).2.Pairwise (ApartR ρ') /\
  (∀ p ∈ (place.placeL E b m).2, (ρ' p.1).g = false -> Hs (ρ' p.1).b = none /\ ∃ id ∈ qM l, (ρ id).g = false /\ (ρ' p.1).b = (ρ id).b /\ look h id ≠ .junk)
 | [], [], ws, _, _, hr, b => ⟨ρ0, hr, trivial, by intro p hp; simp [place.placeL] at hp, .nil, by intro p hp; simp [place.placeL] at hp⟩
 | [], _ :: _, ws, hf, _, _, b => by simp [qa8] at hf
 | _ :: _, [], ws, hf, _, _, b => by simp [qa8] at hf
 | s :: l, t :: m, ws, hf, hnd, hr, b => by
   obtain ⟨v, vs, rfl, hv, hr⟩ := RepV_cons.1 hr
   obtain ⟨hf1, hf2⟩ := hf
   have hnd' : qas (qM l) = true := by
     cases s <;> simp only [qM] at hnd <;> first
       | exact hnd
       | (simp only [qas, Bool.and_eq_true] at hnd; exact hnd.2)
   have hsub : ∀ id ∈ qM l, id ∈ qM (s :: l) := by
     intro id hid
     cases s <;> simp only [qM] <;> first | exact hid | exact List.mem_cons_of_mem _ hid
   have plain : (∀ k ys cap, t ≠ .fr k ys cap) -> (∀ q cap, t ≠ .fra q cap) -> qa3 s t -> ∃ ρ' : Rho,
   RepV ρ' (qad w) (place.placeL E b (t :: m)).1 (v :: vs) /\ IdsLtL (fun i => b <= i) (place.placeL E b (t :: m)).1 /\ (∀ p ∈ (place.placeL E b (t :: m)).2, b <= p.1 /\ IdsLt noId p.2 /\ (qaB ρ' p.1 p.2 \/ ∃ arr t vs, Lies ρ' (qad w) w' p.1 p.2 arr t vs)) /\ (place.placeL E b (t :: m)).2.Pairwise (ApartR ρ') /\
   (∀ p ∈ (place.placeL E b (t :: m)).2, (ρ' p.1).g = false -> Hs (ρ' p.1).b = none /\ ∃ id ∈ qM (s :: l), (ρ id).g = false /\ (ρ' p.1).b = (ρ id).b /\ look h id ≠ .junk) := by
     intro hne hne2 hfv
     have hpl : place.placeL E b (t :: m) = (t :: (place.placeL E b m).1, (place.placeL E b m).2) := by
       cases t <;> first | rfl | exact absurd rfl (hne _ _ _) | exact absurd rfl (hne2 _ _)
     rw [hpl]
     obtain ⟨ρ', h1, h2, h3, h4, h5⟩ := qf6 hom R l m hf2 hnd' hr b
     refine ⟨ρ', RepV_cons.2 ⟨v, vs, rfl, qiG hfv hv, h1⟩, ⟨(qiJ s t hfv).of_no, h2⟩, h3, h4, fun p hp hg => ?_⟩
     obtain ⟨q1, id, q2, q3⟩ := h5 p hp hg
     exact ⟨q1, id, hsub id q2, q3⟩
   cases t with
   | fr k ys cap =>
     obtain ⟨pos, p1, p2, p3, p4⟩ := qiH hom R hf1 hv
     obtain ⟨ρ1, h1, h2, h3, h4, h5⟩ := qf6 hom R l m hf2 hnd' hr (b + 1)
     let ρ' : Rho := fun i => if i = b then pos else ρ1 i
     have e1 : ρ' b = pos := by simp [ρ']
     have e2 : ∀ i, b + 1 <= i -> ρ' i = ρ1 i := fun i hi => by
       have : i ≠ b := by omega
       simp [ρ', this]
     have hpl : place.placeL E b (.fr k ys cap :: m) = (.sl b 1 (.l 0) (.s (E.Ω.len ys)) (.s cap) :: (place.placeL E (b + 1) m).1, (b, .seq k ys) :: (place.placeL E (b + 1) m).2) := rfl
     rw [hpl]
     obtain ⟨d1, d2⟩ := p1 ρ' b e1
     refine ⟨ρ', RepV_cons.2 ⟨v, vs, rfl, d1, RepV.ext e2 (fun _ _ h => h) _ h2 h1⟩, ⟨Nat.le_refl _, IdsLtL.mono (fun i hi => by omega) _ h2⟩, fun p hp => ?_, ?_, fun p hp hg => ?_⟩
     · rcases List.mem_cons.1 hp with rfl | hp
       · exact ⟨Nat.le_refl _, trivial, d2⟩
       · obtain ⟨q1, q2, q3⟩ := h3 p hp
         refine ⟨by omega, q2, ?_⟩
         rcases q3 with hg | ⟨arr, t, us, li⟩
         · exact .inl ⟨by rw [e2 _ q1]; exact hg.1, by rw [e2 _ q1]; exact hg.2.1, hg.2.2⟩
         · exact .inr ⟨arr, t, us, li.kept (U := fun i => b + 1 <= i) q1 q2.of_no e2 rfl⟩
     · rw [List.pairwise_cons]
       refine ⟨fun p hp => ⟨by have := (h3 p hp).1; dsimp only; omega, fun g1 g2 => ?_⟩, ?_⟩
       · dsimp only at g1 ⊢
         rw [e1] at g1 ⊢
         have hp1 := (h3 p hp).1
         rw [e2 _ hp1] at g2 ⊢
         obtain ⟨_, id', q2, q3, q4, q5⟩ := h5 p hp g2
         cases hs : s with
         | sl id es off len c =>
           obtain ⟨r1, r2, r3⟩ := p3 id es off len c hs g1
           rw [r2, q4]
           refine qcP R r3 q5 ?_ r1 q3
           rintro rfl
           subst hs
           simp only [qM, qas, Bool.and_eq_true, Bool.not_eq_true', List.any_eq_false] at hnd
           have := hnd.1 id q2
           simp at this
         | _ =>
           have : pos.g = true := p4 (fun id es off len c e => by rw [hs] at e; cases e)
           rw [this] at g1
           cases g1
       · refine List.Pairwise.imp_of_mem (fun {p q} hp hq hpq => ?_) h4
         exact ⟨hpq.1, by rw [e2 _ (h3 p hp).1, e2 _ (h3 q hq).1]; exact hpq.2⟩
     · rcases List.mem_cons.1 hp with rfl | hp
       · dsimp only at hg ⊢
         rw [e1] at hg ⊢
         refine ⟨p2 hg, ?_⟩
         cases hs : s with
         | sl id es off len c =>
           obtain ⟨r1, r2, r3⟩ := p3 id es off len c hs hg
           exact ⟨id, by simp [qM], r1, r2, r3⟩
         | _ =>
           have : pos.g = true := p4 (fun id es off len c e => by rw [hs] at e; cases e)
           rw [this] at hg
           cases hg
       · have hp1 := (h3 p hp).1
         rw [e2 _ hp1] at hg ⊢
         obtain ⟨q1, id, q2, q3⟩ := h5 p hp hg
         exact ⟨q1, id, hsub id q2, q3⟩
   | fra q cap =>
     obtain ⟨pos, p1, p2, p3, p4⟩ := qiI hom R hf1 hv
     obtain ⟨ρ1, h1, h2, h3, h4, h5⟩ := qf6 hom R l m hf2 hnd' hr (b + 1)
     let ρ' : Rho := fun i => if i = b then pos else ρ1 i
     have e1 : ρ' b = pos := by simp [ρ']
     have e2 : ∀ i, b + 1 <= i -> ρ' i = ρ1 i := fun i hi => by
       have : i ≠ b := by omega
       simp [ρ', this]
     have hpl : place.placeL E b (.fra q cap :: m) = (.sl b q.es (.l 0) (.s (lenO E q)) (.s cap) :: (place.placeL E (b + 1) m).1, (b, .sab q) :: (place.placeL E (b + 1) m).2) := rfl
     rw [hpl]
     obtain ⟨d1, d2⟩ := p1 ρ' b e1
     refine ⟨ρ', RepV_cons.2 ⟨v, vs, rfl, d1, RepV.ext e2 (fun _ _ h => h) _ h2 h1⟩, ⟨Nat.le_refl _, IdsLtL.mono (fun i hi => by omega) _ h2⟩, fun p hp => ?_, ?_, fun p hp hg => ?_⟩
     · rcases List.mem_cons.1 hp with rfl | hp
       · exact ⟨Nat.le_refl _, trivial, d2⟩
       · obtain ⟨q1, q2, q3⟩ := h3 p hp
         refine ⟨by omega, q2, ?_⟩
         rcases q3 with hg | ⟨arr, t, us, li⟩
         · exact .inl ⟨by rw [e2 _ q1]; exact hg.1, by rw [e2 _ q1]; exact hg.2.1, hg.2.2⟩
         · exact .inr ⟨arr, t, us, li.kept (U := fun i => b + 1 <= i) q1 q2.of_no e2 rfl⟩
     · rw [List.pairwise_cons]
       refine ⟨fun p hp => ⟨by have := (h3 p hp).1; dsimp only; omega, fun g1 g2 => ?_⟩, ?_⟩
       · dsimp only at g1 ⊢
         rw [e1] at g1 ⊢
         have hp1 := (h3 p hp).1
         rw [e2 _ hp1] at g2 ⊢
         obtain ⟨_, id', q2, q3, q4, q5⟩ := h5 p hp g2
         cases hs : s with
         | sl id es off len c =>
           obtain ⟨r1, r2, r3⟩ := p3 id es off len c hs g1
           rw [r2, q4]
           refine qcP R r3 q5 ?_ r1 q3
           rintro rfl
           subst hs
           simp only [qM, qas, Bool.and_eq_true, Bool.not_eq_true', List.any_eq_false] at hnd
           have := hnd.1 id q2
           simp at this
         | _ =>
           have : pos.g = true := p4 (fun id es off len c e => by rw [hs] at e; cases e)
           rw [this] at g1
           cases g1
       · refine List.Pairwise.imp_of_mem (fun {p q} hp hq hpq => ?_) h4
         exact ⟨hpq.1, by rw [e2 _ (h3 p hp).1, e2 _ (h3 q hq).1]; exact hpq.2⟩
     · rcases List.mem_cons.1 hp with rfl | hp
       · dsimp only at hg ⊢
         rw [e1] at hg ⊢
         refine ⟨p2 hg, ?_⟩
         cases hs : s with
         | sl id es off len c =>
           obtain ⟨r1, r2, r3⟩ := p3 id es off len c hs hg
           exact ⟨id, by simp [qM], r1, r2, r3⟩
         | _ =>
           have : pos.g = true := p4 (fun id es off len c e => by rw [hs] at e; cases e)
           rw [this] at hg
           cases hg
       · have hp1 := (h3 p hp).1
         rw [e2 _ hp1] at hg ⊢
         obtain ⟨q1, id, q2, q3⟩ := h5 p hp hg
         exact ⟨q1, id, hsub id q2, q3⟩
   | _ => exact plain (fun _ _ _ e => by cases e) (fun _ _ e => by cases e) (by simpa only [qaC] using hf1)
theorem qlQ {ρ : Rho} {H : Snap} : ∀ {ms : List Bool} {l : List SVal} {us : List (List Value)}, RepM ρ H ms l us -> ms.length = l.length
 | [], [], _, _ => rfl
 | _ :: ms, _ :: l, us, h => by
   obtain ⟨u, r, _, _, h2⟩ := h
   simp [qlQ h2]
 | [], _ :: _, _, h => h.elim
 | _ :: _, [], _, h => h.elim
theorem qp7 (hom : E.Ω = Om.real) (R : Rel E ρ (qR w) ts h U a w') {r t : SVal} {v : Value} (hf : fits E h r t) (hd : Den ρ (qR w) r v) : qiK E w w' t v := by
 intro b
 have plain : (∀ k ys cap, t ≠ .fr k ys cap) -> (∀ q cap, t ≠ .fra q cap) -> (∀ l, t ≠ .tup l) -> (∀ l, t ≠ .frp l) -> qa3 r t -> ∃ ρ : Rho, Den ρ (qad w) (place E b t).1 v /\ (∀ p ∈ (place E b t).2, qaB ρ p.1 p.2 \/ ∃ arr t vs, Lies ρ (qad w) w' p.1 p.2 arr t vs) /\ (place E b t).2.Pairwise (ApartR ρ) /\
  ∀ p ∈ (place E b t).2, (ρ p.1).g = false -> w.heap.size <= (ρ p.1).b := by
  intro h1 h1' h2 h2' hfv
  have hpl : place E b t = (t, []) := by
   cases t <;> first | rfl | exact absurd rfl (h1 _ _ _) | exact absurd rfl (h1' _ _) | exact absurd rfl (h2 _) | exact absurd rfl (h2' _)
  rw [hpl]
  exact ⟨ρ0, qiG hfv hd, (by intro p hp; cases hp), .nil, (by intro p hp; cases hp)⟩
 cases t with
 | tup m =>
   simp only [fits] at hf
   split at hf <;> try (exact hf.elim)
   rename_i l
   simp only [Den, Rep, List.cons.injEq, and_true] at hd
   obtain ⟨ws, rfl, hr⟩ := hd
   obtain ⟨ρ', h1, h2, h3, h4, h5⟩ := qf6 hom R l m hf.1 hf.2.1 hr b
   refine ⟨ρ', ?_, fun p hp => (h3 p hp).2.2, h4, fun p hp hg => qes (h5 p hp hg).1⟩
   simp only [place, Den, Rep, List.cons.injEq, and_true]
   exact ⟨ws, rfl, h1⟩
 | fr k ys cap =>
   obtain ⟨pos, p1, p2, p3, p4⟩ := qiH hom R (show qaC E h r (.fr k ys cap) from hf) hd
   obtain ⟨d1, d2⟩ := p1 (fun _ => pos) b rfl
   refine ⟨fun _ => pos, d1, fun p hp => ?_, List.pairwise_singleton _ _, fun p hp hg => qes (p2 hg)⟩
   simp only [place, List.mem_singleton] at hp
   subst hp
   exact d2
 | fra q cap =>
   obtain ⟨pos, p1, p2, p3, p4⟩ := qiI hom R (show qaC E h r (.fra q cap) from hf) hd
   obtain ⟨d1, d2⟩ := p1 (fun _ => pos) b rfl
   refine ⟨fun _ => pos, d1, fun p hp => ?_, List.pairwise_singleton _ _, fun p hp hg => qes (p2 hg)⟩
   simp only [place, List.mem_singleton] at hp
   subst hp
   exact d2
 | frp m =>
   simp only [fits] at hf
   split at hf <;> try (exact hf.elim)
   rename_i id
   split at hf <;> try (exact hf.elim)
   rename_i l hl
   obtain ⟨hf1, hf2, _⟩ := hf
   have hnd : qas (qM l) = true := by
     simp only [qas, Bool.and_eq_true] at hf2; exact hf2.2
   have hni : id ∉ qM l := by
     simp only [qas, Bool.and_eq_true, Bool.not_eq_true', List.any_eq_false] at hf2
     intro hi
     have := hf2.1 id hi
     simp at this
   rcases R.lies (id := id) (by rw [hl]; simp) with hg | ⟨arr, tt, vs, li⟩
   · obtain ⟨_, _, k, hk⟩ := hg
     rw [hl] at hk; cases hk
   · have hrep := li.rep
     rw [hl] at hrep
     simp only [Rep] at hrep
     obtain ⟨us, hus, hM⟩ := RepM_C.1 hrep
     obtain ⟨ρ1, h1, h2, h3, h4, h5⟩ := qet hom R _ l m hf1 hnd hM (b + 1)
     let ρ' : Rho := fun i => if i = b then ρ id else ρ1 i
     have e1 : ρ' b = ρ id := by simp [ρ']
     have e2 : ∀ i, b + 1 <= i -> ρ' i = ρ1 i := fun i hi => by
       have : i ≠ b := by omega
       simp [ρ', this]
     have hlen : (place.placeL E (b + 1) m).1.length = l.length := by
       have := qlQ h1
       simpa using this.symm
     have hC : RepC ρ' (qad w) (place.placeL E (b + 1) m).1 vs := by
       refine RepM_C.2 ⟨us, hus, ?_⟩
       rw [hlen]
       exact RepM.ext e2 (fun _ _ h => h) h2 h1
     simp only [Den, Rep, List.cons.injEq, and_true] at hd
     refine ⟨ρ', ?_, fun p hp => ?_, ?_, fun p hp hg => ?_⟩
     · simp only [place, Den, Rep, List.cons.injEq, and_true, e1]
       exact hd
     · rcases List.mem_cons.1 hp with rfl | hp
       · exact .inr ⟨arr, tt, vs, by rw [e1]; exact li.real, by rw [e1]; exact li.blk, rfl, by simp only [Rep]; exact hC, by rw [e1]; exact li.room, by rw [e1]; exact li.fits, by rw [e1]; exact li.cells⟩
       · obtain ⟨q1, q2, q3⟩ := h3 p hp
         rcases q3 with hg | ⟨arr, t, us, li⟩
         · exact .inl ⟨by rw [e2 _ q1]; exact hg.1, by rw [e2 _ q1]; exact hg.2.1, hg.2.2⟩
         · exact .inr ⟨arr, t, us, li.kept (U := fun i => b + 1 <= i) q1 q2.of_no e2 rfl⟩
     · show ((b, _) :: (place.placeL E (b + 1) m).2).Pairwise _
       rw [List.pairwise_cons]
       refine ⟨fun p hp => ⟨by have := (h3 p hp).1; dsimp only; omega, fun g1 g2 => ?_⟩, ?_⟩
       · dsimp only at g1 ⊢
         rw [e1] at g1 ⊢
         have hp1 := (h3 p hp).1
         rw [e2 _ hp1] at g2 ⊢
         obtain ⟨_, id', q2, q3, q4, q5⟩ := h5 p hp g2
         rw [q4]
         exact qcP R (by rw [hl]; simp) q5 (by rintro rfl; exact hni q2) li.real q3
       · refine List.Pairwise.imp_of_mem (fun {p q} hp hq hpq => ?_) h4
         exact ⟨hpq.1, by rw [e2 _ (h3 p hp).1, e2 _ (h3 q hq).1]; exact hpq.2⟩
     · rcases List.mem_cons.1 hp with rfl | hp
       · dsimp only at hg ⊢
         rw [e1]
         exact qes li.own
       · rw [e2 _ (h3 p hp).1] at hg ⊢
         exact qes (h5 p hp hg).1
 | _ => exact plain (fun _ _ _ e => by cases e) (fun _ _ e => by cases e) (fun _ e => by cases e) (fun _ e => by cases e) (by simpa only [fits, qaC] using hf)
end
theorem qp8 {P : Program} {E : Env} {ρ : Rho} {H : Snap} {ts : List SVal} {h : Heap} {U : Top} {b : Frame} {todo : List Item} {cs : List Frame} : ∀ {H' : Snap}, Grows H H' -> ∀ {a : Act} {w : World}, Rel E ρ H' ts h U a w ->
  ∃ w', Steps P (lone { b.atR a todo with mode := .returning } cs w) (lone { b.atR { a with defers := H.defs } todo with mode := .returning } cs w') /\ Rel E ρ H ts h U { a with defers := H.defs } w' := by
 intro H' hg
 induction hg with
 | refl =>
   intro a w R
   refine ⟨w, ?_, R.conv (fun _ _ _ h => h) R.agree (fun _ _ _ _ _ h => ⟨h, rfl⟩) R.same rfl rfl⟩
   rw [<- R.defers]
   exact Steps.refl _ _
 | mark hg hr ih =>
   rename_i H1 r
   intro a w R
   have hl : w.heap[r]? = some (.deferred (some [])) := R.agree r _ (by simp [Snap.marked])
   have hst := step_collected (P := P) (fr := { b.atR a todo with mode := .returning }) (cs := cs) (w := w) (d := { target := .collected r, args := #[] }) (ds := H1.defs) (by simp) (show a.defers = _ from R.defers) rfl (run_takeDeferred hl)
   have R1 : Rel E ρ H1 ts h U { a with defers := H1.defs } (w.putObj r (.deferred none)) := by
     refine R.conv (fun b o v hv => ?_) (fun b o hb => ?_) (fun b c t x _ hb => ?_) (R.same.trans (qf4 _ _ _)) rfl rfl
     · unfold qz Snap.marked at hv
       unfold qz
       dsimp only at hv
       by_cases e : b = r
       · rw [if_pos e] at hv; cases hv
       · rw [if_neg e] at hv; exact hv
     · have e : b ≠ r := by rintro rfl; rw [hr] at hb; cases hb
       rw [World.putObj_heap_other e]
       exact R.agree b o (by simp only [Snap.marked]; rw [if_neg e]; exact hb)
     · have e : b ≠ r := by rintro rfl; simp [Snap.marked] at hb
       refine ⟨?_, World.putObj_heap_other e⟩
       simp only [Snap.marked] at hb
       rw [if_neg e] at hb
       exact hb
   obtain ⟨w', h1, h2⟩ := ih R1
   exact ⟨w', .head hst h1, h2⟩
theorem qlR {P : Program} {E : Env} (hE : EnvG P E) (hI : qbm P E) (hm : P.follows .mixedOrders = true) {g : FuncId} {fn : Func} {c : Code} {s : qd} (hf : P.funcs[g]? = some fn) (hb : fn.body = some c) (hreg : qE c = true) (hcl : ∀ args, (s args).pre -> IdsLtL noId args)
  (hx : ∀ args, (s args).pre -> ∃ n, ex P E (fun r h _ => ∃ x, (s args).post x /\ fits E h r ((s args).res x)) fn.results.toList n [.code c] (args ++ List.replicate (fn.ntmps - args.length) .junk) [] 0) :
  PSpecOk P E g s := by
 intro w args vs hgl hr hp
 obtain ⟨n, hn⟩ := hx args hp
 intro cs
 let Fin : Machine -> Prop := fun m => ∃ e w' fr, (∃ v, e = Ending.returned v /\ Same w w' /\ Kept w w' /\ ∃ x, (s args).post x /\ qiK E w w' ((s args).res x) v) /\ Comes P m (lone fr cs w') e /\ fr.fn = g /\ fr.leaving P w' e
 have hG : ∀ m m', Steps P m m' -> Fin m' -> Fin m := by
  rintro m m' hst ⟨e, w', fr, h1, h2, h3⟩
  exact ⟨e, w', fr, h1, .of_steps hst h2, h3⟩
 let b : Frame := { (default : Frame) with fn := g, kind := .normal }
 have henter : Frame.enter P g vs.toArray .normal = b.atR { tmps := vs.toArray ++ Array.replicate (fn.ntmps - vs.toArray.size) undef, defers := [] } [.code c] := by
  simp [Frame.enter, Frame.atR, hf, hb, b]
  rfl
 rw [henter]
 have R : Rel E ρ0 (qR w) (args ++ List.replicate (fn.ntmps - args.length) .junk) [] (fun _ => False) { tmps := vs.toArray ++ Array.replicate (fn.ntmps - vs.toArray.size) undef, defers := [] } w :=
  qiT hr (hcl args hp) (fun id c hc => by cases hc) (fun b o hb => hb) ⟨fun id c hc => (by cases hc), .nil⟩ (fun g => ⟨hgl g, hE.gid g⟩) (Same.refl w) rfl fn.ntmps
 refine qf5 hE hI hm hG n _ _ _ 0 hn ?_ (qR w) ρ0 _ _ w b _ cs R (fun _ h => h.elim) ⟨[], rfl, rfl, rfl, ?_⟩
 ·intro y hy
  rcases List.mem_cons.1 hy with rfl | hy
  ·exact hreg
  ·cases hy
 ·intro H' ρ' V top ts h a w0 todo hg _ _ _ R0 hrb ⟨x, hx1, hx2⟩
  obtain ⟨w', hst, R'⟩ := qp8 (b := b) (todo := todo) (cs := cs) hg R0
  refine hG _ _ hst ?_
  obtain ⟨v, q1, q2, q3⟩ := qiQ hE.toEnvOk R' rfl hrb
  refine ⟨.returned v, w', _, ⟨v, rfl, R'.same, fun b hb => ?_, x, hx1, qp7 hE.om R' hx2 q2⟩, Steps.refl _ _, rfl, rfl, R'.defers, rfl, fn, hf, q1⟩
  have := R'.agree b w.heap[b] (by simp [qR, hb])
  rw [this]
  exact (Array.getElem?_eq_getElem hb).symm
end Go.Sx
end
section

end
section
namespace Go.Sx
def qiU : SVal -> Bool
 | .junk | .lit .. | .int .. | .bl _ | .bs _ | .val _ | .row .. | .seq .. | .roi .. | .rol .. | .ror .. | .roe .. | .roa _ => true
 | _ => false
abbrev Ren := Nat -> Option (Option Nat)
def cat2 (a b : Option (List Prop)) : Option (List Prop) :=
 match a with
 | some xs => match b with
   | some ys => some (xs ++ ys)
   | none => none
 | none => none
def when (b : Bool) (ps : List Prop) : Option (List Prop) :=
 match b with
 | true => some ps
 | false => none
def snEq (a b : SN) : Option (List Prop) :=
 match a, b with
 | .l n, .l m => when (Nat.beq n m) []
 | a, b => some [a.v = b.v]
def isId (σ : Ren) (id' id : Nat) : Bool :=
 match σ id' with
 | some (some i) => Nat.beq i id
 | _ => false
def qlS (σ : Ren) (id' : Nat) : Bool :=
 match σ id' with
 | some none => true
 | _ => false
mutual
def leq (σ : Ren) : SVal -> SVal -> Option (List Prop)
 | _, .junk => some []
 | .lit k n, .lit k' m => when (keq k k' && decide (n = m)) []
 | .lit k n, .int k' m => when (keq k k') [n = m]
 | .int k n, .int k' m => when (keq k k') [n = m]
 | .bl b, .bl c => when (b == c) []
 | .bl b, .bs c => some [b = c]
 | .bs b, .bs c => some [b = c]
 | .val v, .val u => some [v = u]
 | .row k n xs, .row k' n' ys => when (keq k k' && Nat.beq n n') [xs = ys]
 | .seq k xs, .seq k' ys => when (keq k k') [xs = ys]
 | .agg l, .agg m => leqC σ l m
 | .ab p, .ab q => some [p = q]
 | .sab p, .sab q => some [p = q]
 | .row k n xs, .ab p => when (keq k p.k) [p.ok xs]
 | .agg l, .ab p => some [qdw l p]
 | .agg l, .row k n xs => some [qee l k n xs]
 | .lst l, .lst m => leqL σ l m
 | .tup l, .tup m => leqL σ l m
 | .ptr id off, .ptr id' off' => cat2 (when (isId σ id' id) []) (snEq off off')
 | .sl id es off len cap, .sl id' es' off' len' cap' => cat2 (when (isId σ id' id && Nat.beq es es') []) (cat2 (snEq off off') (cat2 (snEq len len') (snEq cap cap')))
 | .val v, .sl id' _ off' len' cap' => match v with
   | .slice none 0 0 => when (qlS σ id') [off'.v = 0, len'.v = 0, cap'.v = 0]
   | _ => none
 | .roi k xs, .roi k' ys => when (keq k k') [xs = ys]
 | .rol k xs, .rol k' ys => when (keq k k') [xs = ys]
 | .ror k es xs, .ror k' es' ys => when (keq k k' && Nat.beq es es') [xs = ys]
 | .roe cols n, .roe cols' n' => some [cols = cols', n = n']
 | .roa q, .roa q' => some [q = q']
 | .rop c off, .rop c' off' => cat2 (when (qiU c) [c = c']) (snEq off off')
 | .yld id, .yld id' => when (isId σ id' id) []
 | .fn f a b, .fn f' a' b' => cat2 (when (Nat.beq f f') []) (cat2 (leqL σ a a') (leqL σ b b'))
 | _, _ => none
def leqL (σ : Ren) : List SVal -> List SVal -> Option (List Prop)
 | [], [] => some []
 | s :: l, t :: m => cat2 (leq σ s t) (leqL σ l m)
 | _, _ => none
def leqC (σ : Ren) : List SVal -> List SVal -> Option (List Prop)
 | [], [] => some []
 | s :: l, t :: m => match t with
   | .junk => none
   | t => cat2 (leq σ s t) (leqC σ l m)
 | _, _ => none
end
def leqH (σ : Ren) (h : Heap) : Heap -> Option (List Prop)
 | [] => some []
 | (id, c) :: r => match σ id with
   | some (some i) => match look h i with
     | .junk => none
     | .row k n xs => match c with
       | .seq k' ys => cat2 (when (keq k k') [xs = ys]) (leqH σ h r)
       | .row k' n' ys => cat2 (when (keq k k' && Nat.beq n n') [xs = ys]) (leqH σ h r)
       | _ => none
     | d => match c with
       | .junk => none
       | c => cat2 (leq σ d c) (leqH σ h r)
   | some none => match c with
     | .seq _ [] => leqH σ h r
     | .seq _ xs => cat2 (some [xs = []]) (leqH σ h r)
     | _ => none
   | none => none
def qf7 (σ : Ren) (i : Nat) : Heap -> Bool
 | [] => true
 | (j, _) :: r => !(Nat.beq i j) && (match σ i, σ j with
   | some (some a), some (some b) => !(Nat.beq a b)
   | _, _ => true) && qf7 σ i r
def qf8 (σ : Ren) : Heap -> Bool
 | [] => true
 | (i, _) :: r => qf7 σ i r && qf8 σ r
def allP : List Prop -> Prop
 | [] => True
 | p :: r => match r with
   | [] => p
   | r => p /\ allP r
def entP (σ : Ren) (ts : List SVal) (h : Heap) (ts' : List SVal) (h' : Heap) : Prop :=
 match qf8 σ h', leqL σ ts ts', leqH σ h h' with
 | true, some a, some b => allP (a ++ b)
 | _, _, _ => False
def qa9 (lo : Nat) (l : List (Option Nat)) : Ren := fun id =>
 match Nat.blt id lo with
 | true => some (some id)
 | false => l[id - lo]?
theorem qlT : ∀ {l : List Prop}, allP l -> ∀ p ∈ l, p
 | [p], h, q, hq => by rw [List.mem_singleton.1 hq]; exact h
 | p :: p' :: r, h, q, hq => by
   rcases List.mem_cons.1 hq with rfl | hq
   · exact h.1
   · exact qlT (l := p' :: r) h.2 q hq
theorem qba {a b : Option (List Prop)} {ps : List Prop} (h : cat2 a b = some ps) (hp : ∀ p ∈ ps, p) : ∃ xs ys, a = some xs /\ b = some ys /\ (∀ p ∈ xs, p) /\ ∀ p ∈ ys, p := by
 unfold cat2 at h
 split at h <;> try (cases h; done)
 split at h <;> try (cases h; done)
 cases h
 exact ⟨_, _, rfl, rfl, fun p q => hp p (List.mem_append_left _ q), fun p q => hp p (List.mem_append_right _ q)⟩
theorem qao {b : Bool} {xs ps : List Prop} (h : when b xs = some ps) (hp : ∀ p ∈ ps, p) : b = true /\ ∀ p ∈ xs, p := by
 unfold when at h
 split at h
 ·cases h; exact ⟨rfl, hp⟩
 ·cases h
theorem qeu {a b : SN} {ps : List Prop} (h : snEq a b = some ps) (hp : ∀ p ∈ ps, p) : a.v = b.v := by
 unfold snEq at h
 split at h
 ·have := (qao h hp).1
  exact Nat.eq_of_beq_eq_true this
 ·cases h
  exact hp _ (List.mem_singleton_self _)
def qT (σ : Ren) (ρ : Rho) : Rho := fun id =>
 match σ id with
 | some (some i) => ρ i
 | _ => ⟨0, 0, 0, true⟩
theorem qiV {σ : Ren} {ρ : Rho} {id' id : Nat} (h : isId σ id' id = true) : σ id' = some (some id) /\ qT σ ρ id' = ρ id := by
 unfold isId at h
 split at h
 ·rename_i i hs
  have := Nat.eq_of_beq_eq_true h
  subst this
  exact ⟨hs, by simp only [qT, hs]⟩
 ·cases h
def Via (σ : Ren) (U : Top) : Top := fun id => σ id = some none \/ ∃ i, σ id = some (some i) /\ U i
section
variable {ρ : Rho} {H : Snap} {σ : Ren} {U : Top}
theorem qlU {s t : SVal} {ps : List Prop} {v : Value} (hr : t ≠ .junk -> ∀ vs, Rep ρ H s vs -> Rep (qT σ ρ) H t vs /\ IdsLt (Via σ U) t) (hl : leq σ s t = some ps) (hd : Den ρ H s v) : Den (qT σ ρ) H t v /\ IdsLt (Via σ U) t := by
 cases t
 case junk => exact ⟨trivial, trivial⟩
 case agg m =>
  cases s <;> simp only [leq] at hl <;> try (cases hl; done)
  obtain ⟨us, h1, rfl⟩ := hd
  obtain ⟨q1, q2⟩ := hr (by simp) us (by simpa only [Rep] using h1)
  exact ⟨⟨us, by simpa only [Rep] using q1, rfl⟩, q2⟩
 case row k n xs =>
  cases s <;> simp only [leq] at hl <;> try (cases hl; done)
  ·rename_i k' n' ys
   obtain ⟨h1, rfl⟩ := hd
   obtain ⟨q1, q2⟩ := hr (by simp) (ys.map (Value.int k')) ⟨h1, rfl⟩
   simp only [Rep] at q1
   exact ⟨⟨q1.1, by rw [q1.2]⟩, q2⟩
  ·obtain ⟨us, h1, rfl⟩ := hd
   obtain ⟨q1, q2⟩ := hr (by simp) us (by simpa only [Rep] using h1)
   simp only [Rep] at q1
   exact ⟨⟨q1.1, by rw [q1.2]⟩, q2⟩
 case ab p =>
  cases s <;> simp only [leq] at hl <;> try (cases hl; done)
  ·obtain ⟨h1, rfl⟩ := hd
   obtain ⟨q1, q2⟩ := hr (by simp) _ ⟨h1, rfl⟩
   simp only [Rep] at q1
   obtain ⟨xs, e, h⟩ := q1
   exact ⟨⟨xs, h, by rw [e]⟩, q2⟩
  ·obtain ⟨us, h1, rfl⟩ := hd
   obtain ⟨q1, q2⟩ := hr (by simp) us (by simpa only [Rep] using h1)
   simp only [Rep] at q1
   obtain ⟨xs, rfl, h⟩ := q1
   exact ⟨⟨xs, h, rfl⟩, q2⟩
  ·obtain ⟨xs, h, rfl⟩ := hd
   obtain ⟨q1, q2⟩ := hr (by simp) _ ⟨xs, rfl, h⟩
   simp only [Rep] at q1
   obtain ⟨ys, e, h⟩ := q1
   exact ⟨⟨ys, h, by rw [e]⟩, q2⟩
 all_goals
  have hd' : Rep ρ H s [v] := by
   cases s <;> simp only [leq] at hl <;> first | (cases hl; done) | exact hd
  exact hr (by simp) [v] hd'
mutual
theorem qf9 : ∀ (s t : SVal) {ps : List Prop} {vs : List Value}, leq σ s t = some ps -> (∀ p ∈ ps, p) -> t ≠ .junk -> Rep ρ H s vs -> IdsLt U s -> Rep (qT σ ρ) H t vs /\ IdsLt (Via σ U) t
 | s, t, ps, vs, hl, hp, ht, hr, hi => by
   cases t <;> first | exact absurd rfl ht | skip
   all_goals (cases s <;> simp only [leq] at hl <;> try (cases hl; done))
   case lit.lit k m k' n =>
     obtain ⟨h1, _⟩ := qao hl hp
     simp only [Bool.and_eq_true, decide_eq_true_eq] at h1
     obtain ⟨h1, rfl⟩ := h1
     rw [<- keq_iff.1 h1]
     exact ⟨hr, trivial⟩
   case int.lit k m k' n =>
     obtain ⟨h1, h2⟩ := qao hl hp
     have h2 := h2 _ (List.mem_singleton_self _)
     subst h2
     rw [<- keq_iff.1 h1]
     simp only [Rep] at hr ⊢
     exact ⟨hr, trivial⟩
   case int.int k m k' n =>
     obtain ⟨h1, h2⟩ := qao hl hp
     have h2 := h2 _ (List.mem_singleton_self _)
     subst h2
     rw [<- keq_iff.1 h1]
     exact ⟨hr, trivial⟩
   case bl.bl b c =>
     obtain ⟨h1, _⟩ := qao hl hp
     rw [<- eq_of_beq h1]
     exact ⟨hr, trivial⟩
   case bs.bl b c =>
     cases hl
     have h2 := hp _ (List.mem_singleton_self _)
     subst h2
     simp only [Rep] at hr ⊢
     exact ⟨hr, trivial⟩
   case bs.bs b c =>
     cases hl
     have h2 := hp _ (List.mem_singleton_self _)
     subst h2
     exact ⟨hr, trivial⟩
   case val.val b c =>
     cases hl
     have h2 := hp _ (List.mem_singleton_self _)
     subst h2
     exact ⟨hr, trivial⟩
   case row.row k n xs k' n' ys =>
     obtain ⟨h1, h2⟩ := qao hl hp
     have h2 := h2 _ (List.mem_singleton_self _)
     subst h2
     simp only [Bool.and_eq_true] at h1
     rw [<- keq_iff.1 h1.1, <- Nat.eq_of_beq_eq_true h1.2]
     exact ⟨hr, trivial⟩
   case sab.sab q q' =>
     cases hl
     have h2 := hp _ (List.mem_singleton_self _)
     subst h2
     exact ⟨hr, trivial⟩
   case ab.ab q q' =>
     cases hl
     have h2 := hp _ (List.mem_singleton_self _)
     subst h2
     exact ⟨hr, trivial⟩
   case ab.row q k n xs =>
     obtain ⟨h1, h2⟩ := qao hl hp
     have h2 := h2 _ (List.mem_singleton_self _)
     simp only [Rep] at hr ⊢
     rw [<- keq_iff.1 h1]
     exact ⟨⟨xs, hr.2, h2⟩, trivial⟩
   case row.agg k n xs l =>
     cases hl
     have h2 := hp _ (List.mem_singleton_self _)
     simp only [Rep] at hr ⊢
     obtain ⟨h3, h4⟩ := h2 _ _ _ hr
     exact ⟨⟨h4, h3⟩, trivial⟩
   case ab.agg q l =>
     cases hl
     have h2 := hp _ (List.mem_singleton_self _)
     simp only [Rep] at hr ⊢
     exact ⟨h2 _ _ _ hr, trivial⟩
   case seq.seq k xs k' ys =>
     obtain ⟨h1, h2⟩ := qao hl hp
     have h2 := h2 _ (List.mem_singleton_self _)
     subst h2
     rw [<- keq_iff.1 h1]
     exact ⟨hr, trivial⟩
   case agg.agg m l =>
     simp only [Rep] at hr ⊢
     exact qlV l m hl hp hr hi
   case lst.lst m l =>
     simp only [Rep] at hr ⊢
     obtain ⟨h1, h2⟩ := qev l m hl hp hr.1 hi
     exact ⟨⟨h1, hr.2⟩, h2⟩
   case tup.tup m l =>
     simp only [Rep] at hr ⊢
     obtain ⟨ws, e, hr⟩ := hr
     obtain ⟨h1, h2⟩ := qev l m hl hp hr hi
     exact ⟨⟨ws, e, h1⟩, h2⟩
   case ptr.ptr id' off' id off =>
     obtain ⟨xs, ys, h1, h2, h3, h4⟩ := qba hl hp
     obtain ⟨h1, _⟩ := qao h1 h3
     obtain ⟨q1, q2⟩ := qiV (ρ := ρ) h1
     simp only [Rep] at hr ⊢
     rw [q2, <- qeu h2 h4]
     exact ⟨hr, .inr ⟨_, q1, hi⟩⟩
   case yld.yld id' id =>
     obtain ⟨h1, _⟩ := qao hl hp
     obtain ⟨q1, q2⟩ := qiV (ρ := ρ) h1
     simp only [Rep] at hr ⊢
     rw [q2]
     exact ⟨hr, .inr ⟨_, q1, hi⟩⟩
   case sl.sl id' es' off' len' cap' id es off len cap =>
     obtain ⟨xs, ys, h1, h2, h3, h4⟩ := qba hl hp
     obtain ⟨h1, _⟩ := qao h1 h3
     simp only [Bool.and_eq_true] at h1
     obtain ⟨q1, q2⟩ := qiV (ρ := ρ) h1.1
     obtain ⟨xs2, ys2, h5, h6, h7, h8⟩ := qba h2 h4
     obtain ⟨xs3, ys3, h9, h10, h11, h12⟩ := qba h6 h8
     simp only [Rep] at hr ⊢
     rw [q2, <- qeu h5 h7, <- qeu h9 h11, <- qeu h10 h12, <- Nat.eq_of_beq_eq_true h1.2]
     exact ⟨hr, .inr ⟨_, q1, hi⟩⟩
   case sl.val id' es' off' len' cap' v =>
     split at hl <;> try (cases hl; done)
     obtain ⟨h1, h2⟩ := qao hl hp
     have e1 := h2 (off'.v = 0) (by simp)
     have e2 := h2 (len'.v = 0) (by simp)
     have e3 := h2 (cap'.v = 0) (by simp)
     have hg : σ id' = some none := by
       unfold qlS at h1
       split at h1
       · assumption
       · cases h1
     have hρ : qT σ ρ id' = ⟨0, 0, 0, true⟩ := by simp only [qT, hg]
     simp only [Rep] at hr ⊢
     rw [hρ, e1, e2, e3]
     exact ⟨⟨none, hr.1, Nat.le_refl _, by simp, fun _ => ⟨rfl, rfl⟩, by simp⟩, .inl hg⟩
   case roi.roi k xs k' ys =>
     obtain ⟨h1, h2⟩ := qao hl hp
     have h2 := h2 _ (List.mem_singleton_self _)
     subst h2
     rw [<- keq_iff.1 h1]
     exact ⟨hr, trivial⟩
   case rol.rol k xs k' ys =>
     obtain ⟨h1, h2⟩ := qao hl hp
     have h2 := h2 _ (List.mem_singleton_self _)
     subst h2
     rw [<- keq_iff.1 h1]
     exact ⟨hr, trivial⟩
   case ror.ror k n xs k' n' ys =>
     obtain ⟨h1, h2⟩ := qao hl hp
     have h2 := h2 _ (List.mem_singleton_self _)
     subst h2
     simp only [Bool.and_eq_true] at h1
     rw [<- keq_iff.1 h1.1, <- Nat.eq_of_beq_eq_true h1.2]
     exact ⟨hr, trivial⟩
   case roe.roe cols n cols' n' =>
     simp only [Option.some.injEq] at hl
     subst hl
     have e1 := hp (cols' = cols) (by simp)
     have e2 := hp (n' = n) (by simp)
     subst e1; subst e2
     exact ⟨hr, trivial⟩
   case roa.roa q q' =>
     cases hl
     have h2 := hp _ (List.mem_singleton_self _)
     subst h2
     exact ⟨hr, trivial⟩
   case rop.rop c' off' c off =>
     obtain ⟨xs, ys, h1, h2, h3, h4⟩ := qba hl hp
     obtain ⟨h1, h5⟩ := qao h1 h3
     have h5 := h5 _ (List.mem_singleton_self _)
     subst h5
     have hcl : IdsLt noId (SVal.rop c off) := by cases c <;> first | trivial | simp [qiU] at h1
     have hr' : Rep (qT σ ρ) H (.rop c off) vs := Rep.ext (t := noId) (fun i h => h.elim) (fun _ _ h => h) _ hcl hr
     have e := qeu h2 h4
     refine ⟨?_, IdsLt.of_no (s := .rop c off') (by cases c <;> first | trivial | simp [qiU] at h1)⟩
     cases c <;> simp only [Rep, e] at hr' ⊢ <;> exact hr'
   case fn.fn f' a' b' f a b =>
     obtain ⟨xs, ys, h1, h2, h3, h4⟩ := qba hl hp
     obtain ⟨h1, _⟩ := qao h1 h3
     obtain ⟨xs2, ys2, h5, h6, h7, h8⟩ := qba h2 h4
     have := Nat.eq_of_beq_eq_true h1
     subst this
     simp only [Rep] at hr ⊢
     obtain ⟨fs, cs, e, r1, r2⟩ := hr
     obtain ⟨d1, d2⟩ := qev a a' h5 h7 r1 hi.1
     obtain ⟨d3, d4⟩ := qev b b' h6 h8 r2 hi.2
     exact ⟨⟨fs, cs, e, d1, d3⟩, d2, d4⟩
theorem qev : ∀ (l m : List SVal) {ps : List Prop} {vs : List Value}, leqL σ l m = some ps -> (∀ p ∈ ps, p) -> RepV ρ H l vs -> IdsLtL U l -> RepV (qT σ ρ) H m vs /\ IdsLtL (Via σ U) m
 | [], [], ps, vs, hl, hp, hr, hi => ⟨hr, trivial⟩
 | s :: l, t :: m, ps, vs, hl, hp, hr, hi => by
   simp only [leqL] at hl
   obtain ⟨xs, ys, h1, h2, h3, h4⟩ := qba hl hp
   obtain ⟨v, ws, rfl, r1, r2⟩ := RepV_cons.1 hr
   obtain ⟨d1, d2⟩ := qev l m h2 h4 r2 hi.2
   obtain ⟨d3, d4⟩ := qlU (fun ht vs hr' => qf9 s t h1 h3 ht hr' hi.1) h1 r1
   exact ⟨RepV_cons.2 ⟨v, ws, rfl, d3, d1⟩, d4, d2⟩
 | [], _ :: _, ps, vs, hl, hp, hr, hi => by simp [leqL] at hl
 | _ :: _, [], ps, vs, hl, hp, hr, hi => by simp [leqL] at hl
theorem qlV : ∀ (l m : List SVal) {ps : List Prop} {vs : List Value}, leqC σ l m = some ps -> (∀ p ∈ ps, p) -> RepC ρ H l vs -> IdsLtL U l -> RepC (qT σ ρ) H m vs /\ IdsLtL (Via σ U) m
 | [], [], ps, vs, hl, hp, hr, hi => ⟨hr, trivial⟩
 | s :: l, t :: m, ps, vs, hl, hp, hr, hi => by
   have ht : t ≠ .junk := by rintro rfl; simp [leqC] at hl
   have hl' : cat2 (leq σ s t) (leqC σ l m) = some ps := by
     cases t <;> first | exact absurd rfl ht | simpa only [leqC] using hl
   obtain ⟨xs, ys, h1, h2, h3, h4⟩ := qba hl' hp
   obtain ⟨us, ws, rfl, r1, r2⟩ := RepC_cons.1 hr
   obtain ⟨d1, d2⟩ := qf9 s t h1 h3 ht r1 hi.1
   obtain ⟨d3, d4⟩ := qlV l m h2 h4 r2 hi.2
   exact ⟨RepC_cons.2 ⟨us, ws, rfl, d1, d3⟩, d2, d4⟩
 | [], _ :: _, ps, vs, hl, hp, hr, hi => by simp [leqC] at hl
 | _ :: _, [], ps, vs, hl, hp, hr, hi => by simp [leqC] at hl
end
end
end Go.Sx
end
section
namespace Go.Sx
section
variable {P : Program} {E : Env} {ρ : Rho} {H : Snap} {σ : Ren} {U : Top} {ts ts2 : List SVal} {h h2 : Heap} {a : Act} {w : World}
theorem qlW : ∀ {l m : List SVal} {ps : List Prop}, leqL σ l m = some ps -> (∀ p ∈ ps, p) -> l.length = m.length /\ ∀ i, ∃ qs, leq σ (getT l i) (getT m i) = some qs /\ ∀ p ∈ qs, p
 | [], [], ps, hl, hp => ⟨rfl, fun i => ⟨[], by simp [getT, leq], by intro p hp; cases hp⟩⟩
 | s :: l, t :: m, ps, hl, hp => by
   simp only [leqL] at hl
   obtain ⟨xs, ys, h1, h2, h3, h4⟩ := qba hl hp
   obtain ⟨h5, h6⟩ := qlW h2 h4
   refine ⟨by simp [h5], fun i => ?_⟩
   cases i with
   | zero => exact ⟨xs, h1, h3⟩
   | succ i => exact h6 i
 | [], _ :: _, ps, hl, hp => by simp [leqL] at hl
 | _ :: _, [], ps, hl, hp => by simp [leqL] at hl
theorem qga (R : Rel E ρ H ts h U a w) : ∀ {h2 : Heap} {ps : List Prop}, leqH σ h h2 = some ps -> (∀ p ∈ ps, p) -> ∀ kid c, (kid, c) ∈ h2 -> (Via σ U kid /\ IdsLt (Via σ U) c) /\ (qaB (qT σ ρ) kid c \/ ∃ arr t vs, Lies (qT σ ρ) H w kid c arr t vs) /\
  ∀ i, σ kid = some (some i) -> look h i ≠ .junk
 | [], ps, hl, hp, kid, c, hm => by cases hm
 | (j, d) :: r, ps, hl, hp, kid, c, hm => by
   simp only [leqH] at hl
   rcases hσ : σ j with _ | _ | i
   · simp only [hσ] at hl; cases hl
   rotate_left
   · simp only [hσ] at hl
     have hρ : qT σ ρ j = ρ i := by simp only [qT, hσ]
     have key : ∀ {xs : Option (List Prop)} {e : SVal}, look h i = e -> e ≠ .junk -> cat2 xs (leqH σ h r) = some ps -> (∀ qs, xs = some qs -> (∀ p ∈ qs, p) -> (∀ vs, Rep ρ H e vs -> Rep (qT σ ρ) H d vs /\ IdsLt (Via σ U) d) /\ (∀ k, e = .seq k [] -> d = .seq k [])) ->
         (Via σ U kid /\ IdsLt (Via σ U) c) /\ (qaB (qT σ ρ) kid c \/ ∃ arr t vs, Lies (qT σ ρ) H w kid c arr t vs) /\ ∀ i, σ kid = some (some i) -> look h i ≠ .junk := by
       intro xs e he hj hc hx
       obtain ⟨qs, ys, h1, h2, h3, h4⟩ := qba hc hp
       rcases List.mem_cons.1 hm with hm | hm
       · cases hm
         obtain ⟨hx1, hx2⟩ := hx qs h1 h3
         have hjj : look h i ≠ .junk := by rw [he]; exact hj
         have hu : U i := (R.hids _ _ (qan rfl hjj)).1
         have hv : Via σ U j := .inr ⟨i, hσ, hu⟩
         rcases R.lies hjj with hg | ⟨arr, t, vs, li⟩
         · obtain ⟨g1, g2, k, g3⟩ := hg
           rw [he] at g3
           have hd := hx2 k g3
           subst hd
           exact ⟨⟨hv, trivial⟩, .inl ⟨by rw [hρ]; exact g1, by rw [hρ]; exact g2, k, rfl⟩, fun i' e' => by rw [hσ] at e'; cases e'; exact hjj⟩
         · have hrep := li.rep
           rw [he] at hrep
           obtain ⟨r1, r2⟩ := hx1 vs hrep
           exact ⟨⟨hv, r2⟩, .inr ⟨arr, t, vs, by rw [hρ]; exact li.real, by rw [hρ]; exact li.blk, by rw [hρ]; exact li.own, r1, by rw [hρ]; exact li.room, by rw [hρ]; exact li.fits, by rw [hρ]; exact li.cells⟩, fun i' e' => by rw [hσ] at e'; cases e'; exact hjj⟩
       · exact qga R h2 h4 kid c hm
     have hids : ∀ e, look h i = e -> IdsLt U e := by rintro e rfl; exact R.lids i
     split at hl <;> try (cases hl; done)
     · rename_i k n xs he
       split at hl <;> try (cases hl; done)
       · refine key he (by simp) hl fun qs h1 h2 => ⟨fun vs hr => ?_, fun k e => by cases e⟩
         obtain ⟨q1, q2⟩ := qao h1 h2
         have q2 := q2 _ (List.mem_singleton_self _)
         subst q2
         rw [<- keq_iff.1 q1]
         simp only [Rep] at hr ⊢
         exact ⟨hr.2, trivial⟩
       · refine key he (by simp) hl fun qs h1 h2 => ⟨fun vs hr => ?_, fun k e => by cases e⟩
         obtain ⟨q1, q2⟩ := qao h1 h2
         have q2 := q2 _ (List.mem_singleton_self _)
         subst q2
         simp only [Bool.and_eq_true] at q1
         rw [<- keq_iff.1 q1.1, <- Nat.eq_of_beq_eq_true q1.2]
         exact ⟨hr, trivial⟩
     · rename_i e hn1 hn2
       split at hl <;> try (cases hl; done)
       rename_i hdn
       refine key (e := look h i) rfl (fun q => ?_) hl fun qs h1 h2 => ⟨fun vs hr => qf9 _ _ h1 h2 (fun q => ?_) hr (R.lids i), fun k q => ?_⟩
       · exact hn1 q
       · exact hdn q
       · rw [q] at h1
         cases d <;> simp only [leq] at h1 <;> try (cases h1; done)
         · exact absurd rfl hdn
         · obtain ⟨q1, q2⟩ := qao h1 h2
           have q2 := q2 _ (List.mem_singleton_self _)
           rw [<- keq_iff.1 q1, <- q2]
   · simp only [hσ] at hl
     have hρ : qT σ ρ j = ⟨0, 0, 0, true⟩ := by simp only [qT, hσ]
     split at hl <;> try (cases hl; done)
     · rename_i k
       rcases List.mem_cons.1 hm with hm | hm
       · cases hm
         exact ⟨⟨.inl hσ, trivial⟩, .inl ⟨by rw [hρ], by rw [hρ], k, rfl⟩, fun i e => by rw [hσ] at e; cases e⟩
       · exact qga R hl hp kid c hm
     · rename_i k xs _
       obtain ⟨qs, ys, h1, h2, h3, h4⟩ := qba hl hp
       cases h1
       have hx := h3 _ (List.mem_singleton_self _)
       subst hx
       rcases List.mem_cons.1 hm with hm | hm
       · cases hm
         exact ⟨⟨.inl hσ, trivial⟩, .inl ⟨by rw [hρ], by rw [hρ], k, rfl⟩, fun i e => by rw [hσ] at e; cases e⟩
       · exact qga R h2 h4 kid c hm
theorem qlX {i : Nat} : ∀ {l : Heap}, qf7 σ i l = true -> ∀ p ∈ l, i ≠ p.1 /\ ∀ x y, σ i = some (some x) -> σ p.1 = some (some y) -> x ≠ y
 | (j, d) :: r, hl, p, hp => by
   simp only [qf7, Bool.and_eq_true, Bool.not_eq_true'] at hl
   obtain ⟨⟨h1, h2⟩, h3⟩ := hl
   rcases List.mem_cons.1 hp with rfl | hp
   · refine ⟨?_, fun x y hx hy => ?_⟩
     · rintro rfl; rw [Nat.beq_refl] at h1; cases h1
     · dsimp only at hy
       simp only [hx, hy, Bool.not_eq_true'] at h2
       rintro rfl; rw [Nat.beq_refl] at h2; cases h2
   · exact qlX h3 p hp
theorem qgb (hg : ∀ g, IdsLt noId (E.glob g)) (R : Rel E ρ H ts h U a w) (hP : entP σ ts h ts2 h2) : Rel E (qT σ ρ) H ts2 h2 (Via σ U) a w := by
 unfold entP at hP
 split at hP <;> try (exact hP.elim)
 rename_i ps qs hA h1 h3
 have hall := qlT hP
 obtain ⟨hlen, hget⟩ := qlW h1 fun p hp => hall p (List.mem_append_left _ hp)
 have hH := qga R h3 fun p hp => hall p (List.mem_append_right _ hp)
 have hd : ∀ i, Den (qT σ ρ) H (getT ts2 i) (a.tmps.getD i undef) /\ IdsLt (Via σ U) (getT ts2 i) := fun i => by
  obtain ⟨rs, q1, q2⟩ := hget i
  exact qlU (fun ht vs hr => qf9 _ _ q1 q2 ht hr (R.ids i)) q1 (R.den i)
 refine ⟨by rw [<- hlen]; exact R.len, fun i => (hd i).1, fun i => (hd i).2, fun id c hc => (hH id c hc).1, R.agree, ⟨fun id c hc => (hH id c hc).2.1, ?_⟩, R.defers,
  fun g => ⟨Den.ext (t := noId) (fun i h => h.elim) (fun _ _ h => h) (hg g) (R.glob g).1, hg g⟩, R.same⟩
 have key : ∀ (l : Heap), qf8 σ l = true -> (∀ p ∈ l, p ∈ h2) -> l.Pairwise (ApartR (qT σ ρ)) := by
  intro l
  induction l with
  | nil => intro _ _; exact .nil
  | cons p l ih =>
    obtain ⟨i, d⟩ := p
    intro hl hm
    simp only [qf8, Bool.and_eq_true] at hl
    rw [List.pairwise_cons]
    refine ⟨fun q hq => ?_, ih hl.2 fun q hq => hm q (List.mem_cons_of_mem _ hq)⟩
    obtain ⟨g1, g2⟩ := qlX hl.1 q hq
    refine ⟨g1, fun e1 e2 => ?_⟩
    dsimp only at e1 ⊢
    have m1 := hH i d (hm _ (List.mem_cons_self ..))
    have m2 := hH q.1 q.2 (hm _ (List.mem_cons_of_mem _ hq))
    rcases m1.1.1 with n1 | ⟨x, n1, _⟩
    · simp only [qT, n1] at e1; cases e1
    rcases m2.1.1 with n2 | ⟨y, n2, _⟩
    · simp only [qT, n2] at e2; cases e2
    have hxy := g2 x y n1 n2
    simp only [qT, n1, n2] at e1 e2 ⊢
    have j1 := qan rfl (m1.2.2 x n1)
    have j2 := qan rfl (m2.2.2 y n2)
    have pw : ∀ (l : Heap), l.Pairwise (ApartR ρ) -> ∀ p ∈ l, ∀ q ∈ l, p.1 ≠ q.1 -> ApartR ρ p q := by
      intro l
      induction l with
      | nil => intro _ p hp; cases hp
      | cons x l ih =>
        intro hp p hpm q hqm hne
        rw [List.pairwise_cons] at hp
        rcases List.mem_cons.1 hpm with e | hpm
        · rcases List.mem_cons.1 hqm with e' | hqm
          · rw [e, e'] at hne; exact absurd rfl hne
          · rw [e]; exact hp.1 q hqm
        · rcases List.mem_cons.1 hqm with e' | hqm
          · rw [e']; exact (hp.1 p hpm).symm
          · exact ih hp.2 p hpm q hqm hne
    exact (pw h R.heap.2 _ j1 _ j2 hxy).2 e1 e2
 exact key h2 hA fun p hp => hp
end
section
variable {P : Program} {E : Env} {Q : SVal -> Heap -> Nat -> Prop} {rs : List ResultVar} {c : Code} {k : List It} {ts : List SVal} {h : Heap} {top : Nat}
theorem q9 (hE : EnvG P E) (hI : qbm P E) (hm : P.follows .mixedOrders = true) {n : Nat} (hx : ex P E Q rs n (.code c :: .again c :: k) ts h top) : LoopAt P E Q rs c k ts h top := by
 refine ⟨fun hc hk G hG H ρ U a w b r cs R hU hL => qf5 hE hI hm hG n _ ts h top hx ?_ H ρ U a w b _ cs R hU ⟨_, rfl, _, rfl, hL⟩⟩
 intro y hy
 rcases List.mem_cons.1 hy with rfl | hy
 ·exact hc
 ·rcases List.mem_cons.1 hy with rfl | hy
  ·exact hc
  ·exact hk y hy
theorem qv (hE : EnvG P E) (hI : qbm P E) (hm : P.follows .mixedOrders = true) {X : Type} (S : X -> List SVal × Heap) (ok : X -> Prop) (μ : X -> Nat) (m : Nat)
  (entry : ∃ x σ, ok x /\ σ.length <= 8 * m /\ entP (qa9 top σ) ts h (S x).1 (S x).2)
  (round : ∀ x, ok x -> ∃ n, ex P E Q rs n (.code c :: .back (fun ts' h' _ => ∃ x' σ, ok x' /\ μ x' < μ x /\ σ.length <= 8 * m /\ entP (qa9 top σ) ts' h' (S x').1 (S x').2) :: k) (S x).1 (S x).2 (top + 8 * m)) :
  LoopAt P E Q rs c k ts h top := by
 refine ⟨fun hc hk G hG H ρ U a w b r cs R hU hL => ?_⟩
 have low : ∀ {σ : List (Option Nat)} {id : Nat}, id < top -> qa9 top σ id = some (some id) := fun {σ id} hid => by
  have : Nat.blt id top = true := Nat.ble_eq_true_of_le hid
  simp only [qa9, this]
 have high : ∀ {σ : List (Option Nat)} {id : Nat} {V : Top}, σ.length <= 8 * m -> Via (qa9 top σ) V id -> id < top + 8 * m /\ (id < top -> V id) := fun {σ id V} hσ hv => by
  by_cases hid : id < top
  ·refine ⟨by omega, fun _ => ?_⟩
   rcases hv with hv | ⟨i, hv, hi⟩
   ·rw [low hid] at hv; cases hv
   ·rw [low hid] at hv; cases hv; exact hi
  ·refine ⟨?_, fun q => absurd q hid⟩
   have hb : Nat.blt id top = false := by rw [Bool.eq_false_iff]; intro q; exact hid (Nat.le_of_ble_eq_true q)
   have : ∃ x, σ[id - top]? = some x := by
    rcases hv with hv | ⟨i, hv, _⟩ <;> simp only [qa9, hb] at hv <;> exact ⟨_, hv⟩
   obtain ⟨x, hx⟩ := this
   have := (List.getElem?_eq_some_iff.1 hx).1
   omega
 have main : ∀ (N : Nat) (x : X), μ x = N -> ok x -> ∀ (H2 : Snap) (ρ2 : Rho) (U2 : Top) a w, GrowsIf k H H2 -> (∀ id, U id -> U2 id /\ ρ2 id = ρ id) -> (∀ id, U2 id -> U id \/ top <= id) -> (∀ id, U2 id -> id < top + 8 * m) -> Rel E ρ2 H2 (S x).1 (S x).2 U2 a w ->
   G (lone (b.atR a (.code c :: .inLoop c :: r)) cs w) := by
  intro N
  induction N using Nat.strongRecOn with
  | _ N ih =>
    intro x hμ hok H2 ρ2 U2 a w h0 h1 h2 h3 R2
    obtain ⟨n, hx⟩ := round x hok
    have hL2 := (Lays.growIf h0 (fun hf hg => hL.grow hf hg) hL).mono (ρ' := ρ2) (V := U2) (t' := top + 8 * m) h1 h2 (Nat.le_add_right ..)
    refine qf5 hE hI hm hG n _ _ _ _ hx ?_ H2 ρ2 U2 a w b _ cs R2 h3 ⟨_, rfl, r, c, rfl, hL2, ?_⟩
    · intro y hy
      rcases List.mem_cons.1 hy with rfl | hy
      · exact hc
      · rcases List.mem_cons.1 hy with rfl | hy
        · trivial
        · exact hk y hy
    · intro H' ρ' V top' ts' h' a' w' e0 e1 e2 _ R' ⟨x', σ, hok', hlt, hσ, hent⟩
      refine hG _ _ (.one stepR_inLoop) ?_
      refine ih (μ x') (by omega) x' rfl hok' _ _ _ a' w' (h0.trans e0) (fun id hid => ?_) (fun id hid => ?_) (fun id hid => (high hσ hid).1) (qgb hE.gid R' hent)
      · have ht := hU id hid
        have q := e1 id (h1 id hid).1
        refine ⟨.inr ⟨id, low ht, q.1⟩, ?_⟩
        simp only [qT, low ht]
        exact q.2.trans (h1 id hid).2
      · by_cases ht : id < top
        · have := (high hσ hid).2 ht
          rcases e2 id this with q | q
          · exact h2 id q
          · omega
        · exact .inr (by omega)
 obtain ⟨x, σ, hok, hσ, hent⟩ := entry
 refine main (μ x) x rfl hok H _ _ a w (.inl rfl) (fun id hid => ?_) (fun id hid => ?_) (fun id hid => (high hσ hid).1) (qgb hE.gid R hent)
 ·have ht := hU id hid
  exact ⟨.inr ⟨id, low ht, hid⟩, by simp only [qT, low ht]⟩
 ·by_cases ht : id < top
  ·exact .inl ((high hσ hid).2 ht)
  ·exact .inr (by omega)
theorem qcR (hE : EnvG P E) (hI : qbm P E) (hm : P.follows .mixedOrders = true) {l : Nat} {y : Code} {X : Type} (S : X -> List SVal × Heap) (ok : X -> Prop) (μ : X -> Nat) (m : Nat)
  (entry : ∃ x σ, ok x /\ σ.length <= 8 * m /\ entP (qa9 top σ) ts h (S x).1 (S x).2)
  (round : ∀ x, ok x -> ∃ n, ex P E Q rs n (.code y :: .sback l (fun ts' h' _ => ∃ x' σ, ok x' /\ μ x' < μ x /\ σ.length <= 8 * m /\ entP (qa9 top σ) ts' h' (S x').1 (S x').2) :: k) (S x).1 (S x).2 (top + 8 * m)) :
  LabelAt P E Q rs l y c k ts h top := by
 refine ⟨fun hfd hc _ hk G hG H ρ U a w b r cs R hU hL => ?_⟩
 have low : ∀ {σ : List (Option Nat)} {id : Nat}, id < top -> qa9 top σ id = some (some id) := fun {σ id} hid => by
  have : Nat.blt id top = true := Nat.ble_eq_true_of_le hid
  simp only [qa9, this]
 have high : ∀ {σ : List (Option Nat)} {id : Nat} {V : Top}, σ.length <= 8 * m -> Via (qa9 top σ) V id -> id < top + 8 * m /\ (id < top -> V id) := fun {σ id V} hσ hv => by
  by_cases hid : id < top
  ·refine ⟨by omega, fun _ => ?_⟩
   rcases hv with hv | ⟨i, hv, hi⟩
   ·rw [low hid] at hv; cases hv
   ·rw [low hid] at hv; cases hv; exact hi
  ·refine ⟨?_, fun q => absurd q hid⟩
   have hb : Nat.blt id top = false := by rw [Bool.eq_false_iff]; intro q; exact hid (Nat.le_of_ble_eq_true q)
   have : ∃ x, σ[id - top]? = some x := by
    rcases hv with hv | ⟨i, hv, _⟩ <;> simp only [qa9, hb] at hv <;> exact ⟨_, hv⟩
   obtain ⟨x, hx⟩ := this
   have := (List.getElem?_eq_some_iff.1 hx).1
   omega
 have main : ∀ (N : Nat) (x : X), μ x = N -> ok x -> ∀ (H2 : Snap) (ρ2 : Rho) (U2 : Top) a w, GrowsIf k H H2 -> (∀ id, U id -> U2 id /\ ρ2 id = ρ id) -> (∀ id, U2 id -> U id \/ top <= id) -> (∀ id, U2 id -> id < top + 8 * m) -> Rel E ρ2 H2 (S x).1 (S x).2 U2 a w ->
   G (lone (b.atR a (.code y :: .inScope c :: r)) cs w) := by
  intro N
  induction N using Nat.strongRecOn with
  | _ N ih =>
    intro x hμ hok H2 ρ2 U2 a w h0 h1 h2 h3 R2
    obtain ⟨n, hx⟩ := round x hok
    have hL2 := (Lays.growIf h0 (fun hf hg => hL.grow hf hg) hL).mono (ρ' := ρ2) (V := U2) (t' := top + 8 * m) h1 h2 (Nat.le_add_right ..)
    refine qf5 hE hI hm hG n _ _ _ _ hx ?_ H2 ρ2 U2 a w b _ cs R2 h3 ⟨_, rfl, r, c, y, rfl, hfd, hL2, ?_⟩
    · intro y hy
      rcases List.mem_cons.1 hy with rfl | hy
      · exact hc
      · rcases List.mem_cons.1 hy with rfl | hy
        · trivial
        · exact hk y hy
    · intro H' ρ' V top' ts' h' a' w' e0 e1 e2 _ R' ⟨x', σ, hok', hlt, hσ, hent⟩
      refine ih (μ x') (by omega) x' rfl hok' _ _ _ a' w' (h0.trans e0) (fun id hid => ?_) (fun id hid => ?_) (fun id hid => (high hσ hid).1) (qgb hE.gid R' hent)
      · have ht := hU id hid
        have q := e1 id (h1 id hid).1
        refine ⟨.inr ⟨id, low ht, q.1⟩, ?_⟩
        simp only [qT, low ht]
        exact q.2.trans (h1 id hid).2
      · by_cases ht : id < top
        · have := (high hσ hid).2 ht
          rcases e2 id this with q | q
          · exact h2 id q
          · omega
        · exact .inr (by omega)
 obtain ⟨x, σ, hok, hσ, hent⟩ := entry
 refine main (μ x) x rfl hok H _ _ a w (.inl rfl) (fun id hid => ?_) (fun id hid => ?_) (fun id hid => (high hσ hid).1) (qgb hE.gid R hent)
 ·have ht := hU id hid
  exact ⟨.inr ⟨id, low ht, hid⟩, by simp only [qT, low ht]⟩
 ·by_cases ht : id < top
  ·exact .inl ((high hσ hid).2 ht)
  ·exact .inr (by omega)
end
end Go.Sx
end
section
namespace Go.Sx
mutual
def flat : SVal -> List Value
 | .lit k n => [.int k n]
 | .bl b => [.bool b]
 | .val v => [v]
 | .row k _ xs => xs.map (Value.int k)
 | .agg l => qgc l
 | _ => []
def qgc : List SVal -> List Value
 | [] => []
 | s :: l => flat s ++ qgc l
end
def oneB : Value -> Bool
 | .agg _ => false
 | .tuple _ => false
 | _ => true
mutual
def told : SVal -> Bool
 | .lit .. => true
 | .bl _ => true
 | .val v => oneB v
 | .row _ n xs => Nat.beq xs.length n
 | .agg l => qgd l
 | _ => false
def qgd : List SVal -> Bool
 | [] => true
 | s :: l => told s && qgd l
end
mutual
theorem qge {ρ : Rho} {H : Snap} : ∀ (s : SVal), told s = true -> Rep ρ H s (flat s) /\ IdsLt noId s
 | s, h => by
   cases s <;> simp only [told] at h <;> try (cases h; done)
   case lit => exact ⟨rfl, trivial⟩
   case bl => exact ⟨rfl, trivial⟩
   case val v => exact ⟨⟨rfl, by cases v <;> first | trivial | cases h⟩, trivial⟩
   case row k n xs => exact ⟨⟨Nat.eq_of_beq_eq_true h, rfl⟩, trivial⟩
   case agg l =>
     obtain ⟨h1, h2⟩ := qlY (ρ := ρ) (H := H) l h
     exact ⟨by simpa only [Rep, flat] using h1, h2⟩
theorem qlY {ρ : Rho} {H : Snap} : ∀ (l : List SVal), qgd l = true -> RepC ρ H l (qgc l) /\ IdsLtL noId l
 | [], _ => ⟨rfl, trivial⟩
 | s :: l, h => by
   simp only [qgd, Bool.and_eq_true] at h
   obtain ⟨h1, h2⟩ := qge (ρ := ρ) (H := H) s h.1
   obtain ⟨h3, h4⟩ := qlY (ρ := ρ) (H := H) l h.2
   exact ⟨RepC_cons.2 ⟨_, _, rfl, h1, h3⟩, h2, h4⟩
end
def boxV (ag : Bool) (l : List Value) : Value :=
 match ag with
 | true => .agg l.toArray
 | false => match l with
   | [v] => v
   | _ => undef
theorem qp9 {ρ : Rho} {H : Snap} {s : SVal} (h : told s = true) : Den ρ H s (boxV s.isAgg (flat s)) := by
 have hr := (qge (ρ := ρ) (H := H) s h).1
 cases s <;> simp only [told] at h <;> try (cases h; done)
 case row k n xs => exact ⟨Nat.eq_of_beq_eq_true h, rfl⟩
 case agg l => exact ⟨qgc l, by simpa only [Rep, flat] using hr, rfl⟩
 all_goals exact hr
def tdB (d : TypeDesc) : TD -> Bool
 | .int k => match d with | .int k' => keq k k' | _ => false
 | .bool => match d with | .bool => true | _ => false
 | .str => match d with | .string => true | _ => false
 | .ptr e => match d with | .pointer e' => Nat.beq e e' | _ => false
 | .slice e => match d with | .slice e' => Nat.beq e e' | _ => false
 | .arr n e => match d with | .array n' e' => Nat.beq n n' && Nat.beq e e' | _ => false
 | .st fs => match d with | .struct l => decide (fs = l.toList.map fun f => (f.offset, f.type)) | _ => false
 | .other => match d with | .struct _ => false | .array .. => false | _ => true
def aggB (ti : TI) : Bool :=
 match ti.d with
 | .st _ => ti.agg && ti.zero.isAgg
 | .arr .. => ti.agg && ti.zero.isAgg
 | _ => !ti.agg && (Nat.beq ti.size 1 && !ti.zero.isAgg)
theorem qB {P : Program} {t : TypeId} {i : TypeInfo} {d : TypeDesc} {ti : TI} (hi : P.info? t = some i) (hu : P.underlying t = some d) (h1 : tdB d ti.d = true) (h2 : aggB ti = true) (h3 : Nat.blt 0 ti.size = true) (h4 : Nat.beq i.size ti.size = true) (h5 : Nat.beq i.bytes ti.bytes = true)
  (h6 : told ti.zero = true) (h7 : Nat.beq (flat ti.zero).length ti.size = true) (h8 : i.zero = some (boxV ti.zero.isAgg (flat ti.zero))) : TyOk P t ti := by
 have hcells : (boxV ti.zero.isAgg (flat ti.zero)).cells.toList = flat ti.zero := by
  generalize hz : ti.zero = z at *
  cases z <;> simp only [told] at h6 <;> try (cases h6; done)
  case val v =>
   simp only [boxV, SVal.isAgg, flat]
   cases v <;> first | rfl | (simp [oneB] at h6)
  all_goals rfl
 refine ⟨⟨d, hu, ?_⟩, ?_, ⟨i, _, hi, Nat.eq_of_beq_eq_true h4, Nat.eq_of_beq_eq_true h5, h8, ?_, fun ρ H => ⟨qp9 h6, by rw [hcells]; exact (qge _ h6).1⟩⟩, Nat.le_of_ble_eq_true h3, fun ha => ?_, (qge (ρ := ρ0) (H := ⟨fun _ => none, default, []⟩) _ h6).2⟩
 ·generalize ti.d = td at h1
  cases td <;> simp only [tdB] at h1 <;> cases d <;> simp only [TDm] <;> first
   | (cases h1; done)
   | exact congrArg _ (keq_iff.1 h1).symm
   | exact congrArg _ (Nat.eq_of_beq_eq_true h1).symm
   | trivial
   | (simp only [Bool.and_eq_true] at h1; rw [Nat.eq_of_beq_eq_true h1.1, Nat.eq_of_beq_eq_true h1.2])
   | exact ⟨_, rfl, of_decide_eq_true h1⟩
   | exact ⟨(by rintro ⟨l, h⟩; cases h), (by intro n e h; cases h)⟩
 ·unfold aggB at h2
  split at h2
  ·rename_i fs hd
   simp only [Bool.and_eq_true] at h2
   exact ⟨fun _ => .inl ⟨fs, hd⟩, fun _ => h2.1⟩
  ·rename_i n e hd
   simp only [Bool.and_eq_true] at h2
   exact ⟨fun _ => .inr ⟨n, e, hd⟩, fun _ => h2.1⟩
  ·rename_i n1 n2
   simp only [Bool.and_eq_true, Bool.not_eq_true'] at h2
   rw [h2.1]
   refine ⟨(fun h => by cases h), ?_⟩
   rintro (⟨fs, h⟩ | ⟨n, e, h⟩)
   ·exact absurd h (n1 fs)
   ·exact absurd h (n2 n e)
 ·have := congrArg List.length hcells
  rw [<- Nat.eq_of_beq_eq_true h7, <- this]; simp
 ·unfold aggB at h2
  split at h2
  ·simp [ha] at h2
  ·simp [ha] at h2
  ·simp only [Bool.and_eq_true] at h2
   exact Nat.eq_of_beq_eq_true h2.2.1
end Go.Sx
end
section
namespace Go.Sx
def qah (fn : Func) : Code :=
 match fn.body with
 | some c => c
 | none => .skip
theorem qiW {E E' : Env} (h : E.Ω = E'.Ω) (q : PayL) : lenO E q = lenO E' q := by
 unfold lenO; rw [h]
theorem qqa {E E' : Env} (h : E.Ω = E'.Ω) (b : Nat) (v : SVal) : place E b v = place E' b v := by
 have key : ∀ (l : List SVal) (b : Nat), place.placeL E b l = place.placeL E' b l := by
  intro l
  induction l with
  | nil => intro b; rfl
  | cons s l ih =>
    intro b
    cases s <;> simp only [place.placeL, ih, h, qiW h]
 cases v <;> simp only [place, key, h, qiW h]
theorem PSpecOk.congr {P : Program} {E E' : Env} (h : E.Ω = E'.Ω) (hg : E.glob = E'.glob) {g : FuncId} {s : qd} (hs : PSpecOk P E g s) : PSpecOk P E' g s := by
 intro w args vs hgl hr hp
 refine (hs w args vs (by unfold qiL at *; rw [hg]; exact hgl) hr hp).mono ?_
 rintro e w' ⟨v, h1, h2, h3, x, h4, h5⟩
 refine ⟨v, h1, h2, h3, x, h4, fun b => ?_⟩
 rw [<- qqa h]
 exact h5 b
theorem qlZ {E E' : Env} (h : E.Ω = E'.Ω) : ∀ (l : List SVal) (b : Nat), place.placeL E b l = place.placeL E' b l := by
 intro l
 induction l with
 | nil => intro b; rfl
 | cons s l ih =>
   intro b
   cases s <;> simp only [place.placeL, ih, h, qiW h]
theorem MSpecOk.congr {P : Program} {E E' : Env} (h : E.Ω = E'.Ω) (hg : E.glob = E'.glob) {g : FuncId} {ms : qaG} (hs : MSpecOk P E g ms) : MSpecOk P E' g ms := by
 intro w Hs ρ d rest vs h1 h1' h2 h3 h4 h5 h6
 refine (hs w Hs ρ d rest vs h1 h1' h2 (by rw [hg]; exact h3) h4 (by rw [qlZ h]; exact h5) h6).mono ?_
 rintro e w' ⟨v, x, q1, q2, q3, q4, q5⟩
 refine ⟨v, x, q1, q2, q3, q4, fun b => ?_⟩
 have := q5 b
 rw [qlZ h] at this
 exact this
def getM : List (FuncId × qaG) -> FuncId -> Option qaG
 | [], _ => none
 | (g, s) :: r, f => match Nat.beq g f with
   | true => some s
   | false => getM r f
theorem qew {f : FuncId} {s : qaG} : ∀ {l : List (FuncId × qaG)}, getM l f = some s -> (f, s) ∈ l
 | (g, t) :: r, h => by
   simp only [getM] at h
   split at h
   · rename_i hb
     cases h
     rw [Nat.eq_of_beq_eq_true hb]
     exact List.mem_cons_self ..
   · exact List.mem_cons_of_mem _ (qew h)
def getX : List (FuncId × XK) -> FuncId -> Option XK
 | [], _ => none
 | (g, s) :: r, f => match Nat.beq g f with
   | true => some s
   | false => getX r f
theorem ql0 {f : FuncId} {s : XK} : ∀ {l : List (FuncId × XK)}, getX l f = some s -> (f, s) ∈ l
 | (g, t) :: r, h => by
   simp only [getX] at h
   split at h
   · rename_i hb
     cases h
     rw [Nat.eq_of_beq_eq_true hb]
     exact List.mem_cons_self ..
   · exact List.mem_cons_of_mem _ (ql0 h)
def getG : List (FuncId × qd) -> FuncId -> Option qd
 | [], _ => none
 | (g, s) :: r, f => match Nat.beq g f with
   | true => some s
   | false => getG r f
def getI : List (FuncId × Func) -> FuncId -> Option Func
 | [], _ => none
 | (g, s) :: r, f => match Nat.beq g f with
   | true => some s
   | false => getI r f
theorem qcS {f : FuncId} {s : qd} : ∀ {l : List (FuncId × qd)}, getG l f = some s -> (f, s) ∈ l
 | (g, t) :: r, h => by
   simp only [getG] at h
   split at h
   · rename_i hb
     cases h
     rw [Nat.eq_of_beq_eq_true hb]
     exact List.mem_cons_self ..
   · exact List.mem_cons_of_mem _ (qcS h)
theorem qgf {f : FuncId} {s : Func} : ∀ {l : List (FuncId × Func)}, getI l f = some s -> (f, s) ∈ l
 | (g, t) :: r, h => by
   simp only [getI] at h
   split at h
   · rename_i hb
     cases h
     rw [Nat.eq_of_beq_eq_true hb]
     exact List.mem_cons_self ..
   · exact List.mem_cons_of_mem _ (qgf h)
structure Ctr (P : Program) (T : TypeId -> Option TI) (glob : Nat -> SVal) (g : FuncId) (s : qd) : Prop where
 rid : ∀ args x, IdsLt noId ((s args).res x)
 few : ∀ E : Env, ∀ args x b, ∀ p ∈ (place E b ((s args).res x)).2, b <= p.1 /\ p.1 < b + 8
 closed : ∀ args, (s args).pre -> IdsLtL noId args
 some_x : ∀ args, (s args).pre -> ∃ x, (s args).post x
 call : qar P g
 spec : PSpecOk P ⟨T, fun _ => none, fun _ => none, glob, Om.real, fun _ => none, fun _ => none⟩ g s
structure MCtr (P : Program) (T : TypeId -> Option TI) (glob : Nat -> SVal) (g : FuncId) (ms : qaG) : Prop where
 mclosed : ∀ d rest, (ms d rest).pre -> IdsLtL noId d /\ IdsLtL noId rest /\ d.length <= 8
 mres : ∀ d rest x, IdsLtL noId ((ms d rest).res x ++ (ms d rest).out x) /\ ((ms d rest).res x ++ (ms d rest).out x).length <= 8
 call : qar P g
 spec : MSpecOk P ⟨T, fun _ => none, fun _ => none, glob, Om.real, fun _ => none, fun _ => none⟩ g ms
def qae (T : TypeId -> Option TI) (glob : Nat -> SVal) (l : List (FuncId × qd)) (i : List (FuncId × Func)) (m : List (FuncId × qaG)) (x : List (FuncId × XK)) (Ω : Om) : Env := ⟨T, getG l, getI i, glob, Ω, getM m, getX x⟩
theorem ql1 {P : Program} {T : TypeId -> Option TI} {glob : Nat -> SVal} (hT : ∀ t ti, T t = some ti -> TyOk P t ti) (hg : ∀ g, IdsLt noId (glob g)) (l : List (FuncId × qd)) (i : List (FuncId × Func)) (m : List (FuncId × qaG)) (x : List (FuncId × XK)) (hl : ∀ p ∈ l, Ctr P T glob p.1 p.2) (hi : ∀ p ∈ i, qar P p.1) (hmc : ∀ p ∈ m, MCtr P T glob p.1 p.2) (hxk : ∀ p ∈ x, XOk P p.1 p.2) :
  EnvG P (qae T glob l i m x Om.real) where
 om := rfl
 ext := fun g k h => hxk _ (ql0 h)
 ty := hT
 zid := fun t ti h => (hT t ti h).zid
 gid := hg
 rid := fun g s args y h => (hl _ (qcS h)).rid args y
 few := fun g s args y h b => (hl _ (qcS h)).few _ args y b
 spec := fun g s h => PSpecOk.congr (E := ⟨T, fun _ => none, fun _ => none, glob, Om.real, fun _ => none, fun _ => none⟩) (E' := qae T glob l i m x Om.real) rfl rfl (hl _ (qcS h)).spec
 closed := fun g s args h => (hl _ (qcS h)).closed args
 some_x := fun g s args h => (hl _ (qcS h)).some_x args
 mspec := fun g s h => MSpecOk.congr (E := ⟨T, fun _ => none, fun _ => none, glob, Om.real, fun _ => none, fun _ => none⟩) (E' := qae T glob l i m x Om.real) rfl rfl (hmc _ (qew h)).spec
 mclosed := fun g s d rest h hp => ((hmc _ (qew h)).mclosed d rest hp).2.1
 mres := fun g s d rest y h => (hmc _ (qew h)).mres d rest y
 call := fun g h => by
  rcases h with h | h
  ·obtain ⟨s, hs⟩ := Option.isSome_iff_exists.1 h
   exact (hl _ (qcS hs)).call
  ·simp only [Env.into, Bool.or_eq_true] at h
   rcases h with h | h
   ·obtain ⟨s, hs⟩ := Option.isSome_iff_exists.1 h
    exact hi _ (qgf hs)
   ·obtain ⟨s, hs⟩ := Option.isSome_iff_exists.1 h
    exact (hmc _ (qew hs)).call
structure PR.Good (pr : PR) (args : List SVal) : Prop where
 rid : ∀ x, IdsLt noId (pr.res x)
 few : ∀ E : Env, ∀ x b, ∀ p ∈ (place E b (pr.res x)).2, b <= p.1 /\ p.1 < b + 8
 closed : pr.pre -> IdsLtL noId args
 some_x : pr.pre -> ∃ x, pr.post x
theorem PR.good_none {args : List SVal} : PR.none.Good args := ⟨fun _ => trivial, fun E x b p hp => by simp [place, PR.none] at hp, fun h => h.elim, fun h => h.elim⟩
theorem qqb {P : Program} {T : TypeId -> Option TI} {glob : Nat -> SVal} (hT : ∀ t ti, T t = some ti -> TyOk P t ti) (hg : ∀ g, IdsLt noId (glob g)) (hm : P.follows .mixedOrders = true) {g : FuncId} {fn : Func} {s : qd} (l : List (FuncId × qd)) (i : List (FuncId × Func)) (m : List (FuncId × qaG)) (x : List (FuncId × XK))
  (hl : ∀ p ∈ l, Ctr P T glob p.1 p.2) (hi : ∀ p ∈ i, qar P p.1 /\ P.funcs[p.1]? = some p.2 /\ qE (qah p.2) = true) (hmc : ∀ p ∈ m, MCtr P T glob p.1 p.2) (hxk : ∀ p ∈ x, XOk P p.1 p.2) (hf : P.funcs[g]? = some fn) (hb : fn.body.isSome = true) (hreg : qE (qah fn) = true) (hcall : qar P g)
  (good : ∀ args, (s args).Good args)
  (hx : ∀ (P' : Program) (Ω : Om), Ω = Om.real -> EnvG P' (qae T glob l i m x Ω) -> qbm P' (qae T glob l i m x Ω) -> P'.follows .mixedOrders = true -> ∀ args pr, s args = pr -> pr.pre -> ∀ Q : SVal -> Heap -> Nat -> Prop,
   (∀ y r h t, pr.post y -> fits (qae T glob l i m x Ω) h r (pr.res y) -> Q r h t) -> ∃ n, ex P' (qae T glob l i m x Ω) Q fn.results.toList n [.code (qah fn)] (args ++ List.replicate (fn.ntmps - args.length) .junk) [] 0) :
  Ctr P T glob g s := by
 have hE := ql1 hT hg l i m x hl (fun p hp => (hi p hp).1) hmc hxk
 have hI : qbm P (qae T glob l i m x Om.real) := fun f fn' h => by
  obtain ⟨h1, h2, h3⟩ := hi _ (qgf h)
  refine ⟨h2, fun c hc => ?_⟩
  simp only [qah, hc] at h3
  exact h3
 obtain ⟨c, hc⟩ := Option.isSome_iff_exists.1 hb
 have hbody : qah fn = c := by simp only [qah, hc]
 refine ⟨fun args => (good args).rid, fun E args => (good args).few E, fun args => (good args).closed, fun args => (good args).some_x, hcall,
  PSpecOk.congr (E := qae T glob l i m x Om.real) (E' := ⟨T, fun _ => none, fun _ => none, glob, Om.real, fun _ => none, fun _ => none⟩) rfl rfl (qlR hE hI hm hf hc (by rw [<- hbody]; exact hreg) (fun args => (good args).closed) fun args hp => ?_)⟩
 rw [<- hbody]
 exact hx P Om.real rfl hE hI hm args _ rfl hp _ fun x r h t h1 h2 => ⟨x, h1, h2⟩
theorem qe {P : Program} {T : TypeId -> Option TI} {glob : Nat -> SVal} : ∀ p ∈ ([] : List (FuncId × qaG)), MCtr P T glob p.1 p.2 := fun p hp => by cases hp
theorem qf {P : Program} : ∀ p ∈ ([] : List (FuncId × XK)), XOk P p.1 p.2 := fun p hp => by cases hp
theorem qdA {P : Program} {g : FuncId} {s : XK} {l : List (FuncId × XK)} (h : XOk P g s) (hl : ∀ p ∈ l, XOk P p.1 p.2) : ∀ p ∈ (g, s) :: l, XOk P p.1 p.2 := fun p hp => by
 rcases List.mem_cons.1 hp with rfl | hp
 ·exact h
 ·exact hl p hp
theorem x_of {P : Program} {g : FuncId} {fn : Func} {k : XK} (hf : P.funcs[g]? = some fn) (hname : (fn.name == "runtime.NumGoroutine") = false) (hb : fn.body.isNone = true) (hn : Extern.findNext fn = none) (he : Extern.find fn = some k.entry) : XOk P g k := fun args w => run_callFunc_extern hf hname hb hn he args w
end Go.Sx
end
section
namespace Go.Sx
def Opn (a c : SVal) : Prop :=
 match a with
 | .ab (.pt P) => ∃ X Y Z : Fp, c = .agg [.ab (.fe X), .ab (.fe Y), .ab (.fe Z)] /\ P.on /\ Z ≠ 0 /\ X = P.x * Z /\ Y = P.y * Z
 | .ab (.rp P) => ∃ X Y Z : Fp, c = .agg [.ab (.re X), .ab (.re Y), .ab (.re Z)] /\ P.on /\ Z ≠ 0 /\ X = P.x * Z /\ Y = P.y * Z
 | .ab p => ∃ xs, c = .row p.k p.n xs /\ p.ok xs
 | a => c = a
def OpnL : List SVal -> List SVal -> Prop
 | [], cs => cs = []
 | a :: l, cs => ∃ c m, cs = c :: m /\ Opn a c /\ OpnL l m
section
variable {ρ : Rho} {H : Snap}
theorem ql2 {k : Fp -> Pay} {ok : Fp -> List Int -> Prop} (hk : ∀ x, (k x).ok = ok x) {q : Pay} (hq : ∀ x, (k x).k = q.k) {xs : List Int} {X Y Z : Fp} {a b c : List Int} (e : xs = a ++ (b ++ c)) (h1 : ok X a) (h2 : ok Y b) (h3 : ok Z c) :
  Den ρ H (.agg [.ab (k X), .ab (k Y), .ab (k Z)]) (.agg (xs.map (Value.int q.k)).toArray) := by
 refine ⟨xs.map (Value.int q.k), ?_, rfl⟩
 rw [e, List.map_append, List.map_append]
 refine RepC_cons.2 ⟨_, _, rfl, ?_, RepC_cons.2 ⟨_, _, rfl, ?_, RepC_cons.2 ⟨_, [], (List.append_nil _).symm, ?_, rfl⟩⟩⟩
 ·simp only [Rep]; exact ⟨a, by rw [hq], by rw [hk]; exact h1⟩
 ·simp only [Rep]; exact ⟨b, by rw [hq], by rw [hk]; exact h2⟩
 ·simp only [Rep]; exact ⟨c, by rw [hq], by rw [hk]; exact h3⟩
theorem Opn.ok {a : SVal} {v : Value} (hd : Den ρ H a v) (hi : IdsLt noId a) : ∃ c, Opn a c /\ Den ρ H c v /\ IdsLt noId c := by
 have row : ∀ p : Pay, Den ρ H (.ab p) v -> ∃ c, (∃ xs, c = .row p.k p.n xs /\ p.ok xs) /\ Den ρ H c v /\ IdsLt noId c := by
  rintro p ⟨xs, h1, h2⟩
  exact ⟨_, ⟨xs, rfl, h1⟩, ⟨Pay.len h1, h2⟩, trivial⟩
 cases a with
 | ab p =>
   cases p with
   | pt P =>
     obtain ⟨xs, ⟨h1, X, Y, Z, a, b, c, e, h2, h3, h4, h5⟩, rfl⟩ := hd
     exact ⟨_, ⟨X, Y, Z, rfl, h1, h5⟩, ql2 (k := Pay.fe) (fun _ => rfl) (fun _ => rfl) e h2 h3 h4, ⟨trivial, trivial, trivial, trivial⟩⟩
   | rp P =>
     obtain ⟨xs, ⟨h1, X, Y, Z, a, b, c, e, h2, h3, h4, h5⟩, rfl⟩ := hd
     exact ⟨_, ⟨X, Y, Z, rfl, h1, h5⟩, ql2 (k := Pay.re) (fun _ => rfl) (fun _ => rfl) e h2 h3 h4, ⟨trivial, trivial, trivial, trivial⟩⟩
   | _ => exact row _ hd
 | _ => exact ⟨_, rfl, hd, hi⟩
theorem OpnL.ok : ∀ {l : List SVal} {vs : List Value}, RepV ρ H l vs -> IdsLtL noId l -> ∃ cs, OpnL l cs /\ RepV ρ H cs vs /\ IdsLtL noId cs
 | [], vs, hr, _ => ⟨[], rfl, hr, trivial⟩
 | a :: l, vs, hr, hi => by
   obtain ⟨v, ws, rfl, h1, h2⟩ := RepV_cons.1 hr
   obtain ⟨c, h3, h4, h5⟩ := Opn.ok h1 hi.1
   obtain ⟨m, h6, h7, h8⟩ := OpnL.ok h2 hi.2
   exact ⟨c :: m, ⟨c, m, rfl, h3, h6⟩, RepV_cons.2 ⟨v, ws, rfl, h4, h7⟩, h5, h8⟩
end
theorem qce {P : AP} {X Y Z : Fp} (h : P.on) (hz : Z ≠ 0) (hx : X = P.x * Z) (hy : Y = P.y * Z) : qdw [.ab (.fe X), .ab (.fe Y), .ab (.fe Z)] (.pt P) := by
 intro ρ H us hr
 obtain ⟨u1, w1, rfl, h1, r1⟩ := RepC_cons.1 hr
 obtain ⟨u2, w2, rfl, h2, r2⟩ := RepC_cons.1 r1
 obtain ⟨u3, w3, rfl, h3, r3⟩ := RepC_cons.1 r2
 simp only [RepC] at r3
 subst r3
 simp only [Rep] at h1 h2 h3
 obtain ⟨a, rfl, h1⟩ := h1
 obtain ⟨b, rfl, h2⟩ := h2
 obtain ⟨c, rfl, h3⟩ := h3
 exact ⟨a ++ (b ++ c), by simp [Pay.k], h, X, Y, Z, a, b, c, rfl, h1, h2, h3, hz, hx, hy⟩
theorem qdB {P : AP} {X Y Z : Fp} (h : P.on) (hz : Z ≠ 0) (hx : X = P.x * Z) (hy : Y = P.y * Z) : qdw [.ab (.re X), .ab (.re Y), .ab (.re Z)] (.rp P) := by
 intro ρ H us hr
 obtain ⟨u1, w1, rfl, h1, r1⟩ := RepC_cons.1 hr
 obtain ⟨u2, w2, rfl, h2, r2⟩ := RepC_cons.1 r1
 obtain ⟨u3, w3, rfl, h3, r3⟩ := RepC_cons.1 r2
 simp only [RepC] at r3
 subst r3
 simp only [Rep] at h1 h2 h3
 obtain ⟨a, rfl, h1⟩ := h1
 obtain ⟨b, rfl, h2⟩ := h2
 obtain ⟨c, rfl, h3⟩ := h3
 exact ⟨a ++ (b ++ c), by simp [Pay.k], h, X, Y, Z, a, b, c, rfl, h1, h2, h3, hz, hx, hy⟩
theorem qqc {P : Program} {T : TypeId -> Option TI} {glob : Nat -> SVal} (hT : ∀ t ti, T t = some ti -> TyOk P t ti) (hg : ∀ g, IdsLt noId (glob g)) (hm : P.follows .mixedOrders = true) {g : FuncId} {fn : Func} {s : qd} (l : List (FuncId × qd)) (i : List (FuncId × Func)) (m : List (FuncId × qaG)) (x : List (FuncId × XK))
  (hl : ∀ p ∈ l, Ctr P T glob p.1 p.2) (hi : ∀ p ∈ i, qar P p.1 /\ P.funcs[p.1]? = some p.2 /\ qE (qah p.2) = true) (hmc : ∀ p ∈ m, MCtr P T glob p.1 p.2) (hxk : ∀ p ∈ x, XOk P p.1 p.2) (hf : P.funcs[g]? = some fn) (hb : fn.body.isSome = true) (hreg : qE (qah fn) = true) (hcall : qar P g)
  (good : ∀ args, (s args).Good args)
  (hx : ∀ (P' : Program) (Ω : Om), Ω = Om.real -> EnvG P' (qae T glob l i m x Ω) -> qbm P' (qae T glob l i m x Ω) -> P'.follows .mixedOrders = true -> ∀ args pr, s args = pr -> pr.pre -> ∀ cs, OpnL args cs -> ∀ Q : SVal -> Heap -> Nat -> Prop,
   (∀ y r h t, pr.post y -> fits (qae T glob l i m x Ω) h r (pr.res y) -> Q r h t) -> ∃ n, ex P' (qae T glob l i m x Ω) Q fn.results.toList n [.code (qah fn)] (cs ++ List.replicate (fn.ntmps - cs.length) .junk) [] 0) :
  Ctr P T glob g s := by
 have hE := ql1 hT hg l i m x hl (fun p hp => (hi p hp).1) hmc hxk
 have hI : qbm P (qae T glob l i m x Om.real) := fun f fn' h => by
  obtain ⟨h1, h2, h3⟩ := hi _ (qgf h)
  refine ⟨h2, fun c hc => ?_⟩
  simp only [qah, hc] at h3
  exact h3
 obtain ⟨c, hc⟩ := Option.isSome_iff_exists.1 hb
 have hbody : qah fn = c := by simp only [qah, hc]
 refine ⟨fun args => (good args).rid, fun E args => (good args).few E, fun args => (good args).closed, fun args => (good args).some_x, hcall, ?_⟩
 intro w args vs hgl hr hp
 obtain ⟨cs, h1, h2, h3⟩ := OpnL.ok hr ((good args).closed hp)
 have key := PSpecOk.congr (E := qae T glob l i m x Om.real) (E' := ⟨T, fun _ => none, fun _ => none, glob, Om.real, fun _ => none, fun _ => none⟩) rfl rfl (qlR (s := fun ds => ⟨ds = cs, (s args).X, (s args).post, (s args).res⟩) hE hI hm hf hc (by rw [<- hbody]; exact hreg) (fun ds hd => by subst hd; exact h3) fun ds hd => by
  subst hd
  rw [<- hbody]
  exact hx P Om.real rfl hE hI hm args _ rfl hp ds h1 _ fun y r h t q1 q2 => ⟨y, q1, q2⟩)
 exact key w cs vs hgl h2 rfl
theorem qal {P : Program} {T : TypeId -> Option TI} {glob : Nat -> SVal} (hT : ∀ t ti, T t = some ti -> TyOk P t ti) (hg : ∀ g, IdsLt noId (glob g)) (hm : P.follows .mixedOrders = true) {g : FuncId} {fn : Func} {s : Om -> qd} (l : Om -> List (FuncId × qd)) (i : List (FuncId × Func)) (m : Om -> List (FuncId × qaG)) (x : List (FuncId × XK))
  (hl : ∀ p ∈ l Om.real, Ctr P T glob p.1 p.2) (hi : ∀ p ∈ i, qar P p.1 /\ P.funcs[p.1]? = some p.2 /\ qE (qah p.2) = true) (hmc : ∀ p ∈ m Om.real, MCtr P T glob p.1 p.2) (hxk : ∀ p ∈ x, XOk P p.1 p.2) (hf : P.funcs[g]? = some fn) (hb : fn.body.isSome = true) (hreg : qE (qah fn) = true) (hcall : qar P g)
  (good : ∀ args, (s Om.real args).Good args)
  (hx : ∀ (P' : Program) (Ω : Om), Ω = Om.real -> EnvG P' (qae T glob (l Ω) i (m Ω) x Ω) -> qbm P' (qae T glob (l Ω) i (m Ω) x Ω) -> P'.follows .mixedOrders = true -> ∀ args pr, s Ω args = pr -> pr.pre -> ∀ cs, OpnL args cs -> ∀ Q : SVal -> Heap -> Nat -> Prop,
   (∀ y r h t, pr.post y -> fits (qae T glob (l Ω) i (m Ω) x Ω) h r (pr.res y) -> Q r h t) -> ∃ n, ex P' (qae T glob (l Ω) i (m Ω) x Ω) Q fn.results.toList n [.code (qah fn)] (cs ++ List.replicate (fn.ntmps - cs.length) .junk) [] 0) :
  Ctr P T glob g (s Om.real) :=
 qqc hT hg hm (l Om.real) i (m Om.real) x hl hi hmc hxk hf hb hreg hcall good fun P' Ω hΩ => by subst hΩ; exact hx P' Om.real rfl
theorem qo {P : Program} {T : TypeId -> Option TI} {glob : Nat -> SVal} (hT : ∀ t ti, T t = some ti -> TyOk P t ti) (hg : ∀ g, IdsLt noId (glob g)) (hm : P.follows .mixedOrders = true) {g : FuncId} {fn : Func} {s : Om -> qd} (l : Om -> List (FuncId × qd)) (i : List (FuncId × Func)) (m : Om -> List (FuncId × qaG)) (x : List (FuncId × XK))
  (hl : ∀ p ∈ l Om.real, Ctr P T glob p.1 p.2) (hi : ∀ p ∈ i, qar P p.1 /\ P.funcs[p.1]? = some p.2 /\ qE (qah p.2) = true) (hmc : ∀ p ∈ m Om.real, MCtr P T glob p.1 p.2) (hxk : ∀ p ∈ x, XOk P p.1 p.2) (hf : P.funcs[g]? = some fn) (hb : fn.body.isSome = true) (hreg : qE (qah fn) = true) (hcall : qar P g)
  (good : ∀ args, (s Om.real args).Good args)
  (hx : ∀ (P' : Program) (Ω : Om), Ω = Om.real -> EnvG P' (qae T glob (l Ω) i (m Ω) x Ω) -> qbm P' (qae T glob (l Ω) i (m Ω) x Ω) -> P'.follows .mixedOrders = true -> ∀ args pr, s Ω args = pr -> pr.pre -> ∀ Q : SVal -> Heap -> Nat -> Prop,
   (∀ y r h t, pr.post y -> fits (qae T glob (l Ω) i (m Ω) x Ω) h r (pr.res y) -> Q r h t) -> ∃ n, ex P' (qae T glob (l Ω) i (m Ω) x Ω) Q fn.results.toList n [.code (qah fn)] (args ++ List.replicate (fn.ntmps - args.length) .junk) [] 0) :
  Ctr P T glob g (s Om.real) :=
 qqb hT hg hm (l Om.real) i (m Om.real) x hl hi hmc hxk hf hb hreg hcall good fun P' Ω hΩ => by subst hΩ; exact hx P' Om.real rfl
end Go.Sx
end
section
namespace Go.Sx
theorem qV {a : Int} (h0 : -9223372036854775808 <= a) (h : a < 9223372036854775808) : IntKind.i64.wrap a = a := by
 rw [IntKind.wrap_i64]; omega
theorem qgg {a : Int} (h0 : 0 <= a) (h : a < 18446744073709551616) : IntKind.u64.wrap a = a := by
 rw [IntKind.wrap_u64]; omega
section
variable (a b : Nat)
theorem qex (h : a + b < 9223372036854775808) : binL .add .i64 (a : Int) (b : Int) = ((a + b : Nat) : Int) := by
 show IntKind.i64.wrap _ = _; rw [qV] <;> omega
theorem ql3 (h : a + (OfNat.ofNat b) < 9223372036854775808) : binL .add .i64 (a : Int) (no_index (OfNat.ofNat b)) = ((a + (OfNat.ofNat b) : Nat) : Int) := qex a b h
theorem ql4 (h : (OfNat.ofNat a) + b < 9223372036854775808) : binL .add .i64 (no_index (OfNat.ofNat a)) (b : Int) = (((OfNat.ofNat a) + b : Nat) : Int) := qex a b h
theorem qgh (hb : b <= a) (h : a < 9223372036854775808) : binL .sub .i64 (a : Int) (b : Int) = ((a - b : Nat) : Int) := by
 show IntKind.i64.wrap _ = _; rw [qV] <;> omega
theorem ql5 (hb : (OfNat.ofNat b) <= a) (h : a < 9223372036854775808) : binL .sub .i64 (a : Int) (no_index (OfNat.ofNat b)) = ((a - (OfNat.ofNat b) : Nat) : Int) := qgh a b hb h
theorem ql6 (hb : b <= (OfNat.ofNat a)) (h : (OfNat.ofNat a) < 9223372036854775808) : binL .sub .i64 (no_index (OfNat.ofNat a)) (b : Int) = (((OfNat.ofNat a) - b : Nat) : Int) := qgh a b hb h
theorem qgi (h : a * b < 9223372036854775808) : binL .mul .i64 (a : Int) (b : Int) = ((a * b : Nat) : Int) := by
 show IntKind.i64.wrap _ = _
 rw [<- Int.natCast_mul]
 generalize a * b = c at *
 rw [qV] <;> omega
theorem ql7 (h : a * (OfNat.ofNat b) < 9223372036854775808) : binL .mul .i64 (a : Int) (no_index (OfNat.ofNat b)) = ((a * (OfNat.ofNat b) : Nat) : Int) := qgi a b h
theorem ql8 (h : (OfNat.ofNat a) * b < 9223372036854775808) : binL .mul .i64 (no_index (OfNat.ofNat a)) (b : Int) = (((OfNat.ofNat a) * b : Nat) : Int) := qgi a b h
theorem qa4 (h : a < 9223372036854775808) : binL .quo .i64 (a : Int) (b : Int) = ((a / b : Nat) : Int) := by
 show IntKind.i64.wrap _ = _
 rw [Int.tdiv_eq_ediv_of_nonneg (by omega), <- Int.natCast_ediv]
 have : a / b <= a := Nat.div_le_self _ _
 generalize a / b = c at *
 rw [qV] <;> omega
theorem ql9 (h : a < 9223372036854775808) : binL .quo .i64 (a : Int) (no_index (OfNat.ofNat b)) = ((a / (OfNat.ofNat b) : Nat) : Int) := qa4 a b h
theorem qcf : binL .rem .i64 (a : Int) (b : Int) = ((a % b : Nat) : Int) := by
 show (a : Int).tmod b = _
 rw [Int.tmod_eq_emod_of_nonneg (by omega), <- Int.natCast_emod]
theorem qma : binL .rem .i64 (a : Int) (no_index (OfNat.ofNat b)) = ((a % (OfNat.ofNat b) : Nat) : Int) := qcf a b
theorem qgj : cmpL .lss (a : Int) (b : Int) = decide (a < b) := by show decide _ = _; congr 1; exact propext Int.ofNat_lt
theorem qmb : cmpL .lss (a : Int) (no_index (OfNat.ofNat b)) = decide (a < (OfNat.ofNat b)) := qgj a b
theorem qmc : cmpL .lss (no_index (OfNat.ofNat a)) (b : Int) = decide ((OfNat.ofNat a) < b) := qgj a b
theorem qgk : cmpL .leq (a : Int) (b : Int) = decide (a <= b) := by show decide _ = _; congr 1; exact propext Int.ofNat_le
theorem qmd : cmpL .leq (a : Int) (no_index (OfNat.ofNat b)) = decide (a <= (OfNat.ofNat b)) := qgk a b
theorem qme : cmpL .leq (no_index (OfNat.ofNat a)) (b : Int) = decide ((OfNat.ofNat a) <= b) := qgk a b
theorem qgl : cmpL .gtr (a : Int) (b : Int) = decide (b < a) := by show decide _ = _; congr 1; exact propext Int.ofNat_lt
theorem qmf : cmpL .gtr (a : Int) (no_index (OfNat.ofNat b)) = decide ((OfNat.ofNat b) < a) := qgl a b
theorem qmg : cmpL .gtr (no_index (OfNat.ofNat a)) (b : Int) = decide (b < (OfNat.ofNat a)) := qgl a b
theorem qiX : cmpL .geq (a : Int) (b : Int) = decide (b <= a) := by show decide _ = _; congr 1; exact propext Int.ofNat_le
theorem qmh : cmpL .geq (a : Int) (no_index (OfNat.ofNat b)) = decide ((OfNat.ofNat b) <= a) := qiX a b
theorem qiY : cmpL .eql (a : Int) (b : Int) = decide (a = b) := by
 show ((a : Int) == b) = _
 by_cases h : a = b
 ·subst h; simp
 ·have : ((a : Int) == b) = false := by rw [beq_eq_false_iff_ne]; omega
  rw [this]; simp [h]
theorem qmi : cmpL .eql (a : Int) (no_index (OfNat.ofNat b)) = decide (a = (OfNat.ofNat b)) := qiY a b
theorem qiZ : cmpL .neq (a : Int) (b : Int) = decide (a ≠ b) := by
 show ((a : Int) != b) = _
 by_cases h : a = b
 ·subst h; simp
 ·have : ((a : Int) != b) = true := by rw [bne_iff_ne]; omega
  rw [this]; simp [h]
theorem qmj : cmpL .neq (a : Int) (no_index (OfNat.ofNat b)) = decide (a ≠ (OfNat.ofNat b)) := qiZ a b
end
theorem nc (n : Nat) : @NatCast.natCast Int instNatCastInt n = (n : Int) := rfl
theorem qk : type_of% @nc /\ type_of% @Nat.succ_eq_add_one /\ type_of% @Int.ofNat_eq_natCast /\ type_of% @Int.toNat_natCast /\ type_of% @qex /\ type_of% @ql3 /\ type_of% @ql4 /\ type_of% @qgh /\ type_of% @ql5 /\ type_of% @ql6 /\ type_of% @qgi /\ type_of% @ql7 /\ type_of% @ql8 /\ type_of% @qa4 /\ type_of% @ql9 /\ type_of% @qcf /\ type_of% @qma /\ type_of% @qgj /\ type_of% @qmb /\ type_of% @qmc /\ type_of% @qgk /\ type_of% @qmd /\ type_of% @qme /\ type_of% @qgl /\ type_of% @qmf /\ type_of% @qmg /\ type_of% @qiX /\ type_of% @qmh /\ type_of% @qiY /\ type_of% @qmi /\ type_of% @qiZ /\ type_of% @qmj := ⟨@nc, @Nat.succ_eq_add_one, @Int.ofNat_eq_natCast, @Int.toNat_natCast, @qex, @ql3, @ql4, @qgh, @ql5, @ql6, @qgi, @ql7, @ql8, @qa4, @ql9, @qcf, @qma, @qgj, @qmb, @qmc, @qgk, @qmd, @qme, @qgl, @qmf, @qmg, @qiX, @qmh, @qiY, @qmi, @qiZ, @qmj⟩
end Go.Sx
end
