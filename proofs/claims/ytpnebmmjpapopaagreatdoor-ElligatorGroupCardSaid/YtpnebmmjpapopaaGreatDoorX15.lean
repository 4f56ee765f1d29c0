/-
  Part of the proof of a statement: the means.
-/
import Derived.Test.YtpnebmmjpapopaaGreatDoorX14
import Derived.Test.YtpnebmmjpapopaaGreatDoorX13
set_option linter.unusedSectionVars false
set_option linter.unusedVariables false
set_option linter.unusedSimpArgs false
set_option linter.deprecated false
section
set_option maxHeartbeats 4000000
namespace Go.Sx.Tryz
open Go.Proofs
set_option maxRecDepth 40000
def qfj (Ω : Om) : qe := fun args => match args with
 | [] => ⟨True, List Int × Nat, fun z => z.1 = qcf /\ z.1.length <= z.2, fun z => .fr .u64 z.1 z.2⟩
 | _ => PR.none
theorem qoh : Ctr Tryz.prog T glob 203 (qfj Om.real) := by
 refine qo T_ok qg qh (fun Ω => []) [] (fun Ω => []) [] qi qj qk ql Tryz.func203 (by rfl) (by kernel_rfl) Tryz.call203 ?_ ?_
 ·intro args; unfold qfj; split
  ·exact qa7 trivial fun _ => qaR _
  ·exact PR.good_none
 ·intro P Ω hΩ hE hI hm args pr hs hp Q hQ
  unfold qfj at hs
  split at hs <;> subst hs <;> try (exact hp.elim)
  refine ⟨1000, ?_⟩
  conv => cbv
  refine hQ (qcf, 4) _ _ _ ⟨rfl, by decide⟩ ?_
  subst hΩ
  exact ⟨rfl, rfl, Nat.le_refl 4, rfl⟩
def qdZ (Ω : Om) : qe := fun args => match args with
 | [] => ⟨True, List Int × Nat, fun z => z.1 = natW LN /\ z.1.length <= z.2, fun z => .fr .u64 z.1 z.2⟩
 | _ => PR.none
theorem qjy : Ctr Tryz.prog T glob 202 (qdZ Om.real) := by
 refine qo T_ok qg qh (fun Ω => [(204, qfh Ω), (203, qfj Ω), (201, qdY Ω)]) [] (fun Ω => []) [] (qb qof (qb qoh (qb qjx qi))) qj qk ql Tryz.func202 (by rfl) (by kernel_rfl) Tryz.call202 ?_ ?_
 ·intro args; unfold qdZ; split
  ·exact qa7 trivial fun _ => qaR _
  ·exact PR.good_none
 ·intro P Ω hΩ hE hI hm args pr hs hp Q hQ
  unfold qdZ at hs
  split at hs <;> subst hs <;> try (exact hp.elim)
  refine ⟨1000, ?_⟩
  conv => cbv
  constructor
  ·exact fun _ => ⟨(show 0 + 1 <= 1 by decide), trivial, trivial⟩
  constructor
  ·exact fun _ _ => ⟨⟨qsC, by decide⟩, by decide⟩
  intro z hz
  obtain ⟨zl, zc⟩ := z
  have hz : zl = natW (shV (wV [1]) 446) /\ zl.length <= zc := by subst hΩ; exact hz
  have hsz : Ω.sub zl 0 (Ω.len zl) = zl := by
   rw [hΩ]; show (zl.drop 0).take zl.length = zl
   rw [List.drop_zero, List.take_length]
  conv at hsz => lhs; cbv
  conv => cbv
  rw [qsB] at hz
  constructor
  ·exact fun (_ : Unit) => trivial
  intro y hy
  obtain ⟨yl, yc⟩ := y
  have hy : yl = qcf /\ yl.length <= yc := by subst hΩ; exact hy
  have hsy : Ω.sub yl 0 (Ω.len yl) = yl := by
   rw [hΩ]; show (yl.drop 0).take yl.length = yl
   rw [List.drop_zero, List.take_length]
  conv at hsy => lhs; cbv
  conv => cbv
  constructor
  ·exact fun _ => ⟨(by subst hΩ; show 0 + zl.length <= zl.length; omega), (by subst hΩ; show 0 + yl.length <= yl.length; omega), trivial⟩
  rw [hsz, hsy]
  obtain ⟨nz, vz⟩ := nwT hz.1
  obtain ⟨ny, vy⟩ := nwC hy.1
  constructor
  ·exact fun _ _ => ⟨nz, ny, by rw [vy, vz]; exact qsx⟩
  intro w hw
  obtain ⟨wl, wc⟩ := w
  have hw : wl = natW (wV zl - wV yl) /\ wl.length <= wc := by subst hΩ; exact hw
  have hsw : Ω.sub wl 0 (Ω.len wl) = wl := by
   rw [hΩ]; show (wl.drop 0).take wl.length = wl
   rw [List.drop_zero, List.take_length]
  conv at hsw => lhs; cbv
  conv => cbv
  rw [vz, vy, qsv] at hw
  refine hQ (wl, wc) _ _ _ hw ?_
  subst hΩ
  exact ⟨rfl, rfl, (show 0 + wl.length <= wl.length by omega), hsw.symm⟩
end Go.Sx.Tryz
end
section
set_option maxHeartbeats 4000000
namespace Go.Sx.Tryz
open Go.Proofs
set_option maxRecDepth 40000
def qfk (Ω : Om) : qe := fun args => match args with
 | [.ab (.sc k)] => ⟨∀ _ : Unit, k < LN, List Int × Nat, fun z => okSc k z.1 /\ z.1.length <= z.2, fun z => .fr .u64 z.1 z.2⟩
 | _ => PR.none
noncomputable def qtQ : List (FuncId × Func) := [(226, Tryz.f226)]
theorem qoi : Ctr Tryz.prog T glob 152 (qfk Om.real) := by
 refine qaQ T_ok qg qh (fun Ω => []) qtQ (fun Ω => []) [] qi (qM Tryz.call226 Tryz.func226 (by kernel_rfl) qj) qk ql Tryz.func152 (by rfl) (by kernel_rfl) Tryz.call152 ?_ ?_
 ·intro args; unfold qfk; split
  ·exact qa7 ⟨trivial, trivial⟩ fun h => ⟨(_, 7), qnM (h ()), by rw [(qnM (h ())).1]; exact Nat.le_refl _⟩
  ·exact PR.good_none
 ·intro P Ω hΩ hE hI hm args pr hs hp cs hcs Q hQ
  unfold qfk at hs
  split at hs <;> subst hs <;> try (exact hp.elim)
  rename_i k
  have hk := hp ()
  obtain ⟨_, _, rfl, ⟨xs, rfl, hx⟩, rfl⟩ := hcs
  have hx : okSc k xs := hx
  have hxl : xs.length = 7 := hx.1
  refine ⟨1000, ?_⟩
  conv => cbv
  constructor
  ·exact fun _ => ⟨trivial, trivial, trivial, (by decide : (0 : Nat) <= 7 /\ (7 : Nat) <= 7 /\ (7 : Nat) <= 7)⟩
  intro q hq
  cases q with
  | true => exact absurd rfl hq
  | false =>
    conv => cbv
    constructor
    · intro h
      exact Bool.noConfusion h
    intro _
    conv => cbv
    constructor
    · exact fun _ => (by decide : (0 + 7) * 8 <= 140737488355328)
    constructor
    · exact fun _ => ⟨(show 0 + 0 * 1 <= 0 by decide), (show 0 + 7 * 1 <= 7 by decide)⟩
    intro cap hcap
    have hc7 : 7 <= cap := by have h : 0 + 7 <= cap := hcap; omega
    conv => cbv
    refine hQ (xs, cap) _ _ _ ⟨hx, by show xs.length <= cap; omega⟩ ?_
    subst hΩ
    refine ⟨rfl, rfl, (show 0 + 7 <= ([] ++ xs).length by rw [List.nil_append, hxl]; exact Nat.le_refl _), ?_⟩
    show xs = (([] ++ xs).drop 0).take 7
    rw [List.nil_append, List.drop_zero, List.take_of_length_le (by omega)]
end Go.Sx.Tryz
end
section
set_option maxHeartbeats 4000000
namespace Go.Sx.Tryz
open Go.Proofs
set_option maxRecDepth 40000
def qfl (Ω : Om) : qe := fun args => match args with
 | [.roi .u64 xs] => ⟨∀ _ : Unit, W64 xs /\ xs.length < 500000, Unit, fun _ => True, fun _ => .ab (.sc (Ω.hide _ fun _ => wV xs % LN))⟩
 | _ => PR.none
theorem qoj : Ctr Tryz.prog T glob 122 (qfl Om.real) := by
 refine qo T_ok qg qh (fun Ω => [(203, qfj Ω), (202, qdZ Ω), (204, qfh Ω), (205, qff Ω), (201, qdY Ω), (154, qhg Ω), (153, qhe Ω), (206, qfg Ω)]) [] (fun Ω => []) [] (qb qoh (qb qjy (qb qof (qb qoc (qb qjx (qb qtO (qb qtH (qb qoe qi)))))))) qj qk ql Tryz.func122 (by rfl) (by kernel_rfl) Tryz.call122 ?_ ?_
 ·intro args; unfold qfl; split
  ·exact qq (by repeat' constructor) (fun _ _ => rfl) (by repeat' constructor)
  ·exact PR.good_none
 ·intro P Ω hΩ hE hI hm args pr hs hp Q hQ
  unfold qfl at hs
  split at hs <;> subst hs <;> try (exact hp.elim)
  rename_i xs
  obtain ⟨hx, lx⟩ := hp ()
  obtain ⟨X, eX⟩ : ∃ X, X = xs.length := ⟨_, rfl⟩
  obtain ⟨V, hV⟩ : ∃ V, wV xs = V := ⟨_, rfl⟩
  have hVX : V < 18446744073709551616 ^ X := by rw [eX, <- hV]; exact qbP hx
  have hNW : W64 xs /\ xs.length < 1000000 := ⟨hx, by omega⟩
  have hV00 := hV
  refine ⟨1000, ?_⟩
  conv => cbv
  constructor
  ·exact fun (_ : Unit) => trivial
  intro c hc
  obtain ⟨cl, cc⟩ := c
  have hc : cl = qcf /\ cl.length <= cc := by subst hΩ; exact hc
  have hsc : Ω.sub cl 0 (Ω.len cl) = cl := by
   rw [hΩ]; show (cl.drop 0).take cl.length = cl
   rw [List.drop_zero, List.take_length]
  conv at hsc => lhs; cbv
  conv => cbv
  obtain ⟨nc', vc'⟩ := nwC hc.1
  constructor
  ·exact fun (_ : Unit) => trivial
  intro l hl
  obtain ⟨ll, lc⟩ := l
  have hl : ll = natW LN /\ ll.length <= lc := by subst hΩ; exact hl
  have hsl : Ω.sub ll 0 (Ω.len ll) = ll := by
   rw [hΩ]; show (ll.drop 0).take ll.length = ll
   rw [List.drop_zero, List.take_length]
  conv at hsl => lhs; cbv
  conv => cbv
  obtain ⟨nl', vl'⟩ := nwL hl.1
  have hlw := hl
  clear hl
  refine qaa hE hI hm (n := 1000) ?_
  conv => cbv
  constructor
  ·exact fun _ _ => ⟨hNW, by decide⟩
  intro h hh
  obtain ⟨hl, hc⟩ := h
  have hh : hl = natW (shV (wV xs) (-446)) /\ hl.length <= hc := by subst hΩ; exact hh
  have hsh : Ω.sub hl 0 (Ω.len hl) = hl := by
   rw [hΩ]; show (hl.drop 0).take hl.length = hl
   rw [List.drop_zero, List.take_length]
  conv at hsh => lhs; cbv
  conv => cbv
  rw [qnK, hV] at hh
  obtain ⟨nh, vh⟩ := nw X hh.1 (Nat.lt_of_le_of_lt (Nat.div_le_self _ _) hVX) (by omega)
  constructor
  ·exact fun _ => ⟨(by subst hΩ; show 0 + hl.length <= hl.length; omega), trivial⟩
  rw [hsh]
  constructor
  ·exact fun _ _ => nh
  intro (q : Nat) hq
  have hq : IsLen (wV hl) q /\ q <= 64000000 := by subst hΩ; exact hq
  rw [vh] at hq
  conv => cbv
  constructor
  ·intro hc
   have hq0 : V / T446 = 0 := by
    subst hΩ
    have h2 : Int.ofNat q = 0 := eq_of_beq hc
    have h3 : q = 0 := Int.ofNat_inj.1 h2
    rw [h3] at hq
    have h4 := hq.1.1
    rw [Nat.pow_zero] at h4
    exact Nat.lt_one_iff.1 h4
   conv => cbv
   constructor
   ·exact fun _ => ⟨trivial, (by subst hΩ; show 0 + ll.length <= ll.length; omega), trivial⟩
   rw [hsl]
   constructor
   ·exact fun _ _ => ⟨hNW, nl'⟩
   intro _ _
   conv => cbv
   constructor
   ·intro hc
    have hge : LN <= V := by
     subst hΩ
     have h2 : cmpN (wV xs) (wV ll) >= 0 := of_decide_eq_true hc
     rw [hV, vl'] at h2
     unfold cmpN at h2
     split at h2 <;> omega
    conv => cbv
    constructor
    ·exact fun _ => ⟨trivial, (by subst hΩ; show 0 + ll.length <= ll.length; omega), trivial⟩
    rw [hsl]
    constructor
    ·exact fun _ _ => ⟨hNW, nl', by rw [hV, vl']; exact hge⟩
    intro s hs
    obtain ⟨sl, sc⟩ := s
    have hs : sl = natW (wV xs - wV ll) /\ sl.length <= sc := by subst hΩ; exact hs
    have hss : Ω.sub sl 0 (Ω.len sl) = sl := by
     rw [hΩ]; show (sl.drop 0).take sl.length = sl
     rw [List.drop_zero, List.take_length]
    conv at hss => lhs; cbv
    conv => cbv
    rw [hV, vl', (qg0 hq0).1 hge] at hs
    obtain ⟨ns, vs⟩ := nw 7 hs.1 (Nat.lt_trans (Nat.mod_lt _ qcG) (Nat.lt_trans qbR qdd)) (by decide)
    constructor
    ·exact fun _ => ⟨trivial, trivial, trivial, (by decide : (0 : Nat) <= 7 /\ (7 : Nat) <= 7 /\ (7 : Nat) <= 7)⟩
    rw [hss]
    constructor
    ·exact fun _ => ⟨by subst hΩ; exact (show 0 + sl.length <= sl.length by omega), (by decide : (0 : Nat) < 7 /\ 0 + 7 <= 7)⟩
    refine hQ () _ _ _ trivial ?_
    subst hΩ
    have hfin := qg2 (nl := sl) (V := V % LN) ns.1 vs (Nat.mod_lt _ qcG)
    rw [<- hV] at hfin
    exact ⟨rfl, hfin⟩
   ·intro hc
    have hlt : V < LN := by
     subst hΩ
     have h2 : ¬ cmpN (wV xs) (wV ll) >= 0 := of_decide_eq_false hc
     rw [hV, vl'] at h2
     unfold cmpN at h2
     split at h2
     ·assumption
     ·split at h2 <;> omega
    conv => cbv
    constructor
    ·exact fun _ => ⟨trivial, trivial, trivial, (by decide : (0 : Nat) <= 7 /\ (7 : Nat) <= 7 /\ (7 : Nat) <= 7)⟩
    constructor
    ·exact fun _ => ⟨by subst hΩ; exact trivial, (by decide : (0 : Nat) < 7 /\ 0 + 7 <= 7)⟩
    refine hQ () _ _ _ trivial ?_
    subst hΩ
    have hfin := qg2 (nl := xs) (V := V % LN) hNW.1 (by rw [hV]; exact (qg0 hq0).2 hlt) (Nat.mod_lt _ qcG)
    rw [<- hV] at hfin
    exact ⟨rfl, hfin⟩
  ·intro hc
   have hq0 : V / T446 ≠ 0 := by
    subst hΩ
    have h2 : Int.ofNat q ≠ 0 := ne_of_beq_false hc
    intro h3
    apply h2
    rcases hq.1.2 with e | e
    ·rw [e]; rfl
    ·rw [h3] at e
     exact absurd e (Nat.not_le.2 (Nat.pow_pos (by decide)))
   obtain ⟨f1, f2, f3⟩ := qnL hq0
   conv => cbv
   constructor
   ·exact fun _ => ⟨(by subst hΩ; show 0 + hl.length <= hl.length; omega), trivial, trivial⟩
   rw [hsh]
   constructor
   ·exact fun _ _ => ⟨nh, by decide⟩
   intro u hu
   obtain ⟨ul, uc⟩ := u
   have hu : ul = natW (shV (wV hl) 446) /\ ul.length <= uc := by subst hΩ; exact hu
   have hsu : Ω.sub ul 0 (Ω.len ul) = ul := by
    rw [hΩ]; show (ul.drop 0).take ul.length = ul
    rw [List.drop_zero, List.take_length]
   conv at hsu => lhs; cbv
   conv => cbv
   rw [qjn, vh] at hu
   obtain ⟨nu, vu⟩ := nw X hu.1 (Nat.lt_of_le_of_lt f3 hVX) (by omega)
   constructor
   ·exact fun _ => ⟨trivial, (by subst hΩ; show 0 + ul.length <= ul.length; omega), trivial⟩
   rw [hsu]
   constructor
   ·exact fun _ _ => ⟨hNW, nu, by rw [vu, hV]; exact f3⟩
   intro d hd
   obtain ⟨dl, dc⟩ := d
   have hd : dl = natW (wV xs - wV ul) /\ dl.length <= dc := by subst hΩ; exact hd
   have hsd : Ω.sub dl 0 (Ω.len dl) = dl := by
    rw [hΩ]; show (dl.drop 0).take dl.length = dl
    rw [List.drop_zero, List.take_length]
   conv at hsd => lhs; cbv
   conv => cbv
   rw [hV, vu] at hd
   obtain ⟨nd, vd⟩ := nw X hd.1 (Nat.lt_of_le_of_lt (Nat.sub_le _ _) hVX) (by omega)
   constructor
   ·exact fun _ => ⟨(by subst hΩ; show 0 + hl.length <= hl.length; omega), (by subst hΩ; show 0 + cl.length <= cl.length; omega), trivial⟩
   rw [hsh, hsc]
   constructor
   ·exact fun _ _ => ⟨nh, nc'⟩
   intro m hm2
   obtain ⟨ml, mc⟩ := m
   have hm2 : ml = natW (wV hl * wV cl) /\ ml.length <= mc := by subst hΩ; exact hm2
   have hsm : Ω.sub ml 0 (Ω.len ml) = ml := by
    rw [hΩ]; show (ml.drop 0).take ml.length = ml
    rw [List.drop_zero, List.take_length]
   conv at hsm => lhs; cbv
   conv => cbv
   rw [vh, vc'] at hm2
   obtain ⟨nm, vm⟩ := nw X hm2.1 (Nat.lt_of_le_of_lt (Nat.le_trans (Nat.le_add_left _ _) (Nat.le_of_lt f1)) hVX) (by omega)
   constructor
   ·exact fun _ => ⟨(by subst hΩ; show 0 + dl.length <= dl.length; omega), (by subst hΩ; show 0 + ml.length <= ml.length; omega), trivial⟩
   rw [hsd, hsm]
   constructor
   ·exact fun _ _ => ⟨nd, nm⟩
   intro a ha
   obtain ⟨al, ac⟩ := a
   have ha : al = natW (wV dl + wV ml) /\ al.length <= ac := by subst hΩ; exact ha
   have hsa : Ω.sub al 0 (Ω.len al) = al := by
    rw [hΩ]; show (al.drop 0).take al.length = al
    rw [List.drop_zero, List.take_length]
   conv at hsa => lhs; cbv
   conv => cbv
   rw [vd, vm] at ha
   obtain ⟨na, va⟩ := nw X ha.1 (Nat.lt_trans f1 hVX) (by omega)
   obtain ⟨V0, hV0⟩ : ∃ V0, V - V / T446 * T446 + V / T446 * qbb = V0 := ⟨_, rfl⟩
   rw [hV0] at f1 f2 va ha
   refine qu hE hI hm (fun z : Nat × List Int × Nat => (mkT 51 [(0, .sl 280 1 (.l 0) (.s (Ω.len z.2.1)) (.s z.2.2)), (2, .ptr 0 (.l 0)), (3, .sl 8 1 (.l 0) (.s (Ω.len cl)) (.s cc)), (4, .sl 16 1 (.l 0) (.s (Ω.len ll)) (.s lc))], [(280, .seq .u64 z.2.1), (16, .seq .u64 ll), (8, .seq .u64 cl), (0, .row .u64 7 [0, 0, 0, 0, 0, 0, 0])])) (fun z => z.2.1 = natW z.1 /\ z.1 % LN = V % LN /\ z.1 < 18446744073709551616 ^ X) (fun z => z.1) 1 ⟨(V0, al, ac), [some 264], ⟨ha.1, f2, Nat.lt_trans f1 hVX⟩, by show 1 <= 8 * 1; decide, ?_⟩ fun z hz => ⟨1000, ?_⟩
   ·conv => cbv
    trivial
   clear hV hNW
   have hVO := hVX
   clear hVX
   obtain ⟨V1, nl, nnc⟩ := z
   obtain ⟨hnl, hVV, hVX⟩ : nl = natW V1 /\ V1 % LN = V % LN /\ V1 < 18446744073709551616 ^ X := hz
   obtain ⟨hNW, hV⟩ := nw X hnl hVX (by omega)
   have hsn : Ω.sub nl 0 (Ω.len nl) = nl := by
    rw [hΩ]; show (nl.drop 0).take nl.length = nl
    rw [List.drop_zero, List.take_length]
   conv at hsn => lhs; cbv
   conv => cbv
   constructor
   ·exact fun _ => ⟨(by subst hΩ; show 0 + nl.length <= nl.length; omega), trivial, trivial⟩
   rw [hsn]
   constructor
   ·exact fun _ _ => ⟨hNW, by decide⟩
   intro h hh
   obtain ⟨hl, hc⟩ := h
   have hh : hl = natW (shV (wV nl) (-446)) /\ hl.length <= hc := by subst hΩ; exact hh
   have hsh : Ω.sub hl 0 (Ω.len hl) = hl := by
    rw [hΩ]; show (hl.drop 0).take hl.length = hl
    rw [List.drop_zero, List.take_length]
   conv at hsh => lhs; cbv
   conv => cbv
   rw [qnK, hV] at hh
   obtain ⟨nh, vh⟩ := nw X hh.1 (Nat.lt_of_le_of_lt (Nat.div_le_self _ _) hVX) (by omega)
   constructor
   ·exact fun _ => ⟨(by subst hΩ; show 0 + hl.length <= hl.length; omega), trivial⟩
   rw [hsh]
   constructor
   ·exact fun _ _ => nh
   intro (q : Nat) hq
   have hq : IsLen (wV hl) q /\ q <= 64000000 := by subst hΩ; exact hq
   rw [vh] at hq
   conv => cbv
   constructor
   ·intro hc
    have hq0 : V1 / T446 = 0 := by
     subst hΩ
     have h2 : Int.ofNat q = 0 := eq_of_beq hc
     have h3 : q = 0 := Int.ofNat_inj.1 h2
     rw [h3] at hq
     have h4 := hq.1.1
     rw [Nat.pow_zero] at h4
     exact Nat.lt_one_iff.1 h4
    conv => cbv
    constructor
    ·exact fun _ => ⟨(by subst hΩ; show 0 + nl.length <= nl.length; omega), (by subst hΩ; show 0 + ll.length <= ll.length; omega), trivial⟩
    rw [hsn, hsl]
    constructor
    ·exact fun _ _ => ⟨hNW, nl'⟩
    intro _ _
    conv => cbv
    constructor
    ·intro hc
     have hge : LN <= V1 := by
      subst hΩ
      have h2 : cmpN (wV nl) (wV ll) >= 0 := of_decide_eq_true hc
      rw [hV, vl'] at h2
      unfold cmpN at h2
      split at h2 <;> omega
     conv => cbv
     constructor
     ·exact fun _ => ⟨(by subst hΩ; show 0 + nl.length <= nl.length; omega), (by subst hΩ; show 0 + ll.length <= ll.length; omega), trivial⟩
     rw [hsn, hsl]
     constructor
     ·exact fun _ _ => ⟨hNW, nl', by rw [hV, vl']; exact hge⟩
     intro s hs
     obtain ⟨sl, sc⟩ := s
     have hs : sl = natW (wV nl - wV ll) /\ sl.length <= sc := by subst hΩ; exact hs
     have hss : Ω.sub sl 0 (Ω.len sl) = sl := by
      rw [hΩ]; show (sl.drop 0).take sl.length = sl
      rw [List.drop_zero, List.take_length]
     conv at hss => lhs; cbv
     conv => cbv
     rw [hV, vl', (qg0 hq0).1 hge] at hs
     obtain ⟨ns, vs⟩ := nw 7 hs.1 (Nat.lt_trans (Nat.mod_lt _ qcG) (Nat.lt_trans qbR qdd)) (by decide)
     constructor
     ·exact fun _ => ⟨trivial, trivial, trivial, (by decide : (0 : Nat) <= 7 /\ (7 : Nat) <= 7 /\ (7 : Nat) <= 7)⟩
     rw [hss]
     constructor
     ·exact fun _ => ⟨by subst hΩ; exact (show 0 + sl.length <= sl.length by omega), (by decide : (0 : Nat) < 7 /\ 0 + 7 <= 7)⟩
     refine hQ () _ _ _ trivial ?_
     subst hΩ
     have hfin := qg2 (nl := sl) (V := V1 % LN) ns.1 vs (Nat.mod_lt _ qcG)
     rw [hVV, <- hV00] at hfin
     exact ⟨rfl, hfin⟩
    ·intro hc
     have hlt : V1 < LN := by
      subst hΩ
      have h2 : ¬ cmpN (wV nl) (wV ll) >= 0 := of_decide_eq_false hc
      rw [hV, vl'] at h2
      unfold cmpN at h2
      split at h2
      ·assumption
      ·split at h2 <;> omega
     conv => cbv
     constructor
     ·exact fun _ => ⟨trivial, trivial, trivial, (by decide : (0 : Nat) <= 7 /\ (7 : Nat) <= 7 /\ (7 : Nat) <= 7)⟩
     rw [hsn]
     constructor
     ·exact fun _ => ⟨by subst hΩ; exact (show 0 + nl.length <= nl.length by omega), (by decide : (0 : Nat) < 7 /\ 0 + 7 <= 7)⟩
     refine hQ () _ _ _ trivial ?_
     subst hΩ
     have hfin := qg2 (nl := nl) (V := V1 % LN) hNW.1 (by rw [hV]; exact (qg0 hq0).2 hlt) (Nat.mod_lt _ qcG)
     rw [hVV, <- hV00] at hfin
     exact ⟨rfl, hfin⟩
   ·intro hc
    have hq0 : V1 / T446 ≠ 0 := by
     subst hΩ
     have h2 : Int.ofNat q ≠ 0 := ne_of_beq_false hc
     intro h3
     apply h2
     rcases hq.1.2 with e | e
     ·rw [e]; rfl
     ·rw [h3] at e
      exact absurd e (Nat.not_le.2 (Nat.pow_pos (by decide)))
    obtain ⟨f1, f2, f3⟩ := qnL hq0
    conv => cbv
    constructor
    ·exact fun _ => ⟨(by subst hΩ; show 0 + hl.length <= hl.length; omega), trivial, trivial⟩
    rw [hsh]
    constructor
    ·exact fun _ _ => ⟨nh, by decide⟩
    intro u hu
    obtain ⟨ul, uc⟩ := u
    have hu : ul = natW (shV (wV hl) 446) /\ ul.length <= uc := by subst hΩ; exact hu
    have hsu : Ω.sub ul 0 (Ω.len ul) = ul := by
     rw [hΩ]; show (ul.drop 0).take ul.length = ul
     rw [List.drop_zero, List.take_length]
    conv at hsu => lhs; cbv
    conv => cbv
    rw [qjn, vh] at hu
    obtain ⟨nu, vu⟩ := nw X hu.1 (Nat.lt_of_le_of_lt f3 hVX) (by omega)
    constructor
    ·exact fun _ => ⟨(by subst hΩ; show 0 + nl.length <= nl.length; omega), (by subst hΩ; show 0 + ul.length <= ul.length; omega), trivial⟩
    rw [hsn, hsu]
    constructor
    ·exact fun _ _ => ⟨hNW, nu, by rw [vu, hV]; exact f3⟩
    intro d hd
    obtain ⟨dl, dc⟩ := d
    have hd : dl = natW (wV nl - wV ul) /\ dl.length <= dc := by subst hΩ; exact hd
    have hsd : Ω.sub dl 0 (Ω.len dl) = dl := by
     rw [hΩ]; show (dl.drop 0).take dl.length = dl
     rw [List.drop_zero, List.take_length]
    conv at hsd => lhs; cbv
    conv => cbv
    rw [hV, vu] at hd
    obtain ⟨nd, vd⟩ := nw X hd.1 (Nat.lt_of_le_of_lt (Nat.sub_le _ _) hVX) (by omega)
    constructor
    ·exact fun _ => ⟨(by subst hΩ; show 0 + hl.length <= hl.length; omega), (by subst hΩ; show 0 + cl.length <= cl.length; omega), trivial⟩
    rw [hsh, hsc]
    constructor
    ·exact fun _ _ => ⟨nh, nc'⟩
    intro m hm2
    obtain ⟨ml, mc⟩ := m
    have hm2 : ml = natW (wV hl * wV cl) /\ ml.length <= mc := by subst hΩ; exact hm2
    have hsm : Ω.sub ml 0 (Ω.len ml) = ml := by
     rw [hΩ]; show (ml.drop 0).take ml.length = ml
     rw [List.drop_zero, List.take_length]
    conv at hsm => lhs; cbv
    conv => cbv
    rw [vh, vc'] at hm2
    obtain ⟨nm, vm⟩ := nw X hm2.1 (Nat.lt_of_le_of_lt (Nat.le_trans (Nat.le_add_left _ _) (Nat.le_of_lt f1)) hVX) (by omega)
    constructor
    ·exact fun _ => ⟨(by subst hΩ; show 0 + dl.length <= dl.length; omega), (by subst hΩ; show 0 + ml.length <= ml.length; omega), trivial⟩
    rw [hsd, hsm]
    constructor
    ·exact fun _ _ => ⟨nd, nm⟩
    intro a ha
    obtain ⟨al, ac⟩ := a
    have ha : al = natW (wV dl + wV ml) /\ al.length <= ac := by subst hΩ; exact ha
    have hsa : Ω.sub al 0 (Ω.len al) = al := by
     rw [hΩ]; show (al.drop 0).take al.length = al
     rw [List.drop_zero, List.take_length]
    conv at hsa => lhs; cbv
    conv => cbv
    rw [vd, vm] at ha
    obtain ⟨na, va⟩ := nw X ha.1 (Nat.lt_trans f1 hVX) (by omega)
    obtain ⟨V2, hV2⟩ : ∃ V2, V1 - V1 / T446 * T446 + V1 / T446 * qbb = V2 := ⟨_, rfl⟩
    rw [hV2] at f1 f2 va ha
    refine ⟨(V2, al, ac), [some 512], ⟨ha.1, f2.trans hVV, Nat.lt_trans f1 hVX⟩, f1, by show 1 <= 8 * 1; decide, ?_⟩
    conv => cbv
    trivial
end Go.Sx.Tryz
end
section
set_option maxHeartbeats 4000000
namespace Go.Sx.Tryz
open Go.Proofs
set_option maxRecDepth 40000
def qhh (Ω : Om) : qe := fun args => match args with
 | [] => ⟨True, List Int × Nat, fun z => z.1 = qR LN 57 /\ z.1.length <= z.2, fun z => .fr .u8 z.1 z.2⟩
 | _ => PR.none
theorem qtR : Ctr Tryz.prog T glob 191 (qhh Om.real) := by
 refine qo T_ok qg qh (fun Ω => [(202, qdZ Ω), (151, qfi Ω)]) [] (fun Ω => []) [] (qb qjy (qb qog qi)) qj qk ql Tryz.func191 (by rfl) (by kernel_rfl) Tryz.call191 ?_ ?_
 ·intro args; unfold qhh; split
  ·exact qa7 trivial fun _ => qaR _
  ·exact PR.good_none
 ·intro P Ω hΩ hE hI hm args pr hs hp Q hQ
  unfold qhh at hs
  split at hs <;> subst hs <;> try (exact hp.elim)
  refine ⟨1000, ?_⟩
  conv => cbv
  constructor
  ·exact fun (_ : Unit) => trivial
  intro l hl
  obtain ⟨ll, lc⟩ := l
  have hl : ll = natW LN /\ ll.length <= lc := by subst hΩ; exact hl
  have hsl : Ω.sub ll 0 (Ω.len ll) = ll := by
   rw [hΩ]; show (ll.drop 0).take ll.length = ll
   rw [List.drop_zero, List.take_length]
  conv at hsl => lhs; cbv
  conv => cbv
  obtain ⟨nl, vl⟩ := nwL hl.1
  constructor
  ·exact fun _ => ⟨(by subst hΩ; show 0 + ll.length <= ll.length; omega), trivial, trivial⟩
  rw [hsl]
  constructor
  ·exact fun _ _ => ⟨nl, by decide, by rw [vl]; exact Nat.lt_trans qbR qgZ⟩
  intro b hb
  obtain ⟨bl, bc⟩ := b
  have hb : bl = qR (wV ll) 57 /\ bl.length <= bc := by subst hΩ; exact hb
  have hsb : Ω.sub bl 0 (Ω.len bl) = bl := by
   rw [hΩ]; show (bl.drop 0).take bl.length = bl
   rw [List.drop_zero, List.take_length]
  conv at hsb => lhs; cbv
  conv => cbv
  rw [vl] at hb
  refine hQ (bl, bc) _ _ _ hb ?_
  subst hΩ
  exact ⟨rfl, rfl, (show 0 + bl.length <= bl.length by omega), hsb.symm⟩
def qux (Ω : Om) : qe := fun args => match args with
 | [.roi .u8 bs] => ⟨∀ _ : Unit, Byt bs /\ bs.length <= 128, Unit, fun _ => True, fun _ => .tup [.ab (.sc (Ω.hide _ fun _ => nV bs % LN)), .int .i64 0]⟩
 | _ => PR.none
def qhi (Ω : Om) : qe := fun args => match args with
 | [.ab (.sc k)] => ⟨∀ _ : Unit, k < LN, List Int × Nat, fun z => z.1 = qR k 57 /\ z.1.length <= z.2, fun z => .fr .u8 z.1 z.2⟩
 | _ => PR.none
theorem qtS : Ctr Tryz.prog T glob 62 (qhi Om.real) := by
 refine qo T_ok qg qh (fun Ω => [(152, qfk Ω), (151, qfi Ω)]) [] (fun Ω => []) [] (qb qoi (qb qog qi)) qj qk ql Tryz.func62 (by rfl) (by kernel_rfl) Tryz.call62 ?_ ?_
 ·intro args; unfold qhi; split
  ·exact qa7 ⟨trivial, trivial⟩ fun _ => qaR _
  ·exact PR.good_none
 ·intro P Ω hΩ hE hI hm args pr hs hp Q hQ
  unfold qhi at hs
  split at hs <;> subst hs <;> try (exact hp.elim)
  rename_i k
  have hk := hp ()
  refine ⟨1000, ?_⟩
  conv => cbv
  constructor
  ·exact fun _ _ => hk
  intro n hn
  obtain ⟨nl, nc⟩ := n
  have hn : okSc k nl /\ nl.length <= nc := by subst hΩ; exact hn
  have hsn : Ω.sub nl 0 (Ω.len nl) = nl := by
   rw [hΩ]; show (nl.drop 0).take nl.length = nl
   rw [List.drop_zero, List.take_length]
  conv at hsn => lhs; cbv
  conv => cbv
  obtain ⟨nn, vn, ln, _⟩ := qnN hn.1
  constructor
  ·exact fun _ => ⟨(by subst hΩ; show 0 + nl.length <= nl.length; omega), trivial, trivial⟩
  rw [hsn]
  constructor
  ·exact fun _ _ => ⟨⟨nn, by omega⟩, by decide, by rw [vn]; exact Nat.lt_trans hk (Nat.lt_trans qbR qgZ)⟩
  intro b hb
  obtain ⟨bl, bc⟩ := b
  have hb : bl = qR (wV nl) 57 /\ bl.length <= bc := by subst hΩ; exact hb
  have hsb : Ω.sub bl 0 (Ω.len bl) = bl := by
   rw [hΩ]; show (bl.drop 0).take bl.length = bl
   rw [List.drop_zero, List.take_length]
  conv at hsb => lhs; cbv
  conv => cbv
  rw [vn] at hb
  refine hQ (bl, bc) _ _ _ hb ?_
  subst hΩ
  exact ⟨rfl, rfl, (show 0 + bl.length <= bl.length by omega), hsb.symm⟩
def qhj (Ω : Om) : qe := fun args => match args with
 | [.ab (.sc a)] => ⟨∀ _ : Unit, a < LN, Unit, fun _ => True, fun _ => .ab (.sc (Ω.hide _ fun _ => (LN - a) % LN))⟩
 | _ => PR.none
theorem qtT : Ctr Tryz.prog T glob 121 (qhj Om.real) := by
 refine qo T_ok qg qh (fun Ω => [(202, qdZ Ω), (152, qfk Ω), (201, qdY Ω), (122, qfl Ω)]) [] (fun Ω => []) [] (qb qjy (qb qoi (qb qjx (qb qoj qi)))) qj qk ql Tryz.func121 (by rfl) (by kernel_rfl) Tryz.call121 ?_ ?_
 ·intro args; unfold qhj; split
  ·exact qq (by repeat' constructor) (fun _ _ => rfl) (by repeat' constructor)
  ·exact PR.good_none
 ·intro P Ω hΩ hE hI hm args pr hs hp Q hQ
  unfold qhj at hs
  split at hs <;> subst hs <;> try (exact hp.elim)
  rename_i a
  have ka := hp ()
  refine ⟨1000, ?_⟩
  conv => cbv
  constructor
  ·exact fun (_ : Unit) => trivial
  intro l hl
  obtain ⟨ll, lc⟩ := l
  have hl : ll = natW LN /\ ll.length <= lc := by subst hΩ; exact hl
  have hsl : Ω.sub ll 0 (Ω.len ll) = ll := by
   rw [hΩ]; show (ll.drop 0).take ll.length = ll
   rw [List.drop_zero, List.take_length]
  conv at hsl => lhs; cbv
  conv => cbv
  obtain ⟨no', vo'⟩ := nwL hl.1
  constructor
  ·exact fun _ _ => ka
  intro n hn
  obtain ⟨nl, nc⟩ := n
  have hn : okSc a nl /\ nl.length <= nc := by subst hΩ; exact hn
  have hsn : Ω.sub nl 0 (Ω.len nl) = nl := by
   rw [hΩ]; show (nl.drop 0).take nl.length = nl
   rw [List.drop_zero, List.take_length]
  conv at hsn => lhs; cbv
  conv => cbv
  obtain ⟨nn, vn, ln, _⟩ := qnN hn.1
  constructor
  ·exact fun _ => ⟨(by subst hΩ; show 0 + ll.length <= ll.length; omega), (by subst hΩ; show 0 + nl.length <= nl.length; omega), trivial⟩
  rw [hsl, hsn]
  constructor
  ·exact fun _ _ => ⟨no', ⟨nn, by omega⟩, by rw [vn, vo']; exact Nat.le_of_lt ka⟩
  intro s hs
  obtain ⟨sl, sc⟩ := s
  have hs : sl = natW (wV ll - wV nl) /\ sl.length <= sc := by subst hΩ; exact hs
  have hss : Ω.sub sl 0 (Ω.len sl) = sl := by
   rw [hΩ]; show (sl.drop 0).take sl.length = sl
   rw [List.drop_zero, List.take_length]
  conv at hss => lhs; cbv
  conv => cbv
  rw [vn, vo'] at hs
  have h7 : LN - a < 18446744073709551616 ^ 7 := Nat.lt_of_le_of_lt (Nat.sub_le _ _) (Nat.lt_trans qbR qdd)
  obtain ⟨ns, vs⟩ := nw 7 hs.1 h7 (by decide)
  constructor
  ·exact fun _ => ⟨(by subst hΩ; show 0 + sl.length <= sl.length; omega), trivial⟩
  rw [hss]
  have hl5 : sl.length < 500000 := by rw [hs.1]; exact Nat.lt_of_le_of_lt (qjg h7) (by decide)
  constructor
  ·exact fun _ _ => ⟨ns.1, hl5⟩
  intro _ _
  conv => cbv
  refine hQ () _ _ _ trivial ?_
  subst hΩ
  show Pay.sc (wV sl % LN) = Pay.sc ((LN - a) % LN)
  rw [vs]
def scI (n : Int) : Nat := if 0 <= n then n.toNat % LN else (LN - (-n).toNat % LN) % LN
def qhk (Ω : Om) : qe := fun args => match args with
 | [.int .i64 n] => ⟨∀ _ : Unit, -9223372036854775808 < n /\ n < 9223372036854775808, Unit, fun _ => True, fun _ => .ab (.sc (Ω.hide _ fun _ => scI n))⟩
 | _ => PR.none
theorem qtU : Ctr Tryz.prog T glob 51 (qhk Om.real) := by
 refine qo T_ok qg qh (fun Ω => [(122, qfl Ω), (121, qhj Ω)]) [] (fun Ω => []) [] (qb qoj (qb qtT qi)) qj qk ql Tryz.func51 (by rfl) (by kernel_rfl) Tryz.call51 ?_ ?_
 ·intro args; unfold qhk; split
  ·exact qq (by repeat' constructor) (fun _ _ => rfl) (by repeat' constructor)
  ·exact PR.good_none
 ·intro P Ω hΩ hE hI hm args pr hs hp Q hQ
  unfold qhk at hs
  split at hs <;> subst hs <;> try (exact hp.elim)
  rename_i n
  obtain ⟨h0, h1⟩ := hp ()
  refine ⟨1000, ?_⟩
  conv => cbv
  constructor
  ·intro hc
   have hn : n < 0 := by subst hΩ; exact of_decide_eq_true hc
   obtain ⟨m, hm'⟩ : ∃ m, Ω.cv .u64 (Ω.un .neg .i64 n) = m := ⟨_, rfl⟩
   have em : m = -n := by
    rw [<- hm', hΩ]
    show IntKind.u64.wrap (unL .neg .i64 n) = -n
    rw [show unL .neg .i64 n = IntKind.i64.wrap (0 - n) from rfl]
    rw [qam (by omega) (by omega), qgc (by omega) (by omega)]; omega
   conv at hm' => lhs; cbv
   conv => cbv
   rw [hm']
   constructor
   ·exact fun _ => ⟨(show 0 + 1 <= 1 by decide), trivial⟩
   constructor
   ·exact fun _ _ => ⟨fun a ha => by rw [List.mem_singleton.1 ha]; omega, Nat.lt_of_lt_of_le (show 1 < 2 by decide) (by decide)⟩
   intro _ _
   conv => cbv
   constructor
   ·intro _ _; subst hΩ; exact Nat.mod_lt _ qcG
   intro _ _
   conv => cbv
   refine hQ () _ _ _ trivial ?_
   subst hΩ
   show Pay.sc ((LN - wV [m] % LN) % LN) = Pay.sc (scI n)
   unfold scI
   rw [if_neg (by omega), show wV [m] = (-n).toNat by rw [em]; show (-n).toNat + 18446744073709551616 * 0 = _; omega]
  ·intro hc
   have hn : ¬ n < 0 := by subst hΩ; exact of_decide_eq_false hc
   obtain ⟨m, hm'⟩ : ∃ m, Ω.cv .u64 n = m := ⟨_, rfl⟩
   have em : m = n := by
    rw [<- hm', hΩ]
    show IntKind.u64.wrap n = n
    rw [qgc (by omega) (by omega)]
   conv at hm' => lhs; cbv
   conv => cbv
   rw [hm']
   constructor
   ·exact fun _ => ⟨(show 0 + 1 <= 1 by decide), trivial⟩
   constructor
   ·exact fun _ _ => ⟨fun a ha => by rw [List.mem_singleton.1 ha]; omega, Nat.lt_of_lt_of_le (show 1 < 2 by decide) (by decide)⟩
   intro _ _
   conv => cbv
   refine hQ () _ _ _ trivial ?_
   subst hΩ
   show Pay.sc (wV [m] % LN) = Pay.sc (scI n)
   unfold scI
   rw [if_pos (by omega), show wV [m] = n.toNat by rw [em]; show n.toNat + 18446744073709551616 * 0 = _; omega]
end Go.Sx.Tryz
end
section
set_option maxHeartbeats 4000000
namespace Go.Sx.Tryz
open Go.Proofs
set_option maxRecDepth 40000
def qhl (Ω : Om) : qe := fun args => match args with
 | [.int .i64 i, .rop (.roi .u8 bs) (.l 0)] => ⟨∀ _ : Unit, (Byt bs /\ bs.length <= 1000) /\ 0 <= i, Unit, fun _ => True, fun _ => .int .i64 (Ω.hide _ fun _ => ((bitN (nV bs) i.toNat : Nat) : Int))⟩
 | _ => PR.none
theorem qtV : Ctr Tryz.prog T glob 261 (qhl Om.real) := by
 refine qo T_ok qg qh (fun Ω => []) [] (fun Ω => []) [] qi qj qk ql Tryz.func261 (by rfl) (by kernel_rfl) Tryz.call261 ?_ ?_
 ·intro args; unfold qhl; split
  ·exact qq (by repeat' constructor) (fun _ _ => rfl) (by repeat' constructor)
  ·exact PR.good_none
 ·intro P Ω hΩ hE hI hm args pr hs hp Q hQ
  unfold qhl at hs
  split at hs <;> subst hs <;> try (exact hp.elim)
  rename_i i bs
  obtain ⟨⟨hb, lb⟩, h0⟩ := hp ()
  refine ⟨1000, ?_⟩
  conv => cbv
  constructor
  ·intro hc
   have h1 : i >= 8 * (bs.length : Int) := by
    subst hΩ
    have h2 := of_decide_eq_true hc
    change i >= binL .mul .i64 8 ((bs.length : Nat) : Int) at h2
    rw [qbB (by omega) (by omega)] at h2; exact h2
   conv => cbv
   refine hQ () _ _ _ trivial ?_
   subst hΩ
   refine ⟨rfl, ?_⟩
   show (0 : Int) = ((bitN (nV bs) i.toNat : Nat) : Int)
   rw [qsG hb (by omega)]; rfl
  ·intro hc
   have h1 : ¬ i >= 8 * (bs.length : Int) := by
    subst hΩ
    have h2 := of_decide_eq_false hc
    change ¬ i >= binL .mul .i64 8 ((bs.length : Nat) : Int) at h2
    rw [qbB (by omega) (by omega)] at h2; exact h2
   obtain ⟨n, rfl⟩ : ∃ n : Nat, i = n := ⟨i.toNat, by omega⟩
   have hq8 : Ω.bin .quo .i64 (n : Int) 8 = ((n / 8 : Nat) : Int) := by subst hΩ; exact qcY n 8 (by omega)
   obtain ⟨q, hq⟩ : ∃ q, Ω.bin .quo .i64 (n : Int) 8 = q := ⟨_, rfl⟩
   have eq : q = ((n / 8 : Nat) : Int) := hq.symm.trans hq8
   obtain ⟨r, hr⟩ : ∃ r, Ω.bin .rem .i64 (n : Int) 8 = r := ⟨_, rfl⟩
   have er : r = ((n % 8 : Nat) : Int) := by rw [<- hr, hΩ]; exact qeA n 8
   conv at hq => lhs; cbv
   conv at hr => lhs; cbv
   conv => cbv
   rw [hq]
   rw [hr]
   constructor
   ·exact fun _ => ⟨by omega, by subst hΩ; show q < ((bs.length : Nat) : Int); omega⟩
   constructor
   ·exact fun _ => by subst hΩ; show q.toNat + 1 <= bs.length; omega
   constructor
   ·exact fun _ => by omega
   refine hQ () _ _ _ trivial ?_
   subst hΩ
   refine ⟨rfl, ?_⟩
   show IntKind.i64.wrap (binL .and .u8 (binL .shr .u8 (bs.getD q.toNat 0) r) 1) = ((bitN (nV bs) n : Nat) : Int)
   rw [er, eq, Int.toNat_natCast]
   exact qsF hb n
end Go.Sx.Tryz
end
section
set_option maxHeartbeats 4000000
namespace Go.Sx.Tryz
open Go.Proofs
set_option maxRecDepth 40000
def qhm (Ω : Om) : qe := fun args => match args with
 | [.roi .u8 bs, .int .i64 w] => ⟨∀ _ : Unit, (Byt bs /\ bs.length <= 64) /\ 1 <= w /\ w <= 8, List Int × Nat, fun z => z.1 = qaK (nV bs) w.toNat ((8 * bs.length + w.toNat - 1) / w.toNat) /\ z.1.length <= z.2, fun z => .tup [.fr .i64 z.1 z.2, .int .i64 0]⟩
 | _ => PR.none
noncomputable def qtW : List (FuncId × Func) := [(220, Tryz.f220), (252, Tryz.f252), (254, Tryz.f254), (253, Tryz.f253)]
theorem qtX : Ctr Tryz.prog T glob 221 (qhm Om.real) := by
 refine qo T_ok qg qh (fun Ω => [(261, qhl Ω)]) qtW (fun Ω => []) [] (qb qtV qi) (qM Tryz.call220 Tryz.func220 (by kernel_rfl) (qM Tryz.call252 Tryz.func252 (by kernel_rfl) (qM Tryz.call254 Tryz.func254 (by kernel_rfl) (qM Tryz.call253 Tryz.func253 (by kernel_rfl) qj)))) qk ql Tryz.func221 (by rfl) (by kernel_rfl) Tryz.call221 ?_ ?_
 ·intro args; unfold qhm; split
  ·exact qdf ⟨trivial, trivial, trivial⟩ fun _ => qaR _
  ·exact PR.good_none
 ·intro P Ω hΩ hE hI hm args pr hs hp Q hQ
  unfold qhm at hs
  split at hs <;> subst hs <;> try (exact hp.elim)
  rename_i bs w
  obtain ⟨⟨hb, lb⟩, w0, w1⟩ := hp ()
  refine ⟨1000, ?_⟩
  conv => cbv
  obtain ⟨W, eW⟩ : ∃ W : Nat, w = (W : Int) := ⟨w.toNat, by omega⟩
  have eW2 : w.toNat = W := by omega
  obtain ⟨N, eN⟩ : ∃ N : Nat, N = (8 * bs.length + W - 1) / W := ⟨_, rfl⟩
  have hNl : N <= 8 * bs.length + W - 1 := by rw [eN]; exact Nat.div_le_self _ _
  obtain ⟨K, hK⟩ : ∃ K, Ω.bin .quo .i64 (Ω.bin .sub .i64 (Ω.bin .add .i64 (Ω.bin .mul .i64 8 (Ω.ofN (Ω.len bs))) w) 1) w = K := ⟨_, rfl⟩
  have eK : K = (N : Int) := by
   rw [<- hK, hΩ, eN, eW]
   show binL .quo .i64 (binL .sub .i64 (binL .add .i64 (binL .mul .i64 8 ((bs.length : Nat) : Int)) W) 1) W = _
   rw [qbB (by omega) (by omega), qD (by omega) (by omega), q8 (by omega) (by omega), show 8 * ((bs.length : Nat) : Int) + W - 1 = ((8 * bs.length + W - 1 : Nat) : Int) by omega, qcY _ _ (by omega)]
  rw [eW2, <- eN] at hQ
  conv at hK => lhs; cbv
  conv => cbv
  constructor
  ·intro h
   have h' : False := by (subst hΩ; have h2 := of_decide_eq_true h; change ((bs.length : Nat) : Int) > 64 at h2; omega); first | done | (subst hΩ; exact Bool.noConfusion (show false = true from h))
   contradiction
  intro _
  conv => cbv
  refine qaa hE hI hm (n := 1000) ?_
  conv => cbv
  constructor
  ·intro h
   have h' : False := by (subst hΩ; have h2 := of_decide_eq_true h; change w < 1 at h2; omega); first | done | (subst hΩ; exact Bool.noConfusion (show false = true from h))
   contradiction
  intro _
  conv => cbv
  constructor
  ·intro h
   have h' : False := by (subst hΩ; have h2 := of_decide_eq_true h; change w > 8 at h2; omega); first | done | (subst hΩ; exact Bool.noConfusion (show false = true from h))
   contradiction
  intro _
  conv => cbv
  refine qaa hE hI hm (n := 1000) ?_
  conv => cbv
  constructor
  ·exact fun _ => by omega
  rw [hK]
  refine qu hE hI hm (fun z : Nat × List Int × Nat => (mkT 36 [(0, .roi .u8 bs), (1, .int .i64 w), (4, .val (.slice none 0 0)), (5, .lit .i64 0), (7, .fn 261 [] [.ptr 272 (.l 0)]), (8, .sl 424 1 (.l 0) (.s (Ω.len z.2.1)) (.s z.2.2)), (21, .int .i64 K), (22, .int .i64 z.1)], [(424, .seq .i64 z.2.1), (272, .roi .u8 bs)])) (fun z => z.1 <= N /\ z.2.1 = qaK (nV bs) W z.1 /\ z.2.1.length <= z.2.2) (fun z => N - z.1) 1 ⟨(0, [], 0), [none], ⟨Nat.zero_le _, rfl, Nat.le_refl _⟩, by show 1 <= 8 * 1; decide, ?_⟩ fun z hz => ⟨1000, ?_⟩
  ·conv => cbv
   exact ⟨by rw [hΩ]; rfl, rfl, trivial⟩
  obtain ⟨i, l, cap⟩ := z
  obtain ⟨hi, hl, hcap⟩ : i <= N /\ l = qaK (nV bs) W i /\ l.length <= cap := hz
  conv => cbv
  constructor
  ·intro hc
   have hlt : (i : Int) < K := by subst hΩ; exact of_decide_eq_true hc
   obtain ⟨f, hf⟩ : ∃ f, Ω.bin .mul .i64 (Int.ofNat i) w = f := ⟨_, rfl⟩
   obtain ⟨F, eF⟩ : ∃ F : Nat, F = W * i := ⟨_, rfl⟩
   have hF8 : W * i <= 8 * i := Nat.mul_le_mul_right _ (by omega)
   have ef : f = (F : Int) := by
    rw [<- hf, hΩ, eF, eW]
    show binL .mul .i64 (i : Int) (W : Int) = _
    have h1 : (i : Int) * (W : Int) = ((W * i : Nat) : Int) := by rw [Nat.mul_comm]; rfl
    rw [qbB (by omega) (by omega), h1]
   conv at hf => lhs; cbv
   conv => cbv
   rw [hf]
   refine qu hE hI hm (fun z : Nat × Int => (mkT 28 [(0, .fn 261 [] [.ptr 272 (.l 0)]), (1, .int .i64 f), (2, .lit .i64 1), (3, .int .i64 w), (8, .lit .i64 0), (9, .int .i64 z.2), (11, .int .i64 w), (12, .int .i64 z.1)], [(424, .seq .i64 l), (272, .roi .u8 bs)])) (fun z => z.1 <= W /\ z.2 = ((nV bs / 2 ^ F % 2 ^ z.1 : Nat) : Int)) (fun z => W - z.1) 0 ⟨(0, 0), [], ⟨Nat.zero_le _, by show (0 : Int) = ((nV bs / 2 ^ F % 2 ^ 0 : Nat) : Int); rw [Nat.pow_zero, Nat.mod_one]; rfl⟩, Nat.zero_le _, ?_⟩ fun z hz => ⟨1000, ?_⟩
   ·conv => cbv
    trivial
   obtain ⟨k, n⟩ := z
   obtain ⟨hk, hn⟩ : k <= W /\ n = ((nV bs / 2 ^ F % 2 ^ k : Nat) : Int) := hz
   conv => cbv
   constructor
   ·intro hc2
    have hlt2 : (k : Int) < w := by subst hΩ; exact of_decide_eq_true hc2
    obtain ⟨p, hp2⟩ : ∃ p, Ω.bin .add .i64 f (Ω.bin .mul .i64 (Int.ofNat k) 1) = p := ⟨_, rfl⟩
    have ep : p = ((F + k : Nat) : Int) := by
     rw [<- hp2, hΩ, ef]
     show binL .add .i64 (F : Int) (binL .mul .i64 (k : Int) 1) = _
     rw [qbB (by omega) (by omega), qD (by omega) (by omega)]; omega
    obtain ⟨k2, hk2⟩ : ∃ k2, Ω.bin .add .i64 (Int.ofNat k) 1 = k2 := ⟨_, rfl⟩
    have ek2 : k2 = ((k + 1 : Nat) : Int) := by
     rw [<- hk2, hΩ]
     show binL .add .i64 (k : Int) 1 = _
     rw [qD (by omega) (by omega)]; omega
    obtain ⟨n2, hn2⟩ : ∃ n2 : Int, ((nV bs / 2 ^ F % 2 ^ (k + 1) : Nat) : Int) = n2 := ⟨_, rfl⟩
    have hst := qsH (nV bs) F (show k < 16 by omega)
    rw [hn2, <- hn] at hst
    conv at hp2 => lhs; cbv
    conv at hk2 => lhs; cbv
    conv => cbv
    rw [hp2]
    constructor
    ·exact fun _ _ => ⟨⟨hb, by omega⟩, by omega⟩
    intro _ _
    conv => cbv
    rw [hk2]
    constructor
    ·exact fun _ => Int.natCast_nonneg k
    refine ⟨(k + 1, n2), [], ⟨by show k + 1 <= W; omega, hn2.symm⟩, by show W - (k + 1) < W - k; omega, Nat.zero_le _, ?_⟩
    conv => cbv
    refine ⟨?_, ek2, trivial⟩
    rw [<- hst, hΩ, ep]
    rfl
   ·intro hc2
    have hge : ¬ (k : Int) < w := by subst hΩ; exact of_decide_eq_false hc2
    have hkW : k = W := by omega
    rw [hkW] at hn
    have hll : l.length = i := by rw [hl, qe9]
    obtain ⟨l2, hl2⟩ : ∃ l2, l ++ [n] = l2 := ⟨_, rfl⟩
    have el2 : l2 = qaK (nV bs) W (i + 1) := by rw [<- hl2, qsI, hl, hn, eF]
    have hl2l : l2.length = i + 1 := by rw [el2, qe9]
    obtain ⟨i2, hi2⟩ : ∃ i2, Ω.bin .add .i64 (Int.ofNat i) 1 = i2 := ⟨_, rfl⟩
    have ei2 : i2 = ((i + 1 : Nat) : Int) := by
     rw [<- hi2, hΩ]
     show binL .add .i64 (i : Int) 1 = _
     rw [qD (by omega) (by omega)]; omega
    have hcat : Ω.cat (Ω.sub l 0 (Ω.len l)) [n] = l2 := by
     rw [hΩ]; show (l.drop 0).take l.length ++ [n] = l2
     rw [List.drop_zero, List.take_length]; exact hl2
    have hlen2 : Ω.nadd (Ω.len l) 1 = Ω.len l2 := by rw [hΩ]; show l.length + 1 = l2.length; omega
    conv at hi2 => lhs; cbv
    conv at hcat => lhs; cbv
    conv at hlen2 => lhs; cbv
    conv at hlen2 => rhs; cbv
    conv => cbv
    constructor
    ·exact fun _ => by subst hΩ; show (l.length + 1) * 8 <= 140737488355328; omega
    constructor
    ·exact fun _ => by subst hΩ; exact ⟨(show 0 + l.length * 1 <= l.length by omega), (show 0 + 1 * 1 <= 1 by decide)⟩
    intro cap2 hcap2
    have hcap3 : l2.length <= cap2 := by
     subst hΩ
     have h : l.length + 1 <= cap2 := hcap2
     omega
    conv => cbv
    rw [hcat, hi2]
    rw [hlen2]
    refine ⟨(i + 1, l2, cap2), [some 520], ⟨by show i + 1 <= N; omega, el2, hcap3⟩, by show N - (i + 1) < N - i; omega, by show 1 <= 8 * 1; decide, ?_⟩
    conv => cbv
    exact ⟨ei2, trivial⟩
  ·intro hc
   have hge : ¬ (i : Int) < K := by subst hΩ; exact of_decide_eq_false hc
   have hiN : i = N := by omega
   rw [hiN] at hl
   have hsl : Ω.sub l 0 (Ω.len l) = l := by
    rw [hΩ]; show (l.drop 0).take l.length = l
    rw [List.drop_zero, List.take_length]
   conv => cbv
   refine hQ (l, cap) _ _ _ ⟨hl, hcap⟩ ?_
   rw [hΩ] at hsl
   subst hΩ
   exact ⟨⟨⟨rfl, rfl, (show 0 + l.length <= l.length by omega), hsl.symm⟩, ⟨rfl, rfl⟩, trivial⟩, rfl, rfl⟩
end Go.Sx.Tryz
end
section
set_option maxHeartbeats 4000000
namespace Go.Sx.Tryz
open Go.Proofs
set_option maxRecDepth 40000
theorem v16 {bs : List Int} (h : Byt bs) : nV bs < 16 ^ (2 * bs.length) := by
 have := qnu h
 rw [Nat.pow_mul]
 exact this
def qhn (Ω : Om) : qe := fun args => match args with
 | [.roi .u8 bs, .int .i64 w] => ⟨∀ _ : Unit, (Byt bs /\ bs.length <= 64) /\ w = 4, List Int × Nat, fun z => (z.1.length = 2 * bs.length + 1 /\ Sg z.1 /\ valB 16 z.1 = ((nV bs : Nat) : Int)) /\ z.1.length <= z.2, fun z => .tup [.fr .i64 z.1 z.2, .int .i64 0]⟩
 | _ => PR.none
noncomputable def qtY : List (FuncId × Func) := [(220, Tryz.f220)]
theorem qtZ : Ctr Tryz.prog T glob 142 (qhn Om.real) := by
 refine qo T_ok qg qh (fun Ω => [(221, qhm Ω)]) qtY (fun Ω => []) [] (qb qtX qi) (qM Tryz.call220 Tryz.func220 (by kernel_rfl) qj) qk ql Tryz.func142 (by rfl) (by kernel_rfl) Tryz.call142 ?_ ?_
 ·intro args; unfold qhn; split
  ·exact qdf ⟨trivial, trivial, trivial⟩ fun h => by obtain ⟨l, h1, h2, h3⟩ := qnP (2 * _) (nV _) 0 (v16 (h ()).1.1) (.inl rfl); exact ⟨(l, l.length), ⟨h1, h2, h3.trans (Int.add_zero _)⟩, Nat.le_refl _⟩
  ·exact PR.good_none
 ·intro P Ω hΩ hE hI hm args pr hs hp Q hQ
  unfold qhn at hs
  split at hs <;> subst hs <;> try (exact hp.elim)
  rename_i bs w
  obtain ⟨⟨hb, lb⟩, hw⟩ := hp ()
  obtain ⟨N, eN⟩ : ∃ N, N = 2 * bs.length := ⟨_, rfl⟩
  have hV := v16 hb
  rw [<- eN] at hQ hV
  refine ⟨1000, ?_⟩
  conv => cbv
  constructor
  ·intro h
   have h' : False := by (subst hΩ; have h2 := of_decide_eq_true h; change ((bs.length : Nat) : Int) > 64 at h2; omega); first | done | (subst hΩ; exact Bool.noConfusion (show false = true from h))
   contradiction
  intro _
  conv => cbv
  refine qaa hE hI hm (n := 1000) ?_
  conv => cbv
  constructor
  ·intro h
   have h' : False := by (subst hΩ; have h2 := of_decide_eq_true h; change w < 2 at h2; omega); first | done | (subst hΩ; exact Bool.noConfusion (show false = true from h))
   contradiction
  intro _
  conv => cbv
  constructor
  ·intro h
   have h' : False := by (subst hΩ; have h2 := of_decide_eq_true h; change w > 8 at h2; omega); first | done | (subst hΩ; exact Bool.noConfusion (show false = true from h))
   contradiction
  intro _
  conv => cbv
  refine qaa hE hI hm (n := 1000) ?_
  conv => cbv
  constructor
  ·exact fun _ _ => ⟨⟨hb, lb⟩, by omega, by omega⟩
  intro z hz
  obtain ⟨zl, zc⟩ := z
  have hz : zl = qaK (nV bs) 4 N /\ zl.length <= zc := by
   subst hΩ
   have h : zl = qaK (nV bs) w.toNat ((8 * bs.length + w.toNat - 1) / w.toNat) /\ zl.length <= zc := hz
   rw [hw] at h
   refine ⟨h.1.trans ?_, h.2⟩
   show qaK (nV bs) 4 ((8 * bs.length + 4 - 1) / 4) = qaK (nV bs) 4 N
   congr 1; omega
  have hzl : zl.length = N := by rw [hz.1, qe9]
  obtain ⟨K, hK⟩ : ∃ K, Ω.ofN (Ω.len zl) = K := ⟨_, rfl⟩
  have eK : K = (N : Int) := by rw [<- hK, hΩ]; show ((zl.length : Nat) : Int) = _; omega
  conv at hK => lhs; cbv
  conv => cbv
  constructor
  ·intro h
   have h' : False := by (subst hΩ; exact absurd h (by decide)); first | done | (subst hΩ; exact Bool.noConfusion (show false = true from h))
   contradiction
  intro _
  conv => cbv
  rw [hK]
  refine qu hE hI hm (fun z : Nat × Int × List Int => (mkT 63 [(0, .roi .u8 bs), (1, .int .i64 w), (4, .val (.slice none 0 0)), (5, .lit .i64 0), (7, .sl 264 1 (.l 0) (.s (Ω.len zl)) (.s zc)), (9, .int .i64 z.2.1), (28, .int .i64 K), (29, .int .i64 z.1)], [(264, .seq .i64 z.2.2)])) (fun z => z.1 <= N /\ Sgs (nV bs) N z.1 z.2.1 z.2.2) (fun z => N - z.1) 0 ⟨(0, 0, zl), [], ⟨Nat.zero_le _, by rw [hz.1]; exact Sgs.start⟩, Nat.zero_le _, ?_⟩ fun z hz2 => ⟨1000, ?_⟩
  ·conv => cbv
   trivial
  obtain ⟨i, o, l⟩ := z
  obtain ⟨hi, hS⟩ : i <= N /\ Sgs (nV bs) N i o l := hz2
  conv => cbv
  constructor
  ·intro hc
   have hlt : (i : Int) < K := by subst hΩ; exact of_decide_eq_true hc
   obtain ⟨d, hd'⟩ : ∃ d, Ω.at' l (Ω.toN (Int.ofNat i)) = d := ⟨_, rfl⟩
   have ed : d = l.getD i 0 := by rw [<- hd', hΩ]; rfl
   obtain ⟨t, ht⟩ : ∃ t, Ω.bin .add .i64 d o = t := ⟨_, rfl⟩
   obtain ⟨l1, hl1⟩ : ∃ l1, Ω.set l (Ω.toN (Int.ofNat i)) t = l1 := ⟨_, rfl⟩
   obtain ⟨t1, ht1⟩ : ∃ t1, Ω.at' l1 (Ω.toN (Int.ofNat i)) = t1 := ⟨_, rfl⟩
   obtain ⟨o1, ho1⟩ : ∃ o1, Ω.bin .quo .i64 (Ω.bin .add .i64 (Ω.bin .shr .i64 t1 (Ω.bin .sub .i64 w 1)) 1) 2 = o1 := ⟨_, rfl⟩
   obtain ⟨t2, ht2⟩ : ∃ t2, Ω.bin .sub .i64 t1 (Ω.bin .shl .i64 o1 w) = t2 := ⟨_, rfl⟩
   obtain ⟨l2, hl2⟩ : ∃ l2, Ω.set l1 (Ω.toN (Int.ofNat i)) t2 = l2 := ⟨_, rfl⟩
   obtain ⟨i2, hi2⟩ : ∃ i2, Ω.bin .add .i64 (Int.ofNat i) 1 = i2 := ⟨_, rfl⟩
   have ei2 : i2 = ((i + 1 : Nat) : Int) := by
    rw [<- hi2, hΩ]
    show binL .add .i64 (i : Int) 1 = _
    rw [qD (by omega) (by omega)]; omega
   have hov := hS.ov
   have hst0 := hS.step (o' := ((l.getD i 0 + o) / 8 + 1) / 2) (by omega) rfl
   obtain ⟨hdr, hor, hst⟩ := hst0
   rw [<- ed] at hdr hst hor
   have hll := hS.len
   have et : t = d + o := by rw [<- ht, hΩ]; exact qD (by omega) (by omega)
   have el1 : l1 = l.set i t := by rw [<- hl1, hΩ]; rfl
   have et1 : t1 = t := by
    rw [<- ht1, hΩ, el1]
    show (l.set i t).getD i 0 = t
    rw [qax (by omega), if_pos rfl]
   have eo1 : o1 = ((d + o) / 8 + 1) / 2 := by
    rw [<- ho1, hΩ, et1, et, hw]
    show binL .quo .i64 (binL .add .i64 (binL .shr .i64 (d + o) (binL .sub .i64 4 1)) 1) 2 = _
    rw [q8 (by omega) (by omega), show (4 : Int) - 1 = ((3 : Nat) : Int) from rfl, qsD _ (by decide), show ((2 ^ 3 : Nat) : Int) = 8 from rfl, qD (by omega) (by omega)]
    have e : (d + o) / 8 + 1 = (((d + o) / 8 + 1).toNat : Int) := by omega
    rw [e]
    exact qcY _ 2 (by omega)
   have et2 : t2 = d + o - o1 * 16 := by
    rw [<- ht2, hΩ, et1, et, hw]
    show binL .sub .i64 (d + o) (binL .shl .i64 o1 4) = _
    have e : o1 = ((o1.toNat : Nat) : Int) := by omega
    rw [e, show (4 : Int) = ((4 : Nat) : Int) from rfl, qnO (by decide) (by omega), q8 (by omega) (by omega)]
    omega
   have el2 : l2 = l.set i (d + o - o1 * 16) := by
    rw [<- hl2, hΩ, el1, et2]
    show (l.set i t).set i _ = _
    rw [List.set_set]
   rw [<- eo1, <- el2] at hst
   have hst3 : Sgs (nV bs) N (i + 1) o1 l2 := hst
   have hll1 : l1.length = N := by rw [el1, List.length_set]; exact hll
   conv at hi2 => lhs; cbv
   conv at hd' => lhs; cbv
   conv at ht => lhs; cbv
   conv at hl1 => lhs; cbv
   conv at ht1 => lhs; cbv
   conv at ho1 => lhs; cbv
   conv at ht2 => lhs; cbv
   conv at hl2 => lhs; cbv
   conv => cbv
   rw [hd', ht, hl1]
   rw [ht1]
   rw [ho1]
   rw [ht2]
   rw [hl2, hi2]
   constructor
   ·exact fun _ => ⟨Int.natCast_nonneg i, by rw [hΩ]; show (i : Int) < ((zl.length : Nat) : Int); omega⟩
   constructor
   ·exact fun _ => by rw [hΩ]; show i + 1 <= l.length; omega
   constructor
   ·exact fun _ => ⟨Int.natCast_nonneg i, by rw [hΩ]; show (i : Int) < ((zl.length : Nat) : Int); omega⟩
   constructor
   ·exact fun _ => by rw [hΩ]; show i < l.length; omega
   constructor
   ·exact fun _ => ⟨Int.natCast_nonneg i, by rw [hΩ]; show (i : Int) < ((zl.length : Nat) : Int); omega⟩
   constructor
   ·exact fun _ => by rw [hΩ]; show i + 1 <= l1.length; omega
   constructor
   ·exact fun _ => by rw [hΩ]; show 0 <= binL .sub .i64 w 1; rw [q8 (by omega) (by omega)]; omega
   constructor
   ·exact fun _ => ⟨Int.natCast_nonneg i, by rw [hΩ]; show (i : Int) < ((zl.length : Nat) : Int); omega⟩
   constructor
   ·exact fun _ => by rw [hΩ]; show i + 1 <= l1.length; omega
   constructor
   ·exact fun _ => by omega
   constructor
   ·exact fun _ => ⟨Int.natCast_nonneg i, by rw [hΩ]; show (i : Int) < ((zl.length : Nat) : Int); omega⟩
   constructor
   ·exact fun _ => by rw [hΩ]; show i < l1.length; omega
   refine ⟨(i + 1, o1, l2), [], ⟨by show i + 1 <= N; omega, hst3⟩, by show N - (i + 1) < N - i; omega, Nat.zero_le _, ?_⟩
   conv => cbv
   exact ⟨ei2, trivial⟩
  ·intro hc
   have hge : ¬ (i : Int) < K := by subst hΩ; exact of_decide_eq_false hc
   have hiN : i = N := by omega
   subst hiN
   obtain ⟨f1, f2, f3⟩ := hS.done hV
   have hll := hS.len
   conv => cbv
   constructor
   ·exact fun _ => by subst hΩ; show (zl.length + 1) * 8 <= 140737488355328; omega
   constructor
   ·exact fun _ => by subst hΩ; exact ⟨(show 0 + zl.length * 1 <= l.length by omega), (show 0 + 1 * 1 <= 1 by decide)⟩
   intro cap2 hcap2
   have hcap3 : i + 1 <= cap2 := by
    subst hΩ
    have h : zl.length + 1 <= cap2 := hcap2
    omega
   conv => cbv
   refine hQ (l ++ [o], cap2) _ _ _ ⟨⟨f3, f2, f1⟩, by show (l ++ [o]).length <= cap2; rw [f3]; exact hcap3⟩ ?_
   subst hΩ
   have hsub : (l.drop 0).take zl.length = l := by rw [List.drop_zero, List.take_of_length_le (by omega)]
   refine ⟨⟨⟨rfl, rfl, ?_, ?_⟩, ⟨rfl, rfl⟩, trivial⟩, rfl, rfl⟩
   ·show 0 + (zl.length + 1) <= ((l.drop 0).take zl.length ++ [o]).length
    rw [hsub, f3]; omega
   ·show l ++ [o] = (((l.drop 0).take zl.length ++ [o]).drop 0).take (zl.length + 1)
    rw [hsub, List.drop_zero, List.take_of_length_le (by omega)]
end Go.Sx.Tryz
end
section

end
