/-
  Part of the proof of a statement: the means.
-/
import Derived.Test.YtfgejoocodofoaaGreatX14
import Derived.Test.YtfgejoocodofoaaGreatX13
set_option linter.unusedSectionVars false
set_option linter.unusedVariables false
set_option linter.unusedSimpArgs false
set_option linter.deprecated false
section
set_option maxHeartbeats 4000000
namespace Go.Sx.Tryz
open Go.Proofs
set_option maxRecDepth 40000
def qfy (Ω : Om) : qd := fun args => match args with
 | [] => ⟨True, List Int × Nat, fun z => z.1 = qbU /\ z.1.length <= z.2, fun z => .fr .u64 z.1 z.2⟩
 | _ => PR.none
theorem qov : Ctr Tryz.prog T glob 142 (qfy Om.real) := by
 refine qo T_ok qi qj (fun Ω => []) [] (fun Ω => []) [] qg qh qe qf Tryz.func142 (by rfl) (by kernel_rfl) Tryz.call142 ?_ ?_
 ·intro args; unfold qfy; split
  ·exact qai trivial fun _ => qav _
  ·exact PR.good_none
 ·intro P Ω hΩ hE hI hm args pr hs hp Q hQ
  unfold qfy at hs
  split at hs <;> subst hs <;> try (exact hp.elim)
  refine ⟨1000, ?_⟩
  conv => cbv
  refine hQ (qbU, 4) _ _ _ ⟨rfl, by decide⟩ ?_
  subst hΩ
  exact ⟨rfl, rfl, Nat.le_refl 4, rfl⟩
def qfz (Ω : Om) : qd := fun args => match args with
 | [] => ⟨True, List Int × Nat, fun z => z.1 = natW LN /\ z.1.length <= z.2, fun z => .fr .u64 z.1 z.2⟩
 | _ => PR.none
theorem qow : Ctr Tryz.prog T glob 138 (qfz Om.real) := by
 refine qo T_ok qi qj (fun Ω => [(143, qfx Ω), (142, qfy Ω), (141, qd4 Ω)]) [] (fun Ω => []) [] (qb qon (qb qov (qb qj3 qg))) qh qe qf Tryz.func138 (by rfl) (by kernel_rfl) Tryz.call138 ?_ ?_
 ·intro args; unfold qfz; split
  ·exact qai trivial fun _ => qav _
  ·exact PR.good_none
 ·intro P Ω hΩ hE hI hm args pr hs hp Q hQ
  unfold qfz at hs
  split at hs <;> subst hs <;> try (exact hp.elim)
  refine ⟨1000, ?_⟩
  conv => cbv
  constructor
  ·exact fun _ => ⟨(show 0 + 1 <= 1 by decide), trivial, trivial⟩
  constructor
  ·exact fun _ _ => ⟨⟨qtD, by decide⟩, by decide⟩
  intro z hz
  obtain ⟨zl, zc⟩ := z
  have hz : zl = natW (shV (wV [1]) 446) /\ zl.length <= zc := by subst hΩ; exact hz
  have hsz : Ω.sub zl 0 (Ω.len zl) = zl := by
   rw [hΩ]; show (zl.drop 0).take zl.length = zl
   rw [List.drop_zero, List.take_length]
  conv at hsz => lhs; cbv
  conv => cbv
  rw [qtC] at hz
  constructor
  ·exact fun (_ : Unit) => trivial
  intro y hy
  obtain ⟨yl, yc⟩ := y
  have hy : yl = qbU /\ yl.length <= yc := by subst hΩ; exact hy
  have hsy : Ω.sub yl 0 (Ω.len yl) = yl := by
   rw [hΩ]; show (yl.drop 0).take yl.length = yl
   rw [List.drop_zero, List.take_length]
  conv at hsy => lhs; cbv
  conv => cbv
  constructor
  ·exact fun _ => ⟨(by subst hΩ; show 0 + zl.length <= zl.length; omega), (by subst hΩ; show 0 + yl.length <= yl.length; omega), trivial⟩
  rw [hsz, hsy]
  obtain ⟨nz, vz⟩ := nwT hz.1
  obtain ⟨ny, vy⟩ := nwC hy.1
  constructor
  ·exact fun _ _ => ⟨nz, ny, by rw [vy, vz]; exact qoq⟩
  intro w hw
  obtain ⟨wl, wc⟩ := w
  have hw : wl = natW (wV zl - wV yl) /\ wl.length <= wc := by subst hΩ; exact hw
  have hsw : Ω.sub wl 0 (Ω.len wl) = wl := by
   rw [hΩ]; show (wl.drop 0).take wl.length = wl
   rw [List.drop_zero, List.take_length]
  conv at hsw => lhs; cbv
  conv => cbv
  rw [vz, vy, qop] at hw
  refine hQ (wl, wc) _ _ _ hw ?_
  subst hΩ
  exact ⟨rfl, rfl, (show 0 + wl.length <= wl.length by omega), hsw.symm⟩
end Go.Sx.Tryz
end
section
set_option maxHeartbeats 4000000
namespace Go.Sx.Tryz
open Go.Proofs
set_option maxRecDepth 40000
def qfA (Ω : Om) : qd := fun args => match args with
 | [.ab (.sc k)] => ⟨∀ _ : Unit, k < LN, List Int × Nat, fun z => okSc k z.1 /\ z.1.length <= z.2, fun z => .fr .u64 z.1 z.2⟩
 | _ => PR.none
noncomputable def qtE : List (FuncId × Func) := [(156, Tryz.f156)]
theorem qox : Ctr Tryz.prog T glob 101 (qfA Om.real) := by
 refine qal T_ok qi qj (fun Ω => []) qtE (fun Ω => []) [] qg (qG Tryz.call156 Tryz.func156 (by kernel_rfl) qh) qe qf Tryz.func101 (by rfl) (by kernel_rfl) Tryz.call101 ?_ ?_
 ·intro args; unfold qfA; split
  ·exact qai ⟨trivial, trivial⟩ fun h => ⟨(_, 7), qot (h ()), by rw [(qot (h ())).1]; exact Nat.le_refl _⟩
  ·exact PR.good_none
 ·intro P Ω hΩ hE hI hm args pr hs hp cs hcs Q hQ
  unfold qfA at hs
  split at hs <;> subst hs <;> try (exact hp.elim)
  rename_i k
  have hk := hp ()
  obtain ⟨_, _, rfl, ⟨xs, rfl, hx⟩, rfl⟩ := hcs
  have hx : okSc k xs := hx
  have hxl : xs.length = 7 := hx.1
  refine ⟨1000, ?_⟩
  conv => cbv
  constructor
  ·exact fun _ => ⟨trivial, trivial, trivial, (by decide : (0 : Nat) <= 7 /\ (7 : Nat) <= 7 /\ (7 : Nat) <= 7)⟩
  intro q hq
  cases q with
  | true => exact absurd rfl hq
  | false =>
    conv => cbv
    constructor
    · intro h
      exact Bool.noConfusion h
    intro _
    conv => cbv
    constructor
    · exact fun _ => (by decide : (0 + 7) * 8 <= 140737488355328)
    constructor
    · exact fun _ => ⟨(show 0 + 0 * 1 <= 0 by decide), (show 0 + 7 * 1 <= 7 by decide)⟩
    intro cap hcap
    have hc7 : 7 <= cap := by have h : 0 + 7 <= cap := hcap; omega
    conv => cbv
    refine hQ (xs, cap) _ _ _ ⟨hx, by show xs.length <= cap; omega⟩ ?_
    subst hΩ
    refine ⟨rfl, rfl, (show 0 + 7 <= ([] ++ xs).length by rw [List.nil_append, hxl]; exact Nat.le_refl _), ?_⟩
    show xs = (([] ++ xs).drop 0).take 7
    rw [List.nil_append, List.drop_zero, List.take_of_length_le (by omega)]
end Go.Sx.Tryz
end
section
set_option maxHeartbeats 4000000
namespace Go.Sx.Tryz
open Go.Proofs
set_option maxRecDepth 40000
def qd5 (Ω : Om) : qd := fun args => match args with
 | [.roi .u64 xs] => ⟨∀ _ : Unit, W64 xs /\ xs.length < 500000, Unit, fun _ => True, fun _ => .ab (.sc (Ω.hide _ fun _ => wV xs % LN))⟩
 | _ => PR.none
theorem qj6 : Ctr Tryz.prog T glob 93 (qd5 Om.real) := by
 refine qo T_ok qi qj (fun Ω => [(142, qfy Ω), (138, qfz Ω), (143, qfx Ω), (144, qfv Ω), (141, qd4 Ω), (102, qhH Ω), (100, qhC Ω), (145, qfw Ω)]) [] (fun Ω => []) [] (qb qov (qb qow (qb qon (qb qok (qb qj3 (qb qtr (qb qs5 (qb qom qg)))))))) qh qe qf Tryz.func93 (by rfl) (by kernel_rfl) Tryz.call93 ?_ ?_
 ·intro args; unfold qd5; split
  ·exact qr (by repeat' constructor) (fun _ _ => rfl) (by repeat' constructor)
  ·exact PR.good_none
 ·intro P Ω hΩ hE hI hm args pr hs hp Q hQ
  unfold qd5 at hs
  split at hs <;> subst hs <;> try (exact hp.elim)
  rename_i xs
  obtain ⟨hx, lx⟩ := hp ()
  obtain ⟨X, eX⟩ : ∃ X, X = xs.length := ⟨_, rfl⟩
  obtain ⟨V, hV⟩ : ∃ V, wV xs = V := ⟨_, rfl⟩
  have hVX : V < 18446744073709551616 ^ X := by rw [eX, <- hV]; exact qbF hx
  have hNW : W64 xs /\ xs.length < 1000000 := ⟨hx, by omega⟩
  have hV00 := hV
  refine ⟨1000, ?_⟩
  conv => cbv
  constructor
  ·exact fun (_ : Unit) => trivial
  intro c hc
  obtain ⟨cl, cc⟩ := c
  have hc : cl = qbU /\ cl.length <= cc := by subst hΩ; exact hc
  have hsc : Ω.sub cl 0 (Ω.len cl) = cl := by
   rw [hΩ]; show (cl.drop 0).take cl.length = cl
   rw [List.drop_zero, List.take_length]
  conv at hsc => lhs; cbv
  conv => cbv
  obtain ⟨nc', vc'⟩ := nwC hc.1
  constructor
  ·exact fun (_ : Unit) => trivial
  intro l hl
  obtain ⟨ll, lc⟩ := l
  have hl : ll = natW LN /\ ll.length <= lc := by subst hΩ; exact hl
  have hsl : Ω.sub ll 0 (Ω.len ll) = ll := by
   rw [hΩ]; show (ll.drop 0).take ll.length = ll
   rw [List.drop_zero, List.take_length]
  conv at hsl => lhs; cbv
  conv => cbv
  obtain ⟨nl', vl'⟩ := nwL hl.1
  have hlw := hl
  clear hl
  refine q9 hE hI hm (n := 1000) ?_
  conv => cbv
  constructor
  ·exact fun _ _ => ⟨hNW, by decide⟩
  intro h hh
  obtain ⟨hl, hc⟩ := h
  have hh : hl = natW (shV (wV xs) (-446)) /\ hl.length <= hc := by subst hΩ; exact hh
  have hsh : Ω.sub hl 0 (Ω.len hl) = hl := by
   rw [hΩ]; show (hl.drop 0).take hl.length = hl
   rw [List.drop_zero, List.take_length]
  conv at hsh => lhs; cbv
  conv => cbv
  rw [qor, hV] at hh
  obtain ⟨nh, vh⟩ := nw X hh.1 (Nat.lt_of_le_of_lt (Nat.div_le_self _ _) hVX) (by omega)
  constructor
  ·exact fun _ => ⟨(by subst hΩ; show 0 + hl.length <= hl.length; omega), trivial⟩
  rw [hsh]
  constructor
  ·exact fun _ _ => nh
  intro (q : Nat) hq
  have hq : IsLen (wV hl) q /\ q <= 64000000 := by subst hΩ; exact hq
  rw [vh] at hq
  conv => cbv
  constructor
  ·intro hc
   have hq0 : V / T446 = 0 := by
    subst hΩ
    have h2 : Int.ofNat q = 0 := eq_of_beq hc
    have h3 : q = 0 := Int.ofNat_inj.1 h2
    rw [h3] at hq
    have h4 := hq.1.1
    rw [Nat.pow_zero] at h4
    exact Nat.lt_one_iff.1 h4
   conv => cbv
   constructor
   ·exact fun _ => ⟨trivial, (by subst hΩ; show 0 + ll.length <= ll.length; omega), trivial⟩
   rw [hsl]
   constructor
   ·exact fun _ _ => ⟨hNW, nl'⟩
   intro _ _
   conv => cbv
   constructor
   ·intro hc
    have hge : LN <= V := by
     subst hΩ
     have h2 : cmpN (wV xs) (wV ll) >= 0 := of_decide_eq_true hc
     rw [hV, vl'] at h2
     unfold cmpN at h2
     split at h2 <;> omega
    conv => cbv
    constructor
    ·exact fun _ => ⟨trivial, (by subst hΩ; show 0 + ll.length <= ll.length; omega), trivial⟩
    rw [hsl]
    constructor
    ·exact fun _ _ => ⟨hNW, nl', by rw [hV, vl']; exact hge⟩
    intro s hs
    obtain ⟨sl, sc⟩ := s
    have hs : sl = natW (wV xs - wV ll) /\ sl.length <= sc := by subst hΩ; exact hs
    have hss : Ω.sub sl 0 (Ω.len sl) = sl := by
     rw [hΩ]; show (sl.drop 0).take sl.length = sl
     rw [List.drop_zero, List.take_length]
    conv at hss => lhs; cbv
    conv => cbv
    rw [hV, vl', (qhL hq0).1 hge] at hs
    obtain ⟨ns, vs⟩ := nw 7 hs.1 (Nat.lt_trans (Nat.mod_lt _ qaX) (Nat.lt_trans qa7 qdj)) (by decide)
    constructor
    ·exact fun _ => ⟨trivial, trivial, trivial, (by decide : (0 : Nat) <= 7 /\ (7 : Nat) <= 7 /\ (7 : Nat) <= 7)⟩
    rw [hss]
    constructor
    ·exact fun _ => ⟨by subst hΩ; exact (show 0 + sl.length <= sl.length by omega), (by decide : (0 : Nat) < 7 /\ 0 + 7 <= 7)⟩
    refine hQ () _ _ _ trivial ?_
    subst hΩ
    have hfin := qhN (nl := sl) (V := V % LN) ns.1 vs (Nat.mod_lt _ qaX)
    rw [<- hV] at hfin
    exact ⟨rfl, hfin⟩
   ·intro hc
    have hlt : V < LN := by
     subst hΩ
     have h2 : ¬ cmpN (wV xs) (wV ll) >= 0 := of_decide_eq_false hc
     rw [hV, vl'] at h2
     unfold cmpN at h2
     split at h2
     ·assumption
     ·split at h2 <;> omega
    conv => cbv
    constructor
    ·exact fun _ => ⟨trivial, trivial, trivial, (by decide : (0 : Nat) <= 7 /\ (7 : Nat) <= 7 /\ (7 : Nat) <= 7)⟩
    constructor
    ·exact fun _ => ⟨by subst hΩ; exact trivial, (by decide : (0 : Nat) < 7 /\ 0 + 7 <= 7)⟩
    refine hQ () _ _ _ trivial ?_
    subst hΩ
    have hfin := qhN (nl := xs) (V := V % LN) hNW.1 (by rw [hV]; exact (qhL hq0).2 hlt) (Nat.mod_lt _ qaX)
    rw [<- hV] at hfin
    exact ⟨rfl, hfin⟩
  ·intro hc
   have hq0 : V / T446 ≠ 0 := by
    subst hΩ
    have h2 : Int.ofNat q ≠ 0 := ne_of_beq_false hc
    intro h3
    apply h2
    rcases hq.1.2 with e | e
    ·rw [e]; rfl
    ·rw [h3] at e
     exact absurd e (Nat.not_le.2 (Nat.pow_pos (by decide)))
   obtain ⟨f1, f2, f3⟩ := qos hq0
   conv => cbv
   constructor
   ·exact fun _ => ⟨(by subst hΩ; show 0 + hl.length <= hl.length; omega), trivial, trivial⟩
   rw [hsh]
   constructor
   ·exact fun _ _ => ⟨nh, by decide⟩
   intro u hu
   obtain ⟨ul, uc⟩ := u
   have hu : ul = natW (shV (wV hl) 446) /\ ul.length <= uc := by subst hΩ; exact hu
   have hsu : Ω.sub ul 0 (Ω.len ul) = ul := by
    rw [hΩ]; show (ul.drop 0).take ul.length = ul
    rw [List.drop_zero, List.take_length]
   conv at hsu => lhs; cbv
   conv => cbv
   rw [qj4, vh] at hu
   obtain ⟨nu, vu⟩ := nw X hu.1 (Nat.lt_of_le_of_lt f3 hVX) (by omega)
   constructor
   ·exact fun _ => ⟨trivial, (by subst hΩ; show 0 + ul.length <= ul.length; omega), trivial⟩
   rw [hsu]
   constructor
   ·exact fun _ _ => ⟨hNW, nu, by rw [vu, hV]; exact f3⟩
   intro d hd
   obtain ⟨dl, dc⟩ := d
   have hd : dl = natW (wV xs - wV ul) /\ dl.length <= dc := by subst hΩ; exact hd
   have hsd : Ω.sub dl 0 (Ω.len dl) = dl := by
    rw [hΩ]; show (dl.drop 0).take dl.length = dl
    rw [List.drop_zero, List.take_length]
   conv at hsd => lhs; cbv
   conv => cbv
   rw [hV, vu] at hd
   obtain ⟨nd, vd⟩ := nw X hd.1 (Nat.lt_of_le_of_lt (Nat.sub_le _ _) hVX) (by omega)
   constructor
   ·exact fun _ => ⟨(by subst hΩ; show 0 + hl.length <= hl.length; omega), (by subst hΩ; show 0 + cl.length <= cl.length; omega), trivial⟩
   rw [hsh, hsc]
   constructor
   ·exact fun _ _ => ⟨nh, nc'⟩
   intro m hm2
   obtain ⟨ml, mc⟩ := m
   have hm2 : ml = natW (wV hl * wV cl) /\ ml.length <= mc := by subst hΩ; exact hm2
   have hsm : Ω.sub ml 0 (Ω.len ml) = ml := by
    rw [hΩ]; show (ml.drop 0).take ml.length = ml
    rw [List.drop_zero, List.take_length]
   conv at hsm => lhs; cbv
   conv => cbv
   rw [vh, vc'] at hm2
   obtain ⟨nm, vm⟩ := nw X hm2.1 (Nat.lt_of_le_of_lt (Nat.le_trans (Nat.le_add_left _ _) (Nat.le_of_lt f1)) hVX) (by omega)
   constructor
   ·exact fun _ => ⟨(by subst hΩ; show 0 + dl.length <= dl.length; omega), (by subst hΩ; show 0 + ml.length <= ml.length; omega), trivial⟩
   rw [hsd, hsm]
   constructor
   ·exact fun _ _ => ⟨nd, nm⟩
   intro a ha
   obtain ⟨al, ac⟩ := a
   have ha : al = natW (wV dl + wV ml) /\ al.length <= ac := by subst hΩ; exact ha
   have hsa : Ω.sub al 0 (Ω.len al) = al := by
    rw [hΩ]; show (al.drop 0).take al.length = al
    rw [List.drop_zero, List.take_length]
   conv at hsa => lhs; cbv
   conv => cbv
   rw [vd, vm] at ha
   obtain ⟨na, va⟩ := nw X ha.1 (Nat.lt_trans f1 hVX) (by omega)
   obtain ⟨V0, hV0⟩ : ∃ V0, V - V / T446 * T446 + V / T446 * qaQ = V0 := ⟨_, rfl⟩
   rw [hV0] at f1 f2 va ha
   refine qv hE hI hm (fun z : Nat × List Int × Nat => (mkT 51 [(0, .sl 280 1 (.l 0) (.s (Ω.len z.2.1)) (.s z.2.2)), (2, .ptr 0 (.l 0)), (3, .sl 8 1 (.l 0) (.s (Ω.len cl)) (.s cc)), (4, .sl 16 1 (.l 0) (.s (Ω.len ll)) (.s lc))], [(280, .seq .u64 z.2.1), (16, .seq .u64 ll), (8, .seq .u64 cl), (0, .row .u64 7 [0, 0, 0, 0, 0, 0, 0])])) (fun z => z.2.1 = natW z.1 /\ z.1 % LN = V % LN /\ z.1 < 18446744073709551616 ^ X) (fun z => z.1) 1 ⟨(V0, al, ac), [some 264], ⟨ha.1, f2, Nat.lt_trans f1 hVX⟩, by show 1 <= 8 * 1; decide, ?_⟩ fun z hz => ⟨1000, ?_⟩
   ·conv => cbv
    trivial
   clear hV hNW
   have hVO := hVX
   clear hVX
   obtain ⟨V1, nl, nnc⟩ := z
   obtain ⟨hnl, hVV, hVX⟩ : nl = natW V1 /\ V1 % LN = V % LN /\ V1 < 18446744073709551616 ^ X := hz
   obtain ⟨hNW, hV⟩ := nw X hnl hVX (by omega)
   have hsn : Ω.sub nl 0 (Ω.len nl) = nl := by
    rw [hΩ]; show (nl.drop 0).take nl.length = nl
    rw [List.drop_zero, List.take_length]
   conv at hsn => lhs; cbv
   conv => cbv
   constructor
   ·exact fun _ => ⟨(by subst hΩ; show 0 + nl.length <= nl.length; omega), trivial, trivial⟩
   rw [hsn]
   constructor
   ·exact fun _ _ => ⟨hNW, by decide⟩
   intro h hh
   obtain ⟨hl, hc⟩ := h
   have hh : hl = natW (shV (wV nl) (-446)) /\ hl.length <= hc := by subst hΩ; exact hh
   have hsh : Ω.sub hl 0 (Ω.len hl) = hl := by
    rw [hΩ]; show (hl.drop 0).take hl.length = hl
    rw [List.drop_zero, List.take_length]
   conv at hsh => lhs; cbv
   conv => cbv
   rw [qor, hV] at hh
   obtain ⟨nh, vh⟩ := nw X hh.1 (Nat.lt_of_le_of_lt (Nat.div_le_self _ _) hVX) (by omega)
   constructor
   ·exact fun _ => ⟨(by subst hΩ; show 0 + hl.length <= hl.length; omega), trivial⟩
   rw [hsh]
   constructor
   ·exact fun _ _ => nh
   intro (q : Nat) hq
   have hq : IsLen (wV hl) q /\ q <= 64000000 := by subst hΩ; exact hq
   rw [vh] at hq
   conv => cbv
   constructor
   ·intro hc
    have hq0 : V1 / T446 = 0 := by
     subst hΩ
     have h2 : Int.ofNat q = 0 := eq_of_beq hc
     have h3 : q = 0 := Int.ofNat_inj.1 h2
     rw [h3] at hq
     have h4 := hq.1.1
     rw [Nat.pow_zero] at h4
     exact Nat.lt_one_iff.1 h4
    conv => cbv
    constructor
    ·exact fun _ => ⟨(by subst hΩ; show 0 + nl.length <= nl.length; omega), (by subst hΩ; show 0 + ll.length <= ll.length; omega), trivial⟩
    rw [hsn, hsl]
    constructor
    ·exact fun _ _ => ⟨hNW, nl'⟩
    intro _ _
    conv => cbv
    constructor
    ·intro hc
     have hge : LN <= V1 := by
      subst hΩ
      have h2 : cmpN (wV nl) (wV ll) >= 0 := of_decide_eq_true hc
      rw [hV, vl'] at h2
      unfold cmpN at h2
      split at h2 <;> omega
     conv => cbv
     constructor
     ·exact fun _ => ⟨(by subst hΩ; show 0 + nl.length <= nl.length; omega), (by subst hΩ; show 0 + ll.length <= ll.length; omega), trivial⟩
     rw [hsn, hsl]
     constructor
     ·exact fun _ _ => ⟨hNW, nl', by rw [hV, vl']; exact hge⟩
     intro s hs
     obtain ⟨sl, sc⟩ := s
     have hs : sl = natW (wV nl - wV ll) /\ sl.length <= sc := by subst hΩ; exact hs
     have hss : Ω.sub sl 0 (Ω.len sl) = sl := by
      rw [hΩ]; show (sl.drop 0).take sl.length = sl
      rw [List.drop_zero, List.take_length]
     conv at hss => lhs; cbv
     conv => cbv
     rw [hV, vl', (qhL hq0).1 hge] at hs
     obtain ⟨ns, vs⟩ := nw 7 hs.1 (Nat.lt_trans (Nat.mod_lt _ qaX) (Nat.lt_trans qa7 qdj)) (by decide)
     constructor
     ·exact fun _ => ⟨trivial, trivial, trivial, (by decide : (0 : Nat) <= 7 /\ (7 : Nat) <= 7 /\ (7 : Nat) <= 7)⟩
     rw [hss]
     constructor
     ·exact fun _ => ⟨by subst hΩ; exact (show 0 + sl.length <= sl.length by omega), (by decide : (0 : Nat) < 7 /\ 0 + 7 <= 7)⟩
     refine hQ () _ _ _ trivial ?_
     subst hΩ
     have hfin := qhN (nl := sl) (V := V1 % LN) ns.1 vs (Nat.mod_lt _ qaX)
     rw [hVV, <- hV00] at hfin
     exact ⟨rfl, hfin⟩
    ·intro hc
     have hlt : V1 < LN := by
      subst hΩ
      have h2 : ¬ cmpN (wV nl) (wV ll) >= 0 := of_decide_eq_false hc
      rw [hV, vl'] at h2
      unfold cmpN at h2
      split at h2
      ·assumption
      ·split at h2 <;> omega
     conv => cbv
     constructor
     ·exact fun _ => ⟨trivial, trivial, trivial, (by decide : (0 : Nat) <= 7 /\ (7 : Nat) <= 7 /\ (7 : Nat) <= 7)⟩
     rw [hsn]
     constructor
     ·exact fun _ => ⟨by subst hΩ; exact (show 0 + nl.length <= nl.length by omega), (by decide : (0 : Nat) < 7 /\ 0 + 7 <= 7)⟩
     refine hQ () _ _ _ trivial ?_
     subst hΩ
     have hfin := qhN (nl := nl) (V := V1 % LN) hNW.1 (by rw [hV]; exact (qhL hq0).2 hlt) (Nat.mod_lt _ qaX)
     rw [hVV, <- hV00] at hfin
     exact ⟨rfl, hfin⟩
   ·intro hc
    have hq0 : V1 / T446 ≠ 0 := by
     subst hΩ
     have h2 : Int.ofNat q ≠ 0 := ne_of_beq_false hc
     intro h3
     apply h2
     rcases hq.1.2 with e | e
     ·rw [e]; rfl
     ·rw [h3] at e
      exact absurd e (Nat.not_le.2 (Nat.pow_pos (by decide)))
    obtain ⟨f1, f2, f3⟩ := qos hq0
    conv => cbv
    constructor
    ·exact fun _ => ⟨(by subst hΩ; show 0 + hl.length <= hl.length; omega), trivial, trivial⟩
    rw [hsh]
    constructor
    ·exact fun _ _ => ⟨nh, by decide⟩
    intro u hu
    obtain ⟨ul, uc⟩ := u
    have hu : ul = natW (shV (wV hl) 446) /\ ul.length <= uc := by subst hΩ; exact hu
    have hsu : Ω.sub ul 0 (Ω.len ul) = ul := by
     rw [hΩ]; show (ul.drop 0).take ul.length = ul
     rw [List.drop_zero, List.take_length]
    conv at hsu => lhs; cbv
    conv => cbv
    rw [qj4, vh] at hu
    obtain ⟨nu, vu⟩ := nw X hu.1 (Nat.lt_of_le_of_lt f3 hVX) (by omega)
    constructor
    ·exact fun _ => ⟨(by subst hΩ; show 0 + nl.length <= nl.length; omega), (by subst hΩ; show 0 + ul.length <= ul.length; omega), trivial⟩
    rw [hsn, hsu]
    constructor
    ·exact fun _ _ => ⟨hNW, nu, by rw [vu, hV]; exact f3⟩
    intro d hd
    obtain ⟨dl, dc⟩ := d
    have hd : dl = natW (wV nl - wV ul) /\ dl.length <= dc := by subst hΩ; exact hd
    have hsd : Ω.sub dl 0 (Ω.len dl) = dl := by
     rw [hΩ]; show (dl.drop 0).take dl.length = dl
     rw [List.drop_zero, List.take_length]
    conv at hsd => lhs; cbv
    conv => cbv
    rw [hV, vu] at hd
    obtain ⟨nd, vd⟩ := nw X hd.1 (Nat.lt_of_le_of_lt (Nat.sub_le _ _) hVX) (by omega)
    constructor
    ·exact fun _ => ⟨(by subst hΩ; show 0 + hl.length <= hl.length; omega), (by subst hΩ; show 0 + cl.length <= cl.length; omega), trivial⟩
    rw [hsh, hsc]
    constructor
    ·exact fun _ _ => ⟨nh, nc'⟩
    intro m hm2
    obtain ⟨ml, mc⟩ := m
    have hm2 : ml = natW (wV hl * wV cl) /\ ml.length <= mc := by subst hΩ; exact hm2
    have hsm : Ω.sub ml 0 (Ω.len ml) = ml := by
     rw [hΩ]; show (ml.drop 0).take ml.length = ml
     rw [List.drop_zero, List.take_length]
    conv at hsm => lhs; cbv
    conv => cbv
    rw [vh, vc'] at hm2
    obtain ⟨nm, vm⟩ := nw X hm2.1 (Nat.lt_of_le_of_lt (Nat.le_trans (Nat.le_add_left _ _) (Nat.le_of_lt f1)) hVX) (by omega)
    constructor
    ·exact fun _ => ⟨(by subst hΩ; show 0 + dl.length <= dl.length; omega), (by subst hΩ; show 0 + ml.length <= ml.length; omega), trivial⟩
    rw [hsd, hsm]
    constructor
    ·exact fun _ _ => ⟨nd, nm⟩
    intro a ha
    obtain ⟨al, ac⟩ := a
    have ha : al = natW (wV dl + wV ml) /\ al.length <= ac := by subst hΩ; exact ha
    have hsa : Ω.sub al 0 (Ω.len al) = al := by
     rw [hΩ]; show (al.drop 0).take al.length = al
     rw [List.drop_zero, List.take_length]
    conv at hsa => lhs; cbv
    conv => cbv
    rw [vd, vm] at ha
    obtain ⟨na, va⟩ := nw X ha.1 (Nat.lt_trans f1 hVX) (by omega)
    obtain ⟨V2, hV2⟩ : ∃ V2, V1 - V1 / T446 * T446 + V1 / T446 * qaQ = V2 := ⟨_, rfl⟩
    rw [hV2] at f1 f2 va ha
    refine ⟨(V2, al, ac), [some 512], ⟨ha.1, f2.trans hVV, Nat.lt_trans f1 hVX⟩, f1, by show 1 <= 8 * 1; decide, ?_⟩
    conv => cbv
    trivial
end Go.Sx.Tryz
end
section
set_option maxHeartbeats 4000000
namespace Go.Sx.Tryz
open Go.Proofs
set_option maxRecDepth 40000
def quI (Ω : Om) : qd := fun args => match args with
 | [] => ⟨True, List Int × Nat, fun z => z.1 = qK LN 57 /\ z.1.length <= z.2, fun z => .fr .u8 z.1 z.2⟩
 | _ => PR.none
def qhO (Ω : Om) : qd := fun args => match args with
 | [.roi .u8 bs] => ⟨∀ _ : Unit, Byt bs /\ bs.length <= 128, Unit, fun _ => True, fun _ => .tup [.ab (.sc (Ω.hide _ fun _ => nV bs % LN)), .int .i64 0]⟩
 | _ => PR.none
theorem qtF : Ctr Tryz.prog T glob 94 (qhO Om.real) := by
 refine qo T_ok qi qj (fun Ω => [(146, qhI Ω), (93, qd5 Ω)]) [] (fun Ω => []) [] (qb qtu (qb qj6 qg)) qh qe qf Tryz.func94 (by rfl) (by kernel_rfl) Tryz.call94 ?_ ?_
 ·intro args; unfold qhO; split
  ·exact qr (by repeat' constructor) (fun _ _ => rfl) (by repeat' constructor)
  ·exact PR.good_none
 ·intro P Ω hΩ hE hI hm args pr hs hp Q hQ
  unfold qhO at hs
  split at hs <;> subst hs <;> try (exact hp.elim)
  rename_i bs
  obtain ⟨hb, lb⟩ := hp ()
  refine ⟨1000, ?_⟩
  conv => cbv
  constructor
  ·intro h
   have h' : False := by (subst hΩ; have h2 := of_decide_eq_true h; change ((bs.length : Nat) : Int) > 128 at h2; omega); first | done | (subst hΩ; exact Bool.noConfusion (show false = true from h))
   contradiction
  intro _
  conv => cbv
  constructor
  ·exact fun _ _ => ⟨hb, by omega⟩
  intro n hn
  obtain ⟨nl, nc⟩ := n
  have hn : nl = natW (nV bs) /\ nl.length <= nc := by subst hΩ; exact hn
  have hsn : Ω.sub nl 0 (Ω.len nl) = nl := by
   rw [hΩ]; show (nl.drop 0).take nl.length = nl
   rw [List.drop_zero, List.take_length]
  conv at hsn => lhs; cbv
  conv => cbv
  have hn17 : nV bs < 18446744073709551616 ^ 17 := by
   refine Nat.lt_of_lt_of_le (qaO hb) ?_
   rw [show (18446744073709551616 : Nat) = 256 ^ 8 from rfl, <- Nat.pow_mul]
   exact Nat.pow_le_pow_right (by decide) (by omega)
  obtain ⟨nn, vn⟩ := nw 17 hn.1 hn17 (by decide)
  constructor
  ·exact fun _ => ⟨(by subst hΩ; show 0 + nl.length <= nl.length; omega), trivial⟩
  rw [hsn]
  have hl5 : nl.length < 500000 := by rw [hn.1]; exact Nat.lt_of_le_of_lt (qhB hn17) (by decide)
  constructor
  ·exact fun _ _ => ⟨nn.1, hl5⟩
  intro _ _
  conv => cbv
  refine hQ () _ _ _ trivial ?_
  subst hΩ
  refine ⟨⟨?_, ⟨rfl, rfl⟩, trivial⟩, rfl, rfl⟩
  show Pay.sc (wV nl % LN) = Pay.sc (nV bs % LN)
  rw [vn]
def qfB (Ω : Om) : qd := fun args => match args with
 | [.ab (.sc k)] => ⟨∀ _ : Unit, k < LN, List Int × Nat, fun z => z.1 = qK k 57 /\ z.1.length <= z.2, fun z => .fr .u8 z.1 z.2⟩
 | _ => PR.none
theorem qoy : Ctr Tryz.prog T glob 91 (qfB Om.real) := by
 refine qo T_ok qi qj (fun Ω => [(101, qfA Ω), (137, qhJ Ω)]) [] (fun Ω => []) [] (qb qox (qb qtv qg)) qh qe qf Tryz.func91 (by rfl) (by kernel_rfl) Tryz.call91 ?_ ?_
 ·intro args; unfold qfB; split
  ·exact qai ⟨trivial, trivial⟩ fun _ => qav _
  ·exact PR.good_none
 ·intro P Ω hΩ hE hI hm args pr hs hp Q hQ
  unfold qfB at hs
  split at hs <;> subst hs <;> try (exact hp.elim)
  rename_i k
  have hk := hp ()
  refine ⟨1000, ?_⟩
  conv => cbv
  constructor
  ·exact fun _ _ => hk
  intro n hn
  obtain ⟨nl, nc⟩ := n
  have hn : okSc k nl /\ nl.length <= nc := by subst hΩ; exact hn
  have hsn : Ω.sub nl 0 (Ω.len nl) = nl := by
   rw [hΩ]; show (nl.drop 0).take nl.length = nl
   rw [List.drop_zero, List.take_length]
  conv at hsn => lhs; cbv
  conv => cbv
  obtain ⟨nn, vn, ln, _⟩ := qou hn.1
  constructor
  ·exact fun _ => ⟨(by subst hΩ; show 0 + nl.length <= nl.length; omega), trivial, trivial⟩
  rw [hsn]
  constructor
  ·exact fun _ _ => ⟨⟨nn, by omega⟩, by decide, by rw [vn]; exact Nat.lt_trans hk (Nat.lt_trans qa7 qhK)⟩
  intro b hb
  obtain ⟨bl, bc⟩ := b
  have hb : bl = qK (wV nl) 57 /\ bl.length <= bc := by subst hΩ; exact hb
  have hsb : Ω.sub bl 0 (Ω.len bl) = bl := by
   rw [hΩ]; show (bl.drop 0).take bl.length = bl
   rw [List.drop_zero, List.take_length]
  conv at hsb => lhs; cbv
  conv => cbv
  rw [vn] at hb
  refine hQ (bl, bc) _ _ _ hb ?_
  subst hΩ
  exact ⟨rfl, rfl, (show 0 + bl.length <= bl.length by omega), hsb.symm⟩
def qhP (Ω : Om) : qd := fun args => match args with
 | [.ab (.sc a)] => ⟨∀ _ : Unit, a < LN, Unit, fun _ => True, fun _ => .ab (.sc (Ω.hide _ fun _ => (LN - a) % LN))⟩
 | _ => PR.none
theorem qtG : Ctr Tryz.prog T glob 92 (qhP Om.real) := by
 refine qo T_ok qi qj (fun Ω => [(138, qfz Ω), (101, qfA Ω), (141, qd4 Ω), (93, qd5 Ω)]) [] (fun Ω => []) [] (qb qow (qb qox (qb qj3 (qb qj6 qg)))) qh qe qf Tryz.func92 (by rfl) (by kernel_rfl) Tryz.call92 ?_ ?_
 ·intro args; unfold qhP; split
  ·exact qr (by repeat' constructor) (fun _ _ => rfl) (by repeat' constructor)
  ·exact PR.good_none
 ·intro P Ω hΩ hE hI hm args pr hs hp Q hQ
  unfold qhP at hs
  split at hs <;> subst hs <;> try (exact hp.elim)
  rename_i a
  have ka := hp ()
  refine ⟨1000, ?_⟩
  conv => cbv
  constructor
  ·exact fun (_ : Unit) => trivial
  intro l hl
  obtain ⟨ll, lc⟩ := l
  have hl : ll = natW LN /\ ll.length <= lc := by subst hΩ; exact hl
  have hsl : Ω.sub ll 0 (Ω.len ll) = ll := by
   rw [hΩ]; show (ll.drop 0).take ll.length = ll
   rw [List.drop_zero, List.take_length]
  conv at hsl => lhs; cbv
  conv => cbv
  obtain ⟨no', vo'⟩ := nwL hl.1
  constructor
  ·exact fun _ _ => ka
  intro n hn
  obtain ⟨nl, nc⟩ := n
  have hn : okSc a nl /\ nl.length <= nc := by subst hΩ; exact hn
  have hsn : Ω.sub nl 0 (Ω.len nl) = nl := by
   rw [hΩ]; show (nl.drop 0).take nl.length = nl
   rw [List.drop_zero, List.take_length]
  conv at hsn => lhs; cbv
  conv => cbv
  obtain ⟨nn, vn, ln, _⟩ := qou hn.1
  constructor
  ·exact fun _ => ⟨(by subst hΩ; show 0 + ll.length <= ll.length; omega), (by subst hΩ; show 0 + nl.length <= nl.length; omega), trivial⟩
  rw [hsl, hsn]
  constructor
  ·exact fun _ _ => ⟨no', ⟨nn, by omega⟩, by rw [vn, vo']; exact Nat.le_of_lt ka⟩
  intro s hs
  obtain ⟨sl, sc⟩ := s
  have hs : sl = natW (wV ll - wV nl) /\ sl.length <= sc := by subst hΩ; exact hs
  have hss : Ω.sub sl 0 (Ω.len sl) = sl := by
   rw [hΩ]; show (sl.drop 0).take sl.length = sl
   rw [List.drop_zero, List.take_length]
  conv at hss => lhs; cbv
  conv => cbv
  rw [vn, vo'] at hs
  have h7 : LN - a < 18446744073709551616 ^ 7 := Nat.lt_of_le_of_lt (Nat.sub_le _ _) (Nat.lt_trans qa7 qdj)
  obtain ⟨ns, vs⟩ := nw 7 hs.1 h7 (by decide)
  constructor
  ·exact fun _ => ⟨(by subst hΩ; show 0 + sl.length <= sl.length; omega), trivial⟩
  rw [hss]
  have hl5 : sl.length < 500000 := by rw [hs.1]; exact Nat.lt_of_le_of_lt (qhB h7) (by decide)
  constructor
  ·exact fun _ _ => ⟨ns.1, hl5⟩
  intro _ _
  conv => cbv
  refine hQ () _ _ _ trivial ?_
  subst hΩ
  show Pay.sc (wV sl % LN) = Pay.sc ((LN - a) % LN)
  rw [vs]
def scI (n : Int) : Nat := if 0 <= n then n.toNat % LN else (LN - (-n).toNat % LN) % LN
def qhQ (Ω : Om) : qd := fun args => match args with
 | [.int .i64 n] => ⟨∀ _ : Unit, -9223372036854775808 < n /\ n < 9223372036854775808, Unit, fun _ => True, fun _ => .ab (.sc (Ω.hide _ fun _ => scI n))⟩
 | _ => PR.none
theorem qtH : Ctr Tryz.prog T glob 32 (qhQ Om.real) := by
 refine qo T_ok qi qj (fun Ω => [(93, qd5 Ω), (92, qhP Ω)]) [] (fun Ω => []) [] (qb qj6 (qb qtG qg)) qh qe qf Tryz.func32 (by rfl) (by kernel_rfl) Tryz.call32 ?_ ?_
 ·intro args; unfold qhQ; split
  ·exact qr (by repeat' constructor) (fun _ _ => rfl) (by repeat' constructor)
  ·exact PR.good_none
 ·intro P Ω hΩ hE hI hm args pr hs hp Q hQ
  unfold qhQ at hs
  split at hs <;> subst hs <;> try (exact hp.elim)
  rename_i n
  obtain ⟨h0, h1⟩ := hp ()
  refine ⟨1000, ?_⟩
  conv => cbv
  constructor
  ·intro hc
   have hn : n < 0 := by subst hΩ; exact of_decide_eq_true hc
   obtain ⟨m, hm'⟩ : ∃ m, Ω.cv .u64 (Ω.un .neg .i64 n) = m := ⟨_, rfl⟩
   have em : m = -n := by
    rw [<- hm', hΩ]
    show IntKind.u64.wrap (unL .neg .i64 n) = -n
    rw [show unL .neg .i64 n = IntKind.i64.wrap (0 - n) from rfl]
    rw [qV (by omega) (by omega), qgg (by omega) (by omega)]; omega
   conv at hm' => lhs; cbv
   conv => cbv
   rw [hm']
   constructor
   ·exact fun _ => ⟨(show 0 + 1 <= 1 by decide), trivial⟩
   constructor
   ·exact fun _ _ => ⟨fun a ha => by rw [List.mem_singleton.1 ha]; omega, Nat.lt_of_lt_of_le (show 1 < 2 by decide) (by decide)⟩
   intro _ _
   conv => cbv
   constructor
   ·intro _ _; subst hΩ; exact Nat.mod_lt _ qaX
   intro _ _
   conv => cbv
   refine hQ () _ _ _ trivial ?_
   subst hΩ
   show Pay.sc ((LN - wV [m] % LN) % LN) = Pay.sc (scI n)
   unfold scI
   rw [if_neg (by omega), show wV [m] = (-n).toNat by rw [em]; show (-n).toNat + 18446744073709551616 * 0 = _; omega]
  ·intro hc
   have hn : ¬ n < 0 := by subst hΩ; exact of_decide_eq_false hc
   obtain ⟨m, hm'⟩ : ∃ m, Ω.cv .u64 n = m := ⟨_, rfl⟩
   have em : m = n := by
    rw [<- hm', hΩ]
    show IntKind.u64.wrap n = n
    rw [qgg (by omega) (by omega)]
   conv at hm' => lhs; cbv
   conv => cbv
   rw [hm']
   constructor
   ·exact fun _ => ⟨(show 0 + 1 <= 1 by decide), trivial⟩
   constructor
   ·exact fun _ _ => ⟨fun a ha => by rw [List.mem_singleton.1 ha]; omega, Nat.lt_of_lt_of_le (show 1 < 2 by decide) (by decide)⟩
   intro _ _
   conv => cbv
   refine hQ () _ _ _ trivial ?_
   subst hΩ
   show Pay.sc (wV [m] % LN) = Pay.sc (scI n)
   unfold scI
   rw [if_pos (by omega), show wV [m] = n.toNat by rw [em]; show n.toNat + 18446744073709551616 * 0 = _; omega]
end Go.Sx.Tryz
end
section
set_option maxHeartbeats 4000000
namespace Go.Sx.Tryz
open Go.Proofs
set_option maxRecDepth 40000
def qfC (Ω : Om) : qd := fun args => match args with
 | [.int .i64 i, .rop (.roi .u8 bs) (.l 0)] => ⟨∀ _ : Unit, (Byt bs /\ bs.length <= 1000) /\ 0 <= i, Unit, fun _ => True, fun _ => .int .i64 (Ω.hide _ fun _ => ((bitN (nV bs) i.toNat : Nat) : Int))⟩
 | _ => PR.none
theorem qoB : Ctr Tryz.prog T glob 179 (qfC Om.real) := by
 refine qo T_ok qi qj (fun Ω => []) [] (fun Ω => []) [] qg qh qe qf Tryz.func179 (by rfl) (by kernel_rfl) Tryz.call179 ?_ ?_
 ·intro args; unfold qfC; split
  ·exact qr (by repeat' constructor) (fun _ _ => rfl) (by repeat' constructor)
  ·exact PR.good_none
 ·intro P Ω hΩ hE hI hm args pr hs hp Q hQ
  unfold qfC at hs
  split at hs <;> subst hs <;> try (exact hp.elim)
  rename_i i bs
  obtain ⟨⟨hb, lb⟩, h0⟩ := hp ()
  refine ⟨1000, ?_⟩
  conv => cbv
  constructor
  ·intro hc
   have h1 : i >= 8 * (bs.length : Int) := by
    subst hΩ
    have h2 := of_decide_eq_true hc
    change i >= binL .mul .i64 8 ((bs.length : Nat) : Int) at h2
    rw [qaj (by omega) (by omega)] at h2; exact h2
   conv => cbv
   refine hQ () _ _ _ trivial ?_
   subst hΩ
   refine ⟨rfl, ?_⟩
   show (0 : Int) = ((bitN (nV bs) i.toNat : Nat) : Int)
   rw [qtK hb (by omega)]; rfl
  ·intro hc
   have h1 : ¬ i >= 8 * (bs.length : Int) := by
    subst hΩ
    have h2 := of_decide_eq_false hc
    change ¬ i >= binL .mul .i64 8 ((bs.length : Nat) : Int) at h2
    rw [qaj (by omega) (by omega)] at h2; exact h2
   obtain ⟨n, rfl⟩ : ∃ n : Nat, i = n := ⟨i.toNat, by omega⟩
   have hq8 : Ω.bin .quo .i64 (n : Int) 8 = ((n / 8 : Nat) : Int) := by subst hΩ; exact qa4 n 8 (by omega)
   obtain ⟨q, hq⟩ : ∃ q, Ω.bin .quo .i64 (n : Int) 8 = q := ⟨_, rfl⟩
   have eq : q = ((n / 8 : Nat) : Int) := hq.symm.trans hq8
   obtain ⟨r, hr⟩ : ∃ r, Ω.bin .rem .i64 (n : Int) 8 = r := ⟨_, rfl⟩
   have er : r = ((n % 8 : Nat) : Int) := by rw [<- hr, hΩ]; exact qcf n 8
   conv at hq => lhs; cbv
   conv at hr => lhs; cbv
   conv => cbv
   rw [hq]
   rw [hr]
   constructor
   ·exact fun _ => ⟨by omega, by subst hΩ; show q < ((bs.length : Nat) : Int); omega⟩
   constructor
   ·exact fun _ => by subst hΩ; show q.toNat + 1 <= bs.length; omega
   constructor
   ·exact fun _ => by omega
   refine hQ () _ _ _ trivial ?_
   subst hΩ
   refine ⟨rfl, ?_⟩
   show IntKind.i64.wrap (binL .and .u8 (binL .shr .u8 (bs.getD q.toNat 0) r) 1) = ((bitN (nV bs) n : Nat) : Int)
   rw [er, eq, Int.toNat_natCast]
   exact qtJ hb n
end Go.Sx.Tryz
end
section
set_option maxHeartbeats 4000000
namespace Go.Sx.Tryz
open Go.Proofs
set_option maxRecDepth 40000
def qhR (Ω : Om) : qd := fun args => match args with
 | [.roi .u8 bs, .int .i64 w] => ⟨∀ _ : Unit, (Byt bs /\ bs.length <= 64) /\ 1 <= w /\ w <= 8, List Int × Nat, fun z => z.1 = qaL (nV bs) w.toNat ((8 * bs.length + w.toNat - 1) / w.toNat) /\ z.1.length <= z.2, fun z => .tup [.fr .i64 z.1 z.2, .int .i64 0]⟩
 | _ => PR.none
noncomputable def qtN : List (FuncId × Func) := [(168, Tryz.f168), (175, Tryz.f175), (177, Tryz.f177), (176, Tryz.f176)]
theorem qtO : Ctr Tryz.prog T glob 169 (qhR Om.real) := by
 refine qo T_ok qi qj (fun Ω => [(179, qfC Ω)]) qtN (fun Ω => []) [] (qb qoB qg) (qG Tryz.call168 Tryz.func168 (by kernel_rfl) (qG Tryz.call175 Tryz.func175 (by kernel_rfl) (qG Tryz.call177 Tryz.func177 (by kernel_rfl) (qG Tryz.call176 Tryz.func176 (by kernel_rfl) qh)))) qe qf Tryz.func169 (by rfl) (by kernel_rfl) Tryz.call169 ?_ ?_
 ·intro args; unfold qhR; split
  ·exact qd3 ⟨trivial, trivial, trivial⟩ fun _ => qav _
  ·exact PR.good_none
 ·intro P Ω hΩ hE hI hm args pr hs hp Q hQ
  unfold qhR at hs
  split at hs <;> subst hs <;> try (exact hp.elim)
  rename_i bs w
  obtain ⟨⟨hb, lb⟩, w0, w1⟩ := hp ()
  refine ⟨1000, ?_⟩
  conv => cbv
  obtain ⟨W, eW⟩ : ∃ W : Nat, w = (W : Int) := ⟨w.toNat, by omega⟩
  have eW2 : w.toNat = W := by omega
  obtain ⟨N, eN⟩ : ∃ N : Nat, N = (8 * bs.length + W - 1) / W := ⟨_, rfl⟩
  have hNl : N <= 8 * bs.length + W - 1 := by rw [eN]; exact Nat.div_le_self _ _
  obtain ⟨K, hK⟩ : ∃ K, Ω.bin .quo .i64 (Ω.bin .sub .i64 (Ω.bin .add .i64 (Ω.bin .mul .i64 8 (Ω.ofN (Ω.len bs))) w) 1) w = K := ⟨_, rfl⟩
  have eK : K = (N : Int) := by
   rw [<- hK, hΩ, eN, eW]
   show binL .quo .i64 (binL .sub .i64 (binL .add .i64 (binL .mul .i64 8 ((bs.length : Nat) : Int)) W) 1) W = _
   rw [qaj (by omega) (by omega), qu (by omega) (by omega), qx (by omega) (by omega), show 8 * ((bs.length : Nat) : Int) + W - 1 = ((8 * bs.length + W - 1 : Nat) : Int) by omega, qa4 _ _ (by omega)]
  rw [eW2, <- eN] at hQ
  conv at hK => lhs; cbv
  conv => cbv
  constructor
  ·intro h
   have h' : False := by (subst hΩ; have h2 := of_decide_eq_true h; change ((bs.length : Nat) : Int) > 64 at h2; omega); first | done | (subst hΩ; exact Bool.noConfusion (show false = true from h))
   contradiction
  intro _
  conv => cbv
  refine q9 hE hI hm (n := 1000) ?_
  conv => cbv
  constructor
  ·intro h
   have h' : False := by (subst hΩ; have h2 := of_decide_eq_true h; change w < 1 at h2; omega); first | done | (subst hΩ; exact Bool.noConfusion (show false = true from h))
   contradiction
  intro _
  conv => cbv
  constructor
  ·intro h
   have h' : False := by (subst hΩ; have h2 := of_decide_eq_true h; change w > 8 at h2; omega); first | done | (subst hΩ; exact Bool.noConfusion (show false = true from h))
   contradiction
  intro _
  conv => cbv
  refine q9 hE hI hm (n := 1000) ?_
  conv => cbv
  constructor
  ·exact fun _ => by omega
  rw [hK]
  refine qv hE hI hm (fun z : Nat × List Int × Nat => (mkT 36 [(0, .roi .u8 bs), (1, .int .i64 w), (4, .val (.slice none 0 0)), (5, .lit .i64 0), (7, .fn 179 [] [.ptr 272 (.l 0)]), (8, .sl 424 1 (.l 0) (.s (Ω.len z.2.1)) (.s z.2.2)), (21, .int .i64 K), (22, .int .i64 z.1)], [(424, .seq .i64 z.2.1), (272, .roi .u8 bs)])) (fun z => z.1 <= N /\ z.2.1 = qaL (nV bs) W z.1 /\ z.2.1.length <= z.2.2) (fun z => N - z.1) 1 ⟨(0, [], 0), [none], ⟨Nat.zero_le _, rfl, Nat.le_refl _⟩, by show 1 <= 8 * 1; decide, ?_⟩ fun z hz => ⟨1000, ?_⟩
  ·conv => cbv
   exact ⟨by rw [hΩ]; rfl, rfl, trivial⟩
  obtain ⟨i, l, cap⟩ := z
  obtain ⟨hi, hl, hcap⟩ : i <= N /\ l = qaL (nV bs) W i /\ l.length <= cap := hz
  conv => cbv
  constructor
  ·intro hc
   have hlt : (i : Int) < K := by subst hΩ; exact of_decide_eq_true hc
   obtain ⟨f, hf⟩ : ∃ f, Ω.bin .mul .i64 (Int.ofNat i) w = f := ⟨_, rfl⟩
   obtain ⟨F, eF⟩ : ∃ F : Nat, F = W * i := ⟨_, rfl⟩
   have hF8 : W * i <= 8 * i := Nat.mul_le_mul_right _ (by omega)
   have ef : f = (F : Int) := by
    rw [<- hf, hΩ, eF, eW]
    show binL .mul .i64 (i : Int) (W : Int) = _
    have h1 : (i : Int) * (W : Int) = ((W * i : Nat) : Int) := by rw [Nat.mul_comm]; rfl
    rw [qaj (by omega) (by omega), h1]
   conv at hf => lhs; cbv
   conv => cbv
   rw [hf]
   refine qv hE hI hm (fun z : Nat × Int => (mkT 28 [(0, .fn 179 [] [.ptr 272 (.l 0)]), (1, .int .i64 f), (2, .lit .i64 1), (3, .int .i64 w), (8, .lit .i64 0), (9, .int .i64 z.2), (11, .int .i64 w), (12, .int .i64 z.1)], [(424, .seq .i64 l), (272, .roi .u8 bs)])) (fun z => z.1 <= W /\ z.2 = ((nV bs / 2 ^ F % 2 ^ z.1 : Nat) : Int)) (fun z => W - z.1) 0 ⟨(0, 0), [], ⟨Nat.zero_le _, by show (0 : Int) = ((nV bs / 2 ^ F % 2 ^ 0 : Nat) : Int); rw [Nat.pow_zero, Nat.mod_one]; rfl⟩, Nat.zero_le _, ?_⟩ fun z hz => ⟨1000, ?_⟩
   ·conv => cbv
    trivial
   obtain ⟨k, n⟩ := z
   obtain ⟨hk, hn⟩ : k <= W /\ n = ((nV bs / 2 ^ F % 2 ^ k : Nat) : Int) := hz
   conv => cbv
   constructor
   ·intro hc2
    have hlt2 : (k : Int) < w := by subst hΩ; exact of_decide_eq_true hc2
    obtain ⟨p, hp2⟩ : ∃ p, Ω.bin .add .i64 f (Ω.bin .mul .i64 (Int.ofNat k) 1) = p := ⟨_, rfl⟩
    have ep : p = ((F + k : Nat) : Int) := by
     rw [<- hp2, hΩ, ef]
     show binL .add .i64 (F : Int) (binL .mul .i64 (k : Int) 1) = _
     rw [qaj (by omega) (by omega), qu (by omega) (by omega)]; omega
    obtain ⟨k2, hk2⟩ : ∃ k2, Ω.bin .add .i64 (Int.ofNat k) 1 = k2 := ⟨_, rfl⟩
    have ek2 : k2 = ((k + 1 : Nat) : Int) := by
     rw [<- hk2, hΩ]
     show binL .add .i64 (k : Int) 1 = _
     rw [qu (by omega) (by omega)]; omega
    obtain ⟨n2, hn2⟩ : ∃ n2 : Int, ((nV bs / 2 ^ F % 2 ^ (k + 1) : Nat) : Int) = n2 := ⟨_, rfl⟩
    have hst := qoA (nV bs) F (show k < 16 by omega)
    rw [hn2, <- hn] at hst
    conv at hp2 => lhs; cbv
    conv at hk2 => lhs; cbv
    conv => cbv
    rw [hp2]
    constructor
    ·exact fun _ _ => ⟨⟨hb, by omega⟩, by omega⟩
    intro _ _
    conv => cbv
    rw [hk2]
    constructor
    ·exact fun _ => Int.natCast_nonneg k
    refine ⟨(k + 1, n2), [], ⟨by show k + 1 <= W; omega, hn2.symm⟩, by show W - (k + 1) < W - k; omega, Nat.zero_le _, ?_⟩
    conv => cbv
    refine ⟨?_, ek2, trivial⟩
    rw [<- hst, hΩ, ep]
    rfl
   ·intro hc2
    have hge : ¬ (k : Int) < w := by subst hΩ; exact of_decide_eq_false hc2
    have hkW : k = W := by omega
    rw [hkW] at hn
    have hll : l.length = i := by rw [hl, qfD]
    obtain ⟨l2, hl2⟩ : ∃ l2, l ++ [n] = l2 := ⟨_, rfl⟩
    have el2 : l2 = qaL (nV bs) W (i + 1) := by rw [<- hl2, qtL, hl, hn, eF]
    have hl2l : l2.length = i + 1 := by rw [el2, qfD]
    obtain ⟨i2, hi2⟩ : ∃ i2, Ω.bin .add .i64 (Int.ofNat i) 1 = i2 := ⟨_, rfl⟩
    have ei2 : i2 = ((i + 1 : Nat) : Int) := by
     rw [<- hi2, hΩ]
     show binL .add .i64 (i : Int) 1 = _
     rw [qu (by omega) (by omega)]; omega
    have hcat : Ω.cat (Ω.sub l 0 (Ω.len l)) [n] = l2 := by
     rw [hΩ]; show (l.drop 0).take l.length ++ [n] = l2
     rw [List.drop_zero, List.take_length]; exact hl2
    have hlen2 : Ω.nadd (Ω.len l) 1 = Ω.len l2 := by rw [hΩ]; show l.length + 1 = l2.length; omega
    conv at hi2 => lhs; cbv
    conv at hcat => lhs; cbv
    conv at hlen2 => lhs; cbv
    conv at hlen2 => rhs; cbv
    conv => cbv
    constructor
    ·exact fun _ => by subst hΩ; show (l.length + 1) * 8 <= 140737488355328; omega
    constructor
    ·exact fun _ => by subst hΩ; exact ⟨(show 0 + l.length * 1 <= l.length by omega), (show 0 + 1 * 1 <= 1 by decide)⟩
    intro cap2 hcap2
    have hcap3 : l2.length <= cap2 := by
     subst hΩ
     have h : l.length + 1 <= cap2 := hcap2
     omega
    conv => cbv
    rw [hcat, hi2]
    rw [hlen2]
    refine ⟨(i + 1, l2, cap2), [some 520], ⟨by show i + 1 <= N; omega, el2, hcap3⟩, by show N - (i + 1) < N - i; omega, by show 1 <= 8 * 1; decide, ?_⟩
    conv => cbv
    exact ⟨ei2, trivial⟩
  ·intro hc
   have hge : ¬ (i : Int) < K := by subst hΩ; exact of_decide_eq_false hc
   have hiN : i = N := by omega
   rw [hiN] at hl
   have hsl : Ω.sub l 0 (Ω.len l) = l := by
    rw [hΩ]; show (l.drop 0).take l.length = l
    rw [List.drop_zero, List.take_length]
   conv => cbv
   refine hQ (l, cap) _ _ _ ⟨hl, hcap⟩ ?_
   rw [hΩ] at hsl
   subst hΩ
   exact ⟨⟨⟨rfl, rfl, (show 0 + l.length <= l.length by omega), hsl.symm⟩, ⟨rfl, rfl⟩, trivial⟩, rfl, rfl⟩
end Go.Sx.Tryz
end
section
set_option maxHeartbeats 4000000
namespace Go.Sx.Tryz
open Go.Proofs
set_option maxRecDepth 40000
theorem v16 {bs : List Int} (h : Byt bs) : nV bs < 16 ^ (2 * bs.length) := by
 have := qaO h
 rw [Nat.pow_mul]
 exact this
def qhS (Ω : Om) : qd := fun args => match args with
 | [.roi .u8 bs, .int .i64 w] => ⟨∀ _ : Unit, (Byt bs /\ bs.length <= 64) /\ w = 4, List Int × Nat, fun z => (z.1.length = 2 * bs.length + 1 /\ Sg z.1 /\ valB 16 z.1 = ((nV bs : Nat) : Int)) /\ z.1.length <= z.2, fun z => .tup [.fr .i64 z.1 z.2, .int .i64 0]⟩
 | _ => PR.none
noncomputable def qtP : List (FuncId × Func) := [(168, Tryz.f168)]
theorem qtQ : Ctr Tryz.prog T glob 133 (qhS Om.real) := by
 refine qo T_ok qi qj (fun Ω => [(169, qhR Ω)]) qtP (fun Ω => []) [] (qb qtO qg) (qG Tryz.call168 Tryz.func168 (by kernel_rfl) qh) qe qf Tryz.func133 (by rfl) (by kernel_rfl) Tryz.call133 ?_ ?_
 ·intro args; unfold qhS; split
  ·exact qd3 ⟨trivial, trivial, trivial⟩ fun h => by obtain ⟨l, h1, h2, h3⟩ := qoC (2 * _) (nV _) 0 (v16 (h ()).1.1) (.inl rfl); exact ⟨(l, l.length), ⟨h1, h2, h3.trans (Int.add_zero _)⟩, Nat.le_refl _⟩
  ·exact PR.good_none
 ·intro P Ω hΩ hE hI hm args pr hs hp Q hQ
  unfold qhS at hs
  split at hs <;> subst hs <;> try (exact hp.elim)
  rename_i bs w
  obtain ⟨⟨hb, lb⟩, hw⟩ := hp ()
  obtain ⟨N, eN⟩ : ∃ N, N = 2 * bs.length := ⟨_, rfl⟩
  have hV := v16 hb
  rw [<- eN] at hQ hV
  refine ⟨1000, ?_⟩
  conv => cbv
  constructor
  ·intro h
   have h' : False := by (subst hΩ; have h2 := of_decide_eq_true h; change ((bs.length : Nat) : Int) > 64 at h2; omega); first | done | (subst hΩ; exact Bool.noConfusion (show false = true from h))
   contradiction
  intro _
  conv => cbv
  refine q9 hE hI hm (n := 1000) ?_
  conv => cbv
  constructor
  ·intro h
   have h' : False := by (subst hΩ; have h2 := of_decide_eq_true h; change w < 2 at h2; omega); first | done | (subst hΩ; exact Bool.noConfusion (show false = true from h))
   contradiction
  intro _
  conv => cbv
  constructor
  ·intro h
   have h' : False := by (subst hΩ; have h2 := of_decide_eq_true h; change w > 8 at h2; omega); first | done | (subst hΩ; exact Bool.noConfusion (show false = true from h))
   contradiction
  intro _
  conv => cbv
  refine q9 hE hI hm (n := 1000) ?_
  conv => cbv
  constructor
  ·exact fun _ _ => ⟨⟨hb, lb⟩, by omega, by omega⟩
  intro z hz
  obtain ⟨zl, zc⟩ := z
  have hz : zl = qaL (nV bs) 4 N /\ zl.length <= zc := by
   subst hΩ
   have h : zl = qaL (nV bs) w.toNat ((8 * bs.length + w.toNat - 1) / w.toNat) /\ zl.length <= zc := hz
   rw [hw] at h
   refine ⟨h.1.trans ?_, h.2⟩
   show qaL (nV bs) 4 ((8 * bs.length + 4 - 1) / 4) = qaL (nV bs) 4 N
   congr 1; omega
  have hzl : zl.length = N := by rw [hz.1, qfD]
  obtain ⟨K, hK⟩ : ∃ K, Ω.ofN (Ω.len zl) = K := ⟨_, rfl⟩
  have eK : K = (N : Int) := by rw [<- hK, hΩ]; show ((zl.length : Nat) : Int) = _; omega
  conv at hK => lhs; cbv
  conv => cbv
  constructor
  ·intro h
   have h' : False := by (subst hΩ; exact absurd h (by decide)); first | done | (subst hΩ; exact Bool.noConfusion (show false = true from h))
   contradiction
  intro _
  conv => cbv
  rw [hK]
  refine qv hE hI hm (fun z : Nat × Int × List Int => (mkT 63 [(0, .roi .u8 bs), (1, .int .i64 w), (4, .val (.slice none 0 0)), (5, .lit .i64 0), (7, .sl 264 1 (.l 0) (.s (Ω.len zl)) (.s zc)), (9, .int .i64 z.2.1), (28, .int .i64 K), (29, .int .i64 z.1)], [(264, .seq .i64 z.2.2)])) (fun z => z.1 <= N /\ Sgs (nV bs) N z.1 z.2.1 z.2.2) (fun z => N - z.1) 0 ⟨(0, 0, zl), [], ⟨Nat.zero_le _, by rw [hz.1]; exact Sgs.start⟩, Nat.zero_le _, ?_⟩ fun z hz2 => ⟨1000, ?_⟩
  ·conv => cbv
   trivial
  obtain ⟨i, o, l⟩ := z
  obtain ⟨hi, hS⟩ : i <= N /\ Sgs (nV bs) N i o l := hz2
  conv => cbv
  constructor
  ·intro hc
   have hlt : (i : Int) < K := by subst hΩ; exact of_decide_eq_true hc
   obtain ⟨d, hd'⟩ : ∃ d, Ω.at' l (Ω.toN (Int.ofNat i)) = d := ⟨_, rfl⟩
   have ed : d = l.getD i 0 := by rw [<- hd', hΩ]; rfl
   obtain ⟨t, ht⟩ : ∃ t, Ω.bin .add .i64 d o = t := ⟨_, rfl⟩
   obtain ⟨l1, hl1⟩ : ∃ l1, Ω.set l (Ω.toN (Int.ofNat i)) t = l1 := ⟨_, rfl⟩
   obtain ⟨t1, ht1⟩ : ∃ t1, Ω.at' l1 (Ω.toN (Int.ofNat i)) = t1 := ⟨_, rfl⟩
   obtain ⟨o1, ho1⟩ : ∃ o1, Ω.bin .quo .i64 (Ω.bin .add .i64 (Ω.bin .shr .i64 t1 (Ω.bin .sub .i64 w 1)) 1) 2 = o1 := ⟨_, rfl⟩
   obtain ⟨t2, ht2⟩ : ∃ t2, Ω.bin .sub .i64 t1 (Ω.bin .shl .i64 o1 w) = t2 := ⟨_, rfl⟩
   obtain ⟨l2, hl2⟩ : ∃ l2, Ω.set l1 (Ω.toN (Int.ofNat i)) t2 = l2 := ⟨_, rfl⟩
   obtain ⟨i2, hi2⟩ : ∃ i2, Ω.bin .add .i64 (Int.ofNat i) 1 = i2 := ⟨_, rfl⟩
   have ei2 : i2 = ((i + 1 : Nat) : Int) := by
    rw [<- hi2, hΩ]
    show binL .add .i64 (i : Int) 1 = _
    rw [qu (by omega) (by omega)]; omega
   have hov := hS.ov
   have hst0 := hS.step (o' := ((l.getD i 0 + o) / 8 + 1) / 2) (by omega) rfl
   obtain ⟨hdr, hor, hst⟩ := hst0
   rw [<- ed] at hdr hst hor
   have hll := hS.len
   have et : t = d + o := by rw [<- ht, hΩ]; exact qu (by omega) (by omega)
   have el1 : l1 = l.set i t := by rw [<- hl1, hΩ]; rfl
   have et1 : t1 = t := by
    rw [<- ht1, hΩ, el1]
    show (l.set i t).getD i 0 = t
    rw [qab (by omega), if_pos rfl]
   have eo1 : o1 = ((d + o) / 8 + 1) / 2 := by
    rw [<- ho1, hΩ, et1, et, hw]
    show binL .quo .i64 (binL .add .i64 (binL .shr .i64 (d + o) (binL .sub .i64 4 1)) 1) 2 = _
    rw [qx (by omega) (by omega), show (4 : Int) - 1 = ((3 : Nat) : Int) from rfl, qoz _ (by decide), show ((2 ^ 3 : Nat) : Int) = 8 from rfl, qu (by omega) (by omega)]
    have e : (d + o) / 8 + 1 = (((d + o) / 8 + 1).toNat : Int) := by omega
    rw [e]
    exact qa4 _ 2 (by omega)
   have et2 : t2 = d + o - o1 * 16 := by
    rw [<- ht2, hΩ, et1, et, hw]
    show binL .sub .i64 (d + o) (binL .shl .i64 o1 4) = _
    have e : o1 = ((o1.toNat : Nat) : Int) := by omega
    rw [e, show (4 : Int) = ((4 : Nat) : Int) from rfl, qj7 (by decide) (by omega), qx (by omega) (by omega)]
    omega
   have el2 : l2 = l.set i (d + o - o1 * 16) := by
    rw [<- hl2, hΩ, el1, et2]
    show (l.set i t).set i _ = _
    rw [List.set_set]
   rw [<- eo1, <- el2] at hst
   have hst3 : Sgs (nV bs) N (i + 1) o1 l2 := hst
   have hll1 : l1.length = N := by rw [el1, List.length_set]; exact hll
   conv at hi2 => lhs; cbv
   conv at hd' => lhs; cbv
   conv at ht => lhs; cbv
   conv at hl1 => lhs; cbv
   conv at ht1 => lhs; cbv
   conv at ho1 => lhs; cbv
   conv at ht2 => lhs; cbv
   conv at hl2 => lhs; cbv
   conv => cbv
   rw [hd', ht, hl1]
   rw [ht1]
   rw [ho1]
   rw [ht2]
   rw [hl2, hi2]
   constructor
   ·exact fun _ => ⟨Int.natCast_nonneg i, by rw [hΩ]; show (i : Int) < ((zl.length : Nat) : Int); omega⟩
   constructor
   ·exact fun _ => by rw [hΩ]; show i + 1 <= l.length; omega
   constructor
   ·exact fun _ => ⟨Int.natCast_nonneg i, by rw [hΩ]; show (i : Int) < ((zl.length : Nat) : Int); omega⟩
   constructor
   ·exact fun _ => by rw [hΩ]; show i < l.length; omega
   constructor
   ·exact fun _ => ⟨Int.natCast_nonneg i, by rw [hΩ]; show (i : Int) < ((zl.length : Nat) : Int); omega⟩
   constructor
   ·exact fun _ => by rw [hΩ]; show i + 1 <= l1.length; omega
   constructor
   ·exact fun _ => by rw [hΩ]; show 0 <= binL .sub .i64 w 1; rw [qx (by omega) (by omega)]; omega
   constructor
   ·exact fun _ => ⟨Int.natCast_nonneg i, by rw [hΩ]; show (i : Int) < ((zl.length : Nat) : Int); omega⟩
   constructor
   ·exact fun _ => by rw [hΩ]; show i + 1 <= l1.length; omega
   constructor
   ·exact fun _ => by omega
   constructor
   ·exact fun _ => ⟨Int.natCast_nonneg i, by rw [hΩ]; show (i : Int) < ((zl.length : Nat) : Int); omega⟩
   constructor
   ·exact fun _ => by rw [hΩ]; show i < l1.length; omega
   refine ⟨(i + 1, o1, l2), [], ⟨by show i + 1 <= N; omega, hst3⟩, by show N - (i + 1) < N - i; omega, Nat.zero_le _, ?_⟩
   conv => cbv
   exact ⟨ei2, trivial⟩
  ·intro hc
   have hge : ¬ (i : Int) < K := by subst hΩ; exact of_decide_eq_false hc
   have hiN : i = N := by omega
   subst hiN
   obtain ⟨f1, f2, f3⟩ := hS.done hV
   have hll := hS.len
   conv => cbv
   constructor
   ·exact fun _ => by subst hΩ; show (zl.length + 1) * 8 <= 140737488355328; omega
   constructor
   ·exact fun _ => by subst hΩ; exact ⟨(show 0 + zl.length * 1 <= l.length by omega), (show 0 + 1 * 1 <= 1 by decide)⟩
   intro cap2 hcap2
   have hcap3 : i + 1 <= cap2 := by
    subst hΩ
    have h : zl.length + 1 <= cap2 := hcap2
    omega
   conv => cbv
   refine hQ (l ++ [o], cap2) _ _ _ ⟨⟨f3, f2, f1⟩, by show (l ++ [o]).length <= cap2; rw [f3]; exact hcap3⟩ ?_
   subst hΩ
   have hsub : (l.drop 0).take zl.length = l := by rw [List.drop_zero, List.take_of_length_le (by omega)]
   refine ⟨⟨⟨rfl, rfl, ?_, ?_⟩, ⟨rfl, rfl⟩, trivial⟩, rfl, rfl⟩
   ·show 0 + (zl.length + 1) <= ((l.drop 0).take zl.length ++ [o]).length
    rw [hsub, f3]; omega
   ·show l ++ [o] = (((l.drop 0).take zl.length ++ [o]).drop 0).take (zl.length + 1)
    rw [hsub, List.drop_zero, List.take_of_length_le (by omega)]
end Go.Sx.Tryz
end
section
set_option maxHeartbeats 4000000
namespace Go.Sx.Tryz
open Go.Proofs
set_option maxRecDepth 40000
def qhT (Ω : Om) : qd := fun args => match args with
 | [.roi .u8 bs, .int .i64 w] => ⟨∀ _ : Unit, (Byt bs /\ bs.length <= 64) /\ w = 5, List Int × Nat, fun z => (z.1.length = 8 * bs.length + 1 /\ (∀ d ∈ z.1, Nd d) /\ valB 2 z.1 = ((nV bs : Nat) : Int)) /\ z.1.length <= z.2, fun z => .tup [.fr .i64 z.1 z.2, .int .i64 0]⟩
 | _ => PR.none
noncomputable def qtS : List (FuncId × Func) := [(168, Tryz.f168), (175, Tryz.f175), (176, Tryz.f176)]
theorem qtT : Ctr Tryz.prog T glob 149 (qhT Om.real) := by
 refine qo T_ok qi qj (fun Ω => [(179, qfC Ω)]) qtS (fun Ω => []) [] (qb qoB qg) (qG Tryz.call168 Tryz.func168 (by kernel_rfl) (qG Tryz.call175 Tryz.func175 (by kernel_rfl) (qG Tryz.call176 Tryz.func176 (by kernel_rfl) qh))) qe qf Tryz.func149 (by rfl) (by kernel_rfl) Tryz.call149 ?_ ?_
 ·intro args; unfold qhT; split
  ·exact qd3 ⟨trivial, trivial, trivial⟩ fun h => by obtain ⟨l, h1, h2, h3⟩ := qoD (8 * _ + 1) (nV _) (Nat.lt_of_lt_of_le (qdV (h ()).1.1) (Nat.pow_le_pow_right (by decide) (Nat.le_succ _))); exact ⟨(l, l.length), ⟨h1, h2, h3⟩, Nat.le_refl _⟩
  ·exact PR.good_none
 ·intro P Ω hΩ hE hI hm args pr hs hp Q hQ
  unfold qhT at hs
  split at hs <;> subst hs <;> try (exact hp.elim)
  rename_i bs w
  obtain ⟨⟨hb, lb⟩, hw⟩ := hp ()
  obtain ⟨M, eM0⟩ : ∃ M, M = 8 * bs.length + 1 := ⟨_, rfl⟩
  have hV : nV bs < 2 ^ (M - 1) := by rw [eM0]; exact qdV hb
  rw [<- eM0] at hQ
  refine ⟨1000, ?_⟩
  obtain ⟨m, hm'⟩ : ∃ m : Int, Ω.bin .add .i64 (Ω.bin .mul .i64 8 (Ω.ofN (Ω.len bs))) 1 = m := ⟨_, rfl⟩
  have em : m = (M : Int) := by
   rw [<- hm', hΩ, eM0]
   show binL .add .i64 (binL .mul .i64 8 ((bs.length : Nat) : Int)) 1 = _
   rw [qaj (by omega) (by omega), qu (by omega) (by omega)]; omega
  have hN : Ω.toN m = M := by
   rw [em, hΩ]
   show ((M : Nat) : Int).toNat = M
   omega
  obtain ⟨u0, hu0⟩ : ∃ u0, Ω.zer M = u0 := ⟨_, rfl⟩
  have eu0 : u0 = List.replicate M 0 := by rw [<- hu0]; subst hΩ; rfl
  conv at hm' => lhs; cbv
  conv at hN => lhs; cbv
  conv at hu0 => lhs; cbv
  conv => cbv
  constructor
  ·intro h
   have h' : False := by (subst hΩ; have h2 := of_decide_eq_true h; change ((bs.length : Nat) : Int) > 64 at h2; omega); first | done | (subst hΩ; exact Bool.noConfusion (show false = true from h))
   contradiction
  intro _
  conv => cbv
  refine q9 hE hI hm (n := 1000) ?_
  conv => cbv
  constructor
  ·intro h
   have h' : False := by (subst hΩ; have h2 := of_decide_eq_true h; change w < 2 at h2; omega); first | done | (subst hΩ; exact Bool.noConfusion (show false = true from h))
   contradiction
  intro _
  conv => cbv
  constructor
  ·intro h
   have h' : False := by (subst hΩ; have h2 := of_decide_eq_true h; change w > 8 at h2; omega); first | done | (subst hΩ; exact Bool.noConfusion (show false = true from h))
   contradiction
  intro _
  conv => cbv
  refine q9 hE hI hm (n := 1000) ?_
  conv => cbv
  rw [hm']
  rw [hN]
  rw [hu0]
  constructor
  ·intro _
   show 0 <= m /\ m = m /\ 8 * m.toNat <= 140737488355328 /\ m <= 140737488355328
   omega
  refine qv hE hI hm (fun z : Nat × Int × List Int => (mkT 61 [(0, .roi .u8 bs), (1, .int .i64 w), (4, .val (.slice none 0 0)), (5, .lit .i64 0), (7, .fn 179 [] [.ptr 272 (.l 0)]), (8, .sl 336 1 (.l 0) (.s M) (.s M)), (9, .int .i64 z.2.1), (10, .int .i64 z.1)], [(336, .seq .i64 z.2.2), (272, .roi .u8 bs)])) (fun z => z.1 <= M + 4 /\ Nf (nV bs) M z.1 z.2.1 z.2.2) (fun z => M + 5 - z.1) 0 ⟨(0, 0, u0), [], ⟨Nat.zero_le _, by rw [eu0]; exact Nf.start⟩, Nat.zero_le _, ?_⟩ fun z hz => ⟨1000, ?_⟩
  ·conv => cbv
   trivial
  obtain ⟨i, o, u⟩ := z
  obtain ⟨hi, hS⟩ : i <= M + 4 /\ Nf (nV bs) M i o u := hz
  conv => cbv
  constructor
  ·intro hc
   have hlt : (i : Int) < (M : Int) := by subst hΩ; exact of_decide_eq_true hc
   have hov := hS.ov
   have hbl := qbT (nV bs) i
   have hul := hS.len
   conv => cbv
   constructor
   ·exact fun _ _ => ⟨⟨hb, by omega⟩, Int.natCast_nonneg i⟩
   intro _ _
   conv => cbv
   constructor
   ·intro hc2
    have he : (bitN (nV bs) i : Int) + o = 0 \/ (bitN (nV bs) i : Int) + o = 2 := by
     subst hΩ
     have h2 : binL .and .i64 (binL .add .i64 ((bitN (nV bs) i : Nat) : Int) o) 1 = 0 := eq_of_beq hc2
     rw [qu (by omega) (by omega), qoF (by omega) (by omega)] at h2
     omega
    have hst := hS.skip hV (by omega) he
    obtain ⟨i2, hi2⟩ : ∃ i2, Ω.bin .add .i64 (Int.ofNat i) 1 = i2 := ⟨_, rfl⟩
    have ei2 : i2 = ((i + 1 : Nat) : Int) := by
     rw [<- hi2, hΩ]
     show binL .add .i64 (i : Int) 1 = _
     rw [qu (by omega) (by omega)]; omega
    conv at hi2 => lhs; cbv
    conv => cbv
    rw [hi2]
    refine ⟨(i + 1, o, u), [], ⟨by show i + 1 <= M + 4; omega, hst⟩, by show M + 5 - (i + 1) < M + 5 - i; omega, Nat.zero_le _, ?_⟩
    conv => cbv
    exact ⟨ei2, trivial⟩
   ·intro hc2
    have he : (bitN (nV bs) i : Int) + o = 1 := by
     subst hΩ
     have h2 : binL .and .i64 (binL .add .i64 ((bitN (nV bs) i : Nat) : Int) o) 1 ≠ 0 := ne_of_beq_false hc2
     rw [qu (by omega) (by omega), qoF (by omega) (by omega)] at h2
     omega
    obtain ⟨f, hf⟩ : ∃ f, Int.ofNat i = f := ⟨_, rfl⟩
    have ef : f = (i : Int) := hf.symm
    conv => cbv
    refine qv hE hI hm (fun z : Nat × Int => (mkT 28 [(0, .fn 179 [] [.ptr 272 (.l 0)]), (1, .int .i64 (Int.ofNat i)), (2, .lit .i64 1), (3, .int .i64 w), (8, .lit .i64 0), (9, .int .i64 z.2), (11, .int .i64 w), (12, .int .i64 z.1)], [(336, .seq .i64 u), (272, .roi .u8 bs)])) (fun z => z.1 <= 5 /\ z.2 = ((nV bs / 2 ^ i % 2 ^ z.1 : Nat) : Int)) (fun z => 5 - z.1) 0 ⟨(0, 0), [], ⟨Nat.zero_le _, by show (0 : Int) = ((nV bs / 2 ^ i % 2 ^ 0 : Nat) : Int); rw [Nat.pow_zero, Nat.mod_one]; rfl⟩, Nat.zero_le _, ?_⟩ fun z hz => ⟨1000, ?_⟩
    ·conv => cbv
     trivial
    obtain ⟨k, n⟩ := z
    obtain ⟨hk, hn⟩ : k <= 5 /\ n = ((nV bs / 2 ^ i % 2 ^ k : Nat) : Int) := hz
    conv => cbv
    constructor
    ·intro hc2
     have hlt2 : (k : Int) < w := by subst hΩ; exact of_decide_eq_true hc2
     obtain ⟨p, hp2⟩ : ∃ p, Ω.bin .add .i64 (Int.ofNat i) (Ω.bin .mul .i64 (Int.ofNat k) 1) = p := ⟨_, rfl⟩
     have ep : p = ((i + k : Nat) : Int) := by
      rw [<- hp2, hΩ]
      show binL .add .i64 (i : Int) (binL .mul .i64 (k : Int) 1) = _
      rw [qaj (by omega) (by omega), qu (by omega) (by omega)]; omega
     obtain ⟨k2, hk2⟩ : ∃ k2, Ω.bin .add .i64 (Int.ofNat k) 1 = k2 := ⟨_, rfl⟩
     have ek2 : k2 = ((k + 1 : Nat) : Int) := by
      rw [<- hk2, hΩ]
      show binL .add .i64 (k : Int) 1 = _
      rw [qu (by omega) (by omega)]; omega
     obtain ⟨n2, hn2⟩ : ∃ n2 : Int, ((nV bs / 2 ^ i % 2 ^ (k + 1) : Nat) : Int) = n2 := ⟨_, rfl⟩
     have hst := qoA (nV bs) i (show k < 16 by omega)
     rw [hn2, <- hn] at hst
     conv at hp2 => lhs; cbv
     conv at hk2 => lhs; cbv
     conv => cbv
     rw [hp2]
     constructor
     ·exact fun _ _ => ⟨⟨hb, by omega⟩, by omega⟩
     intro _ _
     conv => cbv
     rw [hk2]
     constructor
     ·exact fun _ => Int.natCast_nonneg k
     refine ⟨(k + 1, n2), [], ⟨by show k + 1 <= 5; omega, hn2.symm⟩, by show 5 - (k + 1) < 5 - k; omega, Nat.zero_le _, ?_⟩
     conv => cbv
     refine ⟨?_, ek2, trivial⟩
     rw [<- hst, hΩ, ep]
     rfl
    ·intro hc2
     have hge : ¬ (k : Int) < w := by subst hΩ; exact of_decide_eq_false hc2
     have hkW : k = 5 := by omega
     rw [hkW] at hn
     skip
     obtain ⟨n5, hn5⟩ : ∃ n5, Ω.bin .add .i64 n o = n5 := ⟨_, rfl⟩
     obtain ⟨o1, ho1⟩ : ∃ o1, Ω.bin .shr .i64 n5 (Ω.bin .sub .i64 w 1) = o1 := ⟨_, rfl⟩
     obtain ⟨d1, hd1⟩ : ∃ d1, Ω.bin .sub .i64 n5 (Ω.bin .shl .i64 o1 w) = d1 := ⟨_, rfl⟩
     obtain ⟨u1, hu1⟩ : ∃ u1, Ω.set u (Ω.toN (Int.ofNat i)) d1 = u1 := ⟨_, rfl⟩
     obtain ⟨i2, hi2⟩ : ∃ i2, Ω.bin .add .i64 (Int.ofNat i) w = i2 := ⟨_, rfl⟩
     have hwn : (nV bs / 2 ^ i % 2 ^ 5 : Nat) < 32 := Nat.mod_lt _ (by decide)
     have en5 : n5 = ((nV bs / 2 ^ i % 2 ^ 5 : Nat) : Int) + o := by rw [<- hn5, hΩ, hn]; exact qu (by omega) (by omega)
     obtain ⟨g1, g2, hst⟩ := hS.step (n := n5) (o' := n5 / 16) hV (by omega) he en5 rfl
     have eo1 : o1 = n5 / 16 := by
      rw [<- ho1, hΩ, hw]
      show binL .shr .i64 n5 (binL .sub .i64 5 1) = _
      rw [qx (by omega) (by omega), show (5 : Int) - 1 = ((4 : Nat) : Int) from rfl, qoz _ (by decide)]
      rfl
     have ed1 : d1 = n5 - o1 * 32 := by
      rw [<- hd1, hΩ, hw]
      show binL .sub .i64 n5 (binL .shl .i64 o1 5) = _
      have e : o1 = ((o1.toNat : Nat) : Int) := by omega
      rw [e, show (5 : Int) = ((5 : Nat) : Int) from rfl, qj7 (by decide) (by omega), qx (by omega) (by omega)]
      omega
     have eu1 : u1 = u.set i (n5 - o1 * 32) := by rw [<- hu1, hΩ, ed1]; rfl
     have ei2 : i2 = ((i + 5 : Nat) : Int) := by
      rw [<- hi2, hΩ, hw]
      show binL .add .i64 (i : Int) 5 = _
      rw [qu (by omega) (by omega)]; omega
     rw [<- eo1, <- eu1] at hst
     conv at hn5 => lhs; cbv
     conv at ho1 => lhs; cbv
     conv at hd1 => lhs; cbv
     conv at hu1 => lhs; cbv
     conv at hi2 => lhs; cbv
     conv => cbv
     rw [hn5]
     rw [ho1]
     rw [hd1]
     rw [hu1, hi2]
     constructor
     ·exact fun _ => by rw [hΩ]; show 0 <= binL .sub .i64 w 1; rw [qx (by omega) (by omega)]; omega
     constructor
     ·exact fun _ => by omega
     constructor
     ·exact fun _ => ⟨Int.natCast_nonneg i, show (i : Int) < ((M : Nat) : Int) by omega⟩
     constructor
     ·exact fun _ => by rw [hΩ]; show i < u.length; omega
     refine ⟨(i + 5, o1, u1), [], ⟨by show i + 5 <= M + 4; omega, hst⟩, by show M + 5 - (i + 5) < M + 5 - i; omega, Nat.zero_le _, ?_⟩
     conv => cbv
     exact ⟨ei2, trivial⟩
  ·intro hc
   have hge : ¬ (i : Int) < (M : Int) := by subst hΩ; exact of_decide_eq_false hc
   obtain ⟨f1, f2, f3⟩ := hS.done hV (by omega)
   conv => cbv
   refine hQ (u, M) _ _ _ ⟨⟨f1, f2, f3⟩, Nat.le_of_eq f1⟩ ?_
   subst hΩ
   refine ⟨⟨⟨rfl, rfl, ?_, ?_⟩, ⟨rfl, rfl⟩, trivial⟩, rfl, rfl⟩
   ·show 0 + M <= u.length; omega
   ·show u = (u.drop 0).take M
    rw [List.drop_zero, List.take_of_length_le (by omega)]
end Go.Sx.Tryz
end
