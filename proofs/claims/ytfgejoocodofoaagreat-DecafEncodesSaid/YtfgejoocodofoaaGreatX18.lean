/-
  Part of the proof of a statement: the means.
-/
import Derived.Test.YtfgejoocodofoaaGreatX16
import Derived.Test.YtfgejoocodofoaaGreatX9
import Derived.Test.YtfgejoocodofoaaGreatX13
import Derived.Test.YtfgejoocodofoaaGreatX10
set_option linter.unusedSectionVars false
set_option linter.unusedVariables false
set_option linter.unusedSimpArgs false
set_option linter.deprecated false
section

end
section
namespace Go.Sx.Tryz
open Go.Proofs
set_option maxRecDepth 40000
def s_chicoryref06_digit (Ω : Om) : PSpec := fun args => match args with
 | [.int .u8 b] => ⟨∀ _ : Unit, HexOk b, Unit, fun _ => True, fun _ => .int .i64 (Ω.hide _ fun _ => hd b)⟩
 | _ => PR.none
set_option maxHeartbeats 4000000 in
theorem c_chicoryref06_digit : Ctr Tryz.prog T glob 139 (s_chicoryref06_digit Om.real) := by
 refine ctr_ofO T_ok glob_ids mixed (fun Ω => []) [] (fun Ω => []) [] c_nil i_nil m_nil x_nil Tryz.func139 (by rfl) (by kernel_rfl) Tryz.call139 ?_ ?_
 ·intro args; unfold s_chicoryref06_digit; split
  ·exact good_u (by repeat' constructor) (fun _ _ => rfl) (by repeat' constructor)
  ·exact PR.good_none
 ·intro P Ω hΩ hE hI hm args pr hs hp Q hQ
  unfold s_chicoryref06_digit at hs
  split at hs <;> subst hs <;> try (exact hp.elim)
  rename_i b
  have hb := hp ()
  refine ⟨1000, ?_⟩
  conv => cbv
  constructor
  ·intro hc
   have hc' : b ≥ 97 := by rw [hΩ] at hc; exact of_decide_eq_true hc
   conv => cbv
   refine hQ () _ _ _ trivial ?_
   subst hΩ
   refine ⟨rfl, ?_⟩
   show binL .add .i64 (IntKind.i64.wrap (binL .sub .u8 b 97)) 10 = hd b
   have e : binL .sub .u8 b 97 = b - 97 := by
    show IntKind.u8.wrap (b - 97) = _
    rw [IntKind.wrap_u8]; omega
   rw [e, wrap_i64_id (by omega) (by omega), si_add (by omega) (by omega)]
   unfold hd; rw [if_pos (by omega)]; omega
  ·intro hc
   have hc' : ¬ b ≥ 97 := by rw [hΩ] at hc; exact of_decide_eq_false hc
   conv => cbv
   refine hQ () _ _ _ trivial ?_
   subst hΩ
   refine ⟨rfl, ?_⟩
   show IntKind.i64.wrap (binL .sub .u8 b 48) = hd b
   have e : binL .sub .u8 b 48 = b - 48 := by
    show IntKind.u8.wrap (b - 48) = _
    rw [IntKind.wrap_u8]; omega
   rw [e, wrap_i64_id (by omega) (by omega)]
   unfold hd; rw [if_neg (by omega)]
def lessS : ByteArray := ⟨#[56, 51, 51, 53, 100, 99, 49, 54, 51, 98, 98, 49, 50, 52, 98, 54, 53, 49, 50, 57, 99, 57, 54, 102, 100, 101, 57, 51, 51, 100, 56, 100, 55, 50, 51, 97, 55, 48, 97, 97, 100, 99, 56, 55, 51, 100, 54, 100, 53, 52, 97, 55, 98, 98, 48, 100]⟩
def hexC (xs : List Int) (k : Nat) : List Int := (List.range k).map fun t => 16 * hd (xs.getD (54 - 2 * t) 0) + hd (xs.getD (55 - 2 * t) 0)
theorem hexC_succ (xs : List Int) (k : Nat) : hexC xs (k + 1) = hexC xs k ++ [16 * hd (xs.getD (54 - 2 * k) 0) + hd (xs.getD (55 - 2 * k) 0)] := by
 unfold hexC; rw [List.range_succ, List.map_append]; rfl
theorem hexC_len (xs : List Int) (k : Nat) : (hexC xs k).length = k := by simp [hexC]
theorem lessS_hex : ∀ j, j < 56 → HexOk ((strB lessS).getD j 0) := by decide +kernel
theorem lessS_val : nV (hexC (strB lessS) 28) = lessN := by decide +kernel
theorem lessS_byt : Byt (hexC (strB lessS) 28) := by decide +kernel
def whole56 : List Int := (List.replicate 56 0).set 55 64
theorem whole_val : nV whole56 = T446 := by decide +kernel
theorem whole_byt : Byt whole56 := by decide +kernel
def s_chicoryref06_L (Ω : Om) : PSpec := fun args => match args with
 | [] => ⟨True, List Int × Nat, fun z => nV z.1 = LN ∧ Byt z.1 ∧ z.1.length ≤ 56 ∧ z.1.length ≤ z.2, fun z => .fr .u8 z.1 z.2⟩
 | _ => PR.none
set_option maxHeartbeats 4000000 in
theorem c_chicoryref06_L : Ctr Tryz.prog T glob 90 (s_chicoryref06_L Om.real) := by
 refine ctr_ofO T_ok glob_ids mixed (fun Ω => [(139, s_chicoryref06_digit Ω), (140, s_chicoryref03_Sub Ω)]) [] (fun Ω => []) [] (c_cons c_chicoryref06_digit (c_cons c_chicoryref03_Sub c_nil)) i_nil m_nil x_nil Tryz.func90 (by rfl) (by kernel_rfl) Tryz.call90 ?_ ?_
 ·intro args; unfold s_chicoryref06_L; split
  ·exact good_fr trivial fun _ => ex_bytes (Nat.lt_of_lt_of_le LN_446 T446_56)
  ·exact PR.good_none
 ·intro P Ω hΩ hE hI hm args pr hs hp Q hQ
  unfold s_chicoryref06_L at hs
  split at hs <;> subst hs <;> try (exact hp.elim)
  obtain ⟨xs, hxs⟩ : ∃ xs, xs = strB lessS := ⟨_, rfl⟩
  have hh := lessS_hex
  rw [← hxs] at hh
  have hx' : strB lessS = xs := hxs.symm
  conv at hx' => lhs; cbv
  have hxl : xs.length = 56 := by rw [hxs]; decide +kernel
  obtain ⟨i0, hi0⟩ : ∃ i0, Ω.bin .sub .i64 (Ω.ofN (Ω.len xs)) 2 = i0 := ⟨_, rfl⟩
  have ei0 : i0 = 54 := by
   rw [← hi0, hΩ]
   show binL .sub .i64 ((xs.length : Nat) : Int) 2 = 54
   rw [hxl]; rfl
  conv at hi0 => lhs; cbv
  refine ⟨1000, ?_⟩
  conv => cbv
  rw [hx', hi0]
  refine loop_inv hE hI hm (fun z : Nat × Int × List Int × Nat × Nat => (mkT 33 [(0, .val (.slice none 0 0)), (1, .val (.string lessS)), (2, .sl 56 1 (.l 0) (.s z.2.2.2.1) (.s z.2.2.2.2)), (3, .int .i64 z.2.1)], [(56, .seq .u8 z.2.2.1)])) (fun z => z.1 ≤ 28 ∧ z.2.1 = 54 - 2 * z.1 ∧ z.2.2.1 = hexC xs z.1 ∧ z.2.2.2.1 = z.1 ∧ z.2.2.2.1 ≤ z.2.2.2.2) (fun z => 28 - z.1) 1 ⟨(0, i0, [], 0, 0), [none], ⟨Nat.zero_le _, ei0, rfl, rfl, Nat.le_refl _⟩, by decide, ?_⟩ fun z hz => ⟨1000, ?_⟩
  ·conv => cbv
   trivial
  obtain ⟨k, i, u, n, c⟩ := z
  obtain ⟨hk, hi, hu, hn, hc⟩ : k ≤ 28 ∧ i = 54 - 2 * (k : Int) ∧ u = hexC xs k ∧ n = k ∧ n ≤ c := hz
  have hul : u.length = n := by rw [hu, hexC_len, hn]
  conv => cbv
  constructor
  ·intro hc2
   have h1 : 0 ≤ i := by subst hΩ; exact of_decide_eq_true hc2
   have g1 := hh (54 - 2 * k) (by omega)
   have g2 := hh (55 - 2 * k) (by omega)
   have r1 := hd_rng g1
   have r2 := hd_rng g2
   obtain ⟨j, hj⟩ : ∃ j, Ω.bin .add .i64 i 1 = j := ⟨_, rfl⟩
   have ej : j = i + 1 := by rw [← hj, hΩ]; exact si_add (by omega) (by omega)
   obtain ⟨u2, hu2⟩ : ∃ u2, u2 = hexC xs (k + 1) := ⟨_, rfl⟩
   obtain ⟨i2, hi2⟩ : ∃ i2 : Int, i2 = 54 - 2 * ((k + 1 : Nat) : Int) := ⟨_, rfl⟩
   have hd1 : xs.getD i.toNat 0 = xs.getD (54 - 2 * k) 0 := by rw [show i.toNat = 54 - 2 * k by omega]
   have hd2 : xs.getD j.toNat 0 = xs.getD (55 - 2 * k) 0 := by rw [show j.toNat = 55 - 2 * k by omega]
   conv at hj => lhs; cbv
   conv => cbv
   rw [hx']
   constructor
   ·exact fun _ => ⟨h1, by show i < 56; omega⟩
   constructor
   ·intro _ _
    subst hΩ
    show HexOk (xs.getD i.toNat 0)
    rw [hd1]; exact g1
   intro _ _
   conv => cbv
   (try rw [hx'])
   (try rw [hj])
   constructor
   ·exact fun _ => ⟨by omega, by show j < 56; omega⟩
   constructor
   ·intro _ _
    subst hΩ
    show HexOk (xs.getD j.toNat 0)
    rw [hd2]; exact g2
   intro _ _
   conv => cbv
   constructor
   ·exact fun _ => (show (n + 1) * 1 ≤ 140737488355328 by omega)
   constructor
   ·exact fun _ => ⟨(show 0 + n * 1 ≤ u.length by omega), (show 0 + 1 * 1 ≤ 1 by omega)⟩
   intro cap hcap
   have hcap : n + 1 ≤ cap := hcap
   conv => cbv
   (try rw [hx'])
   (try rw [hj])
   obtain ⟨n2, hn2⟩ : ∃ n2, n2 = n + 1 := ⟨_, rfl⟩
   refine ⟨(k + 1, i2, u2, n2, cap), [some 192], ⟨by show k + 1 ≤ 28; omega, hi2, hu2, (by show n2 = k + 1; omega), (by show n2 ≤ cap; omega)⟩, by show 28 - (k + 1) < 28 - k; omega, by decide, ?_⟩
   conv => cbv
   subst hΩ
   refine ⟨hn2.symm, ?_, ?_⟩
   ·show binL .sub .i64 i 2 = i2
    rw [si_sub (by omega) (by omega), hi2, hi]; omega
   ·show (u.drop 0).take n ++ [IntKind.u8.wrap (binL .add .i64 (binL .mul .i64 16 (hd (xs.getD i.toNat 0))) (hd (xs.getD j.toNat 0)))] = u2
    rw [hd1, hd2, si_mul (by omega) (by omega), si_add (by omega) (by omega), List.drop_zero, List.take_of_length_le (by omega), hu2, hexC_succ, hu, IntKind.wrap_u8]
    congr 2
    omega
  ·intro hc2
   have h1 : ¬ 0 ≤ i := by subst hΩ; exact of_decide_eq_false hc2
   have hk28 : k = 28 := by omega
   obtain ⟨w, hw⟩ : ∃ w, Ω.set (Ω.zer 56) 55 64 = w := ⟨_, rfl⟩
   have ew : w = whole56 := by rw [← hw, hΩ]; rfl
   obtain ⟨u', hu'⟩ : ∃ u', Ω.sub u 0 n = u' := ⟨_, rfl⟩
   have eu' : u' = hexC xs 28 := by
    rw [← hu', hΩ]
    show (u.drop 0).take n = _
    rw [List.drop_zero, List.take_of_length_le (by omega), hu, hk28]
   conv at hw => lhs; cbv
   conv at hu' => lhs; cbv
   conv => cbv
   rw [hw, hu']
   constructor
   ·exact fun _ => ⟨(show 0 + 56 ≤ 56 by decide), (show 0 + n ≤ u.length by omega), trivial⟩
   have hvw : nV w = T446 := by rw [ew]; exact whole_val
   have hvu : nV u' = lessN := by rw [eu', hxs]; exact lessS_val
   have hlu : u'.length = 28 := by rw [eu', hexC_len]
   have hlw : w.length = 56 := by rw [ew]; rfl
   constructor
   ·exact fun _ _ => ⟨by rw [hvw, hvu]; exact less_le, by omega, by rw [ew]; exact whole_byt, by rw [eu', hxs]; exact lessS_byt⟩
   intro z hz
   obtain ⟨zl, zc⟩ := z
   have hz : nV zl = nV w - nV u' ∧ Byt zl ∧ zl.length ≤ w.length ∧ zl.length ≤ zc := by subst hΩ; exact hz
   have hsz : Ω.sub zl 0 (Ω.len zl) = zl := by
    rw [hΩ]; show (zl.drop 0).take zl.length = zl
    rw [List.drop_zero, List.take_length]
   conv at hsz => lhs; cbv
   conv => cbv
   refine hQ (zl, zc) _ _ _ ⟨?_, hz.2.1, by show zl.length ≤ 56; omega, hz.2.2.2⟩ ?_
   ·show nV zl = LN
    rw [hz.1, hvw, hvu, L_less]
   subst hΩ
   exact ⟨rfl, rfl, (show 0 + zl.length ≤ zl.length by omega), hsz.symm⟩
end Go.Sx.Tryz
end
section
namespace Go.Sx.Tryz
open Go.Proofs
set_option maxRecDepth 40000
def s_chicoryref06_Reduce (Ω : Om) : PSpec := fun args => match args with
 | [.roi .u8 bs] => ⟨∀ _ : Unit, Byt bs ∧ bs.length ≤ 1000, List Int × Nat, fun z => nV z.1 = nV bs % LN ∧ Byt z.1 ∧ z.1.length ≤ 8000 ∧ z.1.length ≤ z.2, fun z => .fr .u8 z.1 z.2⟩
 | _ => PR.none
@[irreducible] def evenB (P : AP) : Bool := decide ((nsm LN P).x = 0)
def s_chicoryref14_Even (Ω : Om) : PSpec := fun args => match args with
 | [.ab (.rp P)] => ⟨∀ _ : Unit, P.on, Unit, fun _ => True, fun _ => .bs (Ω.hide _ fun _ => evenB P)⟩
 | _ => PR.none
set_option maxHeartbeats 4000000 in
theorem c_chicoryref14_Even : Ctr Tryz.prog T glob 29 (s_chicoryref14_Even Om.real) := by
 refine ctr_ofO T_ok glob_ids mixed (fun Ω => [(90, s_chicoryref06_L Ω), (35, s_chicoryref08_Times Ω), (42, s_chicoryref08_Affine Ω), (46, s_chicoryref04_Int Ω), (73, s_chicoryref04_Same Ω)]) [] (fun Ω => []) [] (c_cons c_chicoryref06_L (c_cons c_chicoryref08_Times (c_cons c_chicoryref08_Affine (c_cons c_chicoryref04_Int (c_cons c_chicoryref04_Same c_nil))))) i_nil m_nil x_nil Tryz.func29 (by rfl) (by kernel_rfl) Tryz.call29 ?_ ?_
 ·intro args; unfold s_chicoryref14_Even; split
  ·exact good_u (by repeat' constructor) (fun _ _ => rfl) (by repeat' constructor)
  ·exact PR.good_none
 ·intro P Ω hΩ hE hI hm args pr hs hp Q hQ
  unfold s_chicoryref14_Even at hs
  split at hs <;> subst hs <;> try (exact hp.elim)
  rename_i P0
  have hP := hp ()
  refine ⟨1000, ?_⟩
  conv => cbv
  constructor
  ·exact fun (_ : Unit) => trivial
  intro l hl
  obtain ⟨ll, lc⟩ := l
  have hl : nV ll = LN ∧ Byt ll ∧ ll.length ≤ 56 ∧ ll.length ≤ lc := by subst hΩ; exact hl
  have hsl : Ω.sub ll 0 (Ω.len ll) = ll := by
   rw [hΩ]; show (ll.drop 0).take ll.length = ll
   rw [List.drop_zero, List.take_length]
  conv at hsl => lhs; cbv
  conv => cbv
  constructor
  ·exact fun _ => ⟨(by subst hΩ; show 0 + ll.length ≤ ll.length; omega), trivial, trivial⟩
  rw [hsl]
  constructor
  ·exact fun _ _ => ⟨hP, by omega, hl.2.1⟩
  intro _ _
  conv => cbv
  constructor; (first | exact fun (_ : Unit) => trivial | exact fun (_ : Unit) (_ : Unit) => (by decide)); intro _ _; conv => cbv
  repeat (constructor; (first | exact fun (_ : Unit) => trivial | exact fun (_ : Unit) (_ : Unit) => (by decide)); intro _ _; conv => cbv)
  refine hQ () _ _ _ trivial ?_
  subst hΩ
  have e : decide ((nsm (nV ll) P0).x = fI 0) = evenB P0 := by unfold evenB; rw [hl.1, fI_zero]
  exact e
end Go.Sx.Tryz
end
section

end
