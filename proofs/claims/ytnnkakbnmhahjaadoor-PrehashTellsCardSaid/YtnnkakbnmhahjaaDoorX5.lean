/-
  Part of the proof of a statement: the means.
-/
import Derived.Test.YtnnkakbnmhahjaaDoorX4
set_option linter.unusedSectionVars false
set_option linter.unusedVariables false
set_option linter.unusedSimpArgs false
set_option linter.deprecated false
section
namespace Go.Sx.Tryd
open Go.Proofs
section
variable (x rt : Int → Int → Int) (bd : Int → Int → Int → Int)
theorem cols_x (x0 x1 x2 x3 x4 x5 x6 x7 x8 x9 x10 x11 x12 x13 x14 x15 x16 x17 x18 x19 x20 x21 x22 x23 x24 : Int) : colsG x [x0, x1, x2, x3, x4, x5, x6, x7, x8, x9, x10, x11, x12, x13, x14, x15, x16, x17, x18, x19, x20, x21, x22, x23, x24] 25 = [x (x (x (x (x 0 x0) x5) x10) x15) x20, x (x (x (x (x 0 x1) x6) x11) x16) x21, x (x (x (x (x 0 x2) x7) x12) x17) x22, x (x (x (x (x 0 x3) x8) x13) x18) x23, x (x (x (x (x 0 x4) x9) x14) x19) x24] := by kernel_rfl
theorem mix_x (x0 x1 x2 x3 x4 x5 x6 x7 x8 x9 x10 x11 x12 x13 x14 x15 x16 x17 x18 x19 x20 x21 x22 x23 x24 c0 c1 c2 c3 c4 : Int) : mixG x rt [x0, x1, x2, x3, x4, x5, x6, x7, x8, x9, x10, x11, x12, x13, x14, x15, x16, x17, x18, x19, x20, x21, x22, x23, x24] [c0, c1, c2, c3, c4] 25 = [x x0 (x c4 (rt c1 1)), x x1 (x c0 (rt c2 1)), x x2 (x c1 (rt c3 1)), x x3 (x c2 (rt c4 1)), x x4 (x c3 (rt c0 1)), x x5 (x c4 (rt c1 1)), x x6 (x c0 (rt c2 1)), x x7 (x c1 (rt c3 1)), x x8 (x c2 (rt c4 1)), x x9 (x c3 (rt c0 1)), x x10 (x c4 (rt c1 1)), x x11 (x c0 (rt c2 1)), x x12 (x c1 (rt c3 1)), x x13 (x c2 (rt c4 1)), x x14 (x c3 (rt c0 1)), x x15 (x c4 (rt c1 1)), x x16 (x c0 (rt c2 1)), x x17 (x c1 (rt c3 1)), x x18 (x c2 (rt c4 1)), x x19 (x c3 (rt c0 1)), x x20 (x c4 (rt c1 1)), x x21 (x c0 (rt c2 1)), x x22 (x c1 (rt c3 1)), x x23 (x c2 (rt c4 1)), x x24 (x c3 (rt c0 1))] := by kernel_rfl
theorem move_x (x0 x1 x2 x3 x4 x5 x6 x7 x8 x9 x10 x11 x12 x13 x14 x15 x16 x17 x18 x19 x20 x21 x22 x23 x24 : Int) : (moveG rt [x0, x1, x2, x3, x4, x5, x6, x7, x8, x9, x10, x11, x12, x13, x14, x15, x16, x17, x18, x19, x20, x21, x22, x23, x24] 24).2 = [x0, rt x6 44, rt x12 43, rt x18 21, rt x24 14, rt x3 28, rt x9 20, rt x10 3, rt x16 45, rt x22 61, rt x1 1, rt x7 6, rt x13 25, rt x19 8, rt x20 18, rt x4 27, rt x5 36, rt x11 10, rt x17 15, rt x23 56, rt x2 62, rt x8 55, rt x14 39, rt x15 41, rt x21 2] := by kernel_rfl
theorem bend_x (x0 x1 x2 x3 x4 x5 x6 x7 x8 x9 x10 x11 x12 x13 x14 x15 x16 x17 x18 x19 x20 x21 x22 x23 x24 : Int) : bendG bd [x0, x1, x2, x3, x4, x5, x6, x7, x8, x9, x10, x11, x12, x13, x14, x15, x16, x17, x18, x19, x20, x21, x22, x23, x24] 5 = [bd x0 x1 x2, bd x1 x2 x3, bd x2 x3 x4, bd x3 x4 x0, bd x4 x0 x1, bd x5 x6 x7, bd x6 x7 x8, bd x7 x8 x9, bd x8 x9 x5, bd x9 x5 x6, bd x10 x11 x12, bd x11 x12 x13, bd x12 x13 x14, bd x13 x14 x10, bd x14 x10 x11, bd x15 x16 x17, bd x16 x17 x18, bd x17 x18 x19, bd x18 x19 x15, bd x19 x15 x16, bd x20 x21 x22, bd x21 x22 x23, bd x22 x23 x24, bd x23 x24 x20, bd x24 x20 x21] := by kernel_rfl
end

/-- A lane's bits. -/
def lb (a : Int) : BitVec 64 := BitVec.ofInt 64 a
theorem lb_nat (b : BitVec 64) : lb (b.toNat : Int) = b := ofInt_nat b
theorem lb_xo (a b : Int) : lb (xo a b) = lb a ^^^ lb b := by rw [xo, xor_eq, lb_nat]; rfl
theorem lb_bdo (l a b : Int) : lb (bdo l a b) = lb l ^^^ (~~~ lb a &&& lb b) := by
  rw [bdo, xor_eq, lb_nat, and_eq, not_eq]
  simp only [ofInt_nat]
  rfl
/-- A lane, turned. -/
def rol (a : BitVec 64) (k : Nat) : BitVec 64 := a <<< k ^^^ a >>> (64 - k)
theorem rol_bit (a : BitVec 64) (k i : Nat) (hk : k < 64) (h0 : 0 < k) (hi : i < 64) : (rol a k).getLsbD i = if i < k then a.getLsbD (64 - k + i) else a.getLsbD (i - k) := by
  simp only [rol, BitVec.getLsbD_xor, BitVec.getLsbD_shiftLeft, BitVec.getLsbD_ushiftRight]
  by_cases h : i < k
  · simp [h, hi]
  · have : 64 ≤ 64 - k + i := by omega
    simp [h, hi, BitVec.getLsbD_of_ge a _ this]
theorem rol_xor (a b : BitVec 64) (k : Nat) : rol (a ^^^ b) k = rol a k ^^^ rol b k := by
  simp only [rol, BitVec.shiftLeft_xor_distrib, BitVec.ushiftRight_xor_distrib]
  ac_rfl
theorem rol_inj {a b : BitVec 64} {k : Nat} (h0 : 0 < k) (hk : k < 64) (h : rol a k = rol b k) : a = b := by
  apply BitVec.eq_of_getLsbD_eq
  intro i hi
  have key : ∀ c : BitVec 64, c.getLsbD i = (rol c k).getLsbD (if i + k < 64 then i + k else i + k - 64) := fun c => by
    split
    · rw [rol_bit _ _ _ hk h0 (by omega), if_neg (by omega)]
      congr 1; omega
    · rw [rol_bit _ _ _ hk h0 (by omega), if_pos (by omega)]
      congr 1; omega
  rw [key a, key b, h]
theorem rol_rol (a : BitVec 64) (j : Nat) (h0 : 0 < j) (hj : 2 * j < 64) : rol (rol a j) j = rol a (2 * j) := by
  apply BitVec.eq_of_getLsbD_eq
  intro i hi
  rw [rol_bit _ _ _ (by omega) h0 hi, rol_bit _ _ _ hj (by omega) hi]
  by_cases h1 : i < j
  · rw [if_pos h1, rol_bit _ _ _ (by omega) h0 (by omega), if_neg (by omega), if_pos (by omega)]
    congr 1; omega
  · rw [if_neg h1, rol_bit _ _ _ (by omega) h0 (by omega)]
    by_cases h2 : i - j < j
    · rw [if_pos h2, if_pos (by omega)]; congr 1; omega
    · rw [if_neg h2, if_neg (by omega)]; congr 1; omega
theorem rol_32 (a : BitVec 64) : rol (rol a 32) 32 = a := by
  apply BitVec.eq_of_getLsbD_eq
  intro i hi
  rw [rol_bit _ _ _ (by omega) (by omega) hi]
  by_cases h1 : i < 32
  · rw [if_pos h1, rol_bit _ _ _ (by omega) (by omega) (by omega), if_neg (by omega)]
    congr 1; omega
  · rw [if_neg h1, rol_bit _ _ _ (by omega) (by omega) (by omega), if_pos (by omega)]
    congr 1; omega
theorem or_eq_xor (a : BitVec 64) (k : Nat) (h0 : 0 < k) (hk : k < 64) : a <<< k ||| a >>> (64 - k) = rol a k := by
  apply BitVec.eq_of_getLsbD_eq
  intro i hi
  simp only [rol, BitVec.getLsbD_xor, BitVec.getLsbD_or, BitVec.getLsbD_shiftLeft, BitVec.getLsbD_ushiftRight]
  by_cases h : i < k
  · simp [h, hi]
  · have : 64 ≤ 64 - k + i := by omega
    simp [h, hi, BitVec.getLsbD_of_ge a _ this]

end Go.Sx.Tryd
end
section
namespace Go.Sx.Tryd
open Go.Proofs
def InR (a : Int) : Prop := 0 ≤ a ∧ a < 18446744073709551616
theorem inR_wrap (a : Int) : InR (IntKind.u64.wrap a) := by
  rw [IntKind.wrap_u64]; unfold InR; omega
theorem inR_xo (a b : Int) : InR (xo a b) := inR_wrap _
theorem inR_bdo (l a b : Int) : InR (bdo l a b) := inR_wrap _
theorem inR_rotl (a k : Int) : InR (rotl a k) := inR_wrap _
theorem lb_toNat {a : Int} (h : InR a) : ((lb a).toNat : Int) = a := by
  unfold InR at h
  simp only [lb, BitVec.toNat_ofInt]
  omega
theorem lb_inj {a b : Int} (ha : InR a) (hb : InR b) (h : lb a = lb b) : a = b := by
  rw [← lb_toNat ha, ← lb_toNat hb, h]
theorem lb_shl (a : Int) (k : Nat) (hk : k < 64) : lb (binL .shl .u64 a k) = lb a <<< k := by
  have h1 : binL .shl .u64 a k = IntKind.u64.wrap (a * 2 ^ k) := by
    show IntKind.u64.wrap (a * 2 ^ (min ((k : Int)).toNat 64)) = _
    rw [Int.toNat_natCast, Nat.min_eq_left (by omega)]
  rw [h1, lb, ofInt_wrap, BitVec.shiftLeft_eq_mul_twoPow]
  have h2 : (2 : Int) ^ k = ((2 ^ k : Nat) : Int) := by simp
  rw [h2, BitVec.ofInt_mul, BitVec.ofInt_natCast]
  congr 1
  apply BitVec.eq_of_toNat_eq
  simp
theorem lb_shr {a : Int} (h : InR a) (k : Nat) (hk : k ≤ 64) : lb (binL .shr .u64 a k) = lb a >>> k := by
  have h1 : binL .shr .u64 a k = a.fdiv (2 ^ k) := by
    show a.fdiv (2 ^ (min ((k : Int)).toNat 64)) = _
    rw [Int.toNat_natCast, Nat.min_eq_left (by omega)]
  obtain ⟨h0, h2⟩ := h
  obtain ⟨n, rfl⟩ := Int.eq_ofNat_of_zero_le h0
  have hn : n < 18446744073709551616 := by omega
  rw [h1]
  have h3 : (2 : Int) ^ k = ((2 ^ k : Nat) : Int) := by simp
  rw [h3, Int.fdiv_eq_ediv_of_nonneg _ (Int.natCast_nonneg _), ← Int.natCast_ediv]
  apply BitVec.eq_of_toNat_eq
  rw [lb, lb, BitVec.toNat_ushiftRight, BitVec.ofInt_natCast, BitVec.ofInt_natCast, BitVec.toNat_ofNat, BitVec.toNat_ofNat, Nat.shiftRight_eq_div_pow]
  have h4 : n / 2 ^ k ≤ n := Nat.div_le_self _ _
  rw [Nat.mod_eq_of_lt (by omega), Nat.mod_eq_of_lt (by omega)]
theorem lb_rotl {a : Int} (h : InR a) (k : Nat) (h0 : 0 < k) (hk : k < 64) : lb (rotl a k) = rol (lb a) k := by
  rw [← turned_eq a k (by omega) (by omega), turned, if_neg (by omega), or_eq, lb_nat]
  have h1 : (64 : Int) - (k : Int) = ((64 - k : Nat) : Int) := by omega
  rw [h1]
  have h2 := lb_shl a k hk
  have h3 := lb_shr h (64 - k) (by omega)
  rw [lb] at h2 h3
  rw [h2, h3, or_eq_xor _ _ h0 hk]

/-- What theta does to the columns, five at a time: squared, six times over, it is what turns no lane. -/
def th (k : Nat) (a b c : BitVec 64) : BitVec 64 := a ^^^ b ^^^ rol c k
theorem th_th (k : Nat) (h0 : 0 < k) (hk : 2 * k < 64) (a b c d e : BitVec 64) : th k (th k a b c) (th k b d a) (th k c a e) = th (2 * k) a d e := by
  simp only [th, rol_xor, rol_rol _ _ h0 hk]
  have h1 : rol a k ^^^ rol a k = 0#64 := BitVec.xor_self
  have h2 : b ^^^ b = 0#64 := BitVec.xor_self
  have h3 : rol c k ^^^ rol c k = 0#64 := BitVec.xor_self
  calc a ^^^ b ^^^ rol c k ^^^ (b ^^^ d ^^^ rol a k) ^^^ (rol c k ^^^ rol a k ^^^ rol e (2 * k))
      = a ^^^ d ^^^ rol e (2 * k) ^^^ (b ^^^ b) ^^^ (rol c k ^^^ rol c k) ^^^ (rol a k ^^^ rol a k) := by ac_rfl
    _ = _ := by rw [h1, h2, h3]; simp
theorem th_32 (a b c d e : BitVec 64) : th 32 (th 32 a b c) (th 32 b d a) (th 32 c a e) = a ^^^ d ^^^ e := by
  simp only [th, rol_xor, rol_32]
  have h1 : rol a 32 ^^^ rol a 32 = 0#64 := BitVec.xor_self
  have h2 : b ^^^ b = 0#64 := BitVec.xor_self
  have h3 : rol c 32 ^^^ rol c 32 = 0#64 := BitVec.xor_self
  calc a ^^^ b ^^^ rol c 32 ^^^ (b ^^^ d ^^^ rol a 32) ^^^ (rol c 32 ^^^ rol a 32 ^^^ e)
      = a ^^^ d ^^^ e ^^^ (b ^^^ b) ^^^ (rol c 32 ^^^ rol c 32) ^^^ (rol a 32 ^^^ rol a 32) := by ac_rfl
    _ = _ := by rw [h1, h2, h3]; simp
end Go.Sx.Tryd
end
section
namespace Go.Sx.Tryd
open Go.Proofs
theorem list25 {l : List Int} (h : l.length = 25) : ∃ x0 x1 x2 x3 x4 x5 x6 x7 x8 x9 x10 x11 x12 x13 x14 x15 x16 x17 x18 x19 x20 x21 x22 x23 x24, l = [x0, x1, x2, x3, x4, x5, x6, x7, x8, x9, x10, x11, x12, x13, x14, x15, x16, x17, x18, x19, x20, x21, x22, x23, x24] := by
  match l, h with
  | [x0, x1, x2, x3, x4, x5, x6, x7, x8, x9, x10, x11, x12, x13, x14, x15, x16, x17, x18, x19, x20, x21, x22, x23, x24], _ => exact ⟨_, _, _, _, _, _, _, _, _, _, _, _, _, _, _, _, _, _, _, _, _, _, _, _, _, rfl⟩


theorem th_step {k s : Nat} (h0 : 0 < k) (hk : 2 * k < 64) (hs : 0 < s) (hs5 : s < 5) {c d : Nat → BitVec 64} (h : ∀ j, j < 5 → th k (c j) (c ((j + 5 - s) % 5)) (c ((j + s) % 5)) = th k (d j) (d ((j + 5 - s) % 5)) (d ((j + s) % 5))) :
    ∀ j, j < 5 → th (2 * k) (c j) (c ((j + 2 * (5 - s)) % 5)) (c ((j + 2 * s) % 5)) = th (2 * k) (d j) (d ((j + 2 * (5 - s)) % 5)) (d ((j + 2 * s) % 5)) := fun j hj => by
  have h1 := h j hj
  have h2 := h ((j + 5 - s) % 5) (by omega)
  have h3 := h ((j + s) % 5) (by omega)
  have e1 : ((j + 5 - s) % 5 + 5 - s) % 5 = (j + 2 * (5 - s)) % 5 := by omega
  have e2 : ((j + 5 - s) % 5 + s) % 5 = j := by omega
  have e3 : ((j + s) % 5 + 5 - s) % 5 = j := by omega
  have e4 : ((j + s) % 5 + s) % 5 = (j + 2 * s) % 5 := by omega
  rw [e1, e2] at h2
  rw [e3, e4] at h3
  rw [← th_th k h0 hk (c j) (c ((j + 5 - s) % 5)) (c ((j + s) % 5)), ← th_th k h0 hk (d j) (d ((j + 5 - s) % 5)) (d ((j + s) % 5)), h1, h2, h3]
theorem cols_inj {c d : Nat → BitVec 64} (h : ∀ j, j < 5 → th 1 (c j) (c ((j + 4) % 5)) (c ((j + 1) % 5)) = th 1 (d j) (d ((j + 4) % 5)) (d ((j + 1) % 5))) : ∀ j, j < 5 → c j = d j := by
  have a1 := th_step (k := 1) (s := 1) (by omega) (by omega) (by omega) (by omega) (c := c) (d := d) h
  have g : ∀ {k s s' : Nat}, (s' = (2 * s) % 5) → (∀ j, j < 5 → th k (c j) (c ((j + 2 * (5 - s)) % 5)) (c ((j + 2 * s) % 5)) = th k (d j) (d ((j + 2 * (5 - s)) % 5)) (d ((j + 2 * s) % 5))) → s < 5 → 0 < s →
      ∀ j, j < 5 → th k (c j) (c ((j + 5 - s') % 5)) (c ((j + s') % 5)) = th k (d j) (d ((j + 5 - s') % 5)) (d ((j + s') % 5)) := fun {k s s'} e h hs h0 j hj => by
    have := h j hj
    have e1 : (j + 2 * (5 - s)) % 5 = (j + 5 - s') % 5 := by omega
    have e2 : (j + 2 * s) % 5 = (j + s') % 5 := by omega
    rw [e1, e2] at this
    exact this
  have a2 := th_step (k := 2) (s := 2) (by omega) (by omega) (by omega) (by omega) (g (s := 1) rfl a1 (by omega) (by omega))
  have a3 := th_step (k := 4) (s := 4) (by omega) (by omega) (by omega) (by omega) (g (s := 2) rfl a2 (by omega) (by omega))
  have a4 := th_step (k := 8) (s := 3) (by omega) (by omega) (by omega) (by omega) (g (s := 4) rfl a3 (by omega) (by omega))
  have a5 := th_step (k := 16) (s := 1) (by omega) (by omega) (by omega) (by omega) (g (s := 3) rfl a4 (by omega) (by omega))
  have a6 := g (s := 1) (s' := 2) rfl a5 (by omega) (by omega)
  have a7 : ∀ j, j < 5 → c j ^^^ c ((j + 1) % 5) ^^^ c ((j + 4) % 5) = d j ^^^ d ((j + 1) % 5) ^^^ d ((j + 4) % 5) := fun j hj => by
    have h1 := a6 j hj
    have h2 := a6 ((j + 5 - 2) % 5) (by omega)
    have h3 := a6 ((j + 2) % 5) (by omega)
    have e1 : ((j + 5 - 2) % 5 + 5 - 2) % 5 = (j + 1) % 5 := by omega
    have e2 : ((j + 5 - 2) % 5 + 2) % 5 = j := by omega
    have e3 : ((j + 2) % 5 + 5 - 2) % 5 = j := by omega
    have e4 : ((j + 2) % 5 + 2) % 5 = (j + 4) % 5 := by omega
    rw [e1, e2] at h2
    rw [e3, e4] at h3
    rw [← th_32 (c j) (c ((j + 5 - 2) % 5)) (c ((j + 2) % 5)), ← th_32 (d j) (d ((j + 5 - 2) % 5)) (d ((j + 2) % 5)), h1, h2, h3]
  have inv : ∀ (u : Nat → BitVec 64) j, j < 5 → (u j ^^^ u ((j + 1) % 5) ^^^ u ((j + 4) % 5)) ^^^ (u ((j + 2) % 5) ^^^ u ((j + 3) % 5) ^^^ u ((j + 1) % 5)) ^^^ (u ((j + 3) % 5) ^^^ u ((j + 4) % 5) ^^^ u ((j + 2) % 5)) = u j := fun u j hj => by
    have z : ∀ a : BitVec 64, a ^^^ a = 0#64 := fun a => BitVec.xor_self
    calc _ = u j ^^^ (u ((j + 1) % 5) ^^^ u ((j + 1) % 5)) ^^^ (u ((j + 4) % 5) ^^^ u ((j + 4) % 5)) ^^^ (u ((j + 2) % 5) ^^^ u ((j + 2) % 5)) ^^^ (u ((j + 3) % 5) ^^^ u ((j + 3) % 5)) := by ac_rfl
      _ = u j := by simp only [z, BitVec.xor_zero]
  intro j hj
  have h1 := a7 j hj
  have h2 := a7 ((j + 2) % 5) (by omega)
  have h3 := a7 ((j + 3) % 5) (by omega)
  have e1 : ((j + 2) % 5 + 1) % 5 = (j + 3) % 5 := by omega
  have e2 : ((j + 2) % 5 + 4) % 5 = (j + 1) % 5 := by omega
  have e3 : ((j + 3) % 5 + 1) % 5 = (j + 4) % 5 := by omega
  have e4 : ((j + 3) % 5 + 4) % 5 = (j + 2) % 5 := by omega
  rw [e1, e2] at h2
  rw [e3, e4] at h3
  rw [← inv c j hj, ← inv d j hj, h1, h2, h3]
theorem sum5 {a b c d e z a' b' c' d' e' z' : BitVec 64} (h1 : a ^^^ z = a' ^^^ z') (h2 : b ^^^ z = b' ^^^ z') (h3 : c ^^^ z = c' ^^^ z') (h4 : d ^^^ z = d' ^^^ z') (h5 : e ^^^ z = e' ^^^ z') :
    a ^^^ b ^^^ c ^^^ d ^^^ e ^^^ z = a' ^^^ b' ^^^ c' ^^^ d' ^^^ e' ^^^ z' := by
  have k : ∀ a b c d e z : BitVec 64, a ^^^ b ^^^ c ^^^ d ^^^ e ^^^ z = (a ^^^ z) ^^^ (b ^^^ z) ^^^ (c ^^^ z) ^^^ (d ^^^ z) ^^^ (e ^^^ z) := fun a b c d e z => by
    have h : z ^^^ z = 0#64 := BitVec.xor_self
    calc _ = a ^^^ b ^^^ c ^^^ d ^^^ e ^^^ z ^^^ 0#64 ^^^ 0#64 := by simp only [BitVec.xor_zero]
      _ = a ^^^ b ^^^ c ^^^ d ^^^ e ^^^ z ^^^ (z ^^^ z) ^^^ (z ^^^ z) := by rw [h]
      _ = _ := by ac_rfl
  rw [k, k a', h1, h2, h3, h4, h5]
theorem xor_cancel {a b z z' : BitVec 64} (h : a ^^^ z = b ^^^ z') (hz : z = z') : a = b := by
  subst hz
  have : a ^^^ z ^^^ z = b ^^^ z ^^^ z := by rw [h]
  simpa [BitVec.xor_assoc] using this
theorem chi_bit : ∀ a b c d e a' b' c' d' e' : Bool, (a ^^ (!b && c)) = (a' ^^ (!b' && c')) → (b ^^ (!c && d)) = (b' ^^ (!c' && d')) → (c ^^ (!d && e)) = (c' ^^ (!d' && e')) → (d ^^ (!e && a)) = (d' ^^ (!e' && a')) → (e ^^ (!a && b)) = (e' ^^ (!a' && b')) →
    a = a' ∧ b = b' ∧ c = c' ∧ d = d' ∧ e = e' := by decide +kernel
theorem chi_inj {a b c d e a' b' c' d' e' : BitVec 64} (h1 : a ^^^ (~~~ b &&& c) = a' ^^^ (~~~ b' &&& c')) (h2 : b ^^^ (~~~ c &&& d) = b' ^^^ (~~~ c' &&& d')) (h3 : c ^^^ (~~~ d &&& e) = c' ^^^ (~~~ d' &&& e')) (h4 : d ^^^ (~~~ e &&& a) = d' ^^^ (~~~ e' &&& a')) (h5 : e ^^^ (~~~ a &&& b) = e' ^^^ (~~~ a' &&& b')) :
    a = a' ∧ b = b' ∧ c = c' ∧ d = d' ∧ e = e' := by
  have key : ∀ i, i < 64 → a.getLsbD i = a'.getLsbD i ∧ b.getLsbD i = b'.getLsbD i ∧ c.getLsbD i = c'.getLsbD i ∧ d.getLsbD i = d'.getLsbD i ∧ e.getLsbD i = e'.getLsbD i := fun i hi => by
    have g : ∀ {x y z x' y' z' : BitVec 64}, x ^^^ (~~~ y &&& z) = x' ^^^ (~~~ y' &&& z') → (x.getLsbD i ^^ (!y.getLsbD i && z.getLsbD i)) = (x'.getLsbD i ^^ (!y'.getLsbD i && z'.getLsbD i)) := fun {x y z x' y' z'} h => by
      have := congrArg (fun v : BitVec 64 => v.getLsbD i) h
      simpa [hi] using this
    exact chi_bit _ _ _ _ _ _ _ _ _ _ (g h1) (g h2) (g h3) (g h4) (g h5)
  exact ⟨BitVec.eq_of_getLsbD_eq fun i hi => (key i hi).1, BitVec.eq_of_getLsbD_eq fun i hi => (key i hi).2.1, BitVec.eq_of_getLsbD_eq fun i hi => (key i hi).2.2.1, BitVec.eq_of_getLsbD_eq fun i hi => (key i hi).2.2.2.1, BitVec.eq_of_getLsbD_eq fun i hi => (key i hi).2.2.2.2⟩

theorem bend_inj {s t : List Int} (hs : s.length = 25) (ht : t.length = 25) (h : (bend s).map lb = (bend t).map lb) : s.map lb = t.map lb := by
  rw [bend, bend_is, bend, bend_is] at h
  obtain ⟨x0, x1, x2, x3, x4, x5, x6, x7, x8, x9, x10, x11, x12, x13, x14, x15, x16, x17, x18, x19, x20, x21, x22, x23, x24, rfl⟩ := list25 hs
  obtain ⟨y0, y1, y2, y3, y4, y5, y6, y7, y8, y9, y10, y11, y12, y13, y14, y15, y16, y17, y18, y19, y20, y21, y22, y23, y24, rfl⟩ := list25 ht
  · rw [bend_x, bend_x] at h
    simp only [List.map_cons, List.map_nil, List.cons.injEq, lb_bdo] at h
    obtain ⟨e0, e1, e2, e3, e4, e5, e6, e7, e8, e9, e10, e11, e12, e13, e14, e15, e16, e17, e18, e19, e20, e21, e22, e23, e24, _⟩ := h
    obtain ⟨f0, f1, f2, f3, f4⟩ := chi_inj e0 e1 e2 e3 e4
    obtain ⟨f5, f6, f7, f8, f9⟩ := chi_inj e5 e6 e7 e8 e9
    obtain ⟨f10, f11, f12, f13, f14⟩ := chi_inj e10 e11 e12 e13 e14
    obtain ⟨f15, f16, f17, f18, f19⟩ := chi_inj e15 e16 e17 e18 e19
    obtain ⟨f20, f21, f22, f23, f24⟩ := chi_inj e20 e21 e22 e23 e24
    simp only [List.map_cons, List.map_nil, f0, f1, f2, f3, f4, f5, f6, f7, f8, f9, f10, f11, f12, f13, f14, f15, f16, f17, f18, f19, f20, f21, f22, f23, f24]
theorem move_inj {s t : List Int} (hs : s.length = 25) (ht : t.length = 25) (rs : ∀ a ∈ s, InR a) (rt' : ∀ a ∈ t, InR a) (h : (move s).map lb = (move t).map lb) : s.map lb = t.map lb := by
  rw [move, move_is, move, move_is] at h
  obtain ⟨x0, x1, x2, x3, x4, x5, x6, x7, x8, x9, x10, x11, x12, x13, x14, x15, x16, x17, x18, x19, x20, x21, x22, x23, x24, rfl⟩ := list25 hs
  obtain ⟨y0, y1, y2, y3, y4, y5, y6, y7, y8, y9, y10, y11, y12, y13, y14, y15, y16, y17, y18, y19, y20, y21, y22, y23, y24, rfl⟩ := list25 ht
  · simp only [List.forall_mem_cons] at rs rt'
    obtain ⟨r0, r1, r2, r3, r4, r5, r6, r7, r8, r9, r10, r11, r12, r13, r14, r15, r16, r17, r18, r19, r20, r21, r22, r23, r24, _⟩ := rs
    obtain ⟨q0, q1, q2, q3, q4, q5, q6, q7, q8, q9, q10, q11, q12, q13, q14, q15, q16, q17, q18, q19, q20, q21, q22, q23, q24, _⟩ := rt'
    rw [move_x, move_x] at h
    simp only [List.map_cons, List.map_nil, List.cons.injEq] at h
    obtain ⟨e0, e1, e2, e3, e4, e5, e6, e7, e8, e9, e10, e11, e12, e13, e14, e15, e16, e17, e18, e19, e20, e21, e22, e23, e24, _⟩ := h
    have f0 := e0
    have f6 := rol_inj (k := 44) (by omega) (by omega) ((lb_rotl r6 44 (by omega) (by omega)).symm.trans (e1.trans (lb_rotl q6 44 (by omega) (by omega))))
    have f12 := rol_inj (k := 43) (by omega) (by omega) ((lb_rotl r12 43 (by omega) (by omega)).symm.trans (e2.trans (lb_rotl q12 43 (by omega) (by omega))))
    have f18 := rol_inj (k := 21) (by omega) (by omega) ((lb_rotl r18 21 (by omega) (by omega)).symm.trans (e3.trans (lb_rotl q18 21 (by omega) (by omega))))
    have f24 := rol_inj (k := 14) (by omega) (by omega) ((lb_rotl r24 14 (by omega) (by omega)).symm.trans (e4.trans (lb_rotl q24 14 (by omega) (by omega))))
    have f3 := rol_inj (k := 28) (by omega) (by omega) ((lb_rotl r3 28 (by omega) (by omega)).symm.trans (e5.trans (lb_rotl q3 28 (by omega) (by omega))))
    have f9 := rol_inj (k := 20) (by omega) (by omega) ((lb_rotl r9 20 (by omega) (by omega)).symm.trans (e6.trans (lb_rotl q9 20 (by omega) (by omega))))
    have f10 := rol_inj (k := 3) (by omega) (by omega) ((lb_rotl r10 3 (by omega) (by omega)).symm.trans (e7.trans (lb_rotl q10 3 (by omega) (by omega))))
    have f16 := rol_inj (k := 45) (by omega) (by omega) ((lb_rotl r16 45 (by omega) (by omega)).symm.trans (e8.trans (lb_rotl q16 45 (by omega) (by omega))))
    have f22 := rol_inj (k := 61) (by omega) (by omega) ((lb_rotl r22 61 (by omega) (by omega)).symm.trans (e9.trans (lb_rotl q22 61 (by omega) (by omega))))
    have f1 := rol_inj (k := 1) (by omega) (by omega) ((lb_rotl r1 1 (by omega) (by omega)).symm.trans (e10.trans (lb_rotl q1 1 (by omega) (by omega))))
    have f7 := rol_inj (k := 6) (by omega) (by omega) ((lb_rotl r7 6 (by omega) (by omega)).symm.trans (e11.trans (lb_rotl q7 6 (by omega) (by omega))))
    have f13 := rol_inj (k := 25) (by omega) (by omega) ((lb_rotl r13 25 (by omega) (by omega)).symm.trans (e12.trans (lb_rotl q13 25 (by omega) (by omega))))
    have f19 := rol_inj (k := 8) (by omega) (by omega) ((lb_rotl r19 8 (by omega) (by omega)).symm.trans (e13.trans (lb_rotl q19 8 (by omega) (by omega))))
    have f20 := rol_inj (k := 18) (by omega) (by omega) ((lb_rotl r20 18 (by omega) (by omega)).symm.trans (e14.trans (lb_rotl q20 18 (by omega) (by omega))))
    have f4 := rol_inj (k := 27) (by omega) (by omega) ((lb_rotl r4 27 (by omega) (by omega)).symm.trans (e15.trans (lb_rotl q4 27 (by omega) (by omega))))
    have f5 := rol_inj (k := 36) (by omega) (by omega) ((lb_rotl r5 36 (by omega) (by omega)).symm.trans (e16.trans (lb_rotl q5 36 (by omega) (by omega))))
    have f11 := rol_inj (k := 10) (by omega) (by omega) ((lb_rotl r11 10 (by omega) (by omega)).symm.trans (e17.trans (lb_rotl q11 10 (by omega) (by omega))))
    have f17 := rol_inj (k := 15) (by omega) (by omega) ((lb_rotl r17 15 (by omega) (by omega)).symm.trans (e18.trans (lb_rotl q17 15 (by omega) (by omega))))
    have f23 := rol_inj (k := 56) (by omega) (by omega) ((lb_rotl r23 56 (by omega) (by omega)).symm.trans (e19.trans (lb_rotl q23 56 (by omega) (by omega))))
    have f2 := rol_inj (k := 62) (by omega) (by omega) ((lb_rotl r2 62 (by omega) (by omega)).symm.trans (e20.trans (lb_rotl q2 62 (by omega) (by omega))))
    have f8 := rol_inj (k := 55) (by omega) (by omega) ((lb_rotl r8 55 (by omega) (by omega)).symm.trans (e21.trans (lb_rotl q8 55 (by omega) (by omega))))
    have f14 := rol_inj (k := 39) (by omega) (by omega) ((lb_rotl r14 39 (by omega) (by omega)).symm.trans (e22.trans (lb_rotl q14 39 (by omega) (by omega))))
    have f15 := rol_inj (k := 41) (by omega) (by omega) ((lb_rotl r15 41 (by omega) (by omega)).symm.trans (e23.trans (lb_rotl q15 41 (by omega) (by omega))))
    have f21 := rol_inj (k := 2) (by omega) (by omega) ((lb_rotl r21 2 (by omega) (by omega)).symm.trans (e24.trans (lb_rotl q21 2 (by omega) (by omega))))
    simp only [List.map_cons, List.map_nil, f0, f1, f2, f3, f4, f5, f6, f7, f8, f9, f10, f11, f12, f13, f14, f15, f16, f17, f18, f19, f20, f21, f22, f23, f24]
theorem cols_lb {s c : List Int} (hs : s.length = 25) (hc : colsG xo s 25 = c) : ∃ c0 c1 c2 c3 c4, c = [c0, c1, c2, c3, c4] ∧ InR c0 ∧ InR c1 ∧ InR c2 ∧ InR c3 ∧ InR c4 ∧ ∀ j, j < 5 → lb (c.getD j 0) = lb (s.getD j 0) ^^^ lb (s.getD (j + 5) 0) ^^^ lb (s.getD (j + 10) 0) ^^^ lb (s.getD (j + 15) 0) ^^^ lb (s.getD (j + 20) 0) := by
  obtain ⟨x0, x1, x2, x3, x4, x5, x6, x7, x8, x9, x10, x11, x12, x13, x14, x15, x16, x17, x18, x19, x20, x21, x22, x23, x24, rfl⟩ := list25 hs
  · rw [cols_x] at hc
    subst hc
    refine ⟨_, _, _, _, _, rfl, inR_xo _ _, inR_xo _ _, inR_xo _ _, inR_xo _ _, inR_xo _ _, fun j hj => ?_⟩
    have z : ∀ a : BitVec 64, lb 0 ^^^ a = a := fun a => BitVec.zero_xor
    match j, hj with
    | 0, _ => simp only [List.getD_cons_zero, List.getD_cons_succ, lb_xo, z]
    | 1, _ => simp only [List.getD_cons_zero, List.getD_cons_succ, lb_xo, z]
    | 2, _ => simp only [List.getD_cons_zero, List.getD_cons_succ, lb_xo, z]
    | 3, _ => simp only [List.getD_cons_zero, List.getD_cons_succ, lb_xo, z]
    | 4, _ => simp only [List.getD_cons_zero, List.getD_cons_succ, lb_xo, z]
theorem mix_inj {s t : List Int} (hs : s.length = 25) (ht : t.length = 25) (h : (mix s).map lb = (mix t).map lb) : s.map lb = t.map lb := by
  rw [mix, mix_is, cols_is, mix, mix_is, cols_is] at h
  obtain ⟨c, hc⟩ : ∃ c, colsG xo s 25 = c := ⟨_, rfl⟩
  obtain ⟨d, hd⟩ : ∃ d, colsG xo t 25 = d := ⟨_, rfl⟩
  obtain ⟨c0, c1, c2, c3, c4, ec, u0, u1, u2, u3, u4, gc⟩ := cols_lb hs hc
  obtain ⟨d0, d1, d2, d3, d4, ed, v0, v1, v2, v3, v4, gd⟩ := cols_lb ht hd
  rw [hc, hd, ec, ed] at h
  subst ec ed
  have gc0 := gc 0 (by omega)
  have gc1 := gc 1 (by omega)
  have gc2 := gc 2 (by omega)
  have gc3 := gc 3 (by omega)
  have gc4 := gc 4 (by omega)
  have gd0 := gd 0 (by omega)
  have gd1 := gd 1 (by omega)
  have gd2 := gd 2 (by omega)
  have gd3 := gd 3 (by omega)
  have gd4 := gd 4 (by omega)
  clear gc gd hc hd
  obtain ⟨x0, x1, x2, x3, x4, x5, x6, x7, x8, x9, x10, x11, x12, x13, x14, x15, x16, x17, x18, x19, x20, x21, x22, x23, x24, rfl⟩ := list25 hs
  obtain ⟨y0, y1, y2, y3, y4, y5, y6, y7, y8, y9, y10, y11, y12, y13, y14, y15, y16, y17, y18, y19, y20, y21, y22, y23, y24, rfl⟩ := list25 ht
  · rw [mix_x, mix_x] at h
    have k0 := lb_rotl u0 1 (by omega) (by omega)
    have k1 := lb_rotl u1 1 (by omega) (by omega)
    have k2 := lb_rotl u2 1 (by omega) (by omega)
    have k3 := lb_rotl u3 1 (by omega) (by omega)
    have k4 := lb_rotl u4 1 (by omega) (by omega)
    have l0 := lb_rotl v0 1 (by omega) (by omega)
    have l1 := lb_rotl v1 1 (by omega) (by omega)
    have l2 := lb_rotl v2 1 (by omega) (by omega)
    have l3 := lb_rotl v3 1 (by omega) (by omega)
    have l4 := lb_rotl v4 1 (by omega) (by omega)
    have o1 : ((1 : Nat) : Int) = 1 := rfl
    rw [o1] at k0 k1 k2 k3 k4 l0 l1 l2 l3 l4
    simp only [List.map_cons, List.map_nil, List.cons.injEq, lb_xo, k0, k1, k2, k3, k4, l0, l1, l2, l3, l4] at h
    obtain ⟨e0, e1, e2, e3, e4, e5, e6, e7, e8, e9, e10, e11, e12, e13, e14, e15, e16, e17, e18, e19, e20, e21, e22, e23, e24, _⟩ := h
    simp only [List.getD_cons_zero, List.getD_cons_succ] at gc0 gc1 gc2 gc3 gc4 gd0 gd1 gd2 gd3 gd4
    clear k0 k1 k2 k3 k4 l0 l1 l2 l3 l4 u0 u1 u2 u3 u4 v0 v1 v2 v3 v4
    have t0 := sum5 e0 e5 e10 e15 e20
    rw [← gc0, ← gd0, ← BitVec.xor_assoc, ← BitVec.xor_assoc] at t0
    have t1 := sum5 e1 e6 e11 e16 e21
    rw [← gc1, ← gd1, ← BitVec.xor_assoc, ← BitVec.xor_assoc] at t1
    have t2 := sum5 e2 e7 e12 e17 e22
    rw [← gc2, ← gd2, ← BitVec.xor_assoc, ← BitVec.xor_assoc] at t2
    have t3 := sum5 e3 e8 e13 e18 e23
    rw [← gc3, ← gd3, ← BitVec.xor_assoc, ← BitVec.xor_assoc] at t3
    have t4 := sum5 e4 e9 e14 e19 e24
    rw [← gc4, ← gd4, ← BitVec.xor_assoc, ← BitVec.xor_assoc] at t4
    have ci := cols_inj (c := fun j => lb ([c0, c1, c2, c3, c4].getD j 0)) (d := fun j => lb ([d0, d1, d2, d3, d4].getD j 0)) fun j hj => by
      match j, hj with
      | 0, _ => exact t0
      | 1, _ => exact t1
      | 2, _ => exact t2
      | 3, _ => exact t3
      | 4, _ => exact t4
    have w0 : lb c0 = lb d0 := ci 0 (by omega)
    have w1 : lb c1 = lb d1 := ci 1 (by omega)
    have w2 : lb c2 = lb d2 := ci 2 (by omega)
    have w3 : lb c3 = lb d3 := ci 3 (by omega)
    have w4 : lb c4 = lb d4 := ci 4 (by omega)
    have f0 := xor_cancel e0 (by rw [w4, w1])
    have f1 := xor_cancel e1 (by rw [w0, w2])
    have f2 := xor_cancel e2 (by rw [w1, w3])
    have f3 := xor_cancel e3 (by rw [w2, w4])
    have f4 := xor_cancel e4 (by rw [w3, w0])
    have f5 := xor_cancel e5 (by rw [w4, w1])
    have f6 := xor_cancel e6 (by rw [w0, w2])
    have f7 := xor_cancel e7 (by rw [w1, w3])
    have f8 := xor_cancel e8 (by rw [w2, w4])
    have f9 := xor_cancel e9 (by rw [w3, w0])
    have f10 := xor_cancel e10 (by rw [w4, w1])
    have f11 := xor_cancel e11 (by rw [w0, w2])
    have f12 := xor_cancel e12 (by rw [w1, w3])
    have f13 := xor_cancel e13 (by rw [w2, w4])
    have f14 := xor_cancel e14 (by rw [w3, w0])
    have f15 := xor_cancel e15 (by rw [w4, w1])
    have f16 := xor_cancel e16 (by rw [w0, w2])
    have f17 := xor_cancel e17 (by rw [w1, w3])
    have f18 := xor_cancel e18 (by rw [w2, w4])
    have f19 := xor_cancel e19 (by rw [w3, w0])
    have f20 := xor_cancel e20 (by rw [w4, w1])
    have f21 := xor_cancel e21 (by rw [w0, w2])
    have f22 := xor_cancel e22 (by rw [w1, w3])
    have f23 := xor_cancel e23 (by rw [w2, w4])
    have f24 := xor_cancel e24 (by rw [w3, w0])
    simp only [List.map_cons, List.map_nil, f0, f1, f2, f3, f4, f5, f6, f7, f8, f9, f10, f11, f12, f13, f14, f15, f16, f17, f18, f19, f20, f21, f22, f23, f24]
end Go.Sx.Tryd
end
section
namespace Go.Sx.Tryd
open Go.Proofs
theorem mem_map {l : List Int} {P : Int → Prop} (h : ∀ i, i < l.length → P (l.getD i 0)) : ∀ a ∈ l, P a := fun a ha => by
  obtain ⟨i, hi, rfl⟩ := List.mem_iff_getElem.1 ha
  have := h i hi
  rwa [List.getD_eq_getElem?_getD, List.getElem?_eq_getElem hi] at this
theorem mixUpTo_rng (s c : List Int) (hs : ∀ a ∈ s, InR a) : ∀ n, ∀ a ∈ mixUpTo s c n, InR a
  | 0 => hs
  | n + 1 => fun a ha => by
    rcases List.mem_or_eq_of_mem_set ha with h | h
    · exact mixUpTo_rng s c hs n a h
    · rw [h]; exact inR_wrap _
theorem moveUpTo_rng (s : List Int) (hs : ∀ a ∈ s, InR a) (h0 : InR (s.getD 1 0)) : ∀ n, (∀ a ∈ (moveUpTo s n).2, InR a)
  | 0 => hs
  | n + 1 => fun a ha => by
    rcases List.mem_or_eq_of_mem_set ha with h | h
    · exact moveUpTo_rng s hs h0 n a h
    · rw [h]; exact inR_wrap _
theorem bendRow_rng (row : List Int) (y : Nat) (s : List Int) (hs : ∀ a ∈ s, InR a) : ∀ n, ∀ a ∈ bendRow row y s n, InR a
  | 0 => hs
  | n + 1 => fun a ha => by
    rcases List.mem_or_eq_of_mem_set ha with h | h
    · exact bendRow_rng row y s hs n a h
    · rw [h]; exact inR_wrap _
theorem bendUpTo_rng (s : List Int) (hs : ∀ a ∈ s, InR a) : ∀ n, ∀ a ∈ bendUpTo s n, InR a
  | 0 => hs
  | n + 1 => bendRow_rng _ _ _ (bendUpTo_rng s hs n) 5
theorem inR_getD {s : List Int} (hs : ∀ a ∈ s, InR a) (i : Nat) : InR (s.getD i 0) := by
  rw [List.getD_eq_getElem?_getD]
  cases h : s[i]? with
  | none => exact ⟨Int.le_refl _, by decide⟩
  | some a => exact hs a (List.mem_of_getElem? h)
theorem mix_rng {s : List Int} (hs : ∀ a ∈ s, InR a) : ∀ a ∈ mix s, InR a := mixUpTo_rng _ _ hs 25
theorem move_rng {s : List Int} (hs : ∀ a ∈ s, InR a) : ∀ a ∈ move s, InR a := moveUpTo_rng _ hs (inR_getD hs 1) 24
theorem bend_rng {s : List Int} (hs : ∀ a ∈ s, InR a) : ∀ a ∈ bend s, InR a := bendUpTo_rng _ hs 5
theorem turn_rng {s : List Int} (hs : ∀ a ∈ s, InR a) (r : Nat) : ∀ a ∈ turn s r, InR a := fun a ha => by
  rcases List.mem_or_eq_of_mem_set ha with h | h
  · exact bend_rng (move_rng (mix_rng hs)) a h
  · rw [h]; exact inR_wrap _
theorem permUpTo_rng {s : List Int} (hs : ∀ a ∈ s, InR a) : ∀ n, ∀ a ∈ permUpTo s n, InR a
  | 0 => hs
  | n + 1 => turn_rng (permUpTo_rng hs n) n
theorem mix_len (s : List Int) : (mix s).length = s.length := mixUpTo_len _ _ _
theorem move_len (s : List Int) : (move s).length = s.length := moveUpTo_len _ _
theorem bend_len (s : List Int) : (bend s).length = s.length := bendUpTo_len _ _
theorem map_lb_inj : ∀ {s t : List Int}, (∀ a ∈ s, InR a) → (∀ a ∈ t, InR a) → s.map lb = t.map lb → s = t
  | [], [], _, _, _ => rfl
  | [], _ :: _, _, _, h => by simp at h
  | _ :: _, [], _, _, h => by simp at h
  | a :: s, b :: t, hs, ht, h => by
    simp only [List.map_cons, List.cons.injEq] at h
    rw [lb_inj (hs a (List.mem_cons_self ..)) (ht b (List.mem_cons_self ..)) h.1, map_lb_inj (fun x hx => hs x (List.mem_cons_of_mem _ hx)) (fun x hx => ht x (List.mem_cons_of_mem _ hx)) h.2]
theorem set_inj {w v : List Int} {k : Int} (hw : w.length = 25) (hv : v.length = 25) (h : w.set 0 (binL .xor .u64 (w.getD 0 0) k) = v.set 0 (binL .xor .u64 (v.getD 0 0) k)) : w.map lb = v.map lb := by
  match w, v, hw, hv with
  | a :: w, b :: v, _, _ =>
    simp only [List.set_cons_zero, List.getD_cons_zero, List.cons.injEq] at h
    simp only [List.map_cons, h.2, List.cons.injEq, and_true]
    have h1 := congrArg lb h.1
    have h2 := lb_xo a k
    have h3 := lb_xo b k
    rw [xo] at h2 h3
    rw [h2, h3] at h1
    exact xor_cancel h1 rfl
theorem turn_inj {s t : List Int} {r : Nat} (hs : s.length = 25) (ht : t.length = 25) (rs : ∀ a ∈ s, InR a) (rt : ∀ a ∈ t, InR a) (h : turn s r = turn t r) : s = t := by
  have h1 := set_inj (by rw [bend_len, move_len, mix_len]; exact hs) (by rw [bend_len, move_len, mix_len]; exact ht) h
  have h2 := bend_inj (by rw [move_len, mix_len]; exact hs) (by rw [move_len, mix_len]; exact ht) h1
  have h3 := move_inj (by rw [mix_len]; exact hs) (by rw [mix_len]; exact ht) (mix_rng rs) (mix_rng rt) h2
  exact map_lb_inj rs rt (mix_inj hs ht h3)
theorem permUpTo_inj {s t : List Int} (hs : s.length = 25) (ht : t.length = 25) (rs : ∀ a ∈ s, InR a) (rt : ∀ a ∈ t, InR a) (n : Nat) : permUpTo s n = permUpTo t n → s = t := by
  induction n with
  | zero => exact id
  | succ n ih =>
    intro h
    simp only [permUpTo] at h
    exact ih (turn_inj (by rw [permUpTo_len]; exact hs) (by rw [permUpTo_len]; exact ht) (permUpTo_rng rs n) (permUpTo_rng rt n) h)
/-- What is permuted tells what it was. -/
theorem permute_inj {s t : List Int} (hs : s.length = 25) (ht : t.length = 25) (rs : ∀ a ∈ s, InR a) (rt : ∀ a ∈ t, InR a) (h : permute s = permute t) : s = t := permUpTo_inj hs ht rs rt 24 h
def s4 : PSpec := fun args => match args with
  | [.row .u64 25 s, .row .u64 25 t] => ⟨∀ _ : Unit, s.length = 25 ∧ t.length = 25 ∧ (∀ a ∈ s, InR a) ∧ (∀ a ∈ t, InR a), Bool, fun b => b = true, fun b => .bs b⟩
  | _ => PR.none
theorem c4 : Ctr Tryd.prog T glob 4 s4 := by
  refine ctr_of T_ok glob_ids mixed [(14, s14), (16, s16)] [] (c_cons c14 (c_cons c16 c_nil)) i_nil Tryd.func4 (by rfl) (by kernel_rfl) Tryd.call4 ?_ ?_
  · intro args; unfold s4; split <;> first | exact PR.good_none | exact good_bool ⟨trivial, trivial, trivial⟩ fun _ => ⟨_, rfl⟩
  · intro P Ω hΩ hE hI hm args pr hs hp Q hQ
    unfold s4 at hs
    split at hs <;> subst hs <;> try (exact hp.elim)
    rename_i s t
    obtain ⟨ls, lt, rs, rt⟩ := hp ()
    refine ⟨1000, ?_⟩
    cbv
    refine ⟨fun _ _ => ls, fun z hz => ?_⟩
    cbv
    refine ⟨fun _ _ => lt, fun y hy => ?_⟩
    cbv
    have hzy : (z == y) = (s == t) := by
      have h1 : z = permute s := hz
      have h2 : y = permute t := hy
      cases h : s == t with
      | true => rw [h1, h2, eq_of_beq h]; simp
      | false =>
        rw [h1, h2]
        cases h3 : permute s == permute t with
        | false => rfl
        | true =>
          have := permute_inj ls lt rs rt (eq_of_beq h3)
          rw [this] at h
          simp at h
    refine ⟨fun he => ?_, fun he => ?_⟩
    · cbv
      refine ⟨fun _ => trivial, fun b hb => ?_⟩
      cbv
      have hb' : b = true := hb
      subst hb'
      exact hQ _ _ _ _ rfl rfl
    · exfalso
      subst hΩ
      have h1 : (if (z == y) = true then (s == t) else !(s == t)) = false := he
      rw [hzy] at h1
      cases s == t <;> simp at h1
end Go.Sx.Tryd
end
section
namespace Go.Sx.Tryd
open Go.Proofs
theorem inR_of {a : Int} (h : isInt .u64 a) : InR a := by
  have h' : (Lit.int .u64 a).wf = true := h
  simp only [Lit.wf, Bool.and_eq_true, decide_eq_true_eq] at h'
  have h1 : IntKind.u64.min = 0 := by rfl
  have h2 : IntKind.u64.max = 18446744073709551615 := by rfl
  rw [h1, h2] at h'
  unfold InR
  omega
end Go.Sx.Tryd
end
