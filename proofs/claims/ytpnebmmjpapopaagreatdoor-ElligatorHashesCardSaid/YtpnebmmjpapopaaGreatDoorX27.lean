/-
  Part of the proof of a statement: the means.
-/
import Derived.Test.YtpnebmmjpapopaaGreatDoorX26
import Derived.Test.YtpnebmmjpapopaaGreatDoorX10
set_option linter.unusedSectionVars false
set_option linter.unusedVariables false
set_option linter.unusedSimpArgs false
set_option linter.deprecated false
section
set_option maxHeartbeats 4000000
namespace Go.Sx.Tryz
open Go.Proofs
set_option maxRecDepth 40000
def qfd (Ω : Om) : qe := fun args => match args with
 | [.roi .u8 bs] => ⟨∀ _ : Unit, bs.length = 56 /\ (∀ a ∈ bs, 0 <= a /\ a < 256), Unit, fun _ => True, fun _ => .ab (.rp (Ω.hide _ fun _ => ePt bs))⟩
 | _ => PR.none
theorem qov : Ctr Tryz.prog T glob 38 (qfd Om.real) := by
 refine qq T_ok qg qh (fun Ω => [(28, qhL Ω), (108, qhH Ω)]) [] (fun Ω => []) [] (qb quB (qb quu qi)) qj qk ql Tryz.func38 (by rfl) (by kernel_rfl) Tryz.call38 ?_ ?_
 ·intro args; unfold qfd; split
  ·exact qr (by repeat' constructor) (fun _ _ => rfl) (by repeat' constructor)
  ·exact PR.good_none
 ·intro P Ω hΩ hE hI hm args pr hs hp Q hQ
  unfold qfd at hs
  split at hs <;> subst hs <;> try (exact hp.elim)
  rename_i bs
  obtain ⟨hl, hb⟩ := hp ()
  refine ⟨1000, ?_⟩
  conv => cbv
  constructor
  ·exact fun (_ : Unit) (_ : Unit) => ⟨hl, hb⟩
  intro _ _
  conv => cbv
  constructor
  ·exact fun (_ : Unit) (_ : Unit) => (by subst hΩ; exact e_on (fI (qd bs)))
  intro _ _
  conv => cbv
  refine hQ () _ _ _ trivial ?_
  subst hΩ
  show Pay.rp ⟨eX (fI (qd bs)), eY (fI (qd bs))⟩ = Pay.rp (ePt bs)
  unfold ePt
  rfl
def qhN (Ω : Om) : qe := fun args => match args with
 | [.roi .u8 bs] => ⟨∀ _ : Unit, bs.length = 112 /\ (∀ a ∈ bs, 0 <= a /\ a < 256), Unit, fun _ => True, fun _ => .ab (.rp (Ω.hide _ fun _ => padd (ePt ((bs.drop 0).take 56)) (ePt ((bs.drop 56).take 56))))⟩
 | _ => PR.none
theorem quD : Ctr Tryz.prog T glob 40 (qhN Om.real) := by
 refine qq T_ok qg qh (fun Ω => [(38, qfd Ω), (109, qhE Ω)]) [] (fun Ω => []) [] (qb qov (qb qur qi)) qj qk ql Tryz.func40 (by rfl) (by kernel_rfl) Tryz.call40 ?_ ?_
 ·intro args; unfold qhN; split
  ·exact qr (by repeat' constructor) (fun _ _ => rfl) (by repeat' constructor)
  ·exact PR.good_none
 ·intro P Ω hΩ hE hI hm args pr hs hp Q hQ
  unfold qhN at hs
  split at hs <;> subst hs <;> try (exact hp.elim)
  rename_i bs
  obtain ⟨hl, hb⟩ := hp ()
  refine ⟨1000, ?_⟩
  conv => cbv
  constructor
  ·exact fun (_ : Unit) => ⟨trivial, trivial, trivial, (by decide : (0 : Nat) <= 56), (by subst hΩ; show 56 <= bs.length; omega), Nat.le_refl _⟩
  constructor
  ·exact fun (_ : Unit) (_ : Unit) => ⟨by subst hΩ; show ((bs.drop 0).take 56).length = 56; rw [List.length_take, List.length_drop]; omega, by subst hΩ; exact qdK hb 0 56⟩
  intro _ _
  conv => cbv
  constructor
  ·exact fun (_ : Unit) => ⟨trivial, trivial, trivial, (by subst hΩ; show 56 <= bs.length; omega), Nat.le_refl _, Nat.le_refl _⟩
  have hs2 : ∀ Ω : Om, Ω = Om.real -> (Ω.sub bs 56 (Ω.nsub (Ω.len bs) 56)) = (bs.drop 56).take 56 := fun Ω h => by
   subst h
   show (bs.drop 56).take (bs.length - 56) = _
   rw [show bs.length - 56 = 56 by omega]
  constructor
  ·intro _ _
   have h3 := hs2 Ω hΩ
   subst hΩ
   show (Om.real.sub bs 56 (Om.real.nsub (Om.real.len bs) 56)).length = 56 /\ ∀ a ∈ Om.real.sub bs 56 (Om.real.nsub (Om.real.len bs) 56), 0 <= a /\ a < 256
   rw [h3]
   exact ⟨by rw [List.length_take, List.length_drop]; omega, qdK hb 56 56⟩
  intro _ _
  conv => cbv
  constructor; (first | exact fun (_ : Unit) => trivial | exact fun (_ : Unit) (_ : Unit) => (by decide)); intro _ _; conv => cbv
  refine hQ () _ _ _ trivial ?_
  have h3 := hs2 Ω hΩ
  subst hΩ
  show Pay.rp (padd (ePt ((bs.drop 0).take 56)) (ePt (Om.real.sub bs 56 (Om.real.nsub (Om.real.len bs) 56)))) = _
  rw [h3]
  rfl
def qfe (Ω : Om) : qe := fun args => match args with
 | [.ab (.pt P), .ab (.rp Q)] => ⟨True, Unit, fun _ => True, fun _ => .bs (Ω.hide _ fun _ => qae (encF P) == qae (encF Q))⟩
 | _ => PR.none
theorem qow : Ctr Tryz.prog T glob 37 (qfe Om.real) := by
 refine qq T_ok qg qh (fun Ω => [(44, qgG Ω), (107, qhJ Ω), (18, qhM Ω)]) [] (fun Ω => []) [] (qb qru (qb quw (qb quC qi))) qj qk ql Tryz.func37 (by rfl) (by kernel_rfl) Tryz.call37 ?_ ?_
 ·intro args; unfold qfe; split
  ·exact qr (by repeat' constructor) (fun _ _ => rfl) (by repeat' constructor)
  ·exact PR.good_none
 ·intro P Ω hΩ hE hI hm args pr hs hp Q hQ
  unfold qfe at hs
  split at hs <;> subst hs <;> try (exact hp.elim)
  rename_i P R
  refine ⟨1000, ?_⟩
  conv => cbv
  constructor; (first | exact fun (_ : Unit) => trivial | exact fun (_ : Unit) (_ : Unit) => (by decide)); intro _ _; conv => cbv
  rename_i x hx
  have hx : x.1 = qae (encF P) /\ x.1.length <= x.2 := by subst hΩ; exact hx
  constructor
  ·exact fun (_ : Unit) => trivial
  intro y hy
  have hy : y.1 = qae (encF R) /\ y.1.length <= y.2 := by subst hΩ; exact hy
  have hsx : (x.1.drop 0).take x.1.length = x.1 := by rw [List.drop_zero, List.take_length]
  have hsy : (y.1.drop 0).take y.1.length = y.1 := by rw [List.drop_zero, List.take_length]
  conv => cbv
  constructor
  ·exact fun _ => ⟨by subst hΩ; show 0 + x.1.length <= x.1.length; omega, by subst hΩ; show 0 + y.1.length <= y.1.length; omega, trivial⟩
  constructor
  ·intro _ _
   subst hΩ
   show ((x.1.drop 0).take x.1.length).length < _ /\ ((y.1.drop 0).take y.1.length).length < _
   rw [hsx, hsy, hx.1, hy.1, qi5, qi5]
   decide
  intro _ _
  conv => cbv
  refine hQ () _ _ _ trivial ?_
  subst hΩ
  refine ?_
  show ((x.1.drop 0).take x.1.length == (y.1.drop 0).take y.1.length) = (qae (encF P) == qae (encF R))
  rw [hsx, hsy, hx.1, hy.1]
def qjV (Ω : Om) : qe := fun args => match args with
 | [.roi .u8 bs] => ⟨∀ _ : Unit, (∀ a ∈ bs, 0 <= a /\ a < 256) /\ bs.length < 9223372036854775808, Bool, fun b => b = true, fun b => .bs b⟩
 | _ => PR.none
theorem c_chicorylaw15_ElligatorMaps : Ctr Tryz.prog T glob 6 (qjV Om.real) := by
 refine qq T_ok qg qh (fun Ω => [(26, qfc Ω), (32, qc4 Ω), (37, qfe Ω), (38, qfd Ω)]) [] (fun Ω => []) [] (qb qos (qb qhr (qb qow (qb qov qi)))) qj qk ql Tryz.func6 (by rfl) (by kernel_rfl) Tryz.call6 ?_ ?_
 ·intro args; unfold qjV; split
  ·exact qiY ⟨trivial, trivial⟩ fun _ => ⟨_, rfl⟩
  ·exact PR.good_none
 ·intro P Ω hΩ hE hI hm args pr hs hp Q hQ
  unfold qjV at hs
  split at hs <;> subst hs <;> try (exact hp.elim)
  rename_i bs
  obtain ⟨hb, hl⟩ := hp ()
  refine ⟨1000, ?_⟩
  conv => cbv
  constructor
  ·intro hc
   cbv
   constructor
   ·exact fun (_ : Unit) => trivial
   intro w hw
   conv => cbv
   refine hQ _ _ _ _ ?_ rfl
   exact hw
  ·intro hc
   cbv
   constructor
   ·exact fun (_ : Unit) (_ : Unit) => ⟨hb, by omega⟩
   intro z hz
   cases z with
   | false =>
     have hne : ¬ bs.length = 56 := by
       intro h
       have h2 : false = (bs.length == 56) := hz
       rw [h] at h2
       exact Bool.noConfusion h2
     conv => cbv
     constructor
     rotate_left
     · intro h
       have h' : False := by (subst hΩ; have h2 : (((bs.length : Nat) : Int) != 56) = false := h; rw [bne_eq_false_iff_eq] at h2; omega); first | done | (subst hΩ; exact Bool.noConfusion (show true = false from h))
       contradiction
     intro _
     conv => cbv
     constructor
     · exact fun (_ : Unit) => trivial
     intro w hw
     conv => cbv
     refine hQ _ _ _ _ ?_ rfl
     exact hw
   | true =>
     have h56 : bs.length = 56 := by
       have h2 : true = (bs.length == 56) := hz
       exact eq_of_beq h2.symm
     conv => cbv
     constructor
     · intro h
       have h' : False := by (subst hΩ; have h2 : (((bs.length : Nat) : Int) != 56) = true := h; rw [bne_iff_ne] at h2; omega); first | done | (subst hΩ; exact Bool.noConfusion (show false = true from h))
       contradiction
     intro _
     conv => cbv
     constructor
     · exact fun (_ : Unit) (_ : Unit) => ⟨h56, hb⟩
     intro _ _
     conv => cbv
     constructor; (first | exact fun (_ : Unit) => trivial | exact fun (_ : Unit) (_ : Unit) => (by decide)); intro _ _; conv => cbv
     constructor
     rotate_left
     · intro h
       have h' : False := by (subst hΩ; exact Bool.noConfusion ((beq_self_eq_true (qae (encF (ePt bs)))).symm.trans h)); first | done | (subst hΩ; exact Bool.noConfusion (show true = false from h))
       contradiction
     intro _
     conv => cbv
     constructor
     · exact fun (_ : Unit) => trivial
     intro w hw
     conv => cbv
     refine hQ _ _ _ _ ?_ rfl
     exact hw
end Go.Sx.Tryz
end
