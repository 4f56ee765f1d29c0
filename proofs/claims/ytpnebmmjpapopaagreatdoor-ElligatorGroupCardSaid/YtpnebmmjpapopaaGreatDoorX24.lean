/-
  Part of the proof of a statement: the means.
-/
import Derived.Test.YtpnebmmjpapopaaGreatDoorX23
import Derived.Test.YtpnebmmjpapopaaGreatDoorX14
set_option linter.unusedSectionVars false
set_option linter.unusedVariables false
set_option linter.unusedSimpArgs false
set_option linter.deprecated false
section
set_option maxHeartbeats 4000000
namespace Go.Sx.Tryz.K
open Go.Proofs
def qah (s r : List Int) : Nat -> List Int
 | 0 => s
 | n + 1 => qcK (qbC (qah s r n) ((r.drop (136 * n)).take 136) 136)
theorem qd2 (s : List Int) : (qcK s).length = s.length := qjB s 24
theorem qjD (s r : List Int) : ∀ n, (qah s r n).length = s.length
 | 0 => rfl
 | n + 1 => by rw [qah, qd2, qd1, qjD s r n]
def m28 : q9 := fun d rest => match d, rest with
 | [.row .u64 25 s, .fr .u8 r c, .bs tells], [.roi .u8 b] => ⟨∀ _ : Unit, s.length = 25 /\ r.length <= c /\ (tells = false -> r.length + b.length <= 140737488355328), List Int × List Int × Nat, fun z => z.2.1.length <= z.2.2 /\ z.1 = (if tells then s else qah s (r ++ b) ((r ++ b).length / 136)) /\ z.2.1 = (if tells then r else (r ++ b).drop (136 * ((r ++ b).length / 136))), fun z => [.int .i64 (if tells then 16 else 0)], fun z => [.row .u64 25 z.1, .fr .u8 z.2.1 z.2.2, .bs tells]⟩
 | _, _ => MR.none
noncomputable def i28 : List (FuncId × Func) := [(229, Tryz.f229)]
theorem mc28 : MCtr Tryz.prog T glob 157 m28 := by
 refine qij T_ok qg qh [(231, s14), (255, s17)] i28 [] (qb c14 (qb c17 qi)) (qM Tryz.call229 Tryz.func229 (by kernel_rfl) qj) qk Tryz.func157 (by rfl) (by kernel_rfl) Tryz.call157 ?_ ?_
 ·intro d rest; unfold m28; split
  ·exact ⟨fun _ => ⟨⟨trivial, trivial, trivial, trivial⟩, ⟨trivial, trivial⟩, Nat.le_of_ble_eq_true rfl⟩, fun _ => ⟨⟨trivial, trivial, trivial, trivial, trivial⟩, Nat.le_of_ble_eq_true rfl⟩⟩
  ·exact MR.good_none
 ·intro P Ω hΩ hE hI hm d rest pr hs hp Q hQ
  unfold m28 at hs
  split at hs <;> subst hs <;> try (exact hp.elim)
  rename_i s r c tells b
  obtain ⟨ls, hrc, hlen⟩ := hp ()
  refine ⟨1000, ?_⟩
  cbv
  constructor
  ·intro ht
   cbv
   have htt : tells = true := ht
   refine hQ (s, r, c) _ _ _ ⟨hrc, by rw [htt]; rfl, by rw [htt]; rfl⟩ ?_
   have hlr : Ω.len r = r.length := by subst hΩ; rfl
   have hsr : Ω.sub r 0 (Ω.len r) = r := by subst hΩ; exact List.take_length
   refine ⟨⟨⟨rfl, by rw [htt]; rfl⟩, ⟨rfl, rfl, rfl⟩, ⟨rfl, rfl, by show 0 + Ω.len r <= r.length; omega, hsr.symm⟩, rfl, trivial⟩, rfl, rfl⟩
  ·intro ht
   have htf : tells = false := ht
   have hlen := hlen htf
   have hlr : Ω.len r = r.length := by subst hΩ; rfl
   have hlb : Ω.len b = b.length := by subst hΩ; rfl
   cbv
   constructor
   ·exact fun _ => by show (Ω.len r + Ω.len b) * 1 <= _; omega
   constructor
   ·exact fun _ => ⟨by show 0 + Ω.len r * 1 <= r.length; omega, trivial⟩
   intro cap hcap
   obtain ⟨a, ha⟩ : ∃ a, a = r ++ b := ⟨_, rfl⟩
   have hla : a.length = r.length + b.length := by rw [ha, List.length_append]
   have hcap : a.length <= cap := by rw [hla, <- hlr, <- hlb]; exact hcap
   obtain ⟨L, hL⟩ : ∃ L, L = a.length := ⟨_, rfl⟩
   have hsr : Ω.sub r 0 (Ω.len r) = r := by subst hΩ; exact List.take_length
   have hcat : Ω.cat (Ω.sub r 0 (Ω.len r)) b = a := by rw [hsr, ha]; subst hΩ; rfl
   have hadd : Ω.nadd (Ω.len r) (Ω.len b) = L := by rw [hL, hla, <- hlr, <- hlb]; subst hΩ; rfl
   cbv
   refine qu hE hI hm (fun x : Nat × List Int × Nat × Nat × Nat => (mkT 43 [(0, .ptr 0 (.l 0)), (1, .roi .u8 b), (4, .lit .i64 0)], [(136, .seq .u8 a), (0, .agg [.row .u64 25 x.2.1, .sl 136 1 (.s x.2.2.1) (.s x.2.2.2.1) (.s x.2.2.2.2), .bs tells])])) (fun x => x.2.2.1 = 136 * x.1 /\ x.2.2.1 + x.2.2.2.1 = L /\ x.2.1 = qah s a x.1 /\ x.2.2.2.1 <= x.2.2.2.2) (fun x => L - x.2.2.1) 0 ⟨(0, s, 0, L, cap), [], ⟨rfl, Nat.zero_add _, rfl, by rw [hL]; exact hcap⟩, Nat.le_refl _, ?_⟩ fun x hj => ⟨1000, ?_⟩
   ·cbv
    exact ⟨hcat, hadd, trivial⟩
   obtain ⟨n, s', off, len, cap'⟩ := x
   obtain ⟨ho, hol, hs', hc'⟩ : off = 136 * n /\ off + len = L /\ s' = qah s a n /\ len <= cap' := hj
   have ls' : s'.length = 25 := by rw [hs', qjD, ls]
   cbv
   constructor
   ·intro hd
    rw [hΩ] at hd; simp (disch := omega) only [Om.real, qc, decide_eq_true_eq, decide_eq_false_iff_not] at hd
    have hn : n = L / 136 := by omega
    have hdrop : a.drop off = (a.drop off).take len := (List.take_of_length_le (by rw [List.length_drop]; omega)).symm
    cbv
    refine hQ (s', a.drop off, cap') _ _ _ ⟨by dsimp only; rw [List.length_drop]; omega, ?_, ?_⟩ ?_
    ·show s' = if tells = true then s else qah s (r ++ b) ((r ++ b).length / 136)
     rw [htf, <- ha, <- hL, <- hn, hs']; rfl
    ·show a.drop off = if tells = true then r else (r ++ b).drop (136 * ((r ++ b).length / 136))
     rw [htf, <- ha, <- hL, <- hn, ho]; rfl
    ·refine ⟨⟨⟨rfl, by rw [htf]; rfl⟩, ⟨rfl, rfl, rfl⟩, ⟨rfl, rfl, by show off + len <= a.length; omega, by subst hΩ; exact hdrop⟩, rfl, trivial⟩, rfl, rfl⟩
   ·intro hd
    rw [hΩ] at hd; simp (disch := omega) only [Om.real, qc, decide_eq_true_eq, decide_eq_false_iff_not] at hd
    have hsub : Ω.sub a off 136 = (a.drop (136 * n)).take 136 := by subst hΩ; rw [ho]; rfl
    have hsl : (Ω.sub a off 136).length = 136 := by rw [hsub, List.length_take, List.length_drop]; omega
    cbv
    constructor
    ·exact fun _ => ⟨trivial, trivial, trivial, by show 0 <= 136; omega, by show 136 <= 136; omega, by show 136 <= cap'; omega⟩
    constructor
    ·exact fun _ => ⟨trivial, by show off + 136 <= a.length; omega, trivial⟩
    constructor
    ·exact fun _ _ => ⟨ls', by show (Ω.sub a off 136).length < _; rw [hsl]; omega⟩
    intro z hz
    obtain ⟨s2, e2⟩ := z
    have hz : (s2, e2) = (qbC s' ((a.drop (136 * n)).take 136) 136, 0) := by
     have h : (s2, e2) = xorF s' (Ω.sub a off 136) := hz
     have h2 : ((a.drop (136 * n)).take 136).length = 136 := by rw [<- hsub]; exact hsl
     rw [h, hsub, xorF, if_neg (by rw [h2]; decide), h2]
    obtain ⟨hs2, rfl⟩ := Prod.mk.inj hz
    have ls2 : s2.length = 25 := by rw [hs2, qd1, ls']
    cbv
    constructor
    ·exact fun _ _ => ls2
    intro s3 hs3
    have hs3 : s3 = qah s a (n + 1) := by rw [qah, <- hs', <- hs2]; exact hs3
    cbv
    obtain ⟨o2, ho2⟩ : ∃ o2, o2 = off + 136 := ⟨_, rfl⟩
    obtain ⟨l2, hl2⟩ : ∃ l2, l2 = len - 136 := ⟨_, rfl⟩
    obtain ⟨c2, hc2⟩ : ∃ c2, c2 = cap' - 136 := ⟨_, rfl⟩
    refine ⟨fun _ => ⟨trivial, trivial, trivial, by show 136 <= len; omega, by show len <= cap'; omega, by show cap' <= cap'; omega⟩, (n + 1, s3, o2, l2, c2), [], ⟨by dsimp only; omega, by dsimp only; omega, hs3, by dsimp only; omega⟩, by dsimp only; omega, by simp, ?_⟩
    cbv
    subst hΩ
    exact ⟨ho2.symm, hl2.symm, hc2.symm, trivial⟩
end Go.Sx.Tryz.K
end
section
set_option maxHeartbeats 4000000
namespace Go.Sx.Tryz.K
open Go.Proofs
def qfp (r : List Int) : List Int := (r ++ List.replicate (136 - r.length) 0).set r.length 31
def qfq (r : List Int) : List Int := (qfp r).set 135 (binL .xor .u8 ((qfp r).getD 135 0) 128)
theorem qua {r : List Int} (h : r.length < 136) : (qfq r).length = 136 := by
 simp [qfq, qfp]; omega
def qbS (s r : List Int) : List Int := qcK (qbC s (qfq r) 136)
def m53 : q9 := fun d rest => match d, rest with
 | [.row .u64 25 s, .fr .u8 r c, .bs tells], [] => ⟨∀ _ : Unit, s.length = 25 /\ r.length < 136 /\ r.length <= c, List Int × List Int × Nat, fun z => z.1 = qbS s r /\ z.2.1 = (qa5 (qbS s r) 25).take 136 /\ 136 <= z.2.2, fun z => [], fun z => [.row .u64 25 z.1, .fr .u8 z.2.1 z.2.2, .bs true]⟩
 | _, _ => MR.none
noncomputable def i53 : List (FuncId × Func) := [(229, Tryz.f229)]
theorem mc53 : MCtr Tryz.prog T glob 230 m53 := by
 refine qij T_ok qg qh [(231, s14), (255, s17), (232, s20)] i53 [] (qb c14 (qb c17 (qb c20 qi))) (qM Tryz.call229 Tryz.func229 (by kernel_rfl) qj) qk Tryz.func230 (by rfl) (by kernel_rfl) Tryz.call230 ?_ ?_
 ·intro d rest; unfold m53; split
  ·exact ⟨fun _ => ⟨⟨trivial, trivial, trivial, trivial⟩, trivial, Nat.le_of_ble_eq_true rfl⟩, fun _ => ⟨⟨trivial, trivial, trivial, trivial⟩, Nat.le_of_ble_eq_true rfl⟩⟩
  ·exact MR.good_none
 ·intro P Ω hΩ hE hI hm d rest pr hs hp Q hQ
  unfold m53 at hs
  split at hs <;> subst hs <;> try (exact hp.elim)
  rename_i s r c tells
  obtain ⟨ls, hr, hrc⟩ := hp ()
  have hlr : Ω.len r = r.length := by subst hΩ; rfl
  refine ⟨1000, ?_⟩
  have hA : Ω.set (Ω.put (Ω.zer 136) 0 (Ω.sub (Ω.sub r 0 (Ω.len r)) 0 136)) (Ω.toN (Ω.ofN (Ω.len r))) 31 = qfp r := by
   subst hΩ
   show (((List.replicate 136 (0 : Int)).take 0 ++ (((r.drop 0).take r.length).drop 0).take 136) ++ (List.replicate 136 (0 : Int)).drop (0 + ((((r.drop 0).take r.length).drop 0).take 136).length)).set ((r.length : Int)).toNat 31 = qfp r
   have e : (((r.drop 0).take r.length).drop 0).take 136 = r := by
    rw [List.drop_zero, List.drop_zero, List.take_length, List.take_of_length_le (by omega)]
   rw [e, List.take_zero, List.nil_append, List.drop_replicate, Int.toNat_natCast, Nat.zero_add]
   rfl
  have hF : Ω.set (Ω.set (Ω.put (Ω.zer 136) 0 (Ω.sub (Ω.sub r 0 (Ω.len r)) 0 136)) (Ω.toN (Ω.ofN (Ω.len r))) 31) 135 (Ω.bin .xor .u8 (Ω.at' (Ω.set (Ω.put (Ω.zer 136) 0 (Ω.sub (Ω.sub r 0 (Ω.len r)) 0 136)) (Ω.toN (Ω.ofN (Ω.len r))) 31) 135) 128) = qfq r := by
   rw [hA]; subst hΩ; rfl
  have hFl := qua hr
  cbv
  refine ⟨fun _ => ⟨by show 0 + Ω.len r <= r.length; omega, by show 0 < 136; omega, by show 0 + 136 <= 136; omega⟩, fun _ => ?_, fun _ => ?_, fun _ => ⟨trivial, by show 0 + 136 <= 136; omega, trivial⟩, fun _ _ => ⟨ls, by show (Ω.set _ _ _).length < _; rw [hF, hFl]; omega⟩, fun z hz => ?_⟩
  ·subst hΩ; show 0 <= (r.length : Int) /\ (r.length : Int) < ((136 : Nat) : Int); omega
  ·subst hΩ; show ((r.length : Int)).toNat < 136; omega
  obtain ⟨s2, e2⟩ := z
  have hz : (s2, e2) = (qbC s (qfq r) 136, 0) := by
   have h : (s2, e2) = xorF s (Ω.set (Ω.set (Ω.put (Ω.zer 136) 0 (Ω.sub (Ω.sub r 0 (Ω.len r)) 0 136)) (Ω.toN (Ω.ofN (Ω.len r))) 31) 135 (Ω.bin .xor .u8 (Ω.at' (Ω.set (Ω.put (Ω.zer 136) 0 (Ω.sub (Ω.sub r 0 (Ω.len r)) 0 136)) (Ω.toN (Ω.ofN (Ω.len r))) 31) 135) 128)) := hz
   rw [h, hF, xorF, if_neg (by rw [hFl]; decide), hFl]
  obtain ⟨hs2, rfl⟩ := Prod.mk.inj hz
  have ls2 : s2.length = 25 := by rw [hs2, qd1, ls]
  clear hA hF
  cbv
  constructor
  ·exact fun _ _ => ls2
  intro s3 hs3
  have hs3 : s3 = qbS s r := by rw [qbS, <- hs2]; exact hs3
  have ls3 : s3.length = 25 := by rw [hs3, qbS, qd2, qd1, ls]
  cbv
  constructor
  ·exact fun _ _ => ls3
  intro z4 hz4
  obtain ⟨o, c4⟩ := z4
  obtain ⟨ho, hc4⟩ : o = qa5 s3 25 /\ 200 <= c4 := hz4
  have lo : o.length = 200 := by rw [ho, qcL]
  cbv
  refine ⟨fun _ => ⟨trivial, trivial, trivial, by show 0 <= 136; omega, by show 136 <= 136; omega, by show 136 <= c4; omega⟩, ?_⟩
  refine hQ (s3, o.take 136, 136) _ _ _ ⟨hs3, by dsimp only; rw [ho, hs3], Nat.le_refl _⟩ ?_
  refine ⟨⟨⟨rfl, rfl, rfl⟩, ⟨rfl, rfl, by show 0 + 136 <= o.length; omega, by subst hΩ; rfl⟩, rfl, trivial⟩, rfl, rfl⟩
def pit (s : List Int) : Nat -> List Int
 | 0 => s
 | k + 1 => qcK (pit s k)
def sq (s : List Int) : Nat -> List Int
 | 0 => []
 | k + 1 => sq s k ++ (qa5 (pit s (k + 1)) 25).take 136
theorem qjE (s : List Int) : ∀ n, (pit s n).length = s.length
 | 0 => rfl
 | n + 1 => by rw [pit, qd2, qjE s n]
theorem qht (s : List Int) : ∀ n, (sq s n).length = 136 * n
 | 0 => rfl
 | n + 1 => by simp [sq, qht s n, qcL]; omega
def qau (s r : List Int) (tells : Bool) : List Int := if tells then s else qbS s r
def qaf (s r : List Int) (tells : Bool) : List Int := if tells then r else (qa5 (qbS s r) 25).take 136
def badN (n : Int) : Prop := n < 0 \/ 65536 < n
instance (n : Int) : Decidable (badN n) := by unfold badN; exact inferInstance
theorem qhu {l : List Int} {a b : Nat} (h : a <= b) : l.take a ++ (l.drop a).take (b - a) = l.take b := by
 rw [<- List.take_add, Nat.add_sub_cancel' h]
def qon (s1 r1 : List Int) (m : Nat) (x : Nat × List Int × Nat × Nat × List Int × List Int × Nat × Nat × Nat) : Prop :=
 x.2.2.1 = x.2.1.length /\ x.2.2.1 <= m /\ x.2.2.1 <= x.2.2.2.1 /\ x.2.2.2.2.1 = pit s1 x.1 /\ x.2.2.2.2.2.2.1 + x.2.2.2.2.2.2.2.1 <= x.2.2.2.2.2.1.length /\ x.2.2.2.2.2.2.2.1 <= x.2.2.2.2.2.2.2.2 /\
  x.2.1 ++ (x.2.2.2.2.2.1.drop x.2.2.2.2.2.2.1).take x.2.2.2.2.2.2.2.1 = r1 ++ sq s1 x.1 /\ (x.2.2.2.2.2.2.2.1 <= 136 \/ x.2.2.2.2.2.2.2.1 <= r1.length)
structure RdRes where
 out : List Int
 c : Nat
 s : List Int
 r : List Int
 c2 : Nat
 k : Nat
 er : Int
 tl : Bool
def m29 : q9 := fun d rest => match d, rest with
 | [.row .u64 25 s, .fr .u8 r c, .bs tells], [.int .i64 n] => ⟨∀ _ : Unit, s.length = 25 /\ (tells = false -> r.length < 136) /\ r.length <= c, RdRes, fun z => (if badN n then z.out = [] /\ z.c = 0 /\ z.s = s /\ z.r = r /\ z.c2 = c /\ z.er = 10 /\ z.tl = tells else z.er = 0 /\ z.tl = true /\ z.s = pit (qau s r tells) z.k /\ z.out = (qaf s r tells ++ sq (qau s r tells) z.k).take n.toNat /\ z.r = (qaf s r tells ++ sq (qau s r tells) z.k).drop n.toNat /\ n.toNat <= (qaf s r tells).length + 136 * z.k /\ (z.r.length <= z.c2 /\ (z.r.length <= 136 \/ z.r.length <= r.length)) /\ z.out.length <= z.c), fun z => [.fr .u8 z.out z.c, .int .i64 z.er], fun z => [.row .u64 25 z.s, .fr .u8 z.r z.c2, .bs z.tl]⟩
 | _, _ => MR.none
theorem mc29 : MCtr Tryz.prog T glob 158 m29 := by
 refine qij T_ok qg qh [(231, s14), (232, s20)] [] [(230, m53)] (qb c14 (qb c20 qi)) qj (qii mc53 qk) Tryz.func158 (by rfl) (by kernel_rfl) Tryz.call158 ?_ ?_
 ·intro d rest; unfold m29; split
  ·exact ⟨fun _ => ⟨⟨trivial, trivial, trivial, trivial⟩, ⟨trivial, trivial⟩, Nat.le_of_ble_eq_true rfl⟩, fun _ => ⟨⟨trivial, trivial, trivial, trivial, trivial, trivial⟩, Nat.le_of_ble_eq_true rfl⟩⟩
  ·exact MR.good_none
 ·intro P Ω hΩ hE hI hm d rest pr hs hp Q hQ
  unfold m29 at hs
  split at hs <;> subst hs <;> try (exact hp.elim)
  rename_i s r c tells n
  obtain ⟨ls, hr, hrc⟩ := hp ()
  refine ⟨1000, ?_⟩
  have hlr : Ω.len r = r.length := by subst hΩ; rfl
  have hsr : Ω.sub r 0 (Ω.len r) = r := by subst hΩ; exact List.take_length
  have hBad : badN n -> ∀ h t0, look h 0 = .agg [.row .u64 25 s, .sl 1 1 (.l 0) (.s (Ω.len r)) (.s c), .bs tells] -> look h 1 = .seq .u8 r -> Q (.tup [.val (.slice none 0 0), .lit .i64 10]) h t0 := by
   intro hb h t0 h0 h1
   refine hQ ⟨[], 0, s, r, c, 0, 10, tells⟩ _ _ _ ?_ ?_
   ·show if badN n then _ else _
    rw [if_pos hb]
    exact ⟨rfl, rfl, rfl, rfl, rfl, rfl, rfl⟩
   ·unfold qeu
    rw [h0]
    refine ⟨⟨⟨rfl, rfl⟩, ⟨rfl, rfl⟩, ⟨rfl, rfl, rfl⟩, ⟨rfl, ?_⟩, rfl, trivial⟩, rfl, rfl⟩
    ·rw [h1]
     exact ⟨rfl, by show 0 + Ω.len r <= r.length; omega, hsr.symm⟩
  cbv
  constructor
  ·intro h1
   have hb : badN n := .inl (by subst hΩ; exact of_decide_eq_true (show decide (n < 0) = true from h1))
   cbv
   exact hBad hb _ _ rfl rfl
  ·intro h1
   have hn0 : 0 <= n := by subst hΩ; have := of_decide_eq_false (show decide (n < 0) = false from h1); omega
   cbv
   constructor
   ·intro h2
    have hb : badN n := .inr (by subst hΩ; exact of_decide_eq_true (show decide (65536 < n) = true from h2))
    cbv
    exact hBad hb _ _ rfl rfl
   ·intro h2
    have hn1 : n <= 65536 := by subst hΩ; have := of_decide_eq_false (show decide (65536 < n) = false from h2); omega
    have hnb : ¬ badN n := by unfold badN; omega
    obtain ⟨m, hm'⟩ : ∃ m : Nat, n = m := ⟨n.toNat, by omega⟩
    subst hm'
    have hm1 : m <= 65536 := by omega
    clear hBad hn0 hn1 h1 h2
    cbv
    constructor
    ·intro h3
     have htf : tells = false := by subst hΩ; revert h3; cases tells <;> decide
     subst htf
     have hr := hr rfl
     have hrl : (Ω.sub r 0 (Ω.len r)).length = r.length := by rw [hsr]
     cbv
     constructor
     ·exact fun _ => ⟨⟨by show 0 + Ω.len r <= r.length; omega, trivial⟩, trivial⟩
     constructor
     ·exact fun _ _ => ⟨ls, by show (Ω.sub r 0 (Ω.len r)).length < 136; omega, by show (Ω.sub r 0 (Ω.len r)).length <= c; omega⟩
     intro z hz
     obtain ⟨s1, r1, c4⟩ := z
     obtain ⟨hs1, hr1, hc4⟩ : s1 = qbS s (Ω.sub r 0 (Ω.len r)) /\ r1 = (qa5 (qbS s (Ω.sub r 0 (Ω.len r))) 25).take 136 /\ 136 <= c4 := hz
     rw [hsr] at hs1 hr1
     have ls1 : s1.length = 25 := by rw [hs1, qbS, qd2, qd1, ls]
     set_option maxRecDepth 20000 in cbv
     have hlr1 : Ω.len r1 = r1.length := by subst hΩ; rfl
     have hrc1 : r1.length <= c4 := by rw [hr1, List.length_take]; omega
     have hT : qau s r false = s1 := by rw [hs1, qau, if_neg (by decide)]
     have hR1 : qaf s r false = r1 := by rw [hr1, qaf, if_neg (by decide)]
     obtain ⟨R, hR⟩ : ∃ R, R = r1.length := ⟨_, rfl⟩
     refine qu hE hI hm (fun x : Nat × List Int × Nat × Nat × List Int × List Int × Nat × Nat × Nat => (mkT 80 [(0, .ptr 0 (.l 0)), (1, .int .i64 m), (5, .lit .i64 0), (6, .sl 176 1 (.l 0) (.s x.2.2.1) (.s x.2.2.2.1))], [(177, .seq .u8 x.2.2.2.2.2.1), (176, .seq .u8 x.2.1), (0, .agg [.row .u64 25 x.2.2.2.2.1, .sl 177 1 (.s x.2.2.2.2.2.2.1) (.s x.2.2.2.2.2.2.2.1) (.s x.2.2.2.2.2.2.2.2), .bs true])])) (fun x => qon s1 r1 m x) (fun x => m - x.2.2.1) 1 ⟨(0, [], 0, 0, s1, r1, 0, R, c4), [none, some 160], ⟨rfl, Nat.zero_le _, Nat.le_refl _, rfl, by show 0 + R <= r1.length; omega, by rw [hR]; exact hrc1, by show [] ++ (r1.drop 0).take R = r1 ++ []; rw [hR]; simp, .inr (by show R <= r1.length; omega)⟩, by decide, ?_⟩ fun x hj => ⟨1000, ?_⟩
     ·cbv
      exact ⟨hlr1.trans hR.symm, trivial⟩
     obtain ⟨k, out, olen, ocap, st, blk, roff, rlen, rcap⟩ := x
     obtain ⟨j1, j2, j3, j4, j5, j6, j7, j8⟩ : olen = out.length /\ olen <= m /\ olen <= ocap /\ st = pit s1 k /\ roff + rlen <= blk.length /\ rlen <= rcap /\ out ++ (blk.drop roff).take rlen = r1 ++ sq s1 k /\ (rlen <= 136 \/ rlen <= r1.length) := hj
     have lst : st.length = 25 := by rw [j4, qjE, ls1]
     cbv
     constructor
     ·intro hd
      rw [hΩ] at hd; simp (disch := omega) only [Om.real, qc, decide_eq_true_eq, decide_eq_false_iff_not] at hd
      cbv
      constructor
      ·intro he
       rw [hΩ] at he; simp (disch := omega) only [Om.real, qc, decide_eq_true_eq, decide_eq_false_iff_not] at he
       have he0 : rlen = 0 := he
       have hor : out = r1 ++ sq s1 k := by rw [<- j7, he0]; simp
       cbv
       constructor
       ·exact fun _ _ => lst
       intro st2 hst2
       have hst2 : st2 = qcK st := hst2
       have hst3 : st2 = pit s1 (k + 1) := by rw [hst2, j4]; rfl
       have lst2 : st2.length = 25 := by rw [hst2, qd2, lst]
       cbv
       constructor
       ·exact fun _ _ => lst2
       intro zb hzb
       obtain ⟨o, c5⟩ := zb
       obtain ⟨ho, hc4⟩ : o = qa5 st2 25 /\ 200 <= c5 := hzb
       have lo : o.length = 200 := by rw [ho, qcL]
       cbv
       obtain ⟨kk, hkk⟩ : ∃ kk, kk = min (m - olen) 136 := ⟨_, rfl⟩
       have hKI : Ω.imin (Ω.bin .sub .i64 (Int.ofNat m) (Ω.ofN olen)) (Int.ofNat 136) = (kk : Int) := by
        subst hΩ
        show min (binL .sub .i64 (m : Int) (olen : Int)) ((136 : Nat) : Int) = kk
        rw [qbH _ _ (by omega) (by omega)]
        omega
       have hKK : Ω.toN (Ω.imin (Ω.bin .sub .i64 (Int.ofNat m) (Ω.ofN olen)) (Int.ofNat 136)) = kk := by
        rw [hKI]; subst hΩ; exact Int.toNat_natCast kk
       have a1 : 0 <= Ω.imin (Ω.bin .sub .i64 (Int.ofNat m) (Ω.ofN olen)) (Int.ofNat 136) := by rw [hKI]; omega
       have a3 : Ω.toN (Ω.imin (Ω.bin .sub .i64 (Int.ofNat m) (Ω.ofN olen)) (Int.ofNat 136)) <= 136 := by omega
       have a5 : (olen + Ω.toN (Ω.imin (Ω.bin .sub .i64 (Int.ofNat m) (Ω.ofN olen)) (Int.ofNat 136))) * 1 <= 140737488355328 := by omega
       have a6 : 0 + olen * 1 <= out.length := by omega
       have a7 : 0 + Ω.toN (Ω.imin (Ω.bin .sub .i64 (Int.ofNat m) (Ω.ofN olen)) (Int.ofNat 136)) * 1 <= o.length := by omega
       have a9 : 136 <= c5 := by omega
       constructor
       ·exact fun _ => ⟨trivial, trivial, trivial, Nat.zero_le _, Nat.le_refl _, a9⟩
       constructor
       ·exact fun _ => ⟨trivial, a1, trivial, Nat.zero_le _, a3, Nat.le_refl _⟩
       constructor
       ·exact fun _ => a5
       constructor
       ·exact fun _ => ⟨a6, a7⟩
       intro cap2 hcap2
       cbv
       have hcap2 : olen + kk <= cap2 := by rw [<- hKK]; exact hcap2
       obtain ⟨olen2, h2⟩ : ∃ x, x = olen + kk := ⟨_, rfl⟩
       obtain ⟨rlen2, h4⟩ : ∃ x, x = 136 - kk := ⟨_, rfl⟩
       obtain ⟨out2, h6⟩ : ∃ x, x = out ++ (o.drop 0).take kk := ⟨_, rfl⟩
       have e2 : Ω.nadd olen (Ω.toN (Ω.imin (Ω.bin .sub .i64 (Int.ofNat m) (Ω.ofN olen)) (Int.ofNat 136))) = olen2 := by rw [hKK, h2]; subst hΩ; rfl
       have e4 : Ω.nsub 136 (Ω.toN (Ω.imin (Ω.bin .sub .i64 (Int.ofNat m) (Ω.ofN olen)) (Int.ofNat 136))) = rlen2 := by rw [hKK, h4]; subst hΩ; rfl
       have e6 : Ω.cat (Ω.sub out 0 olen) (Ω.sub o 0 (Ω.toN (Ω.imin (Ω.bin .sub .i64 (Int.ofNat m) (Ω.ofN olen)) (Int.ofNat 136)))) = out2 := by
        rw [hKK, h6]; subst hΩ
        show (out.drop 0).take olen ++ (o.drop 0).take kk = _
        rw [List.drop_zero, List.take_of_length_le (by omega)]
       have hout2 : out2.length = olen2 := by rw [h6, List.length_append, List.length_take, List.length_drop]; omega
       have hinv : out2 ++ (o.drop kk).take rlen2 = r1 ++ sq s1 (k + 1) := by
        rw [h6, h4, List.append_assoc, List.drop_zero, qhu (by omega), hor, List.append_assoc, sq, <- hst3, <- ho]
       constructor
       ·exact fun _ => ⟨a1, trivial, trivial, a3, Nat.le_refl _, Nat.le_refl _⟩
       refine ⟨(k + 1, out2, olen2, cap2, st2, o, kk, rlen2, rlen2), [some 560, some 376], ⟨hout2.symm, by show olen2 <= m; omega, by show olen2 <= cap2; omega, hst3, by show kk + rlen2 <= o.length; omega, Nat.le_refl _, hinv, .inl (by show rlen2 <= 136; omega)⟩, by show m - olen2 < m - olen; omega, by show 2 <= 8 * 1; omega, ?_⟩
       set_option maxRecDepth 20000 in cbv
       exact ⟨e2, e6, hKK, e4, e4, trivial⟩
      ·intro he
       rw [hΩ] at he; simp (disch := omega) only [Om.real, qc, decide_eq_true_eq, decide_eq_false_iff_not] at he
       cbv
       obtain ⟨kk, hkk⟩ : ∃ kk, kk = min (m - olen) rlen := ⟨_, rfl⟩
       have hKK : Ω.toN (Ω.imin (Ω.bin .sub .i64 (Int.ofNat m) (Ω.ofN olen)) (Ω.ofN rlen)) = kk := by
        subst hΩ
        show (min (binL .sub .i64 (m : Int) (olen : Int)) (rlen : Int)).toNat = kk
        rw [qbH _ _ (by omega) (by omega)]
        omega
       have hKI : Ω.imin (Ω.bin .sub .i64 (Int.ofNat m) (Ω.ofN olen)) (Ω.ofN rlen) = (kk : Int) := by
        subst hΩ
        show min (binL .sub .i64 (m : Int) (olen : Int)) (rlen : Int) = kk
        rw [qbH _ _ (by omega) (by omega)]
        omega
       have a1 : 0 <= Ω.imin (Ω.bin .sub .i64 (Int.ofNat m) (Ω.ofN olen)) (Ω.ofN rlen) := by rw [hKI]; omega
       have a2 : 0 <= Ω.toN (Ω.imin (Ω.bin .sub .i64 (Int.ofNat m) (Ω.ofN olen)) (Ω.ofN rlen)) := Nat.zero_le _
       have a3 : Ω.toN (Ω.imin (Ω.bin .sub .i64 (Int.ofNat m) (Ω.ofN olen)) (Ω.ofN rlen)) <= rcap := by omega
       have a5 : (olen + Ω.toN (Ω.imin (Ω.bin .sub .i64 (Int.ofNat m) (Ω.ofN olen)) (Ω.ofN rlen))) * 1 <= 140737488355328 := by omega
       have a6 : 0 + olen * 1 <= out.length := by omega
       have a7 : roff + Ω.toN (Ω.imin (Ω.bin .sub .i64 (Int.ofNat m) (Ω.ofN olen)) (Ω.ofN rlen)) * 1 <= blk.length := by omega
       have a8 : Ω.toN (Ω.imin (Ω.bin .sub .i64 (Int.ofNat m) (Ω.ofN olen)) (Ω.ofN rlen)) <= rlen := by omega
       constructor
       ·exact fun _ => ⟨trivial, a1, trivial, a2, a3, Nat.le_refl _⟩
       constructor
       ·exact fun _ => a5
       constructor
       ·exact fun _ => ⟨a6, a7⟩
       intro cap2 hcap2
       cbv
       have hcap2 : olen + kk <= cap2 := by rw [<- hKK]; exact hcap2
       obtain ⟨olen2, h2⟩ : ∃ x, x = olen + kk := ⟨_, rfl⟩
       obtain ⟨roff2, h3⟩ : ∃ x, x = roff + kk := ⟨_, rfl⟩
       obtain ⟨rlen2, h4⟩ : ∃ x, x = rlen - kk := ⟨_, rfl⟩
       obtain ⟨rcap2, h5⟩ : ∃ x, x = rcap - kk := ⟨_, rfl⟩
       obtain ⟨out2, h6⟩ : ∃ x, x = out ++ (blk.drop roff).take kk := ⟨_, rfl⟩
       have e2 : Ω.nadd olen (Ω.toN (Ω.imin (Ω.bin .sub .i64 (Int.ofNat m) (Ω.ofN olen)) (Ω.ofN rlen))) = olen2 := by rw [hKK, h2]; subst hΩ; rfl
       have e3 : Ω.nadd roff (Ω.toN (Ω.imin (Ω.bin .sub .i64 (Int.ofNat m) (Ω.ofN olen)) (Ω.ofN rlen))) = roff2 := by rw [hKK, h3]; subst hΩ; rfl
       have e4 : Ω.nsub rlen (Ω.toN (Ω.imin (Ω.bin .sub .i64 (Int.ofNat m) (Ω.ofN olen)) (Ω.ofN rlen))) = rlen2 := by rw [hKK, h4]; subst hΩ; rfl
       have e5 : Ω.nsub rcap (Ω.toN (Ω.imin (Ω.bin .sub .i64 (Int.ofNat m) (Ω.ofN olen)) (Ω.ofN rlen))) = rcap2 := by rw [hKK, h5]; subst hΩ; rfl
       have e6 : Ω.cat (Ω.sub out 0 olen) (Ω.sub blk roff (Ω.toN (Ω.imin (Ω.bin .sub .i64 (Int.ofNat m) (Ω.ofN olen)) (Ω.ofN rlen)))) = out2 := by
        rw [hKK, h6]; subst hΩ
        show (out.drop 0).take olen ++ (blk.drop roff).take kk = _
        rw [List.drop_zero, List.take_of_length_le (by omega)]
       have hout2 : out2.length = olen2 := by rw [h6, List.length_append, List.length_take, List.length_drop]; omega
       have hinv : out2 ++ (blk.drop roff2).take rlen2 = r1 ++ sq s1 k := by
        rw [h6, h3, h4, List.append_assoc, <- j7, <- List.drop_drop, qhu (by omega)]
       constructor
       ·exact fun _ => ⟨a1, trivial, trivial, a8, j6, Nat.le_refl _⟩
       refine ⟨(k, out2, olen2, cap2, st, blk, roff2, rlen2, rcap2), [some 408, some 177], ⟨hout2.symm, by show olen2 <= m; omega, by show olen2 <= cap2; omega, j4, by show roff2 + rlen2 <= blk.length; omega, by show rlen2 <= rcap2; omega, hinv, by show rlen2 <= 136 \/ rlen2 <= r1.length; omega⟩, by show m - olen2 < m - olen; omega, by show 2 <= 8 * 1; omega, ?_⟩
       cbv
       exact ⟨e2, e6, e3, e4, e5, trivial⟩
     ·intro hd
      rw [hΩ] at hd; simp (disch := omega) only [Om.real, qc, decide_eq_true_eq, decide_eq_false_iff_not] at hd
      have hom : olen = m := by omega
      have hsub : (blk.drop roff).take rlen = Ω.sub blk roff rlen := by subst hΩ; rfl
      have hsub2 : out = Ω.sub out 0 olen := by subst hΩ; exact (by rw [j1]; exact List.take_length.symm : out = (out.drop 0).take olen)
      have hlq := congrArg List.length j7
      rw [List.length_append, List.length_append, qht, List.length_take, List.length_drop] at hlq
      cbv
      refine hQ ⟨out, ocap, st, (blk.drop roff).take rlen, rcap, k, 0, true⟩ _ _ _ ?_ ?_
      ·show if badN (m : Int) then _ else _
       rw [if_neg hnb, hT, hR1]
       refine ⟨rfl, rfl, j4, ?_, ?_, ?_, ?_, ?_⟩
       ·show out = (r1 ++ sq s1 k).take (m : Int).toNat
        rw [Int.toNat_natCast, <- j7, List.take_left' (by omega)]
       ·show (blk.drop roff).take rlen = (r1 ++ sq s1 k).drop (m : Int).toNat
        rw [Int.toNat_natCast, <- j7, List.drop_left' (by omega)]
       ·show (m : Int).toNat <= r1.length + 136 * k
        rw [Int.toNat_natCast]; omega
       ·refine ⟨by show ((blk.drop roff).take rlen).length <= rcap; rw [List.length_take]; omega, .inl ?_⟩
        show ((blk.drop roff).take rlen).length <= 136
        have hr136 : r1.length <= 136 := by rw [hr1, List.length_take]; omega
        rw [List.length_take]; omega
       ·show out.length <= ocap
        omega
      ·refine ⟨⟨⟨rfl, rfl, by show 0 + olen <= out.length; omega, hsub2⟩, ⟨rfl, rfl⟩, ⟨rfl, rfl, rfl⟩, ⟨rfl, rfl, by show roff + rlen <= blk.length; omega, hsub⟩, rfl, trivial⟩, rfl, rfl⟩
    ·intro h3
     have htt : tells = true := by subst hΩ; revert h3; cases tells <;> decide
     subst htt
     cbv
     obtain ⟨R, hR⟩ : ∃ R, R = r.length := ⟨_, rfl⟩
     refine qu hE hI hm (fun x : Nat × List Int × Nat × Nat × List Int × List Int × Nat × Nat × Nat => (mkT 80 [(0, .ptr 0 (.l 0)), (1, .int .i64 m), (5, .lit .i64 0), (6, .sl 160 1 (.l 0) (.s x.2.2.1) (.s x.2.2.2.1))], [(161, .seq .u8 x.2.2.2.2.2.1), (160, .seq .u8 x.2.1), (0, .agg [.row .u64 25 x.2.2.2.2.1, .sl 161 1 (.s x.2.2.2.2.2.2.1) (.s x.2.2.2.2.2.2.2.1) (.s x.2.2.2.2.2.2.2.2), .bs true])])) (fun x => qon s r m x) (fun x => m - x.2.2.1) 1 ⟨(0, [], 0, 0, s, r, 0, R, c), [none, some 1], ⟨rfl, Nat.zero_le _, Nat.le_refl _, rfl, by show 0 + R <= r.length; omega, by rw [hR]; exact hrc, by show [] ++ (r.drop 0).take R = r ++ []; rw [hR]; simp, .inr (by show R <= r.length; omega)⟩, by decide, ?_⟩ fun x hj => ⟨1000, ?_⟩
     ·cbv
      exact ⟨hlr.trans hR.symm, trivial⟩
     obtain ⟨k, out, olen, ocap, st, blk, roff, rlen, rcap⟩ := x
     obtain ⟨j1, j2, j3, j4, j5, j6, j7, j8⟩ : olen = out.length /\ olen <= m /\ olen <= ocap /\ st = pit s k /\ roff + rlen <= blk.length /\ rlen <= rcap /\ out ++ (blk.drop roff).take rlen = r ++ sq s k /\ (rlen <= 136 \/ rlen <= r.length) := hj
     have lst : st.length = 25 := by rw [j4, qjE, ls]
     cbv
     constructor
     ·intro hd
      rw [hΩ] at hd; simp (disch := omega) only [Om.real, qc, decide_eq_true_eq, decide_eq_false_iff_not] at hd
      cbv
      constructor
      ·intro he
       rw [hΩ] at he; simp (disch := omega) only [Om.real, qc, decide_eq_true_eq, decide_eq_false_iff_not] at he
       have he0 : rlen = 0 := he
       have hor : out = r ++ sq s k := by rw [<- j7, he0]; simp
       cbv
       constructor
       ·exact fun _ _ => lst
       intro st2 hst2
       have hst2 : st2 = qcK st := hst2
       have hst3 : st2 = pit s (k + 1) := by rw [hst2, j4]; rfl
       have lst2 : st2.length = 25 := by rw [hst2, qd2, lst]
       cbv
       constructor
       ·exact fun _ _ => lst2
       intro zb hzb
       obtain ⟨o, c4⟩ := zb
       obtain ⟨ho, hc4⟩ : o = qa5 st2 25 /\ 200 <= c4 := hzb
       have lo : o.length = 200 := by rw [ho, qcL]
       cbv
       obtain ⟨kk, hkk⟩ : ∃ kk, kk = min (m - olen) 136 := ⟨_, rfl⟩
       have hKI : Ω.imin (Ω.bin .sub .i64 (Int.ofNat m) (Ω.ofN olen)) (Int.ofNat 136) = (kk : Int) := by
        subst hΩ
        show min (binL .sub .i64 (m : Int) (olen : Int)) ((136 : Nat) : Int) = kk
        rw [qbH _ _ (by omega) (by omega)]
        omega
       have hKK : Ω.toN (Ω.imin (Ω.bin .sub .i64 (Int.ofNat m) (Ω.ofN olen)) (Int.ofNat 136)) = kk := by
        rw [hKI]; subst hΩ; exact Int.toNat_natCast kk
       have a1 : 0 <= Ω.imin (Ω.bin .sub .i64 (Int.ofNat m) (Ω.ofN olen)) (Int.ofNat 136) := by rw [hKI]; omega
       have a3 : Ω.toN (Ω.imin (Ω.bin .sub .i64 (Int.ofNat m) (Ω.ofN olen)) (Int.ofNat 136)) <= 136 := by omega
       have a5 : (olen + Ω.toN (Ω.imin (Ω.bin .sub .i64 (Int.ofNat m) (Ω.ofN olen)) (Int.ofNat 136))) * 1 <= 140737488355328 := by omega
       have a6 : 0 + olen * 1 <= out.length := by omega
       have a7 : 0 + Ω.toN (Ω.imin (Ω.bin .sub .i64 (Int.ofNat m) (Ω.ofN olen)) (Int.ofNat 136)) * 1 <= o.length := by omega
       have a9 : 136 <= c4 := by omega
       constructor
       ·exact fun _ => ⟨trivial, trivial, trivial, Nat.zero_le _, Nat.le_refl _, a9⟩
       constructor
       ·exact fun _ => ⟨trivial, a1, trivial, Nat.zero_le _, a3, Nat.le_refl _⟩
       constructor
       ·exact fun _ => a5
       constructor
       ·exact fun _ => ⟨a6, a7⟩
       intro cap2 hcap2
       cbv
       have hcap2 : olen + kk <= cap2 := by rw [<- hKK]; exact hcap2
       obtain ⟨olen2, h2⟩ : ∃ x, x = olen + kk := ⟨_, rfl⟩
       obtain ⟨rlen2, h4⟩ : ∃ x, x = 136 - kk := ⟨_, rfl⟩
       obtain ⟨out2, h6⟩ : ∃ x, x = out ++ (o.drop 0).take kk := ⟨_, rfl⟩
       have e2 : Ω.nadd olen (Ω.toN (Ω.imin (Ω.bin .sub .i64 (Int.ofNat m) (Ω.ofN olen)) (Int.ofNat 136))) = olen2 := by rw [hKK, h2]; subst hΩ; rfl
       have e4 : Ω.nsub 136 (Ω.toN (Ω.imin (Ω.bin .sub .i64 (Int.ofNat m) (Ω.ofN olen)) (Int.ofNat 136))) = rlen2 := by rw [hKK, h4]; subst hΩ; rfl
       have e6 : Ω.cat (Ω.sub out 0 olen) (Ω.sub o 0 (Ω.toN (Ω.imin (Ω.bin .sub .i64 (Int.ofNat m) (Ω.ofN olen)) (Int.ofNat 136)))) = out2 := by
        rw [hKK, h6]; subst hΩ
        show (out.drop 0).take olen ++ (o.drop 0).take kk = _
        rw [List.drop_zero, List.take_of_length_le (by omega)]
       have hout2 : out2.length = olen2 := by rw [h6, List.length_append, List.length_take, List.length_drop]; omega
       have hinv : out2 ++ (o.drop kk).take rlen2 = r ++ sq s (k + 1) := by
        rw [h6, h4, List.append_assoc, List.drop_zero, qhu (by omega), hor, List.append_assoc, sq, <- hst3, <- ho]
       constructor
       ·exact fun _ => ⟨a1, trivial, trivial, a3, Nat.le_refl _, Nat.le_refl _⟩
       refine ⟨(k + 1, out2, olen2, cap2, st2, o, kk, rlen2, rlen2), [some 544, some 360], ⟨hout2.symm, by show olen2 <= m; omega, by show olen2 <= cap2; omega, hst3, by show kk + rlen2 <= o.length; omega, Nat.le_refl _, hinv, .inl (by show rlen2 <= 136; omega)⟩, by show m - olen2 < m - olen; omega, by show 2 <= 8 * 1; omega, ?_⟩
       set_option maxRecDepth 20000 in cbv
       exact ⟨e2, e6, hKK, e4, e4, trivial⟩
      ·intro he
       rw [hΩ] at he; simp (disch := omega) only [Om.real, qc, decide_eq_true_eq, decide_eq_false_iff_not] at he
       cbv
       obtain ⟨kk, hkk⟩ : ∃ kk, kk = min (m - olen) rlen := ⟨_, rfl⟩
       have hKK : Ω.toN (Ω.imin (Ω.bin .sub .i64 (Int.ofNat m) (Ω.ofN olen)) (Ω.ofN rlen)) = kk := by
        subst hΩ
        show (min (binL .sub .i64 (m : Int) (olen : Int)) (rlen : Int)).toNat = kk
        rw [qbH _ _ (by omega) (by omega)]
        omega
       have hKI : Ω.imin (Ω.bin .sub .i64 (Int.ofNat m) (Ω.ofN olen)) (Ω.ofN rlen) = (kk : Int) := by
        subst hΩ
        show min (binL .sub .i64 (m : Int) (olen : Int)) (rlen : Int) = kk
        rw [qbH _ _ (by omega) (by omega)]
        omega
       have a1 : 0 <= Ω.imin (Ω.bin .sub .i64 (Int.ofNat m) (Ω.ofN olen)) (Ω.ofN rlen) := by rw [hKI]; omega
       have a2 : 0 <= Ω.toN (Ω.imin (Ω.bin .sub .i64 (Int.ofNat m) (Ω.ofN olen)) (Ω.ofN rlen)) := Nat.zero_le _
       have a3 : Ω.toN (Ω.imin (Ω.bin .sub .i64 (Int.ofNat m) (Ω.ofN olen)) (Ω.ofN rlen)) <= rcap := by omega
       have a5 : (olen + Ω.toN (Ω.imin (Ω.bin .sub .i64 (Int.ofNat m) (Ω.ofN olen)) (Ω.ofN rlen))) * 1 <= 140737488355328 := by omega
       have a6 : 0 + olen * 1 <= out.length := by omega
       have a7 : roff + Ω.toN (Ω.imin (Ω.bin .sub .i64 (Int.ofNat m) (Ω.ofN olen)) (Ω.ofN rlen)) * 1 <= blk.length := by omega
       have a8 : Ω.toN (Ω.imin (Ω.bin .sub .i64 (Int.ofNat m) (Ω.ofN olen)) (Ω.ofN rlen)) <= rlen := by omega
       constructor
       ·exact fun _ => ⟨trivial, a1, trivial, a2, a3, Nat.le_refl _⟩
       constructor
       ·exact fun _ => a5
       constructor
       ·exact fun _ => ⟨a6, a7⟩
       intro cap2 hcap2
       cbv
       have hcap2 : olen + kk <= cap2 := by rw [<- hKK]; exact hcap2
       obtain ⟨olen2, h2⟩ : ∃ x, x = olen + kk := ⟨_, rfl⟩
       obtain ⟨roff2, h3⟩ : ∃ x, x = roff + kk := ⟨_, rfl⟩
       obtain ⟨rlen2, h4⟩ : ∃ x, x = rlen - kk := ⟨_, rfl⟩
       obtain ⟨rcap2, h5⟩ : ∃ x, x = rcap - kk := ⟨_, rfl⟩
       obtain ⟨out2, h6⟩ : ∃ x, x = out ++ (blk.drop roff).take kk := ⟨_, rfl⟩
       have e2 : Ω.nadd olen (Ω.toN (Ω.imin (Ω.bin .sub .i64 (Int.ofNat m) (Ω.ofN olen)) (Ω.ofN rlen))) = olen2 := by rw [hKK, h2]; subst hΩ; rfl
       have e3 : Ω.nadd roff (Ω.toN (Ω.imin (Ω.bin .sub .i64 (Int.ofNat m) (Ω.ofN olen)) (Ω.ofN rlen))) = roff2 := by rw [hKK, h3]; subst hΩ; rfl
       have e4 : Ω.nsub rlen (Ω.toN (Ω.imin (Ω.bin .sub .i64 (Int.ofNat m) (Ω.ofN olen)) (Ω.ofN rlen))) = rlen2 := by rw [hKK, h4]; subst hΩ; rfl
       have e5 : Ω.nsub rcap (Ω.toN (Ω.imin (Ω.bin .sub .i64 (Int.ofNat m) (Ω.ofN olen)) (Ω.ofN rlen))) = rcap2 := by rw [hKK, h5]; subst hΩ; rfl
       have e6 : Ω.cat (Ω.sub out 0 olen) (Ω.sub blk roff (Ω.toN (Ω.imin (Ω.bin .sub .i64 (Int.ofNat m) (Ω.ofN olen)) (Ω.ofN rlen)))) = out2 := by
        rw [hKK, h6]; subst hΩ
        show (out.drop 0).take olen ++ (blk.drop roff).take kk = _
        rw [List.drop_zero, List.take_of_length_le (by omega)]
       have hout2 : out2.length = olen2 := by rw [h6, List.length_append, List.length_take, List.length_drop]; omega
       have hinv : out2 ++ (blk.drop roff2).take rlen2 = r ++ sq s k := by
        rw [h6, h3, h4, List.append_assoc, <- j7, <- List.drop_drop, qhu (by omega)]
       constructor
       ·exact fun _ => ⟨a1, trivial, trivial, a8, j6, Nat.le_refl _⟩
       refine ⟨(k, out2, olen2, cap2, st, blk, roff2, rlen2, rcap2), [some 392, some 161], ⟨hout2.symm, by show olen2 <= m; omega, by show olen2 <= cap2; omega, j4, by show roff2 + rlen2 <= blk.length; omega, by show rlen2 <= rcap2; omega, hinv, by show rlen2 <= 136 \/ rlen2 <= r.length; omega⟩, by show m - olen2 < m - olen; omega, by show 2 <= 8 * 1; omega, ?_⟩
       cbv
       exact ⟨e2, e6, e3, e4, e5, trivial⟩
     ·intro hd
      rw [hΩ] at hd; simp (disch := omega) only [Om.real, qc, decide_eq_true_eq, decide_eq_false_iff_not] at hd
      have hom : olen = m := by omega
      have hsub : (blk.drop roff).take rlen = Ω.sub blk roff rlen := by subst hΩ; rfl
      have hsub2 : out = Ω.sub out 0 olen := by subst hΩ; exact (by rw [j1]; exact List.take_length.symm : out = (out.drop 0).take olen)
      have hlq := congrArg List.length j7
      rw [List.length_append, List.length_append, qht, List.length_take, List.length_drop] at hlq
      cbv
      refine hQ ⟨out, ocap, st, (blk.drop roff).take rlen, rcap, k, 0, true⟩ _ _ _ ?_ ?_
      ·show if badN (m : Int) then _ else _
       rw [if_neg hnb]
       refine ⟨rfl, rfl, j4, ?_, ?_, ?_, ?_, ?_⟩
       ·show out = (r ++ sq s k).take (m : Int).toNat
        rw [Int.toNat_natCast, <- j7, List.take_left' (by omega)]
       ·show (blk.drop roff).take rlen = (r ++ sq s k).drop (m : Int).toNat
        rw [Int.toNat_natCast, <- j7, List.drop_left' (by omega)]
       ·show (m : Int).toNat <= r.length + 136 * k
        rw [Int.toNat_natCast]; omega
       ·refine ⟨by show ((blk.drop roff).take rlen).length <= rcap; rw [List.length_take]; omega, ?_⟩
        show ((blk.drop roff).take rlen).length <= 136 \/ ((blk.drop roff).take rlen).length <= r.length
        rw [List.length_take]; omega
       ·show out.length <= ocap
        omega
      ·refine ⟨⟨⟨rfl, rfl, by show 0 + olen <= out.length; omega, hsub2⟩, ⟨rfl, rfl⟩, ⟨rfl, rfl, rfl⟩, ⟨rfl, rfl, by show roff + rlen <= blk.length; omega, hsub⟩, rfl, trivial⟩, rfl, rfl⟩
end Go.Sx.Tryz.K
end
section

end
section

end
section
namespace Go.Sx.Tryz.K
open Go.Proofs
def hrdS (M : List Int) : List Int := qah (List.replicate 25 0) M (M.length / 136)
def hrdR (M : List Int) : List Int := M.drop (136 * (M.length / 136))
theorem qoo (s M : List Int) (k : Nat) : ∀ j, qah s M (k + j) = qah (qah s M k) (M.drop (136 * k)) j
 | 0 => rfl
 | j + 1 => by
   rw [<- Nat.add_assoc, qah, qoo s M k j, qah, List.drop_drop, Nat.mul_add]
theorem qop (s M b : List Int) : ∀ n, 136 * n <= M.length -> qah s (M ++ b) n = qah s M n
 | 0, _ => rfl
 | n + 1, h => by
   rw [qah, qah, qop s M b n (by omega), List.drop_append_of_le_length (by omega), List.take_append_of_le_length (by rw [List.length_drop]; omega)]
theorem hrd_len (M b : List Int) : (M ++ b).length / 136 = M.length / 136 + (hrdR M ++ b).length / 136 := by
 rw [hrdR, List.length_append, List.length_append, List.length_drop]; omega
theorem hrdS_app (M b : List Int) : hrdS (M ++ b) = qah (hrdS M) (hrdR M ++ b) ((hrdR M ++ b).length / 136) := by
 rw [hrdS, hrd_len, qoo, qop _ _ _ _ (by omega), List.drop_append_of_le_length (by omega)]
 rfl
theorem hrdR_app (M b : List Int) : hrdR (M ++ b) = (hrdR M ++ b).drop (136 * ((hrdR M ++ b).length / 136)) := by
 rw [hrdR, hrd_len, Nat.mul_add, <- List.drop_drop, List.drop_append_of_le_length (by omega)]
 rfl
theorem hrdR_lt (M : List Int) : (hrdR M).length < 136 := by
 rw [hrdR, List.length_drop]; omega
theorem hrdS_len (M : List Int) : (hrdS M).length = 25 := by
 rw [hrdS, qjD, List.length_replicate]
end Go.Sx.Tryz.K
end
section
set_option maxHeartbeats 4000000
namespace Go.Sx.Tryz.K
open Go.Proofs
theorem qoq (n : Int) (xss : List (List Int)) : ∃ z : RdRes, if badN n then z.out = [] /\ z.er = 10 else z.er = 0 /\ z.out = (qaf (hrdS xss.flatten) (hrdR xss.flatten) false ++ sq (qau (hrdS xss.flatten) (hrdR xss.flatten) false) z.k).take n.toNat /\ n.toNat <= 136 + 136 * z.k /\ z.out.length <= z.c := by
 by_cases hb : badN n
 ·refine ⟨⟨[], 0, [], [], 0, 0, 10, false⟩, ?_⟩
  rw [if_pos hb]; exact ⟨rfl, rfl⟩
 ·refine ⟨⟨(qaf (hrdS xss.flatten) (hrdR xss.flatten) false ++ sq (qau (hrdS xss.flatten) (hrdR xss.flatten) false) n.toNat).take n.toNat, ((qaf (hrdS xss.flatten) (hrdR xss.flatten) false ++ sq (qau (hrdS xss.flatten) (hrdR xss.flatten) false) n.toNat).take n.toNat).length, [], [], 0, n.toNat, 0, false⟩, ?_⟩
  rw [if_neg hb]; exact ⟨rfl, rfl, (by show n.toNat <= 136 + 136 * n.toNat; omega), Nat.le_refl _⟩
def s25 : qe := fun args => match args with
 | [.int .i64 n, .rol .u8 xss] => ⟨∀ _ : Unit, xss.length < 4611686018427387904 /\ xss.flatten.length <= 140737488355328, RdRes, fun z => (if badN n then z.out = [] /\ z.er = 10 else z.er = 0 /\ z.out = (qaf (hrdS xss.flatten) (hrdR xss.flatten) false ++ sq (qau (hrdS xss.flatten) (hrdR xss.flatten) false) z.k).take n.toNat /\ n.toNat <= 136 + 136 * z.k /\ z.out.length <= z.c), fun z => .tup [.fr .u8 z.out z.c, .int .i64 z.er]⟩
 | [.int .i64 n, .roi .u8 xs] => ⟨∀ _ : Unit, xs = [], RdRes, fun z => (if badN n then z.out = [] /\ z.er = 10 else z.er = 0 /\ z.out = (qaf (hrdS []) (hrdR []) false ++ sq (qau (hrdS []) (hrdR []) false) z.k).take n.toNat /\ n.toNat <= 136 + 136 * z.k /\ z.out.length <= z.c), fun z => .tup [.fr .u8 z.out z.c, .int .i64 z.er]⟩
 | _ => PR.none
noncomputable def i25 : List (FuncId × Func) := [(156, Tryz.f156)]
theorem c25 : Ctr Tryz.prog T glob 66 s25 := by
 refine qlB T_ok qg qh [] i25 [(157, m28), (158, m29)] qi (qM Tryz.call156 Tryz.func156 (by kernel_rfl) qj) (qii mc28 (qii mc29 qk))  Tryz.func66 (by rfl) (by kernel_rfl) Tryz.call66 ?_ ?_
 ·intro args; unfold s25; split
  ·exact qdf ⟨trivial, trivial, trivial⟩ fun _ => qoq _ _
  ·exact qdf ⟨trivial, trivial, trivial⟩ fun _ => qoq _ []
  ·exact PR.good_none
 ·intro P Ω hΩ hE hI hm args pr hs hp Q hQ
  unfold s25 at hs
  split at hs <;> subst hs <;> try (exact hp.elim)
  ·rename_i n xss
   obtain ⟨lx, ly⟩ := hp ()
   refine ⟨1000, ?_⟩
   obtain ⟨L, hL⟩ : ∃ L, L = xss.length := ⟨_, rfl⟩
   have hL2 : Ω.len2 xss = L := by subst hΩ; exact hL.symm
   cbv
   refine qu hE hI hm (fun x : Nat × List Int × List Int × Nat × Nat => (mkT 32 [(0, .int .i64 n), (1, .rol .u8 xss), (6, .ptr 112 (.l 0)), (7, .fn 157 [.ptr 112 (.l 0)] []), (14, .rol .u8 xss), (15, .int .i64 L), (16, .int .i64 x.1)], [(113, .seq .u8 x.2.2.1), (112, .agg [.row .u64 25 x.2.1, .sl 113 1 (.l 0) (.s x.2.2.2.1) (.s x.2.2.2.2), .bs false])])) (fun x => x.1 <= L /\ x.2.1 = hrdS (xss.take x.1).flatten /\ x.2.2.1 = hrdR (xss.take x.1).flatten /\ x.2.2.2.1 = x.2.2.1.length /\ x.2.2.2.1 <= x.2.2.2.2) (fun x => L - x.1) 1 ⟨(0, List.replicate 25 0, [], 0, 0), [some 48, none], ⟨Nat.zero_le _, by simp [hrdS, qah], by simp [hrdR], rfl, Nat.le_refl _⟩, by decide, ?_⟩ fun x hj => ⟨1000, ?_⟩
   ·cbv
    exact ⟨by subst hΩ; show ((xss.length : Nat) : Int) = L; rw [hL], rfl, trivial⟩
   obtain ⟨i, s, r, R, c⟩ := x
   obtain ⟨j1, j2, j3, j4, j5⟩ : i <= L /\ s = hrdS (xss.take i).flatten /\ r = hrdR (xss.take i).flatten /\ R = r.length /\ R <= c := hj
   cbv
   constructor
   ·intro hc
    cbv
    rw [hΩ] at hc; simp (disch := omega) only [Om.real, qc, decide_eq_true_eq, decide_eq_false_iff_not] at hc
    repeat (refine ⟨by ((try intro _); (try subst hΩ); simp (disch := omega) only [Om.real, qc, SN.v]; omega), ?_⟩)
    have hi : i < xss.length := by omega
    have hsub : Ω.sub r 0 R = r := by rw [j4]; subst hΩ; exact List.take_length
    have htk : (xss.take (i + 1)).flatten = (xss.take i).flatten ++ xss.getD i [] := by
     rw [List.take_succ_eq_append_getElem hi, List.flatten_append]
     simp [List.getD, hi]
    constructor
    ·exact fun _ => ⟨⟨by show 0 + R <= r.length; omega, trivial⟩, trivial, trivial⟩
    constructor
    ·intro _ _
     refine ⟨by rw [j2, hrdS_len], by show (Ω.sub r 0 R).length <= c; rw [hsub]; omega, ?_⟩
     intro _
     show (Ω.sub r 0 R).length + (Ω.at2 xss (Ω.toN (Int.ofNat i))).length <= 140737488355328
     rw [hsub]
     have h1 : (xss.take (i + 1)).flatten.length <= xss.flatten.length := by
      conv => rhs; rw [<- List.take_append_drop (i + 1) xss, List.flatten_append, List.length_append]
      omega
     rw [htk, List.length_append] at h1
     have h2 : r.length <= (xss.take i).flatten.length := by rw [j3, hrdR, List.length_drop]; omega
     have h3 : (Ω.at2 xss (Ω.toN (Int.ofNat i))).length = (xss.getD i []).length := by subst hΩ; rfl
     exact (by omega : r.length + (Ω.at2 xss (Ω.toN (Int.ofNat i))).length <= 140737488355328)
    intro z hz
    obtain ⟨s2, r2, c2⟩ := z
    obtain ⟨hc2, hs2, hr2⟩ : r2.length <= c2 /\ s2 = qah s (Ω.sub r 0 R ++ xss.getD i []) ((Ω.sub r 0 R ++ xss.getD i []).length / 136) /\ r2 = (Ω.sub r 0 R ++ xss.getD i []).drop (136 * ((Ω.sub r 0 R ++ xss.getD i []).length / 136)) := by subst hΩ; exact hz
    rw [hsub, j2, j3] at hs2
    rw [hsub, j3] at hr2
    rw [<- hrdS_app, <- htk] at hs2
    rw [<- hrdR_app, <- htk] at hr2
    obtain ⟨R2, hR2⟩ : ∃ R2, R2 = r2.length := ⟨_, rfl⟩
    cbv
    constructor
    ·intro h
     have h2 : False := by subst hΩ; exact Bool.noConfusion (show false = true from h)
     contradiction
    intro _
    cbv
    refine ⟨(i + 1, s2, r2, R2, c2), [some 112, some 168], ⟨by show i + 1 <= L; omega, hs2, hr2, hR2, by show R2 <= c2; omega⟩, by show L - (i + 1) < L - i; omega, by show 2 <= 8 * 1; omega, ?_⟩
    cbv
    refine ⟨?_, by subst hΩ; exact hR2.symm, trivial⟩
    subst hΩ
    show binL .add .i64 (i : Int) 1 = ((i + 1 : Nat) : Int)
    exact qin i 1 (by show i + 1 < 9223372036854775808; omega)
   ·intro hc
    cbv
    rw [hΩ] at hc; simp (disch := omega) only [Om.real, qc, decide_eq_true_eq, decide_eq_false_iff_not] at hc
    constructor
    ·exact fun _ => ⟨⟨by show 0 + R <= r.length; omega, trivial⟩, trivial, trivial⟩
    have hiL : i = xss.length := by omega
    have hsub : Ω.sub r 0 R = r := by rw [j4]; subst hΩ; exact List.take_length
    have htk : xss.take i = xss := by rw [hiL, List.take_length]
    rw [htk] at j2 j3
    have hrl : r.length < 136 := by rw [j3]; exact hrdR_lt _
    have hpre : s.length = 25 /\ (false = false -> (Ω.sub r 0 R).length < 136) /\ (Ω.sub r 0 R).length <= c := by
     rw [hsub]; exact ⟨by rw [j2, hrdS_len], fun _ => hrl, by omega⟩
    constructor
    ·exact fun _ _ => hpre
    intro z hz
    obtain ⟨out, oc, s2, r2, c2, k, er, tl⟩ := z
    have hz : if badN n then out = [] /\ oc = 0 /\ s2 = s /\ r2 = Ω.sub r 0 R /\ c2 = c /\ er = 10 /\ tl = false else er = 0 /\ tl = true /\ s2 = pit (qau s (Ω.sub r 0 R) false) k /\ out = (qaf s (Ω.sub r 0 R) false ++ sq (qau s (Ω.sub r 0 R) false) k).take n.toNat /\ r2 = (qaf s (Ω.sub r 0 R) false ++ sq (qau s (Ω.sub r 0 R) false) k).drop n.toNat /\ n.toNat <= (qaf s (Ω.sub r 0 R) false).length + 136 * k /\ (r2.length <= c2 /\ (r2.length <= 136 \/ r2.length <= (Ω.sub r 0 R).length)) /\ out.length <= oc := hz
    rw [hsub, j2, j3] at hz
    cbv
    refine hQ ⟨out, oc, s2, r2, c2, k, er, tl⟩ _ _ _ ?_ ?_
    ·show if badN n then _ else _
     by_cases hb : badN n
     ·rw [if_pos hb] at hz ⊢
      exact ⟨hz.1, hz.2.2.2.2.2.1⟩
     ·rw [if_neg hb] at hz ⊢
      refine ⟨hz.1, hz.2.2.2.1, ?_, hz.2.2.2.2.2.2.2⟩
      have h1 := hz.2.2.2.2.2.1
      have h2 : (qaf (hrdS xss.flatten) (hrdR xss.flatten) false).length <= 136 := by rw [qaf, if_neg (by decide), List.length_take]; omega
      show n.toNat <= 136 + 136 * k
      omega
    ·refine ⟨⟨⟨rfl, rfl, by show 0 + Ω.len out <= out.length; subst hΩ; exact Nat.le_of_eq (Nat.zero_add _), by subst hΩ; exact List.take_length.symm⟩, ⟨rfl, rfl⟩, trivial⟩, (by first | trivial | exact ⟨rfl, rfl⟩ | cbv | (cbv; trivial))⟩
  ·rename_i n xs
   have hx := hp ()
   refine ⟨1000, ?_⟩
   have hL : Ω.len xs = 0 := by rw [hx]; subst hΩ; rfl
   cbv
   refine qu hE hI hm (fun x : List Int × List Int × Nat × Nat => (mkT 32 [(0, .int .i64 n), (1, .roi .u8 xs), (6, .ptr 112 (.l 0)), (7, .fn 157 [.ptr 112 (.l 0)] []), (14, .roi .u8 xs), (15, .int .i64 (0 : Nat)), (16, .int .i64 (0 : Nat))], [(113, .seq .u8 x.2.1), (112, .agg [.row .u64 25 x.1, .sl 113 1 (.l 0) (.s x.2.2.1) (.s x.2.2.2), .bs false])])) (fun x => x.1 = hrdS [] /\ x.2.1 = hrdR [] /\ x.2.2.1 = x.2.1.length /\ x.2.2.1 <= x.2.2.2) (fun _ => 0) 1 ⟨(List.replicate 25 0, [], 0, 0), [some 48, none], ⟨by simp [hrdS, qah], by simp [hrdR], rfl, Nat.le_refl _⟩, by decide, ?_⟩ fun x hj => ⟨1000, ?_⟩
   ·cbv
    exact ⟨by subst hΩ; show ((xs.length : Nat) : Int) = 0; rw [hx]; rfl, rfl, trivial⟩
   obtain ⟨s, r, R, c⟩ := x
   obtain ⟨j2, j3, j4, j5⟩ : s = hrdS [] /\ r = hrdR [] /\ R = r.length /\ R <= c := hj
   cbv
   constructor
   ·intro hc
    have h2 : False := by subst hΩ; exact Bool.noConfusion (show false = true from hc)
    contradiction
   ·intro hc
    cbv
    constructor
    ·exact fun _ => ⟨⟨by show 0 + R <= r.length; omega, trivial⟩, trivial, trivial⟩
    have hsub : Ω.sub r 0 R = r := by rw [j4]; subst hΩ; exact List.take_length
    have hrl : r.length < 136 := by rw [j3]; exact hrdR_lt _
    have hpre : s.length = 25 /\ (false = false -> (Ω.sub r 0 R).length < 136) /\ (Ω.sub r 0 R).length <= c := by
     rw [hsub]; exact ⟨by rw [j2, hrdS_len], fun _ => hrl, by omega⟩
    constructor
    ·exact fun _ _ => hpre
    intro z hz
    obtain ⟨out, oc, s2, r2, c2, k, er, tl⟩ := z
    have hz : if badN n then out = [] /\ oc = 0 /\ s2 = s /\ r2 = Ω.sub r 0 R /\ c2 = c /\ er = 10 /\ tl = false else er = 0 /\ tl = true /\ s2 = pit (qau s (Ω.sub r 0 R) false) k /\ out = (qaf s (Ω.sub r 0 R) false ++ sq (qau s (Ω.sub r 0 R) false) k).take n.toNat /\ r2 = (qaf s (Ω.sub r 0 R) false ++ sq (qau s (Ω.sub r 0 R) false) k).drop n.toNat /\ n.toNat <= (qaf s (Ω.sub r 0 R) false).length + 136 * k /\ (r2.length <= c2 /\ (r2.length <= 136 \/ r2.length <= (Ω.sub r 0 R).length)) /\ out.length <= oc := hz
    rw [hsub, j2, j3] at hz
    cbv
    refine hQ ⟨out, oc, s2, r2, c2, k, er, tl⟩ _ _ _ ?_ ?_
    ·show if badN n then _ else _
     by_cases hb : badN n
     ·rw [if_pos hb] at hz ⊢
      exact ⟨hz.1, hz.2.2.2.2.2.1⟩
     ·rw [if_neg hb] at hz ⊢
      refine ⟨hz.1, hz.2.2.2.1, ?_, hz.2.2.2.2.2.2.2⟩
      have h1 := hz.2.2.2.2.2.1
      have h2 : (qaf (hrdS []) (hrdR []) false).length <= 136 := by rw [qaf, if_neg (by decide), List.length_take]; omega
      show n.toNat <= 136 + 136 * k
      omega
    ·refine ⟨⟨⟨rfl, rfl, by show 0 + Ω.len out <= out.length; subst hΩ; exact Nat.le_of_eq (Nat.zero_add _), by subst hΩ; exact List.take_length.symm⟩, ⟨rfl, rfl⟩, trivial⟩, (by first | trivial | exact ⟨rfl, rfl⟩ | cbv | (cbv; trivial))⟩
end Go.Sx.Tryz.K
end
section

end
section
namespace Go.Sx.Tryz.K
open Go.Proofs
def tail (M : List Int) (k : Nat) : List Int := qaf (hrdS M) (hrdR M) false ++ sq (qau (hrdS M) (hrdR M) false) k
end Go.Sx.Tryz.K
end
section

end
section
namespace Go.Sx.Tryz.K
open Go.Proofs
theorem qub (s r : List Int) : (qaf s r false).length = 136 := by
 rw [qaf, if_neg (by decide), List.length_take, qcL]; rfl
theorem qor (s : List Int) (k : Nat) : ∀ j, pit s (k + j) = pit (pit s k) j
 | 0 => rfl
 | j + 1 => by rw [<- Nat.add_assoc, pit, qor s k j, pit]
theorem qos (s : List Int) (k : Nat) : ∀ j, sq s (k + j) = sq s k ++ sq (pit s k) j
 | 0 => by rw [Nat.add_zero, sq, List.append_nil]
 | j + 1 => by rw [<- Nat.add_assoc, sq, qos s k j, sq, List.append_assoc, Nat.add_assoc, qor s k (j + 1)]
def tsS (M : List Int) : List Int := qau (hrdS M) (hrdR M) false
theorem quc (M : List Int) (k j : Nat) : tail M (k + j) = tail M k ++ sq (pit (tsS M) k) j := by
 rw [tail, qos, <- List.append_assoc, <- tail]; rfl
theorem qud (M : List Int) (k : Nat) : (tail M k).length = 136 + 136 * k := by
 rw [tail, List.length_append, qub, qht]
def tl (M : List Int) (n : Nat) : List Int := (tail M n).take n
theorem que (M : List Int) {m a b : Nat} (ha : m <= 136 + 136 * a) (hb : m <= 136 + 136 * b) : (tail M a).take m = (tail M b).take m := by
 have key : ∀ a b, a <= b -> m <= 136 + 136 * a -> (tail M a).take m = (tail M b).take m := fun a b hab ha => by
  obtain ⟨j, rfl⟩ : ∃ j, b = a + j := ⟨b - a, by omega⟩
  rw [quc, List.take_append_of_le_length (by rw [qud]; omega)]
 rcases Nat.le_total a b with h1 | h1
 ·exact key a b h1 ha
 ·exact (key b a h1 hb).symm
theorem quf (M : List Int) {m k : Nat} (h : m <= 136 + 136 * k) : (tail M k).take m = tl M m := que M h (by omega)
theorem sum_of {n : Int} {xss : List (List Int)} {z : RdRes} (h : (s25 [.int .i64 n, .rol .u8 xss]).post z) :
  (badN n -> z.out = [] /\ z.er = 10) /\ (¬ badN n -> z.er = 0 /\ z.out = tl xss.flatten n.toNat /\ z.out.length <= z.c) := by
 have h : if badN n then z.out = [] /\ z.er = 10 else z.er = 0 /\ z.out = (qaf (hrdS xss.flatten) (hrdR xss.flatten) false ++ sq (qau (hrdS xss.flatten) (hrdR xss.flatten) false) z.k).take n.toNat /\ n.toNat <= 136 + 136 * z.k /\ z.out.length <= z.c := h
 refine ⟨fun hb => by rwa [if_pos hb] at h, fun hb => ?_⟩
 rw [if_neg hb] at h
 exact ⟨h.1, by rw [h.2.1]; exact quf _ h.2.2.1, h.2.2.2⟩
end Go.Sx.Tryz.K
end
