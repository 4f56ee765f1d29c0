/-
  Part of the proof of a statement: the means.
-/
import Derived.Test.YtfgejoocodofoaaGreatX16
import Derived.Test.YtfgejoocodofoaaGreatX9
import Derived.Test.YtfgejoocodofoaaGreatX13
import Derived.Test.YtfgejoocodofoaaGreatX10
set_option linter.unusedSectionVars false
set_option linter.unusedVariables false
set_option linter.unusedSimpArgs false
set_option linter.deprecated false
section
set_option maxHeartbeats 4000000
namespace Go.Sx.Tryz
open Go.Proofs
set_option maxRecDepth 40000
theorem qud {args : List SVal} {p : Prop} {post : (List Int × Nat) × List Int × Nat -> Prop} (hc : IdsLtL noId args) (h : p -> ∃ x, post x) : PR.Good ⟨p, (List Int × Nat) × List Int × Nat, post, fun z => .tup [.fr .u8 z.1.1 z.1.2, .fr .u8 z.2.1 z.2.2]⟩ args :=
 ⟨fun _ => ⟨trivial, trivial, trivial⟩, (fun E x b q hq => by simp [place, place.placeL] at hq; rcases hq with rfl | rfl <;> exact ⟨by simp, by simp⟩), fun _ => hc, h⟩
theorem que {A : Nat} {bs : List Int} (hb : Byt bs) (lb : bs.length <= 1000) (hp : 0 < nV bs) : ∃ z : (List Int × Nat) × List Int × Nat, (Byt z.1.1 /\ z.1.1.length <= z.1.2) /\ nV z.2.1 = A % nV bs /\ Byt z.2.1 /\ z.2.1.length <= 8000 /\ z.2.1.length <= z.2.2 := by
 obtain ⟨z, h1, h2, h3, h4⟩ := qcw (Nat.lt_trans (Nat.mod_lt A hp) (qaO hb))
 exact ⟨(([], 0), z), ⟨fun a ha => (by cases ha), Nat.le_refl _⟩, h1, h2, by show z.1.length <= 8000; omega, h4⟩
def qh7 (Ω : Om) : qd := fun args => match args with
 | [.roi .u8 bs, .int .i64 c0] => ⟨∀ _ : Unit, (Byt bs /\ bs.length < 1000000) /\ (c0 = 0 \/ c0 = 1), List Int × Nat, fun z => ((nV z.1 : Nat) : Int) = 2 * ((nV bs : Nat) : Int) + c0 /\ Byt z.1 /\ z.1.length <= bs.length + 1 /\ z.1.length <= z.2, fun z => .fr .u8 z.1 z.2⟩
 | _ => PR.none
theorem quf : Ctr Tryz.prog T glob 174 (qh7 Om.real) := by
 refine qo T_ok qi qj (fun Ω => [(121, qcx Ω)]) [] (fun Ω => []) [] (qb qfj qg) qh qe qf Tryz.func174 (by rfl) (by kernel_rfl) Tryz.call174 ?_ ?_
 ·intro args; unfold qh7; split
  ·exact qai ⟨trivial, trivial, trivial⟩ fun h => qub (h ()).1.1 (h ()).2
  ·exact PR.good_none
 ·intro P Ω hΩ hE hI hm args pr hs hp Q hQ
  unfold qh7 at hs
  split at hs <;> subst hs <;> try (exact hp.elim)
  rename_i bs c0
  obtain ⟨⟨hb, lb⟩, hc0⟩ := hp ()
  refine ⟨1000, ?_⟩
  conv => cbv
  refine qv hE hI hm (fun z : Nat × List Int × Int × Nat × Nat => (mkT 33 [(0, .roi .u8 bs), (1, .int .i64 z.2.2.1), (4, .val (.slice none 0 0)), (5, .sl 24 1 (.l 0) (.s z.2.2.2.1) (.s z.2.2.2.2)), (6, .int .i64 z.1)], [(24, .seq .u8 z.2.1)])) (fun z => z.1 <= bs.length + 1 /\ Dbl bs c0 z.1 z.2.2.1 z.2.1 /\ z.2.2.2.1 = z.1 /\ z.2.2.2.1 <= z.2.2.2.2) (fun z => bs.length + 1 - z.1) 1 ⟨(0, [], c0, 0, 0), [none], ⟨Nat.zero_le _, Dbl.start bs hc0, rfl, Nat.le_refl _⟩, by decide, ?_⟩ fun z hz => ⟨1000, ?_⟩
  ·conv => cbv
   trivial
  obtain ⟨i, u, c, n, cap0⟩ := z
  obtain ⟨hi, hS, hn, hcap0⟩ : i <= bs.length + 1 /\ Dbl bs c0 i c u /\ n = i /\ n <= cap0 := hz
  conv => cbv
  constructor
  ·intro hc
   have hlt : (i : Int) < (bs.length : Int) := by subst hΩ; exact of_decide_eq_true hc
   obtain ⟨d, hd⟩ : ∃ d, d = 2 * bs.getD i 0 + c := ⟨_, rfl⟩
   obtain ⟨hdr, hst⟩ := hS.step hb (by omega) hd
   obtain ⟨c2, hc2'⟩ : ∃ c2, c2 = d / 256 := ⟨_, rfl⟩
   obtain ⟨u2, hu2⟩ : ∃ u2, u2 = u ++ [d % 256] := ⟨_, rfl⟩
   rw [<- hc2', <- hu2] at hst
   have gx := qaJ hb i
   have hov := hS.ov
   have hul := hS.len
   have ed : binL .add .i64 (binL .mul .i64 2 (bs.getD i 0)) c = d := by
    rw [qaj (by omega) (by omega), qu (by omega) (by omega), hd]
   have ed2 : binL .quo .i64 d 256 = c2 := by
    rw [hc2', show d = ((d.toNat : Nat) : Int) by omega]
    exact qa4 _ 256 (by omega)
   have ed3 : IntKind.u8.wrap (binL .rem .i64 d 256) = d % 256 := by
    rw [show d = ((d.toNat : Nat) : Int) by omega, show (256 : Int) = ((256 : Nat) : Int) from rfl, qcf, IntKind.wrap_u8]; omega
   conv => cbv
   constructor
   ·exact fun _ _ => ⟨Int.natCast_nonneg i, by omega, hb⟩
   intro _ _
   conv => cbv
   constructor
   ·exact fun _ => (show (n + 1) * 1 <= 140737488355328 by omega)
   constructor
   ·exact fun _ => ⟨(show 0 + n * 1 <= u.length by omega), (show 0 + 1 * 1 <= 1 by omega)⟩
   intro cap hcap
   have hcap : n + 1 <= cap := hcap
   conv => cbv
   obtain ⟨n2, hn2⟩ : ∃ n2, n2 = n + 1 := ⟨_, rfl⟩
   refine ⟨(i + 1, u2, c2, n2, cap), [some 192], ⟨by show i + 1 <= bs.length + 1; omega, hst, by show n2 = i + 1; omega, by show n2 <= cap; omega⟩, by show bs.length + 1 - (i + 1) < bs.length + 1 - i; omega, by decide, ?_⟩
   conv => cbv
   subst hΩ
   refine ⟨?_, hn2.symm, ?_, ?_⟩
   ·show binL .quo .i64 (binL .add .i64 (binL .mul .i64 2 (bs.getD i 0)) c) 256 = c2
    rw [ed, ed2]
   ·show binL .add .i64 (i : Int) 1 = ((i + 1 : Nat) : Int)
    rw [qu (by omega) (by omega)]; omega
   ·show (u.drop 0).take n ++ [IntKind.u8.wrap (binL .rem .i64 (binL .add .i64 (binL .mul .i64 2 (bs.getD i 0)) c) 256)] = u2
    rw [ed, ed3, List.drop_zero, List.take_of_length_le (by omega), hu2]
  ·intro hc
   have hge : ¬ (i : Int) < (bs.length : Int) := by subst hΩ; exact of_decide_eq_false hc
   constructor
   ·intro hc2
    have hc1 : c > 0 := by subst hΩ; exact of_decide_eq_true hc2
    have hib : i <= bs.length := by
     have := hS.fin
     by_cases h : bs.length < i
     ·have := hS.fin h; omega
     ·omega
    obtain ⟨d, hd⟩ : ∃ d, d = 2 * bs.getD i 0 + c := ⟨_, rfl⟩
    obtain ⟨hdr, hst⟩ := hS.step hb hib hd
    obtain ⟨c2, hc2'⟩ : ∃ c2, c2 = d / 256 := ⟨_, rfl⟩
    obtain ⟨u2, hu2⟩ : ∃ u2, u2 = u ++ [d % 256] := ⟨_, rfl⟩
    rw [<- hc2', <- hu2] at hst
    have gx := qaJ hb i
    have hov := hS.ov
    have hul := hS.len
    have ed : binL .add .i64 (binL .mul .i64 2 (bs.getD i 0)) c = d := by
     rw [qaj (by omega) (by omega), qu (by omega) (by omega), hd]
    have ed2 : binL .quo .i64 d 256 = c2 := by
     rw [hc2', show d = ((d.toNat : Nat) : Int) by omega]
     exact qa4 _ 256 (by omega)
    have ed3 : IntKind.u8.wrap (binL .rem .i64 d 256) = d % 256 := by
     rw [show d = ((d.toNat : Nat) : Int) by omega, show (256 : Int) = ((256 : Nat) : Int) from rfl, qcf, IntKind.wrap_u8]; omega
    conv => cbv
    constructor
    ·exact fun _ _ => ⟨Int.natCast_nonneg i, by omega, hb⟩
    intro _ _
    conv => cbv
    constructor
    ·exact fun _ => (show (n + 1) * 1 <= 140737488355328 by omega)
    constructor
    ·exact fun _ => ⟨(show 0 + n * 1 <= u.length by omega), (show 0 + 1 * 1 <= 1 by omega)⟩
    intro cap hcap
    have hcap : n + 1 <= cap := hcap
    conv => cbv
    obtain ⟨n2, hn2⟩ : ∃ n2, n2 = n + 1 := ⟨_, rfl⟩
    refine ⟨(i + 1, u2, c2, n2, cap), [some 192], ⟨by show i + 1 <= bs.length + 1; omega, hst, by show n2 = i + 1; omega, by show n2 <= cap; omega⟩, by show bs.length + 1 - (i + 1) < bs.length + 1 - i; omega, by decide, ?_⟩
    conv => cbv
    subst hΩ
    refine ⟨?_, hn2.symm, ?_, ?_⟩
    ·show binL .quo .i64 (binL .add .i64 (binL .mul .i64 2 (bs.getD i 0)) c) 256 = c2
     rw [ed, ed2]
    ·show binL .add .i64 (i : Int) 1 = ((i + 1 : Nat) : Int)
     rw [qu (by omega) (by omega)]; omega
    ·show (u.drop 0).take n ++ [IntKind.u8.wrap (binL .rem .i64 (binL .add .i64 (binL .mul .i64 2 (bs.getD i 0)) c) 256)] = u2
     rw [ed, ed3, List.drop_zero, List.take_of_length_le (by omega), hu2]
   ·intro hc2
    have hc1 : ¬ c > 0 := by subst hΩ; exact of_decide_eq_false hc2
    have hov := hS.ov
    have hul := hS.len
    have hd := hS.done (by omega) (by omega)
    conv => cbv
    refine hQ (u, cap0) _ _ _ ⟨hd, hS.byt, by show u.length <= bs.length + 1; omega, by show u.length <= cap0; omega⟩ ?_
    subst hΩ
    refine ⟨rfl, rfl, ?_, ?_⟩
    ·show 0 + n <= u.length; omega
    ·show u = (u.drop 0).take n
     rw [List.drop_zero, List.take_of_length_le (by omega)]
def qh8 (Ω : Om) : qd := fun args => match args with
 | [.roi .u8 as', .roi .u8 bs] => ⟨∀ _ : Unit, (Byt as' /\ as'.length <= 1000) /\ (Byt bs /\ bs.length <= 1000) /\ 0 < nV bs, (List Int × Nat) × List Int × Nat, fun z => (Byt z.1.1 /\ z.1.1.length <= z.1.2) /\ nV z.2.1 = nV as' % nV bs /\ Byt z.2.1 /\ z.2.1.length <= 8000 /\ z.2.1.length <= z.2.2, fun z => .tup [.fr .u8 z.1.1 z.1.2, .fr .u8 z.2.1 z.2.2]⟩
 | _ => PR.none
noncomputable def qug : List (FuncId × Func) := [(148, Tryz.f148)]
theorem quh : Ctr Tryz.prog T glob 147 (qh8 Om.real) := by
 refine qo T_ok qi qj (fun Ω => [(97, qdW Ω), (98, qcy Ω), (174, qh7 Ω), (64, qhb Ω), (140, qdX Ω)]) qug (fun Ω => []) [] (qb qjT (qb qfk (qb quf (qb qsl (qb qjU qg))))) (qG Tryz.call148 Tryz.func148 (by kernel_rfl) qh) qe qf Tryz.func147 (by rfl) (by kernel_rfl) Tryz.call147 ?_ ?_
 ·intro args; unfold qh8; split
  ·exact qud ⟨trivial, trivial, trivial⟩ fun h => que (h ()).2.1.1 (h ()).2.1.2 (h ()).2.2
  ·exact PR.good_none
 ·intro P Ω hΩ hE hI hm args pr hs hp Q hQ
  unfold qh8 at hs
  split at hs <;> subst hs <;> try (exact hp.elim)
  rename_i ms bs
  obtain ⟨⟨hma, lm⟩, ⟨hb, lb⟩, hpos⟩ := hp ()
  refine ⟨1000, ?_⟩
  conv => cbv
  constructor
  ·exact fun _ _ => ⟨by omega, hma⟩
  intro (L : Nat) hL
  have hL : IsLen (nV ms) L /\ L <= 8000 := by
   subst hΩ
   have h : IsLen (nV ms) L /\ L <= 8 * ms.length := hL
   exact ⟨h.1, by omega⟩
  obtain ⟨j0, hj0⟩ : ∃ j0, Ω.bin .sub .i64 (Int.ofNat L) 1 = j0 := ⟨_, rfl⟩
  have ej0 : j0 = (L : Int) - 1 := by
   rw [<- hj0, hΩ]
   show binL .sub .i64 (L : Int) 1 = _
   rw [qx (by omega) (by omega)]
  conv at hj0 => lhs; cbv
  conv => cbv
  (try rw [hj0])
  refine qv hE hI hm (fun z : Nat × Int × List Int × Nat × List Int × Nat => (mkT 36 [(0, .roi .u8 ms), (1, .roi .u8 bs), (4, .val (.slice none 0 0)), (5, .val (.slice none 0 0)), (6, .sl 64 1 (.l 0) (.s (Ω.len z.2.2.1)) (.s z.2.2.2.1)), (7, .sl 65 1 (.l 0) (.s (Ω.len z.2.2.2.2.1)) (.s z.2.2.2.2.2)), (8, .int .i64 z.2.1)], [(65, .seq .u8 z.2.2.2.2.1), (64, .seq .u8 z.2.2.1)])) (fun z => z.1 <= L /\ z.2.1 = (z.1 : Int) - 1 /\ (nV z.2.2.2.2.1 = nV ms / 2 ^ z.1 % nV bs /\ Byt z.2.2.2.2.1 /\ z.2.2.2.2.1.length <= L - z.1 /\ z.2.2.2.2.1.length <= z.2.2.2.2.2) /\ Byt z.2.2.1 /\ z.2.2.1.length <= L - z.1 /\ z.2.2.1.length <= z.2.2.2.1) (fun z => z.1) 1 ⟨(L, j0, [], 0, [], 0), [none, none], ⟨Nat.le_refl _, ej0, ⟨?_, fun a ha => (by cases ha), Nat.zero_le _, Nat.le_refl _⟩, fun a ha => (by cases ha), Nat.zero_le _, Nat.le_refl _⟩, by decide, ?_⟩ fun z hz => ⟨1000, ?_⟩
  ·show nV [] = nV ms / 2 ^ L % nV bs
   rw [Nat.div_eq_of_lt hL.1.1, Nat.zero_mod]; rfl
  ·conv => cbv
   subst hΩ
   trivial
  obtain ⟨k, j, ql, qc, rl, rc⟩ := z
  obtain ⟨hk, hj, ⟨hrv, hrb, hrl, hrc⟩, hqb, hql, hqc⟩ : k <= L /\ j = (k : Int) - 1 /\ (nV rl = nV ms / 2 ^ k % nV bs /\ Byt rl /\ rl.length <= L - k /\ rl.length <= rc) /\ Byt ql /\ ql.length <= L - k /\ ql.length <= qc := hz
  have hsq : Ω.sub ql 0 (Ω.len ql) = ql := by
   rw [hΩ]; show (ql.drop 0).take ql.length = ql
   rw [List.drop_zero, List.take_length]
  conv at hsq => lhs; cbv
  have hsr : Ω.sub rl 0 (Ω.len rl) = rl := by
   rw [hΩ]; show (rl.drop 0).take rl.length = rl
   rw [List.drop_zero, List.take_length]
  conv at hsr => lhs; cbv
  conv => cbv
  constructor
  ·intro hc
   have h1 : 0 <= j := by subst hΩ; exact of_decide_eq_true hc
   obtain ⟨i, rfl⟩ : ∃ i : Nat, j = i := ⟨j.toNat, by omega⟩
   have hki : k = i + 1 := by omega
   subst hki
   have hbl := qbT (nV ms) i
   have hbit : (if (i : Int) < 0 then (0 : Int) else ((bitN (nV ms) (i : Int).toNat : Nat) : Int)) = ((bitN (nV ms) i : Nat) : Int) := by rw [if_neg (by omega), Int.toNat_natCast]
   have hrB : nV rl < nV bs := by rw [hrv]; exact Nat.mod_lt _ hpos
   obtain ⟨s1, s2⟩ := quc hpos hrv hrB
   conv => cbv
   constructor
   ·exact fun _ _ => ⟨by omega, (show -9223372036854775808 <= (i : Int) /\ (i : Int) < 9223372036854775808 by omega), hma⟩
   intro _ _
   conv => cbv
   constructor
   ·exact fun _ => ⟨(by subst hΩ; show 0 + rl.length <= rl.length; omega), trivial, trivial⟩
   rw [hsr]
   constructor
   ·intro _ _
    subst hΩ
    refine ⟨⟨hrb, by omega⟩, ?_⟩
    show (if (i : Int) < 0 then (0 : Int) else ((bitN (nV ms) (i : Int).toNat : Nat) : Int)) = 0 \/ (if (i : Int) < 0 then (0 : Int) else ((bitN (nV ms) (i : Int).toNat : Nat) : Int)) = 1
    rw [hbit]; omega
   intro d hd
   obtain ⟨dl, dc⟩ := d
   have hd : ((nV dl : Nat) : Int) = 2 * ((nV rl : Nat) : Int) + (if (i : Int) < 0 then (0 : Int) else ((bitN (nV ms) (i : Int).toNat : Nat) : Int)) /\ Byt dl /\ dl.length <= rl.length + 1 /\ dl.length <= dc := by subst hΩ; exact hd
   have hsd : Ω.sub dl 0 (Ω.len dl) = dl := by
    rw [hΩ]; show (dl.drop 0).take dl.length = dl
    rw [List.drop_zero, List.take_length]
   conv at hsd => lhs; cbv
   conv => cbv
   obtain ⟨hdv, hdb, hdl, hdc⟩ := hd
   rw [hbit] at hdv
   have hdv2 : nV dl = 2 * nV rl + bitN (nV ms) i := by omega
   constructor
   ·exact fun _ => ⟨(by subst hΩ; show 0 + dl.length <= dl.length; omega), trivial, trivial⟩
   rw [hsd]
   constructor
   ·exact fun _ _ => ⟨by omega, by omega, hdb, hb⟩
   intro _ _
   conv => cbv
   constructor
   ·intro hc2
    have hge : nV bs <= nV dl := by
     subst hΩ
     have h2 : (if nV dl < nV bs then (-1 : Int) else if nV bs < nV dl then 1 else 0) >= 0 := of_decide_eq_true hc2
     split at h2 <;> omega
    conv => cbv
    constructor
    ·exact fun _ => ⟨(by subst hΩ; show 0 + dl.length <= dl.length; omega), trivial, trivial⟩
    rw [hsd]
    constructor
    ·exact fun _ _ => ⟨hge, by omega, hdb, hb⟩
    intro e he
    obtain ⟨el, ec⟩ := e
    have he : nV el = nV dl - nV bs /\ Byt el /\ el.length <= dl.length /\ el.length <= ec := by subst hΩ; exact he
    have hse : Ω.sub el 0 (Ω.len el) = el := by
     rw [hΩ]; show (el.drop 0).take el.length = el
     rw [List.drop_zero, List.take_length]
    conv at hse => lhs; cbv
    conv => cbv
    obtain ⟨hev, hrb2, hel, hec⟩ := he
    have hval : nV el = nV ms / 2 ^ i % nV bs := by rw [hev, hdv2]; exact s1 (by omega)
    constructor
    ·exact fun _ => ⟨(by subst hΩ; show 0 + ql.length <= ql.length; omega), trivial, trivial⟩
    rw [hsq]
    constructor
    ·exact fun _ _ => ⟨⟨hqb, by omega⟩, .inr rfl⟩
    intro p hp
    obtain ⟨pl, pc⟩ := p
    have hp : ((nV pl : Nat) : Int) = 2 * ((nV ql : Nat) : Int) + 1 /\ Byt pl /\ pl.length <= ql.length + 1 /\ pl.length <= pc := by subst hΩ; exact hp
    have hsp : Ω.sub pl 0 (Ω.len pl) = pl := by
     rw [hΩ]; show (pl.drop 0).take pl.length = pl
     rw [List.drop_zero, List.take_length]
    conv at hsp => lhs; cbv
    conv => cbv
    obtain ⟨j2, hj2⟩ : ∃ j2 : Int, (i : Int) - 1 = j2 := ⟨_, rfl⟩
    refine ⟨(i, j2, pl, pc, el, ec), [some 232, some 192], ⟨by show i <= L; omega, hj2.symm, ⟨hval, hrb2, by show el.length <= L - i; omega, by show el.length <= ec; omega⟩, hp.2.1, by show pl.length <= L - i; omega, hp.2.2.2⟩, by show i < i + 1; omega, by decide, ?_⟩
    conv => cbv
    subst hΩ
    refine ⟨?_, trivial⟩
    show binL .sub .i64 (i : Int) 1 = j2
    rw [qx (by omega) (by omega), hj2]
   ·intro hc2
    have hlt2 : nV dl < nV bs := by
     subst hΩ
     have h2 : ¬ (if nV dl < nV bs then (-1 : Int) else if nV bs < nV dl then 1 else 0) >= 0 := of_decide_eq_false hc2
     split at h2
     ·assumption
     ·split at h2 <;> omega
    have hval : nV dl = nV ms / 2 ^ i % nV bs := by rw [hdv2]; exact s2 (by omega)
    have hrb2 := hdb
    conv => cbv
    constructor
    ·exact fun _ => ⟨(by subst hΩ; show 0 + ql.length <= ql.length; omega), trivial, trivial⟩
    rw [hsq]
    constructor
    ·exact fun _ _ => ⟨⟨hqb, by omega⟩, .inl rfl⟩
    intro p hp
    obtain ⟨pl, pc⟩ := p
    have hp : ((nV pl : Nat) : Int) = 2 * ((nV ql : Nat) : Int) + 0 /\ Byt pl /\ pl.length <= ql.length + 1 /\ pl.length <= pc := by subst hΩ; exact hp
    have hsp : Ω.sub pl 0 (Ω.len pl) = pl := by
     rw [hΩ]; show (pl.drop 0).take pl.length = pl
     rw [List.drop_zero, List.take_length]
    conv at hsp => lhs; cbv
    conv => cbv
    obtain ⟨j2, hj2⟩ : ∃ j2 : Int, (i : Int) - 1 = j2 := ⟨_, rfl⟩
    refine ⟨(i, j2, pl, pc, dl, dc), [some 192, some 120], ⟨by show i <= L; omega, hj2.symm, ⟨hval, hrb2, by show dl.length <= L - i; omega, by show dl.length <= dc; omega⟩, hp.2.1, by show pl.length <= L - i; omega, hp.2.2.2⟩, by show i < i + 1; omega, by decide, ?_⟩
    conv => cbv
    subst hΩ
    refine ⟨?_, trivial⟩
    show binL .sub .i64 (i : Int) 1 = j2
    rw [qx (by omega) (by omega), hj2]
  ·intro hc
   have h1 : ¬ 0 <= j := by subst hΩ; exact of_decide_eq_false hc
   have hk0 : k = 0 := by omega
   subst hk0
   rw [Nat.pow_zero, Nat.div_one] at hrv
   conv => cbv
   obtain ⟨nq, hnq⟩ : ∃ n, ql.length = n := ⟨_, rfl⟩
   refine qv hE hI hm (fun z : Nat => (mkT 21 [(0, .sl 64 1 (.l 0) (.s (Ω.len ql)) (.s qc)), (2, .val (.slice none 0 0)), (3, .int .i64 z)], [(65, .seq .u8 rl), (64, .seq .u8 ql)])) (fun z => z <= ql.length /\ Byt (ql.take z)) (fun z => z) 0 ⟨nq, [], ⟨by show nq <= ql.length; omega, qaz hqb _⟩, Nat.zero_le _, ?_⟩ fun kq hz => ⟨1000, ?_⟩
   ·conv => cbv
    subst hΩ
    exact ⟨(by show ((ql.length : Nat) : Int) = (nq : Int); rw [hnq]), trivial⟩
   obtain ⟨hkq, hvq⟩ : kq <= ql.length /\ Byt (ql.take kq) := hz
   conv => cbv
   constructor
   ·intro hc3
    have hk0 : 0 < kq := by
     rw [hΩ] at hc3
     have h : (kq : Int) > 0 := of_decide_eq_true hc3
     omega
    obtain ⟨m, hm1⟩ : ∃ m, kq = m + 1 := ⟨kq - 1, by omega⟩
    obtain ⟨e, he⟩ : ∃ e, Ω.bin .sub .i64 (Int.ofNat kq) 1 = e := ⟨_, rfl⟩
    have ee : e = (m : Int) := by
     rw [<- he, hΩ]
     show binL .sub .i64 (kq : Int) 1 = _
     rw [qx (by omega) (by omega)]; omega
    conv at he => lhs; cbv
    conv => cbv
    rw [he]
    constructor
    ·exact fun _ => ⟨by omega, by subst hΩ; show e < ((ql.length : Nat) : Int); omega⟩
    constructor
    ·exact fun _ => by subst hΩ; show e.toNat + 1 <= ql.length; omega
    constructor
    ·intro hc4
     have hz0 : ql.getD m 0 = 0 := by
      subst hΩ
      have h : ql.getD e.toNat 0 = 0 := eq_of_beq hc4
      rw [ee, Int.toNat_natCast] at h; exact h
     have hst : Byt (ql.take m) := qaz hqb _
     conv => cbv
     (try rw [he])
     refine ⟨m, [], ⟨by show m <= ql.length; omega, hst⟩, by show m < kq; omega, Nat.zero_le _, ?_⟩
     conv => cbv
     exact ⟨ee, trivial⟩
    ·intro hc4
     cbv
     constructor
     ·intro _
      refine ⟨trivial, (show (0 : Int) <= (kq : Int) by omega), trivial, Nat.zero_le _, ?_, Nat.le_refl _⟩
      subst hΩ
      show (kq : Int).toNat <= qc
      omega
     conv => cbv
     obtain ⟨nr, hnr⟩ : ∃ n, rl.length = n := ⟨_, rfl⟩
     refine qv hE hI hm (fun z : Nat => (mkT 21 [(0, .sl 65 1 (.l 0) (.s (Ω.len rl)) (.s rc)), (2, .val (.slice none 0 0)), (3, .int .i64 z)], [(65, .seq .u8 rl), (64, .seq .u8 ql)])) (fun z => z <= rl.length /\ nV (rl.take z) = nV rl) (fun z => z) 0 ⟨nr, [], ⟨by show nr <= rl.length; omega, by rw [<- hnr, List.take_length]⟩, Nat.zero_le _, ?_⟩ fun kr hz => ⟨1000, ?_⟩
     ·conv => cbv
      subst hΩ
      exact ⟨(by show ((rl.length : Nat) : Int) = (nr : Int); rw [hnr]), trivial⟩
     obtain ⟨hkr, hvr⟩ : kr <= rl.length /\ nV (rl.take kr) = nV rl := hz
     conv => cbv
     constructor
     ·intro hc3
      have hk0 : 0 < kr := by
       rw [hΩ] at hc3
       have h : (kr : Int) > 0 := of_decide_eq_true hc3
       omega
      obtain ⟨m, hm1⟩ : ∃ m, kr = m + 1 := ⟨kr - 1, by omega⟩
      obtain ⟨e, he⟩ : ∃ e, Ω.bin .sub .i64 (Int.ofNat kr) 1 = e := ⟨_, rfl⟩
      have ee : e = (m : Int) := by
       rw [<- he, hΩ]
       show binL .sub .i64 (kr : Int) 1 = _
       rw [qx (by omega) (by omega)]; omega
      conv at he => lhs; cbv
      conv => cbv
      rw [he]
      constructor
      ·exact fun _ => ⟨by omega, by subst hΩ; show e < ((rl.length : Nat) : Int); omega⟩
      constructor
      ·exact fun _ => by subst hΩ; show e.toNat + 1 <= rl.length; omega
      constructor
      ·intro hc4
       have hz0 : rl.getD m 0 = 0 := by
        subst hΩ
        have h : rl.getD e.toNat 0 = 0 := eq_of_beq hc4
        rw [ee, Int.toNat_natCast] at h; exact h
       have hst : nV (rl.take m) = nV rl := qdU hrb hz0 (by rw [<- hm1]; exact hvr)
       conv => cbv
       (try rw [he])
       refine ⟨m, [], ⟨by show m <= rl.length; omega, hst⟩, by show m < kr; omega, Nat.zero_le _, ?_⟩
       conv => cbv
       exact ⟨ee, trivial⟩
      ·intro hc4
       cbv
       constructor
       ·intro _
        refine ⟨trivial, (show (0 : Int) <= (kr : Int) by omega), trivial, Nat.zero_le _, ?_, Nat.le_refl _⟩
        subst hΩ
        show (kr : Int).toNat <= rc
        omega
       refine hQ ((ql.take kq, qc), (rl.take kr, rc)) _ _ _ ?_ ?_
       ·refine ⟨⟨hvq, ?_⟩, hvr.trans hrv, qaz hrb _, ?_, ?_⟩
        ·show (ql.take kq).length <= qc; rw [List.length_take]; omega
        ·show (rl.take kr).length <= 8000; rw [List.length_take]; omega
        ·show (rl.take kr).length <= rc; rw [List.length_take]; omega
       subst hΩ
       refine ⟨⟨⟨rfl, rfl, ?_, ?_⟩, ⟨rfl, rfl, ?_, ?_⟩, trivial⟩, rfl, rfl⟩
       ·show 0 + kq <= ql.length; omega
       ·show ql.take kq = (ql.drop 0).take kq
        rw [List.drop_zero]
       ·show 0 + kr <= rl.length; omega
       ·show rl.take kr = (rl.drop 0).take kr
        rw [List.drop_zero]
     ·intro hc3
      cbv
      constructor
      ·intro _
       refine ⟨trivial, (show (0 : Int) <= (kr : Int) by omega), trivial, Nat.zero_le _, ?_, Nat.le_refl _⟩
       subst hΩ
       show (kr : Int).toNat <= rc
       omega
      refine hQ ((ql.take kq, qc), (rl.take kr, rc)) _ _ _ ?_ ?_
      ·refine ⟨⟨hvq, ?_⟩, hvr.trans hrv, qaz hrb _, ?_, ?_⟩
       ·show (ql.take kq).length <= qc; rw [List.length_take]; omega
       ·show (rl.take kr).length <= 8000; rw [List.length_take]; omega
       ·show (rl.take kr).length <= rc; rw [List.length_take]; omega
      subst hΩ
      refine ⟨⟨⟨rfl, rfl, ?_, ?_⟩, ⟨rfl, rfl, ?_, ?_⟩, trivial⟩, rfl, rfl⟩
      ·show 0 + kq <= ql.length; omega
      ·show ql.take kq = (ql.drop 0).take kq
       rw [List.drop_zero]
      ·show 0 + kr <= rl.length; omega
      ·show rl.take kr = (rl.drop 0).take kr
       rw [List.drop_zero]
   ·intro hc3
    cbv
    constructor
    ·intro _
     refine ⟨trivial, (show (0 : Int) <= (kq : Int) by omega), trivial, Nat.zero_le _, ?_, Nat.le_refl _⟩
     subst hΩ
     show (kq : Int).toNat <= qc
     omega
    conv => cbv
    obtain ⟨nr, hnr⟩ : ∃ n, rl.length = n := ⟨_, rfl⟩
    refine qv hE hI hm (fun z : Nat => (mkT 21 [(0, .sl 65 1 (.l 0) (.s (Ω.len rl)) (.s rc)), (2, .val (.slice none 0 0)), (3, .int .i64 z)], [(65, .seq .u8 rl), (64, .seq .u8 ql)])) (fun z => z <= rl.length /\ nV (rl.take z) = nV rl) (fun z => z) 0 ⟨nr, [], ⟨by show nr <= rl.length; omega, by rw [<- hnr, List.take_length]⟩, Nat.zero_le _, ?_⟩ fun kr hz => ⟨1000, ?_⟩
    ·conv => cbv
     subst hΩ
     exact ⟨(by show ((rl.length : Nat) : Int) = (nr : Int); rw [hnr]), trivial⟩
    obtain ⟨hkr, hvr⟩ : kr <= rl.length /\ nV (rl.take kr) = nV rl := hz
    conv => cbv
    constructor
    ·intro hc3
     have hk0 : 0 < kr := by
      rw [hΩ] at hc3
      have h : (kr : Int) > 0 := of_decide_eq_true hc3
      omega
     obtain ⟨m, hm1⟩ : ∃ m, kr = m + 1 := ⟨kr - 1, by omega⟩
     obtain ⟨e, he⟩ : ∃ e, Ω.bin .sub .i64 (Int.ofNat kr) 1 = e := ⟨_, rfl⟩
     have ee : e = (m : Int) := by
      rw [<- he, hΩ]
      show binL .sub .i64 (kr : Int) 1 = _
      rw [qx (by omega) (by omega)]; omega
     conv at he => lhs; cbv
     conv => cbv
     rw [he]
     constructor
     ·exact fun _ => ⟨by omega, by subst hΩ; show e < ((rl.length : Nat) : Int); omega⟩
     constructor
     ·exact fun _ => by subst hΩ; show e.toNat + 1 <= rl.length; omega
     constructor
     ·intro hc4
      have hz0 : rl.getD m 0 = 0 := by
       subst hΩ
       have h : rl.getD e.toNat 0 = 0 := eq_of_beq hc4
       rw [ee, Int.toNat_natCast] at h; exact h
      have hst : nV (rl.take m) = nV rl := qdU hrb hz0 (by rw [<- hm1]; exact hvr)
      conv => cbv
      (try rw [he])
      refine ⟨m, [], ⟨by show m <= rl.length; omega, hst⟩, by show m < kr; omega, Nat.zero_le _, ?_⟩
      conv => cbv
      exact ⟨ee, trivial⟩
     ·intro hc4
      cbv
      constructor
      ·intro _
       refine ⟨trivial, (show (0 : Int) <= (kr : Int) by omega), trivial, Nat.zero_le _, ?_, Nat.le_refl _⟩
       subst hΩ
       show (kr : Int).toNat <= rc
       omega
      refine hQ ((ql.take kq, qc), (rl.take kr, rc)) _ _ _ ?_ ?_
      ·refine ⟨⟨hvq, ?_⟩, hvr.trans hrv, qaz hrb _, ?_, ?_⟩
       ·show (ql.take kq).length <= qc; rw [List.length_take]; omega
       ·show (rl.take kr).length <= 8000; rw [List.length_take]; omega
       ·show (rl.take kr).length <= rc; rw [List.length_take]; omega
      subst hΩ
      refine ⟨⟨⟨rfl, rfl, ?_, ?_⟩, ⟨rfl, rfl, ?_, ?_⟩, trivial⟩, rfl, rfl⟩
      ·show 0 + kq <= ql.length; omega
      ·show ql.take kq = (ql.drop 0).take kq
       rw [List.drop_zero]
      ·show 0 + kr <= rl.length; omega
      ·show rl.take kr = (rl.drop 0).take kr
       rw [List.drop_zero]
    ·intro hc3
     cbv
     constructor
     ·intro _
      refine ⟨trivial, (show (0 : Int) <= (kr : Int) by omega), trivial, Nat.zero_le _, ?_, Nat.le_refl _⟩
      subst hΩ
      show (kr : Int).toNat <= rc
      omega
     refine hQ ((ql.take kq, qc), (rl.take kr, rc)) _ _ _ ?_ ?_
     ·refine ⟨⟨hvq, ?_⟩, hvr.trans hrv, qaz hrb _, ?_, ?_⟩
      ·show (ql.take kq).length <= qc; rw [List.length_take]; omega
      ·show (rl.take kr).length <= 8000; rw [List.length_take]; omega
      ·show (rl.take kr).length <= rc; rw [List.length_take]; omega
     subst hΩ
     refine ⟨⟨⟨rfl, rfl, ?_, ?_⟩, ⟨rfl, rfl, ?_, ?_⟩, trivial⟩, rfl, rfl⟩
     ·show 0 + kq <= ql.length; omega
     ·show ql.take kq = (ql.drop 0).take kq
      rw [List.drop_zero]
     ·show 0 + kr <= rl.length; omega
     ·show rl.take kr = (rl.drop 0).take kr
      rw [List.drop_zero]
end Go.Sx.Tryz
end
section
set_option maxHeartbeats 4000000
namespace Go.Sx.Tryz
open Go.Proofs
set_option maxRecDepth 40000
def qh9 (Ω : Om) : qd := fun args => match args with
 | [.int .u8 b] => ⟨∀ _ : Unit, qbE b, Unit, fun _ => True, fun _ => .int .i64 (Ω.hide _ fun _ => hd b)⟩
 | _ => PR.none
theorem qui : Ctr Tryz.prog T glob 139 (qh9 Om.real) := by
 refine qo T_ok qi qj (fun Ω => []) [] (fun Ω => []) [] qg qh qe qf Tryz.func139 (by rfl) (by kernel_rfl) Tryz.call139 ?_ ?_
 ·intro args; unfold qh9; split
  ·exact qr (by repeat' constructor) (fun _ _ => rfl) (by repeat' constructor)
  ·exact PR.good_none
 ·intro P Ω hΩ hE hI hm args pr hs hp Q hQ
  unfold qh9 at hs
  split at hs <;> subst hs <;> try (exact hp.elim)
  rename_i b
  have hb := hp ()
  refine ⟨1000, ?_⟩
  conv => cbv
  constructor
  ·intro hc
   have hc' : b >= 97 := by rw [hΩ] at hc; exact of_decide_eq_true hc
   conv => cbv
   refine hQ () _ _ _ trivial ?_
   subst hΩ
   refine ⟨rfl, ?_⟩
   show binL .add .i64 (IntKind.i64.wrap (binL .sub .u8 b 97)) 10 = hd b
   have e : binL .sub .u8 b 97 = b - 97 := by
    show IntKind.u8.wrap (b - 97) = _
    rw [IntKind.wrap_u8]; omega
   rw [e, qV (by omega) (by omega), qu (by omega) (by omega)]
   unfold hd; rw [if_pos (by omega)]; omega
  ·intro hc
   have hc' : ¬ b >= 97 := by rw [hΩ] at hc; exact of_decide_eq_false hc
   conv => cbv
   refine hQ () _ _ _ trivial ?_
   subst hΩ
   refine ⟨rfl, ?_⟩
   show IntKind.i64.wrap (binL .sub .u8 b 48) = hd b
   have e : binL .sub .u8 b 48 = b - 48 := by
    show IntKind.u8.wrap (b - 48) = _
    rw [IntKind.wrap_u8]; omega
   rw [e, qV (by omega) (by omega)]
   unfold hd; rw [if_neg (by omega)]
def qd7 : ByteArray := ⟨#[56, 51, 51, 53, 100, 99, 49, 54, 51, 98, 98, 49, 50, 52, 98, 54, 53, 49, 50, 57, 99, 57, 54, 102, 100, 101, 57, 51, 51, 100, 56, 100, 55, 50, 51, 97, 55, 48, 97, 97, 100, 99, 56, 55, 51, 100, 54, 100, 53, 52, 97, 55, 98, 98, 48, 100]⟩
def hexC (xs : List Int) (k : Nat) : List Int := (List.range k).map fun t => 16 * hd (xs.getD (54 - 2 * t) 0) + hd (xs.getD (55 - 2 * t) 0)
theorem hexC_succ (xs : List Int) (k : Nat) : hexC xs (k + 1) = hexC xs k ++ [16 * hd (xs.getD (54 - 2 * k) 0) + hd (xs.getD (55 - 2 * k) 0)] := by
 unfold hexC; rw [List.range_succ, List.map_append]; rfl
theorem hexC_len (xs : List Int) (k : Nat) : (hexC xs k).length = k := by simp [hexC]
theorem quj : ∀ j, j < 56 -> qbE ((strB qd7).getD j 0) := by decide +kernel
theorem quk : nV (hexC (strB qd7) 28) = qaQ := by decide +kernel
theorem qul : Byt (hexC (strB qd7) 28) := by decide +kernel
def qkc : List Int := (List.replicate 56 0).set 55 64
theorem qum : nV qkc = T446 := by decide +kernel
theorem qun : Byt qkc := by decide +kernel
def qia (Ω : Om) : qd := fun args => match args with
 | [] => ⟨True, List Int × Nat, fun z => nV z.1 = LN /\ Byt z.1 /\ z.1.length <= 56 /\ z.1.length <= z.2, fun z => .fr .u8 z.1 z.2⟩
 | _ => PR.none
theorem qup : Ctr Tryz.prog T glob 90 (qia Om.real) := by
 refine qo T_ok qi qj (fun Ω => [(139, qh9 Ω), (140, qdX Ω)]) [] (fun Ω => []) [] (qb qui (qb qjU qg)) qh qe qf Tryz.func90 (by rfl) (by kernel_rfl) Tryz.call90 ?_ ?_
 ·intro args; unfold qia; split
  ·exact qai trivial fun _ => qcw (Nat.lt_of_lt_of_le qa7 qkb)
  ·exact PR.good_none
 ·intro P Ω hΩ hE hI hm args pr hs hp Q hQ
  unfold qia at hs
  split at hs <;> subst hs <;> try (exact hp.elim)
  obtain ⟨xs, hxs⟩ : ∃ xs, xs = strB qd7 := ⟨_, rfl⟩
  have hh := quj
  rw [<- hxs] at hh
  have hx' : strB qd7 = xs := hxs.symm
  conv at hx' => lhs; cbv
  have hxl : xs.length = 56 := by rw [hxs]; decide +kernel
  obtain ⟨i0, hi0⟩ : ∃ i0, Ω.bin .sub .i64 (Ω.ofN (Ω.len xs)) 2 = i0 := ⟨_, rfl⟩
  have ei0 : i0 = 54 := by
   rw [<- hi0, hΩ]
   show binL .sub .i64 ((xs.length : Nat) : Int) 2 = 54
   rw [hxl]; rfl
  conv at hi0 => lhs; cbv
  refine ⟨1000, ?_⟩
  conv => cbv
  rw [hx', hi0]
  refine qv hE hI hm (fun z : Nat × Int × List Int × Nat × Nat => (mkT 33 [(0, .val (.slice none 0 0)), (1, .val (.string qd7)), (2, .sl 56 1 (.l 0) (.s z.2.2.2.1) (.s z.2.2.2.2)), (3, .int .i64 z.2.1)], [(56, .seq .u8 z.2.2.1)])) (fun z => z.1 <= 28 /\ z.2.1 = 54 - 2 * z.1 /\ z.2.2.1 = hexC xs z.1 /\ z.2.2.2.1 = z.1 /\ z.2.2.2.1 <= z.2.2.2.2) (fun z => 28 - z.1) 1 ⟨(0, i0, [], 0, 0), [none], ⟨Nat.zero_le _, ei0, rfl, rfl, Nat.le_refl _⟩, by decide, ?_⟩ fun z hz => ⟨1000, ?_⟩
  ·conv => cbv
   trivial
  obtain ⟨k, i, u, n, c⟩ := z
  obtain ⟨hk, hi, hu, hn, hc⟩ : k <= 28 /\ i = 54 - 2 * (k : Int) /\ u = hexC xs k /\ n = k /\ n <= c := hz
  have hul : u.length = n := by rw [hu, hexC_len, hn]
  conv => cbv
  constructor
  ·intro hc2
   have h1 : 0 <= i := by subst hΩ; exact of_decide_eq_true hc2
   have g1 := hh (54 - 2 * k) (by omega)
   have g2 := hh (55 - 2 * k) (by omega)
   have r1 := hd_rng g1
   have r2 := hd_rng g2
   obtain ⟨j, hj⟩ : ∃ j, Ω.bin .add .i64 i 1 = j := ⟨_, rfl⟩
   have ej : j = i + 1 := by rw [<- hj, hΩ]; exact qu (by omega) (by omega)
   obtain ⟨u2, hu2⟩ : ∃ u2, u2 = hexC xs (k + 1) := ⟨_, rfl⟩
   obtain ⟨i2, hi2⟩ : ∃ i2 : Int, i2 = 54 - 2 * ((k + 1 : Nat) : Int) := ⟨_, rfl⟩
   have hd1 : xs.getD i.toNat 0 = xs.getD (54 - 2 * k) 0 := by rw [show i.toNat = 54 - 2 * k by omega]
   have hd2 : xs.getD j.toNat 0 = xs.getD (55 - 2 * k) 0 := by rw [show j.toNat = 55 - 2 * k by omega]
   conv at hj => lhs; cbv
   conv => cbv
   rw [hx']
   constructor
   ·exact fun _ => ⟨h1, by show i < 56; omega⟩
   constructor
   ·intro _ _
    subst hΩ
    show qbE (xs.getD i.toNat 0)
    rw [hd1]; exact g1
   intro _ _
   conv => cbv
   (try rw [hx'])
   (try rw [hj])
   constructor
   ·exact fun _ => ⟨by omega, by show j < 56; omega⟩
   constructor
   ·intro _ _
    subst hΩ
    show qbE (xs.getD j.toNat 0)
    rw [hd2]; exact g2
   intro _ _
   conv => cbv
   constructor
   ·exact fun _ => (show (n + 1) * 1 <= 140737488355328 by omega)
   constructor
   ·exact fun _ => ⟨(show 0 + n * 1 <= u.length by omega), (show 0 + 1 * 1 <= 1 by omega)⟩
   intro cap hcap
   have hcap : n + 1 <= cap := hcap
   conv => cbv
   (try rw [hx'])
   (try rw [hj])
   obtain ⟨n2, hn2⟩ : ∃ n2, n2 = n + 1 := ⟨_, rfl⟩
   refine ⟨(k + 1, i2, u2, n2, cap), [some 192], ⟨by show k + 1 <= 28; omega, hi2, hu2, (by show n2 = k + 1; omega), (by show n2 <= cap; omega)⟩, by show 28 - (k + 1) < 28 - k; omega, by decide, ?_⟩
   conv => cbv
   subst hΩ
   refine ⟨hn2.symm, ?_, ?_⟩
   ·show binL .sub .i64 i 2 = i2
    rw [qx (by omega) (by omega), hi2, hi]; omega
   ·show (u.drop 0).take n ++ [IntKind.u8.wrap (binL .add .i64 (binL .mul .i64 16 (hd (xs.getD i.toNat 0))) (hd (xs.getD j.toNat 0)))] = u2
    rw [hd1, hd2, qaj (by omega) (by omega), qu (by omega) (by omega), List.drop_zero, List.take_of_length_le (by omega), hu2, hexC_succ, hu, IntKind.wrap_u8]
    congr 2
    omega
  ·intro hc2
   have h1 : ¬ 0 <= i := by subst hΩ; exact of_decide_eq_false hc2
   have hk28 : k = 28 := by omega
   obtain ⟨w, hw⟩ : ∃ w, Ω.set (Ω.zer 56) 55 64 = w := ⟨_, rfl⟩
   have ew : w = qkc := by rw [<- hw, hΩ]; rfl
   obtain ⟨u', hu'⟩ : ∃ u', Ω.sub u 0 n = u' := ⟨_, rfl⟩
   have eu' : u' = hexC xs 28 := by
    rw [<- hu', hΩ]
    show (u.drop 0).take n = _
    rw [List.drop_zero, List.take_of_length_le (by omega), hu, hk28]
   conv at hw => lhs; cbv
   conv at hu' => lhs; cbv
   conv => cbv
   rw [hw, hu']
   constructor
   ·exact fun _ => ⟨(show 0 + 56 <= 56 by decide), (show 0 + n <= u.length by omega), trivial⟩
   have hvw : nV w = T446 := by rw [ew]; exact qum
   have hvu : nV u' = qaQ := by rw [eu', hxs]; exact quk
   have hlu : u'.length = 28 := by rw [eu', hexC_len]
   have hlw : w.length = 56 := by rw [ew]; rfl
   constructor
   ·exact fun _ _ => ⟨by rw [hvw, hvu]; exact qoq, by omega, by rw [ew]; exact qun, by rw [eu', hxs]; exact qul⟩
   intro z hz
   obtain ⟨zl, zc⟩ := z
   have hz : nV zl = nV w - nV u' /\ Byt zl /\ zl.length <= w.length /\ zl.length <= zc := by subst hΩ; exact hz
   have hsz : Ω.sub zl 0 (Ω.len zl) = zl := by
    rw [hΩ]; show (zl.drop 0).take zl.length = zl
    rw [List.drop_zero, List.take_length]
   conv at hsz => lhs; cbv
   conv => cbv
   refine hQ (zl, zc) _ _ _ ⟨?_, hz.2.1, by show zl.length <= 56; omega, hz.2.2.2⟩ ?_
   ·show nV zl = LN
    rw [hz.1, hvw, hvu, qop]
   subst hΩ
   exact ⟨rfl, rfl, (show 0 + zl.length <= zl.length by omega), hsz.symm⟩
end Go.Sx.Tryz
end
section
set_option maxHeartbeats 4000000
namespace Go.Sx.Tryz
open Go.Proofs
set_option maxRecDepth 40000
def qib (Ω : Om) : qd := fun args => match args with
 | [.roi .u8 bs] => ⟨∀ _ : Unit, Byt bs /\ bs.length <= 1000, List Int × Nat, fun z => nV z.1 = nV bs % LN /\ Byt z.1 /\ z.1.length <= 8000 /\ z.1.length <= z.2, fun z => .fr .u8 z.1 z.2⟩
 | _ => PR.none
noncomputable def quq : List (FuncId × Func) := [(148, Tryz.f148)]
theorem qur : Ctr Tryz.prog T glob 96 (qib Om.real) := by
 refine qo T_ok qi qj (fun Ω => [(90, qia Ω), (147, qh8 Ω)]) quq (fun Ω => []) [] (qb qup (qb quh qg)) (qG Tryz.call148 Tryz.func148 (by kernel_rfl) qh) qe qf Tryz.func96 (by rfl) (by kernel_rfl) Tryz.call96 ?_ ?_
 ·intro args; unfold qib; split
  ·exact qai ⟨trivial, trivial⟩ fun _ => by obtain ⟨z, h1, h2, h3, h4⟩ := qcw (Nat.lt_of_lt_of_le (Nat.lt_trans (Nat.mod_lt _ qaX) qa7) qkb); exact ⟨z, h1, h2, by omega, h4⟩
  ·exact PR.good_none
 ·intro P Ω hΩ hE hI hm args pr hs hp Q hQ
  unfold qib at hs
  split at hs <;> subst hs <;> try (exact hp.elim)
  rename_i bs
  obtain ⟨hb, lb⟩ := hp ()
  obtain ⟨N, hN⟩ : ∃ N, bs.length = N := ⟨_, rfl⟩
  refine ⟨1000, ?_⟩
  conv => cbv
  refine qv hE hI hm (fun z : Nat => (mkT 21 [(0, .roi .u8 bs), (2, .val (.slice none 0 0)), (3, .int .i64 z)], [])) (fun z => z <= bs.length /\ nV (bs.take z) = nV bs) (fun z => z) 0 ⟨N, [], ⟨by show N <= bs.length; omega, by rw [<- hN, List.take_length]⟩, Nat.zero_le _, ?_⟩ fun k hz => ⟨1000, ?_⟩
  ·conv => cbv
   subst hΩ
   show ((bs.length : Nat) : Int) = (N : Int)
   rw [hN]
  obtain ⟨hk, hv⟩ : k <= bs.length /\ nV (bs.take k) = nV bs := hz
  conv => cbv
  constructor
  ·intro hc3
   have hk0 : 0 < k := by
    rw [hΩ] at hc3
    have h : (k : Int) > 0 := of_decide_eq_true hc3
    omega
   obtain ⟨m, hm1⟩ : ∃ m, k = m + 1 := ⟨k - 1, by omega⟩
   obtain ⟨e, he⟩ : ∃ e, Ω.bin .sub .i64 (Int.ofNat k) 1 = e := ⟨_, rfl⟩
   have ee : e = (m : Int) := by
    rw [<- he, hΩ]
    show binL .sub .i64 (k : Int) 1 = _
    rw [qx (by omega) (by omega)]; omega
   conv at he => lhs; cbv
   conv => cbv
   rw [he]
   constructor
   ·exact fun _ => ⟨by omega, by subst hΩ; show e < ((bs.length : Nat) : Int); omega⟩
   constructor
   ·exact fun _ => by subst hΩ; show e.toNat + 1 <= bs.length; omega
   constructor
   ·intro hc4
    have hz0 : bs.getD m 0 = 0 := by
     subst hΩ
     have h : bs.getD e.toNat 0 = 0 := eq_of_beq hc4
     rw [ee, Int.toNat_natCast] at h; exact h
    have hst := qdU hb hz0 (by rw [<- hm1]; exact hv)
    conv => cbv
    (try rw [he])
    refine ⟨m, [], ⟨by show m <= bs.length; omega, hst⟩, by show m < k; omega, Nat.zero_le _, ?_⟩
    conv => cbv
    exact ee
   ·intro hc4
    cbv
    constructor
    ·intro _
     refine ⟨trivial, (show (0 : Int) <= (k : Int) by omega), trivial, Nat.zero_le _, ?_, ?_⟩
     ·subst hΩ
      show (k : Int).toNat <= bs.length
      omega
     ·subst hΩ
      exact Nat.le_refl _
    obtain ⟨u', hu'⟩ : ∃ u', Ω.sub bs 0 (Ω.toN (Int.ofNat k)) = u' := ⟨_, rfl⟩
    have eu' : u' = bs.take k := by
     rw [<- hu', hΩ]
     show (bs.drop 0).take k = _
     rw [List.drop_zero]
    conv at hu' => lhs; cbv
    conv => cbv
    (try rw [hu'])
    constructor
    ·exact fun (_ : Unit) => trivial
    intro l hl
    obtain ⟨ll, lc⟩ := l
    have hl : nV ll = LN /\ Byt ll /\ ll.length <= 56 /\ ll.length <= lc := by subst hΩ; exact hl
    have hsl : Ω.sub ll 0 (Ω.len ll) = ll := by
     rw [hΩ]; show (ll.drop 0).take ll.length = ll
     rw [List.drop_zero, List.take_length]
    conv at hsl => lhs; cbv
    conv => cbv
    (try rw [hu'])
    constructor
    ·exact fun _ => ⟨trivial, (by subst hΩ; show 0 + ll.length <= ll.length; omega), trivial⟩
    rw [hsl]
    have hul : u'.length <= 1000 := by rw [eu', List.length_take]; omega
    constructor
    ·exact fun _ _ => ⟨⟨by rw [eu']; exact qaz hb k, hul⟩, ⟨hl.2.1, by omega⟩, by rw [hl.1]; exact qaX⟩
    intro z hz
    obtain ⟨⟨ql, qc⟩, zl, zc⟩ := z
    have hz : (Byt ql /\ ql.length <= qc) /\ nV zl = nV u' % nV ll /\ Byt zl /\ zl.length <= 8000 /\ zl.length <= zc := by subst hΩ; exact hz
    have hsz : Ω.sub zl 0 (Ω.len zl) = zl := by
     rw [hΩ]; show (zl.drop 0).take zl.length = zl
     rw [List.drop_zero, List.take_length]
    conv at hsz => lhs; cbv
    conv => cbv
    refine hQ (zl, zc) _ _ _ ⟨?_, hz.2.2⟩ ?_
    ·show nV zl = nV bs % LN
     rw [hz.2.1, eu', hv, hl.1]
    subst hΩ
    exact ⟨rfl, rfl, (show 0 + zl.length <= zl.length by omega), hsz.symm⟩
  ·intro hc3
   cbv
   constructor
   ·intro _
    refine ⟨trivial, (show (0 : Int) <= (k : Int) by omega), trivial, Nat.zero_le _, ?_, ?_⟩
    ·subst hΩ
     show (k : Int).toNat <= bs.length
     omega
    ·subst hΩ
     exact Nat.le_refl _
   obtain ⟨u', hu'⟩ : ∃ u', Ω.sub bs 0 (Ω.toN (Int.ofNat k)) = u' := ⟨_, rfl⟩
   have eu' : u' = bs.take k := by
    rw [<- hu', hΩ]
    show (bs.drop 0).take k = _
    rw [List.drop_zero]
   conv at hu' => lhs; cbv
   conv => cbv
   (try rw [hu'])
   constructor
   ·exact fun (_ : Unit) => trivial
   intro l hl
   obtain ⟨ll, lc⟩ := l
   have hl : nV ll = LN /\ Byt ll /\ ll.length <= 56 /\ ll.length <= lc := by subst hΩ; exact hl
   have hsl : Ω.sub ll 0 (Ω.len ll) = ll := by
    rw [hΩ]; show (ll.drop 0).take ll.length = ll
    rw [List.drop_zero, List.take_length]
   conv at hsl => lhs; cbv
   conv => cbv
   (try rw [hu'])
   constructor
   ·exact fun _ => ⟨trivial, (by subst hΩ; show 0 + ll.length <= ll.length; omega), trivial⟩
   rw [hsl]
   have hul : u'.length <= 1000 := by rw [eu', List.length_take]; omega
   constructor
   ·exact fun _ _ => ⟨⟨by rw [eu']; exact qaz hb k, hul⟩, ⟨hl.2.1, by omega⟩, by rw [hl.1]; exact qaX⟩
   intro z hz
   obtain ⟨⟨ql, qc⟩, zl, zc⟩ := z
   have hz : (Byt ql /\ ql.length <= qc) /\ nV zl = nV u' % nV ll /\ Byt zl /\ zl.length <= 8000 /\ zl.length <= zc := by subst hΩ; exact hz
   have hsz : Ω.sub zl 0 (Ω.len zl) = zl := by
    rw [hΩ]; show (zl.drop 0).take zl.length = zl
    rw [List.drop_zero, List.take_length]
   conv at hsz => lhs; cbv
   conv => cbv
   refine hQ (zl, zc) _ _ _ ⟨?_, hz.2.2⟩ ?_
   ·show nV zl = nV bs % LN
    rw [hz.2.1, eu', hv, hl.1]
   subst hΩ
   exact ⟨rfl, rfl, (show 0 + zl.length <= zl.length by omega), hsz.symm⟩
def qic (Ω : Om) : qd := fun args => match args with
 | [.roi .u8 bs] => ⟨∀ _ : Unit, Byt bs /\ bs.length <= 8000, List Int × Nat, fun z => nV z.1 = nV bs /\ Byt z.1 /\ z.1.length <= 8057 /\ z.1.length <= z.2, fun z => .fr .u8 z.1 z.2⟩
 | _ => PR.none
theorem qus : Ctr Tryz.prog T glob 95 (qic Om.real) := by
 refine qo T_ok qi qj (fun Ω => []) [] (fun Ω => []) [] qg qh qe qf Tryz.func95 (by rfl) (by kernel_rfl) Tryz.call95 ?_ ?_
 ·intro args; unfold qic; split
  ·exact qai ⟨trivial, trivial⟩ fun h => ⟨(_, 8057), rfl, (h ()).1, Nat.le_trans (h ()).2 (show 8000 <= 8057 by decide), Nat.le_trans (h ()).2 (show 8000 <= 8057 by decide)⟩
  ·exact PR.good_none
 ·intro P Ω hΩ hE hI hm args pr hs hp Q hQ
  unfold qic at hs
  split at hs <;> subst hs <;> try (exact hp.elim)
  rename_i bs
  obtain ⟨hb, lb⟩ := hp ()
  refine ⟨1000, ?_⟩
  conv => cbv
  constructor
  ·exact fun _ => by subst hΩ; show (0 + bs.length) * 1 <= 140737488355328; omega
  constructor
  ·exact fun _ => ⟨trivial, trivial⟩
  intro cap hcap
  have hcap1 : bs.length <= cap := by
   subst hΩ
   have h : 0 + bs.length <= cap := hcap
   omega
  obtain ⟨N, hN⟩ : ∃ N, bs.length = N := ⟨_, rfl⟩
  obtain ⟨bs2, hbs2⟩ : ∃ x, x = bs := ⟨_, rfl⟩
  conv => cbv
  refine qv hE hI hm (fun z : List Int × Nat × Nat => (mkT 14 [(2, .val (.slice none 0 0)), (3, .sl 48 1 (.l 0) (.s z.2.1) (.s z.2.2))], [(48, .seq .u8 z.1)])) (fun z => (nV z.1 = nV bs /\ Byt z.1) /\ z.1.length = z.2.1 /\ z.2.1 <= 8057 /\ z.2.1 <= z.2.2) (fun z => 57 - z.2.1) 1 ⟨(bs2, N, cap), [some 32], ⟨⟨by rw [hbs2], by rw [hbs2]; exact hb⟩, by show bs2.length = N; rw [hbs2]; exact hN, by show N <= 8057; omega, by show N <= cap; omega⟩, by decide, ?_⟩ fun z hz => ⟨1000, ?_⟩
  ·conv => cbv
   subst hΩ
   exact ⟨hN, hbs2.symm⟩
  obtain ⟨u, n, c⟩ := z
  obtain ⟨⟨huv, hub⟩, hul, hn, hc⟩ : (nV u = nV bs /\ Byt u) /\ u.length = n /\ n <= 8057 /\ n <= c := hz
  conv => cbv
  constructor
  ·intro hc2
   have hlt : (n : Int) < 57 := by subst hΩ; exact of_decide_eq_true hc2
   conv => cbv
   constructor
   ·exact fun _ => (show (n + 1) * 1 <= 140737488355328 by omega)
   constructor
   ·exact fun _ => ⟨(show 0 + n * 1 <= u.length by omega), (show 0 + 1 * 1 <= 1 by omega)⟩
   intro cap2 hcap2
   have hcap2 : n + 1 <= cap2 := hcap2
   conv => cbv
   obtain ⟨n2, hn2⟩ : ∃ n2, n2 = n + 1 := ⟨_, rfl⟩
   obtain ⟨u2, hu2⟩ : ∃ u2, u2 = u ++ [0] := ⟨_, rfl⟩
   have hsn := qfg hub (x := 0) (by decide)
   refine ⟨(u2, n2, cap2), [some 96], ⟨⟨?_, ?_⟩, by show u2.length = n2; rw [hu2, List.length_append, hul]; exact hn2.symm, by show n2 <= 8057; omega, by show n2 <= cap2; omega⟩, by show 57 - n2 < 57 - n; omega, by decide, ?_⟩
   ·show nV u2 = nV bs
    rw [hu2, <- huv]
    rw [Int.zero_mul, Int.add_zero] at hsn
    exact Int.ofNat_inj.1 hsn
   ·show Byt u2
    rw [hu2]; exact qfh hub (by decide)
   conv => cbv
   subst hΩ
   refine ⟨hn2.symm, ?_⟩
   show (u.drop 0).take n ++ [0] = u2
   rw [List.drop_zero, List.take_of_length_le (by omega), hu2]
  ·intro hc2
   cbv
   refine hQ (u, c) _ _ _ ⟨huv, hub, by show u.length <= 8057; omega, by show u.length <= c; omega⟩ ?_
   subst hΩ
   refine ⟨rfl, rfl, (show 0 + n <= u.length by omega), ?_⟩
   show u = (u.drop 0).take n
   rw [List.drop_zero, List.take_of_length_le (by omega)]
end Go.Sx.Tryz
end
section
set_option maxHeartbeats 4000000
namespace Go.Sx.Tryz
open Go.Proofs
set_option maxRecDepth 40000
theorem qut (bs : List Int) : ∃ z : Bool × List Int × Nat, z.1 = decide (bs.length <= 60) /\ (z.1 = true -> nV z.2.1 = nV bs % LN /\ Byt z.2.1 /\ z.2.1.length <= 8057) /\ z.2.1.length <= z.2.2 := by
 obtain ⟨z, h1, h2, h3, h4⟩ := qcw (Nat.lt_of_lt_of_le (Nat.lt_trans (Nat.mod_lt (nV bs) qaX) qa7) qkb)
 exact ⟨(_, z), rfl, fun _ => ⟨h1, h2, by show z.1.length <= 8057; omega⟩, h4⟩
def scK (bs : List Int) : Nat := if bs.length <= 60 then nV bs % LN else 0
theorem qoN (bs : List Int) : scK bs < LN := by
 unfold scK; split
 ·exact Nat.mod_lt _ qaX
 ·exact qaX
def qid (Ω : Om) : qd := fun args => match args with
 | [.roi .u8 bs] => ⟨∀ _ : Unit, Byt bs /\ bs.length < 9223372036854775808, Bool × List Int × Nat, fun z => z.1 = decide (bs.length <= 60) /\ (z.1 = true -> nV z.2.1 = nV bs % LN /\ Byt z.2.1 /\ z.2.1.length <= 8057) /\ z.2.1.length <= z.2.2, fun z => .tup [.ab (.sc (Ω.hide _ fun _ => scK bs)), .fr .u8 z.2.1 z.2.2, .bs z.1]⟩
 | _ => PR.none
theorem quu : Ctr Tryz.prog T glob 34 (qid Om.real) := by
 refine qo T_ok qi qj (fun Ω => [(32, qhQ Ω), (94, qhO Ω), (96, qib Ω), (95, qic Ω)]) [] (fun Ω => []) [] (qb qtH (qb qtF (qb qur (qb qus qg)))) qh qe qf Tryz.func34 (by rfl) (by kernel_rfl) Tryz.call34 ?_ ?_
 ·intro args; unfold qid; split
  ·exact ⟨fun x => ⟨trivial, trivial, trivial, trivial⟩, (fun E x b q hq => by simp [place, place.placeL] at hq; subst hq; exact ⟨Nat.le_refl _, by simp⟩), fun _ => ⟨trivial, trivial⟩, fun _ => qut _⟩
  ·exact PR.good_none
 ·intro P Ω hΩ hE hI hm args pr hs hp Q hQ
  unfold qid at hs
  split at hs <;> subst hs <;> try (exact hp.elim)
  rename_i bs
  obtain ⟨hb, lb⟩ := hp ()
  refine ⟨1000, ?_⟩
  conv => cbv
  constructor
  ·intro hc
   have h1 : ¬ bs.length <= 60 := by
    subst hΩ
    have h2 := of_decide_eq_true hc
    change ((bs.length : Nat) : Int) > 60 at h2
    omega
   conv => cbv
   constructor
   ·exact fun _ _ => by decide
   intro _ _
   conv => cbv
   refine hQ (false, [], 0) _ _ _ ⟨(decide_eq_false h1).symm, fun h => Bool.noConfusion h, Nat.le_refl _⟩ ?_
   subst hΩ
   refine ⟨⟨?_, ⟨rfl, rfl⟩, rfl, trivial⟩, rfl, rfl⟩
   show Pay.sc (scI 0) = Pay.sc (scK bs)
   unfold scK
   rw [if_neg h1]
   rfl
  ·intro hc
   have h1 : bs.length <= 60 := by
    subst hΩ
    have h2 := of_decide_eq_false hc
    change ¬ ((bs.length : Nat) : Int) > 60 at h2
    omega
   conv => cbv
   constructor
   ·exact fun _ _ => ⟨hb, by omega⟩
   intro _ _
   conv => cbv
   constructor
   ·exact fun _ _ => ⟨hb, by omega⟩
   intro d hd
   obtain ⟨dl, dc⟩ := d
   have hd : nV dl = nV bs % LN /\ Byt dl /\ dl.length <= 8000 /\ dl.length <= dc := by subst hΩ; exact hd
   have hsd : Ω.sub dl 0 (Ω.len dl) = dl := by
    rw [hΩ]; show (dl.drop 0).take dl.length = dl
    rw [List.drop_zero, List.take_length]
   conv at hsd => lhs; cbv
   conv => cbv
   constructor
   ·exact fun _ => ⟨(by subst hΩ; show 0 + dl.length <= dl.length; omega), trivial⟩
   rw [hsd]
   constructor
   ·exact fun _ _ => ⟨hd.2.1, hd.2.2.1⟩
   intro e he
   obtain ⟨el, ec⟩ := e
   have he : nV el = nV dl /\ Byt el /\ el.length <= 8057 /\ el.length <= ec := by subst hΩ; exact he
   have hse : Ω.sub el 0 (Ω.len el) = el := by
    rw [hΩ]; show (el.drop 0).take el.length = el
    rw [List.drop_zero, List.take_length]
   conv at hse => lhs; cbv
   conv => cbv
   refine hQ (true, el, ec) _ _ _ ⟨(decide_eq_true h1).symm, fun _ => ⟨he.1.trans hd.1, he.2.1, he.2.2.1⟩, he.2.2.2⟩ ?_
   subst hΩ
   refine ⟨⟨?_, ⟨rfl, rfl, (show 0 + el.length <= el.length by omega), hse.symm⟩, rfl, trivial⟩, rfl, rfl⟩
   show Pay.sc (nV bs % LN) = Pay.sc (scK bs)
   unfold scK
   rw [if_pos h1]
end Go.Sx.Tryz
end
