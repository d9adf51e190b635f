/- Plain laws on rounds of workers: where each is, and into how many pieces they are cut. -/
import Derived.Test.YtkncpbaknigamaaFullMath
import Derived.Test.YtkncpbaknigamaaGRound
namespace Go.Proofs.Ytkncpbaknigamaa.CycMath
open Go.RowKit Go.Proofs.Ytkncpbaknigamaa.PFair Go.Proofs.YtkncpbaknigamaaW.PrintWords Go.Proofs.YtkncpbaknigamaaW.PrintLast Go.Proofs.Ytkncpbaknigamaa.FairMath Go.Proofs.Ytkncpbaknigamaa.GEach Go.Proofs.Ytkncpbaknigamaa.FullMath
set_option linter.unusedVariables false

/-- Workers in their row, over and over, from the worker m on. -/
def Cyc (t : List Int) (M m : Nat) : Prop := ∀ i, i < t.length → t.getD i 0 = (((i + m) % M : Nat) : Int)
theorem round_tells (a0 a1 : Int) (h : a1 ≤ 100) : fair_Round.f a0 a1 = some (rounds (Many a0) (a1.toNat * Many a0)) := by
  unfold fair_Round.f; rw [if_pos h]
theorem rounds_get (M n i : Nat) (h : i < n) : (rounds M n).getD i 0 = ((i % M : Nat) : Int) := by
  simp [rounds, List.getD_eq_getElem?_getD, h]
theorem rounds_cyc (M n : Nat) : Cyc (rounds M n) M 0 := fun i hi => by
  rw [rounds_length] at hi
  rw [rounds_get M n i hi]; rfl
theorem mod_ne {a b M : Nat} (h : a < b) (h2 : b - a < M) : a % M ≠ b % M := fun e => by
  have h3 := Nat.div_add_mod a M
  have h4 := Nat.div_add_mod b M
  rw [e] at h3
  have h5 : M * (b / M) = M * (a / M) + (b - a) := by omega
  have h6 : a / M < b / M := by
    refine Decidable.byContradiction fun hn => ?_
    have := Nat.mul_le_mul_left M (show b / M ≤ a / M by omega)
    omega
  have h7 := Nat.mul_le_mul_left M (show a / M + 1 ≤ b / M by omega)
  rw [Nat.mul_add] at h7
  omega
theorem hit (a w M : Nat) (hw : w < M) : ∃ x, x < M ∧ (a + x) % M = w := by
  have h3 := Nat.div_add_mod a M
  have hr := Nat.mod_lt a (show 0 < M by omega)
  by_cases h : a % M ≤ w
  · refine ⟨w - a % M, by omega, ?_⟩
    have : a + (w - a % M) = M * (a / M) + w := by omega
    rw [this, Nat.mul_add_mod, Nat.mod_eq_of_lt hw]
  · refine ⟨w + M - a % M, by omega, ?_⟩
    have : a + (w + M - a % M) = M * (a / M + 1) + w := by rw [Nat.mul_add]; omega
    rw [this, Nat.mul_add_mod, Nat.mod_eq_of_lt hw]
theorem cyc_all {t : List Int} {M m i : Nat} (h : Cyc t M m) (hi : i + M ≤ t.length) : All t M i (i + M) := fun w hw ha => by
  obtain ⟨x, hx, e⟩ := hit (i + m) w M hw
  refine ha (i + x) (by omega) (by omega) ?_
  rw [h (i + x) (by omega), show i + x + m = i + m + x by omega, e]
theorem cyc_gr {t : List Int} {M m : Nat} (hM : 1 ≤ M) (h : Cyc t M m) : ∀ j, j ≤ t.length → gr t M j = (j / M, j / M * M) := by
  intro j
  induction j with
  | zero => intro _; simp [gr]
  | succ j ih =>
    intro hj
    have e := ih (by omega)
    have h3 := Nat.div_add_mod j M
    have hr := Nat.mod_lt j (show 0 < M by omega)
    rw [Nat.mul_comm] at h3
    by_cases hc : j % M + 1 = M
    · have hs : j + 1 = j / M * M + M := by omega
      have ha : All t M (j / M * M) (j + 1) := by
        rw [hs]; exact cyc_all h (by omega)
      have hd : (j + 1) / M = j / M + 1 := by
        rw [hs, Nat.add_div_right _ (by omega), Nat.mul_div_cancel _ (by omega)]
      rw [gr_yes e ha, hd, Nat.add_mul, Nat.one_mul, ← hs]
    · have ha : ¬ All t M (j / M * M) (j + 1) := fun ha => by
        refine ha ((j + 1 + m) % M) (Nat.mod_lt _ (by omega)) fun q q1 q2 => ?_
        rw [h q (by omega)]
        intro e2
        have := mod_ne (a := q + m) (b := j + 1 + m) (M := M) (by omega) (by omega)
        exact this (by omega)
      have hd : (j + 1) / M = j / M := by
        rw [show j + 1 = M * (j / M) + (j % M + 1) by rw [Nat.mul_comm]; omega, Nat.mul_add_div (by omega), Nat.div_eq_of_lt (a := j % M + 1) (by omega)]
        omega
      rw [gr_no e ha, hd]
theorem cyc_full {t : List Int} {workers : Int} {m q : Nat} (h : Cyc t (Many workers) m) (hl : t.length = q * Many workers) (hb : t.length ≤ 10000) : fair_Full.f t workers = some (q : Int) := by
  have hM := many_range workers
  rw [full_tells t workers hb, cyc_gr hM.1 h t.length (Nat.le_refl _), hl, Nat.mul_div_cancel _ (by omega)]
theorem cyc_no_wd {t : List Int} {M m : Nat} (h : Cyc t M m) (w : Nat) (hw : w < M) : ¬ Wd t w t.length M := fun hd => by
  obtain ⟨j, h1, h2⟩ := (wd_iff t w M).1 hd
  exact cyc_all h h1 w hw h2
theorem cyc_fair {t : List Int} {workers : Int} {m : Nat} (h : Cyc t (Many workers) m) (hb : t.length ≤ 10000) (k : Nat) (hk : t.length + 64 < k) : fair_Fair.f k t workers (Many workers : Int) = some true := by
  have hM := many_range workers
  obtain ⟨b, hb1, hb2⟩ := fair_tells t workers (Many workers : Int) hb k hk
  have : b = true := by
    rw [hb2, if_neg (by omega)]
    intro w hw
    exact cyc_no_wd h w hw
  rw [hb1, this]
end Go.Proofs.Ytkncpbaknigamaa.CycMath
