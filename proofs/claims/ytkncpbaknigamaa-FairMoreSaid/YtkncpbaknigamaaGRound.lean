/- Rounds: what fair.Round comes to, up to 100 rounds. -/
import Derived.Test.YtkncpbaknigamaaGEach
import Derived.Deep.DeepMust
namespace Go.Proofs.Ytkncpbaknigamaa.PFair
open Go.RowKit Go.Proofs.YtkncpbaknigamaaW.PrintWords Go.Proofs.YtkncpbaknigamaaW.PrintLast Go.Proofs.YtkncpbaknigamaaW.PrintMore Go.Proofs.Ytkncpbaknigamaa.FairMath Go.Proofs.Ytkncpbaknigamaa.GEach
attribute [local go_sem] max2_int min2_int max_two min_two max_three min_three max_four min_four
set_option linter.unusedVariables false

/-- All workers, rising, so many numbers. -/
def rounds (M n : Nat) : List Int := (List.range n).map fun i => ((i % M : Nat) : Int)
theorem rounds_succ' (M n : Nat) : rounds M (n + 1) = rounds M n ++ [((n % M : Nat) : Int)] := by simp [rounds, List.range_succ]
theorem rounds_length (M n : Nat) : (rounds M n).length = n := by simp [rounds]
def fair_Round.f (a0 a1 : Int) : Option (List Int) := if a1 ≤ 100 then some (rounds (Many a0) (a1.toNat * Many a0)) else none

set_option maxRecDepth 100000 in
set_option maxHeartbeats 1000000 in
theorem fair_Round.walk (a0 : Int) (M : Nat) (hM1 : 1 ≤ M) (hM2 : M ≤ 64) (hmany : ∀ w, Calls Try.prog 46 #[.int .i64 a0] w fun e w' => e = .returned (.int .i64 (M : Int)) ∧ w = w') (kk : Nat) (hk : kk ≤ 100) (N : Nat) (hN : (kk : Int) * (M : Int) = N) (hN2 : N ≤ 6400) (a1 : Int) (h1 : (if a1 < 0 then 0 else a1) = (kk : Int)) (w : World) :
    Calls Try.prog 30 #[.int .i64 a0, .int .i64 a1] w fun e w' => ∃ v0_ : Value, e = .returned (v0_) ∧ Kd.R (Kd.int .i64) 3 w' w.heap.size (fun _ => True) v0_ (rounds M N) ∧ Below w.heap.size w w' := by
  have hq1 : (16384 : Int) ≤ 1048576 / (M : Int) := by
    rw [Int.le_ediv_iff_mul_le (by omega)]; omega
  have hq2 : 1048576 / (M : Int) ≤ 1048576 := Int.ediv_le_self _ (by omega)
  have hb0 : ((M : Int) == 0) = false := by simp; omega
  go_enter Try.func30, Try.ntmps30
  go_wp2_with (go_at_call 46; refine (hmany _).mono ?_; rintro e w1 ⟨rfl, rfl⟩)
  go_loopw [5, 18] (fun v i wr => ∃ k : Nat, k ≤ N ∧ i = .int .i64 k ∧ Aside0 (Kd.R (Kd.int .i64) 3 wr w.heap.size (fun _ => True) v (rounds M k)) ∧ Aside0 (Below w.heap.size w wr)) (fun _ i _ => N - (intOf i).toNat)
  case atStart => exact ⟨0, Nat.zero_le _, rfl, ⟨Kd.R_nil _ _ _ _ _⟩, ⟨Below.refl _ _⟩⟩
  case round =>
    obtain ⟨k, hkN, rfl, HO, HB⟩ := hrel
    clear h1 hq1 hq2 hN
    by_cases hlt : k < N
    · have Hs := Lib.hid (rounds_succ' M k)
      have hm : (k : Int) % (M : Int) = ((k % M : Nat) : Int) := rfl
      have hl := rounds_length M k
      have Hl := Lib.hid hl
      clear hl
      obtain ⟨c, hc⟩ : ∃ c : Nat, k % M = c := ⟨_, rfl⟩
      rw [hc] at hm
      have Hc := Lib.hid hc
      clear hc
      have hne : ((k : Int) == 1048576) = false := by simp; omega
      go_wp2_with (at_builtin; go_must (refine Kd.R_append (Kd.int .i64) (w0 := w) w.heap.size rfl (.tmp 23) (.tmp 27) 22 3 (.int .i64 0) 8 rfl Try.underlying22 info3 rfl (by decide) (by omega) u5 (rounds M k) (c : Int) [.int .i64 (c : Int)] (fun _ => True) (fun _ => False) rfl rfl ?aP (fun _ hk => hk.elim) ?aF ?aO ?aB ?aS ?aL ?_); go_must (case aP => exact rfl); go_must ((case aB => exact HB.out)); go_must ((case aF => exact (fun _ _ => trivial))); go_must ((case aO => exact HO.out)); go_must ((case aS => exact HB.out.size)); go_must ((case aL => rw [Hl.out]; omega)); intro v1 w1 ho hb hg hat; have HO1 := Aside0.mk ho; have HB1 := Aside0.mk hb; clear ho hb hg hat)
      go_roundw
      case rel => exact ⟨k + 1, by omega, by go_num, ⟨by rw [Hs.out, Hc.out]; exact HO1.out⟩, HB1⟩
      case measure => simp [intOf]; omega
    · obtain rfl : k = N := by omega
      go_wp2
      go_ret
      exact ⟨_, rfl, HO.out, HB.out⟩

theorem fair_Round.calls (a0 : Int) (a1 : Int) (r : List Int) (w : World) (h : fair_Round.f a0 a1 = some r) :
    Calls Try.prog 30 #[.int .i64 a0, .int .i64 a1] w fun e w' => ∃ v0_ : Value, e = .returned (v0_) ∧ Kd.R (Kd.int .i64) 3 w' w.heap.size (fun _ => True) v0_ r ∧ Below w.heap.size w w' := by
  unfold fair_Round.f at h
  by_cases h1 : a1 ≤ 100
  · rw [if_pos h1] at h
    obtain rfl := Option.some.inj h
    have hM := many_range a0
    have hb : a1.toNat * Many a0 ≤ 100 * 64 := Nat.mul_le_mul (by omega) hM.2.1
    exact fair_Round.walk a0 (Many a0) hM.1 hM.2.1 (fun w => (many_same a0 w).mono fun _ _ h => ⟨h.1, h.2.symm⟩) a1.toNat (by omega) (a1.toNat * Many a0) rfl (by omega) a1 (by split <;> omega) w
  · rw [if_neg h1] at h; cases h
end Go.Proofs.Ytkncpbaknigamaa.PFair
