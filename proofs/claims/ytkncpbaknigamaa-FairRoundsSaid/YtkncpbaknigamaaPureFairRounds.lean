/- Rounds are all workers, rising, over and over; they are fair within as many as there are workers and cut into as many pieces as there are rounds; turned, too: the plain law, for every number of workers, of rounds and turn. -/
import Derived.Test.YtkncpbaknigamaaPFairx7
import Derived.Test.YtkncpbaknigamaaCycMath
import Derived.Test.YtkncpbaknigamaaTurnMath
namespace Go.Proofs.Ytkncpbaknigamaa.Pure
open Go.RowKit Go.Proofs.Ytkncpbaknigamaa.PFair Go.Proofs.YtkncpbaknigamaaW.PrintWords Go.Proofs.YtkncpbaknigamaaW.PrintLast Go.Proofs.Ytkncpbaknigamaa.FairMath Go.Proofs.Ytkncpbaknigamaa.GEach Go.Proofs.Ytkncpbaknigamaa.FullMath Go.Proofs.Ytkncpbaknigamaa.CycMath Go.Proofs.Ytkncpbaknigamaa.TurnMath
set_option linter.unusedVariables false

theorem turned_cyc (M q : Nat) (hM : 1 ≤ M) (by' : Int) : Cyc (turned (rounds M (q * M)) by') M (Ar by' (q * M)) := fun i hi => by
  rw [turned_length, rounds_length] at hi
  have hg := turned_get (rounds M (q * M)) by' i (by rw [rounds_length]; exact hi)
  rw [rounds_length] at hg
  rw [hg, rounds_get M _ _ (Nat.mod_lt _ (by omega)), Nat.mod_mul_left_mod]

theorem rounds_loop (workers by' : Int) (hby : -9223372036854775808 ≤ by') (q : Nat) (hq : q ≤ 20) (N : Nat) (hN : N = q * Many workers) (hN2 : N ≤ 1280) (d : Nat) : ∀ (k i : Nat), N - i = d → d + 3000 < k → i ≤ N →
    hibernaclelaw14_FairRounds.l0 k workers (q : Int) by' (Many workers : Int) (rounds (Many workers) N) (i : Int) = some true := by
  have hM := many_range workers
  have hlen := rounds_length (Many workers) N
  induction d with
  | zero =>
    intro k i hd hk hi
    obtain ⟨k, rfl⟩ : ∃ m, k = m + 1 := ⟨k - 1, by omega⟩
    obtain rfl : i = N := by omega
    have hct : Cyc (turned (rounds (Many workers) i) by') (Many workers) (Ar by' i) := by rw [hN]; exact turned_cyc (Many workers) q hM.1 by'
    have htl : (turned (rounds (Many workers) i) by').length = i := by rw [turned_length, hlen]
    simp only [hibernaclelaw14_FairRounds.l0]
    rw [if_neg (by omega), turn_tells _ by' hby (by omega) k (by omega)]
    simp only [Option.bind_some]
    rw [if_pos (by rw [htl, hlen]), cyc_full (q := q) (rounds_cyc _ _) (by rw [hlen]; exact hN) (by omega), cyc_full (q := q) hct (by rw [htl]; exact hN) (by omega),
      cyc_fair (rounds_cyc _ _) (by omega) k (by omega), cyc_fair hct (by omega) k (by omega), lives_at (by omega)]
    simp
  | succ d ih =>
    intro k i hd hk hi
    obtain ⟨k, rfl⟩ : ∃ m, k = m + 1 := ⟨k - 1, by omega⟩
    have e1 : rd (rounds (Many workers) N) (i : Int) = Int.tmod (i : Int) (Many workers : Int) := by
      rw [Int.tmod_eq_emod_of_nonneg (by omega)]
      show (rounds (Many workers) N).getD (i : Int).toNat 0 = _
      rw [Int.toNat_natCast, rounds_get _ _ _ (by omega)]; rfl
    simp only [hibernaclelaw14_FairRounds.l0]
    rw [if_pos (by omega), if_pos (by omega), if_neg (by omega), if_pos e1, wrap_cast ((i : Int) + 1) (i + 1) (by omega) (by omega)]
    exact ih k (i + 1) (by omega) (by omega) (by omega)

theorem FairRounds : hibernaclelaw14_FairRounds.Pure := by
  intro a0 a1 a2 _ h1 h2
  have hb1 := bounds_i64 h1
  have hb2 := bounds_i64 h2
  obtain ⟨k, hk⟩ : ∃ k : Nat, 6000 ≤ k := ⟨6000, Nat.le_refl _⟩
  refine ⟨k + 1, ?_⟩
  have hM := many_range a0
  obtain ⟨ha, hr⟩ := around_tells a1 21 hb1.1 (by omega)
  generalize Ar a1 21 = q at *
  have hq : q * Many a0 ≤ 20 * 64 := Nat.mul_le_mul (by omega) hM.2.1
  unfold hibernaclelaw14_FairRounds.f
  rw [Many_f, show (21 : Int) = ((21 : Nat) : Int) from rfl, Option.bind_some, ha, Option.bind_some, round_tells a0 (q : Int) (by omega), Int.toNat_natCast, Option.bind_some]
  rw [rounds_length, if_pos (show ((q * Many a0 : Nat) : Int) = wrap64 ((q : Int) * (Many a0 : Int)) from (wrap_cast _ _ (by rw [Int.natCast_mul]) (by omega)).symm)]
  rw [round_tells a0 (-1) (by omega), Option.bind_some]
  have e0 : (((rounds (Many a0) ((-1 : Int).toNat * Many a0)).length : Int) != 0) = false := by
    rw [rounds_length]; simp
  rw [e0]
  simp only [hibernaclelaw14_FairRounds.j0]
  exact rounds_loop a0 a2 hb2.1 q (by omega) (q * Many a0) rfl hq (q * Many a0) k 0 (by omega) (by omega) (by omega)
end Go.Proofs.Ytkncpbaknigamaa.Pure
