/- Picks that are turned are the same, the first ones at the end: the plain law, for every list of picks and number. -/
import Derived.Test.YtkncpbaknigamaaTurnMath
namespace Go.Proofs.Ytkncpbaknigamaa.Pure
open Go.RowKit Go.Proofs.Ytkncpbaknigamaa.PFair Go.Proofs.YtkncpbaknigamaaW.PrintWords Go.Proofs.YtkncpbaknigamaaW.PrintLast Go.Proofs.Ytkncpbaknigamaa.FairMath Go.Proofs.Ytkncpbaknigamaa.TurnMath

theorem turns_loop (t : List Int) (by' : Int) (h0 : -9223372036854775808 ≤ by') (ht : t.length ≤ 30) (d : Nat) : ∀ (k i : Nat), t.length - i = d → d + 1000 < k → i ≤ t.length →
    hibernaclelaw14_FairTurns.l0 k t by' (turned t by') (i : Int) = some true := by
  have hlen := turned_length t by'
  induction d with
  | zero =>
    intro k i hd hk hi
    obtain ⟨k, rfl⟩ : ∃ m, k = m + 1 := ⟨k - 1, by omega⟩
    obtain rfl : i = t.length := by omega
    simp only [hibernaclelaw14_FairTurns.l0]
    rw [if_neg (by omega), lives_at (by omega)]
    rfl
  | succ d ih =>
    intro k i hd hk hi
    obtain ⟨k, rfl⟩ : ∃ m, k = m + 1 := ⟨k - 1, by omega⟩
    have ha := around_tells by' t.length h0 (by omega)
    have hg := turned_get t by' i (by omega)
    simp only [hibernaclelaw14_FairTurns.l0]
    rw [if_pos (by omega), ha.1]
    simp only [Option.bind_some]
    have hr := ha.2
    generalize Ar by' t.length = m at *
    rw [wrap_cast ((i : Int) + (m : Int)) (i + m) (by omega) (by omega), Int.tmod_eq_emod_of_nonneg (by omega)]
    have e : ((i + m : Nat) : Int) % (t.length : Int) = ((i + m) % t.length : Nat) := rfl
    have hlt := Nat.mod_lt (i + m) (y := t.length) (by omega)
    rw [e]
    have e1 : rd (turned t by') (i : Int) = rd t (((i + m) % t.length : Nat) : Int) := by
      show (turned t by').getD (i : Int).toNat 0 = t.getD (((i + m) % t.length : Nat) : Int).toNat 0
      rw [Int.toNat_natCast, Int.toNat_natCast]; exact hg
    generalize (i + m) % t.length = q at *
    rw [if_neg (by omega), if_pos (by omega), if_pos (by omega), if_pos (by omega), if_pos (by omega), if_pos e1, wrap_cast ((i : Int) + 1) (i + 1) (by omega) (by omega)]
    exact ih k (i + 1) (by omega) (by omega) (by omega)

theorem FairTurns : hibernaclelaw14_FairTurns.Pure := by
  intro l0 a1 _ _ _ h1
  have hb := bounds_i64 h1
  refine ⟨2000, ?_⟩
  obtain ⟨t, ht, htl, _⟩ := few_tells l0 30 (by omega)
  unfold hibernaclelaw14_FairTurns.f
  rw [show (30 : Int) = ((30 : Nat) : Int) from rfl, ht]; simp only [Option.bind_some]
  rw [turn_tells t a1 hb.1 (by omega) 2000 (by omega)]; simp only [Option.bind_some]
  rw [if_pos (by rw [turned_length])]
  exact turns_loop t a1 hb.1 htl t.length 2000 0 (by omega) (by omega) (by omega)
end Go.Proofs.Ytkncpbaknigamaa.Pure
