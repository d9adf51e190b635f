/- Plain laws on picks that are turned: what the printed fair.Turn and slices.Concat come to. -/
import Derived.Test.YtkncpbaknigamaaPFairx6
import Derived.Test.YtkncpbaknigamaaFairMath
namespace Go.Proofs.Ytkncpbaknigamaa.TurnMath
open Go.RowKit Go.Proofs.Ytkncpbaknigamaa.PFair Go.Proofs.YtkncpbaknigamaaW.PrintWords Go.Proofs.YtkncpbaknigamaaW.PrintLast Go.Proofs.Ytkncpbaknigamaa.FairMath
set_option linter.unusedVariables false

theorem concat_two (a b : List Int) (ha : a.length ≤ 10000) (hb : b.length ≤ 10000) (k : Nat) (hk : 10 ≤ k) : slices_Concat_int_int.f k [a, b] = some (a ++ b) := by
  obtain ⟨k, rfl⟩ : ∃ m, k = m + 10 := ⟨k - 10, by omega⟩
  unfold slices_Concat_int_int.f
  have r0 : rd_L1 [a, b] 0 = a := rfl
  have r1 : rd_L1 [a, b] 1 = b := rfl
  have n2 : (([a, b] : List (List Int)).length : Int) = 2 := rfl
  rw [n2]
  simp only [slices_Concat_int_int.l0, r0, n2, slices_Grow_int_int.f]
  rw [if_pos (by omega), if_pos (by omega), if_pos (by omega), wrap_in (x := 0 + (a.length : Int)) (by omega) (by omega), if_neg (by omega), wrap_in (x := (0 : Int) + 1) (by omega) (by omega)]
  rw [show (0 : Int) + 1 = 1 from rfl, r1]
  rw [if_pos (by omega), if_pos (by omega), if_pos (by omega), wrap_in (x := 0 + (a.length : Int) + (b.length : Int)) (by omega) (by omega), if_neg (by omega), wrap_in (x := (1 : Int) + 1) (by omega) (by omega)]
  rw [if_neg (by omega), if_pos (by omega), if_pos (by omega)]
  simp only [Option.bind_some, slices_Concat_int_int.l1, r0, n2]
  rw [if_pos (by omega), if_pos (by omega), if_pos (by omega), if_pos (by simp; omega), wrap_in (x := (0 : Int) + 1) (by omega) (by omega)]
  rw [show (0 : Int) + 1 = 1 from rfl, r1]
  rw [if_pos (by omega), if_pos (by omega), if_pos (by omega), if_pos (by simp; omega), wrap_in (x := (1 : Int) + 1) (by omega) (by omega)]
  rw [if_neg (by omega)]
  simp

/-- Picks that are turned. -/
def turned (l : List Int) (by' : Int) : List Int := l.drop (Ar by' l.length) ++ l.take (Ar by' l.length)
theorem turned_length (l : List Int) (by' : Int) : (turned l by').length = l.length := by
  simp [turned]
  by_cases h : l.length = 0
  · omega
  · have := Nat.mod_lt (if by' < 0 then (-(by' + 1)).toNat else by'.toNat) (y := l.length) (by omega)
    unfold Ar; omega

theorem tmod_ar (a : Int) (n : Nat) (h0 : -9223372036854775808 ≤ a) (hn : 1 ≤ n) : (if a < 0 then Int.tmod (wrap64 (-(wrap64 (a + 1)))) (n : Int) else Int.tmod a (n : Int)) = (Ar a n : Int) := by
  have h := (around_tells a n h0 hn).1
  unfold hibernacleref03_Around.f at h
  by_cases hl : a < 0
  · rw [if_pos hl, if_neg (by omega)] at h
    rw [if_pos hl]; exact Option.some.inj h
  · rw [if_neg hl, if_neg (by omega)] at h
    rw [if_neg hl]; exact Option.some.inj h

theorem turn_tells (l : List Int) (by' : Int) (h0 : -9223372036854775808 ≤ by') (hl : l.length ≤ 10000) (k : Nat) (hk : 10 ≤ k) : fair_Turn.f k l by' = some (turned l by') := by
  unfold fair_Turn.f
  by_cases hz : l.length = 0
  · obtain rfl := List.length_eq_zero_iff.1 hz
    rw [if_pos (by simp)]
    simp [turned]
  · rw [if_neg (by omega)]
    have ht := tmod_ar by' l.length h0 (by omega)
    have hr := (around_tells by' l.length h0 (by omega)).2
    have hd : (l.drop (Ar by' l.length)).length ≤ 10000 := by simp; omega
    have hc := concat_two (l.drop (Ar by' l.length)) (l.take (Ar by' l.length)) hd (by simp; omega) k hk
    by_cases hn : by' < 0
    · rw [if_pos hn] at ht
      rw [if_pos hn, ht, if_pos (by omega), if_pos (by omega), Int.toNat_natCast, hc]
      rfl
    · rw [if_neg hn] at ht
      rw [if_neg hn, ht, if_pos (by omega), if_pos (by omega), Int.toNat_natCast, hc]
      rfl

theorem turned_get (l : List Int) (by' : Int) (i : Nat) (hi : i < l.length) : (turned l by').getD i 0 = l.getD ((i + Ar by' l.length) % l.length) 0 := by
  have hr : Ar by' l.length < l.length := Nat.mod_lt _ (by omega)
  unfold turned
  generalize Ar by' l.length = m at *
  rw [List.getD_eq_getElem?_getD, List.getD_eq_getElem?_getD, List.getElem?_append]
  by_cases h : i < l.length - m
  · rw [if_pos (by simp; omega), List.getElem?_drop, Nat.mod_eq_of_lt (by omega), Nat.add_comm]
  · rw [if_neg (by simp; omega), List.getElem?_take, if_pos (by simp; omega)]
    have e : (i + m) % l.length = i - (l.length - m) := by
      rw [show i + m = (i - (l.length - m)) + l.length by omega, Nat.add_mod_right, Nat.mod_eq_of_lt (by omega)]
    rw [e]; simp
end Go.Proofs.Ytkncpbaknigamaa.TurnMath
