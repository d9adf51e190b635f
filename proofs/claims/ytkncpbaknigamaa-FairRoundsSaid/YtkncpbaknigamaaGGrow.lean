/- slices.Grow of a nil slice of ints by so many: an empty row of the call's own (or nil). -/
import Derived.Test.YtkncpbaknigamaaPFairx1
import Derived.Lib.Hide
namespace Go.Proofs.Ytkncpbaknigamaa.PFair
open Go.RowKit Go.Proofs.YtkncpbaknigamaaW.PrintWords Go.Proofs.YtkncpbaknigamaaW.PrintLast Go.Proofs.YtkncpbaknigamaaW.PrintMore

def slices_Grow_int_int.f (_l0 : List Int) (a1 : Int) : Option (List Int) := if 0 ≤ a1 then (if a1 ≤ 1000000 then some [] else none) else none

theorem slices_Grow_int_int.grown (n : Nat) (h0 : 0 < n) (h1 : n ≤ 1000000) (w : World) :
    Calls Try.prog 66 #[.slice none 0 0, .int .i64 (n : Int)] w fun e w' => ∃ v0_ : Value, e = .returned (v0_) ∧ Kd.R (Kd.int .i64) 3 w' w.heap.size (fun _ => True) v0_ [] ∧ Below w.heap.size w w' := by
  go_enter Try.func66, Try.ntmps66
  go_wp2_with (at_builtin; refine Kd.R_append_zeros (Kd.int .i64) (w0 := w) w.heap.size rfl (.tmp 20) (.tmp 21) 22 3 3 (.int .i64 0) 8 rfl Try.underlying22 Try.underlying3 info3 rfl (by decide) (by omega) (.slice none 0 0) ([] : List Int) 0 (n : Int) (fun _ => True) rfl rfl rfl (fun _ _ => trivial) (Kd.R_nil _ _ _ _ _) (by omega) (Below.refl _ _) (Nat.le_refl _) ?aL ?_; (case aL => simp; omega); intro v1 w1 hR hB hg hat; obtain ⟨A1, cc1, ee1⟩ := Kd.R_slice hR; subst ee1; have hT := Kd.R_take (m := 0) hR (Nat.zero_le _); have hcc := (Kd.R_reads' hR).2.1)
  go_ret
  exact ⟨_, rfl, hT, hB⟩

theorem slices_Grow_int_int.calls (A0 : Option Addr) (c0 : Nat) (l0 : List Int) (a1 : Int) (r : List Int) (w : World) (hr0 : Kd.C (Kd.int .i64) w A0 l0.length l0) (_hc0 : l0.length ≤ c0) (h : slices_Grow_int_int.f l0 a1 = some r) (hnil : A0 = none ∧ c0 = 0 := by exact ⟨rfl, rfl⟩) :
    Calls Try.prog 66 #[.slice A0 l0.length c0, .int .i64 a1] w fun e w' => ∃ v0_ : Value, e = .returned (v0_) ∧ Kd.R (Kd.int .i64) 3 w' w.heap.size (fun _ => True) v0_ r ∧ Below w.heap.size w w' := by
  obtain ⟨rfl, rfl⟩ := hnil
  have hl : l0.length = 0 := by omega
  rw [hl]
  unfold slices_Grow_int_int.f at h
  by_cases h0 : 0 ≤ a1
  · rw [if_pos h0] at h
    by_cases h1 : a1 ≤ 1000000
    · rw [if_pos h1] at h
      obtain rfl := Option.some.inj h
      obtain ⟨n, rfl⟩ := Int.eq_ofNat_of_zero_le h0
      by_cases hn : 0 < n
      · exact slices_Grow_int_int.grown n hn (by omega) w
      · obtain rfl : n = 0 := by omega
        go_enter Try.func66, Try.ntmps66
        go_wp2
        go_ret
        exact ⟨_, rfl, Kd.R_nil _ _ _ _ _, Below.refl _ _⟩
    · rw [if_neg h1] at h; cases h
  · rw [if_neg h0] at h; cases h
end Go.Proofs.Ytkncpbaknigamaa.PFair
