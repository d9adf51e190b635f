/- T2: a text of a symbolic executor that is proved sound, and contracts that are proved with it. -/
import Derived.Test.YtaplihoeephbeaaT1
set_option linter.unusedVariables false
set_option linter.unusedSimpArgs false
namespace Go.Proofs.Ytaplihoeephbeaa.V
open Go Go.Proofs
set_option maxRecDepth 100000
set_option maxHeartbeats 40000000
theorem wrap8 {n : Int} (h0 : 0 ≤ n) (h1 : n < 256) : n = IntKind.u8.wrap n := by
  have : IntKind.u8.wrap n = n % 256 := by simp [IntKind.wrap, IntKind.bits, IntKind.signed]
  rw [this]; omega
theorem decS (n : Int) (h0 : 0 ≤ n) (h10 : n < 10) : Spec Try.prog 43 [.int .i64 n] [] (fun d os' => d = .str (ByteArray.empty.push (UInt8.ofNat (48 + n.tmod 10).toNat)) ∧ os' = []) := by
  have hm : n.tmod 10 = n % 10 := Int.tmod_eq_emod_of_nonneg h0
  have b0 : 0 ≤ n.tmod 10 := by rw [hm]; omega
  have b1 : n.tmod 10 < 10 := by rw [hm]; omega
  refine Spec.by Try.func43 rfl (by decide) (by decide +kernel) rfl ?_
  (refine goA ?_)
  refine Ar.mk (48 + n.tmod 10) (wrap8 (by omega) (by omega)) ?_
  (refine goA ?_)
  refine App.only false rfl rfl ?_
  (refine goA ?_)
  exact Ret.mk [.tmp _] rfl ⟨rfl, rfl⟩
theorem decP : ∀ (k : Nat) (n : Int), 0 ≤ n → n ≤ 9223372036854775807 → n.toNat ≤ k → ∃ s : ByteArray, s.size ≤ n.toNat / 10 + 2 ∧ Spec Try.prog 43 [.int .i64 n] [] (fun d os' => d = .str s ∧ os' = []) := by
  intro k
  induction k with
  | zero =>
    intro n h0 h1 hk
    exact ⟨_, by show 1 ≤ _; omega, decS n h0 (by omega)⟩
  | succ k ih =>
    intro n h0 h1 hk
    have hm : n.tmod 10 = n % 10 := Int.tmod_eq_emod_of_nonneg h0
    have hq : n.tdiv 10 = n / 10 := Int.tdiv_eq_ediv_of_nonneg h0
    by_cases h10 : n < 10
    · exact ⟨_, by show 1 ≤ _; omega, decS n h0 h10⟩
    · obtain ⟨s, hs, hsp⟩ := ih (n / 10) (by omega) (by omega) (by omega)
      have b0 : 0 ≤ n.tmod 10 := by rw [hm]; omega
      have b1 : n.tmod 10 < 10 := by rw [hm]; omega
      have b2 : 0 ≤ n.tdiv 10 := by rw [hq]; omega
      have b3 : n.tdiv 10 ≤ 9223372036854775807 := by rw [hq]; omega
      rw [← hq] at hsp
      have hs1 : s.size ≤ n.toNat / 10 / 10 + 2 := by have : (n / 10).toNat = n.toNat / 10 := by omega
                                                      rw [← this]; exact hs
      refine ⟨s ++ ByteArray.empty.push (UInt8.ofNat (48 + n.tmod 10).toNat), ?_, ?_⟩
      · rw [ByteArray.size_append]
        show s.size + 1 ≤ _
        omega
      · refine Spec.by Try.func43 rfl (by decide) (by decide +kernel) rfl ?_
        (refine goA ?_)
        refine Ar.mk (48 + n.tmod 10) (wrap8 (by omega) (by omega)) ?_
        (refine goA ?_)
        refine App.only false rfl rfl ?_
        (refine goA ?_)
        refine Call.mk hsp ?_
        rintro d os' ⟨rfl, rfl⟩
        (refine goR ?_)
        exact Ret.mk [.tmp _] rfl ⟨rfl, rfl⟩
theorem decI (n : Int) (hn : I64 n) : ∃ s : ByteArray, Spec Try.prog 43 [.int .i64 n] [] (fun d os' => d = .str s ∧ os' = []) := by
  by_cases h0 : 0 ≤ n
  · obtain ⟨s, _, h⟩ := decP n.toNat n h0 hn.2 (Nat.le_refl _)
    exact ⟨s, h⟩
  · have hn1 := hn.1
    by_cases h1 : n < -9223372036854775807
    · refine ⟨⟨#[45, 57, 50, 50, 51, 51, 55, 50, 48, 51, 54, 56, 53, 52, 55, 55, 53, 56, 48, 56]⟩, ?_⟩
      refine Spec.by Try.func43 rfl (by decide) (by decide +kernel) rfl ?_
      (refine goA ?_)
      exact Ret.mk [.tmp _] rfl ⟨rfl, rfl⟩
    · obtain ⟨s, hs, h⟩ := decP (0 - n).toNat (0 - n) (by omega) (by omega) (Nat.le_refl _)
      refine ⟨⟨#[45]⟩ ++ s, ?_⟩
      refine Spec.by Try.func43 rfl (by decide) (by decide +kernel) rfl ?_
      (refine goA ?_)
      refine Call.mk h ?_
      rintro d os' ⟨rfl, rfl⟩
      (refine goR ?_)
      refine ⟨by show ((1 + s.size : Nat) : Int) ≤ _; omega, ?_⟩
      (refine goA ?_)
      exact Ret.mk [.tmp _] rfl ⟨rfl, rfl⟩
theorem decF : ∃ dec : Int → ByteArray, ∀ n, I64 n → Spec Try.prog 43 [.int .i64 n] [] (fun d os' => d = .str (dec n) ∧ os' = []) :=
  ⟨fun n => @dite _ (I64 n) (Classical.propDecidable _) (fun h => Classical.choose (decI n h)) (fun _ => bE), fun n h => by
    have := Classical.choose_spec (decI n h)
    simp only [dif_pos h]
    exact this⟩
end Go.Proofs.Ytaplihoeephbeaa.V
