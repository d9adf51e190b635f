/- K9: a text of a symbolic executor that is proved sound, and contracts that are proved with it. -/
import Derived.Test.YtaplihoeephbeaaK8
set_option linter.unusedVariables false
set_option linter.unusedSimpArgs false
namespace Go.Proofs.Ytaplihoeephbeaa.V
open Go Go.Proofs
set_option maxRecDepth 100000
set_option maxHeartbeats 40000000
theorem S13ab (n : Nat) : S13a n = S13b n 0 := by
  by_cases h : n = 0
  · subst h; rfl
  · have h2 : 0 < n := by omega
    simp [S13a, S13b, h, h2]
theorem free13 (n : Nat) : freeS (S13b n n) = true := by
  simp [freeS, S13b, upTo_nil]
theorem law13 (x : Int) (hx : I64 x) : Spec Try.prog 13 [.int .i64 x] [] (fun d _ => d = .bool true) := by
  refine Spec.by Try.func13 rfl (by decide) (by decide +kernel) rfl ?_
  (refine goA ?_)
  refine Call.mk ((around33 x 21 hx (by omega)).only _ rfl (by rintro d rfl; rfl)) ?_; rintro d os' ⟨rfl, rfl⟩
  have hn := around_lt x 21 (by omega)
  obtain ⟨n, hne⟩ : ∃ n : Nat, around x 21 = n := ⟨(around x 21).toNat, by omega⟩
  rw [hne] at hn ⊢
  (refine goA ?_)
  refine Call.mk (new66n 1 0 (by omega) (by omega)) ?_
  rintro d os' ⟨rfl, rfl⟩
  (refine goA ?_)
  refine Loop.inv (A := Nat) (List.range 75) (fun t => [(0, .int .i64 (n : Int)), (3, lkP), (4, .int .i64 (t : Int))]) (fun t => lkO 1 0 0 (S13a t) []) (fun t => t ≤ n) (fun t => n - t) 0 (Nat.zero_le _) ?_ ?_
  · exact Weak.start' rfl rfl tld
  intro t ht
  have hl := lock13 t
  (refine goA ?_)
  refine Br.dec (fun h => ?_) (fun h => ?_)
  · by_cases h0 : t = 0
    · have h0' : (t : Int) = 0 := by omega
      rw [decide_eq_true h0] at hl
      (refine goA ?_)
      refine Call.mk (lock67 (S13a_ok t (by omega)) 0 (by omega) (t : Int) []) ?_
      rw [hl]
      rintro d os' ⟨rfl, rfl⟩
      (refine goA ?_)
      refine Br.ff (by rw [decide_eq_true h0']; rfl) ?_
      (refine goA ?_)
      refine ⟨_, _, _, ?_, ⟨t + 1, ?_, rfl, rfl, rfl⟩, ?_⟩
      · show n - (t + 1) < n - t; omega
      · show t + 1 ≤ n; omega
      · refine Weak.backT 6 (by simp) (by first | rfl | kernel_rfl) (by kernel_rfl) (Nat.le_of_ble_eq_true rfl) tld (by kernel_rfl) (by kernel_rfl)
    · have h0' : ¬ (t : Int) = 0 := by omega
      rw [decide_eq_false h0] at hl
      (refine goA ?_)
      refine Call.mk (lock67 (S13a_ok t (by omega)) 0 (by omega) (t : Int) []) ?_
      rw [hl]
      rintro d os' ⟨rfl, rfl⟩
      (refine goA ?_)
      refine Br.ff (by rw [decide_eq_false h0']; rfl) ?_
      (refine goA ?_)
      refine ⟨_, _, _, ?_, ⟨t + 1, ?_, rfl, rfl, rfl⟩, ?_⟩
      · show n - (t + 1) < n - t; omega
      · show t + 1 ≤ n; omega
      · refine Weak.backT 6 (by simp) (by first | rfl | kernel_rfl) (by kernel_rfl) (Nat.le_of_ble_eq_true rfl) tld (by kernel_rfl) (by kernel_rfl)
  · obtain rfl : t = n := by omega
    rw [S13ab]
    (refine goA ?_)
    refine Loop.inv (A := Nat) (List.range 75) (fun s => [(0, .int .i64 (t : Int)), (3, lkP), (5, .int .i64 (s : Int))]) (fun s => lkO 1 0 0 (S13b t s) []) (fun s => s ≤ t) (fun s => t - s) 0 (Nat.zero_le _) ?_ ?_
    · exact Weak.start' rfl rfl tld
    intro s hs
    (refine goA ?_)
    refine Br.dec (fun h1 => ?_) (fun h1 => ?_)
    · have hst : s < t := by omega
      have hu1 := unlock13a t s hst
      have hu2 := unlock13b t s hst
      (refine goA ?_)
      refine Br.dec (fun h2 => ?_) (fun h2 => ?_)
      · rw [if_pos (by omega)] at hu2
        (refine goA ?_)
        refine Call.mk (unlock68 (S13b_ok t s (by omega)) 0 (by omega) ((s : Int) + 1) []) ?_
        rw [hu1]
        rintro d os' ⟨rfl, rfl⟩
        (refine goA ?_)
        refine Call.mk (unlock68 (S13b_ok t s (by omega)) 0 (by omega) (s : Int) []) ?_
        rw [hu2]
        rintro d os' ⟨rfl, rfl⟩
        (refine goA ?_)
        refine ⟨_, _, _, ?_, ⟨s + 1, ?_, rfl, rfl, rfl⟩, ?_⟩
        · show t - (s + 1) < t - s; omega
        · show s + 1 ≤ t; omega
        · refine Weak.backT 6 (by simp) (by first | rfl | kernel_rfl) (by kernel_rfl) (Nat.le_of_ble_eq_true rfl) tld (by kernel_rfl) (by kernel_rfl)
      · rw [if_neg (by omega)] at hu2
        (refine goA ?_)
        refine Call.mk (unlock68 (S13b_ok t s (by omega)) 0 (by omega) ((s : Int) + 1) []) ?_
        rw [hu1]
        rintro d os' ⟨rfl, rfl⟩
        (refine goA ?_)
        refine Call.mk (unlock68 (S13b_ok t s (by omega)) 0 (by omega) (s : Int) []) ?_
        rw [hu2]
        rintro d os' ⟨rfl, rfl⟩
        (refine goA ?_)
        refine ⟨_, _, _, ?_, ⟨s + 1, ?_, rfl, rfl, rfl⟩, ?_⟩
        · show t - (s + 1) < t - s; omega
        · show s + 1 ≤ t; omega
        · refine Weak.backT 6 (by simp) (by first | rfl | kernel_rfl) (by kernel_rfl) (Nat.le_of_ble_eq_true rfl) tld (by kernel_rfl) (by kernel_rfl)
    · obtain rfl : s = t := by omega
      (refine goA ?_)
      refine Call.mk (free69' (S13b_ok s s (by omega)) (by omega)) ?_
      rw [free13]
      rintro d os' ⟨rfl, rfl⟩
      (refine goA ?_)
      refine Call.mk ((lives70).only _ rfl (by rintro d rfl; rfl)) ?_; rintro d os' ⟨rfl, rfl⟩
      (refine goA ?_)
      exact Ret.mk [.tmp _] rfl rfl
end Go.Proofs.Ytaplihoeephbeaa.V
