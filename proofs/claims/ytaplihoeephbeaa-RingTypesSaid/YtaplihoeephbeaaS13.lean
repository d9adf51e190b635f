/- S13: a text of a symbolic executor that is proved sound, and contracts that are proved with it. -/
import Derived.Test.YtaplihoeephbeaaS12
set_option linter.unusedVariables false
set_option linter.unusedSimpArgs false
namespace Go.Proofs.Ytaplihoeephbeaa.V
open Go Go.Proofs
set_option maxRecDepth 100000
set_option maxHeartbeats 4000000
theorem kept_one (n : Int) : kept [n] = decide (n = keep n) := by
  unfold kept
  by_cases h : n = keep n
  · simp [← h]
  · simp [h]
theorem may31 (g : Pg) (t : Th) (ht : t.okB) : Spec Try.prog 31 [pgD g, thD t] [] (fun d os' => d = .bool (mayT g t) ∧ os' = []) := by
  have hlf : t.fr.length ≤ 9223372036854775806 := by have := ht.1; omega
  have hno : ∀ h : ¬ mayP t.st t.code t.fr.length t.sk.length, D.bool false = .bool (mayT g t) := fun h => by rw [mayT_no h]
  have hls : t.sk.length ≤ 9223372036854775806 := by have := ht.2.1; omega
  refine Spec.by Try.func31 rfl (by decide) (by decide +kernel) rfl ?_
  (refine goA ?_)
  refine Br.dec (fun h1 => ?_) (fun h1 => ?_)
  · (refine goA ?_)
    refine Ret.trim 0 (by simp) rfl (Nat.le_of_ble_eq_true rfl) ?_
    refine Ret.mk [.tmp _] rfl ?_; refine And.intro ?_ rfl
    exact hno (fun h => by unfold mayP at h; omega)
  (refine goA ?_)
  refine Br.dec (fun h2 => ?_) (fun h2 => ?_)
  · (refine goA ?_)
    refine Ret.trim 0 (by simp) rfl (Nat.le_of_ble_eq_true rfl) ?_
    refine Ret.mk [.tmp _] rfl ?_; refine And.intro ?_ rfl
    exact hno (fun h => by unfold mayP at h; omega)
  (refine goA ?_)
  refine Br.dec (fun h3 => ?_) (fun h3 => ?_)
  · (refine goA ?_)
    refine Ret.trim 0 (by simp) rfl (Nat.le_of_ble_eq_true rfl) ?_
    refine Ret.mk [.tmp _] rfl ?_; refine And.intro ?_ rfl
    exact hno (fun h => by unfold mayP at h; omega)
  (refine goA ?_)
  refine Br.dec (fun h4 => ?_) (fun h4 => ?_)
  · (refine goA ?_)
    refine Ret.trim 0 (by simp) rfl (Nat.le_of_ble_eq_true rfl) ?_
    refine Ret.mk [.tmp _] rfl ?_; refine And.intro ?_ rfl
    exact hno (fun h => by unfold mayP at h; omega)
  (refine goA ?_)
  refine Br.cs (fun h5 => ?_) (fun h5 => ?_)
  · (refine goA ?_)
    refine Ret.trim 0 (by simp) rfl (Nat.le_of_ble_eq_true rfl) ?_
    refine Ret.mk [.tmp _] rfl ?_; refine And.intro ?_ rfl
    rw [List.length_map] at h5
    refine hno (fun h => ?_)
    unfold mayP at h
    by_cases hd : t.st = 9
    · have : (t.fr.length : Int) = 0 := by omega
      simp [hd, this] at h5
    · have : ¬ (t.fr.length : Int) = 0 := by omega
      simp [hd] at h5
      exact this (by rw [h5]; rfl)
  have h5' : t.st = 9 ↔ t.fr.length = 0 := by
    rw [List.length_map] at h5
    simp at h5
    by_cases hd : t.st = 9
    · simp [hd] at h5; simp [hd, h5]
    · simp [hd] at h5; simp [hd, h5]
  by_cases hd : t.st = 9
  · (refine goA ?_)
    refine Br.dec (fun h6 => ?_) (fun h6 => ?_)
    · (refine goA ?_)
      refine Ret.trim 0 (by simp) rfl (Nat.le_of_ble_eq_true rfl) ?_
      refine Ret.mk [.tmp _] rfl ?_; refine And.intro ?_ rfl
      rw [List.length_map] at h6
      exact hno (fun h => by unfold mayP at h; omega)
    (refine goA ?_)
    refine Br.dec (fun h7 => ?_) (fun h7 => ?_)
    · (refine goA ?_)
      skip
      · have h7' := h7
        rw [List.length_map] at h7'
        have hm : mayP t.st t.code t.fr.length t.sk.length := by unfold mayP; have h6' := h6; rw [List.length_map] at h6'; omega
        (refine goA ?_)
        refine Call.mk ((kept113 t.sk hls).only _ rfl (by rintro d rfl; rfl)) ?_
        rintro d os' ⟨rfl, rfl⟩
        (refine goA ?_)
        refine Br.cs (fun h9 => ?_) (fun h9 => ?_)
        · (refine goA ?_)
          refine App.only false rfl rfl ?_
          (refine goA ?_)
          refine Call.mk ((kept113 [t.on] (by simp)).only _ rfl (by rintro d rfl; rfl)) ?_
          rintro d os' ⟨rfl, rfl⟩
          (refine goA ?_)
          refine Br.cs (fun h10 => ?_) (fun h10 => ?_)
          · (refine goA ?_)
            refine Call.mk ((con114 t.fr 112 [.pel (pgD g) 0] (oddF g) hlf (fun x hx => odd112 g x (by have := ht.2.2 x hx; omega))).read (.cons (.same _) (.cons (.fn .nil (.cons (View.ptr rfl rfl rfl (.same _) rfl) .nil)) .nil)) rfl (by rintro d rfl; exact ⟨rfl, rfl⟩)) ?_
            rintro d os' ⟨rfl, rfl⟩
            (refine goA ?_)
            refine Ret.trim 0 (by simp) rfl (Nat.le_of_ble_eq_true rfl) ?_
            refine Ret.mk [.tmp _] rfl ?_; refine And.intro ?_ rfl
            rw [kept_one] at h10
            unfold mayT
            rw [decide_eq_true hm, h9, h10]; simp
          · (refine goA ?_)
            refine Ret.trim 0 (by simp) rfl (Nat.le_of_ble_eq_true rfl) ?_
            refine Ret.mk [.tmp _] rfl ?_; refine And.intro ?_ rfl
            rw [kept_one] at h10
            unfold mayT
            rw [h10]; simp
        · (refine goA ?_)
          refine Ret.trim 0 (by simp) rfl (Nat.le_of_ble_eq_true rfl) ?_
          refine Ret.mk [.tmp _] rfl ?_; refine And.intro ?_ rfl
          unfold mayT
          rw [h9]; simp
    · (refine goA ?_)
      refine Ret.trim 0 (by simp) rfl (Nat.le_of_ble_eq_true rfl) ?_
      refine Ret.mk [.tmp _] rfl ?_; refine And.intro ?_ rfl
      rw [List.length_map] at h7
      exact hno (fun h => by unfold mayP at h; omega)
  · (refine goA ?_)
    refine Br.cs (fun h6_ => ?_) (fun h6_ => ?_) <;> have h6 := h6_ <;> simp at h6
    · (refine goA ?_)
      refine Ret.trim 0 (by simp) rfl (Nat.le_of_ble_eq_true rfl) ?_
      refine Ret.mk [.tmp _] rfl ?_; refine And.intro ?_ rfl
      exact hno (fun h => by unfold mayP at h; omega)
    (refine goA ?_)
    refine Br.dec (fun h7 => ?_) (fun h7 => ?_)
    · (refine goA ?_)
      refine Br.dec (fun h8 => ?_) (fun h8 => ?_)
      · have h7' := h7
        have h8' := h8
        rw [List.length_map] at h7' h8'
        have hm : mayP t.st t.code t.fr.length t.sk.length := by unfold mayP; omega
        (refine goA ?_)
        refine Call.mk ((kept113 t.sk hls).only _ rfl (by rintro d rfl; rfl)) ?_
        rintro d os' ⟨rfl, rfl⟩
        (refine goA ?_)
        refine Br.cs (fun h9 => ?_) (fun h9 => ?_)
        · (refine goA ?_)
          refine App.only false rfl rfl ?_
          (refine goA ?_)
          refine Call.mk ((kept113 [t.on] (by simp)).only _ rfl (by rintro d rfl; rfl)) ?_
          rintro d os' ⟨rfl, rfl⟩
          (refine goA ?_)
          refine Br.cs (fun h10 => ?_) (fun h10 => ?_)
          · (refine goA ?_)
            refine Call.mk ((con114 t.fr 112 [.pel (pgD g) 0] (oddF g) hlf (fun x hx => odd112 g x (by have := ht.2.2 x hx; omega))).read (.cons (.same _) (.cons (.fn .nil (.cons (View.ptr rfl rfl rfl (.same _) rfl) .nil)) .nil)) rfl (by rintro d rfl; exact ⟨rfl, rfl⟩)) ?_
            rintro d os' ⟨rfl, rfl⟩
            (refine goA ?_)
            refine Ret.trim 0 (by simp) rfl (Nat.le_of_ble_eq_true rfl) ?_
            refine Ret.mk [.tmp _] rfl ?_; refine And.intro ?_ rfl
            rw [kept_one] at h10
            unfold mayT
            rw [decide_eq_true hm, h9, h10]; simp
          · (refine goA ?_)
            refine Ret.trim 0 (by simp) rfl (Nat.le_of_ble_eq_true rfl) ?_
            refine Ret.mk [.tmp _] rfl ?_; refine And.intro ?_ rfl
            rw [kept_one] at h10
            unfold mayT
            rw [h10]; simp
        · (refine goA ?_)
          refine Ret.trim 0 (by simp) rfl (Nat.le_of_ble_eq_true rfl) ?_
          refine Ret.mk [.tmp _] rfl ?_; refine And.intro ?_ rfl
          unfold mayT
          rw [h9]; simp
      · (refine goA ?_)
        refine Ret.trim 0 (by simp) rfl (Nat.le_of_ble_eq_true rfl) ?_
        refine Ret.mk [.tmp _] rfl ?_; refine And.intro ?_ rfl
        rw [List.length_map] at h8
        exact hno (fun h => by unfold mayP at h; omega)
    · (refine goA ?_)
      refine Ret.trim 0 (by simp) rfl (Nat.le_of_ble_eq_true rfl) ?_
      refine Ret.mk [.tmp _] rfl ?_; refine And.intro ?_ rfl
      rw [List.length_map] at h7
      exact hno (fun h => by unfold mayP at h; omega)
end Go.Proofs.Ytaplihoeephbeaa.V
