/- S2: a text of a symbolic executor that is proved sound, and contracts that are proved with it. -/
import Derived.Test.YtaplihoeephbeaaVC
set_option linter.unusedVariables false
set_option linter.unusedSimpArgs false
namespace Go.Proofs.Ytaplihoeephbeaa.V
open Go Go.Proofs
set_option maxRecDepth 100000
@[reducible] def ints (xs : List Int) : D := .lst 1 false (xs.map (D.int .i64))
@[reducible] def idxD (o : Option Nat) : D := .int .i64 (match o with | some i => (i : Int) | none => -1)
theorem find_at {α : Type} {xs : List α} {q : α → Bool} {i : Nat} (hi : i < xs.length) (hb : q xs[i] = true) (hf : ∀ x ∈ xs.take i, q x = false) : xs.findIdx? q = some i := by
  rw [List.findIdx?_eq_some_iff_getElem]
  refine ⟨hi, hb, fun j hj => ?_⟩
  have : xs[j] ∈ xs.take i := by rw [List.mem_take_iff_getElem]; exact ⟨j, by omega, rfl⟩
  simp [hf _ this]
theorem find_none {α : Type} {xs : List α} {q : α → Bool} {i : Nat} (hi : xs.length ≤ i) (hf : ∀ x ∈ xs.take i, q x = false) : xs.findIdx? q = none := by
  rw [List.findIdx?_eq_none_iff]
  intro x hx
  exact hf x (by rw [List.take_of_length_le hi]; exact hx)
theorem take_more {α : Type} {xs : List α} {q : α → Bool} {i : Nat} (hi : i < xs.length) (hb : q xs[i] = false) (hf : ∀ x ∈ xs.take i, q x = false) : ∀ x ∈ xs.take (i + 1), q x = false := by
  intro x hx
  rw [List.take_add_one, List.getElem?_eq_getElem hi] at hx
  rcases List.mem_append.1 hx with h | h
  · exact hf x h
  · simp at h; rw [h]; exact hb
theorem idx192 (xs : List Int) (g : Nat) (a b : List D) (q : Int → Bool) (hl : xs.length ≤ 9223372036854775806) (hq : ∀ x ∈ xs, Spec Try.prog g (a ++ ([.int .i64 x] ++ b)) [] (fun d os' => d = .bool (q x) ∧ os' = [])) :
    Spec Try.prog 192 [ints xs, .fn (.func g) a b] [] (fun d os' => d = idxD (xs.findIdx? q) ∧ os' = []) := by
  refine Spec.by Try.func192 rfl (by decide) (by decide +kernel) rfl ?_
  (refine goA ?_)
  refine Loop.inv (A := Nat) [] (fun i => [(8, .int .i64 (i : Int))]) (fun _ => []) (fun i => i ≤ xs.length ∧ ∀ x ∈ xs.take i, q x = false) (fun i => xs.length - i) 0 ⟨Nat.zero_le _, by simp⟩ (Weak.start tld) ?_
  intro i ⟨hi, hf⟩
  (refine goA ?_)
  refine Br.dec (fun h => ?_) (fun h => ?_)
  · simp only [List.length_map] at h
    (refine goA ?_)
    refine Opt.of (get_map (List.getElem?_eq_getElem (l := xs) (i := i) (by omega))) ?_
    (refine goA ?_)
    rw [forceL_eq]
    refine Call.mk (hq _ (List.getElem_mem (by omega))) ?_
    rintro d os' ⟨rfl, rfl⟩
    (refine goA ?_)
    refine Br.cs (fun hb => ?_) (fun hb => ?_)
    · (refine goA ?_)
      refine Ret.mk [.tmp _] rfl ?_; refine And.intro ?_ rfl
      rw [find_at (by omega) hb hf]
    · (refine goA ?_)
      refine Loop.next (i + 1) ?_ ?_ (Weak.back rfl tld rfl rfl)
      · exact ⟨by omega, take_more (by omega) hb hf⟩
      · omega
  · (refine goA ?_)
    refine Ret.mk [.tmp _] rfl ?_; refine And.intro ?_ rfl
    rw [find_none (by simpa using h) hf]
theorem con152 (xs : List Int) (g : Nat) (b : List D) (q : Int → Bool) (hl : xs.length ≤ 9223372036854775806) (hq : ∀ x ∈ xs, Spec Try.prog g ([] ++ ([.int .i64 x] ++ b)) [] (fun d os' => d = .bool (q x) ∧ os' = [])) :
    Spec Try.prog 152 [ints xs, .fn (.func g) [] b] [] (fun d os' => d = .bool (xs.any q) ∧ os' = []) := by
  refine Spec.by Try.func152 rfl (by decide) (by decide +kernel) rfl ?_
  (refine goA ?_)
  refine Call.mk (idx192 xs g [] b q hl hq) ?_
  rintro d os' ⟨rfl, rfl⟩
  (refine goA ?_)
  refine Ret.mk [.tmp _] rfl ?_; refine And.intro ?_ rfl
  cases h : xs.findIdx? q with
  | none =>
    rw [List.findIdx?_eq_none_iff] at h
    have : xs.any q = false := by simpa using h
    rw [this]; rfl
  | some i =>
    rw [List.findIdx?_eq_some_iff_getElem] at h
    obtain ⟨hi, hb, _⟩ := h
    have : xs.any q = true := List.any_eq_true.2 ⟨_, List.getElem_mem hi, hb⟩
    rw [this]; simp
def keep (n : Int) : Int := if n < -1073741824 then -1073741824 else if 1073741824 < n then 1073741824 else n
theorem keep35 (n : Int) (os : Objs) : Spec Try.prog 35 [.int .i64 n] os (fun d os' => d = .int .i64 (keep n) ∧ os' = os) := by
  refine Spec.by Try.func35 rfl (by decide) (by decide +kernel) rfl ?_
  (refine goA ?_)
  refine Ret.mk [.tmp _] rfl ?_; refine And.intro ?_ rfl
  unfold keep
  congr 1
  split <;> split <;> (try split) <;> omega
theorem kp185 (n : Int) : Spec Try.prog 185 [.int .i64 n] [] (fun d os' => d = .bool (decide (n ≠ keep n)) ∧ os' = []) := by
  refine Spec.by Try.func185 rfl (by decide) (by decide +kernel) rfl ?_
  (refine goA ?_)
  refine Call.mk (keep35 n []) ?_
  rintro d os' ⟨rfl, rfl⟩
  (refine goA ?_)
  refine Ret.mk [.tmp _] rfl ?_; refine And.intro ?_ rfl
  simp
def kept (xs : List Int) : Bool := !(xs.any fun n => decide (n ≠ keep n))
theorem kept113 (xs : List Int) (hl : xs.length ≤ 9223372036854775806) : Spec Try.prog 113 [ints xs] [] (fun d os' => d = .bool (kept xs) ∧ os' = []) := by
  refine Spec.by Try.func113 rfl (by decide) (by decide +kernel) rfl ?_
  (refine goA ?_)
  refine Call.mk (con152 xs 185 [] _ hl (fun x _ => kp185 x)) ?_
  rintro d os' ⟨rfl, rfl⟩
  (refine goA ?_)
  refine Ret.mk [.tmp _] rfl ?_; refine And.intro ?_ rfl
  rfl
theorem same50 (xs ys : List Int) (hl : xs.length ≤ 9223372036854775806) : Spec Try.prog 50 [ints xs, ints ys] [] (fun d os' => d = .bool (decide (xs = ys)) ∧ os' = []) := by
  refine Spec.by Try.func50 rfl (by decide) (by decide +kernel) rfl ?_
  (refine goA ?_)
  refine Br.cs (fun hb => ?_) (fun hb => ?_)
  · (refine goA ?_)
    refine Ret.mk [.tmp _] rfl ?_; refine And.intro ?_ rfl
    have : ¬ xs = ys := fun e => by subst e; simp at hb
    simp [this]
  · simp only [List.length_map, Bool.not_eq_false', decide_eq_true_eq] at hb
    have hlen : xs.length = ys.length := by omega
    (refine goA ?_)
    refine Loop.inv (A := Nat) [] (fun i => [(5, .int .i64 (i : Int))]) (fun _ => []) (fun i => i ≤ xs.length ∧ xs.take i = ys.take i) (fun i => xs.length - i) 0 ⟨Nat.zero_le _, by simp⟩ (Weak.start tld) ?_
    intro i ⟨hi, hf⟩
    (refine goA ?_)
    refine Br.dec (fun h => ?_) (fun h => ?_)
    · simp only [List.length_map] at h
      (refine goA ?_)
      refine Opt.of (get_map (List.getElem?_eq_getElem (l := xs) (i := i) (by omega))) ?_
      (refine goA ?_)
      refine Opt.of (get_map (List.getElem?_eq_getElem (l := ys) (i := i) (by omega))) ?_
      (refine goA ?_)
      refine Br.cs (fun hb => ?_) (fun hb => ?_)
      · simp at hb
        (refine goA ?_)
        refine Ret.mk [.tmp _] rfl ?_; refine And.intro ?_ rfl
        have : ¬ xs = ys := fun e => by subst e; exact hb rfl
        simp [this]
      · simp at hb
        (refine goA ?_)
        refine Loop.next (i + 1) ?_ ?_ (Weak.back rfl tld rfl rfl)
        · exact ⟨by omega, by rw [List.take_add_one, List.take_add_one, hf, List.getElem?_eq_getElem (by omega), List.getElem?_eq_getElem (by omega), hb]⟩
        · omega
    · simp only [List.length_map] at h
      (refine goA ?_)
      refine Ret.mk [.tmp _] rfl ?_; refine And.intro ?_ rfl
      have : xs = ys := by
        rw [List.take_of_length_le (by omega), List.take_of_length_le (by omega)] at hf
        exact hf
      simp [this]
theorem same129 (xs ys : List Int) (hl : xs.length ≤ 9223372036854775806) : Spec Try.prog 129 [ints xs, ints ys] [] (fun d os' => d = .bool (decide (xs = ys)) ∧ os' = []) := by
  refine Spec.by Try.func129 rfl (by decide) (by decide +kernel) rfl ?_
  (refine goA ?_)
  refine Br.cs (fun hb => ?_) (fun hb => ?_)
  · (refine goA ?_)
    refine Ret.mk [.tmp _] rfl ?_; refine And.intro ?_ rfl
    have : ¬ xs = ys := fun e => by subst e; simp at hb
    simp [this]
  · simp only [List.length_map, Bool.not_eq_false', decide_eq_true_eq] at hb
    have hlen : xs.length = ys.length := by omega
    (refine goA ?_)
    refine Loop.inv (A := Nat) [] (fun i => [(13, .int .i64 (i : Int))]) (fun _ => []) (fun i => i ≤ xs.length ∧ xs.take i = ys.take i) (fun i => xs.length - i) 0 ⟨Nat.zero_le _, by simp⟩ (Weak.start tld) ?_
    intro i ⟨hi, hf⟩
    (refine goA ?_)
    refine Br.dec (fun h => ?_) (fun h => ?_)
    · simp only [List.length_map] at h
      (refine goA ?_)
      refine Opt.of (get_map (List.getElem?_eq_getElem (l := xs) (i := i) (by omega))) ?_
      (refine goA ?_)
      refine Opt.of (get_map (List.getElem?_eq_getElem (l := ys) (i := i) (by omega))) ?_
      (refine goA ?_)
      refine Br.cs (fun hb => ?_) (fun hb => ?_)
      · simp at hb
        (refine goA ?_)
        refine Ret.mk [.tmp _] rfl ?_; refine And.intro ?_ rfl
        have : ¬ xs = ys := fun e => by subst e; exact hb rfl
        simp [this]
      · simp at hb
        (refine goA ?_)
        refine Loop.next (i + 1) ?_ ?_ (Weak.back rfl tld rfl rfl)
        · exact ⟨by omega, by rw [List.take_add_one, List.take_add_one, hf, List.getElem?_eq_getElem (by omega), List.getElem?_eq_getElem (by omega), hb]⟩
        · omega
    · simp only [List.length_map] at h
      (refine goA ?_)
      refine Ret.mk [.tmp _] rfl ?_; refine And.intro ?_ rfl
      have : xs = ys := by
        rw [List.take_of_length_le (by omega), List.take_of_length_le (by omega)] at hf
        exact hf
      simp [this]
end Go.Proofs.Ytaplihoeephbeaa.V
