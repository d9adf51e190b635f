/- S4: a text of a symbolic executor that is proved sound, and contracts that are proved with it. -/
import Derived.Test.YtaplihoeephbeaaS3
set_option linter.unusedVariables false
set_option linter.unusedSimpArgs false
namespace Go.Proofs.Ytaplihoeephbeaa.V
open Go Go.Proofs
set_option maxRecDepth 100000
structure Th.ok (t : Th) : Prop where
  fl : t.fr.length ≤ 9223372036854775806
  sl : t.sk.length ≤ 9223372036854775806
  fo : ∀ f ∈ t.fr, f.ok
theorem th_eq (f g : Th) : f = g ↔ f.st = g.st ∧ f.on = g.on ∧ f.fr = g.fr ∧ f.sk = g.sk ∧ f.code = g.code := by cases f; cases g; simp
theorem same60 (t u : Th) (hf : t.ok) : Spec Try.prog 60 [thD t, thD u] [] (fun d os' => d = .bool (decide (t = u)) ∧ os' = []) := by
  obtain ⟨h1, h2, h3⟩ := hf
  refine Spec.by Try.func60 rfl (by decide) (by decide +kernel) rfl ?_
  (refine goA ?_)
  refine Call.mk ((eqf127 t.fr u.fr h1 h3).read (ViewL.same _) rfl (by rintro d rfl; exact ⟨rfl, rfl⟩)) ?_
  rintro d os' ⟨rfl, rfl⟩
  (refine goA ?_)
  refine Br.dec (fun b1 => ?_) (fun b1 => ?_)
  · (refine goA ?_)
    refine Br.dec (fun b2 => ?_) (fun b2 => ?_)
    · (refine goA ?_)
      refine Br.dec (fun b3 => ?_) (fun b3 => ?_)
      · (refine goA ?_)
        refine Call.mk ((same129 t.sk u.sk h2).read (ViewL.same _) rfl (by rintro d rfl; exact ⟨rfl, rfl⟩)) ?_
        rintro d os' ⟨rfl, rfl⟩
        (refine goA ?_)
        refine Br.dec (fun b4 => ?_) (fun b4 => ?_)
        · (refine goA ?_)
          refine Ret.trim 0 (by simp) rfl (Nat.le_of_ble_eq_true rfl) ?_
          refine Ret.mk [.tmp _] rfl ?_; refine And.intro ?_ rfl
          simp [th_eq, b1, b2, b3, b4]
        · (refine goA ?_)
          refine Ret.trim 0 (by simp) rfl (Nat.le_of_ble_eq_true rfl) ?_
          refine Ret.mk [.tmp _] rfl ?_; refine And.intro ?_ rfl
          simp [th_eq, b1, b2, b3, b4]
      · (refine goA ?_)
        refine Ret.trim 0 (by simp) rfl (Nat.le_of_ble_eq_true rfl) ?_
        refine Ret.mk [.tmp _] rfl ?_; refine And.intro ?_ rfl
        simp [th_eq, b1, b2, b3]
    · (refine goA ?_)
      refine Ret.trim 0 (by simp) rfl (Nat.le_of_ble_eq_true rfl) ?_
      refine Ret.mk [.tmp _] rfl ?_; refine And.intro ?_ rfl
      simp [th_eq, b1, b2]
  · (refine goA ?_)
    refine Ret.trim 0 (by simp) rfl (Nat.le_of_ble_eq_true rfl) ?_
    refine Ret.mk [.tmp _] rfl ?_; refine And.intro ?_ rfl
    simp [th_eq, b1]
theorem same53 (t u : Th) (hf : t.ok) : Spec Try.prog 53 [thD t, thD u] [] (fun d os' => d = .bool (decide (t = u)) ∧ os' = []) := by
  obtain ⟨h1, h2, h3⟩ := hf
  refine Spec.by Try.func53 rfl (by decide) (by decide +kernel) rfl ?_
  (refine goA ?_)
  refine Br.cs (fun b1_ => ?_) (fun b1_ => ?_) <;> have b1 := b1_ <;> simp at b1
  · (refine goA ?_)
    refine Ret.trim 0 (by simp) rfl (Nat.le_of_ble_eq_true rfl) ?_
    refine Ret.mk [.tmp _] rfl ?_; refine And.intro ?_ rfl
    simp [th_eq, b1]
  (refine goA ?_)
  refine Br.cs (fun b2_ => ?_) (fun b2_ => ?_) <;> have b2 := b2_ <;> simp at b2
  · (refine goA ?_)
    refine Ret.trim 0 (by simp) rfl (Nat.le_of_ble_eq_true rfl) ?_
    refine Ret.mk [.tmp _] rfl ?_; refine And.intro ?_ rfl
    simp [th_eq, b2]
  (refine goA ?_)
  refine Br.cs (fun b3_ => ?_) (fun b3_ => ?_) <;> have b3 := b3_ <;> simp at b3
  · (refine goA ?_)
    refine Ret.trim 0 (by simp) rfl (Nat.le_of_ble_eq_true rfl) ?_
    refine Ret.mk [.tmp _] rfl ?_; refine And.intro ?_ rfl
    simp [th_eq, b3]
  (refine goA ?_)
  refine Br.cs (fun b4_ => ?_) (fun b4_ => ?_) <;> have b4 := b4_ <;> simp at b4
  · (refine goA ?_)
    refine Ret.trim 0 (by simp) rfl (Nat.le_of_ble_eq_true rfl) ?_
    refine Ret.mk [.tmp _] rfl ?_; refine And.intro ?_ rfl
    have : ¬ t = u := fun e => by subst e; exact b4 rfl
    simp [this]
  (refine goA ?_)
  refine Call.mk ((same50 t.sk u.sk h2).read (ViewL.same _) rfl (by rintro d rfl; exact ⟨rfl, rfl⟩)) ?_
  rintro d os' ⟨rfl, rfl⟩
  (refine goA ?_)
  refine Br.cs (fun b5_ => ?_) (fun b5_ => ?_) <;> have b5 := b5_ <;> simp at b5
  · (refine goA ?_)
    refine Ret.trim 0 (by simp) rfl (Nat.le_of_ble_eq_true rfl) ?_
    refine Ret.mk [.tmp _] rfl ?_; refine And.intro ?_ rfl
    simp [th_eq, b5]
  (refine goA ?_)
  have hlen : t.fr.length = u.fr.length := by omega
  refine Loop.inv (A := Nat) [] (fun i => [(5, .int .i64 (i : Int))]) (fun _ => [one (.row 29 5 false [thD t]), one (.row 29 5 false [thD u])]) (fun i => i ≤ t.fr.length ∧ t.fr.take i = u.fr.take i) (fun i => t.fr.length - i) 0 ⟨Nat.zero_le _, by simp⟩ (Weak.start tld) ?_
  intro i ⟨hi, hf⟩
  (refine goA ?_)
  refine Br.dec (fun h => ?_) (fun h => ?_)
  · simp only [List.length_map] at h
    (refine goA ?_)
    refine Opt.of (get_map (List.getElem?_eq_getElem (l := t.fr) (i := i) (by omega))) ?_
    (refine goA ?_)
    refine Opt.of (get_map (List.getElem?_eq_getElem (l := u.fr) (i := i) (by omega))) ?_
    (refine goA ?_)
    refine Br.cs (fun c1_ => ?_) (fun c1_ => ?_) <;> have c1 := c1_ <;> simp at c1
    · (refine goA ?_)
      refine Ret.trim 0 (by simp) rfl (Nat.le_of_ble_eq_true rfl) ?_
      refine Ret.mk [.tmp _] rfl ?_; refine And.intro ?_ rfl
      have : ¬ t = u := fun e => by subst e; exact c1 rfl
      simp [this]
    (refine goA ?_)
    refine Br.cs (fun c2_ => ?_) (fun c2_ => ?_) <;> have c2 := c2_ <;> simp at c2
    · (refine goA ?_)
      refine Ret.trim 0 (by simp) rfl (Nat.le_of_ble_eq_true rfl) ?_
      refine Ret.mk [.tmp _] rfl ?_; refine And.intro ?_ rfl
      have : ¬ t = u := fun e => by subst e; exact c2 rfl
      simp [this]
    (refine goA ?_)
    refine Call.mk ((same50 t.fr[i].ls u.fr[i].ls (h3 _ (List.getElem_mem _))).read (ViewL.same _) rfl (by rintro d rfl; exact ⟨rfl, rfl⟩)) ?_
    rintro d os' ⟨rfl, rfl⟩
    (refine goA ?_)
    refine Br.cs (fun c3_ => ?_) (fun c3_ => ?_) <;> have c3 := c3_ <;> simp at c3
    · (refine goA ?_)
      refine Ret.trim 0 (by simp) rfl (Nat.le_of_ble_eq_true rfl) ?_
      refine Ret.mk [.tmp _] rfl ?_; refine And.intro ?_ rfl
      have : ¬ t = u := fun e => by subst e; exact c3 rfl
      simp [this]
    (refine goA ?_)
    refine Loop.next (i + 1) ?_ ?_ (Weak.backT 2 (by simp) rfl rfl (Nat.le_of_ble_eq_true rfl) tld rfl rfl)
    · have he : t.fr[i] = u.fr[i] := by rw [fm_eq]; exact ⟨c1, c2, c3⟩
      exact ⟨by omega, by rw [List.take_add_one, List.take_add_one, hf, List.getElem?_eq_getElem (by omega), List.getElem?_eq_getElem (by omega), he]⟩
    · omega
  · simp only [List.length_map] at h
    (refine goA ?_)
    refine Ret.trim 0 (by simp) rfl (Nat.le_of_ble_eq_true rfl) ?_
    refine Ret.mk [.tmp _] rfl ?_; refine And.intro ?_ rfl
    have : t.fr = u.fr := by
      rw [List.take_of_length_le (by omega), List.take_of_length_le (by omega)] at hf
      exact hf
    simp [th_eq, this, b1, b2, b3, b5]
end Go.Proofs.Ytaplihoeephbeaa.V
