/- S5: a text of a symbolic executor that is proved sound, and contracts that are proved with it. -/
import Derived.Test.YtaplihoeephbeaaS4
set_option linter.unusedVariables false
set_option linter.unusedSimpArgs false
namespace Go.Proofs.Ytaplihoeephbeaa.V
open Go Go.Proofs
set_option maxRecDepth 100000
theorem clone130 (xs : List Int) (hl : xs.length * 8 ≤ 140737488351232) : Spec Try.prog 130 [ints xs] [] (fun d os' => d = ints xs ∧ os' = []) := by
  refine Spec.by Try.func130 rfl (by decide) (by decide +kernel) rfl ?_
  (refine goA ?_)
  refine And.intro (fun hn => ?_) (fun hn => And.intro ?_ ?_)
  · (refine goA ?_)
    refine App.own ?_
    (refine goA ?_)
    refine Ret.frz allF [(2, ints xs)] ⟨View.slAll rfl rfl (by simp [setAll]) (by simp) (ViewL.same _) (pureL_map (fun _ => rfl) _), trivial⟩ ?_
    refine Ret.trim 0 (by simp) rfl (Nat.le_of_ble_eq_true rfl) ?_
    refine Ret.mk [.tmp _] rfl ?_; refine And.intro ?_ rfl
    rfl
  · (refine goA ?_)
    refine Ret.frz allF [(2, ints xs)] ⟨by rw [ints, hn]; exact View.nils 1 false, trivial⟩ ?_
    refine Ret.trim 0 (by simp) rfl (Nat.le_of_ble_eq_true rfl) ?_
    refine Ret.mk [.tmp _] rfl ?_; refine And.intro ?_ rfl
    rfl
  · (refine goA ?_)
    refine App.own ?_
    (refine goA ?_)
    refine Ret.frz allF [(2, ints xs)] ⟨View.slAll rfl rfl (by simp [setAll]) (by simp) (ViewL.same _) (pureL_map (fun _ => rfl) _), trivial⟩ ?_
    refine Ret.trim 0 (by simp) rfl (Nat.le_of_ble_eq_true rfl) ?_
    refine Ret.mk [.tmp _] rfl ?_; refine And.intro ?_ rfl
    rfl
@[reducible] def rowF (l : List Fm) : Fam := one (.row 34 3 true (l.map frD))
theorem clone131 (xs : List Fm) (hl : xs.length * 40 ≤ 140737488351232) : Spec Try.prog 131 [frs xs] [] (fun d os' => (xs = [] ∧ d = .nils ∧ os' = []) ∨ (d = .sl 0 0 3 0 xs.length none ∧ os' = [rowF xs])) := by
  refine Spec.by Try.func131 rfl (by decide) (by decide +kernel) rfl ?_
  (refine goA ?_)
  refine And.intro (fun hn => ?_) (fun hn => And.intro ?_ ?_)
  · (refine goA ?_)
    refine App.own ?_
    (refine goA ?_)
    refine Ret.weak (Weak.shift 1 0 (by decide) (by simp) (Nat.le_of_ble_eq_true rfl) (Nat.le_of_ble_eq_true rfl) (fun j => by cases j <;> rfl) rfl) ?_
    refine Ret.trim 1 (by simp) rfl (Nat.le_of_ble_eq_true rfl) ?_
    refine Ret.mk [.tmp _] rfl (.inr (And.intro ?_ rfl))
    show D.sl 0 0 3 0 (0 + (xs.map frD).length) none = _
    simp
  · (refine goA ?_)
    refine Ret.mk [.tmp _] rfl (.inl ⟨?_, rfl, rfl⟩)
    simpa using hn
  · (refine goA ?_)
    refine App.own ?_
    (refine goA ?_)
    refine Ret.weak (Weak.shift 1 0 (by decide) (by simp) (Nat.le_of_ble_eq_true rfl) (Nat.le_of_ble_eq_true rfl) (fun j => by cases j <;> rfl) rfl) ?_
    refine Ret.trim 1 (by simp) rfl (Nat.le_of_ble_eq_true rfl) ?_
    refine Ret.mk [.tmp _] rfl (.inr (And.intro ?_ rfl))
    show D.sl 0 0 3 0 (0 + (xs.map frD).length) none = _
    simp
def Th.okB (t : Th) : Prop := t.fr.length * 40 ≤ 140737488351232 ∧ t.sk.length * 8 ≤ 140737488351232 ∧ ∀ f ∈ t.fr, f.ls.length * 8 ≤ 140737488351232
theorem clone61 (t : Th) (h : t.okB) : Spec Try.prog 61 [thD t] [] (fun d os' => d = thD t ∧ os' = []) := by
  refine Spec.frz (post' := fun d => d = thD t) ?_
  obtain ⟨h1, h2, h3⟩ := h
  refine Spec.by Try.func61 rfl (by decide) (by decide +kernel) rfl ?_
  (refine goA ?_)
  refine Call.mk ((clone130 t.sk h2).only _ rfl (by rintro d rfl; rfl)) ?_
  rintro d os' ⟨rfl, rfl⟩
  (refine goA ?_)
  refine Call.mk ((clone131 t.fr h1).onto _ rfl) ?_
  rintro d os' ⟨d1, os1, ⟨he, rfl, rfl⟩ | ⟨rfl, rfl⟩, rfl, rfl⟩
  · (refine goA ?_)
    refine Loop.inv (A := Unit) [] (fun i => [(16, .int .i64 0)]) (fun _ => _) (fun i => True) (fun i => 0) () trivial (Weak.start tld) ?_
    intro i _
    (refine goA ?_)
    refine Ret.mk [.cell 2 29] rfl ?_; (refine goA ?_)
    exact ⟨thD t, View.agg (.cons (.same _) (.cons (.same _) (.cons (by rw [he]; exact .nils _ _) (.same _)))), rfl, rfl⟩
  · (refine goA ?_)
    refine Loop.inv (A := Nat) [] (fun i => [(16, .int .i64 (i : Int))]) (fun _ => _) (fun i => i ≤ t.fr.length) (fun i => t.fr.length - i) 0 (Nat.zero_le _) (Weak.start tld) ?_
    intro i hi
    (refine goA ?_)
    refine Br.dec (fun h => ?_) (fun h => ?_)
    · (refine goA ?_)
      have hget : t.fr[0 + i]? = some t.fr[i] := by rw [Nat.zero_add]; exact List.getElem?_eq_getElem (by omega)
      refine Opt.of (get_map hget) ?_
      (refine goA ?_)
      refine Call.mk ((clone130 t.fr[i].ls (h3 _ (List.getElem_mem _))).only _ rfl (by rintro d rfl; rfl)) ?_
      rintro d os' ⟨rfl, rfl⟩
      (refine goA ?_)
      refine Opt.of (get_map hget) ?_
      (refine goA ?_)
      refine Loop.next (i + 1) ?_ ?_ (Weak.backT 3 (by simp) ?_ rfl (Nat.le_of_ble_eq_true rfl) tld rfl rfl)
      · omega
      · omega
      · exact congrArg (fun r => ([_, _, one (.row 34 3 true r)] : Objs)) (set_same hget)
    · (refine goA ?_)
      refine Ret.mk [.cell 2 29] rfl ?_; (refine goA ?_)
      exact ⟨thD t, View.agg (.cons (.same _) (.cons (.same _) (.cons (.slAll rfl rfl (by simp) (by simp) (.same _) (pureL_map (fun _ => rfl) _)) (.same _)))), rfl, rfl⟩
end Go.Proofs.Ytaplihoeephbeaa.V
