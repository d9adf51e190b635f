/- S6: a text of a symbolic executor that is proved sound, and contracts that are proved with it. -/
import Derived.Test.YtaplihoeephbeaaS5
import Derived.Test.YtaplihoeephbeaaVC
set_option linter.unusedVariables false
set_option linter.unusedSimpArgs false
namespace Go.Proofs.Ytaplihoeephbeaa.V
open Go Go.Proofs
set_option maxRecDepth 100000
set_option maxHeartbeats 4000000
@[reducible] def rowI (l : List Int) : Fam := one (.row 3 1 true (l.map (D.int .i64)))
@[reducible] def z29 : D := .agg [.int .i64 0, .int .i64 0, .nils, .nils, .int .i64 0]
theorem clone59 (t : Th) (h : t.okB) : Spec Try.prog 59 [thD t] [] (fun d os' => d = .agg [.int .i64 t.st, .int .i64 t.on, frs t.fr, .sl 0 0 1 0 t.sk.length none, .int .i64 t.code] ∧ os' = [rowI t.sk]) := by
  obtain ⟨h1, h2, h3⟩ := h
  refine Spec.weak (post := fun d os' => d = .agg [.int .i64 t.st, .int .i64 t.on, .sl 2 0 3 0 t.fr.length none, .sl 4 0 1 0 t.sk.length none, .int .i64 t.code] ∧ ∃ a b : Fam, os' = [a, b, rowF t.fr, one .gone, rowI t.sk]) ?_ ?_
  · refine Spec.by Try.func59 rfl (by decide) (by decide +kernel) rfl ?_
    (refine goA ?_)
    refine Loop.inv (A := Nat) [] (fun i => [(4, .int .i64 (i : Int)), (3, .sl 2 0 3 0 i none)]) (fun i => [one (.row 29 5 false [thD t]), one (.row 29 5 false [z29]), rowF (t.fr.take i)]) (fun i => i ≤ t.fr.length) (fun i => t.fr.length - i) 0 (Nat.zero_le _) ?_ ?_
    · refine Weak.trans (Weak.nilrow 3 rfl 34 3 true) ?_
      exact Weak.start' rfl rfl ⟨rfl, rfl, trivial⟩
    intro i hi
    (refine goA ?_)
    refine Br.dec (fun h => ?_) (fun h => ?_)
    · simp only [List.length_map] at h
      have hget : t.fr[i]? = some t.fr[i] := List.getElem?_eq_getElem (by omega)
      have hls := h3 _ (List.getElem_mem (l := t.fr) (n := i) (by omega))
      (refine goR ?_)
      ((with_reducible refine Pt.go ?_); conv => whnf)
      (refine goR ?_)
      refine Opt.of (get_map hget) ?_
      (refine goR ?_)
      ((with_reducible refine Pt.go ?_); conv => whnf)
      (refine goR ?_)
      refine Pt.weak (Weak.nilrow 6 rfl 3 1 true) ?_
      ((with_reducible refine Pt.go ?_); conv => whnf)
      (refine goR ?_)
      refine Pt.weak (Weak.frzO (fun i => Nat.beq i 5) [] 3 (ty := 34) (sz := 3) (es := [.agg [.int .i64 t.fr[i].fn, .int .i64 t.fr[i].pc, .sl 5 0 1 0 (0 + (t.fr[i].ls.map (D.int .i64)).length) none]]) rfl rfl [frD t.fr[i]] rfl ?_ trivial) ?_
      · refine .cons (.agg (.cons (.same _) (.cons (.same _) (.cons (View.slAll rfl rfl ?_ ?_ (ViewL.same _) (pureL_map (fun _ => rfl) _)) .nil)))) .nil
        · simp
        · simp
      ((with_reducible refine Pt.go ?_); conv => whnf)
      (refine goR ?_)
      refine App.only false rfl rfl ?_
      (refine goR ?_)
      ((with_reducible refine Pt.go ?_); conv => whnf)
      (refine goR ?_)
      refine Loop.next (i + 1) ?_ ?_ (Weak.trans (Weak.shift 6 2 (by decide) (by simp) (Nat.le_of_ble_eq_true rfl) (Nat.le_of_ble_eq_true rfl) (fun j => by cases j <;> rfl) rfl) (Weak.backT 3 (by simp) ?_ rfl (Nat.le_of_ble_eq_true rfl) ?_ rfl rfl))
      · omega
      · omega
      · have e : (t.fr.take i).map frD ++ [frD t.fr[i]] = (t.fr.take (i + 1)).map frD := by
          rw [List.take_add_one, hget, List.map_append]; rfl
        exact congrArg (fun r => ([one (.row 29 5 false [thD t]), one (.row 29 5 false [z29]), one (.row 34 3 true r)] : Objs)) e
      · exact ⟨rfl, rfl, trivial⟩
    · simp only [List.length_map] at h
      (refine goR ?_)
      ((with_reducible refine Pt.go ?_); conv => whnf)
      (refine goR ?_)
      ((with_reducible refine Pt.go ?_); conv => whnf)
      (refine goR ?_)
      refine Pt.weak (Weak.nilrow 7 rfl 3 1 true) ?_
      (refine goA ?_)
      refine Ret.mk [.cell 2 29] rfl ?_; (refine goA ?_)
      obtain rfl : i = t.fr.length := by omega
      have e : (t.fr.take t.fr.length).map frD = t.fr.map frD := by rw [List.take_length]
      refine ⟨?_, _, _, congrArg (fun r => ([_, _, one (.row 34 3 true r), one .gone, rowI t.sk] : Objs)) e⟩
      show D.agg [.int .i64 t.st, .int .i64 t.on, .sl 2 0 3 0 t.fr.length none, .sl 4 0 1 0 (0 + (t.sk.map (D.int .i64)).length) none, .int .i64 t.code] = _
      simp
  · rintro d os' ⟨rfl, a, b, rfl⟩
    refine ⟨_, _, Weak.trans (Weak.frzK (fun i => Nat.blt i 4) [(0, .agg [.int .i64 t.st, .int .i64 t.on, frs t.fr, .sl 4 0 1 0 t.sk.length none, .int .i64 t.code])] ⟨View.agg (.cons (.same _) (.cons (.same _) (.cons (.slAll rfl rfl (by simp) (by simp) (.same _) (pureL_map (fun _ => rfl) _)) (.same _)))), trivial⟩) (Weak.trans (Weak.shift 4 0 (by decide) (by simp) (by simp [dropF]) (by simp [dropF]) (fun j => by cases j <;> rfl) rfl) (Weak.trim 1 (by simp) rfl (by simp [dropF]))), rfl, rfl⟩
end Go.Proofs.Ytaplihoeephbeaa.V
