/- S15: a text of a symbolic executor that is proved sound, and contracts that are proved with it. -/
import Derived.Test.YtaplihoeephbeaaS14
import Derived.Test.YtaplihoeephbeaaS8
set_option linter.unusedVariables false
set_option linter.unusedSimpArgs false
namespace Go.Proofs.Ytaplihoeephbeaa.V
open Go Go.Proofs
set_option maxRecDepth 100000
set_option maxHeartbeats 4000000
def enterT (t : Th) (f : Fm) : Th × Bool := if t.fr.length = 8 then (t, false) else ({ t with fr := t.fr ++ [f] }, true)
theorem enter39 (g : Pg) (t : Th) (k : Nat) (u : Fu) (hu : g.fu[k]? = some u) (h0 : 0 ≤ u.loc ∧ u.loc ≤ 100) (hl : t.fr.length * 40 ≤ 70368744177664) : Spec Try.prog 39 [pgD g, thD t, .int .i64 k] [] (fun d os' => d = .tup [thD (enterT t ⟨k, 0, List.replicate u.loc.toNat 0⟩).1, .bool (enterT t ⟨k, 0, List.replicate u.loc.toNat 0⟩).2] ∧ os' = []) := by
  refine Spec.frz (post' := fun d => d = .tup [thD (enterT t ⟨k, 0, List.replicate u.loc.toNat 0⟩).1, .bool (enterT t ⟨k, 0, List.replicate u.loc.toNat 0⟩).2]) ?_
  refine Spec.by Try.func39 rfl (by decide) (by decide +kernel) rfl ?_
  (refine goA ?_)
  refine Br.dec (fun h => ?_) (fun h => ?_)
  · (refine goA ?_)
    refine Ret.mk [.cell 6 29, .tmp 7] rfl ?_; (refine goA ?_)
    have h' : t.fr.length = 8 := by simp at h; omega
    simp only [enterT, if_pos h']
    exact ⟨_, View.same _, rfl, rfl⟩
  · (refine goA ?_)
    refine Nm.mk (t.fr.map frD) (by rw [Int.toNat_natCast, List.take_length]; rfl) ?_
    (refine goA ?_)
    refine Call.mk ((frame118 g k u hu h0).only _ rfl (by rintro d rfl; rfl)) ?_
    rintro d os' ⟨rfl, rfl⟩
    (refine goA ?_)
    refine App.only false rfl rfl ?_
    (refine goA ?_)
    refine App.only false rfl rfl ?_
    (refine goA ?_)
    refine Ret.mk [.cell 6 29, .tmp 7] rfl ?_; (refine goA ?_)
    have h' : ¬ t.fr.length = 8 := by simp at h; omega
    simp only [enterT, if_neg h']
    refine ⟨.tup [thD { t with fr := t.fr ++ [⟨k, 0, List.replicate u.loc.toNat 0⟩] }, .bool true], View.tup (.cons (.agg (.cons (.same _) (.cons (.same _) (.cons ?_ (.same _))))) (.same _)), rfl, rfl⟩
    show View _ _ _ (D.lst 3 false ((t.fr ++ [_]).map frD))
    rw [List.map_append]
    exact .same _
theorem end34 (c : Int) : Spec Try.prog 34 [.int .i64 c] [] (fun d os' => d = thD ⟨9, 0, [], [], c⟩ ∧ os' = []) := by
  refine Spec.frz (post' := fun d => d = thD ⟨9, 0, [], [], c⟩) ?_
  refine Spec.by Try.func34 rfl (by decide) (by decide +kernel) rfl ?_
  (refine goA ?_)
  refine Ret.mk [.cell 2 29] rfl ?_; (refine goA ?_)
  exact ⟨thD ⟨9, 0, [], [], c⟩, View.agg (.cons (.same _) (.cons (.same _) (.cons (.nils _ _) (.cons (.nils _ _) (.same _))))), rfl, rfl⟩
end Go.Proofs.Ytaplihoeephbeaa.V
