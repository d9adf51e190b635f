/- S30: a text of a symbolic executor that is proved sound, and contracts that are proved with it. -/
import Derived.Test.YtaplihoeephbeaaS28
namespace Go.Proofs.Ytaplihoeephbeaa.V
open Go Go.Proofs
set_option maxRecDepth 100000
set_option maxHeartbeats 40000000
theorem under_t (c : Int) : underE (-1) true c = -1 := rfl
theorem under_f (c : Int) : underE (-1) false c = c := rfl
theorem popM_tt {t : Th} (h : 0 < t.sk.length) : (popM t).2.2 = true ∧ (popM t).1.sk.length + 1 = t.sk.length := by
  have hk : t.sk ≠ [] := fun e => by rw [e] at h; simp at h
  have hln : t.sk = t.sk.dropLast ++ [t.sk.getLast hk] := (List.dropLast_concat_getLast hk).symm
  rw [popM_snoc hln]
  refine ⟨rfl, ?_⟩
  show t.sk.dropLast.length + 1 = _
  simp; omega
theorem popM_ff {t : Th} (h : t.sk.length = 0) : (popM t).2.2 = false := by rw [popM_nil (List.eq_nil_of_length_eq_zero h)]
@[reducible] def end2 : Th × Rq := (endT 2, ⟨1, 0, 2⟩)
@[reducible] def pushX (t : Th) (v : Int) : Th × Rq := (if (pushT t v).2 then (pushT t v).1 else endT 2, if (pushT t v).2 then nq else ⟨1, 0, 2⟩)
theorem pushL1 (t : Th) (v : Int) : stepX (mk3 (pushL t (-1) [v])) = pushX t v := by
  unfold stepX pushX
  simp only [pushL]
  rcases Bool.eq_false_or_eq_true (pushT t v).2 with h | h <;> simp [h, underE]
variable (g : Pg) (s : List Fm) (f : Fm) (t : Th) (a : Int)
theorem ex0 : stepX (execM g s f t 0 a) = pushX t a := pushL1 t a
theorem ex1 (h : 0 < t.sk.length) : stepX (execM g s f t 1 a) = ((popM t).1, nq) := by
  show stepX (mk3 (popE t (-1))) = _
  simp only [stepX, popE, (popM_tt h).1, under_t]
  rfl
theorem ex2 (h : 0 < t.sk.length) (h16 : t.sk.length ≤ 16) : stepX (execM g s f t 2 a) = pushX (pushT (popM t).1 (popM t).2.1).1 (popM t).2.1 := by
  show stepX (mk3 (pushL (popE t (-1)).1 (popE t (-1)).2 [(popM t).2.1, (popM t).2.1])) = _
  obtain ⟨h1, h2⟩ := popM_tt h
  have hp : (pushT (popM t).1 (popM t).2.1).2 = true := by unfold pushT; rw [if_neg (by omega)]
  have e : pushL (popE t (-1)).1 (popE t (-1)).2 [(popM t).2.1, (popM t).2.1] = pushL (pushT (popM t).1 (popM t).2.1).1 (-1) [(popM t).2.1] := by
    simp only [pushL, popE, h1, under_t, hp]
  rw [e]
  exact pushL1 _ _
theorem pop2_tt (h : 1 < t.sk.length) : (pop2 t).2.1 = -1 := by
  obtain ⟨h1, h2⟩ := popM_tt (t := t) (by omega)
  obtain ⟨h3, h4⟩ := popM_tt (t := (popM t).1) (by omega)
  simp only [pop2, h1, h3, under_t]
theorem ex3 (h : 1 < t.sk.length) : stepX (execM g s f t 3 a) = pushX (popM (popM t).1).1 ((popM (popM t).1).2.1 + (popM t).2.1) := by
  show stepX (mk3 (pushL (pop2 t).1 (pop2 t).2.1 [(pop2 t).2.2.1 + (pop2 t).2.2.2])) = _
  rw [pop2_tt t h]
  exact pushL1 _ _
theorem ex4 (h : 1 < t.sk.length) : stepX (execM g s f t 4 a) = pushX (popM (popM t).1).1 ((popM (popM t).1).2.1 - (popM t).2.1) := by
  show stepX (mk3 (pushL (pop2 t).1 (pop2 t).2.1 [(pop2 t).2.2.1 - (pop2 t).2.2.2])) = _
  rw [pop2_tt t h]
  exact pushL1 _ _
theorem ex5 {v : Int} (hv : f.ls[a.toNat]? = some v) : stepX (execM g s f t 5 a) = pushX t v := by
  show stepX (mk3 (pushL t (-1) [f.ls.getD a.toNat 0])) = _
  rw [List.getD_eq_getElem?_getD, hv]
  exact pushL1 _ _
theorem ex6 (h : 0 < t.sk.length) : stepX (execM g s f t 6 a) = ({ (popM t).1 with fr := s ++ [⟨f.fn, f.pc, f.ls.set a.toNat (keep (popM t).2.1)⟩] }, nq) := by
  show stepX (mk3 (_, underE (-1) (popM t).2.2 1)) = _
  simp only [stepX, (popM_tt h).1, under_t]
  rfl
theorem ex7 : stepX (execM g s f t 7 a) = ({ t with fr := s ++ [⟨f.fn, a, f.ls⟩] }, nq) := rfl
theorem ex8 (h : 0 < t.sk.length) : stepX (execM g s f t 8 a) = (if (popM t).2.1 = 0 then { (popM t).1 with fr := s ++ [⟨f.fn, a, f.ls⟩] } else (popM t).1, nq) := by
  show stepX (mk3 (_, underE (-1) (popM t).2.2 1)) = _
  simp only [stepX, (popM_tt h).1, under_t]
  rfl
theorem ex9 {u : Fu} (hu : g.fu[a.toNat]? = some u) : stepX (execM g s f t 9 a) = (if (enterT t ⟨a, 0, List.replicate u.loc.toNat 0⟩).2 then (enterT t ⟨a, 0, List.replicate u.loc.toNat 0⟩).1 else endT 3, if (enterT t ⟨a, 0, List.replicate u.loc.toNat 0⟩).2 then nq else ⟨1, 0, 3⟩) := by
  show stepX (mk3 ((enterT t ⟨a, 0, List.replicate ((g.fu[a.toNat]?.map Fu.loc).getD 0).toNat 0⟩).1, if (enterT t ⟨a, 0, List.replicate ((g.fu[a.toNat]?.map Fu.loc).getD 0).toNat 0⟩).2 then -1 else 3)) = _
  rw [hu]
  simp only [Option.map_some, Option.getD_some, stepX]
  rcases Bool.eq_false_or_eq_true (enterT t ⟨a, 0, List.replicate u.loc.toNat 0⟩).2 with h | h <;> simp [h]
theorem ex10 : stepX (execM g s f t 10 a) = (if s = [] then endT 0 else { t with fr := s }, if s = [] then ⟨1, 0, 0⟩ else nq) := by
  show stepX (mk3 ({ t with fr := s }, if s = [] then 0 else -1)) = _
  by_cases h : s = []
  · simp only [if_pos h]; rfl
  · simp only [if_neg h]; rfl
theorem ex26 : stepX (execM g s f t 26 a) = (endT 0, ⟨1, 0, 0⟩) := rfl
theorem exR {k : Int} {op : Int} (h : execM g s f t op a = (t, -1, ⟨k, a, 0⟩)) : stepX (execM g s f t op a) = (t, ⟨k, a, 0⟩) := by rw [h]; rfl
theorem exQ {k : Int} {op : Int} (h0 : 0 < t.sk.length) (h : execM g s f t op a = ((popE t (-1)).1, (popE t (-1)).2, ⟨k, a, (popM t).2.1⟩)) : stepX (execM g s f t op a) = ((popM t).1, ⟨k, a, (popM t).2.1⟩) := by
  rw [h]
  simp only [stepX, popE, (popM_tt h0).1, under_t]
  rfl
/-- Too few numbers. -/
theorem ex_under {op : Int} (h : (t.sk.length : Int) < needsI op) : stepX (execM g s f t op a) = (endT 1, ⟨1, 0, 1⟩) := by
  have fin : ∀ (x : Th) (q : Rq), stepX (x, 1, q) = (endT 1, ⟨1, 0, 1⟩) := fun x q => rfl
  have push1 : ∀ (l : List Int) (x : Th), (pushL x 1 l).2 = 1 := by
    intro l
    induction l with
    | nil => intro x; rfl
    | cons v l ih => intro x; simp only [pushL]; rw [show underE 1 (pushT x v).2 2 = 1 by simp [underE]]; exact ih _
  have h1 : ∀ {P : Prop}, (t.sk.length : Int) < 1 → ((popM t).2.2 = false → P) → P := fun hl k => k (popM_ff (by omega))
  unfold needsI at h
  split at h
  · rename_i hc
    have hb := popM_ff (t := t) (by omega)
    rcases hc with rfl | rfl | rfl | rfl | rfl | rfl | rfl | rfl
    · show stepX (mk3 (popE t (-1))) = _
      simp only [mk3, popE, hb, under_f]; exact fin _ _
    · show stepX (mk3 (pushL (popE t (-1)).1 (popE t (-1)).2 _)) = _
      simp only [mk3, popE, hb, under_f, push1]; exact fin _ _
    · show stepX (mk3 (_, underE (-1) (popM t).2.2 1)) = _
      simp only [mk3, hb, under_f]; exact fin _ _
    · show stepX (mk3 (_, underE (-1) (popM t).2.2 1)) = _
      simp only [mk3, hb, under_f]; exact fin _ _
    · show stepX ((popE t (-1)).1, (popE t (-1)).2, _) = _
      simp only [popE, hb, under_f]; exact fin _ _
    · show stepX ((popE t (-1)).1, (popE t (-1)).2, _) = _
      simp only [popE, hb, under_f]; exact fin _ _
    · show stepX ((popE t (-1)).1, (popE t (-1)).2, _) = _
      simp only [popE, hb, under_f]; exact fin _ _
    · show stepX ((popE t (-1)).1, (popE t (-1)).2, _) = _
      simp only [popE, hb, under_f]; exact fin _ _
  · split at h
    · rename_i hc
      have hp : (pop2 t).2.1 = 1 := by
        unfold pop2
        dsimp only
        by_cases h0 : t.sk.length = 0
        · rw [popM_ff h0, under_f]; simp [underE]
        · obtain ⟨g1, g2⟩ := popM_tt (t := t) (by omega)
          rw [g1, under_t, popM_ff (t := (popM t).1) (by omega), under_f]
      rcases hc with rfl | rfl
      · show stepX (mk3 (pushL (pop2 t).1 (pop2 t).2.1 _)) = _
        simp only [mk3, hp, push1]; exact fin _ _
      · show stepX (mk3 (pushL (pop2 t).1 (pop2 t).2.1 _)) = _
        simp only [mk3, hp, push1]; exact fin _ _
    · omega
end Go.Proofs.Ytaplihoeephbeaa.V
