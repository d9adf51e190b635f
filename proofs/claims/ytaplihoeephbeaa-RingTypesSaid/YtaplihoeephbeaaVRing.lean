/- VRing: a text of a symbolic executor that is proved sound, and contracts that are proved with it. -/
import Derived.Test.YtaplihoeephbeaaVC
import Derived.Test.YtaplihoeephbeaaS17
set_option linter.unusedVariables false
set_option linter.unusedSimpArgs false
namespace Go.Proofs.Ytaplihoeephbeaa.V
open Go Go.Proofs
set_option maxRecDepth 100000
/-- A ring, whose things lie in the family r. -/
@[reducible] def rgC (room at_ n : Int) (m r : Nat) : Fam := one (.row 176 4 false [.agg [.int .i64 room, .int .i64 at_, .sl r 0 1 0 m none, .int .i64 n]])
theorem put_one {os : Objs} {k : Nat} {o0 : O} (h : os[k]? = some (one o0)) (o : O) : os.put k 0 o = os.set k (one o) := by
  unfold Objs.put
  rw [List.getD_eq_getElem?_getD, h]
  rfl
theorem at_one {os : Objs} {k : Nat} {o0 : O} (h : os[k]? = some (one o0)) : os.at k 0 = o0 := by
  unfold Objs.at
  rw [List.getD_eq_getElem?_getD, h]
  rfl
theorem list_set_same {α : Type} {l : List α} {k : Nat} {x : α} (h : l[k]? = some x) : l.set k x = l := by
  apply List.ext_getElem?
  intro i
  by_cases hi : k = i
  · subst hi
    rw [List.getElem?_set_self (List.getElem?_eq_some_iff.1 h).1, h]
  · rw [List.getElem?_set_ne hi]
theorem rg_frame {f : FuncId} {args : List D} {room a n : Int} {L : List Int} {post : D → Objs → Prop} (h : Spec Try.prog f (.ptr 0 0 4 0 0 :: args) [rgC room a n L.length 1, rowI L] post)
    (k r : Nat) (os : Objs) (hk : os[k]? = some (rgC room a n L.length r)) (hr : os[r]? = some (rowI L)) (hkr : k ≠ r) (hargs : D.pureL args = true) :
    Spec Try.prog f (.ptr k 0 4 0 0 :: args) os (fun d os' => ∃ d1 os1, post d1 os1 ∧ d = d1.mapId (lead [(k, 0), (r, 0)] os.length) ∧ os' = merge [(k, 0), (r, 0)] os os1) := by
  have hpl : D.pureL (L.map (D.int .i64)) = true := pureL_map (fun _ => rfl) _
  have := h.frame os [(k, 0), (r, 0)] rfl (by simp [hkr]) (fun i p hp => by
    match i, hp with
    | 0, hp =>
      simp at hp; subst hp
      refine ⟨(List.getElem?_eq_some_iff.1 hk).1, ?_, rfl, fun j hj => one_pos _ hj⟩
      rw [at_one hk]
      rfl
    | 1, hp =>
      simp at hp; subst hp
      refine ⟨(List.getElem?_eq_some_iff.1 hr).1, ?_, ?_, fun j hj => one_pos _ hj⟩
      · rw [at_one hr]
        show _ = O.mapId _ (.row 3 1 true (L.map (D.int .i64)))
        simp only [O.mapId]
      · show O.sgl _ (.row 3 1 true (L.map (D.int .i64))) = true
        simp [O.sgl]
    | i + 2, hp => simp at hp) (by simp [D.sglL, D.sgl, sglL_pure _ _ hargs])
  have e : D.mapIdL (lead [(k, 0), (r, 0)] os.length) (.ptr 0 0 4 0 0 :: args) = .ptr k 0 4 0 0 :: args := by
    simp only [D.mapIdL, D.mapId, lead, mapIdL_pure _ _ hargs]
    rfl
  rw [e] at this
  exact this
theorem lead0 (k r n j : Nat) : lead [(k, 0), (r, 0)] n 1 j = (r, 0) := rfl
/-- A ring is only looked at. -/
theorem Spec.rgR {f : FuncId} {args : List D} {room a n : Int} {L : List Int} {post : D → Prop} (h : Spec Try.prog f (.ptr 0 0 4 0 0 :: args) [rgC room a n L.length 1, rowI L] (fun d os' => post d ∧ os' = [rgC room a n L.length 1, rowI L]))
    (k r : Nat) (os : Objs) (hk : os[k]? = some (rgC room a n L.length r)) (hr : os[r]? = some (rowI L)) (hkr : k ≠ r) (hargs : D.pureL args = true) (hp : ∀ d, post d → d.pure = true) :
    Spec Try.prog f (.ptr k 0 4 0 0 :: args) os (fun d os' => post d ∧ os' = os) := by
  refine (rg_frame h k r os hk hr hkr hargs).mono ?_
  rintro d os' ⟨d1, os1, ⟨hpd, rfl⟩, rfl, rfl⟩
  refine ⟨by rw [mapId_pure _ _ (hp _ hpd)]; exact hpd, ?_⟩
  have e1 : os.put k 0 (.row 176 4 false [.agg [.int .i64 room, .int .i64 a, .sl r 0 1 0 L.length none, .int .i64 n]]) = os := by rw [put_one hk]; exact list_set_same hk
  have e2 : os.put r 0 (.row 3 1 true (L.map (D.int .i64))) = os := by rw [put_one hr]; exact list_set_same hr
  simp only [merge, putAll, List.drop_one, List.length_cons, List.length_nil, List.drop_succ_cons, List.drop_zero, List.map_nil, List.append_nil, List.tail_cons]
  show (os.put k 0 (.row 176 4 false [.agg [.int .i64 room, .int .i64 a, .sl r 0 1 0 L.length none, .int .i64 n]])).put r 0 (.row 3 1 true (L.map (D.int .i64))) = os
  rw [e1, e2]
/-- A ring is changed: its things lie where they lay, or in a row of its own behind all that there is. -/
theorem Spec.rgW {f : FuncId} {args : List D} {room a n : Int} {L : List Int} {post : D → Int → Int → List Int → Prop}
    (h : Spec Try.prog f (.ptr 0 0 4 0 0 :: args) [rgC room a n L.length 1, rowI L] (fun d os' => ∃ a' n' L' g, post d a' n' L' ∧ os' = bif g then [rgC room a' n' L'.length 2, one .gone, rowI L'] else [rgC room a' n' L'.length 1, rowI L']))
    (k r : Nat) (os : Objs) (hk : os[k]? = some (rgC room a n L.length r)) (hr : os[r]? = some (rowI L)) (hkr : k ≠ r) (hargs : D.pureL args = true) (hp : ∀ d a' n' L', post d a' n' L' → d.pure = true) :
    Spec Try.prog f (.ptr k 0 4 0 0 :: args) os (fun d os' => ∃ a' n' L' g, post d a' n' L' ∧ os' = bif g then (os.set k (rgC room a' n' L'.length os.length)).set r (one .gone) ++ [rowI L'] else (os.set k (rgC room a' n' L'.length r)).set r (rowI L')) := by
  refine (rg_frame h k r os hk hr hkr hargs).mono ?_
  rintro d os' ⟨d1, os1, ⟨a', n', L', g, hpd, rfl⟩, rfl, rfl⟩
  refine ⟨a', n', L', g, by rw [mapId_pure _ _ (hp _ _ _ _ hpd)]; exact hpd, ?_⟩
  have hr' : ∀ F, (os.set k F)[r]? = some (rowI L) := fun F => by rw [List.getElem?_set_ne hkr]; exact hr
  cases g with
  | false =>
    simp only [merge, putAll, List.drop_one, List.length_cons, List.length_nil, List.drop_succ_cons, List.drop_zero, List.map_nil, List.append_nil, List.tail_cons, cond_false]
    show (os.put k 0 (.row 176 4 false [.agg [.int .i64 room, .int .i64 a', .sl r 0 1 0 L'.length none, .int .i64 n']])).put r 0 (.row 3 1 true (L'.map (D.int .i64))) = _
    rw [put_one hk, put_one (hr' _)]
  | true =>
    simp only [merge, putAll, List.length_cons, List.length_nil, cond_true]
    show (os.put k 0 (.row 176 4 false [.agg [.int .i64 room, .int .i64 a', .sl (os.length + 0) 0 1 0 L'.length none, .int .i64 n']])).put r 0 .gone ++ [rowI L'] = _
    rw [put_one hk, put_one (hr' _)]
    rfl
/-- A ring is changed where it lies. -/
theorem Spec.rgP {f : FuncId} {args : List D} {room a n : Int} {L : List Int} {post : D → Int → Int → List Int → Prop}
    (h : Spec Try.prog f (.ptr 0 0 4 0 0 :: args) [rgC room a n L.length 1, rowI L] (fun d os' => ∃ a' n' L', post d a' n' L' ∧ os' = [rgC room a' n' L'.length 1, rowI L']))
    (k r : Nat) (os : Objs) (hk : os[k]? = some (rgC room a n L.length r)) (hr : os[r]? = some (rowI L)) (hkr : k ≠ r) (hargs : D.pureL args = true) (hp : ∀ d a' n' L', post d a' n' L' → d.pure = true) :
    Spec Try.prog f (.ptr k 0 4 0 0 :: args) os (fun d os' => ∃ a' n' L', post d a' n' L' ∧ os' = (os.set k (rgC room a' n' L'.length r)).set r (rowI L')) := by
  refine (rg_frame h k r os hk hr hkr hargs).mono ?_
  rintro d os' ⟨d1, os1, ⟨a', n', L', hpd, rfl⟩, rfl, rfl⟩
  refine ⟨a', n', L', by rw [mapId_pure _ _ (hp _ _ _ _ hpd)]; exact hpd, ?_⟩
  have hr' : ∀ F, (os.set k F)[r]? = some (rowI L) := fun F => by rw [List.getElem?_set_ne hkr]; exact hr
  simp only [merge, putAll, List.drop_one, List.length_cons, List.length_nil, List.drop_succ_cons, List.drop_zero, List.map_nil, List.append_nil, List.tail_cons]
  show (os.put k 0 (.row 176 4 false [.agg [.int .i64 room, .int .i64 a', .sl r 0 1 0 L'.length none, .int .i64 n']])).put r 0 (.row 3 1 true (L'.map (D.int .i64))) = _
  rw [put_one hk, put_one (hr' _)]
end Go.Proofs.Ytaplihoeephbeaa.V
