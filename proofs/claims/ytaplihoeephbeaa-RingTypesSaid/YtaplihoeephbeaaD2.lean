/- D2: a text of a symbolic executor that is proved sound, and contracts that are proved with it. -/
import Derived.Test.YtaplihoeephbeaaD1
import Derived.Test.YtaplihoeephbeaaVRing2
set_option linter.unusedVariables false
set_option linter.unusedSimpArgs false
namespace Go.Proofs.Ytaplihoeephbeaa.V
open Go Go.Proofs
set_option maxRecDepth 100000
set_option maxHeartbeats 40000000
def dqI (n : Int) : Int := if 8 < (if n < 1 then 1 else n) then 8 else (if n < 1 then 1 else n)
theorem dqI_r (n : Int) : 1 ≤ dqI n ∧ dqI n ≤ 8 := by
  unfold dqI
  split <;> split <;> omega
theorem new73 (n : Int) : Spec Try.prog 73 [.int .i64 n] [] (fun d os' => d = .ptr 0 0 2 0 0 ∧ os' = [one (.row 201 2 false [.agg [.int .i64 (dqI n), .nils]])]) := by
  refine Spec.by Try.func73 rfl (by decide) (by decide +kernel) rfl ?_
  (refine goA ?_)
  exact Ret.mk [.tmp 2] rfl ⟨rfl, rfl⟩
/-- The cell of a deque, as it is told. -/
@[reducible] def dqF (own : Bool) (room : Int) (l : List Int) (r : Nat) : Fam := bif own then dqA room l.length r else dqB room l
@[reducible] def dqR (own : Bool) (l : List Int) : Fam := bif own then rowI l else one .gone
theorem dq_frame {f : FuncId} {args : List D} {own : Bool} {room : Int} {l : List Int} {post : D → Objs → Prop} (h : Spec Try.prog f (.ptr 0 0 2 0 0 :: args) (dqO own room l 1) post)
    (k r : Nat) (os : Objs) (hk : os[k]? = some (dqF own room l r)) (hr : os[r]? = some (dqR own l)) (hkr : k ≠ r) (hargs : D.pureL args = true) :
    Spec Try.prog f (.ptr k 0 2 0 0 :: args) os (fun d os' => ∃ d1 os1, post d1 os1 ∧ d = d1.mapId (lead [(k, 0), (r, 0)] os.length) ∧ os' = merge [(k, 0), (r, 0)] os os1) := by
  have hpl : D.pureL (l.map (D.int .i64)) = true := pureL_map (fun _ => rfl) _
  have e : D.mapIdL (lead [(k, 0), (r, 0)] os.length) (.ptr 0 0 2 0 0 :: args) = .ptr k 0 2 0 0 :: args := by
    simp only [D.mapIdL, D.mapId, lead, mapIdL_pure _ _ hargs]
    rfl
  have hs : D.sglL 2 (.ptr 0 0 2 0 0 :: args) = true := by simp [D.sglL, D.sgl, sglL_pure _ _ hargs]
  rw [← e]
  cases own with
  | true =>
    refine h.frame os [(k, 0), (r, 0)] rfl (by simp [hkr]) (fun i p hp => ?_) hs
    match i, hp with
    | 0, hp =>
      simp at hp; subst hp
      exact ⟨(List.getElem?_eq_some_iff.1 hk).1, by rw [at_one hk]; rfl, rfl, fun j hj => one_pos _ hj⟩
    | 1, hp =>
      simp at hp; subst hp
      refine ⟨(List.getElem?_eq_some_iff.1 hr).1, ?_, ?_, fun j hj => one_pos _ hj⟩
      · rw [at_one hr]
        show _ = O.mapId _ (.row 3 1 true (l.map (D.int .i64)))
        simp only [O.mapId]
      · show O.sgl _ (.row 3 1 true (l.map (D.int .i64))) = true
        simp [O.sgl]
    | i + 2, hp => simp at hp
  | false =>
    refine h.frame os [(k, 0), (r, 0)] rfl (by simp [hkr]) (fun i p hp => ?_) hs
    match i, hp with
    | 0, hp =>
      simp at hp; subst hp
      exact ⟨(List.getElem?_eq_some_iff.1 hk).1, by rw [at_one hk]; rfl, rfl, fun j hj => one_pos _ hj⟩
    | 1, hp =>
      simp at hp; subst hp
      exact ⟨(List.getElem?_eq_some_iff.1 hr).1, by rw [at_one hr]; rfl, rfl, fun j hj => one_pos _ hj⟩
    | i + 2, hp => simp at hp
theorem dq_len (own : Bool) (room : Int) (l : List Int) : (dqO own room l 1).length = 2 := by cases own <;> rfl
/-- A deque is only looked at. -/
theorem Spec.dqL {f : FuncId} {args : List D} {own : Bool} {room : Int} {l : List Int} {post : D → Prop} (h : Spec Try.prog f (.ptr 0 0 2 0 0 :: args) (dqO own room l 1) (fun d os' => post d ∧ os' = dqO own room l 1))
    (k r : Nat) (os : Objs) (hk : os[k]? = some (dqF own room l r)) (hr : os[r]? = some (dqR own l)) (hkr : k ≠ r) (hargs : D.pureL args = true) (hp : ∀ d, post d → d.pure = true) :
    Spec Try.prog f (.ptr k 0 2 0 0 :: args) os (fun d os' => post d ∧ os' = os) := by
  refine (dq_frame h k r os hk hr hkr hargs).mono ?_
  rintro d os' ⟨d1, os1, ⟨hpd, rfl⟩, rfl, rfl⟩
  refine ⟨by rw [mapId_pure _ _ (hp _ hpd)]; exact hpd, ?_⟩
  cases own with
  | true =>
    have e1 : os.put k 0 (.row 201 2 false [.agg [.int .i64 room, .sl r 0 1 0 l.length none]]) = os := by rw [put_one hk]; exact list_set_same hk
    have e2 : os.put r 0 (.row 3 1 true (l.map (D.int .i64))) = os := by rw [put_one hr]; exact list_set_same hr
    show (os.put k 0 (.row 201 2 false [.agg [.int .i64 room, .sl r 0 1 0 l.length none]])).put r 0 (.row 3 1 true (l.map (D.int .i64))) ++ [] = os
    rw [e1, e2, List.append_nil]
  | false =>
    have e1 : os.put k 0 (.row 201 2 false [.agg [.int .i64 room, .lst 1 true (l.map (D.int .i64))]]) = os := by rw [put_one hk]; exact list_set_same hk
    have e2 : os.put r 0 .gone = os := by rw [put_one hr]; exact list_set_same hr
    show (os.put k 0 (.row 201 2 false [.agg [.int .i64 room, .lst 1 true (l.map (D.int .i64))]])).put r 0 .gone ++ [] = os
    rw [e1, e2, List.append_nil]
/-- What stood there is put there again. -/
theorem dq_same {own : Bool} {room : Int} {l : List Int} (k r : Nat) (os : Objs) (hk : os[k]? = some (dqF own room l r)) (hr : os[r]? = some (dqR own l)) : merge [(k, 0), (r, 0)] os (dqO own room l 1) = os := by
  cases own with
  | true =>
    have e1 : os.put k 0 (.row 201 2 false [.agg [.int .i64 room, .sl r 0 1 0 l.length none]]) = os := by rw [put_one hk]; exact list_set_same hk
    have e2 : os.put r 0 (.row 3 1 true (l.map (D.int .i64))) = os := by rw [put_one hr]; exact list_set_same hr
    show (os.put k 0 (.row 201 2 false [.agg [.int .i64 room, .sl r 0 1 0 l.length none]])).put r 0 (.row 3 1 true (l.map (D.int .i64))) ++ [] = os
    rw [e1, e2, List.append_nil]
  | false =>
    have e1 : os.put k 0 (.row 201 2 false [.agg [.int .i64 room, .lst 1 true (l.map (D.int .i64))]]) = os := by rw [put_one hk]; exact list_set_same hk
    have e2 : os.put r 0 .gone = os := by rw [put_one hr]; exact list_set_same hr
    show (os.put k 0 (.row 201 2 false [.agg [.int .i64 room, .lst 1 true (l.map (D.int .i64))]])).put r 0 .gone ++ [] = os
    rw [e1, e2, List.append_nil]
theorem dq_oneF (own : Bool) (room : Int) (l : List Int) (r : Nat) : ∃ o, dqF own room l r = one o := by cases own <;> exact ⟨_, rfl⟩
theorem dq_oneR (own : Bool) (l : List Int) : ∃ o, dqR own l = one o := by cases own <;> exact ⟨_, rfl⟩
theorem push74at (own : Bool) (room : Int) (l : List Int) (v : Int) (hrm : 0 ≤ room ∧ room ≤ 8) (hl : (l.length : Int) ≤ room) (k r : Nat) (os : Objs) (hk : os[k]? = some (dqF own room l r)) (hr : os[r]? = some (dqR own l)) (hkr : k ≠ r) :
    Spec Try.prog 74 [.ptr k 0 2 0 0, .int .i64 v] os (fun d os' => d = .int .i64 (pushC room l v).1 ∧ os' = if (l.length : Int) = room then os else (os.set k (dqA room (l.length + 1) os.length)).set r (one .gone) ++ [rowI (l ++ [v])]) := by
  refine (dq_frame (push74 own room l v hrm hl) k r os hk hr hkr rfl).mono ?_
  rintro d os' ⟨d1, os1, ⟨rfl, rfl⟩, rfl, rfl⟩
  refine ⟨rfl, ?_⟩
  by_cases h : (l.length : Int) = room
  · rw [if_pos h, if_pos h]; exact dq_same k r os hk hr
  · rw [if_neg h, if_neg h]
    obtain ⟨o, ho⟩ := dq_oneF own room l r
    obtain ⟨o', ho'⟩ := dq_oneR own l
    rw [ho] at hk
    rw [ho'] at hr
    have hr' : ∀ F, (os.set k F)[r]? = some (one o') := fun F => by rw [List.getElem?_set_ne hkr]; exact hr
    show (os.put k 0 (.row 201 2 false [.agg [.int .i64 room, .sl (os.length + 0) 0 1 0 (l.length + 1) none]])).put r 0 .gone ++ [rowI (l ++ [v])] = _
    rw [put_one hk, put_one (hr' _)]
    rfl
theorem pop76at (own : Bool) (room : Int) (l : List Int) (hl : l.length ≤ 8) (k r : Nat) (os : Objs) (hk : os[k]? = some (dqF own room l r)) (hr : os[r]? = some (dqR own l)) (hkr : k ≠ r) :
    Spec Try.prog 76 [.ptr k 0 2 0 0] os (fun d os' => (l = [] ∧ d = .tup [.int .i64 0, .int .i64 7] ∧ os' = os) ∨ (∃ v, l.getLast? = some v ∧ d = .tup [.int .i64 v, .int .i64 0] ∧ os' = (os.set k (dqB room l.dropLast)).set r (one .gone))) := by
  refine (dq_frame (pop76 own room l hl) k r os hk hr hkr rfl).mono ?_
  rintro d os' ⟨d1, os1, ⟨h, rfl, rfl⟩ | ⟨v, h, rfl, rfl⟩, rfl, rfl⟩
  · exact .inl ⟨h, rfl, dq_same k r os hk hr⟩
  · obtain ⟨o, ho⟩ := dq_oneF own room l r
    obtain ⟨o', ho'⟩ := dq_oneR own l
    rw [ho] at hk
    rw [ho'] at hr
    have hr' : ∀ F, (os.set k F)[r]? = some (one o') := fun F => by rw [List.getElem?_set_ne hkr]; exact hr
    refine .inr ⟨v, h, rfl, ?_⟩
    show (os.put k 0 (.row 201 2 false [.agg [.int .i64 room, .lst 1 true (l.dropLast.map (D.int .i64))]])).put r 0 .gone ++ [] = _
    rw [put_one hk, put_one (hr' _), List.append_nil]
theorem steal75at (own : Bool) (room : Int) (l : List Int) (hl : l.length ≤ 8) (k r : Nat) (os : Objs) (hk : os[k]? = some (dqF own room l r)) (hr : os[r]? = some (dqR own l)) (hkr : k ≠ r) :
    Spec Try.prog 75 [.ptr k 0 2 0 0] os (fun d os' => (l = [] ∧ d = .tup [.int .i64 0, .int .i64 7] ∧ os' = os) ∨ (∃ v, l.head? = some v ∧ d = .tup [.int .i64 v, .int .i64 0] ∧ os' = (os.set k (dqB room l.tail)).set r (one .gone))) := by
  refine (dq_frame (steal75 own room l hl) k r os hk hr hkr rfl).mono ?_
  rintro d os' ⟨d1, os1, ⟨h, rfl, rfl⟩ | ⟨v, h, rfl, rfl⟩, rfl, rfl⟩
  · exact .inl ⟨h, rfl, dq_same k r os hk hr⟩
  · obtain ⟨o, ho⟩ := dq_oneF own room l r
    obtain ⟨o', ho'⟩ := dq_oneR own l
    rw [ho] at hk
    rw [ho'] at hr
    have hr' : ∀ F, (os.set k F)[r]? = some (one o') := fun F => by rw [List.getElem?_set_ne hkr]; exact hr
    refine .inr ⟨v, h, rfl, ?_⟩
    show (os.put k 0 (.row 201 2 false [.agg [.int .i64 room, .lst 1 true (l.tail.map (D.int .i64))]])).put r 0 .gone ++ [] = _
    rw [put_one hk, put_one (hr' _), List.append_nil]
end Go.Proofs.Ytaplihoeephbeaa.V
