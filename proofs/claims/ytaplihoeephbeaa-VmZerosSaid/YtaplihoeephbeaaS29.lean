/- S29: a text of a symbolic executor that is proved sound, and contracts that are proved with it. -/
import Derived.Test.YtaplihoeephbeaaS26
namespace Go.Proofs.Ytaplihoeephbeaa.V
open Go Go.Proofs
set_option maxRecDepth 100000
set_option maxHeartbeats 40000000
@[reducible] def endT (c : Int) : Th := ⟨9, 0, [], [], c⟩
theorem ends164 (c : Int) : Spec Try.prog 164 [.int .i64 c] [] (fun d os' => d = .tup [thD (endT c), rqD ⟨1, 0, c⟩] ∧ os' = []) := by
  refine Spec.frz (post' := fun d => d = .tup [thD (endT c), rqD ⟨1, 0, c⟩]) ?_
  refine Spec.by Try.func164 rfl (by decide) (by decide +kernel) rfl ?_
  (conv => whnf); repeat ((first | with_reducible (first | refine Pt.go ?_ | refine dA ?_ | refine dL ?_) | refine Br.t ?_ | refine Br.f ?_ | refine bT ?_ | refine bF ?_ | refine Opt.mk ?_ | with_reducible refine aR ?_ | refine ⟨fun h => absurd (congrArg List.length h) (Nat.succ_ne_zero _), fun _ => ?_⟩ | refine aC ?_ | refine apG ?_); conv => whnf)
  refine Call.mk ((end34 c).only _ rfl (by rintro d rfl; rfl)) ?_; rintro d os' ⟨rfl, rfl⟩
  (conv => whnf); repeat ((first | with_reducible (first | refine Pt.go ?_ | refine dA ?_ | refine dL ?_) | refine Br.t ?_ | refine Br.f ?_ | refine bT ?_ | refine bF ?_ | refine Opt.mk ?_ | with_reducible refine aR ?_ | refine ⟨fun h => absurd (congrArg List.length h) (Nat.succ_ne_zero _), fun _ => ?_⟩ | refine aC ?_ | refine apG ?_); conv => whnf)
  refine Ret.mk [.cell 2 29, .cell 3 134] rfl ?_; (conv => whnf); repeat ((first | with_reducible (first | refine Pt.go ?_ | refine dA ?_ | refine dL ?_) | refine Br.t ?_ | refine Br.f ?_ | refine bT ?_ | refine bF ?_ | refine Opt.mk ?_ | with_reducible refine aR ?_ | refine ⟨fun h => absurd (congrArg List.length h) (Nat.succ_ne_zero _), fun _ => ?_⟩ | refine aC ?_ | refine apG ?_); conv => whnf)
  exact ⟨_, View.same _, rfl, rfl⟩
def needsI (op : Int) : Int := if op = 1 ∨ op = 2 ∨ op = 6 ∨ op = 8 ∨ op = 13 ∨ op = 14 ∨ op = 22 ∨ op = 25 then 1 else if op = 3 ∨ op = 4 then 2 else 0
theorem needs165 (op : Int) : Spec Try.prog 165 [.int .i64 op] [] (fun d os' => d = .int .i64 (needsI op) ∧ os' = []) := by
  refine Spec.by Try.func165 rfl (by decide) (by decide +kernel) rfl ?_
  (conv => whnf); repeat ((first | with_reducible (first | refine Pt.go ?_ | refine dA ?_ | refine dL ?_) | refine Br.t ?_ | refine Br.f ?_ | refine bT ?_ | refine bF ?_ | refine Opt.mk ?_ | with_reducible refine aR ?_ | refine ⟨fun h => absurd (congrArg List.length h) (Nat.succ_ne_zero _), fun _ => ?_⟩ | refine aC ?_ | refine apG ?_); conv => whnf)
  repeat' (refine Br.dec (fun _ => ?_) (fun _ => ?_) <;> ((conv => whnf); repeat ((first | with_reducible (first | refine Pt.go ?_ | refine dA ?_ | refine dL ?_) | refine Br.t ?_ | refine Br.f ?_ | refine bT ?_ | refine bF ?_ | refine Opt.mk ?_ | with_reducible refine aR ?_ | refine ⟨fun h => absurd (congrArg List.length h) (Nat.succ_ne_zero _), fun _ => ?_⟩ | refine aC ?_ | refine apG ?_); conv => whnf)))
  all_goals
    refine Ret.mk [.tmp _] rfl ?_
    (conv => whnf)
    refine ⟨?_, rfl⟩
    congr 1
    unfold needsI
    simp [*]
def kindI (op : Int) : Int := if op = 12 then 2 else if op = 11 then 3 else if op = 13 then 4 else if op = 14 then 5 else if op = 15 then 6 else if op = 16 then 7 else if op = 17 then 8 else if op = 18 then 9 else if op = 19 then 10 else if op = 20 then 11 else if op = 21 then 12 else if op = 22 then 13 else if op = 23 then 14 else if op = 24 then 15 else if op = 25 then 16 else 0
theorem kind166 (op : Int) : Spec Try.prog 166 [.int .i64 op] [] (fun d os' => d = .int .i64 (kindI op) ∧ os' = []) := by
  refine Spec.by Try.func166 rfl (by decide) (by decide +kernel) rfl ?_
  (conv => whnf); repeat ((first | with_reducible (first | refine Pt.go ?_ | refine dA ?_ | refine dL ?_) | refine Br.t ?_ | refine Br.f ?_ | refine bT ?_ | refine bF ?_ | refine Opt.mk ?_ | with_reducible refine aR ?_ | refine ⟨fun h => absurd (congrArg List.length h) (Nat.succ_ne_zero _), fun _ => ?_⟩ | refine aC ?_ | refine apG ?_); conv => whnf)
  repeat' (refine Br.dec (fun _ => ?_) (fun _ => ?_) <;> ((conv => whnf); repeat ((first | with_reducible (first | refine Pt.go ?_ | refine dA ?_ | refine dL ?_) | refine Br.t ?_ | refine Br.f ?_ | refine bT ?_ | refine bF ?_ | refine Opt.mk ?_ | with_reducible refine aR ?_ | refine ⟨fun h => absurd (congrArg List.length h) (Nat.succ_ne_zero _), fun _ => ?_⟩ | refine aC ?_ | refine apG ?_); conv => whnf)))
  all_goals
    refine Ret.mk [.tmp _] rfl ?_
    (conv => whnf)
    refine ⟨?_, rfl⟩
    congr 1
    unfold kindI
    simp [*]
theorem pushed167 (t : Th) (ht : t.okB) (hsk : t.sk.length ≤ 16) (v : Int) : Spec Try.prog 167 [thD t, .int .i64 v] [] (fun d os' => d = .tup [thD (if (pushT t v).2 then (pushT t v).1 else endT 2), rqD (if (pushT t v).2 then ⟨0, 0, 0⟩ else ⟨1, 0, 2⟩)] ∧ os' = []) := by
  have hps : pushR t v = pushT t v := by
    unfold pushR pushT
    by_cases h : t.sk.length = 16
    · rw [if_pos (by omega), if_pos h]
    · rw [if_neg (by omega), if_neg h]
  refine Spec.frz (post' := fun d => d = .tup [thD (if (pushT t v).2 then (pushT t v).1 else endT 2), rqD (if (pushT t v).2 then ⟨0, 0, 0⟩ else ⟨1, 0, 2⟩)]) ?_
  refine Spec.by Try.func167 rfl (by decide) (by decide +kernel) rfl ?_
  (conv => whnf); repeat ((first | with_reducible (first | refine Pt.go ?_ | refine dA ?_ | refine dL ?_) | refine Br.t ?_ | refine Br.f ?_ | refine bT ?_ | refine bF ?_ | refine Opt.mk ?_ | with_reducible refine aR ?_ | refine ⟨fun h => absurd (congrArg List.length h) (Nat.succ_ne_zero _), fun _ => ?_⟩ | refine aC ?_ | refine apG ?_); conv => whnf)
  refine Call.mk ((push132 t ht v).only _ rfl (by rintro d rfl; rfl)) ?_; rintro d os' ⟨rfl, rfl⟩
  rw [hps]
  obtain ⟨t', b, hb⟩ : ∃ t' b, pushT t v = (t', b) := ⟨_, _, rfl⟩
  rw [hb]
  cases b with
  | true =>
    (conv => whnf); repeat ((first | with_reducible (first | refine Pt.go ?_ | refine dA ?_ | refine dL ?_) | refine Br.t ?_ | refine Br.f ?_ | refine bT ?_ | refine bF ?_ | refine Opt.mk ?_ | with_reducible refine aR ?_ | refine ⟨fun h => absurd (congrArg List.length h) (Nat.succ_ne_zero _), fun _ => ?_⟩ | refine aC ?_ | refine apG ?_); conv => whnf)
    refine Ret.mk [.cell 4 29, .cell 5 134] rfl ?_; (conv => whnf); repeat ((first | with_reducible (first | refine Pt.go ?_ | refine dA ?_ | refine dL ?_) | refine Br.t ?_ | refine Br.f ?_ | refine bT ?_ | refine bF ?_ | refine Opt.mk ?_ | with_reducible refine aR ?_ | refine ⟨fun h => absurd (congrArg List.length h) (Nat.succ_ne_zero _), fun _ => ?_⟩ | refine aC ?_ | refine apG ?_); conv => whnf)
    exact ⟨_, View.same _, rfl, rfl⟩
  | false =>
    (conv => whnf); repeat ((first | with_reducible (first | refine Pt.go ?_ | refine dA ?_ | refine dL ?_) | refine Br.t ?_ | refine Br.f ?_ | refine bT ?_ | refine bF ?_ | refine Opt.mk ?_ | with_reducible refine aR ?_ | refine ⟨fun h => absurd (congrArg List.length h) (Nat.succ_ne_zero _), fun _ => ?_⟩ | refine aC ?_ | refine apG ?_); conv => whnf)
    refine Call.mk ((ends164 2).only _ rfl (by rintro d rfl; rfl)) ?_; rintro d os' ⟨rfl, rfl⟩
    (conv => whnf); repeat ((first | with_reducible (first | refine Pt.go ?_ | refine dA ?_ | refine dL ?_) | refine Br.t ?_ | refine Br.f ?_ | refine bT ?_ | refine bF ?_ | refine Opt.mk ?_ | with_reducible refine aR ?_ | refine ⟨fun h => absurd (congrArg List.length h) (Nat.succ_ne_zero _), fun _ => ?_⟩ | refine aC ?_ | refine apG ?_); conv => whnf)
    refine Ret.mk [.cell 4 29, .cell 5 134] rfl ?_; (conv => whnf); repeat ((first | with_reducible (first | refine Pt.go ?_ | refine dA ?_ | refine dL ?_) | refine Br.t ?_ | refine Br.f ?_ | refine bT ?_ | refine bF ?_ | refine Opt.mk ?_ | with_reducible refine aR ?_ | refine ⟨fun h => absurd (congrArg List.length h) (Nat.succ_ne_zero _), fun _ => ?_⟩ | refine aC ?_ | refine apG ?_); conv => whnf)
    exact ⟨_, View.same _, rfl, rfl⟩
theorem pop133m (t : Th) (ht : t.okB) : Spec Try.prog 133 [thD t] [] (fun d os' => d = .tup [thD (popM t).1, .int .i64 (popM t).2.1, .bool (popM t).2.2] ∧ os' = []) := by
  by_cases hk : t.sk = []
  · rw [popM_nil hk]; exact pop133e t hk
  · obtain ⟨l, n, hln⟩ : ∃ l n, t.sk = l ++ [n] := ⟨t.sk.dropLast, t.sk.getLast hk, (List.dropLast_concat_getLast hk).symm⟩
    rw [popM_snoc hln]
    exact pop133 t ht l n hln
/-- So many are popped. -/
def popR : Nat → Th → Th × List Int
  | 0, t => (t, [])
  | n + 1, t => ((popM (popR n t).1).1, (popR n t).2 ++ [(popM (popR n t).1).2.1])
theorem popR_len : ∀ (n : Nat) (t : Th), (popR n t).2.length = n
  | 0, t => rfl
  | n + 1, t => by simp [popR, popR_len n t]
theorem popR_fr : ∀ (n : Nat) (t : Th), (popR n t).1.fr = t.fr
  | 0, t => rfl
  | n + 1, t => by simp only [popR]; rw [popM_fr, popR_fr n t]
theorem popR_sk : ∀ (n : Nat) (t : Th), (popR n t).1.sk.length ≤ t.sk.length
  | 0, t => Nat.le_refl _
  | n + 1, t => by simp only [popR]; exact Nat.le_trans (popM_sk _) (popR_sk n t)
theorem popR_okB (n : Nat) (t : Th) (h : t.okB) : (popR n t).1.okB := by
  obtain ⟨h1, h2, h3⟩ := h
  refine ⟨by rw [popR_fr]; exact h1, ?_, by rw [popR_fr]; exact h3⟩
  have := popR_sk n t
  omega
end Go.Proofs.Ytaplihoeephbeaa.V
