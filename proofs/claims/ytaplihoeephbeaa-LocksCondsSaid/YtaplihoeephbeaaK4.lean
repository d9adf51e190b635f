/- K4: a text of a symbolic executor that is proved sound, and contracts that are proved with it. -/
import Derived.Test.YtaplihoeephbeaaK3
set_option linter.unusedVariables false
set_option linter.unusedSimpArgs false
namespace Go.Proofs.Ytaplihoeephbeaa.V
open Go Go.Proofs
set_option maxRecDepth 100000
set_option maxHeartbeats 40000000
theorem sumL_set : ∀ (l : List (List Int)) (e : Nat) (x : List Int), e < l.length → sumL (l.set e x) + (qAt l e).length = sumL l + x.length
  | [], e, x, h => by simp at h
  | y :: l, 0, x, _ => by simp [sumL, qAt]; omega
  | y :: l, e + 1, x, h => by
    have := sumL_set l e x (by simpa using h)
    simp [sumL, qAt] at this ⊢
    omega
theorem qAt_set (l : List (List Int)) (e : Nat) (x : List Int) (h : e < l.length) : qAt (l.set e x) e = x := by
  rw [qAt, List.getD_eq_getElem?_getD, List.getElem?_set_self h]; rfl
theorem set_qAt (l : List (List Int)) (e : Nat) (h : e < l.length) : l.set e (qAt l e) = l := by
  apply List.ext_getElem?
  intro j
  rw [List.getElem?_set]
  by_cases hj : e = j
  · subst hj; rw [if_pos rfl, if_pos h, qAt_get l e h]
  · rw [if_neg hj]
/-- The numbers are those of threads. -/
structure LkN (S : Lk) : Prop where
  ow : ∀ v ∈ S.ow, -1 ≤ v
  co : ∀ v ∈ S.co, 0 ≤ v ∧ v ≤ 1073741824
  lk : ∀ L ∈ S.lk, ∀ v ∈ L, 0 ≤ v
  wq : ∀ L ∈ S.wq, ∀ v ∈ L, 0 ≤ v
  dq : ∀ L ∈ S.dq, ∀ v ∈ L, 0 ≤ v
theorem mem_set2 {α : Type} {l : List α} {e : Nat} {x y : α} (h : y ∈ l.set e x) : y ∈ l ∨ y = x := List.mem_or_eq_of_mem_set h
theorem qAt_all {p : Int → Prop} {l : List (List Int)} (h : ∀ L ∈ l, ∀ v ∈ L, p v) (e : Nat) : ∀ v ∈ qAt l e, p v := by
  intro v hv
  unfold qAt at hv
  rw [List.getD_eq_getElem?_getD] at hv
  cases hg : l[e]? with
  | none => rw [hg] at hv; simp at hv
  | some L => rw [hg] at hv; exact h L (List.mem_of_getElem? hg) v hv
theorem set_all {p : Int → Prop} {l : List (List Int)} (h : ∀ L ∈ l, ∀ v ∈ L, p v) {e : Nat} {x : List Int} (hx : ∀ v ∈ x, p v) : ∀ L ∈ l.set e x, ∀ v ∈ L, p v := by
  intro L hL
  rcases mem_set2 hL with hL | rfl
  · exact h L hL
  · exact hx
theorem headQ_ge {L : List Int} (h : ∀ v ∈ L, 0 ≤ v) : -1 ≤ headQ L := by
  cases L with
  | nil => exact Int.le_refl _
  | cons a L => have := h a (by simp); show -1 ≤ a; omega
theorem hand_ok {nm nw ns : Nat} {S : Lk} (h : LkL nm nw ns S) (hn : LkN S) {m : Nat} (hm : m < nm) : LkL nm nw ns (handS S m) ∧ LkN (handS S m) := by
  have h2 := h.lk
  have := sumL_set S.lk m (qAt S.lk m).tail (by omega)
  have ht : (qAt S.lk m).tail.length ≤ (qAt S.lk m).length := by rw [List.length_tail]; omega
  refine ⟨⟨by simp [handS, h.ow], h.co, by simp [handS, h.lk], h.wq, h.dq, ?_⟩, ⟨fun v hv => ?_, hn.co, ?_, hn.wq, hn.dq⟩⟩
  · show sumL (S.lk.set m _) + sumL S.wq + sumL S.dq ≤ 1000
    have := h.tot; omega
  · rcases mem_set2 hv with hv | rfl
    · exact hn.ow v hv
    · exact headQ_ge (qAt_all hn.lk m)
  · exact set_all hn.lk (fun v hv => qAt_all hn.lk m v (List.mem_of_mem_tail hv))
theorem lock_tot {nm nw ns : Nat} {S : Lk} (h : LkL nm nw ns S) (m : Nat) (hm : m < nm) (t : Int) : sumL (lockS S m t).1.lk ≤ sumL S.lk + 1 ∧ (lockS S m t).1.wq = S.wq ∧ (lockS S m t).1.dq = S.dq ∧ (lockS S m t).1.co = S.co := by
  unfold lockS
  split
  · have := sumL_set S.lk m (qAt S.lk m ++ [t]) (by have := h.lk; omega)
    rw [List.length_append, List.length_singleton] at this
    exact ⟨by show sumL (S.lk.set m _) ≤ _; omega, rfl, rfl, rfl⟩
  · exact ⟨by show sumL S.lk ≤ _; omega, rfl, rfl, rfl⟩
theorem lock_len {nm nw ns : Nat} {S : Lk} (h : LkL nm nw ns S) (m : Nat) (t : Int) : (lockS S m t).1.ow.length = nm ∧ (lockS S m t).1.lk.length = nm := by
  unfold lockS
  split <;> simp [h.ow, h.lk]
theorem lock_ok {nm nw ns : Nat} {S : Lk} (h : LkL nm nw ns S) (hn : LkN S) {m : Nat} (hm : m < nm) {t : Int} (ht : 0 ≤ t) (h1 : sumL S.lk + sumL S.wq + sumL S.dq ≤ 999) : LkL nm nw ns (lockS S m t).1 ∧ LkN (lockS S m t).1 := by
  obtain ⟨g1, g2, g3, g4⟩ := lock_tot h m hm t
  obtain ⟨k1, k2⟩ := lock_len h m t
  refine ⟨⟨k1, by rw [g4]; exact h.co, k2, by rw [g2]; exact h.wq, by rw [g3]; exact h.dq, by rw [g2, g3]; omega⟩, ⟨?_, by rw [g4]; exact hn.co, ?_, by rw [g2]; exact hn.wq, by rw [g3]; exact hn.dq⟩⟩
  · unfold lockS
    split
    · exact hn.ow
    · intro v hv
      rcases mem_set2 hv with hv | rfl
      · exact hn.ow v hv
      · omega
  · unfold lockS
    split
    · exact set_all hn.lk (fun v hv => by
        rcases List.mem_append.1 hv with hv | hv
        · exact qAt_all hn.lk m v hv
        · simp at hv; omega)
    · exact hn.lk
def signalS (S : Lk) (c m : Nat) : Lk × Int × Bool := match qAt S.wq c with
  | [] => (S, -1, false)
  | t :: q => ((lockS { S with wq := S.wq.set c q } m t).1, t, (lockS { S with wq := S.wq.set c q } m t).2)
theorem sigq_ok {nm nw ns : Nat} {S : Lk} (h : LkL nm nw ns S) (hn : LkN S) {c : Nat} (hc : c < nw) {t : Int} {q : List Int} (hq : qAt S.wq c = t :: q) : LkL nm nw ns { S with wq := S.wq.set c q } ∧ LkN { S with wq := S.wq.set c q } ∧ 0 ≤ t ∧ sumL S.lk + sumL (S.wq.set c q) + sumL S.dq + 1 ≤ 1000 := by
  have := sumL_set S.wq c q (by have := h.wq; omega)
  rw [hq, List.length_cons] at this
  have hall := qAt_all hn.wq c
  rw [hq] at hall
  have ht := h.tot
  exact ⟨⟨h.ow, h.co, h.lk, by simp [h.wq], h.dq, by show sumL S.lk + sumL (S.wq.set c q) + sumL S.dq ≤ 1000; omega⟩, ⟨hn.ow, hn.co, hn.lk, set_all hn.wq (fun v hv => hall v (by simp [hv])), hn.dq⟩, hall t (by simp), by omega⟩
theorem signal_ok {nm nw ns : Nat} {S : Lk} (h : LkL nm nw ns S) (hn : LkN S) {c m : Nat} (hc : c < nw) (hm : m < nm) : LkL nm nw ns (signalS S c m).1 ∧ LkN (signalS S c m).1 := by
  unfold signalS
  split
  · exact ⟨h, hn⟩
  · rename_i t q hq
    obtain ⟨g1, g2, g3, g4⟩ := sigq_ok h hn hc hq
    exact lock_ok g1 g2 hm g3 (by show sumL S.lk + sumL (S.wq.set c q) + sumL S.dq ≤ 999; omega)
theorem signal90 {nm nw ns : Nat} {S : Lk} (h : LkL nm nw ns S) (hn : LkN S) (c m : Nat) (hc : c < nw) (hm : m < nm) (r : Objs) : Spec Try.prog 90 [lkP, .int .i64 c, .int .i64 m] (lkO nm nw ns S r) (fun d os' => d = .tup [.int .i64 (signalS S c m).2.1, .bool (signalS S c m).2.2] ∧ os' = lkO nm nw ns (signalS S c m).1 r) := by
  have h1 := h.wq
  have h1m : (S.wq.map ints).length = nw := by rw [List.length_map]; exact h1
  have hg := rowC_at S.wq c (by omega)
  cases hq : qAt S.wq c with
  | nil =>
    have e : signalS S c m = (S, -1, false) := by unfold signalS; rw [hq]
    rw [e]
    refine Spec.by Try.func90 rfl (by decide) (by decide +kernel) rfl ?_
    (refine goA ?_)
    refine Call.mk (popK _ 3 S.wq c (by omega) h.l2 rfl (by omega)) ?_
    rintro d os' ⟨rfl, rfl⟩
    rw [hq]
    (refine goA ?_)
    refine Ret.mk [.tmp _, .tmp _] rfl ⟨rfl, ?_⟩
    have e2 : S.wq.set c ([] : List Int).tail = S.wq := by have := set_qAt S.wq c (by omega); rw [hq] at this; exact this
    exact congrArg (fun x => rowI S.ow :: rowI S.co :: rowC S.lk :: rowC x :: rowC S.dq :: lkC nm nw ns :: r) e2
  | cons t q =>
    obtain ⟨g1, g2, g3, g4⟩ := sigq_ok h hn hc hq
    have e : signalS S c m = ((lockS { S with wq := S.wq.set c q } m t).1, t, (lockS { S with wq := S.wq.set c q } m t).2) := by unfold signalS; rw [hq]
    rw [e]
    refine Spec.by Try.func90 rfl (by decide) (by decide +kernel) rfl ?_
    (refine goA ?_)
    refine Call.mk (popK _ 3 S.wq c (by omega) h.l2 rfl (by omega)) ?_
    rintro d os' ⟨rfl, rfl⟩
    rw [hq]
    have ht : ¬ (headQ (t :: q) = -1) := by show ¬ (t = -1); omega
    (refine goA ?_)
    refine Call.mk (lock67 g1 m hm t r) ?_
    rintro d os' ⟨rfl, rfl⟩
    (refine goA ?_)
    exact Ret.mk [.tmp _, .tmp _] rfl ⟨rfl, rfl⟩
end Go.Proofs.Ytaplihoeephbeaa.V
