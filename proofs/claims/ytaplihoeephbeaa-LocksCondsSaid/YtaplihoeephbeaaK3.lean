/- K3: a text of a symbolic executor that is proved sound, and contracts that are proved with it. -/
import Derived.Test.YtaplihoeephbeaaK2
set_option linter.unusedVariables false
set_option linter.unusedSimpArgs false
namespace Go.Proofs.Ytaplihoeephbeaa.V
open Go Go.Proofs
set_option maxRecDepth 100000
set_option maxHeartbeats 40000000
/-- What locks have: whose each mutex is, each semaphore's count, who waits. -/
structure Lk where
  ow : List Int
  co : List Int
  lk : List (List Int)
  wq : List (List Int)
  dq : List (List Int)
/-- How much stands in rows. -/
def sumL (l : List (List Int)) : Nat := (l.map List.length).sum
structure LkL (nm nw ns : Nat) (S : Lk) : Prop where
  ow : S.ow.length = nm
  co : S.co.length = ns
  lk : S.lk.length = nm
  wq : S.wq.length = nw
  dq : S.dq.length = ns
  tot : sumL S.lk + sumL S.wq + sumL S.dq ≤ 1000
theorem sumL_mem : ∀ {l : List (List Int)} {L : List Int}, L ∈ l → L.length ≤ sumL l
  | x :: l, L, h => by
    unfold sumL
    rcases List.mem_cons.1 h with rfl | h
    · simp
    · have := sumL_mem h; unfold sumL at this; simp; omega
theorem LkL.l1 {nm nw ns : Nat} {S : Lk} (h : LkL nm nw ns S) : ∀ L ∈ S.lk, L.length ≤ 1000 := fun L hL => by have := sumL_mem hL; have := h.tot; omega
theorem LkL.l2 {nm nw ns : Nat} {S : Lk} (h : LkL nm nw ns S) : ∀ L ∈ S.wq, L.length ≤ 1000 := fun L hL => by have := sumL_mem hL; have := h.tot; omega
theorem LkL.l3 {nm nw ns : Nat} {S : Lk} (h : LkL nm nw ns S) : ∀ L ∈ S.dq, L.length ≤ 1000 := fun L hL => by have := sumL_mem hL; have := h.tot; omega
@[reducible] def lkD (nm nw ns : Nat) : D := .agg [.int .i64 0, .nils, .sl 0 0 1 0 nm none, .sl 1 0 1 0 ns none, .nils, .sl 2 0 1 0 nm none, .sl 3 0 1 0 nw none, .sl 4 0 1 0 ns none, .nils, .nils]
@[reducible] def lkC (nm nw ns : Nat) : Fam := one (.row 93 10 false [lkD nm nw ns])
@[reducible] def lkO (nm nw ns : Nat) (S : Lk) (r : Objs) : Objs := rowI S.ow :: rowI S.co :: rowC S.lk :: rowC S.wq :: rowC S.dq :: lkC nm nw ns :: r
@[reducible] def lkP : D := .ptr 5 0 10 0 0
theorem rowI_at (l : List Int) (m : Nat) (h : m < l.length) : (l.map (D.int .i64))[0 + m]? = some (.int .i64 (l.getD m 0)) := by
  rw [Nat.zero_add, List.getElem?_map, List.getD_eq_getElem?_getD, List.getElem?_eq_getElem h]; rfl
def qAt (l : List (List Int)) (m : Nat) : List Int := l.getD m []
theorem qAt_get (l : List (List Int)) (m : Nat) (h : m < l.length) : l[m]? = some (qAt l m) := by
  rw [qAt, List.getD_eq_getElem?_getD, List.getElem?_eq_getElem h]; rfl
theorem qAt_mem {l : List (List Int)} {m : Nat} (h : m < l.length) : qAt l m ∈ l := List.mem_of_getElem? (qAt_get l m h)
theorem rowC_at (l : List (List Int)) (m : Nat) (h : m < l.length) : (l.map ints)[0 + m]? = some (ints (qAt l m)) := by
  rw [Nat.zero_add]; exact get_map (qAt_get l m h)
/-- A mutex is handed on. -/
def handS (S : Lk) (m : Nat) : Lk := { S with ow := S.ow.set m (headQ (qAt S.lk m)), lk := S.lk.set m (qAt S.lk m).tail }
def lockS (S : Lk) (m : Nat) (t : Int) : Lk × Bool := if S.ow.getD m 0 ≠ -1 then ({ S with lk := S.lk.set m (qAt S.lk m ++ [t]) }, false) else ({ S with ow := S.ow.set m t }, true)
def unlockS (S : Lk) (m : Nat) (t : Int) : Lk × Int × Int := if S.ow.getD m 0 ≠ t then (S, -1, 10) else (handS S m, headQ (qAt S.lk m), 0)
/-- A number is pushed behind a queue of the kind k (3, 4, 5). -/
theorem pushK (os : Objs) (k : Nat) (Ls : List (List Int)) (e : Nat) (he : e < Ls.length) (hl : ∀ L ∈ Ls, L.length ≤ 1000) (t : Int) (hat : os.at k 0 = .row 23 1 true (Ls.map ints)) {e' : Nat} (hee : e = e') :
    Spec Try.prog 149 [.ptr k 0 1 e' 0, .int .i64 t] os (fun d os' => d = .tup [] ∧ os' = os.put k 0 (.row 23 1 true ((Ls.set e (qAt Ls e ++ [t])).map ints)))  := by
  subst hee
  refine ((push149 Ls e _ (qAt_get Ls e he) t (by have := hl _ (qAt_mem he); omega)).rowAt k os hat rfl (pureL_rows _) (by rintro d y ⟨rfl, rfl⟩; exact ⟨rfl, pureL_rows _⟩)).mono ?_
  rintro d os' ⟨es, ⟨rfl, rfl⟩, rfl⟩
  exact ⟨rfl, rfl⟩
theorem popK (os : Objs) (k : Nat) (Ls : List (List Int)) (e : Nat) (he : e < Ls.length) (hl : ∀ L ∈ Ls, L.length ≤ 1000) (hat : os.at k 0 = .row 23 1 true (Ls.map ints)) {e' : Nat} (hee : e = e') :
    Spec Try.prog 156 [.ptr k 0 1 e' 0] os (fun d os' => d = .int .i64 (headQ (qAt Ls e)) ∧ os' = os.put k 0 (.row 23 1 true ((Ls.set e (qAt Ls e).tail).map ints)))  := by
  subst hee
  refine ((pop156 Ls e _ (qAt_get Ls e he) (by have := hl _ (qAt_mem he); omega)).rowAt k os hat rfl (pureL_rows _) (by rintro d y ⟨rfl, rfl⟩; exact ⟨rfl, pureL_rows _⟩)).mono ?_
  rintro d os' ⟨es, ⟨rfl, rfl⟩, rfl⟩
  exact ⟨rfl, rfl⟩
theorem hand150 {nm nw ns : Nat} {S : Lk} (h : LkL nm nw ns S) (m : Nat) (hm : m < nm) (r : Objs) : Spec Try.prog 150 [lkP, .int .i64 m] (lkO nm nw ns S r) (fun d os' => d = .int .i64 (headQ (qAt S.lk m)) ∧ os' = lkO nm nw ns (handS S m) r) := by
  have h1 := h.ow
  have h2 := h.lk
  have h1m : (S.ow.map (D.int .i64)).length = nm := by rw [List.length_map]; exact h1
  have h2m : (S.lk.map ints).length = nm := by rw [List.length_map]; exact h2
  have hg := rowI_at S.ow m (by omega)
  have hg2 := rowI_at (S.ow.set m (headQ (qAt S.lk m))) m (by rw [List.length_set]; omega)
  have he : (S.ow.map (D.int .i64)).set (0 + (m : Int).toNat) (D.int .i64 (headQ (qAt S.lk m))) = (S.ow.set m (headQ (qAt S.lk m))).map (D.int .i64) := by rw [show 0 + (m : Int).toNat = m by omega, List.map_set]
  have hv : (S.ow.set m (headQ (qAt S.lk m))).getD m 0 = headQ (qAt S.lk m) := by rw [List.getD_eq_getElem?_getD, List.getElem?_set_self (by omega)]; rfl
  rw [hv] at hg2
  refine Spec.by Try.func150 rfl (by decide) (by decide +kernel) rfl ?_
  (refine goA ?_)
  refine Call.mk (popK _ 2 S.lk m (by omega) h.l1 rfl (by omega)) ?_
  rintro d os' ⟨rfl, rfl⟩
  (refine goA ?_)
  refine Opt.of hg ?_
  (refine goA ?_)
  rw [he]
  refine Opt.of hg2 ?_
  (refine goA ?_)
  exact Ret.mk [.tmp 4] rfl ⟨rfl, rfl⟩
theorem lock67 {nm nw ns : Nat} {S : Lk} (h : LkL nm nw ns S) (m : Nat) (hm : m < nm) (t : Int) (r : Objs) : Spec Try.prog 67 [lkP, .int .i64 m, .int .i64 t] (lkO nm nw ns S r) (fun d os' => d = .bool (lockS S m t).2 ∧ os' = lkO nm nw ns (lockS S m t).1 r) := by
  have h1 := h.ow
  have h2 := h.lk
  have h1m : (S.ow.map (D.int .i64)).length = nm := by rw [List.length_map]; exact h1
  have h2m : (S.lk.map ints).length = nm := by rw [List.length_map]; exact h2
  have hg := rowI_at S.ow m (by omega)
  have he : (S.ow.map (D.int .i64)).set (0 + (m : Int).toNat) (D.int .i64 t) = (S.ow.set m t).map (D.int .i64) := by rw [show 0 + (m : Int).toNat = m by omega, List.map_set]
  unfold lockS
  by_cases hc : S.ow.getD m 0 = -1
  · rw [if_neg (by omega)]
    refine Spec.by Try.func67 rfl (by decide) (by decide +kernel) rfl ?_
    (refine goA ?_)
    refine Opt.of hg ?_
    (refine goA ?_)
    refine Opt.of hg ?_
    (refine goA ?_)
    refine Ret.mk [.tmp 6] rfl ⟨rfl, ?_⟩
    exact congrArg (fun x => one (.row 3 1 true x) :: rowI S.co :: rowC S.lk :: rowC S.wq :: rowC S.dq :: lkC nm nw ns :: r) he
  · rw [if_pos hc]
    refine Spec.by Try.func67 rfl (by decide) (by decide +kernel) rfl ?_
    (refine goA ?_)
    refine Opt.of hg ?_
    (refine goA ?_)
    refine Call.mk (pushK _ 2 S.lk m (by omega) h.l1 t rfl (by omega)) ?_
    rintro d os' ⟨rfl, rfl⟩
    (refine goA ?_)
    exact Ret.mk [.tmp 6] rfl ⟨rfl, rfl⟩
theorem unlock68 {nm nw ns : Nat} {S : Lk} (h : LkL nm nw ns S) (m : Nat) (hm : m < nm) (t : Int) (r : Objs) : Spec Try.prog 68 [lkP, .int .i64 m, .int .i64 t] (lkO nm nw ns S r) (fun d os' => d = .tup [.int .i64 (unlockS S m t).2.1, .int .i64 (unlockS S m t).2.2] ∧ os' = lkO nm nw ns (unlockS S m t).1 r) := by
  have h1 := h.ow
  have h1m : (S.ow.map (D.int .i64)).length = nm := by rw [List.length_map]; exact h1
  have hg := rowI_at S.ow m (by omega)
  unfold unlockS
  by_cases hc : S.ow.getD m 0 = t
  · rw [if_neg (by omega)]
    refine Spec.by Try.func68 rfl (by decide) (by decide +kernel) rfl ?_
    (refine goA ?_)
    refine Opt.of hg ?_
    (refine goA ?_)
    refine Call.mk (hand150 h m hm r) ?_
    rintro d os' ⟨rfl, rfl⟩
    (refine goA ?_)
    exact Ret.mk [.tmp _, .tmp _] rfl ⟨rfl, rfl⟩
  · rw [if_pos hc]
    refine Spec.by Try.func68 rfl (by decide) (by decide +kernel) rfl ?_
    (refine goA ?_)
    refine Opt.of hg ?_
    (refine goA ?_)
    exact Ret.mk [.tmp _, .tmp _] rfl ⟨rfl, rfl⟩
end Go.Proofs.Ytaplihoeephbeaa.V
