/- R11: a text of a symbolic executor that is proved sound, and contracts that are proved with it. -/
import Derived.Test.YtaplihoeephbeaaR10
namespace Go.Proofs.Ytaplihoeephbeaa.V
open Go Go.Proofs
set_option linter.unusedVariables false
set_option maxRecDepth 100000
set_option maxHeartbeats 40000000
/-- What the closure of RingPlays has: the same, asked, the list, k. -/
@[reducible] def cbO (room : Int) (c : List Int) (k : Int) (j : Nat) : Objs := [one (.row 4 1 false [.bool true]), one (.row 3 1 false [.int .i64 (j : Int)]), one (.row 71 2 false [rfD room c]), one (.row 3 1 false [.int .i64 k])]
theorem cb145 (room : Int) (c : List Int) (k : Int) (hl : c.length ≤ 1024) (j : Nat) (v : Int) (hv : c[j]? = some v) (hI : I64 v) : Spec Try.prog 145 [.int .i64 v, .ptr 0 0 1 0 0, .ptr 1 0 1 0 0, .ptr 2 0 2 0 0, .ptr 3 0 1 0 0] (cbO room c k j) (fun d os' => d = .bool (cutB k v) ∧ os' = cbO room c k (j + 1)) := by
  have hcm : (c.map (D.int .i64)).length = c.length := List.length_map ..
  have hj := (List.getElem?_eq_some_iff.1 hv).1
  have h3 := tmod3 v hI
  have hmin : (if ((c.map (D.int .i64)).length : Int) - 1 < (j : Int) then ((c.map (D.int .i64)).length : Int) - 1 else (j : Int)) = (j : Int) := by rw [if_neg (by omega)]
  refine Spec.by Try.func145 rfl (by decide) (by decide +kernel) rfl ?_
  (conv => whnf); repeat ((first | with_reducible (first | refine Pt.go ?_ | refine dA ?_ | refine dL ?_) | refine Br.t ?_ | refine Br.f ?_ | refine bT ?_ | refine bF ?_ | refine Opt.mk ?_ | with_reducible refine aR ?_ | refine ⟨fun h => absurd (congrArg List.length h) (Nat.succ_ne_zero _), fun _ => ?_⟩ | refine aC ?_ | refine apG ?_); conv => whnf)
  rw [hmin]
  (conv => whnf); repeat ((first | with_reducible (first | refine Pt.go ?_ | refine dA ?_ | refine dL ?_) | refine Br.t ?_ | refine Br.f ?_ | refine bT ?_ | refine bF ?_ | refine Opt.mk ?_ | with_reducible refine aR ?_ | refine ⟨fun h => absurd (congrArg List.length h) (Nat.succ_ne_zero _), fun _ => ?_⟩ | refine aC ?_ | refine apG ?_); conv => whnf)
  refine Opt.of (get_map hv) ?_
  (conv => whnf); repeat ((first | with_reducible (first | refine Pt.go ?_ | refine dA ?_ | refine dL ?_) | refine Br.t ?_ | refine Br.f ?_ | refine bT ?_ | refine bF ?_ | refine Opt.mk ?_ | with_reducible refine aR ?_ | refine ⟨fun h => absurd (congrArg List.length h) (Nat.succ_ne_zero _), fun _ => ?_⟩ | refine aC ?_ | refine apG ?_); conv => whnf)
  rw [show decide (v = v) = true from decide_eq_true rfl]
  exact Ret.mk [.tmp 6] rfl ⟨rfl, rfl⟩
def askI (o : Option Nat) (n : Nat) : Nat := match o with
  | some i => i + 1
  | none => n
theorem idxS (room : Int) (c : List Int) (k : Int) (hl : c.length ≤ 1024) (hc : ∀ v ∈ c, I64 v) : Spec Try.prog 192 [.sl 0 0 1 0 c.length none, .fn (.func 145) [] [.ptr 1 0 1 0 0, .ptr 2 0 1 0 0, .ptr 3 0 2 0 0, .ptr 4 0 1 0 0]] (rowI c :: cbO room c k 0)
    (fun d os' => d = idxD (c.findIdx? (cutB k)) ∧ os' = rowI c :: cbO room c k (askI (c.findIdx? (cutB k)) c.length)) := by
  have hcm : (c.map (D.int .i64)).length = c.length := List.length_map ..
  refine Spec.by Try.func192 rfl (by decide) (by decide +kernel) rfl ?_
  (conv => whnf); repeat ((first | with_reducible (first | refine Pt.go ?_ | refine dA ?_ | refine dL ?_) | refine Br.t ?_ | refine Br.f ?_ | refine bT ?_ | refine bF ?_ | refine Opt.mk ?_ | with_reducible refine aR ?_ | refine ⟨fun h => absurd (congrArg List.length h) (Nat.succ_ne_zero _), fun _ => ?_⟩ | refine aC ?_ | refine apG ?_); conv => whnf)
  refine Loop.inv (A := Nat) (List.range 19) (fun i => [(0, .sl 0 0 1 0 c.length none), (1, .fn (.func 145) [] [.ptr 1 0 1 0 0, .ptr 2 0 1 0 0, .ptr 3 0 2 0 0, .ptr 4 0 1 0 0]), (4, .int .i64 0), (7, .int .i64 (c.length : Int)), (8, .int .i64 (i : Int))]) (fun i => rowI c :: cbO room c k i) (fun i => i ≤ c.length ∧ ∀ x ∈ c.take i, cutB k x = false) (fun i => c.length - i) 0 ⟨Nat.zero_le _, by simp⟩ ?_ ?_
  · exact Weak.start' rfl rfl (by repeat (first | exact trivial | refine And.intro (by first | rfl | exact congrArg (fun n => D.sl _ _ _ _ n none) List.length_append | exact congrArg _ (by omega)) ?_))
  rintro i ⟨hi, hf⟩
  (conv => whnf); repeat ((first | with_reducible (first | refine Pt.go ?_ | refine dA ?_ | refine dL ?_) | refine Br.t ?_ | refine Br.f ?_ | refine bT ?_ | refine bF ?_ | refine Opt.mk ?_ | with_reducible refine aR ?_ | refine ⟨fun h => absurd (congrArg List.length h) (Nat.succ_ne_zero _), fun _ => ?_⟩ | refine aC ?_ | refine apG ?_); conv => whnf)
  refine Br.dec (fun h => ?_) (fun h => ?_)
  · have hil : i < c.length := by omega
    have hget : c[i]? = some c[i] := List.getElem?_eq_getElem hil
    have hget' : c[0 + i]? = some c[i] := by rw [Nat.zero_add]; exact hget
    (conv => whnf); repeat ((first | with_reducible (first | refine Pt.go ?_ | refine dA ?_ | refine dL ?_) | refine Br.t ?_ | refine Br.f ?_ | refine bT ?_ | refine bF ?_ | refine Opt.mk ?_ | with_reducible refine aR ?_ | refine ⟨fun h => absurd (congrArg List.length h) (Nat.succ_ne_zero _), fun _ => ?_⟩ | refine aC ?_ | refine apG ?_); conv => whnf)
    refine Opt.of (get_map hget') ?_
    (conv => whnf); repeat ((first | with_reducible (first | refine Pt.go ?_ | refine dA ?_ | refine dL ?_) | refine Br.t ?_ | refine Br.f ?_ | refine bT ?_ | refine bF ?_ | refine Opt.mk ?_ | with_reducible refine aR ?_ | refine ⟨fun h => absurd (congrArg List.length h) (Nat.succ_ne_zero _), fun _ => ?_⟩ | refine aC ?_ | refine apG ?_); conv => whnf)
    refine Call.mk ((cb145 room c k hl i c[i] hget (hc _ (List.getElem_mem hil))).frame (rowI c :: cbO room c k i) [(1, 0), (2, 0), (3, 0), (4, 0)] rfl (by decide) (fun p q hk => by
        match p, hk with
        | 0, hk => simp at hk; subst hk; exact ⟨Nat.le_of_ble_eq_true rfl, rfl, rfl, fun j hj => one_pos _ hj⟩
        | 1, hk => simp at hk; subst hk; exact ⟨Nat.le_of_ble_eq_true rfl, rfl, rfl, fun j hj => one_pos _ hj⟩
        | 2, hk => simp at hk; subst hk; exact ⟨Nat.le_of_ble_eq_true rfl, rfl, rfl, fun j hj => one_pos _ hj⟩
        | 3, hk => simp at hk; subst hk; exact ⟨Nat.le_of_ble_eq_true rfl, rfl, rfl, fun j hj => one_pos _ hj⟩
        | p + 4, hk => simp at hk) rfl) ?_
    rintro d os' ⟨d1, os1, ⟨rfl, rfl⟩, rfl, rfl⟩
    rw [show merge [(1, 0), (2, 0), (3, 0), (4, 0)] (rowI c :: cbO room c k i) (cbO room c k (i + 1)) = rowI c :: cbO room c k (i + 1) from rfl, show (D.bool (cutB k c[i])).mapId (lead [(1, 0), (2, 0), (3, 0), (4, 0)] (rowI c :: cbO room c k i).length) = D.bool (cutB k c[i]) from rfl]
    cases hb : cutB k c[i] with
    | true =>
      rw [find_at (q := cutB k) hil hb hf]
      (conv => whnf); repeat ((first | with_reducible (first | refine Pt.go ?_ | refine dA ?_ | refine dL ?_) | refine Br.t ?_ | refine Br.f ?_ | refine bT ?_ | refine bF ?_ | refine Opt.mk ?_ | with_reducible refine aR ?_ | refine ⟨fun h => absurd (congrArg List.length h) (Nat.succ_ne_zero _), fun _ => ?_⟩ | refine aC ?_ | refine apG ?_); conv => whnf)
      exact Ret.mk [.tmp 4] rfl ⟨rfl, rfl⟩
    | false =>
      (conv => whnf); repeat ((first | with_reducible (first | refine Pt.go ?_ | refine dA ?_ | refine dL ?_) | refine Br.t ?_ | refine Br.f ?_ | refine bT ?_ | refine bF ?_ | refine Opt.mk ?_ | with_reducible refine aR ?_ | refine ⟨fun h => absurd (congrArg List.length h) (Nat.succ_ne_zero _), fun _ => ?_⟩ | refine aC ?_ | refine apG ?_); conv => whnf)
      refine ⟨_, _, _, ?_, ⟨i + 1, ?_, rfl, rfl, rfl⟩, ?_⟩
      · show c.length - (i + 1) < c.length - i; omega
      · exact ⟨hil, take_more hil hb hf⟩
      · refine Weak.backT 5 (by simp) (by first | rfl | kernel_rfl) (by kernel_rfl) (Nat.le_of_ble_eq_true rfl) (by repeat (first | exact trivial | refine And.intro (by first | rfl | exact congrArg (fun n => D.sl _ _ _ _ n none) List.length_append | exact congrArg _ (by omega)) ?_)) (by kernel_rfl) (by kernel_rfl)
  · have hfi := find_none (q := cutB k) (xs := c) (i := i) (by omega) hf
    have hin : i = c.length := by omega
    rw [hfi]
    subst hin
    (conv => whnf); repeat ((first | with_reducible (first | refine Pt.go ?_ | refine dA ?_ | refine dL ?_) | refine Br.t ?_ | refine Br.f ?_ | refine bT ?_ | refine bF ?_ | refine Opt.mk ?_ | with_reducible refine aR ?_ | refine ⟨fun h => absurd (congrArg List.length h) (Nat.succ_ne_zero _), fun _ => ?_⟩ | refine aC ?_ | refine apG ?_); conv => whnf)
    exact Ret.mk [.tmp 4] rfl ⟨rfl, rfl⟩
end Go.Proofs.Ytaplihoeephbeaa.V
