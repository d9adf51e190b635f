/- R13: a text of a symbolic executor that is proved sound, and contracts that are proved with it. -/
import Derived.Test.YtaplihoeephbeaaR12
namespace Go.Proofs.Ytaplihoeephbeaa.V
open Go Go.Proofs
set_option linter.unusedVariables false
set_option maxRecDepth 100000
set_option maxHeartbeats 40000000
theorem cutS {room a n : Int} {L c : List Int} (h : Rg room a n L c) (rr k : Int) (hc : ∀ v ∈ c, I64 v) :
    Spec Try.prog 64 [.ptr 0 0 4 0 0, .fn (.func 145) [] [.ptr 2 0 1 0 0, .ptr 3 0 1 0 0, .ptr 4 0 2 0 0, .ptr 5 0 1 0 0]] (rgC room a n L.length 1 :: rowI L :: cbO rr c k 0)
      (fun d os' => ∃ a' n' L', (d = .int .i64 ((c.length : Int) - ((c.filter (fun x => !cutB k x)).length : Int)) ∧ Rg room a' n' L' (c.filter (fun x => !cutB k x))) ∧ os' = [rgC room a' n' L'.length 6, one .gone, one (.row 4 1 false [.bool true]), one (.row 3 1 false [.int .i64 (c.length : Int)]), one (.row 71 2 false [rfD rr c]), one (.row 3 1 false [.int .i64 k]), rowI L']) := by
  have hcl : c.length ≤ 1024 := by have := h.cl; have := h.ll; have := h.rm; omega
  have hnl := h.nl
  refine Spec.by Try.func64 rfl (by decide) (by decide +kernel) rfl ?_
  (conv => whnf); repeat ((first | with_reducible (first | refine Pt.go ?_ | refine dA ?_ | refine dL ?_) | refine Br.t ?_ | refine Br.f ?_ | refine bT ?_ | refine bF ?_ | refine Opt.mk ?_ | with_reducible refine aR ?_ | refine ⟨fun h => absurd (congrArg List.length h) (Nat.succ_ne_zero _), fun _ => ?_⟩ | refine aC ?_ | refine apG ?_); conv => whnf)
  refine Call.mk (rg_frame (list123 h) 0 1 _ rfl rfl (by decide) rfl) ?_
  rintro d os' ⟨d1, os1, ⟨rfl, rfl⟩, rfl, rfl⟩
  (conv => whnf); repeat ((first | with_reducible (first | refine Pt.go ?_ | refine dA ?_ | refine dL ?_) | refine Br.t ?_ | refine Br.f ?_ | refine bT ?_ | refine bF ?_ | refine Opt.mk ?_ | with_reducible refine aR ?_ | refine ⟨fun h => absurd (congrArg List.length h) (Nat.succ_ne_zero _), fun _ => ?_⟩ | refine aC ?_ | refine apG ?_); conv => whnf)
  refine Call.mk ((delS rr c k hcl hc).frame _ [(8, 0), (2, 0), (3, 0), (4, 0), (5, 0)] rfl (by decide) (fun p q hk => by
    match p, hk with
    | 0, hk => simp at hk; subst hk; exact ⟨Nat.le_of_ble_eq_true rfl, rfl, rfl, fun j hj => one_pos _ hj⟩
    | 1, hk => simp at hk; subst hk; exact ⟨Nat.le_of_ble_eq_true rfl, rfl, rfl, fun j hj => one_pos _ hj⟩
    | 2, hk => simp at hk; subst hk; exact ⟨Nat.le_of_ble_eq_true rfl, rfl, rfl, fun j hj => one_pos _ hj⟩
    | 3, hk => simp at hk; subst hk; exact ⟨Nat.le_of_ble_eq_true rfl, rfl, rfl, fun j hj => one_pos _ hj⟩
    | 4, hk => simp at hk; subst hk; exact ⟨Nat.le_of_ble_eq_true rfl, rfl, rfl, fun j hj => one_pos _ hj⟩
    | p + 5, hk => simp at hk) rfl) ?_
  rintro d os' ⟨d1, os1, ⟨z, rfl, rfl⟩, rfl, rfl⟩
  obtain ⟨f, hf⟩ : ∃ f, c.filter (fun x => !cutB k x) = f := ⟨_, rfl⟩
  have hfl : f.length ≤ c.length := by rw [← hf]; exact List.length_filter_le _ _
  rw [hf]
  (conv => whnf); repeat ((first | with_reducible (first | refine dA ?_ | refine dL ?_) | refine Br.t ?_ | refine Br.f ?_ | refine bT ?_ | refine bF ?_ | refine Opt.mk ?_ | with_reducible refine aR ?_ | refine ⟨fun h => absurd (congrArg List.length h) (Nat.succ_ne_zero _), fun _ => ?_⟩ | refine aC ?_ | refine apG ?_); conv => whnf)
  refine Pt.weak (Weak.only [(0, .ptr 0 0 4 0 0), (4, .int .i64 0), (5, .int .i64 n)] [one (.row 176 4 false [.agg [.int .i64 room, .int .i64 a, .sl 8 0 1 0 f.length none, .int .i64 n]]), rowI L, one (.row 4 1 false [.bool true]), one (.row 3 1 false [.int .i64 (c.length : Int)]), one (.row 71 2 false [rfD rr c]), one (.row 3 1 false [.int .i64 k]), one (.row 23 1 false [.sl 8 0 1 0 c.length none]), one (.row 56 1 false [.ptr 0 0 4 0 0]), rowI (f ++ z), one .gone] (by kernel_rfl) (by repeat (first | exact trivial | refine And.intro (by first | rfl | exact congrArg (fun n => D.sl _ _ _ _ n none) List.length_append | exact congrArg _ (by omega)) ?_))) ?_
  refine Pt.frz (fun k => Nat.beq k 1 || (Nat.beq k 6 || Nat.beq k 7)) [] trivial ?_
  refine Pt.weak (Weak.cutRow 8 f.length (t := 3) (sz := 1) (pr := true) (es := (f ++ z).map (D.int .i64)) rfl) ?_
  rw [show ((f ++ z).map (D.int .i64)).take f.length = f.map (D.int .i64) by rw [List.map_append, List.take_left' (List.length_map ..)]]
  refine Pt.weak (Weak.shift 8 6 (by decide) (by simp) (Nat.le_of_ble_eq_true rfl) (Nat.le_of_ble_eq_true rfl) (fun j => by cases j <;> rfl) rfl) ?_
  refine Pt.weak (Weak.trim 7 (Nat.le_of_ble_eq_true rfl) rfl (Nat.le_of_ble_eq_true rfl)) ?_
  (conv => whnf); repeat ((first | with_reducible (first | refine Pt.go ?_ | refine dA ?_ | refine dL ?_) | refine Br.t ?_ | refine Br.f ?_ | refine bT ?_ | refine bF ?_ | refine Opt.mk ?_ | with_reducible refine aR ?_ | refine ⟨fun h => absurd (congrArg List.length h) (Nat.succ_ne_zero _), fun _ => ?_⟩ | refine aC ?_ | refine apG ?_); conv => whnf)
  have hlr := h.ll
  have hcL := h.cl
  refine Ret.mk [.tmp 4] rfl ⟨0, f.length, f, ⟨?_, ⟨h.rm, rfl, Nat.le_refl _, by omega, Int.le_refl _, ?_, fun i hi => ?_⟩⟩, rfl⟩
  · rw [hnl]
  · cases f with
    | nil => exact .inl ⟨rfl, rfl⟩
    | cons v f => exact .inr (by rw [List.length_cons]; omega)
  · rw [show (0 : Int).toNat = 0 from rfl, Nat.zero_add, Nat.mod_eq_of_lt hi]
end Go.Proofs.Ytaplihoeephbeaa.V
