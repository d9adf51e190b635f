/- R10: a text of a symbolic executor that is proved sound, and contracts that are proved with it. -/
import Derived.Test.YtaplihoeephbeaaR9
namespace Go.Proofs.Ytaplihoeephbeaa.V
open Go Go.Proofs
set_option linter.unusedVariables false
set_option maxRecDepth 100000
set_option maxHeartbeats 40000000
@[reducible] def rfD (room : Int) (c : List Int) : D := .agg [.int .i64 room, ints c]
theorem ref_push142 (room : Int) (c : List Int) (v : Int) (h : (c.length : Int) ≤ room) (hl : c.length ≤ 1024) : Spec Try.prog 142 [rfD room c, .int .i64 v] [] (fun d os' => d = .tup [rfD room (pushC room c v).2, .int .i64 (pushC room c v).1] ∧ os' = []) := by
  have hcm : (c.map (D.int .i64)).length = c.length := List.length_map ..
  refine Spec.frz (post' := fun d => d = .tup [rfD room (pushC room c v).2, .int .i64 (pushC room c v).1]) ?_
  refine Spec.by Try.func142 rfl (by decide) (by decide +kernel) rfl ?_
  (conv => whnf); repeat ((first | with_reducible (first | refine Pt.go ?_ | refine dA ?_ | refine dL ?_) | refine Br.t ?_ | refine Br.f ?_ | refine bT ?_ | refine bF ?_ | refine Opt.mk ?_ | with_reducible refine aR ?_ | refine ⟨fun h => absurd (congrArg List.length h) (Nat.succ_ne_zero _), fun _ => ?_⟩ | refine aC ?_ | refine apG ?_); conv => whnf)
  refine Br.dec (fun h0 => ?_) (fun h0 => ?_)
  · have e : pushC room c v = (6, c) := by unfold pushC; rw [if_pos (by omega)]
    rw [e]
    (conv => whnf); repeat ((first | with_reducible (first | refine Pt.go ?_ | refine dA ?_ | refine dL ?_) | refine Br.t ?_ | refine Br.f ?_ | refine bT ?_ | refine bF ?_ | refine Opt.mk ?_ | with_reducible refine aR ?_ | refine ⟨fun h => absurd (congrArg List.length h) (Nat.succ_ne_zero _), fun _ => ?_⟩ | refine aC ?_ | refine apG ?_); conv => whnf)
    refine Ret.mk [.cell 4 71, .tmp 5] rfl ?_; (conv => whnf); repeat ((first | with_reducible (first | refine Pt.go ?_ | refine dA ?_ | refine dL ?_) | refine Br.t ?_ | refine Br.f ?_ | refine bT ?_ | refine bF ?_ | refine Opt.mk ?_ | with_reducible refine aR ?_ | refine ⟨fun h => absurd (congrArg List.length h) (Nat.succ_ne_zero _), fun _ => ?_⟩ | refine aC ?_ | refine apG ?_); conv => whnf)
    exact ⟨_, View.same _, rfl, rfl⟩
  · have e : pushC room c v = (0, c ++ [v]) := by unfold pushC; rw [if_neg (by omega)]
    rw [e]
    (conv => whnf); repeat ((first | with_reducible (first | refine dA ?_ | refine dL ?_) | refine Br.t ?_ | refine Br.f ?_ | refine bT ?_ | refine bF ?_ | refine Opt.mk ?_ | with_reducible refine aR ?_ | refine ⟨fun h => absurd (congrArg List.length h) (Nat.succ_ne_zero _), fun _ => ?_⟩ | refine aC ?_ | refine apG ?_); conv => whnf)
    ((with_reducible refine Pt.go ?_); conv => whnf)
    (conv => whnf); repeat ((first | with_reducible (first | refine dA ?_ | refine dL ?_) | refine Br.t ?_ | refine Br.f ?_ | refine bT ?_ | refine bF ?_ | refine Opt.mk ?_ | with_reducible refine aR ?_ | refine ⟨fun h => absurd (congrArg List.length h) (Nat.succ_ne_zero _), fun _ => ?_⟩ | refine aC ?_ | refine apG ?_); conv => whnf)
    refine Pt.weak (Weak.nilrow 6 rfl 3 1 true) ?_
    (conv => whnf); repeat ((first | with_reducible (first | refine Pt.go ?_ | refine dA ?_ | refine dL ?_) | refine Br.t ?_ | refine Br.f ?_ | refine bT ?_ | refine bF ?_ | refine Opt.mk ?_ | with_reducible refine aR ?_ | refine ⟨fun h => absurd (congrArg List.length h) (Nat.succ_ne_zero _), fun _ => ?_⟩ | refine aC ?_ | refine apG ?_); conv => whnf)
    refine App.only false rfl rfl ?_
    (conv => whnf); repeat ((first | with_reducible (first | refine dA ?_ | refine dL ?_) | refine Br.t ?_ | refine Br.f ?_ | refine bT ?_ | refine bF ?_ | refine Opt.mk ?_ | with_reducible refine aR ?_ | refine ⟨fun h => absurd (congrArg List.length h) (Nat.succ_ne_zero _), fun _ => ?_⟩ | refine aC ?_ | refine apG ?_); conv => whnf)
    refine Pt.weak (Weak.only [(2, .ptr 0 0 2 0 0), (4, .ptr 1 0 2 0 0)] [one (.row 71 2 false [.agg [.int .i64 room, .sl 4 0 1 0 (0 + (c.map (D.int .i64)).length + 1) none]]), one (.row 71 2 false [.agg [.int .i64 0, .nils]]), one .gone, one .gone, one (.row 3 1 true (c.map (D.int .i64) ++ [D.int .i64 v]))] (by kernel_rfl) (by repeat (first | exact trivial | refine And.intro (by first | rfl | exact congrArg (fun n => D.sl _ _ _ _ n none) List.length_append | exact congrArg _ (by omega)) ?_))) ?_
    rw [map_snoc]
    (conv => whnf); repeat ((first | with_reducible (first | refine Pt.go ?_ | refine dA ?_ | refine dL ?_) | refine Br.t ?_ | refine Br.f ?_ | refine bT ?_ | refine bF ?_ | refine Opt.mk ?_ | with_reducible refine aR ?_ | refine ⟨fun h => absurd (congrArg List.length h) (Nat.succ_ne_zero _), fun _ => ?_⟩ | refine aC ?_ | refine apG ?_); conv => whnf)
    refine Ret.mk [.cell 4 71, .tmp 5] rfl ?_; (conv => whnf); repeat ((first | with_reducible (first | refine Pt.go ?_ | refine dA ?_ | refine dL ?_) | refine Br.t ?_ | refine Br.f ?_ | refine bT ?_ | refine bF ?_ | refine Opt.mk ?_ | with_reducible refine aR ?_ | refine ⟨fun h => absurd (congrArg List.length h) (Nat.succ_ne_zero _), fun _ => ?_⟩ | refine aC ?_ | refine apG ?_); conv => whnf)
    exact ⟨.tup [rfD room (c ++ [v]), .int .i64 0], View.tup (.cons (View.agg (.cons (.same _) (.cons (View.slAll rfl rfl (by rw [hcm, List.length_map, List.length_append, List.length_singleton]; omega) (by simp) (ViewL.same _) (pureL_map (fun _ => rfl) _)) .nil))) (.same _)), rfl, rfl⟩
theorem ref_pop143 (room : Int) (c : List Int) (hl : c.length ≤ 1024) : Spec Try.prog 143 [rfD room c] [] (fun d os' => d = .tup [rfD room c.tail, .int .i64 (popC c).1, .int .i64 (popC c).2] ∧ os' = []) := by
  have hcm : (c.map (D.int .i64)).length = c.length := List.length_map ..
  refine Spec.frz (post' := fun d => d = .tup [rfD room c.tail, .int .i64 (popC c).1, .int .i64 (popC c).2]) ?_
  refine Spec.by Try.func143 rfl (by decide) (by decide +kernel) rfl ?_
  (conv => whnf); repeat ((first | with_reducible (first | refine Pt.go ?_ | refine dA ?_ | refine dL ?_) | refine Br.t ?_ | refine Br.f ?_ | refine bT ?_ | refine bF ?_ | refine Opt.mk ?_ | with_reducible refine aR ?_ | refine ⟨fun h => absurd (congrArg List.length h) (Nat.succ_ne_zero _), fun _ => ?_⟩ | refine aC ?_ | refine apG ?_); conv => whnf)
  cases c with
  | nil =>
    (conv => whnf); repeat ((first | with_reducible (first | refine Pt.go ?_ | refine dA ?_ | refine dL ?_) | refine Br.t ?_ | refine Br.f ?_ | refine bT ?_ | refine bF ?_ | refine Opt.mk ?_ | with_reducible refine aR ?_ | refine ⟨fun h => absurd (congrArg List.length h) (Nat.succ_ne_zero _), fun _ => ?_⟩ | refine aC ?_ | refine apG ?_); conv => whnf)
    refine Ret.mk [.cell 2 71, .tmp 3, .tmp 4] rfl ?_; (conv => whnf); repeat ((first | with_reducible (first | refine Pt.go ?_ | refine dA ?_ | refine dL ?_) | refine Br.t ?_ | refine Br.f ?_ | refine bT ?_ | refine bF ?_ | refine Opt.mk ?_ | with_reducible refine aR ?_ | refine ⟨fun h => absurd (congrArg List.length h) (Nat.succ_ne_zero _), fun _ => ?_⟩ | refine aC ?_ | refine apG ?_); conv => whnf)
    exact ⟨_, View.same _, rfl, rfl⟩
  | cons v c =>
    have h0 : ¬ ((((v :: c).map (D.int .i64)).length : Int) = 0) := by rw [hcm, List.length_cons]; omega
    (conv => whnf); repeat ((first | with_reducible (first | refine Pt.go ?_ | refine dA ?_ | refine dL ?_) | refine Br.t ?_ | refine Br.f ?_ | refine bT ?_ | refine bF ?_ | refine Opt.mk ?_ | with_reducible refine aR ?_ | refine ⟨fun h => absurd (congrArg List.length h) (Nat.succ_ne_zero _), fun _ => ?_⟩ | refine aC ?_ | refine apG ?_); conv => whnf)
    refine Nm.mk (c.map (D.int .i64)) (by show c.map (D.int .i64) = (((v :: c).map (D.int .i64)).take (((v :: c).map (D.int .i64)).length : Int).toNat).drop (1 : Int).toNat; rw [List.take_of_length_le (by rw [Int.toNat_natCast]; exact Nat.le_refl _)]; rfl) ?_
    (conv => whnf); repeat ((first | with_reducible (first | refine Pt.go ?_ | refine dA ?_ | refine dL ?_) | refine Br.t ?_ | refine Br.f ?_ | refine bT ?_ | refine bF ?_ | refine Opt.mk ?_ | with_reducible refine aR ?_ | refine ⟨fun h => absurd (congrArg List.length h) (Nat.succ_ne_zero _), fun _ => ?_⟩ | refine aC ?_ | refine apG ?_); conv => whnf)
    refine Ret.mk [.cell 2 71, .tmp 3, .tmp 4] rfl ?_; (conv => whnf); repeat ((first | with_reducible (first | refine Pt.go ?_ | refine dA ?_ | refine dL ?_) | refine Br.t ?_ | refine Br.f ?_ | refine bT ?_ | refine bF ?_ | refine Opt.mk ?_ | with_reducible refine aR ?_ | refine ⟨fun h => absurd (congrArg List.length h) (Nat.succ_ne_zero _), fun _ => ?_⟩ | refine aC ?_ | refine apG ?_); conv => whnf)
    exact ⟨_, View.same _, rfl, rfl⟩
/-- Those that are k modulo 3. -/
def cutB (k v : Int) : Bool := decide ((v.tmod 3 + 3).tmod 3 = k)
theorem tmod3 (v : Int) (hv : I64 v) : -3 < v.tmod 3 ∧ v.tmod 3 < 3 := by
  constructor
  · have := Int.lt_tmod_of_pos v (b := 3) (by decide); omega
  · exact Int.tmod_lt_of_pos v (by decide)
theorem ref_cut144 (room : Int) (c : List Int) (k : Int) (hl : c.length ≤ 1024) (hc : ∀ v ∈ c, I64 v) : Spec Try.prog 144 [rfD room c, .int .i64 k, .int .i64 3] [] (fun d os' => d = .tup [rfD room (c.filter (fun v => !cutB k v)), .int .i64 ((c.length : Int) - ((c.filter (fun v => !cutB k v)).length : Int))] ∧ os' = []) := by
  have hcm : (c.map (D.int .i64)).length = c.length := List.length_map ..
  refine Spec.frz (post' := fun d => d = .tup [rfD room (c.filter (fun v => !cutB k v)), .int .i64 ((c.length : Int) - ((c.filter (fun v => !cutB k v)).length : Int))]) ?_
  refine Spec.by Try.func144 rfl (by decide) (by decide +kernel) rfl ?_
  (conv => whnf); repeat ((first | with_reducible (first | refine dA ?_ | refine dL ?_) | refine Br.t ?_ | refine Br.f ?_ | refine bT ?_ | refine bF ?_ | refine Opt.mk ?_ | with_reducible refine aR ?_ | refine ⟨fun h => absurd (congrArg List.length h) (Nat.succ_ne_zero _), fun _ => ?_⟩ | refine aC ?_ | refine apG ?_); conv => whnf)
  ((with_reducible refine Pt.go ?_); conv => whnf)
  (conv => whnf); repeat ((first | with_reducible (first | refine dA ?_ | refine dL ?_) | refine Br.t ?_ | refine Br.f ?_ | refine bT ?_ | refine bF ?_ | refine Opt.mk ?_ | with_reducible refine aR ?_ | refine ⟨fun h => absurd (congrArg List.length h) (Nat.succ_ne_zero _), fun _ => ?_⟩ | refine aC ?_ | refine apG ?_); conv => whnf)
  ((with_reducible refine Pt.go ?_); conv => whnf)
  (conv => whnf); repeat ((first | with_reducible (first | refine dA ?_ | refine dL ?_) | refine Br.t ?_ | refine Br.f ?_ | refine bT ?_ | refine bF ?_ | refine Opt.mk ?_ | with_reducible refine aR ?_ | refine ⟨fun h => absurd (congrArg List.length h) (Nat.succ_ne_zero _), fun _ => ?_⟩ | refine aC ?_ | refine apG ?_); conv => whnf)
  refine Pt.weak (Weak.nilrow 8 rfl 3 1 true) ?_
  (conv => whnf); repeat ((first | with_reducible (first | refine Pt.go ?_ | refine dA ?_ | refine dL ?_) | refine Br.t ?_ | refine Br.f ?_ | refine bT ?_ | refine bF ?_ | refine Opt.mk ?_ | with_reducible refine aR ?_ | refine ⟨fun h => absurd (congrArg List.length h) (Nat.succ_ne_zero _), fun _ => ?_⟩ | refine aC ?_ | refine apG ?_); conv => whnf)
  refine Loop.inv (A := Nat) (List.range 49) (fun i => [(1, .int .i64 k), (2, .int .i64 3), (3, .ptr 0 0 2 0 0), (6, .ptr 1 0 2 0 0), (8, .sl 2 0 1 0 ((c.take i).filter (fun v => !cutB k v)).length none), (9, .int .i64 (i : Int))]) (fun i => [one (.row 71 2 false [rfD room c]), one (.row 71 2 false [.agg [.int .i64 0, .nils]]), rowI ((c.take i).filter (fun v => !cutB k v))]) (fun i => i ≤ c.length) (fun i => c.length - i) 0 (Nat.zero_le _) ?_ ?_
  · exact Weak.start' rfl rfl (by repeat (first | exact trivial | refine And.intro (by first | rfl | exact congrArg (fun n => D.sl _ _ _ _ n none) List.length_append | exact congrArg _ (by omega)) ?_))
  rintro i hi
  have hfl : ((c.take i).filter (fun v => !cutB k v)).length ≤ i := Nat.le_trans (List.length_filter_le _ _) (by rw [List.length_take]; omega)
  have hfm : (((c.take i).filter (fun v => !cutB k v)).map (D.int .i64)).length = ((c.take i).filter (fun v => !cutB k v)).length := List.length_map ..
  (conv => whnf); repeat ((first | with_reducible (first | refine Pt.go ?_ | refine dA ?_ | refine dL ?_) | refine Br.t ?_ | refine Br.f ?_ | refine bT ?_ | refine bF ?_ | refine Opt.mk ?_ | with_reducible refine aR ?_ | refine ⟨fun h => absurd (congrArg List.length h) (Nat.succ_ne_zero _), fun _ => ?_⟩ | refine aC ?_ | refine apG ?_); conv => whnf)
  refine Br.dec (fun h0 => ?_) (fun h0 => ?_)
  · have hil : i < c.length := by omega
    have hget : c[i]? = some c[i] := List.getElem?_eq_getElem hil
    have hI := tmod3 c[i] (hc _ (List.getElem_mem hil))
    have hfs : (c.take (i + 1)).filter (fun v => !cutB k v) = (c.take i).filter (fun v => !cutB k v) ++ (if cutB k c[i] then [] else [c[i]]) := by
      rw [List.take_add_one, hget, List.filter_append]
      cases h : cutB k c[i] <;> simp [h]
    (conv => whnf); repeat ((first | with_reducible (first | refine Pt.go ?_ | refine dA ?_ | refine dL ?_) | refine Br.t ?_ | refine Br.f ?_ | refine bT ?_ | refine bF ?_ | refine Opt.mk ?_ | with_reducible refine aR ?_ | refine ⟨fun h => absurd (congrArg List.length h) (Nat.succ_ne_zero _), fun _ => ?_⟩ | refine aC ?_ | refine apG ?_); conv => whnf)
    refine Opt.of (get_map hget) ?_
    (conv => whnf); repeat ((first | with_reducible (first | refine Pt.go ?_ | refine dA ?_ | refine dL ?_) | refine Br.t ?_ | refine Br.f ?_ | refine bT ?_ | refine bF ?_ | refine Opt.mk ?_ | with_reducible refine aR ?_ | refine ⟨fun h => absurd (congrArg List.length h) (Nat.succ_ne_zero _), fun _ => ?_⟩ | refine aC ?_ | refine apG ?_); conv => whnf)
    by_cases hb : (c[i].tmod 3 + 3).tmod 3 = k
    · have hcu : cutB k c[i] = true := decide_eq_true hb
      rw [hcu, if_pos rfl, List.append_nil] at hfs
      (conv => whnf); repeat ((first | with_reducible (first | refine Pt.go ?_ | refine dA ?_ | refine dL ?_) | refine Br.t ?_ | refine Br.f ?_ | refine bT ?_ | refine bF ?_ | refine Opt.mk ?_ | with_reducible refine aR ?_ | refine ⟨fun h => absurd (congrArg List.length h) (Nat.succ_ne_zero _), fun _ => ?_⟩ | refine aC ?_ | refine apG ?_); conv => whnf)
      refine ⟨_, _, _, ?_, ⟨i + 1, ?_, rfl, rfl, rfl⟩, ?_⟩
      · show c.length - (i + 1) < c.length - i; omega
      · exact hil
      · rw [hfs]
        refine Weak.backT 3 (by simp) (by first | rfl | kernel_rfl) (by kernel_rfl) (Nat.le_of_ble_eq_true rfl) (by repeat (first | exact trivial | refine And.intro (by first | rfl | exact congrArg (fun n => D.sl _ _ _ _ n none) List.length_append | exact congrArg _ (by omega)) ?_)) (by kernel_rfl) (by kernel_rfl)
    · have hcu : cutB k c[i] = false := decide_eq_false hb
      rw [hcu, if_neg (by decide)] at hfs
      (conv => whnf); repeat ((first | with_reducible (first | refine Pt.go ?_ | refine dA ?_ | refine dL ?_) | refine Br.t ?_ | refine Br.f ?_ | refine bT ?_ | refine bF ?_ | refine Opt.mk ?_ | with_reducible refine aR ?_ | refine ⟨fun h => absurd (congrArg List.length h) (Nat.succ_ne_zero _), fun _ => ?_⟩ | refine aC ?_ | refine apG ?_); conv => whnf)
      refine Opt.of (get_map hget) ?_
      (conv => whnf); repeat ((first | with_reducible (first | refine Pt.go ?_ | refine dA ?_ | refine dL ?_) | refine Br.t ?_ | refine Br.f ?_ | refine bT ?_ | refine bF ?_ | refine Opt.mk ?_ | with_reducible refine aR ?_ | refine ⟨fun h => absurd (congrArg List.length h) (Nat.succ_ne_zero _), fun _ => ?_⟩ | refine aC ?_ | refine apG ?_); conv => whnf)
      refine App.only false rfl rfl ?_
      (conv => whnf); repeat ((first | with_reducible (first | refine Pt.go ?_ | refine dA ?_ | refine dL ?_) | refine Br.t ?_ | refine Br.f ?_ | refine bT ?_ | refine bF ?_ | refine Opt.mk ?_ | with_reducible refine aR ?_ | refine ⟨fun h => absurd (congrArg List.length h) (Nat.succ_ne_zero _), fun _ => ?_⟩ | refine aC ?_ | refine apG ?_); conv => whnf)
      refine ⟨_, _, _, ?_, ⟨i + 1, ?_, rfl, rfl, rfl⟩, ?_⟩
      · show c.length - (i + 1) < c.length - i; omega
      · exact hil
      · rw [hfs]
        refine Weak.trans (Weak.shift 3 2 (by decide) (by simp) (Nat.le_of_ble_eq_true rfl) (Nat.le_of_ble_eq_true rfl) (fun j => by cases j <;> rfl) rfl) ?_
        refine Weak.trans (Weak.objs (os' := [one (.row 71 2 false [rfD room c]), one (.row 71 2 false [.agg [.int .i64 0, .nils]]), rowI ((c.take i).filter (fun v => !cutB k v) ++ [c[i]]), one .gone]) ?_) ?_
        · exact congrArg (fun r => ([one (.row 71 2 false [rfD room c]), one (.row 71 2 false [.agg [.int .i64 0, .nils]]), one (.row 3 1 true r), one .gone] : Objs)) (map_snoc _ _)
        dsimp only
        rw [List.length_append]
        refine Weak.backT 3 (by simp) (by first | rfl | kernel_rfl) (by kernel_rfl) (Nat.le_of_ble_eq_true rfl) (by repeat (first | exact trivial | refine And.intro (by first | rfl | exact congrArg (fun n => D.sl _ _ _ _ n none) List.length_append | exact congrArg _ (by omega)) ?_)) (by kernel_rfl) (by kernel_rfl)
  · have hil : i = c.length := by omega
    subst hil
    rw [List.take_length] at hfm hfl ⊢
    (conv => whnf); repeat ((first | with_reducible (first | refine Pt.go ?_ | refine dA ?_ | refine dL ?_) | refine Br.t ?_ | refine Br.f ?_ | refine bT ?_ | refine bF ?_ | refine Opt.mk ?_ | with_reducible refine aR ?_ | refine ⟨fun h => absurd (congrArg List.length h) (Nat.succ_ne_zero _), fun _ => ?_⟩ | refine aC ?_ | refine apG ?_); conv => whnf)
    refine Ret.mk [.cell 6 71, .tmp 7] rfl ?_; (conv => whnf); repeat ((first | with_reducible (first | refine Pt.go ?_ | refine dA ?_ | refine dL ?_) | refine Br.t ?_ | refine Br.f ?_ | refine bT ?_ | refine bF ?_ | refine Opt.mk ?_ | with_reducible refine aR ?_ | refine ⟨fun h => absurd (congrArg List.length h) (Nat.succ_ne_zero _), fun _ => ?_⟩ | refine aC ?_ | refine apG ?_); conv => whnf)
    refine ⟨.tup [rfD room (c.filter (fun v => !cutB k v)), .int .i64 (((c.map (D.int .i64)).length : Int) - ((c.filter (fun v => !cutB k v)).length : Int))], View.tup (.cons (View.agg (.cons (.same _) (.cons (View.slAll rfl rfl hfm (by simp) (ViewL.same _) (pureL_map (fun _ => rfl) _)) .nil))) (.same _)), rfl, by rw [hcm]⟩
end Go.Proofs.Ytaplihoeephbeaa.V
