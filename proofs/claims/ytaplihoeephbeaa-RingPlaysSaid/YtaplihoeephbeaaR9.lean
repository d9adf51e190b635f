/- R9: a text of a symbolic executor that is proved sound, and contracts that are proved with it. -/
import Derived.Test.YtaplihoeephbeaaR8
namespace Go.Proofs.Ytaplihoeephbeaa.V
open Go Go.Proofs
set_option linter.unusedVariables false
set_option maxRecDepth 100000
set_option maxHeartbeats 40000000
def cutsL (c : List Int) : List Int := c.filter (fun x => !decide (x < 0))
theorem law12 (room : Int) (hroom : I64 room) (l : List Int) (hl : lok l) (turns : Int) (hturns : I64 turns) : Spec Try.prog 12 [.int .i64 room, ints l, .int .i64 turns] [] (fun d _ => d = .bool true) := by
  have hlm : (l.map (D.int .i64)).length = l.length := List.length_map ..
  refine Spec.by Try.func12 rfl (by decide) (by decide +kernel) rfl ?_
  (conv => whnf); repeat ((first | with_reducible (first | refine Pt.go ?_ | refine dA ?_ | refine dL ?_) | refine Br.t ?_ | refine Br.f ?_ | refine bT ?_ | refine bF ?_ | refine Opt.mk ?_ | with_reducible refine aR ?_ | refine ⟨fun h => absurd (congrArg List.length h) (Nat.succ_ne_zero _), fun _ => ?_⟩ | refine aC ?_ | refine apG ?_); conv => whnf)
  refine Call.mk ((around33 room 21 hroom (by decide)).only _ rfl (by rintro d rfl; rfl)) ?_; rintro d os' ⟨rfl, rfl⟩
  have h10 := around_lt room 21 (by omega)
  obtain ⟨ra, hra⟩ : ∃ rm, around room 21 = rm := ⟨_, rfl⟩
  rw [hra] at h10 ⊢
  have hIa := roomI_id (n := ra) (by omega) (by omega)
  (conv => whnf); repeat ((first | with_reducible (first | refine Pt.go ?_ | refine dA ?_ | refine dL ?_) | refine Br.t ?_ | refine Br.f ?_ | refine bT ?_ | refine bF ?_ | refine Opt.mk ?_ | with_reducible refine aR ?_ | refine ⟨fun h => absurd (congrArg List.length h) (Nat.succ_ne_zero _), fun _ => ?_⟩ | refine aC ?_ | refine apG ?_); conv => whnf)
  apply cutG (A := List Int) (n0 := 0) (fun l' => [(0, .int .i64 ra), (1, ints l'), (2, .int .i64 turns), (6, .bool false)]) (fun _ => []) (fun l' => l'.length ≤ 25)
  · intro key
    refine Br.dec (fun h => ?_) (fun h => ?_)
    · have HL : (l.take 25).length ≤ 25 := by rw [List.length_take]; omega
      (conv => whnf); repeat ((first | with_reducible (first | refine dA ?_ | refine dL ?_) | refine Br.t ?_ | refine Br.f ?_ | refine bT ?_ | refine bF ?_ | refine Opt.mk ?_ | with_reducible refine aR ?_ | refine ⟨fun h => absurd (congrArg List.length h) (Nat.succ_ne_zero _), fun _ => ?_⟩ | refine aC ?_ | refine apG ?_); conv => whnf)
      ((with_reducible refine Pt.go ?_); conv => whnf)
      (conv => whnf); repeat ((first | with_reducible (first | refine dA ?_ | refine dL ?_) | refine Br.t ?_ | refine Br.f ?_ | refine bT ?_ | refine bF ?_ | refine Opt.mk ?_ | with_reducible refine aR ?_ | refine ⟨fun h => absurd (congrArg List.length h) (Nat.succ_ne_zero _), fun _ => ?_⟩ | refine aC ?_ | refine apG ?_); conv => whnf)
      refine Nm.mk ((l.take 25).map (D.int .i64)) (by rw [List.map_take]; rfl) ?_
      (conv => whnf); repeat ((first | with_reducible (first | refine dA ?_ | refine dL ?_) | refine Br.t ?_ | refine Br.f ?_ | refine bT ?_ | refine bF ?_ | refine Opt.mk ?_ | with_reducible refine aR ?_ | refine ⟨fun h => absurd (congrArg List.length h) (Nat.succ_ne_zero _), fun _ => ?_⟩ | refine aC ?_ | refine apG ?_); conv => whnf)
      refine Pt.weak (Weak.only [(0, .int .i64 ra), (1, ints (l.take 25)), (2, .int .i64 turns), (6, .bool false)] [] (by kernel_rfl) (by repeat (first | exact trivial | refine And.intro (by first | rfl | exact congrArg (fun n => D.sl _ _ _ _ n none) List.length_append | exact congrArg _ (by omega)) ?_))) (key _ HL)
    · (conv => whnf); repeat ((first | with_reducible (first | refine dA ?_ | refine dL ?_) | refine Br.t ?_ | refine Br.f ?_ | refine bT ?_ | refine bF ?_ | refine Opt.mk ?_ | with_reducible refine aR ?_ | refine ⟨fun h => absurd (congrArg List.length h) (Nat.succ_ne_zero _), fun _ => ?_⟩ | refine aC ?_ | refine apG ?_); conv => whnf)
      refine Pt.weak (Weak.only [(0, .int .i64 ra), (1, ints l), (2, .int .i64 turns), (6, .bool false)] [] (by kernel_rfl) (by repeat (first | exact trivial | refine And.intro (by first | rfl | exact congrArg (fun n => D.sl _ _ _ _ n none) List.length_append | exact congrArg _ (by omega)) ?_))) (key _ (by omega))
  clear hlm
  clear hl
  clear l
  intro l hl
  have hlm : (l.map (D.int .i64)).length = l.length := List.length_map ..
  (conv => whnf); repeat ((first | with_reducible (first | refine Pt.go ?_ | refine dA ?_ | refine dL ?_) | refine Br.t ?_ | refine Br.f ?_ | refine bT ?_ | refine bF ?_ | refine Opt.mk ?_ | with_reducible refine aR ?_ | refine ⟨fun h => absurd (congrArg List.length h) (Nat.succ_ne_zero _), fun _ => ?_⟩ | refine aC ?_ | refine apG ?_); conv => whnf)
  refine Call.mk (new46n ra) ?_
  rintro d os' ⟨⟨hg0, rfl⟩, rfl⟩
  rw [hIa] at hg0 ⊢
  (conv => whnf); repeat ((first | with_reducible (first | refine Pt.go ?_ | refine dA ?_ | refine dL ?_) | refine Br.t ?_ | refine Br.f ?_ | refine bT ?_ | refine bF ?_ | refine Opt.mk ?_ | with_reducible refine aR ?_ | refine ⟨fun h => absurd (congrArg List.length h) (Nat.succ_ne_zero _), fun _ => ?_⟩ | refine aC ?_ | refine apG ?_); conv => whnf)
  refine Loop.inv (A := Nat × (Int × Int × List Int)) (List.range 94) (fun x => [(0, .int .i64 ra), (1, ints l), (2, .int .i64 turns), (6, .bool false), (7, .ptr 0 0 4 0 0), (8, .int .i64 (x.1 : Int))]) (fun x => [rgC ra x.2.1 x.2.2.1 x.2.2.2.length 1, rowI x.2.2.2]) (fun x => x.1 ≤ 11 ∧ Rg ra x.2.1 x.2.2.1 x.2.2.2 []) (fun x => 11 - x.1) (0, (0, 0, [])) ⟨Nat.zero_le _, hg0⟩ ?_ ?_
  · exact Weak.start' rfl rfl (by repeat (first | exact trivial | refine And.intro (by first | rfl | exact congrArg (fun n => D.sl _ _ _ _ n none) List.length_append | exact congrArg _ (by omega)) ?_))
  rintro ⟨i, a, n, L⟩ ⟨hi, hg⟩
  dsimp only at hi hg ⊢
  (conv => whnf); repeat ((first | with_reducible (first | refine Pt.go ?_ | refine dA ?_ | refine dL ?_) | refine Br.t ?_ | refine Br.f ?_ | refine bT ?_ | refine bF ?_ | refine Opt.mk ?_ | with_reducible refine aR ?_ | refine ⟨fun h => absurd (congrArg List.length h) (Nat.succ_ne_zero _), fun _ => ?_⟩ | refine aC ?_ | refine apG ?_); conv => whnf)
  refine Call.mk ((around33 turns 11 hturns (by decide)).only _ rfl (by rintro d rfl; rfl)) ?_; rintro d os' ⟨rfl, rfl⟩
  have h11 := around_lt turns 11 (by omega)
  (conv => whnf); repeat ((first | with_reducible (first | refine Pt.go ?_ | refine dA ?_ | refine dL ?_) | refine Br.t ?_ | refine Br.f ?_ | refine bT ?_ | refine bF ?_ | refine Opt.mk ?_ | with_reducible refine aR ?_ | refine ⟨fun h => absurd (congrArg List.length h) (Nat.succ_ne_zero _), fun _ => ?_⟩ | refine aC ?_ | refine apG ?_); conv => whnf)
  refine Br.dec (fun h0 => ?_) (fun h0 => ?_)
  · (conv => whnf); repeat ((first | with_reducible (first | refine Pt.go ?_ | refine dA ?_ | refine dL ?_) | refine Br.t ?_ | refine Br.f ?_ | refine bT ?_ | refine bF ?_ | refine Opt.mk ?_ | with_reducible refine aR ?_ | refine ⟨fun h => absurd (congrArg List.length h) (Nat.succ_ne_zero _), fun _ => ?_⟩ | refine aC ?_ | refine apG ?_); conv => whnf)
    refine Call.mk (push47 hg (i : Int)) ?_
    rintro d os' ⟨a3, n3, L3, g, ⟨rfl, hg3⟩, rfl⟩
    have htl : (pushC ra [] (i : Int)).2.tail = [] := by unfold pushC; split <;> rfl
    cases g with
    | true =>
      (conv => whnf); repeat ((first | with_reducible (first | refine dA ?_ | refine dL ?_) | refine Br.t ?_ | refine Br.f ?_ | refine bT ?_ | refine bF ?_ | refine Opt.mk ?_ | with_reducible refine aR ?_ | refine ⟨fun h => absurd (congrArg List.length h) (Nat.succ_ne_zero _), fun _ => ?_⟩ | refine aC ?_ | refine apG ?_); conv => whnf)
      refine Pt.weak (Weak.only [(0, .int .i64 ra), (1, ints l), (2, .int .i64 turns), (6, .bool false), (7, .ptr 0 0 4 0 0), (8, .int .i64 (i : Int))] [rgC ra a3 n3 L3.length 2, one .gone, rowI L3] (by kernel_rfl) (by repeat (first | exact trivial | refine And.intro (by first | rfl | exact congrArg (fun n => D.sl _ _ _ _ n none) List.length_append | exact congrArg _ (by omega)) ?_))) ?_
      refine Pt.weak (Weak.shift 2 1 (by decide) (by simp) (Nat.le_of_ble_eq_true rfl) (Nat.le_of_ble_eq_true rfl) (fun j => by cases j <;> rfl) rfl) ?_
      refine Pt.weak (Weak.trim 2 (Nat.zero_le _) rfl (Nat.le_of_ble_eq_true rfl)) ?_
      (conv => whnf); repeat ((first | with_reducible (first | refine Pt.go ?_ | refine dA ?_ | refine dL ?_) | refine Br.t ?_ | refine Br.f ?_ | refine bT ?_ | refine bF ?_ | refine Opt.mk ?_ | with_reducible refine aR ?_ | refine ⟨fun h => absurd (congrArg List.length h) (Nat.succ_ne_zero _), fun _ => ?_⟩ | refine aC ?_ | refine apG ?_); conv => whnf)
      refine Call.mk (pop48x hg3) ?_
      rintro d os' ⟨a5, n5, L5, ⟨rfl, hg5⟩, rfl⟩
      rw [htl] at hg5
      (conv => whnf); repeat ((first | with_reducible (first | refine Pt.go ?_ | refine dA ?_ | refine dL ?_) | refine Br.t ?_ | refine Br.f ?_ | refine bT ?_ | refine bF ?_ | refine Opt.mk ?_ | with_reducible refine aR ?_ | refine ⟨fun h => absurd (congrArg List.length h) (Nat.succ_ne_zero _), fun _ => ?_⟩ | refine aC ?_ | refine apG ?_); conv => whnf)
      refine ⟨_, _, _, ?_, ⟨(i + 1, (a5, n5, L5)), ?_, rfl, rfl, rfl⟩, ?_⟩
      · show 11 - (i + 1) < 11 - i; omega
      · exact ⟨by show i + 1 ≤ 11; omega, hg5⟩
      · refine Weak.backT 2 (by simp) (by first | rfl | kernel_rfl) (by kernel_rfl) (Nat.le_of_ble_eq_true rfl) (by repeat (first | exact trivial | refine And.intro (by first | rfl | exact congrArg (fun n => D.sl _ _ _ _ n none) List.length_append | exact congrArg _ (by omega)) ?_)) (by kernel_rfl) (by kernel_rfl)
    | false =>
      (conv => whnf); repeat ((first | with_reducible (first | refine Pt.go ?_ | refine dA ?_ | refine dL ?_) | refine Br.t ?_ | refine Br.f ?_ | refine bT ?_ | refine bF ?_ | refine Opt.mk ?_ | with_reducible refine aR ?_ | refine ⟨fun h => absurd (congrArg List.length h) (Nat.succ_ne_zero _), fun _ => ?_⟩ | refine aC ?_ | refine apG ?_); conv => whnf)
      refine Call.mk (pop48x hg3) ?_
      rintro d os' ⟨a5, n5, L5, ⟨rfl, hg5⟩, rfl⟩
      rw [htl] at hg5
      (conv => whnf); repeat ((first | with_reducible (first | refine Pt.go ?_ | refine dA ?_ | refine dL ?_) | refine Br.t ?_ | refine Br.f ?_ | refine bT ?_ | refine bF ?_ | refine Opt.mk ?_ | with_reducible refine aR ?_ | refine ⟨fun h => absurd (congrArg List.length h) (Nat.succ_ne_zero _), fun _ => ?_⟩ | refine aC ?_ | refine apG ?_); conv => whnf)
      refine ⟨_, _, _, ?_, ⟨(i + 1, (a5, n5, L5)), ?_, rfl, rfl, rfl⟩, ?_⟩
      · show 11 - (i + 1) < 11 - i; omega
      · exact ⟨by show i + 1 ≤ 11; omega, hg5⟩
      · refine Weak.backT 2 (by simp) (by first | rfl | kernel_rfl) (by kernel_rfl) (Nat.le_of_ble_eq_true rfl) (by repeat (first | exact trivial | refine And.intro (by first | rfl | exact congrArg (fun n => D.sl _ _ _ _ n none) List.length_append | exact congrArg _ (by omega)) ?_)) (by kernel_rfl) (by kernel_rfl)
  · (conv => whnf); repeat ((first | with_reducible (first | refine dA ?_ | refine dL ?_) | refine Br.t ?_ | refine Br.f ?_ | refine bT ?_ | refine bF ?_ | refine Opt.mk ?_ | with_reducible refine aR ?_ | refine ⟨fun h => absurd (congrArg List.length h) (Nat.succ_ne_zero _), fun _ => ?_⟩ | refine aC ?_ | refine apG ?_); conv => whnf)
    ((with_reducible refine Pt.go ?_); conv => whnf)
    (conv => whnf); repeat ((first | with_reducible (first | refine dA ?_ | refine dL ?_) | refine Br.t ?_ | refine Br.f ?_ | refine bT ?_ | refine bF ?_ | refine Opt.mk ?_ | with_reducible refine aR ?_ | refine ⟨fun h => absurd (congrArg List.length h) (Nat.succ_ne_zero _), fun _ => ?_⟩ | refine aC ?_ | refine apG ?_); conv => whnf)
    ((with_reducible refine Pt.go ?_); conv => whnf)
    (conv => whnf); repeat ((first | with_reducible (first | refine dA ?_ | refine dL ?_) | refine Br.t ?_ | refine Br.f ?_ | refine bT ?_ | refine bF ?_ | refine Opt.mk ?_ | with_reducible refine aR ?_ | refine ⟨fun h => absurd (congrArg List.length h) (Nat.succ_ne_zero _), fun _ => ?_⟩ | refine aC ?_ | refine apG ?_); conv => whnf)
    refine Pt.weak (Weak.trans (Weak.only [(9, .nils), (10, .int .i64 0), (0, .int .i64 ra), (1, ints l), (6, .bool false), (7, .ptr 0 0 4 0 0)] [rgC ra a n L.length 1, rowI L] (by kernel_rfl) (by repeat (first | exact trivial | refine And.intro (by first | rfl | exact congrArg (fun n => D.sl _ _ _ _ n none) List.length_append | exact congrArg _ (by omega)) ?_))) (Weak.nilrow 9 rfl 3 1 true)) ?_
    (conv => whnf); repeat ((first | with_reducible (first | refine Pt.go ?_ | refine dA ?_ | refine dL ?_) | refine Br.t ?_ | refine Br.f ?_ | refine bT ?_ | refine bF ?_ | refine Opt.mk ?_ | with_reducible refine aR ?_ | refine ⟨fun h => absurd (congrArg List.length h) (Nat.succ_ne_zero _), fun _ => ?_⟩ | refine aC ?_ | refine apG ?_); conv => whnf)
    refine Loop.inv (A := Nat × (Int × Int × List Int × List Int)) (List.range 94) (fun x => [(0, .int .i64 ra), (1, ints l), (6, .bool false), (7, .ptr 0 0 4 0 0), (9, .sl 2 0 1 0 (cutsL x.2.2.2.2).length none), (10, .int .i64 (x.2.2.2.2.length : Int)), (11, .int .i64 (x.1 : Int))]) (fun x => [rgC ra x.2.1 x.2.2.1 x.2.2.2.1.length 1, rowI x.2.2.2.1, rowI (cutsL x.2.2.2.2)]) (fun x => x.1 ≤ l.length ∧ Rg ra x.2.1 x.2.2.1 x.2.2.2.1 x.2.2.2.2) (fun x => l.length - x.1) (0, (a, n, L, [])) ⟨Nat.zero_le _, hg⟩ ?_ ?_
    · exact Weak.start' rfl rfl (by repeat (first | exact trivial | refine And.intro (by first | rfl | exact congrArg (fun n => D.sl _ _ _ _ n none) List.length_append | exact congrArg _ (by omega)) ?_))
    clear hg
    rintro ⟨j, a, n, L, c⟩ ⟨hj, hg⟩
    dsimp only at hj hg ⊢
    have hcl : c.length ≤ 1024 := by have := hg.cl; have := hg.ll; have := hg.rm; omega
    have hlf : (cutsL c).length ≤ c.length := List.length_filter_le _ _
    have hcm : ((cutsL c).map (D.int .i64)).length = (cutsL c).length := List.length_map ..
    (conv => whnf); repeat ((first | with_reducible (first | refine Pt.go ?_ | refine dA ?_ | refine dL ?_) | refine Br.t ?_ | refine Br.f ?_ | refine bT ?_ | refine bF ?_ | refine Opt.mk ?_ | with_reducible refine aR ?_ | refine ⟨fun h => absurd (congrArg List.length h) (Nat.succ_ne_zero _), fun _ => ?_⟩ | refine aC ?_ | refine apG ?_); conv => whnf)
    refine Br.dec (fun h7 => ?_) (fun h7 => ?_)
    · have hjl : j < l.length := by omega
      have hget : l[j]? = some l[j] := List.getElem?_eq_getElem hjl
      (conv => whnf); repeat ((first | with_reducible (first | refine Pt.go ?_ | refine dA ?_ | refine dL ?_) | refine Br.t ?_ | refine Br.f ?_ | refine bT ?_ | refine bF ?_ | refine Opt.mk ?_ | with_reducible refine aR ?_ | refine ⟨fun h => absurd (congrArg List.length h) (Nat.succ_ne_zero _), fun _ => ?_⟩ | refine aC ?_ | refine apG ?_); conv => whnf)
      refine Opt.of (get_map hget) ?_
      (conv => whnf); repeat ((first | with_reducible (first | refine Pt.go ?_ | refine dA ?_ | refine dL ?_) | refine Br.t ?_ | refine Br.f ?_ | refine bT ?_ | refine bF ?_ | refine Opt.mk ?_ | with_reducible refine aR ?_ | refine ⟨fun h => absurd (congrArg List.length h) (Nat.succ_ne_zero _), fun _ => ?_⟩ | refine aC ?_ | refine apG ?_); conv => whnf)
      by_cases hf : (c.length : Int) = ra
      · have hpu : pushC ra c l[j] = (6, c) := by unfold pushC; rw [if_pos hf]
        refine Call.mk (Spec.rgW (push47 hg l[j]) 0 1 _ rfl rfl (by decide) rfl (by rintro d a n L ⟨rfl, _⟩; rfl)) ?_
        rintro d os' ⟨a3, n3, L3, g, ⟨rfl, hg3⟩, rfl⟩
        rw [hpu] at hg3 ⊢
        cases g with
        | true =>
          (conv => whnf); repeat ((first | with_reducible (first | refine Pt.go ?_ | refine dA ?_ | refine dL ?_) | refine Br.t ?_ | refine Br.f ?_ | refine bT ?_ | refine bF ?_ | refine Opt.mk ?_ | with_reducible refine aR ?_ | refine ⟨fun h => absurd (congrArg List.length h) (Nat.succ_ne_zero _), fun _ => ?_⟩ | refine aC ?_ | refine apG ?_); conv => whnf)
          refine ⟨_, _, _, ?_, ⟨(j + 1, (a3, n3, L3, c)), ?_, rfl, rfl, rfl⟩, ?_⟩
          · show l.length - (j + 1) < l.length - j; omega
          · exact ⟨hjl, hg3⟩
          · refine Weak.trans (Weak.shift 3 1 (by decide) (by simp) (Nat.le_of_ble_eq_true rfl) (Nat.le_of_ble_eq_true rfl) (fun j => by cases j <;> rfl) rfl) ?_
            refine Weak.backT 3 (by simp) (by first | rfl | kernel_rfl) (by kernel_rfl) (Nat.le_of_ble_eq_true rfl) (by repeat (first | exact trivial | refine And.intro (by first | rfl | exact congrArg (fun n => D.sl _ _ _ _ n none) List.length_append | exact congrArg _ (by omega)) ?_)) (by kernel_rfl) (by kernel_rfl)
        | false =>
          (conv => whnf); repeat ((first | with_reducible (first | refine Pt.go ?_ | refine dA ?_ | refine dL ?_) | refine Br.t ?_ | refine Br.f ?_ | refine bT ?_ | refine bF ?_ | refine Opt.mk ?_ | with_reducible refine aR ?_ | refine ⟨fun h => absurd (congrArg List.length h) (Nat.succ_ne_zero _), fun _ => ?_⟩ | refine aC ?_ | refine apG ?_); conv => whnf)
          refine ⟨_, _, _, ?_, ⟨(j + 1, (a3, n3, L3, c)), ?_, rfl, rfl, rfl⟩, ?_⟩
          · show l.length - (j + 1) < l.length - j; omega
          · exact ⟨hjl, hg3⟩
          · refine Weak.backT 3 (by simp) (by first | rfl | kernel_rfl) (by kernel_rfl) (Nat.le_of_ble_eq_true rfl) (by repeat (first | exact trivial | refine And.intro (by first | rfl | exact congrArg (fun n => D.sl _ _ _ _ n none) List.length_append | exact congrArg _ (by omega)) ?_)) (by kernel_rfl) (by kernel_rfl)
      · have hpu : pushC ra c l[j] = (0, c ++ [l[j]]) := by unfold pushC; rw [if_neg hf]
        refine Call.mk (Spec.rgW (push47 hg l[j]) 0 1 _ rfl rfl (by decide) rfl (by rintro d a n L ⟨rfl, _⟩; rfl)) ?_
        rintro d os' ⟨a3, n3, L3, g, ⟨rfl, hg3⟩, rfl⟩
        rw [hpu] at hg3 ⊢
        cases g with
        | true =>
          (conv => whnf); repeat ((first | with_reducible (first | refine dA ?_ | refine dL ?_) | refine Br.t ?_ | refine Br.f ?_ | refine bT ?_ | refine bF ?_ | refine Opt.mk ?_ | with_reducible refine aR ?_ | refine ⟨fun h => absurd (congrArg List.length h) (Nat.succ_ne_zero _), fun _ => ?_⟩ | refine aC ?_ | refine apG ?_); conv => whnf)
          refine Pt.weak (Weak.only [(0, .int .i64 ra), (1, ints l), (6, .bool false), (7, .ptr 0 0 4 0 0), (9, .sl 2 0 1 0 (cutsL c).length none), (10, .int .i64 (c.length : Int)), (11, .int .i64 (j : Int))] [rgC ra a3 n3 L3.length 3, one .gone, rowI (cutsL c), rowI L3] (by kernel_rfl) (by repeat (first | exact trivial | refine And.intro (by first | rfl | exact congrArg (fun n => D.sl _ _ _ _ n none) List.length_append | exact congrArg _ (by omega)) ?_))) ?_
          refine Pt.weak (Weak.shift 3 1 (by decide) (by simp) (Nat.le_of_ble_eq_true rfl) (Nat.le_of_ble_eq_true rfl) (fun j => by cases j <;> rfl) rfl) ?_
          refine Pt.weak (Weak.trim 3 (Nat.zero_le _) rfl (Nat.le_of_ble_eq_true rfl)) ?_
          (conv => whnf); repeat ((first | with_reducible (first | refine Pt.go ?_ | refine dA ?_ | refine dL ?_) | refine Br.t ?_ | refine Br.f ?_ | refine bT ?_ | refine bF ?_ | refine Opt.mk ?_ | with_reducible refine aR ?_ | refine ⟨fun h => absurd (congrArg List.length h) (Nat.succ_ne_zero _), fun _ => ?_⟩ | refine aC ?_ | refine apG ?_); conv => whnf)
          refine Opt.of (get_map hget) ?_
          (conv => whnf); repeat ((first | with_reducible (first | refine Pt.go ?_ | refine dA ?_ | refine dL ?_) | refine Br.t ?_ | refine Br.f ?_ | refine bT ?_ | refine bF ?_ | refine Opt.mk ?_ | with_reducible refine aR ?_ | refine ⟨fun h => absurd (congrArg List.length h) (Nat.succ_ne_zero _), fun _ => ?_⟩ | refine aC ?_ | refine apG ?_); conv => whnf)
          refine Br.dec (fun h9 => ?_) (fun h9 => ?_)
          · have hcu : cutsL (c ++ [l[j]]) = cutsL c ++ [l[j]] := by unfold cutsL; rw [List.filter_append]; simp; omega
            (conv => whnf); repeat ((first | with_reducible (first | refine Pt.go ?_ | refine dA ?_ | refine dL ?_) | refine Br.t ?_ | refine Br.f ?_ | refine bT ?_ | refine bF ?_ | refine Opt.mk ?_ | with_reducible refine aR ?_ | refine ⟨fun h => absurd (congrArg List.length h) (Nat.succ_ne_zero _), fun _ => ?_⟩ | refine aC ?_ | refine apG ?_); conv => whnf)
            refine Opt.of (get_map hget) ?_
            (conv => whnf); repeat ((first | with_reducible (first | refine Pt.go ?_ | refine dA ?_ | refine dL ?_) | refine Br.t ?_ | refine Br.f ?_ | refine bT ?_ | refine bF ?_ | refine Opt.mk ?_ | with_reducible refine aR ?_ | refine ⟨fun h => absurd (congrArg List.length h) (Nat.succ_ne_zero _), fun _ => ?_⟩ | refine aC ?_ | refine apG ?_); conv => whnf)
            refine App.only false rfl rfl ?_
            (conv => whnf); repeat ((first | with_reducible (first | refine Pt.go ?_ | refine dA ?_ | refine dL ?_) | refine Br.t ?_ | refine Br.f ?_ | refine bT ?_ | refine bF ?_ | refine Opt.mk ?_ | with_reducible refine aR ?_ | refine ⟨fun h => absurd (congrArg List.length h) (Nat.succ_ne_zero _), fun _ => ?_⟩ | refine aC ?_ | refine apG ?_); conv => whnf)
            refine ⟨_, _, _, ?_, ⟨(j + 1, (a3, n3, L3, c ++ [l[j]])), ?_, rfl, rfl, rfl⟩, ?_⟩
            · show l.length - (j + 1) < l.length - j; omega
            · exact ⟨hjl, hg3⟩
            · refine Weak.trans (Weak.shift 3 2 (by decide) (by simp) (Nat.le_of_ble_eq_true rfl) (Nat.le_of_ble_eq_true rfl) (fun j => by cases j <;> rfl) rfl) ?_
              refine Weak.trans (Weak.objs (os' := [rgC ra a3 n3 L3.length 1, rowI L3, rowI (cutsL (c ++ [l[j]])), one .gone]) ?_) ?_
              · rw [hcu]; exact congrArg (fun r => ([rgC ra a3 n3 L3.length 1, rowI L3, one (.row 3 1 true r), one .gone] : Objs)) (map_snoc _ _)
              dsimp only
              rw [hcu, List.length_append, List.length_append]
              refine Weak.backT 3 (by simp) (by first | rfl | kernel_rfl) (by kernel_rfl) (Nat.le_of_ble_eq_true rfl) (by repeat (first | exact trivial | refine And.intro (by first | rfl | exact congrArg (fun n => D.sl _ _ _ _ n none) List.length_append | exact congrArg _ (by omega)) ?_)) (by kernel_rfl) (by kernel_rfl)
          · have hcu : cutsL (c ++ [l[j]]) = cutsL c := by unfold cutsL; rw [List.filter_append]; simp; omega
            (conv => whnf); repeat ((first | with_reducible (first | refine Pt.go ?_ | refine dA ?_ | refine dL ?_) | refine Br.t ?_ | refine Br.f ?_ | refine bT ?_ | refine bF ?_ | refine Opt.mk ?_ | with_reducible refine aR ?_ | refine ⟨fun h => absurd (congrArg List.length h) (Nat.succ_ne_zero _), fun _ => ?_⟩ | refine aC ?_ | refine apG ?_); conv => whnf)
            refine ⟨_, _, _, ?_, ⟨(j + 1, (a3, n3, L3, c ++ [l[j]])), ?_, rfl, rfl, rfl⟩, ?_⟩
            · show l.length - (j + 1) < l.length - j; omega
            · exact ⟨hjl, hg3⟩
            · dsimp only
              rw [hcu, List.length_append]
              refine Weak.backT 3 (by simp) (by first | rfl | kernel_rfl) (by kernel_rfl) (Nat.le_of_ble_eq_true rfl) (by repeat (first | exact trivial | refine And.intro (by first | rfl | exact congrArg (fun n => D.sl _ _ _ _ n none) List.length_append | exact congrArg _ (by omega)) ?_)) (by kernel_rfl) (by kernel_rfl)
        | false =>
          (conv => whnf); repeat ((first | with_reducible (first | refine dA ?_ | refine dL ?_) | refine Br.t ?_ | refine Br.f ?_ | refine bT ?_ | refine bF ?_ | refine Opt.mk ?_ | with_reducible refine aR ?_ | refine ⟨fun h => absurd (congrArg List.length h) (Nat.succ_ne_zero _), fun _ => ?_⟩ | refine aC ?_ | refine apG ?_); conv => whnf)
          refine Pt.weak (Weak.only [(0, .int .i64 ra), (1, ints l), (6, .bool false), (7, .ptr 0 0 4 0 0), (9, .sl 2 0 1 0 (cutsL c).length none), (10, .int .i64 (c.length : Int)), (11, .int .i64 (j : Int))] [rgC ra a3 n3 L3.length 1, rowI L3, rowI (cutsL c)] (by kernel_rfl) (by repeat (first | exact trivial | refine And.intro (by first | rfl | exact congrArg (fun n => D.sl _ _ _ _ n none) List.length_append | exact congrArg _ (by omega)) ?_))) ?_
          (conv => whnf); repeat ((first | with_reducible (first | refine Pt.go ?_ | refine dA ?_ | refine dL ?_) | refine Br.t ?_ | refine Br.f ?_ | refine bT ?_ | refine bF ?_ | refine Opt.mk ?_ | with_reducible refine aR ?_ | refine ⟨fun h => absurd (congrArg List.length h) (Nat.succ_ne_zero _), fun _ => ?_⟩ | refine aC ?_ | refine apG ?_); conv => whnf)
          refine Opt.of (get_map hget) ?_
          (conv => whnf); repeat ((first | with_reducible (first | refine Pt.go ?_ | refine dA ?_ | refine dL ?_) | refine Br.t ?_ | refine Br.f ?_ | refine bT ?_ | refine bF ?_ | refine Opt.mk ?_ | with_reducible refine aR ?_ | refine ⟨fun h => absurd (congrArg List.length h) (Nat.succ_ne_zero _), fun _ => ?_⟩ | refine aC ?_ | refine apG ?_); conv => whnf)
          refine Br.dec (fun h9 => ?_) (fun h9 => ?_)
          · have hcu : cutsL (c ++ [l[j]]) = cutsL c ++ [l[j]] := by unfold cutsL; rw [List.filter_append]; simp; omega
            (conv => whnf); repeat ((first | with_reducible (first | refine Pt.go ?_ | refine dA ?_ | refine dL ?_) | refine Br.t ?_ | refine Br.f ?_ | refine bT ?_ | refine bF ?_ | refine Opt.mk ?_ | with_reducible refine aR ?_ | refine ⟨fun h => absurd (congrArg List.length h) (Nat.succ_ne_zero _), fun _ => ?_⟩ | refine aC ?_ | refine apG ?_); conv => whnf)
            refine Opt.of (get_map hget) ?_
            (conv => whnf); repeat ((first | with_reducible (first | refine Pt.go ?_ | refine dA ?_ | refine dL ?_) | refine Br.t ?_ | refine Br.f ?_ | refine bT ?_ | refine bF ?_ | refine Opt.mk ?_ | with_reducible refine aR ?_ | refine ⟨fun h => absurd (congrArg List.length h) (Nat.succ_ne_zero _), fun _ => ?_⟩ | refine aC ?_ | refine apG ?_); conv => whnf)
            refine App.only false rfl rfl ?_
            (conv => whnf); repeat ((first | with_reducible (first | refine Pt.go ?_ | refine dA ?_ | refine dL ?_) | refine Br.t ?_ | refine Br.f ?_ | refine bT ?_ | refine bF ?_ | refine Opt.mk ?_ | with_reducible refine aR ?_ | refine ⟨fun h => absurd (congrArg List.length h) (Nat.succ_ne_zero _), fun _ => ?_⟩ | refine aC ?_ | refine apG ?_); conv => whnf)
            refine ⟨_, _, _, ?_, ⟨(j + 1, (a3, n3, L3, c ++ [l[j]])), ?_, rfl, rfl, rfl⟩, ?_⟩
            · show l.length - (j + 1) < l.length - j; omega
            · exact ⟨hjl, hg3⟩
            · refine Weak.trans (Weak.shift 3 2 (by decide) (by simp) (Nat.le_of_ble_eq_true rfl) (Nat.le_of_ble_eq_true rfl) (fun j => by cases j <;> rfl) rfl) ?_
              refine Weak.trans (Weak.objs (os' := [rgC ra a3 n3 L3.length 1, rowI L3, rowI (cutsL (c ++ [l[j]])), one .gone]) ?_) ?_
              · rw [hcu]; exact congrArg (fun r => ([rgC ra a3 n3 L3.length 1, rowI L3, one (.row 3 1 true r), one .gone] : Objs)) (map_snoc _ _)
              dsimp only
              rw [hcu, List.length_append, List.length_append]
              refine Weak.backT 3 (by simp) (by first | rfl | kernel_rfl) (by kernel_rfl) (Nat.le_of_ble_eq_true rfl) (by repeat (first | exact trivial | refine And.intro (by first | rfl | exact congrArg (fun n => D.sl _ _ _ _ n none) List.length_append | exact congrArg _ (by omega)) ?_)) (by kernel_rfl) (by kernel_rfl)
          · have hcu : cutsL (c ++ [l[j]]) = cutsL c := by unfold cutsL; rw [List.filter_append]; simp; omega
            (conv => whnf); repeat ((first | with_reducible (first | refine Pt.go ?_ | refine dA ?_ | refine dL ?_) | refine Br.t ?_ | refine Br.f ?_ | refine bT ?_ | refine bF ?_ | refine Opt.mk ?_ | with_reducible refine aR ?_ | refine ⟨fun h => absurd (congrArg List.length h) (Nat.succ_ne_zero _), fun _ => ?_⟩ | refine aC ?_ | refine apG ?_); conv => whnf)
            refine ⟨_, _, _, ?_, ⟨(j + 1, (a3, n3, L3, c ++ [l[j]])), ?_, rfl, rfl, rfl⟩, ?_⟩
            · show l.length - (j + 1) < l.length - j; omega
            · exact ⟨hjl, hg3⟩
            · dsimp only
              rw [hcu, List.length_append]
              refine Weak.backT 3 (by simp) (by first | rfl | kernel_rfl) (by kernel_rfl) (Nat.le_of_ble_eq_true rfl) (by repeat (first | exact trivial | refine And.intro (by first | rfl | exact congrArg (fun n => D.sl _ _ _ _ n none) List.length_append | exact congrArg _ (by omega)) ?_)) (by kernel_rfl) (by kernel_rfl)
    · (conv => whnf); repeat ((first | with_reducible (first | refine Pt.go ?_ | refine dA ?_ | refine dL ?_) | refine Br.t ?_ | refine Br.f ?_ | refine bT ?_ | refine bF ?_ | refine Opt.mk ?_ | with_reducible refine aR ?_ | refine ⟨fun h => absurd (congrArg List.length h) (Nat.succ_ne_zero _), fun _ => ?_⟩ | refine aC ?_ | refine apG ?_); conv => whnf)
      refine Call.mk (Spec.rgW (cut64 hg 65 (fun x => decide (x < 0)) (fun x _ => cb65 x)) 0 1 _ rfl rfl (by decide) rfl (by rintro d a n L ⟨rfl, _⟩; rfl)) ?_
      rintro d os' ⟨a3, n3, L3, g, ⟨rfl, hg3⟩, rfl⟩
      rw [show c.filter (fun x => !decide (x < 0)) = cutsL c from rfl] at hg3 ⊢
      have hn3 := hg3.nl
      have hle := hg3.cl
      have hll := hg3.ll
      cases g with
      | true =>
        (conv => whnf); repeat ((first | with_reducible (first | refine dA ?_ | refine dL ?_) | refine Br.t ?_ | refine Br.f ?_ | refine bT ?_ | refine bF ?_ | refine Opt.mk ?_ | with_reducible refine aR ?_ | refine ⟨fun h => absurd (congrArg List.length h) (Nat.succ_ne_zero _), fun _ => ?_⟩ | refine aC ?_ | refine apG ?_); conv => whnf)
        refine Pt.weak (Weak.only [(0, .int .i64 ra), (7, .ptr 0 0 4 0 0), (9, .sl 2 0 1 0 (cutsL c).length none), (10, .int .i64 (c.length : Int)), (12, .int .i64 ((c.length : Int) - ((cutsL c).length : Int)))] [rgC ra a3 n3 L3.length 3, one .gone, rowI (cutsL c), rowI L3] (by kernel_rfl) (by repeat (first | exact trivial | refine And.intro (by first | rfl | exact congrArg (fun n => D.sl _ _ _ _ n none) List.length_append | exact congrArg _ (by omega)) ?_))) ?_
        refine Pt.frz (fun k => Nat.beq k 2) [(9, ints (cutsL c))] ⟨View.slAll rfl rfl (List.length_map ..) (by simp) (ViewL.same _) (pureL_map (fun _ => rfl) _), trivial⟩ ?_
        (conv => whnf); repeat ((first | with_reducible (first | refine Pt.go ?_ | refine dA ?_ | refine dL ?_) | refine Br.t ?_ | refine Br.f ?_ | refine bT ?_ | refine bF ?_ | refine Opt.mk ?_ | with_reducible refine aR ?_ | refine ⟨fun h => absurd (congrArg List.length h) (Nat.succ_ne_zero _), fun _ => ?_⟩ | refine aC ?_ | refine apG ?_); conv => whnf)
        refine Call.mk (Spec.rgR (all58 hg3 (-1) ⟨by decide, by decide⟩) 0 3 _ rfl rfl (by decide) rfl (by rintro d rfl; rfl)) ?_
        rintro d os' ⟨rfl, rfl⟩
        (conv => whnf); repeat ((first | with_reducible (first | refine Pt.go ?_ | refine dA ?_ | refine dL ?_) | refine Br.t ?_ | refine Br.f ?_ | refine bT ?_ | refine bF ?_ | refine Opt.mk ?_ | with_reducible refine aR ?_ | refine ⟨fun h => absurd (congrArg List.length h) (Nat.succ_ne_zero _), fun _ => ?_⟩ | refine aC ?_ | refine apG ?_); conv => whnf)
        refine Call.mk (Spec.rgR (len49 ra a3 n3 L3) 0 3 _ rfl rfl (by decide) rfl (by rintro d rfl; rfl)) ?_
        rintro d os' ⟨rfl, rfl⟩
        (conv => whnf); repeat ((first | with_reducible (first | refine Pt.go ?_ | refine dA ?_ | refine dL ?_) | refine Br.t ?_ | refine Br.f ?_ | refine bT ?_ | refine bF ?_ | refine Opt.mk ?_ | with_reducible refine aR ?_ | refine ⟨fun h => absurd (congrArg List.length h) (Nat.succ_ne_zero _), fun _ => ?_⟩ | refine aC ?_ | refine apG ?_); conv => whnf)
        refine Call.mk (Spec.rgR (room51 ra a3 n3 (by omega) (by omega) L3) 0 3 _ rfl rfl (by decide) rfl (by rintro d rfl; rfl)) ?_
        rintro d os' ⟨rfl, rfl⟩
        (conv => whnf); repeat ((first | with_reducible (first | refine Pt.go ?_ | refine dA ?_ | refine dL ?_) | refine Br.t ?_ | refine Br.f ?_ | refine bT ?_ | refine bF ?_ | refine Opt.mk ?_ | with_reducible refine aR ?_ | refine ⟨fun h => absurd (congrArg List.length h) (Nat.succ_ne_zero _), fun _ => ?_⟩ | refine aC ?_ | refine apG ?_); conv => whnf)
        refine Call.mk ((lives45).only _ rfl (by rintro d rfl; rfl)) ?_; rintro d os' ⟨rfl, rfl⟩
        (conv => whnf); repeat ((first | with_reducible (first | refine Pt.go ?_ | refine dA ?_ | refine dL ?_) | refine Br.t ?_ | refine Br.f ?_ | refine bT ?_ | refine bF ?_ | refine Opt.mk ?_ | with_reducible refine aR ?_ | refine ⟨fun h => absurd (congrArg List.length h) (Nat.succ_ne_zero _), fun _ => ?_⟩ | refine aC ?_ | refine apG ?_); conv => whnf)
        exact Ret.mk [.tmp _] rfl rfl
      | false =>
        (conv => whnf); repeat ((first | with_reducible (first | refine dA ?_ | refine dL ?_) | refine Br.t ?_ | refine Br.f ?_ | refine bT ?_ | refine bF ?_ | refine Opt.mk ?_ | with_reducible refine aR ?_ | refine ⟨fun h => absurd (congrArg List.length h) (Nat.succ_ne_zero _), fun _ => ?_⟩ | refine aC ?_ | refine apG ?_); conv => whnf)
        refine Pt.weak (Weak.only [(0, .int .i64 ra), (7, .ptr 0 0 4 0 0), (9, .sl 2 0 1 0 (cutsL c).length none), (10, .int .i64 (c.length : Int)), (12, .int .i64 ((c.length : Int) - ((cutsL c).length : Int)))] [rgC ra a3 n3 L3.length 1, rowI L3, rowI (cutsL c)] (by kernel_rfl) (by repeat (first | exact trivial | refine And.intro (by first | rfl | exact congrArg (fun n => D.sl _ _ _ _ n none) List.length_append | exact congrArg _ (by omega)) ?_))) ?_
        refine Pt.frz (fun k => Nat.beq k 2) [(9, ints (cutsL c))] ⟨View.slAll rfl rfl (List.length_map ..) (by simp) (ViewL.same _) (pureL_map (fun _ => rfl) _), trivial⟩ ?_
        (conv => whnf); repeat ((first | with_reducible (first | refine Pt.go ?_ | refine dA ?_ | refine dL ?_) | refine Br.t ?_ | refine Br.f ?_ | refine bT ?_ | refine bF ?_ | refine Opt.mk ?_ | with_reducible refine aR ?_ | refine ⟨fun h => absurd (congrArg List.length h) (Nat.succ_ne_zero _), fun _ => ?_⟩ | refine aC ?_ | refine apG ?_); conv => whnf)
        refine Call.mk (Spec.rgR (all58 hg3 (-1) ⟨by decide, by decide⟩) 0 1 _ rfl rfl (by decide) rfl (by rintro d rfl; rfl)) ?_
        rintro d os' ⟨rfl, rfl⟩
        (conv => whnf); repeat ((first | with_reducible (first | refine Pt.go ?_ | refine dA ?_ | refine dL ?_) | refine Br.t ?_ | refine Br.f ?_ | refine bT ?_ | refine bF ?_ | refine Opt.mk ?_ | with_reducible refine aR ?_ | refine ⟨fun h => absurd (congrArg List.length h) (Nat.succ_ne_zero _), fun _ => ?_⟩ | refine aC ?_ | refine apG ?_); conv => whnf)
        refine Call.mk (Spec.rgR (len49 ra a3 n3 L3) 0 1 _ rfl rfl (by decide) rfl (by rintro d rfl; rfl)) ?_
        rintro d os' ⟨rfl, rfl⟩
        (conv => whnf); repeat ((first | with_reducible (first | refine Pt.go ?_ | refine dA ?_ | refine dL ?_) | refine Br.t ?_ | refine Br.f ?_ | refine bT ?_ | refine bF ?_ | refine Opt.mk ?_ | with_reducible refine aR ?_ | refine ⟨fun h => absurd (congrArg List.length h) (Nat.succ_ne_zero _), fun _ => ?_⟩ | refine aC ?_ | refine apG ?_); conv => whnf)
        refine Call.mk (Spec.rgR (room51 ra a3 n3 (by omega) (by omega) L3) 0 1 _ rfl rfl (by decide) rfl (by rintro d rfl; rfl)) ?_
        rintro d os' ⟨rfl, rfl⟩
        (conv => whnf); repeat ((first | with_reducible (first | refine Pt.go ?_ | refine dA ?_ | refine dL ?_) | refine Br.t ?_ | refine Br.f ?_ | refine bT ?_ | refine bF ?_ | refine Opt.mk ?_ | with_reducible refine aR ?_ | refine ⟨fun h => absurd (congrArg List.length h) (Nat.succ_ne_zero _), fun _ => ?_⟩ | refine aC ?_ | refine apG ?_); conv => whnf)
        refine Call.mk ((lives45).only _ rfl (by rintro d rfl; rfl)) ?_; rintro d os' ⟨rfl, rfl⟩
        (conv => whnf); repeat ((first | with_reducible (first | refine Pt.go ?_ | refine dA ?_ | refine dL ?_) | refine Br.t ?_ | refine Br.f ?_ | refine bT ?_ | refine bF ?_ | refine Opt.mk ?_ | with_reducible refine aR ?_ | refine ⟨fun h => absurd (congrArg List.length h) (Nat.succ_ne_zero _), fun _ => ?_⟩ | refine aC ?_ | refine apG ?_); conv => whnf)
        exact Ret.mk [.tmp _] rfl rfl
end Go.Proofs.Ytaplihoeephbeaa.V
