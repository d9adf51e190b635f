/- R15: a text of a symbolic executor that is proved sound, and contracts that are proved with it. -/
import Derived.Test.YtaplihoeephbeaaR14
namespace Go.Proofs.Ytaplihoeephbeaa.V
open Go Go.Proofs
set_option linter.unusedVariables false
set_option maxRecDepth 100000
set_option maxHeartbeats 40000000
@[reducible] def pairs (l : List (Int × Int)) : D := .lst 2 false (l.map inD)
def prok (l : List (Int × Int)) : Prop := l.length * 16 ≤ 140737488351232 ∧ ∀ v ∈ l, I64 v.1 ∧ I64 v.2
theorem law11 (room : Int) (hroom : I64 room) (f : List Int) (hf : lok f) (l : List (Int × Int)) (hl : prok l) : Spec Try.prog 11 [.int .i64 room, ints f, pairs l] [] (fun d _ => d = .bool true) := by
  have hfm : (f.map (D.int .i64)).length = f.length := List.length_map ..
  have hlm : (l.map inD).length = l.length := List.length_map ..
  refine Spec.by Try.func11 rfl (by decide) (by decide +kernel) rfl ?_
  (conv => whnf); repeat ((first | with_reducible (first | refine Pt.go ?_ | refine dA ?_ | refine dL ?_) | refine Br.t ?_ | refine Br.f ?_ | refine bT ?_ | refine bF ?_ | refine Opt.mk ?_ | with_reducible refine aR ?_ | refine ⟨fun h => absurd (congrArg List.length h) (Nat.succ_ne_zero _), fun _ => ?_⟩ | refine aC ?_ | refine apG ?_); conv => whnf)
  apply cutG (A := Int) (n0 := 0) (fun r => [(0, .int .i64 r), (1, ints f), (2, pairs l), (6, .bool false)]) (fun _ => []) (fun r => True)
  · intro key
    refine Br.dec (fun h => ?_) (fun h => ?_)
    · (conv => whnf); repeat ((first | with_reducible (first | refine dA ?_ | refine dL ?_) | refine Br.t ?_ | refine Br.f ?_ | refine bT ?_ | refine bF ?_ | refine Opt.mk ?_ | with_reducible refine aR ?_ | refine ⟨fun h => absurd (congrArg List.length h) (Nat.succ_ne_zero _), fun _ => ?_⟩ | refine aC ?_ | refine apG ?_); conv => whnf)
      ((with_reducible refine Pt.go ?_); conv => whnf)
      (conv => whnf); repeat ((first | with_reducible (first | refine dA ?_ | refine dL ?_) | refine Br.t ?_ | refine Br.f ?_ | refine bT ?_ | refine bF ?_ | refine Opt.mk ?_ | with_reducible refine aR ?_ | refine ⟨fun h => absurd (congrArg List.length h) (Nat.succ_ne_zero _), fun _ => ?_⟩ | refine aC ?_ | refine apG ?_); conv => whnf)
      refine Pt.weak (Weak.only [(0, .int .i64 (room.tmod 41)), (1, ints f), (2, pairs l), (6, .bool false)] [] (by kernel_rfl) (by repeat (first | exact trivial | refine And.intro (by first | rfl | exact congrArg (fun n => D.sl _ _ _ _ n none) List.length_append | exact congrArg _ (by omega)) ?_))) (key _ trivial)
    · (conv => whnf); repeat ((first | with_reducible (first | refine dA ?_ | refine dL ?_) | refine Br.t ?_ | refine Br.f ?_ | refine bT ?_ | refine bF ?_ | refine Opt.mk ?_ | with_reducible refine aR ?_ | refine ⟨fun h => absurd (congrArg List.length h) (Nat.succ_ne_zero _), fun _ => ?_⟩ | refine aC ?_ | refine apG ?_); conv => whnf)
      refine Pt.weak (Weak.only [(0, .int .i64 room), (1, ints f), (2, pairs l), (6, .bool false)] [] (by kernel_rfl) (by repeat (first | exact trivial | refine And.intro (by first | rfl | exact congrArg (fun n => D.sl _ _ _ _ n none) List.length_append | exact congrArg _ (by omega)) ?_))) (key _ trivial)
  clear hroom
  clear room
  intro room _
  (conv => whnf); repeat ((first | with_reducible (first | refine Pt.go ?_ | refine dA ?_ | refine dL ?_) | refine Br.t ?_ | refine Br.f ?_ | refine bT ?_ | refine bF ?_ | refine Opt.mk ?_ | with_reducible refine aR ?_ | refine ⟨fun h => absurd (congrArg List.length h) (Nat.succ_ne_zero _), fun _ => ?_⟩ | refine aC ?_ | refine apG ?_); conv => whnf)
  apply cutG (A := List Int) (n0 := 0) (fun l' => [(0, .int .i64 room), (1, ints l'), (2, pairs l), (6, .bool false)]) (fun _ => []) (fun l' => l'.length ≤ 50 ∧ ∀ v ∈ l', I64 v)
  · intro key
    refine Br.dec (fun h => ?_) (fun h => ?_)
    · have HL : (f.take 50).length ≤ 50 := by rw [List.length_take]; omega
      (conv => whnf); repeat ((first | with_reducible (first | refine dA ?_ | refine dL ?_) | refine Br.t ?_ | refine Br.f ?_ | refine bT ?_ | refine bF ?_ | refine Opt.mk ?_ | with_reducible refine aR ?_ | refine ⟨fun h => absurd (congrArg List.length h) (Nat.succ_ne_zero _), fun _ => ?_⟩ | refine aC ?_ | refine apG ?_); conv => whnf)
      ((with_reducible refine Pt.go ?_); conv => whnf)
      (conv => whnf); repeat ((first | with_reducible (first | refine dA ?_ | refine dL ?_) | refine Br.t ?_ | refine Br.f ?_ | refine bT ?_ | refine bF ?_ | refine Opt.mk ?_ | with_reducible refine aR ?_ | refine ⟨fun h => absurd (congrArg List.length h) (Nat.succ_ne_zero _), fun _ => ?_⟩ | refine aC ?_ | refine apG ?_); conv => whnf)
      refine Nm.mk ((f.take 50).map (D.int .i64)) (by rw [List.map_take]; rfl) ?_
      (conv => whnf); repeat ((first | with_reducible (first | refine dA ?_ | refine dL ?_) | refine Br.t ?_ | refine Br.f ?_ | refine bT ?_ | refine bF ?_ | refine Opt.mk ?_ | with_reducible refine aR ?_ | refine ⟨fun h => absurd (congrArg List.length h) (Nat.succ_ne_zero _), fun _ => ?_⟩ | refine aC ?_ | refine apG ?_); conv => whnf)
      refine Pt.weak (Weak.only [(0, .int .i64 room), (1, ints (f.take 50)), (2, pairs l), (6, .bool false)] [] (by kernel_rfl) (by repeat (first | exact trivial | refine And.intro (by first | rfl | exact congrArg (fun n => D.sl _ _ _ _ n none) List.length_append | exact congrArg _ (by omega)) ?_))) (key _ ⟨HL, fun v hv => hf.2 v (List.mem_of_mem_take hv)⟩)
    · (conv => whnf); repeat ((first | with_reducible (first | refine dA ?_ | refine dL ?_) | refine Br.t ?_ | refine Br.f ?_ | refine bT ?_ | refine bF ?_ | refine Opt.mk ?_ | with_reducible refine aR ?_ | refine ⟨fun h => absurd (congrArg List.length h) (Nat.succ_ne_zero _), fun _ => ?_⟩ | refine aC ?_ | refine apG ?_); conv => whnf)
      refine Pt.weak (Weak.only [(0, .int .i64 room), (1, ints f), (2, pairs l), (6, .bool false)] [] (by kernel_rfl) (by repeat (first | exact trivial | refine And.intro (by first | rfl | exact congrArg (fun n => D.sl _ _ _ _ n none) List.length_append | exact congrArg _ (by omega)) ?_))) (key _ ⟨by omega, hf.2⟩)
  clear hfm
  clear hf
  clear f
  rintro f ⟨hf, hfI⟩
  have hR := roomI_r room
  (conv => whnf); repeat ((first | with_reducible (first | refine Pt.go ?_ | refine dA ?_ | refine dL ?_) | refine Br.t ?_ | refine Br.f ?_ | refine bT ?_ | refine bF ?_ | refine Opt.mk ?_ | with_reducible refine aR ?_ | refine ⟨fun h => absurd (congrArg List.length h) (Nat.succ_ne_zero _), fun _ => ?_⟩ | refine aC ?_ | refine apG ?_); conv => whnf)
  refine Call.mk (new46 room f (by omega)) ?_
  rintro d os' ⟨a1, n1, L1, ⟨hg1, rfl⟩, rfl⟩
  (conv => whnf); repeat ((first | with_reducible (first | refine Pt.go ?_ | refine dA ?_ | refine dL ?_) | refine Br.t ?_ | refine Br.f ?_ | refine bT ?_ | refine bF ?_ | refine Opt.mk ?_ | with_reducible refine aR ?_ | refine ⟨fun h => absurd (congrArg List.length h) (Nat.succ_ne_zero _), fun _ => ?_⟩ | refine aC ?_ | refine apG ?_); conv => whnf)
  refine Call.mk ((ref_new56 room f (by omega)).only _ rfl (by rintro d rfl; rfl)) ?_; rintro d os' ⟨rfl, rfl⟩
  have hcI : ∀ v ∈ newL (roomI room) [] f, I64 v := by
    rw [newL_take (roomI room) hR.1 f [] (by simp; omega)]
    intro v hv
    simp only [List.nil_append] at hv
    exact hfI v (List.mem_of_mem_take hv)
  obtain ⟨c1, hc1⟩ : ∃ c, newL (roomI room) [] f = c := ⟨_, rfl⟩
  rw [hc1] at hg1 hcI ⊢
  obtain ⟨rm, hrm⟩ : ∃ c, roomI room = c := ⟨_, rfl⟩
  rw [hrm] at hg1 hR ⊢
  (conv => whnf); repeat ((first | with_reducible (first | refine Pt.go ?_ | refine dA ?_ | refine dL ?_) | refine Br.t ?_ | refine Br.f ?_ | refine bT ?_ | refine bF ?_ | refine Opt.mk ?_ | with_reducible refine aR ?_ | refine ⟨fun h => absurd (congrArg List.length h) (Nat.succ_ne_zero _), fun _ => ?_⟩ | refine aC ?_ | refine apG ?_); conv => whnf)
  refine Loop.inv (A := Nat × (Int × Int × List Int × List Int)) (List.range 87) (fun x => [(2, pairs l), (6, .bool false), (7, .ptr 0 0 4 0 0), (8, .ptr 2 0 2 0 0), (9, .int .i64 (x.1 : Int))]) (fun x => [rgC rm x.2.1 x.2.2.1 x.2.2.2.1.length 1, rowI x.2.2.2.1, one (.row 71 2 false [rfD rm x.2.2.2.2])]) (fun x => (x.1 ≤ l.length ∧ x.1 ≤ 60) ∧ Rg rm x.2.1 x.2.2.1 x.2.2.2.1 x.2.2.2.2 ∧ ∀ v ∈ x.2.2.2.2, I64 v) (fun x => l.length - x.1) (0, (a1, n1, L1, c1)) ⟨⟨Nat.zero_le _, Nat.zero_le _⟩, hg1, hcI⟩ ?_ ?_
  · exact Weak.start' rfl rfl (by repeat (first | exact trivial | refine And.intro (by first | rfl | exact congrArg (fun n => D.sl _ _ _ _ n none) List.length_append | exact congrArg _ (by omega)) ?_))
  rintro ⟨i, a, n, L, c⟩ ⟨⟨hi, hi6⟩, hg, hc⟩
  dsimp only at hi hi6 hg hc ⊢
  have hcl : c.length ≤ 1024 := by have := hg.cl; have := hg.ll; have := hg.rm; omega
  (conv => whnf); repeat ((first | with_reducible (first | refine Pt.go ?_ | refine dA ?_ | refine dL ?_) | refine Br.t ?_ | refine Br.f ?_ | refine bT ?_ | refine bF ?_ | refine Opt.mk ?_ | with_reducible refine aR ?_ | refine ⟨fun h => absurd (congrArg List.length h) (Nat.succ_ne_zero _), fun _ => ?_⟩ | refine aC ?_ | refine apG ?_); conv => whnf)
  refine Br.dec (fun h0 => ?_) (fun h0 => ?_)
  · (conv => whnf); repeat ((first | with_reducible (first | refine Pt.go ?_ | refine dA ?_ | refine dL ?_) | refine Br.t ?_ | refine Br.f ?_ | refine bT ?_ | refine bF ?_ | refine Opt.mk ?_ | with_reducible refine aR ?_ | refine ⟨fun h => absurd (congrArg List.length h) (Nat.succ_ne_zero _), fun _ => ?_⟩ | refine aC ?_ | refine apG ?_); conv => whnf)
    refine Br.dec (fun h1 => ?_) (fun h1 => ?_)
    · have hil : i < l.length := by omega
      obtain ⟨kd, v, hget⟩ : ∃ kd v, l[i]? = some (kd, v) := ⟨l[i].1, l[i].2, List.getElem?_eq_getElem hil⟩
      have hv := (hl.2 _ (List.mem_of_getElem? hget)).2
      (conv => whnf); repeat ((first | with_reducible (first | refine Pt.go ?_ | refine dA ?_ | refine dL ?_) | refine Br.t ?_ | refine Br.f ?_ | refine bT ?_ | refine bF ?_ | refine Opt.mk ?_ | with_reducible refine aR ?_ | refine ⟨fun h => absurd (congrArg List.length h) (Nat.succ_ne_zero _), fun _ => ?_⟩ | refine aC ?_ | refine apG ?_); conv => whnf)
      refine Opt.of (get_map hget) ?_
      apply cutG (A := Int × Int × List Int × List Int) (n0 := 0) (fun x => [(2, pairs l), (6, .bool false), (7, .ptr 0 0 4 0 0), (8, .ptr 2 0 2 0 0), (9, .int .i64 (i : Int)), (10, .ptr 3 0 2 0 0), (11, .bool true)]) (fun x => [rgC rm x.1 x.2.1 x.2.2.1.length 1, rowI x.2.2.1, one (.row 71 2 false [rfD rm c]), one (.row 71 2 false [rfD rm x.2.2.2])]) (fun x => Rg rm x.1 x.2.1 x.2.2.1 x.2.2.2 ∧ ∀ v ∈ x.2.2.2, I64 v)
      · intro key
        (conv => whnf); repeat ((first | with_reducible (first | refine Pt.go ?_ | refine dA ?_ | refine dL ?_) | refine Br.t ?_ | refine Br.f ?_ | refine bT ?_ | refine bF ?_ | refine Opt.mk ?_ | with_reducible refine aR ?_ | refine ⟨fun h => absurd (congrArg List.length h) (Nat.succ_ne_zero _), fun _ => ?_⟩ | refine aC ?_ | refine apG ?_); conv => whnf)
        refine Call.mk (Spec.rgW (does63 hg hc kd v hv) 0 1 _ rfl rfl (by decide) rfl (by rintro d a n L ⟨c', ⟨rfl, _⟩, _⟩; rfl)) ?_
        rintro d os' ⟨a3, n3, L3, g, ⟨c3, ⟨rfl, hg3⟩, hc3⟩, rfl⟩
        cases g with
        | true =>
          (conv => whnf); repeat ((first | with_reducible (first | refine dA ?_ | refine dL ?_) | refine Br.t ?_ | refine Br.f ?_ | refine bT ?_ | refine bF ?_ | refine Opt.mk ?_ | with_reducible refine aR ?_ | refine ⟨fun h => absurd (congrArg List.length h) (Nat.succ_ne_zero _), fun _ => ?_⟩ | refine aC ?_ | refine apG ?_); conv => whnf)
          refine Pt.weak (Weak.only [(2, pairs l), (6, .bool false), (7, .ptr 0 0 4 0 0), (8, .ptr 2 0 2 0 0), (9, .int .i64 (i : Int)), (10, .ptr 4 0 2 0 0), (11, .bool true)] [rgC rm a3 n3 L3.length 3, one .gone, one (.row 71 2 false [rfD rm c]), rowI L3, one (.row 71 2 false [rfD rm c3])] (by kernel_rfl) (by repeat (first | exact trivial | refine And.intro (by first | rfl | exact congrArg (fun n => D.sl _ _ _ _ n none) List.length_append | exact congrArg _ (by omega)) ?_))) ?_
          refine Pt.weak (Weak.shift 3 1 (by decide) (by simp) (Nat.le_of_ble_eq_true rfl) (Nat.le_of_ble_eq_true rfl) (fun j => by cases j <;> rfl) rfl) ?_
          refine Pt.weak (Weak.shift 4 3 (by decide) (by simp) (Nat.le_of_ble_eq_true rfl) (Nat.le_of_ble_eq_true rfl) (fun j => by cases j <;> rfl) rfl) ?_
          refine Pt.weak (Weak.trim 4 (Nat.zero_le _) rfl (Nat.le_of_ble_eq_true rfl)) ?_
          exact key (a3, n3, L3, c3) ⟨hg3, hc3⟩
        | false =>
          (conv => whnf); repeat ((first | with_reducible (first | refine dA ?_ | refine dL ?_) | refine Br.t ?_ | refine Br.f ?_ | refine bT ?_ | refine bF ?_ | refine Opt.mk ?_ | with_reducible refine aR ?_ | refine ⟨fun h => absurd (congrArg List.length h) (Nat.succ_ne_zero _), fun _ => ?_⟩ | refine aC ?_ | refine apG ?_); conv => whnf)
          refine Pt.weak (Weak.only [(2, pairs l), (6, .bool false), (7, .ptr 0 0 4 0 0), (8, .ptr 2 0 2 0 0), (9, .int .i64 (i : Int)), (10, .ptr 3 0 2 0 0), (11, .bool true)] [rgC rm a3 n3 L3.length 1, rowI L3, one (.row 71 2 false [rfD rm c]), one (.row 71 2 false [rfD rm c3])] (by kernel_rfl) (by repeat (first | exact trivial | refine And.intro (by first | rfl | exact congrArg (fun n => D.sl _ _ _ _ n none) List.length_append | exact congrArg _ (by omega)) ?_))) ?_
          exact key (a3, n3, L3, c3) ⟨hg3, hc3⟩
      · rintro ⟨a3, n3, L3, c3⟩ ⟨hg3, hc3⟩
        dsimp only at hg3 hc3 ⊢
        have hcm3 : (c3.map (D.int .i64)).length = c3.length := List.length_map ..
        have hn3 := hg3.nl
        have hn3l : n3 ≤ 1024 := by have := hg3.cl; have := hg3.ll; have := hg3.rm; omega
        (conv => whnf); repeat ((first | with_reducible (first | refine Pt.go ?_ | refine dA ?_ | refine dL ?_) | refine Br.t ?_ | refine Br.f ?_ | refine bT ?_ | refine bF ?_ | refine Opt.mk ?_ | with_reducible refine aR ?_ | refine ⟨fun h => absurd (congrArg List.length h) (Nat.succ_ne_zero _), fun _ => ?_⟩ | refine aC ?_ | refine apG ?_); conv => whnf)
        refine Call.mk (Spec.rgR (len49 rm a3 n3 L3) 0 1 _ rfl rfl (by decide) rfl (by rintro d rfl; rfl)) ?_
        rintro d os' ⟨rfl, rfl⟩
        (conv => whnf); repeat ((first | with_reducible (first | refine Pt.go ?_ | refine dA ?_ | refine dL ?_) | refine Br.t ?_ | refine Br.f ?_ | refine bT ?_ | refine bF ?_ | refine Opt.mk ?_ | with_reducible refine aR ?_ | refine ⟨fun h => absurd (congrArg List.length h) (Nat.succ_ne_zero _), fun _ => ?_⟩ | refine aC ?_ | refine apG ?_); conv => whnf)
        refine Call.mk (Spec.rgR (room51 rm a3 n3 hR (by omega) L3) 0 1 _ rfl rfl (by decide) rfl (by rintro d rfl; rfl)) ?_
        rintro d os' ⟨rfl, rfl⟩
        (conv => whnf); repeat ((first | with_reducible (first | refine Pt.go ?_ | refine dA ?_ | refine dL ?_) | refine Br.t ?_ | refine Br.f ?_ | refine bT ?_ | refine bF ?_ | refine Opt.mk ?_ | with_reducible refine aR ?_ | refine ⟨fun h => absurd (congrArg List.length h) (Nat.succ_ne_zero _), fun _ => ?_⟩ | refine aC ?_ | refine apG ?_); conv => whnf)
        refine Call.mk (Spec.rgR (all58 hg3 (-1) ⟨by decide, by decide⟩) 0 1 _ rfl rfl (by decide) rfl (by rintro d rfl; rfl)) ?_
        rintro d os' ⟨rfl, rfl⟩
        (conv => whnf); repeat ((first | with_reducible (first | refine Pt.go ?_ | refine dA ?_ | refine dL ?_) | refine Br.t ?_ | refine Br.f ?_ | refine bT ?_ | refine bF ?_ | refine Opt.mk ?_ | with_reducible refine aR ?_ | refine ⟨fun h => absurd (congrArg List.length h) (Nat.succ_ne_zero _), fun _ => ?_⟩ | refine aC ?_ | refine apG ?_); conv => whnf)
        refine ⟨_, _, _, ?_, ⟨(i + 1, (a3, n3, L3, c3)), ?_, rfl, rfl, rfl⟩, ?_⟩
        · show l.length - (i + 1) < l.length - i; omega
        · exact ⟨⟨by show i + 1 ≤ _; omega, by show i + 1 ≤ _; omega⟩, hg3, hc3⟩
        · refine Weak.backT 3 (by simp) (by first | rfl | kernel_rfl) (by kernel_rfl) (Nat.le_of_ble_eq_true rfl) (by repeat (first | exact trivial | refine And.intro (by first | rfl | exact congrArg (fun n => D.sl _ _ _ _ n none) List.length_append | exact congrArg _ (by omega)) ?_)) (by kernel_rfl) (by kernel_rfl)
    · (conv => whnf); repeat ((first | with_reducible (first | refine Pt.go ?_ | refine dA ?_ | refine dL ?_) | refine Br.t ?_ | refine Br.f ?_ | refine bT ?_ | refine bF ?_ | refine Opt.mk ?_ | with_reducible refine aR ?_ | refine ⟨fun h => absurd (congrArg List.length h) (Nat.succ_ne_zero _), fun _ => ?_⟩ | refine aC ?_ | refine apG ?_); conv => whnf)
      refine Call.mk (Spec.rgR (all58 hg ((l.map inD).length : Int) ⟨by omega, by rw [hlm]; have := hl.1; omega⟩) 0 1 _ rfl rfl (by decide) rfl (by rintro d rfl; rfl)) ?_
      rintro d os' ⟨rfl, rfl⟩
      (conv => whnf); repeat ((first | with_reducible (first | refine Pt.go ?_ | refine dA ?_ | refine dL ?_) | refine Br.t ?_ | refine Br.f ?_ | refine bT ?_ | refine bF ?_ | refine Opt.mk ?_ | with_reducible refine aR ?_ | refine ⟨fun h => absurd (congrArg List.length h) (Nat.succ_ne_zero _), fun _ => ?_⟩ | refine aC ?_ | refine apG ?_); conv => whnf)
      refine Call.mk ((lives45).only _ rfl (by rintro d rfl; rfl)) ?_; rintro d os' ⟨rfl, rfl⟩
      (conv => whnf); repeat ((first | with_reducible (first | refine Pt.go ?_ | refine dA ?_ | refine dL ?_) | refine Br.t ?_ | refine Br.f ?_ | refine bT ?_ | refine bF ?_ | refine Opt.mk ?_ | with_reducible refine aR ?_ | refine ⟨fun h => absurd (congrArg List.length h) (Nat.succ_ne_zero _), fun _ => ?_⟩ | refine aC ?_ | refine apG ?_); conv => whnf)
      exact Ret.mk [.tmp _] rfl rfl
  · (conv => whnf); repeat ((first | with_reducible (first | refine Pt.go ?_ | refine dA ?_ | refine dL ?_) | refine Br.t ?_ | refine Br.f ?_ | refine bT ?_ | refine bF ?_ | refine Opt.mk ?_ | with_reducible refine aR ?_ | refine ⟨fun h => absurd (congrArg List.length h) (Nat.succ_ne_zero _), fun _ => ?_⟩ | refine aC ?_ | refine apG ?_); conv => whnf)
    refine Call.mk (Spec.rgR (all58 hg ((l.map inD).length : Int) ⟨by omega, by rw [hlm]; have := hl.1; omega⟩) 0 1 _ rfl rfl (by decide) rfl (by rintro d rfl; rfl)) ?_
    rintro d os' ⟨rfl, rfl⟩
    (conv => whnf); repeat ((first | with_reducible (first | refine Pt.go ?_ | refine dA ?_ | refine dL ?_) | refine Br.t ?_ | refine Br.f ?_ | refine bT ?_ | refine bF ?_ | refine Opt.mk ?_ | with_reducible refine aR ?_ | refine ⟨fun h => absurd (congrArg List.length h) (Nat.succ_ne_zero _), fun _ => ?_⟩ | refine aC ?_ | refine apG ?_); conv => whnf)
    refine Call.mk ((lives45).only _ rfl (by rintro d rfl; rfl)) ?_; rintro d os' ⟨rfl, rfl⟩
    (conv => whnf); repeat ((first | with_reducible (first | refine Pt.go ?_ | refine dA ?_ | refine dL ?_) | refine Br.t ?_ | refine Br.f ?_ | refine bT ?_ | refine bF ?_ | refine Opt.mk ?_ | with_reducible refine aR ?_ | refine ⟨fun h => absurd (congrArg List.length h) (Nat.succ_ne_zero _), fun _ => ?_⟩ | refine aC ?_ | refine apG ?_); conv => whnf)
    exact Ret.mk [.tmp _] rfl rfl
end Go.Proofs.Ytaplihoeephbeaa.V
