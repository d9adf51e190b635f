/- R6: a text of a symbolic executor that is proved sound, and contracts that are proved with it. -/
import Derived.Test.YtaplihoeephbeaaR5
namespace Go.Proofs.Ytaplihoeephbeaa.V
open Go Go.Proofs
set_option linter.unusedVariables false
set_option maxRecDepth 100000
set_option maxHeartbeats 40000000
def movN (c c2 : List Int) (rb : Int) : Nat := min c.length (rb.toNat - c2.length)
theorem move57 {ra a n : Int} {L c : List Int} (h1 : Rg ra a n L c) {rb a2 n2 : Int} {L2 c2 : List Int} (h2 : Rg rb a2 n2 L2 c2) : Spec Try.prog 57 [.ptr 0 0 4 0 0, .ptr 2 0 4 0 0] [rgC ra a n L.length 1, rowI L, rgC rb a2 n2 L2.length 3, rowI L2]
    (fun d os' => ∃ a n L a2 n2 L2 g, (d = .int .i64 (movN c c2 rb) ∧ Rg ra a n L (c.drop (movN c c2 rb)) ∧ Rg rb a2 n2 L2 (c2 ++ c.take (movN c c2 rb))) ∧ os' = bif g then [rgC ra a n L.length 1, rowI L, rgC rb a2 n2 L2.length 4, one .gone, rowI L2] else [rgC ra a n L.length 1, rowI L, rgC rb a2 n2 L2.length 3, rowI L2]) := by
  refine Spec.by Try.func57 rfl (by decide) (by decide +kernel) rfl ?_
  (conv => whnf); repeat ((first | with_reducible (first | refine Pt.go ?_ | refine dA ?_ | refine dL ?_) | refine Br.t ?_ | refine Br.f ?_ | refine bT ?_ | refine bF ?_ | refine Opt.mk ?_ | with_reducible refine aR ?_ | refine ⟨fun h => absurd (congrArg List.length h) (Nat.succ_ne_zero _), fun _ => ?_⟩ | refine aC ?_ | refine apG ?_); conv => whnf)
  refine Loop.inv (A := Nat × (Int × Int × List Int) × (Int × Int × List Int) × Bool) (List.range 27) (fun x => [(0, .ptr 0 0 4 0 0), (1, .ptr 2 0 4 0 0), (4, .int .i64 0), (5, .int .i64 (x.1 : Int))]) (fun x => bif x.2.2.2 then [rgC ra x.2.1.1 x.2.1.2.1 x.2.1.2.2.length 1, rowI x.2.1.2.2, rgC rb x.2.2.1.1 x.2.2.1.2.1 x.2.2.1.2.2.length 4, one .gone, rowI x.2.2.1.2.2] else [rgC ra x.2.1.1 x.2.1.2.1 x.2.1.2.2.length 1, rowI x.2.1.2.2, rgC rb x.2.2.1.1 x.2.2.1.2.1 x.2.2.1.2.2.length 3, rowI x.2.2.1.2.2]) (fun x => x.1 ≤ c.length ∧ Rg ra x.2.1.1 x.2.1.2.1 x.2.1.2.2 (c.drop x.1) ∧ Rg rb x.2.2.1.1 x.2.2.1.2.1 x.2.2.1.2.2 (c2 ++ c.take x.1)) (fun x => c.length - x.1) (0, (a, n, L), (a2, n2, L2), false) ⟨Nat.zero_le _, h1, by simpa using h2⟩ ?_ ?_
  · exact Weak.start' rfl rfl (by repeat (first | exact trivial | refine And.intro (by first | rfl | exact congrArg (fun n => D.sl _ _ _ _ n none) List.length_append | exact congrArg _ (by omega)) ?_))
  rintro ⟨i, ⟨a3, n3, L3⟩, ⟨a4, n4, L4⟩, g⟩ ⟨hi, hg3, hg4⟩
  dsimp only at hi hg3 hg4 ⊢
  have hn3 : n3 = ((c.length - i : Nat) : Int) := by rw [hg3.nl, List.length_drop]
  have hn4 : n4 = (c2.length + i : Nat) := by rw [hg4.nl, List.length_append, List.length_take]; congr 2; omega
  have hle4 : n4 ≤ rb := by have := hg4.cl; have := hg4.ll; have := hg4.nl; omega
  have hrb := hg4.rm
  have hc3 := hg3.rm
  have hc3l : n3 ≤ ra := by have := hg3.cl; have := hg3.ll; have := hg3.nl; omega
  cases g with
  | false =>
    (conv => whnf); repeat ((first | with_reducible (first | refine Pt.go ?_ | refine dA ?_ | refine dL ?_) | refine Br.t ?_ | refine Br.f ?_ | refine bT ?_ | refine bF ?_ | refine Opt.mk ?_ | with_reducible refine aR ?_ | refine ⟨fun h => absurd (congrArg List.length h) (Nat.succ_ne_zero _), fun _ => ?_⟩ | refine aC ?_ | refine apG ?_); conv => whnf)
    refine Call.mk (Spec.rgR (len49 ra a3 n3 L3) 0 1 _ rfl rfl (by decide) rfl (by rintro d rfl; rfl)) ?_
    rintro d os' ⟨rfl, rfl⟩
    (conv => whnf); repeat ((first | with_reducible (first | refine Pt.go ?_ | refine dA ?_ | refine dL ?_) | refine Br.t ?_ | refine Br.f ?_ | refine bT ?_ | refine bF ?_ | refine Opt.mk ?_ | with_reducible refine aR ?_ | refine ⟨fun h => absurd (congrArg List.length h) (Nat.succ_ne_zero _), fun _ => ?_⟩ | refine aC ?_ | refine apG ?_); conv => whnf)
    refine Br.dec (fun h0 => ?_) (fun h0 => ?_)
    · (conv => whnf); repeat ((first | with_reducible (first | refine Pt.go ?_ | refine dA ?_ | refine dL ?_) | refine Br.t ?_ | refine Br.f ?_ | refine bT ?_ | refine bF ?_ | refine Opt.mk ?_ | with_reducible refine aR ?_ | refine ⟨fun h => absurd (congrArg List.length h) (Nat.succ_ne_zero _), fun _ => ?_⟩ | refine aC ?_ | refine apG ?_); conv => whnf)
      refine Call.mk (Spec.rgR (room51 rb a4 n4 hrb (by omega) L4) 2 3 _ rfl rfl (by decide) rfl (by rintro d rfl; rfl)) ?_
      rintro d os' ⟨rfl, rfl⟩
      (conv => whnf); repeat ((first | with_reducible (first | refine Pt.go ?_ | refine dA ?_ | refine dL ?_) | refine Br.t ?_ | refine Br.f ?_ | refine bT ?_ | refine bF ?_ | refine Opt.mk ?_ | with_reducible refine aR ?_ | refine ⟨fun h => absurd (congrArg List.length h) (Nat.succ_ne_zero _), fun _ => ?_⟩ | refine aC ?_ | refine apG ?_); conv => whnf)
      refine Br.dec (fun h3 => ?_) (fun h3 => ?_)
      · have hil : i < c.length := by omega
        have hcd : c.drop i = c[i] :: c.drop (i + 1) := List.drop_eq_getElem_cons hil
        rw [hcd] at hg3
        have hpu : pushC rb (c2 ++ c.take i) c[i] = (0, c2 ++ c.take (i + 1)) := by
          unfold pushC
          have hh := hg4.nl
          rw [if_neg (by omega), List.append_assoc, List.take_add_one, List.getElem?_eq_getElem hil]
          rfl
        (conv => whnf); repeat ((first | with_reducible (first | refine Pt.go ?_ | refine dA ?_ | refine dL ?_) | refine Br.t ?_ | refine Br.f ?_ | refine bT ?_ | refine bF ?_ | refine Opt.mk ?_ | with_reducible refine aR ?_ | refine ⟨fun h => absurd (congrArg List.length h) (Nat.succ_ne_zero _), fun _ => ?_⟩ | refine aC ?_ | refine apG ?_); conv => whnf)
        refine Call.mk (Spec.rgP (pop48x hg3) 0 1 _ rfl rfl (by decide) rfl (by rintro d a n L ⟨rfl, _⟩; rfl)) ?_
        rintro d os' ⟨a5, n5, L5, ⟨rfl, hg5⟩, rfl⟩
        (conv => whnf); repeat ((first | with_reducible (first | refine Pt.go ?_ | refine dA ?_ | refine dL ?_) | refine Br.t ?_ | refine Br.f ?_ | refine bT ?_ | refine bF ?_ | refine Opt.mk ?_ | with_reducible refine aR ?_ | refine ⟨fun h => absurd (congrArg List.length h) (Nat.succ_ne_zero _), fun _ => ?_⟩ | refine aC ?_ | refine apG ?_); conv => whnf)
        refine Call.mk (Spec.rgW (push47 hg4 c[i]) 2 3 _ rfl rfl (by decide) rfl (by rintro d a n L ⟨rfl, _⟩; rfl)) ?_
        rintro d os' ⟨a6, n6, L6, g', ⟨rfl, hg6⟩, rfl⟩
        rw [hpu] at hg6 ⊢
        cases g' with
        | true =>
          (conv => whnf); repeat ((first | with_reducible (first | refine Pt.go ?_ | refine dA ?_ | refine dL ?_) | refine Br.t ?_ | refine Br.f ?_ | refine bT ?_ | refine bF ?_ | refine Opt.mk ?_ | with_reducible refine aR ?_ | refine ⟨fun h => absurd (congrArg List.length h) (Nat.succ_ne_zero _), fun _ => ?_⟩ | refine aC ?_ | refine apG ?_); conv => whnf)
          refine ⟨_, _, _, ?_, ⟨(i + 1, (a5, n5, L5), (a6, n6, L6), true), ?_, rfl, rfl, rfl⟩, ?_⟩
          · show c.length - (i + 1) < c.length - i; omega
          · exact ⟨hil, hg5, hg6⟩
          · refine Weak.backT 5 (by simp) (by first | rfl | kernel_rfl) (by kernel_rfl) (Nat.le_of_ble_eq_true rfl) (by repeat (first | exact trivial | refine And.intro (by first | rfl | exact congrArg (fun n => D.sl _ _ _ _ n none) List.length_append | exact congrArg _ (by omega)) ?_)) (by kernel_rfl) (by kernel_rfl)
        | false =>
          (conv => whnf); repeat ((first | with_reducible (first | refine Pt.go ?_ | refine dA ?_ | refine dL ?_) | refine Br.t ?_ | refine Br.f ?_ | refine bT ?_ | refine bF ?_ | refine Opt.mk ?_ | with_reducible refine aR ?_ | refine ⟨fun h => absurd (congrArg List.length h) (Nat.succ_ne_zero _), fun _ => ?_⟩ | refine aC ?_ | refine apG ?_); conv => whnf)
          refine ⟨_, _, _, ?_, ⟨(i + 1, (a5, n5, L5), (a6, n6, L6), false), ?_, rfl, rfl, rfl⟩, ?_⟩
          · show c.length - (i + 1) < c.length - i; omega
          · exact ⟨hil, hg5, hg6⟩
          · refine Weak.backT 4 (by simp) (by first | rfl | kernel_rfl) (by kernel_rfl) (Nat.le_of_ble_eq_true rfl) (by repeat (first | exact trivial | refine And.intro (by first | rfl | exact congrArg (fun n => D.sl _ _ _ _ n none) List.length_append | exact congrArg _ (by omega)) ?_)) (by kernel_rfl) (by kernel_rfl)
      · have hk : movN c c2 rb = i := by unfold movN; omega
        rw [hk]
        (conv => whnf); repeat ((first | with_reducible (first | refine Pt.go ?_ | refine dA ?_ | refine dL ?_) | refine Br.t ?_ | refine Br.f ?_ | refine bT ?_ | refine bF ?_ | refine Opt.mk ?_ | with_reducible refine aR ?_ | refine ⟨fun h => absurd (congrArg List.length h) (Nat.succ_ne_zero _), fun _ => ?_⟩ | refine aC ?_ | refine apG ?_); conv => whnf)
        exact Ret.mk [.tmp 4] rfl ⟨a3, n3, L3, a4, n4, L4, false, ⟨rfl, hg3, hg4⟩, rfl⟩
    · have hk : movN c c2 rb = i := by unfold movN; omega
      rw [hk]
      (conv => whnf); repeat ((first | with_reducible (first | refine Pt.go ?_ | refine dA ?_ | refine dL ?_) | refine Br.t ?_ | refine Br.f ?_ | refine bT ?_ | refine bF ?_ | refine Opt.mk ?_ | with_reducible refine aR ?_ | refine ⟨fun h => absurd (congrArg List.length h) (Nat.succ_ne_zero _), fun _ => ?_⟩ | refine aC ?_ | refine apG ?_); conv => whnf)
      exact Ret.mk [.tmp 4] rfl ⟨a3, n3, L3, a4, n4, L4, false, ⟨rfl, hg3, hg4⟩, rfl⟩
  | true =>
    (conv => whnf); repeat ((first | with_reducible (first | refine Pt.go ?_ | refine dA ?_ | refine dL ?_) | refine Br.t ?_ | refine Br.f ?_ | refine bT ?_ | refine bF ?_ | refine Opt.mk ?_ | with_reducible refine aR ?_ | refine ⟨fun h => absurd (congrArg List.length h) (Nat.succ_ne_zero _), fun _ => ?_⟩ | refine aC ?_ | refine apG ?_); conv => whnf)
    refine Call.mk (Spec.rgR (len49 ra a3 n3 L3) 0 1 _ rfl rfl (by decide) rfl (by rintro d rfl; rfl)) ?_
    rintro d os' ⟨rfl, rfl⟩
    (conv => whnf); repeat ((first | with_reducible (first | refine Pt.go ?_ | refine dA ?_ | refine dL ?_) | refine Br.t ?_ | refine Br.f ?_ | refine bT ?_ | refine bF ?_ | refine Opt.mk ?_ | with_reducible refine aR ?_ | refine ⟨fun h => absurd (congrArg List.length h) (Nat.succ_ne_zero _), fun _ => ?_⟩ | refine aC ?_ | refine apG ?_); conv => whnf)
    refine Br.dec (fun h0 => ?_) (fun h0 => ?_)
    · (conv => whnf); repeat ((first | with_reducible (first | refine Pt.go ?_ | refine dA ?_ | refine dL ?_) | refine Br.t ?_ | refine Br.f ?_ | refine bT ?_ | refine bF ?_ | refine Opt.mk ?_ | with_reducible refine aR ?_ | refine ⟨fun h => absurd (congrArg List.length h) (Nat.succ_ne_zero _), fun _ => ?_⟩ | refine aC ?_ | refine apG ?_); conv => whnf)
      refine Call.mk (Spec.rgR (room51 rb a4 n4 hrb (by omega) L4) 2 4 _ rfl rfl (by decide) rfl (by rintro d rfl; rfl)) ?_
      rintro d os' ⟨rfl, rfl⟩
      (conv => whnf); repeat ((first | with_reducible (first | refine Pt.go ?_ | refine dA ?_ | refine dL ?_) | refine Br.t ?_ | refine Br.f ?_ | refine bT ?_ | refine bF ?_ | refine Opt.mk ?_ | with_reducible refine aR ?_ | refine ⟨fun h => absurd (congrArg List.length h) (Nat.succ_ne_zero _), fun _ => ?_⟩ | refine aC ?_ | refine apG ?_); conv => whnf)
      refine Br.dec (fun h3 => ?_) (fun h3 => ?_)
      · have hil : i < c.length := by omega
        have hcd : c.drop i = c[i] :: c.drop (i + 1) := List.drop_eq_getElem_cons hil
        rw [hcd] at hg3
        have hpu : pushC rb (c2 ++ c.take i) c[i] = (0, c2 ++ c.take (i + 1)) := by
          unfold pushC
          have hh := hg4.nl
          rw [if_neg (by omega), List.append_assoc, List.take_add_one, List.getElem?_eq_getElem hil]
          rfl
        (conv => whnf); repeat ((first | with_reducible (first | refine Pt.go ?_ | refine dA ?_ | refine dL ?_) | refine Br.t ?_ | refine Br.f ?_ | refine bT ?_ | refine bF ?_ | refine Opt.mk ?_ | with_reducible refine aR ?_ | refine ⟨fun h => absurd (congrArg List.length h) (Nat.succ_ne_zero _), fun _ => ?_⟩ | refine aC ?_ | refine apG ?_); conv => whnf)
        refine Call.mk (Spec.rgP (pop48x hg3) 0 1 _ rfl rfl (by decide) rfl (by rintro d a n L ⟨rfl, _⟩; rfl)) ?_
        rintro d os' ⟨a5, n5, L5, ⟨rfl, hg5⟩, rfl⟩
        (conv => whnf); repeat ((first | with_reducible (first | refine Pt.go ?_ | refine dA ?_ | refine dL ?_) | refine Br.t ?_ | refine Br.f ?_ | refine bT ?_ | refine bF ?_ | refine Opt.mk ?_ | with_reducible refine aR ?_ | refine ⟨fun h => absurd (congrArg List.length h) (Nat.succ_ne_zero _), fun _ => ?_⟩ | refine aC ?_ | refine apG ?_); conv => whnf)
        refine Call.mk (Spec.rgW (push47 hg4 c[i]) 2 4 _ rfl rfl (by decide) rfl (by rintro d a n L ⟨rfl, _⟩; rfl)) ?_
        rintro d os' ⟨a6, n6, L6, g', ⟨rfl, hg6⟩, rfl⟩
        rw [hpu] at hg6 ⊢
        cases g' with
        | true =>
          (conv => whnf); repeat ((first | with_reducible (first | refine Pt.go ?_ | refine dA ?_ | refine dL ?_) | refine Br.t ?_ | refine Br.f ?_ | refine bT ?_ | refine bF ?_ | refine Opt.mk ?_ | with_reducible refine aR ?_ | refine ⟨fun h => absurd (congrArg List.length h) (Nat.succ_ne_zero _), fun _ => ?_⟩ | refine aC ?_ | refine apG ?_); conv => whnf)
          refine ⟨_, _, _, ?_, ⟨(i + 1, (a5, n5, L5), (a6, n6, L6), true), ?_, rfl, rfl, rfl⟩, ?_⟩
          · show c.length - (i + 1) < c.length - i; omega
          · exact ⟨hil, hg5, hg6⟩
          · refine Weak.trans (Weak.shift 5 4 (by decide) (by simp) (Nat.le_of_ble_eq_true rfl) (Nat.le_of_ble_eq_true rfl) (fun j => by cases j <;> rfl) rfl) ?_
            refine Weak.backT 5 (by simp) (by first | rfl | kernel_rfl) (by kernel_rfl) (Nat.le_of_ble_eq_true rfl) (by repeat (first | exact trivial | refine And.intro (by first | rfl | exact congrArg (fun n => D.sl _ _ _ _ n none) List.length_append | exact congrArg _ (by omega)) ?_)) (by kernel_rfl) (by kernel_rfl)
        | false =>
          (conv => whnf); repeat ((first | with_reducible (first | refine Pt.go ?_ | refine dA ?_ | refine dL ?_) | refine Br.t ?_ | refine Br.f ?_ | refine bT ?_ | refine bF ?_ | refine Opt.mk ?_ | with_reducible refine aR ?_ | refine ⟨fun h => absurd (congrArg List.length h) (Nat.succ_ne_zero _), fun _ => ?_⟩ | refine aC ?_ | refine apG ?_); conv => whnf)
          refine ⟨_, _, _, ?_, ⟨(i + 1, (a5, n5, L5), (a6, n6, L6), true), ?_, rfl, rfl, rfl⟩, ?_⟩
          · show c.length - (i + 1) < c.length - i; omega
          · exact ⟨hil, hg5, hg6⟩
          · refine Weak.backT 5 (by simp) (by first | rfl | kernel_rfl) (by kernel_rfl) (Nat.le_of_ble_eq_true rfl) (by repeat (first | exact trivial | refine And.intro (by first | rfl | exact congrArg (fun n => D.sl _ _ _ _ n none) List.length_append | exact congrArg _ (by omega)) ?_)) (by kernel_rfl) (by kernel_rfl)
      · have hk : movN c c2 rb = i := by unfold movN; omega
        rw [hk]
        (conv => whnf); repeat ((first | with_reducible (first | refine Pt.go ?_ | refine dA ?_ | refine dL ?_) | refine Br.t ?_ | refine Br.f ?_ | refine bT ?_ | refine bF ?_ | refine Opt.mk ?_ | with_reducible refine aR ?_ | refine ⟨fun h => absurd (congrArg List.length h) (Nat.succ_ne_zero _), fun _ => ?_⟩ | refine aC ?_ | refine apG ?_); conv => whnf)
        exact Ret.mk [.tmp 4] rfl ⟨a3, n3, L3, a4, n4, L4, true, ⟨rfl, hg3, hg4⟩, rfl⟩
    · have hk : movN c c2 rb = i := by unfold movN; omega
      rw [hk]
      (conv => whnf); repeat ((first | with_reducible (first | refine Pt.go ?_ | refine dA ?_ | refine dL ?_) | refine Br.t ?_ | refine Br.f ?_ | refine bT ?_ | refine bF ?_ | refine Opt.mk ?_ | with_reducible refine aR ?_ | refine ⟨fun h => absurd (congrArg List.length h) (Nat.succ_ne_zero _), fun _ => ?_⟩ | refine aC ?_ | refine apG ?_); conv => whnf)
      exact Ret.mk [.tmp 4] rfl ⟨a3, n3, L3, a4, n4, L4, true, ⟨rfl, hg3, hg4⟩, rfl⟩
end Go.Proofs.Ytaplihoeephbeaa.V
