/- R14: a text of a symbolic executor that is proved sound, and contracts that are proved with it. -/
import Derived.Test.YtaplihoeephbeaaR13
namespace Go.Proofs.Ytaplihoeephbeaa.V
open Go Go.Proofs
set_option linter.unusedVariables false
set_option maxRecDepth 100000
set_option maxHeartbeats 40000000
theorem popC_in {c : List Int} (hc : ∀ v ∈ c, I64 v) : ∀ v ∈ c.tail, I64 v := fun v hv => hc v (List.mem_of_mem_tail hv)
/-- How a ring lies behind a deed. -/
def rgEnd (room a n : Int) (L : List Int) (os' : Objs) : Prop :=
  (os'.take 2 = [rgC room a n L.length 1, rowI L] ∧ 2 ≤ os'.length) ∨ (∃ x2 x3 x4 x5, os' = [rgC room a n L.length 6, one .gone, x2, x3, x4, x5, rowI L]) ∨ (∃ x2 x3 x4 x5 x6 x7 x8, os' = [rgC room a n L.length 9, one .gone, x2, x3, x4, x5, x6, x7, x8, rowI L])
theorem does63r {room a n : Int} {L c : List Int} (h : Rg room a n L c) (hc : ∀ v ∈ c, I64 v) (kd v : Int) (hv : I64 v) : Spec Try.prog 63 [.ptr 0 0 4 0 0, rfD room c, .agg [.int .i64 kd, .int .i64 v]] [rgC room a n L.length 1, rowI L]
    (fun d os' => ∃ a' n' L' c', ((d = .tup [rfD room c', .bool true] ∧ Rg room a' n' L' c') ∧ ∀ v ∈ c', I64 v) ∧ rgEnd room a' n' L' os') := by
  have hcl : c.length ≤ 1024 := by have := h.cl; have := h.ll; have := h.rm; omega
  have hcr : (c.length : Int) ≤ room := by have := h.cl; have := h.ll; omega
  have hcm : (c.map (D.int .i64)).length = c.length := List.length_map ..
  refine Spec.by Try.func63 rfl (by decide) (by decide +kernel) rfl ?_
  (conv => whnf); repeat ((first | with_reducible (first | refine Pt.go ?_ | refine dA ?_ | refine dL ?_) | refine Br.t ?_ | refine Br.f ?_ | refine bT ?_ | refine bF ?_ | refine Opt.mk ?_ | with_reducible refine aR ?_ | refine ⟨fun h => absurd (congrArg List.length h) (Nat.succ_ne_zero _), fun _ => ?_⟩ | refine aC ?_ | refine apG ?_); conv => whnf)
  refine Br.dec (fun h0 => ?_) (fun h0 => ?_)
  · (conv => whnf); repeat ((first | with_reducible (first | refine Pt.go ?_ | refine dA ?_ | refine dL ?_) | refine Br.t ?_ | refine Br.f ?_ | refine bT ?_ | refine bF ?_ | refine Opt.mk ?_ | with_reducible refine aR ?_ | refine ⟨fun h => absurd (congrArg List.length h) (Nat.succ_ne_zero _), fun _ => ?_⟩ | refine aC ?_ | refine apG ?_); conv => whnf)
    refine Call.mk ((ref_push142 room c v hcr hcl).only _ rfl (by rintro d rfl; rfl)) ?_; rintro d os' ⟨rfl, rfl⟩
    (conv => whnf); repeat ((first | with_reducible (first | refine Pt.go ?_ | refine dA ?_ | refine dL ?_) | refine Br.t ?_ | refine Br.f ?_ | refine bT ?_ | refine bF ?_ | refine Opt.mk ?_ | with_reducible refine aR ?_ | refine ⟨fun h => absurd (congrArg List.length h) (Nat.succ_ne_zero _), fun _ => ?_⟩ | refine aC ?_ | refine apG ?_); conv => whnf)
    refine Call.mk (Spec.rgW (push47 h v) 0 1 _ rfl rfl (by decide) rfl (by rintro d a n L ⟨rfl, _⟩; rfl)) ?_
    rintro d os' ⟨a3, n3, L3, g, ⟨rfl, hg3⟩, rfl⟩
    have hin : ∀ w ∈ (pushC room c v).2, I64 w := by
      intro w hw
      unfold pushC at hw
      split at hw
      · exact hc w hw
      · rcases List.mem_append.1 hw with hw | hw
        · exact hc w hw
        · simp only [List.mem_singleton] at hw; subst hw; exact hv
    obtain ⟨⟨e, c3⟩, hp⟩ : ∃ p, pushC room c v = p := ⟨_, rfl⟩
    rw [hp] at hg3 hin ⊢
    have b1 : decide (e = e) = true := decide_eq_true rfl
    cases g with
    | true =>
      (conv => whnf); repeat ((first | with_reducible (first | refine Pt.go ?_ | refine dA ?_ | refine dL ?_) | refine Br.t ?_ | refine Br.f ?_ | refine bT ?_ | refine bF ?_ | refine Opt.mk ?_ | with_reducible refine aR ?_ | refine ⟨fun h => absurd (congrArg List.length h) (Nat.succ_ne_zero _), fun _ => ?_⟩ | refine aC ?_ | refine apG ?_); conv => whnf)
      rw [b1]
      refine Ret.mk [.cell 6 71, .tmp 7] rfl ⟨_, _, _, _, ⟨⟨rfl, hg3⟩, hin⟩, .inr (.inl ⟨_, _, _, _, rfl⟩)⟩
    | false =>
      (conv => whnf); repeat ((first | with_reducible (first | refine Pt.go ?_ | refine dA ?_ | refine dL ?_) | refine Br.t ?_ | refine Br.f ?_ | refine bT ?_ | refine bF ?_ | refine Opt.mk ?_ | with_reducible refine aR ?_ | refine ⟨fun h => absurd (congrArg List.length h) (Nat.succ_ne_zero _), fun _ => ?_⟩ | refine aC ?_ | refine apG ?_); conv => whnf)
      rw [b1]
      refine Ret.mk [.cell 6 71, .tmp 7] rfl ⟨_, _, _, _, ⟨⟨rfl, hg3⟩, hin⟩, .inl ⟨rfl, Nat.le_of_ble_eq_true rfl⟩⟩
  · (conv => whnf); repeat ((first | with_reducible (first | refine Pt.go ?_ | refine dA ?_ | refine dL ?_) | refine Br.t ?_ | refine Br.f ?_ | refine bT ?_ | refine bF ?_ | refine Opt.mk ?_ | with_reducible refine aR ?_ | refine ⟨fun h => absurd (congrArg List.length h) (Nat.succ_ne_zero _), fun _ => ?_⟩ | refine aC ?_ | refine apG ?_); conv => whnf)
    refine Br.dec (fun h1 => ?_) (fun h1 => ?_)
    · (conv => whnf); repeat ((first | with_reducible (first | refine Pt.go ?_ | refine dA ?_ | refine dL ?_) | refine Br.t ?_ | refine Br.f ?_ | refine bT ?_ | refine bF ?_ | refine Opt.mk ?_ | with_reducible refine aR ?_ | refine ⟨fun h => absurd (congrArg List.length h) (Nat.succ_ne_zero _), fun _ => ?_⟩ | refine aC ?_ | refine apG ?_); conv => whnf)
      refine Call.mk ((ref_pop143 room c hcl).only _ rfl (by rintro d rfl; rfl)) ?_; rintro d os' ⟨rfl, rfl⟩
      (conv => whnf); repeat ((first | with_reducible (first | refine Pt.go ?_ | refine dA ?_ | refine dL ?_) | refine Br.t ?_ | refine Br.f ?_ | refine bT ?_ | refine bF ?_ | refine Opt.mk ?_ | with_reducible refine aR ?_ | refine ⟨fun h => absurd (congrArg List.length h) (Nat.succ_ne_zero _), fun _ => ?_⟩ | refine aC ?_ | refine apG ?_); conv => whnf)
      refine Call.mk (Spec.rgR (peek125 h) 0 1 _ rfl rfl (by decide) rfl (by rintro d rfl; rfl)) ?_
      rintro d os' ⟨rfl, rfl⟩
      (conv => whnf); repeat ((first | with_reducible (first | refine Pt.go ?_ | refine dA ?_ | refine dL ?_) | refine Br.t ?_ | refine Br.f ?_ | refine bT ?_ | refine bF ?_ | refine Opt.mk ?_ | with_reducible refine aR ?_ | refine ⟨fun h => absurd (congrArg List.length h) (Nat.succ_ne_zero _), fun _ => ?_⟩ | refine aC ?_ | refine apG ?_); conv => whnf)
      refine Call.mk (Spec.rgP (pop48x h) 0 1 _ rfl rfl (by decide) rfl (by rintro d a n L ⟨rfl, _⟩; rfl)) ?_
      rintro d os' ⟨a3, n3, L3, ⟨rfl, hg3⟩, rfl⟩
      have e1 : atV c 0 = (popC c).1 := by cases c <;> rfl
      have e2 : (if c = [] then (7 : Int) else 0) = (popC c).2 := by cases c <;> rfl
      rw [e1, e2]
      obtain ⟨⟨w, f⟩, hp⟩ : ∃ p, popC c = p := ⟨_, rfl⟩
      rw [hp]
      (conv => whnf); repeat ((first | with_reducible (first | refine Pt.go ?_ | refine dA ?_ | refine dL ?_) | refine Br.t ?_ | refine Br.f ?_ | refine bT ?_ | refine bF ?_ | refine Opt.mk ?_ | with_reducible refine aR ?_ | refine ⟨fun h => absurd (congrArg List.length h) (Nat.succ_ne_zero _), fun _ => ?_⟩ | refine aC ?_ | refine apG ?_); conv => whnf)
      rw [show decide (f = f) = true from decide_eq_true rfl]
      exact Ret.mk [.cell 6 71, .tmp 7] rfl ⟨_, _, _, _, ⟨⟨rfl, hg3⟩, popC_in hc⟩, .inl ⟨rfl, Nat.le_of_ble_eq_true rfl⟩⟩
    · (conv => whnf); repeat ((first | with_reducible (first | refine Pt.go ?_ | refine dA ?_ | refine dL ?_) | refine Br.t ?_ | refine Br.f ?_ | refine bT ?_ | refine bF ?_ | refine Opt.mk ?_ | with_reducible refine aR ?_ | refine ⟨fun h => absurd (congrArg List.length h) (Nat.succ_ne_zero _), fun _ => ?_⟩ | refine aC ?_ | refine apG ?_); conv => whnf)
      refine Br.dec (fun h2 => ?_) (fun h2 => ?_)
      · (conv => whnf); repeat ((first | with_reducible (first | refine Pt.go ?_ | refine dA ?_ | refine dL ?_) | refine Br.t ?_ | refine Br.f ?_ | refine bT ?_ | refine bF ?_ | refine Opt.mk ?_ | with_reducible refine aR ?_ | refine ⟨fun h => absurd (congrArg List.length h) (Nat.succ_ne_zero _), fun _ => ?_⟩ | refine aC ?_ | refine apG ?_); conv => whnf)
        refine Call.mk ((around33 v 3 hv (by decide)).only _ rfl (by rintro d rfl; rfl)) ?_; rintro d os' ⟨rfl, rfl⟩
        obtain ⟨k, hk⟩ : ∃ k, around v 3 = k := ⟨_, rfl⟩
        rw [hk]
        (conv => whnf); repeat ((first | with_reducible (first | refine Pt.go ?_ | refine dA ?_ | refine dL ?_) | refine Br.t ?_ | refine Br.f ?_ | refine bT ?_ | refine bF ?_ | refine Opt.mk ?_ | with_reducible refine aR ?_ | refine ⟨fun h => absurd (congrArg List.length h) (Nat.succ_ne_zero _), fun _ => ?_⟩ | refine aC ?_ | refine apG ?_); conv => whnf)
        refine Call.mk ((ref_cut144 room c k hcl hc).only _ rfl (by rintro d rfl; rfl)) ?_; rintro d os' ⟨rfl, rfl⟩
        (conv => whnf); repeat ((first | with_reducible (first | refine Pt.go ?_ | refine dA ?_ | refine dL ?_) | refine Br.t ?_ | refine Br.f ?_ | refine bT ?_ | refine bF ?_ | refine Opt.mk ?_ | with_reducible refine aR ?_ | refine ⟨fun h => absurd (congrArg List.length h) (Nat.succ_ne_zero _), fun _ => ?_⟩ | refine aC ?_ | refine apG ?_); conv => whnf)
        refine Call.mk ((cutS h room k hc).frame _ [(0, 0), (1, 0), (8, 0), (7, 0), (2, 0), (5, 0)] rfl (by decide) (fun p q hk => by
          match p, hk with
          | 0, hk => simp at hk; subst hk; exact ⟨Nat.le_of_ble_eq_true rfl, rfl, rfl, fun j hj => one_pos _ hj⟩
          | 1, hk => simp at hk; subst hk; exact ⟨Nat.le_of_ble_eq_true rfl, rfl, rfl, fun j hj => one_pos _ hj⟩
          | 2, hk => simp at hk; subst hk; exact ⟨Nat.le_of_ble_eq_true rfl, rfl, rfl, fun j hj => one_pos _ hj⟩
          | 3, hk => simp at hk; subst hk; exact ⟨Nat.le_of_ble_eq_true rfl, rfl, rfl, fun j hj => one_pos _ hj⟩
          | 4, hk => simp at hk; subst hk; exact ⟨Nat.le_of_ble_eq_true rfl, rfl, rfl, fun j hj => one_pos _ hj⟩
          | 5, hk => simp at hk; subst hk; exact ⟨Nat.le_of_ble_eq_true rfl, rfl, rfl, fun j hj => one_pos _ hj⟩
          | p + 6, hk => simp at hk) rfl) ?_
        rintro d os' ⟨d1, os1, ⟨a3, n3, L3, ⟨rfl, hg3⟩, rfl⟩, rfl, rfl⟩
        have hin : ∀ w ∈ c.filter (fun x => !cutB k x), I64 w := fun w hw => hc w (List.mem_filter.1 hw).1
        obtain ⟨f, hf⟩ : ∃ f, c.filter (fun x => !cutB k x) = f := ⟨_, rfl⟩
        rw [hf] at hg3 hin ⊢
        (conv => whnf); repeat ((first | with_reducible (first | refine dA ?_ | refine dL ?_) | refine Br.t ?_ | refine Br.f ?_ | refine bT ?_ | refine bF ?_ | refine Opt.mk ?_ | with_reducible refine aR ?_ | refine ⟨fun h => absurd (congrArg List.length h) (Nat.succ_ne_zero _), fun _ => ?_⟩ | refine aC ?_ | refine apG ?_); conv => whnf)
        refine Pt.weak (Weak.only [(4, .ptr 2 0 2 0 0), (6, .ptr 4 0 2 0 0), (18, .ptr 6 0 2 0 0), (19, .int .i64 ((c.length : Int) - (f.length : Int))), (20, .ptr 7 0 1 0 0), (21, .ptr 8 0 1 0 0), (22, .int .i64 ((c.length : Int) - (f.length : Int)))] [rgC room a3 n3 L3.length 9, one .gone, one (.row 71 2 false [rfD room c]), one (.row 87 2 false [.agg [.int .i64 kd, .int .i64 v]]), one (.row 71 2 false [.agg [.int .i64 0, .nils]]), one (.row 3 1 false [.int .i64 k]), one (.row 71 2 false [rfD room f]), one (.row 3 1 false [.int .i64 (c.length : Int)]), one (.row 4 1 false [.bool true]), rowI L3] (by kernel_rfl) (by repeat (first | exact trivial | refine And.intro (by first | rfl | exact congrArg (fun n => D.sl _ _ _ _ n none) List.length_append | exact congrArg _ (by omega)) ?_))) ?_
        have hcc : decide ((c.length : Int) = ((c.map (D.int .i64)).length : Int)) = true := decide_eq_true (by rw [hcm])
        (conv => whnf); repeat ((first | with_reducible (first | refine Pt.go ?_ | refine dA ?_ | refine dL ?_) | refine Br.t ?_ | refine Br.f ?_ | refine bT ?_ | refine bF ?_ | refine Opt.mk ?_ | with_reducible refine aR ?_ | refine ⟨fun h => absurd (congrArg List.length h) (Nat.succ_ne_zero _), fun _ => ?_⟩ | refine aC ?_ | refine apG ?_); conv => whnf)
        rw [hcc]
        exact Ret.mk [.cell 6 71, .tmp 7] rfl ⟨_, _, _, _, ⟨⟨rfl, hg3⟩, hin⟩, .inr (.inr ⟨_, _, _, _, _, _, _, rfl⟩)⟩
      · (conv => whnf); repeat ((first | with_reducible (first | refine Pt.go ?_ | refine dA ?_ | refine dL ?_) | refine Br.t ?_ | refine Br.f ?_ | refine bT ?_ | refine bF ?_ | refine Opt.mk ?_ | with_reducible refine aR ?_ | refine ⟨fun h => absurd (congrArg List.length h) (Nat.succ_ne_zero _), fun _ => ?_⟩ | refine aC ?_ | refine apG ?_); conv => whnf)
        refine Call.mk (Spec.rgR (at146 h v) 0 1 _ rfl rfl (by decide) rfl (by rintro d rfl; rfl)) ?_
        rintro d os' ⟨rfl, rfl⟩
        by_cases hvi : 0 ≤ v ∧ v < (c.length : Int)
        · obtain ⟨i, rfl⟩ : ∃ i : Nat, v = i := ⟨v.toNat, by omega⟩
          have hil : i < c.length := by omega
          have hget : c[i]? = some c[i] := List.getElem?_eq_getElem hil
          have e1 : atV c i = c[i] := by
            unfold atV
            rw [if_pos (by omega), List.getD_eq_getElem?_getD, Int.toNat_natCast, hget]
            rfl
          rw [e1, decide_eq_true hvi]
          (conv => whnf); repeat ((first | with_reducible (first | refine Pt.go ?_ | refine dA ?_ | refine dL ?_) | refine Br.t ?_ | refine Br.f ?_ | refine bT ?_ | refine bF ?_ | refine Opt.mk ?_ | with_reducible refine aR ?_ | refine ⟨fun h => absurd (congrArg List.length h) (Nat.succ_ne_zero _), fun _ => ?_⟩ | refine aC ?_ | refine apG ?_); conv => whnf)
          refine Opt.of (get_map hget) ?_
          (conv => whnf); repeat ((first | with_reducible (first | refine Pt.go ?_ | refine dA ?_ | refine dL ?_) | refine Br.t ?_ | refine Br.f ?_ | refine bT ?_ | refine bF ?_ | refine Opt.mk ?_ | with_reducible refine aR ?_ | refine ⟨fun h => absurd (congrArg List.length h) (Nat.succ_ne_zero _), fun _ => ?_⟩ | refine aC ?_ | refine apG ?_); conv => whnf)
          exact Ret.mk [.cell 6 71, .tmp 7] rfl ⟨_, _, _, _, ⟨⟨rfl, h⟩, hc⟩, .inl ⟨rfl, Nat.le_of_ble_eq_true rfl⟩⟩
        · have e1 : atV c v = 0 := by
            unfold atV
            split
            · rw [List.getD_eq_getElem?_getD, List.getElem?_eq_none (by omega)]; rfl
            · rfl
          rw [e1, decide_eq_false hvi]
          by_cases hv0 : v < 0
          · (conv => whnf); repeat ((first | with_reducible (first | refine Pt.go ?_ | refine dA ?_ | refine dL ?_) | refine Br.t ?_ | refine Br.f ?_ | refine bT ?_ | refine bF ?_ | refine Opt.mk ?_ | with_reducible refine aR ?_ | refine ⟨fun h => absurd (congrArg List.length h) (Nat.succ_ne_zero _), fun _ => ?_⟩ | refine aC ?_ | refine apG ?_); conv => whnf)
            exact Ret.mk [.cell 6 71, .tmp 7] rfl ⟨_, _, _, _, ⟨⟨rfl, h⟩, hc⟩, .inl ⟨rfl, Nat.le_of_ble_eq_true rfl⟩⟩
          · have hvc : (c.length : Int) ≤ v := by omega
            (conv => whnf); repeat ((first | with_reducible (first | refine Pt.go ?_ | refine dA ?_ | refine dL ?_) | refine Br.t ?_ | refine Br.f ?_ | refine bT ?_ | refine bF ?_ | refine Opt.mk ?_ | with_reducible refine aR ?_ | refine ⟨fun h => absurd (congrArg List.length h) (Nat.succ_ne_zero _), fun _ => ?_⟩ | refine aC ?_ | refine apG ?_); conv => whnf)
            exact Ret.mk [.cell 6 71, .tmp 7] rfl ⟨_, _, _, _, ⟨⟨rfl, h⟩, hc⟩, .inl ⟨rfl, Nat.le_of_ble_eq_true rfl⟩⟩
theorem does63 {room a n : Int} {L c : List Int} (h : Rg room a n L c) (hc : ∀ v ∈ c, I64 v) (kd v : Int) (hv : I64 v) : Spec Try.prog 63 [.ptr 0 0 4 0 0, rfD room c, .agg [.int .i64 kd, .int .i64 v]] [rgC room a n L.length 1, rowI L]
    (fun d os' => ∃ a' n' L' g, (∃ c', (d = .tup [rfD room c', .bool true] ∧ Rg room a' n' L' c') ∧ ∀ v ∈ c', I64 v) ∧ os' = bif g then [rgC room a' n' L'.length 2, one .gone, rowI L'] else [rgC room a' n' L'.length 1, rowI L']) := by
  refine Spec.weak (does63r h hc kd v hv) ?_
  rintro d os' ⟨a', n', L', c', ⟨⟨rfl, hg⟩, hI⟩, hE⟩
  rcases hE with ⟨h1, h2⟩ | ⟨x2, x3, x4, x5, rfl⟩ | ⟨x2, x3, x4, x5, x6, x7, x8, rfl⟩
  · exact ⟨_, _, Weak.trim 2 (Nat.le_refl _) (by rw [h1]; rfl) h2, a', n', L', false, ⟨c', ⟨rfl, hg⟩, hI⟩, h1⟩
  · exact ⟨_, _, Weak.trans (Weak.frzK (fun k => Nat.beq k 2 || (Nat.beq k 3 || (Nat.beq k 4 || Nat.beq k 5))) [] trivial) (Weak.trans (Weak.shift 6 2 (by decide) (Nat.le_refl _) (Nat.le_of_ble_eq_true rfl) (Nat.le_of_ble_eq_true rfl) (fun j => by cases j <;> rfl) rfl) (Weak.trim 3 (Nat.le_of_ble_eq_true rfl) rfl (Nat.le_of_ble_eq_true rfl))), a', n', L', true, ⟨c', ⟨rfl, hg⟩, hI⟩, rfl⟩
  · exact ⟨_, _, Weak.trans (Weak.frzK (fun k => Nat.beq k 2 || (Nat.beq k 3 || (Nat.beq k 4 || (Nat.beq k 5 || (Nat.beq k 6 || (Nat.beq k 7 || Nat.beq k 8)))))) [] trivial) (Weak.trans (Weak.shift 9 2 (by decide) (Nat.le_refl _) (Nat.le_of_ble_eq_true rfl) (Nat.le_of_ble_eq_true rfl) (fun j => by cases j <;> rfl) rfl) (Weak.trim 3 (Nat.le_of_ble_eq_true rfl) rfl (Nat.le_of_ble_eq_true rfl))), a', n', L', true, ⟨c', ⟨rfl, hg⟩, hI⟩, rfl⟩
end Go.Proofs.Ytaplihoeephbeaa.V
