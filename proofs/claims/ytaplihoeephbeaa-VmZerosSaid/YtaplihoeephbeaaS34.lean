/- S34: a text of a symbolic executor that is proved sound, and contracts that are proved with it. -/
import Derived.Test.YtaplihoeephbeaaS33
namespace Go.Proofs.Ytaplihoeephbeaa.V
open Go Go.Proofs
set_option maxRecDepth 100000
set_option maxHeartbeats 40000000
/-- Many steps. -/
def runT (g : Pg) : Nat → Th → Th × Rq × Nat
  | 0, t => (t, nq, 0)
  | k + 1, t => if (stepT g t).2.kd = 0 then ((runT g k (stepT g t).1).1, (runT g k (stepT g t).1).2.1, (runT g k (stepT g t).1).2.2 + 1) else ((stepT g t).1, (stepT g t).2, 1)
/-- What is left of a run. -/
def restT (g : Pg) (m n : Nat) (t : Th) (q : Rq) : Th × Rq × Nat := if q.kd = 0 then ((runT g (m - n) t).1, (runT g (m - n) t).2.1, (runT g (m - n) t).2.2 + n) else (t, q, n)
theorem restT_0 (g : Pg) (m : Nat) (t : Th) : restT g m 0 t nq = runT g m t := by
  unfold restT; rw [if_pos rfl]; rfl
theorem restT_s (g : Pg) (m n : Nat) (t : Th) (q : Rq) (h : n < m) (hq : q.kd = 0) : restT g m n t q = restT g m (n + 1) (stepT g t).1 (stepT g t).2 := by
  obtain ⟨k, hk⟩ : ∃ k, m - n = k + 1 := ⟨m - n - 1, by omega⟩
  have hk' : m - (n + 1) = k := by omega
  unfold restT
  rw [if_pos hq, hk, hk']
  simp only [runT]
  split
  · dsimp only; rw [Nat.add_assoc, Nat.add_comm 1 n]
  · dsimp only; rw [Nat.add_comm 1 n]
theorem restT_q (g : Pg) (m n : Nat) (t : Th) (q : Rq) (hq : q.kd ≠ 0) : restT g m n t q = (t, q, n) := by unfold restT; rw [if_neg hq]
theorem restT_e (g : Pg) (m n : Nat) (t : Th) (h : m ≤ n) : restT g m n t nq = (t, nq, n) := by unfold restT; rw [if_pos rfl, show m - n = 0 by omega]; simp [runT]
theorem stepOk_0 {g : Pg} {r : Th × Rq} (h : StepOk g r) (hk : r.2.kd = 0) : GoodT g r.1 ∧ r.2 = nq := by
  rcases h with ⟨_, h2, h3⟩ | ⟨c, _, rfl⟩
  · exact ⟨h2, h3 hk⟩
  · exact absurd hk (by show (1 : Int) ≠ 0; decide)
@[reducible] def zQ : D := .agg [.int .i64 0, .int .i64 0, .int .i64 0]
theorem run92 (g : Pg) (hg : GoodP g) (t : Th) (ht : GoodT g t) (m : Int) (hm : m ≤ 1000000) : Spec Try.prog 92 [pgD g, thD t, .int .i64 m] [] (fun d os' => d = .tup [thD (runT g m.toNat t).1, rqD (runT g m.toNat t).2.1, .int .i64 (runT g m.toNat t).2.2] ∧ os' = []) := by
  refine Spec.frz (post' := fun d => d = .tup [thD (runT g m.toNat t).1, rqD (runT g m.toNat t).2.1, .int .i64 (runT g m.toNat t).2.2]) ?_
  refine Spec.by Try.func92 rfl (by decide) (by decide +kernel) rfl ?_
  (conv => whnf); repeat ((first | with_reducible (first | refine Pt.go ?_ | refine dA ?_ | refine dL ?_) | refine Br.t ?_ | refine Br.f ?_ | refine bT ?_ | refine bF ?_ | refine Opt.mk ?_ | with_reducible refine aR ?_ | refine ⟨fun h => absurd (congrArg List.length h) (Nat.succ_ne_zero _), fun _ => ?_⟩ | refine aC ?_ | refine apG ?_); conv => whnf)
  refine Loop.inv (A := Nat × Th × Rq) (List.range 30) (fun a => [(2, .int .i64 m), (3, .ptr 0 0 7 0 0), (4, .ptr 1 0 5 0 0), (6, .ptr 2 0 5 0 0), (7, .ptr 3 0 3 0 0), (8, .int .i64 0), (9, .ptr 4 0 3 0 0), (10, .int .i64 (a.1 : Int))]) (fun a => [one (.row 26 7 false [pgD g]), one (.row 29 5 false [thD a.2.1]), one (.row 29 5 false [z29]), one (.row 131 3 false [zQ]), one (.row 131 3 false [rqD a.2.2])]) (fun a => a.1 ≤ m.toNat ∧ (a.2.2.kd = 0 → GoodT g a.2.1 ∧ a.2.2 = nq) ∧ restT g m.toNat a.1 a.2.1 a.2.2 = runT g m.toNat t) (fun a => m.toNat - a.1) (0, t, nq) ⟨Nat.zero_le _, fun _ => ⟨ht, rfl⟩, restT_0 g _ t⟩ ?_ ?_
  · exact Weak.start' rfl rfl (by repeat (first | exact trivial | refine And.intro (by first | rfl | exact congrArg (fun n => D.sl _ _ _ _ n none) List.length_append | exact congrArg _ (by omega)) ?_))
  rintro ⟨n, u, q⟩ ⟨hn, hq, hr⟩
  dsimp only at hn hq hr ⊢
  (conv => whnf); repeat ((first | with_reducible (first | refine Pt.go ?_ | refine dA ?_ | refine dL ?_) | refine Br.t ?_ | refine Br.f ?_ | refine bT ?_ | refine bF ?_ | refine Opt.mk ?_ | with_reducible refine aR ?_ | refine ⟨fun h => absurd (congrArg List.length h) (Nat.succ_ne_zero _), fun _ => ?_⟩ | refine aC ?_ | refine apG ?_); conv => whnf)
  refine Br.dec (fun h => ?_) (fun h => ?_)
  · (conv => whnf); repeat ((first | with_reducible (first | refine Pt.go ?_ | refine dA ?_ | refine dL ?_) | refine Br.t ?_ | refine Br.f ?_ | refine bT ?_ | refine bF ?_ | refine Opt.mk ?_ | with_reducible refine aR ?_ | refine ⟨fun h => absurd (congrArg List.length h) (Nat.succ_ne_zero _), fun _ => ?_⟩ | refine aC ?_ | refine apG ?_); conv => whnf)
    refine Br.dec (fun h0 => ?_) (fun h0 => ?_)
    · obtain ⟨hu, rfl⟩ := hq h0
      have hst := restT_s g m.toNat n u nq (by omega) rfl
      have hok := step_ok hg hu
      (conv => whnf); repeat ((first | with_reducible (first | refine Pt.go ?_ | refine dA ?_ | refine dL ?_) | refine Br.t ?_ | refine Br.f ?_ | refine bT ?_ | refine bF ?_ | refine Opt.mk ?_ | with_reducible refine aR ?_ | refine ⟨fun h => absurd (congrArg List.length h) (Nat.succ_ne_zero _), fun _ => ?_⟩ | refine aC ?_ | refine apG ?_); conv => whnf)
      refine Call.mk ((step97 g hg u hu).only _ rfl (by rintro d rfl; rfl)) ?_; rintro d os' ⟨rfl, rfl⟩
      obtain ⟨⟨u', q'⟩, hs⟩ : ∃ x, stepT g u = x := ⟨_, rfl⟩
      rw [hs] at hst hok ⊢
      (conv => whnf); repeat ((first | with_reducible (first | refine Pt.go ?_ | refine dA ?_ | refine dL ?_) | refine Br.t ?_ | refine Br.f ?_ | refine bT ?_ | refine bF ?_ | refine Opt.mk ?_ | with_reducible refine aR ?_ | refine ⟨fun h => absurd (congrArg List.length h) (Nat.succ_ne_zero _), fun _ => ?_⟩ | refine aC ?_ | refine apG ?_); conv => whnf)
      refine ⟨_, _, _, ?_, ⟨(n + 1, u', q'), ?_, rfl, rfl, rfl⟩, ?_⟩
      · show m.toNat - (n + 1) < m.toNat - n; omega
      · exact ⟨by show n + 1 ≤ _; omega, fun hk => stepOk_0 hok hk, by rw [← hst]; exact hr⟩
      · refine Weak.backT 5 (by simp) (by first | rfl | kernel_rfl) (by kernel_rfl) (Nat.le_of_ble_eq_true rfl) (by repeat (first | exact trivial | refine And.intro (by first | rfl | exact congrArg (fun n => D.sl _ _ _ _ n none) List.length_append | exact congrArg _ (by omega)) ?_)) (by kernel_rfl) (by kernel_rfl)
    · have he := restT_q g m.toNat n u q h0
      rw [he] at hr
      rw [← hr]
      (conv => whnf); repeat ((first | with_reducible (first | refine Pt.go ?_ | refine dA ?_ | refine dL ?_) | refine Br.t ?_ | refine Br.f ?_ | refine bT ?_ | refine bF ?_ | refine Opt.mk ?_ | with_reducible refine aR ?_ | refine ⟨fun h => absurd (congrArg List.length h) (Nat.succ_ne_zero _), fun _ => ?_⟩ | refine aC ?_ | refine apG ?_); conv => whnf)
      refine Ret.mk [.cell 6 29, .cell 7 131, .tmp 8] rfl ?_; (conv => whnf); repeat ((first | with_reducible (first | refine Pt.go ?_ | refine dA ?_ | refine dL ?_) | refine Br.t ?_ | refine Br.f ?_ | refine bT ?_ | refine bF ?_ | refine Opt.mk ?_ | with_reducible refine aR ?_ | refine ⟨fun h => absurd (congrArg List.length h) (Nat.succ_ne_zero _), fun _ => ?_⟩ | refine aC ?_ | refine apG ?_); conv => whnf)
      exact ⟨_, View.same _, rfl, rfl⟩
  · have hnm : m.toNat ≤ n := by omega
    have he : restT g m.toNat n u q = (u, q, n) := by
      by_cases h0 : q.kd = 0
      · obtain ⟨hu, rfl⟩ := hq h0; exact restT_e g _ n u hnm
      · exact restT_q g m.toNat n u q h0
    rw [he] at hr
    rw [← hr]
    (conv => whnf); repeat ((first | with_reducible (first | refine Pt.go ?_ | refine dA ?_ | refine dL ?_) | refine Br.t ?_ | refine Br.f ?_ | refine bT ?_ | refine bF ?_ | refine Opt.mk ?_ | with_reducible refine aR ?_ | refine ⟨fun h => absurd (congrArg List.length h) (Nat.succ_ne_zero _), fun _ => ?_⟩ | refine aC ?_ | refine apG ?_); conv => whnf)
    refine Ret.mk [.cell 6 29, .cell 7 131, .tmp 8] rfl ?_; (conv => whnf); repeat ((first | with_reducible (first | refine Pt.go ?_ | refine dA ?_ | refine dL ?_) | refine Br.t ?_ | refine Br.f ?_ | refine bT ?_ | refine bF ?_ | refine Opt.mk ?_ | with_reducible refine aR ?_ | refine ⟨fun h => absurd (congrArg List.length h) (Nat.succ_ne_zero _), fun _ => ?_⟩ | refine aC ?_ | refine apG ?_); conv => whnf)
    exact ⟨_, View.same _, rfl, rfl⟩
theorem run93 (g : Pg) (hg : GoodP g) (t : Th) (ht : GoodT g t) (m : Int) (hm : m ≤ 1000000) : Spec Try.prog 93 [pgD g, thD t, .int .i64 m] [] (fun d os' => d = .tup [thD (runT g m.toNat t).1, rqD (runT g m.toNat t).2.1, .int .i64 (runT g m.toNat t).2.2] ∧ os' = []) := by
  refine Spec.frz (post' := fun d => d = .tup [thD (runT g m.toNat t).1, rqD (runT g m.toNat t).2.1, .int .i64 (runT g m.toNat t).2.2]) ?_
  refine Spec.by Try.func93 rfl (by decide) (by decide +kernel) rfl ?_
  (conv => whnf); repeat ((first | with_reducible (first | refine Pt.go ?_ | refine dA ?_ | refine dL ?_) | refine Br.t ?_ | refine Br.f ?_ | refine bT ?_ | refine bF ?_ | refine Opt.mk ?_ | with_reducible refine aR ?_ | refine ⟨fun h => absurd (congrArg List.length h) (Nat.succ_ne_zero _), fun _ => ?_⟩ | refine aC ?_ | refine apG ?_); conv => whnf)
  refine Loop.inv (A := Nat × Th) (List.range 33) (fun a => [(2, .int .i64 m), (3, .ptr 0 0 7 0 0), (4, .ptr 1 0 5 0 0), (6, .ptr 2 0 5 0 0), (7, .ptr 3 0 3 0 0), (8, .int .i64 0), (9, .int .i64 (a.1 : Int))]) (fun a => [one (.row 26 7 false [pgD g]), one (.row 29 5 false [thD a.2]), one (.row 29 5 false [z29]), one (.row 134 3 false [zQ])]) (fun a => a.1 ≤ m.toNat ∧ GoodT g a.2 ∧ restT g m.toNat a.1 a.2 nq = runT g m.toNat t) (fun a => m.toNat - a.1) (0, t) ⟨Nat.zero_le _, ht, restT_0 g _ t⟩ ?_ ?_
  · exact Weak.start' rfl rfl (by repeat (first | exact trivial | refine And.intro (by first | rfl | exact congrArg (fun n => D.sl _ _ _ _ n none) List.length_append | exact congrArg _ (by omega)) ?_))
  rintro ⟨n, u⟩ ⟨hn, hu, hr⟩
  dsimp only at hn hu hr ⊢
  (conv => whnf); repeat ((first | with_reducible (first | refine Pt.go ?_ | refine dA ?_ | refine dL ?_) | refine Br.t ?_ | refine Br.f ?_ | refine bT ?_ | refine bF ?_ | refine Opt.mk ?_ | with_reducible refine aR ?_ | refine ⟨fun h => absurd (congrArg List.length h) (Nat.succ_ne_zero _), fun _ => ?_⟩ | refine aC ?_ | refine apG ?_); conv => whnf)
  refine Br.dec (fun h => ?_) (fun h => ?_)
  · have hst := restT_s g m.toNat n u nq (by omega) rfl
    have hok := step_ok hg hu
    (conv => whnf); repeat ((first | with_reducible (first | refine Pt.go ?_ | refine dA ?_ | refine dL ?_) | refine Br.t ?_ | refine Br.f ?_ | refine bT ?_ | refine bF ?_ | refine Opt.mk ?_ | with_reducible refine aR ?_ | refine ⟨fun h => absurd (congrArg List.length h) (Nat.succ_ne_zero _), fun _ => ?_⟩ | refine aC ?_ | refine apG ?_); conv => whnf)
    refine Call.mk ((step98 g hg u hu).only _ rfl (by rintro d rfl; rfl)) ?_; rintro d os' ⟨rfl, rfl⟩
    obtain ⟨⟨u', q'⟩, hs⟩ : ∃ x, stepT g u = x := ⟨_, rfl⟩
    rw [hs] at hst hok ⊢
    (conv => whnf); repeat ((first | with_reducible (first | refine Pt.go ?_ | refine dA ?_ | refine dL ?_) | refine Br.t ?_ | refine Br.f ?_ | refine bT ?_ | refine bF ?_ | refine Opt.mk ?_ | with_reducible refine aR ?_ | refine ⟨fun h => absurd (congrArg List.length h) (Nat.succ_ne_zero _), fun _ => ?_⟩ | refine aC ?_ | refine apG ?_); conv => whnf)
    refine Br.cs (fun h0_ => ?_) (fun h0_ => ?_) <;> have h0 := h0_ <;> simp at h0
    · rw [restT_q g m.toNat (n + 1) u' q' h0] at hst
      rw [hst] at hr
      rw [← hr]
      (conv => whnf); repeat ((first | with_reducible (first | refine Pt.go ?_ | refine dA ?_ | refine dL ?_) | refine Br.t ?_ | refine Br.f ?_ | refine bT ?_ | refine bF ?_ | refine Opt.mk ?_ | with_reducible refine aR ?_ | refine ⟨fun h => absurd (congrArg List.length h) (Nat.succ_ne_zero _), fun _ => ?_⟩ | refine aC ?_ | refine apG ?_); conv => whnf)
      refine Ret.mk [.cell 6 29, .cell 7 134, .tmp 8] rfl ?_; (conv => whnf); repeat ((first | with_reducible (first | refine Pt.go ?_ | refine dA ?_ | refine dL ?_) | refine Br.t ?_ | refine Br.f ?_ | refine bT ?_ | refine bF ?_ | refine Opt.mk ?_ | with_reducible refine aR ?_ | refine ⟨fun h => absurd (congrArg List.length h) (Nat.succ_ne_zero _), fun _ => ?_⟩ | refine aC ?_ | refine apG ?_); conv => whnf)
      exact ⟨_, View.same _, rfl, rfl⟩
    · have h0' : q'.kd = 0 := h0
      obtain ⟨hu', hq'⟩ := stepOk_0 hok h0'
      dsimp only at hu' hq'
      subst hq'
      (conv => whnf); repeat ((first | with_reducible (first | refine Pt.go ?_ | refine dA ?_ | refine dL ?_) | refine Br.t ?_ | refine Br.f ?_ | refine bT ?_ | refine bF ?_ | refine Opt.mk ?_ | with_reducible refine aR ?_ | refine ⟨fun h => absurd (congrArg List.length h) (Nat.succ_ne_zero _), fun _ => ?_⟩ | refine aC ?_ | refine apG ?_); conv => whnf)
      refine ⟨_, _, _, ?_, ⟨(n + 1, u'), ?_, rfl, rfl, rfl⟩, ?_⟩
      · show m.toNat - (n + 1) < m.toNat - n; omega
      · exact ⟨by show n + 1 ≤ _; omega, hu', by rw [← hst]; exact hr⟩
      · refine Weak.backT 4 (by simp) (by first | rfl | kernel_rfl) (by kernel_rfl) (Nat.le_of_ble_eq_true rfl) (by repeat (first | exact trivial | refine And.intro (by first | rfl | exact congrArg (fun n => D.sl _ _ _ _ n none) List.length_append | exact congrArg _ (by omega)) ?_)) (by kernel_rfl) (by kernel_rfl)
  · have hnm : m.toNat ≤ n := by omega
    rw [restT_e g _ n u hnm] at hr
    rw [← hr]
    (conv => whnf); repeat ((first | with_reducible (first | refine Pt.go ?_ | refine dA ?_ | refine dL ?_) | refine Br.t ?_ | refine Br.f ?_ | refine bT ?_ | refine bF ?_ | refine Opt.mk ?_ | with_reducible refine aR ?_ | refine ⟨fun h => absurd (congrArg List.length h) (Nat.succ_ne_zero _), fun _ => ?_⟩ | refine aC ?_ | refine apG ?_); conv => whnf)
    refine Ret.mk [.cell 6 29, .cell 7 134, .tmp 8] rfl ?_; (conv => whnf); repeat ((first | with_reducible (first | refine Pt.go ?_ | refine dA ?_ | refine dL ?_) | refine Br.t ?_ | refine Br.f ?_ | refine bT ?_ | refine bF ?_ | refine Opt.mk ?_ | with_reducible refine aR ?_ | refine ⟨fun h => absurd (congrArg List.length h) (Nat.succ_ne_zero _), fun _ => ?_⟩ | refine aC ?_ | refine apG ?_); conv => whnf)
    exact ⟨_, View.same _, rfl, rfl⟩
theorem as94 (q : Rq) : Spec Try.prog 94 [rqD q] [] (fun d os' => d = rqD q ∧ os' = []) := by
  refine Spec.frz (post' := fun d => d = rqD q) ?_
  refine Spec.by Try.func94 rfl (by decide) (by decide +kernel) rfl ?_
  (conv => whnf); repeat ((first | with_reducible (first | refine Pt.go ?_ | refine dA ?_ | refine dL ?_) | refine Br.t ?_ | refine Br.f ?_ | refine bT ?_ | refine bF ?_ | refine Opt.mk ?_ | with_reducible refine aR ?_ | refine ⟨fun h => absurd (congrArg List.length h) (Nat.succ_ne_zero _), fun _ => ?_⟩ | refine aC ?_ | refine apG ?_); conv => whnf)
  refine Ret.mk [.cell 2 134] rfl ?_; (conv => whnf); repeat ((first | with_reducible (first | refine Pt.go ?_ | refine dA ?_ | refine dL ?_) | refine Br.t ?_ | refine Br.f ?_ | refine bT ?_ | refine bF ?_ | refine Opt.mk ?_ | with_reducible refine aR ?_ | refine ⟨fun h => absurd (congrArg List.length h) (Nat.succ_ne_zero _), fun _ => ?_⟩ | refine aC ?_ | refine apG ?_); conv => whnf)
  exact ⟨_, View.same _, rfl, rfl⟩
theorem new96 (p : Pg) (f : Nat) (u : Fu) (hu : p.fu[f]? = some u) (h0 : 0 ≤ u.loc ∧ u.loc ≤ 100) : Spec Try.prog 96 [pgD p, .int .i64 f] [] (fun d os' => d = thD ⟨0, 0, [⟨f, 0, List.replicate u.loc.toNat 0⟩], [], 0⟩ ∧ os' = []) := by
  refine Spec.frz (post' := fun d => d = thD ⟨0, 0, [⟨f, 0, List.replicate u.loc.toNat 0⟩], [], 0⟩) ?_
  refine Spec.by Try.func96 rfl (by decide) (by decide +kernel) rfl ?_
  (conv => whnf); repeat ((first | with_reducible (first | refine Pt.go ?_ | refine dA ?_ | refine dL ?_) | refine Br.t ?_ | refine Br.f ?_ | refine bT ?_ | refine bF ?_ | refine Opt.mk ?_ | with_reducible refine aR ?_ | refine ⟨fun h => absurd (congrArg List.length h) (Nat.succ_ne_zero _), fun _ => ?_⟩ | refine aC ?_ | refine apG ?_); conv => whnf)
  refine Call.mk ((frame111f p f u hu h0).only _ rfl (by rintro d rfl; rfl)) ?_; rintro d os' ⟨rfl, rfl⟩
  (conv => whnf); repeat ((first | with_reducible (first | refine Pt.go ?_ | refine dA ?_ | refine dL ?_) | refine Br.t ?_ | refine Br.f ?_ | refine bT ?_ | refine bF ?_ | refine Opt.mk ?_ | with_reducible refine aR ?_ | refine ⟨fun h => absurd (congrArg List.length h) (Nat.succ_ne_zero _), fun _ => ?_⟩ | refine aC ?_ | refine apG ?_); conv => whnf)
  refine App.only false rfl rfl ?_
  (conv => whnf); repeat ((first | with_reducible (first | refine Pt.go ?_ | refine dA ?_ | refine dL ?_) | refine Br.t ?_ | refine Br.f ?_ | refine bT ?_ | refine bF ?_ | refine Opt.mk ?_ | with_reducible refine aR ?_ | refine ⟨fun h => absurd (congrArg List.length h) (Nat.succ_ne_zero _), fun _ => ?_⟩ | refine aC ?_ | refine apG ?_); conv => whnf)
  refine Ret.mk [.cell 4 29] rfl ?_; (conv => whnf); repeat ((first | with_reducible (first | refine Pt.go ?_ | refine dA ?_ | refine dL ?_) | refine Br.t ?_ | refine Br.f ?_ | refine bT ?_ | refine bF ?_ | refine Opt.mk ?_ | with_reducible refine aR ?_ | refine ⟨fun h => absurd (congrArg List.length h) (Nat.succ_ne_zero _), fun _ => ?_⟩ | refine aC ?_ | refine apG ?_); conv => whnf)
  exact ⟨thD ⟨0, 0, [⟨f, 0, List.replicate u.loc.toNat 0⟩], [], 0⟩, View.agg (.cons (.same _) (.cons (.same _) (.cons (.same _) (.cons (.nils _ _) (.same _))))), rfl, rfl⟩
/-- A program of one function, and its thread. -/
@[reducible] def vmP (l : List (Int × Int)) : Pg := ⟨[⟨0, l⟩], 0, [], [], [], [], 1⟩
def t0 : Th := ⟨0, 0, [⟨0, 0, []⟩], [], 0⟩
theorem t0_good (l : List (Int × Int)) : GoodT (vmP l) t0 := by
  refine ⟨rfl, rfl, rfl, by decide, rfl, by decide, ?_⟩
  intro f hf
  simp only [t0, List.mem_singleton] at hf
  subst hf
  have := odd_not (g := vmP l) (k := 0) (u := ⟨0, l⟩) (pc := 0) (l := []) rfl ⟨by omega, by omega⟩ (by simp) (by simp) rfl
  exact this
theorem new96v (l : List (Int × Int)) : Spec Try.prog 96 [pgD (vmP l), .int .i64 0] [] (fun d os' => d = thD t0 ∧ os' = []) := new96 (vmP l) 0 ⟨0, l⟩ rfl ⟨by show (0 : Int) ≤ 0; omega, by show (0 : Int) ≤ 100; omega⟩
theorem vm_good {l : List (Int × Int)} (h : l.length ≤ 24) (hl : ∀ x ∈ l, inOk 1 (vmP l) 0 l.length x) : GoodP (vmP l) := by
  refine ⟨⟨by simp, by simp, by simp, by simp, by simp, by simp⟩, ?_, by simp, by simp, by simp, by simp, by simp⟩
  intro f hf
  simp only [vmP, List.mem_singleton] at hf
  subst hf
  exact ⟨⟨by show (0 : Int) ≤ 0; omega, by show (0 : Int) ≤ 3; omega⟩, h, hl⟩
@[reducible] def vmR (l : List (Int × Int)) : D := .agg [.lst 2 false [.agg [.int .i64 0, .lst 2 false (l.map inD)]], .int .i64 0, .nils, .nils, .nils, .nils, .int .i64 1]
theorem vmV (F : Nat → Bool) (os : Objs) (l : List (Int × Int)) : View F os (vmR l) (pgD (vmP l)) :=
  View.agg (.cons (.same _) (.cons (.same _) (.cons (.nils _ _) (.cons (.nils _ _) (.cons (.nils _ _) (.cons (.nils _ _) (.same _)))))))
def liP : List (Int × Int) := [(0, 2), (0, 3), (4, 0), (12, 0)]
theorem li_good : GoodP (vmP liP) := by
  refine vm_good (by decide) ?_
  intro x hx
  simp only [liP, List.mem_cons, List.not_mem_nil, or_false] at hx
  rcases hx with rfl | rfl | rfl | rfl <;> (unfold inOk; dsimp only; simp)
theorem li_run : runT (vmP liP) 10 t0 = (⟨0, 0, [⟨0, 4, []⟩], [-1], 0⟩, ⟨2, 0, 0⟩, 4) := by
  decide +kernel
theorem lives95 : Spec Try.prog 95 [] [] (fun d os' => d = .bool true ∧ os' = []) := by
  refine Spec.by Try.func95 rfl (by decide) (by decide +kernel) rfl ?_
  (conv => whnf); repeat ((first | with_reducible (first | refine Pt.go ?_ | refine dA ?_ | refine dL ?_) | refine Br.t ?_ | refine Br.f ?_ | refine bT ?_ | refine bF ?_ | refine Opt.mk ?_ | with_reducible refine aR ?_ | refine ⟨fun h => absurd (congrArg List.length h) (Nat.succ_ne_zero _), fun _ => ?_⟩ | refine aC ?_ | refine apG ?_); conv => whnf)
  refine App.only false rfl rfl ?_
  (conv => whnf); repeat ((first | with_reducible (first | refine Pt.go ?_ | refine dA ?_ | refine dL ?_) | refine Br.t ?_ | refine Br.f ?_ | refine bT ?_ | refine bF ?_ | refine Opt.mk ?_ | with_reducible refine aR ?_ | refine ⟨fun h => absurd (congrArg List.length h) (Nat.succ_ne_zero _), fun _ => ?_⟩ | refine aC ?_ | refine apG ?_); conv => whnf)
  refine App.only false rfl rfl ?_
  (conv => whnf); repeat ((first | with_reducible (first | refine dA ?_ | refine dL ?_) | refine Br.t ?_ | refine Br.f ?_ | refine bT ?_ | refine bF ?_ | refine Opt.mk ?_ | with_reducible refine aR ?_ | refine ⟨fun h => absurd (congrArg List.length h) (Nat.succ_ne_zero _), fun _ => ?_⟩ | refine aC ?_ | refine apG ?_); conv => whnf)
  refine Pt.weak (Weak.frzO (fun _ => false) [(0, .bool false), (1, .ptr 0 0 7 0 0)] 0 (ty := 26) (sz := 7) (es := [vmR liP]) rfl rfl [pgD (vmP liP)] rfl (.cons (vmV _ _ liP) .nil) ⟨View.same _, View.same _, trivial⟩) ?_
  (conv => whnf); repeat ((first | with_reducible (first | refine Pt.go ?_ | refine dA ?_ | refine dL ?_) | refine Br.t ?_ | refine Br.f ?_ | refine bT ?_ | refine bF ?_ | refine Opt.mk ?_ | with_reducible refine aR ?_ | refine ⟨fun h => absurd (congrArg List.length h) (Nat.succ_ne_zero _), fun _ => ?_⟩ | refine aC ?_ | refine apG ?_); conv => whnf)
  refine Call.mk ((new96v liP).only _ rfl (by rintro d rfl; rfl)) ?_; rintro d os' ⟨rfl, rfl⟩
  (conv => whnf); repeat ((first | with_reducible (first | refine Pt.go ?_ | refine dA ?_ | refine dL ?_) | refine Br.t ?_ | refine Br.f ?_ | refine bT ?_ | refine bF ?_ | refine Opt.mk ?_ | with_reducible refine aR ?_ | refine ⟨fun h => absurd (congrArg List.length h) (Nat.succ_ne_zero _), fun _ => ?_⟩ | refine aC ?_ | refine apG ?_); conv => whnf)
  refine Call.mk ((run92 (vmP liP) li_good t0 (t0_good liP) 10 (by decide)).only _ rfl (by rintro d rfl; rfl)) ?_; rintro d os' ⟨rfl, rfl⟩
  have e : (10 : Int).toNat = 10 := rfl
  rw [e, li_run]
  (conv => whnf); repeat ((first | with_reducible (first | refine Pt.go ?_ | refine dA ?_ | refine dL ?_) | refine Br.t ?_ | refine Br.f ?_ | refine bT ?_ | refine bF ?_ | refine Opt.mk ?_ | with_reducible refine aR ?_ | refine ⟨fun h => absurd (congrArg List.length h) (Nat.succ_ne_zero _), fun _ => ?_⟩ | refine aC ?_ | refine apG ?_); conv => whnf)
  refine Ret.trim 0 (by simp) rfl (Nat.le_of_ble_eq_true rfl) ?_
  refine Ret.mk [.tmp _] rfl ?_; refine And.intro ?_ rfl
  rfl
end Go.Proofs.Ytaplihoeephbeaa.V
