/- S26: a text of a symbolic executor that is proved sound, and contracts that are proved with it. -/
import Derived.Test.YtaplihoeephbeaaS25
namespace Go.Proofs.Ytaplihoeephbeaa.V
open Go Go.Proofs
set_option maxRecDepth 100000
set_option maxHeartbeats 40000000
/-- What a closure makes of a machine. -/
@[reducible] def MP (g : Pg) (a : Int) (p : Th × Int) (q : Rq) : D → Objs → Prop := fun d os' => ∃ y, (d = .tup [] ∧ y = mD g p.1 a p.2 q) ∧ os' = [one (.row 208 17 false [y])]
@[reducible] def popE (t : Th) (e : Int) : Th × Int := ((popM t).1, underE e (popM t).2.2 1)
theorem popM_sk (t : Th) : (popM t).1.sk.length ≤ t.sk.length := by
  unfold popM
  split
  · exact Nat.le_refl _
  · simp
theorem popM_fr (t : Th) : (popM t).1.fr = t.fr := by
  unfold popM
  split <;> rfl
theorem c197 (g : Pg) (t : Th) (a e : Int) (q : Rq) (h : t.sk.length ≤ 16) : Spec Try.prog 197 [.ptr 0 0 17 0 0] [mO g t a e q] (MP g a (pushL t e [a]) q) := by
  refine Spec.by Try.func197 rfl (by decide) (by decide +kernel) rfl ?_
  (conv => whnf); repeat ((first | with_reducible (first | refine Pt.go ?_ | refine dA ?_ | refine dL ?_) | refine Br.t ?_ | refine Br.f ?_ | refine bT ?_ | refine bF ?_ | refine Opt.mk ?_ | with_reducible refine aR ?_ | refine ⟨fun h => absurd (congrArg List.length h) (Nat.succ_ne_zero _), fun _ => ?_⟩ | refine aC ?_ | refine apG ?_); conv => whnf)
  refine App.only false rfl rfl ?_
  (conv => whnf); repeat ((first | with_reducible (first | refine Pt.go ?_ | refine dA ?_ | refine dL ?_) | refine Br.t ?_ | refine Br.f ?_ | refine bT ?_ | refine bF ?_ | refine Opt.mk ?_ | with_reducible refine aR ?_ | refine ⟨fun h => absurd (congrArg List.length h) (Nat.succ_ne_zero _), fun _ => ?_⟩ | refine aC ?_ | refine apG ?_); conv => whnf)
  refine Call.mk ((mpush168 g t a e q [a] h (by simp)).cellAt 0 _ rfl (fun j hj => one_pos _ hj) rfl rfl (by rintro d y ⟨rfl, rfl⟩; exact ⟨rfl, rfl⟩)) ?_; rintro d os' ⟨y, ⟨rfl, rfl⟩, rfl⟩
  (conv => whnf); repeat ((first | with_reducible (first | refine Pt.go ?_ | refine dA ?_ | refine dL ?_) | refine Br.t ?_ | refine Br.f ?_ | refine bT ?_ | refine bF ?_ | refine Opt.mk ?_ | with_reducible refine aR ?_ | refine ⟨fun h => absurd (congrArg List.length h) (Nat.succ_ne_zero _), fun _ => ?_⟩ | refine aC ?_ | refine apG ?_); conv => whnf)
  refine Ret.trim 1 (by simp) rfl (Nat.le_of_ble_eq_true rfl) ?_
  exact Ret.mk [] rfl (by (conv => whnf); exact ⟨_, ⟨rfl, rfl⟩, rfl⟩)
theorem c198 (g : Pg) (t : Th) (a e : Int) (q : Rq) (h : t.sk.length ≤ 16) : Spec Try.prog 198 [.ptr 0 0 17 0 0] [mO g t a e q] (MP g a (popE t e) q) := by
  refine Spec.by Try.func198 rfl (by decide) (by decide +kernel) rfl ?_
  (conv => whnf); repeat ((first | with_reducible (first | refine Pt.go ?_ | refine dA ?_ | refine dL ?_) | refine Br.t ?_ | refine Br.f ?_ | refine bT ?_ | refine bF ?_ | refine Opt.mk ?_ | with_reducible refine aR ?_ | refine ⟨fun h => absurd (congrArg List.length h) (Nat.succ_ne_zero _), fun _ => ?_⟩ | refine aC ?_ | refine apG ?_); conv => whnf)
  refine Call.mk ((mpop199 g t a e q (by omega)).cellAt 0 _ rfl (fun j hj => one_pos _ hj) rfl rfl (by rintro d y ⟨rfl, rfl⟩; exact ⟨rfl, rfl⟩)) ?_; rintro d os' ⟨y, ⟨rfl, rfl⟩, rfl⟩
  (conv => whnf); repeat ((first | with_reducible (first | refine Pt.go ?_ | refine dA ?_ | refine dL ?_) | refine Br.t ?_ | refine Br.f ?_ | refine bT ?_ | refine bF ?_ | refine Opt.mk ?_ | with_reducible refine aR ?_ | refine ⟨fun h => absurd (congrArg List.length h) (Nat.succ_ne_zero _), fun _ => ?_⟩ | refine aC ?_ | refine apG ?_); conv => whnf)
  refine Ret.trim 1 (by simp) rfl (Nat.le_of_ble_eq_true rfl) ?_
  exact Ret.mk [] rfl (by (conv => whnf); exact ⟨_, ⟨rfl, rfl⟩, rfl⟩)
theorem c200 (g : Pg) (t : Th) (a e : Int) (q : Rq) (h : t.sk.length ≤ 16) : Spec Try.prog 200 [.ptr 0 0 17 0 0] [mO g t a e q] (MP g a (pushL (popE t e).1 (popE t e).2 [(popM t).2.1, (popM t).2.1]) q) := by
  have hp := popM_sk t
  refine Spec.by Try.func200 rfl (by decide) (by decide +kernel) rfl ?_
  (conv => whnf); repeat ((first | with_reducible (first | refine Pt.go ?_ | refine dA ?_ | refine dL ?_) | refine Br.t ?_ | refine Br.f ?_ | refine bT ?_ | refine bF ?_ | refine Opt.mk ?_ | with_reducible refine aR ?_ | refine ⟨fun h => absurd (congrArg List.length h) (Nat.succ_ne_zero _), fun _ => ?_⟩ | refine aC ?_ | refine apG ?_); conv => whnf)
  refine Call.mk ((mpop199 g t a e q (by omega)).cellAt 0 _ rfl (fun j hj => one_pos _ hj) rfl rfl (by rintro d y ⟨rfl, rfl⟩; exact ⟨rfl, rfl⟩)) ?_; rintro d os' ⟨y, ⟨rfl, rfl⟩, rfl⟩
  (conv => whnf); repeat ((first | with_reducible (first | refine Pt.go ?_ | refine dA ?_ | refine dL ?_) | refine Br.t ?_ | refine Br.f ?_ | refine bT ?_ | refine bF ?_ | refine Opt.mk ?_ | with_reducible refine aR ?_ | refine ⟨fun h => absurd (congrArg List.length h) (Nat.succ_ne_zero _), fun _ => ?_⟩ | refine aC ?_ | refine apG ?_); conv => whnf)
  refine App.only false rfl rfl ?_
  (conv => whnf); repeat ((first | with_reducible (first | refine Pt.go ?_ | refine dA ?_ | refine dL ?_) | refine Br.t ?_ | refine Br.f ?_ | refine bT ?_ | refine bF ?_ | refine Opt.mk ?_ | with_reducible refine aR ?_ | refine ⟨fun h => absurd (congrArg List.length h) (Nat.succ_ne_zero _), fun _ => ?_⟩ | refine aC ?_ | refine apG ?_); conv => whnf)
  refine Call.mk ((mpush168 g (popM t).1 a (underE e (popM t).2.2 1) q [(popM t).2.1, (popM t).2.1] (by omega) (by simp)).cellAt 0 _ rfl (fun j hj => one_pos _ hj) rfl rfl (by rintro d y ⟨rfl, rfl⟩; exact ⟨rfl, rfl⟩)) ?_; rintro d os' ⟨y, ⟨rfl, rfl⟩, rfl⟩
  (conv => whnf); repeat ((first | with_reducible (first | refine Pt.go ?_ | refine dA ?_ | refine dL ?_) | refine Br.t ?_ | refine Br.f ?_ | refine bT ?_ | refine bF ?_ | refine Opt.mk ?_ | with_reducible refine aR ?_ | refine ⟨fun h => absurd (congrArg List.length h) (Nat.succ_ne_zero _), fun _ => ?_⟩ | refine aC ?_ | refine apG ?_); conv => whnf)
  refine Ret.trim 1 (by simp) rfl (Nat.le_of_ble_eq_true rfl) ?_
  exact Ret.mk [] rfl (by (conv => whnf); exact ⟨_, ⟨rfl, rfl⟩, rfl⟩)
theorem c201 (n : Nat) : Spec Try.prog 201 [.fn (.func n) [] []] [] (fun d os' => d = .fn (.func 227) [] [.pel (.fn (.func n) [] []) 0] ∧ os' = []) := by
  refine Spec.frz (post' := fun d => d = .fn (.func 227) [] [.pel (.fn (.func n) [] []) 0]) ?_
  refine Spec.by Try.func201 rfl (by decide) (by decide +kernel) rfl ?_
  (conv => whnf); repeat ((first | with_reducible (first | refine Pt.go ?_ | refine dA ?_ | refine dL ?_) | refine Br.t ?_ | refine Br.f ?_ | refine bT ?_ | refine bF ?_ | refine Opt.mk ?_ | with_reducible refine aR ?_ | refine ⟨fun h => absurd (congrArg List.length h) (Nat.succ_ne_zero _), fun _ => ?_⟩ | refine aC ?_ | refine apG ?_); conv => whnf)
  refine Ret.mk [.tmp 2] rfl ?_; (conv => whnf); repeat ((first | with_reducible (first | refine Pt.go ?_ | refine dA ?_ | refine dL ?_) | refine Br.t ?_ | refine Br.f ?_ | refine bT ?_ | refine bF ?_ | refine Opt.mk ?_ | with_reducible refine aR ?_ | refine ⟨fun h => absurd (congrArg List.length h) (Nat.succ_ne_zero _), fun _ => ?_⟩ | refine aC ?_ | refine apG ?_); conv => whnf)
  exact ⟨_, View.fn .nil (.cons (View.ptr rfl rfl rfl (.same _) rfl) .nil), rfl, rfl⟩
theorem c202 (x y : Int) (hx : -1073741824 ≤ x ∧ x ≤ 1073741824) (hy : -1073741824 ≤ y ∧ y ≤ 1073741824) : Spec Try.prog 202 [.int .i64 x, .int .i64 y] [] (fun d os' => d = .int .i64 (x + y) ∧ os' = []) := by
  refine Spec.by Try.func202 rfl (by decide) (by decide +kernel) rfl ?_
  (conv => whnf); repeat ((first | with_reducible (first | refine Pt.go ?_ | refine dA ?_ | refine dL ?_) | refine Br.t ?_ | refine Br.f ?_ | refine bT ?_ | refine bF ?_ | refine Opt.mk ?_ | with_reducible refine aR ?_ | refine ⟨fun h => absurd (congrArg List.length h) (Nat.succ_ne_zero _), fun _ => ?_⟩ | refine aC ?_ | refine apG ?_); conv => whnf)
  refine Ret.mk [.tmp _] rfl ?_; refine And.intro ?_ rfl
  rfl
theorem c203 (x y : Int) (hx : -1073741824 ≤ x ∧ x ≤ 1073741824) (hy : -1073741824 ≤ y ∧ y ≤ 1073741824) : Spec Try.prog 203 [.int .i64 x, .int .i64 y] [] (fun d os' => d = .int .i64 (x - y) ∧ os' = []) := by
  refine Spec.by Try.func203 rfl (by decide) (by decide +kernel) rfl ?_
  (conv => whnf); repeat ((first | with_reducible (first | refine Pt.go ?_ | refine dA ?_ | refine dL ?_) | refine Br.t ?_ | refine Br.f ?_ | refine bT ?_ | refine bF ?_ | refine Opt.mk ?_ | with_reducible refine aR ?_ | refine ⟨fun h => absurd (congrArg List.length h) (Nat.succ_ne_zero _), fun _ => ?_⟩ | refine aC ?_ | refine apG ?_); conv => whnf)
  refine Ret.mk [.tmp _] rfl ?_; refine And.intro ?_ rfl
  rfl
theorem c227 (n : Nat) (F : Int → Int → Int) (g : Pg) (t : Th) (a e : Int) (q : Rq) (h : t.sk.length ≤ 16)
    (hF : Spec Try.prog n [.int .i64 (popM (popM t).1).2.1, .int .i64 (popM t).2.1] [] (fun d os' => d = .int .i64 (F (popM (popM t).1).2.1 (popM t).2.1) ∧ os' = [])) :
    Spec Try.prog 227 [.ptr 0 0 17 0 0, .pel (.fn (.func n) [] []) 0] [mO g t a e q] (MP g a (pushL (popM (popM t).1).1 (underE (underE e (popM t).2.2 1) (popM (popM t).1).2.2 1) [F (popM (popM t).1).2.1 (popM t).2.1]) q) := by
  have hp := popM_sk t
  have hp2 := popM_sk (popM t).1
  refine Spec.by Try.func227 rfl (by decide) (by decide +kernel) rfl ?_
  (conv => whnf); repeat ((first | with_reducible (first | refine Pt.go ?_ | refine dA ?_ | refine dL ?_) | refine Br.t ?_ | refine Br.f ?_ | refine bT ?_ | refine bF ?_ | refine Opt.mk ?_ | with_reducible refine aR ?_ | refine ⟨fun h => absurd (congrArg List.length h) (Nat.succ_ne_zero _), fun _ => ?_⟩ | refine aC ?_ | refine apG ?_); conv => whnf)
  refine Call.mk ((mpop199 g t a e q (by omega)).cellAt 0 _ rfl (fun j hj => one_pos _ hj) rfl rfl (by rintro d y ⟨rfl, rfl⟩; exact ⟨rfl, rfl⟩)) ?_; rintro d os' ⟨y, ⟨rfl, rfl⟩, rfl⟩
  (conv => whnf); repeat ((first | with_reducible (first | refine Pt.go ?_ | refine dA ?_ | refine dL ?_) | refine Br.t ?_ | refine Br.f ?_ | refine bT ?_ | refine bF ?_ | refine Opt.mk ?_ | with_reducible refine aR ?_ | refine ⟨fun h => absurd (congrArg List.length h) (Nat.succ_ne_zero _), fun _ => ?_⟩ | refine aC ?_ | refine apG ?_); conv => whnf)
  refine Call.mk ((mpop199 g (popM t).1 a (underE e (popM t).2.2 1) q (by omega)).cellAt 0 _ rfl (fun j hj => one_pos _ hj) rfl rfl (by rintro d y ⟨rfl, rfl⟩; exact ⟨rfl, rfl⟩)) ?_; rintro d os' ⟨y, ⟨rfl, rfl⟩, rfl⟩
  (conv => whnf); repeat ((first | with_reducible (first | refine Pt.go ?_ | refine dA ?_ | refine dL ?_) | refine Br.t ?_ | refine Br.f ?_ | refine bT ?_ | refine bF ?_ | refine Opt.mk ?_ | with_reducible refine aR ?_ | refine ⟨fun h => absurd (congrArg List.length h) (Nat.succ_ne_zero _), fun _ => ?_⟩ | refine aC ?_ | refine apG ?_); conv => whnf)
  refine Call.mk ((hF).only _ rfl (by rintro d rfl; rfl)) ?_; rintro d os' ⟨rfl, rfl⟩
  (conv => whnf); repeat ((first | with_reducible (first | refine Pt.go ?_ | refine dA ?_ | refine dL ?_) | refine Br.t ?_ | refine Br.f ?_ | refine bT ?_ | refine bF ?_ | refine Opt.mk ?_ | with_reducible refine aR ?_ | refine ⟨fun h => absurd (congrArg List.length h) (Nat.succ_ne_zero _), fun _ => ?_⟩ | refine aC ?_ | refine apG ?_); conv => whnf)
  refine App.only false rfl rfl ?_
  (conv => whnf); repeat ((first | with_reducible (first | refine Pt.go ?_ | refine dA ?_ | refine dL ?_) | refine Br.t ?_ | refine Br.f ?_ | refine bT ?_ | refine bF ?_ | refine Opt.mk ?_ | with_reducible refine aR ?_ | refine ⟨fun h => absurd (congrArg List.length h) (Nat.succ_ne_zero _), fun _ => ?_⟩ | refine aC ?_ | refine apG ?_); conv => whnf)
  refine Call.mk ((mpush168 g (popM (popM t).1).1 a (underE (underE e (popM t).2.2 1) (popM (popM t).1).2.2 1) q [F (popM (popM t).1).2.1 (popM t).2.1] (by omega) (by simp)).cellAt 0 _ rfl (fun j hj => one_pos _ hj) rfl rfl (by rintro d y ⟨rfl, rfl⟩; exact ⟨rfl, rfl⟩)) ?_; rintro d os' ⟨y, ⟨rfl, rfl⟩, rfl⟩
  (conv => whnf); repeat ((first | with_reducible (first | refine Pt.go ?_ | refine dA ?_ | refine dL ?_) | refine Br.t ?_ | refine Br.f ?_ | refine bT ?_ | refine bF ?_ | refine Opt.mk ?_ | with_reducible refine aR ?_ | refine ⟨fun h => absurd (congrArg List.length h) (Nat.succ_ne_zero _), fun _ => ?_⟩ | refine aC ?_ | refine apG ?_); conv => whnf)
  refine Ret.trim 1 (by simp) rfl (Nat.le_of_ble_eq_true rfl) ?_
  exact Ret.mk [] rfl (by (conv => whnf); exact ⟨_, ⟨rfl, rfl⟩, rfl⟩)
theorem c204 (g : Pg) (t : Th) (a e : Int) (q : Rq) (h : t.sk.length ≤ 16) (s : List Fm) (f : Fm) (hs : t.fr = s ++ [f]) (hl : s.length ≤ 1000000) (i : Nat) (hi : a = i) (v : Int) (hv : f.ls[i]? = some v) : Spec Try.prog 204 [.ptr 0 0 17 0 0] [mO g t a e q] (MP g a (pushL t e [v]) q) := by
  subst hi
  refine Spec.by Try.func204 rfl (by decide) (by decide +kernel) rfl ?_
  (conv => whnf); repeat ((first | with_reducible (first | refine Pt.go ?_ | refine dA ?_ | refine dL ?_) | refine Br.t ?_ | refine Br.f ?_ | refine bT ?_ | refine bF ?_ | refine Opt.mk ?_ | with_reducible refine aR ?_ | refine ⟨fun h => absurd (congrArg List.length h) (Nat.succ_ne_zero _), fun _ => ?_⟩ | refine aC ?_ | refine apG ?_); conv => whnf)
  refine Call.mk ((get140 t s f hs hl i v hv).only _ rfl (by rintro d rfl; rfl)) ?_; rintro d os' ⟨rfl, rfl⟩
  (conv => whnf); repeat ((first | with_reducible (first | refine Pt.go ?_ | refine dA ?_ | refine dL ?_) | refine Br.t ?_ | refine Br.f ?_ | refine bT ?_ | refine bF ?_ | refine Opt.mk ?_ | with_reducible refine aR ?_ | refine ⟨fun h => absurd (congrArg List.length h) (Nat.succ_ne_zero _), fun _ => ?_⟩ | refine aC ?_ | refine apG ?_); conv => whnf)
  refine App.only false rfl rfl ?_
  (conv => whnf); repeat ((first | with_reducible (first | refine Pt.go ?_ | refine dA ?_ | refine dL ?_) | refine Br.t ?_ | refine Br.f ?_ | refine bT ?_ | refine bF ?_ | refine Opt.mk ?_ | with_reducible refine aR ?_ | refine ⟨fun h => absurd (congrArg List.length h) (Nat.succ_ne_zero _), fun _ => ?_⟩ | refine aC ?_ | refine apG ?_); conv => whnf)
  refine Call.mk ((mpush168 g t i e q [v] h (by simp)).cellAt 0 _ rfl (fun j hj => one_pos _ hj) rfl rfl (by rintro d y ⟨rfl, rfl⟩; exact ⟨rfl, rfl⟩)) ?_; rintro d os' ⟨y, ⟨rfl, rfl⟩, rfl⟩
  (conv => whnf); repeat ((first | with_reducible (first | refine Pt.go ?_ | refine dA ?_ | refine dL ?_) | refine Br.t ?_ | refine Br.f ?_ | refine bT ?_ | refine bF ?_ | refine Opt.mk ?_ | with_reducible refine aR ?_ | refine ⟨fun h => absurd (congrArg List.length h) (Nat.succ_ne_zero _), fun _ => ?_⟩ | refine aC ?_ | refine apG ?_); conv => whnf)
  refine Ret.trim 1 (by simp) rfl (Nat.le_of_ble_eq_true rfl) ?_
  exact Ret.mk [] rfl (by (conv => whnf); exact ⟨_, ⟨rfl, rfl⟩, rfl⟩)
theorem c205 (g : Pg) (t : Th) (a e : Int) (q : Rq) (h : t.sk.length ≤ 16) (s : List Fm) (f : Fm) (hs : t.fr = s ++ [f]) (hl : s.length ≤ 1000000) (hf : f.ls.length ≤ 1000000) (i : Nat) (hi : a = i) (hil : i < f.ls.length) : Spec Try.prog 205 [.ptr 0 0 17 0 0] [mO g t a e q] (MP g a ({ (popM t).1 with fr := s ++ [⟨f.fn, f.pc, f.ls.set i (keep (popM t).2.1)⟩] }, underE e (popM t).2.2 1) q) := by
  subst hi
  refine Spec.by Try.func205 rfl (by decide) (by decide +kernel) rfl ?_
  (conv => whnf); repeat ((first | with_reducible (first | refine Pt.go ?_ | refine dA ?_ | refine dL ?_) | refine Br.t ?_ | refine Br.f ?_ | refine bT ?_ | refine bF ?_ | refine Opt.mk ?_ | with_reducible refine aR ?_ | refine ⟨fun h => absurd (congrArg List.length h) (Nat.succ_ne_zero _), fun _ => ?_⟩ | refine aC ?_ | refine apG ?_); conv => whnf)
  refine Call.mk ((mpop199 g t i e q (by omega)).cellAt 0 _ rfl (fun j hj => one_pos _ hj) rfl rfl (by rintro d y ⟨rfl, rfl⟩; exact ⟨rfl, rfl⟩)) ?_; rintro d os' ⟨y, ⟨rfl, rfl⟩, rfl⟩
  (conv => whnf); repeat ((first | with_reducible (first | refine Pt.go ?_ | refine dA ?_ | refine dL ?_) | refine Br.t ?_ | refine Br.f ?_ | refine bT ?_ | refine bF ?_ | refine Opt.mk ?_ | with_reducible refine aR ?_ | refine ⟨fun h => absurd (congrArg List.length h) (Nat.succ_ne_zero _), fun _ => ?_⟩ | refine aC ?_ | refine apG ?_); conv => whnf)
  refine Call.mk ((set138 (popM t).1 s f (by rw [popM_fr]; exact hs) hl hf i hil (popM t).2.1).only _ rfl (by rintro d rfl; rfl)) ?_; rintro d os' ⟨rfl, rfl⟩
  (conv => whnf); repeat ((first | with_reducible (first | refine Pt.go ?_ | refine dA ?_ | refine dL ?_) | refine Br.t ?_ | refine Br.f ?_ | refine bT ?_ | refine bF ?_ | refine Opt.mk ?_ | with_reducible refine aR ?_ | refine ⟨fun h => absurd (congrArg List.length h) (Nat.succ_ne_zero _), fun _ => ?_⟩ | refine aC ?_ | refine apG ?_); conv => whnf)
  refine Ret.trim 1 (by simp) rfl (Nat.le_of_ble_eq_true rfl) ?_
  exact Ret.mk [] rfl (by (conv => whnf); exact ⟨_, ⟨rfl, rfl⟩, rfl⟩)
theorem c206 (g : Pg) (t : Th) (a e : Int) (q : Rq) (s : List Fm) (f : Fm) (hs : t.fr = s ++ [f]) (hl : s.length ≤ 1000000) : Spec Try.prog 206 [.ptr 0 0 17 0 0] [mO g t a e q] (MP g a ({ t with fr := s ++ [⟨f.fn, a, f.ls⟩] }, e) q) := by
  refine Spec.by Try.func206 rfl (by decide) (by decide +kernel) rfl ?_
  (conv => whnf); repeat ((first | with_reducible (first | refine Pt.go ?_ | refine dA ?_ | refine dL ?_) | refine Br.t ?_ | refine Br.f ?_ | refine bT ?_ | refine bF ?_ | refine Opt.mk ?_ | with_reducible refine aR ?_ | refine ⟨fun h => absurd (congrArg List.length h) (Nat.succ_ne_zero _), fun _ => ?_⟩ | refine aC ?_ | refine apG ?_); conv => whnf)
  refine Call.mk ((jump136 t s f hs hl a).only _ rfl (by rintro d rfl; rfl)) ?_; rintro d os' ⟨rfl, rfl⟩
  (conv => whnf); repeat ((first | with_reducible (first | refine Pt.go ?_ | refine dA ?_ | refine dL ?_) | refine Br.t ?_ | refine Br.f ?_ | refine bT ?_ | refine bF ?_ | refine Opt.mk ?_ | with_reducible refine aR ?_ | refine ⟨fun h => absurd (congrArg List.length h) (Nat.succ_ne_zero _), fun _ => ?_⟩ | refine aC ?_ | refine apG ?_); conv => whnf)
  refine Ret.trim 1 (by simp) rfl (Nat.le_of_ble_eq_true rfl) ?_
  exact Ret.mk [] rfl (by (conv => whnf); exact ⟨_, ⟨rfl, rfl⟩, rfl⟩)
theorem c207 (g : Pg) (t : Th) (a e : Int) (q : Rq) (h : t.sk.length ≤ 16) (s : List Fm) (f : Fm) (hs : t.fr = s ++ [f]) (hl : s.length ≤ 1000000) : Spec Try.prog 207 [.ptr 0 0 17 0 0] [mO g t a e q] (MP g a (if (popM t).2.1 = 0 then { (popM t).1 with fr := s ++ [⟨f.fn, a, f.ls⟩] } else (popM t).1, underE e (popM t).2.2 1) q) := by
  refine Spec.by Try.func207 rfl (by decide) (by decide +kernel) rfl ?_
  (conv => whnf); repeat ((first | with_reducible (first | refine Pt.go ?_ | refine dA ?_ | refine dL ?_) | refine Br.t ?_ | refine Br.f ?_ | refine bT ?_ | refine bF ?_ | refine Opt.mk ?_ | with_reducible refine aR ?_ | refine ⟨fun h => absurd (congrArg List.length h) (Nat.succ_ne_zero _), fun _ => ?_⟩ | refine aC ?_ | refine apG ?_); conv => whnf)
  refine Call.mk ((mpop199 g t a e q (by omega)).cellAt 0 _ rfl (fun j hj => one_pos _ hj) rfl rfl (by rintro d y ⟨rfl, rfl⟩; exact ⟨rfl, rfl⟩)) ?_; rintro d os' ⟨y, ⟨rfl, rfl⟩, rfl⟩
  (conv => whnf); repeat ((first | with_reducible (first | refine Pt.go ?_ | refine dA ?_ | refine dL ?_) | refine Br.t ?_ | refine Br.f ?_ | refine bT ?_ | refine bF ?_ | refine Opt.mk ?_ | with_reducible refine aR ?_ | refine ⟨fun h => absurd (congrArg List.length h) (Nat.succ_ne_zero _), fun _ => ?_⟩ | refine aC ?_ | refine apG ?_); conv => whnf)
  refine Br.dec (fun h0 => ?_) (fun h0 => ?_)
  · (conv => whnf); repeat ((first | with_reducible (first | refine Pt.go ?_ | refine dA ?_ | refine dL ?_) | refine Br.t ?_ | refine Br.f ?_ | refine bT ?_ | refine bF ?_ | refine Opt.mk ?_ | with_reducible refine aR ?_ | refine ⟨fun h => absurd (congrArg List.length h) (Nat.succ_ne_zero _), fun _ => ?_⟩ | refine aC ?_ | refine apG ?_); conv => whnf)
    refine Call.mk ((jump136 (popM t).1 s f (by rw [popM_fr]; exact hs) hl a).only _ rfl (by rintro d rfl; rfl)) ?_; rintro d os' ⟨rfl, rfl⟩
    (conv => whnf); repeat ((first | with_reducible (first | refine Pt.go ?_ | refine dA ?_ | refine dL ?_) | refine Br.t ?_ | refine Br.f ?_ | refine bT ?_ | refine bF ?_ | refine Opt.mk ?_ | with_reducible refine aR ?_ | refine ⟨fun h => absurd (congrArg List.length h) (Nat.succ_ne_zero _), fun _ => ?_⟩ | refine aC ?_ | refine apG ?_); conv => whnf)
    refine Ret.trim 1 (by simp) rfl (Nat.le_of_ble_eq_true rfl) ?_
    rw [if_pos h0]
    exact Ret.mk [] rfl (by (conv => whnf); exact ⟨_, ⟨rfl, rfl⟩, rfl⟩)
  · (conv => whnf); repeat ((first | with_reducible (first | refine Pt.go ?_ | refine dA ?_ | refine dL ?_) | refine Br.t ?_ | refine Br.f ?_ | refine bT ?_ | refine bF ?_ | refine Opt.mk ?_ | with_reducible refine aR ?_ | refine ⟨fun h => absurd (congrArg List.length h) (Nat.succ_ne_zero _), fun _ => ?_⟩ | refine aC ?_ | refine apG ?_); conv => whnf)
    refine Ret.trim 1 (by simp) rfl (Nat.le_of_ble_eq_true rfl) ?_
    rw [if_neg h0]
    exact Ret.mk [] rfl (by (conv => whnf); exact ⟨_, ⟨rfl, rfl⟩, rfl⟩)
theorem c208 (g : Pg) (t : Th) (a e : Int) (q : Rq) (k : Nat) (u : Fu) (ha : a = k) (hu : g.fu[k]? = some u) (h0 : 0 ≤ u.loc ∧ u.loc ≤ 100) (hl : t.fr.length ≤ 1000000) : Spec Try.prog 208 [.ptr 0 0 17 0 0] [mO g t a e q] (MP g a ((enterT t ⟨k, 0, List.replicate u.loc.toNat 0⟩).1, if (enterT t ⟨k, 0, List.replicate u.loc.toNat 0⟩).2 then e else 3) q) := by
  subst ha
  refine Spec.by Try.func208 rfl (by decide) (by decide +kernel) rfl ?_
  (conv => whnf); repeat ((first | with_reducible (first | refine Pt.go ?_ | refine dA ?_ | refine dL ?_) | refine Br.t ?_ | refine Br.f ?_ | refine bT ?_ | refine bF ?_ | refine Opt.mk ?_ | with_reducible refine aR ?_ | refine ⟨fun h => absurd (congrArg List.length h) (Nat.succ_ne_zero _), fun _ => ?_⟩ | refine aC ?_ | refine apG ?_); conv => whnf)
  refine Call.mk ((enter39 g t k u hu h0 (by omega)).only _ rfl (by rintro d rfl; rfl)) ?_; rintro d os' ⟨rfl, rfl⟩
  obtain ⟨t', b, hb⟩ : ∃ t' b, enterT t ⟨k, 0, List.replicate u.loc.toNat 0⟩ = (t', b) := ⟨_, _, rfl⟩
  rw [hb]
  cases b with
  | true =>
    (conv => whnf); repeat ((first | with_reducible (first | refine Pt.go ?_ | refine dA ?_ | refine dL ?_) | refine Br.t ?_ | refine Br.f ?_ | refine bT ?_ | refine bF ?_ | refine Opt.mk ?_ | with_reducible refine aR ?_ | refine ⟨fun h => absurd (congrArg List.length h) (Nat.succ_ne_zero _), fun _ => ?_⟩ | refine aC ?_ | refine apG ?_); conv => whnf)
    refine Ret.trim 1 (by simp) rfl (Nat.le_of_ble_eq_true rfl) ?_
    exact Ret.mk [] rfl (by (conv => whnf); exact ⟨_, ⟨rfl, rfl⟩, rfl⟩)
  | false =>
    (conv => whnf); repeat ((first | with_reducible (first | refine Pt.go ?_ | refine dA ?_ | refine dL ?_) | refine Br.t ?_ | refine Br.f ?_ | refine bT ?_ | refine bF ?_ | refine Opt.mk ?_ | with_reducible refine aR ?_ | refine ⟨fun h => absurd (congrArg List.length h) (Nat.succ_ne_zero _), fun _ => ?_⟩ | refine aC ?_ | refine apG ?_); conv => whnf)
    refine Ret.trim 1 (by simp) rfl (Nat.le_of_ble_eq_true rfl) ?_
    exact Ret.mk [] rfl (by (conv => whnf); exact ⟨_, ⟨rfl, rfl⟩, rfl⟩)
theorem c209 (g : Pg) (t : Th) (a e : Int) (q : Rq) (s : List Fm) (f : Fm) (hs : t.fr = s ++ [f]) (hl : s.length ≤ 1000000) : Spec Try.prog 209 [.ptr 0 0 17 0 0] [mO g t a e q] (MP g a ({ t with fr := s }, if s = [] then 0 else e) q) := by
  have hlm : (t.fr.map frD).length = s.length + 1 := by rw [List.length_map, hs]; simp
  refine Spec.by Try.func209 rfl (by decide) (by decide +kernel) rfl ?_
  (conv => whnf); repeat ((first | with_reducible (first | refine Pt.go ?_ | refine dA ?_ | refine dL ?_) | refine Br.t ?_ | refine Br.f ?_ | refine bT ?_ | refine bF ?_ | refine Opt.mk ?_ | with_reducible refine aR ?_ | refine ⟨fun h => absurd (congrArg List.length h) (Nat.succ_ne_zero _), fun _ => ?_⟩ | refine aC ?_ | refine apG ?_); conv => whnf)
  refine Call.mk ((leave54 t s f hs hl).only _ rfl (by rintro d rfl; rfl)) ?_; rintro d os' ⟨rfl, rfl⟩
  by_cases h : s = []
  · have hb : decide (0 < (((t.fr.map frD).length : Nat) : Int) - 1) = false := decide_eq_false (by rw [hlm, h]; simp)
    rw [hb, if_pos h]
    (conv => whnf); repeat ((first | with_reducible (first | refine Pt.go ?_ | refine dA ?_ | refine dL ?_) | refine Br.t ?_ | refine Br.f ?_ | refine bT ?_ | refine bF ?_ | refine Opt.mk ?_ | with_reducible refine aR ?_ | refine ⟨fun h => absurd (congrArg List.length h) (Nat.succ_ne_zero _), fun _ => ?_⟩ | refine aC ?_ | refine apG ?_); conv => whnf)
    refine Ret.trim 1 (by simp) rfl (Nat.le_of_ble_eq_true rfl) ?_
    exact Ret.mk [] rfl (by (conv => whnf); exact ⟨_, ⟨rfl, rfl⟩, rfl⟩)
  · have hb : decide (0 < (((t.fr.map frD).length : Nat) : Int) - 1) = true := decide_eq_true (by have := List.length_pos_iff.2 h; omega)
    rw [hb, if_neg h]
    (conv => whnf); repeat ((first | with_reducible (first | refine Pt.go ?_ | refine dA ?_ | refine dL ?_) | refine Br.t ?_ | refine Br.f ?_ | refine bT ?_ | refine bF ?_ | refine Opt.mk ?_ | with_reducible refine aR ?_ | refine ⟨fun h => absurd (congrArg List.length h) (Nat.succ_ne_zero _), fun _ => ?_⟩ | refine aC ?_ | refine apG ?_); conv => whnf)
    refine Ret.trim 1 (by simp) rfl (Nat.le_of_ble_eq_true rfl) ?_
    exact Ret.mk [] rfl (by (conv => whnf); exact ⟨_, ⟨rfl, rfl⟩, rfl⟩)
theorem c210 (g : Pg) (t : Th) (a e : Int) (q : Rq) : Spec Try.prog 210 [.ptr 0 0 17 0 0] [mO g t a e q] (MP g a (t, 0) q) := by
  refine Spec.by Try.func210 rfl (by decide) (by decide +kernel) rfl ?_
  (conv => whnf); repeat ((first | with_reducible (first | refine Pt.go ?_ | refine dA ?_ | refine dL ?_) | refine Br.t ?_ | refine Br.f ?_ | refine bT ?_ | refine bF ?_ | refine Opt.mk ?_ | with_reducible refine aR ?_ | refine ⟨fun h => absurd (congrArg List.length h) (Nat.succ_ne_zero _), fun _ => ?_⟩ | refine aC ?_ | refine apG ?_); conv => whnf)
  refine Ret.trim 1 (by simp) rfl (Nat.le_of_ble_eq_true rfl) ?_
  exact Ret.mk [] rfl (by (conv => whnf); exact ⟨_, ⟨rfl, rfl⟩, rfl⟩)
theorem c211 (k : Int) : Spec Try.prog 211 [.int .i64 k] [] (fun d os' => d = .fn (.func 228) [] [.pel (.int .i64 k) 0] ∧ os' = []) := by
  refine Spec.frz (post' := fun d => d = .fn (.func 228) [] [.pel (.int .i64 k) 0]) ?_
  refine Spec.by Try.func211 rfl (by decide) (by decide +kernel) rfl ?_
  (conv => whnf); repeat ((first | with_reducible (first | refine Pt.go ?_ | refine dA ?_ | refine dL ?_) | refine Br.t ?_ | refine Br.f ?_ | refine bT ?_ | refine bF ?_ | refine Opt.mk ?_ | with_reducible refine aR ?_ | refine ⟨fun h => absurd (congrArg List.length h) (Nat.succ_ne_zero _), fun _ => ?_⟩ | refine aC ?_ | refine apG ?_); conv => whnf)
  refine Ret.mk [.tmp 2] rfl ?_; (conv => whnf); repeat ((first | with_reducible (first | refine Pt.go ?_ | refine dA ?_ | refine dL ?_) | refine Br.t ?_ | refine Br.f ?_ | refine bT ?_ | refine bF ?_ | refine Opt.mk ?_ | with_reducible refine aR ?_ | refine ⟨fun h => absurd (congrArg List.length h) (Nat.succ_ne_zero _), fun _ => ?_⟩ | refine aC ?_ | refine apG ?_); conv => whnf)
  exact ⟨_, View.fn .nil (.cons (View.ptr rfl rfl rfl (.same _) rfl) .nil), rfl, rfl⟩
theorem c212 (k : Int) : Spec Try.prog 212 [.int .i64 k] [] (fun d os' => d = .fn (.func 229) [] [.pel (.int .i64 k) 0] ∧ os' = []) := by
  refine Spec.frz (post' := fun d => d = .fn (.func 229) [] [.pel (.int .i64 k) 0]) ?_
  refine Spec.by Try.func212 rfl (by decide) (by decide +kernel) rfl ?_
  (conv => whnf); repeat ((first | with_reducible (first | refine Pt.go ?_ | refine dA ?_ | refine dL ?_) | refine Br.t ?_ | refine Br.f ?_ | refine bT ?_ | refine bF ?_ | refine Opt.mk ?_ | with_reducible refine aR ?_ | refine ⟨fun h => absurd (congrArg List.length h) (Nat.succ_ne_zero _), fun _ => ?_⟩ | refine aC ?_ | refine apG ?_); conv => whnf)
  refine Ret.mk [.tmp 2] rfl ?_; (conv => whnf); repeat ((first | with_reducible (first | refine Pt.go ?_ | refine dA ?_ | refine dL ?_) | refine Br.t ?_ | refine Br.f ?_ | refine bT ?_ | refine bF ?_ | refine Opt.mk ?_ | with_reducible refine aR ?_ | refine ⟨fun h => absurd (congrArg List.length h) (Nat.succ_ne_zero _), fun _ => ?_⟩ | refine aC ?_ | refine apG ?_); conv => whnf)
  exact ⟨_, View.fn .nil (.cons (View.ptr rfl rfl rfl (.same _) rfl) .nil), rfl, rfl⟩
theorem c228 (k : Int) (g : Pg) (t : Th) (a e : Int) (q : Rq) : Spec Try.prog 228 [.ptr 0 0 17 0 0, .pel (.int .i64 k) 0] [mO g t a e q] (MP g a (t, e) ⟨k, a, 0⟩) := by
  refine Spec.by Try.func228 rfl (by decide) (by decide +kernel) rfl ?_
  (conv => whnf); repeat ((first | with_reducible (first | refine Pt.go ?_ | refine dA ?_ | refine dL ?_) | refine Br.t ?_ | refine Br.f ?_ | refine bT ?_ | refine bF ?_ | refine Opt.mk ?_ | with_reducible refine aR ?_ | refine ⟨fun h => absurd (congrArg List.length h) (Nat.succ_ne_zero _), fun _ => ?_⟩ | refine aC ?_ | refine apG ?_); conv => whnf)
  refine Ret.trim 1 (by simp) rfl (Nat.le_of_ble_eq_true rfl) ?_
  exact Ret.mk [] rfl (by (conv => whnf); exact ⟨_, ⟨rfl, rfl⟩, rfl⟩)
theorem c229 (k : Int) (g : Pg) (t : Th) (a e : Int) (q : Rq) (h : t.sk.length ≤ 16) : Spec Try.prog 229 [.ptr 0 0 17 0 0, .pel (.int .i64 k) 0] [mO g t a e q] (MP g a (popE t e) ⟨k, a, (popM t).2.1⟩) := by
  refine Spec.by Try.func229 rfl (by decide) (by decide +kernel) rfl ?_
  (conv => whnf); repeat ((first | with_reducible (first | refine Pt.go ?_ | refine dA ?_ | refine dL ?_) | refine Br.t ?_ | refine Br.f ?_ | refine bT ?_ | refine bF ?_ | refine Opt.mk ?_ | with_reducible refine aR ?_ | refine ⟨fun h => absurd (congrArg List.length h) (Nat.succ_ne_zero _), fun _ => ?_⟩ | refine aC ?_ | refine apG ?_); conv => whnf)
  refine Call.mk ((mpop199 g t a e q (by omega)).cellAt 0 _ rfl (fun j hj => one_pos _ hj) rfl rfl (by rintro d y ⟨rfl, rfl⟩; exact ⟨rfl, rfl⟩)) ?_; rintro d os' ⟨y, ⟨rfl, rfl⟩, rfl⟩
  (conv => whnf); repeat ((first | with_reducible (first | refine Pt.go ?_ | refine dA ?_ | refine dL ?_) | refine Br.t ?_ | refine Br.f ?_ | refine bT ?_ | refine bF ?_ | refine Opt.mk ?_ | with_reducible refine aR ?_ | refine ⟨fun h => absurd (congrArg List.length h) (Nat.succ_ne_zero _), fun _ => ?_⟩ | refine aC ?_ | refine apG ?_); conv => whnf)
  refine Ret.trim 1 (by simp) rfl (Nat.le_of_ble_eq_true rfl) ?_
  exact Ret.mk [] rfl (by (conv => whnf); exact ⟨_, ⟨rfl, rfl⟩, rfl⟩)
end Go.Proofs.Ytaplihoeephbeaa.V
