/- S25: a text of a symbolic executor that is proved sound, and contracts that are proved with it. -/
import Derived.Test.YtaplihoeephbeaaS22a
import Derived.Test.YtaplihoeephbeaaVC
namespace Go.Proofs.Ytaplihoeephbeaa.V
open Go Go.Proofs
set_option maxRecDepth 100000
set_option maxHeartbeats 40000000
/-- A request. -/
structure Rq where
  kd : Int
  a : Int
  v : Int
deriving DecidableEq
def rqD (q : Rq) : D := .agg [.int .i64 q.kd, .int .i64 q.a, .int .i64 q.v]
/-- A machine. -/
@[reducible] def mD (g : Pg) (t : Th) (a e : Int) (q : Rq) : D := .agg [.lst 2 false (g.fu.map fuD), .int .i64 g.mu, ints g.co, ints g.se, ints g.ch, .lst 1 false (g.cs.map ints), .int .i64 g.th, .int .i64 t.st, .int .i64 t.on, .lst 3 false (t.fr.map frD), ints t.sk, .int .i64 t.code, .int .i64 a, .int .i64 e, .int .i64 q.kd, .int .i64 q.a, .int .i64 q.v]
@[reducible] def mO (g : Pg) (t : Th) (a e : Int) (q : Rq) : Fam := one (.row 208 17 false [mD g t a e q])
def underE (e : Int) (b : Bool) (c : Int) : Int := if b = false ∧ e < 0 then c else e
/-- What is popped. -/
def popM (t : Th) : Th × Int × Bool := match t.sk.getLast? with
  | none => (t, 0, false)
  | some v => ({ t with sk := t.sk.dropLast }, v, true)
theorem popM_nil {t : Th} (h : t.sk = []) : popM t = (t, 0, false) := by unfold popM; rw [h]; rfl
theorem popM_snoc {t : Th} {s : List Int} {v : Int} (h : t.sk = s ++ [v]) : popM t = ({ t with sk := s }, v, true) := by unfold popM; rw [h]; simp
theorem pop52m (t : Th) (hl : t.sk.length ≤ 1000000) : Spec Try.prog 52 [thD t] [] (fun d os' => d = .tup [thD (popM t).1, .int .i64 (popM t).2.1, .bool (popM t).2.2] ∧ os' = []) := by
  by_cases hk : t.sk = []
  · rw [popM_nil hk]; exact pop52e t hk
  · obtain ⟨l, n, hln⟩ : ∃ l n, t.sk = l ++ [n] := ⟨t.sk.dropLast, t.sk.getLast hk, (List.dropLast_concat_getLast hk).symm⟩
    rw [popM_snoc hln]
    exact pop52 t l n hln (by have : t.sk.length = l.length + 1 := by rw [hln]; simp
                              omega)
theorem mpop199 (g : Pg) (t : Th) (a e : Int) (q : Rq) (hl : t.sk.length ≤ 1000000) : Spec Try.prog 199 [.ptr 0 0 17 0 0] [mO g t a e q] (fun d os' => ∃ y, (d = .int .i64 (popM t).2.1 ∧ y = mD g (popM t).1 a (underE e (popM t).2.2 1) q) ∧ os' = [one (.row 208 17 false [y])]) := by
  refine Spec.by Try.func199 rfl (by decide) (by decide +kernel) rfl ?_
  (conv => whnf); repeat ((first | with_reducible (first | refine Pt.go ?_ | refine dA ?_ | refine dL ?_) | refine Br.t ?_ | refine Br.f ?_ | refine bT ?_ | refine bF ?_ | refine Opt.mk ?_ | with_reducible refine aR ?_ | refine ⟨fun h => absurd (congrArg List.length h) (Nat.succ_ne_zero _), fun _ => ?_⟩ | refine aC ?_ | refine apG ?_); conv => whnf)
  refine Call.mk ((pop52m t hl).only _ rfl (by rintro d rfl; rfl)) ?_
  rintro d os' ⟨rfl, rfl⟩
  generalize popM t = p
  obtain ⟨t', v, b⟩ := p
  dsimp only
  (conv => whnf); repeat ((first | with_reducible (first | refine Pt.go ?_ | refine dA ?_ | refine dL ?_) | refine Br.t ?_ | refine Br.f ?_ | refine bT ?_ | refine bF ?_ | refine Opt.mk ?_ | with_reducible refine aR ?_ | refine ⟨fun h => absurd (congrArg List.length h) (Nat.succ_ne_zero _), fun _ => ?_⟩ | refine aC ?_ | refine apG ?_); conv => whnf)
  cases b with
  | true =>
    (conv => whnf); repeat ((first | with_reducible (first | refine Pt.go ?_ | refine dA ?_ | refine dL ?_) | refine Br.t ?_ | refine Br.f ?_ | refine bT ?_ | refine bF ?_ | refine Opt.mk ?_ | with_reducible refine aR ?_ | refine ⟨fun h => absurd (congrArg List.length h) (Nat.succ_ne_zero _), fun _ => ?_⟩ | refine aC ?_ | refine apG ?_); conv => whnf)
    refine Ret.trim 1 (by simp) rfl (Nat.le_of_ble_eq_true rfl) ?_
    refine Ret.mk [.tmp 2] rfl ?_; (conv => whnf); repeat ((first | with_reducible (first | refine Pt.go ?_ | refine dA ?_ | refine dL ?_) | refine Br.t ?_ | refine Br.f ?_ | refine bT ?_ | refine bF ?_ | refine Opt.mk ?_ | with_reducible refine aR ?_ | refine ⟨fun h => absurd (congrArg List.length h) (Nat.succ_ne_zero _), fun _ => ?_⟩ | refine aC ?_ | refine apG ?_); conv => whnf)
    exact ⟨_, ⟨rfl, by simp [underE]⟩, rfl⟩
  | false =>
    (conv => whnf); repeat ((first | with_reducible (first | refine Pt.go ?_ | refine dA ?_ | refine dL ?_) | refine Br.t ?_ | refine Br.f ?_ | refine bT ?_ | refine bF ?_ | refine Opt.mk ?_ | with_reducible refine aR ?_ | refine ⟨fun h => absurd (congrArg List.length h) (Nat.succ_ne_zero _), fun _ => ?_⟩ | refine aC ?_ | refine apG ?_); conv => whnf)
    refine Br.dec (fun h => ?_) (fun h => ?_)
    · (conv => whnf); repeat ((first | with_reducible (first | refine Pt.go ?_ | refine dA ?_ | refine dL ?_) | refine Br.t ?_ | refine Br.f ?_ | refine bT ?_ | refine bF ?_ | refine Opt.mk ?_ | with_reducible refine aR ?_ | refine ⟨fun h => absurd (congrArg List.length h) (Nat.succ_ne_zero _), fun _ => ?_⟩ | refine aC ?_ | refine apG ?_); conv => whnf)
      refine Ret.trim 1 (by simp) rfl (Nat.le_of_ble_eq_true rfl) ?_
      refine Ret.mk [.tmp 2] rfl ?_; (conv => whnf); repeat ((first | with_reducible (first | refine Pt.go ?_ | refine dA ?_ | refine dL ?_) | refine Br.t ?_ | refine Br.f ?_ | refine bT ?_ | refine bF ?_ | refine Opt.mk ?_ | with_reducible refine aR ?_ | refine ⟨fun h => absurd (congrArg List.length h) (Nat.succ_ne_zero _), fun _ => ?_⟩ | refine aC ?_ | refine apG ?_); conv => whnf)
      exact ⟨_, ⟨rfl, by simp [underE, h]⟩, rfl⟩
    · (conv => whnf); repeat ((first | with_reducible (first | refine Pt.go ?_ | refine dA ?_ | refine dL ?_) | refine Br.t ?_ | refine Br.f ?_ | refine bT ?_ | refine bF ?_ | refine Opt.mk ?_ | with_reducible refine aR ?_ | refine ⟨fun h => absurd (congrArg List.length h) (Nat.succ_ne_zero _), fun _ => ?_⟩ | refine aC ?_ | refine apG ?_); conv => whnf)
      refine Ret.trim 1 (by simp) rfl (Nat.le_of_ble_eq_true rfl) ?_
      refine Ret.mk [.tmp 2] rfl ?_; (conv => whnf); repeat ((first | with_reducible (first | refine Pt.go ?_ | refine dA ?_ | refine dL ?_) | refine Br.t ?_ | refine Br.f ?_ | refine bT ?_ | refine bF ?_ | refine Opt.mk ?_ | with_reducible refine aR ?_ | refine ⟨fun h => absurd (congrArg List.length h) (Nat.succ_ne_zero _), fun _ => ?_⟩ | refine aC ?_ | refine apG ?_); conv => whnf)
      exact ⟨_, ⟨rfl, by simp [underE, h]⟩, rfl⟩
/-- Numbers are pushed. -/
def pushL (t : Th) (e : Int) : List Int → Th × Int
  | [] => (t, e)
  | v :: l => pushL (pushT t v).1 (underE e (pushT t v).2 2) l
theorem pushL_snoc (v : Int) : ∀ (l : List Int) (t : Th) (e : Int), pushL t e (l ++ [v]) = ((pushT (pushL t e l).1 v).1, underE (pushL t e l).2 (pushT (pushL t e l).1 v).2 2)
  | [], t, e => rfl
  | x :: l, t, e => by simp only [List.cons_append, pushL]; rw [pushL_snoc v l]
theorem pushT_sk (t : Th) (v : Int) (h : t.sk.length ≤ 16) : (pushT t v).1.sk.length ≤ 16 := by
  unfold pushT
  split
  · exact h
  · simp; omega
theorem pushL_sk : ∀ (l : List Int) (t : Th) (e : Int), t.sk.length ≤ 16 → (pushL t e l).1.sk.length ≤ 16
  | [], t, e, h => h
  | v :: l, t, e, h => by simp only [pushL]; exact pushL_sk l _ _ (pushT_sk t v h)
theorem mpush168 (g : Pg) (t : Th) (a e : Int) (q : Rq) (l : List Int) (hsk : t.sk.length ≤ 16) (hl : l.length ≤ 1000000) : Spec Try.prog 168 [.ptr 0 0 17 0 0, ints l] [mO g t a e q] (fun d os' => ∃ y, (d = .tup [] ∧ y = mD g (pushL t e l).1 a (pushL t e l).2 q) ∧ os' = [one (.row 208 17 false [y])]) := by
  have hlm : (l.map (D.int .i64)).length = l.length := List.length_map ..
  refine Spec.by Try.func168 rfl (by decide) (by decide +kernel) rfl ?_
  (conv => whnf); repeat ((first | with_reducible (first | refine Pt.go ?_ | refine dA ?_ | refine dL ?_) | refine Br.t ?_ | refine Br.f ?_ | refine bT ?_ | refine bF ?_ | refine Opt.mk ?_ | with_reducible refine aR ?_ | refine ⟨fun h => absurd (congrArg List.length h) (Nat.succ_ne_zero _), fun _ => ?_⟩ | refine aC ?_ | refine apG ?_); conv => whnf)
  refine Loop.inv (A := Nat) (List.range 40) (fun i => [(0, .ptr 0 0 17 0 0), (8, ints l), (9, .int .i64 ((l.map (D.int .i64)).length : Int)), (10, .int .i64 (i : Int))]) (fun i => [mO g (pushL t e (l.take i)).1 a (pushL t e (l.take i)).2 q]) (fun i => i ≤ l.length) (fun i => l.length - i) 0 (Nat.zero_le _) ?_ ?_
  · exact Weak.start' rfl rfl (by repeat (first | exact trivial | refine And.intro (by first | rfl | exact congrArg (fun n => D.sl _ _ _ _ n none) List.length_append | exact congrArg _ (by omega)) ?_))
  intro i hi
  (conv => whnf); repeat ((first | with_reducible (first | refine Pt.go ?_ | refine dA ?_ | refine dL ?_) | refine Br.t ?_ | refine Br.f ?_ | refine bT ?_ | refine bF ?_ | refine Opt.mk ?_ | with_reducible refine aR ?_ | refine ⟨fun h => absurd (congrArg List.length h) (Nat.succ_ne_zero _), fun _ => ?_⟩ | refine aC ?_ | refine apG ?_); conv => whnf)
  refine Br.dec (fun h => ?_) (fun h => ?_)
  · have hil : i < l.length := by omega
    have hget : l[i]? = some l[i] := List.getElem?_eq_getElem hil
    have htk : l.take (i + 1) = l.take i ++ [l[i]] := by rw [List.take_add_one, hget]; rfl
    have hp := pushL_sk (l.take i) t e hsk
    (conv => whnf); repeat ((first | with_reducible (first | refine Pt.go ?_ | refine dA ?_ | refine dL ?_) | refine Br.t ?_ | refine Br.f ?_ | refine bT ?_ | refine bF ?_ | refine Opt.mk ?_ | with_reducible refine aR ?_ | refine ⟨fun h => absurd (congrArg List.length h) (Nat.succ_ne_zero _), fun _ => ?_⟩ | refine aC ?_ | refine apG ?_); conv => whnf)
    refine Opt.of (get_map hget) ?_
    (conv => whnf); repeat ((first | with_reducible (first | refine Pt.go ?_ | refine dA ?_ | refine dL ?_) | refine Br.t ?_ | refine Br.f ?_ | refine bT ?_ | refine bF ?_ | refine Opt.mk ?_ | with_reducible refine aR ?_ | refine ⟨fun h => absurd (congrArg List.length h) (Nat.succ_ne_zero _), fun _ => ?_⟩ | refine aC ?_ | refine apG ?_); conv => whnf)
    refine Call.mk ((push40 (pushL t e (l.take i)).1 l[i] (by omega)).only _ rfl (by rintro d rfl; rfl)) ?_
    rintro d os' ⟨rfl, rfl⟩
    have hsn := pushL_snoc l[i] (l.take i) t e
    rw [← htk] at hsn
    obtain ⟨u, b, hub⟩ : ∃ u b, pushT (pushL t e (l.take i)).1 l[i] = (u, b) := ⟨_, _, rfl⟩
    rw [hub] at hsn ⊢
    dsimp only at hsn ⊢
    have fin : ∀ e' : Int, e' = underE (pushL t e (l.take i)).2 b 2 → (one (.row 208 17 false [mD g u a e' q]) : Fam) = mO g (pushL t e (l.take (i + 1))).1 a (pushL t e (l.take (i + 1))).2 q := by
      intro e' he
      rw [hsn, he]
    cases b with
    | true =>
      (conv => whnf); repeat ((first | with_reducible (first | refine Pt.go ?_ | refine dA ?_ | refine dL ?_) | refine Br.t ?_ | refine Br.f ?_ | refine bT ?_ | refine bF ?_ | refine Opt.mk ?_ | with_reducible refine aR ?_ | refine ⟨fun h => absurd (congrArg List.length h) (Nat.succ_ne_zero _), fun _ => ?_⟩ | refine aC ?_ | refine apG ?_); conv => whnf)
      refine ⟨_, _, _, ?_, ⟨i + 1, ?_, rfl, rfl, rfl⟩, ?_⟩
      · omega
      · omega
      · refine Weak.backT 1 (by simp) ?_ (by kernel_rfl) (Nat.le_of_ble_eq_true rfl) (by repeat (first | exact trivial | refine And.intro (by first | rfl | exact congrArg (fun n => D.sl _ _ _ _ n none) List.length_append | exact congrArg _ (by omega)) ?_)) (by kernel_rfl) (by kernel_rfl)
        exact congrArg (fun r => ([r] : Objs)) (fin _ (by simp [underE]))
    | false =>
      (conv => whnf); repeat ((first | with_reducible (first | refine Pt.go ?_ | refine dA ?_ | refine dL ?_) | refine Br.t ?_ | refine Br.f ?_ | refine bT ?_ | refine bF ?_ | refine Opt.mk ?_ | with_reducible refine aR ?_ | refine ⟨fun h => absurd (congrArg List.length h) (Nat.succ_ne_zero _), fun _ => ?_⟩ | refine aC ?_ | refine apG ?_); conv => whnf)
      refine Br.dec (fun h2 => ?_) (fun h2 => ?_)
      · (conv => whnf); repeat ((first | with_reducible (first | refine Pt.go ?_ | refine dA ?_ | refine dL ?_) | refine Br.t ?_ | refine Br.f ?_ | refine bT ?_ | refine bF ?_ | refine Opt.mk ?_ | with_reducible refine aR ?_ | refine ⟨fun h => absurd (congrArg List.length h) (Nat.succ_ne_zero _), fun _ => ?_⟩ | refine aC ?_ | refine apG ?_); conv => whnf)
        refine ⟨_, _, _, ?_, ⟨i + 1, ?_, rfl, rfl, rfl⟩, ?_⟩
        · omega
        · omega
        · refine Weak.backT 1 (by simp) ?_ (by kernel_rfl) (Nat.le_of_ble_eq_true rfl) (by repeat (first | exact trivial | refine And.intro (by first | rfl | exact congrArg (fun n => D.sl _ _ _ _ n none) List.length_append | exact congrArg _ (by omega)) ?_)) (by kernel_rfl) (by kernel_rfl)
          exact congrArg (fun r => ([r] : Objs)) (fin _ (by simp [underE, h2]))
      · (conv => whnf); repeat ((first | with_reducible (first | refine Pt.go ?_ | refine dA ?_ | refine dL ?_) | refine Br.t ?_ | refine Br.f ?_ | refine bT ?_ | refine bF ?_ | refine Opt.mk ?_ | with_reducible refine aR ?_ | refine ⟨fun h => absurd (congrArg List.length h) (Nat.succ_ne_zero _), fun _ => ?_⟩ | refine aC ?_ | refine apG ?_); conv => whnf)
        refine ⟨_, _, _, ?_, ⟨i + 1, ?_, rfl, rfl, rfl⟩, ?_⟩
        · omega
        · omega
        · refine Weak.backT 1 (by simp) ?_ (by kernel_rfl) (Nat.le_of_ble_eq_true rfl) (by repeat (first | exact trivial | refine And.intro (by first | rfl | exact congrArg (fun n => D.sl _ _ _ _ n none) List.length_append | exact congrArg _ (by omega)) ?_)) (by kernel_rfl) (by kernel_rfl)
          exact congrArg (fun r => ([r] : Objs)) (fin _ (by simp [underE, h2]))
  · have hil : i = l.length := by omega
    subst hil
    (conv => whnf); repeat ((first | with_reducible (first | refine Pt.go ?_ | refine dA ?_ | refine dL ?_) | refine Br.t ?_ | refine Br.f ?_ | refine bT ?_ | refine bF ?_ | refine Opt.mk ?_ | with_reducible refine aR ?_ | refine ⟨fun h => absurd (congrArg List.length h) (Nat.succ_ne_zero _), fun _ => ?_⟩ | refine aC ?_ | refine apG ?_); conv => whnf)
    refine Ret.trim 1 (by simp) rfl (Nat.le_of_ble_eq_true rfl) ?_
    refine Ret.mk [] rfl ⟨_, ⟨rfl, ?_⟩, rfl⟩
    rw [List.take_length]
end Go.Proofs.Ytaplihoeephbeaa.V
