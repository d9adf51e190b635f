/- S33: a text of a symbolic executor that is proved sound, and contracts that are proved with it. -/
import Derived.Test.YtaplihoeephbeaaS32
namespace Go.Proofs.Ytaplihoeephbeaa.V
open Go Go.Proofs
set_option maxRecDepth 100000
set_option maxHeartbeats 40000000
@[reducible] def g0 : Pg := ⟨[], 0, [], [], [], [], 0⟩
def tellT (t : Th) (l : List Int) : Th × Bool := if 0 ≤ (pushL t (-1) l).2 then (endT (pushL t (-1) l).2, false) else ((pushL t (-1) l).1, true)
theorem pushL_2 : ∀ (l : List Int) (t : Th), (pushL t 2 l).2 = 2
  | [], t => rfl
  | v :: l, t => by simp only [pushL]; rw [show underE 2 (pushT t v).2 2 = 2 by simp [underE]]; exact pushL_2 l _
theorem pushL_e : ∀ (l : List Int) (t : Th), (pushL t (-1) l).2 = -1 ∨ (pushL t (-1) l).2 = 2
  | [], t => .inl rfl
  | v :: l, t => by
    simp only [pushL]
    rcases Bool.eq_false_or_eq_true (pushT t v).2 with h | h
    · rw [h, under_t]; exact pushL_e l _
    · rw [h, under_f]; exact .inr (pushL_2 l _)
theorem pushL_app : ∀ (l m : List Int) (t : Th) (e : Int), pushL t e (l ++ m) = pushL (pushL t e l).1 (pushL t e l).2 m
  | [], m, t, e => rfl
  | v :: l, m, t, e => by simp only [List.cons_append, pushL]; exact pushL_app l m _ _
theorem pushL_take {t : Th} {l : List Int} {i : Nat} (h : (pushL t (-1) (l.take i)).2 = 2) : tellT t l = (endT 2, false) := by
  have : pushL t (-1) l = pushL (pushL t (-1) (l.take i)).1 2 (l.drop i) := by
    conv => lhs; rw [← List.take_append_drop i l]
    rw [pushL_app, h]
  unfold tellT
  rw [this, pushL_2]
  rfl
theorem tell_len : ∀ (l : List Int) (t : Th), t.sk.length ≤ 16 → ((pushL t (-1) l).2 = -1 ↔ t.sk.length + l.length ≤ 16)
  | [], t, h => by simp [pushL]; exact h
  | v :: l, t, h => by
    simp only [pushL]
    by_cases h16 : t.sk.length = 16
    · have : pushT t v = (t, false) := by unfold pushT; rw [if_pos h16]
      rw [this, under_f, pushL_2]
      simp; omega
    · have : pushT t v = ({ t with sk := t.sk ++ [keep v] }, true) := by unfold pushT; rw [if_neg h16]
      rw [this, under_t, tell_len l _ (by simp; omega)]
      simp; omega
theorem tellT_b (t : Th) (l : List Int) (h : t.sk.length ≤ 16) : (tellT t l).2 = decide (t.sk.length + l.length ≤ 16) := by
  have := tell_len l t h
  unfold tellT
  rcases pushL_e l t with he | he
  · rw [he, if_neg (by decide)]; exact (decide_eq_true (this.1 he)).symm
  · rw [he, if_pos (by decide)]; exact (decide_eq_false (fun hc => by have := this.2 hc; omega)).symm
theorem tell99 (t : Th) (l : List Int) (hsk : t.sk.length ≤ 16) (hl : l.length ≤ 1000000) : Spec Try.prog 99 [thD t, ints l] [] (fun d os' => d = .tup [thD (tellT t l).1, .bool (tellT t l).2] ∧ os' = []) := by
  refine Spec.frz (post' := fun d => d = .tup [thD (tellT t l).1, .bool (tellT t l).2]) ?_
  refine Spec.by Try.func99 rfl (by decide) (by decide +kernel) rfl ?_
  (conv => whnf); repeat ((first | with_reducible (first | refine dA ?_ | refine dL ?_) | refine Br.t ?_ | refine Br.f ?_ | refine bT ?_ | refine bF ?_ | refine Opt.mk ?_ | with_reducible refine aR ?_ | refine ⟨fun h => absurd (congrArg List.length h) (Nat.succ_ne_zero _), fun _ => ?_⟩ | refine aC ?_ | refine apG ?_); conv => whnf)
  ((with_reducible refine Pt.go ?_); conv => whnf)
  (conv => whnf); repeat ((first | with_reducible (first | refine dA ?_ | refine dL ?_) | refine Br.t ?_ | refine Br.f ?_ | refine bT ?_ | refine bF ?_ | refine Opt.mk ?_ | with_reducible refine aR ?_ | refine ⟨fun h => absurd (congrArg List.length h) (Nat.succ_ne_zero _), fun _ => ?_⟩ | refine aC ?_ | refine apG ?_); conv => whnf)
  ((with_reducible refine Pt.go ?_); conv => whnf)
  (conv => whnf); repeat ((first | with_reducible (first | refine dA ?_ | refine dL ?_) | refine Br.t ?_ | refine Br.f ?_ | refine bT ?_ | refine bF ?_ | refine Opt.mk ?_ | with_reducible refine aR ?_ | refine ⟨fun h => absurd (congrArg List.length h) (Nat.succ_ne_zero _), fun _ => ?_⟩ | refine aC ?_ | refine apG ?_); conv => whnf)
  refine Pt.weak (Weak.frzO (fun _ => false) [] 2 (ty := 208) (sz := 17) (es := [.agg [.nils, .int .i64 0, .nils, .nils, .nils, .nils, .int .i64 0, .int .i64 t.st, .int .i64 t.on, frs t.fr, ints t.sk, .int .i64 t.code, .int .i64 0, .int .i64 (-1), .int .i64 0, .int .i64 0, .int .i64 0]]) rfl rfl [mD g0 t 0 (-1) nq] rfl (.cons (.agg (.cons (View.nils 2 false) (.cons (.same _) (.cons (View.nils 1 false) (.cons (View.nils 1 false) (.cons (View.nils 1 false) (.cons (View.nils 1 false) (.same _)))))))) .nil) trivial) ?_
  (conv => whnf); repeat ((first | with_reducible (first | refine Pt.go ?_ | refine dA ?_ | refine dL ?_) | refine Br.t ?_ | refine Br.f ?_ | refine bT ?_ | refine bF ?_ | refine Opt.mk ?_ | with_reducible refine aR ?_ | refine ⟨fun h => absurd (congrArg List.length h) (Nat.succ_ne_zero _), fun _ => ?_⟩ | refine aC ?_ | refine apG ?_); conv => whnf)
  refine Call.mk ((mpush168 g0 t 0 (-1) nq l hsk hl).cellAt 2 _ rfl (fun j hj => one_pos _ hj) rfl rfl (by rintro d y ⟨rfl, rfl⟩; exact ⟨rfl, rfl⟩)) ?_; rintro d os' ⟨y, ⟨rfl, rfl⟩, rfl⟩
  (conv => whnf); repeat ((first | with_reducible (first | refine Pt.go ?_ | refine dA ?_ | refine dL ?_) | refine Br.t ?_ | refine Br.f ?_ | refine bT ?_ | refine bF ?_ | refine Opt.mk ?_ | with_reducible refine aR ?_ | refine ⟨fun h => absurd (congrArg List.length h) (Nat.succ_ne_zero _), fun _ => ?_⟩ | refine aC ?_ | refine apG ?_); conv => whnf)
  refine Br.dec (fun h0 => ?_) (fun h0 => ?_)
  · have he : tellT t l = (endT (pushL t (-1) l).2, false) := by unfold tellT; rw [if_pos h0]
    (conv => whnf); repeat ((first | with_reducible (first | refine Pt.go ?_ | refine dA ?_ | refine dL ?_) | refine Br.t ?_ | refine Br.f ?_ | refine bT ?_ | refine bF ?_ | refine Opt.mk ?_ | with_reducible refine aR ?_ | refine ⟨fun h => absurd (congrArg List.length h) (Nat.succ_ne_zero _), fun _ => ?_⟩ | refine aC ?_ | refine apG ?_); conv => whnf)
    refine Call.mk ((end55 t (pushL t (-1) l).2).only _ rfl (by rintro d rfl; rfl)) ?_; rintro d os' ⟨rfl, rfl⟩
    (conv => whnf); repeat ((first | with_reducible (first | refine Pt.go ?_ | refine dA ?_ | refine dL ?_) | refine Br.t ?_ | refine Br.f ?_ | refine bT ?_ | refine bF ?_ | refine Opt.mk ?_ | with_reducible refine aR ?_ | refine ⟨fun h => absurd (congrArg List.length h) (Nat.succ_ne_zero _), fun _ => ?_⟩ | refine aC ?_ | refine apG ?_); conv => whnf)
    refine Ret.mk [.cell 4 29, .tmp 5] rfl ?_; (conv => whnf); repeat ((first | with_reducible (first | refine Pt.go ?_ | refine dA ?_ | refine dL ?_) | refine Br.t ?_ | refine Br.f ?_ | refine bT ?_ | refine bF ?_ | refine Opt.mk ?_ | with_reducible refine aR ?_ | refine ⟨fun h => absurd (congrArg List.length h) (Nat.succ_ne_zero _), fun _ => ?_⟩ | refine aC ?_ | refine apG ?_); conv => whnf)
    rw [he]
    exact ⟨_, View.same _, rfl, rfl⟩
  · have he : tellT t l = ((pushL t (-1) l).1, true) := by unfold tellT; rw [if_neg h0]
    (conv => whnf); repeat ((first | with_reducible (first | refine Pt.go ?_ | refine dA ?_ | refine dL ?_) | refine Br.t ?_ | refine Br.f ?_ | refine bT ?_ | refine bF ?_ | refine Opt.mk ?_ | with_reducible refine aR ?_ | refine ⟨fun h => absurd (congrArg List.length h) (Nat.succ_ne_zero _), fun _ => ?_⟩ | refine aC ?_ | refine apG ?_); conv => whnf)
    refine Ret.mk [.cell 4 29, .tmp 5] rfl ?_; (conv => whnf); repeat ((first | with_reducible (first | refine Pt.go ?_ | refine dA ?_ | refine dL ?_) | refine Br.t ?_ | refine Br.f ?_ | refine bT ?_ | refine bF ?_ | refine Opt.mk ?_ | with_reducible refine aR ?_ | refine ⟨fun h => absurd (congrArg List.length h) (Nat.succ_ne_zero _), fun _ => ?_⟩ | refine aC ?_ | refine apG ?_); conv => whnf)
    rw [he]
    exact ⟨_, View.same _, rfl, rfl⟩
theorem pushL_okB : ∀ (l : List Int) (t : Th) (e : Int), t.sk.length ≤ 16 → t.okB → (pushL t e l).1.okB
  | [], t, e, _, h => h
  | v :: l, t, e, hs, h => by
    simp only [pushL]
    refine pushL_okB l _ _ (pushT_sk t v hs) ?_
    obtain ⟨h1, h2, h3⟩ := h
    have := pushT_sk t v hs
    have hf : (pushT t v).1.fr = t.fr := by unfold pushT; split <;> rfl
    exact ⟨by rw [hf]; exact h1, by omega, by rw [hf]; exact h3⟩
/-- A row of numbers is pushed, one behind the other. -/
theorem tell100 (t : Th) (ht : t.okB) (l : List Int) (hsk : t.sk.length ≤ 16) (hl : l.length ≤ 1000000) : Spec Try.prog 100 [thD t, ints l] [] (fun d os' => d = .tup [thD (tellT t l).1, .bool (tellT t l).2] ∧ os' = []) := by
  refine Spec.frz (post' := fun d => d = .tup [thD (tellT t l).1, .bool (tellT t l).2]) ?_
  have hlm : (l.map (D.int .i64)).length = l.length := List.length_map ..
  refine Spec.by Try.func100 rfl (by decide) (by decide +kernel) rfl ?_
  (conv => whnf); repeat ((first | with_reducible (first | refine Pt.go ?_ | refine dA ?_ | refine dL ?_) | refine Br.t ?_ | refine Br.f ?_ | refine bT ?_ | refine bF ?_ | refine Opt.mk ?_ | with_reducible refine aR ?_ | refine ⟨fun h => absurd (congrArg List.length h) (Nat.succ_ne_zero _), fun _ => ?_⟩ | refine aC ?_ | refine apG ?_); conv => whnf)
  refine Loop.inv (A := Nat) (List.range 31) (fun i => [(1, ints l), (2, .ptr 0 0 5 0 0), (4, .ptr 1 0 5 0 0), (5, .bool false), (6, .ptr 2 0 5 0 0), (7, .int .i64 (i : Int))]) (fun i => [one (.row 29 5 false [thD t]), one (.row 29 5 false [z29]), one (.row 29 5 false [thD (pushL t (-1) (l.take i)).1])]) (fun i => i ≤ l.length ∧ (pushL t (-1) (l.take i)).2 = -1) (fun i => l.length - i) 0 ⟨Nat.zero_le _, rfl⟩ ?_ ?_
  · exact Weak.start' rfl rfl (by repeat (first | exact trivial | refine And.intro (by first | rfl | exact congrArg (fun n => D.sl _ _ _ _ n none) List.length_append | exact congrArg _ (by omega)) ?_))
  rintro i ⟨hi, hm⟩
  (conv => whnf); repeat ((first | with_reducible (first | refine Pt.go ?_ | refine dA ?_ | refine dL ?_) | refine Br.t ?_ | refine Br.f ?_ | refine bT ?_ | refine bF ?_ | refine Opt.mk ?_ | with_reducible refine aR ?_ | refine ⟨fun h => absurd (congrArg List.length h) (Nat.succ_ne_zero _), fun _ => ?_⟩ | refine aC ?_ | refine apG ?_); conv => whnf)
  refine Br.dec (fun h => ?_) (fun h => ?_)
  · have hil : i < l.length := by omega
    have hget : l[i]? = some l[i] := List.getElem?_eq_getElem hil
    have htk : l.take (i + 1) = l.take i ++ [l[i]] := by rw [List.take_add_one, hget]; rfl
    have hp := pushL_sk (l.take i) t (-1) hsk
    have hB : (pushL t (-1) (l.take i)).1.okB := pushL_okB _ _ _ hsk ht
    (conv => whnf); repeat ((first | with_reducible (first | refine Pt.go ?_ | refine dA ?_ | refine dL ?_) | refine Br.t ?_ | refine Br.f ?_ | refine bT ?_ | refine bF ?_ | refine Opt.mk ?_ | with_reducible refine aR ?_ | refine ⟨fun h => absurd (congrArg List.length h) (Nat.succ_ne_zero _), fun _ => ?_⟩ | refine aC ?_ | refine apG ?_); conv => whnf)
    refine Opt.of (get_map hget) ?_
    (conv => whnf); repeat ((first | with_reducible (first | refine Pt.go ?_ | refine dA ?_ | refine dL ?_) | refine Br.t ?_ | refine Br.f ?_ | refine bT ?_ | refine bF ?_ | refine Opt.mk ?_ | with_reducible refine aR ?_ | refine ⟨fun h => absurd (congrArg List.length h) (Nat.succ_ne_zero _), fun _ => ?_⟩ | refine aC ?_ | refine apG ?_); conv => whnf)
    refine Call.mk ((push132 (pushL t (-1) (l.take i)).1 hB l[i]).only _ rfl (by rintro d rfl; rfl)) ?_; rintro d os' ⟨rfl, rfl⟩
    have hps : pushR (pushL t (-1) (l.take i)).1 l[i] = pushT (pushL t (-1) (l.take i)).1 l[i] := by
      unfold pushR pushT
      by_cases h16 : (pushL t (-1) (l.take i)).1.sk.length = 16
      · rw [if_pos (by omega), if_pos h16]
      · rw [if_neg (by omega), if_neg h16]
    rw [hps]
    have hsn := pushL_snoc l[i] (l.take i) t (-1)
    rw [← htk, hm] at hsn
    obtain ⟨u, b, hub⟩ : ∃ u b, pushT (pushL t (-1) (l.take i)).1 l[i] = (u, b) := ⟨_, _, rfl⟩
    rw [hub] at hsn ⊢
    dsimp only at hsn ⊢
    cases b with
    | true =>
      rw [under_t] at hsn
      (conv => whnf); repeat ((first | with_reducible (first | refine Pt.go ?_ | refine dA ?_ | refine dL ?_) | refine Br.t ?_ | refine Br.f ?_ | refine bT ?_ | refine bF ?_ | refine Opt.mk ?_ | with_reducible refine aR ?_ | refine ⟨fun h => absurd (congrArg List.length h) (Nat.succ_ne_zero _), fun _ => ?_⟩ | refine aC ?_ | refine apG ?_); conv => whnf)
      refine ⟨_, _, _, ?_, ⟨i + 1, ?_, rfl, rfl, rfl⟩, ?_⟩
      · omega
      · exact ⟨hil, by rw [hsn]⟩
      · refine Weak.backT 3 (by simp) ?_ (by kernel_rfl) (Nat.le_of_ble_eq_true rfl) (by repeat (first | exact trivial | refine And.intro (by first | rfl | exact congrArg (fun n => D.sl _ _ _ _ n none) List.length_append | exact congrArg _ (by omega)) ?_)) (by kernel_rfl) (by kernel_rfl)
        exact congrArg (fun r => ([one (.row 29 5 false [thD t]), one (.row 29 5 false [z29]), one (.row 29 5 false [thD r])] : Objs)) (by rw [hsn])
    | false =>
      rw [under_f] at hsn
      have he := pushL_take (t := t) (l := l) (i := i + 1) (by rw [hsn])
      (conv => whnf); repeat ((first | with_reducible (first | refine Pt.go ?_ | refine dA ?_ | refine dL ?_) | refine Br.t ?_ | refine Br.f ?_ | refine bT ?_ | refine bF ?_ | refine Opt.mk ?_ | with_reducible refine aR ?_ | refine ⟨fun h => absurd (congrArg List.length h) (Nat.succ_ne_zero _), fun _ => ?_⟩ | refine aC ?_ | refine apG ?_); conv => whnf)
      refine Call.mk ((end34 2).only _ rfl (by rintro d rfl; rfl)) ?_; rintro d os' ⟨rfl, rfl⟩
      (conv => whnf); repeat ((first | with_reducible (first | refine Pt.go ?_ | refine dA ?_ | refine dL ?_) | refine Br.t ?_ | refine Br.f ?_ | refine bT ?_ | refine bF ?_ | refine Opt.mk ?_ | with_reducible refine aR ?_ | refine ⟨fun h => absurd (congrArg List.length h) (Nat.succ_ne_zero _), fun _ => ?_⟩ | refine aC ?_ | refine apG ?_); conv => whnf)
      refine Ret.mk [.cell 4 29, .tmp 5] rfl ?_; (conv => whnf); repeat ((first | with_reducible (first | refine Pt.go ?_ | refine dA ?_ | refine dL ?_) | refine Br.t ?_ | refine Br.f ?_ | refine bT ?_ | refine bF ?_ | refine Opt.mk ?_ | with_reducible refine aR ?_ | refine ⟨fun h => absurd (congrArg List.length h) (Nat.succ_ne_zero _), fun _ => ?_⟩ | refine aC ?_ | refine apG ?_); conv => whnf)
      rw [he]
      exact ⟨_, View.same _, rfl, rfl⟩
  · have hil : i = l.length := by omega
    subst hil
    rw [List.take_length] at hm
    have he : tellT t l = ((pushL t (-1) l).1, true) := by unfold tellT; rw [if_neg (by omega)]
    (conv => whnf); repeat ((first | with_reducible (first | refine Pt.go ?_ | refine dA ?_ | refine dL ?_) | refine Br.t ?_ | refine Br.f ?_ | refine bT ?_ | refine bF ?_ | refine Opt.mk ?_ | with_reducible refine aR ?_ | refine ⟨fun h => absurd (congrArg List.length h) (Nat.succ_ne_zero _), fun _ => ?_⟩ | refine aC ?_ | refine apG ?_); conv => whnf)
    refine Ret.mk [.cell 4 29, .tmp 5] rfl ?_; (conv => whnf); repeat ((first | with_reducible (first | refine Pt.go ?_ | refine dA ?_ | refine dL ?_) | refine Br.t ?_ | refine Br.f ?_ | refine bT ?_ | refine bF ?_ | refine Opt.mk ?_ | with_reducible refine aR ?_ | refine ⟨fun h => absurd (congrArg List.length h) (Nat.succ_ne_zero _), fun _ => ?_⟩ | refine aC ?_ | refine apG ?_); conv => whnf)
    rw [he, List.take_length]
    exact ⟨_, View.same _, rfl, rfl⟩
end Go.Proofs.Ytaplihoeephbeaa.V
