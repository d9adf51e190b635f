/- C3: a text of a symbolic executor that is proved sound, and contracts that are proved with it. -/
import Derived.Test.YtkceciebmkklpaaGreatVA
import Derived.Test.YtkceciebmkklpaaGreatVB
import Derived.Test.YtkceciebmkklpaaGreatVT
import Derived.Test.YtkceciebmkklpaaGreatVC
import Derived.Test.YtkceciebmkklpaaGreatC0
import Derived.Test.YtkceciebmkklpaaGreatC1
import Derived.Test.YtkceciebmkklpaaGreatC2
import Derived.ChangeArms
import Derived.ChangeSlices
import Derived.ChangeShapes
import Derived.WideShapes
import Derived.SizedLaws
import Derived.Carry
import Derived.OpenShut
import Derived.Test.YtkceciebmkklpaaGreatRows
import Derived.WalkKit
import Derived.ProofKit
import Derived.ShutString
import Derived.ChangeOld
import Derived.Below
set_option linter.unusedVariables false
set_option linter.unusedSimpArgs false
section
namespace Go.Proofs.YtkceciebmkklpaaGreat.V
open Go Go.Proofs
set_option maxRecDepth 100000
set_option maxHeartbeats 4000000
/-! A step keeps what is kept. -/
theorem CI.ki {g : Pg} (hg : GoodP g) {C : Cr} (h : CI g C) : KI g 8 8 ⟨C, [], [], []⟩ := by
  have h8 := g_th8 hg h.z
  have hn : nj C ≤ C.th.length := List.countP_le_length
  refine ⟨h.z, h.rk, ⟨h.th, fun k hk => ?_⟩, ⟨by show nj C ≤ 100; omega, by show C.th.length ≤ 100; omega, fun f hf => thI_ok hg (h.th f hf), by show 0 + nj C ≤ 8; omega, by show 0 + nj C ≤ 8; omega, by show 0 + nj C ≤ 8; omega⟩⟩
  obtain ⟨u, h1, h2, h3, h4⟩ := h.jn k hk
  exact ⟨u, h1, h2, h3, .inl h4⟩
theorem CI.at {g : Pg} {C : Cr} (h : CI g C) (k : Nat) : ThI g (thAt C k) := by
  rcases Nat.lt_or_ge k C.th.length with h1 | h1
  · rw [thAt_lt h1]; exact h.th _ (List.getElem_mem h1)
  · rw [thAt_ge h1]; exact thI_end ⟨by omega, by omega⟩
theorem KI.put {g : Pg} (hg : GoodP g) {b w : Nat} {x : Xs} (h : KI g b w x) {t : Nat} (ht : t < x.C.th.length) (h0 : need g (thAt x.C t) = 0) {f : Th} (hf : GoodT g f) : KI g b w ⟨putT x.C t f, x.ev, x.wk, x.wp⟩ := by
  have hs := hf.st
  refine ⟨h.z.th rfl (putT_len _ _ _), rk_put h.rk h0 (need0 (.inl hs)), h.ei.put ht (thI_good hf) (by omega) (fun _ h => h) (fun h => by omega) _ _ _, ?_⟩
  have hok : okT f := thI_ok hg (thI_good hf)
  have := (put_xb h.xb ht hok (by omega) x.ev x.wk x.wp).1
  exact this.le (by omega) (by omega)
theorem newT_good {g : Pg} (hg : GoodP g) {a : Int} (ha : 0 ≤ a ∧ a < g.fu.length) : GoodT g (newT g a) := by
  obtain ⟨u, hu⟩ : ∃ u, g.fu[a.toNat]? = some u := ⟨_, List.getElem?_eq_getElem (by omega)⟩
  have hgu := hg.fu u (List.mem_of_getElem? hu)
  have e := (newT_okT g a.toNat u hu hgu.1).1
  rw [show ((a.toNat : Nat) : Int) = a from by omega] at e
  rw [e]
  refine ⟨rfl, rfl, rfl, by show (0 : Nat) ≤ 16; omega, rfl, ⟨by show (1 : Nat) ≤ 1; omega, by show (1 : Nat) ≤ 8; omega⟩, fun f hf => ?_⟩
  simp only [List.mem_singleton] at hf
  subst hf
  have := odd_not (g := g) (k := a.toNat) (u := u) (pc := 0) (l := List.replicate u.loc.toNat 0) hu ⟨by omega, by omega⟩ (by simp) hgu.1.1 (kept_of (fun y hy => by rw [List.eq_of_mem_replicate hy]; exact ⟨by decide, by decide⟩))
  rwa [show ((a.toNat : Nat) : Int) = a by omega] at this
theorem thAt_app {C : Cr} {f : Th} (k : Nat) : thAt { C with th := C.th ++ [f] } k = if k = C.th.length then f else thAt C k := by
  unfold thAt
  dsimp only
  rw [List.getD_eq_getElem?_getD, List.getD_eq_getElem?_getD]
  by_cases h : k = C.th.length
  · subst h; simp
  · rw [if_neg h]
    rcases Nat.lt_or_ge k C.th.length with h1 | h1
    · rw [List.getElem?_append_left h1]
    · rw [List.getElem?_eq_none (by rw [List.length_append, List.length_singleton]; omega), List.getElem?_eq_none h1]
theorem spawn_ki {g : Pg} (hg : GoodP g) {b w : Nat} {x : Xs} (h : KI g b w x) {t : Nat} (ht : t < x.C.th.length) (h0 : (thAt x.C t).st = 0) {a : Int} (ha : 0 ≤ a ∧ a < g.fu.length) : KI g (b + 2) (w + 1) (spawnX g x t a) := by
  have hgt := newT_good hg ha
  unfold spawnX
  split
  · exact ((h.ev (1, (t : Int), -1)).tell (x := seeX x 1 t (-1)) ht h0 [-1]).le (by omega) (by omega)
  · rename_i hl
    have htt : thAt { x.C with th := x.C.th ++ [newT g a] } t = thAt x.C t := by rw [thAt_app, if_neg (by omega)]
    have hnj : nj { x.C with th := x.C.th ++ [newT g a] } = nj x.C := by
      unfold nj
      dsimp only
      rw [List.countP_append]
      have : List.countP (fun f => decide (f.st = 2)) [newT g a] = 0 := by
        have hs : (newT g a).st = 0 := rfl
        simp [hs]
      omega
    have hk : KI g (b + 1) (w + 1) { seeX { x with C := { x.C with th := x.C.th ++ [newT g a] } } 1 t x.C.th.length with wk := x.wk ++ [(x.C.th.length : Int)], wp := x.wp ++ [(x.C.th.length : Int)] } := by
      refine ⟨?_, ?_, ⟨fun f hf => ?_, fun k hk => ?_⟩, ?_⟩
      · exact ⟨by show 1 ≤ (x.C.th ++ [newT g a]).length; rw [List.length_append]; show 1 ≤ _ + 1; omega, by show ((x.C.th ++ [newT g a]).length : Int) ≤ g.th; rw [List.length_append, List.length_singleton]; omega, h.z.now, h.z.L, h.z.ow, h.z.co, h.z.bu, h.z.sq, h.z.rq, h.z.ev, h.z.bc⟩
      · refine h.rk.same (by show _ ≤ (x.C.th ++ [newT g a]).length; rw [List.length_append]; omega) (fun r hr => ?_) (fun k hk => ?_) (fun k h1 h2 => ?_) (fun s hs => by cases hs)
        · have hc : r = 0 ∨ r = 1 ∨ r = 2 ∨ r = 3 ∨ r = 4 := by omega
          rcases hc with rfl | rfl | rfl | rfl | rfl <;> rfl
        · left
          show thAt { x.C with th := x.C.th ++ [newT g a] } k = _
          rw [thAt_app, if_neg (by omega)]
        · have h2' : k < (x.C.th ++ [newT g a]).length := h2
          rw [List.length_append, List.length_singleton] at h2'
          show need g (thAt { x.C with th := x.C.th ++ [newT g a] } k) = 0
          rw [thAt_app, if_pos (by omega)]
          exact need0 (.inl rfl)
      · have hf' : f ∈ x.C.th ++ [newT g a] := hf
        rcases List.mem_append.1 hf' with hf' | hf'
        · exact h.ei.th _ hf'
        · rw [List.mem_singleton] at hf'; subst hf'; exact thI_good hgt
      · have hk2 : (thAt { x.C with th := x.C.th ++ [newT g a] } k).st = 2 := hk
        show ∃ u : Nat, (thAt { x.C with th := x.C.th ++ [newT g a] } k).on = _ ∧ u < (x.C.th ++ [newT g a]).length ∧ u ≠ k ∧ ((thAt { x.C with th := x.C.th ++ [newT g a] } u).st ≠ 9 ∨ _)
        rw [thAt_app] at hk2 ⊢
        by_cases e : k = x.C.th.length
        · rw [if_pos e] at hk2
          have hs : (0 : Int) = 2 := hk2
          omega
        · rw [if_neg e] at hk2 ⊢
          obtain ⟨u, e1, e2, e3, e4⟩ := h.ei.jn k hk2
          refine ⟨u, e1, by rw [List.length_append]; omega, e3, ?_⟩
          rw [thAt_app, if_neg (by omega)]
          exact e4
      · have x1 := h.xb.ev
        have x2 := h.xb.wp
        have x3 := h.xb.wk
        have x4 := h.xb.jn
        have x5 := h.z.tl
        have x6 := hg.th
        refine ⟨?_, ?_, fun f hf => ?_, ?_, ?_, ?_⟩
        · show nj { x.C with th := x.C.th ++ [newT g a] } ≤ 100; omega
        · show (x.C.th ++ [newT g a]).length ≤ 100
          rw [List.length_append, List.length_singleton]
          omega
        · have hf' : f ∈ x.C.th ++ [newT g a] := hf
          rcases List.mem_append.1 hf' with hf' | hf'
          · exact h.xb.th _ hf'
          · rw [List.mem_singleton] at hf'; subst hf'; exact thI_ok hg (thI_good hgt)
        · show (x.ev ++ [_]).length + nj { x.C with th := x.C.th ++ [newT g a] } ≤ _
          rw [hnj, List.length_append, List.length_singleton]; omega
        · show (x.wp ++ [_]).length + nj { x.C with th := x.C.th ++ [newT g a] } ≤ _
          rw [hnj, List.length_append, List.length_singleton]; omega
        · show (x.wk ++ [_]).length + nj { x.C with th := x.C.th ++ [newT g a] } ≤ _
          rw [hnj, List.length_append, List.length_singleton]; omega
    exact (hk.tell (by show t < (x.C.th ++ [newT g a]).length; rw [List.length_append]; omega) (by show (thAt { x.C with th := x.C.th ++ [newT g a] } t).st = 0; rw [htt]; exact h0) _).le (by omega) (by omega)
theorem meet_ki {g : Pg} (hg : GoodP g) {b w : Nat} {t : Nat} {x : Xs} (h : KI g b w x) (hm : MI g t x) {q : Rq} (hq : RqOk g q) (h1 : q.kd ≠ 1) (h0 : (thAt x.C t).st = 0) : KI g (b + 100) (w + 100) (meetX g x t q) := by
  have ht := hm.tl
  obtain ⟨kd, a, v⟩ := q
  obtain ⟨q1, q2, q3, q4, q5, q6, q7, q8⟩ := hq
  dsimp only at q1 q2 q3 q4 q5 q6 q7 q8 h1
  have hc : kd = 0 ∨ kd = 2 ∨ kd = 3 ∨ kd = 4 ∨ kd = 5 ∨ kd = 6 ∨ kd = 7 ∨ kd = 8 ∨ kd = 9 ∨ kd = 10 ∨ kd = 11 ∨ kd = 12 ∨ kd = 13 ∨ kd = 14 ∨ kd = 15 ∨ kd = 16 := by omega
  rcases hc with rfl | rfl | rfl | rfl | rfl | rfl | rfl | rfl | rfl | rfl | rfl | rfl | rfl | rfl | rfl | rfl
  · exact KI.le (x := x) h (by omega) (by omega)
  · exact KI.le (x := x) h (by omega) (by omega)
  · exact (spawn_ki hg h ht h0 (q3 rfl)).le (by omega) (by omega)
  · exact (sleep_ki h ht h0 v).le (by omega) (by omega)
  · exact (join_ki hg h ht h0 v).le (by omega) (by omega)
  · exact (lock_ki hg h ht h0 (q4 (.inl rfl))).le (by omega) (by omega)
  · exact (unlock_ki h ht h0 a).le (by omega) (by omega)
  · exact (wait_ki hg h ht h0 (q5 (.inl rfl))).le (by omega) (by omega)
  · exact (signal_ki hg h (q5 (.inr (.inl rfl)))).le (by omega) (by omega)
  · have ha := q5 (.inr (.inr rfl))
    have he := hm.eo hg
    have htot := hm.tot hg
    show KI g _ _ (broadX g x a)
    rw [broad_eq hg h.z he.L he.N (nodup_wq hm) ha (fun v hv => (hm.std (r := 1) (by omega) (k := a.toNat) hv).1)]
    obtain ⟨b', w', e1, e2, hk⟩ := broadI_ki hg ha (qAt x.C.L.wq a.toNat).length h
    have hl : (qAt x.C.L.wq a.toNat).length ≤ 32 := by
      have := sumL_mem (qAt_mem (l := x.C.L.wq) (m := a.toNat) (by have := h.z.L.wq; omega))
      omega
    exact hk.le (by omega) (by omega)
  · exact (down_ki hg h ht h0 (q6 (.inl rfl))).le (by omega) (by omega)
  · exact (up_ki h a).le (by omega) (by omega)
  · exact (send_ki hg h ht h0 (q7 (.inl rfl)) v).le (by omega) (by omega)
  · exact (recv_ki hg h ht h0 (q7 (.inr rfl))).le (by omega) (by omega)
  · exact (choose_ki hg h ht h0 (q8 rfl)).le (by omega) (by omega)
  · exact KI.le (x := seeX x 0 t v) (h.ev (0, (t : Int), v)) (by omega) (by omega)
/-- What a step begins with. -/
theorem beg_all {g : Pg} (hg : GoodP g) {C : Cr} (h : CI g C) {t : Nat} (ht : t < C.th.length) (h0 : (thAt C t).st = 0) :
    MI g t (begX g C t) ∧ ((stepT g (thAt C t)).2.kd ≠ 1 → (thAt (begX g C t).C t).st = 0) ∧ ((thAt (begX g C t).C t).st = 0 ∨ (thAt (begX g C t).C t).st = 9) ∧ KI g 108 108 (meetX g (begX g C t) t (stepT g (thAt C t)).2) := by
  have hgt := thI_ready (h.at t) h0
  have hq := rq_ok hg hgt
  have hki := h.ki hg
  unfold begX
  rcases step_ok hg hgt with ⟨h1, h2, _⟩ | ⟨c, hc, hr⟩
  · obtain ⟨f, hf⟩ : ∃ f, (stepT g (thAt C t)).1 = f := ⟨_, rfl⟩
    rw [hf] at h2 ⊢
    have hk := hki.put hg ht (need0 (.inl h0)) h2
    have hst : (thAt (putT C t f) t).st = 0 := by rw [thAt_eq ht]; exact h2.st
    have hm : MI g t ⟨putT C t f, [], [], []⟩ := ⟨hk.z, hk.rk, hk.ei.th, by show t < (putT C t f).th.length; rw [putT_len]; exact ht, rfl, rfl, rfl⟩
    exact ⟨hm, fun _ => hst, .inl hst, meet_ki hg hk hm hq h1 hst⟩
  · rw [hr]
    have hst : (thAt (putT C t (endT c)) t).st = 9 := by rw [thAt_eq ht]
    have hth : ∀ f ∈ (putT C t (endT c)).th, ThI g f := fun f hf => by
      rcases mem_put hf with hf | rfl
      · exact h.th _ hf
      · exact thI_end (by omega)
    refine ⟨⟨h.z.th rfl (putT_len _ _ _), rk_put h.rk (need0 (.inl h0)) (need0 (.inr (.inr (.inr rfl)))), hth, by show t < (putT C t (endT c)).th.length; rw [putT_len]; exact ht, rfl, rfl, rfl⟩, fun hne => absurd rfl hne, .inr hst, ?_⟩
    have e : meetX g ⟨putT C t (endT c), [], [], []⟩ t ⟨1, 0, c⟩ = endF ⟨C, [], [], []⟩ t c := by
      show endX 100 ⟨putT C t (endT c), [], [], []⟩ t c = endX 100 ⟨C, [], [], []⟩ t c
      have ed : deadX ⟨putT C t (endT c), [], [], []⟩ t c = deadX ⟨C, [], [], []⟩ t c := by
        unfold deadX
        dsimp only
        rw [putT_put]
      rw [endX, endX, ed]
      show (List.range (putT C t (endT c)).th.length).foldl _ _ = _
      rw [putT_len]
    rw [e]
    exact (hki.end ht (need0 (.inl h0)) (by omega)).le (by omega) (by omega)
theorem stepC_ci {g : Pg} (hg : GoodP g) {C : Cr} (h : CI g C) (t : Int) : CI g (stepC g C t).1 := by
  unfold stepC
  split
  · exact h
  · rename_i ht
    split
    · exact h
    · rename_i h0
      exact (beg_all hg h (by omega) (by omega)).2.2.2.ci
end Go.Proofs.YtkceciebmkklpaaGreat.V
end
section
namespace Go.Proofs.YtkceciebmkklpaaGreat.V
open Go Go.Proofs
set_option maxRecDepth 100000
set_option maxHeartbeats 4000000
/-! Who stays as it was. -/
def stil (f : Th) : Prop := f.st = 0 ∨ f.st = 1 ∨ f.st = 9
structure Sti (t : Nat) (x y : Xs) : Prop where
  now : y.C.now = x.C.now
  len : y.C.th.length = x.C.th.length
  stay : ∀ k, k ≠ t → stil (thAt x.C k) → thAt y.C k = thAt x.C k
theorem Sti.trans {t : Nat} {x y z : Xs} (h : Sti t x y) (h2 : Sti t y z) : Sti t x z :=
  ⟨h2.now.trans h.now, h2.len.trans h.len, fun k hk hs => by rw [h2.stay k hk (by rw [h.stay k hk hs]; exact hs), h.stay k hk hs]⟩
theorem Sti.tame {t u : Nat} {x y : Xs} (h : Tame u x y) (hu : u = t ∨ ¬ stil (thAt x.C u)) : Sti t x y :=
  ⟨by rw [h.rest], h.len, fun k hk hs => h.stay k (by
    rintro rfl
    rcases hu with hu | hu
    · exact hk hu
    · exact hu hs) (by rcases hs with hs | hs | hs <;> omega)⟩
theorem sti_inC {t : Nat} {x : Xs} {C' : Cr} (h : C'.th = x.C.th) (hn : C'.now = x.C.now) : Sti t x (inC x C') := ⟨hn, by show C'.th.length = _; rw [h], fun k _ _ => thAt_th h k⟩
theorem sti_rest {t u : Nat} {x : Xs} {st on : Int} (hu : u = t ∨ ¬ stil (thAt x.C u)) : Sti t x (restX x u st on) := ⟨rfl, rest_len _ _ _ _, fun k hk hs => thAt_ne (by
    rintro rfl
    rcases hu with hu | hu
    · exact hk hu
    · exact hu hs)⟩
theorem not_stil {f : Th} (h : 3 ≤ f.st ∧ f.st ≤ 8) : ¬ stil f := fun hs => by rcases hs with hs | hs | hs <;> omega
theorem sti_wake {t : Nat} {x : Xs} {u : Int} (hu : TSt x u) (l : List Int) : Sti t x (wakeF x u l) := by
  unfold wakeF
  split
  · exact ⟨rfl, rfl, fun _ _ _ => rfl⟩
  · exact Sti.tame (wake_tame (end_tame FU) x u.toNat l) (.inr (not_stil (hu (by omega))))
theorem sti_end {t : Nat} {x : Xs} (c : Int) : Sti t x (endF x t c) := Sti.tame (end_tame FU x t c) (.inl rfl)
theorem sti_tell {t : Nat} {x : Xs} (h0 : (thAt x.C t).st = 0) (l : List Int) : Sti t x (tellF x t l) := Sti.tame (tell_tame (end_tame FU) x t l (fun _ => h0)) (.inl rfl)
theorem sti_moved {t : Nat} {x : Xs} {u m : Int} {has : Bool} (hu : TSt x u) (h0 : 0 ≤ u) : Sti t x (movedX x u m has) := by
  unfold movedX
  split
  · exact sti_wake hu []
  · exact sti_rest (.inr (not_stil (hu h0)))
theorem sti_moves {t : Nat} (m got : Int) : ∀ (l : List Int) (x : Xs), l.Nodup → (∀ v ∈ l, 0 ≤ v ∧ (thAt x.C v.toNat).st = 4) → Sti t x (l.foldl (movedL m got) x)
  | [], x, _, _ => ⟨rfl, rfl, fun _ _ _ => rfl⟩
  | v :: l, x, hd, hs => by
    obtain ⟨hv, hv4⟩ := hs v List.mem_cons_self
    have hd' := List.nodup_cons.1 hd
    rw [List.foldl_cons]
    refine Sti.trans (sti_moved (u := v) (m := m) (has := decide (v = got)) (fun _ => by omega) hv) (sti_moves m got l _ hd'.2 (fun w hw => ?_))
    obtain ⟨hw0, hw4⟩ := hs w (List.mem_cons_of_mem _ hw)
    refine ⟨hw0, ?_⟩
    have hne : ((w.toNat : Nat) : Int) ≠ v := by
      intro e
      have : w = v := by omega
      exact hd'.1 (this ▸ hw)
    rw [movedX_stay hne hv (by omega)]
    exact hw4
theorem sendC_now (C : Cr) (c : Nat) (room t v : Int) : (sendC C c room t v).1.now = C.now := by
  unfold sendC
  split
  · rfl
  · split <;> rfl
theorem selC_now (C : Cr) (l : List Int) (t : Int) : (selC C l t).1.now = C.now := by
  unfold selC
  split <;> rfl
theorem taken_sti {t : Nat} {x : Xs} {C' : Cr} (h : C'.th = x.C.th) (hn : C'.now = x.C.now) (h0 : (thAt x.C t).st = 0) {v : Int} (hv : TSt x v) (l l' : List Int) : Sti t x (wakeF (tellF (inC x C') t l) v l') := by
  have e : ∀ k, thAt (inC x C').C k = thAt x.C k := fun k => thAt_th h k
  refine (sti_inC (t := t) h hn).trans ((sti_tell (by rw [e]; exact h0) l).trans (sti_wake (fun hv0 => ?_) l'))
  have h1 := hv hv0
  have hne : v.toNat ≠ t := by intro e; rw [e] at h1; omega
  rw [tellF_stay (by rw [e]; exact h0) hne (by rw [e]; omega), e]
  exact h1
structure StiS (t : Nat) (x y : Xs) : Prop where
  now : y.C.now = x.C.now
  len : x.C.th.length ≤ y.C.th.length ∧ y.C.th.length ≤ x.C.th.length + 1
  stay : ∀ k, k < x.C.th.length → k ≠ t → stil (thAt x.C k) → thAt y.C k = thAt x.C k
theorem Sti.s {t : Nat} {x y : Xs} (h : Sti t x y) : StiS t x y := ⟨h.now, by rw [h.len]; omega, fun k _ h1 h2 => h.stay k h1 h2⟩
theorem meet_sti {g : Pg} (hg : GoodP g) {t : Nat} {x : Xs} (h : MI g t x) {q : Rq} (hq : RqOk g q) (h0 : q.kd ≠ 1 → (thAt x.C t).st = 0) : StiS t x (meetX g x t q) := by
  have ht := h.tl
  have he := h.eo hg
  have hz := h.z.L
  obtain ⟨kd, a, v⟩ := q
  obtain ⟨q1, q2, q3, q4, q5, q6, q7, q8⟩ := hq
  dsimp only at q1 q2 q3 q4 q5 q6 q7 q8 h0
  have hid : Sti t x x := ⟨rfl, rfl, fun _ _ _ => rfl⟩
  have hL : ∀ S : Lk, Sti t x (inL x S) := fun S => sti_inC (C' := { x.C with L := S }) rfl rfl
  have hc : kd = 0 ∨ kd = 1 ∨ kd = 2 ∨ kd = 3 ∨ kd = 4 ∨ kd = 5 ∨ kd = 6 ∨ kd = 7 ∨ kd = 8 ∨ kd = 9 ∨ kd = 10 ∨ kd = 11 ∨ kd = 12 ∨ kd = 13 ∨ kd = 14 ∨ kd = 15 ∨ kd = 16 := by omega
  rcases hc with rfl | rfl | rfl | rfl | rfl | rfl | rfl | rfl | rfl | rfl | rfl | rfl | rfl | rfl | rfl | rfl | rfl
  · exact hid.s
  · exact (sti_end v).s
  · exact hid.s
  · show StiS t x (spawnX g x t a)
    have h00 := h0 (by decide)
    unfold spawnX
    split
    · have hh := sti_tell (x := seeX x 1 t (-1)) (t := t) h00 [-1]
      exact Sti.s (x := x) ⟨hh.now, hh.len, hh.stay⟩
    · have htt : thAt { x.C with th := x.C.th ++ [newT g a] } t = thAt x.C t := by rw [thAt_app, if_neg (by omega)]
      obtain ⟨y, hy⟩ : ∃ y : Xs, { seeX { x with C := { x.C with th := x.C.th ++ [newT g a] } } 1 t x.C.th.length with wk := x.wk ++ [(x.C.th.length : Int)], wp := x.wp ++ [(x.C.th.length : Int)] } = y := ⟨_, rfl⟩
      have hyC : y.C = { x.C with th := x.C.th ++ [newT g a] } := by rw [← hy]; rfl
      rw [hy]
      have hs := sti_tell (x := y) (t := t) (by rw [hyC, htt]; exact h00) [(x.C.th.length : Int)]
      have hl : y.C.th.length = x.C.th.length + 1 := by rw [hyC]; show (x.C.th ++ [_]).length = _; rw [List.length_append]; rfl
      refine ⟨by rw [hs.now, hyC], by rw [hs.len, hl]; omega, fun k hk hkt hst => ?_⟩
      have ek : thAt y.C k = thAt x.C k := by rw [hyC, thAt_app, if_neg (by omega)]
      rw [hs.stay k hkt (by rw [ek]; exact hst), ek]
  · show StiS t x (sleepX x t v)
    unfold sleepX
    split
    · exact (sti_rest (.inl rfl)).s
    · exact hid.s
  · show StiS t x (joinX x t v)
    unfold joinX
    split
    · exact (sti_end 5).s
    · split
      · exact (sti_tell (h0 (by decide)) _).s
      · exact (sti_rest (.inl rfl)).s
  · show StiS t x (lockX x t a)
    unfold lockX
    dsimp only
    split
    · exact (hL _).s
    · exact ((hL _).trans (sti_rest (.inl rfl))).s
  · show StiS t x (unlockX x t a)
    unfold unlockX
    dsimp only
    split
    · exact ((hL _).trans (sti_wake ((unlock_ts h a.toNat t).inL (unlockS x.C.L a.toNat t).1) [])).s
    · exact (sti_end 4).s
  · show StiS t x (waitX g x t a)
    unfold waitX
    dsimp only
    split
    · exact ((hL _).trans ((sti_wake ((wait_ts h a.toNat (g.co.getD a.toNat 0).toNat t).inL (waitS x.C.L a.toNat (g.co.getD a.toNat 0).toNat t).1) []).trans (sti_rest (.inl rfl)))).s
    · exact (sti_end 4).s
  · show StiS t x (signalX g x a)
    unfold signalX
    dsimp only
    split
    · exact hid.s
    · rename_i hn
      exact ((hL _).trans (sti_moved ((signal_ts h a.toNat (g.co.getD a.toNat 0).toNat).inL (signalS x.C.L a.toNat (g.co.getD a.toNat 0).toNat).1) (by omega))).s
  · have := q5 (.inr (.inr rfl))
    have hco := hg.co _ (getD_mem (l := g.co) (e := a.toNat) (by omega))
    have hall := broad_all he.L he.N (c := a.toNat) (m := (g.co.getD a.toNat 0).toNat) (by show a.toNat < g.co.length; omega) (by show (g.co.getD a.toNat 0).toNat < g.mu.toNat; omega)
    show StiS t x (broadX g x a)
    unfold broadX
    dsimp only
    rw [hall]
    refine ((hL _).trans (sti_moves _ _ _ _ (nodup_wq h _) (fun v hv => ?_))).s
    obtain ⟨h1, h2⟩ := row_st h (r := 1) (by omega) (k := a.toNat) (v := v) hv
    refine ⟨h1, ?_⟩
    show (thAt x.C v.toNat).st = 4
    omega
  · show StiS t x (downX x t a)
    unfold downX
    dsimp only
    split
    · exact (hL _).s
    · exact ((hL _).trans (sti_rest (.inl rfl))).s
  · show StiS t x (upX x a)
    unfold upX
    dsimp only
    exact ((hL _).trans (sti_wake ((up_ts h a.toNat).inL (upS x.C.L a.toNat).1) [])).s
  · show StiS t x (sendX g x t a v)
    have hs := (send_ts h a.toNat (g.ch.getD a.toNat 0) (t : Int) v).inC (sendC_th x.C a.toNat (g.ch.getD a.toNat 0) (t : Int) v).1
    have hi : Sti t x (inC x (sendC x.C a.toNat (g.ch.getD a.toNat 0) (t : Int) v).1) := sti_inC (sendC_th x.C a.toNat (g.ch.getD a.toNat 0) (t : Int) v).1 (sendC_now ..)
    unfold sendX
    dsimp only
    split
    · exact (hi.trans (sti_rest (.inl rfl))).s
    · split
      · exact hi.s
      · split
        · exact (hi.trans (sti_wake hs _)).s
        · exact (hi.trans (sti_wake hs _)).s
  · show StiS t x (recvX x t a)
    unfold recvX
    dsimp only
    split
    · exact ((sti_inC (selC_th x.C [a] (t : Int)).1 (selC_now ..)).trans (sti_rest (.inl rfl))).s
    · exact (taken_sti (selC_th x.C [a] (t : Int)).1 (selC_now ..) (h0 (by decide)) (sel_ts h [a] (t : Int)) _ _).s
  · show StiS t x (chooseX g x t a)
    unfold chooseX
    dsimp only
    split
    · exact ((sti_inC (selC_th x.C (qAt g.cs a.toNat) (t : Int)).1 (selC_now ..)).trans (sti_rest (.inl rfl))).s
    · exact (taken_sti (selC_th x.C (qAt g.cs a.toNat) (t : Int)).1 (selC_now ..) (h0 (by decide)) (sel_ts h (qAt g.cs a.toNat) (t : Int)) _ _).s
  · exact (show Sti t x (seeX x 0 t v) from ⟨rfl, rfl, fun _ _ _ => rfl⟩).s
/-- A step leaves all others that do not wait. -/
theorem step_sti {g : Pg} (hg : GoodP g) {C : Cr} (h : CI g C) {t : Nat} (ht : t < C.th.length) (h0 : (thAt C t).st = 0) : (stepC g C t).2.2.2 = 0 ∧ (stepC g C t).1.now = C.now ∧ (C.th.length ≤ (stepC g C t).1.th.length ∧ (stepC g C t).1.th.length ≤ C.th.length + 1) ∧ ∀ k, k < C.th.length → k ≠ t → stil (thAt C k) → thAt (stepC g C t).1 k = thAt C k := by
  obtain ⟨b1, b2, b3, b4⟩ := beg_all hg h ht h0
  have hs := meet_sti hg b1 (rq_ok hg (thI_ready (h.at t) h0)) b2
  unfold stepC
  rw [if_neg (by omega), Int.toNat_natCast, if_neg (fun hn => hn h0)]
  dsimp only
  have hl : (begX g C t).C.th.length = C.th.length := putT_len _ _ _
  have hk : ∀ k, k ≠ t → thAt (begX g C t).C k = thAt C k := fun k hk => thAt_ne hk
  refine ⟨rfl, hs.now, by have := hs.len; rw [hl] at this; exact this, fun k h1 h2 h3 => ?_⟩
  rw [hs.stay k (by rw [hl]; exact h1) h2 (by rw [hk k h2]; exact h3), hk k h2]
end Go.Proofs.YtkceciebmkklpaaGreat.V
end
section
namespace Go.Proofs.YtkceciebmkklpaaGreat.V
open Go Go.Proofs
set_option maxRecDepth 100000
set_option maxHeartbeats 4000000
/-! Ticks. -/
def stepF (C : Cr) (b : Int) (t : Nat) : Int := if (thAt C t).st = 1 ∧ (thAt C t).on ≤ C.now ∧ (b < 0 ∨ (thAt C t).on < (thAt C b.toNat).on) then (t : Int) else b
def firstK (C : Cr) (k : Nat) : Int := (List.range k).foldl (stepF C) (-1)
theorem firstK_succ (C : Cr) (k : Nat) : firstK C (k + 1) = stepF C (firstK C k) k := by
  unfold firstK
  rw [List.range_succ, List.foldl_append]
  rfl
theorem firstK_at (C : Cr) : ∀ k, firstK C k = -1 ∨ ∃ u : Nat, firstK C k = (u : Int) ∧ u < k ∧ (thAt C u).st = 1 ∧ (thAt C u).on ≤ C.now
  | 0 => .inl rfl
  | k + 1 => by
    rw [firstK_succ]
    unfold stepF
    split
    · rename_i h
      exact .inr ⟨k, rfl, by omega, h.1, h.2.1⟩
    · rcases firstK_at C k with h | ⟨u, h1, h2, h3⟩
      · exact .inl h
      · exact .inr ⟨u, h1, by omega, h3⟩
def upTh (C : Cr) (u : Nat) : Cr := putT C u { thAt C u with st := 0, on := 0 }
def tickW : Nat → Cr → List Int → Cr × List Int
  | 0, C, l => (C, l)
  | n + 1, C, l => if firstK C C.th.length < 0 then (C, l) else tickW n (upTh C (firstK C C.th.length).toNat) (l ++ [firstK C C.th.length])
def ns (C : Cr) : Nat := C.th.countP (fun f => decide (f.st = 1))
def mn (n : Int) : Int := if 1073741824 < n then 1073741824 else n
def tick0 (C : Cr) (n : Int) : Cr := if 0 < mn n then { C with now := keep (C.now + mn n) } else C
def tickC (C : Cr) (n : Int) : Cr × List Int := tickW C.th.length (tick0 C n) []
theorem ns_put (C : Cr) (t : Nat) (f : Th) (ht : t < C.th.length) : ns (putT C t f) + (if (thAt C t).st = 1 then 1 else 0) = ns C + (if f.st = 1 then 1 else 0) := by
  have e : thAt C t = C.th[t] := thAt_lt ht
  unfold ns putT
  dsimp only
  rw [List.countP_set ht, e]
  have hp : (if (decide (C.th[t].st = 1)) = true then 1 else 0) ≤ C.th.countP (fun f => decide (f.st = 1)) := by
    split
    · rename_i h; exact List.countP_pos_iff.2 ⟨_, List.getElem_mem ht, h⟩
    · omega
  simp only [decide_eq_true_eq] at hp ⊢
  omega
theorem ns_up {C : Cr} {u : Nat} (hu : u < C.th.length) (h1 : (thAt C u).st = 1) : ns (upTh C u) + 1 = ns C := by
  have := ns_put C u { thAt C u with st := 0, on := 0 } hu
  rw [if_pos h1, if_neg (show ¬ (0 : Int) = 1 by decide)] at this
  exact this
theorem tickW_end {C : Cr} (h : firstK C C.th.length < 0) (n : Nat) (l : List Int) : tickW n C l = (C, l) := by
  cases n with
  | zero => rfl
  | succ n => rw [tickW, if_pos h]
theorem up_ci {g : Pg} {C : Cr} (h : CI g C) {u : Nat} (hu : u < C.th.length) (h1 : (thAt C u).st = 1) : CI g (upTh C u) := by
  refine ⟨h.z.th rfl (putT_len _ _ _), rk_put h.rk (need0 (.inr (.inl h1))) (need0 (.inl rfl)), fun f hf => ?_, fun k hk => ?_⟩
  · rcases mem_put hf with hf | rfl
    · exact h.th _ hf
    · exact thI_rest0 (h.at u) (by omega)
  · have hk2 : (thAt (putT C u { thAt C u with st := 0, on := 0 }) k).st = 2 := hk
    have hku : k ≠ u := by
      rintro rfl
      rw [thAt_eq hu] at hk2
      have : (0 : Int) = 2 := hk2
      omega
    rw [thAt_ne hku] at hk2
    obtain ⟨v, e1, e2, e3, e4⟩ := h.jn k hk2
    refine ⟨v, by show (thAt (putT C u _) k).on = _; rw [thAt_ne hku]; exact e1, by show v < (putT C u _).th.length; rw [putT_len]; exact e2, e3, ?_⟩
    show (thAt (putT C u _) v).st ≠ 9
    rw [thAt_put]
    split
    · show (0 : Int) ≠ 9; decide
    · exact e4
theorem tickW_ci {g : Pg} : ∀ (n : Nat) (C : Cr) (l : List Int), CI g C → CI g (tickW n C l).1
  | 0, C, l, h => h
  | n + 1, C, l, h => by
    rw [tickW]
    split
    · exact h
    · rename_i h0
      rcases firstK_at C C.th.length with e | ⟨u, e, hu, h1, _⟩
      · rw [e] at h0; exact absurd (by decide) h0
      · rw [e, Int.toNat_natCast]
        exact tickW_ci n _ _ (up_ci h hu h1)
theorem tick0_ci {g : Pg} {C : Cr} (h : CI g C) (n : Int) : CI g (tick0 C n) := by
  unfold tick0
  split
  · rename_i hp
    have := keep_range (C.now + mn n)
    have hn := h.z.now
    have h0 : 0 ≤ keep (C.now + mn n) := by
      unfold keep
      rw [if_neg (by omega)]
      split <;> omega
    exact ⟨⟨h.z.t1, h.z.tl, ⟨h0, this.2⟩, h.z.L, h.z.ow, h.z.co, h.z.bu, h.z.sq, h.z.rq, h.z.ev, h.z.bc⟩, rk_same h.rk rfl (fun r hr => by
      have hc : r = 0 ∨ r = 1 ∨ r = 2 ∨ r = 3 ∨ r = 4 := by omega
      rcases hc with rfl | rfl | rfl | rfl | rfl <;> rfl), h.th, h.jn⟩
  · exact h
theorem tickC_ci {g : Pg} {C : Cr} (h : CI g C) (n : Int) : CI g (tickC C n).1 := tickW_ci _ _ _ (tick0_ci h n)
end Go.Proofs.YtkceciebmkklpaaGreat.V
end
section
namespace Go.Proofs.YtkceciebmkklpaaGreat.V
open Go Go.Proofs
set_option maxRecDepth 100000
set_option maxHeartbeats 4000000
/-! Those that sleep, as they are woken. -/
def SlR (C : Cr) (a b : Int) : Prop := (thAt C a.toNat).on < (thAt C b.toNat).on ∨ ((thAt C a.toNat).on = (thAt C b.toNat).on ∧ a < b)
structure SlS (C : Cr) (S : List Int) : Prop where
  mem : ∀ v, v ∈ S ↔ ∃ k : Nat, v = k ∧ k < C.th.length ∧ (thAt C k).st = 1
  srt : S.Pairwise (SlR C)
theorem firstK_min (C : Cr) (v : Nat) (h1 : (thAt C v).st = 1) (hn : (thAt C v).on ≤ C.now) : ∀ k, v < k → ∃ u : Nat, firstK C k = (u : Int) ∧ ((thAt C u).on < (thAt C v).on ∨ ((thAt C u).on = (thAt C v).on ∧ u ≤ v))
  | 0, h => absurd h (by omega)
  | k + 1, h => by
    rw [firstK_succ]
    unfold stepF
    by_cases hv : v = k
    · subst hv
      split
      · exact ⟨v, rfl, .inr ⟨rfl, Nat.le_refl _⟩⟩
      · rename_i hc
        rcases firstK_at C v with e | ⟨u, e, hu, _, _⟩
        · exact absurd ⟨h1, hn, .inl (by rw [e]; decide)⟩ hc
        · rw [e, Int.toNat_natCast] at hc
          refine ⟨u, e, ?_⟩
          have : ¬ (thAt C v).on < (thAt C u).on := fun hh => hc ⟨h1, hn, .inr hh⟩
          omega
    · obtain ⟨u, e, hu⟩ := firstK_min C v h1 hn k (by omega)
      rw [e, Int.toNat_natCast]
      split
      · rename_i hc
        refine ⟨k, rfl, ?_⟩
        have h2 := hc.2.2
        omega
      · exact ⟨u, rfl, hu⟩
theorem SlS.nil {C : Cr} (h : SlS C []) : firstK C C.th.length = -1 := by
  rcases firstK_at C C.th.length with e | ⟨u, e, hu, h1, _⟩
  · exact e
  · exact absurd ((h.mem u).2 ⟨u, rfl, hu, h1⟩) (by simp)
theorem SlS.pos {C : Cr} {h : Int} {S : List Int} (hs : SlS C (h :: S)) (hn : (thAt C h.toNat).on ≤ C.now) : firstK C C.th.length = h := by
  obtain ⟨k, rfl, hk, h1⟩ := (hs.mem h).1 (by simp)
  rw [Int.toNat_natCast] at hn
  obtain ⟨u, e, hu⟩ := firstK_min C k h1 hn _ hk
  rcases firstK_at C C.th.length with e' | ⟨u', e', hu', h1', _⟩
  · rw [e'] at e; exact absurd e (by omega)
  · rw [e'] at e
    obtain rfl : u' = u := by omega
    rw [e']
    by_cases hku : u' = k
    · rw [hku]
    · have hm := (hs.mem u').2 ⟨u', rfl, hu', h1'⟩
      rw [List.mem_cons] at hm
      rcases hm with hm | hm
      · omega
      · have hr := List.rel_of_pairwise_cons hs.srt hm
        unfold SlR at hr
        rw [Int.toNat_natCast, Int.toNat_natCast] at hr
        omega
theorem SlS.le {C : Cr} {h : Int} {S : List Int} (hs : SlS C (h :: S)) {v : Int} (hv : v ∈ h :: S) : (thAt C h.toNat).on ≤ (thAt C v.toNat).on := by
  rw [List.mem_cons] at hv
  rcases hv with rfl | hv
  · exact Int.le_refl _
  · have hr := List.rel_of_pairwise_cons hs.srt hv
    unfold SlR at hr
    omega
theorem SlS.neg {C : Cr} {h : Int} {S : List Int} (hs : SlS C (h :: S)) (hn : ¬ (thAt C h.toNat).on ≤ C.now) : firstK C C.th.length = -1 := by
  rcases firstK_at C C.th.length with e | ⟨u, e, hu, h1, h2⟩
  · exact e
  · have := hs.le ((hs.mem u).2 ⟨u, rfl, hu, h1⟩)
    rw [Int.toNat_natCast] at this
    omega
theorem SlS.tail {C : Cr} {h : Int} {S : List Int} (hs : SlS C (h :: S)) : SlS (upTh C h.toNat) S := by
  obtain ⟨k, rfl, hk, h1⟩ := (hs.mem h).1 (by simp)
  rw [Int.toNat_natCast]
  have hne : ∀ v ∈ S, v ≠ (k : Int) := by
    rintro v hv rfl
    have hr := List.rel_of_pairwise_cons hs.srt hv
    unfold SlR at hr
    omega
  refine ⟨fun v => ⟨fun hv => ?_, fun hv => ?_⟩, ?_⟩
  · obtain ⟨j, rfl, hj, hj1⟩ := (hs.mem v).1 (by simp [hv])
    refine ⟨j, rfl, ?_, ?_⟩
    · show j < (putT C k _).th.length
      rw [putT_len]; exact hj
    · show (thAt (putT C k _) j).st = 1
      rw [thAt_ne (by have := hne _ hv; omega)]; exact hj1
  · obtain ⟨j, rfl, hj, hj1⟩ := hv
    have hj' : j < (putT C k { thAt C k with st := 0, on := 0 }).th.length := hj
    rw [putT_len] at hj'
    have hjk : j ≠ k := by
      rintro rfl
      have hz : (thAt (putT C j { thAt C j with st := 0, on := 0 }) j).st = 1 := hj1
      rw [thAt_eq hk] at hz
      have : (0 : Int) = 1 := hz
      omega
    have hj1' : (thAt (putT C k { thAt C k with st := 0, on := 0 }) j).st = 1 := hj1
    rw [thAt_ne hjk] at hj1'
    have := (hs.mem (j : Int)).2 ⟨j, rfl, hj', hj1'⟩
    rw [List.mem_cons] at this
    rcases this with h | h
    · omega
    · exact h
  · have hp := (List.pairwise_cons.1 hs.srt).2
    refine List.Pairwise.imp_of_mem ?_ hp
    intro a b ha hb hr
    obtain ⟨a', rfl, _, _⟩ := (hs.mem a).1 (by simp [ha])
    obtain ⟨b', rfl, _, _⟩ := (hs.mem b).1 (by simp [hb])
    have ea : thAt (upTh C k) a' = thAt C a' := thAt_ne (by have := hne _ ha; omega)
    have eb : thAt (upTh C k) b' = thAt C b' := thAt_ne (by have := hne _ hb; omega)
    unfold SlR at hr ⊢
    rw [Int.toNat_natCast, Int.toNat_natCast] at hr ⊢
    rw [ea, eb]
    exact hr
theorem SlS.len {C : Cr} : ∀ {S : List Int}, SlS C S → S.length = ns C := by
  intro S
  induction S generalizing C with
  | nil =>
    intro h
    have : ¬ 0 < ns C := by
      intro h0
      obtain ⟨f, hf, hp⟩ := List.countP_pos_iff.1 h0
      obtain ⟨k, hk, rfl⟩ := List.getElem_of_mem hf
      exact absurd ((h.mem k).2 ⟨k, rfl, hk, by rw [thAt_lt hk]; exact of_decide_eq_true hp⟩) (by simp)
    show 0 = ns C
    omega
  | cons v S ih =>
    intro h
    obtain ⟨k, e, hk, h1⟩ := (h.mem v).1 (by simp)
    have := ih h.tail
    rw [e, Int.toNat_natCast] at this
    have h2 := ns_up hk h1
    rw [List.length_cons]
    omega
/-- One that sleeps is put in its place. -/
theorem SlS.ins {C : Cr} {A B : List Int} {x : Int} (hs : (A ++ B).Pairwise (SlR C)) (hB : ∀ b ∈ B, (thAt C x.toNat).on < (thAt C b.toNat).on) (hA : ∀ a, A.getLast? = some a → ¬ (thAt C x.toNat).on < (thAt C a.toNat).on) (hx : ∀ a ∈ A, a < x) : (A ++ x :: B).Pairwise (SlR C) := by
  rw [List.pairwise_append] at hs ⊢
  obtain ⟨h1, h2, h3⟩ := hs
  have hAl : ∀ a ∈ A, (thAt C a.toNat).on ≤ (thAt C x.toNat).on := by
    intro a ha
    rcases List.eq_nil_or_concat A with rfl | ⟨A', z, rfl⟩
    · cases ha
    · have hz := hA z (by simp)
      rw [List.concat_eq_append] at ha h1
      rw [List.mem_append, List.mem_singleton] at ha
      rcases ha with ha | rfl
      · have := (List.pairwise_append.1 h1).2.2 a ha z (by simp)
        unfold SlR at this
        omega
      · omega
  refine ⟨h1, List.pairwise_cons.2 ⟨fun b hb => .inl (hB b hb), h2⟩, fun a ha b hb => ?_⟩
  rw [List.mem_cons] at hb
  rcases hb with rfl | hb
  · have := hAl a ha
    have := hx a ha
    unfold SlR
    omega
  · exact h3 a ha b hb
end Go.Proofs.YtkceciebmkklpaaGreat.V
end
section
namespace Go.Proofs.YtkceciebmkklpaaGreat.V
open Go Go.Proofs
set_option maxRecDepth 100000
set_option maxHeartbeats 4000000
theorem ins_ex (C : Cr) (x : Int) : ∀ (n : Nat) (S : List Int), S.length = n → ∃ A B, S = A ++ B ∧ (∀ b ∈ B, (thAt C x.toNat).on < (thAt C b.toNat).on) ∧ (∀ a, A.getLast? = some a → ¬ (thAt C x.toNat).on < (thAt C a.toNat).on)
  | 0, S, h => ⟨[], [], by rw [List.length_eq_zero_iff.1 h]; rfl, by simp, by simp⟩
  | n + 1, S, h => by
    rcases List.eq_nil_or_concat S with rfl | ⟨S', z, rfl⟩
    · simp at h
    · rw [List.concat_eq_append] at h ⊢
      by_cases hz : (thAt C x.toNat).on < (thAt C z.toNat).on
      · obtain ⟨A, B, e, h1, h2⟩ := ins_ex C x n S' (by rw [List.length_append, List.length_singleton] at h; omega)
        refine ⟨A, B ++ [z], by rw [e, List.append_assoc], fun b hb => ?_, h2⟩
        rw [List.mem_append, List.mem_singleton] at hb
        rcases hb with hb | rfl
        · exact h1 b hb
        · exact hz
      · refine ⟨S' ++ [z], [], by rw [List.append_nil], by simp, fun a ha => ?_⟩
        rw [List.getLast?_concat] at ha
        cases ha
        exact hz
theorem sls_exK (C : Cr) : ∀ k : Nat, k ≤ C.th.length → ∃ S : List Int, (∀ v, v ∈ S ↔ ∃ j : Nat, v = j ∧ j < k ∧ (thAt C j).st = 1) ∧ S.Pairwise (SlR C)
  | 0, _ => ⟨[], fun v => ⟨fun h => (by cases h), fun ⟨j, _, h, _⟩ => absurd h (by omega)⟩, .nil⟩
  | k + 1, hk => by
    obtain ⟨S, h1, h2⟩ := sls_exK C k (by omega)
    by_cases hs : (thAt C k).st = 1
    · obtain ⟨A, B, e, hB, hA⟩ := ins_ex C (k : Int) S.length S rfl
      subst e
      refine ⟨A ++ (k : Int) :: B, fun v => ?_, SlS.ins h2 hB hA (fun a ha => ?_)⟩
      · have hm := h1 v
        rw [List.mem_append] at hm
        rw [List.mem_append, List.mem_cons]
        constructor
        · rintro (h | h | h)
          · obtain ⟨j, e1, e2, e3⟩ := hm.1 (.inl h)
            exact ⟨j, e1, by omega, e3⟩
          · exact ⟨k, h, by omega, hs⟩
          · obtain ⟨j, e1, e2, e3⟩ := hm.1 (.inr h)
            exact ⟨j, e1, by omega, e3⟩
        · rintro ⟨j, e1, e2, e3⟩
          by_cases hjk : j = k
          · exact .inr (.inl (by rw [e1, hjk]))
          · rcases hm.2 ⟨j, e1, by omega, e3⟩ with h | h
            · exact .inl h
            · exact .inr (.inr h)
      · obtain ⟨j, e1, e2, e3⟩ := (h1 a).1 (List.mem_append.2 (.inl ha))
        omega
    · refine ⟨S, fun v => ⟨fun hv => ?_, fun ⟨j, e1, e2, e3⟩ => ?_⟩, h2⟩
      · obtain ⟨j, e1, e2, e3⟩ := (h1 v).1 hv
        exact ⟨j, e1, by omega, e3⟩
      · have : j ≠ k := by rintro rfl; exact hs e3
        exact (h1 v).2 ⟨j, e1, by omega, e3⟩
theorem sls_ex (C : Cr) : ∃ S, SlS C S := by
  obtain ⟨S, h1, h2⟩ := sls_exK C C.th.length (Nat.le_refl _)
  exact ⟨S, h1, h2⟩
end Go.Proofs.YtkceciebmkklpaaGreat.V
end
section
namespace Go.Proofs.YtkceciebmkklpaaGreat.V
open Go Go.Proofs
set_option maxRecDepth 100000
set_option maxHeartbeats 4000000
/-! Who sleeps, sleeps on. -/
def SlM (x y : Xs) : Prop := y.C.now = x.C.now ∧ ∀ k, (thAt y.C k).st = 1 → thAt y.C k = thAt x.C k ∨ x.C.now < (thAt y.C k).on
theorem SlM.trans {x y z : Xs} (h : SlM x y) (h2 : SlM y z) : SlM x z := ⟨h2.1.trans h.1, fun k hk => by
  rcases h2.2 k hk with e | e
  · rw [e] at hk
    rcases h.2 k hk with e2 | e2
    · exact .inl (e.trans e2)
    · exact .inr (by rw [e]; exact e2)
  · exact .inr (by rw [← h.1]; exact e)⟩
end Go.Proofs.YtkceciebmkklpaaGreat.V
end
section
namespace Go.Proofs.YtkceciebmkklpaaGreat.V
open Go Go.Proofs
set_option maxRecDepth 100000
set_option maxHeartbeats 40000000
theorem new96 (p : Pg) (f : Nat) (u : Fu) (hu : p.fu[f]? = some u) (h0 : 0 ≤ u.loc ∧ u.loc ≤ 100) : Spec Tryz.prog 62 [pgD p, .int .i64 f] [] (fun d os' => d = thD ⟨0, 0, [⟨f, 0, List.replicate u.loc.toNat 0⟩], [], 0⟩ ∧ os' = []) := by
  refine Spec.frz (post' := fun d => d = thD ⟨0, 0, [⟨f, 0, List.replicate u.loc.toNat 0⟩], [], 0⟩) ?_
  refine Spec.by Tryz.func62 rfl (by decide) (by decide +kernel) rfl ?_
  (refine goA ?_)
  refine Call.mk ((frame111f p f u hu h0).only _ rfl (by rintro d rfl; rfl)) ?_; rintro d os' ⟨rfl, rfl⟩
  (refine goA ?_)
  refine App.only false rfl rfl ?_
  (refine goA ?_)
  refine Ret.mk [.cell 4 42] rfl ?_; (refine goA ?_)
  exact ⟨thD ⟨0, 0, [⟨f, 0, List.replicate u.loc.toNat 0⟩], [], 0⟩, View.agg (.cons (.same _) (.cons (.same _) (.cons (.same _) (.cons (.nils _ _) (.same _))))), rfl, rfl⟩
/-- A program of one function, and its thread. -/
@[reducible] def vmP (l : List (Int × Int)) : Pg := ⟨[⟨0, l⟩], 0, [], [], [], [], 1⟩
def t0 : Th := ⟨0, 0, [⟨0, 0, []⟩], [], 0⟩
theorem vm_good {l : List (Int × Int)} (h : l.length ≤ 24) (hl : ∀ x ∈ l, inOk 1 (vmP l) 0 l.length x) : GoodP (vmP l) := by
  refine ⟨⟨by simp, by simp, by simp, by simp, by simp, by simp⟩, ?_, by simp, by simp, by simp, by simp, by simp⟩
  intro f hf
  simp only [vmP, List.mem_singleton] at hf
  subst hf
  exact ⟨⟨by show (0 : Int) ≤ 0; omega, by show (0 : Int) ≤ 3; omega⟩, h, hl⟩
@[reducible] def vmR (l : List (Int × Int)) : D := .agg [.lst 2 false [.agg [.int .i64 0, .lst 2 false (l.map inD)]], .int .i64 0, .nils, .nils, .nils, .nils, .int .i64 1]
theorem vmV (F : Nat → Bool) (os : Objs) (l : List (Int × Int)) : View F os (vmR l) (pgD (vmP l)) :=
  View.agg (.cons (.same _) (.cons (.same _) (.cons (.nils _ _) (.cons (.nils _ _) (.cons (.nils _ _) (.cons (.nils _ _) (.same _)))))))
end Go.Proofs.YtkceciebmkklpaaGreat.V
end
section
namespace Go.Proofs.YtkceciebmkklpaaGreat.V
open Go Go.Proofs
set_option maxRecDepth 100000
set_option maxHeartbeats 40000000
/-- Rows of nothing. -/
@[reducible] def emp (n : Nat) : List (List Int) := List.replicate n []
@[reducible] def chVn (n : Nat) : D := .agg [.int .i64 0, .nils, .nils, .nils, lists (emp n), .nils, .nils, .nils, lists (emp n), lists (emp n)]
theorem new61 (n : Nat) (h : n ≤ 1000) : Spec Tryz.prog 61 [.int .i64 n] [] (fun d os' => d = chVn n ∧ os' = []) := by
  refine Spec.frz (post' := fun d => d = chVn n) ?_
  refine Spec.by Tryz.func61 rfl (by decide) (by decide +kernel) rfl ?_
  (refine goA ?_)
  repeat (refine erC ?_)
  (refine goA ?_)
  refine Ret.mk [.cell 2 30] rfl ?_; (refine goA ?_)
  exact ⟨_, View.agg (.cons (.same _) (.cons (.same _) (.cons (.same _) (.cons (.same _) (.cons (View.slAll (f := false) rfl rfl (List.length_replicate ..) (by simp) (nilsV n) (pureL_rows _)) (.cons (.same _) (.cons (.same _) (.cons (.same _) (.cons (View.slAll (f := false) rfl rfl (List.length_replicate ..) (by simp) (nilsV n) (pureL_rows _)) (.cons (View.slAll (f := false) rfl rfl (List.length_replicate ..) (by simp) (nilsV n) (pureL_rows _)) .nil)))))))))), rfl, rfl⟩
def newC (g : Pg) : Cr := ⟨0, [newT g 0], newS g.mu.toNat g.co.length g.se, emp g.ch.length, emp g.ch.length, emp g.ch.length⟩
theorem new18 {g : Pg} (hg : GoodP g) : Spec Tryz.prog 18 [pgD g] [] (fun d os' => d = coreV (newC g) ∧ os' = []) := by
  have hmu := hg.sz.mu
  have hco := hg.sz.co
  have hse := hg.sz.se
  have hch := hg.sz.ch
  have hfu := hg.sz.fu
  have h60 := new169 g.mu.toNat (g.co.map (D.int .i64)).length g.se (by omega) (by rw [List.length_map]; omega) (by omega)
  have h61 := new61 (g.ch.map (D.int .i64)).length (by rw [List.length_map]; omega)
  rw [show ((g.mu.toNat : Nat) : Int) = g.mu from by omega] at h60
  obtain ⟨u, hu⟩ : ∃ u, g.fu[0]? = some u := ⟨_, List.getElem?_eq_getElem (by omega)⟩
  have hgu := hg.fu u (List.mem_of_getElem? hu)
  have h62 := new96 g 0 u hu (by omega)
  have e := (newT_okT g 0 u hu hgu.1).1
  rw [← e] at h62
  refine Spec.frz (post' := fun d => d = coreV (newC g)) ?_
  refine Spec.by Tryz.func18 rfl (by decide) (by decide +kernel) rfl ?_
  (refine goA ?_)
  refine Call.mk ((h60).only _ rfl (by rintro d rfl; rfl)) ?_; rintro d os' ⟨rfl, rfl⟩
  (refine goA ?_)
  refine Call.mk ((h61).only _ rfl (by rintro d rfl; rfl)) ?_; rintro d os' ⟨rfl, rfl⟩
  (refine goA ?_)
  refine Call.mk ((h62).only _ rfl (by rintro d rfl; rfl)) ?_; rintro d os' ⟨rfl, rfl⟩
  (refine goA ?_)
  refine App.only false rfl rfl ?_
  (refine goA ?_)
  refine Ret.mk [.cell 2 30] rfl ?_; (refine goA ?_)
  refine ⟨_, .same _, rfl, ?_⟩
  rw [List.length_map, List.length_map]
  rfl
end Go.Proofs.YtkceciebmkklpaaGreat.V
end
section
namespace Go.Proofs.YtkceciebmkklpaaGreat.V
open Go Go.Proofs
set_option maxRecDepth 100000
set_option maxHeartbeats 40000000
/-- Who is not told of: the thread itself, and who is not Ready. -/
def outW (t : Nat) (C : Cr) (v : Int) : Bool := decide (v = t) || !decide ((thAt C v.toNat).st = 0)
@[reducible] def tsD (g : Pg) (t : Nat) (y : Xs) : D := .agg [.lst 2 false (g.fu.map fuD), .int .i64 g.mu, ints g.co, ints g.se, ints g.ch, .lst 1 false (g.cs.map ints), .int .i64 g.th, .int .i64 y.C.now, .sl 9 0 5 0 y.C.th.length none, .sl 3 0 1 0 g.mu.toNat none, .sl 4 0 1 0 g.se.length none, .sl 10 0 1 0 y.C.bu.length none, .sl 5 0 1 0 g.mu.toNat none, .sl 6 0 1 0 g.co.length none, .sl 7 0 1 0 g.se.length none, .sl 11 0 1 0 y.C.sq.length none, .sl 12 0 1 0 y.C.rq.length none, .int .i64 t, .sl 13 0 3 0 y.ev.length none, .sl 0 0 1 0 y.wp.length none]
/-- What the test at a step's end looks at, behind the row of whom was woken. -/
@[reducible] def tsO (g : Pg) (t : Nat) (y : Xs) : Objs := one (.row 3 1 false [.int .i64 t]) :: one (.row 103 1 false [.ptr 8 0 20 0 0]) :: rowI y.C.L.ow :: rowI y.C.L.co :: rowC y.C.L.lk :: rowC y.C.L.wq :: rowC y.C.L.dq :: one (.row 105 20 false [tsD g t y]) :: rowT y.C.th :: rowC y.C.bu :: rowC y.C.sq :: rowC y.C.rq :: [rowE y.ev]
theorem is66 (g : Pg) (t : Nat) (y : Xs) (v : Int) (h0 : 0 ≤ v) (hv : v.toNat < y.C.th.length) (W : List Int) : Spec Tryz.prog 66 [.int .i64 v, .ptr 1 0 1 0 0, .ptr 2 0 1 0 0] (rowI W :: tsO g t y) (fun d os' => d = .bool (outW t y.C v) ∧ os' = rowI W :: tsO g t y) := by
  have hm : (y.C.th.map thD).length = y.C.th.length := List.length_map ..
  have hg := th_at hv
  unfold outW
  by_cases h : v = (t : Int)
  · rw [decide_eq_true h]
    refine Spec.by Tryz.func66 rfl (by decide) (by decide +kernel) rfl ?_
    (refine goA ?_)
    exact Ret.mk [.tmp _] rfl ⟨rfl, rfl⟩
  · rw [decide_eq_false h]
    refine Spec.by Tryz.func66 rfl (by decide) (by decide +kernel) rfl ?_
    (refine goA ?_)
    refine Opt.of hg ?_
    (refine goA ?_)
    exact Ret.mk [.tmp _] rfl ⟨rfl, rfl⟩
theorem step22e {g : Pg} {C : Cr} (hl : C.th.length ≤ 100) (t : Int) : (t < 0 ∨ (C.th.length : Int) ≤ t → Spec Tryz.prog 22 [pgD g, coreV C, .int .i64 t] [] (fun d os' => d = .tup [coreV C, evs [], ints [], .int .i64 1] ∧ os' = [])) ∧
    (¬ t < 0 → ¬ (C.th.length : Int) ≤ t → ¬ (thAt C t.toNat).st = 0 → Spec Tryz.prog 22 [pgD g, coreV C, .int .i64 t] [] (fun d os' => d = .tup [coreV C, evs [], ints [], .int .i64 10] ∧ os' = [])) := by
  have hm : (C.th.map thD).length = C.th.length := List.length_map ..
  refine ⟨fun h => ?_, fun h1 h2 h3 => ?_⟩
  · refine Spec.frz (post' := fun d => d = .tup [coreV C, evs [], ints [], .int .i64 1]) ?_
    refine Spec.by Tryz.func22 rfl (by decide) (by decide +kernel) rfl ?_
    (refine goA ?_)
    refine Br.dec (fun h1 => ?_) (fun h1 => ?_)
    · (refine goA ?_)
      refine Ret.mk [.cell 6 30, .tmp 7, .tmp 8, .tmp 9] rfl ?_; (refine goA ?_)
      exact ⟨_, View.tup (.cons (.same _) (.cons (View.nils _ _) (.cons (View.nils _ _) (.cons (.same _) .nil)))), rfl, rfl⟩
    · (refine goA ?_)
      refine Ret.mk [.cell 6 30, .tmp 7, .tmp 8, .tmp 9] rfl ?_; (refine goA ?_)
      exact ⟨_, View.tup (.cons (.same _) (.cons (View.nils _ _) (.cons (View.nils _ _) (.cons (.same _) .nil)))), rfl, rfl⟩
  · have hg := th_at (C := C) (t := t.toNat) (by omega)
    rw [Nat.zero_add] at hg
    refine Spec.frz (post' := fun d => d = .tup [coreV C, evs [], ints [], .int .i64 10]) ?_
    refine Spec.by Tryz.func22 rfl (by decide) (by decide +kernel) rfl ?_
    (refine goA ?_)
    refine Opt.of hg ?_
    (refine goA ?_)
    refine Ret.mk [.cell 6 30, .tmp 7, .tmp 8, .tmp 9] rfl ?_; (refine goA ?_)
    exact ⟨_, View.tup (.cons (.same _) (.cons (View.nils _ _) (.cons (View.nils _ _) (.cons (.same _) .nil)))), rfl, rfl⟩
@[reducible] def plS (g : Pg) (t : Nat) (C : Cr) (sn wk : D) : D := .agg [.lst 2 false (g.fu.map fuD), .int .i64 g.mu, ints g.co, ints g.se, ints g.ch, .lst 1 false (g.cs.map ints), .int .i64 g.th, .int .i64 C.now, .sl 6 0 5 0 C.th.length none, .sl 7 0 1 0 g.mu.toNat none, .sl 8 0 1 0 g.se.length none, .sl 10 0 1 0 C.bu.length none, .sl 11 0 1 0 g.mu.toNat none, .sl 12 0 1 0 g.co.length none, .sl 13 0 1 0 g.se.length none, .sl 14 0 1 0 C.sq.length none, .sl 15 0 1 0 C.rq.length none, .int .i64 t, sn, wk]
/-- All that a step has made: of the state C0, the state under way C. -/
@[reducible] def stO (g : Pg) (t : Nat) (C0 C : Cr) (sn wk : D) (r : Objs) : Objs := one (.row 26 7 false [pgD g]) :: one (.row 30 10 false [coreV C0]) :: one (.row 3 1 false [.int .i64 t]) :: one (.row 30 10 false [z30]) :: one .gone :: one .gone :: rowT C.th :: rowI C.L.ow :: rowI C.L.co :: one .gone :: rowC C.bu :: rowC C.L.lk :: rowC C.L.wq :: rowC C.L.dq :: rowC C.sq :: rowC C.rq :: one (.row 105 20 false [plS g t C sn wk]) :: one (.row 103 1 false [.ptr 16 0 20 0 0]) :: r
theorem stO_put {g : Pg} {t : Nat} {C0 C : Cr} {sn wk : D} {r : Objs} {f : Th} : (stO g t C0 C sn wk r).put 6 0 (.row 42 5 true ((C.th.map thD).set (0 + t) (thD f))) = stO g t C0 (putT C t f) sn wk r := by
  rw [th_put]
  have e : plS g t C sn wk = plS g t (putT C t f) sn wk := by
    show D.agg _ = D.agg _
    simp [putT]
  show [_, _, _, _, _, _, _, _, _, _, _, _, _, _, _, _, one (.row 105 20 false [plS g t C sn wk]), _] ++ r = _
  rw [e]
  rfl
theorem nil_sn {g : Pg} {t n : Nat} {C : Cr} : NilL n [plS g t C .nils .nils] [plS g t C (.sl n 0 3 0 0 none) .nils] :=
  .cons (.agg (.cons (.same _ _) (.cons (.same _ _) (.cons (.same _ _) (.cons (.same _ _) (.cons (.same _ _) (.cons (.same _ _) (.cons (.same _ _) (.cons (.same _ _) (.cons (.same _ _) (.cons (.same _ _) (.cons (.same _ _) (.cons (.same _ _) (.cons (.same _ _) (.cons (.same _ _) (.cons (.same _ _) (.cons (.same _ _) (.cons (.same _ _) (.cons (.same _ _) (.cons (.nils _ _) (.same _ _))))))))))))))))))))) (.same _ _)
theorem nil_wk {g : Pg} {t n : Nat} {C : Cr} {sn : D} : NilL n [plS g t C sn .nils] [plS g t C sn (.sl n 0 1 0 0 none)] :=
  .cons (.agg (.cons (.same _ _) (.cons (.same _ _) (.cons (.same _ _) (.cons (.same _ _) (.cons (.same _ _) (.cons (.same _ _) (.cons (.same _ _) (.cons (.same _ _) (.cons (.same _ _) (.cons (.same _ _) (.cons (.same _ _) (.cons (.same _ _) (.cons (.same _ _) (.cons (.same _ _) (.cons (.same _ _) (.cons (.same _ _) (.cons (.same _ _) (.cons (.same _ _) (.cons (.same _ _) (.cons (.nils _ _) (.same _ _)))))))))))))))))))))) (.same _ _)
@[reducible] def plF (g : Pg) (t : Nat) (y : Xs) : D := .agg [.lst 2 false (g.fu.map fuD), .int .i64 g.mu, ints g.co, ints g.se, ints g.ch, .lst 1 false (g.cs.map ints), .int .i64 g.th, .int .i64 y.C.now, .sl 23 0 5 0 y.C.th.length none, .sl 7 0 1 0 g.mu.toNat none, .sl 8 0 1 0 g.se.length none, .sl 10 0 1 0 y.C.bu.length none, .sl 11 0 1 0 g.mu.toNat none, .sl 12 0 1 0 g.co.length none, .sl 13 0 1 0 g.se.length none, .sl 14 0 1 0 y.C.sq.length none, .sl 15 0 1 0 y.C.rq.length none, .int .i64 t, .sl 24 0 3 0 y.ev.length none, .sl 25 0 1 0 y.wp.length none]
/-- The same, the row of whom was woken being W. -/
@[reducible] def stW (g : Pg) (t : Nat) (C0 : Cr) (y : Xs) (f : Th) (q : Rq) (W : List Int) : Objs := one (.row 26 7 false [pgD g]) :: one (.row 30 10 false [coreV C0]) :: one (.row 3 1 false [.int .i64 t]) :: one (.row 30 10 false [z30]) :: one .gone :: one .gone :: one .gone :: rowI y.C.L.ow :: rowI y.C.L.co :: one .gone :: rowC y.C.bu :: rowC y.C.L.lk :: rowC y.C.L.wq :: rowC y.C.L.dq :: rowC y.C.sq :: rowC y.C.rq :: one (.row 105 20 false [plF g t y]) :: one (.row 103 1 false [.ptr 16 0 20 0 0]) :: one (.row 42 5 false [thD f]) :: one (.row 107 3 false [rqD q]) :: one .gone :: one .gone :: one (.map meetsM) :: rowT y.C.th :: rowE y.ev :: [rowI W]
/-- Behind the request. -/
@[reducible] def stF (g : Pg) (t : Nat) (C0 : Cr) (y : Xs) (f : Th) (q : Rq) : Objs := stW g t C0 y f q y.wp
theorem del_st {g : Pg} {t : Nat} {C0 : Cr} {y : Xs} {f : Th} {q : Rq} (hwl : y.wp.length ≤ 1000000) (hwp : ∀ v ∈ y.wp, 0 ≤ v ∧ v.toNat < y.C.th.length) : Spec Tryz.prog 67 [.sl 25 0 1 0 y.wp.length none, .fn (.func 66) [] [.ptr 2 0 1 0 0, .ptr 17 0 1 0 0]] (stF g t C0 y f q) (fun d os' => d = .sl 25 0 1 0 (delL (outW t y.C) y.wp).length none ∧ os' = stW g t C0 y f q (delL (outW t y.C) y.wp ++ zeros (y.wp.length - (delL (outW t y.C) y.wp).length))) := by
  have hdel := del67 (g := 66) (a := []) (b := [.ptr 1 0 1 0 0, .ptr 2 0 1 0 0]) (q := outW t y.C) (l := y.wp) (r := tsO g t y) (fun W v hv => is66 g t y v (hwp v hv).1 (hwp v hv).2 W) hwl
  refine (hdel.frame (stF g t C0 y f q) [(25, 0), (2, 0), (17, 0), (7, 0), (8, 0), (11, 0), (12, 0), (13, 0), (16, 0), (23, 0), (10, 0), (14, 0), (15, 0), (24, 0)] rfl (by decide) (allQ_get0 (Q := fun k p => _) ⟨⟨Nat.le_of_ble_eq_true rfl, rfl, rfl, fun j hj => one_pos _ hj⟩, ⟨Nat.le_of_ble_eq_true rfl, rfl, rfl, fun j hj => one_pos _ hj⟩, ⟨Nat.le_of_ble_eq_true rfl, rfl, rfl, fun j hj => one_pos _ hj⟩, ⟨Nat.le_of_ble_eq_true rfl, rfl, rfl, fun j hj => one_pos _ hj⟩, ⟨Nat.le_of_ble_eq_true rfl, rfl, rfl, fun j hj => one_pos _ hj⟩, ⟨Nat.le_of_ble_eq_true rfl, rfl, rfl, fun j hj => one_pos _ hj⟩, ⟨Nat.le_of_ble_eq_true rfl, rfl, rfl, fun j hj => one_pos _ hj⟩, ⟨Nat.le_of_ble_eq_true rfl, rfl, rfl, fun j hj => one_pos _ hj⟩, ⟨Nat.le_of_ble_eq_true rfl, rfl, rfl, fun j hj => one_pos _ hj⟩, ⟨Nat.le_of_ble_eq_true rfl, rfl, rfl, fun j hj => one_pos _ hj⟩, ⟨Nat.le_of_ble_eq_true rfl, rfl, rfl, fun j hj => one_pos _ hj⟩, ⟨Nat.le_of_ble_eq_true rfl, rfl, rfl, fun j hj => one_pos _ hj⟩, ⟨Nat.le_of_ble_eq_true rfl, rfl, rfl, fun j hj => one_pos _ hj⟩, ⟨Nat.le_of_ble_eq_true rfl, rfl, rfl, fun j hj => one_pos _ hj⟩, trivial⟩) rfl).mono ?_
  rintro d os' ⟨d1, os1, ⟨rfl, rfl⟩, rfl, rfl⟩
  exact ⟨rfl, rfl⟩
theorem step22a {g : Pg} (hgp : GoodP g) {C : Cr} (hz : LkZ g.mu.toNat g.co.length g.se.length C.L) (hb : ClB C) {t : Nat} (ht : t < C.th.length) (h0 : (thAt C t).st = 0) (hgt : GoodT g (thAt C t)) (hm0 : MI g t (begX g C t)) (hq : RqOk g (stepT g (thAt C t)).2) (hk : (stepT g (thAt C t)).2.kd ≠ 1 → (thAt (begX g C t).C t).st = 0)
    (hyz : LkZ g.mu.toNat g.co.length g.se.length (meetX g (begX g C t) t (stepT g (thAt C t)).2).C.L) (hwl : (meetX g (begX g C t) t (stepT g (thAt C t)).2).wp.length ≤ 1000000)
    (hwp : ∀ v ∈ (meetX g (begX g C t) t (stepT g (thAt C t)).2).wp, 0 ≤ v ∧ v.toNat < (meetX g (begX g C t) t (stepT g (thAt C t)).2).C.th.length) :
    Spec Tryz.prog 22 [pgD g, coreV C, .int .i64 t] [] (fun d os' => d = .tup [coreV (meetX g (begX g C t) t (stepT g (thAt C t)).2).C, evs (meetX g (begX g C t) t (stepT g (thAt C t)).2).ev, ints (delL (outW t (meetX g (begX g C t) t (stepT g (thAt C t)).2).C) (meetX g (begX g C t) t (stepT g (thAt C t)).2).wp), .int .i64 0] ∧ os' = []) := by
  have hm : (C.th.map thD).length = C.th.length := List.length_map ..
  have hg0 := th_at ht
  have hg := hg0
  rw [Nat.zero_add] at hg
  have htl := hb.th
  have hcl := clone28 hb
  unfold clD slR at hcl
  rw [hz.ow, hz.co, hz.lk, hz.wq, hz.dq] at hcl
  have hs := step97 g hgp (thAt C t) hgt
  have hfn := meet_fn hgp hm0 hq hk
  obtain ⟨⟨f', q⟩, hT⟩ : ∃ r, stepT g (thAt C t) = r := ⟨_, rfl⟩
  unfold begX at hfn hwp hwl hyz ⊢
  rw [hT] at hs hfn hwp hwl hyz ⊢
  dsimp only at hs hfn hwp hwl hyz ⊢
  obtain ⟨C0, hx0C⟩ : ∃ C0, putT C t f' = C0 := ⟨_, rfl⟩
  rw [hx0C] at hfn hwp hwl hyz ⊢
  refine Spec.frz (post' := fun d => d = .tup [coreV (meetX g ⟨C0, [], [], []⟩ t q).C, evs (meetX g ⟨C0, [], [], []⟩ t q).ev, ints (delL (outW t (meetX g ⟨C0, [], [], []⟩ t q).C) (meetX g ⟨C0, [], [], []⟩ t q).wp), .int .i64 0]) ?_
  refine Spec.by Tryz.func22 rfl (by decide) (by decide +kernel) rfl ?_
  (refine goA ?_)
  refine Opt.of hg ?_
  (refine goA ?_)
  refine Call.mk (hcl.onto _ rfl) ?_
  rintro d os' ⟨d0, os0, ⟨rfl, rfl⟩, rfl, rfl⟩
  (refine goA ?_)
  refine Opt.of hg0 ?_
  (refine goA ?_)
  refine Call.mk ((hs).only _ rfl (by rintro d rfl; rfl)) ?_; rintro d os' ⟨rfl, rfl⟩
  (refine goA ?_)
  refine And.intro ?_ ?_
  · conv => whnf
    refine Opt.of hg0 ?_
    conv => whnf
  (refine goA ?_)
  refine And.intro ?_ ?_
  · conv => whnf
    refine Opt.of hg0 ?_
    conv => whnf
  (refine goR ?_)
  refine Pt.weak (Weak.on [(3, .ptr 0 0 7 0 0), (4, .ptr 1 0 10 0 0), (5, .ptr 2 0 1 0 0), (6, .ptr 3 0 10 0 0), (10, .ptr 17 0 1 0 0), (11, .ptr 18 0 5 0 0), (12, .ptr 19 0 3 0 0)] (stO g t C C .nils .nils [one (.row 42 5 false [thD f']), one (.row 107 3 false [rqD q])])) ?_
  (refine goA ?_)
  refine Opt.of hg0 ?_
  (refine goR ?_)
  refine Pt.weak (Weak.on [(3, .ptr 0 0 7 0 0), (4, .ptr 1 0 10 0 0), (5, .ptr 2 0 1 0 0), (6, .ptr 3 0 10 0 0), (10, .ptr 17 0 1 0 0), (11, .ptr 18 0 5 0 0), (12, .ptr 19 0 3 0 0)] ((stO g t C C .nils .nils [one (.row 42 5 false [thD f']), one (.row 107 3 false [rqD q])]).put 6 0 (.row 42 5 true ((C.th.map thD).set (0 + t) (thD f'))))) ?_
  rw [stO_put, hx0C]
  refine Pt.weak (Weak.nilO 16 20 rfl (ty := 105) (sz := 20) (es := [plS g t C0 .nils .nils]) rfl [plS g t C0 (.sl 20 0 3 0 0 none) .nils] rfl nil_sn 84 3 true) ?_
  refine Pt.weak (Weak.nilO 16 21 rfl (ty := 105) (sz := 20) (es := [plS g t C0 (.sl 20 0 3 0 0 none) .nils]) rfl [plS g t C0 (.sl 20 0 3 0 0 none) (.sl 21 0 1 0 0 none)] rfl nil_wk 3 1 true) ?_
  (refine goA ?_)
  refine Call.mk (meets65' _) ?_
  rintro d os' ⟨rfl, rfl⟩
  (refine goA ?_)
  apply cutG (A := Unit) (n0 := 0) (fun _ => [(5, .ptr 2 0 1 0 0), (6, .ptr 3 0 10 0 0), (10, .ptr 17 0 1 0 0)]) (fun _ => stF g t C (meetX g ⟨C0, [], [], []⟩ t q) f' q) (fun _ => True)
  · intro key
    refine Or.elim hfn ?_ ?_
    · rintro ⟨n, hl, hsp⟩
      refine Fnd.got hl ?_
      (refine goA ?_)
      refine Call.mk (hsp.frame _ [(7, 0), (8, 0), (11, 0), (12, 0), (13, 0), (16, 0), (6, 0), (10, 0), (14, 0), (15, 0), (20, 0), (21, 0)] rfl (by decide) (allQ_get0 (Q := fun k p => _) ⟨⟨Nat.le_of_ble_eq_true rfl, rfl, rfl, fun j hj => one_pos _ hj⟩, ⟨Nat.le_of_ble_eq_true rfl, rfl, rfl, fun j hj => one_pos _ hj⟩, ⟨Nat.le_of_ble_eq_true rfl, rfl, rfl, fun j hj => one_pos _ hj⟩, ⟨Nat.le_of_ble_eq_true rfl, rfl, rfl, fun j hj => one_pos _ hj⟩, ⟨Nat.le_of_ble_eq_true rfl, rfl, rfl, fun j hj => one_pos _ hj⟩, ⟨Nat.le_of_ble_eq_true rfl, rfl, rfl, fun j hj => one_pos _ hj⟩, ⟨Nat.le_of_ble_eq_true rfl, rfl, rfl, fun j hj => one_pos _ hj⟩, ⟨Nat.le_of_ble_eq_true rfl, rfl, rfl, fun j hj => one_pos _ hj⟩, ⟨Nat.le_of_ble_eq_true rfl, rfl, rfl, fun j hj => one_pos _ hj⟩, ⟨Nat.le_of_ble_eq_true rfl, rfl, rfl, fun j hj => one_pos _ hj⟩, ⟨Nat.le_of_ble_eq_true rfl, rfl, rfl, fun j hj => one_pos _ hj⟩, ⟨Nat.le_of_ble_eq_true rfl, rfl, rfl, fun j hj => one_pos _ hj⟩, trivial⟩) rfl) ?_
      rintro d os' ⟨d1, os1, ⟨rfl, rfl⟩, rfl, rfl⟩
      (refine goR ?_)
      refine Pt.weak (Weak.on [(5, .ptr 2 0 1 0 0), (6, .ptr 3 0 10 0 0), (10, .ptr 17 0 1 0 0)] (stF g t C (meetX g ⟨C0, [], [], []⟩ t q) f' q)) ?_
      exact key () trivial
    · rintro ⟨hkd, hl, hmx⟩
      have hst : stF g t C ⟨C0, [], [], []⟩ f' q = stF g t C (meetX g ⟨C0, [], [], []⟩ t q) f' q := by rw [hmx]
      refine Fnd.not hl ?_
      (refine goR ?_)
      ((with_reducible refine Pt.go ?_); conv => whnf)
      (refine goR ?_)
      refine Pt.weak (Weak.on [(5, .ptr 2 0 1 0 0), (6, .ptr 3 0 10 0 0), (10, .ptr 17 0 1 0 0)] (stO g t C C0 (.sl 20 0 3 0 0 none) (.sl 21 0 1 0 0 none) [one (.row 42 5 false [thD f']), one (.row 107 3 false [rqD q]), one (.row 84 3 true []), one (.row 3 1 true []), one (.map meetsM)])) ?_
      refine Pt.weak (Weak.trans Weak.gone (Weak.trans Weak.gone Weak.gone)) ?_
      refine Pt.weak (Weak.move 6 23 (by decide) (by simp) (Nat.le_of_ble_eq_true rfl) (Nat.le_of_ble_eq_true rfl) (fun j => by cases j <;> rfl) rfl rfl) ?_
      refine Pt.weak (Weak.move 20 24 (by decide) (by simp) (Nat.le_of_ble_eq_true rfl) (Nat.le_of_ble_eq_true rfl) (fun j => by cases j <;> rfl) rfl rfl) ?_
      refine Pt.weak (Weak.move 21 25 (by decide) (by simp) (Nat.le_of_ble_eq_true rfl) (Nat.le_of_ble_eq_true rfl) (fun j => by cases j <;> rfl) rfl rfl) ?_
      refine Pt.weak (Weak.on [(5, .ptr 2 0 1 0 0), (6, .ptr 3 0 10 0 0), (10, .ptr 17 0 1 0 0)] (stF g t C ⟨C0, [], [], []⟩ f' q)) ?_
      refine Pt.weak (Weak.objs hst) ?_
      exact key () trivial
  · intro _ _
    clear hfn hs hcl
    generalize meetX g ⟨C0, [], [], []⟩ t q = y at hwp hwl hyz ⊢
    have hwm : (y.wp.map (D.int .i64)).length = y.wp.length := List.length_map ..
    (refine goA ?_)
    have hdl := del_st (g := g) (t := t) (C0 := C) (f := f') (q := q) hwl hwp
    refine Call.mk hdl ?_
    rintro d os' ⟨rfl, rfl⟩
    (refine goA ?_)
    have hzz : ((delL (outW t y.C) y.wp ++ zeros (y.wp.length - (delL (outW t y.C) y.wp).length)).map (D.int .i64)).length = (delL (outW t y.C) y.wp).length + (y.wp.length - (delL (outW t y.C) y.wp).length) := by rw [List.length_map, List.length_append, zeros, List.length_replicate]
    refine Ret.mk [.cell 6 30, .tmp 7, .tmp 8, .tmp 9] rfl ?_; (refine goA ?_)
    exact ⟨_, View.tup (.cons (.agg (.cons (.same _) (.cons (View.slAll (f := false) rfl rfl (by simp) (by simp) (ViewL.same _) (pureTh _))
      (.cons (View.slAll (f := false) rfl rfl (by simp [hyz.ow]) (by simp) (ViewL.same _) (pureL_map (fun _ => rfl) _))
      (.cons (View.slAll (f := false) rfl rfl (by simp [hyz.co]) (by simp) (ViewL.same _) (pureL_map (fun _ => rfl) _))
      (.cons (View.slAll (f := false) rfl rfl (by simp) (by simp) (ViewL.same _) (pureL_rows _))
      (.cons (View.slAll (f := false) rfl rfl (by simp [hyz.lk]) (by simp) (ViewL.same _) (pureL_rows _))
      (.cons (View.slAll (f := false) rfl rfl (by simp [hyz.wq]) (by simp) (ViewL.same _) (pureL_rows _))
      (.cons (View.slAll (f := false) rfl rfl (by simp [hyz.dq]) (by simp) (ViewL.same _) (pureL_rows _))
      (.cons (View.slAll (f := false) rfl rfl (by simp) (by simp) (ViewL.same _) (pureL_rows _))
      (.cons (View.slAll (f := false) rfl rfl (by simp) (by simp) (ViewL.same _) (pureL_rows _)) .nil)))))))))))
      (.cons (View.slAll (f := false) rfl rfl (by simp) (by simp) (ViewL.same _) (pureL_map (fun _ => rfl) _))
      (.cons (View.sl (f := false) rfl rfl (by rw [hzz]; omega) (by simp) (take_front hzz) (pureL_map (fun _ => rfl) _))
      (.cons (.same _) .nil)))), rfl, rfl⟩
end Go.Proofs.YtkceciebmkklpaaGreat.V
end
section
namespace Go.Proofs.YtkceciebmkklpaaGreat.V
open Go Go.Proofs
set_option maxRecDepth 100000
set_option maxHeartbeats 4000000
theorem CI.clB {g : Pg} (hg : GoodP g) {C : Cr} (h : CI g C) : ClB C := by
  have h8 := g_th8 hg h.z
  have hs := hg.sz
  have hmu := hs.mu
  have hco := hs.co
  have hse := hs.se
  have hch := hs.ch
  have hL := h.z.L
  have h1 := hL.ow
  have h2 := hL.co
  have h3 := hL.lk
  have h4 := hL.wq
  have h5 := hL.dq
  have h6 := h.z.bu
  have h7 := h.z.sq
  have h9 := h.z.rq
  have htot := h.rk.tot (g_cs4 hg) h8
  have hm := sumL_evens C.sq
  have hR : ∀ (R : List (List Int)), sumL R ≤ 1000 → ∀ q ∈ R, q.length ≤ 1000 := fun R hR q hq => by have := sumL_mem hq; omega
  exact ⟨by omega, fun f hf => thI_ok hg (h.th f hf), by omega, by omega, ⟨by omega, fun q hq => by have := h.z.bc q hq; omega⟩, ⟨by omega, hR _ (by omega)⟩, ⟨by omega, hR _ (by omega)⟩, ⟨by omega, hR _ (by omega)⟩, ⟨by omega, hR _ (by omega)⟩, ⟨by omega, hR _ (by omega)⟩⟩
theorem wok_eq {t : Nat} {y : Xs} (h : WF t y) : delL (outW t y.C) y.wp = y.wk.filter (fun k => decide (k ≠ (t : Int)) && decide ((thAt y.C k.toNat).st = 0)) := by
  rw [h.wp]
  unfold delL
  rw [List.filter_filter]
  refine List.filter_congr (fun v hv => ?_)
  unfold outW rdyB
  by_cases h1 : v = (t : Int)
  · simp [h1]
  · by_cases h2 : (thAt y.C v.toNat).st = 0 <;> simp [h1, h2]
/-- A step of the program's. -/
theorem step22 {g : Pg} (hg : GoodP g) {C : Cr} (h : CI g C) (t : Int) : Spec Tryz.prog 22 [pgD g, coreV C, .int .i64 t] [] (fun d os' => d = .tup [coreV (stepC g C t).1, evs (stepC g C t).2.1, ints (stepC g C t).2.2.1, .int .i64 (stepC g C t).2.2.2] ∧ os' = []) := by
  have h8 := g_th8 hg h.z
  obtain ⟨e1, e2⟩ := step22e (g := g) (C := C) (by omega) t
  unfold stepC
  by_cases ht : t < 0 ∨ (C.th.length : Int) ≤ t
  · rw [if_pos ht]; exact e1 ht
  · rw [if_neg ht]
    by_cases h0 : (thAt C t.toNat).st = 0
    · rw [if_neg (fun h => h h0)]
      obtain ⟨u, rfl⟩ : ∃ u : Nat, t = (u : Int) := ⟨t.toNat, by omega⟩
      rw [Int.toNat_natCast] at h0 ⊢
      have hul : u < C.th.length := by omega
      obtain ⟨b1, b2, b3, b4⟩ := beg_all hg h hul h0
      have hq := rq_ok hg (thI_ready (h.at u) h0)
      have hwf := meet_wf hg b1 hq b2 b3
      have hs := step22a hg h.z.L (h.clB hg) hul h0 (thI_ready (h.at u) h0) b1 hq b2 b4.z.L (by have := b4.xb.wp; omega) (fun v hv => by
        rw [hwf.wp] at hv
        have := hwf.wk v (List.mem_filter.1 hv).1
        exact ⟨this.1, this.2.1⟩)
      rw [wok_eq hwf] at hs
      exact hs
    · rw [if_pos h0]; exact e2 (by omega) (by omega) h0
end Go.Proofs.YtkceciebmkklpaaGreat.V
end
section
namespace Go.Proofs.YtkceciebmkklpaaGreat.V
open Go Go.Proofs
set_option maxRecDepth 100000
set_option maxHeartbeats 40000000
theorem qAt_emp (n k : Nat) : qAt (emp n) k = [] := by
  unfold qAt emp
  rw [List.getD_eq_getElem?_getD, List.getElem?_replicate]
  split <;> rfl
theorem newC_ci {g : Pg} (hg : GoodP g) : CI g (newC g) := by
  have hfu := hg.sz.fu
  have hgt := newT_good hg (a := 0) (by omega)
  have hrow : ∀ r k, qAt (rws (newC g) r) k = [] := by
    intro r k
    rcases r with _ | _ | _ | _ | _
    · exact qAt_emp _ _
    · exact qAt_emp _ _
    · exact qAt_emp _ _
    · show qAt ((emp g.ch.length).map evens) k = []
      rw [qAt_evens, qAt_emp]; rfl
    · exact qAt_emp _ _
  have h0 : ∀ k, (thAt (newC g) k).st = 0 ∨ (thAt (newC g) k).st = 9 := by
    intro k
    rcases k with _ | k
    · exact .inl rfl
    · exact .inr rfl
  refine ⟨⟨Nat.le_refl _, hg.th.1, ⟨by show (0 : Int) ≤ 0; omega, by show (0 : Int) ≤ 1073741824; omega⟩, ⟨List.length_replicate .., rfl, List.length_replicate .., List.length_replicate .., List.length_replicate ..⟩, fun v hv => ?_, fun v hv => ?_, List.length_replicate .., List.length_replicate .., List.length_replicate .., fun q hq => ?_, fun q hq => ?_⟩, ⟨fun r k v hr hv => ?_, fun t ht => ?_⟩, fun f hf => ?_, fun k hk => ?_⟩
  · rw [List.eq_of_mem_replicate hv]; omega
  · have := hg.se v hv; omega
  · rw [List.eq_of_mem_replicate hq]; rfl
  · rw [List.eq_of_mem_replicate hq]; exact Nat.zero_le _
  · rw [hrow] at hv; cases hv
  · rw [if_neg (by simp)]
    have hn : need g (thAt (newC g) t) = 0 := need0 (by rcases h0 t with h | h <;> simp [h])
    rw [hn]
    have hz : ∀ r, cntL (rws (newC g) r) (t : Int) = 0 := fun r => by
      refine cntL_none (fun q hq hm => ?_)
      obtain ⟨k, rfl, _⟩ := qAt_of_mem hq
      rw [hrow] at hm; cases hm
    unfold V.cnt
    rw [hz, hz, hz, hz, hz]
  · have : f = newT g 0 := List.mem_singleton.1 hf
    rw [this]; exact thI_good hgt
  · rcases h0 k with h | h <;> omega
end Go.Proofs.YtkceciebmkklpaaGreat.V
end
section
namespace Go.Proofs.YtkceciebmkklpaaGreat.V
open Go Go.Proofs
set_option maxRecDepth 100000
set_option maxHeartbeats 40000000
def lvP : List (Int × Int) := [(0, 5), (25, 0), (26, 0)]
theorem lv_good : GoodP (vmP lvP) := by
  refine vm_good (by decide) ?_
  intro x hx
  simp only [lvP, List.mem_cons, List.not_mem_nil, or_false] at hx
  rcases hx with rfl | rfl | rfl <;> (unfold inOk; dsimp only; simp)
end Go.Proofs.YtkceciebmkklpaaGreat.V
end
section
namespace Go.Proofs.YtkceciebmkklpaaGreat.V
open Go Go.Proofs
set_option maxRecDepth 100000
set_option maxHeartbeats 40000000
/-- When nobody is Ready: until the first one is to be woken. -/
def atC (C : Cr) : Int := minS C.th 0 true (ofK C [1])
theorem minS_kept : ∀ (l : List Int) (L : List Th) (m : Int) (b : Bool), kept2 m → (∀ f ∈ L, kept2 f.on) → kept2 (minS L m b l)
  | [], L, m, b, hm, hL => hm
  | v :: l, L, m, b, hm, hL => by
    have ho : kept2 (onAt L v) := by
      unfold onAt
      rw [List.getD_eq_getElem?_getD]
      cases e : L[v.toNat]? with
      | none => exact ⟨by decide, by decide⟩
      | some f => exact hL f (List.mem_of_getElem? e)
    rw [minS]
    split
    · exact minS_kept l L _ _ ho hL
    · exact minS_kept l L _ _ hm hL
theorem thI_on {g : Pg} {f : Th} (h : ThI g f) : kept2 f.on := by
  rcases h with ⟨h1, _⟩ | h
  · rw [h1]; exact ⟨by show (-1073741824 : Int) ≤ 0; decide, by show (0 : Int) ≤ 1073741824; decide⟩
  · have := h.2.2.2.1
    exact ((keep_id f.on).1 this.symm)
theorem atC_kept {g : Pg} {C : Cr} (h : CI g C) : kept2 (atC C) := minS_kept _ _ _ _ ⟨by decide, by decide⟩ (fun f hf => thI_on (h.th f hf))
end Go.Proofs.YtkceciebmkklpaaGreat.V
end
section
namespace Go.Proofs.YtkceciebmkklpaaGreat.V
open Go Go.Proofs
set_option maxRecDepth 100000
set_option maxHeartbeats 4000000
theorem ns_le (C : Cr) : ns C ≤ C.th.length := List.countP_le_length
theorem minS_spec (T : List Th) : ∀ (l : List Int) (m : Int) (b : Bool), (∀ v ∈ l, minS T m b l ≤ onAt T v) ∧ (b = false → minS T m b l ≤ m) ∧ ((∃ v ∈ l, minS T m b l = onAt T v) ∨ (minS T m b l = m ∧ (b = true → l = [])))
  | [], m, b => ⟨fun v hv => by (cases hv), fun _ => Int.le_refl _, .inr ⟨rfl, fun _ => rfl⟩⟩
  | k :: l, m, b => by
    rw [minS]
    by_cases hc : b = true ∨ onAt T k < m
    · rw [if_pos hc]
      obtain ⟨h1, h2, h3⟩ := minS_spec T l (onAt T k) false
      have h2 := h2 rfl
      refine ⟨fun v hv => ?_, fun hb => ?_, ?_⟩
      · rcases List.mem_cons.1 hv with rfl | hv
        · exact h2
        · exact h1 v hv
      · rcases hc with hc | hc
        · rw [hb] at hc; cases hc
        · omega
      · rcases h3 with ⟨v, hv, e⟩ | ⟨e, _⟩
        · exact .inl ⟨v, List.mem_cons_of_mem _ hv, e⟩
        · exact .inl ⟨k, List.mem_cons_self, e⟩
    · rw [if_neg hc]
      have hb : b = false := by
        cases b with
        | true => exact absurd (.inl rfl) hc
        | false => rfl
      have hk : ¬ onAt T k < m := fun h => hc (.inr h)
      obtain ⟨h1, h2, h3⟩ := minS_spec T l m false
      have h2 := h2 rfl
      refine ⟨fun v hv => ?_, fun _ => h2, ?_⟩
      · rcases List.mem_cons.1 hv with rfl | hv
        · omega
        · exact h1 v hv
      · rcases h3 with ⟨v, hv, e⟩ | ⟨e, _⟩
        · exact .inl ⟨v, List.mem_cons_of_mem _ hv, e⟩
        · exact .inr ⟨e, fun h => by rw [hb] at h; cases h⟩
theorem onAt_th (C : Cr) {v : Int} (hv : v.toNat < C.th.length) : onAt C.th v = (thAt C v.toNat).on := by
  unfold onAt
  rw [thAt_lt hv, List.getD_eq_getElem?_getD, List.getElem?_eq_getElem hv]
  rfl
theorem ofK_mem {C : Cr} {s : Int} (v : Int) : v ∈ ofK C [s] ↔ ∃ k : Nat, v = k ∧ k < C.th.length ∧ (thAt C k).st = s := by
  unfold ofK ofS ofi
  rw [List.mem_map]
  constructor
  · rintro ⟨k, hk, rfl⟩
    rw [List.mem_filter] at hk
    have hl := List.mem_range.1 hk.1
    refine ⟨k, rfl, hl, ?_⟩
    have h2 := hk.2
    rw [thAt_lt hl]
    rw [List.getD_eq_getElem?_getD, List.getElem?_eq_getElem hl] at h2
    simpa using h2
  · rintro ⟨k, rfl, hk, h1⟩
    refine ⟨k, List.mem_filter.2 ⟨List.mem_range.2 hk, ?_⟩, rfl⟩
    rw [thAt_lt hk] at h1
    rw [List.getD_eq_getElem?_getD, List.getElem?_eq_getElem hk]
    simpa using h1
/-- When the first one is woken. -/
theorem atC_head {C : Cr} {h : Int} {S : List Int} (hs : SlS C (h :: S)) : atC C = (thAt C h.toNat).on ∧ 0 < ((ofK C [1]).length : Int) := by
  obtain ⟨k, rfl, hk, h1⟩ := (hs.mem h).1 (by simp)
  have hm : (k : Int) ∈ ofK C [1] := (ofK_mem _).2 ⟨k, rfl, hk, h1⟩
  obtain ⟨a1, a2, a3⟩ := minS_spec C.th (ofK C [1]) 0 true
  have hon : ∀ v ∈ ofK C [1], onAt C.th v = (thAt C v.toNat).on ∧ (thAt C k).on ≤ (thAt C v.toNat).on := by
    intro v hv
    obtain ⟨j, rfl, hj, hj1⟩ := (ofK_mem _).1 hv
    refine ⟨onAt_th C (by rw [Int.toNat_natCast]; exact hj), ?_⟩
    have := hs.le ((hs.mem (j : Int)).2 ⟨j, rfl, hj, hj1⟩)
    rw [Int.toNat_natCast] at this
    exact this
  have hp : 0 < ((ofK C [1]).length : Int) := by have := List.length_pos_of_mem hm; omega
  refine ⟨?_, hp⟩
  have b1 := a1 _ hm
  rw [(hon _ hm).1, Int.toNat_natCast] at b1
  rw [Int.toNat_natCast]
  show minS C.th 0 true (ofK C [1]) = _
  rcases a3 with ⟨v, hv, e⟩ | ⟨_, e⟩
  · have := hon v hv
    rw [e, this.1] at b1 ⊢
    omega
  · rw [e rfl] at hm; cases hm
theorem atC_nil {C : Cr} (hs : SlS C []) : ofK C [1] = [] := by
  rw [List.eq_nil_iff_forall_not_mem]
  intro v hv
  have := (hs.mem v).2 ((ofK_mem v).1 hv)
  cases this
end Go.Proofs.YtkceciebmkklpaaGreat.V
end
section
namespace Go.Proofs.YtkceciebmkklpaaGreat.V
open Go Go.Proofs
set_option maxRecDepth 100000
set_option maxHeartbeats 40000000
theorem row_getZ {W : List Int} {i : Nat} {v z : Int} (h : W[i]? = some v) (hz : z = (i : Int)) : (W.map (D.int .i64))[0 + z.toNat]? = some (.int .i64 v) := by subst hz; rw [Int.toNat_natCast, Nat.zero_add]; exact get_map h
theorem set_rowZ {W : List Int} {z x : Int} {i : Nat} (h : z = (i : Int)) : (W.map (D.int .i64)).set (0 + z.toNat) (.int .i64 x) = (W.set i x).map (D.int .i64) := by subst h; rw [Int.toNat_natCast, Nat.zero_add, List.map_set]
theorem row_get2 {W : List Int} {z z' x v : Int} {i i' : Nat} (hz' : z' = (i' : Int)) (h : (W.set i' x)[i]? = some v) (hz : z = (i : Int)) : ((W.map (D.int .i64)).set (0 + z'.toNat) (.int .i64 x))[0 + z.toNat]? = some (.int .i64 v) := by rw [set_rowZ hz']; exact row_getZ h hz
/-- What is asked of a comparison, beside an own row. -/
def CmpC (g : Nat) (a b : List D) (lt : Int → Int → Bool) (l : List Int) (r : Objs) : Prop := ∀ (W : List Int) (x y : Int), x ∈ l → y ∈ l → Spec Tryz.prog g (a ++ ([.int .i64 x, .int .i64 y] ++ b)) (rowI W :: r) (fun d os' => (∃ z, d = .int .i64 z ∧ decide (z < 0) = lt x y) ∧ os' = rowI W :: r)
/-- So far sorted. -/
structure SrtI (R : Int → Int → Prop) (l : List Int) (i : Nat) (W : List Int) : Prop where
  len : W.length = l.length
  wd : W.drop i = l.drop i
  mem : ∀ v, v ∈ W.take i ↔ v ∈ l.take i
  srt : (W.take i).Pairwise R
/-- What is asked of an order, so that one is put behind all that it is not less than. -/
def InsR (R : Int → Int → Prop) (lt : Int → Int → Bool) (l : List Int) : Prop := ∀ (A B : List Int) (x : Int) (i : Nat), i < l.length → l[i]? = some x → (∀ v, v ∈ A ++ B ↔ v ∈ l.take i) → (A ++ B).Pairwise R → (∀ b ∈ B, lt x b = true) → (∀ a, A.getLast? = some a → lt x a = false) → (A ++ x :: B).Pairwise R
/-- One is on its way to its place. -/
structure SwpI (R : Int → Int → Prop) (lt : Int → Int → Bool) (l : List Int) (i j : Nat) (W : List Int) : Prop where
  ex : ∃ (A B : List Int) (x : Int), W = A ++ x :: (B ++ l.drop (i + 1)) ∧ A.length = j ∧ (A ++ B).length = i ∧ l[i]? = some x ∧ (∀ v, v ∈ A ++ B ↔ v ∈ l.take i) ∧ (A ++ B).Pairwise R ∧ (∀ b ∈ B, lt x b = true)
theorem SrtI.start {R : Int → Int → Prop} {l : List Int} (h : 0 < l.length) : SrtI R l 1 l := by
  cases l with
  | nil => simp at h
  | cons x l => exact ⟨rfl, rfl, fun v => Iff.rfl, by simp⟩
theorem SrtI.swp {R : Int → Int → Prop} {lt : Int → Int → Bool} {l : List Int} {i : Nat} {W : List Int} (h : SrtI R l i W) (hi : i < l.length) : SwpI R lt l i i W := by
  refine ⟨W.take i, [], l[i], ?_, ?_, ?_, List.getElem?_eq_getElem hi, ?_, ?_, by simp⟩
  · rw [List.nil_append, ← List.drop_eq_getElem_cons hi, ← h.wd, List.take_append_drop]
  · rw [List.length_take, h.len]; omega
  · rw [List.append_nil, List.length_take, h.len]; omega
  · rw [List.append_nil]; exact h.mem
  · rw [List.append_nil]; exact h.srt
theorem SwpI.done {R : Int → Int → Prop} {lt : Int → Int → Bool} {l : List Int} {i j : Nat} {W : List Int} (hR : InsR R lt l) (h : SwpI R lt l i j W) (hi : i < l.length) (hd : j = 0 ∨ ∃ k u v, j = k + 1 ∧ W[k]? = some u ∧ W[j]? = some v ∧ lt v u = false) : SrtI R l (i + 1) W := by
  obtain ⟨A, B, x, hW, hA, hAB, hx, hm, hs, hB⟩ := h.ex
  subst hW
  have hlast : ∀ a, A.getLast? = some a → lt x a = false := by
    intro a ha
    rcases hd with h0 | ⟨k, u, v, hk, hu, hv, hlt⟩
    · rw [h0] at hA
      rw [List.eq_nil_of_length_eq_zero hA] at ha
      cases ha
    · have e1 : v = x := by
        rw [List.getElem?_append_right (by omega), hA, Nat.sub_self] at hv
        simpa using hv.symm
      have e2 : u = a := by
        rw [List.getElem?_append_left (by omega)] at hu
        rw [List.getLast?_eq_getElem?, hA, hk, Nat.add_sub_cancel, hu] at ha
        simpa using ha
      rw [e1, e2] at hlt
      exact hlt
  have hp := hR A B x i hi hx hm hs hB hlast
  rw [List.length_append] at hAB
  have hlen : (A ++ x :: B).length = i + 1 := by rw [List.length_append, List.length_cons]; omega
  have ht : (A ++ x :: (B ++ l.drop (i + 1))).take (i + 1) = A ++ x :: B := by
    rw [show A ++ x :: (B ++ l.drop (i + 1)) = (A ++ x :: B) ++ l.drop (i + 1) by simp, List.take_left' hlen]
  have hdr : (A ++ x :: (B ++ l.drop (i + 1))).drop (i + 1) = l.drop (i + 1) := by
    rw [show A ++ x :: (B ++ l.drop (i + 1)) = (A ++ x :: B) ++ l.drop (i + 1) by simp, List.drop_left' hlen]
  refine ⟨?_, hdr, fun v => ?_, by rw [ht]; exact hp⟩
  · rw [List.length_append, List.length_cons, List.length_append, List.length_drop]; omega
  · rw [ht, List.take_add_one, hx]
    have := hm v
    rw [List.mem_append] at this
    rw [List.mem_append, List.mem_cons, List.mem_append, ← this]
    simp only [Option.toList, List.mem_singleton]
    constructor
    · rintro (h | h | h)
      · exact .inl (.inl h)
      · exact .inr h
      · exact .inl (.inr h)
    · rintro ((h | h) | h)
      · exact .inl h
      · exact .inr (.inr h)
      · exact .inr (.inl h)
theorem SwpI.step {R : Int → Int → Prop} {lt : Int → Int → Bool} {l : List Int} {i k : Nat} {W : List Int} (h : SwpI R lt l i (k + 1) W) {u v : Int} (hu : W[k]? = some u) (hv : W[k + 1]? = some v) (hlt : lt v u = true) : SwpI R lt l i k ((W.set (k + 1) u).set k v) := by
  obtain ⟨A, B, x, hW, hA, hAB, hx, hm, hs, hB⟩ := h.ex
  subst hW
  rcases List.eq_nil_or_concat A with rfl | ⟨A', z, rfl⟩
  · simp at hA
  · rw [List.concat_eq_append] at *
    have hA' : A'.length = k := by simpa using hA
    have e1 : v = x := by
      rw [List.getElem?_append_right (by omega), hA, Nat.sub_self] at hv
      simpa using hv.symm
    have e2 : u = z := by
      rw [List.append_assoc, List.getElem?_append_right (by omega), hA', Nat.sub_self] at hu
      simpa using hu.symm
    subst e1 e2
    refine ⟨A', u :: B, v, ?_, hA', ?_, hx, ?_, ?_, ?_⟩
    · rw [List.append_assoc, List.set_append_right _ _ (by omega), hA', show k + 1 - k = 1 from by omega, List.set_append_right _ _ (by omega), hA', Nat.sub_self]
      rfl
    · simpa using hAB
    · intro w; rw [← hm w]; simp
    · simpa using hs
    · intro b hb
      rcases List.mem_cons.1 hb with rfl | hb
      · exact hlt
      · exact hB b hb
theorem SwpI.at {R : Int → Int → Prop} {lt : Int → Int → Bool} {l : List Int} {i j : Nat} {W : List Int} (h : SwpI R lt l i j W) (hi : i < l.length) : W.length = l.length ∧ j ≤ i ∧ ∀ v ∈ W, v ∈ l := by
  obtain ⟨A, B, x, hW, hA, hAB, hx, hm, hs, hB⟩ := h.ex
  subst hW
  rw [List.length_append] at hAB
  refine ⟨by rw [List.length_append, List.length_cons, List.length_append, List.length_drop]; omega, by omega, fun v hv => ?_⟩
  rw [List.mem_append, List.mem_cons, List.mem_append] at hv
  rcases hv with hv | rfl | hv | hv
  · exact List.mem_of_mem_take ((hm v).1 (List.mem_append.2 (.inl hv)))
  · exact List.mem_of_getElem? hx
  · exact List.mem_of_mem_take ((hm v).1 (List.mem_append.2 (.inr hv)))
  · exact List.mem_of_mem_drop hv
theorem ins235 {g : Nat} {a b : List D} {lt : Int → Int → Bool} {R : Int → Int → Prop} {l : List Int} {r : Objs} (hc : CmpC g a b lt l r) (hR : InsR R lt l) (hl : l.length ≤ 1000000) (hp : 0 < l.length) : Spec Tryz.prog 235 [.sl 0 0 1 0 l.length none, .int .i64 0, .int .i64 l.length, .fn (.func g) a b] (rowI l :: r) (fun d os' => ∃ S, d = .tup [] ∧ os' = rowI S :: r ∧ SrtI R l l.length S) := by
  refine Spec.by Tryz.func235 rfl (by decide) (by decide +kernel) rfl ?_
  (refine goA ?_)
  refine Loop.inv (A := Nat × List Int) (List.range 53) (fun c => [(0, .sl 0 0 1 0 l.length none), (1, .int .i64 0), (2, .int .i64 l.length), (3, .fn (.func g) a b), (8, .int .i64 (c.1 : Int))]) (fun c => rowI c.2 :: r) (fun c => c.1 ≤ l.length ∧ SrtI R l c.1 c.2) (fun c => l.length - c.1) (1, l) ⟨hp, SrtI.start hp⟩ ?_ ?_
  · exact Weak.start' rfl rfl tld
  rintro ⟨i, W0⟩ ⟨hi, hI⟩
  dsimp only at hi hI ⊢
  (refine goA ?_)
  refine Br.dec (fun h0 => ?_) (fun h0 => ?_)
  · have hil : i < l.length := by omega
    (refine goA ?_)
    refine Loop.inv (A := Nat × List Int) (List.range 53) (fun c => [(0, .sl 0 0 1 0 l.length none), (1, .int .i64 0), (2, .int .i64 l.length), (3, .fn (.func g) a b), (8, .int .i64 (i : Int)), (9, .int .i64 (c.1 : Int))]) (fun c => rowI c.2 :: r) (fun c => SwpI R lt l i c.1 c.2) (fun c => c.1) (i, W0) (hI.swp hil) ?_ ?_
    · exact Weak.start' rfl rfl tld
    rintro ⟨j, W⟩ hS
    dsimp only at hS ⊢
    obtain ⟨hWl, hji, hWm⟩ := hS.at hil
    have hwm : (W.map (D.int .i64)).length = W.length := List.length_map ..
    cases j with
    | zero =>
      (refine goA ?_)
      refine ⟨_, _, _, ?_, ⟨(i + 1, W), ?_, rfl, rfl, rfl⟩, ?_⟩
      · show l.length - (i + 1) < l.length - i; omega
      · exact ⟨hil, hS.done hR hil (.inl rfl)⟩
      · exact Weak.back rfl tld (by kernel_rfl) (by kernel_rfl)
    | succ k =>
      obtain ⟨v, hv⟩ : ∃ v, W[k + 1]? = some v := ⟨_, List.getElem?_eq_getElem (by omega)⟩
      obtain ⟨u, hu⟩ : ∃ u, W[k]? = some u := ⟨_, List.getElem?_eq_getElem (by omega)⟩
      have hcs := hc W v u (hWm v (List.mem_of_getElem? hv)) (hWm u (List.mem_of_getElem? hu))
      (refine goA ?_)
      refine Opt.of (row_getZ hv rfl) ?_
      (refine goA ?_)
      refine Opt.of (row_getZ hu (by omega)) ?_
      (refine goA ?_)
      rw [forceL_eq]
      refine Call.mk hcs ?_
      rintro d os' ⟨⟨z, rfl, hz⟩, rfl⟩
      (refine goA ?_)
      refine Br.dec (fun h1 => ?_) (fun h1 => ?_)
      · have hlt : lt v u = true := by rw [← hz]; exact decide_eq_true h1
        (refine goA ?_)
        refine Opt.of (row_getZ hu (by omega)) ?_
        (refine goA ?_)
        refine Opt.of (row_getZ hv rfl) ?_
        (refine goA ?_)
        refine Opt.of (row_getZ hv rfl) ?_
        (refine goA ?_)
        refine Opt.of (row_get2 (i := k) (i' := k + 1) (v := u) rfl (by rw [List.getElem?_set_ne (by omega)]; exact hu) (by omega)) ?_
        (refine goA ?_)
        refine ⟨_, _, _, ?_, ⟨(k, (W.set (k + 1) u).set k v), ?_, rfl, rfl, rfl⟩, ?_⟩
        · show k < k + 1; omega
        · exact hS.step hu hv hlt
        · refine Weak.back ?_ tld (by kernel_rfl) (by kernel_rfl)
          show one (.row 3 1 true (((W.map (D.int .i64)).set (0 + (((k + 1 : Nat) : Int)).toNat) (.int .i64 u)).set (0 + (((k + 1 : Nat) : Int) - 1).toNat) (.int .i64 v))) :: r = one (.row 3 1 true (((W.set (k + 1) u).set k v).map (D.int .i64))) :: r
          rw [set_rowZ (i := k + 1) rfl, set_rowZ (i := k) (by omega)]
      · have hlt : lt v u = false := by rw [← hz]; exact decide_eq_false h1
        (refine goA ?_)
        refine ⟨_, _, _, ?_, ⟨(i + 1, W), ?_, rfl, rfl, rfl⟩, ?_⟩
        · show l.length - (i + 1) < l.length - i; omega
        · exact ⟨hil, hS.done hR hil (.inr ⟨k, u, v, rfl, hu, hv, hlt⟩)⟩
        · exact Weak.back rfl tld (by kernel_rfl) (by kernel_rfl)
  · obtain rfl : i = l.length := by omega
    (refine goA ?_)
    exact Ret.mk [] rfl ⟨W0, rfl, rfl, hI⟩
end Go.Proofs.YtkceciebmkklpaaGreat.V
end
section
namespace Go.Proofs.YtkceciebmkklpaaGreat.V
open Go Go.Proofs
set_option maxRecDepth 100000
set_option maxHeartbeats 40000000
theorem ins235z {g : Nat} {a b : List D} {R : Int → Int → Prop} {r : Objs} : Spec Tryz.prog 235 [.sl 0 0 1 0 0 none, .int .i64 0, .int .i64 0, .fn (.func g) a b] (rowI [] :: r) (fun d os' => ∃ S, d = .tup [] ∧ os' = rowI S :: r ∧ SrtI R [] 0 S) := by
  refine Spec.by Tryz.func235 rfl (by decide) (by decide +kernel) rfl ?_
  (refine goA ?_)
  refine Loop.inv (A := Unit) (List.range 53) (fun _ => [(0, .sl 0 0 1 0 0 none), (1, .int .i64 0), (2, .int .i64 0), (3, .fn (.func g) a b), (8, .int .i64 1)]) (fun _ => rowI [] :: r) (fun _ => True) (fun _ => 0) () trivial ?_ ?_
  · exact Weak.start' rfl rfl tld
  rintro ⟨⟩ _
  (refine goA ?_)
  exact Ret.mk [] rfl ⟨[], rfl, rfl, ⟨rfl, rfl, fun v => Iff.rfl, .nil⟩⟩
theorem ins235a {g : Nat} {a b : List D} {lt : Int → Int → Bool} {R : Int → Int → Prop} {l : List Int} {r : Objs} (hc : CmpC g a b lt l r) (hR : InsR R lt l) (hl : l.length ≤ 1000000) : Spec Tryz.prog 235 [.sl 0 0 1 0 l.length none, .int .i64 0, .int .i64 l.length, .fn (.func g) a b] (rowI l :: r) (fun d os' => ∃ S, d = .tup [] ∧ os' = rowI S :: r ∧ SrtI R l l.length S) := by
  cases l with
  | nil => exact ins235z
  | cons x l => exact ins235 hc hR hl (by simp)
theorem stable210 {g : Nat} {a b : List D} {lt : Int → Int → Bool} {R : Int → Int → Prop} {l : List Int} {r : Objs} (hc : CmpC g a b lt l r) (hR : InsR R lt l) (hl : l.length < 20) : Spec Tryz.prog 210 [.sl 0 0 1 0 l.length none, .int .i64 l.length, .fn (.func g) a b] (rowI l :: r) (fun d os' => ∃ S, d = .tup [] ∧ os' = rowI S :: r ∧ SrtI R l l.length S) := by
  have hs := ins235a hc hR (by omega)
  refine Spec.by Tryz.func210 rfl (by decide) (by decide +kernel) rfl ?_
  (refine goA ?_)
  refine Loop.inv (A := Unit) (List.range 63) (fun _ => [(0, .sl 0 0 1 0 l.length none), (1, .int .i64 l.length), (2, .fn (.func g) a b), (6, .int .i64 20), (7, .int .i64 0), (8, .int .i64 20)]) (fun _ => rowI l :: r) (fun _ => True) (fun _ => 0) () trivial ?_ ?_
  · exact Weak.start' rfl rfl tld
  rintro ⟨⟩ _
  (refine goA ?_)
  refine Call.mk hs ?_
  rintro d os' ⟨S, rfl, rfl, hS⟩
  (refine goA ?_)
  refine Loop.inv (A := Unit) (List.range 63) (fun _ => [(0, .sl 0 0 1 0 l.length none), (1, .int .i64 l.length), (2, .fn (.func g) a b), (6, .int .i64 20)]) (fun _ => rowI S :: r) (fun _ => True) (fun _ => 0) () trivial ?_ ?_
  · exact Weak.start' rfl rfl tld
  rintro ⟨⟩ _
  (refine goA ?_)
  exact Ret.mk [] rfl ⟨S, rfl, rfl, hS⟩
theorem sort152 {g : Nat} {a b : List D} {lt : Int → Int → Bool} {R : Int → Int → Prop} {l : List Int} {r : Objs} (hc : CmpC g a b lt l r) (hR : InsR R lt l) (hl : l.length < 20) : Spec Tryz.prog 152 [.sl 0 0 1 0 l.length none, .fn (.func g) a b] (rowI l :: r) (fun d os' => ∃ S, d = .tup [] ∧ os' = rowI S :: r ∧ SrtI R l l.length S) := by
  have hs := stable210 hc hR hl
  refine Spec.by Tryz.func152 rfl (by decide) (by decide +kernel) rfl ?_
  (refine goA ?_)
  refine Call.mk hs ?_
  rintro d os' ⟨S, rfl, rfl, hS⟩
  (refine goA ?_)
  exact Ret.mk [] rfl ⟨S, rfl, rfl, hS⟩
def slLt (C : Cr) (x y : Int) : Bool := decide (cmpI (thAt C x.toNat).on (thAt C y.toNat).on < 0)
theorem slLt_iff (C : Cr) (x y : Int) : slLt C x y = true ↔ (thAt C x.toNat).on < (thAt C y.toNat).on := by
  unfold slLt cmpI
  rw [decide_eq_true_eq]
  split
  · omega
  · split <;> omega
theorem ofi_pw (T : List Th) (q : Th → Bool) (i : Nat) : (ofi T q i).Pairwise (· < ·) := by
  unfold ofi
  rw [List.pairwise_map]
  refine List.Pairwise.imp (fun h => Int.ofNat_lt.2 h) (List.Pairwise.filter _ List.pairwise_lt_range)
theorem slR_ins (C : Cr) : InsR (SlR C) (slLt C) (ofK C [1]) := by
  intro A B x i hi hx hm hp hB hA
  refine SlS.ins hp (fun b hb => (slLt_iff C x b).1 (hB b hb)) (fun a ha h => ?_) (fun a ha => ?_)
  · have := hA a ha
    rw [(slLt_iff C x a).2 h] at this
    cases this
  · have ht := (hm a).1 (List.mem_append.2 (.inl ha))
    have hpw := ofi_pw C.th (fun x => decide (x.st ∈ [1])) C.th.length
    obtain ⟨j, hj, e⟩ := List.getElem_of_mem ht
    rw [List.length_take] at hj
    rw [List.getElem_take] at e
    have := List.pairwise_iff_getElem.1 hpw j i (by have : (ofK C [1]).length = (ofi C.th (fun x => decide (x.st ∈ [1])) C.th.length).length := rfl; omega) hi (by omega)
    have hxe : (ofK C [1])[i] = x := by rw [List.getElem?_eq_getElem hi] at hx; cases hx; rfl
    have e2 : (ofi C.th (fun x => decide (x.st ∈ [1])) C.th.length)[i]'hi = x := hxe
    have e1 : (ofi C.th (fun x => decide (x.st ∈ [1])) C.th.length)[j]'(by have : (ofK C [1]).length = (ofi C.th (fun x => decide (x.st ∈ [1])) C.th.length).length := rfl; omega) = a := e
    rw [e1, e2] at this
    exact this
@[reducible] def cl1 (C : Cr) : Objs := [one (.row 30 10 false [coreV C])]
theorem cmp153 (C : Cr) : CmpC 153 [] [.ptr 1 0 10 0 0] (slLt C) (ofK C [1]) (cl1 C) := by
  intro W x y hx hy
  have hm : (C.th.map thD).length = C.th.length := List.length_map ..
  obtain ⟨i, rfl, hi, _⟩ := (ofK_mem x).1 hx
  obtain ⟨j, rfl, hj, _⟩ := (ofK_mem y).1 hy
  have hgi := th_at0 hi
  have hgj := th_at0 hj
  show Spec Tryz.prog 153 [.int .i64 i, .int .i64 j, .ptr 1 0 10 0 0] (rowI W :: cl1 C) _
  refine Spec.by Tryz.func153 rfl (by decide) (by decide +kernel) rfl ?_
  (refine goA ?_)
  refine Opt.of hgi ?_
  (refine goA ?_)
  refine Opt.of hgj ?_
  (refine goA ?_)
  refine Call.mk ((cmp154 (thAt C i).on (thAt C j).on).only _ rfl (by rintro d rfl; rfl)) ?_; rintro d os' ⟨rfl, rfl⟩
  (refine goA ?_)
  refine Ret.mk [.tmp _] rfl ⟨⟨_, rfl, ?_⟩, rfl⟩
  unfold slLt
  rw [Int.toNat_natCast, Int.toNat_natCast]
theorem srt_sls {C : Cr} {S : List Int} (h : SrtI (SlR C) (ofK C [1]) (ofK C [1]).length S) : SlS C S := by
  have h1 : S.take (ofK C [1]).length = S := List.take_of_length_le (by have := h.len; omega)
  have h2 := h.mem
  have h3 := h.srt
  rw [h1] at h2 h3
  rw [List.take_length] at h2
  exact ⟨fun v => (h2 v).trans (ofK_mem v), h3⟩
theorem sort96 (C : Cr) (hl : C.th.length < 20) : Spec Tryz.prog 152 [.sl 1 0 1 0 (ofK C [1]).length none, .fn (.func 153) [] [.ptr 0 0 10 0 0]] [one (.row 30 10 false [coreV C]), rowI (ofK C [1])] (fun d os' => ∃ S, (d = .tup [] ∧ os' = [one (.row 30 10 false [coreV C]), rowI S]) ∧ SlS C S ∧ S.length = (ofK C [1]).length) := by
  have hs := sort152 (cmp153 C) (slR_ins C) (by have := ofK_len C [1]; omega)
  refine (hs.frame [one (.row 30 10 false [coreV C]), rowI (ofK C [1])] [(1, 0), (0, 0)] rfl (by decide) (allQ_get0 (Q := fun k p => _) ⟨⟨Nat.le_of_ble_eq_true rfl, rfl, rfl, fun j hj => one_pos _ hj⟩, ⟨Nat.le_of_ble_eq_true rfl, rfl, rfl, fun j hj => one_pos _ hj⟩, trivial⟩) rfl).mono ?_
  rintro d os' ⟨d1, os1, ⟨S, rfl, rfl, hS⟩, rfl, rfl⟩
  exact ⟨S, ⟨rfl, rfl⟩, srt_sls hS, hS.len⟩
theorem sleepers96w (C : Cr) (hl : C.th.length < 20) : Spec Tryz.prog 96 [coreV C] [] (fun d os' => ∃ S, (d = .sl 0 0 1 0 S.length none ∧ os' = [rowI S]) ∧ SlS C S) := by
  refine Spec.by Tryz.func96 rfl (by decide) (by decide +kernel) rfl ?_
  (refine goA ?_)
  refine App.only false rfl rfl ?_
  (refine goA ?_)
  refine Call.mk ((in98 [1]).only _ rfl (by rintro d rfl; rfl)) ?_; rintro d os' ⟨rfl, rfl⟩
  (refine goA ?_)
  refine Call.mk ((of97w C [1] (by simp) (by omega)).onto _ rfl) ?_
  rintro d os' ⟨d0, os0, ⟨rfl, rfl⟩, rfl, rfl⟩
  (refine goR ?_)
  refine Pt.weak (Weak.on [(1, .ptr 0 0 10 0 0), (3, .sl 1 0 1 0 (ofK C [1]).length none)] [one (.row 30 10 false [coreV C]), rowI (ofK C [1])]) ?_
  (refine goA ?_)
  refine Call.mk (sort96 C hl) ?_
  rintro d os' ⟨S, ⟨rfl, rfl⟩, hS, hSl⟩
  (refine goA ?_)
  refine Ret.weak (Weak.only [(2, .sl 1 0 1 0 (ofK C [1]).length none)] [one (.row 30 10 false [coreV C]), rowI S] (by kernel_rfl) tld) ?_
  refine Ret.weak (Weak.dropAt 0 (Nat.le_of_ble_eq_true rfl)) ?_
  refine Ret.weak (Weak.shift 1 0 (by decide) (by simp) (Nat.le_of_ble_eq_true rfl) (Nat.le_of_ble_eq_true rfl) (fun j => by cases j <;> rfl) rfl) ?_
  refine Ret.trim 1 (by simp) rfl (Nat.le_of_ble_eq_true rfl) ?_
  exact Ret.mk [.tmp 2] rfl ⟨S, ⟨by rw [hSl]; rfl, rfl⟩, hS⟩
theorem sleepers96 (C : Cr) (hl : C.th.length < 20) : Spec Tryz.prog 96 [coreV C] [] (fun d os' => (∃ S, d = ints S ∧ SlS C S) ∧ os' = []) := by
  refine Spec.frz (post' := fun d => ∃ S, d = ints S ∧ SlS C S) ((sleepers96w C hl).mono ?_)
  rintro d os' ⟨S, ⟨rfl, rfl⟩, hS⟩
  exact ⟨_, View.slAll (f := false) rfl rfl (List.length_map ..) (by simp) (ViewL.same _) (pureL_map (fun _ => rfl) _), rfl, S, rfl, hS⟩
theorem next49 {g : Pg} (hg : GoodP g) {C : Cr} (h : CI g C) : Spec Tryz.prog 49 [coreV C] [] (fun d os' => d = .tup [.int .i64 (atC C), .bool (decide (0 < ((ofK C [1]).length : Int)))] ∧ os' = []) := by
  have h8 := g_th8 hg h.z
  have hm : (C.th.map thD).length = C.th.length := List.length_map ..
  refine Spec.frz (post' := fun d => d = .tup [.int .i64 (atC C), .bool (decide (0 < ((ofK C [1]).length : Int)))]) ?_
  refine Spec.by Tryz.func49 rfl (by decide) (by decide +kernel) rfl ?_
  (refine goA ?_)
  refine Call.mk ((sleepers96 C (by omega)).only _ rfl (by rintro d ⟨S, rfl, _⟩; rfl)) ?_
  rintro d os' ⟨⟨S, rfl, hS⟩, rfl⟩
  cases S with
  | nil =>
    have h0 := atC_nil hS
    (refine goA ?_)
    refine Ret.mk [.tmp 2, .tmp 3] rfl ?_; (refine goA ?_)
    refine ⟨_, .same _, rfl, ?_⟩
    unfold atC
    rw [h0]
    rfl
  | cons v S =>
    obtain ⟨h1, h2⟩ := atC_head hS
    obtain ⟨k, rfl, hk, _⟩ := (hS.mem v).1 (by simp)
    have hvm : (((k : Int) :: S).map (D.int .i64)).length = S.length + 1 := by rw [List.length_map]; rfl
    have hgk := th_at0 hk
    (refine goA ?_)
    refine Opt.of hgk ?_
    (refine goA ?_)
    refine Ret.mk [.tmp 2, .tmp 3] rfl ?_; (refine goA ?_)
    refine ⟨_, .same _, rfl, ?_⟩
    rw [h1, decide_eq_true h2, Int.toNat_natCast]
end Go.Proofs.YtkceciebmkklpaaGreat.V
end
section
namespace Go.Proofs.YtkceciebmkklpaaGreat.V
open Go Go.Proofs
set_option maxRecDepth 100000
set_option maxHeartbeats 40000000
@[reducible] def tcD (C : Cr) (k : Nat) : D := .agg [.int .i64 C.now, .sl k 0 5 0 C.th.length none, ints C.L.ow, ints C.L.co, lists C.bu, lists C.L.lk, lists C.L.wq, lists C.L.dq, lists C.sq, lists C.rq]
@[reducible] def tcL (C : Cr) (N k : Nat) : D := .agg [.int .i64 C.now, .sl k 0 5 0 N none, ints C.L.ow, ints C.L.co, lists C.bu, lists C.L.lk, lists C.L.wq, lists C.L.dq, lists C.sq, lists C.rq]
theorem tcD_view {F : Nat → Bool} {os : Objs} {C : Cr} {k : Nat} (hF : F k = true) (hat : os.at k 0 = .row 42 5 true (C.th.map thD)) : View F os (tcD C k) (coreV C) :=
  .agg (.cons (.same _) (.cons (View.slAll (f := false) hF hat (by simp) (by simp) (ViewL.same _) (pureTh _)) (.cons (.same _) (.cons (.same _) (.cons (.same _) (.cons (.same _) (.cons (.same _) (.cons (.same _) (.cons (.same _) (.cons (.same _) .nil))))))))))
theorem tcL_view {F : Nat → Bool} {os : Objs} {C : Cr} {N k : Nat} (hN : C.th.length = N) (hF : F k = true) (hat : os.at k 0 = .row 42 5 true (C.th.map thD)) : View F os (tcL C N k) (coreV C) := by
  subst hN
  exact tcD_view hF hat
/-- A copy whose threads are its own, and all else is only read. -/
theorem clone28t {C : Cr} (h : ClB C) : Spec Tryz.prog 28 [coreV C] [] (fun d os' => d = tcD C 0 ∧ os' = [rowT C.th]) := by
  refine Spec.weak (clone28 h) ?_
  rintro d os' ⟨rfl, rfl⟩
  refine ⟨[(0, tcD C 0)], [rowT C.th], ?_, rfl, rfl⟩
  refine Weak.trans (Weak.frzK (fun i => Nat.blt 2 i) [(0, tcD C 2)] ⟨.agg (.cons (.same _) (.cons (.same _)
    (.cons (View.slAll (f := false) rfl rfl (by simp) (by simp) (ViewL.same _) (pureL_map (fun _ => rfl) _))
    (.cons (View.slAll (f := false) rfl rfl (by simp) (by simp) (ViewL.same _) (pureL_map (fun _ => rfl) _))
    (.cons (View.slAll (f := false) rfl rfl (by simp) (by simp) (ViewL.same _) (pureL_rows _))
    (.cons (View.slAll (f := false) rfl rfl (by simp) (by simp) (ViewL.same _) (pureL_rows _))
    (.cons (View.slAll (f := false) rfl rfl (by simp) (by simp) (ViewL.same _) (pureL_rows _))
    (.cons (View.slAll (f := false) rfl rfl (by simp) (by simp) (ViewL.same _) (pureL_rows _))
    (.cons (View.slAll (f := false) rfl rfl (by simp) (by simp) (ViewL.same _) (pureL_rows _))
    (.cons (View.slAll (f := false) rfl rfl (by simp) (by simp) (ViewL.same _) (pureL_rows _)) .nil)))))))))), trivial⟩) ?_
  refine Weak.trans (Weak.only [(0, tcD C 2)] (one .gone :: one .gone :: rowT C.th :: one .gone :: one .gone :: one .gone :: [one .gone, one .gone, one .gone, one .gone, one .gone, one .gone]) (by kernel_rfl) tld) ?_
  refine Weak.trans (Weak.shift 2 0 (by decide) (by simp) (Nat.le_of_ble_eq_true rfl) (Nat.le_of_ble_eq_true rfl) (fun j => by cases j <;> rfl) rfl) ?_
  exact Weak.fin 1
theorem th_sets (T : List Th) (k : Nat) (x : D) (f : Th) : ((T.map thD).set (0 + ((k : Int)).toNat) x).set (0 + ((k : Int)).toNat) (thD f) = (T.set k f).map thD := by rw [Int.toNat_natCast, Nat.zero_add, List.set_set, List.map_set]
theorem mapT (q : List Int) (v : Int) : q.map (D.int .i64) ++ [.int .i64 v] = (q ++ [v]).map (D.int .i64) := by rw [List.map_append]; rfl
@[reducible] def upN (n : Int) : Int := if 1073741824 < (if n < 0 then 0 else n) then 1073741824 else (if n < 0 then 0 else n)
theorem tick_now {C : Cr} (h : 0 ≤ C.now ∧ C.now ≤ 1073741824) (n : Int) : { C with now := keep (C.now + upN n) } = tick0 C n := by
  unfold tick0 mn upN
  by_cases h0 : n < 0
  · rw [if_pos h0, if_neg (by omega), if_neg (show ¬ 1073741824 < n by omega), if_neg (by omega)]
    have : keep (C.now + 0) = C.now := ((keep_id _).2 (by omega)).symm.trans (by omega)
    rw [this]
  · rw [if_neg h0]
    by_cases h1 : 1073741824 < n
    · rw [if_pos h1, if_pos (by decide)]
    · rw [if_neg h1]
      by_cases h2 : 0 < n
      · rw [if_pos h2]
      · rw [if_neg h2]
        have : keep (C.now + n) = C.now := ((keep_id _).2 (by omega)).symm.trans (by omega)
        rw [this]
theorem tick57 {g : Pg} (hg : GoodP g) {C : Cr} (h : CI g C) (n : Int) : Spec Tryz.prog 57 [coreV C, .int .i64 n] [] (fun d os' => d = .tup [coreV (tickC C n).1, ints (tickC C n).2] ∧ os' = []) := by
  have h8 := g_th8 hg h.z
  have hnow := h.z.now
  have hcl := clone28t (h.clB hg)
  refine Spec.frz (post' := fun d => d = .tup [coreV (tickC C n).1, ints (tickC C n).2]) ?_
  obtain ⟨R, hR⟩ : ∃ R, tickC C n = R := ⟨_, rfl⟩
  have hR' := hR
  unfold tickC at hR'
  have htl : (tick0 C n).th.length = C.th.length := by unfold tick0; split <;> rfl
  have hth : (tick0 C n).th = C.th := by unfold tick0; split <;> rfl
  rw [hR]
  refine Spec.by Tryz.func57 rfl (by decide) (by decide +kernel) rfl ?_
  (refine goA ?_)
  refine Call.mk (hcl.onto _ rfl) ?_
  rintro d os' ⟨d1, os1, ⟨rfl, rfl⟩, rfl, rfl⟩
  (refine goR ?_)
  refine Pt.weak (Weak.on [(1, .int .i64 n), (2, .ptr 0 0 10 0 0), (4, .ptr 1 0 10 0 0)] [one (.row 30 10 false [tcD C 2]), one (.row 30 10 false [z30]), rowT C.th]) ?_
  (refine goA ?_)
  refine Call.mk (keep35 _ _) ?_
  rintro d os' ⟨rfl, rfl⟩
  have hc0 := tick_now hnow n
  obtain ⟨C0, hC0⟩ : ∃ C0, tick0 C n = C0 := ⟨_, rfl⟩
  rw [hC0] at hc0 hR' htl hth
  have hcd : tcL C0 C.th.length 2 = .agg [.int .i64 (keep (C.now + upN n)), .sl 2 0 5 0 C.th.length none, ints C.L.ow, ints C.L.co, lists C.bu, lists C.L.lk, lists C.L.wq, lists C.L.dq, lists C.sq, lists C.rq] := by rw [← hc0]
  (refine goR ?_)
  refine Pt.weak (Weak.on [(2, .ptr 0 0 10 0 0), (4, .ptr 1 0 10 0 0)] [one (.row 30 10 false [.agg [.int .i64 (keep (C.now + upN n)), .sl 2 0 5 0 C.th.length none, ints C.L.ow, ints C.L.co, lists C.bu, lists C.L.lk, lists C.L.wq, lists C.L.dq, lists C.sq, lists C.rq]]), one (.row 30 10 false [z30]), rowT C.th]) ?_
  rw [← hcd, ← hth]
  (refine goA ?_)
  refine Call.mk ((sleepers96w C0 (by omega)).fresh (.cons (tcL_view rfl rfl rfl) .nil) rfl (by rintro d os' ⟨S, ⟨rfl, rfl⟩, _⟩; exact ⟨rfl, own_row1 _⟩)) ?_
  rintro d os' ⟨d1, os1, ⟨S, ⟨rfl, rfl⟩, hS⟩, rfl, rfl⟩
  have hSm : ∀ v ∈ S, ∃ k : Nat, v = (k : Int) ∧ k < C.th.length := fun v hv => by
    obtain ⟨k, h1, h2, _⟩ := (hS.mem v).1 hv
    exact ⟨k, h1, by rw [← htl]; exact h2⟩
  have hSl : S.length ≤ C.th.length := by rw [hS.len, ← htl]; exact ns_le C0
  have hSlm : (S.map (D.int .i64)).length = S.length := List.length_map ..
  (refine goA ?_)
  refine Loop.inv (A := Nat × Cr × List Int) (List.range 52) (fun a => [(2, .ptr 0 0 10 0 0), (4, .ptr 1 0 10 0 0), (6, .sl 4 0 1 0 a.2.2.length none), (20, .sl 3 0 1 0 S.length none), (21, .int .i64 S.length), (22, .int .i64 (a.1 : Int))]) (fun a => [one (.row 30 10 false [tcL a.2.1 C0.th.length 2]), one (.row 30 10 false [z30]), rowT a.2.1.th, rowI S, rowI a.2.2]) (fun a => a.1 ≤ S.length ∧ a.2.1.th.length = C0.th.length ∧ a.2.2.length ≤ a.1 ∧ ((SlS a.2.1 (S.drop a.1) ∧ ∃ k, S.length - a.1 ≤ k ∧ tickW k a.2.1 a.2.2 = R) ∨ ((a.2.1, a.2.2) = R ∧ ∀ v ∈ S.drop a.1, a.2.1.now < (thAt a.2.1 v.toNat).on))) (fun a => S.length - a.1) (0, C0, []) ⟨Nat.zero_le _, rfl, Nat.le_refl _, .inl ⟨hS, C.th.length, by show S.length - 0 ≤ _; omega, hR'⟩⟩ ?_ ?_
  · refine Weak.trans (Weak.nilrow 6 rfl 3 1 true) ?_
    refine Weak.trans (Weak.on [(2, .ptr 0 0 10 0 0), (4, .ptr 1 0 10 0 0), (6, .sl 4 0 1 0 0 none), (20, .sl 3 0 1 0 S.length none), (21, .int .i64 S.length), (22, .int .i64 0)] [one (.row 30 10 false [tcL C0 C0.th.length 2]), one (.row 30 10 false [z30]), rowT C0.th, rowI S, rowI []]) ?_
    exact Weak.start' rfl rfl tld
  rintro ⟨i, E, l⟩ ⟨hi, hEl, hli, hI⟩
  dsimp only at hi hEl hli hI ⊢
  have hlm : (l.map (D.int .i64)).length = l.length := List.length_map ..
  have hEm : (E.th.map thD).length = C0.th.length := by rw [List.length_map]; exact hEl
  (refine goA ?_)
  refine Br.dec (fun h0 => ?_) (fun h0 => ?_)
  · have hil : i < S.length := by omega
    have hget : S[i]? = some S[i] := List.getElem?_eq_getElem hil
    obtain ⟨k, hke, hk⟩ := hSm _ (List.getElem_mem hil)
    have hdrop := List.drop_eq_getElem_cons hil
    rw [hke] at hget hdrop
    rw [hdrop] at hI
    have hgk := th_at (C := E) (t := k) (by omega)
    (refine goA ?_)
    refine Opt.of (row_get0 hget) ?_
    (refine goA ?_)
    refine Opt.of hgk ?_
    (refine goA ?_)
    refine Br.dec (fun h1 => ?_) (fun h1 => ?_)
    · have hI1 : SlS E ((k : Int) :: S.drop (i + 1)) ∧ ∃ m, S.length - i ≤ m ∧ tickW m E l = R := by
        rcases hI with hI | ⟨_, hI⟩
        · exact hI
        · have := hI (k : Int) (by simp)
          rw [Int.toNat_natCast] at this
          omega
      obtain ⟨hs, m, hm, ht⟩ := hI1
      obtain ⟨m, rfl⟩ : ∃ j, m = j + 1 := ⟨m - 1, by omega⟩
      have hfk := hs.pos (by rw [Int.toNat_natCast]; exact h1)
      rw [tickW, hfk, if_neg (by omega), Int.toNat_natCast] at ht
      have hst := hs.tail
      rw [Int.toNat_natCast] at hst
      (refine goA ?_)
      refine Opt.of hgk ?_
      (refine goA ?_)
      refine Opt.of (show ((E.th.map thD).set (0 + ((k : Int)).toNat) _)[0 + ((k : Int)).toNat]? = some _ by rw [Nat.zero_add, Int.toNat_natCast]; exact List.getElem?_set_self (by omega)) ?_
      (refine goA ?_)
      refine App.only false rfl rfl ?_
      (refine goA ?_)
      refine ⟨_, _, _, ?_, ⟨(i + 1, upTh E k, l ++ [(k : Int)]), ?_, rfl, rfl, rfl⟩, ?_⟩
      · show S.length - (i + 1) < S.length - i; omega
      · exact ⟨hil, (putT_len _ _ _).trans hEl, by show (l ++ [(k : Int)]).length ≤ i + 1; rw [List.length_append, List.length_singleton]; omega, .inl ⟨hst, m, by show S.length - (i + 1) ≤ m; omega, ht⟩⟩
      · refine Weak.trans (Weak.on [(2, .ptr 0 0 10 0 0), (4, .ptr 1 0 10 0 0), (6, .sl 5 0 1 0 (l.length + 1) none), (20, .sl 3 0 1 0 S.length none), (21, .int .i64 S.length), (22, .int .i64 ((i : Int) + 1))] [one (.row 30 10 false [tcL E C0.th.length 2]), one (.row 30 10 false [z30]), one (.row 42 5 true (((E.th.map thD).set (0 + ((k : Int)).toNat) (thD { thAt E k with st := 0 })).set (0 + ((k : Int)).toNat) (thD { thAt E k with st := 0, on := 0 }))), rowI S, one .gone, one (.row 3 1 true (l.map (D.int .i64) ++ [.int .i64 k]))]) ?_
        rw [th_sets, mapT l k, show l.length + 1 = (l ++ [(k : Int)]).length by rw [List.length_append]; rfl]
        refine Weak.trans (Weak.shift 5 4 (by decide) (by simp) (Nat.le_of_ble_eq_true rfl) (Nat.le_of_ble_eq_true rfl) (fun j => by cases j <;> rfl) rfl) ?_
        refine Weak.backT 5 (by simp) (by first | rfl | kernel_rfl) (by kernel_rfl) (Nat.le_of_ble_eq_true rfl) tld (by kernel_rfl) (by kernel_rfl)
    · (refine goA ?_)
      refine ⟨_, _, _, ?_, ⟨(i + 1, E, l), ?_, rfl, rfl, rfl⟩, ?_⟩
      · show S.length - (i + 1) < S.length - i; omega
      · refine ⟨hil, hEl, by show l.length ≤ i + 1; omega, .inr ?_⟩
        rcases hI with ⟨hs, m, hm, ht⟩ | ⟨hr, hI⟩
        · have hfk := hs.neg (by rw [Int.toNat_natCast]; exact h1)
          rw [tickW_end (by rw [hfk]; decide)] at ht
          refine ⟨ht, fun v hv => ?_⟩
          have := hs.le (List.mem_cons_of_mem _ hv)
          rw [Int.toNat_natCast] at this
          show E.now < (thAt E v.toNat).on
          omega
        · exact ⟨hr, fun v hv => hI v (List.mem_cons_of_mem _ hv)⟩
      · refine Weak.backT 5 (by simp) (by first | rfl | kernel_rfl) (by kernel_rfl) (Nat.le_of_ble_eq_true rfl) tld (by kernel_rfl) (by kernel_rfl)
  · have hie : i = S.length := by omega
    have hER : (E, l) = R := by
      rcases hI with ⟨hs, m, hm, ht⟩ | ⟨hr, _⟩
      · rw [hie, List.drop_length] at hs
        rw [tickW_end (by rw [hs.nil]; decide)] at ht
        exact ht
      · exact hr
    rw [← hER]
    (refine goA ?_)
    refine Ret.mk [.cell 4 30, .tmp 5] rfl ?_; (refine goA ?_)
    exact ⟨_, View.tup (.cons (tcL_view (C := E) hEl rfl rfl) (.cons (View.slAll (f := false) rfl rfl hlm (by simp) (ViewL.same _) (pureL_map (fun _ => rfl) _)) .nil)), rfl, rfl⟩
end Go.Proofs.YtkceciebmkklpaaGreat.V
end
section
namespace Go.Proofs.YtkceciebmkklpaaGreat.V
open Go Go.Proofs
set_option maxRecDepth 100000
set_option maxHeartbeats 40000000
/-! Whether two states are one. -/
theorem same126 (A B : List (List Int)) (hA : A.length ≤ 1000000) (hB : B.length ≤ 1000000) (hl : ∀ L ∈ A, L.length ≤ 1000000) : Spec Tryz.prog 126 [lists A, lists B] [] (fun d os' => d = .bool (decide (A = B)) ∧ os' = []) := by
  have hAm : (A.map ints).length = A.length := List.length_map ..
  have hBm : (B.map ints).length = B.length := List.length_map ..
  by_cases hlen : A.length = B.length
  · refine Spec.frz (post' := fun d => d = .bool (decide (A = B))) ?_
    refine Spec.by Tryz.func126 rfl (by decide) (by decide +kernel) rfl ?_
    (refine goA ?_)
    refine Loop.inv (A := Nat) (List.range 27) (fun i => [(0, lists A), (1, lists B), (5, .int .i64 (i : Int))]) (fun i => []) (fun i => i ≤ A.length ∧ A.take i = B.take i) (fun i => A.length - i) 0 ⟨Nat.zero_le _, rfl⟩ ?_ ?_
    · exact Weak.start' rfl rfl tld
    rintro i ⟨hi, ht⟩
    dsimp only at hi ht ⊢
    (refine goA ?_)
    refine Br.dec (fun h0 => ?_) (fun h0 => ?_)
    · have hil : i < A.length := by omega
      have hib : i < B.length := by omega
      have hgA : A[i]? = some A[i] := List.getElem?_eq_getElem hil
      have hgB : B[i]? = some B[i] := List.getElem?_eq_getElem hib
      have hs := same50 A[i] B[i] (by have := hl _ (List.getElem_mem hil); omega)
      by_cases he : A[i] = B[i]
      · rw [decide_eq_true he] at hs
        (refine goA ?_)
        refine Opt.of (get_map hgA) ?_
        (refine goA ?_)
        refine Opt.of (get_map hgB) ?_
        (refine goA ?_)
        refine Call.mk ((hs).only _ rfl (by rintro d rfl; rfl)) ?_; rintro d os' ⟨rfl, rfl⟩
        (refine goA ?_)
        refine ⟨_, _, _, ?_, ⟨i + 1, ?_, rfl, rfl, rfl⟩, ?_⟩
        · show A.length - (i + 1) < A.length - i; omega
        · exact ⟨hil, by rw [List.take_add_one, List.take_add_one, ht, hgA, hgB, he]⟩
        · refine Weak.backT 0 (by simp) (by first | rfl | kernel_rfl) (by kernel_rfl) (Nat.le_of_ble_eq_true rfl) tld (by kernel_rfl) (by kernel_rfl)
      · rw [decide_eq_false he] at hs
        (refine goA ?_)
        refine Opt.of (get_map hgA) ?_
        (refine goA ?_)
        refine Opt.of (get_map hgB) ?_
        (refine goA ?_)
        refine Call.mk ((hs).only _ rfl (by rintro d rfl; rfl)) ?_; rintro d os' ⟨rfl, rfl⟩
        (refine goA ?_)
        refine Ret.mk [.tmp 4] rfl ?_; (refine goA ?_)
        refine ⟨_, .same _, rfl, ?_⟩
        rw [decide_eq_false (fun e => he (by subst e; rfl))]
    · have hie : i = A.length := by omega
      have hAB : A = B := by
        rw [hie, List.take_length, hlen, List.take_length] at ht
        exact ht
      (refine goA ?_)
      refine Ret.mk [.tmp 4] rfl ?_; (refine goA ?_)
      refine ⟨_, .same _, rfl, ?_⟩
      rw [decide_eq_true hAB]
  · refine Spec.frz (post' := fun d => d = .bool (decide (A = B))) ?_
    rw [decide_eq_false (fun e => hlen (by rw [e]))]
    refine Spec.by Tryz.func126 rfl (by decide) (by decide +kernel) rfl ?_
    (refine goA ?_)
    refine Ret.mk [.tmp 4] rfl ?_; (refine goA ?_)
    exact ⟨_, .same _, rfl, rfl⟩
/-- How long all rows are. -/
structure RB (C : Cr) : Prop where
  ow : C.L.ow.length ≤ 1000
  co : C.L.co.length ≤ 1000
  lk : C.L.lk.length ≤ 1000
  wq : C.L.wq.length ≤ 1000
  dq : C.L.dq.length ≤ 1000
  bu : C.bu.length ≤ 1000
  sq : C.sq.length ≤ 1000
  rq : C.rq.length ≤ 1000
  l1 : ∀ q ∈ C.L.lk, q.length ≤ 1000
  l2 : ∀ q ∈ C.L.wq, q.length ≤ 1000
  l3 : ∀ q ∈ C.L.dq, q.length ≤ 1000
  l4 : ∀ q ∈ C.bu, q.length ≤ 1000
  l5 : ∀ q ∈ C.sq, q.length ≤ 1000
  l6 : ∀ q ∈ C.rq, q.length ≤ 1000
theorem lk_ext {S T : Lk} (h1 : S.ow = T.ow) (h2 : S.co = T.co) (h3 : S.lk = T.lk) (h4 : S.wq = T.wq) (h5 : S.dq = T.dq) : S = T := by
  cases S; cases T
  dsimp only at h1 h2 h3 h4 h5
  subst h1 h2 h3 h4 h5
  rfl
theorem same77 (C E : Cr) (hC : RB C) (hE : RB E) : Spec Tryz.prog 77 [coreV C, coreV E] [] (fun d os' => (∃ b, d = .bool b ∧ (b = true ↔ C.L = E.L)) ∧ os' = []) := by
  have h0 := same50 C.L.ow E.L.ow (by have := hC.ow; omega)
  have h1 := same50 C.L.co E.L.co (by have := hC.co; omega)
  have h2 := same126 C.L.lk E.L.lk (by have := hC.lk; omega) (by have := hE.lk; omega) (fun L hL => by have := hC.l1 L hL; omega)
  have h3 := same126 C.L.wq E.L.wq (by have := hC.wq; omega) (by have := hE.wq; omega) (fun L hL => by have := hC.l2 L hL; omega)
  have h4 := same126 C.L.dq E.L.dq (by have := hC.dq; omega) (by have := hE.dq; omega) (fun L hL => by have := hC.l3 L hL; omega)
  refine Spec.frz (post' := fun d => ∃ b, d = .bool b ∧ (b = true ↔ C.L = E.L)) ?_
  by_cases a0 : C.L.ow = E.L.ow
  · rw [decide_eq_true a0] at h0
    by_cases a1 : C.L.co = E.L.co
    · rw [decide_eq_true a1] at h1
      by_cases a2 : C.L.lk = E.L.lk
      · rw [decide_eq_true a2] at h2
        by_cases a3 : C.L.wq = E.L.wq
        · rw [decide_eq_true a3] at h3
          by_cases a4 : C.L.dq = E.L.dq
          · rw [decide_eq_true a4] at h4
            refine Spec.by Tryz.func77 rfl (by decide) (by decide +kernel) rfl ?_
            (refine goA ?_)
            refine Call.mk ((h0).only _ rfl (by rintro d rfl; rfl)) ?_; rintro d os' ⟨rfl, rfl⟩
            (refine goA ?_)
            refine Call.mk ((h1).only _ rfl (by rintro d rfl; rfl)) ?_; rintro d os' ⟨rfl, rfl⟩
            (refine goA ?_)
            refine Call.mk ((h2).only _ rfl (by rintro d rfl; rfl)) ?_; rintro d os' ⟨rfl, rfl⟩
            (refine goA ?_)
            refine Call.mk ((h3).only _ rfl (by rintro d rfl; rfl)) ?_; rintro d os' ⟨rfl, rfl⟩
            (refine goA ?_)
            refine Call.mk ((h4).only _ rfl (by rintro d rfl; rfl)) ?_; rintro d os' ⟨rfl, rfl⟩
            (refine goA ?_)
            refine Ret.mk [.tmp 4] rfl ?_; (refine goA ?_)
            exact ⟨_, .same _, rfl, true, rfl, ⟨fun _ => lk_ext a0 a1 a2 a3 a4, fun _ => rfl⟩⟩
          · rw [decide_eq_false a4] at h4
            refine Spec.by Tryz.func77 rfl (by decide) (by decide +kernel) rfl ?_
            (refine goA ?_)
            refine Call.mk ((h0).only _ rfl (by rintro d rfl; rfl)) ?_; rintro d os' ⟨rfl, rfl⟩
            (refine goA ?_)
            refine Call.mk ((h1).only _ rfl (by rintro d rfl; rfl)) ?_; rintro d os' ⟨rfl, rfl⟩
            (refine goA ?_)
            refine Call.mk ((h2).only _ rfl (by rintro d rfl; rfl)) ?_; rintro d os' ⟨rfl, rfl⟩
            (refine goA ?_)
            refine Call.mk ((h3).only _ rfl (by rintro d rfl; rfl)) ?_; rintro d os' ⟨rfl, rfl⟩
            (refine goA ?_)
            refine Call.mk ((h4).only _ rfl (by rintro d rfl; rfl)) ?_; rintro d os' ⟨rfl, rfl⟩
            (refine goA ?_)
            refine Ret.mk [.tmp 4] rfl ?_; (refine goA ?_)
            exact ⟨_, .same _, rfl, false, rfl, ⟨fun h => (by cases h), fun h => absurd (by rw [h]) a4⟩⟩
        · rw [decide_eq_false a3] at h3
          refine Spec.by Tryz.func77 rfl (by decide) (by decide +kernel) rfl ?_
          (refine goA ?_)
          refine Call.mk ((h0).only _ rfl (by rintro d rfl; rfl)) ?_; rintro d os' ⟨rfl, rfl⟩
          (refine goA ?_)
          refine Call.mk ((h1).only _ rfl (by rintro d rfl; rfl)) ?_; rintro d os' ⟨rfl, rfl⟩
          (refine goA ?_)
          refine Call.mk ((h2).only _ rfl (by rintro d rfl; rfl)) ?_; rintro d os' ⟨rfl, rfl⟩
          (refine goA ?_)
          refine Call.mk ((h3).only _ rfl (by rintro d rfl; rfl)) ?_; rintro d os' ⟨rfl, rfl⟩
          (refine goA ?_)
          refine Ret.mk [.tmp 4] rfl ?_; (refine goA ?_)
          exact ⟨_, .same _, rfl, false, rfl, ⟨fun h => (by cases h), fun h => absurd (by rw [h]) a3⟩⟩
      · rw [decide_eq_false a2] at h2
        refine Spec.by Tryz.func77 rfl (by decide) (by decide +kernel) rfl ?_
        (refine goA ?_)
        refine Call.mk ((h0).only _ rfl (by rintro d rfl; rfl)) ?_; rintro d os' ⟨rfl, rfl⟩
        (refine goA ?_)
        refine Call.mk ((h1).only _ rfl (by rintro d rfl; rfl)) ?_; rintro d os' ⟨rfl, rfl⟩
        (refine goA ?_)
        refine Call.mk ((h2).only _ rfl (by rintro d rfl; rfl)) ?_; rintro d os' ⟨rfl, rfl⟩
        (refine goA ?_)
        refine Ret.mk [.tmp 4] rfl ?_; (refine goA ?_)
        exact ⟨_, .same _, rfl, false, rfl, ⟨fun h => (by cases h), fun h => absurd (by rw [h]) a2⟩⟩
    · rw [decide_eq_false a1] at h1
      refine Spec.by Tryz.func77 rfl (by decide) (by decide +kernel) rfl ?_
      (refine goA ?_)
      refine Call.mk ((h0).only _ rfl (by rintro d rfl; rfl)) ?_; rintro d os' ⟨rfl, rfl⟩
      (refine goA ?_)
      refine Call.mk ((h1).only _ rfl (by rintro d rfl; rfl)) ?_; rintro d os' ⟨rfl, rfl⟩
      (refine goA ?_)
      refine Ret.mk [.tmp 4] rfl ?_; (refine goA ?_)
      exact ⟨_, .same _, rfl, false, rfl, ⟨fun h => (by cases h), fun h => absurd (by rw [h]) a1⟩⟩
  · rw [decide_eq_false a0] at h0
    refine Spec.by Tryz.func77 rfl (by decide) (by decide +kernel) rfl ?_
    (refine goA ?_)
    refine Call.mk ((h0).only _ rfl (by rintro d rfl; rfl)) ?_; rintro d os' ⟨rfl, rfl⟩
    (refine goA ?_)
    refine Ret.mk [.tmp 4] rfl ?_; (refine goA ?_)
    exact ⟨_, .same _, rfl, false, rfl, ⟨fun h => (by cases h), fun h => absurd (by rw [h]) a0⟩⟩
theorem same78 (C E : Cr) (hC : RB C) (hE : RB E) : Spec Tryz.prog 78 [coreV C, coreV E] [] (fun d os' => (∃ b, d = .bool b ∧ (b = true ↔ (C.bu = E.bu ∧ C.sq = E.sq ∧ C.rq = E.rq))) ∧ os' = []) := by
  have h0 := same126 C.bu E.bu (by have := hC.bu; omega) (by have := hE.bu; omega) (fun L hL => by have := hC.l4 L hL; omega)
  have h1 := same126 C.sq E.sq (by have := hC.sq; omega) (by have := hE.sq; omega) (fun L hL => by have := hC.l5 L hL; omega)
  have h2 := same126 C.rq E.rq (by have := hC.rq; omega) (by have := hE.rq; omega) (fun L hL => by have := hC.l6 L hL; omega)
  refine Spec.frz (post' := fun d => ∃ b, d = .bool b ∧ (b = true ↔ (C.bu = E.bu ∧ C.sq = E.sq ∧ C.rq = E.rq))) ?_
  by_cases a0 : C.bu = E.bu
  · rw [decide_eq_true a0] at h0
    by_cases a1 : C.sq = E.sq
    · rw [decide_eq_true a1] at h1
      by_cases a2 : C.rq = E.rq
      · rw [decide_eq_true a2] at h2
        refine Spec.by Tryz.func78 rfl (by decide) (by decide +kernel) rfl ?_
        (refine goA ?_)
        refine Call.mk ((h0).only _ rfl (by rintro d rfl; rfl)) ?_; rintro d os' ⟨rfl, rfl⟩
        (refine goA ?_)
        refine Call.mk ((h1).only _ rfl (by rintro d rfl; rfl)) ?_; rintro d os' ⟨rfl, rfl⟩
        (refine goA ?_)
        refine Call.mk ((h2).only _ rfl (by rintro d rfl; rfl)) ?_; rintro d os' ⟨rfl, rfl⟩
        (refine goA ?_)
        refine Ret.mk [.tmp 4] rfl ?_; (refine goA ?_)
        exact ⟨_, .same _, rfl, true, rfl, ⟨fun _ => ⟨a0, a1, a2⟩, fun _ => rfl⟩⟩
      · rw [decide_eq_false a2] at h2
        refine Spec.by Tryz.func78 rfl (by decide) (by decide +kernel) rfl ?_
        (refine goA ?_)
        refine Call.mk ((h0).only _ rfl (by rintro d rfl; rfl)) ?_; rintro d os' ⟨rfl, rfl⟩
        (refine goA ?_)
        refine Call.mk ((h1).only _ rfl (by rintro d rfl; rfl)) ?_; rintro d os' ⟨rfl, rfl⟩
        (refine goA ?_)
        refine Call.mk ((h2).only _ rfl (by rintro d rfl; rfl)) ?_; rintro d os' ⟨rfl, rfl⟩
        (refine goA ?_)
        refine Ret.mk [.tmp 4] rfl ?_; (refine goA ?_)
        exact ⟨_, .same _, rfl, false, rfl, ⟨fun h => (by cases h), fun h => absurd (by first | exact h.1 | exact h.2.1 | exact h.2.2) a2⟩⟩
    · rw [decide_eq_false a1] at h1
      refine Spec.by Tryz.func78 rfl (by decide) (by decide +kernel) rfl ?_
      (refine goA ?_)
      refine Call.mk ((h0).only _ rfl (by rintro d rfl; rfl)) ?_; rintro d os' ⟨rfl, rfl⟩
      (refine goA ?_)
      refine Call.mk ((h1).only _ rfl (by rintro d rfl; rfl)) ?_; rintro d os' ⟨rfl, rfl⟩
      (refine goA ?_)
      refine Ret.mk [.tmp 4] rfl ?_; (refine goA ?_)
      exact ⟨_, .same _, rfl, false, rfl, ⟨fun h => (by cases h), fun h => absurd (by first | exact h.1 | exact h.2.1 | exact h.2.2) a1⟩⟩
  · rw [decide_eq_false a0] at h0
    refine Spec.by Tryz.func78 rfl (by decide) (by decide +kernel) rfl ?_
    (refine goA ?_)
    refine Call.mk ((h0).only _ rfl (by rintro d rfl; rfl)) ?_; rintro d os' ⟨rfl, rfl⟩
    (refine goA ?_)
    refine Ret.mk [.tmp 4] rfl ?_; (refine goA ?_)
    exact ⟨_, .same _, rfl, false, rfl, ⟨fun h => (by cases h), fun h => absurd (by first | exact h.1 | exact h.2.1 | exact h.2.2) a0⟩⟩
theorem cr_ext {C E : Cr} (h1 : C.now = E.now) (h2 : C.th = E.th) (h3 : C.L = E.L) (h4 : C.bu = E.bu) (h5 : C.sq = E.sq) (h6 : C.rq = E.rq) : C = E := by
  cases C; cases E
  dsimp only at h1 h2 h3 h4 h5 h6
  subst h1 h2 h3 h4 h5 h6
  rfl
theorem same27 (C E : Cr) (hC : RB C) (hE : RB E) (hCl : C.th.length ≤ 1000) (hEl : E.th.length ≤ 1000) (hok : ∀ f ∈ C.th, f.ok) : Spec Tryz.prog 27 [coreV C, coreV E] [] (fun d os' => (∃ b, d = .bool b ∧ (b = true ↔ C = E)) ∧ os' = []) := by
  have hCm : (C.th.map thD).length = C.th.length := List.length_map ..
  have hEm : (E.th.map thD).length = E.th.length := List.length_map ..
  refine Spec.frz (post' := fun d => ∃ b, d = .bool b ∧ (b = true ↔ C = E)) ?_
  by_cases hn : C.now = E.now
  · by_cases hlen : C.th.length = E.th.length
    · refine Spec.by Tryz.func27 rfl (by decide) (by decide +kernel) rfl ?_
      (refine goA ?_)
      refine Loop.inv (A := Nat) (List.range 47) (fun i => [(2, .ptr 0 0 10 0 0), (3, .ptr 1 0 10 0 0), (5, .int .i64 (i : Int))]) (fun i => [one (.row 30 10 false [coreV C]), one (.row 30 10 false [coreV E])]) (fun i => i ≤ C.th.length ∧ C.th.take i = E.th.take i) (fun i => C.th.length - i) 0 ⟨Nat.zero_le _, rfl⟩ ?_ ?_
      · exact Weak.start' rfl rfl tld
      rintro i ⟨hi, ht⟩
      dsimp only at hi ht ⊢
      (refine goA ?_)
      refine Br.dec (fun h0 => ?_) (fun h0 => ?_)
      · have hil : i < C.th.length := by omega
        have hib : i < E.th.length := by omega
        have hgC : C.th[i]? = some C.th[i] := List.getElem?_eq_getElem hil
        have hgE : E.th[i]? = some E.th[i] := List.getElem?_eq_getElem hib
        have hs := same53 C.th[i] E.th[i] (hok _ (List.getElem_mem hil))
        by_cases he : C.th[i] = E.th[i]
        · rw [decide_eq_true he] at hs
          (refine goA ?_)
          refine Opt.of (get_map hgC) ?_
          (refine goA ?_)
          refine Opt.of (get_map hgE) ?_
          (refine goA ?_)
          refine Call.mk ((hs).only _ rfl (by rintro d rfl; rfl)) ?_; rintro d os' ⟨rfl, rfl⟩
          (refine goA ?_)
          refine ⟨_, _, _, ?_, ⟨i + 1, ?_, rfl, rfl, rfl⟩, ?_⟩
          · show C.th.length - (i + 1) < C.th.length - i; omega
          · exact ⟨hil, by rw [List.take_add_one, List.take_add_one, ht, hgC, hgE, he]⟩
          · refine Weak.backT 2 (by simp) (by first | rfl | kernel_rfl) (by kernel_rfl) (Nat.le_of_ble_eq_true rfl) tld (by kernel_rfl) (by kernel_rfl)
        · rw [decide_eq_false he] at hs
          (refine goA ?_)
          refine Opt.of (get_map hgC) ?_
          (refine goA ?_)
          refine Opt.of (get_map hgE) ?_
          (refine goA ?_)
          refine Call.mk ((hs).only _ rfl (by rintro d rfl; rfl)) ?_; rintro d os' ⟨rfl, rfl⟩
          (refine goA ?_)
          refine Ret.mk [.tmp 4] rfl ?_; (refine goA ?_)
          exact ⟨_, .same _, rfl, false, rfl, ⟨fun h => (by cases h), fun h => absurd (by subst h; rfl) he⟩⟩
      · have hie : i = C.th.length := by omega
        have hth : C.th = E.th := by
          rw [hie, List.take_length, hlen, List.take_length] at ht
          exact ht
        have h77 := same77 C E hC hE
        have h78 := same78 C E hC hE
        (refine goA ?_)
        refine Call.mk (h77.only _ rfl (by rintro d ⟨b, rfl, _⟩; rfl)) ?_
        rintro d os' ⟨⟨b, rfl, hb⟩, rfl⟩
        cases b with
        | false =>
          (refine goA ?_)
          refine Ret.mk [.tmp 4] rfl ?_; (refine goA ?_)
          exact ⟨_, .same _, rfl, false, rfl, ⟨fun h => (by cases h), fun h => hb.2 (by rw [h])⟩⟩
        | true =>
          (refine goA ?_)
          refine Call.mk (h78.only _ rfl (by rintro d ⟨b, rfl, _⟩; rfl)) ?_
          rintro d os' ⟨⟨b, rfl, hb2⟩, rfl⟩
          (refine goA ?_)
          refine Ret.mk [.tmp 4] rfl ?_; (refine goA ?_)
          refine ⟨_, .same _, rfl, b, rfl, ⟨fun h => ?_, fun h => hb2.2 (by rw [h]; exact ⟨rfl, rfl, rfl⟩)⟩⟩
          obtain ⟨g1, g2, g3⟩ := hb2.1 h
          exact cr_ext hn hth (hb.1 rfl) g1 g2 g3
    · refine Spec.by Tryz.func27 rfl (by decide) (by decide +kernel) rfl ?_
      (refine goA ?_)
      refine Ret.mk [.tmp 4] rfl ?_; (refine goA ?_)
      exact ⟨_, .same _, rfl, false, rfl, ⟨fun h => (by cases h), fun h => absurd (by rw [h]) hlen⟩⟩
  · refine Spec.by Tryz.func27 rfl (by decide) (by decide +kernel) rfl ?_
    (refine goA ?_)
    refine Ret.mk [.tmp 4] rfl ?_; (refine goA ?_)
    exact ⟨_, .same _, rfl, false, rfl, ⟨fun h => (by cases h), fun h => absurd (by rw [h]) hn⟩⟩
end Go.Proofs.YtkceciebmkklpaaGreat.V
end
section
namespace Go.Proofs.YtkceciebmkklpaaGreat.V
open Go Go.Proofs
set_option maxRecDepth 100000
set_option maxHeartbeats 40000000
/-! Layer 12: moves. -/
abbrev Mv := Int × Int
@[reducible] def mvD (m : Mv) : D := .agg [.int .i64 m.1, .int .i64 m.2]
@[reducible] def mvs (l : List Mv) : D := .lst 2 false (l.map mvD)
@[reducible] def rowM (l : List Mv) : Fam := one (.row 69 2 true (l.map mvD))
theorem mvs_pure (l : List Mv) : D.pureL (l.map mvD) = true := pureL_map (fun _ => rfl) _
def oneC (g : Pg) (C : Cr) (m : Mv) : Cr × List Ev × Int :=
  if m.1 = 0 then ((stepC g C m.2).1, (stepC g C m.2).2.1, (stepC g C m.2).2.2.2)
  else if m.1 = 1 then ((tickC C m.2).1, [], 0) else (C, [], 1)
theorem oneC_ci {g : Pg} (hg : GoodP g) {C : Cr} (h : CI g C) (m : Mv) : CI g (oneC g C m).1 := by
  unfold oneC
  split
  · exact stepC_ci hg h _
  · split
    · exact tickC_ci h _
    · exact h
theorem one83 {g : Pg} (hg : GoodP g) {C : Cr} (h : CI g C) (m : Mv) : Spec Tryz.prog 83 [pgD g, coreV C, mvD m] [] (fun d os' => d = .tup [coreV (oneC g C m).1, evs (oneC g C m).2.1, .int .i64 (oneC g C m).2.2] ∧ os' = []) := by
  have hs := step22 hg h m.2
  have ht := tick57 hg h m.2
  unfold oneC
  by_cases h0 : m.1 = 0
  · rw [if_pos h0]
    refine Spec.frz (post' := fun d => d = .tup [coreV (stepC g C m.2).1, evs (stepC g C m.2).2.1, .int .i64 (stepC g C m.2).2.2.2]) ?_
    refine Spec.by Tryz.func83 rfl (by decide) (by decide +kernel) rfl ?_
    (refine goA ?_)
    refine Call.mk ((hs).only _ rfl (by rintro d rfl; rfl)) ?_; rintro d os' ⟨rfl, rfl⟩
    (refine goA ?_)
    refine Ret.mk [.cell 6 30, .tmp 7, .tmp 8] rfl ?_; (refine goA ?_)
    exact ⟨_, .same _, rfl, rfl⟩
  · rw [if_neg h0]
    by_cases h1 : m.1 = 1
    · rw [if_pos h1]
      refine Spec.frz (post' := fun d => d = .tup [coreV (tickC C m.2).1, evs [], .int .i64 0]) ?_
      refine Spec.by Tryz.func83 rfl (by decide) (by decide +kernel) rfl ?_
      (refine goA ?_)
      refine Call.mk ((ht).only _ rfl (by rintro d rfl; rfl)) ?_; rintro d os' ⟨rfl, rfl⟩
      (refine goA ?_)
      refine Ret.mk [.cell 6 30, .tmp 7, .tmp 8] rfl ?_; (refine goA ?_)
      exact ⟨_, View.tup (.cons (.same _) (.cons (View.nils _ _) (.cons (.same _) .nil))), rfl, rfl⟩
    · rw [if_neg h1]
      refine Spec.frz (post' := fun d => d = .tup [coreV C, evs [], .int .i64 1]) ?_
      refine Spec.by Tryz.func83 rfl (by decide) (by decide +kernel) rfl ?_
      (refine goA ?_)
      refine Ret.mk [.cell 6 30, .tmp 7, .tmp 8] rfl ?_; (refine goA ?_)
      exact ⟨_, View.tup (.cons (.same _) (.cons (View.nils _ _) (.cons (.same _) .nil))), rfl, rfl⟩
theorem step_evl {g : Pg} (hg : GoodP g) {C : Cr} (h : CI g C) (t : Int) : (stepC g C t).2.1.length ≤ 108 := by
  unfold stepC
  split
  · exact Nat.zero_le _
  rename_i h1
  split
  · exact Nat.zero_le _
  rename_i h2
  obtain ⟨b1, b2, b3, b4⟩ := beg_all hg h (t := t.toNat) (by omega) (Classical.not_not.1 h2)
  have := b4.xb.ev
  show (meetX g (begX g C t.toNat) t.toNat (stepT g (thAt C t.toNat)).2).ev.length ≤ 108
  omega
theorem one_evl {g : Pg} (hg : GoodP g) {C : Cr} (h : CI g C) (m : Mv) : (oneC g C m).2.1.length ≤ 108 := by
  unfold oneC
  split
  · exact step_evl hg h _
  · split <;> exact Nat.zero_le _
/-- The state behind moves, what was seen, how many went, and the error. -/
def runW (g : Pg) : List Mv → Cr → List Ev → Int → Cr × List Ev × Int × Int
  | [], C, ev, i => (C, ev, i, 0)
  | m :: l, C, ev, i => if (oneC g C m).2.2 = 0 then runW g l (oneC g C m).1 (ev ++ (oneC g C m).2.1) (i + 1) else (C, ev, i, (oneC g C m).2.2)
def runC (g : Pg) (C : Cr) (l : List Mv) : Cr × List Ev × Int × Int := runW g l C [] 0
theorem ev_app (a b : List Ev) : a.map evD ++ b.map evD = (a ++ b).map evD := (List.map_append ..).symm
theorem run31 {g : Pg} (hg : GoodP g) {C : Cr} (h : CI g C) (l : List Mv) (hl : l.length ≤ 10000) : Spec Tryz.prog 31 [pgD g, coreV C, mvs l] [] (fun d os' => d = .tup [coreV (runC g C l).1, evs (runC g C l).2.1, .int .i64 (runC g C l).2.2.1, .int .i64 (runC g C l).2.2.2] ∧ os' = []) := by
  have hlm : (l.map mvD).length = l.length := List.length_map ..
  obtain ⟨R, hR⟩ : ∃ R, runC g C l = R := ⟨_, rfl⟩
  unfold runC at hR ⊢
  rw [hR]
  refine Spec.frz (post' := fun d => d = .tup [coreV R.1, evs R.2.1, .int .i64 R.2.2.1, .int .i64 R.2.2.2]) ?_
  refine Spec.by Tryz.func31 rfl (by decide) (by decide +kernel) rfl ?_
  (refine goA ?_)
  refine Loop.inv (A := Nat × Nat × Cr × List Ev) (List.range 46) (fun a => [(2, mvs l), (3, .ptr 0 0 7 0 0), (4, .ptr 1 0 10 0 0), (6, .ptr 2 0 10 0 0), (10, .sl 3 0 3 0 a.2.1 none), (16, mvs l), (17, .int .i64 (l.map mvD).length), (18, .int .i64 (a.1 : Int))]) (fun a => [one (.row 26 7 false [pgD g]), one (.row 30 10 false [coreV a.2.2.1]), one (.row 30 10 false [z30]), rowE a.2.2.2]) (fun a => a.1 ≤ l.length ∧ a.2.1 = a.2.2.2.length ∧ a.2.2.2.length ≤ 108 * a.1 ∧ CI g a.2.2.1 ∧ runW g (l.drop a.1) a.2.2.1 a.2.2.2 a.1 = R) (fun a => l.length - a.1) (0, 0, C, []) ⟨Nat.zero_le _, rfl, Nat.zero_le _, h, hR⟩ ?_ ?_
  · refine Weak.trans (Weak.nilrow 10 rfl 84 3 true) ?_
    exact Weak.start' rfl rfl tld
  rintro ⟨i, n, E, ev⟩ ⟨hi, hn, hev, hci, hr⟩
  dsimp only at hi hn hev hci hr ⊢
  have hem : (ev.map evD).length = ev.length := List.length_map ..
  (refine goA ?_)
  refine Br.dec (fun h0 => ?_) (fun h0 => ?_)
  · have hil : i < l.length := by omega
    have hget : l[i]? = some l[i] := List.getElem?_eq_getElem hil
    have hs := one83 hg hci l[i]
    have hel := one_evl hg hci l[i]
    have hcx := oneC_ci hg hci l[i]
    rw [List.drop_eq_getElem_cons hil, runW] at hr
    obtain ⟨⟨E', ev', er⟩, hT⟩ : ∃ r, oneC g E l[i] = r := ⟨_, rfl⟩
    rw [hT] at hs hel hcx hr
    dsimp only at hs hel hcx hr
    have hem2 : (ev'.map evD).length = ev'.length := List.length_map ..
    by_cases he : er = 0
    · rw [if_pos he] at hr
      rw [he] at hs
      (refine goA ?_)
      refine Opt.of (get_map hget) ?_
      (refine goA ?_)
      refine Call.mk ((hs).only _ rfl (by rintro d rfl; rfl)) ?_; rintro d os' ⟨rfl, rfl⟩
      (refine goA ?_)
      refine ⟨_, _, _, ?_, ⟨(i + 1, n + (ev'.map evD).length, E', ev ++ ev'), ?_, rfl, rfl, rfl⟩, ?_⟩
      · show l.length - (i + 1) < l.length - i; omega
      · exact ⟨hil, by show _ = (ev ++ ev').length; rw [List.length_append, hem2, hn], by show (ev ++ ev').length ≤ 108 * (i + 1); rw [List.length_append]; omega, hcx, hr⟩
      · refine Weak.trans (Weak.on [(2, mvs l), (3, .ptr 0 0 7 0 0), (4, .ptr 1 0 10 0 0), (6, .ptr 2 0 10 0 0), (10, .sl 6 0 3 0 (n + (ev'.map evD).length) none), (16, mvs l), (17, .int .i64 (l.map mvD).length), (18, .int .i64 ((i : Int) + 1))] [one (.row 26 7 false [pgD g]), one (.row 30 10 false [coreV E']), one (.row 30 10 false [z30]), one .gone, one (.row 69 2 false [mvD l[i]]), one (.row 30 10 false [coreV E']), one (.row 84 3 true (ev.map evD ++ ev'.map evD))]) ?_
        rw [ev_app]
        refine Weak.trans (Weak.shift 6 3 (by decide) (by simp) (Nat.le_of_ble_eq_true rfl) (Nat.le_of_ble_eq_true rfl) (fun j => by cases j <;> rfl) rfl) ?_
        refine Weak.backT 4 (by simp) (by first | rfl | kernel_rfl) (by kernel_rfl) (Nat.le_of_ble_eq_true rfl) tld (by kernel_rfl) (by kernel_rfl)
    · rw [if_neg he] at hr
      (refine goA ?_)
      refine Opt.of (get_map hget) ?_
      (refine goA ?_)
      refine Call.mk ((hs).only _ rfl (by rintro d rfl; rfl)) ?_; rintro d os' ⟨rfl, rfl⟩
      (refine goA ?_)
      refine Ret.mk [.cell 6 30, .tmp 7, .tmp 8, .tmp 9] rfl ?_; (refine goA ?_)
      refine ⟨_, View.tup (.cons (.same _) (.cons (View.slAll (f := false) rfl rfl (by rw [hem, hn]) (by simp) (ViewL.same _) (pureL_map (fun _ => rfl) _)) (.cons (.same _) (.cons (.same _) .nil)))), rfl, ?_⟩
      rw [← hr]
      rfl
  · have hie : l.drop i = [] := List.drop_eq_nil_of_le (by omega)
    rw [hie, runW] at hr
    have hil : (i : Int) = (l.map mvD).length := by omega
    (refine goA ?_)
    refine Ret.mk [.cell 6 30, .tmp 7, .tmp 8, .tmp 9] rfl ?_; (refine goA ?_)
    refine ⟨_, View.tup (.cons (.same _) (.cons (View.slAll (f := false) rfl rfl (by rw [hem, hn]) (by simp) (ViewL.same _) (pureL_map (fun _ => rfl) _)) (.cons (.same _) (.cons (.same _) .nil)))), rfl, ?_⟩
    rw [← hr, hil]
    rfl
/-- All moves that go. -/
def allC (C : Cr) : List Mv := (ofK C [0]).map (fun t => ((0, t) : Mv)) ++ (if 0 < ((ofK C [1]).length : Int) then [((1, atC C - C.now) : Mv)] else [])
theorem mv_snoc (a : List Mv) (b : Mv) : a.map mvD ++ [mvD b] = (a ++ [b]).map mvD := by rw [List.map_append]; rfl
theorem all40 {g : Pg} (hg : GoodP g) {C : Cr} (h : CI g C) : Spec Tryz.prog 40 [pgD g, coreV C] [] (fun d os' => d = mvs (allC C) ∧ os' = []) := by
  have h8 := g_th8 hg h.z
  have hnow := h.z.now
  obtain ⟨ha1, ha2⟩ := atC_kept h
  have hR := ready52 C (by omega)
  have hN := next49 hg h
  obtain ⟨l, hle⟩ : ∃ l, ofK C [0] = l := ⟨_, rfl⟩
  have hll : l.length ≤ 1000 := by rw [← hle]; have := ofK_len C [0]; omega
  have hlm : (l.map (D.int .i64)).length = l.length := List.length_map ..
  obtain ⟨W, hW⟩ : ∃ W, allC C = W := ⟨_, rfl⟩
  have hW' := hW
  unfold allC at hW'
  rw [hle] at hW' hR
  rw [hW]
  refine Spec.frz (post' := fun d => d = mvs W) ?_
  refine Spec.by Tryz.func40 rfl (by decide) (by decide +kernel) rfl ?_
  (refine goA ?_)
  refine Call.mk ((hR).only _ rfl (by rintro d rfl; rfl)) ?_; rintro d os' ⟨rfl, rfl⟩
  (refine goA ?_)
  refine Loop.inv (A := Nat) (List.range 38) (fun i => [(3, .ptr 1 0 10 0 0), (5, .sl 2 0 2 0 i none), (11, ints l), (12, .int .i64 (l.map (D.int .i64)).length), (13, .int .i64 (i : Int))]) (fun i => [one (.row 26 7 false [pgD g]), one (.row 30 10 false [coreV C]), rowM ((l.take i).map (fun t => ((0, t) : Mv)))]) (fun i => i ≤ l.length) (fun i => l.length - i) 0 (Nat.zero_le _) ?_ ?_
  · refine Weak.trans (Weak.nilrow 5 rfl 69 2 true) ?_
    exact Weak.start' rfl rfl tld
  rintro i hi
  dsimp only at hi ⊢
  have htm : (((l.take i).map (fun t => ((0, t) : Mv))).map mvD).length = i := by rw [List.length_map, List.length_map, List.length_take]; omega
  (refine goA ?_)
  refine Br.dec (fun h0 => ?_) (fun h0 => ?_)
  · have hil : i < l.length := by omega
    have hget : l[i]? = some l[i] := List.getElem?_eq_getElem hil
    (refine goA ?_)
    refine Opt.of (get_map hget) ?_
    (refine goA ?_)
    refine App.only false rfl rfl ?_
    (refine goA ?_)
    refine ⟨_, _, _, ?_, ⟨i + 1, ?_, rfl, rfl, rfl⟩, ?_⟩
    · show l.length - (i + 1) < l.length - i; omega
    · exact hil
    · refine Weak.trans (Weak.on [(3, .ptr 1 0 10 0 0), (5, .sl 3 0 2 0 (i + 1) none), (11, ints l), (12, .int .i64 (l.map (D.int .i64)).length), (13, .int .i64 ((i : Int) + 1))] [one (.row 26 7 false [pgD g]), one (.row 30 10 false [coreV C]), one .gone, one (.row 69 2 true (((l.take i).map (fun t => ((0, t) : Mv))).map mvD ++ [mvD (0, l[i])]))]) ?_
      rw [mv_snoc, show (l.take i).map (fun t => ((0, t) : Mv)) ++ [(0, l[i])] = (l.take (i + 1)).map (fun t => ((0, t) : Mv)) by rw [List.take_add_one, hget, List.map_append]; rfl]
      refine Weak.trans (Weak.shift 3 2 (by decide) (by simp) (Nat.le_of_ble_eq_true rfl) (Nat.le_of_ble_eq_true rfl) (fun j => by cases j <;> rfl) rfl) ?_
      refine Weak.backT 3 (by simp) (by first | rfl | kernel_rfl) (by kernel_rfl) (Nat.le_of_ble_eq_true rfl) tld (by kernel_rfl) (by kernel_rfl)
  · have hie : l.take i = l := List.take_of_length_le (by omega)
    rw [hie] at htm ⊢
    by_cases hz : 0 < ((ofK C [1]).length : Int)
    · rw [decide_eq_true hz] at hN
      rw [if_pos hz] at hW'
      (refine goA ?_)
      refine Call.mk ((hN).only _ rfl (by rintro d rfl; rfl)) ?_; rintro d os' ⟨rfl, rfl⟩
      (refine goA ?_)
      refine App.only false rfl rfl ?_
      (refine goA ?_)
      refine Ret.weak (Weak.on [(4, .sl 3 0 2 0 (i + 1) none)] [one (.row 26 7 false [pgD g]), one (.row 30 10 false [coreV C]), one .gone, one (.row 69 2 true ((l.map (fun t => ((0, t) : Mv))).map mvD ++ [mvD (1, atC C - C.now)]))]) ?_
      rw [mv_snoc, hW']
      refine Ret.mk [.tmp 4] rfl ?_; (refine goA ?_)
      refine ⟨_, View.slAll (f := false) rfl rfl (by rw [← hW', List.length_map, List.length_append, List.length_singleton]; rw [List.length_map] at htm; omega) (by simp) (ViewL.same _) (mvs_pure _), rfl, rfl⟩
    · rw [decide_eq_false hz] at hN
      rw [if_neg hz, List.append_nil] at hW'
      (refine goA ?_)
      refine Call.mk ((hN).only _ rfl (by rintro d rfl; rfl)) ?_; rintro d os' ⟨rfl, rfl⟩
      (refine goA ?_)
      refine Ret.mk [.tmp 4] rfl ?_; (refine goA ?_)
      rw [hW'] at htm
      refine ⟨_, View.slAll (f := false) (es := W.map mvD) rfl (by show O.row 69 2 true ((l.map (fun t => ((0, t) : Mv))).map mvD) = _; rw [hW']) htm (by simp) (ViewL.same _) (mvs_pure _), rfl, rfl⟩
def anyC (C : Cr) : Mv × Bool := match allC C with
  | [] => ((0, 0), false)
  | m :: _ => (m, true)
theorem any41 {g : Pg} (hg : GoodP g) {C : Cr} (h : CI g C) : Spec Tryz.prog 41 [pgD g, coreV C] [] (fun d os' => d = .tup [mvD (anyC C).1, .bool (anyC C).2] ∧ os' = []) := by
  have hs := all40 hg h
  unfold anyC
  cases hW : allC C with
  | nil =>
    rw [hW] at hs
    refine Spec.frz (post' := fun d => d = .tup [mvD (0, 0), .bool false]) ?_
    refine Spec.by Tryz.func41 rfl (by decide) (by decide +kernel) rfl ?_
    (refine goA ?_)
    refine Call.mk ((hs).only _ rfl (by rintro d rfl; rfl)) ?_; rintro d os' ⟨rfl, rfl⟩
    (refine goA ?_)
    refine Loop.inv (A := Unit) (List.range 19) (fun _ => [(4, .ptr 2 0 2 0 0), (11, .int .i64 0), (12, .int .i64 0)]) (fun _ => [one (.row 26 7 false [pgD g]), one (.row 30 10 false [coreV C]), one (.row 69 2 false [mvD (0, 0)])]) (fun _ => True) (fun _ => 0) () trivial ?_ ?_
    · exact Weak.start' rfl rfl tld
    rintro ⟨⟩ _
    (refine goA ?_)
    refine Ret.mk [.cell 4 69, .tmp 5] rfl ?_; (refine goA ?_)
    exact ⟨_, .same _, rfl, rfl⟩
  | cons m W =>
    rw [hW] at hs
    have hWm : ((m :: W).map mvD).length = W.length + 1 := by rw [List.length_map]; rfl
    refine Spec.frz (post' := fun d => d = .tup [mvD m, .bool true]) ?_
    refine Spec.by Tryz.func41 rfl (by decide) (by decide +kernel) rfl ?_
    (refine goA ?_)
    refine Call.mk ((hs).only _ rfl (by rintro d rfl; rfl)) ?_; rintro d os' ⟨rfl, rfl⟩
    (refine goA ?_)
    refine Loop.inv (A := Unit) (List.range 19) (fun _ => [(4, .ptr 2 0 2 0 0), (10, mvs (m :: W)), (11, .int .i64 ((m :: W).map mvD).length), (12, .int .i64 0)]) (fun _ => [one (.row 26 7 false [pgD g]), one (.row 30 10 false [coreV C]), one (.row 69 2 false [mvD (0, 0)])]) (fun _ => True) (fun _ => 0) () trivial ?_ ?_
    · exact Weak.start' rfl rfl tld
    rintro ⟨⟩ _
    (refine goA ?_)
    refine Ret.mk [.cell 4 69, .tmp 5] rfl ?_; (refine goA ?_)
    exact ⟨_, .same _, rfl, rfl⟩
end Go.Proofs.YtkceciebmkklpaaGreat.V
end
section
namespace Go.Proofs.YtkceciebmkklpaaGreat.V
open Go Go.Proofs
set_option maxRecDepth 100000
set_option maxHeartbeats 4000000
/-! Where no move goes. -/
theorem tickW_st1 : ∀ (n : Nat) (C : Cr) (l : List Int) (k : Nat), (thAt (tickW n C l).1 k).st = 1 → (thAt C k).st = 1
  | 0, C, l, k, h => h
  | n + 1, C, l, k, h => by
    rw [tickW] at h
    split at h
    · exact h
    · have := tickW_st1 n _ _ k h
      unfold upTh at this
      rw [thAt_put] at this
      split at this
      · exact absurd this (by show ¬ (0 : Int) = 1; decide)
      · exact this
theorem step_ok0 {g : Pg} (hg : GoodP g) {C : Cr} (h : CI g C) {v : Int} (hv : v ∈ ofK C [0]) : (stepC g C v).2.2.2 = 0 := by
  obtain ⟨k, rfl, hk, h0⟩ := (ofK_mem v).1 hv
  exact (step_sti hg h hk h0).1
theorem tick_ne {g : Pg} {C : Cr} (h : CI g C) (hp : 0 < ((ofK C [1]).length : Int)) : (tickC C (atC C - C.now)).1 ≠ C := by
  obtain ⟨S, hS⟩ := sls_ex C
  cases S with
  | nil => rw [atC_nil hS] at hp; exact absurd hp (by decide)
  | cons v S =>
    obtain ⟨ha, _⟩ := atC_head hS
    obtain ⟨k, rfl, hk, h1⟩ := (hS.mem v).1 (by simp)
    rw [Int.toNat_natCast] at ha
    have hon := thI_on (h.at k)
    have hnow := h.z.now
    obtain ⟨C0, hC0⟩ : ∃ C0, tick0 C (atC C - C.now) = C0 := ⟨_, rfl⟩
    have hC0' := hC0
    have hth : C0.th = C.th := by rw [← hC0]; unfold tick0; split <;> rfl
    have hn : (thAt C k).on ≤ C0.now := by
      rw [← hC0]
      obtain ⟨o1, o2⟩ := hon
      have em : mn ((thAt C k).on - C.now) = (thAt C k).on - C.now := by unfold mn; rw [if_neg (by omega)]
      unfold tick0
      rw [ha, em]
      split
      · show _ ≤ keep _
        rw [show C.now + ((thAt C k).on - C.now) = (thAt C k).on by omega, ← (keep_id _).2 ⟨o1, o2⟩]
        exact Int.le_refl _
      · show (thAt C k).on ≤ C.now
        omega
    have hat : ∀ j, thAt C0 j = thAt C j := fun j => thAt_th hth j
    have hS0 : SlS C0 ((k : Int) :: S) := ⟨fun v => (hS.mem v).trans ⟨fun ⟨j, e, a, b⟩ => ⟨j, e, by rw [hth]; exact a, by rw [hat]; exact b⟩, fun ⟨j, e, a, b⟩ => ⟨j, e, by rw [← hth]; exact a, by rw [← hat]; exact b⟩⟩, hS.srt.imp (fun {a b} hr => by unfold SlR at hr ⊢; rw [hat, hat]; exact hr)⟩
    intro he
    unfold tickC at he
    rw [hC0] at he
    obtain ⟨m, hm⟩ : ∃ m, C.th.length = m + 1 := ⟨C.th.length - 1, by omega⟩
    rw [hm, tickW, hS0.pos (by rw [Int.toNat_natCast, hat]; exact hn), if_neg (by omega), Int.toNat_natCast] at he
    have h2 : (thAt C k).st = 1 := h1
    rw [← he] at h2
    have h3 := tickW_st1 _ _ _ _ h2
    unfold upTh at h3
    rw [thAt_eq (by rw [hth]; exact hk)] at h3
    exact absurd h3 (by show ¬ (0 : Int) = 1; decide)
theorem any_ok {g : Pg} (hg : GoodP g) {C : Cr} (h : CI g C) {m : Mv} {W : List Mv} (hm : allC C = m :: W) : (oneC g C m).2.2 = 0 ∧ (m.1 = 1 → (oneC g C m).1 ≠ C) := by
  unfold allC at hm
  cases hl : ofK C [0] with
  | nil =>
    rw [hl] at hm
    by_cases hp : 0 < ((ofK C [1]).length : Int)
    · rw [if_pos hp] at hm
      have e : m = (1, atC C - C.now) := by
        have := congrArg List.head? hm
        simpa using this.symm
      subst e
      refine ⟨rfl, fun _ => tick_ne h hp⟩
    · rw [if_neg hp] at hm
      cases hm
  | cons v l =>
    rw [hl] at hm
    have e : m = (0, v) := by
      have := congrArg List.head? hm
      simpa using this.symm
    subst e
    refine ⟨step_ok0 hg h (by rw [hl]; simp), fun h1 => absurd h1 (show ¬ (0 : Int) = 1 by decide)⟩
theorem of01n (C : Cr) : (((ofK C [0, 1]).length : Int) = 0) ↔ (ofK C [0] = [] ∧ ofK C [1] = []) := by
  have h01 : ∀ v, v ∈ ofK C [0, 1] ↔ (v ∈ ofK C [0] ∨ v ∈ ofK C [1]) := by
    intro v
    unfold ofK ofS ofi
    rw [List.mem_map, List.mem_map, List.mem_map]
    constructor
    · rintro ⟨k, hk, rfl⟩
      rw [List.mem_filter] at hk
      obtain ⟨h1, h2⟩ := hk
      have h2 : (C.th.getD k ⟨9, 0, [], [], 0⟩).st = 0 ∨ (C.th.getD k ⟨9, 0, [], [], 0⟩).st = 1 := by simpa using h2
      rcases h2 with h2 | h2
      · exact .inl ⟨k, List.mem_filter.2 ⟨h1, by simpa using h2⟩, rfl⟩
      · exact .inr ⟨k, List.mem_filter.2 ⟨h1, by simpa using h2⟩, rfl⟩
    · rintro (⟨k, hk, rfl⟩ | ⟨k, hk, rfl⟩)
      · rw [List.mem_filter] at hk
        have h2 : (C.th.getD k ⟨9, 0, [], [], 0⟩).st = 0 := by simpa using hk.2
        exact ⟨k, List.mem_filter.2 ⟨hk.1, by simpa using Or.inl h2⟩, rfl⟩
      · rw [List.mem_filter] at hk
        have h2 : (C.th.getD k ⟨9, 0, [], [], 0⟩).st = 1 := by simpa using hk.2
        exact ⟨k, List.mem_filter.2 ⟨hk.1, by simpa using Or.inr h2⟩, rfl⟩
  constructor
  · intro h
    have hn : ofK C [0, 1] = [] := List.eq_nil_of_length_eq_zero (by omega)
    refine ⟨List.eq_nil_iff_forall_not_mem.2 (fun v hv => ?_), List.eq_nil_iff_forall_not_mem.2 (fun v hv => ?_)⟩
    · have := (h01 v).2 (.inl hv); rw [hn] at this; cases this
    · have := (h01 v).2 (.inr hv); rw [hn] at this; cases this
  · rintro ⟨h0, h1⟩
    have hn : ofK C [0, 1] = [] := List.eq_nil_iff_forall_not_mem.2 (fun v hv => by
      rcases (h01 v).1 hv with h | h
      · rw [h0] at h; cases h
      · rw [h1] at h; cases h)
    rw [hn]; rfl
theorem over_none {C : Cr} (h : overK C = true) : ofK C [0] = [] ∧ ofK C [1] = [] := by
  have hl : ((ofK C [9]).length : Int) = (C.th.length : Int) := of_decide_eq_true h
  have hall : ∀ k, k < C.th.length → (thAt C k).st = 9 := by
    intro k hk
    have hf : ((List.range C.th.length).filter (fun k => decide ((C.th.getD k ⟨9, 0, [], [], 0⟩).st ∈ [(9 : Int)]))).length = (List.range C.th.length).length := by
      have : (ofK C [9]).length = ((List.range C.th.length).filter (fun k => decide ((C.th.getD k ⟨9, 0, [], [], 0⟩).st ∈ [(9 : Int)]))).length := by
        unfold ofK ofS ofi
        rw [List.length_map]
      rw [← this, List.length_range]
      omega
    have := (List.filter_eq_self.1 (List.Sublist.eq_of_length List.filter_sublist hf)) k (List.mem_range.2 hk)
    have h2 : (C.th.getD k ⟨9, 0, [], [], 0⟩).st = 9 := by simpa using this
    rw [thAt_lt hk]
    rw [List.getD_eq_getElem?_getD, List.getElem?_eq_getElem hk] at h2
    exact h2
  refine ⟨List.eq_nil_iff_forall_not_mem.2 (fun v hv => ?_), List.eq_nil_iff_forall_not_mem.2 (fun v hv => ?_)⟩
  · obtain ⟨k, _, hk, h0⟩ := (ofK_mem v).1 hv
    rw [hall k hk] at h0; cases h0
  · obtain ⟨k, _, hk, h0⟩ := (ofK_mem v).1 hv
    rw [hall k hk] at h0; cases h0
theorem any_iff (C : Cr) : (anyC C).2 = (!overK C && !stuckK C) := by
  have hA : (anyC C).2 = true ↔ ¬ (ofK C [0] = [] ∧ ofK C [1] = []) := by
    unfold anyC allC
    cases h0 : ofK C [0] with
    | nil =>
      cases h1 : ofK C [1] with
      | nil => simp
      | cons a b =>
        rw [if_pos (by rw [List.length_cons]; omega)]
        simp
    | cons a b => simp
  have hst : stuckK C = (decide (((ofK C [0, 1]).length : Int) = 0) && !overK C) := rfl
  cases ho : overK C with
  | true =>
    have := over_none ho
    cases ha : (anyC C).2 with
    | false => rfl
    | true => exact absurd this (hA.1 ha)
  | false =>
    rw [hst, ho]
    by_cases hz : ofK C [0] = [] ∧ ofK C [1] = []
    · rw [decide_eq_true ((of01n C).2 hz)]
      cases ha : (anyC C).2 with
      | false => rfl
      | true => exact absurd hz (hA.1 ha)
    · rw [decide_eq_false (fun h => hz ((of01n C).1 h))]
      exact hA.2 hz
end Go.Proofs.YtkceciebmkklpaaGreat.V
end
section
namespace Go.Proofs.YtkceciebmkklpaaGreat.V
open Go Go.RowKit Go.ChangeShapes Go.WideShapes

/-- Whatever reads as data of type t is told by a D; J: what else is known of it. -/
def Opens {α : Type} (P : Program) (t : TypeId) (enc : α → D) (J : α → Prop) : Prop :=
  ∀ {H : Type} (en : TypeId × Value → H) (w : World) (base : Nat) (sp : Nat → Bool) (held : Bool) (fuel : Nat) (cs : List Value) (x : DataW H × List MemPlace),
    DataW.trod en P w base sp held fuel t cs = some x → (x.1.weights P t).all (· ≤ reachBytes) = true →
    ∃ a v, rep bot (heapIm w) (enc a) v ∧ enc a ≠ .junk ∧ v.cells.toList = cs ∧ (∀ c ∈ cs, c.oneCell' = true) ∧ J a
theorem opens_int {P : Program} {t : TypeId} (ht : P.underlying t = some (.int .i64)) : Opens P t (D.int .i64) (fun n => -9223372036854775808 ≤ n ∧ n ≤ 9223372036854775807) := fun en w base sp held fuel cs x h _ => by
  obtain ⟨n, rfl, rfl, hw⟩ := DataW.trod_int ht h
  refine ⟨n, .int .i64 n, by rw [rep], by simp, rfl, by simp [Value.oneCell'], ?_⟩
  simp [Lit.wf, IntKind.min, IntKind.max, IntKind.signed, IntKind.bits] at hw
  omega
theorem exists_list {α : Type} (n : Nat) (Q : Nat → α → Prop) (h : ∀ i, i < n → ∃ a, Q i a) : ∃ xs : List α, xs.length = n ∧ ∀ i a, xs[i]? = some a → Q i a := by
  induction n with
  | zero => exact ⟨[], rfl, fun i a hi => by simp at hi⟩
  | succ n ih =>
    obtain ⟨xs, hl, hx⟩ := ih (fun i hi => h i (by omega))
    obtain ⟨a, ha⟩ := h n (by omega)
    refine ⟨xs ++ [a], by simp [hl], fun i b hi => ?_⟩
    by_cases hlt : i < n
    · rw [List.getElem?_append_left (by omega)] at hi; exact hx i b hi
    · have hle : i = n := by
        have := (List.getElem?_eq_some_iff.1 hi).1
        simp at this; omega
      subst hle
      rw [List.getElem?_append_right (by omega), hl] at hi
      simp at hi
      exact hi ▸ ha
theorem weights_at {H : Type} {P : Program} {e : TypeId} : ∀ {l : List (DataW H)} {d : DataW H}, d ∈ l → (DataW.weightsAll P e l).all (· ≤ reachBytes) = true → (d.weights P e).all (· ≤ reachBytes) = true
  | y :: r, d, hd, h => by
    rw [DataW.weightsAll, List.all_append, Bool.and_eq_true] at h
    rcases List.mem_cons.1 hd with rfl | hd
    · exact h.1
    · exact weights_at hd h.2
theorem repL_of {ρ : Pl} {I : Im} : ∀ (ds : List D) (vs : List Value), ds.length = vs.length → (∀ (i : Nat) d v, ds[i]? = some d → vs[i]? = some v → rep ρ I d v) → repL ρ I ds vs
  | [], [], _, _ => repL_nil.2 rfl
  | [], _ :: _, h, _ => by simp at h
  | _ :: _, [], h, _ => by simp at h
  | d :: ds, v :: vs, hl, h => repL_cons.2 ⟨v, vs, rfl, h 0 d v rfl rfl, repL_of ds vs (by simpa using hl) (fun i d' v' h1 h2 => h (i + 1) d' v' (by simpa using h1) (by simpa using h2))⟩
/-- The cells of a row of values, each of sz. -/
theorem flat_get {sz : Nat} : ∀ {us : List Value}, (∀ u ∈ us, u.cells.size = sz) → ∀ {j : Nat} {c : Value}, (flat us)[j]? = some c → ∃ u, us[j / sz]? = some u ∧ u.cells.toList[j % sz]? = some c ∧ 0 < sz
  | [], _, j, c, h => by simp [flat] at h
  | u :: us, hu, j, c, h => by
    rw [flat_cons] at h
    have hs : u.cells.toList.length = sz := by simpa using hu u (by simp)
    by_cases hj : j < sz
    · rw [List.getElem?_append_left (by omega)] at h
      exact ⟨u, by rw [Nat.div_eq_of_lt hj]; rfl, by rw [Nat.mod_eq_of_lt hj]; exact h, by omega⟩
    · rw [List.getElem?_append_right (by omega), hs] at h
      obtain ⟨u', h1, h2, h3⟩ := flat_get (fun u hu' => hu u (List.mem_cons_of_mem _ hu')) h
      refine ⟨u', ?_, ?_, h3⟩
      · rw [show j / sz = (j - sz) / sz + 1 by
          rw [show j = (j - sz) + sz by omega, Nat.add_div_right _ h3]; simp]
        simpa using h1
      · rw [← h2]; congr 1
        conv => lhs; rw [show j = (j - sz) + sz by omega]
        simp
theorem prefix_of {cs l : List Value} (h : ∀ (j : Nat) c, cs[j]? = some c → l[j]? = some c) : cs <+: l := by
  have hl : cs.length ≤ l.length := by
    rcases Nat.eq_zero_or_pos cs.length with h0 | h0
    · omega
    · have := h (cs.length - 1) _ (List.getElem?_eq_getElem (by omega))
      have := (List.getElem?_eq_some_iff.1 this).1
      omega
  have : cs = l.take cs.length := by
    apply List.ext_getElem?
    intro j
    by_cases hj : j < cs.length
    · rw [List.getElem?_take, if_pos hj, h j _ (List.getElem?_eq_getElem hj), List.getElem?_eq_getElem hj]
    · rw [List.getElem?_eq_none (by omega), List.getElem?_take, if_neg hj]
  rw [this]; exact List.take_prefix _ _
theorem opens_slice {α : Type} {P : Program} {t e : TypeId} {enc : α → D} {J : α → Prop} {sz : Nat} (ht : P.underlying t = some (.slice e)) (he : Opens P e enc J) (hsz : P.cellsOf e = sz) (h0 : 0 < sz) :
    Opens P t (fun xs : List α => D.lst sz false (xs.map enc)) (fun xs => xs.length ≤ maxLen ∧ xs.length * P.bytesOf e ≤ 140737488351232 ∧ ∀ x ∈ xs, J x) := fun en w base sp held fuel cs x h hwt => by
  rcases DataW.trod_slice ht h with ⟨rfl, rfl⟩ | ⟨a, len, cap, elems, rest, n, rfl, rfl, rfl, hb, hl, hm, hlen, hel, _, _⟩
  · refine ⟨[], .slice none 0 0, ?_, by simp, rfl, by simp [Value.oneCell'], by simp [maxLen], by simp, by simp⟩
    rw [rep]
    exact ⟨none, 0, [], rfl, by simp, by simp [maxLen], by simp, repL_nil.2 rfl, by simp, .inl rfl⟩
  · rw [DataW.weights, ht] at hwt
    simp only [List.all_cons, List.all_append, Bool.and_eq_true, decide_eq_true_eq, List.length_map] at hwt
    obtain ⟨hw0, hw1, _⟩ := hwt
    obtain ⟨xs, hxl, hx⟩ := exists_list len (fun i (p : α × Value) => rep bot (heapIm w) (enc p.1) p.2 ∧ Value.fine p.2 sz ∧ J p.1 ∧ ∀ k c, p.2.cells.toList[k]? = some c → w.cell? (a.add (i * sz + k)) = some c) (fun i hi => by
      have hE := hel i hi
      have hi2 : i < elems.length := by omega
      rw [List.getElem?_eq_getElem hi2, Option.bind_eq_some_iff] at hE
      obtain ⟨c, hc, hy⟩ := hE
      obtain ⟨p, v, h1, h2, h3, h4, h5⟩ := he en w base sp held n c _ hy (weights_at (l := elems.map (·.1)) (List.mem_map.2 ⟨_, List.getElem_mem hi2, rfl⟩) hw1)
      obtain ⟨_, hcl, hcc⟩ := World.cells?_some hc
      rw [hsz] at hcl hcc
      refine ⟨(p, v), h1, ⟨by simpa [← h3] using hcl, fun c hc => h4 c (by rw [← h3]; exact hc)⟩, h5, fun k u hk => ?_⟩
      rw [h3] at hk
      have hkl : k < sz := by have := (List.getElem?_eq_some_iff.1 hk).1; omega
      have := (hcc k hkl).trans hk
      rw [← this]
      congr 1
      unfold Addr.add
      by_cases hm : i * sz = 0 <;> by_cases hn : k = 0 <;> simp [hm, hn, Nat.add_assoc])
    have hfine : ∀ u ∈ xs.map (·.2), Value.fine u sz := by
      intro u hu
      obtain ⟨p, hp, rfl⟩ := List.mem_map.1 hu
      obtain ⟨j, hj⟩ := List.getElem?_of_mem hp
      exact (hx j p hj).2.1
    refine ⟨xs.map (·.1), .slice (some a) len cap, ?_, by simp, rfl, by simp [Value.oneCell'], ?_, ?_, ?_⟩
    · rw [rep]
      refine ⟨some a, cap, xs.map (·.2), by simp [hxl], by simpa [hxl] using hl, hm, by simp, repL_of _ _ (by simp) ?_, hfine, ?_⟩
      · intro i d v h1 h2
        rw [List.map_map, List.getElem?_map, Option.map_eq_some_iff] at h1
        rw [List.getElem?_map, Option.map_eq_some_iff] at h2
        obtain ⟨p, hp, rfl⟩ := h1
        obtain ⟨q, hq, rfl⟩ := h2
        have : p = q := Option.some.inj (hp.symm.trans hq)
        subst this
        exact (hx i p hp).1
      · rcases Nat.eq_zero_or_pos len with hz | hz
        · left; rw [List.eq_nil_of_length_eq_zero (l := xs) (by omega)]; rfl
        · right
          have hcell : ∀ j c, (flat (xs.map (·.2)))[j]? = some c → w.cell? (a.add j) = some c := by
            intro j c hj
            obtain ⟨u, h1, h2, h3⟩ := flat_get (fun u hu => (hfine u hu).1) hj
            rw [List.getElem?_map, Option.map_eq_some_iff] at h1
            obtain ⟨p, hp, rfl⟩ := h1
            have := (hx _ p hp).2.2.2 _ c h2
            rwa [Nat.mul_comm, Nat.div_add_mod] at this
          have hfl : (flat (xs.map (·.2))).length = len * sz := by rw [flat_length (fun u hu => (hfine u hu).1)]; simp [hxl]
          have h00 := hcell 0 _ (List.getElem?_eq_getElem (by rw [hfl]; exact Nat.mul_pos hz h0))
          have ha0 : a.add 0 = a := by simp [Addr.add]
          rw [ha0] at h00
          obtain ⟨b, o, spt⟩ := a
          unfold World.cell? at h00
          split at h00
          case h_2 => simp at h00
          rename_i arr t' fz hblk
          have hsp : spt = none := by cases spt with | none => rfl | some k => simp at h00
          subst hsp
          refine ⟨b, o, arr, t', fz, rfl, hblk, prefix_of fun j c hj => ?_⟩
          have := hcell j c hj
          have ea : Addr.add ⟨b, o, none⟩ j = ⟨b, o + j, none⟩ := by unfold Addr.add; by_cases hj0 : j = 0 <;> simp [hj0]
          rw [ea] at this
          unfold World.cell? at this
          have hblk' : w.heap[b]? = some (.cells arr t' fz) := hblk
          rw [hblk'] at this
          simp at this
          rw [List.getElem?_drop, Array.getElem?_toList]; exact this
    · have hmm : maxLen = 9223372036854775807 := by decide
      simp only [List.length_map, hxl]; omega
    · have hle : (xs.map (·.1)).length ≤ elems.length + rest.length := by simp [hxl]; omega
      refine Nat.le_trans (Nat.mul_le_mul_right _ hle) (Nat.le_trans hw0 ?_)
      decide
    · intro p hp
      obtain ⟨q, hq, rfl⟩ := List.mem_map.1 hp
      obtain ⟨j, hj⟩ := List.getElem?_of_mem hq
      exact (hx j q hj).2.2.1

/-- The fields of a struct, one behind the other. -/
def Fits {H : Type} (en : TypeId × Value → H) (P : Program) (w : World) (base : Nat) (sp : Nat → Bool) (held : Bool) (fuel : Nat) : List TypeId → List Value → List (DataW H × List MemPlace) → Prop
  | [], cs, ys => cs = [] ∧ ys = []
  | t :: ts, cs, ys => ∃ y ys', ys = y :: ys' ∧ P.cellsOf t ≤ cs.length ∧ DataW.trod en P w base sp held fuel t (cs.take (P.cellsOf t)) = some y ∧ Fits en P w base sp held fuel ts (cs.drop (P.cellsOf t)) ys'
def OpensL {α : Type} (P : Program) (ts : List TypeId) (enc : α → List D) (J : α → Prop) : Prop :=
  ∀ {H : Type} (en : TypeId × Value → H) (w : World) (base : Nat) (sp : Nat → Bool) (held : Bool) (fuel : Nat) (cs : List Value) (ys : List (DataW H × List MemPlace)),
    Fits en P w base sp held fuel ts cs ys → (DataW.weightsEach P ts (ys.map (·.1))).all (· ≤ reachBytes) = true → ∃ a, repL bot (heapIm w) (enc a) cs ∧ (∀ c ∈ cs, c.oneCell' = true) ∧ J a
theorem opensL_one {α : Type} {P : Program} {t : TypeId} {enc : α → D} {J : α → Prop} (h : Opens P t enc J) : OpensL P [t] (fun a => (enc a).cells) J := fun en w base sp held fuel cs ys hf hw => by
  obtain ⟨y, ys', rfl, hle, hy, h0, rfl⟩ := hf
  have he : cs.take (P.cellsOf t) = cs := by
    apply List.take_of_length_le
    have := congrArg List.length h0
    simp at this; omega
  rw [he] at hy
  obtain ⟨a, v, h1, h2, h3, h4, h5⟩ := h en w base sp held fuel cs y hy (by simpa [DataW.weightsEach] using hw)
  exact ⟨a, by rw [← h3]; exact rep_cells h2 h1, h4, h5⟩
theorem opensL_cons {α β : Type} {P : Program} {t : TypeId} {ts : List TypeId} {enc : α → D} {enc' : β → List D} {J : α → Prop} {J' : β → Prop} (h : Opens P t enc J) (h' : OpensL P ts enc' J') :
    OpensL P (t :: ts) (fun x : α × β => (enc x.1).cells ++ enc' x.2) (fun x => J x.1 ∧ J' x.2) := fun en w base sp held fuel cs ys hf hw => by
  obtain ⟨y, ys', rfl, hle, hy, hr⟩ := hf
  simp only [List.map_cons, DataW.weightsEach, List.all_append, Bool.and_eq_true] at hw
  obtain ⟨a, v, h1, h2, h3, h4, h5⟩ := h en w base sp held fuel _ _ hy hw.1
  obtain ⟨b, k1, k2, k3⟩ := h' en w base sp held fuel _ _ hr hw.2
  refine ⟨(a, b), ?_, ?_, h5, k3⟩
  · rw [← List.take_append_drop (P.cellsOf t) cs]
    exact repL_append (by rw [← h3]; exact rep_cells h2 h1) k1
  · intro c hc
    rw [← List.take_append_drop (P.cellsOf t) cs] at hc
    exact (List.mem_append.1 hc).elim (h4 c) (k2 c)
/-- The fields lie one behind the other, from o on. -/
def rowed (P : Program) : Nat → List Field → Nat → Bool
  | o, [], n => o == n
  | o, f :: fs, n => f.offset == o && rowed P (o + P.cellsOf f.type) fs n
theorem rowed_le {P : Program} {n : Nat} : ∀ (gs : List Field) (o : Nat), rowed P o gs n = true → o ≤ n
  | [], o, h => by simp only [rowed, beq_iff_eq] at h; omega
  | g :: gs, o, h => by simp only [rowed, Bool.and_eq_true, beq_iff_eq] at h; have := rowed_le gs _ h.2; omega
theorem fits_of {H : Type} {en : TypeId × Value → H} {P : Program} {w : World} {base : Nat} {sp : Nat → Bool} {held : Bool} {fuel : Nat} {n : Nat} : ∀ (fs : List Field) (o : Nat) (cs0 cs : List Value) (ys : List (DataW H × List MemPlace)),
    rowed P o fs n = true → cs0.length = n → cs = cs0.drop o → ys.length = fs.length → (∀ (i : Nat) (f : Field), fs[i]? = some f → DataW.trod en P w base sp held fuel f.type ((cs0.drop f.offset).take (P.cellsOf f.type)) = ys[i]?) → Fits en P w base sp held fuel (fs.map (·.type)) cs ys
  | [], o, cs0, cs, ys, hr, hn, hc, hl, _ => by
    simp only [rowed, beq_iff_eq] at hr
    refine ⟨?_, List.length_eq_zero_iff.1 hl⟩
    rw [hc, hr, ← hn, List.drop_length]
  | f :: fs, o, cs0, cs, ys, hr, hn, hc, hl, h => by
    simp only [rowed, Bool.and_eq_true, beq_iff_eq] at hr
    obtain ⟨ho, hr⟩ := hr
    cases ys with
    | nil => simp at hl
    | cons y ys =>
      have h0 := h 0 f rfl
      simp only [List.getElem?_cons_zero] at h0
      have hle1 := rowed_le fs _ hr
      refine ⟨y, ys, rfl, ?_, ?_, fits_of fs (o + P.cellsOf f.type) cs0 _ ys hr hn ?_ (by simpa using hl) (fun i g hg => by simpa using h (i + 1) g (by simpa using hg))⟩
      · show P.cellsOf f.type ≤ cs.length
        rw [hc, List.length_drop]; omega
      · rw [hc, ← ho]; exact h0
      · rw [hc, List.drop_drop]
theorem opens_struct {α : Type} {P : Program} {t : TypeId} {fs : Array Field} {enc : α → List D} {J : α → Prop} (ht : P.underlying t = some (.struct fs)) (hr : rowed P 0 fs.toList (P.cellsOf t) = true) (h : OpensL P (fs.toList.map (·.type)) enc J) :
    Opens P t (fun a => .agg (enc a)) J := fun en w base sp held fuel cs x hx hw => by
  obtain ⟨xs, n, rfl, rfl, hl, hlen, hf⟩ := DataW.trod_struct ht hx
  obtain ⟨a, h1, h2, h3⟩ := h en w base sp held n cs xs (fits_of fs.toList 0 cs cs xs hr hl (by simp) (by simpa using hlen) (fun i f hi => hf i f (by simpa using hi))) (by rw [DataW.weights, ht] at hw; exact hw)
  exact ⟨a, .agg cs.toArray, by rw [rep]; exact ⟨_, rfl, by simpa using h1⟩, by simp, by simp [Value.cells], h2, h3⟩
theorem opens_iso {α β : Type} {P : Program} {t : TypeId} {enc : α → D} {enc' : β → D} {J : α → Prop} {J' : β → Prop} (h : Opens P t enc J) (g : α → β) (he : ∀ a, enc' (g a) = enc a) (hJ : ∀ a, J a → J' (g a)) : Opens P t enc' J' := fun en w base sp held fuel cs x hx hw => by
  obtain ⟨a, v, h1, h2, h3, h4, h5⟩ := h en w base sp held fuel cs x hx hw
  exact ⟨g a, v, by rw [he]; exact h1, by rw [he]; exact h2, h3, h4, hJ a h5⟩

/-! ### A row of parameters -/
def OpensA {α : Type} (P : Program) (ts : List TypeId) (enc : α → List D) (J : α → Prop) : Prop :=
  ∀ {H : Type} (en : TypeId × Value → H) (w : World) (base : Nat) (sp : Nat → Bool) (held : Bool) (r : Reach) (b0 : Nat) (args : List Value) (ds : List (DataW H)) (ps : List MemPlace),
    DataW.TrodAll en P w base sp held ts args ds ps → (∀ (j : Nat) t v, ts[j]? = some t → args[j]? = some v → Value.okWide P w r b0 t v) → (DataW.weightsEach P ts ds).all (· ≤ reachBytes) = true → ∃ a, repL bot (heapIm w) (enc a) args ∧ J a
theorem opensA_nil {P : Program} : OpensA P [] (fun _ : Unit => []) (fun _ => True) := fun en w base sp held r b0 args ds ps h _ _ => by
  obtain ⟨rfl, _⟩ := trodAll_nil h
  exact ⟨(), repL_nil.2 rfl, trivial⟩
/-- A type whose values are one kind: of one cell, or of cells in a row. -/
def kindly (P : Program) (t : TypeId) : Option Bool :=
  match P.underlying t with
  | some (.struct _) => some true
  | some (.int _) | some .bool | some (.slice _) | some .string => some false
  | _ => none
theorem okWide_kindly {P : Program} {w : World} {r : Reach} {b0 : Nat} {t : TypeId} {b : Bool} (hk : kindly P t = some b) {v u : Value} (h : Value.okWide P w r b0 t v) (hc : v.cells.toList = u.cells.toList) (hu : (∃ cs, u = .agg cs) ↔ b = true) : u = v := by
  have hc' : v.cells = u.cells := Array.ext' hc
  cases b
  · have hv : ¬ ∃ cs, v = .agg cs := by
      unfold kindly at hk
      split at hk <;> simp at hk
      · rename_i ht; obtain ⟨n, rfl⟩ := okWide_int ht h; simp
      · rename_i ht; obtain ⟨n, rfl⟩ := okWide_bool ht h; simp
      · rename_i ht; obtain ⟨a, l, c, rfl⟩ := okWide_slice ht h; simp
      · rename_i ht; obtain ⟨n, rfl⟩ := okWide_string ht h; simp
    have hu' : ¬ ∃ cs, u = .agg cs := fun h => by simpa using hu.1 h
    have e1 : ∀ x : Value, (¬ ∃ cs, x = .agg cs) → x.cells = #[x] := by
      intro x hx
      cases x <;> first | rfl | exact absurd ⟨_, rfl⟩ hx
    rw [e1 v hv, e1 u hu'] at hc'
    have := congrArg Array.toList hc'
    simpa using this.symm
  · obtain ⟨cs, rfl⟩ := hu.2 rfl
    obtain ⟨cs', rfl⟩ : ∃ cs, v = .agg cs := by
      unfold kindly at hk
      split at hk <;> simp at hk
      rename_i ht
      unfold Value.okWide at h
      rw [ht] at h
      obtain ⟨cs, hcs, _⟩ := h
      exact ⟨cs, hcs⟩
    simp only [Value.cells] at hc'
    rw [hc']
def D.isAgg : D → Bool | .agg _ => true | _ => false
theorem rep_agg {ρ : Pl} {I : Im} {d : D} {v : Value} (hj : d ≠ .junk) (h : rep ρ I d v) : (∃ cs, v = .agg cs) ↔ d.isAgg = true := by
  cases d <;> simp only [D.isAgg] <;> rw [rep] at h
  case agg cs => obtain ⟨arr, rfl, h⟩ := h; simp
  case junk => exact absurd rfl hj
  case int => subst h; simp
  case bool => subst h; simp
  case str => subst h; simp
  case nilp => subst h; simp
  case ptr => obtain ⟨p, _, _, rfl⟩ := h; simp
  case pel => obtain ⟨b, o, arr, t, fz, u, rfl, _⟩ := h; simp
  case nils => subst h; simp
  case lst => obtain ⟨A, c, us, rfl, _⟩ := h; simp
  case sl => obtain ⟨p, A, c, _, rfl, _⟩ := h; simp
  case tup => obtain ⟨arr, rfl, h⟩ := h; simp
  case fn => obtain ⟨x, y, rfl, _⟩ := h; simp
  case nilf => subst h; simp
  case mp => obtain ⟨p, _, _, rfl⟩ := h; simp
  case yl => obtain ⟨p, _, _, rfl⟩ := h; simp
theorem opensA_cons {α β : Type} {P : Program} {t : TypeId} {ts : List TypeId} {enc : α → D} {enc' : β → List D} {J : α → Prop} {J' : β → Prop} {b : Bool} (hk : kindly P t = some b) (hb : ∀ a, (enc a).isAgg = b) (h : Opens P t enc J) (h' : OpensA P ts enc' J') :
    OpensA P (t :: ts) (fun x : α × β => enc x.1 :: enc' x.2) (fun x => J x.1 ∧ J' x.2) := fun en w base sp held r b0 args ds ps hA hval hw => by
  obtain ⟨v, vs, d, ds', p, q, rfl, rfl, rfl, ⟨fuel, hf⟩, hr⟩ := trodAll_cons hA
  simp only [DataW.weightsEach, List.all_append, Bool.and_eq_true] at hw
  obtain ⟨a, u, h1, h2, h3, h4, h5⟩ := h en w base sp held fuel _ _ hf hw.1
  obtain ⟨c, k1, k2⟩ := h' en w base sp held r b0 vs ds' q hr (fun j t v ht hv => hval (j + 1) t v (by simpa using ht) (by simpa using hv)) hw.2
  have : u = v := okWide_kindly hk (hval 0 t v rfl rfl) h3.symm (by rw [rep_agg h2 h1, hb])
  subst this
  exact ⟨(a, c), repL_cons.2 ⟨_, _, rfl, h1, k1⟩, h5, k2⟩

/-! ### Behind the call -/
theorem trodAll_below {H : Type} {en : TypeId × Value → H} {P : Program} (hl : laidOutB P = true) {W W' : World} (hb : Below W.heap.size W W') : ∀ {ts : List TypeId} {vs : List Value} {ds : List (DataW H)} {ps : List MemPlace},
    (ts.all fun t => P.readableRec t && decide (t < P.types.size)) = true → DataW.TrodAll en P W 0 (fun _ => true) true ts vs ds ps → DataW.TrodAll en P W' 0 (fun b => decide (b < W.heap.size)) true ts vs ds ps
  | [], [], [], _, _, h => h
  | t :: ts, v :: vs, d :: ds, ps, ht, h => by
    simp only [List.all_cons, Bool.and_eq_true, decide_eq_true_eq] at ht
    obtain ⟨p, q, h1, h2, e⟩ := h
    have lt : ∀ x ∈ p, x.block < W.heap.size := by obtain ⟨m, hm⟩ := h1; exact DataW.trod_lt m _ _ _ hm
    exact ⟨p, q, Below.trod hl ht.1.1 ht.1.2 h1 hb lt, trodAll_below hl hb (by simpa using ht.2) h2, e⟩
  | [], _ :: _, _, _, _, h | [], [], _ :: _, _, _, h | _ :: _, [], _, _, _, h | _ :: _, _ :: _, [], _, _, h => h.elim
end Go.Proofs.YtkceciebmkklpaaGreat.V
end
section
namespace Go.Proofs.YtkceciebmkklpaaGreat.V
open Go Go.Proofs
set_option maxRecDepth 100000
set_option maxHeartbeats 40000000
theorem thI_okS {g : Pg} (hg : GoodP g) {f : Th} (h : ThI g f) : f.ok := by
  rcases h with ⟨h1, _⟩ | h
  · rw [h1]; exact ⟨by show (0 : Nat) ≤ _; omega, by show (0 : Nat) ≤ _; omega, fun f hf => by cases hf⟩
  · have h2 : Th.ok { f with st := 0, on := 0 } := good_ok hg h.1
    exact ⟨h2.fl, h2.sl, h2.fo⟩
end Go.Proofs.YtkceciebmkklpaaGreat.V
end
section
namespace Go.Proofs.YtkceciebmkklpaaGreat.V
open Go Go.Proofs
set_option maxRecDepth 100000
set_option maxHeartbeats 4000000
/-! Who joins is told when it is over. -/
def rdyT (f : Th) : Th := { f with st := 0, on := 0 }
/-- k, which joined, still does; or whom it joined is over, and it was told, or is over. -/
def JP (x y : Xs) (k : Nat) : Prop := thAt y.C k = thAt x.C k ∨ ∃ u : Nat, (thAt x.C k).on = (u : Int) ∧ (thAt y.C u).st = 9 ∧ ((thAt y.C k).st = 9 ∨ ((tellT (rdyT (thAt x.C k)) [(thAt y.C u).code]).2 = true ∧ thAt y.C k = (tellT (rdyT (thAt x.C k)) [(thAt y.C u).code]).1))
def JR (t : Nat) (x y : Xs) : Prop := ∀ k, k ≠ t → (thAt x.C k).st = 2 → JP x y k
/-- Who is over stays as it is. -/
def DD (x y : Xs) : Prop := ∀ j, (thAt x.C j).st = 9 → thAt y.C j = thAt x.C j
theorem JP.more {x y z : Xs} {k : Nat} (h : JP x y k) (h2 : (thAt x.C k).st = 2) (hz : (thAt y.C k).st = 2 → JP y z k) (hk : (thAt y.C k).st ≠ 2 → thAt z.C k = thAt y.C k) (hd : DD y z) : JP x z k := by
  rcases h with h | ⟨u, h3, h4, h5⟩
  · have h6 := hz (by rw [h]; exact h2)
    unfold JP at h6 ⊢
    rw [h] at h6
    exact h6
  · have hne : (thAt y.C k).st ≠ 2 := by
      rcases h5 with h5 | ⟨h5, h6⟩
      · omega
      · rw [h6, (tellT_st h5).1]; show (0 : Int) ≠ 2; decide
    have ek := hk hne
    have eu := hd u h4
    exact .inr ⟨u, h3, by rw [eu]; exact h4, by rw [ek, eu]; exact h5⟩
theorem DD.trans {x y z : Xs} (h : DD x y) (h2 : DD y z) : DD x z := fun j hj => by rw [h2 j (by rw [h j hj]; exact hj), h j hj]
theorem DD.tame {u : Nat} {x y : Xs} (h : Tame u x y) (hu : (thAt x.C u).st ≠ 9) : DD x y := fun j hj => h.stay j (by rintro rfl; exact hu hj) (by omega)
/-- One thing behind the other. -/
theorem JR.trans {t : Nat} {x y z : Xs} (h : JR t x y) (h2 : JR t y z) (hs : Sti t y z) (hd : DD y z) : JR t x z := fun k hk h3 => (h k hk h3).more h3 (fun h4 => h2 k hk h4) (fun h4 => by
  rcases h k hk h3 with e | ⟨u, _, _, h5⟩
  · rw [e] at h4; exact absurd h3 h4
  · refine hs.stay k hk ?_
    rcases h5 with h5 | ⟨h5, h6⟩
    · exact .inr (.inr h5)
    · exact .inl (by rw [h6, (tellT_st h5).1]; rfl)) hd
/-- All that is kept of one thing after the other. -/
structure JS (t : Nat) (x y : Xs) : Prop where
  jr : JR t x y
  st : Sti t x y
  dd : DD x y
theorem JS.trans {t : Nat} {x y z : Xs} (h : JS t x y) (h2 : JS t y z) : JS t x z := ⟨h.jr.trans h2.jr h2.st h2.dd, h.st.trans h2.st, h.dd.trans h2.dd⟩
end Go.Proofs.YtkceciebmkklpaaGreat.V
end
section
namespace Go.Proofs.YtkceciebmkklpaaGreat.V
open Go Go.Proofs
set_option maxRecDepth 100000
set_option maxHeartbeats 4000000
/-- Whoever ends is seen to. -/
structure EvM (x y : Xs) : Prop where
  len : x.ev.length ≤ y.ev.length
  die : ∀ j, (thAt x.C j).st ≠ 9 → (thAt y.C j).st = 9 → x.ev.length < y.ev.length
theorem EvM.trans {x y z : Xs} (h : EvM x y) (h2 : EvM y z) : EvM x z := by
  refine ⟨Nat.le_trans h.len h2.len, fun j h3 h4 => ?_⟩
  by_cases h5 : (thAt y.C j).st = 9
  · exact Nat.lt_of_lt_of_le (h.die j h3 h5) h2.len
  · exact Nat.lt_of_le_of_lt h.len (h2.die j h5 h4)
structure JE (t : Nat) (x y : Xs) : Prop where
  js : JS t x y
  ev : EvM x y
theorem JE.trans {t : Nat} {x y z : Xs} (h : JE t x y) (h2 : JE t y z) : JE t x z := ⟨h.js.trans h2.js, h.ev.trans h2.ev⟩
/-- What a step does to who joins, and that its end is seen. -/
structure JF (t : Nat) (x y : Xs) : Prop where
  jr : JR t x y
  ev : EvM x y
theorem JE.f {t : Nat} {x y : Xs} (h : JE t x y) : JF t x y := ⟨h.js.jr, h.ev⟩
end Go.Proofs.YtkceciebmkklpaaGreat.V
end
section
namespace Go.Proofs.YtkceciebmkklpaaGreat.V
open Go Go.Proofs
set_option maxRecDepth 100000
set_option maxHeartbeats 40000000
theorem evD_inj {a b : Ev} : (decide (a.1 = b.1) && (decide (a.2.1 = b.2.1) && (decide (a.2.2 = b.2.2) && true))) = decide (a = b) := by
  obtain ⟨x, y, z⟩ := a
  obtain ⟨x', y', z'⟩ := b
  simp [Prod.mk.injEq]
theorem same34g (a b : List Ev) (ha : a.length ≤ 1000000) (hb : b.length ≤ 1000000) : Spec Tryz.prog 34 [evs a, evs b] [] (fun d os' => d = .bool (decide (a = b)) ∧ os' = []) := by
  have hAm : (a.map evD).length = a.length := List.length_map ..
  have hBm : (b.map evD).length = b.length := List.length_map ..
  by_cases hlen : a.length = b.length
  · refine Spec.frz (post' := fun d => d = .bool (decide (a = b))) ?_
    refine Spec.by Tryz.func34 rfl (by decide) (by decide +kernel) rfl ?_
    (refine goA ?_)
    refine Loop.inv (A := Nat) (List.range 27) (fun i => [(0, evs a), (1, evs b), (5, .int .i64 (i : Int))]) (fun i => []) (fun i => i ≤ a.length ∧ a.take i = b.take i) (fun i => a.length - i) 0 ⟨Nat.zero_le _, rfl⟩ ?_ ?_
    · exact Weak.start' rfl rfl tld
    rintro i ⟨hi, ht⟩
    dsimp only at hi ht ⊢
    (refine goA ?_)
    refine Br.dec (fun h0 => ?_) (fun h0 => ?_)
    · have hil : i < a.length := by omega
      have hib : i < b.length := by omega
      have hgA : a[i]? = some a[i] := List.getElem?_eq_getElem hil
      have hgB : b[i]? = some b[i] := List.getElem?_eq_getElem hib
      have hj := evD_inj (a := a[i]) (b := b[i])
      by_cases he : a[i] = b[i]
      · rw [decide_eq_true he] at hj
        have hn : (!(decide (a[i].1 = b[i].1) && (decide (a[i].2.1 = b[i].2.1) && (decide (a[i].2.2 = b[i].2.2) && true)))) = false := by rw [hj]; rfl
        (refine goA ?_)
        refine Opt.of (get_map hgA) ?_
        (refine goA ?_)
        refine Opt.of (get_map hgB) ?_
        (refine goA ?_)
        rw [hn]
        (refine goA ?_)
        refine ⟨_, _, _, ?_, ⟨i + 1, ?_, rfl, rfl, rfl⟩, ?_⟩
        · show a.length - (i + 1) < a.length - i; omega
        · exact ⟨hil, by rw [List.take_add_one, List.take_add_one, ht, hgA, hgB, he]⟩
        · refine Weak.backT 0 (by simp) (by first | rfl | kernel_rfl) (by kernel_rfl) (Nat.le_of_ble_eq_true rfl) tld (by kernel_rfl) (by kernel_rfl)
      · rw [decide_eq_false he] at hj
        have hn : (!(decide (a[i].1 = b[i].1) && (decide (a[i].2.1 = b[i].2.1) && (decide (a[i].2.2 = b[i].2.2) && true)))) = true := by rw [hj]; rfl
        (refine goA ?_)
        refine Opt.of (get_map hgA) ?_
        (refine goA ?_)
        refine Opt.of (get_map hgB) ?_
        (refine goA ?_)
        rw [hn]
        (refine goA ?_)
        refine Ret.mk [.tmp 4] rfl ?_; (refine goA ?_)
        refine ⟨_, .same _, rfl, ?_⟩
        rw [decide_eq_false (fun e => he (by subst e; rfl))]
    · have hie : i = a.length := by omega
      have hAB : a = b := by
        rw [hie, List.take_length, hlen, List.take_length] at ht
        exact ht
      (refine goA ?_)
      refine Ret.mk [.tmp 4] rfl ?_; (refine goA ?_)
      refine ⟨_, .same _, rfl, ?_⟩
      rw [decide_eq_true hAB]
  · refine Spec.frz (post' := fun d => d = .bool (decide (a = b))) ?_
    rw [decide_eq_false (fun e => hlen (by rw [e]))]
    refine Spec.by Tryz.func34 rfl (by decide) (by decide +kernel) rfl ?_
    (refine goA ?_)
    refine Ret.mk [.tmp 4] rfl ?_; (refine goA ?_)
    exact ⟨_, .same _, rfl, rfl⟩
theorem five84 : Spec Tryz.prog 84 [] [] (fun d os' => d = pgD (vmP lvP) ∧ os' = []) := by
  refine Spec.frz (post' := fun d => d = pgD (vmP lvP)) ?_
  refine Spec.by Tryz.func84 rfl (by decide) (by decide +kernel) rfl ?_
  (refine goA ?_)
  refine App.only false rfl rfl ?_
  (refine goA ?_)
  refine App.only false rfl rfl ?_
  (refine goA ?_)
  refine Ret.mk [.cell 0 26] rfl ?_; (refine goA ?_)
  exact ⟨_, vmV _ _ lvP, rfl, rfl⟩
theorem lv_run : (runC (vmP lvP) (newC (vmP lvP)) [(0, 0), (0, 0), (0, 0)]).2 = ([(0, 0, 5), (2, 0, 0)], 3, 0) := by decide +kernel
theorem lives35 : Spec Tryz.prog 35 [] [] (fun d os' => d = .bool true ∧ os' = []) := by
  have hr := run31 lv_good (newC_ci lv_good) [(0, 0), (0, 0), (0, 0)] (by simp)
  rw [lv_run] at hr
  have hs := same34g [(0, 0, 5), (2, 0, 0)] [(0, 0, 5), (2, 0, 0)] (by simp) (by simp)
  rw [decide_eq_true rfl] at hs
  refine Spec.frz (post' := fun d => d = .bool true) ?_
  refine Spec.by Tryz.func35 rfl (by decide) (by decide +kernel) rfl ?_
  (refine goA ?_)
  refine Call.mk ((five84).only _ rfl (by rintro d rfl; rfl)) ?_; rintro d os' ⟨rfl, rfl⟩
  (refine goA ?_)
  refine Call.mk ((five84).only _ rfl (by rintro d rfl; rfl)) ?_; rintro d os' ⟨rfl, rfl⟩
  (refine goA ?_)
  refine Call.mk ((new18 lv_good).only _ rfl (by rintro d rfl; rfl)) ?_; rintro d os' ⟨rfl, rfl⟩
  (refine goA ?_)
  refine App.only false rfl rfl ?_
  (refine goA ?_)
  refine Call.mk ((hr).only _ rfl (by rintro d rfl; rfl)) ?_; rintro d os' ⟨rfl, rfl⟩
  (refine goA ?_)
  refine App.only false rfl rfl ?_
  (refine goA ?_)
  refine Call.mk ((hs).only _ rfl (by rintro d rfl; rfl)) ?_; rintro d os' ⟨rfl, rfl⟩
  (refine goA ?_)
  refine Ret.mk [.tmp 0] rfl ?_; (refine goA ?_)
  exact ⟨_, .same _, rfl, rfl⟩
end Go.Proofs.YtkceciebmkklpaaGreat.V
end
section
namespace Go.Proofs.YtkceciebmkklpaaGreat.V
open Go Go.Proofs
set_option maxRecDepth 100000
set_option maxHeartbeats 40000000
theorem CI.rb {g : Pg} (hg : GoodP g) {C : Cr} (h : CI g C) : RB C := by
  have hb := h.clB hg
  exact ⟨hb.ow, hb.co, hb.l1.1, hb.l2.1, hb.l3.1, hb.l0.1, hb.l4.1, hb.l5.1, hb.l1.2, hb.l2.2, hb.l3.2, hb.l0.2, hb.l4.2, hb.l5.2⟩
theorem run_one {g : Pg} {C : Cr} {m : Mv} (h : (oneC g C m).2.2 = 0) : runC g C [m] = ((oneC g C m).1, (oneC g C m).2.1, 1, 0) := by
  unfold runC
  rw [runW, if_pos h, runW, List.nil_append]
  rfl
theorem law10c (p : Pg) (hp : p.okB) (l : List Int) (hl : lok l) : Spec Tryz.prog 10 [pgD p, ints l] [] (fun d os' => d = .bool true ∧ os' = []) := by
  have hlm : (l.map (D.int .i64)).length = l.length := List.length_map ..
  obtain ⟨hl1, hl2⟩ := hl
  refine Spec.frz (post' := fun d => d = .bool true) ?_
  refine Spec.by Tryz.func10 rfl (by decide) (by decide +kernel) rfl ?_
  (refine goA ?_)
  refine Call.mk ((good29 p hp).only _ rfl (by rintro d ⟨g, _, rfl⟩; rfl)) ?_
  rintro d os' ⟨⟨g, hg, rfl⟩, rfl⟩
  (refine goA ?_)
  refine Call.mk (((new18 hg)).only _ rfl (by rintro d rfl; rfl)) ?_; rintro d os' ⟨rfl, rfl⟩
  (refine goA ?_)
  refine Loop.inv (A := Nat × Cr) (List.range 88) (fun a => [(1, ints l), (4, .bool false), (5, .ptr 1 0 7 0 0), (6, .ptr 2 0 10 0 0), (7, .int .i64 (a.1 : Int))]) (fun a => [one (.row 26 7 false [pgD p]), one (.row 26 7 false [pgD g]), one (.row 30 10 false [coreV a.2])]) (fun a => a.1 ≤ l.length ∧ CI g a.2) (fun a => l.length - a.1) (0, newC g) ⟨Nat.zero_le _, newC_ci hg⟩ ?_ ?_
  · exact Weak.start' rfl rfl tld
  rintro ⟨i, C⟩ ⟨hi, hci⟩
  dsimp only at hi hci ⊢
  have h8 := g_th8 hg hci.z
  have hA := any41 hg hci
  have hO := over42 C (by omega)
  have hS := stuck43 C (by omega)
  have hiff := any_iff C
  cases hW : allC C with
  | nil =>
    have ha1 : anyC C = ((0, 0), false) := by unfold anyC; rw [hW]
    rw [ha1] at hA hiff
    have hd : (overK C = true ∧ stuckK C = false) ∨ (overK C = false ∧ stuckK C = true) := by
      have h3 : stuckK C = (decide (((ofK C [0, 1]).length : Int) = 0) && !overK C) := rfl
      cases ho : overK C <;> rw [ho] at hiff h3 <;> cases hs : stuckK C <;> rw [hs] at hiff h3 <;> simp at hiff h3 ⊢
    refine Or.elim hd (fun hd => ?_) (fun hd => ?_)
    · rw [hd.1] at hO
      rw [hd.2] at hS
      (refine goA ?_)
      refine Br.dec (fun h1 => ?_) (fun h1 => ?_)
      · (refine goA ?_)
        refine Br.dec (fun h2 => ?_) (fun h2 => ?_)
        · (refine goA ?_)
          refine Call.mk ((hA).only _ rfl (by rintro d rfl; rfl)) ?_; rintro d os' ⟨rfl, rfl⟩
          (refine goA ?_)
          refine Call.mk ((hA).only _ rfl (by rintro d rfl; rfl)) ?_; rintro d os' ⟨rfl, rfl⟩
          (refine goA ?_)
          refine Call.mk ((hO).only _ rfl (by rintro d rfl; rfl)) ?_; rintro d os' ⟨rfl, rfl⟩
          (refine goA ?_)
          refine Call.mk ((hS).only _ rfl (by rintro d rfl; rfl)) ?_; rintro d os' ⟨rfl, rfl⟩
          (refine goA ?_)
          refine Call.mk ((lives35).only _ rfl (by rintro d rfl; rfl)) ?_; rintro d os' ⟨rfl, rfl⟩
          (refine goA ?_)
          refine Ret.mk [.tmp 4] rfl ?_; (refine goA ?_)
          exact ⟨_, .same _, rfl, rfl⟩
        · (refine goA ?_)
          refine Call.mk ((hA).only _ rfl (by rintro d rfl; rfl)) ?_; rintro d os' ⟨rfl, rfl⟩
          (refine goA ?_)
          refine Call.mk ((hO).only _ rfl (by rintro d rfl; rfl)) ?_; rintro d os' ⟨rfl, rfl⟩
          (refine goA ?_)
          refine Call.mk ((hS).only _ rfl (by rintro d rfl; rfl)) ?_; rintro d os' ⟨rfl, rfl⟩
          (refine goA ?_)
          refine Call.mk ((lives35).only _ rfl (by rintro d rfl; rfl)) ?_; rintro d os' ⟨rfl, rfl⟩
          (refine goA ?_)
          refine Ret.mk [.tmp 4] rfl ?_; (refine goA ?_)
          exact ⟨_, .same _, rfl, rfl⟩
      · (refine goA ?_)
        refine Call.mk ((hA).only _ rfl (by rintro d rfl; rfl)) ?_; rintro d os' ⟨rfl, rfl⟩
        (refine goA ?_)
        refine Call.mk ((hO).only _ rfl (by rintro d rfl; rfl)) ?_; rintro d os' ⟨rfl, rfl⟩
        (refine goA ?_)
        refine Call.mk ((hS).only _ rfl (by rintro d rfl; rfl)) ?_; rintro d os' ⟨rfl, rfl⟩
        (refine goA ?_)
        refine Call.mk ((lives35).only _ rfl (by rintro d rfl; rfl)) ?_; rintro d os' ⟨rfl, rfl⟩
        (refine goA ?_)
        refine Ret.mk [.tmp 4] rfl ?_; (refine goA ?_)
        exact ⟨_, .same _, rfl, rfl⟩
    · rw [hd.1] at hO
      rw [hd.2] at hS
      (refine goA ?_)
      refine Br.dec (fun h1 => ?_) (fun h1 => ?_)
      · (refine goA ?_)
        refine Br.dec (fun h2 => ?_) (fun h2 => ?_)
        · (refine goA ?_)
          refine Call.mk ((hA).only _ rfl (by rintro d rfl; rfl)) ?_; rintro d os' ⟨rfl, rfl⟩
          (refine goA ?_)
          refine Call.mk ((hA).only _ rfl (by rintro d rfl; rfl)) ?_; rintro d os' ⟨rfl, rfl⟩
          (refine goA ?_)
          refine Call.mk ((hO).only _ rfl (by rintro d rfl; rfl)) ?_; rintro d os' ⟨rfl, rfl⟩
          (refine goA ?_)
          refine Call.mk ((hS).only _ rfl (by rintro d rfl; rfl)) ?_; rintro d os' ⟨rfl, rfl⟩
          (refine goA ?_)
          refine Call.mk ((lives35).only _ rfl (by rintro d rfl; rfl)) ?_; rintro d os' ⟨rfl, rfl⟩
          (refine goA ?_)
          refine Ret.mk [.tmp 4] rfl ?_; (refine goA ?_)
          exact ⟨_, .same _, rfl, rfl⟩
        · (refine goA ?_)
          refine Call.mk ((hA).only _ rfl (by rintro d rfl; rfl)) ?_; rintro d os' ⟨rfl, rfl⟩
          (refine goA ?_)
          refine Call.mk ((hO).only _ rfl (by rintro d rfl; rfl)) ?_; rintro d os' ⟨rfl, rfl⟩
          (refine goA ?_)
          refine Call.mk ((hS).only _ rfl (by rintro d rfl; rfl)) ?_; rintro d os' ⟨rfl, rfl⟩
          (refine goA ?_)
          refine Call.mk ((lives35).only _ rfl (by rintro d rfl; rfl)) ?_; rintro d os' ⟨rfl, rfl⟩
          (refine goA ?_)
          refine Ret.mk [.tmp 4] rfl ?_; (refine goA ?_)
          exact ⟨_, .same _, rfl, rfl⟩
      · (refine goA ?_)
        refine Call.mk ((hA).only _ rfl (by rintro d rfl; rfl)) ?_; rintro d os' ⟨rfl, rfl⟩
        (refine goA ?_)
        refine Call.mk ((hO).only _ rfl (by rintro d rfl; rfl)) ?_; rintro d os' ⟨rfl, rfl⟩
        (refine goA ?_)
        refine Call.mk ((hS).only _ rfl (by rintro d rfl; rfl)) ?_; rintro d os' ⟨rfl, rfl⟩
        (refine goA ?_)
        refine Call.mk ((lives35).only _ rfl (by rintro d rfl; rfl)) ?_; rintro d os' ⟨rfl, rfl⟩
        (refine goA ?_)
        refine Ret.mk [.tmp 4] rfl ?_; (refine goA ?_)
        exact ⟨_, .same _, rfl, rfl⟩
  | cons m W =>
    have ha1 : anyC C = (m, true) := by unfold anyC; rw [hW]
    rw [ha1] at hA hiff
    have hd : overK C = false ∧ stuckK C = false := by
      cases ho : overK C <;> rw [ho] at hiff <;> cases hs : stuckK C <;> rw [hs] at hiff <;> simp at hiff ⊢
    rw [hd.1] at hO
    rw [hd.2] at hS
    obtain ⟨hok, hne⟩ := any_ok hg hci hW
    have hR := run31 hg hci [m] (by simp)
    rw [run_one hok] at hR
    dsimp only at hR
    have hce := oneC_ci hg hci m
    obtain ⟨E, hE⟩ : ∃ E, (oneC g C m).1 = E := ⟨_, rfl⟩
    rw [hE] at hR hce hne
    have h27 := same27 E C (hce.rb hg) (hci.rb hg) (by have := g_th8 hg hce.z; omega) (by omega) (fun f hf => thI_okS hg (hce.th f hf))
    (refine goA ?_)
    refine Br.dec (fun h1 => ?_) (fun h1 => ?_)
    · (refine goA ?_)
      refine Br.dec (fun h2 => ?_) (fun h2 => ?_)
      · (refine goA ?_)
        refine Call.mk ((hA).only _ rfl (by rintro d rfl; rfl)) ?_; rintro d os' ⟨rfl, rfl⟩
        (refine goA ?_)
        refine App.only false rfl rfl ?_
        (refine goA ?_)
        refine Call.mk ((hR).only _ rfl (by rintro d rfl; rfl)) ?_; rintro d os' ⟨rfl, rfl⟩
        (refine goA ?_)
        refine Call.mk (h27.only _ rfl (by rintro d ⟨b, rfl, _⟩; rfl)) ?_
        rintro d os' ⟨⟨b, rfl, hb⟩, rfl⟩
        cases b with
        | true =>
          have hm1 : ¬ m.1 = 1 := fun h => hne h (hb.1 rfl)
          (refine goA ?_)
          refine ⟨_, _, _, ?_, ⟨(i + 1, E), ?_, rfl, rfl, rfl⟩, ?_⟩
          · show l.length - (i + 1) < l.length - i; omega
          · exact ⟨by show i + 1 ≤ l.length; omega, hce⟩
          · refine Weak.backT 3 (by simp) (by first | rfl | kernel_rfl) (by kernel_rfl) (Nat.le_of_ble_eq_true rfl) tld (by kernel_rfl) (by kernel_rfl)
        | false =>
          (refine goA ?_)
          refine ⟨_, _, _, ?_, ⟨(i + 1, E), ?_, rfl, rfl, rfl⟩, ?_⟩
          · show l.length - (i + 1) < l.length - i; omega
          · exact ⟨by show i + 1 ≤ l.length; omega, hce⟩
          · refine Weak.backT 3 (by simp) (by first | rfl | kernel_rfl) (by kernel_rfl) (Nat.le_of_ble_eq_true rfl) tld (by kernel_rfl) (by kernel_rfl)
      · (refine goA ?_)
        refine Call.mk ((hA).only _ rfl (by rintro d rfl; rfl)) ?_; rintro d os' ⟨rfl, rfl⟩
        (refine goA ?_)
        refine Call.mk ((hO).only _ rfl (by rintro d rfl; rfl)) ?_; rintro d os' ⟨rfl, rfl⟩
        (refine goA ?_)
        refine Call.mk ((hS).only _ rfl (by rintro d rfl; rfl)) ?_; rintro d os' ⟨rfl, rfl⟩
        (refine goA ?_)
        refine Call.mk ((lives35).only _ rfl (by rintro d rfl; rfl)) ?_; rintro d os' ⟨rfl, rfl⟩
        (refine goA ?_)
        refine Ret.mk [.tmp 4] rfl ?_; (refine goA ?_)
        exact ⟨_, .same _, rfl, rfl⟩
    · (refine goA ?_)
      refine Call.mk ((hA).only _ rfl (by rintro d rfl; rfl)) ?_; rintro d os' ⟨rfl, rfl⟩
      (refine goA ?_)
      refine Call.mk ((hO).only _ rfl (by rintro d rfl; rfl)) ?_; rintro d os' ⟨rfl, rfl⟩
      (refine goA ?_)
      refine Call.mk ((hS).only _ rfl (by rintro d rfl; rfl)) ?_; rintro d os' ⟨rfl, rfl⟩
      (refine goA ?_)
      refine Call.mk ((lives35).only _ rfl (by rintro d rfl; rfl)) ?_; rintro d os' ⟨rfl, rfl⟩
      (refine goA ?_)
      refine Ret.mk [.tmp 4] rfl ?_; (refine goA ?_)
      exact ⟨_, .same _, rfl, rfl⟩
theorem law10 (p : Pg) (hp : p.okB) (l : List Int) (hl : lok l) : Spec Tryz.prog 10 [pgD p, ints l] [] (fun d os' => d = .bool true) := (law10c p hp l hl).mono (fun d os' h => h.1)
end Go.Proofs.YtkceciebmkklpaaGreat.V
end
section
namespace Go.Proofs.YtkceciebmkklpaaGreat.V
open Go Go.Proofs Go.RowKit Go.ChangeShapes Go.WideShapes Go.ChangeAt
set_option maxRecDepth 100000
theorem b3 : Tryz.prog.bytesOf 3 = 8 := by kernel_rfl
theorem b23 : Tryz.prog.bytesOf 23 = 24 := by kernel_rfl
theorem b45 : Tryz.prog.bytesOf 68 = 32 := by kernel_rfl
theorem b139 : Tryz.prog.bytesOf 65 = 16 := by kernel_rfl
theorem opens_i : Opens Tryz.prog 3 (D.int .i64) I64 := by
  refine opens_iso (opens_int Tryz.underlying3) (fun x => x) (fun x => rfl) (fun x hx => hx)
theorem opens_is : Opens Tryz.prog 23 ints lok := by
  refine opens_iso (opens_slice Tryz.underlying23 opens_i (sz := 1) (by kernel_rfl) (by decide)) (fun x => x) (fun x => rfl) (fun x hx => ?_)
  have h1 := hx.2.1
  rw [b3] at h1
  exact ⟨h1, hx.2.2⟩
theorem opens_iss : Opens Tryz.prog 24 (fun l : List (List Int) => .lst 1 false (l.map ints)) (fun l => l.length * 24 ≤ 140737488351232 ∧ ∀ x ∈ l, lok x) := by
  refine opens_iso (opens_slice Tryz.underlying24 opens_is (sz := 1) (by kernel_rfl) (by decide)) (fun x => x) (fun x => rfl) (fun x hx => ?_)
  have h1 := hx.2.1
  rw [b23] at h1
  exact ⟨h1, hx.2.2⟩
theorem opens_in : Opens Tryz.prog 65 inD (fun x => I64 x.1 ∧ I64 x.2) := by
  refine opens_iso (opens_struct (P := Tryz.prog) (t := 65) Tryz.underlying65 (by kernel_rfl) (opensL_cons opens_i (opensL_one opens_i))) (fun x => (x.1, x.2)) (fun x => rfl) (fun x hx => hx)
theorem opens_fu : Opens Tryz.prog 68 fuD (fun f => I64 f.loc ∧ f.code.length * 16 ≤ 140737488351232 ∧ ∀ x ∈ f.code, I64 x.1 ∧ I64 x.2) := by
  refine opens_iso (opens_struct (P := Tryz.prog) (t := 68) Tryz.underlying68 (by kernel_rfl) (opensL_cons opens_i (opensL_one (opens_slice Tryz.underlying63 opens_in (sz := 2) (by kernel_rfl) (by decide))))) (fun x => (⟨x.1, x.2⟩ : Fu)) (fun x => rfl) (fun x hx => ?_)
  have h1 := hx.2.2.1
  rw [b139] at h1
  exact ⟨hx.1, h1, hx.2.2.2⟩
theorem opens_pg : Opens Tryz.prog 26 pgD Pg.okB := by
  refine opens_iso (opens_struct (P := Tryz.prog) (t := 26) Tryz.underlying26 (by kernel_rfl) (opensL_cons (opens_slice Tryz.underlying22 opens_fu (sz := 2) (by kernel_rfl) (by decide)) (opensL_cons opens_i (opensL_cons opens_is (opensL_cons opens_is (opensL_cons opens_is (opensL_cons opens_iss (opensL_one opens_i))))))))
    (fun x => (⟨x.1, x.2.1, x.2.2.1, x.2.2.2.1, x.2.2.2.2.1, x.2.2.2.2.2.1, x.2.2.2.2.2.2⟩ : Pg)) (fun x => rfl) (fun x hx => ?_)
  obtain ⟨h1, h2, h3, h4, h5, h6, h7⟩ := hx
  have h12 := h1.2.1
  rw [b45] at h12
  exact ⟨h12, h1.2.2, h2, h3, h4, h5, h6.1, h6.2, h7⟩
end Go.Proofs.YtkceciebmkklpaaGreat.V
end
