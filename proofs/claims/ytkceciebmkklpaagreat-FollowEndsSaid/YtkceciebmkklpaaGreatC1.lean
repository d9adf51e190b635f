/- C1: a text of a symbolic executor that is proved sound, and contracts that are proved with it. -/
import Derived.Test.YtkceciebmkklpaaGreatVA
import Derived.Test.YtkceciebmkklpaaGreatVB
import Derived.Test.YtkceciebmkklpaaGreatVT
import Derived.Test.YtkceciebmkklpaaGreatVC
import Derived.Test.YtkceciebmkklpaaGreatC0
set_option linter.unusedVariables false
set_option linter.unusedSimpArgs false
section
namespace Go.Proofs.YtkceciebmkklpaaGreat.V
open Go Go.Proofs
set_option maxRecDepth 100000
set_option maxHeartbeats 40000000
/-! What a program does, as pure things: for layer 11's two sides. -/
theorem getD_set' {α : Type} (l : List α) (e i : Nat) (x d : α) : (l.set e x).getD i d = if e = i ∧ e < l.length then x else l.getD i d := by
  rw [List.getD_eq_getElem?_getD, List.getD_eq_getElem?_getD, List.getElem?_set]
  by_cases h : e = i
  · subst h
    by_cases h2 : e < l.length
    · simp [h2]
    · simp [h2]
  · simp [h]
/-- A step under way: the state, what was seen, who was woken (all of them; those who were told well). -/
structure Xs where
  C : Cr
  ev : List Ev
  wk : List Int
  wp : List Int
def thAt (C : Cr) (t : Nat) : Th := C.th.getD t (endT 0)
def putT (C : Cr) (t : Nat) (f : Th) : Cr := { C with th := C.th.set t f }
def seeX (x : Xs) (k : Int) (t : Nat) (n : Int) : Xs := { x with ev := x.ev ++ [(k, (t : Int), n)] }
def restX (x : Xs) (t : Nat) (st on : Int) : Xs := { x with C := putT x.C t { thAt x.C t with st := st, on := on } }
def deadX (x : Xs) (t : Nat) (c : Int) : Xs := seeX { x with C := putT x.C t (endT c) } 2 t c
def tellE (E : Xs → Nat → Int → Xs) (x : Xs) (t : Nat) (l : List Int) : Xs × Bool :=
  if (tellT (thAt x.C t) l).2 then ({ x with C := putT x.C t (tellT (thAt x.C t) l).1 }, true) else (E x t 2, false)
def wakeE (E : Xs → Nat → Int → Xs) (x : Xs) (t : Nat) (l : List Int) : Xs :=
  if (tellE E (restX { x with wk := x.wk ++ [(t : Int)] } t 0 0) t l).2 then
    { (tellE E (restX { x with wk := x.wk ++ [(t : Int)] } t 0 0) t l).1 with wp := (tellE E (restX { x with wk := x.wk ++ [(t : Int)] } t 0 0) t l).1.wp ++ [(t : Int)] }
  else (tellE E (restX { x with wk := x.wk ++ [(t : Int)] } t 0 0) t l).1
def joins (x : Xs) (t k : Nat) : Bool := decide ((thAt x.C k).st = 2 ∧ (thAt x.C k).on = (t : Int))
def endR (E : Xs → Nat → Int → Xs) (t : Nat) (c : Int) (y : Xs) (k : Nat) : Xs := if joins y t k then wakeE E y k [c] else y
def endX : Nat → Xs → Nat → Int → Xs
  | 0, x, t, c => deadX x t c
  | n + 1, x, t, c => (List.range x.C.th.length).foldl (endR (endX n) t c) (deadX x t c)
/-- How many join. -/
def nj (C : Cr) : Nat := C.th.countP (fun f => decide (f.st = 2))
/-- Nobody comes to join, and nothing but threads changes; whoever neither joins nor is t stays. -/
structure Tame (t : Nat) (x y : Xs) : Prop where
  len : y.C.th.length = x.C.th.length
  rest : y.C = { x.C with th := y.C.th }
  join : ∀ k, (thAt y.C k).st = 2 → thAt y.C k = thAt x.C k
  stay : ∀ k, k ≠ t → (thAt x.C k).st ≠ 2 → thAt y.C k = thAt x.C k
  chg : ∀ k, thAt y.C k = thAt x.C k ∨ (thAt y.C k).st = 0 ∨ (thAt y.C k).st = 9
theorem Tame.refl (t : Nat) (x : Xs) : Tame t x x := ⟨rfl, rfl, fun _ _ => rfl, fun _ _ _ => rfl, fun _ => .inl rfl⟩
theorem thAt_put (C : Cr) (t k : Nat) (f : Th) : thAt (putT C t f) k = if t = k ∧ t < C.th.length then f else thAt C k := getD_set' C.th t k f (endT 0)
/-- Steps one behind the other. -/
theorem Tame.trans {t u : Nat} {x y z : Xs} (h : Tame t x y) (h2 : Tame u y z) (hu : u = t ∨ (thAt y.C u).st = 2 ∨ (thAt x.C u).st = 2) : Tame t x z := by
  refine ⟨h2.len.trans h.len, ?_, fun k hk => ?_, fun k hk hs => ?_, fun k => ?_⟩
  rotate_right
  · rcases h2.chg k with e | e
    · rw [e]; exact h.chg k
    · exact .inr e
  · rw [h2.rest, h.rest]
  · have e := h2.join k hk
    rw [e] at hk ⊢
    exact h.join k hk
  · have e := h.stay k hk hs
    rw [h2.stay k ?_ (by rw [e]; exact hs), e]
    rintro rfl
    rcases hu with rfl | hu | hu
    · exact hk rfl
    · rw [e] at hu; exact hs hu
    · exact hs hu
theorem put_tame (x : Xs) (t : Nat) (f : Th) (ev : List Ev) (wk wp : List Int) (hf : t < x.C.th.length → f.st = 0 ∨ f.st = 9) : Tame t x ⟨putT x.C t f, ev, wk, wp⟩ := by
  refine ⟨by simp [putT], rfl, fun k hk => ?_, fun k hk hs => ?_, fun k => ?_⟩
  · show thAt (putT x.C t f) k = _
    have hk2 : (thAt (putT x.C t f) k).st = 2 := hk
    rw [thAt_put] at hk2 ⊢
    split
    · rename_i h; rw [if_pos h] at hk2; have := hf h.2; omega
    · rfl
  · show thAt (putT x.C t f) k = _
    rw [thAt_put, if_neg (fun h => hk h.1.symm)]
  · show thAt (putT x.C t f) k = _ ∨ (thAt (putT x.C t f) k).st = 0 ∨ (thAt (putT x.C t f) k).st = 9
    rw [thAt_put]
    split
    · rename_i h; exact .inr (hf h.2)
    · exact .inl rfl
theorem dead_tame (x : Xs) (t : Nat) (c : Int) : Tame t x (deadX x t c) := put_tame x t (endT c) _ _ _ (fun _ => .inr rfl)
theorem rest_tame (x : Xs) (t : Nat) (wk : List Int) : Tame t x (restX { x with wk := wk } t 0 0) := put_tame x t _ _ _ _ (fun _ => .inl rfl)
theorem pushL_st : ∀ (l : List Int) (f : Th) (e : Int), (pushL f e l).1.st = f.st ∧ (pushL f e l).1.on = f.on
  | [], f, e => ⟨rfl, rfl⟩
  | v :: l, f, e => by
    rw [pushL]
    have := pushL_st l (pushT f v).1 (underE e (pushT f v).2 2)
    have h2 : (pushT f v).1.st = f.st ∧ (pushT f v).1.on = f.on := by unfold pushT; split <;> exact ⟨rfl, rfl⟩
    exact ⟨this.1.trans h2.1, this.2.trans h2.2⟩
theorem tellT_st {f : Th} {l : List Int} (h : (tellT f l).2 = true) : (tellT f l).1.st = f.st ∧ (tellT f l).1.on = f.on := by
  unfold tellT at h ⊢
  split
  · rename_i h2; rw [if_pos h2] at h; cases h
  · exact pushL_st l f (-1)
theorem tell_tame {E : Xs → Nat → Int → Xs} (hE : ∀ x t c, Tame t x (E x t c)) (x : Xs) (t : Nat) (l : List Int) (hs : t < x.C.th.length → (thAt x.C t).st = 0) : Tame t x (tellE E x t l).1 := by
  unfold tellE
  split
  · rename_i h
    obtain ⟨h1, h2⟩ := tellT_st h
    exact put_tame x t _ _ _ _ (fun ht => .inl (h1.trans (hs ht)))
  · exact hE x t 2
theorem rest_st (x : Xs) (t : Nat) (st on : Int) (ht : t < x.C.th.length) : thAt (restX x t st on).C t = { thAt x.C t with st := st, on := on } := by
  show thAt (putT x.C t _) t = _
  rw [thAt_put, if_pos ⟨rfl, ht⟩]
theorem rest_st0 (x : Xs) (t : Nat) (h : t < x.C.th.length) : (thAt (restX x t 0 0).C t).st = 0 := by rw [rest_st x t 0 0 h]
theorem rest_len (x : Xs) (t : Nat) (st on : Int) : (restX x t st on).C.th.length = x.C.th.length := by simp [restX, putT]
theorem wake_tame {E : Xs → Nat → Int → Xs} (hE : ∀ x t c, Tame t x (E x t c)) (x : Xs) (t : Nat) (l : List Int) : Tame t x (wakeE E x t l) := by
  have h1 : Tame t x (restX { x with wk := x.wk ++ [(t : Int)] } t 0 0) := rest_tame x t (x.wk ++ [(t : Int)])
  have h2 := h1.trans (tell_tame hE _ t l (fun h => rest_st0 { x with wk := x.wk ++ [(t : Int)] } t (by rw [rest_len] at h; exact h))) (Or.inl rfl)
  unfold wakeE
  split
  · exact ⟨h2.len, h2.rest, h2.join, h2.stay, h2.chg⟩
  · exact h2
theorem endR_tame {E : Xs → Nat → Int → Xs} (hE : ∀ x t c, Tame t x (E x t c)) (x : Xs) (t : Nat) (c : Int) (y : Xs) (h : Tame t x y) (k : Nat) : Tame t x (endR E t c y k) := by
  unfold endR
  split
  · rename_i hj
    exact h.trans (wake_tame hE y k [c]) (Or.inr (Or.inl (of_decide_eq_true hj).1))
  · exact h
theorem fold_tame {E : Xs → Nat → Int → Xs} (hE : ∀ x t c, Tame t x (E x t c)) (x : Xs) (t : Nat) (c : Int) : ∀ (l : List Nat) (y : Xs), Tame t x y → Tame t x (l.foldl (endR E t c) y)
  | [], y, h => h
  | k :: l, y, h => fold_tame hE x t c l _ (endR_tame hE x t c y h k)
theorem end_tame : ∀ (n : Nat) (x : Xs) (t : Nat) (c : Int), Tame t x (endX n x t c)
  | 0, x, t, c => dead_tame x t c
  | n + 1, x, t, c => by
    rw [endX]
    exact fold_tame (end_tame n) x t c _ _ (dead_tame x t c)
/-! ### What is kept -/
def okT (f : Th) : Prop := f.sk.length ≤ 16 ∧ f.okB
theorem okT_end (c : Int) : okT (endT c) := ⟨by show (0 : Nat) ≤ 16; omega, by show (0 : Nat) ≤ _; omega, by show (0 : Nat) ≤ _; omega, fun f hf => by cases hf⟩
theorem nj_put (C : Cr) (t : Nat) (f : Th) (ht : t < C.th.length) : nj (putT C t f) + (if (thAt C t).st = 2 then 1 else 0) = nj C + (if f.st = 2 then 1 else 0) := by
  have e : thAt C t = C.th[t] := by unfold thAt; rw [List.getD_eq_getElem?_getD, List.getElem?_eq_getElem ht]; rfl
  unfold nj putT
  dsimp only
  rw [List.countP_set ht, e]
  have hp : (if (decide (C.th[t].st = 2)) = true then 1 else 0) ≤ C.th.countP (fun f => decide (f.st = 2)) := by
    split
    · rename_i h; exact List.countP_pos_iff.2 ⟨_, List.getElem_mem ht, h⟩
    · omega
  simp only [decide_eq_true_eq] at hp ⊢
  omega
theorem thAt_lt {C : Cr} {t : Nat} (ht : t < C.th.length) : thAt C t = C.th[t] := by unfold thAt; rw [List.getD_eq_getElem?_getD, List.getElem?_eq_getElem ht]; rfl
theorem thAt_ge {C : Cr} {t : Nat} (ht : C.th.length ≤ t) : thAt C t = endT 0 := by unfold thAt; rw [List.getD_eq_getElem?_getD, List.getElem?_eq_none ht]; rfl
theorem lt_of_st {C : Cr} {t : Nat} (h : (thAt C t).st ≠ 9) : t < C.th.length := by
  rcases Nat.lt_or_ge t C.th.length with h1 | h1
  · exact h1
  · rw [thAt_ge h1] at h; exact absurd rfl h
/-- What a contract needs of a step under way. -/
structure XB (m b w : Nat) (x : Xs) : Prop where
  jn : nj x.C ≤ m
  tl : x.C.th.length ≤ 100
  th : ∀ f ∈ x.C.th, okT f
  ev : x.ev.length + nj x.C ≤ b
  wp : x.wp.length + nj x.C ≤ b
  wk : x.wk.length + nj x.C ≤ w
theorem XB.le {m b b' w w' : Nat} {x : Xs} (h : XB m b w x) (hb : b ≤ b') (hw : w ≤ w') : XB m b' w' x := ⟨h.jn, h.tl, h.th, by have := h.ev; omega, by have := h.wp; omega, by have := h.wk; omega⟩
theorem XB.at {m b w : Nat} {x : Xs} (h : XB m b w x) (t : Nat) : okT (thAt x.C t) := by
  rcases Nat.lt_or_ge t x.C.th.length with h1 | h1
  · rw [thAt_lt h1]; exact h.th _ (List.getElem_mem h1)
  · rw [thAt_ge h1]; exact okT_end 0
theorem mem_put {C : Cr} {t : Nat} {f g : Th} (h : g ∈ (putT C t f).th) : g ∈ C.th ∨ g = f := List.mem_or_eq_of_mem_set h
/-- A thread is another one. -/
theorem put_xb {m b w : Nat} {x : Xs} (h : XB m b w x) {t : Nat} (ht : t < x.C.th.length) {f : Th} (hf : okT f) (h2 : f.st ≠ 2) (ev : List Ev) (wk wp : List Int) :
    XB m (max (b + ev.length - x.ev.length) (b + wp.length - x.wp.length)) (w + wk.length - x.wk.length) ⟨putT x.C t f, ev, wk, wp⟩ ∧ ((thAt x.C t).st = 2 → 0 < m ∧ 0 < b ∧ 0 < w ∧ XB (m - 1) (max (b - 1 + ev.length - x.ev.length) (b - 1 + wp.length - x.wp.length)) (w - 1 + wk.length - x.wk.length) ⟨putT x.C t f, ev, wk, wp⟩) := by
  have hn := nj_put x.C t f ht
  rw [if_neg h2] at hn
  have hT : ∀ g ∈ (putT x.C t f).th, okT g := fun g hg => by
    rcases mem_put hg with hg | rfl
    · exact h.th g hg
    · exact hf
  have hl : (putT x.C t f).th.length ≤ 100 := by simpa [putT] using h.tl
  have h1 := h.ev
  have h3 := h.wp
  have h4 := h.wk
  have h5 := h.jn
  refine ⟨⟨?_, hl, hT, ?_, ?_, ?_⟩, fun hj => ?_⟩
  · show nj (putT x.C t f) ≤ m
    split at hn <;> omega
  · show ev.length + nj (putT x.C t f) ≤ _
    split at hn <;> omega
  · show wp.length + nj (putT x.C t f) ≤ _
    split at hn <;> omega
  · show wk.length + nj (putT x.C t f) ≤ _
    split at hn <;> omega
  · rw [if_pos hj] at hn
    refine ⟨by omega, by omega, by omega, ?_, hl, hT, ?_, ?_, ?_⟩
    · show nj (putT x.C t f) ≤ m - 1
      omega
    · show ev.length + nj (putT x.C t f) ≤ _
      omega
    · show wp.length + nj (putT x.C t f) ≤ _
      omega
    · show wk.length + nj (putT x.C t f) ≤ _
      omega
theorem dead_xb {m b w : Nat} {x : Xs} (h : XB m b w x) {t : Nat} (ht : t < x.C.th.length) (c : Int) : XB m (b + 1) w (deadX x t c) := by
  have := (put_xb h ht (okT_end c) (by show (9 : Int) ≠ 2; decide) (x.ev ++ [(2, (t : Int), c)]) x.wk x.wp).1
  exact this.le (by rw [List.length_append, List.length_singleton]; omega) (by omega)
theorem rest_xb {m b w : Nat} {x : Xs} (h : XB m b w x) {t : Nat} (ht : t < x.C.th.length) (v st on : Int) (hst : st ≠ 2) : XB m b (w + 1) (restX { x with wk := x.wk ++ [v] } t st on) ∧ ((thAt x.C t).st = 2 → ∃ m' b', m = m' + 1 ∧ b = b' + 1 ∧ XB m' b' w (restX { x with wk := x.wk ++ [v] } t st on)) := by
  obtain ⟨h1, h2⟩ := put_xb h ht (f := { thAt x.C t with st := st, on := on }) (h.at t) hst x.ev (x.wk ++ [v]) x.wp
  rw [List.length_append, List.length_singleton] at h1 h2
  refine ⟨h1.le (by omega) (by omega), fun hj => ?_⟩
  obtain ⟨a1, a2, a3, a4⟩ := h2 hj
  exact ⟨m - 1, b - 1, by omega, by omega, a4.le (by omega) (by omega)⟩
theorem tellT_ok {f : Th} {l : List Int} (h : okT f) : okT (tellT f l).1 := by
  unfold tellT
  split
  · exact okT_end _
  · exact ⟨pushL_sk l f _ h.1, pushL_okB l f _ h.1 h.2⟩
def XBk (E : Xs → Nat → Int → Xs) : Prop := ∀ (m b w : Nat) (x : Xs) (t : Nat) (c : Int), XB m b w x → t < x.C.th.length → XB m (b + 1) w (E x t c)
theorem tell_xb {E : Xs → Nat → Int → Xs} (hE : XBk E) {m b w : Nat} {x : Xs} (h : XB m b w x) {t : Nat} (ht : t < x.C.th.length) (l : List Int) : XB m (b + 1) w (tellE E x t l).1 ∧ ((tellE E x t l).2 = true → XB m b w (tellE E x t l).1) := by
  have key : (tellT (thAt x.C t) l).2 = true → XB m b w { x with C := putT x.C t (tellT (thAt x.C t) l).1 } := fun hb => by
    have hn := nj_put x.C t (tellT (thAt x.C t) l).1 ht
    rw [(tellT_st hb).1] at hn
    have hnn : nj (putT x.C t (tellT (thAt x.C t) l).1) = nj x.C := by omega
    refine ⟨by show nj (putT x.C t _) ≤ m; rw [hnn]; exact h.jn, by simpa [putT] using h.tl, fun f hf => ?_, by show x.ev.length + nj (putT x.C t _) ≤ b; rw [hnn]; exact h.ev, by show x.wp.length + nj (putT x.C t _) ≤ b; rw [hnn]; exact h.wp, by show x.wk.length + nj (putT x.C t _) ≤ w; rw [hnn]; exact h.wk⟩
    rcases mem_put (C := x.C) hf with hf | rfl
    · exact h.th f hf
    · exact tellT_ok (h.at t)
  unfold tellE
  split
  · rename_i hb
    exact ⟨(key hb).le (by omega) (Nat.le_refl _), fun _ => key hb⟩
  · exact ⟨hE _ _ _ _ _ _ h ht, fun h => by cases h⟩
theorem wake_xb {E : Xs → Nat → Int → Xs} (hE : XBk E) {m b w : Nat} {x : Xs} (h : XB m b w x) {t : Nat} (ht : t < x.C.th.length) (l : List Int) : XB m (b + 1) (w + 1) (wakeE E x t l) ∧ ((thAt x.C t).st = 2 → XB m b w (wakeE E x t l)) := by
  have key : ∀ m a w, XB m a w (restX { x with wk := x.wk ++ [(t : Int)] } t 0 0) → XB m (a + 1) w (wakeE E x t l) := fun m a w ha => by
    have h2 := tell_xb hE ha (t := t) (by rw [rest_len]; exact ht) l
    unfold wakeE
    split
    · rename_i hb
      have h3 := h2.2 hb
      exact ⟨h3.jn, h3.tl, h3.th, by have := h3.ev; show (tellE E _ t l).1.ev.length + nj (tellE E _ t l).1.C ≤ _; omega, by have := h3.wp; show ((tellE E _ t l).1.wp ++ [_]).length + nj (tellE E _ t l).1.C ≤ _; rw [List.length_append, List.length_singleton]; omega, h3.wk⟩
    · exact h2.1
  obtain ⟨h1, h2⟩ := rest_xb h ht (t : Int) 0 0 (by decide)
  refine ⟨key m b _ h1, fun hj => ?_⟩
  obtain ⟨m', a, rfl, rfl, ha⟩ := h2 hj
  have h3 := key m' a w ha
  exact ⟨by have := h3.jn; omega, h3.tl, h3.th, h3.ev, h3.wp, h3.wk⟩
theorem joins_lt {y : Xs} {t k : Nat} (h : joins y t k = true) : k < y.C.th.length ∧ (thAt y.C k).st = 2 := by
  have h1 := (of_decide_eq_true h).1
  exact ⟨lt_of_st (by omega), h1⟩
theorem fold_xb {E : Xs → Nat → Int → Xs} (hE : XBk E) {m b w : Nat} (t : Nat) (c : Int) : ∀ (l : List Nat) (y : Xs), XB m b w y → XB m b w (l.foldl (endR E t c) y)
  | [], y, h => h
  | k :: l, y, h => fold_xb hE t c l _ (by
    unfold endR
    split
    · rename_i hj
      exact (wake_xb hE h (joins_lt hj).1 [c]).2 (joins_lt hj).2
    · exact h)
theorem end_xb : ∀ (n : Nat), XBk (endX n)
  | 0 => fun _ _ _ _ _ _ h ht => dead_xb h ht _
  | n + 1 => fun _ _ _ _ _ _ h ht => by
    rw [endX]
    exact fold_xb (end_xb n) _ _ _ _ (dead_xb h ht _)
/-- Only those who joined at first need be looked at. -/
theorem fold_filter {E : Xs → Nat → Int → Xs} (hE : ∀ x t c, Tame t x (E x t c)) (x : Xs) (t : Nat) (c : Int) : ∀ (l : List Nat) (y : Xs), Tame t x y → l.foldl (endR E t c) y = (l.filter (fun k => decide ((thAt x.C k).st = 2))).foldl (endR E t c) y
  | [], y, h => rfl
  | k :: l, y, h => by
    by_cases hk : (thAt x.C k).st = 2
    · rw [List.filter_cons, if_pos (decide_eq_true hk)]
      exact fold_filter hE x t c l _ (endR_tame hE x t c y h k)
    · have e : endR E t c y k = y := by
        unfold endR
        rw [if_neg]
        intro hj
        have h2 := (joins_lt hj).2
        exact hk (by rw [← h.join k h2]; exact h2)
      rw [List.filter_cons, if_neg (by rw [decide_eq_false hk]; decide), List.foldl_cons, e]
      exact fold_filter hE x t c l y h
end Go.Proofs.YtkceciebmkklpaaGreat.V
end
section
namespace Go.Proofs.YtkceciebmkklpaaGreat.V
open Go Go.Proofs
set_option maxRecDepth 100000
set_option maxHeartbeats 40000000
theorem th_at0 {C : Cr} {t : Nat} (ht : t < C.th.length) : (C.th.map thD)[t]? = some (thD (thAt C t)) := by
  rw [thAt_lt ht]; exact get_map (List.getElem?_eq_getElem ht)
end Go.Proofs.YtkceciebmkklpaaGreat.V
end
section
namespace Go.Proofs.YtkceciebmkklpaaGreat.V
open Go Go.Proofs
set_option maxRecDepth 100000
set_option maxHeartbeats 40000000
/-- A callee that is given an element of a row to write, at any place. -/
theorem Spec.rowAt {P : Program} {f : FuncId} {args : List D} {t : TypeId} {sz e off : Nat} {pr : Bool} {es : List D} {post : D → List D → Prop} (h : Spec P f (.ptr 0 0 sz e off :: args) [one (.row t sz pr es)] (fun d os' => ∃ es', post d es' ∧ os' = [one (.row t sz pr es')]))
    (i : Nat) (os : Objs) (hat : os.at i 0 = .row t sz pr es) (hargs : D.pureL args = true) (hx : D.pureL es = true) (hp : ∀ d y, post d y → d.pure = true ∧ D.pureL y = true) :
    Spec P f (.ptr i 0 sz e off :: args) os (fun d os' => ∃ es', post d es' ∧ os' = os.put i 0 (.row t sz pr es')) := by
  have hil := lt_of_at (os := os) (i := i) (j := 0) (by rw [hat]; simp)
  have := h.frame os [(i, 0)] rfl (by simp) (fun k p hk => by
    cases k with
    | zero =>
      simp at hk; subst hk
      refine ⟨hil, ?_, ?_, fun j hj => one_pos _ hj⟩
      · rw [hat]
        show _ = O.mapId _ (.row t sz pr es)
        cases pr <;> simp only [O.mapId, mapIdL_pure _ _ hx]
      · show O.sgl _ (.row t sz pr es) = true
        cases pr <;> simp [O.sgl, sglL_pure _ _ hx]
    | succ k => simp at hk) (by simp [D.sglL, D.sgl, sglL_pure _ _ hargs])
  have e1 : D.mapIdL (lead [(i, 0)] os.length) (.ptr 0 0 sz e off :: args) = .ptr i 0 sz e off :: args := by
    simp only [D.mapIdL, D.mapId, lead, mapIdL_pure _ _ hargs]
    rfl
  rw [e1] at this
  refine this.mono ?_
  rintro d os' ⟨d1, os1, ⟨y, hy, rfl⟩, rfl, rfl⟩
  obtain ⟨h1, h2⟩ := hp _ _ hy
  refine ⟨y, by rw [mapId_pure _ _ h1]; exact hy, ?_⟩
  simp only [merge, putAll, List.drop_one, List.length_cons, List.length_nil, List.drop_succ_cons, List.drop_zero, List.map_nil, List.append_nil, List.tail_cons]
  show os.put i 0 (O.mapId _ (.row t sz pr y)) = _
  cases pr <;> simp [O.mapId, mapIdL_pure _ _ h2]
/-- A row of what is only read, told in other words. -/
theorem Weak.retellP {n0 : Nat} {m : List (Nat × D)} {os : Objs} (k : Nat) {t : TypeId} {sz : Nat} {es : List D} (hk : os.at k 0 = .row t sz true es) (es' : List D) (hl : es'.length = es.length) (h : ∀ I us, repL bot I es us → repL bot I es' us) :
    Weak n0 { m := m, objs := os } { m := m, objs := os.put k 0 (.row t sz true es') } := by
  intro ρ I w tm h1 h2 h3
  obtain ⟨g1, g2⟩ := h1.retell (k := k) (by show os.at k 0 ≠ .gone; rw [hk]; simp) (.row t sz true es') (by
    intro p hp hok
    rw [show ({ m := m, objs := os } : St).objs = os from rfl, hk] at hok
    obtain ⟨a1, a2, a3⟩ := hok
    refine ⟨by rw [hl]; exact a1, a2, fun hpos => ?_⟩
    obtain ⟨arr, us, b1, b2, b3, b4, b5⟩ := a3 hpos
    exact ⟨arr, us, b1, b2, h I us b3, b4, b5⟩)
  exact ⟨ρ, I, g1, h2, Im.le_refl _, by rw [length_put]; exact h3, fun _ _ _ => rfl, fun _ hb => .inl hb, g2⟩
theorem rep_full {ρ : Pl} {I : Im} {v : Value} {sz : Nat} {es : List D} (h : rep ρ I (.lst sz true es) v) : rep ρ I (.lst sz false es) v := by
  rw [rep] at h ⊢
  obtain ⟨A, c, us, e, h1, hm, h2, h3⟩ := h
  exact ⟨A, c, us, e, h1, hm, (fun h => Bool.noConfusion h), h3⟩
theorem repL_set2 {ρ : Pl} {I : Im} {d d' : D} (h : ∀ v, rep ρ I d v → rep ρ I d' v) : ∀ (l : List D) (e : Nat) (vs : List Value), repL ρ I (l.set e d) vs → repL ρ I (l.set e d') vs
  | [], _, _, hr => hr
  | x :: l, 0, vs, hr => by
    obtain ⟨u, us, rfl, hu, hr⟩ := repL_cons.1 hr
    exact repL_cons.2 ⟨u, us, rfl, h u hu, hr⟩
  | x :: l, e + 1, vs, hr => by
    obtain ⟨u, us, rfl, hu, hr⟩ := repL_cons.1 hr
    exact repL_cons.2 ⟨u, us, rfl, hu, repL_set2 h l e us hr⟩
theorem pureL_rows (Ls : List (List Int)) : D.pureL (Ls.map ints) = true := pureL_map (fun _ => rfl) _
theorem set_ints (Ls : List (List Int)) (e : Nat) (L : List Int) : (Ls.map ints).set e (ints L) = (Ls.set e L).map ints := by rw [List.map_set]
theorem push149 (Ls : List (List Int)) (e : Nat) (L : List Int) (hL : Ls[e]? = some L) (t : Int) (hl : L.length ≤ 1000000) : Spec Tryz.prog 221 [.ptr 0 0 1 e 0, .int .i64 t] [rowC Ls] (fun d os' => ∃ es', (d = .tup [] ∧ es' = (Ls.set e (L ++ [t])).map ints) ∧ os' = [one (.row 23 1 true es')]) := by
  have hlm : (L.map (D.int .i64)).length = L.length := List.length_map ..
  refine Spec.by Tryz.func221 rfl (by decide) (by decide +kernel) rfl ?_
  (refine goA ?_)
  refine Opt.of (get_map hL) ?_
  (refine goA ?_)
  refine Nm.mk (L.map (D.int .i64)) (by simp [List.take_of_length_le]) ?_
  (refine goA ?_)
  refine App.only false rfl rfl ?_
  (refine goA ?_)
  refine App.only false rfl rfl ?_
  (refine goA ?_)
  refine Opt.of (get_map hL) ?_
  (refine goA ?_)
  refine Ret.mk [] rfl ⟨_, ⟨rfl, ?_⟩, rfl⟩
  rw [← set_ints]
  exact congrArg (fun r => (Ls.map ints).set e (.lst 1 false r)) (map_snoc _ _)
/-- The first one of a row, none: there is none. -/
def headQ (L : List Int) : Int := L.headD (-1)
theorem pop156 (Ls : List (List Int)) (e : Nat) (L : List Int) (hL : Ls[e]? = some L) (hl : L.length ≤ 1000000) : Spec Tryz.prog 223 [.ptr 0 0 1 e 0] [rowC Ls] (fun d os' => ∃ es', (d = .int .i64 (headQ L) ∧ es' = (Ls.set e L.tail).map ints) ∧ os' = [one (.row 23 1 true es')]) := by
  cases L with
  | nil =>
    refine Spec.by Tryz.func223 rfl (by decide) (by decide +kernel) rfl ?_
    (refine goA ?_)
    refine Opt.of (get_map hL) ?_
    (refine goA ?_)
    refine Ret.mk [.tmp 2] rfl ⟨_, ⟨rfl, ?_⟩, rfl⟩
    rw [← set_ints]
    exact (set_same hL).symm
  | cons v L =>
    have hlm : (L.map (D.int .i64)).length = L.length := List.length_map ..
    refine Spec.by Tryz.func223 rfl (by decide) (by decide +kernel) rfl ?_
    (refine goA ?_)
    refine Opt.of (get_map hL) ?_
    (refine goA ?_)
    refine Nm.mk (L.map (D.int .i64)) (by simp [List.take_of_length_le]) ?_
    (refine goR ?_)
    refine Opt.of (get_map hL) ?_
    (refine goA ?_)
    refine Ret.weak (Weak.on [(2, .int .i64 v)] [one (.row 23 1 true ((Ls.map ints).set e (.lst 1 true (L.map (D.int .i64)))))]) ?_
    refine Ret.weak (Weak.retellP 0 rfl ((Ls.map ints).set e (ints L)) (by rw [List.length_set, List.length_set]) (fun I us => repL_set2 (fun v => rep_full) _ _ _)) ?_
    refine Ret.mk [.tmp 2] rfl ⟨_, ⟨rfl, ?_⟩, rfl⟩
    rw [← set_ints]
    rfl
end Go.Proofs.YtkceciebmkklpaaGreat.V
end
section
namespace Go.Proofs.YtkceciebmkklpaaGreat.V
open Go Go.Proofs
set_option maxRecDepth 100000
set_option maxHeartbeats 40000000
/-- How much stands in rows. -/
def sumL (l : List (List Int)) : Nat := (l.map List.length).sum
structure LkL (nm nw ns : Nat) (S : Lk) : Prop where
  ow : S.ow.length = nm
  co : S.co.length = ns
  lk : S.lk.length = nm
  wq : S.wq.length = nw
  dq : S.dq.length = ns
  tot : sumL S.lk + sumL S.wq + sumL S.dq ≤ 1000
theorem sumL_mem : ∀ {l : List (List Int)} {L : List Int}, L ∈ l → L.length ≤ sumL l
  | x :: l, L, h => by
    unfold sumL
    rcases List.mem_cons.1 h with rfl | h
    · simp
    · have := sumL_mem h; unfold sumL at this; simp; omega
theorem LkL.l1 {nm nw ns : Nat} {S : Lk} (h : LkL nm nw ns S) : ∀ L ∈ S.lk, L.length ≤ 1000 := fun L hL => by have := sumL_mem hL; have := h.tot; omega
theorem LkL.l2 {nm nw ns : Nat} {S : Lk} (h : LkL nm nw ns S) : ∀ L ∈ S.wq, L.length ≤ 1000 := fun L hL => by have := sumL_mem hL; have := h.tot; omega
theorem LkL.l3 {nm nw ns : Nat} {S : Lk} (h : LkL nm nw ns S) : ∀ L ∈ S.dq, L.length ≤ 1000 := fun L hL => by have := sumL_mem hL; have := h.tot; omega
/-- The rest of a play: its program, the tick, the thread, and where its other rows lie. -/
structure Pyl where
  g : Pg
  now : Int
  t : Int
  th : D
  bu : D
  sq : D
  rq : D
  sn : D
  wk : D
@[reducible] def lkD (A : Pyl) (nm nw ns : Nat) : D := .agg [.lst 2 false (A.g.fu.map fuD), .int .i64 A.g.mu, ints A.g.co, ints A.g.se, ints A.g.ch, .lst 1 false (A.g.cs.map ints), .int .i64 A.g.th, .int .i64 A.now, A.th, .sl 0 0 1 0 nm none, .sl 1 0 1 0 ns none, A.bu, .sl 2 0 1 0 nm none, .sl 3 0 1 0 nw none, .sl 4 0 1 0 ns none, A.sq, A.rq, .int .i64 A.t, A.sn, A.wk]
@[reducible] def lkC (A : Pyl) (nm nw ns : Nat) : Fam := one (.row 105 20 false [lkD A nm nw ns])
@[reducible] def lkO (A : Pyl) (nm nw ns : Nat) (S : Lk) (r : Objs) : Objs := rowI S.ow :: rowI S.co :: rowC S.lk :: rowC S.wq :: rowC S.dq :: lkC A nm nw ns :: r
@[reducible] def lkP : D := .ptr 5 0 20 0 7
theorem rowI_at (l : List Int) (m : Nat) (h : m < l.length) : (l.map (D.int .i64))[0 + m]? = some (.int .i64 (l.getD m 0)) := by
  rw [Nat.zero_add, List.getElem?_map, List.getD_eq_getElem?_getD, List.getElem?_eq_getElem h]; rfl
def qAt (l : List (List Int)) (m : Nat) : List Int := l.getD m []
theorem qAt_get (l : List (List Int)) (m : Nat) (h : m < l.length) : l[m]? = some (qAt l m) := by
  rw [qAt, List.getD_eq_getElem?_getD, List.getElem?_eq_getElem h]; rfl
theorem qAt_mem {l : List (List Int)} {m : Nat} (h : m < l.length) : qAt l m ∈ l := List.mem_of_getElem? (qAt_get l m h)
theorem rowC_at (l : List (List Int)) (m : Nat) (h : m < l.length) : (l.map ints)[0 + m]? = some (ints (qAt l m)) := by
  rw [Nat.zero_add]; exact get_map (qAt_get l m h)
/-- A mutex is handed on. -/
def handS (S : Lk) (m : Nat) : Lk := { S with ow := S.ow.set m (headQ (qAt S.lk m)), lk := S.lk.set m (qAt S.lk m).tail }
def lockS (S : Lk) (m : Nat) (t : Int) : Lk × Bool := if S.ow.getD m 0 ≠ -1 then ({ S with lk := S.lk.set m (qAt S.lk m ++ [t]) }, false) else ({ S with ow := S.ow.set m t }, true)
def unlockS (S : Lk) (m : Nat) (t : Int) : Lk × Int × Int := if S.ow.getD m 0 ≠ t then (S, -1, 10) else (handS S m, headQ (qAt S.lk m), 0)
/-- A number is pushed behind a queue of the kind k (3, 4, 5). -/
theorem pushK (os : Objs) (k : Nat) (Ls : List (List Int)) (e : Nat) (he : e < Ls.length) (hl : ∀ L ∈ Ls, L.length ≤ 1000) (t : Int) (hat : os.at k 0 = .row 23 1 true (Ls.map ints)) {e' : Nat} (hee : e = e') :
    Spec Tryz.prog 221 [.ptr k 0 1 e' 0, .int .i64 t] os (fun d os' => d = .tup [] ∧ os' = os.put k 0 (.row 23 1 true ((Ls.set e (qAt Ls e ++ [t])).map ints)))  := by
  subst hee
  refine ((push149 Ls e _ (qAt_get Ls e he) t (by have := hl _ (qAt_mem he); omega)).rowAt k os hat rfl (pureL_rows _) (by rintro d y ⟨rfl, rfl⟩; exact ⟨rfl, pureL_rows _⟩)).mono ?_
  rintro d os' ⟨es, ⟨rfl, rfl⟩, rfl⟩
  exact ⟨rfl, rfl⟩
theorem popK (os : Objs) (k : Nat) (Ls : List (List Int)) (e : Nat) (he : e < Ls.length) (hl : ∀ L ∈ Ls, L.length ≤ 1000) (hat : os.at k 0 = .row 23 1 true (Ls.map ints)) {e' : Nat} (hee : e = e') :
    Spec Tryz.prog 223 [.ptr k 0 1 e' 0] os (fun d os' => d = .int .i64 (headQ (qAt Ls e)) ∧ os' = os.put k 0 (.row 23 1 true ((Ls.set e (qAt Ls e).tail).map ints)))  := by
  subst hee
  refine ((pop156 Ls e _ (qAt_get Ls e he) (by have := hl _ (qAt_mem he); omega)).rowAt k os hat rfl (pureL_rows _) (by rintro d y ⟨rfl, rfl⟩; exact ⟨rfl, pureL_rows _⟩)).mono ?_
  rintro d os' ⟨es, ⟨rfl, rfl⟩, rfl⟩
  exact ⟨rfl, rfl⟩
theorem hand150 {A : Pyl} {nm nw ns : Nat} {S : Lk} (h : LkL nm nw ns S) (m : Nat) (hm : m < nm) (r : Objs) : Spec Tryz.prog 222 [lkP, .int .i64 m] (lkO A nm nw ns S r) (fun d os' => d = .int .i64 (headQ (qAt S.lk m)) ∧ os' = lkO A nm nw ns (handS S m) r) := by
  have h1 := h.ow
  have h2 := h.lk
  have h1m : (S.ow.map (D.int .i64)).length = nm := by rw [List.length_map]; exact h1
  have h2m : (S.lk.map ints).length = nm := by rw [List.length_map]; exact h2
  have hg := rowI_at S.ow m (by omega)
  have hg2 := rowI_at (S.ow.set m (headQ (qAt S.lk m))) m (by rw [List.length_set]; omega)
  have he : (S.ow.map (D.int .i64)).set (0 + (m : Int).toNat) (D.int .i64 (headQ (qAt S.lk m))) = (S.ow.set m (headQ (qAt S.lk m))).map (D.int .i64) := by rw [show 0 + (m : Int).toNat = m by omega, List.map_set]
  have hv : (S.ow.set m (headQ (qAt S.lk m))).getD m 0 = headQ (qAt S.lk m) := by rw [List.getD_eq_getElem?_getD, List.getElem?_set_self (by omega)]; rfl
  rw [hv] at hg2
  refine Spec.by Tryz.func222 rfl (by decide) (by decide +kernel) rfl ?_
  (refine goA ?_)
  refine Call.mk (popK _ 2 S.lk m (by omega) h.l1 rfl (by omega)) ?_
  rintro d os' ⟨rfl, rfl⟩
  (refine goA ?_)
  refine Opt.of hg ?_
  (refine goA ?_)
  rw [he]
  refine Opt.of hg2 ?_
  (refine goA ?_)
  exact Ret.mk [.tmp 4] rfl ⟨rfl, rfl⟩
theorem lock67 {A : Pyl} {nm nw ns : Nat} {S : Lk} (h : LkL nm nw ns S) (m : Nat) (hm : m < nm) (t : Int) (r : Objs) : Spec Tryz.prog 183 [lkP, .int .i64 m, .int .i64 t] (lkO A nm nw ns S r) (fun d os' => d = .bool (lockS S m t).2 ∧ os' = lkO A nm nw ns (lockS S m t).1 r) := by
  have h1 := h.ow
  have h2 := h.lk
  have h1m : (S.ow.map (D.int .i64)).length = nm := by rw [List.length_map]; exact h1
  have h2m : (S.lk.map ints).length = nm := by rw [List.length_map]; exact h2
  have hg := rowI_at S.ow m (by omega)
  have he : (S.ow.map (D.int .i64)).set (0 + (m : Int).toNat) (D.int .i64 t) = (S.ow.set m t).map (D.int .i64) := by rw [show 0 + (m : Int).toNat = m by omega, List.map_set]
  unfold lockS
  by_cases hc : S.ow.getD m 0 = -1
  · rw [if_neg (by omega)]
    refine Spec.by Tryz.func183 rfl (by decide) (by decide +kernel) rfl ?_
    (refine goA ?_)
    refine Opt.of hg ?_
    (refine goA ?_)
    refine Opt.of hg ?_
    (refine goA ?_)
    refine Ret.mk [.tmp 6] rfl ⟨rfl, ?_⟩
    exact congrArg (fun x => one (.row 3 1 true x) :: rowI S.co :: rowC S.lk :: rowC S.wq :: rowC S.dq :: lkC A nm nw ns :: r) he
  · rw [if_pos hc]
    refine Spec.by Tryz.func183 rfl (by decide) (by decide +kernel) rfl ?_
    (refine goA ?_)
    refine Opt.of hg ?_
    (refine goA ?_)
    refine Call.mk (pushK _ 2 S.lk m (by omega) h.l1 t rfl (by omega)) ?_
    rintro d os' ⟨rfl, rfl⟩
    (refine goA ?_)
    exact Ret.mk [.tmp 6] rfl ⟨rfl, rfl⟩
theorem unlock68 {A : Pyl} {nm nw ns : Nat} {S : Lk} (h : LkL nm nw ns S) (m : Nat) (hm : m < nm) (t : Int) (r : Objs) : Spec Tryz.prog 184 [lkP, .int .i64 m, .int .i64 t] (lkO A nm nw ns S r) (fun d os' => d = .tup [.int .i64 (unlockS S m t).2.1, .int .i64 (unlockS S m t).2.2] ∧ os' = lkO A nm nw ns (unlockS S m t).1 r) := by
  have h1 := h.ow
  have h1m : (S.ow.map (D.int .i64)).length = nm := by rw [List.length_map]; exact h1
  have hg := rowI_at S.ow m (by omega)
  unfold unlockS
  by_cases hc : S.ow.getD m 0 = t
  · rw [if_neg (by omega)]
    refine Spec.by Tryz.func184 rfl (by decide) (by decide +kernel) rfl ?_
    (refine goA ?_)
    refine Opt.of hg ?_
    (refine goA ?_)
    refine Call.mk (hand150 h m hm r) ?_
    rintro d os' ⟨rfl, rfl⟩
    (refine goA ?_)
    exact Ret.mk [.tmp _, .tmp _] rfl ⟨rfl, rfl⟩
  · rw [if_pos hc]
    refine Spec.by Tryz.func184 rfl (by decide) (by decide +kernel) rfl ?_
    (refine goA ?_)
    refine Opt.of hg ?_
    (refine goA ?_)
    exact Ret.mk [.tmp _, .tmp _] rfl ⟨rfl, rfl⟩
end Go.Proofs.YtkceciebmkklpaaGreat.V
end
section
namespace Go.Proofs.YtkceciebmkklpaaGreat.V
open Go Go.Proofs
set_option maxRecDepth 100000
set_option maxHeartbeats 40000000
theorem sumL_set : ∀ (l : List (List Int)) (e : Nat) (x : List Int), e < l.length → sumL (l.set e x) + (qAt l e).length = sumL l + x.length
  | [], e, x, h => by simp at h
  | y :: l, 0, x, _ => by simp [sumL, qAt]; omega
  | y :: l, e + 1, x, h => by
    have := sumL_set l e x (by simpa using h)
    simp [sumL, qAt] at this ⊢
    omega
theorem qAt_set (l : List (List Int)) (e : Nat) (x : List Int) (h : e < l.length) : qAt (l.set e x) e = x := by
  rw [qAt, List.getD_eq_getElem?_getD, List.getElem?_set_self h]; rfl
theorem set_qAt (l : List (List Int)) (e : Nat) (h : e < l.length) : l.set e (qAt l e) = l := by
  apply List.ext_getElem?
  intro j
  rw [List.getElem?_set]
  by_cases hj : e = j
  · subst hj; rw [if_pos rfl, if_pos h, qAt_get l e h]
  · rw [if_neg hj]
/-- The numbers are those of threads. -/
structure LkN (S : Lk) : Prop where
  ow : ∀ v ∈ S.ow, -1 ≤ v
  co : ∀ v ∈ S.co, 0 ≤ v ∧ v ≤ 1073741824
  lk : ∀ L ∈ S.lk, ∀ v ∈ L, 0 ≤ v
  wq : ∀ L ∈ S.wq, ∀ v ∈ L, 0 ≤ v
  dq : ∀ L ∈ S.dq, ∀ v ∈ L, 0 ≤ v
theorem mem_set2 {α : Type} {l : List α} {e : Nat} {x y : α} (h : y ∈ l.set e x) : y ∈ l ∨ y = x := List.mem_or_eq_of_mem_set h
theorem qAt_all {p : Int → Prop} {l : List (List Int)} (h : ∀ L ∈ l, ∀ v ∈ L, p v) (e : Nat) : ∀ v ∈ qAt l e, p v := by
  intro v hv
  unfold qAt at hv
  rw [List.getD_eq_getElem?_getD] at hv
  cases hg : l[e]? with
  | none => rw [hg] at hv; simp at hv
  | some L => rw [hg] at hv; exact h L (List.mem_of_getElem? hg) v hv
theorem set_all {p : Int → Prop} {l : List (List Int)} (h : ∀ L ∈ l, ∀ v ∈ L, p v) {e : Nat} {x : List Int} (hx : ∀ v ∈ x, p v) : ∀ L ∈ l.set e x, ∀ v ∈ L, p v := by
  intro L hL
  rcases mem_set2 hL with hL | rfl
  · exact h L hL
  · exact hx
theorem lock_tot {nm nw ns : Nat} {S : Lk} (h : LkL nm nw ns S) (m : Nat) (hm : m < nm) (t : Int) : sumL (lockS S m t).1.lk ≤ sumL S.lk + 1 ∧ (lockS S m t).1.wq = S.wq ∧ (lockS S m t).1.dq = S.dq ∧ (lockS S m t).1.co = S.co := by
  unfold lockS
  split
  · have := sumL_set S.lk m (qAt S.lk m ++ [t]) (by have := h.lk; omega)
    rw [List.length_append, List.length_singleton] at this
    exact ⟨by show sumL (S.lk.set m _) ≤ _; omega, rfl, rfl, rfl⟩
  · exact ⟨by show sumL S.lk ≤ _; omega, rfl, rfl, rfl⟩
theorem lock_len {nm nw ns : Nat} {S : Lk} (h : LkL nm nw ns S) (m : Nat) (t : Int) : (lockS S m t).1.ow.length = nm ∧ (lockS S m t).1.lk.length = nm := by
  unfold lockS
  split <;> simp [h.ow, h.lk]
theorem lock_ok {nm nw ns : Nat} {S : Lk} (h : LkL nm nw ns S) (hn : LkN S) {m : Nat} (hm : m < nm) {t : Int} (ht : 0 ≤ t) (h1 : sumL S.lk + sumL S.wq + sumL S.dq ≤ 999) : LkL nm nw ns (lockS S m t).1 ∧ LkN (lockS S m t).1 := by
  obtain ⟨g1, g2, g3, g4⟩ := lock_tot h m hm t
  obtain ⟨k1, k2⟩ := lock_len h m t
  refine ⟨⟨k1, by rw [g4]; exact h.co, k2, by rw [g2]; exact h.wq, by rw [g3]; exact h.dq, by rw [g2, g3]; omega⟩, ⟨?_, by rw [g4]; exact hn.co, ?_, by rw [g2]; exact hn.wq, by rw [g3]; exact hn.dq⟩⟩
  · unfold lockS
    split
    · exact hn.ow
    · intro v hv
      rcases mem_set2 hv with hv | rfl
      · exact hn.ow v hv
      · omega
  · unfold lockS
    split
    · exact set_all hn.lk (fun v hv => by
        rcases List.mem_append.1 hv with hv | hv
        · exact qAt_all hn.lk m v hv
        · simp at hv; omega)
    · exact hn.lk
def signalS (S : Lk) (c m : Nat) : Lk × Int × Bool := match qAt S.wq c with
  | [] => (S, -1, false)
  | t :: q => ((lockS { S with wq := S.wq.set c q } m t).1, t, (lockS { S with wq := S.wq.set c q } m t).2)
theorem sigq_ok {nm nw ns : Nat} {S : Lk} (h : LkL nm nw ns S) (hn : LkN S) {c : Nat} (hc : c < nw) {t : Int} {q : List Int} (hq : qAt S.wq c = t :: q) : LkL nm nw ns { S with wq := S.wq.set c q } ∧ LkN { S with wq := S.wq.set c q } ∧ 0 ≤ t ∧ sumL S.lk + sumL (S.wq.set c q) + sumL S.dq + 1 ≤ 1000 := by
  have := sumL_set S.wq c q (by have := h.wq; omega)
  rw [hq, List.length_cons] at this
  have hall := qAt_all hn.wq c
  rw [hq] at hall
  have ht := h.tot
  exact ⟨⟨h.ow, h.co, h.lk, by simp [h.wq], h.dq, by show sumL S.lk + sumL (S.wq.set c q) + sumL S.dq ≤ 1000; omega⟩, ⟨hn.ow, hn.co, hn.lk, set_all hn.wq (fun v hv => hall v (by simp [hv])), hn.dq⟩, hall t (by simp), by omega⟩
theorem signal_ok {nm nw ns : Nat} {S : Lk} (h : LkL nm nw ns S) (hn : LkN S) {c m : Nat} (hc : c < nw) (hm : m < nm) : LkL nm nw ns (signalS S c m).1 ∧ LkN (signalS S c m).1 := by
  unfold signalS
  split
  · exact ⟨h, hn⟩
  · rename_i t q hq
    obtain ⟨g1, g2, g3, g4⟩ := sigq_ok h hn hc hq
    exact lock_ok g1 g2 hm g3 (by show sumL S.lk + sumL (S.wq.set c q) + sumL S.dq ≤ 999; omega)
theorem signal90 {A : Pyl} {nm nw ns : Nat} {S : Lk} (h : LkL nm nw ns S) (hn : LkN S) (c m : Nat) (hc : c < nw) (hm : m < nm) (r : Objs) : Spec Tryz.prog 187 [lkP, .int .i64 c, .int .i64 m] (lkO A nm nw ns S r) (fun d os' => d = .tup [.int .i64 (signalS S c m).2.1, .bool (signalS S c m).2.2] ∧ os' = lkO A nm nw ns (signalS S c m).1 r) := by
  have h1 := h.wq
  have h1m : (S.wq.map ints).length = nw := by rw [List.length_map]; exact h1
  have hg := rowC_at S.wq c (by omega)
  cases hq : qAt S.wq c with
  | nil =>
    have e : signalS S c m = (S, -1, false) := by unfold signalS; rw [hq]
    rw [e]
    refine Spec.by Tryz.func187 rfl (by decide) (by decide +kernel) rfl ?_
    (refine goA ?_)
    refine Call.mk (popK _ 3 S.wq c (by omega) h.l2 rfl (by omega)) ?_
    rintro d os' ⟨rfl, rfl⟩
    rw [hq]
    (refine goA ?_)
    refine Ret.mk [.tmp _, .tmp _] rfl ⟨rfl, ?_⟩
    have e2 : S.wq.set c ([] : List Int).tail = S.wq := by have := set_qAt S.wq c (by omega); rw [hq] at this; exact this
    exact congrArg (fun x => rowI S.ow :: rowI S.co :: rowC S.lk :: rowC x :: rowC S.dq :: lkC A nm nw ns :: r) e2
  | cons t q =>
    obtain ⟨g1, g2, g3, g4⟩ := sigq_ok h hn hc hq
    have e : signalS S c m = ((lockS { S with wq := S.wq.set c q } m t).1, t, (lockS { S with wq := S.wq.set c q } m t).2) := by unfold signalS; rw [hq]
    rw [e]
    refine Spec.by Tryz.func187 rfl (by decide) (by decide +kernel) rfl ?_
    (refine goA ?_)
    refine Call.mk (popK _ 3 S.wq c (by omega) h.l2 rfl (by omega)) ?_
    rintro d os' ⟨rfl, rfl⟩
    rw [hq]
    have ht : ¬ (headQ (t :: q) = -1) := by show ¬ (t = -1); omega
    (refine goA ?_)
    refine Call.mk (lock67 g1 m hm t r) ?_
    rintro d os' ⟨rfl, rfl⟩
    (refine goA ?_)
    exact Ret.mk [.tmp _, .tmp _] rfl ⟨rfl, rfl⟩
end Go.Proofs.YtkceciebmkklpaaGreat.V
end
section
namespace Go.Proofs.YtkceciebmkklpaaGreat.V
open Go Go.Proofs
set_option maxRecDepth 100000
set_option maxHeartbeats 40000000
def downS (S : Lk) (s : Nat) (t : Int) : Lk × Bool := if S.co.getD s 0 = 0 then ({ S with dq := S.dq.set s (qAt S.dq s ++ [t]) }, false) else ({ S with co := S.co.set s (S.co.getD s 0 - 1) }, true)
def upS (S : Lk) (s : Nat) : Lk × Int := match qAt S.dq s with
  | [] => (if S.co.getD s 0 < 1073741824 then { S with co := S.co.set s (S.co.getD s 0 + 1) } else S, -1)
  | t :: q => ({ S with dq := S.dq.set s q }, t)
def waitS (S : Lk) (c m : Nat) (t : Int) : Lk × Int × Int := if S.ow.getD m 0 ≠ t then (S, -1, 10) else ({ handS S m with wq := S.wq.set c (qAt S.wq c ++ [t]) }, headQ (qAt S.lk m), 0)
theorem getD_mem {l : List Int} {e : Nat} (h : e < l.length) : l.getD e 0 ∈ l := by
  rw [List.getD_eq_getElem?_getD, List.getElem?_eq_getElem h]; exact List.getElem_mem h
theorem down71 {A : Pyl} {nm nw ns : Nat} {S : Lk} (h : LkL nm nw ns S) (hn : LkN S) (s : Nat) (hs : s < ns) (t : Int) (r : Objs) : Spec Tryz.prog 190 [lkP, .int .i64 s, .int .i64 t] (lkO A nm nw ns S r) (fun d os' => d = .bool (downS S s t).2 ∧ os' = lkO A nm nw ns (downS S s t).1 r) := by
  have h1 := h.co
  have h2 := h.dq
  have h1m : (S.co.map (D.int .i64)).length = ns := by rw [List.length_map]; exact h1
  have h2m : (S.dq.map ints).length = ns := by rw [List.length_map]; exact h2
  have hg := rowI_at S.co s (by omega)
  have hv := hn.co _ (getD_mem (l := S.co) (e := s) (by omega))
  have he : (S.co.map (D.int .i64)).set (0 + (s : Int).toNat) (D.int .i64 (S.co.getD s 0 - 1)) = (S.co.set s (S.co.getD s 0 - 1)).map (D.int .i64) := by rw [show 0 + (s : Int).toNat = s by omega, List.map_set]
  unfold downS
  by_cases hc : S.co.getD s 0 = 0
  · rw [if_pos hc]
    refine Spec.by Tryz.func190 rfl (by decide) (by decide +kernel) rfl ?_
    (refine goA ?_)
    refine Opt.of hg ?_
    (refine goA ?_)
    refine Call.mk (pushK _ 4 S.dq s (by omega) h.l3 t rfl (by omega)) ?_
    rintro d os' ⟨rfl, rfl⟩
    (refine goA ?_)
    exact Ret.mk [.tmp 6] rfl ⟨rfl, rfl⟩
  · rw [if_neg hc]
    refine Spec.by Tryz.func190 rfl (by decide) (by decide +kernel) rfl ?_
    (refine goA ?_)
    refine Opt.of hg ?_
    (refine goA ?_)
    refine Opt.of hg ?_
    (refine goA ?_)
    refine Opt.of hg ?_
    (refine goA ?_)
    refine Ret.mk [.tmp 6] rfl ⟨rfl, ?_⟩
    exact congrArg (fun x => rowI S.ow :: one (.row 3 1 true x) :: rowC S.lk :: rowC S.wq :: rowC S.dq :: lkC A nm nw ns :: r) he
theorem up72 {A : Pyl} {nm nw ns : Nat} {S : Lk} (h : LkL nm nw ns S) (hn : LkN S) (s : Nat) (hs : s < ns) (r : Objs) : Spec Tryz.prog 191 [lkP, .int .i64 s] (lkO A nm nw ns S r) (fun d os' => d = .int .i64 (upS S s).2 ∧ os' = lkO A nm nw ns (upS S s).1 r) := by
  have h1 := h.co
  have h2 := h.dq
  have h1m : (S.co.map (D.int .i64)).length = ns := by rw [List.length_map]; exact h1
  have h2m : (S.dq.map ints).length = ns := by rw [List.length_map]; exact h2
  have hg := rowI_at S.co s (by omega)
  have hv := hn.co _ (getD_mem (l := S.co) (e := s) (by omega))
  have he : (S.co.map (D.int .i64)).set (0 + (s : Int).toNat) (D.int .i64 (S.co.getD s 0 + 1)) = (S.co.set s (S.co.getD s 0 + 1)).map (D.int .i64) := by rw [show 0 + (s : Int).toNat = s by omega, List.map_set]
  have hall := qAt_all hn.dq s
  unfold upS
  cases hq : qAt S.dq s with
  | nil =>
    have e2 : S.dq.set s ([] : List Int).tail = S.dq := by have := set_qAt S.dq s (by omega); rw [hq] at this; exact this
    dsimp only
    by_cases hc : S.co.getD s 0 < 1073741824
    · rw [if_pos hc]
      refine Spec.by Tryz.func191 rfl (by decide) (by decide +kernel) rfl ?_
      (refine goA ?_)
      refine Call.mk (popK _ 4 S.dq s (by omega) h.l3 rfl (by omega)) ?_
      rintro d os' ⟨rfl, rfl⟩
      rw [hq, e2]
      have hh : headQ [] = -1 := rfl
      rw [hh]
      (refine goA ?_)
      refine Opt.of hg ?_
      (refine goA ?_)
      refine Opt.of hg ?_
      (refine goA ?_)
      refine Opt.of hg ?_
      (refine goA ?_)
      refine Ret.mk [.tmp 4] rfl ⟨rfl, ?_⟩
      exact congrArg (fun x => rowI S.ow :: one (.row 3 1 true x) :: rowC S.lk :: rowC S.wq :: rowC S.dq :: lkC A nm nw ns :: r) he
    · rw [if_neg hc]
      refine Spec.by Tryz.func191 rfl (by decide) (by decide +kernel) rfl ?_
      (refine goA ?_)
      refine Call.mk (popK _ 4 S.dq s (by omega) h.l3 rfl (by omega)) ?_
      rintro d os' ⟨rfl, rfl⟩
      rw [hq, e2]
      have hh : headQ [] = -1 := rfl
      rw [hh]
      (refine goA ?_)
      refine Opt.of hg ?_
      (refine goA ?_)
      exact Ret.mk [.tmp 4] rfl ⟨rfl, rfl⟩
  | cons t q =>
    rw [hq] at hall
    have ht0 := hall t (by simp)
    dsimp only
    refine Spec.by Tryz.func191 rfl (by decide) (by decide +kernel) rfl ?_
    (refine goA ?_)
    refine Call.mk (popK _ 4 S.dq s (by omega) h.l3 rfl (by omega)) ?_
    rintro d os' ⟨rfl, rfl⟩
    rw [hq]
    have ht : ¬ (headQ (t :: q) = -1) := by show ¬ (t = -1); omega
    (refine goA ?_)
    exact Ret.mk [.tmp 4] rfl ⟨rfl, rfl⟩
theorem wait89 {A : Pyl} {nm nw ns : Nat} {S : Lk} (h : LkL nm nw ns S) (c m : Nat) (hc : c < nw) (hm : m < nm) (t : Int) (r : Objs) : Spec Tryz.prog 186 [lkP, .int .i64 c, .int .i64 m, .int .i64 t] (lkO A nm nw ns S r) (fun d os' => d = .tup [.int .i64 (waitS S c m t).2.1, .int .i64 (waitS S c m t).2.2] ∧ os' = lkO A nm nw ns (waitS S c m t).1 r) := by
  have h1 := h.wq
  have h1m : (S.wq.map ints).length = nw := by rw [List.length_map]; exact h1
  unfold waitS
  by_cases hcc : S.ow.getD m 0 = t
  · have e : unlockS S m t = (handS S m, headQ (qAt S.lk m), 0) := by unfold unlockS; rw [if_neg (by omega)]
    rw [if_neg (by omega)]
    refine Spec.by Tryz.func186 rfl (by decide) (by decide +kernel) rfl ?_
    (refine goA ?_)
    refine Call.mk (unlock68 h m hm t r) ?_
    rw [e]
    rintro d os' ⟨rfl, rfl⟩
    (refine goA ?_)
    refine Call.mk (pushK _ 3 S.wq c (by omega) h.l2 t rfl (by omega)) ?_
    rintro d os' ⟨rfl, rfl⟩
    (refine goA ?_)
    exact Ret.mk [.tmp _, .tmp _] rfl ⟨rfl, rfl⟩
  · have e : unlockS S m t = (S, -1, 10) := by unfold unlockS; rw [if_pos hcc]
    rw [if_pos hcc]
    refine Spec.by Tryz.func186 rfl (by decide) (by decide +kernel) rfl ?_
    (refine goA ?_)
    refine Call.mk (unlock68 h m hm t r) ?_
    rw [e]
    rintro d os' ⟨rfl, rfl⟩
    (refine goA ?_)
    exact Ret.mk [.tmp _, .tmp _] rfl ⟨rfl, rfl⟩
/-- All that wait are let go, one behind the other. -/
def bcast (c m : Nat) : Nat → Lk → List Int → Int → Lk × List Int × Int
  | 0, S, all, got => (S, all, got)
  | n + 1, S, all, got => match qAt S.wq c with
    | [] => (S, all, got)
    | t :: _ => bcast c m n (signalS S c m).1 (all ++ [t]) (if (signalS S c m).2.2 then t else got)
def broadS (S : Lk) (c m : Nat) : Lk × List Int × Int := bcast c m (qAt S.wq c).length S [] (-1)
theorem bcast_cons {c m n : Nat} {S : Lk} {all : List Int} {got t : Int} {q : List Int} (hq : qAt S.wq c = t :: q) : bcast c m (n + 1) S all got = bcast c m n (signalS S c m).1 (all ++ [t]) (if (signalS S c m).2.2 then t else got) := by
  show (match qAt S.wq c with
    | [] => (S, all, got)
    | t :: _ => bcast c m n (signalS S c m).1 (all ++ [t]) (if (signalS S c m).2.2 then t else got)) = _
  rw [hq]
theorem signal_wq {nm nw ns : Nat} {S : Lk} (h : LkL nm nw ns S) (hn : LkN S) {c m : Nat} (hc : c < nw) (hm : m < nm) {t : Int} {q : List Int} (hq : qAt S.wq c = t :: q) : qAt (signalS S c m).1.wq c = q ∧ (signalS S c m).2.1 = t := by
  obtain ⟨g1, g2, g3, g4⟩ := sigq_ok h hn hc hq
  have e : signalS S c m = ((lockS { S with wq := S.wq.set c q } m t).1, t, (lockS { S with wq := S.wq.set c q } m t).2) := by unfold signalS; rw [hq]
  rw [e]
  obtain ⟨_, k2, _⟩ := lock_tot g1 m hm t
  refine ⟨?_, rfl⟩
  show qAt (lockS { S with wq := S.wq.set c q } m t).1.wq c = q
  rw [k2]
  exact qAt_set S.wq c q (by have := h.wq; omega)
end Go.Proofs.YtkceciebmkklpaaGreat.V
end
section
namespace Go.Proofs.YtkceciebmkklpaaGreat.V
open Go Go.Proofs
set_option maxRecDepth 100000
set_option maxHeartbeats 40000000
/-- A step under way, its locks aside: where its rows lie is told by P.A. -/
structure Py where
  g : Pg
  now : Int
  t : Int
  th : List Th
  bu : List (List Int)
  sq : List (List Int)
  rq : List (List Int)
  ev : List Ev
  wp : List Int
@[reducible] def Py.A (P : Py) : Pyl := ⟨P.g, P.now, P.t, .sl 6 0 5 0 P.th.length none, .sl 7 0 1 0 P.bu.length none, .sl 8 0 1 0 P.sq.length none, .sl 9 0 1 0 P.rq.length none, .sl 10 0 3 0 P.ev.length none, .sl 11 0 1 0 P.wp.length none⟩
@[reducible] def rowE (l : List Ev) : Fam := one (.row 84 3 true (l.map evD))
/-- All that a step under way has. -/
@[reducible] def pyO (P : Py) (nm nw ns : Nat) (S : Lk) (r : Objs) : Objs := lkO P.A nm nw ns S (rowT P.th :: rowC P.bu :: rowC P.sq :: rowC P.rq :: rowE P.ev :: rowI P.wp :: r)
theorem broad189 {P : Py} {nm nw ns : Nat} {S : Lk} (h : LkL nm nw ns S) (hn : LkN S) (c m : Nat) (hc : c < nw) (hm : m < nm) : Spec Tryz.prog 189 [lkP, .int .i64 c, .int .i64 m] (pyO P nm nw ns S []) (fun d os' => d = .tup [ints (broadS S c m).2.1, .int .i64 (broadS S c m).2.2] ∧ os' = pyO P nm nw ns (broadS S c m).1 []) := by
  obtain ⟨R, hR⟩ : ∃ R, broadS S c m = R := ⟨_, rfl⟩
  rw [hR]
  refine Spec.by Tryz.func189 rfl (by decide) (by decide +kernel) rfl ?_
  (refine goR ?_)
  ((with_reducible refine Pt.go ?_); conv => whnf)
  (refine goR ?_)
  ((with_reducible refine Pt.go ?_); conv => whnf)
  (refine goR ?_)
  refine Pt.weak (Weak.trans (Weak.on [(8, .nils), (0, lkP), (1, .int .i64 c), (2, .int .i64 m)] (pyO P nm nw ns S [])) (Weak.nilrow 8 rfl 3 1 true)) ?_
  (refine goA ?_)
  refine Loop.inv (A := Lk × List Int × Int) (List.range 29) (fun x => [(8, .sl 12 0 1 0 x.2.1.length none), (0, lkP), (1, .int .i64 c), (2, .int .i64 m), (9, .int .i64 x.2.2)]) (fun x => pyO P nm nw ns x.1 [rowI x.2.1])
    (fun x => LkL nm nw ns x.1 ∧ LkN x.1 ∧ bcast c m (qAt x.1.wq c).length x.1 x.2.1 x.2.2 = R ∧ x.2.1.length + (qAt x.1.wq c).length ≤ 1000) (fun x => (qAt x.1.wq c).length) (S, [], -1) ⟨h, hn, hR, by have := h.l2 _ (qAt_mem (l := S.wq) (m := c) (by have := h.wq; omega)); show ([] : List Int).length + (qAt S.wq c).length ≤ 1000; rw [List.length_nil]; omega⟩ ?_ ?_
  · exact Weak.start' rfl rfl tld
  rintro ⟨S1, all, got⟩ ⟨hl1, hn1, hR1, hb1⟩
  dsimp only at hl1 hn1 hR1 hb1 ⊢
  have hallm : (all.map (D.int .i64)).length = all.length := List.length_map ..
  cases hq : qAt S1.wq c with
  | nil =>
    have e : signalS S1 c m = (S1, -1, false) := by unfold signalS; rw [hq]
    have hRe : R = (S1, all, got) := by rw [← hR1, hq]; rfl
    rw [hRe]
    (refine goA ?_)
    refine Call.mk (signal90 (A := P.A) hl1 hn1 c m hc hm _) ?_
    rw [e]
    rintro d os' ⟨rfl, rfl⟩
    (refine goA ?_)
    refine Ret.frz (fun i => Nat.beq i 12) [(6, ints all)] ⟨View.slAll rfl rfl hallm (by simp) (ViewL.same _) (pureL_map (fun _ => rfl) _), trivial⟩ ?_
    refine Ret.trim 12 (by simp) rfl (Nat.le_of_ble_eq_true rfl) ?_
    exact Ret.mk [.tmp 6, .tmp 7] rfl ⟨rfl, rfl⟩
  | cons t q =>
    obtain ⟨g1, g2⟩ := signal_ok hl1 hn1 hc hm
    obtain ⟨g3, g4⟩ := signal_wq hl1 hn1 hc hm hq
    obtain ⟨_, _, ht0, _⟩ := sigq_ok hl1 hn1 hc hq
    have hRe : bcast c m q.length (signalS S1 c m).1 (all ++ [t]) (if (signalS S1 c m).2.2 then t else got) = R := by rw [← bcast_cons hq, ← hR1, hq]; rfl
    rw [hq, List.length_cons] at hb1
    obtain ⟨S2, hS2⟩ : ∃ S2, (signalS S1 c m).1 = S2 := ⟨_, rfl⟩
    obtain ⟨b, hb⟩ : ∃ b, (signalS S1 c m).2.2 = b := ⟨_, rfl⟩
    rw [hS2] at g1 g2 g3 hRe
    rw [hb] at hRe
    cases b with
    | false =>
      (refine goA ?_)
      refine Call.mk (signal90 (A := P.A) hl1 hn1 c m hc hm _) ?_
      rw [hS2, g4, hb]
      rintro d os' ⟨rfl, rfl⟩
      (refine goA ?_)
      refine App.only false rfl rfl ?_
      (refine goA ?_)
      refine ⟨_, _, _, ?_, ⟨(S2, all ++ [t], got), ?_, rfl, rfl, rfl⟩, ?_⟩
      · show (qAt S2.wq c).length < _; rw [g3, List.length_cons]; omega
      · exact ⟨g1, g2, by show bcast c m (qAt S2.wq c).length S2 (all ++ [t]) got = R; rw [g3]; exact hRe, by show (all ++ [t]).length + (qAt S2.wq c).length ≤ 1000; rw [g3, List.length_append, List.length_singleton]; omega⟩
      · refine Weak.trans (Weak.on [(8, .sl 13 0 1 0 (all.length + 1) none), (0, lkP), (1, .int .i64 c), (2, .int .i64 m), (9, .int .i64 got)] (pyO P nm nw ns S2 [one .gone, one (.row 3 1 true (all.map (D.int .i64) ++ [D.int .i64 t]))])) ?_
        rw [map_snoc, show all.length + 1 = (all ++ [t]).length by rw [List.length_append, List.length_singleton]]
        refine Weak.trans (Weak.shift 13 12 (by decide) (by simp) (Nat.le_of_ble_eq_true rfl) (Nat.le_of_ble_eq_true rfl) (fun j => by cases j <;> rfl) rfl) ?_
        refine Weak.backT 13 (by simp) (by first | rfl | kernel_rfl) (by kernel_rfl) (Nat.le_of_ble_eq_true rfl) tld (by kernel_rfl) (by kernel_rfl)
    | true =>
      (refine goA ?_)
      refine Call.mk (signal90 (A := P.A) hl1 hn1 c m hc hm _) ?_
      rw [hS2, g4, hb]
      rintro d os' ⟨rfl, rfl⟩
      (refine goA ?_)
      refine App.only false rfl rfl ?_
      (refine goA ?_)
      refine ⟨_, _, _, ?_, ⟨(S2, all ++ [t], t), ?_, rfl, rfl, rfl⟩, ?_⟩
      · show (qAt S2.wq c).length < _; rw [g3, List.length_cons]; omega
      · exact ⟨g1, g2, by show bcast c m (qAt S2.wq c).length S2 (all ++ [t]) t = R; rw [g3]; exact hRe, by show (all ++ [t]).length + (qAt S2.wq c).length ≤ 1000; rw [g3, List.length_append, List.length_singleton]; omega⟩
      · refine Weak.trans (Weak.on [(8, .sl 13 0 1 0 (all.length + 1) none), (0, lkP), (1, .int .i64 c), (2, .int .i64 m), (9, .int .i64 t)] (pyO P nm nw ns S2 [one .gone, one (.row 3 1 true (all.map (D.int .i64) ++ [D.int .i64 t]))])) ?_
        rw [map_snoc, show all.length + 1 = (all ++ [t]).length by rw [List.length_append, List.length_singleton]]
        refine Weak.trans (Weak.shift 13 12 (by decide) (by simp) (Nat.le_of_ble_eq_true rfl) (Nat.le_of_ble_eq_true rfl) (fun j => by cases j <;> rfl) rfl) ?_
        refine Weak.backT 13 (by simp) (by first | rfl | kernel_rfl) (by kernel_rfl) (Nat.le_of_ble_eq_true rfl) tld (by kernel_rfl) (by kernel_rfl)
end Go.Proofs.YtkceciebmkklpaaGreat.V
end
section
namespace Go.Proofs.YtkceciebmkklpaaGreat.V
open Go Go.Proofs
set_option maxRecDepth 100000
set_option maxHeartbeats 40000000
/-! Channels, over a step under way. -/
/-- Numbers are pushed behind an element of a row of lists. -/
theorem push225 (Ls : List (List Int)) (e : Nat) (L : List Int) (hL : Ls[e]? = some L) (l : List Int) (hl : L.length ≤ 1000) (hl2 : l.length ≤ 1000) (hn : l ≠ []) : Spec Tryz.prog 225 [.ptr 0 0 1 e 0, ints l] [rowC Ls] (fun d os' => ∃ y, (d = .tup [] ∧ y = (Ls.set e (L ++ l)).map ints) ∧ os' = [one (.row 23 1 true y)]) := by
  have hLm : (L.map (D.int .i64)).length = L.length := List.length_map ..
  have hln : (l.map (D.int .i64)) ≠ [] := fun h => hn (List.map_eq_nil_iff.1 h)
  refine Spec.by Tryz.func225 rfl (by decide) (by decide +kernel) rfl ?_
  (refine goA ?_)
  refine Opt.of (get_map hL) ?_
  (refine goA ?_)
  refine Nm.mk (L.map (D.int .i64)) (by simp [List.take_of_length_le]) ?_
  (refine goA ?_)
  refine And.intro (fun h => absurd h hln) (fun _ => ?_)
  have hlm : (l.map (D.int .i64)).length = l.length := List.length_map ..
  refine And.intro (by rw [hLm, hlm]; show (L.length + l.length) * 8 ≤ _; omega) (And.intro (by rw [hLm]; omega) ?_)
  refine App.only false rfl (pureL_map (fun _ => rfl) _) ?_
  (refine goA ?_)
  refine Opt.of (get_map hL) ?_
  (refine goA ?_)
  refine Ret.mk [] rfl ⟨_, ⟨rfl, ?_⟩, rfl⟩
  rw [← set_ints]
  exact congrArg (fun r => (Ls.map ints).set e (.lst 1 false r)) List.map_append.symm
/-- The first of a row are taken. -/
theorem shift240 (Ls : List (List Int)) (e : Nat) (L : List Int) (n : Nat) (hL : Ls[e]? = some L) (hl : L.length ≤ 1000) (hn : n ≤ L.length) (hn0 : 0 < n) : Spec Tryz.prog 240 [.ptr 0 0 1 e 0, .int .i64 n] [rowC Ls] (fun d os' => ∃ y, (d = .lst 1 true ((L.take n).map (D.int .i64)) ∧ y = (Ls.set e (L.drop n)).map ints) ∧ os' = [one (.row 23 1 true y)]) := by
  have hLm : (L.map (D.int .i64)).length = L.length := List.length_map ..
  refine Spec.by Tryz.func240 rfl (by decide) (by decide +kernel) rfl ?_
  (refine goA ?_)
  refine Opt.of (get_map hL) ?_
  (refine goA ?_)
  refine Nm.mk ((L.drop n).map (D.int .i64)) (by rw [Int.toNat_natCast, Int.toNat_natCast, List.take_length, List.map_drop]) ?_
  (refine goR ?_)
  refine Opt.of (get_map hL) ?_
  (refine goA ?_)
  refine Nm.mk ((L.take n).map (D.int .i64)) (by rw [Int.toNat_natCast, List.map_take]; rfl) ?_
  (refine goA ?_)
  refine Ret.weak (Weak.on [(4, .lst 1 true ((L.take n).map (D.int .i64)))] [one (.row 23 1 true ((Ls.map ints).set e (.lst 1 true ((L.drop n).map (D.int .i64)))))]) ?_
  refine Ret.weak (Weak.retellP 0 rfl ((Ls.map ints).set e (ints (L.drop n))) (by rw [List.length_set, List.length_set]) (fun I us => repL_set2 (fun v => rep_full) _ _ _)) ?_
  refine Ret.mk [.tmp 4] rfl ⟨_, ⟨rfl, ?_⟩, rfl⟩
  rw [← set_ints]
end Go.Proofs.YtkceciebmkklpaaGreat.V
end
section
namespace Go.Proofs.YtkceciebmkklpaaGreat.V
open Go Go.Proofs
set_option maxRecDepth 100000
set_option maxHeartbeats 40000000
/-- Numbers are pushed behind an element of the row k. -/
theorem pushJ (os : Objs) (k : Nat) (Ls : List (List Int)) (e : Nat) (he : e < Ls.length) (hl : ∀ L ∈ Ls, L.length ≤ 1000) (l : List Int) (hl2 : l.length ≤ 1000) (hn : l ≠ []) (hat : os.at k 0 = .row 23 1 true (Ls.map ints)) {e' : Nat} (hee : e = e') :
    Spec Tryz.prog 225 [.ptr k 0 1 e' 0, ints l] os (fun d os' => d = .tup [] ∧ os' = os.put k 0 (.row 23 1 true ((Ls.set e (qAt Ls e ++ l)).map ints))) := by
  subst hee
  refine ((push225 Ls e _ (qAt_get Ls e he) l (hl _ (qAt_mem he)) hl2 hn).rowAt k os hat rfl (pureL_rows _) (by rintro d y ⟨rfl, rfl⟩; exact ⟨rfl, pureL_rows _⟩)).mono ?_
  rintro d os' ⟨es, ⟨rfl, rfl⟩, rfl⟩
  exact ⟨rfl, rfl⟩
theorem shiftJ (os : Objs) (k : Nat) (Ls : List (List Int)) (e n : Nat) (he : e < Ls.length) (hl : ∀ L ∈ Ls, L.length ≤ 1000) (hn : n ≤ (qAt Ls e).length) (hn0 : 0 < n) (hat : os.at k 0 = .row 23 1 true (Ls.map ints)) {e' : Nat} (hee : e = e') :
    Spec Tryz.prog 240 [.ptr k 0 1 e' 0, .int .i64 n] os (fun d os' => d = .lst 1 true (((qAt Ls e).take n).map (D.int .i64)) ∧ os' = os.put k 0 (.row 23 1 true ((Ls.set e ((qAt Ls e).drop n)).map ints))) := by
  subst hee
  refine ((shift240 Ls e _ n (qAt_get Ls e he) (hl _ (qAt_mem he)) hn hn0).rowAt k os hat rfl (pureL_rows _) (by rintro d y ⟨rfl, rfl⟩; exact ⟨rfl, pureL_rows _⟩)).mono ?_
  rintro d os' ⟨es, ⟨rfl, rfl⟩, rfl⟩
  exact ⟨rfl, rfl⟩
theorem pyO_bu {P : Py} {nm nw ns : Nat} {S : Lk} {r : Objs} {X : List (List Int)} (hX : X.length = P.bu.length) : (pyO P nm nw ns S r).put 7 0 (.row 23 1 true (X.map ints)) = pyO { P with bu := X } nm nw ns S r := by
  have e : P.A = Py.A { P with bu := X } := by show Pyl.mk _ _ _ _ _ _ _ _ _ = Pyl.mk _ _ _ _ _ _ _ _ _; rw [hX]
  show lkO P.A nm nw ns S _ = lkO (Py.A { P with bu := X }) nm nw ns S _
  rw [e]
  rfl
theorem pyO_sq {P : Py} {nm nw ns : Nat} {S : Lk} {r : Objs} {X : List (List Int)} (hX : X.length = P.sq.length) : (pyO P nm nw ns S r).put 8 0 (.row 23 1 true (X.map ints)) = pyO { P with sq := X } nm nw ns S r := by
  have e : P.A = Py.A { P with sq := X } := by show Pyl.mk _ _ _ _ _ _ _ _ _ = Pyl.mk _ _ _ _ _ _ _ _ _; rw [hX]
  show lkO P.A nm nw ns S _ = lkO (Py.A { P with sq := X }) nm nw ns S _
  rw [e]
  rfl
theorem pyO_rq {P : Py} {nm nw ns : Nat} {S : Lk} {r : Objs} {X : List (List Int)} (hX : X.length = P.rq.length) : (pyO P nm nw ns S r).put 9 0 (.row 23 1 true (X.map ints)) = pyO { P with rq := X } nm nw ns S r := by
  have e : P.A = Py.A { P with rq := X } := by show Pyl.mk _ _ _ _ _ _ _ _ _ = Pyl.mk _ _ _ _ _ _ _ _ _; rw [hX]
  show lkO P.A nm nw ns S _ = lkO (Py.A { P with rq := X }) nm nw ns S _
  rw [e]
  rfl
/-- The first one that waits to send, and what. -/
def headS (q : List Int) : Int × Int × Bool := match q with
  | s :: w :: _ => (s, w, true)
  | _ => (-1, 0, false)
theorem sender239 {P : Py} {nm nw ns : Nat} {S : Lk} (c : Nat) (hc : c < P.sq.length) (hl : ∀ L ∈ P.sq, L.length ≤ 1000) (h1 : (qAt P.sq c).length ≠ 1) (r : Objs) : Spec Tryz.prog 239 [lkP, .int .i64 c] (pyO P nm nw ns S r) (fun d os' => d = .tup [.int .i64 (headS (qAt P.sq c)).1, .int .i64 (headS (qAt P.sq c)).2.1, .bool (headS (qAt P.sq c)).2.2] ∧ os' = pyO { P with sq := P.sq.set c ((qAt P.sq c).drop 2) } nm nw ns S r) := by
  have hsm : (P.sq.map ints).length = P.sq.length := List.length_map ..
  have hg := rowC_at P.sq c hc
  cases hq : qAt P.sq c with
  | nil =>
    rw [hq] at hg
    refine Spec.by Tryz.func239 rfl (by decide) (by decide +kernel) rfl ?_
    (refine goA ?_)
    refine Opt.of hg ?_
    (refine goA ?_)
    refine Ret.mk [.tmp 4, .tmp 5, .tmp 6] rfl ⟨rfl, ?_⟩
    have e : P.sq.set c [] = P.sq := by have := set_qAt P.sq c hc; rwa [hq] at this
    rw [List.drop_nil, e]
  | cons s q =>
    cases q with
    | nil => rw [hq] at h1; exact absurd rfl h1
    | cons w q =>
      rw [hq] at hg
      refine Spec.by Tryz.func239 rfl (by decide) (by decide +kernel) rfl ?_
      (refine goA ?_)
      refine Opt.of hg ?_
      (refine goA ?_)
      refine Call.mk (shiftJ _ 8 P.sq c 2 hc hl (by rw [hq]; simp) (by omega) rfl (by simp)) ?_
      rw [hq]
      rintro d os' ⟨rfl, rfl⟩
      (refine goA ?_)
      exact Ret.mk [.tmp 4, .tmp 5, .tmp 6] rfl ⟨rfl, pyO_sq (List.length_set ..)⟩
/-- Can something be received? -/
def canB (bu sq : List (List Int)) (c : Nat) : Bool := decide (0 < ((qAt bu c).length : Int) + ((qAt sq c).length : Int))
theorem ready226 (C : Cr) (c : Nat) (hb : c < C.bu.length) (hs : c < C.sq.length) (h1 : (qAt C.bu c).length ≤ 1000) (h2 : (qAt C.sq c).length ≤ 1000) : Spec Tryz.prog 226 [coreV C, .int .i64 c] [] (fun d os' => d = .bool (canB C.bu C.sq c) ∧ os' = []) := by
  have hbm : (C.bu.map ints).length = C.bu.length := List.length_map ..
  have hsm : (C.sq.map ints).length = C.sq.length := List.length_map ..
  have hg1 : (C.bu.map ints)[c]? = some (ints (qAt C.bu c)) := get_map (qAt_get _ _ hb)
  have hg2 : (C.sq.map ints)[c]? = some (ints (qAt C.sq c)) := get_map (qAt_get _ _ hs)
  have hl1 : ((qAt C.bu c).map (D.int .i64)).length = (qAt C.bu c).length := List.length_map ..
  have hl2 : ((qAt C.sq c).map (D.int .i64)).length = (qAt C.sq c).length := List.length_map ..
  refine Spec.frz (post' := fun d => d = .bool (canB C.bu C.sq c)) ?_
  refine Spec.by Tryz.func226 rfl (by decide) (by decide +kernel) rfl ?_
  (refine goA ?_)
  refine Opt.of hg1 ?_
  (refine goA ?_)
  refine Opt.of hg2 ?_
  (refine goA ?_)
  refine Ret.mk [.tmp 4] rfl ?_; (refine goA ?_)
  refine ⟨_, .same _, rfl, ?_⟩
  rw [hl1, hl2]
  rfl
end Go.Proofs.YtkceciebmkklpaaGreat.V
end
section
namespace Go.Proofs.YtkceciebmkklpaaGreat.V
open Go Go.Proofs
set_option maxRecDepth 100000
set_option maxHeartbeats 40000000
/-- A number is taken: what is left, and the number, and who sent. -/
def takeB (bu sq : List (List Int)) (c : Nat) : List (List Int) × List (List Int) × Int × Int :=
  match qAt bu c with
  | [] => (bu, sq.set c ((qAt sq c).drop 2), (headS (qAt sq c)).2.1, (headS (qAt sq c)).1)
  | v :: b => (bu.set c (if (headS (qAt sq c)).2.2 then b ++ [(headS (qAt sq c)).2.1] else b), sq.set c ((qAt sq c).drop 2), v, (headS (qAt sq c)).1)
theorem set_all1k {l : List (List Int)} (h : ∀ L ∈ l, L.length ≤ 1000) {e : Nat} {x : List Int} (hx : x.length ≤ 1000) : ∀ L ∈ l.set e x, L.length ≤ 1000 := by
  intro L hL
  rcases mem_set2 hL with hL | rfl
  · exact h L hL
  · exact hx
theorem take227 {P : Py} {nm nw ns : Nat} {S : Lk} (c : Nat) (hc : c < P.sq.length) (hl : ∀ L ∈ P.sq, L.length ≤ 1000) (h1 : (qAt P.sq c).length ≠ 1) (hcb : c < P.bu.length) (hlb : ∀ L ∈ P.bu, L.length ≤ 900) (r : Objs) : Spec Tryz.prog 227 [lkP, .int .i64 c] (pyO P nm nw ns S r) (fun d os' => d = .tup [.int .i64 (takeB P.bu P.sq c).2.2.1, .int .i64 (takeB P.bu P.sq c).2.2.2] ∧ os' = pyO { P with bu := (takeB P.bu P.sq c).1, sq := (takeB P.bu P.sq c).2.1 } nm nw ns S r) := by
  have hbm : (P.bu.map ints).length = P.bu.length := List.length_map ..
  have hg := rowC_at P.bu c hcb
  have hlq := hlb _ (qAt_mem hcb)
  obtain ⟨X, hX⟩ : ∃ X, P.sq.set c ((qAt P.sq c).drop 2) = X := ⟨_, rfl⟩
  have hs := sender239 (P := P) (nm := nm) (nw := nw) (ns := ns) (S := S) c hc hl h1 r
  unfold takeB
  rw [hX] at hs ⊢
  obtain ⟨⟨s, w, b⟩, hh⟩ : ∃ h, headS (qAt P.sq c) = h := ⟨_, rfl⟩
  rw [hh] at hs ⊢
  dsimp only at hs ⊢
  cases hq : qAt P.bu c with
  | nil =>
    rw [hq] at hg
    refine Spec.by Tryz.func227 rfl (by decide) (by decide +kernel) rfl ?_
    (refine goA ?_)
    refine Call.mk hs ?_
    rintro d os' ⟨rfl, rfl⟩
    (refine goA ?_)
    refine Opt.of hg ?_
    (refine goA ?_)
    exact Ret.mk [.tmp 4, .tmp 5] rfl ⟨rfl, rfl⟩
  | cons v B =>
    rw [hq] at hg hlq
    rw [List.length_cons] at hlq
    have hB : (B.map (D.int .i64)).length = B.length := List.length_map ..
    cases b with
    | false =>
      refine Spec.by Tryz.func227 rfl (by decide) (by decide +kernel) rfl ?_
      (refine goA ?_)
      refine Call.mk hs ?_
      rintro d os' ⟨rfl, rfl⟩
      (refine goA ?_)
      refine Opt.of hg ?_
      (refine goA ?_)
      refine Call.mk (shiftJ _ 7 P.bu c 1 hcb (fun L hL => by have := hlb L hL; omega) (by rw [hq]; simp) (by omega) rfl (by simp)) ?_
      rw [hq]
      rintro d os' ⟨rfl, rfl⟩
      (refine goA ?_)
      exact Ret.mk [.tmp 4, .tmp 5] rfl ⟨rfl, pyO_bu (P := { P with sq := X }) (List.length_set ..)⟩
    | true =>
      refine Spec.by Tryz.func227 rfl (by decide) (by decide +kernel) rfl ?_
      (refine goA ?_)
      refine Call.mk hs ?_
      rintro d os' ⟨rfl, rfl⟩
      (refine goA ?_)
      refine Opt.of hg ?_
      (refine goA ?_)
      refine App.only false rfl rfl ?_
      (refine goA ?_)
      refine Call.mk (pushJ _ 7 P.bu c hcb (fun L hL => by have := hlb L hL; omega) [w] (by simp) (by simp) rfl (by simp)) ?_
      rw [hq]
      rintro d os' ⟨rfl, ho⟩
      rw [pyO_bu (P := { P with sq := X }) (X := P.bu.set c (v :: B ++ [w])) (List.length_set ..)] at ho
      subst ho
      (refine goA ?_)
      refine Call.mk (shiftJ _ 7 (P.bu.set c (v :: B ++ [w])) c 1 (by rw [List.length_set]; exact hcb) (set_all1k (fun L hL => by have := hlb L hL; omega) (by simp; omega)) (by rw [qAt_set _ _ _ hcb]; simp) (by omega) rfl (by simp)) ?_
      rw [qAt_set _ _ _ hcb, List.set_set]
      rintro d os' ⟨rfl, rfl⟩
      (refine goA ?_)
      exact Ret.mk [.tmp 4, .tmp 5] rfl ⟨rfl, pyO_bu (P := { P with sq := X, bu := P.bu.set c (v :: B ++ [w]) }) (X := P.bu.set c (B ++ [w])) (by simp)⟩
end Go.Proofs.YtkceciebmkklpaaGreat.V
end
section
namespace Go.Proofs.YtkceciebmkklpaaGreat.V
open Go Go.Proofs
set_option maxRecDepth 100000
set_option maxHeartbeats 40000000
/-- The state in a step under way. -/
@[reducible] def Py.C (P : Py) (S : Lk) : Cr := ⟨P.now, P.th, S, P.bu, P.sq, P.rq⟩
theorem core_view {P : Py} {nm nw ns : Nat} {S : Lk} (h : LkL nm nw ns S) (r : Objs) : View allF (pyO P nm nw ns S r) (.agg [.int .i64 P.now, .sl 6 0 5 0 P.th.length none, .sl 0 0 1 0 nm none, .sl 1 0 1 0 ns none, .sl 7 0 1 0 P.bu.length none, .sl 2 0 1 0 nm none, .sl 3 0 1 0 nw none, .sl 4 0 1 0 ns none, .sl 8 0 1 0 P.sq.length none, .sl 9 0 1 0 P.rq.length none]) (coreV (P.C S)) :=
  .agg (.cons (.same _) (.cons (View.slAll (f := false) rfl rfl (by simp) (by simp) (ViewL.same _) (pureTh _))
    (.cons (View.slAll (f := false) rfl rfl (by simp [h.ow]) (by simp) (ViewL.same _) (pureL_map (fun _ => rfl) _))
    (.cons (View.slAll (f := false) rfl rfl (by simp [h.co]) (by simp) (ViewL.same _) (pureL_map (fun _ => rfl) _))
    (.cons (View.slAll (f := false) rfl rfl (by simp) (by simp) (ViewL.same _) (pureL_rows _))
    (.cons (View.slAll (f := false) rfl rfl (by simp [h.lk]) (by simp) (ViewL.same _) (pureL_rows _))
    (.cons (View.slAll (f := false) rfl rfl (by simp [h.wq]) (by simp) (ViewL.same _) (pureL_rows _))
    (.cons (View.slAll (f := false) rfl rfl (by simp [h.dq]) (by simp) (ViewL.same _) (pureL_rows _))
    (.cons (View.slAll (f := false) rfl rfl (by simp) (by simp) (ViewL.same _) (pureL_rows _))
    (.cons (View.slAll (f := false) rfl rfl (by simp) (by simp) (ViewL.same _) (pureL_rows _)) .nil))))))))))
/-- What is kept of channels' rows. -/
structure ChL (nc : Nat) (P : Py) : Prop where
  bu : P.bu.length = nc
  sq : P.sq.length = nc
  rq : P.rq.length = nc
  lb : ∀ L ∈ P.bu, L.length ≤ 900
  ls : ∀ L ∈ P.sq, L.length ≤ 900 ∧ L.length ≠ 1
  lr : ∀ L ∈ P.rq, L.length ≤ 900
/-- The first of these that something can be received from: its place. -/
def pickB (bu sq : List (List Int)) : List Int → Option Nat
  | [] => none
  | c :: l => if canB bu sq c.toNat then some 0 else (pickB bu sq l).map (· + 1)
theorem pickB_none {bu sq : List (List Int)} : ∀ {l : List Int}, (∀ c ∈ l, canB bu sq c.toNat = false) → pickB bu sq l = none
  | [], _ => rfl
  | c :: l, h => by rw [pickB, if_neg (by rw [h c (by simp)]; decide), pickB_none (fun c hc => h c (by simp [hc]))]; rfl
theorem pickB_at {bu sq : List (List Int)} : ∀ {l : List Int} {i : Nat} {c : Int}, l[i]? = some c → canB bu sq c.toNat = true → (∀ x ∈ l.take i, canB bu sq x.toNat = false) → pickB bu sq l = some i
  | [], i, c, h, _, _ => by simp at h
  | x :: l, 0, c, h, hc, _ => by
    have e : x = c := by simpa using h
    subst e
    rw [pickB, if_pos hc]
  | x :: l, i + 1, c, h, hc, hf => by
    rw [pickB, if_neg (by rw [hf x (by simp)]; decide), pickB_at (l := l) (i := i) (by simpa using h) hc (fun y hy => hf y (by simp [hy]))]
    rfl
def pushAll (t : Int) : List Int → List (List Int) → List (List Int)
  | [], R => R
  | c :: l, R => pushAll t l (R.set c.toNat (qAt R c.toNat ++ [t]))
theorem pushAll_len (t : Int) : ∀ (l : List Int) (R : List (List Int)), (pushAll t l R).length = R.length
  | [], R => rfl
  | c :: l, R => by rw [pushAll, pushAll_len]; simp
end Go.Proofs.YtkceciebmkklpaaGreat.V
end
section
namespace Go.Proofs.YtkceciebmkklpaaGreat.V
open Go Go.Proofs
set_option maxRecDepth 100000
set_option maxHeartbeats 40000000
/-- A choice: what is left, the place, the number, who sent, whether. -/
def selP (P : Py) (l : List Int) (t : Int) : Py × Int × Int × Int × Bool :=
  match pickB P.bu P.sq l with
  | some i => ({ P with bu := (takeB P.bu P.sq (l.getD i 0).toNat).1, sq := (takeB P.bu P.sq (l.getD i 0).toNat).2.1 }, (i : Int), (takeB P.bu P.sq (l.getD i 0).toNat).2.2.1, (takeB P.bu P.sq (l.getD i 0).toNat).2.2.2, true)
  | none => ({ P with rq := pushAll t l P.rq }, -1, 0, -1, false)
theorem sel196 {P : Py} {nm nw ns nc : Nat} {S : Lk} (h : LkL nm nw ns S) (hp : ChL nc P) (l : List Int) (hl : l.length ≤ 10) (hc : ∀ c ∈ l, ∃ k : Nat, c = k ∧ k < nc) (t : Int) : Spec Tryz.prog 196 [lkP, ints l, .int .i64 t] (pyO P nm nw ns S []) (fun d os' => d = .tup [.int .i64 (selP P l t).2.1, .int .i64 (selP P l t).2.2.1, .int .i64 (selP P l t).2.2.2.1, .bool (selP P l t).2.2.2.2] ∧ os' = pyO (selP P l t).1 nm nw ns S []) := by
  have hlm : (l.map (D.int .i64)).length = l.length := List.length_map ..
  obtain ⟨R, hR⟩ : ∃ R, selP P l t = R := ⟨_, rfl⟩
  rw [hR]
  refine Spec.by Tryz.func196 rfl (by decide) (by decide +kernel) rfl ?_
  (refine goA ?_)
  refine Loop.inv2 (A := Nat) 0 (List.range 54) (fun i => [(0, lkP), (1, ints l), (2, .int .i64 t), (16, ints l), (17, .int .i64 (l.map (D.int .i64)).length), (18, .int .i64 (i : Int))]) (fun i => pyO P nm nw ns S []) (fun i => i ≤ l.length ∧ ∀ x ∈ l.take i, canB P.bu P.sq x.toNat = false) (fun i => ∀ x ∈ l, canB P.bu P.sq x.toNat = false) (fun i => l.length - i) 0 ⟨Nat.zero_le _, by simp⟩ ?_ ?_ ?_
  · exact Weak.start' rfl rfl tld
  · intro cont
    rintro i ⟨hi, hf⟩
    dsimp only at hi hf ⊢
    (refine goA ?_)
    refine Br.dec (fun h0 => ?_) (fun h0 => ?_)
    · have hlt : i < l.length := by omega
      have hget : l[i]? = some l[i] := List.getElem?_eq_getElem hlt
      obtain ⟨c, hce, hcn⟩ := hc _ (List.getElem_mem hlt)
      have hcb : c < P.bu.length := by rw [hp.bu]; exact hcn
      have hcs : c < P.sq.length := by rw [hp.sq]; exact hcn
      have hb9 := hp.lb _ (qAt_mem hcb)
      have hs9 := hp.ls _ (qAt_mem hcs)
      have hgc : l.getD i 0 = (c : Int) := by rw [List.getD_eq_getElem?_getD, hget, hce]; rfl
      (refine goA ?_)
      refine Opt.of (get_map hget) ?_
      (refine goA ?_)
      rw [hce]
      refine Call.mk ((ready226 (P.C S) c hcb hcs (by show (qAt P.bu c).length ≤ 1000; omega) (by show (qAt P.sq c).length ≤ 1000; omega)).read (.cons (core_view h []) (.cons (.same _) .nil)) rfl (by rintro d rfl; exact ⟨rfl, rfl⟩)) ?_
      rintro d os' ⟨rfl, rfl⟩
      (refine goA ?_)
      refine Br.cs (fun hb => ?_) (fun hb => ?_)
      · have hpk : pickB P.bu P.sq l = some i := pickB_at hget (by rw [hce]; exact hb) hf
        have hRe : R = ({ P with bu := (takeB P.bu P.sq c).1, sq := (takeB P.bu P.sq c).2.1 }, (i : Int), (takeB P.bu P.sq c).2.2.1, (takeB P.bu P.sq c).2.2.2, true) := by rw [← hR]; unfold selP; rw [hpk]; dsimp only; rw [hgc]; rfl
        rw [hRe]
        (refine goA ?_)
        refine Call.mk (take227 c hcs (fun L hL => by have := (hp.ls L hL).1; omega) hs9.2 hcb hp.lb []) ?_
        rintro d os' ⟨rfl, rfl⟩
        (refine goA ?_)
        exact Ret.mk [.tmp 6, .tmp 7, .tmp 8, .tmp 9] rfl ⟨rfl, rfl⟩
      · (refine goA ?_)
        refine ⟨_, _, _, ?_, ⟨i + 1, ?_, rfl, rfl, rfl⟩, ?_⟩
        · show l.length - (i + 1) < l.length - i; omega
        · refine ⟨hlt, ?_⟩
          exact take_more hlt (by rw [hce]; exact hb) hf
        · refine Weak.backT 12 (by simp) (by first | rfl | kernel_rfl) (by kernel_rfl) (Nat.le_of_ble_eq_true rfl) tld (by kernel_rfl) (by kernel_rfl)
    · (refine goR ?_)
      refine Pt.weak ?_ (cont.h i ?_)
      · refine Weak.backT 12 (by simp) (by first | rfl | kernel_rfl) (by kernel_rfl) (Nat.le_of_ble_eq_true rfl) tld (by kernel_rfl) (by kernel_rfl)
      · intro x hx
        exact hf x (by rw [List.take_of_length_le (by omega)]; exact hx)
  · intro i hq
    have hRe : R = ({ P with rq := pushAll t l P.rq }, -1, 0, -1, false) := by rw [← hR]; unfold selP; rw [pickB_none hq]
    rw [hRe]
    (refine goA ?_)
    refine Loop.inv (A := Nat × Py) (List.range 54) (fun a => [(0, lkP), (1, ints l), (2, .int .i64 t), (38, ints l), (39, .int .i64 (l.map (D.int .i64)).length), (40, .int .i64 (a.1 : Int))]) (fun a => pyO a.2 nm nw ns S []) (fun a => a.1 ≤ l.length ∧ (∃ X, a.2 = { P with rq := X } ∧ X.length = nc ∧ (∀ L ∈ X, L.length ≤ 900 + a.1) ∧ pushAll t (l.drop a.1) X = pushAll t l P.rq)) (fun a => l.length - a.1) (0, P) ⟨Nat.zero_le _, P.rq, rfl, hp.rq, hp.lr, rfl⟩ ?_ ?_
    · exact Weak.start' rfl rfl tld
    rintro ⟨i, Q⟩ ⟨hi, X, hX, hXl, hXb, hXp⟩
    dsimp only at hi hX hXl hXb hXp ⊢
    subst hX
    (refine goA ?_)
    refine Br.dec (fun h0 => ?_) (fun h0 => ?_)
    · have hlt : i < l.length := by omega
      have hget : l[i]? = some l[i] := List.getElem?_eq_getElem hlt
      obtain ⟨c, hce, hcn⟩ := hc _ (List.getElem_mem hlt)
      (refine goA ?_)
      refine Opt.of (get_map hget) ?_
      (refine goA ?_)
      rw [hce]
      (refine goA ?_)
      refine App.only false rfl rfl ?_
      (refine goA ?_)
      refine Call.mk (pushJ _ 9 X c (by omega) (fun L hL => by have := hXb L hL; omega) [t] (by simp) (by simp) rfl (by simp)) ?_
      rintro d os' ⟨rfl, ho⟩
      rw [pyO_rq (P := { P with rq := X }) (X := X.set c (qAt X c ++ [t])) (List.length_set ..)] at ho
      subst ho
      (refine goA ?_)
      refine ⟨_, _, _, ?_, ⟨(i + 1, { P with rq := X.set c (qAt X c ++ [t]) }), ?_, rfl, rfl, rfl⟩, ?_⟩
      · show l.length - (i + 1) < l.length - i; omega
      · refine ⟨hlt, _, rfl, by rw [List.length_set]; exact hXl, ?_, ?_⟩
        · intro L hL
          rcases mem_set2 hL with hL | rfl
          · have := hXb L hL; show L.length ≤ 900 + (i + 1); omega
          · have := hXb _ (qAt_mem (l := X) (m := c) (by omega)); simp; omega
        · rw [← hXp, List.drop_eq_getElem_cons hlt, pushAll, hce, Int.toNat_natCast]
      · refine Weak.backT 12 (by simp) (by first | rfl | kernel_rfl) (by kernel_rfl) (Nat.le_of_ble_eq_true rfl) tld (by kernel_rfl) (by kernel_rfl)
    · have hil : i = l.length := by omega
      have hXe : X = pushAll t l P.rq := by rw [← hXp, hil, List.drop_length]; rfl
      subst hXe
      (refine goA ?_)
      exact Ret.mk [.tmp 6, .tmp 7, .tmp 8, .tmp 9] rfl ⟨rfl, rfl⟩
end Go.Proofs.YtkceciebmkklpaaGreat.V
end
section
namespace Go.Proofs.YtkceciebmkklpaaGreat.V
open Go Go.Proofs
set_option maxRecDepth 100000
set_option maxHeartbeats 40000000
theorem recv195 {P : Py} {nm nw ns nc : Nat} {S : Lk} (h : LkL nm nw ns S) (hp : ChL nc P) (c : Nat) (hc : c < nc) (t : Int) : Spec Tryz.prog 195 [lkP, .int .i64 c, .int .i64 t] (pyO P nm nw ns S []) (fun d os' => d = .tup [.int .i64 (selP P [(c : Int)] t).2.2.1, .int .i64 (selP P [(c : Int)] t).2.2.2.1, .bool (selP P [(c : Int)] t).2.2.2.2] ∧ os' = pyO (selP P [(c : Int)] t).1 nm nw ns S []) := by
  have hs := sel196 h hp [(c : Int)] (by simp) (by intro x hx; exact ⟨c, by simpa using hx, hc⟩) t
  refine Spec.by Tryz.func195 rfl (by decide) (by decide +kernel) rfl ?_
  (refine goA ?_)
  refine App.only false rfl rfl ?_
  (refine goA ?_)
  refine Call.mk hs ?_
  rintro d os' ⟨rfl, rfl⟩
  (refine goA ?_)
  exact Ret.mk [.tmp 6, .tmp 7, .tmp 8] rfl ⟨rfl, rfl⟩
theorem index193 (l : List Int) (c : Int) (hl : l.length ≤ 1000000) : Spec Tryz.prog 193 [ints l, .int .i64 c] [] (fun d os' => d = idxD (l.findIdx? (fun x => decide (c = x))) ∧ os' = []) := by
  refine Spec.by Tryz.func193 rfl (by decide) (by decide +kernel) rfl ?_
  (refine goA ?_)
  refine Call.mk ((idx212 l c hl).only _ rfl (by rintro d rfl; rfl)) ?_; rintro d os' ⟨rfl, rfl⟩
  (refine goA ?_)
  refine Ret.mk [.tmp _] rfl ?_; refine And.intro ?_ rfl
  rfl
end Go.Proofs.YtkceciebmkklpaaGreat.V
end
section
namespace Go.Proofs.YtkceciebmkklpaaGreat.V
open Go Go.Proofs
set_option maxRecDepth 100000
set_option maxHeartbeats 40000000
/-- An event is seen: the row of what was seen is a new one, behind all. -/
theorem see180 {P : Py} {nm nw ns : Nat} {S : Lk} (k t n : Int) (hl : P.ev.length ≤ 100000) : Spec Tryz.prog 180 [.ptr 5 0 20 0 0, .int .i64 k, .int .i64 t, .int .i64 n] (pyO P nm nw ns S []) (fun d os' => d = .tup [] ∧ os' = lkO { P.A with sn := .sl 12 0 3 0 (P.ev.length + 1) none } nm nw ns S [rowT P.th, rowC P.bu, rowC P.sq, rowC P.rq, one .gone, rowI P.wp, rowE (P.ev ++ [(k, t, n)])]) := by
  have hm : (P.ev.map evD).length = P.ev.length := List.length_map ..
  refine Spec.by Tryz.func180 rfl (by decide) (by decide +kernel) rfl ?_
  (refine goA ?_)
  refine App.only false rfl rfl ?_
  (refine goA ?_)
  refine Ret.mk [] rfl ⟨rfl, ?_⟩
  have e : P.ev.map evD ++ [evD (k, t, n)] = (P.ev ++ [(k, t, n)]).map evD := by simp
  show lkO { P.A with sn := .sl 12 0 3 0 (P.ev.length + 1) none } nm nw ns S [rowT P.th, rowC P.bu, rowC P.sq, rowC P.rq, one .gone, rowI P.wp, one (.row 84 3 true (P.ev.map evD ++ [evD (k, t, n)]))] = _
  rw [e]
end Go.Proofs.YtkceciebmkklpaaGreat.V
end
section
namespace Go.Proofs.YtkceciebmkklpaaGreat.V
open Go Go.Proofs
set_option maxRecDepth 100000
set_option maxHeartbeats 40000000
/-! A step under way, as the model has it: its layouts. -/
structure En where
  g : Pg
  t : Nat
  nm : Nat
  nw : Nat
  ns : Nat
@[reducible] def En.A (e : En) (x : Xs) (i j : Nat) : Pyl := ⟨e.g, x.C.now, (e.t : Int), .sl 6 0 5 0 x.C.th.length none, .sl 7 0 1 0 x.C.bu.length none, .sl 8 0 1 0 x.C.sq.length none, .sl 9 0 1 0 x.C.rq.length none, .sl i 0 3 0 x.ev.length none, .sl j 0 1 0 x.wp.length none⟩
/-- What was seen lies at i, who was woken at j. -/
@[reducible] def pyG (e : En) (x : Xs) (i j : Nat) (r : Objs) : Objs := lkO (e.A x i j) e.nm e.nw e.ns x.C.L (rowT x.C.th :: rowC x.C.bu :: rowC x.C.sq :: rowC x.C.rq :: r)
@[reducible] def pyA (e : En) (x : Xs) : Objs := pyG e x 10 11 [rowE x.ev, rowI x.wp]
@[reducible] def pyB (e : En) (x : Xs) : Objs := pyG e x 12 13 [one .gone, one .gone, rowE x.ev, rowI x.wp]
@[reducible] def pyC (e : En) (x : Xs) : Objs := pyG e x 14 15 [one .gone, one .gone, one .gone, one .gone, rowE x.ev, rowI x.wp]
/-- How long locks' rows are. -/
structure LkZ (nm nw ns : Nat) (S : Lk) : Prop where
  ow : S.ow.length = nm
  co : S.co.length = ns
  lk : S.lk.length = nm
  wq : S.wq.length = nw
  dq : S.dq.length = ns
theorem LkL.z {nm nw ns : Nat} {S : Lk} (h : LkL nm nw ns S) : LkZ nm nw ns S := ⟨h.ow, h.co, h.lk, h.wq, h.dq⟩
theorem core_viewG {e : En} {x : Xs} (h : LkZ e.nm e.nw e.ns x.C.L) (i j : Nat) (r : Objs) : View allF (pyG e x i j r) (.agg [.int .i64 x.C.now, .sl 6 0 5 0 x.C.th.length none, .sl 0 0 1 0 e.nm none, .sl 1 0 1 0 e.ns none, .sl 7 0 1 0 x.C.bu.length none, .sl 2 0 1 0 e.nm none, .sl 3 0 1 0 e.nw none, .sl 4 0 1 0 e.ns none, .sl 8 0 1 0 x.C.sq.length none, .sl 9 0 1 0 x.C.rq.length none]) (coreV x.C) :=
  .agg (.cons (.same _) (.cons (View.slAll (f := false) rfl rfl (by simp) (by simp) (ViewL.same _) (pureTh _))
    (.cons (View.slAll (f := false) rfl rfl (by simp [h.ow]) (by simp) (ViewL.same _) (pureL_map (fun _ => rfl) _))
    (.cons (View.slAll (f := false) rfl rfl (by simp [h.co]) (by simp) (ViewL.same _) (pureL_map (fun _ => rfl) _))
    (.cons (View.slAll (f := false) rfl rfl (by simp) (by simp) (ViewL.same _) (pureL_rows _))
    (.cons (View.slAll (f := false) rfl rfl (by simp [h.lk]) (by simp) (ViewL.same _) (pureL_rows _))
    (.cons (View.slAll (f := false) rfl rfl (by simp [h.wq]) (by simp) (ViewL.same _) (pureL_rows _))
    (.cons (View.slAll (f := false) rfl rfl (by simp [h.dq]) (by simp) (ViewL.same _) (pureL_rows _))
    (.cons (View.slAll (f := false) rfl rfl (by simp) (by simp) (ViewL.same _) (pureL_rows _))
    (.cons (View.slAll (f := false) rfl rfl (by simp) (by simp) (ViewL.same _) (pureL_rows _)) .nil))))))))))
theorem ownL_ints' : ∀ (l : List Int), D.ownL (l.map (D.int .i64)) = true
  | [] => rfl
  | v :: l => by
    show ((D.int .i64 v).own && D.ownL (l.map (D.int .i64))) = true
    rw [ownL_ints' l]; rfl
theorem own_row1 (l : List Int) : Objs.own [rowI l] := fun i j => by
  cases i with
  | zero => cases j with
    | zero => exact ownL_ints' l
    | succ j => rfl
  | succ i => rw [at_ge _ _ (by simp)]; rfl
def allQ {α : Type} (Q : Nat → α → Prop) : List α → Nat → Prop
  | [], _ => True
  | p :: σ, n => Q n p ∧ allQ Q σ (n + 1)
theorem allQ_get {α : Type} {Q : Nat → α → Prop} : ∀ {σ : List α} {n : Nat}, allQ Q σ n → ∀ (k : Nat) (p : α), σ[k]? = some p → Q (n + k) p
  | [], _, _, k, p, h => by simp at h
  | q :: σ, n, h, 0, p, hp => by simp at hp; subst hp; exact h.1
  | q :: σ, n, h, k + 1, p, hp => by
    have := allQ_get h.2 k p (by simpa using hp)
    rwa [show n + 1 + k = n + (k + 1) by omega] at this
theorem allQ_get0 {α : Type} {Q : Nat → α → Prop} {σ : List α} (h : allQ Q σ 0) : ∀ (k : Nat) (p : α), σ[k]? = some p → Q k p := fun k p hp => by
  have := allQ_get h k p hp
  rwa [Nat.zero_add] at this
/-- What each object of a callee must be among the caller's. -/
@[reducible] def FrQ (os os1 : Objs) (σ : List (Nat × Nat)) (k : Nat) (p : Nat × Nat) : Prop := p.1 < os.length ∧ os.at p.1 p.2 = (os1.at k 0).mapId (lead σ os.length) ∧ (os1.at k 0).sgl σ.length = true ∧ ∀ j, j ≠ 0 → os1.at k j = .gone
@[reducible] def sgB : List (Nat × Nat) := [(0, 0), (1, 0), (2, 0), (3, 0), (4, 0), (5, 0), (6, 0), (7, 0), (8, 0), (9, 0), (12, 0), (13, 0)]
theorem args_up (σ : List (Nat × Nat)) (n : Nat) (h5 : σ[5]? = some (5, 0)) (hl : 5 < σ.length) {xs : List D} (hp : D.pureL xs = true) : D.mapIdL (lead σ n) (.ptr 5 0 20 0 0 :: xs) = .ptr 5 0 20 0 0 :: xs ∧ D.sglL σ.length (.ptr 5 0 20 0 0 :: xs) = true := by
  refine ⟨?_, ?_⟩
  · rw [D.mapIdL, mapIdL_pure _ _ hp, D.mapId]
    unfold lead
    rw [h5]
  · rw [D.sglL, sglL_pure _ _ hp]
    simp [D.sgl, hl]
theorem up1 {e : En} {x y : Xs} {f : FuncId} {xs : List D} {d : D} (h : Spec Tryz.prog f (.ptr 5 0 20 0 0 :: xs) (pyA e x) (fun d' os' => d' = d ∧ os' = pyB e y)) (hp : D.pureL xs = true) (hd : d.pure = true) : Spec Tryz.prog f (.ptr 5 0 20 0 0 :: xs) (pyB e x) (fun d' os' => d' = d ∧ os' = pyC e y) := by
  obtain ⟨a1, a2⟩ := args_up sgB 14 rfl (by decide) hp
  have := h.frame (pyB e x) sgB rfl (by decide) (allQ_get0 (Q := FrQ (pyB e x) (pyA e x) sgB) ⟨⟨Nat.le_of_ble_eq_true rfl, rfl, rfl, fun j hj => one_pos _ hj⟩, ⟨Nat.le_of_ble_eq_true rfl, rfl, rfl, fun j hj => one_pos _ hj⟩, ⟨Nat.le_of_ble_eq_true rfl, rfl, rfl, fun j hj => one_pos _ hj⟩, ⟨Nat.le_of_ble_eq_true rfl, rfl, rfl, fun j hj => one_pos _ hj⟩, ⟨Nat.le_of_ble_eq_true rfl, rfl, rfl, fun j hj => one_pos _ hj⟩, ⟨Nat.le_of_ble_eq_true rfl, rfl, rfl, fun j hj => one_pos _ hj⟩, ⟨Nat.le_of_ble_eq_true rfl, rfl, rfl, fun j hj => one_pos _ hj⟩, ⟨Nat.le_of_ble_eq_true rfl, rfl, rfl, fun j hj => one_pos _ hj⟩, ⟨Nat.le_of_ble_eq_true rfl, rfl, rfl, fun j hj => one_pos _ hj⟩, ⟨Nat.le_of_ble_eq_true rfl, rfl, rfl, fun j hj => one_pos _ hj⟩, ⟨Nat.le_of_ble_eq_true rfl, rfl, rfl, fun j hj => one_pos _ hj⟩, ⟨Nat.le_of_ble_eq_true rfl, rfl, rfl, fun j hj => one_pos _ hj⟩, trivial⟩) a2
  rw [show (pyB e x).length = 14 from rfl, a1] at this
  refine this.mono ?_
  rintro d' os' ⟨d1, os1, ⟨rfl, rfl⟩, rfl, rfl⟩
  refine ⟨mapId_pure _ _ hd, ?_⟩
  kernel_rfl
@[reducible] def sgK : List (Nat × Nat) := [(0, 0), (1, 0), (2, 0), (3, 0), (4, 0), (5, 0), (6, 0), (7, 0), (8, 0), (9, 0), (10, 0), (11, 0)]
@[reducible] def pyK (e : En) (x : Xs) (K : Fam) : Objs := pyG e x 10 11 [rowE x.ev, rowI x.wp, K]
@[reducible] def pyKB (e : En) (x : Xs) (K : Fam) : Objs := pyG e x 13 14 [one .gone, one .gone, K, rowE x.ev, rowI x.wp]
/-- The same where the caller has one thing of its own. -/
theorem upK {e : En} {x y : Xs} (K : Fam) {f : FuncId} {xs : List D} {d : D} (h : Spec Tryz.prog f (.ptr 5 0 20 0 0 :: xs) (pyA e x) (fun d' os' => d' = d ∧ os' = pyB e y)) (hp : D.pureL xs = true) (hd : d.pure = true) : Spec Tryz.prog f (.ptr 5 0 20 0 0 :: xs) (pyK e x K) (fun d' os' => d' = d ∧ os' = pyKB e y K) := by
  obtain ⟨a1, a2⟩ := args_up sgK 13 rfl (by decide) hp
  have := h.frame (pyK e x K) sgK rfl (by decide) (allQ_get0 (Q := FrQ (pyK e x K) (pyA e x) sgK) ⟨⟨Nat.le_of_ble_eq_true rfl, rfl, rfl, fun j hj => one_pos _ hj⟩, ⟨Nat.le_of_ble_eq_true rfl, rfl, rfl, fun j hj => one_pos _ hj⟩, ⟨Nat.le_of_ble_eq_true rfl, rfl, rfl, fun j hj => one_pos _ hj⟩, ⟨Nat.le_of_ble_eq_true rfl, rfl, rfl, fun j hj => one_pos _ hj⟩, ⟨Nat.le_of_ble_eq_true rfl, rfl, rfl, fun j hj => one_pos _ hj⟩, ⟨Nat.le_of_ble_eq_true rfl, rfl, rfl, fun j hj => one_pos _ hj⟩, ⟨Nat.le_of_ble_eq_true rfl, rfl, rfl, fun j hj => one_pos _ hj⟩, ⟨Nat.le_of_ble_eq_true rfl, rfl, rfl, fun j hj => one_pos _ hj⟩, ⟨Nat.le_of_ble_eq_true rfl, rfl, rfl, fun j hj => one_pos _ hj⟩, ⟨Nat.le_of_ble_eq_true rfl, rfl, rfl, fun j hj => one_pos _ hj⟩, ⟨Nat.le_of_ble_eq_true rfl, rfl, rfl, fun j hj => one_pos _ hj⟩, ⟨Nat.le_of_ble_eq_true rfl, rfl, rfl, fun j hj => one_pos _ hj⟩, trivial⟩) a2
  rw [show (pyK e x K).length = 13 from rfl, a1] at this
  refine this.mono ?_
  rintro d' os' ⟨d1, os1, ⟨rfl, rfl⟩, rfl, rfl⟩
  refine ⟨mapId_pure _ _ hd, ?_⟩
  kernel_rfl
theorem lowK {e : En} {x : Xs} {o : O} (m : List (Nat × D)) (hm : m = [] ∨ ∃ v, m = [(6, .bool v)]) : Weak 12 { m := m, objs := pyKB e x (one o) } { m := m, objs := pyB e x } := by
  rcases hm with rfl | ⟨v, rfl⟩
  · refine Weak.trans (Weak.dropAt 12 (Nat.le_of_ble_eq_true rfl)) ?_
    refine Weak.shf 13 12 (Weak.shf 14 13 ?_)
    exact Weak.fin 14
  · refine Weak.trans (Weak.dropAt 12 (Nat.le_of_ble_eq_true rfl)) ?_
    refine Weak.shf 13 12 (Weak.shf 14 13 ?_)
    exact Weak.fin 14
/-- Nothing was done. -/
theorem liftAB {e : En} {x : Xs} (m : List (Nat × D)) (h12 : namesM 12 m = false) (h13 : namesM 13 (renM 10 12 m) = false) : Weak 12 { m := m, objs := pyA e x } { m := renM 11 13 (renM 10 12 m), objs := pyB e x } := by
  refine Weak.trans Weak.gone (Weak.trans Weak.gone ?_)
  refine Weak.trans (Weak.move 10 12 (by decide) (by omega) (Nat.le_of_ble_eq_true rfl) (Nat.le_of_ble_eq_true rfl) (fun j => by cases j <;> rfl) h12 rfl) ?_
  exact Weak.move 11 13 (by decide) (by omega) (Nat.le_of_ble_eq_true rfl) (Nat.le_of_ble_eq_true rfl) (fun j => by cases j <;> rfl) h13 rfl
theorem lowCB {e : En} {x : Xs} (b : List (Nat × D)) (hb : b = [] ∨ ∃ v, b = [(6, .bool v)]) : Weak 12 { m := b, objs := pyC e x } { m := b, objs := pyB e x } := by
  rcases hb with rfl | ⟨v, rfl⟩
  · refine Weak.shf 14 12 (Weak.shf 15 13 ?_)
    exact Weak.fin 14
  · refine Weak.shf 14 12 (Weak.shf 15 13 ?_)
    exact Weak.fin 14
def py (e : En) (x : Xs) : Py := ⟨e.g, x.C.now, (e.t : Int), x.C.th, x.C.bu, x.C.sq, x.C.rq, x.ev, x.wp⟩
theorem seeA (e : En) (x : Xs) (k n : Int) (t : Nat) (hl : x.ev.length ≤ 100000) : Spec Tryz.prog 180 [.ptr 5 0 20 0 0, .int .i64 k, .int .i64 t, .int .i64 n] (pyA e x) (fun d os' => d = .tup [] ∧ os' = pyB e (seeX x k t n)) := by
  have hs := see180 (P := py e x) (nm := e.nm) (nw := e.nw) (ns := e.ns) (S := x.C.L) k t n hl
  rw [show (py e x).ev.length + 1 = (x.ev ++ [(k, (t : Int), n)]).length by simp [py]] at hs
  refine Spec.weak hs ?_
  rintro d os' ⟨rfl, rfl⟩
  refine ⟨[(0, .tup [])], pyB e (seeX x k t n), ?_, rfl, rfl⟩
  refine Weak.trans Weak.gone ?_
  refine Weak.trans (Weak.move 11 13 (by decide) (Nat.le_of_ble_eq_true rfl) (Nat.le_of_ble_eq_true rfl) (Nat.le_of_ble_eq_true rfl) (fun j => by cases j <;> rfl) rfl rfl) ?_
  exact Weak.on [(0, .tup [])] (pyB e (seeX x k t n))
theorem restG {e : En} {x : Xs} (hk : e.t < x.C.th.length) (st on : Int) (i j : Nat) (r : Objs) : Spec Tryz.prog 182 [.ptr 5 0 20 0 0, .int .i64 st, .int .i64 on] (pyG e x i j r) (fun d os' => d = .tup [] ∧ os' = pyG e (restX x e.t st on) i j r) := by
  have hm : (x.C.th.map thD).length = x.C.th.length := List.length_map ..
  have he : thAt x.C e.t = x.C.th[e.t] := thAt_lt hk
  have hg : (x.C.th.map thD)[0 + e.t]? = some (thD x.C.th[e.t]) := by rw [Nat.zero_add]; exact get_map (List.getElem?_eq_getElem hk)
  refine Spec.by Tryz.func182 rfl (by decide) (by decide +kernel) rfl ?_
  (refine goA ?_)
  refine Opt.of hg ?_
  (refine goA ?_)
  refine Opt.of (show ((x.C.th.map thD).set (0 + e.t) _)[0 + e.t]? = some _ by rw [Nat.zero_add]; exact List.getElem?_set_self (by rw [hm]; exact hk)) ?_
  (refine goA ?_)
  refine Ret.mk [] rfl ⟨rfl, ?_⟩
  have e1 : (e.A x i j) = e.A (restX x e.t st on) i j := by
    show Pyl.mk _ _ _ _ _ _ _ _ _ = Pyl.mk _ _ _ _ _ _ _ _ _
    rw [rest_len]; rfl
  have e2 : rowT (restX x e.t st on).C.th = one (.row 42 5 true (((x.C.th.map thD).set (0 + e.t) (thD { x.C.th[e.t] with st := st })).set (0 + e.t) (thD { x.C.th[e.t] with st := st, on := on }))) := by
    rw [Nat.zero_add, List.set_set, ← List.map_set, ← he]; rfl
  show _ = lkO (e.A (restX x e.t st on) i j) e.nm e.nw e.ns x.C.L (rowT (restX x e.t st on).C.th :: rowC x.C.bu :: rowC x.C.sq :: rowC x.C.rq :: r)
  rw [← e1, e2]
  rfl
end Go.Proofs.YtkceciebmkklpaaGreat.V
end
section
namespace Go.Proofs.YtkceciebmkklpaaGreat.V
open Go Go.Proofs
set_option maxRecDepth 100000
set_option maxHeartbeats 40000000
/-- What is asked of the end of a thread. -/
def EndC (e : En) (n : Nat) : Prop := ∀ (x : Xs) (t : Nat) (c : Int) (b w : Nat), XB n b w x → b ≤ 50000 → t < x.C.th.length → LkZ e.nm e.nw e.ns x.C.L → Spec Tryz.prog 179 [.ptr 5 0 20 0 0, .int .i64 t, .int .i64 c] (pyA e x) (fun d os' => d = .tup [] ∧ os' = pyB e (endX n x t c))
theorem th_at {C : Cr} {t : Nat} (ht : t < C.th.length) : (C.th.map thD)[0 + t]? = some (thD (thAt C t)) := by
  rw [Nat.zero_add, thAt_lt ht]; exact get_map (List.getElem?_eq_getElem ht)
theorem th_put {C : Cr} {t : Nat} {f : Th} : (C.th.map thD).set (0 + t) (thD f) = (putT C t f).th.map thD := by
  rw [Nat.zero_add]; exact (List.map_set ..).symm
theorem pyA_th {e : En} {x : Xs} {t : Nat} {f : Th} : (pyA e x).put 6 0 (.row 42 5 true ((x.C.th.map thD).set (0 + t) (thD f))) = pyA e { x with C := putT x.C t f } := by
  rw [th_put]
  have e1 : e.A x 10 11 = e.A { x with C := putT x.C t f } 10 11 := by
    show Pyl.mk _ _ _ _ _ _ _ _ _ = Pyl.mk _ _ _ _ _ _ _ _ _
    simp [putT]
  show lkO (e.A x 10 11) _ _ _ _ _ = lkO (e.A { x with C := putT x.C t f } 10 11) _ _ _ _ _
  rw [e1]
  rfl
theorem tellT_ff {f : Th} {l : List Int} (h : (tellT f l).2 = false) : (tellT f l).1 = endT 2 := by
  unfold tellT at h ⊢
  split
  · rename_i h0
    rcases pushL_e l f with he | he
    · rw [he] at h0; exact absurd h0 (by decide)
    · show endT (pushL f (-1) l).2 = endT 2
      rw [he]
  · rename_i h0; rw [if_neg h0] at h; cases h
theorem tell181 {e : En} {n b w : Nat} (hE : EndC e n) {x : Xs} (hx : XB n b w x) (hb : b ≤ 50000) {t : Nat} (ht : t < x.C.th.length) (hz : LkZ e.nm e.nw e.ns x.C.L) (l : List Int) (hl : l.length ≤ 1000) :
    Spec Tryz.prog 181 [.ptr 5 0 20 0 0, .int .i64 t, ints l] (pyA e x) (fun d os' => d = .bool (tellE (endX n) x t l).2 ∧ os' = pyB e (tellE (endX n) x t l).1) := by
  have hg := th_at ht
  have hm : (x.C.th.map thD).length = x.C.th.length := List.length_map ..
  obtain ⟨⟨f, b2⟩, hT⟩ : ∃ r, tellT (thAt x.C t) l = r := ⟨_, rfl⟩
  have hs := tell99 (thAt x.C t) l (hx.at t).1 (by omega)
  rw [hT] at hs
  cases b2 with
  | true =>
    have hR : tellE (endX n) x t l = ({ x with C := putT x.C t f }, true) := by unfold tellE; rw [hT, if_pos rfl]
    rw [hR]
    refine Spec.by Tryz.func181 rfl (by decide) (by decide +kernel) rfl ?_
    (refine goA ?_)
    refine Opt.of hg ?_
    (refine goA ?_)
    refine Call.mk ((hs).only _ rfl (by rintro d rfl; rfl)) ?_; rintro d os' ⟨rfl, rfl⟩
    (refine goA ?_)
    refine Opt.of hg ?_
    (refine goA ?_)
    refine Ret.weak (Weak.fin (sl := [(6, .bool true)]) (os := (pyA e x).put 6 0 (.row 42 5 true ((x.C.th.map thD).set (0 + t) (thD f)))) 12) ?_
    rw [pyA_th]
    refine Ret.weak (liftAB [(6, .bool true)] rfl rfl) ?_
    exact Ret.mk [.tmp 6] rfl ⟨rfl, rfl⟩
  | false =>
    have hR : tellE (endX n) x t l = (endX n x t 2, false) := by unfold tellE; rw [hT, if_neg Bool.false_ne_true]
    have hf : f = endT 2 := by have := tellT_ff (f := thAt x.C t) (l := l) (by rw [hT]); rw [hT] at this; exact this
    subst hf
    rw [hR]
    refine Spec.by Tryz.func181 rfl (by decide) (by decide +kernel) rfl ?_
    (refine goA ?_)
    refine Opt.of hg ?_
    (refine goA ?_)
    refine Call.mk ((hs).only _ rfl (by rintro d rfl; rfl)) ?_; rintro d os' ⟨rfl, rfl⟩
    (refine goA ?_)
    refine Call.mk (upK (one (.row 42 5 false [thD (endT 2)])) (hE x t 2 b w hx hb ht hz) rfl rfl) ?_
    rintro d os' ⟨rfl, rfl⟩
    (refine goA ?_)
    refine Ret.weak (Weak.on [(6, .bool false)] (pyKB e (endX n x t 2) (one (.row 42 5 false [thD (endT 2)])))) ?_
    refine Ret.weak (lowK [(6, .bool false)] (.inr ⟨_, rfl⟩)) ?_
    exact Ret.mk [.tmp 6] rfl ⟨rfl, rfl⟩
theorem pyA_th2 {e : En} {x : Xs} {t : Nat} {f : Th} (wk : List Int) (st on : Int) : (pyA e x).put 6 0 (.row 42 5 true (((x.C.th.map thD).set (0 + t) (thD f)).set (0 + t) (thD { thAt x.C t with st := st, on := on }))) = pyA e (restX { x with wk := wk } t st on) := by
  rw [List.set_set]
  exact pyA_th
theorem wake185 {e : En} {n b w : Nat} (hE : EndC e n) {x : Xs} {t : Nat} (hx : XB n b w (restX { x with wk := x.wk ++ [(t : Int)] } t 0 0)) (hb : b ≤ 50000) (ht : t < x.C.th.length) (hz : LkZ e.nm e.nw e.ns x.C.L) (l : List Int) (hl : l.length ≤ 1000) :
    Spec Tryz.prog 185 [.ptr 5 0 20 0 0, .int .i64 t, ints l] (pyA e x) (fun d os' => d = .tup [] ∧ os' = pyB e (wakeE (endX n) x t l)) := by
  have hg := th_at ht
  have hm : (x.C.th.map thD).length = x.C.th.length := List.length_map ..
  have hs := tell181 hE hx hb (t := t) (by rw [rest_len]; exact ht) hz l hl
  have hy := (tell_xb (end_xb n) hx (t := t) (by rw [rest_len]; exact ht) l).1
  unfold wakeE
  obtain ⟨⟨y, b2⟩, hT⟩ : ∃ r, tellE (endX n) (restX { x with wk := x.wk ++ [(t : Int)] } t 0 0) t l = r := ⟨_, rfl⟩
  rw [hT] at hs hy ⊢
  dsimp only at hs hy ⊢
  have hwp := hy.wp
  have hwm : (y.wp.map (D.int .i64)).length = y.wp.length := List.length_map ..
  refine Spec.by Tryz.func185 rfl (by decide) (by decide +kernel) rfl ?_
  (refine goA ?_)
  refine Opt.of hg ?_
  (refine goA ?_)
  refine Opt.of (show ((x.C.th.map thD).set (0 + t) _)[0 + t]? = some _ by rw [Nat.zero_add]; exact List.getElem?_set_self (by rw [hm]; exact ht)) ?_
  (refine goR ?_)
  refine Pt.weak (Weak.on [(0, .ptr 5 0 20 0 0), (1, .int .i64 t), (2, ints l)] ((pyA e x).put 6 0 (.row 42 5 true (((x.C.th.map thD).set (0 + t) (thD { thAt x.C t with st := 0 })).set (0 + t) (thD { thAt x.C t with st := 0, on := 0 }))))) ?_
  rw [pyA_th2 (x.wk ++ [(t : Int)])]
  (refine goA ?_)
  refine Call.mk hs ?_
  rintro d os' ⟨rfl, rfl⟩
  cases b2 with
  | true =>
    (refine goA ?_)
    refine App.only false rfl rfl ?_
    (refine goA ?_)
    refine Ret.weak (Weak.on [] (lkO { e.A y 12 13 with wk := .sl 14 0 1 0 (y.wp.length + 1) none } e.nm e.nw e.ns y.C.L (rowT y.C.th :: rowC y.C.bu :: rowC y.C.sq :: rowC y.C.rq :: [one .gone, one .gone, rowE y.ev, one .gone, one (.row 3 1 true (y.wp.map (D.int .i64) ++ [.int .i64 t]))]))) ?_
    rw [map_snoc, show y.wp.length + 1 = (y.wp ++ [(t : Int)]).length by rw [List.length_append, List.length_singleton]]
    refine Ret.weak (Weak.shift 14 13 (by decide) (by simp) (Nat.le_of_ble_eq_true rfl) (Nat.le_of_ble_eq_true rfl) (fun j => by cases j <;> rfl) rfl) ?_
    refine Ret.weak (Weak.fin (sl := []) (os := pyB e { y with wp := y.wp ++ [(t : Int)] }) 14) ?_
    exact Ret.mk [] rfl ⟨rfl, rfl⟩
  | false =>
    (refine goA ?_)
    exact Ret.mk [] rfl ⟨rfl, rfl⟩
theorem no_join0 {C : Cr} (h : nj C ≤ 0) (k : Nat) : (thAt C k).st ≠ 2 := by
  intro h2
  have hk := lt_of_st (C := C) (t := k) (by omega)
  have : 0 < nj C := List.countP_pos_iff.2 ⟨C.th[k], List.getElem_mem hk, by rw [thAt_lt hk] at h2; exact decide_eq_true h2⟩
  omega
theorem end179m {e : En} {n : Nat} {E : Xs → Nat → Int → Xs} (hEt : ∀ x t c, Tame t x (E x t c)) (hEx : XBk E)
    (hW : ∀ (y : Xs) (k : Nat) (c : Int) (b w : Nat), XB n b w y → b ≤ 50001 → (thAt y.C k).st = 2 → LkZ e.nm e.nw e.ns y.C.L → Spec Tryz.prog 185 [.ptr 5 0 20 0 0, .int .i64 k, ints [c]] (pyA e y) (fun d os' => d = .tup [] ∧ os' = pyB e (wakeE E y k [c])))
    {x : Xs} {t : Nat} {c : Int} {b w : Nat} (hx : XB n b w x) (hb : b ≤ 50000) (ht : t < x.C.th.length) (hz : LkZ e.nm e.nw e.ns x.C.L) :
    Spec Tryz.prog 179 [.ptr 5 0 20 0 0, .int .i64 t, .int .i64 c] (pyA e x) (fun d os' => d = .tup [] ∧ os' = pyB e ((List.range x.C.th.length).foldl (endR E t c) (deadX x t c))) := by
  have hg := th_at ht
  have hm : (x.C.th.map thD).length = x.C.th.length := List.length_map ..
  obtain ⟨x0, hx0⟩ : ∃ x0, deadX x t c = x0 := ⟨_, rfl⟩
  have hxb := dead_xb hx ht c
  have hlen : x0.C.th.length = x.C.th.length := by rw [← hx0]; simp [deadX, seeX, putT]
  have hL : x0.C.L = x.C.L := by rw [← hx0]; rfl
  rw [hx0] at hxb ⊢
  rw [fold_filter hEt x0 t c _ x0 (Tame.refl t x0)]
  obtain ⟨ln, hln⟩ : ∃ ln, (List.range x.C.th.length).filter (fun k => decide ((thAt x0.C k).st = 2)) = ln := ⟨_, rfl⟩
  have hlt : ∀ k ∈ ln, k < x0.C.th.length := fun k hk => by rw [← hln] at hk; rw [hlen]; exact List.mem_range.1 (List.mem_filter.1 hk).1
  rw [hln]
  obtain ⟨R, hR⟩ : ∃ R, ln.foldl (endR E t c) x0 = R := ⟨_, rfl⟩
  rw [hR]
  have hof : ofK x0.C [2] = ln.map Int.ofNat := by
    unfold ofK ofS ofi
    rw [← hln, hlen]
    refine congrArg (List.map Int.ofNat) (List.filter_congr ?_)
    intro k _
    refine decide_eq_decide.2 ?_
    simp [thAt, endT]
  have hol := ofK_len x0.C [2]
  have hll : ln.length ≤ 100 := by have := hxb.tl; rw [hof, List.length_map] at hol; omega
  have hsee := seeA e { x with C := putT x.C t (endT c) } 2 c t (by have := hx.ev; show x.ev.length ≤ _; omega)
  rw [show seeX { x with C := putT x.C t (endT c) } 2 t c = x0 from hx0] at hsee
  refine Spec.by Tryz.func179 rfl (by decide) (by decide +kernel) rfl ?_
  (refine goA ?_)
  refine Opt.of hg ?_
  (refine goA ?_)
  refine Call.mk ((end55 (thAt x.C t) c).only _ rfl (by rintro d rfl; rfl)) ?_; rintro d os' ⟨rfl, rfl⟩
  (refine goR ?_)
  refine Opt.of hg ?_
  (refine goR ?_)
  refine Pt.weak (Weak.on [(0, .ptr 5 0 20 0 0), (1, .int .i64 t), (2, .int .i64 c)] ((pyA e x).put 6 0 (.row 42 5 true ((x.C.th.map thD).set (0 + t) (thD (endT c)))))) ?_
  rw [pyA_th]
  (refine goA ?_)
  refine Call.mk hsee ?_
  rintro d os' ⟨rfl, rfl⟩
  (refine goA ?_)
  refine App.only false rfl rfl ?_
  (refine goA ?_)
  refine Call.mk ((in98 [2]).only _ rfl (by rintro d rfl; rfl)) ?_; rintro d os' ⟨rfl, rfl⟩
  (refine goA ?_)
  refine Call.mk ((of97w x0.C [2] (by simp) (by have := hxb.tl; omega)).fresh (.cons (core_viewG (by rw [hL]; exact hz) 12 13 _) (.cons (.same _) .nil)) rfl (by rintro d os' ⟨rfl, rfl⟩; exact ⟨rfl, own_row1 _⟩)) ?_
  rintro d os' ⟨d0, os0, ⟨rfl, rfl⟩, rfl, rfl⟩
  rw [show ofS x0.C.th (fun x => decide (x.st ∈ [2])) = ln.map Int.ofNat from hof]
  obtain ⟨l, hl⟩ : ∃ l, ln.map Int.ofNat = l := ⟨_, rfl⟩
  have hll2 : l.length = ln.length := by rw [← hl, List.length_map]
  have hlm : (l.map (D.int .i64)).length = l.length := List.length_map ..
  rw [hl]
  (refine goA ?_)
  refine Loop.inv (A := Nat × Xs) (List.range 70) (fun a => [(0, .ptr 5 0 20 0 0), (1, .int .i64 t), (2, .int .i64 c), (35, ints l), (36, .int .i64 l.length), (37, .int .i64 (a.1 : Int))]) (fun a => pyB e a.2) (fun a => a.1 ≤ ln.length ∧ (ln.drop a.1).foldl (endR E t c) a.2 = R ∧ Tame t x0 a.2 ∧ XB n (b + 1) w a.2) (fun a => ln.length - a.1) (0, x0) ⟨Nat.zero_le _, hR, Tame.refl _ _, hxb⟩ ?_ ?_
  · refine Weak.trans (Weak.frzK (fun i => Nat.beq i 14) [(35, ints l)] ⟨View.slAll rfl rfl hlm (by simp) (ViewL.same _) (pureL_map (fun _ => rfl) _), trivial⟩) ?_
    refine Weak.trans (Weak.trim 14 (by simp) rfl (Nat.le_of_ble_eq_true rfl)) ?_
    exact Weak.start' rfl rfl tld
  rintro ⟨i, y⟩ ⟨hi, hy, hty, hyb⟩
  dsimp only at hi hy hty hyb ⊢
  have hyl : y.C.th.length = x0.C.th.length := hty.len
  have hyL : y.C.L = x.C.L := by rw [hty.rest, ← hL]
  have hzy : LkZ e.nm e.nw e.ns y.C.L := by rw [hyL]; exact hz
  have hmy : (y.C.th.map thD).length = y.C.th.length := List.length_map ..
  (refine goA ?_)
  refine Br.dec (fun h0 => ?_) (fun h0 => ?_)
  · have hil : i < ln.length := by omega
    have hget : l[i]? = some ((ln[i] : Nat) : Int) := by rw [← hl, List.getElem?_map, List.getElem?_eq_getElem hil]; rfl
    obtain ⟨k, hke⟩ : ∃ k, ln[i] = k := ⟨_, rfl⟩
    have hk : k < y.C.th.length := by rw [hyl, ← hke]; exact hlt _ (List.getElem_mem hil)
    rw [List.drop_eq_getElem_cons hil, List.foldl_cons, hke] at hy
    rw [hke] at hget
    have hgk := th_at hk
    (refine goA ?_)
    refine Opt.of (get_map hget) ?_
    (refine goA ?_)
    refine Opt.of hgk ?_
    (refine goA ?_)
    refine Br.dec (fun h1 => ?_) (fun h1 => ?_)
    · (refine goA ?_)
      refine Opt.of hgk ?_
      (refine goA ?_)
      refine Br.dec (fun h2 => ?_) (fun h2 => ?_)
      · have hj : joins y t k = true := decide_eq_true ⟨h1, h2⟩
        rw [endR, if_pos hj] at hy
        have hzb := (wake_xb hEx hyb hk [c]).2 h1
        have htw : Tame t x0 (wakeE E y k [c]) := hty.trans (wake_tame hEt y k [c]) (Or.inr (Or.inl h1))
        (refine goA ?_)
        refine App.only false rfl rfl ?_
        (refine goA ?_)
        refine Call.mk (up1 (hW y k c (b + 1) w hyb (by omega) h1 hzy) rfl rfl) ?_
        rintro d os' ⟨rfl, rfl⟩
        (refine goA ?_)
        refine ⟨_, _, _, ?_, ⟨(i + 1, wakeE E y k [c]), ?_, rfl, rfl, rfl⟩, ?_⟩
        · show ln.length - (i + 1) < ln.length - i; omega
        · exact ⟨hil, hy, htw, hzb⟩
        · refine Weak.trans (Weak.shift 14 12 (by decide) (by simp) (Nat.le_of_ble_eq_true rfl) (Nat.le_of_ble_eq_true rfl) (fun j => by cases j <;> rfl) rfl) ?_
          refine Weak.trans (Weak.shift 15 13 (by decide) (by simp) (Nat.le_of_ble_eq_true rfl) (Nat.le_of_ble_eq_true rfl) (fun j => by cases j <;> rfl) rfl) ?_
          refine Weak.backT 14 (by simp) (by first | rfl | kernel_rfl) (by kernel_rfl) (Nat.le_of_ble_eq_true rfl) tld (by kernel_rfl) (by kernel_rfl)
      · have hj : ¬ joins y t k = true := fun hj => h2 (of_decide_eq_true hj).2
        rw [endR, if_neg hj] at hy
        (refine goA ?_)
        refine ⟨_, _, _, ?_, ⟨(i + 1, y), ?_, rfl, rfl, rfl⟩, ?_⟩
        · show ln.length - (i + 1) < ln.length - i; omega
        · exact ⟨hil, hy, hty, hyb⟩
        · refine Weak.backT 14 (by simp) (by first | rfl | kernel_rfl) (by kernel_rfl) (Nat.le_of_ble_eq_true rfl) tld (by kernel_rfl) (by kernel_rfl)
    · have hj : ¬ joins y t k = true := fun hj => h1 (of_decide_eq_true hj).1
      rw [endR, if_neg hj] at hy
      (refine goA ?_)
      refine ⟨_, _, _, ?_, ⟨(i + 1, y), ?_, rfl, rfl, rfl⟩, ?_⟩
      · show ln.length - (i + 1) < ln.length - i; omega
      · exact ⟨hil, hy, hty, hyb⟩
      · refine Weak.backT 14 (by simp) (by first | rfl | kernel_rfl) (by kernel_rfl) (Nat.le_of_ble_eq_true rfl) tld (by kernel_rfl) (by kernel_rfl)
  · have hie : i = ln.length := by omega
    have hyR : y = R := by rw [hie, List.drop_length] at hy; exact hy
    (refine goA ?_)
    exact Ret.mk [] rfl ⟨rfl, by rw [hyR]⟩
theorem end_all (e : En) : ∀ (n : Nat), EndC e n
  | 0 => fun x t c b w hx hb ht hz => by
    have h := end179m (E := endX 0) (end_tame 0) (end_xb 0) (fun y k c b w hy _ h2 _ => absurd h2 (no_join0 hy.jn k)) (c := c) hx hb ht hz
    rw [fold_filter (end_tame 0) (deadX x t c) t c _ _ (Tame.refl t _)] at h
    rw [List.filter_eq_nil_iff.2 (fun k _ => by
      rw [decide_eq_false (no_join0 (dead_xb hx ht c).jn k)]; decide)] at h
    exact h
  | n + 1 => fun x t c b w hx hb ht hz => by
    refine end179m (E := endX n) (end_tame n) (end_xb n) (fun y k c b w hy hb2 h2 hz2 => ?_) hx hb ht hz
    have hk := lt_of_st (C := y.C) (t := k) (by omega)
    obtain ⟨m', b', e1, e2, hr⟩ := (rest_xb hy hk (k : Int) 0 0 (by decide)).2 h2
    have : n = m' := by omega
    subst this
    exact wake185 (end_all e n) hr (by omega) hk hz2 [c] (by simp)
end Go.Proofs.YtkceciebmkklpaaGreat.V
end
section
namespace Go.Proofs.YtkceciebmkklpaaGreat.V
open Go Go.Proofs
set_option maxRecDepth 100000
set_option maxHeartbeats 40000000
/-! What is met: locks, channels, sleep, join, spawn; a step. -/
def cancelR (R : List (List Int)) (t : Int) : List (List Int) := R.map (fun q => q.filter (fun v => decide (v ≠ t)))
/-- A number is sent: the state, who received it, whether. -/
def sendC (C : Cr) (c : Nat) (room t v : Int) : Cr × Int × Bool :=
  match qAt C.rq c with
  | f :: _ => ({ C with rq := cancelR C.rq f }, f, true)
  | [] => if ((qAt C.bu c).length : Int) < room then ({ C with bu := C.bu.set c (qAt C.bu c ++ [v]) }, -1, true)
    else ({ C with sq := C.sq.set c (qAt C.sq c ++ [t, v]) }, -1, false)
/-- A choice: the state, its place, the number, who sent, whether. -/
def selC (C : Cr) (l : List Int) (t : Int) : Cr × Int × Int × Int × Bool :=
  match pickB C.bu C.sq l with
  | some i => ({ C with bu := (takeB C.bu C.sq (l.getD i 0).toNat).1, sq := (takeB C.bu C.sq (l.getD i 0).toNat).2.1 }, (i : Int), (takeB C.bu C.sq (l.getD i 0).toNat).2.2.1, (takeB C.bu C.sq (l.getD i 0).toNat).2.2.2, true)
  | none => ({ C with rq := pushAll t l C.rq }, -1, 0, -1, false)
/-- Where a number stands. -/
def idxI (l : List Int) (c : Int) : Int := match l.findIdx? (fun x => decide (c = x)) with
  | some i => (i : Int)
  | none => -1
def FU : Nat := 100
def endF : Xs → Nat → Int → Xs := endX FU
def tellF (x : Xs) (t : Nat) (l : List Int) : Xs := (tellE endF x t l).1
def wakeF (x : Xs) (t : Int) (l : List Int) : Xs := if t < 0 then x else wakeE endF x t.toNat l
def inC (x : Xs) (C : Cr) : Xs := { x with C := C }
def inL (x : Xs) (S : Lk) : Xs := { x with C := { x.C with L := S } }
def newT (g : Pg) (f : Int) : Th := ⟨0, 0, [newFm g f], [], 0⟩
def spawnX (g : Pg) (x : Xs) (t : Nat) (f : Int) : Xs :=
  if g.th ≤ (x.C.th.length : Int) then tellF (seeX x 1 t (-1)) t [-1]
  else tellF { seeX { x with C := { x.C with th := x.C.th ++ [newT g f] } } 1 t x.C.th.length with wk := x.wk ++ [(x.C.th.length : Int)], wp := x.wp ++ [(x.C.th.length : Int)] } t [(x.C.th.length : Int)]
def joinX (x : Xs) (t : Nat) (v : Int) : Xs :=
  if v < 0 ∨ (x.C.th.length : Int) ≤ v ∨ v = t then endF x t 5
  else if (thAt x.C v.toNat).st = 9 then tellF x t [(thAt x.C v.toNat).code]
  else restX x t 2 v
def movedX (x : Xs) (t m : Int) (has : Bool) : Xs := if has then wakeF x t [] else restX x t.toNat 3 m
def movedL (m got : Int) (x : Xs) (t : Int) : Xs := movedX x t m (decide (t = got))
def sendX (g : Pg) (x : Xs) (t : Nat) (c : Int) (v : Int) : Xs :=
  let r := sendC x.C c.toNat (g.ch.getD c.toNat 0) t v
  if r.2.2 = false then restX (inC x r.1) t 6 c
  else if r.2.1 < 0 then inC x r.1
  else if (thAt r.1 r.2.1.toNat).st = 8 then wakeF (inC x r.1) r.2.1 [v, idxI (qAt g.cs (thAt r.1 r.2.1.toNat).on.toNat) c]
  else wakeF (inC x r.1) r.2.1 [v]
def recvX (x : Xs) (t : Nat) (c : Int) : Xs :=
  let r := selC x.C [c] t
  if r.2.2.2.2 = false then restX (inC x r.1) t 7 c else wakeF (tellF (inC x r.1) t [r.2.2.1]) r.2.2.2.1 []
def chooseX (g : Pg) (x : Xs) (t : Nat) (a : Int) : Xs :=
  let r := selC x.C (qAt g.cs a.toNat) t
  if r.2.2.2.2 = false then restX (inC x r.1) t 8 a else wakeF (tellF (inC x r.1) t [r.2.2.1, r.2.1]) r.2.2.2.1 []
def lockX (x : Xs) (t : Nat) (a : Int) : Xs :=
  let r := lockS x.C.L a.toNat t
  if r.2 then inL x r.1 else restX (inL x r.1) t 3 a
def unlockX (x : Xs) (t : Nat) (a : Int) : Xs :=
  let r := unlockS x.C.L a.toNat t
  if r.2.2 = 0 then wakeF (inL x r.1) r.2.1 [] else endF x t 4
def waitX (g : Pg) (x : Xs) (t : Nat) (a : Int) : Xs :=
  let r := waitS x.C.L a.toNat (g.co.getD a.toNat 0).toNat t
  if r.2.2 = 0 then restX (wakeF (inL x r.1) r.2.1 []) t 4 a else endF x t 4
def signalX (g : Pg) (x : Xs) (a : Int) : Xs :=
  let m := g.co.getD a.toNat 0
  let r := signalS x.C.L a.toNat m.toNat
  if r.2.1 < 0 then x else movedX (inL x r.1) r.2.1 m r.2.2
def broadX (g : Pg) (x : Xs) (a : Int) : Xs :=
  let m := g.co.getD a.toNat 0
  let r := broadS x.C.L a.toNat m.toNat
  r.2.1.foldl (movedL m r.2.2) (inL x r.1)
def downX (x : Xs) (t : Nat) (a : Int) : Xs :=
  let r := downS x.C.L a.toNat t
  if r.2 then inL x r.1 else restX (inL x r.1) t 5 a
def upX (x : Xs) (a : Int) : Xs :=
  let r := upS x.C.L a.toNat
  wakeF (inL x r.1) r.2 []
def sleepX (x : Xs) (t : Nat) (v : Int) : Xs := if x.C.now < keep (x.C.now + v) then restX x t 1 (keep (x.C.now + v)) else x
def meetX (g : Pg) (x : Xs) (t : Nat) (q : Rq) : Xs :=
  if q.kd = 1 then endF x t q.v
  else if q.kd = 16 then seeX x 0 t q.v
  else if q.kd = 3 then spawnX g x t q.a
  else if q.kd = 4 then sleepX x t q.v
  else if q.kd = 5 then joinX x t q.v
  else if q.kd = 6 then lockX x t q.a
  else if q.kd = 7 then unlockX x t q.a
  else if q.kd = 8 then waitX g x t q.a
  else if q.kd = 9 then signalX g x q.a
  else if q.kd = 10 then broadX g x q.a
  else if q.kd = 11 then downX x t q.a
  else if q.kd = 12 then upX x q.a
  else if q.kd = 13 then sendX g x t q.a q.v
  else if q.kd = 14 then recvX x t q.a
  else if q.kd = 15 then chooseX g x t q.a
  else x
def begX (g : Pg) (C : Cr) (t : Nat) : Xs := ⟨putT C t (stepT g (thAt C t)).1, [], [], []⟩
/-- A step: the state, what was seen, who was woken, the error. -/
def stepC (g : Pg) (C : Cr) (t : Int) : Cr × List Ev × List Int × Int :=
  if t < 0 ∨ (C.th.length : Int) ≤ t then (C, [], [], 1)
  else if (thAt C t.toNat).st ≠ 0 then (C, [], [], 10)
  else
    let x := meetX g (begX g C t.toNat) t.toNat (stepT g (thAt C t.toNat)).2
    (x.C, x.ev, x.wk.filter (fun k => decide (k ≠ t) && decide ((thAt x.C k.toNat).st = 0)), 0)
end Go.Proofs.YtkceciebmkklpaaGreat.V
end
section
namespace Go.Proofs.YtkceciebmkklpaaGreat.V
open Go Go.Proofs
set_option maxRecDepth 100000
set_option maxHeartbeats 40000000
theorem clone130p (xs : List Int) (hl : xs.length * 8 ≤ 140737488351232) (hx : xs ≠ []) : Spec Tryz.prog 80 [ints xs] [] (fun d os' => d = .sl 0 0 1 0 xs.length none ∧ os' = [rowI xs]) := by
  have hm : (xs.map (D.int .i64)) ≠ [] := fun e => hx (List.map_eq_nil_iff.1 e)
  refine Spec.by Tryz.func80 rfl (by decide) (by decide +kernel) rfl ?_
  (refine goA ?_)
  refine And.intro (fun hn => ?_) (fun hn => absurd hn hm)
  (refine goA ?_)
  refine App.own ?_
  (refine goA ?_)
  refine Ret.weak (Weak.shift 1 0 (by decide) (by simp) (Nat.le_of_ble_eq_true rfl) (Nat.le_of_ble_eq_true rfl) (fun j => by cases j <;> rfl) rfl) ?_
  refine Ret.trim 1 (by simp) rfl (Nat.le_of_ble_eq_true rfl) ?_
  refine Ret.mk [.tmp _] rfl (And.intro ?_ rfl)
  show D.sl 0 0 1 0 (0 + (xs.map (D.int .i64)).length) none = _
  simp
end Go.Proofs.YtkceciebmkklpaaGreat.V
end
section
namespace Go.Proofs.YtkceciebmkklpaaGreat.V
open Go Go.Proofs
set_option maxRecDepth 100000
set_option maxHeartbeats 40000000
theorem clone130w (xs : List Int) (hl : xs.length * 8 ≤ 140737488351232) : Spec Tryz.prog 80 [ints xs] [] (fun d os' => d = .sl 0 0 1 0 xs.length none ∧ os' = [rowI xs]) := by
  by_cases hx : xs = []
  · subst hx
    refine Spec.by Tryz.func80 rfl (by decide) (by decide +kernel) rfl ?_
    (refine goA ?_)
    refine fun _ => And.intro ?_ ?_
    · (refine goA ?_)
      refine Ret.weak (Weak.nilrow 2 rfl 3 1 true) ?_
      exact Ret.mk [.tmp _] rfl (And.intro rfl rfl)
    · (refine goA ?_)
      refine App.own ?_
      (refine goA ?_)
      refine Ret.weak (Weak.shift 1 0 (by decide) (by simp) (Nat.le_of_ble_eq_true rfl) (Nat.le_of_ble_eq_true rfl) (fun j => by cases j <;> rfl) rfl) ?_
      refine Ret.trim 1 (by simp) rfl (Nat.le_of_ble_eq_true rfl) ?_
      exact Ret.mk [.tmp _] rfl (And.intro rfl rfl)
  · exact clone130p xs hl hx
end Go.Proofs.YtkceciebmkklpaaGreat.V
end
section
namespace Go.Proofs.YtkceciebmkklpaaGreat.V
open Go Go.Proofs
set_option maxRecDepth 100000
set_option maxHeartbeats 40000000
/-- A new state of locks: its rows. -/
def newS (nm nw : Nat) (se : List Int) : Lk := ⟨List.replicate nm (-1), se, List.replicate nm [], List.replicate nw [], List.replicate se.length []⟩
end Go.Proofs.YtkceciebmkklpaaGreat.V
end
section
namespace Go.Proofs.YtkceciebmkklpaaGreat.V
open Go Go.Proofs
set_option maxRecDepth 100000
set_option maxHeartbeats 40000000
@[reducible] def nilC (n : Nat) : Fam := one (.row 23 1 true (List.replicate n .nils))
theorem rep_nilsL {ρ : Pl} {I : Im} {v : Value} (sz : Nat) (f : Bool) (h : rep ρ I .nils v) : rep ρ I (.lst sz f []) v := by
  have h' : v = .slice none 0 0 := by rw [rep] at h; exact h
  rw [rep]
  exact ⟨none, 0, [], h', Nat.le_refl _, by simp, fun _ => rfl, repL_nil.2 rfl, (fun u hu => by cases hu), .inl rfl⟩
end Go.Proofs.YtkceciebmkklpaaGreat.V
end
section
namespace Go.Proofs.YtkceciebmkklpaaGreat.V
open Go Go.Proofs
set_option maxRecDepth 100000
set_option maxHeartbeats 40000000
theorem Spec.args {P : Program} {f : FuncId} {args args' : List D} {os : Objs} {post : D → Objs → Prop} (h : Spec P f args os post) (hv : ∀ ρ I vs, repL ρ I args' vs → repL ρ I args vs) : Spec P f args' os post :=
  ⟨h.1, fun ρ I w vs s r => h.2 ρ I w vs s (hv ρ I vs r)⟩
end Go.Proofs.YtkceciebmkklpaaGreat.V
end
section
namespace Go.Proofs.YtkceciebmkklpaaGreat.V
open Go Go.Proofs
set_option maxRecDepth 100000
set_option maxHeartbeats 40000000
/-- What a request's function is given. -/
structure EO (e : En) (x : Xs) : Prop where
  xb : XB 100 1000 1000 x
  L : LkL e.nm e.nw e.ns x.C.L
  N : LkN x.C.L
  tl : e.t < x.C.th.length
  nw : e.g.co.length = e.nw
  co : ∀ v ∈ e.g.co, 0 ≤ v ∧ v < e.nm
theorem args_nils (a b : D) (ρ : Pl) (I : Im) (vs : List Value) (h : repL ρ I [a, b, .nils] vs) : repL ρ I [a, b, ints []] vs := by
  obtain ⟨u, us, rfl, ha, h⟩ := repL_cons.1 h
  obtain ⟨v, vs, rfl, hb, h⟩ := repL_cons.1 h
  obtain ⟨z, zs, rfl, hc, h⟩ := repL_cons.1 h
  exact repL_cons.2 ⟨_, _, rfl, ha, repL_cons.2 ⟨_, _, rfl, hb, repL_cons.2 ⟨_, _, rfl, rep_nilsL 1 false hc, h⟩⟩⟩
theorem wakeF185 {e : En} {b w : Nat} {x : Xs} (hx : XB 100 b w x) (hb : b ≤ 40000) {t : Int} (ht : 0 ≤ t → t.toNat < x.C.th.length) (hz : LkZ e.nm e.nw e.ns x.C.L) (l : List Int) (hl : l.length ≤ 1000) :
    Spec Tryz.prog 185 [.ptr 5 0 20 0 0, .int .i64 t, ints l] (pyA e x) (fun d os' => d = .tup [] ∧ os' = pyB e (wakeF x t l)) := by
  unfold wakeF
  by_cases h0 : t < 0
  · rw [if_pos h0]
    refine Spec.by Tryz.func185 rfl (by decide) (by decide +kernel) rfl ?_
    (refine goA ?_)
    refine Ret.weak (Weak.on [] (pyA e x)) ?_
    refine Ret.weak (liftAB [] rfl rfl) ?_
    exact Ret.mk [] rfl ⟨rfl, rfl⟩
  · rw [if_neg h0]
    obtain ⟨k, rfl⟩ : ∃ k : Nat, t = (k : Int) := ⟨t.toNat, by omega⟩
    have hk : k < x.C.th.length := by have := ht (by omega); omega
    exact wake185 (end_all e 100) (rest_xb hx hk (k : Int) 0 0 (by decide)).1 (by omega) hk hz l hl
theorem wakeN185 {e : En} {b w : Nat} {x : Xs} (hx : XB 100 b w x) (hb : b ≤ 40000) {t : Int} (ht : 0 ≤ t → t.toNat < x.C.th.length) (hz : LkZ e.nm e.nw e.ns x.C.L) :
    Spec Tryz.prog 185 [.ptr 5 0 20 0 0, .int .i64 t, .nils] (pyA e x) (fun d os' => d = .tup [] ∧ os' = pyB e (wakeF x t [])) :=
  (wakeF185 hx hb ht hz [] (by simp)).args (args_nils _ _)
theorem moved188 {e : En} {b w : Nat} {x : Xs} (hx : XB 100 b w x) (hb : b ≤ 40000) {t : Int} (h0 : 0 ≤ t) (ht : t.toNat < x.C.th.length) (hz : LkZ e.nm e.nw e.ns x.C.L) (m : Int) (has : Bool) :
    Spec Tryz.prog 188 [.ptr 5 0 20 0 0, .int .i64 t, .int .i64 m, .bool has] (pyA e x) (fun d os' => d = .tup [] ∧ os' = pyB e (movedX x t m has)) := by
  cases has with
  | true =>
    rw [show movedX x t m true = wakeF x t [] from if_pos rfl]
    refine Spec.by Tryz.func188 rfl (by decide) (by decide +kernel) rfl ?_
    (refine goA ?_)
    refine Call.mk (wakeN185 hx hb (fun _ => ht) hz) ?_
    rintro d os' ⟨rfl, rfl⟩
    (refine goA ?_)
    exact Ret.mk [] rfl ⟨rfl, rfl⟩
  | false =>
    rw [show movedX x t m false = restX x t.toNat 3 m from if_neg Bool.false_ne_true]
    obtain ⟨k, rfl⟩ : ∃ k : Nat, t = (k : Int) := ⟨t.toNat, by omega⟩
    rw [Int.toNat_natCast] at ht ⊢
    have hg := th_at ht
    have hm : (x.C.th.map thD).length = x.C.th.length := List.length_map ..
    refine Spec.by Tryz.func188 rfl (by decide) (by decide +kernel) rfl ?_
    (refine goA ?_)
    refine Opt.of hg ?_
    (refine goA ?_)
    refine Opt.of (show ((x.C.th.map thD).set (0 + k) _)[0 + k]? = some _ by rw [Nat.zero_add]; exact List.getElem?_set_self (by rw [hm]; exact ht)) ?_
    (refine goA ?_)
    refine Ret.weak (Weak.on [] ((pyA e x).put 6 0 (.row 42 5 true (((x.C.th.map thD).set (0 + k) (thD { thAt x.C k with st := 3 })).set (0 + k) (thD { thAt x.C k with st := 3, on := m }))))) ?_
    rw [pyA_th2 x.wk]
    refine Ret.weak (liftAB [] rfl rfl) ?_
    exact Ret.mk [] rfl ⟨rfl, rfl⟩
@[reducible] def qK (q : Rq) : Fam := one (.row 107 3 false [rqD q])
theorem up_end {e : En} {x : Xs} {K : Fam} (h : EO e x) (c : Int) : Spec Tryz.prog 179 [.ptr 5 0 20 0 0, .int .i64 e.t, .int .i64 c] (pyK e x K) (fun d os' => d = .tup [] ∧ os' = pyKB e (endF x e.t c) K) :=
  upK K (end_all e 100 x e.t c 1000 1000 h.xb (by omega) h.tl h.L.z) rfl rfl
theorem ends107 {e : En} {x : Xs} (h : EO e x) (q : Rq) : Spec Tryz.prog 107 [.ptr 5 0 20 0 0, rqD q] (pyA e x) (fun d os' => d = .tup [] ∧ os' = pyB e (endF x e.t q.v)) := by
  refine Spec.by Tryz.func107 rfl (by decide) (by decide +kernel) rfl ?_
  (refine goA ?_)
  refine Call.mk (up_end h q.v) ?_
  rintro d os' ⟨rfl, rfl⟩
  (refine goA ?_)
  refine Ret.weak (Weak.on [] (pyKB e (endF x e.t q.v) (qK q))) ?_
  refine Ret.weak (lowK [] (.inl rfl)) ?_
  exact Ret.mk [] rfl ⟨rfl, rfl⟩
theorem print108 {e : En} {x : Xs} (h : EO e x) (q : Rq) : Spec Tryz.prog 108 [.ptr 5 0 20 0 0, rqD q] (pyA e x) (fun d os' => d = .tup [] ∧ os' = pyB e (seeX x 0 e.t q.v)) := by
  refine Spec.by Tryz.func108 rfl (by decide) (by decide +kernel) rfl ?_
  (refine goA ?_)
  refine Call.mk (upK (qK q) (seeA e x 0 q.v e.t (by have := h.xb.ev; omega)) rfl rfl) ?_
  rintro d os' ⟨rfl, rfl⟩
  (refine goA ?_)
  refine Ret.weak (Weak.on [] (pyKB e (seeX x 0 e.t q.v) (qK q))) ?_
  refine Ret.weak (lowK [] (.inl rfl)) ?_
  exact Ret.mk [] rfl ⟨rfl, rfl⟩
theorem lowA {e : En} {x : Xs} {K : Fam} : Weak 12 { m := [], objs := pyK e x K } { m := [], objs := pyB e x } := by
  refine Weak.trans (Weak.fin (sl := []) (os := pyA e x) 12) ?_
  exact liftAB [] rfl rfl
theorem lock112 {e : En} {x : Xs} (h : EO e x) (q : Rq) (hq : 0 ≤ q.a ∧ q.a < e.nm) : Spec Tryz.prog 112 [.ptr 5 0 20 0 0, rqD q] (pyA e x) (fun d os' => d = .tup [] ∧ os' = pyB e (lockX x e.t q.a)) := by
  obtain ⟨kd, qa, v⟩ := q
  dsimp only at hq
  obtain ⟨a, rfl⟩ : ∃ a : Nat, qa = (a : Int) := ⟨qa.toNat, by omega⟩
  have hs := lock67 (A := e.A x 10 11) h.L a (by omega) (e.t : Int) [rowT x.C.th, rowC x.C.bu, rowC x.C.sq, rowC x.C.rq, rowE x.ev, rowI x.wp, qK ⟨kd, a, v⟩]
  unfold lockX
  dsimp only
  rw [Int.toNat_natCast]
  obtain ⟨⟨S', b⟩, hT⟩ : ∃ r, lockS x.C.L a e.t = r := ⟨_, rfl⟩
  rw [hT] at hs ⊢
  dsimp only at hs ⊢
  cases b with
  | true =>
    refine Spec.by Tryz.func112 rfl (by decide) (by decide +kernel) rfl ?_
    (refine goA ?_)
    refine Call.mk hs ?_
    rintro d os' ⟨rfl, rfl⟩
    (refine goA ?_)
    refine Ret.weak (Weak.on [] (pyK e (inL x S') (qK ⟨kd, a, v⟩))) ?_
    refine Ret.weak lowA ?_
    exact Ret.mk [] rfl ⟨rfl, rfl⟩
  | false =>
    refine Spec.by Tryz.func112 rfl (by decide) (by decide +kernel) rfl ?_
    (refine goA ?_)
    refine Call.mk hs ?_
    rintro d os' ⟨rfl, rfl⟩
    (refine goA ?_)
    refine Call.mk (restG (e := e) (x := inL x S') h.tl 3 a 10 11 [rowE x.ev, rowI x.wp, qK ⟨kd, a, v⟩]) ?_
    rintro d os' ⟨rfl, rfl⟩
    (refine goA ?_)
    refine Ret.weak (Weak.on [] (pyK e (restX (inL x S') e.t 3 a) (qK ⟨kd, a, v⟩))) ?_
    refine Ret.weak lowA ?_
    exact Ret.mk [] rfl ⟨rfl, rfl⟩
theorem down117 {e : En} {x : Xs} (h : EO e x) (q : Rq) (hq : 0 ≤ q.a ∧ q.a < e.ns) : Spec Tryz.prog 117 [.ptr 5 0 20 0 0, rqD q] (pyA e x) (fun d os' => d = .tup [] ∧ os' = pyB e (downX x e.t q.a)) := by
  obtain ⟨kd, qa, v⟩ := q
  dsimp only at hq
  obtain ⟨a, rfl⟩ : ∃ a : Nat, qa = (a : Int) := ⟨qa.toNat, by omega⟩
  have hs := down71 (A := e.A x 10 11) h.L h.N a (by omega) (e.t : Int) [rowT x.C.th, rowC x.C.bu, rowC x.C.sq, rowC x.C.rq, rowE x.ev, rowI x.wp, qK ⟨kd, a, v⟩]
  unfold downX
  dsimp only
  rw [Int.toNat_natCast]
  obtain ⟨⟨S', b⟩, hT⟩ : ∃ r, downS x.C.L a e.t = r := ⟨_, rfl⟩
  rw [hT] at hs ⊢
  dsimp only at hs ⊢
  cases b with
  | true =>
    refine Spec.by Tryz.func117 rfl (by decide) (by decide +kernel) rfl ?_
    (refine goA ?_)
    refine Call.mk hs ?_
    rintro d os' ⟨rfl, rfl⟩
    (refine goA ?_)
    refine Ret.weak (Weak.on [] (pyK e (inL x S') (qK ⟨kd, a, v⟩))) ?_
    refine Ret.weak lowA ?_
    exact Ret.mk [] rfl ⟨rfl, rfl⟩
  | false =>
    refine Spec.by Tryz.func117 rfl (by decide) (by decide +kernel) rfl ?_
    (refine goA ?_)
    refine Call.mk hs ?_
    rintro d os' ⟨rfl, rfl⟩
    (refine goA ?_)
    refine Call.mk (restG (e := e) (x := inL x S') h.tl 5 a 10 11 [rowE x.ev, rowI x.wp, qK ⟨kd, a, v⟩]) ?_
    rintro d os' ⟨rfl, rfl⟩
    (refine goA ?_)
    refine Ret.weak (Weak.on [] (pyK e (restX (inL x S') e.t 5 a) (qK ⟨kd, a, v⟩))) ?_
    refine Ret.weak lowA ?_
    exact Ret.mk [] rfl ⟨rfl, rfl⟩
theorem up_wake {e : En} {x : Xs} {K : Fam} {b w : Nat} (hx : XB 100 b w x) (hb : b ≤ 40000) {t : Int} (ht : 0 ≤ t → t.toNat < x.C.th.length) (hz : LkZ e.nm e.nw e.ns x.C.L) : Spec Tryz.prog 185 [.ptr 5 0 20 0 0, .int .i64 t, .nils] (pyK e x K) (fun d os' => d = .tup [] ∧ os' = pyKB e (wakeF x t []) K) :=
  upK K (wakeN185 hx hb ht hz) rfl rfl
theorem up118 {e : En} {x : Xs} (h : EO e x) (q : Rq) (hq : 0 ≤ q.a ∧ q.a < e.ns) (hz : LkZ e.nm e.nw e.ns (upS x.C.L q.a.toNat).1) (hn : 0 ≤ (upS x.C.L q.a.toNat).2 → (upS x.C.L q.a.toNat).2.toNat < x.C.th.length) : Spec Tryz.prog 118 [.ptr 5 0 20 0 0, rqD q] (pyA e x) (fun d os' => d = .tup [] ∧ os' = pyB e (upX x q.a)) := by
  obtain ⟨kd, qa, v⟩ := q
  dsimp only at hq hz hn
  obtain ⟨a, rfl⟩ : ∃ a : Nat, qa = (a : Int) := ⟨qa.toNat, by omega⟩
  rw [Int.toNat_natCast] at hz hn
  have hs := up72 (A := e.A x 10 11) h.L h.N a (by omega) [rowT x.C.th, rowC x.C.bu, rowC x.C.sq, rowC x.C.rq, rowE x.ev, rowI x.wp, qK ⟨kd, a, v⟩]
  unfold upX
  dsimp only
  rw [Int.toNat_natCast]
  obtain ⟨⟨S', t'⟩, hT⟩ : ∃ r, upS x.C.L a = r := ⟨_, rfl⟩
  rw [hT] at hs hz hn ⊢
  dsimp only at hs hz hn ⊢
  refine Spec.by Tryz.func118 rfl (by decide) (by decide +kernel) rfl ?_
  (refine goA ?_)
  refine Call.mk hs ?_
  rintro d os' ⟨rfl, rfl⟩
  (refine goA ?_)
  refine Call.mk (up_wake (x := inL x S') (K := qK ⟨kd, a, v⟩) (b := 1000) (w := 1000) ⟨h.xb.jn, h.xb.tl, h.xb.th, h.xb.ev, h.xb.wp, h.xb.wk⟩ (by omega) hn hz) ?_
  rintro d os' ⟨rfl, rfl⟩
  (refine goA ?_)
  refine Ret.weak (Weak.on [] (pyKB e (wakeF (inL x S') t' []) (qK ⟨kd, a, v⟩))) ?_
  refine Ret.weak (lowK [] (.inl rfl)) ?_
  exact Ret.mk [] rfl ⟨rfl, rfl⟩
theorem unlock113 {e : En} {x : Xs} (h : EO e x) (q : Rq) (hq : 0 ≤ q.a ∧ q.a < e.nm) (hz : LkZ e.nm e.nw e.ns (unlockS x.C.L q.a.toNat e.t).1) (hn : 0 ≤ (unlockS x.C.L q.a.toNat e.t).2.1 → (unlockS x.C.L q.a.toNat e.t).2.1.toNat < x.C.th.length) : Spec Tryz.prog 113 [.ptr 5 0 20 0 0, rqD q] (pyA e x) (fun d os' => d = .tup [] ∧ os' = pyB e (unlockX x e.t q.a)) := by
  obtain ⟨kd, qa, v⟩ := q
  dsimp only at hq hz hn
  obtain ⟨a, rfl⟩ : ∃ a : Nat, qa = (a : Int) := ⟨qa.toNat, by omega⟩
  rw [Int.toNat_natCast] at hz hn
  have hs := unlock68 (A := e.A x 10 11) h.L a (by omega) (e.t : Int) [rowT x.C.th, rowC x.C.bu, rowC x.C.sq, rowC x.C.rq, rowE x.ev, rowI x.wp, qK ⟨kd, a, v⟩]
  have hbad : (unlockS x.C.L a e.t).2.2 ≠ 0 → (unlockS x.C.L a e.t).1 = x.C.L := by
    unfold unlockS; split
    · intro _; rfl
    · intro h; exact absurd rfl h
  unfold unlockX
  dsimp only
  rw [Int.toNat_natCast]
  obtain ⟨⟨S', t', er⟩, hT⟩ : ∃ r, unlockS x.C.L a e.t = r := ⟨_, rfl⟩
  rw [hT] at hs hz hn hbad ⊢
  dsimp only at hs hz hn hbad ⊢
  by_cases he : er = 0
  · rw [if_pos he]
    refine Spec.by Tryz.func113 rfl (by decide) (by decide +kernel) rfl ?_
    (refine goA ?_)
    refine Call.mk hs ?_
    rintro d os' ⟨rfl, rfl⟩
    (refine goA ?_)
    refine Call.mk (up_wake (x := inL x S') (K := qK ⟨kd, a, v⟩) (b := 1000) (w := 1000) ⟨h.xb.jn, h.xb.tl, h.xb.th, h.xb.ev, h.xb.wp, h.xb.wk⟩ (by omega) hn hz) ?_
    rintro d os' ⟨rfl, rfl⟩
    (refine goA ?_)
    refine Ret.weak (Weak.on [] (pyKB e (wakeF (inL x S') t' []) (qK ⟨kd, a, v⟩))) ?_
    refine Ret.weak (lowK [] (.inl rfl)) ?_
    exact Ret.mk [] rfl ⟨rfl, rfl⟩
  · rw [if_neg he]
    have hSx := hbad he
    rw [hSx] at hs
    refine Spec.by Tryz.func113 rfl (by decide) (by decide +kernel) rfl ?_
    (refine goA ?_)
    refine Call.mk hs ?_
    rintro d os' ⟨rfl, rfl⟩
    (refine goA ?_)
    refine Call.mk (up_end h 4) ?_
    rintro d os' ⟨rfl, rfl⟩
    (refine goA ?_)
    refine Ret.weak (Weak.on [] (pyKB e (endF x e.t 4) (qK ⟨kd, a, v⟩))) ?_
    refine Ret.weak (lowK [] (.inl rfl)) ?_
    exact Ret.mk [] rfl ⟨rfl, rfl⟩
end Go.Proofs.YtkceciebmkklpaaGreat.V
end
section
namespace Go.Proofs.YtkceciebmkklpaaGreat.V
open Go Go.Proofs
set_option maxRecDepth 100000
set_option maxHeartbeats 40000000
theorem wakeF_len (x : Xs) (t : Int) (l : List Int) : (wakeF x t l).C.th.length = x.C.th.length := by
  unfold wakeF
  split
  · rfl
  · exact (wake_tame (end_tame 100) x t.toNat l).len
theorem wakeF_xb {b w : Nat} {x : Xs} (h : XB 100 b w x) {t : Int} (ht : 0 ≤ t → t.toNat < x.C.th.length) (l : List Int) : XB 100 (b + 1) (w + 1) (wakeF x t l) := by
  unfold wakeF
  split
  · exact h.le (by omega) (by omega)
  · exact (wake_xb (end_xb 100) h (ht (by omega)) l).1
theorem restX_xb {b w : Nat} {x : Xs} (h : XB 100 b w x) {t : Nat} (ht : t < x.C.th.length) {st on : Int} (hst : st ≠ 2) : XB 100 b w (restX x t st on) := by
  have := (put_xb h ht (f := { thAt x.C t with st := st, on := on }) (h.at t) hst x.ev x.wk x.wp).1
  exact this.le (by omega) (by omega)
theorem moved_len (x : Xs) (t m : Int) (has : Bool) : (movedX x t m has).C.th.length = x.C.th.length := by
  unfold movedX
  split
  · exact wakeF_len ..
  · exact rest_len ..
theorem moved_xb {b w : Nat} {x : Xs} (h : XB 100 b w x) {t : Int} (ht : t.toNat < x.C.th.length) (m : Int) (has : Bool) : XB 100 (b + 1) (w + 1) (movedX x t m has) := by
  unfold movedX
  split
  · exact wakeF_xb h (fun _ => ht) []
  · exact (restX_xb h ht (by decide)).le (by omega) (by omega)
/-- Nobody but threads changes. -/
theorem wakeF_rest (x : Xs) (t : Int) (l : List Int) : (wakeF x t l).C = { x.C with th := (wakeF x t l).C.th } := by
  unfold wakeF
  split
  · rfl
  · exact (wake_tame (end_tame 100) x t.toNat l).rest
theorem moved_rest (x : Xs) (t m : Int) (has : Bool) : (movedX x t m has).C = { x.C with th := (movedX x t m has).C.th } := by
  unfold movedX
  split
  · exact wakeF_rest ..
  · rfl
theorem args_upO (σ : List (Nat × Nat)) (n off : Nat) (h5 : σ[5]? = some (5, 0)) (hl : 5 < σ.length) {xs : List D} (hp : D.pureL xs = true) : D.mapIdL (lead σ n) (.ptr 5 0 20 0 off :: xs) = .ptr 5 0 20 0 off :: xs ∧ D.sglL σ.length (.ptr 5 0 20 0 off :: xs) = true := by
  refine ⟨?_, ?_⟩
  · rw [D.mapIdL, mapIdL_pure _ _ hp, D.mapId]
    unfold lead
    rw [h5]
  · rw [D.sglL, sglL_pure _ _ hp]
    simp [D.sgl, hl]
theorem upKA {e : En} {x y : Xs} (K : Fam) {f : FuncId} {off : Nat} {xs : List D} {d : D} (h : Spec Tryz.prog f (.ptr 5 0 20 0 off :: xs) (pyA e x) (fun d' os' => d' = d ∧ os' = pyA e y)) (hp : D.pureL xs = true) (hd : d.pure = true) : Spec Tryz.prog f (.ptr 5 0 20 0 off :: xs) (pyK e x K) (fun d' os' => d' = d ∧ os' = pyK e y K) := by
  obtain ⟨a1, a2⟩ := args_upO sgK 13 off rfl (by decide) hp
  have := h.frame (pyK e x K) sgK rfl (by decide) (allQ_get0 (Q := FrQ (pyK e x K) (pyA e x) sgK) ⟨⟨Nat.le_of_ble_eq_true rfl, rfl, rfl, fun j hj => one_pos _ hj⟩, ⟨Nat.le_of_ble_eq_true rfl, rfl, rfl, fun j hj => one_pos _ hj⟩, ⟨Nat.le_of_ble_eq_true rfl, rfl, rfl, fun j hj => one_pos _ hj⟩, ⟨Nat.le_of_ble_eq_true rfl, rfl, rfl, fun j hj => one_pos _ hj⟩, ⟨Nat.le_of_ble_eq_true rfl, rfl, rfl, fun j hj => one_pos _ hj⟩, ⟨Nat.le_of_ble_eq_true rfl, rfl, rfl, fun j hj => one_pos _ hj⟩, ⟨Nat.le_of_ble_eq_true rfl, rfl, rfl, fun j hj => one_pos _ hj⟩, ⟨Nat.le_of_ble_eq_true rfl, rfl, rfl, fun j hj => one_pos _ hj⟩, ⟨Nat.le_of_ble_eq_true rfl, rfl, rfl, fun j hj => one_pos _ hj⟩, ⟨Nat.le_of_ble_eq_true rfl, rfl, rfl, fun j hj => one_pos _ hj⟩, ⟨Nat.le_of_ble_eq_true rfl, rfl, rfl, fun j hj => one_pos _ hj⟩, ⟨Nat.le_of_ble_eq_true rfl, rfl, rfl, fun j hj => one_pos _ hj⟩, trivial⟩) a2
  rw [show (pyK e x K).length = 13 from rfl, a1] at this
  refine this.mono ?_
  rintro d' os' ⟨d1, os1, ⟨rfl, rfl⟩, rfl, rfl⟩
  refine ⟨mapId_pure _ _ hd, ?_⟩
  kernel_rfl
theorem co_at {e : En} {x : Xs} (h : EO e x) {a : Nat} (ha : a < e.nw) : ∃ m : Nat, e.g.co.getD a 0 = (m : Int) ∧ m < e.nm ∧ (e.g.co.map (D.int .i64))[a]? = some (.int .i64 (m : Int)) := by
  have hl : a < e.g.co.length := by rw [h.nw]; exact ha
  have hm := h.co _ (getD_mem hl)
  refine ⟨(e.g.co.getD a 0).toNat, by omega, by omega, ?_⟩
  rw [List.getElem?_map, List.getElem?_eq_getElem hl]
  have : e.g.co.getD a 0 = e.g.co[a] := by rw [List.getD_eq_getElem?_getD, List.getElem?_eq_getElem hl]; rfl
  rw [this] at hm ⊢
  rw [Option.map_some, Int.toNat_of_nonneg hm.1]
theorem xb_inL {b w : Nat} {x : Xs} (h : XB 100 b w x) (S : Lk) : XB 100 b w (inL x S) := ⟨h.jn, h.tl, h.th, h.ev, h.wp, h.wk⟩
theorem wait114 {e : En} {x : Xs} (h : EO e x) (q : Rq) (hq : 0 ≤ q.a ∧ q.a < e.nw) (hz : LkZ e.nm e.nw e.ns (waitS x.C.L q.a.toNat (e.g.co.getD q.a.toNat 0).toNat e.t).1) (hn : 0 ≤ (waitS x.C.L q.a.toNat (e.g.co.getD q.a.toNat 0).toNat e.t).2.1 → (waitS x.C.L q.a.toNat (e.g.co.getD q.a.toNat 0).toNat e.t).2.1.toNat < x.C.th.length) : Spec Tryz.prog 114 [.ptr 5 0 20 0 0, rqD q] (pyA e x) (fun d os' => d = .tup [] ∧ os' = pyB e (waitX e.g x e.t q.a)) := by
  obtain ⟨kd, qa, v⟩ := q
  dsimp only at hq hz hn
  obtain ⟨a, rfl⟩ : ∃ a : Nat, qa = (a : Int) := ⟨qa.toNat, by omega⟩
  obtain ⟨m, hme, hml, hmg⟩ := co_at h (a := a) (by omega)
  have hcm : (e.g.co.map (D.int .i64)).length = e.g.co.length := List.length_map ..
  rw [Int.toNat_natCast, hme, Int.toNat_natCast] at hz hn
  have hs := wait89 (A := e.A x 10 11) h.L a m (by omega) hml (e.t : Int) [rowT x.C.th, rowC x.C.bu, rowC x.C.sq, rowC x.C.rq, rowE x.ev, rowI x.wp, qK ⟨kd, a, v⟩]
  have hbad : (waitS x.C.L a m e.t).2.2 ≠ 0 → (waitS x.C.L a m e.t).1 = x.C.L := by
    unfold waitS; split
    · intro _; rfl
    · intro h; exact absurd rfl h
  unfold waitX
  dsimp only
  rw [Int.toNat_natCast, hme, Int.toNat_natCast]
  obtain ⟨⟨S', t', er⟩, hT⟩ : ∃ r, waitS x.C.L a m e.t = r := ⟨_, rfl⟩
  rw [hT] at hs hz hn hbad ⊢
  dsimp only at hs hz hn hbad ⊢
  have hnw := h.nw
  by_cases he : er = 0
  · rw [if_pos he]
    refine Spec.by Tryz.func114 rfl (by decide) (by decide +kernel) rfl ?_
    (refine goA ?_)
    refine Opt.of hmg ?_
    (refine goA ?_)
    refine Call.mk hs ?_
    rintro d os' ⟨rfl, rfl⟩
    (refine goA ?_)
    refine Call.mk (up_wake (x := inL x S') (K := qK ⟨kd, a, v⟩) (xb_inL h.xb S') (by omega) hn hz) ?_
    rintro d os' ⟨rfl, rfl⟩
    (refine goA ?_)
    refine Call.mk (restG (e := e) (x := wakeF (inL x S') t' []) (by rw [wakeF_len]; exact h.tl) 4 a 13 14 _) ?_
    rintro d os' ⟨rfl, rfl⟩
    (refine goA ?_)
    refine Ret.weak (Weak.on [] (pyKB e (restX (wakeF (inL x S') t' []) e.t 4 a) (qK ⟨kd, a, v⟩))) ?_
    refine Ret.weak (lowK [] (.inl rfl)) ?_
    exact Ret.mk [] rfl ⟨rfl, rfl⟩
  · rw [if_neg he]
    have hSx := hbad he
    rw [hSx] at hs
    refine Spec.by Tryz.func114 rfl (by decide) (by decide +kernel) rfl ?_
    (refine goA ?_)
    refine Opt.of hmg ?_
    (refine goA ?_)
    refine Call.mk hs ?_
    rintro d os' ⟨rfl, rfl⟩
    (refine goA ?_)
    refine Call.mk (up_end h 4) ?_
    rintro d os' ⟨rfl, rfl⟩
    (refine goA ?_)
    refine Ret.weak (Weak.on [] (pyKB e (endF x e.t 4) (qK ⟨kd, a, v⟩))) ?_
    refine Ret.weak (lowK [] (.inl rfl)) ?_
    exact Ret.mk [] rfl ⟨rfl, rfl⟩
theorem signal115 {e : En} {x : Xs} (h : EO e x) (q : Rq) (hq : 0 ≤ q.a ∧ q.a < e.nw) (hz : LkZ e.nm e.nw e.ns (signalS x.C.L q.a.toNat (e.g.co.getD q.a.toNat 0).toNat).1) (hn : 0 ≤ (signalS x.C.L q.a.toNat (e.g.co.getD q.a.toNat 0).toNat).2.1 → (signalS x.C.L q.a.toNat (e.g.co.getD q.a.toNat 0).toNat).2.1.toNat < x.C.th.length) : Spec Tryz.prog 115 [.ptr 5 0 20 0 0, rqD q] (pyA e x) (fun d os' => d = .tup [] ∧ os' = pyB e (signalX e.g x q.a)) := by
  obtain ⟨kd, qa, v⟩ := q
  dsimp only at hq hz hn
  obtain ⟨a, rfl⟩ : ∃ a : Nat, qa = (a : Int) := ⟨qa.toNat, by omega⟩
  obtain ⟨m, hme, hml, hmg⟩ := co_at h (a := a) (by omega)
  have hcm : (e.g.co.map (D.int .i64)).length = e.g.co.length := List.length_map ..
  rw [Int.toNat_natCast, hme, Int.toNat_natCast] at hz hn
  have hs := signal90 (A := e.A x 10 11) h.L h.N a m (by omega) hml [rowT x.C.th, rowC x.C.bu, rowC x.C.sq, rowC x.C.rq, rowE x.ev, rowI x.wp, qK ⟨kd, a, v⟩]
  have hbad : (signalS x.C.L a m).2.1 < 0 → (signalS x.C.L a m).1 = x.C.L := by
    unfold signalS
    split
    · intro _; rfl
    · rename_i t q hq
      intro ht
      have := (sigq_ok h.L h.N (c := a) (by omega) hq).2.2.1
      dsimp only at ht
      omega
  unfold signalX
  dsimp only
  rw [Int.toNat_natCast, hme, Int.toNat_natCast]
  obtain ⟨⟨S', t', has⟩, hT⟩ : ∃ r, signalS x.C.L a m = r := ⟨_, rfl⟩
  rw [hT] at hs hz hn hbad ⊢
  dsimp only at hs hz hn hbad ⊢
  have hnw := h.nw
  by_cases he : t' < 0
  · rw [if_pos he]
    have hSx := hbad he
    rw [hSx] at hs
    refine Spec.by Tryz.func115 rfl (by decide) (by decide +kernel) rfl ?_
    (refine goA ?_)
    refine Opt.of hmg ?_
    (refine goA ?_)
    refine Call.mk hs ?_
    rintro d os' ⟨rfl, rfl⟩
    (refine goA ?_)
    refine Ret.weak (Weak.fin (sl := []) (os := pyA e x) 12) ?_
    refine Ret.weak (liftAB [] rfl rfl) ?_
    exact Ret.mk [] rfl ⟨rfl, rfl⟩
  · rw [if_neg he]
    refine Spec.by Tryz.func115 rfl (by decide) (by decide +kernel) rfl ?_
    (refine goA ?_)
    refine Opt.of hmg ?_
    (refine goA ?_)
    refine Call.mk hs ?_
    rintro d os' ⟨rfl, rfl⟩
    (refine goR ?_)
    ((with_reducible refine Pt.go ?_); conv => whnf)
    (refine goR ?_)
    refine Pt.weak (Weak.fin (sl := [(0, .ptr 5 0 20 0 0), (4, .int .i64 m), (5, .int .i64 t'), (6, .bool has)]) (os := pyA e (inL x S')) 12) ?_
    (refine goA ?_)
    refine Call.mk (moved188 (e := e) (x := inL x S') (xb_inL h.xb S') (by omega) (by omega) (hn (by omega)) hz m has) ?_
    rintro d os' ⟨rfl, rfl⟩
    (refine goA ?_)
    exact Ret.mk [] rfl ⟨rfl, rfl⟩
end Go.Proofs.YtkceciebmkklpaaGreat.V
end
section
namespace Go.Proofs.YtkceciebmkklpaaGreat.V
open Go Go.Proofs
set_option maxRecDepth 100000
set_option maxHeartbeats 40000000
@[reducible] def lkVn (S : Lk) : D := .agg [.int .i64 0, .nils, ints S.ow, ints S.co, .nils, lists S.lk, lists S.wq, lists S.dq, .nils, .nils]
/-- Rows are made at any time; an alloc behind them. -/
theorem dP {τ : Tau} {C : CallW} {l : List Oper} {K : St → Prop} {s : St} (h : drw τ C l (closOf l) [] (mksOf l) K (permOf l) [] s) (hok : (drawOk l [] (permOf l) (closOf l) (mksOf l) && allOk τ l) = true := by decide +kernel) : Drw τ C l K s := ⟨_, _, _, _, hok, h⟩
theorem nilsV {os : Objs} (n : Nat) : ViewL allF os (List.replicate n .nils) ((List.replicate n ([] : List Int)).map ints) := by
  rw [List.map_replicate]
  induction n with
  | zero => exact .nil
  | succ n ih => exact .cons (View.nils 1 false) ih
theorem new169 (nm nw : Nat) (se : List Int) (h1 : nm ≤ 1000) (h2 : nw ≤ 1000) (h3 : se.length ≤ 1000) : Spec Tryz.prog 60 [.int .i64 nm, .int .i64 nw, ints se] [] (fun d os' => d = lkVn (newS nm nw se) ∧ os' = []) := by
  have hsm : (se.map (D.int .i64)).length = se.length := List.length_map ..
  refine Spec.frz (post' := fun d => d = lkVn (newS nm nw se)) ?_
  refine Spec.by Tryz.func60 rfl (by decide) (by decide +kernel) rfl ?_
  (refine goA ?_)
  refine dP ?_
  (refine goA ?_)
  repeat (refine erC ?_)
  (refine goA ?_)
  refine Loop.inv (A := Nat) (List.range 33) (fun i => [(0, .int .i64 (nm : Int)), (2, ints se), (6, .ptr 0 0 10 0 0), (7, .ptr 4 0 10 0 0), (8, .int .i64 (i : Int))]) (fun i => [one (.row 30 10 false [.agg [.int .i64 0, .nils, .nils, .nils, .nils, .nils, .nils, .nils, .nils, .nils]]), nilC nm, nilC nw, nilC se.length, one (.row 30 10 false [.agg [.int .i64 0, .nils, .sl 5 0 1 0 i none, .nils, .nils, .sl 1 0 1 0 nm none, .sl 2 0 1 0 nw none, .sl 3 0 1 0 se.length none, .nils, .nils]]), rowI (List.replicate i (-1))]) (fun i => i ≤ nm) (fun i => nm - i) 0 (Nat.zero_le _) ?_ ?_
  · refine Weak.trans (Weak.only [(0, .int .i64 (nm : Int)), (2, ints se), (6, .ptr 0 0 10 0 0), (7, .ptr 4 0 10 0 0), (8, .int .i64 0)] [one (.row 30 10 false [.agg [.int .i64 0, .nils, .nils, .nils, .nils, .nils, .nils, .nils, .nils, .nils]]), nilC nm, nilC nw, nilC se.length, one (.row 30 10 false [.agg [.int .i64 0, .nils, .nils, .nils, .nils, .sl 1 0 1 0 nm none, .sl 2 0 1 0 nw none, .sl 3 0 1 0 se.length none, .nils, .nils]])] ?_ tld) ?_
    · rw [← hsm]; rfl
    exact Weak.nilO 4 5 rfl (es := [.agg [.int .i64 0, .nils, .nils, .nils, .nils, .sl 1 0 1 0 nm none, .sl 2 0 1 0 nw none, .sl 3 0 1 0 se.length none, .nils, .nils]]) rfl [.agg [.int .i64 0, .nils, .sl 5 0 1 0 0 none, .nils, .nils, .sl 1 0 1 0 nm none, .sl 2 0 1 0 nw none, .sl 3 0 1 0 se.length none, .nils, .nils]] rfl (.cons (.agg (.cons (.same _ _) (.cons (.same _ _) (.cons (.nils _ _) (.same _ _))))) (.same _ _)) 3 1 true
  rintro i hi
  have hrm : ((List.replicate i (-1 : Int)).map (D.int .i64)).length = i := by simp
  (refine goA ?_)
  refine Br.dec (fun h0 => ?_) (fun h0 => ?_)
  · (refine goA ?_)
    refine App.only false rfl rfl ?_
    (refine goA ?_)
    refine ⟨_, _, _, ?_, ⟨i + 1, ?_, rfl, rfl, rfl⟩, ?_⟩
    · show nm - (i + 1) < nm - i; omega
    · show i + 1 ≤ nm; omega
    · refine Weak.trans (Weak.shift 6 5 (by decide) (by simp) (Nat.le_of_ble_eq_true rfl) (Nat.le_of_ble_eq_true rfl) (fun j => by cases j <;> rfl) rfl) ?_
      refine Weak.backT 6 (by simp) ?_ (by kernel_rfl) (Nat.le_of_ble_eq_true rfl) tld (by kernel_rfl) (by kernel_rfl)
      exact congrArg (fun r => ([one (.row 30 10 false [.agg [.int .i64 0, .nils, .nils, .nils, .nils, .nils, .nils, .nils, .nils, .nils]]), nilC nm, nilC nw, nilC se.length, one (.row 30 10 false [.agg [.int .i64 0, .nils, .sl 5 0 1 0 (i + 1) none, .nils, .nils, .sl 1 0 1 0 nm none, .sl 2 0 1 0 nw none, .sl 3 0 1 0 se.length none, .nils, .nils]]), one (.row 3 1 true r)] : Objs)) (by rw [show List.replicate (i + 1) (-1 : Int) = List.replicate i (-1) ++ [-1] from List.replicate_succ']; exact (map_snoc (List.replicate i (-1)) (-1)))
  · have hin : i = nm := by omega
    subst hin
    (refine goA ?_)
    refine And.intro (fun hz => ?_) (fun hz => ?_)
    · have hz' : se = [] := List.map_eq_nil_iff.1 hz
      (refine goA ?_)
      refine Ret.mk [.cell 6 30] rfl ?_; (refine goA ?_)
      refine ⟨_, View.agg (.cons (.same _) (.cons (.same _) (.cons (View.slAll (f := false) rfl rfl hrm (by simp) (ViewL.same _) (pureL_map (fun _ => rfl) _)) (.cons (View.nils 1 false) (.cons (.same _) (.cons (View.slAll (f := false) rfl rfl (List.length_replicate ..) (by simp) (nilsV i) (pureL_rows _)) (.cons (View.slAll (f := false) rfl rfl (List.length_replicate ..) (by simp) (nilsV nw) (pureL_rows _)) (.cons (View.slAll (f := false) rfl rfl (List.length_replicate ..) (by simp) (nilsV se.length) (pureL_rows _)) (.cons (.same _) (.cons (.same _) .nil)))))))))), rfl, ?_⟩
      rw [hz']; rfl
    · refine And.intro (by rw [hsm]; show se.length * 8 ≤ _; omega) (And.intro (by omega) ?_)
      refine App.only false rfl (pureL_map (fun _ => rfl) _) ?_
      (refine goA ?_)
      refine Ret.mk [.cell 6 30] rfl ?_; (refine goA ?_)
      refine ⟨_, View.agg (.cons (.same _) (.cons (.same _) (.cons (View.slAll (f := false) rfl rfl hrm (by simp) (ViewL.same _) (pureL_map (fun _ => rfl) _)) (.cons (.same _) (.cons (.same _) (.cons (View.slAll (f := false) rfl rfl (List.length_replicate ..) (by simp) (nilsV i) (pureL_rows _)) (.cons (View.slAll (f := false) rfl rfl (List.length_replicate ..) (by simp) (nilsV nw) (pureL_rows _)) (.cons (View.slAll (f := false) rfl rfl (List.length_replicate ..) (by simp) (nilsV se.length) (pureL_rows _)) (.cons (.same _) (.cons (.same _) .nil)))))))))), rfl, ?_⟩
      rfl
end Go.Proofs.YtkceciebmkklpaaGreat.V
end
section
namespace Go.Proofs.YtkceciebmkklpaaGreat.V
open Go Go.Proofs
set_option maxRecDepth 100000
set_option maxHeartbeats 40000000
/-- One signal behind the other. -/
def broadI (g : Pg) (a : Nat) : Nat → Xs → Xs
  | 0, x => x
  | n + 1, x => broadI g a n (signalX g x a)
end Go.Proofs.YtkceciebmkklpaaGreat.V
end
section
namespace Go.Proofs.YtkceciebmkklpaaGreat.V
open Go Go.Proofs
set_option maxRecDepth 100000
set_option maxHeartbeats 4000000
/-- A thread's number is taken out of a row. -/
def outQ (t : Int) (q : List Int) : List Int := q.filter (fun v => decide (v ≠ t))
theorem outQ_none {t : Int} {q : List Int} (h : ∀ v ∈ q, decide (v ≠ t) = true) : outQ t q = q := List.filter_eq_self.2 h
/-- So far as the first i rows. -/
def outI (t : Int) (R : List (List Int)) (i : Nat) : List (List Int) := (R.take i).map (outQ t) ++ R.drop i
theorem outI_len (t : Int) (R : List (List Int)) (i : Nat) : (outI t R i).length = R.length := by
  unfold outI; rw [List.length_append, List.length_map, List.length_take, List.length_drop]; omega
theorem outI_get (t : Int) (R : List (List Int)) (i : Nat) (h : i < R.length) : (outI t R i)[i]? = some R[i] := by
  unfold outI
  rw [List.getElem?_append_right (by rw [List.length_map, List.length_take]; omega), List.length_map, List.length_take, List.getElem?_drop]
  rw [show i + (i - min i R.length) = i by omega, List.getElem?_eq_getElem h]
theorem outI_s (t : Int) (R : List (List Int)) (i : Nat) (h : i < R.length) : outI t R (i + 1) = (outI t R i).set i (outQ t R[i]) := by
  unfold outI
  rw [List.take_add_one, List.getElem?_eq_getElem h, List.map_append, List.set_append_right _ _ (by rw [List.length_map, List.length_take]; omega), List.length_map, List.length_take, show i - min i R.length = 0 by omega, List.drop_eq_getElem_cons h, List.set_cons_zero]
  simp
theorem outI_end (t : Int) (R : List (List Int)) : outI t R R.length = cancelR R t := by
  unfold outI cancelR
  rw [List.take_length, List.drop_length, List.append_nil]
  rfl
end Go.Proofs.YtkceciebmkklpaaGreat.V
end
section
namespace Go.Proofs.YtkceciebmkklpaaGreat.V
open Go Go.Proofs
set_option maxRecDepth 100000
set_option maxHeartbeats 40000000
theorem broadcast116 {e : En} {x : Xs} (h : EO e x) (q : Rq) (hq : 0 ≤ q.a ∧ q.a < e.nw) (hz : LkZ e.nm e.nw e.ns (broadS x.C.L q.a.toNat (e.g.co.getD q.a.toNat 0).toNat).1) (hll : (broadS x.C.L q.a.toNat (e.g.co.getD q.a.toNat 0).toNat).2.1.length ≤ 1000) (hn : ∀ v ∈ (broadS x.C.L q.a.toNat (e.g.co.getD q.a.toNat 0).toNat).2.1, 0 ≤ v ∧ v.toNat < x.C.th.length) : Spec Tryz.prog 116 [.ptr 5 0 20 0 0, rqD q] (pyA e x) (fun d os' => d = .tup [] ∧ os' = pyB e (broadX e.g x q.a)) := by
  obtain ⟨kd, qa, v⟩ := q
  dsimp only at hq hz hn hll
  obtain ⟨a, rfl⟩ : ∃ a : Nat, qa = (a : Int) := ⟨qa.toNat, by omega⟩
  obtain ⟨m, hme, hml, hmg⟩ := co_at h (a := a) (by omega)
  have hcm : (e.g.co.map (D.int .i64)).length = e.g.co.length := List.length_map ..
  rw [Int.toNat_natCast, hme, Int.toNat_natCast] at hz hn hll
  have hs := broad189 (P := py e x) h.L h.N a m (by omega) hml
  unfold broadX
  dsimp only
  rw [Int.toNat_natCast, hme, Int.toNat_natCast]
  obtain ⟨⟨S', l, got⟩, hT⟩ : ∃ r, broadS x.C.L a m = r := ⟨_, rfl⟩
  rw [hT] at hs hz hn hll ⊢
  dsimp only at hs hz hn hll ⊢
  have hnw := h.nw
  have hs2 := upKA (e := e) (x := x) (y := inL x S') (qK ⟨kd, a, v⟩) (xs := [.int .i64 a, .int .i64 m]) (d := .tup [ints l, .int .i64 got]) hs rfl rfl
  have hlm : (l.map (D.int .i64)).length = l.length := List.length_map ..
  obtain ⟨R, hR⟩ : ∃ R, l.foldl (movedL m got) (inL x S') = R := ⟨_, rfl⟩
  rw [hR]
  refine Spec.by Tryz.func116 rfl (by decide) (by decide +kernel) rfl ?_
  (refine goA ?_)
  refine Opt.of hmg ?_
  (refine goA ?_)
  refine Call.mk hs2 ?_
  rintro d os' ⟨rfl, rfl⟩
  (refine goA ?_)
  refine Loop.inv (A := Nat × Xs) (List.range 42) (fun c => [(0, .ptr 5 0 20 0 0), (4, .int .i64 m), (6, .int .i64 got), (28, ints l), (29, .int .i64 (l.map (D.int .i64)).length), (30, .int .i64 (c.1 : Int))]) (fun c => pyB e c.2) (fun c => c.1 ≤ l.length ∧ (l.drop c.1).foldl (movedL m got) c.2 = R ∧ XB 100 (1000 + c.1) (1000 + c.1) c.2 ∧ c.2.C = { x.C with L := S', th := c.2.C.th } ∧ c.2.C.th.length = x.C.th.length) (fun c => l.length - c.1) (0, inL x S') ⟨Nat.zero_le _, hR, xb_inL h.xb S', rfl, rfl⟩ ?_ ?_
  · refine Weak.trans (Weak.fin (sl := [(0, .ptr 5 0 20 0 0), (4, .int .i64 m), (6, .int .i64 got), (28, ints l), (29, .int .i64 (l.map (D.int .i64)).length), (30, .int .i64 0)]) (os := pyA e (inL x S')) 12) ?_
    refine Weak.trans (liftAB _ rfl rfl) ?_
    exact Weak.start' rfl rfl tld
  rintro ⟨i, y⟩ ⟨hi, hy, hyb, hyC, hyl⟩
  dsimp only at hi hy hyb hyC hyl ⊢
  have hzy : LkZ e.nm e.nw e.ns y.C.L := by rw [hyC]; exact hz
  (refine goA ?_)
  refine Br.dec (fun h0 => ?_) (fun h0 => ?_)
  · have hil : i < l.length := by omega
    have hget : l[i]? = some l[i] := List.getElem?_eq_getElem hil
    have hk := hn _ (List.getElem_mem hil)
    obtain ⟨k, hke⟩ : ∃ k, l[i] = k := ⟨_, rfl⟩
    rw [List.drop_eq_getElem_cons hil, List.foldl_cons, hke] at hy
    rw [hke] at hget hk
    have hb := moved_xb hyb (t := k) (by rw [hyl]; exact hk.2) m (decide (k = got))
    have hC := moved_rest y k m (decide (k = got))
    have hL := moved_len y k m (decide (k = got))
    (refine goA ?_)
    refine Opt.of (get_map hget) ?_
    (refine goA ?_)
    refine Call.mk (up1 (moved188 hyb (by omega) hk.1 (by rw [hyl]; exact hk.2) hzy m (decide (k = got))) rfl rfl) ?_
    rintro d os' ⟨rfl, rfl⟩
    (refine goA ?_)
    refine ⟨_, _, _, ?_, ⟨(i + 1, movedX y k m (decide (k = got))), ?_, rfl, rfl, rfl⟩, ?_⟩
    · show l.length - (i + 1) < l.length - i; omega
    · exact ⟨hil, hy, hb, by rw [hC, hyC], by rw [hL, hyl]⟩
    · refine Weak.trans (Weak.shift 14 12 (by decide) (by simp) (Nat.le_of_ble_eq_true rfl) (Nat.le_of_ble_eq_true rfl) (fun j => by cases j <;> rfl) rfl) ?_
      refine Weak.trans (Weak.shift 15 13 (by decide) (by simp) (Nat.le_of_ble_eq_true rfl) (Nat.le_of_ble_eq_true rfl) (fun j => by cases j <;> rfl) rfl) ?_
      refine Weak.backT 14 (by simp) (by first | rfl | kernel_rfl) (by kernel_rfl) (Nat.le_of_ble_eq_true rfl) tld (by kernel_rfl) (by kernel_rfl)
  · have hie : i = l.length := by omega
    have hyR : y = R := by rw [hie, List.drop_length] at hy; exact hy
    (refine goA ?_)
    exact Ret.mk [] rfl ⟨rfl, by rw [hyR]⟩
theorem sleep110 {e : En} {x : Xs} (h : EO e x) (q : Rq) (hv : kept2 q.v) (hnow : kept2 x.C.now) : Spec Tryz.prog 110 [.ptr 5 0 20 0 0, rqD q] (pyA e x) (fun d os' => d = .tup [] ∧ os' = pyB e (sleepX x e.t q.v)) := by
  obtain ⟨h1, h2⟩ := hv
  obtain ⟨h3, h4⟩ := hnow
  unfold sleepX
  by_cases hc : x.C.now < keep (x.C.now + q.v)
  · rw [if_pos hc]
    refine Spec.by Tryz.func110 rfl (by decide) (by decide +kernel) rfl ?_
    (refine goA ?_)
    refine Call.mk ((keep35 (x.C.now + q.v) []).only _ rfl (by rintro d rfl; rfl)) ?_; rintro d os' ⟨rfl, rfl⟩
    (refine goA ?_)
    refine Call.mk (restG (e := e) (x := x) h.tl 1 (keep (x.C.now + q.v)) 10 11 [rowE x.ev, rowI x.wp, qK q]) ?_
    rintro d os' ⟨rfl, rfl⟩
    (refine goA ?_)
    refine Ret.weak (Weak.on [] (pyK e (restX x e.t 1 (keep (x.C.now + q.v))) (qK q))) ?_
    refine Ret.weak lowA ?_
    exact Ret.mk [] rfl ⟨rfl, rfl⟩
  · rw [if_neg hc]
    refine Spec.by Tryz.func110 rfl (by decide) (by decide +kernel) rfl ?_
    (refine goA ?_)
    refine Call.mk ((keep35 (x.C.now + q.v) []).only _ rfl (by rintro d rfl; rfl)) ?_; rintro d os' ⟨rfl, rfl⟩
    (refine goA ?_)
    refine Ret.weak (Weak.on [] (pyK e x (qK q))) ?_
    refine Ret.weak lowA ?_
    exact Ret.mk [] rfl ⟨rfl, rfl⟩
theorem tellF181 {e : En} {b w : Nat} {x : Xs} (hx : XB 100 b w x) (hb : b ≤ 40000) {t : Nat} (ht : t < x.C.th.length) (hz : LkZ e.nm e.nw e.ns x.C.L) (l : List Int) (hl : l.length ≤ 1000) :
    Spec Tryz.prog 181 [.ptr 5 0 20 0 0, .int .i64 t, ints l] (pyA e x) (fun d os' => d = .bool (tellE endF x t l).2 ∧ os' = pyB e (tellF x t l)) := tell181 (end_all e 100) hx (by omega) ht hz l hl
theorem join111 {e : En} {x : Xs} (h : EO e x) (q : Rq) : Spec Tryz.prog 111 [.ptr 5 0 20 0 0, rqD q] (pyA e x) (fun d os' => d = .tup [] ∧ os' = pyB e (joinX x e.t q.v)) := by
  have hm : (x.C.th.map thD).length = x.C.th.length := List.length_map ..
  have htl := h.xb.tl
  unfold joinX
  by_cases hc : q.v < 0 ∨ (x.C.th.length : Int) ≤ q.v ∨ q.v = (e.t : Int)
  · rw [if_pos hc]
    refine Spec.by Tryz.func111 rfl (by decide) (by decide +kernel) rfl ?_
    (refine goA ?_)
    refine Br.dec (fun h1 => ?_) (fun h1 => ?_)
    · (refine goA ?_)
      refine Call.mk (up_end h 5) ?_
      rintro d os' ⟨rfl, rfl⟩
      (refine goA ?_)
      refine Ret.weak (Weak.on [] (pyKB e (endF x e.t 5) (qK q))) ?_
      refine Ret.weak (lowK [] (.inl rfl)) ?_
      exact Ret.mk [] rfl ⟨rfl, rfl⟩
    · (refine goA ?_)
      refine Br.dec (fun h2 => ?_) (fun h2 => ?_)
      · (refine goA ?_)
        refine Call.mk (up_end h 5) ?_
        rintro d os' ⟨rfl, rfl⟩
        (refine goA ?_)
        refine Ret.weak (Weak.on [] (pyKB e (endF x e.t 5) (qK q))) ?_
        refine Ret.weak (lowK [] (.inl rfl)) ?_
        exact Ret.mk [] rfl ⟨rfl, rfl⟩
      · have h3 : q.v = (e.t : Int) := by omega
        (refine goA ?_)
        refine Call.mk (up_end h 5) ?_
        rintro d os' ⟨rfl, rfl⟩
        (refine goA ?_)
        refine Ret.weak (Weak.on [] (pyKB e (endF x e.t 5) (qK q))) ?_
        refine Ret.weak (lowK [] (.inl rfl)) ?_
        exact Ret.mk [] rfl ⟨rfl, rfl⟩
  · rw [if_neg hc]
    have c1 : ¬ q.v < 0 := fun h => hc (.inl h)
    have c2 : ¬ (x.C.th.length : Int) ≤ q.v := fun h => hc (.inr (.inl h))
    have c3 : ¬ q.v = (e.t : Int) := fun h => hc (.inr (.inr h))
    have hgk := th_at (C := x.C) (t := q.v.toNat) (by omega)
    by_cases h9 : (thAt x.C q.v.toNat).st = 9
    · rw [if_pos h9]
      refine Spec.by Tryz.func111 rfl (by decide) (by decide +kernel) rfl ?_
      (refine goA ?_)
      refine Opt.of hgk ?_
      (refine goA ?_)
      refine Opt.of hgk ?_
      (refine goA ?_)
      refine App.only false rfl rfl ?_
      (refine goA ?_)
      refine Call.mk (upK (qK q) (tellF181 h.xb (by omega) h.tl h.L.z [(thAt x.C q.v.toNat).code] (by simp)) rfl rfl) ?_
      rintro d os' ⟨rfl, rfl⟩
      (refine goA ?_)
      refine Ret.weak (Weak.on [] (pyKB e (tellF x e.t [(thAt x.C q.v.toNat).code]) (qK q))) ?_
      refine Ret.weak (lowK [] (.inl rfl)) ?_
      exact Ret.mk [] rfl ⟨rfl, rfl⟩
    · rw [if_neg h9]
      refine Spec.by Tryz.func111 rfl (by decide) (by decide +kernel) rfl ?_
      (refine goA ?_)
      refine Opt.of hgk ?_
      (refine goA ?_)
      refine Call.mk (restG (e := e) (x := x) h.tl 2 q.v 10 11 [rowE x.ev, rowI x.wp, qK q]) ?_
      rintro d os' ⟨rfl, rfl⟩
      (refine goA ?_)
      refine Ret.weak (Weak.on [] (pyK e (restX x e.t 2 q.v) (qK q))) ?_
      refine Ret.weak lowA ?_
      exact Ret.mk [] rfl ⟨rfl, rfl⟩
end Go.Proofs.YtkceciebmkklpaaGreat.V
end
section
namespace Go.Proofs.YtkceciebmkklpaaGreat.V
open Go Go.Proofs
set_option maxRecDepth 100000
set_option maxHeartbeats 40000000
/-- What is asked of a test, beside an own row. -/
def TestC (g : Nat) (a b : List D) (q : Int → Bool) (l : List Int) (r : Objs) : Prop := ∀ (W : List Int) (x : Int), x ∈ l → Spec Tryz.prog g (a ++ ([.int .i64 x] ++ b)) (rowI W :: r) (fun d os' => d = .bool (q x) ∧ os' = rowI W :: r)
theorem row_get0 {W : List Int} {i : Nat} {v : Int} (h : W[i]? = some v) : (W.map (D.int .i64))[0 + i]? = some (.int .i64 v) := by rw [Nat.zero_add]; exact get_map h
theorem idx122r {g : Nat} {a b : List D} {q : Int → Bool} {l : List Int} {r : Objs} (hq : TestC g a b q l r) (hl : l.length ≤ 1000000) : Spec Tryz.prog 122 [.sl 0 0 1 0 l.length none, .fn (.func g) a b] (rowI l :: r) (fun d os' => d = idxD (l.findIdx? q) ∧ os' = rowI l :: r) := by
  have hlm : (l.map (D.int .i64)).length = l.length := List.length_map ..
  refine Spec.by Tryz.func122 rfl (by decide) (by decide +kernel) rfl ?_
  (refine goA ?_)
  refine Loop.inv (A := Nat) (List.range 19) (fun i => [(0, .sl 0 0 1 0 l.length none), (1, .fn (.func g) a b), (7, .int .i64 l.length), (8, .int .i64 (i : Int))]) (fun _ => rowI l :: r) (fun i => i ≤ l.length ∧ ∀ x ∈ l.take i, q x = false) (fun i => l.length - i) 0 ⟨Nat.zero_le _, by simp⟩ ?_ ?_
  · exact Weak.start' rfl rfl tld
  rintro i ⟨hi, hf⟩
  dsimp only at hi hf ⊢
  (refine goA ?_)
  refine Br.dec (fun h => ?_) (fun h => ?_)
  · have hil : i < l.length := by omega
    have hg := row_get0 (List.getElem?_eq_getElem hil)
    (refine goA ?_)
    refine Opt.of hg ?_
    (refine goA ?_)
    rw [forceL_eq]
    refine Call.mk (hq l l[i] (List.getElem_mem _)) ?_
    rintro d os' ⟨rfl, rfl⟩
    (refine goA ?_)
    refine Br.cs (fun hb => ?_) (fun hb => ?_)
    · (refine goA ?_)
      refine Ret.mk [.tmp _] rfl ⟨?_, rfl⟩
      rw [find_at (by omega) hb hf]
    · (refine goA ?_)
      refine ⟨_, _, _, ?_, ⟨i + 1, ?_, rfl, rfl, rfl⟩, ?_⟩
      · show l.length - (i + 1) < l.length - i; omega
      · exact ⟨by omega, take_more (by omega) hb hf⟩
      · exact Weak.back rfl tld (by kernel_rfl) (by kernel_rfl)
  · (refine goA ?_)
    refine Ret.mk [.tmp _] rfl ⟨?_, rfl⟩
    rw [find_none (by simpa using h) hf]
/-- What is left stands in front; the rest is cleared. -/
def delL (q : Int → Bool) (l : List Int) : List Int := l.filter (fun x => !q x)
def zeros (n : Nat) : List Int := List.replicate n 0
structure DelI (q : Int → Bool) (l : List Int) (i j : Nat) (W : List Int) : Prop where
  ij : i < j
  jl : j ≤ l.length
  wl : W.length = l.length
  wt : W.take i = delL q (l.take j)
  wd : W.drop j = l.drop j
  il : i = (delL q (l.take j)).length
theorem DelI.start {q : Int → Bool} {l : List Int} {i : Nat} (hi : i < l.length) (hq : q l[i] = true) (hf : ∀ (j : Nat) (h : j < i), ¬ q (l[j]'(by omega)) = true) : DelI q l i (i + 1) l := by
  have e : delL q (l.take (i + 1)) = l.take i := by
    unfold delL
    rw [List.take_add_one, List.getElem?_eq_getElem hi, List.filter_append]
    have h1 : (l.take i).filter (fun x => !q x) = l.take i := by
      rw [List.filter_eq_self]
      intro x hx
      obtain ⟨k, hk, rfl⟩ := List.mem_iff_getElem.1 hx
      rw [List.length_take] at hk
      rw [List.getElem_take]
      have := hf k (by omega)
      simpa using this
    rw [h1]
    simp [hq]
  exact ⟨by omega, hi, rfl, e.symm, rfl, by rw [e, List.length_take]; omega⟩
theorem DelI.at {q : Int → Bool} {l : List Int} {i j : Nat} {W : List Int} (h : DelI q l i j W) (hj : j < l.length) : W[j]? = some l[j] := by
  have e : (W.drop j)[0]? = (l.drop j)[0]? := by rw [h.wd]
  rw [List.getElem?_drop, List.getElem?_drop, Nat.add_zero] at e
  rw [e, List.getElem?_eq_getElem hj]
theorem DelI.skip {q : Int → Bool} {l : List Int} {i j : Nat} {W : List Int} (h : DelI q l i j W) (hj : j < l.length) (hq : q l[j] = true) : DelI q l i (j + 1) W := by
  have e : delL q (l.take (j + 1)) = delL q (l.take j) := by
    unfold delL
    rw [List.take_add_one, List.getElem?_eq_getElem hj, List.filter_append]
    simp [hq]
  refine ⟨by have := h.ij; omega, hj, h.wl, by rw [e]; exact h.wt, ?_, by rw [e]; exact h.il⟩
  rw [← List.drop_drop, h.wd, List.drop_drop]
theorem DelI.put {q : Int → Bool} {l : List Int} {i j : Nat} {W : List Int} (h : DelI q l i j W) (hj : j < l.length) (hq : q l[j] = false) : DelI q l (i + 1) (j + 1) (W.set i l[j]) := by
  have hij := h.ij
  have e : delL q (l.take (j + 1)) = delL q (l.take j) ++ [l[j]] := by
    unfold delL
    rw [List.take_add_one, List.getElem?_eq_getElem hj, List.filter_append]
    simp [hq]
  have hiW : i < W.length := by rw [h.wl]; omega
  refine ⟨by omega, hj, by rw [List.length_set]; exact h.wl, ?_, ?_, by rw [e, List.length_append, ← h.il]; rfl⟩
  · rw [e, ← h.wt, List.take_add_one, List.getElem?_set_self hiW, List.take_set_of_le (Nat.le_refl _)]
    rfl
  · rw [List.drop_set_of_lt (by omega), ← List.drop_drop, h.wd, List.drop_drop]
theorem del67 {g : Nat} {a b : List D} {q : Int → Bool} {l : List Int} {r : Objs} (hq : TestC g a b q l r) (hl : l.length ≤ 1000000) : Spec Tryz.prog 67 [.sl 0 0 1 0 l.length none, .fn (.func g) a b] (rowI l :: r) (fun d os' => d = .sl 0 0 1 0 (delL q l).length none ∧ os' = rowI (delL q l ++ zeros (l.length - (delL q l).length)) :: r) := by
  have hlm : (l.map (D.int .i64)).length = l.length := List.length_map ..
  have hs := idx122r hq hl
  cases hx : l.findIdx? q with
  | none =>
    have hd : delL q l = l := by
      unfold delL
      rw [List.filter_eq_self]
      intro x hxm
      rw [List.findIdx?_eq_none_iff] at hx
      have := hx x hxm
      simpa using this
    rw [hx] at hs
    rw [hd, Nat.sub_self, show zeros 0 = [] from rfl, List.append_nil]
    refine Spec.by Tryz.func67 rfl (by decide) (by decide +kernel) rfl ?_
    (refine goA ?_)
    refine Call.mk hs ?_
    rintro d os' ⟨rfl, rfl⟩
    (refine goA ?_)
    exact Ret.mk [.tmp _] rfl ⟨rfl, rfl⟩
  | some i0 =>
    rw [hx] at hs
    rw [List.findIdx?_eq_some_iff_getElem] at hx
    obtain ⟨hi0, hqi, hqf⟩ := hx
    refine Spec.by Tryz.func67 rfl (by decide) (by decide +kernel) rfl ?_
    (refine goA ?_)
    refine Call.mk hs ?_
    rintro d os' ⟨rfl, rfl⟩
    (refine goA ?_)
    refine Loop.inv (A := Nat × Nat × List Int) (List.range 42) (fun c => [(0, .sl 0 0 1 0 l.length none), (1, .fn (.func g) a b), (5, .int .i64 (c.1 : Int)), (6, .int .i64 (c.2.1 : Int))]) (fun c => rowI c.2.2 :: r) (fun c => DelI q l c.1 c.2.1 c.2.2) (fun c => l.length - c.2.1) (i0, i0 + 1, l) (DelI.start hi0 hqi hqf) ?_ ?_
    · exact Weak.start' rfl rfl tld
    rintro ⟨i, j, W⟩ hI
    dsimp only at hI ⊢
    obtain ⟨h1, h2, h3, h4, h5, h6⟩ := id hI
    have hWm : (W.map (D.int .i64)).length = W.length := List.length_map ..
    (refine goA ?_)
    refine Br.dec (fun h => ?_) (fun h => ?_)
    · have hj : j < l.length := by omega
      have hWj : W[j]? = some l[j] := hI.at hj
      have hg := row_get0 hWj
      (refine goA ?_)
      refine Opt.of hg ?_
      (refine goA ?_)
      rw [forceL_eq]
      refine Call.mk (hq W l[j] (List.getElem_mem _)) ?_
      rintro d os' ⟨rfl, rfl⟩
      (refine goA ?_)
      refine Br.cs (fun hb => ?_) (fun hb => ?_)
      · have hqf' : q l[j] = false := by cases hx : q l[j] with | true => rw [hx] at hb; cases hb | false => rfl
        have hWi : W[i]? = some (W[i]'(by omega)) := List.getElem?_eq_getElem (by omega)
        have hgi := row_get0 hWi
        (refine goA ?_)
        refine Opt.of hgi ?_
        (refine goA ?_)
        refine ⟨_, _, _, ?_, ⟨(i + 1, j + 1, W.set i l[j]), ?_, rfl, rfl, rfl⟩, ?_⟩
        · show l.length - (j + 1) < l.length - j; omega
        · exact hI.put hj hqf'
        · refine Weak.back ?_ tld (by kernel_rfl) (by kernel_rfl)
          show one (.row 3 1 true ((W.map (D.int .i64)).set (0 + (i : Int).toNat) (.int .i64 l[j]))) :: r = one (.row 3 1 true ((W.set i l[j]).map (D.int .i64))) :: r
          rw [Int.toNat_natCast, Nat.zero_add, List.map_set]
      · have hqt : q l[j] = true := by cases hx : q l[j] with | true => rfl | false => rw [hx] at hb; cases hb
        (refine goA ?_)
        refine ⟨_, _, _, ?_, ⟨(i, j + 1, W), ?_, rfl, rfl, rfl⟩, ?_⟩
        · show l.length - (j + 1) < l.length - j; omega
        · exact hI.skip hj hqt
        · exact Weak.back rfl tld (by kernel_rfl) (by kernel_rfl)
    · have hjl : j = l.length := by omega
      have hil : (delL q l).length = i := by rw [hjl, List.take_length] at h6; exact h6.symm
      have hWt : W.take i = delL q l := by rw [hjl, List.take_length] at h4; exact h4
      (refine goA ?_)
      intro hpos
      (refine goA ?_)
      refine Ret.mk [.tmp _] rfl ⟨by rw [hil]; rfl, ?_⟩
      rw [hil]
      show one (.row 3 1 true (splice (W.map (D.int .i64)) (0 + (i : Int).toNat) (List.replicate ((l.length : Int).toNat - (i : Int).toNat) (.int .i64 0)))) :: r = one (.row 3 1 true ((delL q l ++ zeros (l.length - i)).map (D.int .i64))) :: r
      unfold splice zeros
      rw [Int.toNat_natCast, Int.toNat_natCast, Nat.zero_add, ← List.map_take, hWt, List.length_replicate, List.drop_eq_nil_of_le (by rw [hWm]; omega), List.append_nil, List.map_append, List.map_replicate]
end Go.Proofs.YtkceciebmkklpaaGreat.V
end
section
namespace Go.Proofs.YtkceciebmkklpaaGreat.V
open Go Go.Proofs
set_option maxRecDepth 100000
set_option maxHeartbeats 40000000
theorem is238 (t v : Int) (W : List Int) : Spec Tryz.prog 238 [.int .i64 v, .ptr 1 0 1 0 0] [rowI W, one (.row 3 1 false [.int .i64 t])] (fun d os' => d = .bool (decide (v = t)) ∧ os' = [rowI W, one (.row 3 1 false [.int .i64 t])]) := by
  refine Spec.by Tryz.func238 rfl (by decide) (by decide +kernel) rfl ?_
  (refine goA ?_)
  exact Ret.mk [.tmp _] rfl ⟨rfl, rfl⟩
theorem waits237 (t : Int) (os : Objs) : Spec Tryz.prog 237 [lkP, .int .i64 t] os (fun d os' => d = .fn (.func 242) [] [.ptr os.length 0 1 0 0, .ptr (os.length + 1) 0 1 0 0] ∧ os' = os ++ [one (.row 191 1 false [lkP]), one (.row 3 1 false [.int .i64 t])]) := by
  refine Spec.by Tryz.func237 rfl (by decide) (by decide +kernel) rfl ?_
  (refine goA ?_)
  refine Ret.mk [.tmp 4] rfl ⟨?_, ?_⟩
  · show D.fn (.func 242) [] [.ptr os.length 0 1 0 0, .ptr (os ++ [_]).length 0 1 0 0] = _
    rw [List.length_append]; rfl
  · show (os ++ [_]) ++ [_] = _
    rw [List.append_assoc]; rfl
/-- What is told as pure is pure. -/
theorem Weak.pured {n0 : Nat} {m : List (Nat × D)} {os : Objs} (k : Nat) {ty : TypeId} {sz : Nat} {es : List D} (hk : os.at k 0 = .row ty sz false es) (hp : D.pureL es = true) : Weak n0 { m := m, objs := os } { m := m, objs := os.put k 0 (.row ty sz true es) } := by
  intro ρ I w tm h1 h2 h3
  have h3' : n0 ≤ os.length := h3
  have hs := h1.retell (k := k) (by rw [hk]; simp) (.row ty sz true es) (fun p hp' hok => by
    rw [hk] at hok
    obtain ⟨c1, c2, c3⟩ := hok
    refine ⟨c1, c2, fun hpos => ?_⟩
    obtain ⟨arr, us, g1, g2, g3, g4, g5⟩ := c3 hpos
    exact ⟨arr, us, g1, g2, repL_pure es us hp g3, g4, g5⟩)
  exact ⟨ρ, I, hs.1, h2, Im.le_refl _, by show n0 ≤ (os.put k 0 _).length; rw [length_put]; exact h3', fun _ _ _ => rfl, fun _ h => .inl h, hs.2⟩
theorem outQ_del (t : Int) (q : List Int) : delL (fun v => decide (v = t)) q = outQ t q := by
  unfold delL outQ
  refine List.filter_congr (fun v _ => ?_)
  simp
/-- The state of a cancel: the receivers' rows R. -/
@[reducible] def pyN (e : En) (x : Xs) (t : Int) (R : List (List Int)) (b : Bool) (r : Objs) : Objs := lkO (e.A x 10 11) e.nm e.nw e.ns x.C.L (rowT x.C.th :: rowC x.C.bu :: rowC x.C.sq :: one (.row 23 1 false (R.map ints)) :: rowE x.ev :: rowI x.wp :: one (.row 191 1 false [lkP]) :: one (.row 3 1 false [.int .i64 t]) :: one (.row 4 1 false [.bool b]) :: one (.row 191 1 false [lkP]) :: one (.row 3 1 false [.int .i64 t]) :: r)
theorem list_set_same' {α : Type} {l : List α} {k : Nat} {x : α} (h : l[k]? = some x) : l.set k x = l := by
  apply List.ext_getElem?
  intro i
  by_cases hi : k = i
  · subst hi
    rw [List.getElem?_set_self (List.getElem?_eq_some_iff.1 h).1, h]
  · rw [List.getElem?_set_ne hi]
theorem ViewL.setv {F : Nat → Bool} {os : Objs} {es : List D} {i : Nat} {d d' : D} (hd : View F os d d') : ViewL F os (es.set i d) (es.set i d') := by
  refine ViewL.of (by simp) (fun j a b ha hb => ?_)
  rw [List.getElem?_set] at ha hb
  by_cases hij : i = j
  · rw [if_pos hij] at ha hb
    split at ha
    · rename_i hl
      rw [if_pos hl] at hb
      cases ha; cases hb; exact hd
    · cases ha
  · rw [if_neg hij] at ha hb
    rw [ha] at hb
    cases hb; exact View.same _
theorem take_front {F : Nat → Bool} {os : Objs} {a b : List Int} {n : Nat} (h : ((a ++ b).map (D.int .i64)).length = n) : ViewL F os ((((a ++ b).map (D.int .i64)).drop 0).take a.length) (a.map (D.int .i64)) := by
  have e : (((a ++ b).map (D.int .i64)).drop 0).take a.length = a.map (D.int .i64) := by
    rw [List.drop_zero, List.map_append, List.take_left' (by rw [List.length_map])]
  rw [e]
  exact ViewL.same _
theorem pyN_lt (e : En) (x : Xs) (t : Int) (R : List (List Int)) (b : Bool) (r : Go.Loop) : ((pyN e x t R b [one (.loop r .ready none [(2, .ptr 12 0 1 0 0), (3, .ptr 13 0 1 0 0), (5, .ptr 14 0 1 0 0), (9, .fn (.func 242) [] [.ptr 15 0 1 0 0, .ptr 16 0 1 0 0])]), one .gone]).take 18).all (fun F => F.lt 18) = true := by
  have h := ltL_pure 18 (R.map ints) (pureL_rows _)
  simp [Fam.lt, O.lt, D.lt, D.ltL, h]
  try decide
theorem cancel224 {e : En} {x : Xs} (t : Int) (hR : x.C.rq.length ≤ 1000) (hl : ∀ q ∈ x.C.rq, q.length ≤ 1000) : Spec Tryz.prog 224 [lkP, .int .i64 t] (pyA e x) (fun d os' => (∃ b, d = .bool b) ∧ os' = pyA e { x with C := { x.C with rq := cancelR x.C.rq t } }) := by
  have hrm : (x.C.rq.map ints).length = x.C.rq.length := List.length_map ..
  refine Spec.by Tryz.func224 rfl (by decide) (by decide +kernel) rfl ?_
  (refine goA ?_)
  refine Call.mk (waits237 t _) ?_
  rintro d os' ⟨rfl, rfl⟩
  (refine goA ?_)
  refine Rng.mk (f := 242) (fn := Tryz.f242) [(2, .ptr 12 0 1 0 0), (3, .ptr 13 0 1 0 0), (5, .ptr 14 0 1 0 0), (9, .fn (.func 242) [] [.ptr 15 0 1 0 0, .ptr 16 0 1 0 0])] (pyN e x t x.C.rq false []) ?_ tld rfl Tryz.func242 rfl rfl (by decide +kernel) rfl rfl (by decide) ?_
  · refine Weak.trans (Weak.unpure 9 (ty := 23) (sz := 1) (es := x.C.rq.map ints) rfl) ?_
    exact Weak.only _ _ (by kernel_rfl) tld
  intro gf tm df
  generalize hr : (⟨.ready, none, gf, tm, #[10], _, _, df⟩ : Go.Loop) = r
  (refine goA ?_)
  refine Loop.inv (A := Nat × Bool) (List.range 33) (fun c => [(0, .yl 17 0), (1, .ptr 15 0 1 0 0), (2, .ptr 16 0 1 0 0), (11, .sl 9 0 1 0 x.C.rq.length none), (12, .int .i64 x.C.rq.length), (13, .int .i64 (c.1 : Int))]) (fun c => pyN e x t (outI t x.C.rq c.1) c.2 [one (.loop r .ready none [(2, .ptr 12 0 1 0 0), (3, .ptr 13 0 1 0 0), (5, .ptr 14 0 1 0 0), (9, .fn (.func 242) [] [.ptr 15 0 1 0 0, .ptr 16 0 1 0 0])])]) (fun c => c.1 ≤ x.C.rq.length) (fun c => x.C.rq.length - c.1) (0, false) (Nat.zero_le _) ?_ ?_
  · exact Weak.start' rfl rfl tld
  rintro ⟨i, b⟩ hi
  dsimp only at hi ⊢
  have hom : ((outI t x.C.rq i).map ints).length = x.C.rq.length := by rw [List.length_map, outI_len]
  (refine goA ?_)
  refine Br.dec (fun h0 => ?_) (fun h0 => ?_)
  · have hil : i < x.C.rq.length := by omega
    have hg : ((outI t x.C.rq i).map ints)[0 + i]? = some (ints x.C.rq[i]) := by rw [Nat.zero_add]; exact get_map (outI_get t x.C.rq i hil)
    have hs := outI_s t x.C.rq i hil
    obtain ⟨q, hq⟩ : ∃ q, x.C.rq[i] = q := ⟨_, rfl⟩
    have hql : q.length ≤ 1000 := by rw [← hq]; exact hl _ (List.getElem_mem _)
    have hqm : (q.map (D.int .i64)).length = q.length := List.length_map ..
    rw [hq] at hg hs
    (refine goA ?_)
    refine Opt.of hg ?_
    (refine goA ?_)
    refine Loop.inv (A := Nat) (List.range 33) (fun k => [(0, .yl 17 0), (1, .ptr 15 0 1 0 0), (2, .ptr 16 0 1 0 0), (11, .sl 9 0 1 0 x.C.rq.length none), (12, .int .i64 x.C.rq.length), (13, .int .i64 (i : Int)), (4, .int .i64 (i : Int)), (18, ints q), (19, .int .i64 q.length), (20, .int .i64 (k : Int))]) (fun _ => pyN e x t (outI t x.C.rq i) b [one (.loop r .ready none [(2, .ptr 12 0 1 0 0), (3, .ptr 13 0 1 0 0), (5, .ptr 14 0 1 0 0), (9, .fn (.func 242) [] [.ptr 15 0 1 0 0, .ptr 16 0 1 0 0])])]) (fun k => k ≤ q.length ∧ ∀ v ∈ q.take k, decide (v ≠ t) = true) (fun k => q.length - k) 0 ⟨Nat.zero_le _, by simp⟩ ?_ ?_
    · rw [show (.int .i64 q.length : D) = .int .i64 (q.map (D.int .i64)).length by rw [hqm]]
      exact Weak.start' rfl rfl tld
    rintro k ⟨hk, hf⟩
    dsimp only at hk hf ⊢
    (refine goA ?_)
    refine Br.dec (fun h1 => ?_) (fun h1 => ?_)
    · have hkl : k < q.length := by omega
      have hgk : q[k]? = some q[k] := List.getElem?_eq_getElem hkl
      by_cases h2 : q[k] = t
      · (refine goA ?_)
        refine Opt.of (get_map hgk) ?_
        (refine goA ?_)
        subst hr
        refine Yld.mk [(2, .ptr 12 0 1 0 0), (3, .ptr 13 0 1 0 0), (5, .ptr 14 0 1 0 0), (9, .fn (.func 242) [] [.ptr 15 0 1 0 0, .ptr 16 0 1 0 0])] rfl rfl ?_
        (refine goA ?_)
        refine ⟨_, rfl, ?_⟩
        (refine goA ?_)
        refine Opt.of hg ?_
        (refine goA ?_)
        refine Call.mk ((clone130w q (by omega)).onto _ rfl) ?_
        rintro d os' ⟨d0, os0, ⟨rfl, rfl⟩, rfl, rfl⟩
        (refine goA ?_)
        have hdel := del67 (g := 238) (a := []) (b := [.ptr 1 0 1 0 0]) (q := fun v => decide (v = t)) (l := q) (r := [one (.row 3 1 false [.int .i64 t])]) (fun W v _ => is238 t v W) (by omega)
        rw [outQ_del] at hdel
        refine Call.mk (hdel.frame _ [(18, 0), (13, 0)] rfl (by decide) (allQ_get0 (Q := fun k p => _) ⟨⟨Nat.le_of_ble_eq_true rfl, rfl, rfl, fun j hj => one_pos _ hj⟩, ⟨Nat.le_of_ble_eq_true rfl, rfl, rfl, fun j hj => one_pos _ hj⟩, trivial⟩) rfl) ?_
        rintro d os' ⟨d1, os1, ⟨rfl, rfl⟩, rfl, rfl⟩
        (refine goA ?_)
        refine Opt.of hg ?_
        (refine goA ?_)
        refine ⟨_, rfl, ?_⟩
        generalize hr : (⟨.ready, none, gf, tm, #[10], _, _, df⟩ : Go.Loop) = r
        (refine goA ?_)
        refine ⟨_, _, _, ?_, ⟨(i + 1, true), ?_, rfl, rfl, rfl⟩, ?_⟩
        · show x.C.rq.length - (i + 1) < x.C.rq.length - i; omega
        · exact hil
        · rw [hs]
          refine Weak.trans (Weak.on [(0, .yl 17 0), (1, .ptr 15 0 1 0 0), (2, .ptr 16 0 1 0 0), (11, .sl 9 0 1 0 x.C.rq.length none), (12, .int .i64 x.C.rq.length), (13, .int .i64 ((i : Int) + 1))] (lkO (e.A x 10 11) e.nm e.nw e.ns x.C.L (rowT x.C.th :: rowC x.C.bu :: rowC x.C.sq :: one (.row 23 1 false (((outI t x.C.rq i).map ints).set (0 + i) (.sl 18 0 1 0 (outQ t q).length none))) :: rowE x.ev :: rowI x.wp :: one (.row 191 1 false [lkP]) :: one (.row 3 1 false [.int .i64 t]) :: one (.row 4 1 false [.bool true]) :: one (.row 191 1 false [lkP]) :: one (.row 3 1 false [.int .i64 t]) :: [one (.loop r .ready none [(2, .ptr 12 0 1 0 0), (3, .ptr 13 0 1 0 0), (5, .ptr 14 0 1 0 0), (9, .fn (.func 242) [] [.ptr 15 0 1 0 0, .ptr 16 0 1 0 0])]), rowI (outQ t q ++ zeros (q.length - (outQ t q).length))]))) ?_
          have hz : ((outQ t q ++ zeros (q.length - (outQ t q).length)).map (D.int .i64)).length = (outQ t q).length + (q.length - (outQ t q).length) := by rw [List.length_map, List.length_append, zeros, List.length_replicate]
          refine Weak.trans (Weak.frzO (fun i => Nat.beq i 18) [] 9 (ty := 23) (sz := 1) (es := ((outI t x.C.rq i).map ints).set (0 + i) (.sl 18 0 1 0 (outQ t q).length none)) rfl rfl (((outI t x.C.rq i).map ints).set (0 + i) (ints (outQ t q))) (by simp) (ViewL.setv (View.sl (t := 3) (pr := true) (es := (outQ t q ++ zeros (q.length - (outQ t q).length)).map (D.int .i64)) rfl rfl (by rw [hz]; omega) (by simp) (take_front hz) (pureL_map (fun _ => rfl) _))) trivial) ?_
          refine Weak.trans (Weak.objs (os' := pyN e x t ((outI t x.C.rq i).set i (outQ t q)) true [one (.loop r .ready none [(2, .ptr 12 0 1 0 0), (3, .ptr 13 0 1 0 0), (5, .ptr 14 0 1 0 0), (9, .fn (.func 242) [] [.ptr 15 0 1 0 0, .ptr 16 0 1 0 0])]), one .gone]) ?_) ?_
          · rw [Nat.zero_add, set_ints]; rfl
          exact Weak.backT 18 (by simp) (by first | rfl | kernel_rfl) (pyN_lt _ _ _ _ _ _) (Nat.le_of_ble_eq_true rfl) tld (by kernel_rfl) (by kernel_rfl)
      · (refine goA ?_)
        refine Opt.of (get_map hgk) ?_
        (refine goA ?_)
        refine ⟨_, _, _, ?_, ⟨k + 1, ?_, rfl, rfl, rfl⟩, ?_⟩
        · show q.length - (k + 1) < q.length - k; omega
        · exact ⟨hkl, fun v hv => by
            rw [List.take_add_one, hgk] at hv
            rcases List.mem_append.1 hv with hv | hv
            · exact hf v hv
            · simp at hv; subst hv; exact decide_eq_true h2⟩
        · exact Weak.back rfl tld (by kernel_rfl) (by kernel_rfl)
    · have hkl : q.take k = q := List.take_of_length_le (by omega)
      rw [hkl] at hf
      have hs2 : outI t x.C.rq (i + 1) = outI t x.C.rq i := by
        rw [hs, outQ_none hf]
        exact list_set_same' (by rw [outI_get t x.C.rq i hil, hq])
      (refine goA ?_)
      refine ⟨_, _, _, ?_, ⟨(i + 1, b), ?_, rfl, rfl, rfl⟩, ?_⟩
      · show x.C.rq.length - (i + 1) < x.C.rq.length - i; omega
      · exact hil
      · rw [hs2]
        exact Weak.back rfl tld (by kernel_rfl) (by kernel_rfl)
  · have hie : i = x.C.rq.length := by omega
    (refine goA ?_)
    refine After.mk 17 .ready none _ rfl (by decide) ?_
    (refine goA ?_)
    refine Ret.weak (Weak.on [(4, .bool b)] (pyN e x t (outI t x.C.rq i) b [one .gone])) ?_
    rw [hie, outI_end]
    refine Ret.weak (Weak.pured 9 (ty := 23) (sz := 1) (es := (cancelR x.C.rq t).map ints) rfl (pureL_rows _)) ?_
    have hA : e.A x 10 11 = e.A { x with C := { x.C with rq := cancelR x.C.rq t } } 10 11 := by
      show Pyl.mk _ _ _ _ _ _ _ _ _ = Pyl.mk _ _ _ _ _ _ _ _ _
      simp [cancelR]
    refine Ret.weak (Weak.objs (os' := pyA e { x with C := { x.C with rq := cancelR x.C.rq t } } ++ [one (.row 191 1 false [lkP]), one (.row 3 1 false [.int .i64 t]), one (.row 4 1 false [.bool b]), one (.row 191 1 false [lkP]), one (.row 3 1 false [.int .i64 t]), one .gone]) ?_) ?_
    · show lkO (e.A x 10 11) _ _ _ _ _ = lkO (e.A { x with C := { x.C with rq := cancelR x.C.rq t } } 10 11) _ _ _ _ _
      rw [hA]
      rfl
    refine Ret.weak (Weak.fin (sl := [(4, .bool b)]) (os := pyA e { x with C := { x.C with rq := cancelR x.C.rq t } }) 12) ?_
    exact Ret.mk [.tmp 4] rfl ⟨⟨b, rfl⟩, rfl⟩
end Go.Proofs.YtkceciebmkklpaaGreat.V
end
section
namespace Go.Proofs.YtkceciebmkklpaaGreat.V
open Go Go.Proofs
set_option maxRecDepth 100000
set_option maxHeartbeats 40000000
/-- What channels' functions are given. -/
structure ChX (nc : Nat) (x : Xs) : Prop where
  bu : x.C.bu.length = nc
  sq : x.C.sq.length = nc
  rq : x.C.rq.length = nc
  nc : nc ≤ 1000
  lb : ∀ L ∈ x.C.bu, L.length ≤ 900
  ls : ∀ L ∈ x.C.sq, L.length ≤ 900 ∧ L.length ≠ 1
  lr : ∀ L ∈ x.C.rq, L.length ≤ 900
theorem ChX.p {nc : Nat} {e : En} {x : Xs} (h : ChX nc x) : ChL nc (py e x) := ⟨h.bu, h.sq, h.rq, h.lb, h.ls, h.lr⟩
theorem pyA_bu {e : En} {x : Xs} {X : List (List Int)} (hX : X.length = x.C.bu.length) : (pyA e x).put 7 0 (.row 23 1 true (X.map ints)) = pyA e { x with C := { x.C with bu := X } } := pyO_bu (P := py e x) (r := []) hX
theorem pyA_sq {e : En} {x : Xs} {X : List (List Int)} (hX : X.length = x.C.sq.length) : (pyA e x).put 8 0 (.row 23 1 true (X.map ints)) = pyA e { x with C := { x.C with sq := X } } := pyO_sq (P := py e x) (r := []) hX
theorem send192 {e : En} {x : Xs} {nc : Nat} (h : ChX nc x) (c : Nat) (hc : c < nc) (room t v : Int) : Spec Tryz.prog 192 [lkP, .int .i64 c, .int .i64 room, .int .i64 t, .int .i64 v] (pyA e x) (fun d os' => d = .tup [.int .i64 (sendC x.C c room t v).2.1, .bool (sendC x.C c room t v).2.2] ∧ os' = pyA e (inC x (sendC x.C c room t v).1)) := by
  have hb := h.bu
  have hs := h.sq
  have hr := h.rq
  have hnc := h.nc
  have hbm : (x.C.bu.map ints).length = x.C.bu.length := List.length_map ..
  have hsm : (x.C.sq.map ints).length = x.C.sq.length := List.length_map ..
  have hrm : (x.C.rq.map ints).length = x.C.rq.length := List.length_map ..
  have hgr := rowC_at x.C.rq c (by omega)
  have hgb := rowC_at x.C.bu c (by omega)
  have hbl := h.lb _ (qAt_mem (l := x.C.bu) (m := c) (by omega))
  have hblm : ((qAt x.C.bu c).map (D.int .i64)).length = (qAt x.C.bu c).length := List.length_map ..
  cases hq : qAt x.C.rq c with
  | cons f q =>
    have hR : sendC x.C c room t v = ({ x.C with rq := cancelR x.C.rq f }, f, true) := by unfold sendC; rw [hq]
    rw [hR]
    rw [hq] at hgr
    have hqm : ((f :: q).map (D.int .i64)).length = q.length + 1 := by rw [List.length_map]; rfl
    refine Spec.by Tryz.func192 rfl (by decide) (by decide +kernel) rfl ?_
    (refine goA ?_)
    refine Opt.of hgr ?_
    (refine goA ?_)
    refine Opt.of hgr ?_
    (refine goA ?_)
    refine Call.mk (cancel224 f (by omega) (fun q hq => by have := h.lr q hq; omega)) ?_
    rintro d os' ⟨⟨b, rfl⟩, rfl⟩
    (refine goA ?_)
    exact Ret.mk [.tmp 10, .tmp 11] rfl ⟨rfl, rfl⟩
  | nil =>
    rw [hq] at hgr
    by_cases hc2 : ((qAt x.C.bu c).length : Int) < room
    · have hR : sendC x.C c room t v = ({ x.C with bu := x.C.bu.set c (qAt x.C.bu c ++ [v]) }, -1, true) := by unfold sendC; rw [hq]; exact if_pos hc2
      rw [hR]
      refine Spec.by Tryz.func192 rfl (by decide) (by decide +kernel) rfl ?_
      (refine goA ?_)
      refine Opt.of hgr ?_
      (refine goA ?_)
      refine Opt.of hgb ?_
      (refine goA ?_)
      refine App.only false rfl rfl ?_
      (refine goA ?_)
      refine Call.mk (pushJ _ 7 x.C.bu c (by omega) (fun L hL => by have := h.lb L hL; omega) [v] (by simp) (by simp) rfl (by simp)) ?_
      rintro d os' ⟨rfl, ho⟩
      rw [pyA_bu (X := x.C.bu.set c (qAt x.C.bu c ++ [v])) (List.length_set ..)] at ho
      subst ho
      (refine goA ?_)
      exact Ret.mk [.tmp 10, .tmp 11] rfl ⟨rfl, rfl⟩
    · have hR : sendC x.C c room t v = ({ x.C with sq := x.C.sq.set c (qAt x.C.sq c ++ [t, v]) }, -1, false) := by unfold sendC; rw [hq]; exact if_neg hc2
      rw [hR]
      refine Spec.by Tryz.func192 rfl (by decide) (by decide +kernel) rfl ?_
      (refine goA ?_)
      refine Opt.of hgr ?_
      (refine goA ?_)
      refine Opt.of hgb ?_
      (refine goA ?_)
      refine App.only false rfl rfl ?_
      (refine goA ?_)
      refine Call.mk (pushJ _ 8 x.C.sq c (by omega) (fun L hL => by have := (h.ls L hL).1; omega) [t, v] (by simp) (by simp) rfl (by simp)) ?_
      rintro d os' ⟨rfl, ho⟩
      rw [pyA_sq (X := x.C.sq.set c (qAt x.C.sq c ++ [t, v])) (List.length_set ..)] at ho
      subst ho
      (refine goA ?_)
      exact Ret.mk [.tmp 10, .tmp 11] rfl ⟨rfl, rfl⟩
theorem selP_sel (e : En) (x : Xs) (l : List Int) (t : Int) : (selP (py e x) l t).2 = (selC x.C l t).2 ∧ (selP (py e x) l t).1 = py e (inC x (selC x.C l t).1) := by
  cases hp : pickB x.C.bu x.C.sq l with
  | none =>
    have h1 : selP (py e x) l t = ({ (py e x) with rq := pushAll t l (py e x).rq }, -1, 0, -1, false) := by
      unfold selP
      rw [show pickB (py e x).bu (py e x).sq l = none from hp]
    have h2 : selC x.C l t = ({ x.C with rq := pushAll t l x.C.rq }, -1, 0, -1, false) := by
      unfold selC
      rw [hp]
    rw [h1, h2]
    exact ⟨rfl, rfl⟩
  | some i =>
    have h1 : selP (py e x) l t = ({ (py e x) with bu := (takeB x.C.bu x.C.sq (l.getD i 0).toNat).1, sq := (takeB x.C.bu x.C.sq (l.getD i 0).toNat).2.1 }, (i : Int), (takeB x.C.bu x.C.sq (l.getD i 0).toNat).2.2.1, (takeB x.C.bu x.C.sq (l.getD i 0).toNat).2.2.2, true) := by
      unfold selP
      rw [show pickB (py e x).bu (py e x).sq l = some i from hp]
      rfl
    have h2 : selC x.C l t = ({ x.C with bu := (takeB x.C.bu x.C.sq (l.getD i 0).toNat).1, sq := (takeB x.C.bu x.C.sq (l.getD i 0).toNat).2.1 }, (i : Int), (takeB x.C.bu x.C.sq (l.getD i 0).toNat).2.2.1, (takeB x.C.bu x.C.sq (l.getD i 0).toNat).2.2.2, true) := by
      unfold selC
      rw [hp]
    rw [h1, h2]
    exact ⟨rfl, rfl⟩
theorem sel196X {e : En} {x : Xs} {nc : Nat} (hl : LkL e.nm e.nw e.ns x.C.L) (h : ChX nc x) (l : List Int) (hll : l.length ≤ 10) (hc : ∀ c ∈ l, ∃ k : Nat, c = k ∧ k < nc) (t : Int) : Spec Tryz.prog 196 [lkP, ints l, .int .i64 t] (pyA e x) (fun d os' => d = .tup [.int .i64 (selC x.C l t).2.1, .int .i64 (selC x.C l t).2.2.1, .int .i64 (selC x.C l t).2.2.2.1, .bool (selC x.C l t).2.2.2.2] ∧ os' = pyA e (inC x (selC x.C l t).1)) := by
  have hs := sel196 (S := x.C.L) hl (h.p (e := e)) l hll hc t
  obtain ⟨h1, h2⟩ := selP_sel e x l t
  rw [h1, h2] at hs
  refine hs.mono ?_
  rintro d os' ⟨rfl, rfl⟩
  refine ⟨rfl, ?_⟩
  have hL : (selC x.C l t).1.L = x.C.L := by unfold selC; split <;> rfl
  show lkO (e.A (inC x (selC x.C l t).1) 10 11) e.nm e.nw e.ns x.C.L _ = lkO (e.A (inC x (selC x.C l t).1) 10 11) e.nm e.nw e.ns (selC x.C l t).1.L _
  rw [hL]
  rfl
theorem recv195X {e : En} {x : Xs} {nc : Nat} (hl : LkL e.nm e.nw e.ns x.C.L) (h : ChX nc x) (c : Nat) (hc : c < nc) (t : Int) : Spec Tryz.prog 195 [lkP, .int .i64 c, .int .i64 t] (pyA e x) (fun d os' => d = .tup [.int .i64 (selC x.C [(c : Int)] t).2.2.1, .int .i64 (selC x.C [(c : Int)] t).2.2.2.1, .bool (selC x.C [(c : Int)] t).2.2.2.2] ∧ os' = pyA e (inC x (selC x.C [(c : Int)] t).1)) := by
  have hs := recv195 (S := x.C.L) hl (h.p (e := e)) c hc t
  obtain ⟨h1, h2⟩ := selP_sel e x [(c : Int)] t
  rw [h1, h2] at hs
  refine hs.mono ?_
  rintro d os' ⟨rfl, rfl⟩
  refine ⟨rfl, ?_⟩
  have hL : (selC x.C [(c : Int)] t).1.L = x.C.L := by unfold selC; split <;> rfl
  show lkO (e.A (inC x (selC x.C [(c : Int)] t).1) 10 11) e.nm e.nw e.ns x.C.L _ = lkO (e.A (inC x (selC x.C [(c : Int)] t).1) 10 11) e.nm e.nw e.ns (selC x.C [(c : Int)] t).1.L _
  rw [hL]
  rfl
end Go.Proofs.YtkceciebmkklpaaGreat.V
end
