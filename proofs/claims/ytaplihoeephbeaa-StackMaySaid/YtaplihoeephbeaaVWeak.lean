/- VWeak: a text of a symbolic executor that is proved sound, and contracts that are proved with it. -/
import Derived.Test.YtaplihoeephbeaaVDraw2
namespace Go.Proofs.Ytaplihoeephbeaa.V
open Go Go.RowKit
set_option linter.unusedVariables false

/-! ### Other views of the same memory -/
/-- Of each slot: what it was, or nothing is said of it. -/
theorem Weak.slots {n0 : Nat} {s t : St} (ho : t.objs = s.objs) (h : ∀ i, t.get i = .junk ∨ t.get i = s.get i) : Weak n0 s t := by
  intro ρ I w tm h1 h2 h3
  refine ⟨ρ, I, by rw [ho]; exact h1, fun i => ?_, Im.le_refl _, by rw [ho]; exact h3, fun _ _ _ => rfl, fun _ h => .inl h, fun b hb => by rw [ho] at hb; exact hb⟩
  rcases h i with h | h
  · rw [h, rep]; trivial
  · rw [h]; exact h2 i

def keysIn (ks : List Nat) (m : List (Nat × D)) : Bool := m.all fun p => ks.contains p.1
/-- What is told of slots is so. -/
def told (m : List (Nat × D)) : List (Nat × D) → Prop
  | [] => True
  | (k, d) :: r => d = look m k ∧ told m r
theorem look_append (a b : List (Nat × D)) (i : Nat) : look (a ++ b) i = if (a.map (·.1)).contains i then look a i else look b i := by
  induction a with
  | nil => simp
  | cons p a ih =>
    obtain ⟨k, d⟩ := p
    simp only [List.cons_append, look, List.map_cons, List.contains_cons]
    cases hb : Nat.beq k i with
    | true =>
      have := Nat.eq_of_beq_eq_true hb
      subst this
      simp [Nat.beq_refl]
    | false =>
      have hne : ¬ i = k := fun e => by subst e; rw [Nat.beq_refl] at hb; simp at hb
      have e : (i == k) = false := by simp [hne]
      rw [cond_false, cond_false, ih, e, Bool.false_or]
theorem look_not_mem {m : List (Nat × D)} {i : Nat} (h : (m.map (·.1)).contains i = false) : look m i = .junk := by
  induction m with
  | nil => rfl
  | cons p m ih =>
    obtain ⟨k, d⟩ := p
    simp only [List.map_cons, List.contains_cons, Bool.or_eq_false_iff] at h
    simp only [look]
    cases hb : Nat.beq k i with
    | true => have := Nat.eq_of_beq_eq_true hb; subst this; simp at h
    | false => exact ih h.2
theorem told_look {m : List (Nat × D)} : ∀ {sl : List (Nat × D)} {i : Nat}, told m sl → (sl.map (·.1)).contains i = true → look sl i = look m i
  | [], i, _, h => by simp at h
  | (k, d) :: r, i, ht, h => by
    obtain ⟨h1, h2⟩ := ht
    simp only [look]
    cases hb : Nat.beq k i with
    | true => have := Nat.eq_of_beq_eq_true hb; subst this; exact h1
    | false =>
      have hne : ¬ i = k := fun e => by subst e; rw [Nat.beq_refl] at hb; simp at hb
      simp only [List.map_cons, List.contains_cons] at h
      exact told_look h2 (by simpa [hne] using h)
theorem look_without {ws : List Nat} {i : Nat} : ∀ (m : List (Nat × D)), look (without ws m) i = if ws.contains i then .junk else look m i
  | [] => by simp [without, look]
  | (k, d) :: m => by
    unfold without
    cases hc : ws.contains k with
    | true =>
      simp only [cond_true]
      rw [look_without m]
      cases hi : ws.contains i with
      | true => rfl
      | false =>
        have hb : Nat.beq k i = false := by
          cases hb : Nat.beq k i with
          | false => rfl
          | true => have := Nat.eq_of_beq_eq_true hb; subst this; rw [hc] at hi; simp at hi
        simp [look, hb]
    | false =>
      simp only [cond_false, look]
      rw [look_without m]
      cases hb : Nat.beq k i with
      | true => have := Nat.eq_of_beq_eq_true hb; subst this; rw [hc]; simp
      | false => rfl

/-- At a loop's head, the first time. -/
theorem Weak.start {n0 : Nat} {s : St} {ws : List Nat} {sl : List (Nat × D)} (h : told s.m sl) : Weak n0 s (s.head ws sl s.objs) := by
  refine Weak.slots rfl fun i => ?_
  simp only [St.get, St.head]
  rw [look_append]
  by_cases hi : (sl.map (·.1)).contains i = true
  · rw [if_pos hi]; exact .inr (told_look h hi)
  · rw [if_neg hi, look_without]
    split
    · exact .inl rfl
    · exact .inr rfl
/-- At a loop's head, behind a round: m is what the body does not touch. -/
theorem Weak.round {n0 : Nat} {s : St} {sl m : List (Nat × D)} (ks : List Nat) (hsl : told s.m sl) (hk : ∃ pre, s.m = pre ++ m ∧ keysIn ks pre = true) (hm : keysIn ks m = false ∨ (m.all fun p => !ks.contains p.1) = true) (hmm : (m.all fun p => !ks.contains p.1) = true) :
    Weak n0 s { m := sl ++ m, objs := s.objs } := by
  obtain ⟨pre, he, hpre⟩ := hk
  refine Weak.slots rfl fun i => ?_
  simp only [St.get]
  rw [look_append]
  by_cases hi : (sl.map (·.1)).contains i = true
  · rw [if_pos hi]; exact .inr (told_look hsl hi)
  · rw [if_neg hi, he, look_append]
    by_cases hp : (pre.map (·.1)).contains i = true
    · rw [if_pos hp]
      left
      refine look_not_mem ?_
      cases hc : (m.map (·.1)).contains i with
      | false => rfl
      | true =>
        exfalso
        obtain ⟨p, hp1, hp2⟩ := List.mem_map.1 (List.contains_iff_mem.1 hp)
        obtain ⟨q, hq1, hq2⟩ := List.mem_map.1 (List.contains_iff_mem.1 hc)
        have h1 := List.all_eq_true.1 hpre p hp1
        have h2 := List.all_eq_true.1 hmm q hq1
        rw [hp2] at h1
        rw [hq2] at h2
        rw [h1] at h2; simp at h2
    · rw [if_neg hp]; exact .inr rfl

mutual
/-- d names family b. -/
def D.names (b : Nat) : D → Bool
  | .ptr i .. | .sl i .. | .mp i _ => Nat.beq i b
  | .agg cs => D.namesL b cs
  | .tup cs => D.namesL b cs
  | .fn _ x y => D.namesL b x || D.namesL b y
  | _ => false
def D.namesL (b : Nat) : List D → Bool
  | [] => false
  | d :: ds => d.names b || D.namesL b ds
end
mutual
/-- Family a is called b. -/
def D.ren (a b : Nat) : D → D
  | .ptr i j sz e off => .ptr (bif Nat.beq i a then b else i) j sz e off
  | .sl i j sz lo len cap => .sl (bif Nat.beq i a then b else i) j sz lo len cap
  | .mp i j => .mp (bif Nat.beq i a then b else i) j
  | .agg cs => .agg (D.renL a b cs)
  | .tup cs => .tup (D.renL a b cs)
  | .fn f x y => .fn f (D.renL a b x) (D.renL a b y)
  | d => d
def D.renL (a b : Nat) : List D → List D
  | [] => []
  | d :: ds => d.ren a b :: D.renL a b ds
end
mutual
theorem rep_ren {ρ ρ' : Pl} {I : Im} {a b : Nat} (hab : ∀ j, ρ' b j = ρ a j) (ho : ∀ i j, i ≠ b → ρ' i j = ρ i j) : ∀ (d : D) (v : Value), d.names b = false → rep ρ I d v → rep ρ' I (d.ren a b) v
  | .int _ _, _, _, h | .bool _, _, _, h | .str _, _, _, h | .nilp, _, _, h | .nils, _, _, h | .nilf, _, _, h | .junk, _, _, h => by
    simp only [D.ren]; rw [rep] at h ⊢; exact h
  | .pel x off, _, _, h => by simp only [D.ren]; rw [rep] at h ⊢; exact h
  | .lst sz f es, _, _, h => by simp only [D.ren]; rw [rep] at h ⊢; exact h
  | .ptr i j sz e off, _, hn, h => by
    simp only [D.ren]
    rw [rep] at h ⊢
    obtain ⟨p, hp, h⟩ := h
    refine ⟨p, ?_, h⟩
    simp only [D.names] at hn
    cases hb : Nat.beq i a with
    | true => have := Nat.eq_of_beq_eq_true hb; subst this; exact (hab j).trans hp
    | false => exact (ho i j (fun e => by subst e; rw [Nat.beq_refl] at hn; simp at hn)).trans hp
  | .sl i j sz lo len cap, _, hn, h => by
    simp only [D.ren]
    rw [rep] at h ⊢
    obtain ⟨p, A, c, hp, h⟩ := h
    refine ⟨p, A, c, ?_, h⟩
    simp only [D.names] at hn
    cases hb : Nat.beq i a with
    | true => have := Nat.eq_of_beq_eq_true hb; subst this; exact (hab j).trans hp
    | false => exact (ho i j (fun e => by subst e; rw [Nat.beq_refl] at hn; simp at hn)).trans hp
  | .mp i j, _, hn, h => by
    simp only [D.ren]
    rw [rep] at h ⊢
    obtain ⟨p, hp, h⟩ := h
    refine ⟨p, ?_, h⟩
    simp only [D.names] at hn
    cases hb : Nat.beq i a with
    | true => have := Nat.eq_of_beq_eq_true hb; subst this; exact (hab j).trans hp
    | false => exact (ho i j (fun e => by subst e; rw [Nat.beq_refl] at hn; simp at hn)).trans hp
  | .agg cs, _, hn, h => by
    simp only [D.ren]; rw [rep] at h ⊢; obtain ⟨arr, e, h⟩ := h; exact ⟨arr, e, repL_ren hab ho cs _ (by simpa [D.names] using hn) h⟩
  | .tup cs, _, hn, h => by
    simp only [D.ren]; rw [rep] at h ⊢; obtain ⟨arr, e, h⟩ := h; exact ⟨arr, e, repL_ren hab ho cs _ (by simpa [D.names] using hn) h⟩
  | .fn f x y, _, hn, h => by
    simp only [D.ren]; rw [rep] at h ⊢; obtain ⟨u, v, e, h1, h2⟩ := h
    have hn' : D.namesL b x = false ∧ D.namesL b y = false := by simpa [D.names] using hn
    exact ⟨u, v, e, repL_ren hab ho x _ hn'.1 h1, repL_ren hab ho y _ hn'.2 h2⟩
theorem repL_ren {ρ ρ' : Pl} {I : Im} {a b : Nat} (hab : ∀ j, ρ' b j = ρ a j) (ho : ∀ i j, i ≠ b → ρ' i j = ρ i j) : ∀ (ds : List D) (vs : List Value), D.namesL b ds = false → repL ρ I ds vs → repL ρ' I (D.renL a b ds) vs
  | [], _, _, h => by simp only [D.renL]; rw [repL_nil] at h ⊢; exact h
  | d :: ds, _, hn, h => by
    obtain ⟨u, us, rfl, hu, h⟩ := repL_cons.1 h
    have hn' : d.names b = false ∧ D.namesL b ds = false := by simpa [D.namesL] using hn
    simp only [D.renL]
    exact repL_cons.2 ⟨u, us, rfl, rep_ren hab ho d u hn'.1 hu, repL_ren hab ho ds us hn'.2 h⟩
end
def O.names (b : Nat) : O → Bool
  | .row _ _ false es => D.namesL b es
  | .map es => D.namesL b (es.map (·.2))
  | _ => false
def O.ren (a b : Nat) : O → O
  | .row t sz false es => .row t sz false (D.renL a b es)
  | .map es => .map (es.map fun p => (p.1, p.2.ren a b))
  | o => o
theorem O.ren_gone {a b : Nat} {o : O} : o.ren a b = .gone ↔ o = .gone := by
  cases o with
  | gone => simp [O.ren]
  | row t sz p es => cases p <;> simp [O.ren]
  | map es => simp [O.ren]
theorem renL_length (a b : Nat) : ∀ (ds : List D), (D.renL a b ds).length = ds.length
  | [] => rfl
  | d :: ds => by simp [D.renL, renL_length a b ds]
theorem renL_map (a b : Nat) : ∀ (es : List (Int × D)), D.renL a b (es.map (·.2)) = es.map (fun p => p.2.ren a b)
  | [] => rfl
  | p :: es => by simp only [List.map_cons, D.renL, renL_map a b es]
theorem objOk_ren {ρ ρ' : Pl} {I : Im} {w : World} {p : Nat × Nat} {a b : Nat} (hab : ∀ j, ρ' b j = ρ a j) (ho : ∀ i j, i ≠ b → ρ' i j = ρ i j) {o : O} (hn : o.names b = false) (h : objOk ρ I w p o) : objOk ρ' I w p (o.ren a b) := by
  cases o with
  | gone => trivial
  | row t sz pr es =>
    obtain ⟨h1, h2, h3⟩ := h
    cases pr with
    | false =>
      refine ⟨by rw [renL_length]; exact h1, h2, fun hp => ?_⟩
      obtain ⟨arr, us, g1, g2, g3, g4, g5⟩ := h3 hp
      exact ⟨arr, us, g1, g2, repL_ren hab ho _ _ hn g3, g4, g5⟩
    | true => exact ⟨h1, h2, h3⟩
  | map es =>
    obtain ⟨hp, ents, clk, g1, us, g2, g3⟩ := h
    refine ⟨hp, ents, clk, g1, us, ?_, ?_⟩
    · have := repL_ren hab ho _ _ hn g2
      rw [renL_map] at this
      rw [List.map_map]; exact this
    · rw [g3]
      have : ∀ (es : List (Int × D)) (us : List Value), (es.zip us).map (fun x => (Value.int .i64 x.1.1, x.2)) = ((es.map fun p => (p.1, p.2.ren a b)).zip us).map (fun x => (Value.int .i64 x.1.1, x.2)) := by
        intro es
        induction es with
        | nil => intro us; simp
        | cons e es ih => intro us; cases us with
          | nil => simp
          | cons u us => simp [ih us]
      exact this es us

def namesM (b : Nat) (m : List (Nat × D)) : Bool := m.any fun p => p.2.names b
def renM (a b : Nat) (m : List (Nat × D)) : List (Nat × D) := m.map fun p => (p.1, p.2.ren a b)
def Fam.names (b : Nat) : Fam → Bool
  | .one o => o.names b
  | .fam _ => true
  | .rows .. => false
def Fam.ren (a b : Nat) : Fam → Fam
  | .one o => .one (o.ren a b)
  | F => F
theorem look_renM (a b : Nat) : ∀ (m : List (Nat × D)) (i : Nat), look (renM a b m) i = (look m i).ren a b
  | [], i => rfl
  | (k, d) :: m, i => by
    simp only [renM, List.map_cons, look]
    cases Nat.beq k i
    · exact look_renM a b m i
    · rfl
theorem look_names {b : Nat} : ∀ {m : List (Nat × D)} (i : Nat), namesM b m = false → (look m i).names b = false
  | [], i, _ => rfl
  | (k, d) :: m, i, h => by
    simp only [namesM, List.any_cons, Bool.or_eq_false_iff] at h
    simp only [look]
    cases Nat.beq k i
    · exact look_names i h.2
    · exact h.1
theorem fam_ren_at (a b : Nat) (F : Fam) (j : Nat) (h : F.names b = false) : (F.ren a b).at j = (F.at j).ren a b := by
  cases F with
  | one o => cases j <;> rfl
  | fam f => simp [Fam.names] at h
  | rows t sz C => rfl

/-- The object a is called b from now on: nothing must be called b so far, and a has no name any more. -/
theorem Weak.move {n0 : Nat} {m : List (Nat × D)} {os : Objs} (a b : Nat) (hab : a ≠ b) (hb0 : n0 ≤ b) (ha : a < os.length) (hb : b < os.length) (hgone : ∀ j, os.at b j = .gone) (hm : namesM b m = false) (ho : os.all (fun F => !F.names b) = true) :
    Weak n0 { m := m, objs := os } { m := renM a b m, objs := ((os.map (Fam.ren a b)).set b ((os.getD a (.one .gone)).ren a b)).set a (.one .gone) } := by
  intro ρ I w tm h1 h2 h3
  have hat : ∀ i j, Objs.at (((os.map (Fam.ren a b)).set b ((os.getD a (.one .gone)).ren a b)).set a (.one .gone)) i j = if i = a then .gone else if i = b then (os.at a j).ren a b else (os.at i j).ren a b := by
    intro i j
    have hF : ∀ k, k < os.length → (os.getD k (.one .gone)).names b = false := by
      intro k hk
      have := List.all_eq_true.1 ho _ (List.getElem_mem hk)
      rw [List.getD_eq_getElem?_getD, List.getElem?_eq_getElem hk]
      simpa using this
    have hg : ∀ k, k < os.length → os.getD k (.one .gone) = os.getD k (.fam fun _ => .gone) := by
      intro k hk
      simp [List.getD_eq_getElem?_getD, List.getElem?_eq_getElem hk]
    unfold Objs.at
    by_cases hia : i = a
    · subst hia
      rw [if_pos rfl]
      simp only [List.getD_eq_getElem?_getD, List.getElem?_set]
      simp [ha]
      cases j <;> rfl
    · rw [if_neg hia]
      by_cases hib : i = b
      · subst hib
        rw [if_pos rfl]
        have : (((os.map (Fam.ren a i)).set i ((os.getD a (.one .gone)).ren a i)).set a (.one .gone)).getD i (.fam fun _ => .gone) = (os.getD a (.one .gone)).ren a i := by
          simp only [List.getD_eq_getElem?_getD, List.getElem?_set]
          simp [hb, hab]
        rw [this, fam_ren_at _ _ _ _ (hF a ha), hg a ha]
      · rw [if_neg hib]
        rcases Nat.lt_or_ge i os.length with hil | hil
        · have : (((os.map (Fam.ren a b)).set b ((os.getD a (.one .gone)).ren a b)).set a (.one .gone)).getD i (.fam fun _ => .gone) = (os.getD i (.one .gone)).ren a b := by
            simp only [List.getD_eq_getElem?_getD, List.getElem?_set]
            simp [Ne.symm hia, Ne.symm hib, hil]
          rw [this, fam_ren_at _ _ _ _ (hF i hil), hg i hil]
        · have h5 : (((os.map (Fam.ren a b)).set b ((os.getD a (.one .gone)).ren a b)).set a (.one .gone)).getD i (.fam fun _ => .gone) = .fam fun _ => .gone := by
            rw [List.getD_eq_getElem?_getD, List.getElem?_eq_none (by simp; exact hil)]; rfl
          have h6 : os.getD i (.fam fun _ => .gone) = .fam fun _ => .gone := by
            rw [List.getD_eq_getElem?_getD, List.getElem?_eq_none hil]; rfl
          rw [h5, h6]; rfl
  have hnames : ∀ i j, (os.at i j).names b = false := by
    intro i j
    unfold Objs.at
    rcases Nat.lt_or_ge i os.length with hil | hil
    · have := List.all_eq_true.1 ho _ (List.getElem_mem hil)
      rw [List.getD_eq_getElem?_getD, List.getElem?_eq_getElem hil]
      simp only [Option.getD_some]
      cases hF : os[i] with
      | one o => rw [hF] at this; cases j with
        | zero => show o.names b = false; simpa [Fam.names] using this
        | succ j => rfl
      | fam f => rw [hF] at this; simp [Fam.names] at this
      | rows t sz C => rfl
    · rw [List.getD_eq_getElem?_getD, List.getElem?_eq_none hil]; rfl
  obtain ⟨ρ', hρ'⟩ : ∃ ρ' : Pl, ρ' = fun i j => if i = b then ρ a j else ρ i j := ⟨_, rfl⟩
  have e1 : ∀ j, ρ' b j = ρ a j := fun j => by rw [hρ']; simp
  have e2 : ∀ i j, i ≠ b → ρ' i j = ρ i j := fun i j h => by rw [hρ']; simp [h]
  -- where a live object of the new view lies in the old one
  have back : ∀ i j, Objs.at (((os.map (Fam.ren a b)).set b ((os.getD a (.one .gone)).ren a b)).set a (.one .gone)) i j ≠ .gone → i ≠ a ∧ ∃ i0, os.at i0 j ≠ .gone ∧ ρ' i j = ρ i0 j ∧ (i0 = if i = b then a else i) ∧
      Objs.at (((os.map (Fam.ren a b)).set b ((os.getD a (.one .gone)).ren a b)).set a (.one .gone)) i j = (os.at i0 j).ren a b := by
    intro i j hne
    rw [hat] at hne ⊢
    by_cases hia : i = a
    · rw [if_pos hia] at hne; exact absurd rfl hne
    · rw [if_neg hia] at hne ⊢
      refine ⟨hia, ?_⟩
      by_cases hib : i = b
      · rw [if_pos hib] at hne ⊢
        exact ⟨a, fun e => hne (by rw [e]; rfl), by rw [hib, e1], by first | rfl | rw [if_pos hib], by first | rfl | rw [if_pos hib]⟩
      · rw [if_neg hib] at hne ⊢
        exact ⟨i, fun e => hne (by rw [e]; rfl), e2 i j hib, by first | rfl | rw [if_neg hib], by first | rfl | rw [if_neg hib]⟩
  have hfoot : ∀ c, foot ρ' (((os.map (Fam.ren a b)).set b ((os.getD a (.one .gone)).ren a b)).set a (.one .gone)) c → foot ρ os c := by
    rintro c ⟨i, j, p, hne, hp, hpos, rfl⟩
    obtain ⟨_, i0, hn0, hρe, _, _⟩ := back i j hne
    exact ⟨i0, j, p, hn0, by rw [← hρe]; exact hp, hpos, rfl⟩
  refine ⟨ρ', I, ⟨h1.im, fun i j hne => ?_, ?_, fun c hc => h1.apart c (hfoot c hc), fun i j hi => ?_⟩, fun i => ?_, Im.le_refl _, by simpa using h3, fun i j hi => e2 i j (by omega), fun _ h => .inl h, hfoot⟩
  · obtain ⟨_, i0, hn0, hρe, _, hate⟩ := back i j hne
    obtain ⟨p, hp, hok⟩ := h1.ok i0 j hn0
    refine ⟨p, by rw [hρe]; exact hp, ?_⟩
    rw [hate]
    exact objOk_ren e1 e2 (hnames i0 j) hok
  · intro i j i' j' p p' hne hne' hp hp' hpos hpos' he
    obtain ⟨hia, i0, hn0, hρe, hi0, _⟩ := back i j hne
    obtain ⟨hia', i0', hn0', hρe', hi0', _⟩ := back i' j' hne'
    have := h1.inj i0 j i0' j' p p' hn0 hn0' (by rw [← hρe]; exact hp) (by rw [← hρe']; exact hp') hpos hpos' he
    refine ⟨?_, this.2⟩
    have h0 := this.1
    rw [hi0, hi0'] at h0
    split at h0 <;> split at h0 <;> omega
  · have hi' : os.length ≤ i := by simpa using hi
    rw [e2 i j (by omega)]
    exact h1.dom i j hi'
  · have := h2 i
    simp only [St.get] at this ⊢
    rw [look_renM]
    exact rep_ren e1 e2 _ _ (look_names i hm) this

mutual
/-- All that d names has a number below n. -/
def D.lt (n : Nat) : D → Bool
  | .ptr i .. | .sl i .. | .mp i _ => Nat.blt i n
  | .agg cs => D.ltL n cs
  | .tup cs => D.ltL n cs
  | .fn _ x y => D.ltL n x && D.ltL n y
  | _ => true
def D.ltL (n : Nat) : List D → Bool
  | [] => true
  | d :: ds => d.lt n && D.ltL n ds
end
mutual
theorem rep_lt {ρ ρ' : Pl} {I : Im} {n : Nat} (ho : ∀ i j, i < n → ρ' i j = ρ i j) : ∀ (d : D) (v : Value), d.lt n = true → rep ρ I d v → rep ρ' I d v
  | .int _ _, _, _, h | .bool _, _, _, h | .str _, _, _, h | .nilp, _, _, h | .nils, _, _, h | .nilf, _, _, h | .junk, _, _, h => by rw [rep] at h ⊢; exact h
  | .pel x off, _, _, h => by rw [rep] at h ⊢; exact h
  | .lst sz f es, _, _, h => by rw [rep] at h ⊢; exact h
  | .ptr i j sz e off, _, hn, h => by
    rw [rep] at h ⊢; obtain ⟨p, hp, h⟩ := h
    exact ⟨p, (ho i j (Nat.le_of_ble_eq_true hn)).trans hp, h⟩
  | .sl i j sz lo len cap, _, hn, h => by
    rw [rep] at h ⊢; obtain ⟨p, A, c, hp, h⟩ := h
    exact ⟨p, A, c, (ho i j (Nat.le_of_ble_eq_true hn)).trans hp, h⟩
  | .mp i j, _, hn, h => by
    rw [rep] at h ⊢; obtain ⟨p, hp, h⟩ := h
    exact ⟨p, (ho i j (Nat.le_of_ble_eq_true hn)).trans hp, h⟩
  | .agg cs, _, hn, h => by
    rw [rep] at h ⊢; obtain ⟨arr, e, h⟩ := h; exact ⟨arr, e, repL_lt ho cs _ (by simpa [D.lt] using hn) h⟩
  | .tup cs, _, hn, h => by
    rw [rep] at h ⊢; obtain ⟨arr, e, h⟩ := h; exact ⟨arr, e, repL_lt ho cs _ (by simpa [D.lt] using hn) h⟩
  | .fn f x y, _, hn, h => by
    rw [rep] at h ⊢; obtain ⟨u, v, e, h1, h2⟩ := h
    have hn' : D.ltL n x = true ∧ D.ltL n y = true := by simpa [D.lt] using hn
    exact ⟨u, v, e, repL_lt ho x _ hn'.1 h1, repL_lt ho y _ hn'.2 h2⟩
theorem repL_lt {ρ ρ' : Pl} {I : Im} {n : Nat} (ho : ∀ i j, i < n → ρ' i j = ρ i j) : ∀ (ds : List D) (vs : List Value), D.ltL n ds = true → repL ρ I ds vs → repL ρ' I ds vs
  | [], _, _, h => by rw [repL_nil] at h ⊢; exact h
  | d :: ds, _, hn, h => by
    obtain ⟨u, us, rfl, hu, h⟩ := repL_cons.1 h
    have hn' : d.lt n = true ∧ D.ltL n ds = true := by simpa [D.ltL] using hn
    exact repL_cons.2 ⟨u, us, rfl, rep_lt ho d u hn'.1 hu, repL_lt ho ds us hn'.2 h⟩
end
def O.lt (n : Nat) : O → Bool
  | .row _ _ false es => D.ltL n es
  | .map es => D.ltL n (es.map (·.2))
  | _ => true
def Fam.lt (n : Nat) : Fam → Bool
  | .one o => o.lt n
  | .fam _ => false
  | .rows .. => true
theorem objOk_lt' {ρ ρ' : Pl} {I : Im} {w : World} {p : Nat × Nat} {n : Nat} (ho : ∀ i j, i < n → ρ' i j = ρ i j) {o : O} (hn : o.lt n = true) (h : objOk ρ I w p o) : objOk ρ' I w p o := by
  cases o with
  | gone => trivial
  | row t sz pr es =>
    obtain ⟨h1, h2, h3⟩ := h
    cases pr with
    | false =>
      refine ⟨h1, h2, fun hp => ?_⟩
      obtain ⟨arr, us, g1, g2, g3, g4, g5⟩ := h3 hp
      exact ⟨arr, us, g1, g2, repL_lt ho _ _ hn g3, g4, g5⟩
    | true => exact ⟨h1, h2, h3⟩
  | map es =>
    obtain ⟨hp, ents, clk, g1, us, g2, g3⟩ := h
    exact ⟨hp, ents, clk, g1, us, repL_lt ho _ _ hn g2, g3⟩
theorem look_lt {n : Nat} : ∀ {m : List (Nat × D)} (i : Nat), (m.all fun p => p.2.lt n) = true → (look m i).lt n = true
  | [], i, _ => rfl
  | (k, d) :: m, i, h => by
    simp only [List.all_cons, Bool.and_eq_true] at h
    simp only [look]
    cases Nat.beq k i
    · exact look_lt i h.2
    · exact h.1
theorem at_take {os : Objs} {n i : Nat} (j : Nat) : Objs.at (os.take n) i j = if i < n then os.at i j else .gone := by
  unfold Objs.at
  simp only [List.getD_eq_getElem?_getD, List.getElem?_take]
  split
  · rfl
  · rfl
/-- Nothing is said any more of the objects from number n on. -/
theorem Weak.take {n0 : Nat} {m : List (Nat × D)} {os : Objs} (n : Nat) (hn : n0 ≤ n) (hm : (m.all fun p => p.2.lt n) = true) (ho : (os.take n).all (fun F => F.lt n) = true) (hl : n ≤ os.length) : Weak n0 { m := m, objs := os } { m := m, objs := os.take n } := by
  intro ρ I w tm h1 h2 h3
  obtain ⟨ρ', hρ'⟩ : ∃ ρ' : Pl, ρ' = fun i j => if i < n then ρ i j else none := ⟨_, rfl⟩
  have e1 : ∀ i j, i < n → ρ' i j = ρ i j := fun i j h => by rw [hρ']; simp [h]
  have hlt : ∀ i j, Objs.at (os.take n) i j ≠ .gone → i < n ∧ Objs.at (os.take n) i j = os.at i j := by
    intro i j hne
    rw [at_take] at hne ⊢
    split at hne
    · rename_i h; exact ⟨h, by rw [if_pos h]⟩
    · exact absurd rfl hne
  have hol : ∀ i j, i < n → (os.at i j).lt n = true := by
    intro i j hi
    have hil : i < os.length := by omega
    have hm : os[i] ∈ os.take n := List.mem_iff_getElem?.2 ⟨i, by rw [List.getElem?_take, if_pos hi, List.getElem?_eq_getElem hil]⟩
    have := List.all_eq_true.1 ho _ hm
    unfold Objs.at
    rw [List.getD_eq_getElem?_getD, List.getElem?_eq_getElem hil]
    simp only [Option.getD_some]
    cases hF : os[i] with
    | one o => rw [hF] at this; cases j with
      | zero => exact this
      | succ j => rfl
    | fam f => rw [hF] at this; simp [Fam.lt] at this
    | rows t sz C => rfl
  have hfoot : ∀ c, foot ρ' (os.take n) c → foot ρ os c := by
    rintro c ⟨i, j, p, hne, hp, hpos, rfl⟩
    obtain ⟨hi, he⟩ := hlt i j hne
    rw [he] at hne
    exact ⟨i, j, p, hne, by rw [← e1 i j hi]; exact hp, hpos, rfl⟩
  refine ⟨ρ', I, ⟨h1.im, fun i j hne => ?_, ?_, fun c hc => h1.apart c (hfoot c hc), fun i j hi => ?_⟩, fun i => rep_lt e1 _ _ (look_lt i hm) (h2 i), Im.le_refl _, by simp; omega, fun i j hi => e1 i j (by omega), fun _ h => .inl h, hfoot⟩
  · obtain ⟨hi, he⟩ := hlt i j hne
    rw [he] at hne ⊢
    obtain ⟨p, hp, hok⟩ := h1.ok i j hne
    exact ⟨p, by rw [e1 i j hi]; exact hp, objOk_lt' e1 (hol i j hi) hok⟩
  · intro i j i' j' p p' hne hne' hp hp' hpos hpos' he
    obtain ⟨hi, e⟩ := hlt i j hne
    obtain ⟨hi', e'⟩ := hlt i' j' hne'
    rw [e] at hne
    rw [e'] at hne'
    rw [e1 i j hi] at hp
    rw [e1 i' j' hi'] at hp'
    exact h1.inj i j i' j' p p' hne hne' hp hp' hpos hpos' he
  · have : n ≤ i := by simp at hi; omega
    rw [hρ']; simp [Nat.not_lt.2 this]

/-- A name more, that is no one's. -/
theorem Weak.gone {n0 : Nat} {m : List (Nat × D)} {os : Objs} : Weak n0 { m := m, objs := os } { m := m, objs := os ++ [.one .gone] } := by
  intro ρ I w tm h1 h2 h3
  have h3' : n0 ≤ os.length := h3
  have hat : ∀ i j, Objs.at (os ++ [.one .gone]) i j ≠ .gone → Objs.at (os ++ [.one .gone]) i j = os.at i j := by
    intro i j hne
    rcases Nat.lt_or_ge i os.length with hi | hi
    · exact at_lt _ _ _ hi
    · rcases Nat.eq_or_lt_of_le hi with e | hlt
      · subst e; rw [at_new] at hne; exact absurd (by cases j <;> rfl) hne
      · exact absurd (at_ge (os ++ [.one .gone]) j (by simp; omega)) hne
  have hfoot : ∀ c, foot ρ (os ++ [.one .gone]) c → foot ρ os c := by
    rintro c ⟨i, j, p, hne, hp, hpos, rfl⟩
    exact ⟨i, j, p, by rw [← hat i j hne]; exact hne, hp, hpos, rfl⟩
  refine ⟨ρ, I, ⟨h1.im, fun i j hne => ?_, fun i j i' j' p p' hne hne' => h1.inj i j i' j' p p' (by rw [← hat i j hne]; exact hne) (by rw [← hat i' j' hne']; exact hne'), fun c hc => h1.apart c (hfoot c hc), fun i j hi => h1.dom i j (Nat.le_of_succ_le (by simpa using hi))⟩, h2, Im.le_refl _, by simp; omega, fun _ _ _ => rfl, fun _ h => .inl h, hfoot⟩
  have hn := hne
  simp only at hn ⊢
  rw [hat i j hne] at hn ⊢
  exact h1.ok i j hn

/-- A slot that holds nil holds a row of nothing that may grow. -/
theorem Weak.nilrow {n0 : Nat} {m : List (Nat × D)} {os : Objs} (k : Nat) (hk : look m k = .nils) (t : TypeId) (sz : Nat) (pr : Bool) : Weak n0 { m := m, objs := os } { m := (k, .sl os.length 0 sz 0 0 none) :: m, objs := os ++ [one (.row t sz pr [])] } := by
  intro ρ I w tm h1 h2 h3
  have h3' : n0 ≤ os.length := h3
  have hle : ρ.le (ρ.new os.length (w.heap.size, 0)) := Pl.le_new (fun j => h1.dom _ _ (Nat.le_refl _))
  have hs := h1.new (w' := w) (fun _ _ => rfl) 0 (.row t sz pr []) ⟨Nat.le_refl _, by simp, fun h => by omega⟩
  refine ⟨_, I, hs, fun i => ?_, Im.le_refl _, by simp; omega, fun i j hi => Pl.new_ne _ _ (fun e => by omega), fun _ h => .inl h, ?_⟩
  · simp only [St.get, look]
    cases hb : Nat.beq k i with
    | true =>
      have := Nat.eq_of_beq_eq_true hb
      subst this
      have := h2 k
      simp only [St.get] at this
      rw [hk, rep] at this
      simp only [cond_true]
      rw [rep]
      exact ⟨_, none, 0, Pl.new_self _ _ _, this, Nat.le_refl _, by simp, by simp, by simp, fun h => by simp at h⟩
    | false => exact rep_mono hle (Im.le_refl _) _ _ (h2 i)
  · rintro c ⟨i, j, p, hne, hp, hpos, rfl⟩
    by_cases hc : i = os.length ∧ j = 0
    · obtain ⟨rfl, rfl⟩ := hc
      rw [Pl.new_self] at hp; cases hp
      simp at hpos
    · rw [Pl.new_ne _ _ hc] at hp
      refine ⟨i, j, p, ?_, hp, hpos, rfl⟩
      rcases Nat.lt_or_ge i os.length with hi | hi
      · rwa [at_lt _ _ _ hi] at hne
      · rcases Nat.eq_or_lt_of_le hi with e | hlt
        · subst e; rw [at_new] at hne; exact absurd (one_pos _ (fun e => hc ⟨rfl, e⟩)) hne
        · exact absurd (at_ge (os ++ [one (.row t sz pr [])]) j (by simp; omega)) hne

mutual
/-- The slices of family f (a row of so many) are only read from now on. -/
def D.fz (f sz : Nat) (es : List D) : D → D
  | .sl i j sz' lo len cap => bif Nat.beq i f then (bif Nat.beq sz' sz && (Nat.beq j 0 && Nat.ble (lo + len) es.length) then .lst sz (match cap with | some c => Nat.beq c len | none => false) ((es.drop lo).take len) else .junk) else .sl i j sz' lo len cap
  | .ptr i j sz' e off => bif Nat.beq i f then .junk else .ptr i j sz' e off
  | .mp i j => bif Nat.beq i f then .junk else .mp i j
  | .agg cs => .agg (D.fzL f sz es cs)
  | .tup cs => .tup (D.fzL f sz es cs)
  | .fn g x y => .fn g (D.fzL f sz es x) (D.fzL f sz es y)
  | d => d
def D.fzL (f sz : Nat) (es : List D) : List D → List D
  | [] => []
  | d :: ds => d.fz f sz es :: D.fzL f sz es ds
end
def O.fz (f sz : Nat) (es : List D) : O → O
  | .row t s false xs => .row t s false (D.fzL f sz es xs)
  | .map xs => .map (xs.map fun p => (p.1, p.2.fz f sz es))
  | o => o
def Fam.fz (f sz : Nat) (es : List D) : Fam → Fam
  | .one o => .one (o.fz f sz es)
  | .fam g => .fam (fun j => (g j).fz f sz es)
  | .rows t s C => .rows t s C
def fzM (f sz : Nat) (es : List D) (m : List (Nat × D)) : List (Nat × D) := m.map fun p => (p.1, p.2.fz f sz es)
theorem fzL_length (f sz : Nat) (es : List D) : ∀ (ds : List D), (D.fzL f sz es ds).length = ds.length
  | [] => rfl
  | d :: ds => by simp [D.fzL, fzL_length f sz es ds]
section
variable {ρ : Pl} {I J : Im} {f sz : Nat} {es : List D} {us : List Value} {q : Nat × Nat} {arr : Array Value} {t : TypeId}
mutual
theorem rep_fz (hI : I.le J) (hq : ρ f 0 = some q) (hr : repL bot I es us) (hf : ∀ u ∈ us, Value.fine u sz) (hlen : es.length ≤ q.2) (hblk : 0 < q.2 → J q.1 = some (.cells arr t (0, 0)) ∧ flat us <+: arr.toList) : ∀ (d : D) (v : Value), rep ρ I d v → rep ρ J (d.fz f sz es) v
  | .int _ _, _, h | .bool _, _, h | .str _, _, h | .nilp, _, h | .nils, _, h | .nilf, _, h | .junk, _, h => by simp only [D.fz]; rw [rep] at h ⊢; exact h
  | .pel x off, _, h => by simp only [D.fz]; exact rep_mono (Pl.le_refl _) hI _ _ h
  | .lst s fl xs, _, h => by simp only [D.fz]; exact rep_mono (Pl.le_refl _) hI _ _ h
  | .ptr i j s e off, _, h => by
    simp only [D.fz]
    cases Nat.beq i f
    · exact rep_mono (Pl.le_refl _) hI _ _ h
    · rw [cond_true, rep]; trivial
  | .mp i j, _, h => by
    simp only [D.fz]
    cases Nat.beq i f
    · exact rep_mono (Pl.le_refl _) hI _ _ h
    · rw [cond_true, rep]; trivial
  | .sl i j s lo len cap, v, h => by
    simp only [D.fz]
    cases hb : Nat.beq i f with
    | false => exact rep_mono (Pl.le_refl _) hI _ _ h
    | true =>
      rw [cond_true]
      cases hc : (Nat.beq s sz && (Nat.beq j 0 && Nat.ble (lo + len) es.length)) with
      | false => rw [cond_false, rep]; trivial
      | true =>
        rw [cond_true]
        simp only [Bool.and_eq_true] at hc
        have h1 := Nat.eq_of_beq_eq_true hb
        have h2 := Nat.eq_of_beq_eq_true hc.1
        have h3 := Nat.eq_of_beq_eq_true hc.2.1
        have h4 := Nat.le_of_ble_eq_true hc.2.2
        subst h1 h2 h3
        rw [rep] at h
        rw [rep]
        obtain ⟨p, A, c, hp, rfl, g1, g2, g3, g4, g5⟩ := h
        rw [hq] at hp; cases hp
        have hul : us.length = es.length := repL_length hr
        have hl : ((es.drop lo).take len).length = len := by simp; omega
        refine ⟨A, c, (us.drop lo).take len, by rw [hl], by rw [hl]; exact g1, g2, ?_, repL_mono (Pl.le_refl _) hI _ _ (repL_take len (repL_drop lo hr)), fun u hu => hf u (List.mem_of_mem_drop (List.mem_of_mem_take hu)), ?_⟩
        · intro hfull
          rw [hl]
          cases cap with
          | none => simp at hfull
          | some c' => dsimp only at g4 hfull; rw [g4]; exact Nat.eq_of_beq_eq_true hfull
        · by_cases hpos : 0 < q.2
          · obtain ⟨k1, k2⟩ := hblk hpos
            right
            refine ⟨q.1, lo * s, arr, t, (0, 0), g5 hpos, k1, ?_⟩
            have := cut_flat (sz := s) (cs := arr.toList) (o := 0) lo (lo + len) hf (by rw [List.length_take]; omega) (by simpa using k2)
            rw [List.drop_take, show lo + len - lo = len by omega, Nat.zero_add] at this
            exact this
          · left
            exact List.eq_nil_of_length_eq_zero (by rw [hl]; omega)
  | .agg cs, _, h => by
    simp only [D.fz]; rw [rep] at h ⊢; obtain ⟨a, e, h⟩ := h; exact ⟨a, e, repL_fz hI hq hr hf hlen hblk cs _ h⟩
  | .tup cs, _, h => by
    simp only [D.fz]; rw [rep] at h ⊢; obtain ⟨a, e, h⟩ := h; exact ⟨a, e, repL_fz hI hq hr hf hlen hblk cs _ h⟩
  | .fn g x y, _, h => by
    simp only [D.fz]; rw [rep] at h ⊢; obtain ⟨a, b, e, h1, h2⟩ := h; exact ⟨a, b, e, repL_fz hI hq hr hf hlen hblk x _ h1, repL_fz hI hq hr hf hlen hblk y _ h2⟩
theorem repL_fz (hI : I.le J) (hq : ρ f 0 = some q) (hr : repL bot I es us) (hf : ∀ u ∈ us, Value.fine u sz) (hlen : es.length ≤ q.2) (hblk : 0 < q.2 → J q.1 = some (.cells arr t (0, 0)) ∧ flat us <+: arr.toList) : ∀ (ds : List D) (vs : List Value), repL ρ I ds vs → repL ρ J (D.fzL f sz es ds) vs
  | [], _, h => by simp only [D.fzL]; rw [repL_nil] at h ⊢; exact h
  | d :: ds, _, h => by
    obtain ⟨u, us', rfl, hu, h⟩ := repL_cons.1 h
    simp only [D.fzL]
    exact repL_cons.2 ⟨u, us', rfl, rep_fz hI hq hr hf hlen hblk d u hu, repL_fz hI hq hr hf hlen hblk ds us' h⟩
end
end
theorem look_fzM (f sz : Nat) (es : List D) : ∀ (m : List (Nat × D)) (i : Nat), look (fzM f sz es m) i = (look m i).fz f sz es
  | [], i => rfl
  | (k, d) :: m, i => by
    simp only [fzM, List.map_cons, look]
    cases Nat.beq k i
    · exact look_fzM f sz es m i
    · rfl
theorem fzL_map (f sz : Nat) (es : List D) : ∀ (xs : List (Int × D)), D.fzL f sz es (xs.map (·.2)) = xs.map (fun p => p.2.fz f sz es)
  | [] => rfl
  | p :: xs => by simp only [List.map_cons, D.fzL, fzL_map f sz es xs]
theorem fam_fz_at (f sz : Nat) (es : List D) (F : Fam) (j : Nat) : (F.fz f sz es).at j = (F.at j).fz f sz es := by
  cases F with
  | one o => cases j <;> rfl
  | fam g => rfl
  | rows t s C => rfl
theorem O.fz_gone {f sz : Nat} {es : List D} {o : O} : o.fz f sz es = .gone ↔ o = .gone := by
  cases o with
  | gone => simp [O.fz]
  | row t sz p es => cases p <;> simp [O.fz]
  | map es => simp [O.fz]

/-- A row that is written no more: it is only read from now on. -/
theorem Weak.freeze {n0 : Nat} {m : List (Nat × D)} {os : Objs} (f : Nat) {t : TypeId} {sz : Nat} {es : List D} (hf : os.at f 0 = .row t sz true es) :
    Weak n0 { m := m, objs := os } { m := fzM f sz es m, objs := (os.map (Fam.fz f sz es)).set f (.one .gone) } := by
  intro ρ I w tm h1 h2 h3
  have hfl : f < os.length := lt_of_at (by rw [hf]; simp)
  obtain ⟨q, hq, hok⟩ := h1.ok f 0 (by rw [hf]; simp)
  rw [hf] at hok
  obtain ⟨k1, k2, k3⟩ := hok
  have hat : ∀ i j, Objs.at ((os.map (Fam.fz f sz es)).set f (.one .gone)) i j = if i = f then .gone else (os.at i j).fz f sz es := by
    intro i j
    unfold Objs.at
    by_cases hi : i = f
    · subst hi
      rw [if_pos rfl]
      simp only [List.getD_eq_getElem?_getD, List.getElem?_set]
      simp [hfl]
      cases j <;> rfl
    · rw [if_neg hi]
      rcases Nat.lt_or_ge i os.length with hl | hl
      · have : ((os.map (Fam.fz f sz es)).set f (.one .gone)).getD i (.fam fun _ => .gone) = (os.getD i (.fam fun _ => .gone)).fz f sz es := by
          simp only [List.getD_eq_getElem?_getD, List.getElem?_set]
          simp [Ne.symm hi, hl]
        rw [this, fam_fz_at]
      · have h5 : ((os.map (Fam.fz f sz es)).set f (.one .gone)).getD i (.fam fun _ => .gone) = .fam fun _ => .gone := by
          rw [List.getD_eq_getElem?_getD, List.getElem?_eq_none (by simp; exact hl)]; rfl
        have h6 : os.getD i (.fam fun _ => .gone) = .fam fun _ => .gone := by
          rw [List.getD_eq_getElem?_getD, List.getElem?_eq_none hl]; rfl
        rw [h5, h6]; rfl
  have old : ∀ i j, Objs.at ((os.map (Fam.fz f sz es)).set f (.one .gone)) i j ≠ .gone → i ≠ f ∧ os.at i j ≠ .gone := by
    intro i j hne
    rw [hat] at hne
    by_cases hi : i = f
    · rw [if_pos hi] at hne; exact absurd rfl hne
    · rw [if_neg hi] at hne; exact ⟨hi, fun e => hne (by rw [e]; rfl)⟩
  have hfoot : ∀ c, foot ρ ((os.map (Fam.fz f sz es)).set f (.one .gone)) c → foot ρ os c := by
    rintro c ⟨i, j, p, hne, hp, hpos, rfl⟩
    exact ⟨i, j, p, (old i j hne).2, hp, hpos, rfl⟩
  -- the memory that is only read now
  obtain ⟨arr, us, J, hJle, hJ, hr, hfi, hblk, hJim⟩ : ∃ (arr : Array Value) (us : List Value) (J : Im), I.le J ∧ (∀ b, J b ≠ none → I b ≠ none ∨ (0 < q.2 ∧ b = q.1)) ∧ repL bot I es us ∧ (∀ u ∈ us, Value.fine u sz) ∧ (0 < q.2 → J q.1 = some (.cells arr t (0, 0)) ∧ flat us <+: arr.toList) ∧ (∀ b o, J b = some o → w.heap[b]? = some o) := by
    by_cases hpos : 0 < q.2
    · obtain ⟨arr, us, g1, g2, g3, g4, g5⟩ := k3 hpos
      have hap : I q.1 = none := h1.apart _ ⟨f, 0, q, by rw [hf]; simp, hq, hpos, rfl⟩
      refine ⟨arr, us, fun b => if b = q.1 then some (.cells arr t (0, 0)) else I b, fun b o hb => ?_, fun b hb => ?_, g3, g4, fun _ => ⟨by simp, g5⟩, fun b o hb => ?_⟩
      · by_cases e : b = q.1
        · subst e; rw [hap] at hb; simp at hb
        · simp [e, hb]
      · by_cases e : b = q.1
        · exact .inr ⟨hpos, e⟩
        · simp [e] at hb; exact .inl hb
      · by_cases e : b = q.1
        · subst e; simp at hb; subst hb; exact g1
        · simp [e] at hb; exact h1.im b o hb
    · have he : es = [] := List.eq_nil_of_length_eq_zero (by omega)
      subst he
      exact ⟨#[], [], I, Im.le_refl _, fun b hb => .inl hb, repL_nil.2 rfl, (fun u hu => by cases hu), fun h => absurd h hpos, h1.im⟩
  refine ⟨ρ, J, ⟨hJim, fun i j hne => ?_, ?_, fun c hc => ?_, fun i j hi => h1.dom i j (by simpa using hi)⟩, fun i => ?_, hJle, by simpa using h3, fun _ _ _ => rfl, fun b hb => ?_, hfoot⟩
  · obtain ⟨hi, hn⟩ := old i j hne
    obtain ⟨p, hp, hok⟩ := h1.ok i j hn
    refine ⟨p, hp, ?_⟩
    rw [hat, if_neg hi]
    cases ho : os.at i j with
    | gone => trivial
    | row t' sz' pr xs =>
      rw [ho] at hok
      obtain ⟨c1, c2, c3⟩ := hok
      cases pr with
      | false =>
        refine ⟨by rw [fzL_length]; exact c1, c2, fun hp => ?_⟩
        obtain ⟨arr', us', g1, g2, g3, g4, g5⟩ := c3 hp
        exact ⟨arr', us', g1, g2, repL_fz hJle hq hr hfi k1 hblk _ _ g3, g4, g5⟩
      | true =>
        refine ⟨c1, c2, fun hp => ?_⟩
        obtain ⟨arr', us', g1, g2, g3, g4, g5⟩ := c3 hp
        exact ⟨arr', us', g1, g2, repL_mono (Pl.le_refl _) hJle _ _ g3, g4, g5⟩
    | map xs =>
      rw [ho] at hok
      obtain ⟨hp', ents, clk, g1, us', g2, g3⟩ := hok
      refine ⟨hp', ents, clk, g1, us', ?_, ?_⟩
      · have := repL_fz hJle hq hr hfi k1 hblk _ _ g2
        rw [fzL_map] at this
        rw [List.map_map]; exact this
      · rw [g3]
        have : ∀ (es' : List (Int × D)) (us : List Value), (es'.zip us).map (fun x => (Value.int .i64 x.1.1, x.2)) = ((es'.map fun p => (p.1, p.2.fz f sz es)).zip us).map (fun x => (Value.int .i64 x.1.1, x.2)) := by
          intro es'
          induction es' with
          | nil => intro us; simp
          | cons e es' ih => intro us; cases us with
            | nil => simp
            | cons u us => simp [ih us]
        exact this xs us'
  · intro i j i' j' p p' hne hne' hp hp' hpos hpos' he
    exact h1.inj i j i' j' p p' (old i j hne).2 (old i' j' hne').2 hp hp' hpos hpos' he
  · obtain ⟨i, j, p, hne, hp, hpos, rfl⟩ := hc
    obtain ⟨hi, hn⟩ := old i j hne
    cases hb : J p.1 with
    | none => rfl
    | some o =>
      exfalso
      rcases hJ p.1 (by rw [hb]; simp) with h | ⟨h, e⟩
      · exact h (h1.apart _ ⟨i, j, p, hn, hp, hpos, rfl⟩)
      · exact hi (h1.inj i j f 0 p q hn (by rw [hf]; simp) hp hq hpos h e).1
  · simp only [St.get]
    rw [look_fzM]
    exact rep_fz hJle hq hr hfi k1 hblk _ _ (h2 i)
  · rcases hJ b hb with h | ⟨h, e⟩
    · exact .inl h
    · exact .inr ⟨f, 0, q, by rw [hf]; simp, hq, h, e.symm⟩

theorem repL_view {I : Im} : ∀ {es es' : List D}, es'.length = es.length → (∀ (i : Nat) (e e' : D), es[i]? = some e → es'[i]? = some e' → ∀ I v, rep bot I e v → rep bot I e' v) → ∀ {us : List Value}, repL bot I es us → repL bot I es' us
  | [], [], _, _, us, h => h
  | [], _ :: _, hl, _, us, h => by simp at hl
  | _ :: _, [], hl, _, us, h => by simp at hl
  | e :: es, e' :: es', hl, hv, us, h => by
    obtain ⟨u, us', rfl, hu, h⟩ := repL_cons.1 h
    exact repL_cons.2 ⟨u, us', rfl, hv 0 e e' rfl rfl I u hu, repL_view (by simpa using hl) (fun i a b ha hb => hv (i + 1) a b (by simpa using ha) (by simpa using hb)) h⟩
/-- A row's elements are told in other words. -/
theorem Weak.row {n0 : Nat} {m : List (Nat × D)} {os : Objs} (f : Nat) {t : TypeId} {sz : Nat} {es : List D} (hf : os.at f 0 = .row t sz true es) (es' : List D) (hl : es'.length = es.length)
    (hv : ∀ (i : Nat) (e e' : D), es[i]? = some e → es'[i]? = some e' → ∀ I v, rep bot I e v → rep bot I e' v) : Weak n0 { m := m, objs := os } { m := m, objs := os.put f 0 (.row t sz true es') } := by
  intro ρ I w tm h1 h2 h3
  have hfl : f < os.length := lt_of_at (by rw [hf]; simp)
  have hat : ∀ i j, (os.put f 0 (.row t sz true es')).at i j ≠ .gone → os.at i j ≠ .gone := by
    intro i j hne
    by_cases hc : i = f ∧ j = 0
    · rw [hc.1, hc.2, hf]; simp
    · rwa [at_put_ne _ _ _ _ hc] at hne
  refine ⟨ρ, I, ⟨h1.im, fun i j hne => ?_, fun i j i' j' p p' hne hne' => h1.inj i j i' j' p p' (hat i j hne) (hat i' j' hne'), ?_, fun i j hi => h1.dom i j (by simpa [length_put] using hi)⟩, h2, Im.le_refl _, by simpa [length_put] using h3, fun _ _ _ => rfl, fun _ h => .inl h, ?_⟩
  · obtain ⟨p, hp, hok⟩ := h1.ok i j (hat i j hne)
    refine ⟨p, hp, ?_⟩
    by_cases hc : i = f ∧ j = 0
    · obtain ⟨rfl, rfl⟩ := hc
      simp only
      rw [at_put_self _ _ _ hfl]
      rw [hf] at hok
      obtain ⟨k1, k2, k3⟩ := hok
      refine ⟨by rw [hl]; exact k1, k2, fun hpos => ?_⟩
      obtain ⟨arr, us, g1, g2, g3, g4, g5⟩ := k3 hpos
      exact ⟨arr, us, g1, g2, repL_view hl hv g3, g4, g5⟩
    · simp only
      rw [at_put_ne _ _ _ _ hc]; exact hok
  · rintro b ⟨i, j, p, hne, hp, hpos, rfl⟩
    exact h1.apart _ ⟨i, j, p, hat i j hne, hp, hpos, rfl⟩
  · rintro b ⟨i, j, p, hne, hp, hpos, rfl⟩
    exact ⟨i, j, p, hat i j hne, hp, hpos, rfl⟩
theorem nil_lst {sz : Nat} {f : Bool} (I : Im) (v : Value) (h : rep bot I .nils v) : rep bot I (.lst sz f []) v := by
  rw [rep] at h
  subst h
  rw [rep]
  exact ⟨none, 0, [], rfl, Nat.le_refl _, by simp, fun _ => rfl, repL_nil.2 rfl, (fun u hu => by cases hu), .inl rfl⟩
theorem full_lst {sz : Nat} {f : Bool} {es : List D} (I : Im) (v : Value) (h : rep bot I (.lst sz f es) v) : rep bot I (.lst sz false es) v := by
  rw [rep] at h ⊢
  obtain ⟨A, c, us, e, h1, h2, h3, r⟩ := h
  exact ⟨A, c, us, e, h1, h2, fun h => by simp at h, r⟩
/-- A slot's value is told in other words. -/
theorem Weak.val {n0 : Nat} {m : List (Nat × D)} {os : Objs} (k : Nat) (d' : D) (h : ∀ ρ I v, rep ρ I (look m k) v → rep ρ I d' v) : Weak n0 { m := m, objs := os } { m := (k, d') :: m, objs := os } := by
  intro ρ I w tm h1 h2 h3
  refine ⟨ρ, I, h1, fun i => ?_, Im.le_refl _, h3, fun _ _ _ => rfl, fun _ h => .inl h, fun _ h => h⟩
  simp only [St.get, look]
  cases hb : Nat.beq k i with
  | true => have := Nat.eq_of_beq_eq_true hb; subst this; exact h ρ I _ (h2 k)
  | false => exact h2 i
end Go.Proofs.Ytaplihoeephbeaa.V
