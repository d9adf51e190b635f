/- VMore3: a text of a symbolic executor that is proved sound, and contracts that are proved with it. -/
import Derived.Test.YtaplihoeephbeaaVMore2
namespace Go.Proofs.Ytaplihoeephbeaa.V
open Go Go.RowKit
set_option linter.unusedVariables false

/-! ### An object takes a place in a family -/
/-- (a, 0) and (b, n) change places. -/
def swp (a b n i j : Nat) : Nat × Nat :=
  bif Nat.beq i a && Nat.beq j 0 then (b, n) else bif Nat.beq i b && Nat.beq j n then (a, 0) else (i, j)
theorem beq_ne {a b : Nat} (h : a ≠ b) : Nat.beq a b = false := by
  cases hb : Nat.beq a b with
  | false => rfl
  | true => exact absurd (Nat.eq_of_beq_eq_true hb) h
theorem swp_a (a b n : Nat) : swp a b n a 0 = (b, n) := by simp [swp]
theorem swp_b {a b : Nat} (n : Nat) (h : a ≠ b) : swp a b n b n = (a, 0) := by unfold swp; rw [beq_ne h.symm]; simp
theorem swp_ne {a b n i j : Nat} (h1 : ¬ (i = a ∧ j = 0)) (h2 : ¬ (i = b ∧ j = n)) : swp a b n i j = (i, j) := by
  have e1 : (Nat.beq i a && Nat.beq j 0) = false := by
    rcases Nat.decEq i a with h | h
    · rw [beq_ne h]; rfl
    · have : j ≠ 0 := fun e => h1 ⟨h, e⟩
      rw [beq_ne this, Bool.and_false]
  have e2 : (Nat.beq i b && Nat.beq j n) = false := by
    rcases Nat.decEq i b with h | h
    · rw [beq_ne h]; rfl
    · have : j ≠ n := fun e => h2 ⟨h, e⟩
      rw [beq_ne this, Bool.and_false]
  unfold swp
  rw [e1, e2]; rfl
theorem swp_cases {a b : Nat} (n : Nat) (h : a ≠ b) (i j : Nat) : (i = a ∧ j = 0 ∧ swp a b n i j = (b, n)) ∨ (i = b ∧ j = n ∧ swp a b n i j = (a, 0)) ∨ (¬ (i = a ∧ j = 0) ∧ ¬ (i = b ∧ j = n) ∧ swp a b n i j = (i, j)) := by
  by_cases h1 : i = a ∧ j = 0
  · obtain ⟨rfl, rfl⟩ := h1; exact .inl ⟨rfl, rfl, swp_a _ _ _⟩
  · by_cases h2 : i = b ∧ j = n
    · obtain ⟨rfl, rfl⟩ := h2; exact .inr (.inl ⟨rfl, rfl, swp_b _ h⟩)
    · exact .inr (.inr ⟨h1, h2, swp_ne h1 h2⟩)
theorem swp_swp {a b : Nat} (n : Nat) (h : a ≠ b) (i j : Nat) : swp a b n (swp a b n i j).1 (swp a b n i j).2 = (i, j) := by
  rcases swp_cases n h i j with ⟨rfl, rfl, e⟩ | ⟨rfl, rfl, e⟩ | ⟨h1, h2, e⟩ <;> rw [e]
  · exact swp_b _ h
  · exact swp_a _ _ _
  · exact e
def mapM (φ : Nat → Nat → Nat × Nat) (m : List (Nat × D)) : List (Nat × D) := m.map fun p => (p.1, p.2.mapId φ)
theorem look_mapM (φ : Nat → Nat → Nat × Nat) : ∀ (m : List (Nat × D)) (i : Nat), look (mapM φ m) i = (look m i).mapId φ
  | [], i => rfl
  | (k, d) :: m, i => by
    simp only [mapM, List.map_cons, look]
    cases Nat.beq k i
    · exact look_mapM φ m i
    · rfl
def famAt (os : Objs) (i : Nat) : Fam := os.getD i (.fam fun _ => .gone)
/-- A row of the family's kind takes the family's place n; what was there comes out. -/
def joinF (F : Fam) (n : Nat) (o : O) (φ : Nat → Nat → Nat × Nat) : Fam :=
  match F, o with
  | .rows t sz C, .row t' sz' true es => bif Nat.beq t t' && Nat.beq sz sz' then .rows t sz (fun k => bif Nat.beq k n then es else C k) else .fam (fun k => if k = n then .row t' sz' true es else .row t sz true (C k))
  | F, o => .fam (fun k => if k = n then o.mapId φ else (F.at k).mapId φ)
theorem joinF_at (F : Fam) (n : Nat) (o : O) (φ : Nat → Nat → Nat × Nat) (k : Nat) : (joinF F n o φ).at k = if k = n then o.mapId φ else (F.at k).mapId φ := by
  unfold joinF
  split
  · rename_i t sz C t' sz' es
    cases hb : (Nat.beq t t' && Nat.beq sz sz') with
    | false =>
      simp only [cond_false, Fam.at]
      split <;> rfl
    | true =>
      rw [Bool.and_eq_true] at hb
      obtain rfl := Nat.eq_of_beq_eq_true hb.1
      obtain rfl := Nat.eq_of_beq_eq_true hb.2
      simp only [cond_true, Fam.at]
      by_cases hk : k = n
      · subst hk; rw [Nat.beq_refl]; simp [O.mapId]
      · rw [if_neg hk, beq_ne hk]; rfl
  · rfl
def swapO (a b n : Nat) (os : Objs) : Objs :=
  ((os.map (Fam.mapId (swp a b n))).set b (joinF (famAt os b) n (os.at a 0) (swp a b n))).set a (.one ((os.at b n).mapId (swp a b n)))
theorem swapO_at {a b : Nat} (n : Nat) {os : Objs} (hab : a ≠ b) (ha : a < os.length) (hb : b < os.length) (hone : ∀ j, os.at a (j + 1) = .gone) (i j : Nat) :
    (swapO a b n os).at i j = (os.at (swp a b n i j).1 (swp a b n i j).2).mapId (swp a b n) := by
  have eAt : ∀ i, (swapO a b n os).getD i (.fam fun _ => .gone) = if i = a then .one ((os.at b n).mapId (swp a b n)) else if i = b then joinF (famAt os b) n (os.at a 0) (swp a b n) else
      (os.getD i (.fam fun _ => .gone)).mapId (swp a b n) := by
    intro i
    unfold swapO
    simp only [List.getD_eq_getElem?_getD, List.getElem?_set, List.length_set, List.length_map]
    by_cases h1 : a = i
    · subst h1; simp [ha]
    · rw [if_neg h1, if_neg (Ne.symm h1)]
      by_cases h2 : b = i
      · subst h2; simp [hb]
      · rw [if_neg h2, if_neg (Ne.symm h2), List.getElem?_map]
        cases os[i]? <;> rfl
  unfold Objs.at at *
  rw [eAt]
  by_cases h1 : i = a
  · subst h1
    rw [if_pos rfl]
    cases j with
    | zero => rw [swp_a]; rfl
    | succ j =>
      rw [swp_ne (by omega) (by omega)]
      simp only
      rw [hone j]
      rfl
  · rw [if_neg h1]
    by_cases h2 : i = b
    · subst h2
      rw [if_pos rfl, joinF_at]
      by_cases h3 : j = n
      · subst h3; rw [if_pos rfl, swp_b _ hab]
      · rw [if_neg h3, swp_ne (by omega) (by omega)]; rfl
    · rw [if_neg h2, swp_ne (by omega) (by omega), fam_mapId_at]
/-- The object a takes the place n of the family b. -/
theorem Weak.swap {n0 : Nat} {m : List (Nat × D)} {os : Objs} (a b n : Nat) (hab : a ≠ b) (ha0 : n0 ≤ a) (hb0 : n0 ≤ b) (ha : a < os.length) (hb : b < os.length) (hone : ∀ j, os.at a (j + 1) = .gone) :
    Weak n0 { m := m, objs := os } { m := mapM (swp a b n) m, objs := swapO a b n os } := by
  intro ρ I w tm h1 h2 h3
  have h3' : n0 ≤ os.length := h3
  obtain ⟨ρ', hρ'⟩ : ∃ ρ' : Pl, ρ' = fun i j => ρ (swp a b n i j).1 (swp a b n i j).2 := ⟨_, rfl⟩
  have hat := swapO_at n hab ha hb hone
  have up : ∀ k j p, ρ k j = some p → ρ' (swp a b n k j).1 (swp a b n k j).2 = some p := by
    intro k j p hp
    rw [hρ']
    simp only
    rw [swp_swp n hab]
    exact hp
  have old : ∀ i j, (swapO a b n os).at i j ≠ .gone → os.at (swp a b n i j).1 (swp a b n i j).2 ≠ .gone := fun i j hn he => by
    rw [hat, he] at hn; exact hn rfl
  have hfoot : ∀ c, foot ρ' (swapO a b n os) c → foot ρ os c := by
    rintro c ⟨i, j, p, hne, hp, hpos, rfl⟩
    exact ⟨_, _, p, old i j hne, by rw [hρ'] at hp; exact hp, hpos, rfl⟩
  have hlen : (swapO a b n os).length = os.length := by simp [swapO]
  refine ⟨ρ', I, ⟨h1.im, fun i j hne => ?_, fun i j i' j' p p' hne hne' hp hp' hpos hpos' he => ?_, fun c hc => h1.apart c (hfoot c hc), fun i j hi => ?_⟩, fun i => ?_, Im.le_refl _, by show n0 ≤ (swapO a b n os).length; omega, fun i j hi => ?_, fun _ h => .inl h, hfoot⟩
  · obtain ⟨p, hp, hok⟩ := h1.ok _ _ (old i j hne)
    refine ⟨p, by rw [hρ']; exact hp, ?_⟩
    show objOk ρ' I w p ((swapO a b n os).at i j)
    rw [hat]
    exact obj_up up hok
  · rw [hρ'] at hp hp'
    have := h1.inj _ _ _ _ p p' (old i j hne) (old i' j' hne') hp hp' hpos hpos' he
    have e := swp_swp n hab i j
    rw [this.1, this.2, swp_swp n hab i' j'] at e
    injection e with e1 e2
    exact ⟨e1.symm, e2.symm⟩
  · have hi' : os.length ≤ i := by rw [← hlen]; exact hi
    rw [hρ']
    simp only
    rw [swp_ne (by omega) (by omega)]
    exact h1.dom i j hi'
  · simp only [St.get]
    rw [look_mapM]
    exact rep_up up _ _ (h2 i)
  · rw [hρ']
    simp only
    rw [swp_ne (by omega) (by omega)]
/-- A family of rows of nothing. -/
theorem Weak.rows {n0 : Nat} {m : List (Nat × D)} {os : Objs} (t : TypeId) (sz : Nat) : Weak n0 { m := m, objs := os } { m := m, objs := os ++ [.rows t sz (fun _ => [])] } := by
  intro ρ I w tm h1 h2 h3
  have h3' : n0 ≤ os.length := h3
  obtain ⟨ρ', hρ'⟩ : ∃ ρ' : Pl, ρ' = fun i j => if i = os.length then some (0, 0) else ρ i j := ⟨_, rfl⟩
  have e1 : ∀ i j, i ≠ os.length → ρ' i j = ρ i j := fun i j h => by rw [hρ']; simp [h]
  have e2 : ∀ j, ρ' os.length j = some (0, 0) := fun j => by rw [hρ']; simp
  have hle : ρ.le ρ' := by
    intro i j p hp
    by_cases h : i = os.length
    · subst h; rw [h1.dom _ _ (Nat.le_refl _)] at hp; simp at hp
    · rw [e1 i j h]; exact hp
  have hat : ∀ i j, Objs.at (os ++ [.rows t sz (fun _ => [])]) i j ≠ .gone → (i = os.length ∧ Objs.at (os ++ [.rows t sz (fun _ => [])]) i j = .row t sz true []) ∨ (i < os.length ∧ Objs.at (os ++ [.rows t sz (fun _ => [])]) i j = os.at i j) := by
    intro i j hne
    rcases Nat.lt_or_ge i os.length with hi | hi
    · exact .inr ⟨hi, at_lt _ _ _ hi⟩
    · rcases Nat.eq_or_lt_of_le hi with e | hlt
      · subst e; exact .inl ⟨rfl, by rw [at_new]; rfl⟩
      · exact absurd (at_ge (os ++ [.rows t sz (fun _ => [])]) j (by simp; omega)) hne
  have hfoot : ∀ c, foot ρ' (os ++ [.rows t sz (fun _ => [])]) c → foot ρ os c := by
    rintro c ⟨i, j, p, hne, hp, hpos, rfl⟩
    rcases hat i j hne with ⟨rfl, e⟩ | ⟨hi, e⟩
    · rw [e2] at hp; cases hp; simp at hpos
    · rw [e] at hne; rw [e1 i j (by omega)] at hp; exact ⟨i, j, p, hne, hp, hpos, rfl⟩
  refine ⟨ρ', I, ⟨h1.im, fun i j hne => ?_, fun i j i' j' p p' hne hne' hp hp' hpos hpos' he => ?_, fun c hc => h1.apart c (hfoot c hc), fun i j hi => ?_⟩, fun i => rep_mono hle (Im.le_refl _) _ _ (h2 i), Im.le_refl _, (by show n0 ≤ (os ++ [Fam.rows t sz fun _ => []]).length; simp; omega), fun i j hi => e1 i j (by omega), fun _ h => .inl h, hfoot⟩
  · show ∃ p, ρ' i j = some p ∧ objOk ρ' I w p (Objs.at (os ++ [.rows t sz (fun _ => [])]) i j)
    rcases hat i j hne with ⟨rfl, e⟩ | ⟨hi, e⟩
    · rw [e]
      exact ⟨(0, 0), e2 j, Nat.le_refl _, by simp, fun h => absurd h (Nat.lt_irrefl _)⟩
    · have hn' : os.at i j ≠ .gone := by rw [← e]; exact hne
      obtain ⟨p, hp, hok⟩ := h1.ok i j hn'
      rw [e]
      exact ⟨p, hle _ _ _ hp, objOk_mono hle (Im.le_refl _) (fun _ => rfl) hok⟩
  · rcases hat i j hne with ⟨rfl, e⟩ | ⟨hi, e⟩
    · rw [e2] at hp; cases hp; simp at hpos
    · rcases hat i' j' hne' with ⟨rfl, e'⟩ | ⟨hi', e'⟩
      · rw [e2] at hp'; cases hp'; simp at hpos'
      · rw [e1 _ _ (by omega)] at hp hp'
        exact h1.inj i j i' j' p p' (by rw [← e]; exact hne) (by rw [← e']; exact hne') hp hp' hpos hpos' he
  · have : os.length + 1 ≤ i := by simpa using hi
    show ρ' i j = none
    have hi2 : os.length ≤ i := by omega
    rw [e1 i j (by omega)]
    exact h1.dom i j hi2
/-- What holds nil holds a row of nothing, the object n. -/
def NilV (n : Nat) (d d' : D) : Prop := ∀ ρ I v x, ρ n 0 = some (x, 0) → rep ρ I d v → rep ρ I d' v
def NilL (n : Nat) (ds ds' : List D) : Prop := ∀ ρ I vs x, ρ n 0 = some (x, 0) → repL ρ I ds vs → repL ρ I ds' vs
theorem NilV.same (n : Nat) (d : D) : NilV n d d := fun _ _ _ _ _ h => h
theorem NilL.same (n : Nat) (ds : List D) : NilL n ds ds := fun _ _ _ _ _ h => h
theorem NilV.nils (n sz : Nat) : NilV n .nils (.sl n 0 sz 0 0 none) := fun ρ I v x hx h => by
  rw [rep] at h
  rw [rep]
  exact ⟨_, none, 0, hx, h, Nat.le_refl _, by simp, by simp, by simp, fun h => by simp at h⟩
theorem NilL.cons {n : Nat} {d d' : D} {ds ds' : List D} (h : NilV n d d') (k : NilL n ds ds') : NilL n (d :: ds) (d' :: ds') := fun ρ I vs x hx hr => by
  obtain ⟨u, us, rfl, h1, h2⟩ := repL_cons.1 hr
  exact repL_cons.2 ⟨u, us, rfl, h ρ I u x hx h1, k ρ I us x hx h2⟩
theorem NilV.agg {n : Nat} {cs cs' : List D} (h : NilL n cs cs') : NilV n (.agg cs) (.agg cs') := fun ρ I v x hx hr => by
  rw [rep] at hr ⊢
  obtain ⟨arr, e, hr⟩ := hr
  exact ⟨arr, e, h ρ I _ x hx hr⟩
theorem Sat.retell {ρ : Pl} {I : Im} {os : Objs} {w : World} (h : Sat ρ I os w) {k : Nat} (hne : os.at k 0 ≠ .gone) (o : O) (ho : ∀ p, ρ k 0 = some p → objOk ρ I w p (os.at k 0) → objOk ρ I w p o) : Sat ρ I (os.put k 0 o) w ∧ ∀ c, foot ρ (os.put k 0 o) c → foot ρ os c := by
  have hi := lt_of_at hne
  have old : ∀ i j, (os.put k 0 o).at i j ≠ .gone → os.at i j ≠ .gone := by
    intro i j hn
    by_cases hc : i = k ∧ j = 0
    · obtain ⟨rfl, rfl⟩ := hc; exact hne
    · rwa [at_put_ne _ _ _ _ hc] at hn
  have hfoot : ∀ c, foot ρ (os.put k 0 o) c → foot ρ os c := by
    rintro c ⟨i, j, p, hn, hp, hpos, rfl⟩
    exact ⟨i, j, p, old i j hn, hp, hpos, rfl⟩
  refine ⟨⟨h.im, fun i j hn => ?_, fun i j i' j' p p' hn hn' => h.inj i j i' j' p p' (old i j hn) (old i' j' hn'), fun c hc => h.apart c (hfoot c hc), fun i j hi' => h.dom i j (by rwa [length_put] at hi')⟩, hfoot⟩
  obtain ⟨p, hp, hok⟩ := h.ok i j (old i j hn)
  refine ⟨p, hp, ?_⟩
  by_cases hc : i = k ∧ j = 0
  · obtain ⟨rfl, rfl⟩ := hc
    rw [at_put_self _ _ _ hi]
    exact ho p hp hok
  · rw [at_put_ne _ _ _ _ hc]; exact hok
/-- A nil that lies in an object is told as a row of nothing that may grow. -/
theorem Weak.nilO {n0 : Nat} {m : List (Nat × D)} {os : Objs} (k n : Nat) (hn : os.length = n) {ty : TypeId} {sz : Nat} {es : List D} (hk : os.at k 0 = .row ty sz false es) (es' : List D) (hl : es'.length = es.length) (hes : NilL n es es') (t' : TypeId) (sz' : Nat) (pr : Bool) :
    Weak n0 { m := m, objs := os } { m := m, objs := (os ++ [one (.row t' sz' pr [])]).put k 0 (.row ty sz false es') } := by
  subst hn
  intro ρ I w tm h1 h2 h3
  have h3' : n0 ≤ os.length := h3
  have hkl : k < os.length := lt_of_at (by rw [hk]; simp)
  have hle : ρ.le (ρ.new os.length (w.heap.size, 0)) := Pl.le_new (fun j => h1.dom _ _ (Nat.le_refl _))
  have hs := h1.new (w' := w) (fun _ _ => rfl) 0 (.row t' sz' pr []) ⟨Nat.le_refl _, by simp, fun h => by omega⟩
  have hk' : Objs.at (os ++ [one (.row t' sz' pr [])]) k 0 = .row ty sz false es := by rw [at_lt _ _ _ hkl]; exact hk
  have hs2 := hs.retell (k := k) (by rw [hk']; simp) (.row ty sz false es') (fun p hp hok => by
    rw [hk'] at hok
    obtain ⟨c1, c2, c3⟩ := hok
    refine ⟨by rw [hl]; exact c1, c2, fun hpos => ?_⟩
    obtain ⟨arr, us, g1, g2, g3, g4, g5⟩ := c3 hpos
    exact ⟨arr, us, g1, g2, hes _ I us _ (Pl.new_self _ _ _) g3, g4, g5⟩)
  refine ⟨_, I, hs2.1, fun i => rep_mono hle (Im.le_refl _) _ _ (h2 i), Im.le_refl _, by show n0 ≤ (Objs.put _ _ _ _).length; rw [length_put]; simp; omega, fun i j hi => Pl.new_ne _ _ (fun e => by omega), fun _ h => .inl h, fun c hc => ?_⟩
  obtain ⟨i, j, p, hne, hp, hpos, rfl⟩ := hs2.2 c hc
  by_cases hc : i = os.length ∧ j = 0
  · obtain ⟨rfl, rfl⟩ := hc
    rw [Pl.new_self] at hp; cases hp
    simp at hpos
  · rw [Pl.new_ne _ _ hc] at hp
    refine ⟨i, j, p, ?_, hp, hpos, rfl⟩
    rcases Nat.lt_or_ge i os.length with hi | hi
    · rwa [at_lt _ _ _ hi] at hne
    · rcases Nat.eq_or_lt_of_le hi with e | hlt
      · subst e; rw [at_new] at hne; exact absurd (one_pos _ (fun e => hc ⟨rfl, e⟩)) hne
      · exact absurd (at_ge (os ++ [one (.row t' sz' pr [])]) j (by simp; omega)) hne
/-- Laid by, to be used once more. -/
structure Kept (p : Prop) : Prop where
  h : p
/-- A loop whose way on is walked once, whichever test ends it: E a holds there. -/
theorem Loop.inv2 {n0 : Nat} {ws : List Nat} {body : (E → St → Prop) → St → Prop} {K : E → St → Prop} {s : St} {A : Type} (id : Nat) (js : List Nat) (S : A → List (Nat × D)) (O : A → Objs) (Q Q2 : A → Prop) (μ : A → Nat) (a0 : A) (h0 : Q a0) (hw : Weak n0 s (s.head (js ++ ws) (S a0) (O a0)))
    (hr : Kept (∀ a, Q2 a → withoutK (js ++ ws) s.m (fun m => K (.exit id) { m := S a ++ m, objs := O a })) → ∀ a, Q a → withoutK (js ++ ws) s.m (fun m => body (fun e s' => match e with
      | .normal => ∃ k slots' os', k < μ a ∧ (∃ a', Q a' ∧ k = μ a' ∧ slots' = S a' ∧ os' = O a') ∧ Weak n0 s' { m := slots' ++ m, objs := os' }
      | e => K e s') { m := S a ++ m, objs := O a }))
    (hc : ∀ a, Q2 a → withoutK (js ++ ws) s.m (fun m => K (.exit id) { m := S a ++ m, objs := O a })) : Loop n0 ws body K s :=
  Loop.inv js S O Q μ a0 h0 hw (hr ⟨hc⟩)
/-- The same objects, told in other words. -/
theorem Weak.objs {n0 : Nat} {m : List (Nat × D)} {os os' : Objs} (h : os = os') : Weak n0 { m := m, objs := os } { m := m, objs := os' } := by subst h; exact Weak.refl _ _
end Go.Proofs.Ytaplihoeephbeaa.V
