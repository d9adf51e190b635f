/- VSat: a text of a symbolic executor that is proved sound, and contracts that are proved with it. -/
import Derived.Test.YtaplihoeephbeaaVData
namespace Go.Proofs.Ytaplihoeephbeaa.V
open Go Go.RowKit

theorem at_lt (os : Objs) (l : Objs) {i : Nat} (j : Nat) (h : i < os.length) : Objs.at (os ++ l) i j = os.at i j := by
  simp [Objs.at, List.getElem?_append_left h]
theorem at_new (os : Objs) (f : Fam) (j : Nat) : Objs.at (os ++ [f]) os.length j = f.at j := by
  simp [Objs.at]
theorem at_ge (os : Objs) {i : Nat} (j : Nat) (h : os.length ≤ i) : os.at i j = .gone := by
  simp [Objs.at, List.getElem?_eq_none h, Fam.at]
theorem lt_of_at {os : Objs} {i j : Nat} (h : os.at i j ≠ .gone) : i < os.length := by
  rcases Nat.lt_or_ge i os.length with h' | h'
  · exact h'
  · exact absurd (at_ge os j h') h
theorem Fam.at_put (F : Fam) (j : Nat) (o : O) (k : Nat) : (F.put j o).at k = if k = j then o else F.at k := by
  cases F with
  | one x => cases j with
    | zero => cases k with
      | zero => rfl
      | succ k => rfl
    | succ j => rfl
  | fam f => rfl
  | rows t sz C =>
    cases o with
    | gone => rfl
    | map es => rfl
    | row t' sz' pr es =>
      cases pr with
      | false => rfl
      | true =>
        simp only [Fam.put]
        cases hb : (Nat.beq t t' && Nat.beq sz sz') with
        | false => rfl
        | true =>
          rw [Bool.and_eq_true] at hb
          obtain rfl := Nat.eq_of_beq_eq_true hb.1
          obtain rfl := Nat.eq_of_beq_eq_true hb.2
          simp only [cond_true, Fam.at]
          by_cases hk : k = j
          · subst hk; rw [Nat.beq_refl]; simp
          · rw [if_neg hk]
            have : Nat.beq k j = false := by
              cases h : Nat.beq k j with
              | false => rfl
              | true => exact absurd (Nat.eq_of_beq_eq_true h) hk
            rw [this]; rfl
theorem Fam.at_put_self (F : Fam) (j : Nat) (o : O) : (F.put j o).at j = o := by rw [Fam.at_put, if_pos rfl]
theorem Fam.at_put_ne (F : Fam) {j k : Nat} (o : O) (h : k ≠ j) : (F.put j o).at k = F.at k := by rw [Fam.at_put, if_neg h]
theorem at_put_self (os : Objs) {i : Nat} (j : Nat) (o : O) (h : i < os.length) : (os.put i j o).at i j = o := by
  simp [Objs.at, Objs.put, h, Fam.at_put_self]
theorem at_put_ne (os : Objs) (i j : Nat) (o : O) {i' j' : Nat} (h : ¬ (i' = i ∧ j' = j)) : (os.put i j o).at i' j' = os.at i' j' := by
  unfold Objs.at Objs.put
  simp only [List.getD_eq_getElem?_getD, List.getElem?_set]
  by_cases hi : i = i'
  · subst hi
    have hj : j' ≠ j := fun e => h ⟨rfl, e⟩
    by_cases hl : i < os.length
    · simp [hl, Fam.at_put_ne _ _ hj]
    · simp [hl]
  · simp [hi]
theorem length_put (os : Objs) (i j : Nat) (o : O) : (os.put i j o).length = os.length := by simp [Objs.put]
theorem one_zero (o : O) : (one o).at 0 = o := rfl
theorem one_pos (o : O) {j : Nat} (h : j ≠ 0) : (one o).at j = .gone := by cases j <;> simp_all [one, Fam.at]

def Pl.new (ρ : Pl) (n : Nat) (p : Nat × Nat) : Pl := fun i j => if i = n ∧ j = 0 then some p else ρ i j
theorem Pl.le_new {ρ : Pl} {n : Nat} {p : Nat × Nat} (h : ∀ j, ρ n j = none) : ρ.le (ρ.new n p) := by
  intro i j q hq
  unfold Pl.new
  split
  · rename_i hc; rw [hc.1, h] at hq; simp at hq
  · exact hq
theorem Pl.new_self (ρ : Pl) (n : Nat) (p : Nat × Nat) : ρ.new n p n 0 = some p := by simp [Pl.new]
theorem Pl.new_ne (ρ : Pl) {n : Nat} (p : Nat × Nat) {i j : Nat} (h : ¬ (i = n ∧ j = 0)) : ρ.new n p i j = ρ i j := by simp [Pl.new, h]

theorem objOk_mono {ρ ρ' : Pl} {I I' : Im} {w w' : World} {p : Nat × Nat} {o : O} (hρ : ρ.le ρ') (hI : I.le I') (hw : 0 < p.2 → w'.heap[p.1]? = w.heap[p.1]?)
    (h : objOk ρ I w p o) : objOk ρ' I' w' p o := by
  cases o with
  | gone => trivial
  | row t sz pure es =>
    obtain ⟨h1, h2, h3⟩ := h
    refine ⟨h1, h2, fun hp => ?_⟩
    obtain ⟨arr, us, ha, hs, hr, hf, hfl⟩ := h3 hp
    refine ⟨arr, us, (hw hp).trans ha, hs, ?_, hf, hfl⟩
    cases pure
    · exact repL_mono hρ hI _ _ hr
    · exact repL_mono (Pl.le_refl _) hI _ _ hr
  | map es =>
    obtain ⟨hp, ents, clk, ha, us, hr, he⟩ := h
    exact ⟨hp, ents, clk, (hw hp).trans ha, us, repL_mono hρ hI _ _ hr, he⟩

/-- Of a live object: its block is there. -/
theorem objOk_lt {ρ : Pl} {I : Im} {w : World} {p : Nat × Nat} {o : O} (ho : o ≠ .gone) (hp : 0 < p.2) (h : objOk ρ I w p o) : p.1 < w.heap.size := by
  cases o with
  | gone => exact absurd rfl ho
  | row t sz pure es =>
    obtain ⟨arr, us, ha, _⟩ := h.2.2 hp
    exact (Array.getElem?_eq_some_iff.1 ha).1
  | map es =>
    obtain ⟨_, ents, clk, ha, _⟩ := h
    exact (Array.getElem?_eq_some_iff.1 ha).1
theorem Sat.foot_lt {ρ : Pl} {I : Im} {os : Objs} {w : World} (h : Sat ρ I os w) {b : Nat} (hb : foot ρ os b) : b < w.heap.size := by
  obtain ⟨i, j, p, hne, hp, hpos, rfl⟩ := hb
  obtain ⟨p', hp', hok⟩ := h.ok i j hne
  rw [hp] at hp'; cases hp'
  exact objOk_lt hne hpos hok
theorem Sat.im_lt {ρ : Pl} {I : Im} {os : Objs} {w : World} (h : Sat ρ I os w) {b : Nat} {o : Obj} (hb : I b = some o) : b < w.heap.size :=
  (Array.getElem?_eq_some_iff.1 (h.im b o hb)).1

/-- Nothing of the heap has turned. -/
theorem Sat.heap {ρ : Pl} {I : Im} {os : Objs} {w w' : World} (h : Sat ρ I os w) (hw : w'.heap = w.heap) : Sat ρ I os w' :=
  ⟨fun b o hb => by rw [hw]; exact h.im b o hb, fun i j hne => by
    obtain ⟨p, hp, hok⟩ := h.ok i j hne
    exact ⟨p, hp, objOk_mono (Pl.le_refl _) (Im.le_refl _) (fun _ => by rw [hw]) hok⟩, h.inj, h.apart, h.dom⟩

/-- A new object in a new block. -/
theorem Sat.new {ρ : Pl} {I : Im} {os : Objs} {w w' : World} (h : Sat ρ I os w) (hw : ∀ b, b < w.heap.size → w'.heap[b]? = w.heap[b]?) (C : Nat) (o : O)
    (ho : objOk (ρ.new os.length (w.heap.size, C)) I w' (w.heap.size, C) o) : Sat (ρ.new os.length (w.heap.size, C)) I (os ++ [one o]) w' := by
  have hle : ρ.le (ρ.new os.length (w.heap.size, C)) := Pl.le_new (fun j => h.dom _ _ (Nat.le_refl _))
  have old : ∀ i j, Objs.at (os ++ [one o]) i j ≠ .gone → ¬ (i = os.length ∧ j = 0) → os.at i j ≠ .gone ∧ i < os.length := by
    intro i j hne hn
    rcases Nat.lt_or_ge i os.length with hi | hi
    · rw [at_lt _ _ _ hi] at hne; exact ⟨hne, hi⟩
    · rcases Nat.eq_or_lt_of_le hi with e | hlt
      · subst e; rw [at_new] at hne; exact absurd (one_pos o (fun e => hn ⟨rfl, e⟩)) hne
      · exact absurd (at_ge (os ++ [one o]) j (by simp; omega)) hne
  refine ⟨fun b ob hb => by rw [hw b (h.im_lt hb)]; exact h.im b ob hb, fun i j hne => ?_, ?_, ?_, ?_⟩
  · by_cases hc : i = os.length ∧ j = 0
    · obtain ⟨rfl, rfl⟩ := hc
      exact ⟨_, Pl.new_self _ _ _, by rw [at_new]; exact ho⟩
    · obtain ⟨hne', hi⟩ := old i j hne hc
      obtain ⟨p, hp, hok⟩ := h.ok i j hne'
      refine ⟨p, by rw [Pl.new_ne _ _ hc]; exact hp, ?_⟩
      rw [at_lt _ _ _ hi]
      exact objOk_mono hle (Im.le_refl _) (fun hpos => hw _ (objOk_lt hne' hpos hok)) hok
  · intro i j i' j' p p' hne hne' hp hp' hpos hpos' he
    by_cases hc : i = os.length ∧ j = 0 <;> by_cases hc' : i' = os.length ∧ j' = 0
    · exact ⟨hc.1.trans hc'.1.symm, hc.2.trans hc'.2.symm⟩
    · obtain ⟨k, hi⟩ := old i' j' hne' hc'
      rw [Pl.new_ne _ _ hc'] at hp'
      have := h.foot_lt ⟨i', j', p', k, hp', hpos', rfl⟩
      obtain ⟨rfl, rfl⟩ := hc
      rw [Pl.new_self] at hp; cases hp
      simp at he; omega
    · obtain ⟨k, hi⟩ := old i j hne hc
      rw [Pl.new_ne _ _ hc] at hp
      have := h.foot_lt ⟨i, j, p, k, hp, hpos, rfl⟩
      obtain ⟨rfl, rfl⟩ := hc'
      rw [Pl.new_self] at hp'; cases hp'
      simp at he; omega
    · rw [Pl.new_ne _ _ hc] at hp
      rw [Pl.new_ne _ _ hc'] at hp'
      exact h.inj i j i' j' p p' (old i j hne hc).1 (old i' j' hne' hc').1 hp hp' hpos hpos' he
  · rintro b ⟨i, j, p, hne, hp, hpos, rfl⟩
    by_cases hc : i = os.length ∧ j = 0
    · obtain ⟨rfl, rfl⟩ := hc
      rw [Pl.new_self] at hp; cases hp
      cases hI : I w.heap.size with
      | none => rfl
      | some ob => exact absurd (h.im_lt hI) (by omega)
    · rw [Pl.new_ne _ _ hc] at hp
      exact h.apart _ ⟨i, j, p, (old i j hne hc).1, hp, hpos, rfl⟩
  · intro i j hi
    rw [Pl.new_ne _ _ (fun e => by simp at hi; omega)]
    exact h.dom i j (by simp at hi; omega)

/-- A live object's block is written. -/
theorem Sat.write {ρ : Pl} {I : Im} {os : Objs} {w w' : World} (h : Sat ρ I os w) {i j : Nat} {p : Nat × Nat} (hne : os.at i j ≠ .gone) (hp : ρ i j = some p) (hpos : 0 < p.2)
    (hw : ∀ b, b ≠ p.1 → w'.heap[b]? = w.heap[b]?) (o : O) (ho : o ≠ .gone → objOk ρ I w' p o) : Sat ρ I (os.put i j o) w' := by
  have hi := lt_of_at hne
  have hap : I p.1 = none := h.apart _ ⟨i, j, p, hne, hp, hpos, rfl⟩
  have old : ∀ i' j', (os.put i j o).at i' j' ≠ .gone → os.at i' j' ≠ .gone := by
    intro i' j' hn
    by_cases hc : i' = i ∧ j' = j
    · obtain ⟨rfl, rfl⟩ := hc; exact hne
    · rwa [at_put_ne _ _ _ _ hc] at hn
  refine ⟨fun b ob hb => ?_, fun i' j' hn => ?_, ?_, ?_, ?_⟩
  · rw [hw b (fun e => by subst e; rw [hap] at hb; simp at hb)]; exact h.im b ob hb
  · by_cases hc : i' = i ∧ j' = j
    · obtain ⟨rfl, rfl⟩ := hc
      rw [at_put_self _ _ _ hi] at hn ⊢
      exact ⟨p, hp, ho hn⟩
    · have hn' := old i' j' hn
      obtain ⟨q, hq, hok⟩ := h.ok i' j' hn'
      refine ⟨q, hq, ?_⟩
      rw [at_put_ne _ _ _ _ hc]
      exact objOk_mono (Pl.le_refl _) (Im.le_refl _) (fun hqp => hw _ (fun e => hc (h.inj i' j' i j q p hn' hne hq hp hqp hpos e))) hok
  · intro a b a' b' q q' hn hn' hq hq' h1 h2 he
    exact h.inj a b a' b' q q' (old _ _ hn) (old _ _ hn') hq hq' h1 h2 he
  · rintro b ⟨a, c, q, hn, hq, hqp, rfl⟩
    exact h.apart _ ⟨a, c, q, old _ _ hn, hq, hqp, rfl⟩
  · intro a b hab
    exact h.dom a b (by rwa [length_put] at hab)

theorem Sat.drop {ρ : Pl} {I : Im} {os : Objs} {w : World} (h : Sat ρ I os w) (i j : Nat) : Sat ρ I (os.put i j .gone) w := by
  have old : ∀ i' j', (os.put i j .gone).at i' j' ≠ .gone → ¬ (i' = i ∧ j' = j) ∧ os.at i' j' ≠ .gone := by
    intro i' j' hn
    by_cases hc : i' = i ∧ j' = j
    · obtain ⟨rfl, rfl⟩ := hc
      rcases Nat.lt_or_ge i' os.length with hl | hl
      · rw [at_put_self _ _ _ hl] at hn; exact absurd rfl hn
      · rw [at_ge _ _ (by rw [length_put]; exact hl)] at hn; exact absurd rfl hn
    · exact ⟨hc, by rwa [at_put_ne _ _ _ _ hc] at hn⟩
  refine ⟨h.im, fun i' j' hn => ?_, ?_, ?_, ?_⟩
  · obtain ⟨hc, hn'⟩ := old i' j' hn
    rw [at_put_ne _ _ _ _ hc]
    exact h.ok i' j' hn'
  · intro a b a' b' q q' hn hn' hq hq' h1 h2 he
    exact h.inj a b a' b' q q' (old _ _ hn).2 (old _ _ hn').2 hq hq' h1 h2 he
  · rintro b ⟨a, c, q, hn, hq, hqp, rfl⟩
    exact h.apart _ ⟨a, c, q, (old _ _ hn).2, hq, hqp, rfl⟩
  · intro a b hab
    exact h.dom a b (by rwa [length_put] at hab)

/-- An object's block is handed on to a new one (an append in place). -/
theorem Sat.pass {ρ : Pl} {I : Im} {os : Objs} {w w' : World} (h : Sat ρ I os w) {i j : Nat} {p : Nat × Nat} (hne : os.at i j ≠ .gone) (hp : ρ i j = some p) (hpos : 0 < p.2)
    (hw : ∀ b, b ≠ p.1 → w'.heap[b]? = w.heap[b]?) (o : O) (ho : objOk (ρ.new os.length p) I w' p o) :
    Sat (ρ.new os.length p) I (os.put i j .gone ++ [one o]) w' := by
  have hi := lt_of_at hne
  have hap : I p.1 = none := h.apart _ ⟨i, j, p, hne, hp, hpos, rfl⟩
  have hle : ρ.le (ρ.new os.length p) := Pl.le_new (fun j => h.dom _ _ (Nat.le_refl _))
  have old : ∀ a b, Objs.at (os.put i j .gone ++ [one o]) a b ≠ .gone → ¬ (a = os.length ∧ b = 0) → os.at a b ≠ .gone ∧ a < os.length ∧ ¬ (a = i ∧ b = j) := by
    intro a b hn hc
    rcases Nat.lt_or_ge a os.length with ha | ha
    · rw [at_lt _ _ _ (by rw [length_put]; exact ha)] at hn
      have hnc : ¬ (a = i ∧ b = j) := fun e => by obtain ⟨rfl, rfl⟩ := e; rw [at_put_self _ _ _ hi] at hn; exact hn rfl
      rw [at_put_ne _ _ _ _ hnc] at hn
      exact ⟨hn, ha, hnc⟩
    · rcases Nat.eq_or_lt_of_le ha with e | hlt
      · subst e
        have := at_new (os.put i j .gone) (one o) b
        rw [length_put] at this
        rw [this] at hn
        exact absurd (one_pos o (fun e => hc ⟨rfl, e⟩)) hn
      · exact absurd (at_ge _ b (by simp [length_put]; omega)) hn
  refine ⟨fun b ob hb => ?_, fun a b hn => ?_, ?_, ?_, ?_⟩
  · rw [hw b (fun e => by subst e; rw [hap] at hb; simp at hb)]; exact h.im b ob hb
  · by_cases hc : a = os.length ∧ b = 0
    · obtain ⟨rfl, rfl⟩ := hc
      refine ⟨p, Pl.new_self _ _ _, ?_⟩
      have := at_new (os.put i j .gone) (one o) 0
      rw [length_put] at this
      rw [this]; exact ho
    · obtain ⟨hn', ha, hnc⟩ := old a b hn hc
      obtain ⟨q, hq, hok⟩ := h.ok a b hn'
      refine ⟨q, by rw [Pl.new_ne _ _ hc]; exact hq, ?_⟩
      rw [at_lt _ _ _ (by rw [length_put]; exact ha), at_put_ne _ _ _ _ hnc]
      exact objOk_mono hle (Im.le_refl _) (fun hqp => hw _ (fun e => hnc (h.inj a b i j q p hn' hne hq hp hqp hpos e))) hok
  · intro a b a' b' q q' hn hn' hq hq' h1 h2 he
    by_cases hc : a = os.length ∧ b = 0 <;> by_cases hc' : a' = os.length ∧ b' = 0
    · exact ⟨hc.1.trans hc'.1.symm, hc.2.trans hc'.2.symm⟩
    · obtain ⟨k, _, knc⟩ := old a' b' hn' hc'
      rw [Pl.new_ne _ _ hc'] at hq'
      obtain ⟨rfl, rfl⟩ := hc
      rw [Pl.new_self] at hq; cases hq
      exact absurd (h.inj a' b' i j q' p k hne hq' hp h2 hpos he.symm) knc
    · obtain ⟨k, _, knc⟩ := old a b hn hc
      rw [Pl.new_ne _ _ hc] at hq
      obtain ⟨rfl, rfl⟩ := hc'
      rw [Pl.new_self] at hq'; cases hq'
      exact absurd (h.inj a b i j q p k hne hq hp h1 hpos he) knc
    · rw [Pl.new_ne _ _ hc] at hq
      rw [Pl.new_ne _ _ hc'] at hq'
      exact h.inj a b a' b' q q' (old a b hn hc).1 (old a' b' hn' hc').1 hq hq' h1 h2 he
  · rintro b ⟨a, c, q, hn, hq, hqp, rfl⟩
    by_cases hc : a = os.length ∧ c = 0
    · obtain ⟨rfl, rfl⟩ := hc
      rw [Pl.new_self] at hq; cases hq
      exact hap
    · rw [Pl.new_ne _ _ hc] at hq
      exact h.apart _ ⟨a, c, q, (old a c hn hc).1, hq, hqp, rfl⟩
  · intro a b hab
    rw [Pl.new_ne _ _ (fun e => by simp [length_put] at hab; omega)]
    exact h.dom a b (by simp [length_put] at hab; omega)

/-! ### The frame -/
structure Ctx where
  ρ : Pl
  I : Im
  os : Objs
  w : World
abbrev Ctx.Fr (Γ : Ctx) (ρ : Pl) (I : Im) (os : Objs) (w : World) : Prop := V.Fr Γ.ρ Γ.I Γ.os Γ.w ρ I os w

theorem Fr.refl (ρ : Pl) (I : Im) (os : Objs) (w : World) : Fr ρ I os w ρ I os w :=
  ⟨rfl, rfl, rfl, Nat.le_refl _, fun _ _ _ => rfl, Nat.le_refl _, fun _ _ _ => rfl, Im.le_refl _, fun _ h => .inl h, fun _ h => .inl h⟩

/-- The world turns but in nothing of the heap. -/
theorem Fr.heap {Γ : Ctx} {ρ : Pl} {I : Im} {os : Objs} {w w' : World} (h : Γ.Fr ρ I os w) (hw : w'.heap = w.heap) (ho : w'.os = w.os) (ht : w'.tape = w.tape) (hu : w'.output = w.output) : Γ.Fr ρ I os w' :=
  ⟨ho.trans h.wos, ht.trans h.tape, hu.trans h.output, by rw [hw]; exact h.size, fun b hb hf => by rw [hw]; exact h.kept b hb hf, h.len, h.same, h.imle, h.imnew, h.obnew⟩
structure Turn (w w' : World) : Prop where
  wos : w'.os = w.os
  tape : w'.tape = w.tape
  output : w'.output = w.output
  size : w.heap.size ≤ w'.heap.size
theorem Fr.new {Γ : Ctx} {ρ : Pl} {I : Im} {os : Objs} {w w' : World} (h : Γ.Fr ρ I os w) (ht : Turn w w') (hw : ∀ b, b < w.heap.size → w'.heap[b]? = w.heap[b]?) (C : Nat) (o : O) :
    Γ.Fr (ρ.new os.length (w.heap.size, C)) I (os ++ [one o]) w' := by
  refine ⟨ht.wos.trans h.wos, ht.tape.trans h.tape, ht.output.trans h.output, Nat.le_trans h.size ht.size, fun b hb hf => by rw [hw b (Nat.lt_of_lt_of_le hb h.size)]; exact h.kept b hb hf,
    by have := h.len; simp; omega, fun i j hi => ?_, h.imle, h.imnew, ?_⟩
  · rw [Pl.new_ne _ _ (fun e => by have := h.len; omega)]; exact h.same i j hi
  · rintro b ⟨i, j, p, hne, hp, hpos, rfl⟩
    by_cases hc : i = os.length ∧ j = 0
    · obtain ⟨rfl, rfl⟩ := hc
      rw [Pl.new_self] at hp; cases hp
      exact .inr h.size
    · rw [Pl.new_ne _ _ hc] at hp
      rcases Nat.lt_or_ge i os.length with hi | hi
      · rw [at_lt _ _ _ hi] at hne
        exact h.obnew _ ⟨i, j, p, hne, hp, hpos, rfl⟩
      · rcases Nat.eq_or_lt_of_le hi with e | hlt
        · subst e; rw [at_new] at hne; exact absurd (one_pos o (fun e => hc ⟨rfl, e⟩)) hne
        · exact absurd (at_ge (os ++ [one o]) j (by simp; omega)) hne
theorem Fr.write {Γ : Ctx} {ρ : Pl} {I : Im} {os : Objs} {w w' : World} (h : Γ.Fr ρ I os w) (ht : Turn w w') {i j : Nat} {p : Nat × Nat} (hne : os.at i j ≠ .gone) (hp : ρ i j = some p) (hpos : 0 < p.2)
    (hw : ∀ b, b ≠ p.1 → w'.heap[b]? = w.heap[b]?) (o : O) : Γ.Fr ρ I (os.put i j o) w' := by
  refine ⟨ht.wos.trans h.wos, ht.tape.trans h.tape, ht.output.trans h.output, Nat.le_trans h.size ht.size, fun b hb hf => ?_, by rw [length_put]; exact h.len, h.same, h.imle, h.imnew, ?_⟩
  · rw [hw b (fun e => ?_)]
    · exact h.kept b hb hf
    · subst e
      rcases h.obnew _ ⟨i, j, p, hne, hp, hpos, rfl⟩ with h' | h'
      · exact hf h'
      · omega
  · rintro b ⟨a, c, q, hn, hq, hqp, rfl⟩
    refine h.obnew _ ⟨a, c, q, ?_, hq, hqp, rfl⟩
    by_cases hc : a = i ∧ c = j
    · obtain ⟨rfl, rfl⟩ := hc; exact hne
    · rwa [at_put_ne _ _ _ _ hc] at hn
theorem Fr.pass {Γ : Ctx} {ρ : Pl} {I : Im} {os : Objs} {w w' : World} (h : Γ.Fr ρ I os w) (ht : Turn w w') {i j : Nat} {p : Nat × Nat} (hne : os.at i j ≠ .gone) (hp : ρ i j = some p) (hpos : 0 < p.2)
    (hw : ∀ b, b ≠ p.1 → w'.heap[b]? = w.heap[b]?) (o : O) : Γ.Fr (ρ.new os.length p) I (os.put i j .gone ++ [one o]) w' := by
  have hi := lt_of_at hne
  refine ⟨ht.wos.trans h.wos, ht.tape.trans h.tape, ht.output.trans h.output, Nat.le_trans h.size ht.size, fun b hb hf => ?_, by have := h.len; simp [length_put]; omega, fun a c ha => ?_, h.imle, h.imnew, ?_⟩
  · rw [hw b (fun e => ?_)]
    · exact h.kept b hb hf
    · subst e
      rcases h.obnew _ ⟨i, j, p, hne, hp, hpos, rfl⟩ with h' | h'
      · exact hf h'
      · omega
  · rw [Pl.new_ne _ _ (fun e => by have := h.len; omega)]; exact h.same a c ha
  · rintro b ⟨a, c, q, hn, hq, hqp, rfl⟩
    by_cases hc : a = os.length ∧ c = 0
    · obtain ⟨rfl, rfl⟩ := hc
      rw [Pl.new_self] at hq; cases hq
      exact h.obnew _ ⟨i, j, p, hne, hp, hpos, rfl⟩
    · rw [Pl.new_ne _ _ hc] at hq
      refine h.obnew _ ⟨a, c, q, ?_, hq, hqp, rfl⟩
      rcases Nat.lt_or_ge a os.length with ha | ha
      · rw [at_lt _ _ _ (by rw [length_put]; exact ha)] at hn
        by_cases hc' : a = i ∧ c = j
        · obtain ⟨rfl, rfl⟩ := hc'; exact hne
        · rwa [at_put_ne _ _ _ _ hc'] at hn
      · rcases Nat.eq_or_lt_of_le ha with e | hlt
        · subst e
          have := at_new (os.put i j .gone) (one o) c
          rw [length_put] at this
          rw [this] at hn
          exact absurd (one_pos o (fun e => hc ⟨rfl, e⟩)) hn
        · exact absurd (at_ge _ c (by simp [length_put]; omega)) hn
end Go.Proofs.Ytaplihoeephbeaa.V
