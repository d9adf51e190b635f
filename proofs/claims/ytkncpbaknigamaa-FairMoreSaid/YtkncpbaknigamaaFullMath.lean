/- Plain laws on pieces of picks: what fair.Full's contract comes to, as the greedy cut, and that it is the best of all cuts. -/
import Derived.Test.YtkncpbaknigamaaGFull
import Derived.Test.YtkncpbaknigamaaFairMath
namespace Go.Proofs.Ytkncpbaknigamaa.FullMath
open Go.RowKit Go.Proofs.Ytkncpbaknigamaa.PFair Go.Proofs.YtkncpbaknigamaaW.PrintWords Go.Proofs.YtkncpbaknigamaaW.PrintLast Go.Proofs.Ytkncpbaknigamaa.FairMath Go.Proofs.Ytkncpbaknigamaa.GEach
set_option linter.unusedVariables false

/-- Each worker is among the picks from a to b. -/
def All (zs : List Int) (M a b : Nat) : Prop := ∀ w : Nat, w < M → ¬ Av zs w a b
theorem All.mono {zs : List Int} {M a b a' b' : Nat} (h : All zs M a b) (ha : a' ≤ a) (hb : b ≤ b') : All zs M a' b' := fun w hw hv => h w hw fun j h1 h2 => hv j (by omega) (by omega)
theorem not_all_empty {zs : List Int} {M a b : Nat} (hM : 1 ≤ M) (hb : b ≤ a) : ¬ All zs M a b := fun h => h 0 (by omega) fun j h1 h2 => by omega

open Classical in
/-- The greedy cut: how many pieces, and where the one under way begins. -/
noncomputable def gr (zs : List Int) (M : Nat) : Nat → Nat × Nat
  | 0 => (0, 0)
  | k + 1 => if All zs M (gr zs M k).2 (k + 1) then ((gr zs M k).1 + 1, k + 1) else gr zs M k

theorem gr_yes {zs : List Int} {M k g s : Nat} (h : gr zs M k = (g, s)) (ha : All zs M s (k + 1)) : gr zs M (k + 1) = (g + 1, k + 1) := by
  simp only [gr]
  rw [if_pos (by rw [h]; exact ha), h]
theorem gr_no {zs : List Int} {M k g s : Nat} (h : gr zs M k = (g, s)) (ha : ¬ All zs M s (k + 1)) : gr zs M (k + 1) = (g, s) := by
  simp only [gr]
  rw [if_neg (by rw [h]; exact ha), h]

theorem nodup_le {α : Type} [DecidableEq α] : ∀ (S T : List α), S.Nodup → (∀ x ∈ S, x ∈ T) → S.length ≤ T.length
  | [], T, _, _ => by simp
  | x :: S, T, hn, hs => by
    have h1 := nodup_le S (T.erase x) (List.nodup_cons.1 hn).2 (fun y hy => by
      have hne : y ≠ x := fun e => (List.nodup_cons.1 hn).1 (e ▸ hy)
      exact (List.mem_erase_of_ne hne).2 (hs y (by simp [hy])))
    have hm := hs x (by simp)
    have := List.length_erase_of_mem hm
    have hp : 0 < T.length := List.length_pos_of_mem hm
    simp; omega

theorem addI_mem (S : List Int) (x c : Int) : c ∈ addI S x ↔ c ∈ S ∨ c = x := by
  unfold addI
  split
  · rename_i h
    have hx : x ∈ S := by simpa using h
    constructor
    · intro h; exact .inl h
    · rintro (h | h)
      · exact h
      · exact h ▸ hx
  · simp
theorem addI_nodup (S : List Int) (x : Int) (h : S.Nodup) : (addI S x).Nodup := by
  unfold addI
  split
  · exact h
  · rename_i hx
    have hx' : x ∉ S := by simpa using hx
    rw [List.nodup_append]
    exact ⟨h, by simp, fun a ha b hb => by simp at hb; subst hb; exact fun e => hx' (e ▸ ha)⟩
theorem dedup_spec (ks : List Int) : (dedup ks).Nodup ∧ ∀ c, c ∈ dedup ks ↔ c ∈ ks := by
  have : ∀ (ks S : List Int), S.Nodup → (ks.foldl addI S).Nodup ∧ ∀ c, c ∈ ks.foldl addI S ↔ c ∈ S ∨ c ∈ ks := by
    intro ks
    induction ks with
    | nil => intro S h; exact ⟨h, fun c => by simp⟩
    | cons x ks ih =>
      intro S h
      obtain ⟨h1, h2⟩ := ih (addI S x) (addI_nodup S x h)
      refine ⟨h1, fun c => ?_⟩
      rw [List.foldl_cons, h2, addI_mem]
      simp [or_assoc]
  obtain ⟨h1, h2⟩ := this ks [] (by simp)
  exact ⟨h1, fun c => by rw [dedup, h2]; simp⟩
def ints (M : Nat) : List Int := (List.range M).map fun (i : Nat) => (i : Int)
theorem ints_mem (M : Nat) (c : Int) : c ∈ ints M ↔ 0 ≤ c ∧ c < M := by
  simp only [ints, List.mem_map, List.mem_range]
  constructor
  · rintro ⟨a, h, rfl⟩; omega
  · rintro ⟨h0, h1⟩; exact ⟨c.toNat, by omega, by omega⟩
theorem ints_nodup (M : Nat) : (ints M).Nodup := by
  unfold ints
  rw [List.Nodup, List.pairwise_map]
  have := List.nodup_range (n := M)
  exact this.imp (fun h e => h (by omega))
theorem ints_length (M : Nat) : (ints M).length = M := by simp [ints]
/-- A row of workers alone: as many different ones as there are workers just if each is there. -/
theorem dedup_full (ks : List Int) (M : Nat) (h : ∀ c ∈ ks, 0 ≤ c ∧ c < (M : Int)) : (dedup ks).length = M ↔ ∀ w : Nat, w < M → (w : Int) ∈ ks := by
  obtain ⟨h1, h2⟩ := dedup_spec ks
  have hle : (dedup ks).length ≤ M := by
    have := nodup_le (dedup ks) (ints M) h1 (fun x hx => (ints_mem M x).2 (h x ((h2 x).1 hx)))
    rwa [ints_length] at this
  constructor
  · intro he w hw
    refine Decidable.byContradiction fun hn => ?_
    have hsub : ∀ x ∈ dedup ks, x ∈ (ints M).erase (w : Int) := fun x hx => by
      have hx' := (h2 x).1 hx
      exact (List.mem_erase_of_ne (fun (e : x = (w : Int)) => hn (by rw [← e]; exact hx'))).2 ((ints_mem M x).2 (h x hx'))
    have := nodup_le _ _ h1 hsub
    rw [List.length_erase_of_mem ((ints_mem M w).2 (by omega)), ints_length] at this
    omega
  · intro hw
    have := nodup_le (ints M) (dedup ks) (ints_nodup M) (fun x hx => (h2 x).2 (by
      obtain ⟨a, b⟩ := (ints_mem M x).1 hx
      have := hw x.toNat (by omega)
      rwa [Int.toNat_of_nonneg a] at this))
    rw [ints_length] at this
    omega

/-- The contract's pieces are the greedy cut's. -/
theorem pieces_gr (zs : List Int) (M : Nat) (hM : 1 ≤ M) (k : Nat) : (pieces zs M (pl zs M k)).1 = (gr zs M k).1 ∧ (gr zs M k).2 ≤ k ∧ ¬ All zs M (gr zs M k).2 k ∧
    (∀ c, c ∈ (pieces zs M (pl zs M k)).2 ↔ (0 ≤ c ∧ c < (M : Int)) ∧ ∃ j, (gr zs M k).2 ≤ j ∧ j < k ∧ zs[j]?.getD 0 = c) := by
  induction k with
  | zero =>
    refine ⟨rfl, Nat.le_refl _, not_all_empty hM (Nat.zero_le _), fun c => ?_⟩
    simp [pieces, pl]
  | succ k ih =>
    obtain ⟨h1, h2, h3, h4⟩ := ih
    obtain ⟨⟨g, ks⟩, hp⟩ : ∃ p, pieces zs M (pl zs M k) = p := ⟨_, rfl⟩
    obtain ⟨⟨g', s⟩, hg⟩ : ∃ p, gr zs M k = p := ⟨_, rfl⟩
    rw [hp, hg] at h1
    rw [hg] at h2 h3
    rw [hp, hg] at h4
    simp only at h1 h2 h3 h4
    subst h1
    have hav : ∀ w : Nat, ¬ Av zs w s (k + 1) ↔ (¬ Av zs w s k ∨ zs[k]?.getD 0 = w) := by
      intro w
      constructor
      · intro h
        by_cases e : zs[k]?.getD 0 = w
        · exact .inr e
        · refine .inl fun ha => h fun j q1 q2 => ?_
          by_cases ej : j = k
          · subst ej; rwa [List.getD_eq_getElem?_getD]
          · exact ha j q1 (by omega)
      · rintro (h | h) ha
        · exact h fun j q1 q2 => ha j q1 (by omega)
        · exact ha k (by omega) (by omega) (by rwa [List.getD_eq_getElem?_getD])
    by_cases hr : 0 ≤ zs[k]?.getD 0 ∧ zs[k]?.getD 0 < (M : Int)
    · rw [pl_yes hr, pieces_snoc, hp]
      have hmem : ∀ c, c ∈ ks ++ [zs[k]?.getD 0] ↔ (0 ≤ c ∧ c < (M : Int)) ∧ ∃ j, s ≤ j ∧ j < k + 1 ∧ zs[j]?.getD 0 = c := by
        intro c
        rw [List.mem_append, h4]
        constructor
        · rintro (⟨q, j, j1, j2, j3⟩ | h)
          · exact ⟨q, j, j1, by omega, j3⟩
          · have : c = zs[k]?.getD 0 := by simpa using h
            subst this
            exact ⟨hr, k, h2, by omega, rfl⟩
        · rintro ⟨q, j, j1, j2, j3⟩
          by_cases e : j = k
          · subst e; right; simp [j3]
          · exact .inl ⟨q, j, j1, by omega, j3⟩
      have hfull : (dedup (ks ++ [zs[k]?.getD 0])).length = M ↔ All zs M s (k + 1) := by
        rw [dedup_full _ _ (fun c hc => ((hmem c).1 hc).1)]
        constructor
        · intro h w hw ha
          obtain ⟨_, j, j1, j2, j3⟩ := (hmem w).1 (h w hw)
          exact ha j j1 j2 (by rw [List.getD_eq_getElem?_getD]; exact j3)
        · intro h w hw
          refine (hmem w).2 ⟨by omega, ?_⟩
          refine Classical.byContradiction fun hn => h w hw fun j j1 j2 j3 => hn ⟨j, j1, j2, ?_⟩
          rwa [List.getD_eq_getElem?_getD] at j3
      have hgr : gr zs M (k + 1) = if (dedup (ks ++ [zs[k]?.getD 0])).length = M then (g + 1, k + 1) else (g, s) := by
        by_cases ha : All zs M s (k + 1)
        · rw [gr_yes hg ha, if_pos (hfull.2 ha)]
        · rw [gr_no hg ha, if_neg (fun h => ha (hfull.1 h))]
      unfold pieceStep
      simp only
      by_cases hc : (dedup (ks ++ [zs[k]?.getD 0])).length = M
      · rw [if_pos hc] at hgr
        rw [hgr, if_pos hc]
        refine ⟨rfl, Nat.le_refl _, not_all_empty hM (Nat.le_refl _), fun c => ?_⟩
        simp
        intro _ _ j j1 j2
        omega
      · rw [if_neg hc] at hgr
        rw [hgr, if_neg hc]
        exact ⟨rfl, by simp only; omega, fun h => hc (hfull.2 h), hmem⟩
    · rw [pl_no hr, hp]
      have hna : ¬ All zs M s (k + 1) := fun h => h3 fun w hw => by
        rcases (hav w).1 (h w hw) with q | q
        · exact q
        · exact absurd (by rw [q]; omega) hr
      have hgr : gr zs M (k + 1) = (g, s) := gr_no hg hna
      rw [hgr]
      refine ⟨rfl, by simp only; omega, hna, fun c => ?_⟩
      rw [h4]
      constructor
      · rintro ⟨q, j, j1, j2, j3⟩; exact ⟨q, j, j1, by omega, j3⟩
      · rintro ⟨q, j, j1, j2, j3⟩
        refine ⟨q, j, j1, ?_, j3⟩
        by_cases e : j = k
        · subst e; exact absurd (by rw [j3]; exact q) hr
        · omega

theorem full_tells (l : List Int) (workers : Int) (hl : l.length ≤ 10000) : fair_Full.f l workers = some ((gr l (Many workers) l.length).1 : Int) := by
  unfold fair_Full.f
  rw [if_pos hl, (pieces_gr l (Many workers) (many_range workers).1 l.length).1]

/-! ### the greedy cut is the best -/
theorem gr_le (zs : List Int) (M k : Nat) : (gr zs M k).1 ≤ k := by
  induction k with
  | zero => exact Nat.le_refl _
  | succ k ih => simp only [gr]; split <;> (try simp only) <;> omega
theorem gr_mono (zs : List Int) (M k : Nat) : (gr zs M k).1 ≤ (gr zs M (k + 1)).1 := by
  simp only [gr]; split <;> (try simp only) <;> omega
theorem gr_mono' (zs : List Int) (M : Nat) {i k : Nat} (h : i ≤ k) : (gr zs M i).1 ≤ (gr zs M k).1 := by
  induction k with
  | zero => obtain rfl : i = 0 := by omega
            exact Nat.le_refl _
  | succ k ih =>
    by_cases e : i = k + 1
    · subst e; exact Nat.le_refl _
    · exact Nat.le_trans (ih (by omega)) (gr_mono zs M k)
/-- At the place where the piece under way begins there are as many pieces; ahead of it fewer. -/
theorem gr_start (zs : List Int) (M k : Nat) : (gr zs M k).2 ≤ k ∧ (gr zs M (gr zs M k).2).1 = (gr zs M k).1 ∧ ∀ i, i < (gr zs M k).2 → (gr zs M i).1 + 1 ≤ (gr zs M k).1 := by
  induction k with
  | zero => exact ⟨Nat.le_refl _, rfl, fun i hi => by simp [gr] at hi⟩
  | succ k ih =>
    obtain ⟨h1, h2, h3⟩ := ih
    by_cases h : All zs M (gr zs M k).2 (k + 1)
    · have e : gr zs M (k + 1) = ((gr zs M k).1 + 1, k + 1) := by simp only [gr]; rw [if_pos h]
      rw [e]
      refine ⟨Nat.le_refl _, by simp only; rw [e], fun i hi => ?_⟩
      simp only at hi ⊢
      have := gr_mono' zs M (i := i) (k := k) (by omega)
      omega
    · have e : gr zs M (k + 1) = gr zs M k := by simp only [gr]; rw [if_neg h]
      rw [e]
      exact ⟨by omega, h2, h3⟩
theorem gr_step_best (zs : List Int) (M k i : Nat) (hi : i ≤ k) (ha : All zs M i (k + 1)) : (gr zs M i).1 + 1 ≤ (gr zs M (k + 1)).1 := by
  obtain ⟨h1, h2, h3⟩ := gr_start zs M k
  by_cases h : All zs M (gr zs M k).2 (k + 1)
  · have e : gr zs M (k + 1) = ((gr zs M k).1 + 1, k + 1) := by simp only [gr]; rw [if_pos h]
    rw [e]
    have := gr_mono' zs M hi
    simp only; omega
  · have e : gr zs M (k + 1) = gr zs M k := by simp only [gr]; rw [if_neg h]
    rw [e]
    by_cases hlt : i < (gr zs M k).2
    · exact h3 i hlt
    · exact absurd (ha.mono (by omega) (Nat.le_refl _)) h
/-- .. and it is one of them. -/
theorem gr_step_is (zs : List Int) (M k : Nat) : (gr zs M (k + 1)).1 = (gr zs M k).1 ∨ ∃ i, i ≤ k ∧ All zs M i (k + 1) ∧ (gr zs M (k + 1)).1 = (gr zs M i).1 + 1 := by
  obtain ⟨h1, h2, h3⟩ := gr_start zs M k
  by_cases h : All zs M (gr zs M k).2 (k + 1)
  · have e : gr zs M (k + 1) = ((gr zs M k).1 + 1, k + 1) := by simp only [gr]; rw [if_pos h]
    exact .inr ⟨_, h1, h, by rw [e, h2]⟩
  · left; simp only [gr]; rw [if_neg h]
/-- Where each L picks side by side have all, there are as many pieces as L fits into them. -/
theorem gr_least (zs : List Int) (M L k : Nat) (hL : 1 ≤ L) (h : ∀ i, i + L ≤ k → All zs M i (i + L)) : ∀ j, j ≤ k → (gr zs M j).2 ≤ (gr zs M j).1 * L ∧ j - (gr zs M j).2 < L := by
  intro j
  induction j with
  | zero => intro _; simp [gr]; omega
  | succ j ih =>
    intro hj
    obtain ⟨h1, h2⟩ := ih (by omega)
    have hs := (gr_start zs M j).1
    by_cases ha : All zs M (gr zs M j).2 (j + 1)
    · have e : gr zs M (j + 1) = ((gr zs M j).1 + 1, j + 1) := by simp only [gr]; rw [if_pos ha]
      rw [e]
      simp only
      rw [Nat.add_mul]
      omega
    · have e : gr zs M (j + 1) = gr zs M j := by simp only [gr]; rw [if_neg ha]
      rw [e]
      refine ⟨h1, ?_⟩
      refine Decidable.byContradiction fun hn => ha ?_
      have := h (gr zs M j).2 (by omega)
      exact this.mono (Nat.le_refl _) (by omega)
end Go.Proofs.Ytkncpbaknigamaa.FullMath
