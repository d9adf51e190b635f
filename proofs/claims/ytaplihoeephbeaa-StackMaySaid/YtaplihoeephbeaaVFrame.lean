/- VFrame: a text of a symbolic executor that is proved sound, and contracts that are proved with it. -/
import Derived.Test.YtaplihoeephbeaaVWeak
namespace Go.Proofs.Ytaplihoeephbeaa.V
open Go Go.RowKit
set_option linter.unusedVariables false

/-! ### A contract among other objects -/
mutual
def D.mapId (φ : Nat → Nat → Nat × Nat) : D → D
  | .ptr i j sz e off => .ptr (φ i j).1 (φ i j).2 sz e off
  | .sl i j sz lo len cap => .sl (φ i j).1 (φ i j).2 sz lo len cap
  | .mp i j => .mp (φ i j).1 (φ i j).2
  | .agg cs => .agg (D.mapIdL φ cs)
  | .tup cs => .tup (D.mapIdL φ cs)
  | .fn g x y => .fn g (D.mapIdL φ x) (D.mapIdL φ y)
  | d => d
def D.mapIdL (φ : Nat → Nat → Nat × Nat) : List D → List D
  | [] => []
  | d :: ds => d.mapId φ :: D.mapIdL φ ds
end
mutual
/-- All that d names are single objects with numbers below n. -/
def D.sgl (n : Nat) : D → Bool
  | .ptr i j .. | .sl i j .. | .mp i j => Nat.blt i n && Nat.beq j 0
  | .agg cs => D.sglL n cs
  | .tup cs => D.sglL n cs
  | .fn _ x y => D.sglL n x && D.sglL n y
  | _ => true
def D.sglL (n : Nat) : List D → Bool
  | [] => true
  | d :: ds => d.sgl n && D.sglL n ds
end
def O.mapId (φ : Nat → Nat → Nat × Nat) : O → O
  | .row t sz false es => .row t sz false (D.mapIdL φ es)
  | .map xs => .map (xs.map fun p => (p.1, p.2.mapId φ))
  | o => o
def O.sgl (n : Nat) : O → Bool
  | .row _ _ false es => D.sglL n es
  | .map xs => D.sglL n (xs.map (·.2))
  | _ => true
def Fam.mapId (φ : Nat → Nat → Nat × Nat) : Fam → Fam
  | .one o => .one (o.mapId φ)
  | .fam g => .fam (fun j => (g j).mapId φ)
  | .rows t sz C => .rows t sz C
theorem mapIdL_length (φ : Nat → Nat → Nat × Nat) : ∀ (ds : List D), (D.mapIdL φ ds).length = ds.length
  | [] => rfl
  | d :: ds => by simp [D.mapIdL, mapIdL_length φ ds]
theorem mapIdL_map (φ : Nat → Nat → Nat × Nat) : ∀ (xs : List (Int × D)), D.mapIdL φ (xs.map (·.2)) = xs.map (fun p => p.2.mapId φ)
  | [] => rfl
  | p :: xs => by simp only [List.map_cons, D.mapIdL, mapIdL_map φ xs]
theorem fam_mapId_at (φ : Nat → Nat → Nat × Nat) (F : Fam) (j : Nat) : (F.mapId φ).at j = (F.at j).mapId φ := by
  cases F with
  | one o => cases j <;> rfl
  | fam g => rfl
  | rows t s C => rfl
theorem O.mapId_gone {φ : Nat → Nat → Nat × Nat} {o : O} : o.mapId φ = .gone ↔ o = .gone := by
  cases o with
  | gone => simp [O.mapId]
  | row t sz p es => cases p <;> simp [O.mapId]
  | map es => simp [O.mapId]

section
variable {ρ ρ1 : Pl} {I : Im} {φ : Nat → Nat → Nat × Nat} {n : Nat}
mutual
theorem rep_down (h : ∀ k, k < n → ρ1 k 0 = ρ (φ k 0).1 (φ k 0).2) : ∀ (d : D) (v : Value), d.sgl n = true → rep ρ I (d.mapId φ) v → rep ρ1 I d v
  | .int _ _, _, _, hr | .bool _, _, _, hr | .str _, _, _, hr | .nilp, _, _, hr | .nils, _, _, hr | .nilf, _, _, hr | .junk, _, _, hr => by simp only [D.mapId] at hr; rw [rep] at hr ⊢; exact hr
  | .pel x off, _, _, hr => by simp only [D.mapId] at hr; rw [rep] at hr ⊢; exact hr
  | .lst s fl xs, _, _, hr => by simp only [D.mapId] at hr; rw [rep] at hr ⊢; exact hr
  | .ptr i j s e off, _, hs, hr => by
    simp only [D.mapId] at hr
    rw [rep] at hr ⊢
    simp only [D.sgl, Bool.and_eq_true] at hs
    have h1 := Nat.le_of_ble_eq_true hs.1
    have h2 := Nat.eq_of_beq_eq_true hs.2
    subst h2
    obtain ⟨p, hp, hr⟩ := hr
    exact ⟨p, (h i h1).trans hp, hr⟩
  | .sl i j s lo len cap, _, hs, hr => by
    simp only [D.mapId] at hr
    rw [rep] at hr ⊢
    simp only [D.sgl, Bool.and_eq_true] at hs
    have h1 := Nat.le_of_ble_eq_true hs.1
    have h2 := Nat.eq_of_beq_eq_true hs.2
    subst h2
    obtain ⟨p, A, c, hp, hr⟩ := hr
    exact ⟨p, A, c, (h i h1).trans hp, hr⟩
  | .mp i j, _, hs, hr => by
    simp only [D.mapId] at hr
    rw [rep] at hr ⊢
    simp only [D.sgl, Bool.and_eq_true] at hs
    have h1 := Nat.le_of_ble_eq_true hs.1
    have h2 := Nat.eq_of_beq_eq_true hs.2
    subst h2
    obtain ⟨p, hp, hr⟩ := hr
    exact ⟨p, (h i h1).trans hp, hr⟩
  | .agg cs, _, hs, hr => by simp only [D.mapId] at hr; rw [rep] at hr ⊢; obtain ⟨a, e, hr⟩ := hr; exact ⟨a, e, repL_down h cs _ (by simpa [D.sgl] using hs) hr⟩
  | .tup cs, _, hs, hr => by simp only [D.mapId] at hr; rw [rep] at hr ⊢; obtain ⟨a, e, hr⟩ := hr; exact ⟨a, e, repL_down h cs _ (by simpa [D.sgl] using hs) hr⟩
  | .fn g x y, _, hs, hr => by
    simp only [D.mapId] at hr; rw [rep] at hr ⊢; obtain ⟨a, b, e, h1, h2⟩ := hr
    have hs' : D.sglL n x = true ∧ D.sglL n y = true := by simpa [D.sgl] using hs
    exact ⟨a, b, e, repL_down h x _ hs'.1 h1, repL_down h y _ hs'.2 h2⟩
theorem repL_down (h : ∀ k, k < n → ρ1 k 0 = ρ (φ k 0).1 (φ k 0).2) : ∀ (ds : List D) (vs : List Value), D.sglL n ds = true → repL ρ I (D.mapIdL φ ds) vs → repL ρ1 I ds vs
  | [], _, _, hr => by simp only [D.mapIdL] at hr; rw [repL_nil] at hr ⊢; exact hr
  | d :: ds, _, hs, hr => by
    simp only [D.mapIdL] at hr
    obtain ⟨u, us', rfl, hu, hr⟩ := repL_cons.1 hr
    have hs' : d.sgl n = true ∧ D.sglL n ds = true := by simpa [D.sglL] using hs
    exact repL_cons.2 ⟨u, us', rfl, rep_down h d u hs'.1 hu, repL_down h ds us' hs'.2 hr⟩
end
mutual
theorem rep_up (h : ∀ k j p, ρ1 k j = some p → ρ (φ k j).1 (φ k j).2 = some p) : ∀ (d : D) (v : Value), rep ρ1 I d v → rep ρ I (d.mapId φ) v
  | .int _ _, _, hr | .bool _, _, hr | .str _, _, hr | .nilp, _, hr | .nils, _, hr | .nilf, _, hr | .junk, _, hr => by simp only [D.mapId]; rw [rep] at hr ⊢; exact hr
  | .pel x off, _, hr => by simp only [D.mapId]; rw [rep] at hr ⊢; exact hr
  | .lst s fl xs, _, hr => by simp only [D.mapId]; rw [rep] at hr ⊢; exact hr
  | .ptr i j s e off, _, hr => by simp only [D.mapId]; rw [rep] at hr ⊢; obtain ⟨p, hp, hr⟩ := hr; exact ⟨p, h _ _ _ hp, hr⟩
  | .sl i j s lo len cap, _, hr => by simp only [D.mapId]; rw [rep] at hr ⊢; obtain ⟨p, A, c, hp, hr⟩ := hr; exact ⟨p, A, c, h _ _ _ hp, hr⟩
  | .mp i j, _, hr => by simp only [D.mapId]; rw [rep] at hr ⊢; obtain ⟨p, hp, hr⟩ := hr; exact ⟨p, h _ _ _ hp, hr⟩
  | .agg cs, _, hr => by simp only [D.mapId]; rw [rep] at hr ⊢; obtain ⟨a, e, hr⟩ := hr; exact ⟨a, e, repL_up h cs _ hr⟩
  | .tup cs, _, hr => by simp only [D.mapId]; rw [rep] at hr ⊢; obtain ⟨a, e, hr⟩ := hr; exact ⟨a, e, repL_up h cs _ hr⟩
  | .fn g x y, _, hr => by simp only [D.mapId]; rw [rep] at hr ⊢; obtain ⟨a, b, e, h1, h2⟩ := hr; exact ⟨a, b, e, repL_up h x _ h1, repL_up h y _ h2⟩
theorem repL_up (h : ∀ k j p, ρ1 k j = some p → ρ (φ k j).1 (φ k j).2 = some p) : ∀ (ds : List D) (vs : List Value), repL ρ1 I ds vs → repL ρ I (D.mapIdL φ ds) vs
  | [], _, hr => by simp only [D.mapIdL]; rw [repL_nil] at hr ⊢; exact hr
  | d :: ds, _, hr => by
    obtain ⟨u, us', rfl, hu, hr⟩ := repL_cons.1 hr
    simp only [D.mapIdL]
    exact repL_cons.2 ⟨u, us', rfl, rep_up h d u hu, repL_up h ds us' hr⟩
end
theorem obj_down (h : ∀ k, k < n → ρ1 k 0 = ρ (φ k 0).1 (φ k 0).2) {w : World} {p : Nat × Nat} {o : O} (hs : o.sgl n = true) (ho : objOk ρ I w p (o.mapId φ)) : objOk ρ1 I w p o := by
  cases o with
  | gone => trivial
  | row t sz pr es =>
    cases pr with
    | false =>
      obtain ⟨h1, h2, h3⟩ := ho
      refine ⟨by rw [mapIdL_length] at h1; exact h1, h2, fun hp => ?_⟩
      obtain ⟨arr, us, g1, g2, g3, g4, g5⟩ := h3 hp
      exact ⟨arr, us, g1, g2, repL_down h _ _ hs g3, g4, g5⟩
    | true => exact ho
  | map es =>
    obtain ⟨hp, ents, clk, g1, us, g2, g3⟩ := ho
    rw [List.map_map] at g2
    refine ⟨hp, ents, clk, g1, us, repL_down h _ _ hs (by rw [mapIdL_map]; exact g2), ?_⟩
    rw [g3]
    have : ∀ (es' : List (Int × D)) (us : List Value), ((es'.map fun p => (p.1, p.2.mapId φ)).zip us).map (fun x => (Value.int .i64 x.1.1, x.2)) = (es'.zip us).map (fun x => (Value.int .i64 x.1.1, x.2)) := by
      intro es'
      induction es' with
      | nil => intro us; simp
      | cons e es' ih => intro us; cases us with
        | nil => simp
        | cons u us => simp [ih us]
    exact this es us
theorem obj_up (h : ∀ k j p, ρ1 k j = some p → ρ (φ k j).1 (φ k j).2 = some p) {w : World} {p : Nat × Nat} {o : O} (ho : objOk ρ1 I w p o) : objOk ρ I w p (o.mapId φ) := by
  cases o with
  | gone => trivial
  | row t sz pr es =>
    cases pr with
    | false =>
      obtain ⟨h1, h2, h3⟩ := ho
      refine ⟨by rw [mapIdL_length]; exact h1, h2, fun hp => ?_⟩
      obtain ⟨arr, us, g1, g2, g3, g4, g5⟩ := h3 hp
      exact ⟨arr, us, g1, g2, repL_up h _ _ g3, g4, g5⟩
    | true => exact ho
  | map es =>
    obtain ⟨hp, ents, clk, g1, us, g2, g3⟩ := ho
    refine ⟨hp, ents, clk, g1, us, ?_, ?_⟩
    · rw [List.map_map]
      have := repL_up h _ _ g2
      rw [mapIdL_map] at this
      exact this
    · rw [g3]
      have : ∀ (es' : List (Int × D)) (us : List Value), (es'.zip us).map (fun x => (Value.int .i64 x.1.1, x.2)) = ((es'.map fun p => (p.1, p.2.mapId φ)).zip us).map (fun x => (Value.int .i64 x.1.1, x.2)) := by
        intro es'
        induction es' with
        | nil => intro us; simp
        | cons e es' ih => intro us; cases us with
          | nil => simp
          | cons u us => simp [ih us]
      exact this es us
end

/-- Where the callee's names lead: σ for those that it was given; new ones behind the n that are there. -/
def lead (σ : List (Nat × Nat)) (n : Nat) (k j : Nat) : Nat × Nat :=
  match σ[k]? with
  | some p => p
  | none => (n + (k - σ.length), j)
def putAll (φ : Nat → Nat → Nat × Nat) (os1 : Objs) : List (Nat × Nat) → Nat → Objs → Objs
  | [], _, os => os
  | p :: σ, k, os => putAll φ os1 σ (k + 1) (os.put p.1 p.2 ((os1.at k 0).mapId φ))
/-- The objects behind the call. -/
def merge (σ : List (Nat × Nat)) (os os1 : Objs) : Objs := putAll (lead σ os.length) os1 σ 0 os ++ (os1.drop σ.length).map (Fam.mapId (lead σ os.length))
theorem putAll_length (φ : Nat → Nat → Nat × Nat) (os1 : Objs) : ∀ (σ : List (Nat × Nat)) (k : Nat) (os : Objs), (putAll φ os1 σ k os).length = os.length
  | [], _, _ => rfl
  | p :: σ, k, os => by rw [putAll, putAll_length φ os1 σ, length_put]
theorem putAll_at_out (φ : Nat → Nat → Nat × Nat) (os1 : Objs) : ∀ (σ : List (Nat × Nat)) (k : Nat) (os : Objs) {i j : Nat}, (i, j) ∉ σ → (putAll φ os1 σ k os).at i j = os.at i j
  | [], _, _, _, _, _ => rfl
  | p :: σ, k, os, i, j, h => by
    rw [putAll, putAll_at_out φ os1 σ _ _ (fun hm => h (by simp [hm]))]
    exact at_put_ne _ _ _ _ (fun e => h (by simp [e.1, e.2]))
theorem putAll_at_in (φ : Nat → Nat → Nat × Nat) (os1 : Objs) : ∀ (σ : List (Nat × Nat)) (k : Nat) (os : Objs) {m : Nat} {p : Nat × Nat}, σ.Nodup → σ[m]? = some p → p.1 < os.length → (putAll φ os1 σ k os).at p.1 p.2 = (os1.at (k + m) 0).mapId φ
  | [], _, _, _, _, _, h, _ => by simp at h
  | q :: σ, k, os, m, p, hn, h, hl => by
    rw [List.nodup_cons] at hn
    cases m with
    | zero =>
      simp at h; subst h
      rw [putAll, putAll_at_out φ os1 σ _ _ hn.1]
      exact at_put_self _ _ _ hl
    | succ m =>
      rw [putAll, putAll_at_in φ os1 σ (k + 1) _ hn.2 (by simpa using h) (by rw [length_put]; exact hl)]
      congr 2; omega

theorem Spec.frame {P : Program} {f : FuncId} {args : List D} {os1 : Objs} {post : D → Objs → Prop} (h : Spec P f args os1 post) (os : Objs) (σ : List (Nat × Nat)) (hlen : σ.length = os1.length) (hnd : σ.Nodup)
    (hin : ∀ (k : Nat) (p : Nat × Nat), σ[k]? = some p → p.1 < os.length ∧ os.at p.1 p.2 = (os1.at k 0).mapId (lead σ os.length) ∧ (os1.at k 0).sgl σ.length = true ∧ ∀ j, j ≠ 0 → os1.at k j = .gone)
    (hargs : D.sglL σ.length args = true) :
    Spec P f (D.mapIdL (lead σ os.length) args) os (fun d os' => ∃ d1 os1', post d1 os1' ∧ d = d1.mapId (lead σ os.length) ∧ os' = merge σ os os1') := by
  refine ⟨h.1, fun ρ I w vs sat hr => ?_⟩
  obtain ⟨φ, hφ⟩ : ∃ φ, φ = lead σ os.length := ⟨_, rfl⟩
  rw [← hφ] at hr hin ⊢
  have hφin : ∀ (k : Nat) (p : Nat × Nat), σ[k]? = some p → ∀ j, φ k j = p := fun k p hk j => by rw [hφ]; simp [lead, hk]
  have hφout : ∀ k j, σ.length ≤ k → φ k j = (os.length + (k - σ.length), j) := fun k j hk => by
    rw [hφ]; unfold lead; rw [List.getElem?_eq_none hk]
  obtain ⟨ρ1, hρ1⟩ : ∃ ρ1 : Pl, ρ1 = fun k j => if k < σ.length ∧ j = 0 then ρ (φ k 0).1 (φ k 0).2 else none := ⟨_, rfl⟩
  have e1 : ∀ k, k < σ.length → ρ1 k 0 = ρ (φ k 0).1 (φ k 0).2 := fun k hk => by rw [hρ1]; simp [hk]
  have e0 : ∀ k j, ¬ (k < σ.length ∧ j = 0) → ρ1 k j = none := fun k j hk => by rw [hρ1]; simp only [if_neg hk]
  have get : ∀ k, k < σ.length → ∃ p, σ[k]? = some p ∧ φ k 0 = p := fun k hk => ⟨σ[k], List.getElem?_eq_getElem hk, hφin k _ (List.getElem?_eq_getElem hk) 0⟩
  have alive : ∀ k j, os1.at k j ≠ .gone → k < σ.length ∧ j = 0 ∧ os.at (φ k 0).1 (φ k 0).2 = (os1.at k 0).mapId φ ∧ (os1.at k 0).sgl σ.length = true ∧ os.at (φ k 0).1 (φ k 0).2 ≠ .gone := by
    intro k j hne
    have hk : k < σ.length := by rw [hlen]; exact lt_of_at hne
    obtain ⟨p, hp, hpe⟩ := get k hk
    obtain ⟨h1, h2, h3, h4⟩ := hin k p hp
    have hj : j = 0 := Classical.byContradiction fun hj => hne (h4 j hj)
    subst hj
    rw [hpe]
    exact ⟨hk, rfl, h2, h3, by rw [h2]; exact fun e => hne (O.mapId_gone.1 e)⟩
  have sat1 : Sat ρ1 I os1 w := by
    refine ⟨sat.im, fun k j hne => ?_, fun k j k' j' p p' hne hne' hp hp' hpos hpos' he => ?_, ?_, fun k j hk => e0 k j (by omega)⟩
    · obtain ⟨hk, rfl, h2, h3, h4⟩ := alive k j hne
      obtain ⟨p, hp, hok⟩ := sat.ok _ _ h4
      refine ⟨p, by rw [e1 k hk]; exact hp, ?_⟩
      rw [h2] at hok
      exact obj_down e1 h3 hok
    · obtain ⟨hk, rfl, h2, h3, h4⟩ := alive k j hne
      obtain ⟨hk', rfl, h2', h3', h4'⟩ := alive k' j' hne'
      rw [e1 k hk] at hp
      rw [e1 k' hk'] at hp'
      have := sat.inj _ _ _ _ p p' h4 h4' hp hp' hpos hpos' he
      obtain ⟨q, hq, hqe⟩ := get k hk
      obtain ⟨q', hq', hqe'⟩ := get k' hk'
      rw [hqe, hqe'] at this
      have hqq : q = q' := Prod.ext this.1 this.2
      subst hqq
      exact ⟨(List.getElem?_inj hk hnd).1 (hq.trans hq'.symm), rfl⟩
    · rintro b ⟨k, j, p, hne, hp, hpos, rfl⟩
      obtain ⟨hk, rfl, h2, h3, h4⟩ := alive k j hne
      rw [e1 k hk] at hp
      exact sat.apart _ ⟨_, _, p, h4, hp, hpos, rfl⟩
  have hfoot1 : ∀ b, foot ρ1 os1 b → foot ρ os b := by
    rintro b ⟨k, j, p, hne, hp, hpos, rfl⟩
    obtain ⟨hk, rfl, h2, h3, h4⟩ := alive k j hne
    rw [e1 k hk] at hp
    exact ⟨_, _, p, h4, hp, hpos, rfl⟩
  have hr1 : repL ρ1 I args vs := repL_down e1 args vs hargs hr
  refine (h.2 ρ1 I w vs sat1 hr1).mono ?_
  rintro e w' ⟨v, d1, os1', ρ1', I', rfl, hp, sat1', fr1, hrv⟩
  -- the places behind the call
  obtain ⟨ρ', hρ'⟩ : ∃ ρ' : Pl, ρ' = fun i j => if i < os.length then ρ i j else ρ1' (σ.length + (i - os.length)) j := ⟨_, rfl⟩
  have f1 : ∀ i j, i < os.length → ρ' i j = ρ i j := fun i j hi => by rw [hρ']; simp [hi]
  have f2 : ∀ i j, os.length ≤ i → ρ' i j = ρ1' (σ.length + (i - os.length)) j := fun i j hi => by rw [hρ']; simp [Nat.not_lt.2 hi]
  have up : ∀ k j p, ρ1' k j = some p → ρ' (φ k j).1 (φ k j).2 = some p := by
    intro k j p hkp
    rcases Nat.lt_or_ge k σ.length with hk | hk
    · rw [fr1.same k j (by omega)] at hkp
      by_cases hj : j = 0
      · subst hj
        obtain ⟨q, hq, hqe⟩ := get k hk
        rw [hqe, f1 _ _ (hin k q hq).1, ← hqe, ← e1 k hk]; exact hkp
      · rw [e0 k j (fun e => hj e.2)] at hkp; simp at hkp
    · rw [hφout k j hk, f2 _ _ (by simp)]
      rw [show σ.length + (os.length + (k - σ.length) - os.length) = k by omega]; exact hkp
  have hρle : ρ.le ρ' := by
    intro i j p hp
    rcases Nat.lt_or_ge i os.length with hi | hi
    · rw [f1 i j hi]; exact hp
    · rw [sat.dom i j hi] at hp; simp at hp
  have hmlen : (merge σ os os1').length = os.length + (os1'.length - σ.length) := by
    unfold merge; rw [List.length_append, putAll_length]; simp
  have at_old : ∀ i j, i < os.length → (i, j) ∉ σ → (merge σ os os1').at i j = os.at i j := by
    intro i j hi hn
    unfold merge
    rw [at_lt _ _ _ (by rw [putAll_length]; exact hi)]
    exact putAll_at_out _ _ _ _ _ hn
  have at_given : ∀ k (hk : k < σ.length), (merge σ os os1').at (φ k 0).1 (φ k 0).2 = (os1'.at k 0).mapId φ := by
    intro k hk
    obtain ⟨q, hq, hqe⟩ := get k hk
    rw [hqe]
    unfold merge
    rw [at_lt _ _ _ (by rw [putAll_length]; exact (hin k q hq).1)]
    have := putAll_at_in (lead σ os.length) os1' σ 0 os hnd hq (hin k q hq).1
    rw [Nat.zero_add] at this
    rw [this, hφ]
  have at_new' : ∀ i j, os.length ≤ i → (merge σ os os1').at i j = (os1'.at (σ.length + (i - os.length)) j).mapId φ := by
    intro i j hi
    unfold merge Objs.at
    simp only [List.getD_eq_getElem?_getD]
    rw [List.getElem?_append_right (by rw [putAll_length]; exact hi), putAll_length, List.getElem?_map, List.getElem?_drop]
    cases hx : os1'[σ.length + (i - os.length)]? with
    | none => rfl
    | some F => simp only [Option.map_some, Option.getD_some]; rw [← hφ]; exact fam_mapId_at φ F j
  -- of what make a live object is
  have kinds : ∀ i j, (merge σ os os1').at i j ≠ .gone → (i < os.length ∧ (i, j) ∉ σ ∧ os.at i j ≠ .gone ∧ (merge σ os os1').at i j = os.at i j ∧ ρ' i j = ρ i j) ∨
      (∃ k j1, os1'.at k j1 ≠ .gone ∧ φ k j1 = (i, j) ∧ (merge σ os os1').at i j = (os1'.at k j1).mapId φ ∧ ρ' i j = ρ1' k j1) := by
    intro i j hne
    rcases Nat.lt_or_ge i os.length with hi | hi
    · by_cases hm : (i, j) ∈ σ
      · right
        obtain ⟨k, hk, hke⟩ := List.mem_iff_getElem.1 hm
        have hφk : φ k 0 = (i, j) := by rw [hφin k _ (List.getElem?_eq_getElem hk) 0, hke]
        have hg := at_given k hk
        rw [hφk] at hg
        refine ⟨k, 0, fun e => hne (by rw [hg, e]; rfl), hφk, hg, ?_⟩
        rw [f1 i j hi, fr1.same k 0 (by omega), e1 k hk, hφk]
      · left
        have := at_old i j hi hm
        exact ⟨hi, hm, by rw [← this]; exact hne, this, f1 i j hi⟩
    · right
      have := at_new' i j hi
      refine ⟨σ.length + (i - os.length), j, fun e => hne (by rw [this, e]; rfl), ?_, this, f2 i j hi⟩
      rw [hφout _ _ (by omega)]
      congr 1; omega
  have hφinj : ∀ k j k' j', os1'.at k j ≠ .gone → os1'.at k' j' ≠ .gone → (k = k' ∧ j = j') → φ k j = φ k' j' := fun k j k' j' _ _ ⟨h1, h2⟩ => by rw [h1, h2]
  have lt1 : ∀ b, foot ρ1' os1' b → foot ρ1 os1 b ∨ w.heap.size ≤ b := fr1.obnew
  have sat' : Sat ρ' I' (merge σ os os1') w' := by
    refine ⟨sat1'.im, fun i j hne => ?_, fun i j i' j' p p' hne hne' hp hp' hpos hpos' he => ?_, ?_, fun i j hi => ?_⟩
    · rcases kinds i j hne with ⟨hi, hm, hn, hate, hρe⟩ | ⟨k, j1, hn, hφk, hate, hρe⟩
      · obtain ⟨p, hp, hok⟩ := sat.ok i j hn
        refine ⟨p, by rw [hρe]; exact hp, ?_⟩
        rw [hate]
        refine objOk_mono hρle fr1.imle (fun hpos => ?_) hok
        refine fr1.kept p.1 (objOk_lt hn hpos hok) (fun hf => ?_)
        obtain ⟨k, j1, q, hn1, hq, hqpos, hqe⟩ := hf
        obtain ⟨hk, rfl, h2, h3, h4⟩ := alive k j1 hn1
        rw [e1 k hk] at hq
        have := sat.inj _ _ _ _ q p h4 hn hq hp hqpos hpos hqe
        obtain ⟨q', hq', hqe'⟩ := get k hk
        rw [hqe'] at this
        exact hm (by have : q' = (i, j) := Prod.ext this.1 this.2; rw [← this]; exact List.mem_of_getElem? hq')
      · obtain ⟨p, hp, hok⟩ := sat1'.ok k j1 hn
        refine ⟨p, by rw [hρe]; exact hp, ?_⟩
        rw [hate]
        exact obj_up up hok
    · have cross : ∀ a b k c q q', a < os.length → (a, b) ∉ σ → os.at a b ≠ .gone → ρ a b = some q → 0 < q.2 → os1'.at k c ≠ .gone → ρ1' k c = some q' → 0 < q'.2 → q.1 = q'.1 → False := by
        intro a b k c q q' ha hab hn hq hqpos hn1 hq' hqpos' hee
        have hfa : foot ρ os q.1 := ⟨a, b, q, hn, hq, hqpos, rfl⟩
        rcases lt1 q'.1 ⟨k, c, q', hn1, hq', hqpos', rfl⟩ with hf | hf
        · obtain ⟨k2, c2, q2, hn2, hq2, hqpos2, hqe2⟩ := hf
          obtain ⟨hk, rfl, h2, h3, h4⟩ := alive k2 c2 hn2
          rw [e1 k2 hk] at hq2
          have := sat.inj _ _ _ _ q2 q h4 hn hq2 hq hqpos2 hqpos (hqe2.trans hee.symm)
          obtain ⟨q3, hq3, hqe3⟩ := get k2 hk
          rw [hqe3] at this
          exact hab (by have : q3 = (a, b) := Prod.ext this.1 this.2; rw [← this]; exact List.mem_of_getElem? hq3)
        · have := sat.foot_lt hfa
          omega
      rcases kinds i j hne with ⟨hi, hm, hn, hate, hρe⟩ | ⟨k, j1, hn, hφk, hate, hρe⟩ <;> rcases kinds i' j' hne' with ⟨hi', hm', hn', hate', hρe'⟩ | ⟨k', j1', hn', hφk', hate', hρe'⟩
      · rw [hρe] at hp; rw [hρe'] at hp'
        exact sat.inj i j i' j' p p' hn hn' hp hp' hpos hpos' he
      · rw [hρe] at hp; rw [hρe'] at hp'
        exact (cross i j k' j1' p p' hi hm hn hp hpos hn' hp' hpos' he).elim
      · rw [hρe] at hp; rw [hρe'] at hp'
        exact (cross i' j' k j1 p' p hi' hm' hn' hp' hpos' hn hp hpos he.symm).elim
      · rw [hρe] at hp; rw [hρe'] at hp'
        have := hφinj k j1 k' j1' hn hn' (sat1'.inj k j1 k' j1' p p' hn hn' hp hp' hpos hpos' he)
        rw [hφk, hφk'] at this
        exact ⟨congrArg Prod.fst this, congrArg Prod.snd this⟩
    · rintro b ⟨i, j, p, hne, hp, hpos, rfl⟩
      rcases kinds i j hne with ⟨hi, hm, hn, hate, hρe⟩ | ⟨k, j1, hn, hφk, hate, hρe⟩
      · rw [hρe] at hp
        have hfa : foot ρ os p.1 := ⟨i, j, p, hn, hp, hpos, rfl⟩
        cases hb : I' p.1 with
        | none => rfl
        | some o =>
          exfalso
          rcases fr1.imnew p.1 (by rw [hb]; simp) with h' | h' | h'
          · exact h' (sat.apart _ hfa)
          · obtain ⟨k2, c2, q2, hn2, hq2, hqpos2, hqe2⟩ := h'
            obtain ⟨hk, rfl, h2, h3, h4⟩ := alive k2 c2 hn2
            rw [e1 k2 hk] at hq2
            have := sat.inj _ _ _ _ q2 p h4 hn hq2 hp hqpos2 hpos hqe2
            obtain ⟨q3, hq3, hqe3⟩ := get k2 hk
            rw [hqe3] at this
            exact hm (by have : q3 = (i, j) := Prod.ext this.1 this.2; rw [← this]; exact List.mem_of_getElem? hq3)
          · have := sat.foot_lt hfa
            omega
      · rw [hρe] at hp
        exact sat1'.apart _ ⟨k, j1, p, hn, hp, hpos, rfl⟩
    · rw [hmlen] at hi
      have hl1 := fr1.len
      rw [f2 i j (by omega)]
      exact sat1'.dom _ _ (by omega)
  refine ⟨v, d1.mapId φ, merge σ os os1', ρ', I', rfl, ⟨d1, os1', hp, rfl, rfl⟩, sat', ⟨fr1.wos, fr1.tape, fr1.output, fr1.size, fun b hb hf => fr1.kept b hb (fun h' => hf (hfoot1 b h')), by rw [hmlen]; omega, f1, fr1.imle, fun b hb => ?_, fun b hb => ?_⟩, rep_up up d1 v hrv⟩
  · rcases fr1.imnew b hb with h' | h' | h'
    · exact .inl h'
    · exact .inr (.inl (hfoot1 b h'))
    · exact .inr (.inr h')
  · obtain ⟨i, j, p, hne, hp, hpos, rfl⟩ := hb
    rcases kinds i j hne with ⟨hi, hm, hn, hate, hρe⟩ | ⟨k, j1, hn, hφk, hate, hρe⟩
    · rw [hρe] at hp
      exact .inl ⟨i, j, p, hn, hp, hpos, rfl⟩
    · rw [hρe] at hp
      rcases lt1 p.1 ⟨k, j1, p, hn, hp, hpos, rfl⟩ with h' | h'
      · exact .inl (hfoot1 _ h')
      · exact .inr h'
end Go.Proofs.Ytaplihoeephbeaa.V
