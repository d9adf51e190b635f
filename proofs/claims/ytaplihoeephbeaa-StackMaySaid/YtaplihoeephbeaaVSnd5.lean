/- VSnd5: a text of a symbolic executor that is proved sound, and contracts that are proved with it. -/
import Derived.Test.YtaplihoeephbeaaVSnd4
namespace Go.Proofs.Ytaplihoeephbeaa.V
open Go Go.RowKit
set_option linter.unusedVariables false

section ops
variable {P : Program} {τ : Tau} {Γ : Ctx} {ρ : Pl} {I : Im} {os : Objs} {w : World} {get : Nat → D} {a : Act} {K : D → Objs → Prop}

theorem rep_int {k : IntKind} {n : Int} {v : Value} (h : rep ρ I (.int k n) v) : v = .int k n := by rw [rep] at h; exact h

/-- The bounds of a cut that are within the length. -/
theorem run_bounds (b : Bool) (len cap : Nat) (kl kh : IntKind) (l h : Int) (h0 : 0 ≤ l) (h1 : l ≤ h) (h2 : h ≤ (cap : Int)) (lo hi : Option Value)
    (hlo : lo = some (.int kl l) ∨ (lo = none ∧ l = 0)) (hhi : hi = some (.int kh h) ∨ (hi = none ∧ h = (len : Int))) :
    (Instr.sliceBounds b len cap lo hi none).run P w = .ok (l.toNat, h.toNat, cap) w := by
  have e1 : max h 0 = h := by omega
  have e3 : 0 ≤ h := by omega
  rcases hlo with rfl | ⟨rfl, rfl⟩ <;> rcases hhi with rfl | ⟨rfl, rfl⟩ <;> simp [Instr.sliceBounds, Instr.sliceBound, asIntOf, h0, h1, h2, e1, e3]
theorem run_bounds3 (b : Bool) (len cap : Nat) (kl kh km : IntKind) (l h m : Int) (h0 : 0 ≤ l) (h1 : l ≤ h) (h2 : h ≤ m) (h3 : m ≤ (cap : Int)) (lo : Option Value)
    (hlo : lo = some (.int kl l) ∨ (lo = none ∧ l = 0)) :
    (Instr.sliceBounds b len cap lo (some (.int kh h)) (some (.int km m))).run P w = .ok (l.toNat, h.toNat, m.toNat) w := by
  have e1 : max h 0 = h := by omega
  have e2 : max m 0 = m := by omega
  have e3 : 0 ≤ h := by omega
  have e4 : 0 ≤ m := by omega
  rcases hlo with rfl | ⟨rfl, rfl⟩ <;> simp [Instr.sliceBounds, Instr.sliceBound, asIntOf, h0, h1, h2, h3, e1, e2, e3, e4]

theorem cut_rows {sz : Nat} {es : List D} {us : List Value} (l h : Nat) (hr : repL ρ I es us) (hf : ∀ u ∈ us, Value.fine u sz) : repL ρ I ((es.take h).drop l) ((us.take h).drop l) ∧ ∀ u ∈ (us.take h).drop l, Value.fine u sz :=
  ⟨repL_drop l (repL_take h hr), fun u hu => hf u (List.mem_of_mem_take (List.mem_of_mem_drop hu))⟩
theorem cut_flat {sz : Nat} {us : List Value} {cs : List Value} {o : Nat} (l h : Nat) (hf : ∀ u ∈ us, Value.fine u sz) (hl : l ≤ (us.take h).length) (hfl : flat us <+: cs.drop o) : flat ((us.take h).drop l) <+: cs.drop (o + l * sz) := by
  have hf' : ∀ u ∈ us.take h, u.cells.size = sz := fun u hu => (hf u (List.mem_of_mem_take hu)).1
  rw [← flat_drop l hf' hl]
  refine prefix_of_drop ((flat_take_prefix h us).trans hfl) ?_
  rw [flat_length hf']
  exact Nat.mul_le_mul_right _ hl

theorem snd_slice (hτ : TauOk P τ) (sat : Sat ρ I os w) (fr : Γ.Fr ρ I os w) {t : TypeId} {x : D} {v : Value} (hv : rep ρ I x v) {lo hi mx : Option D} {vlo vhi vmx : Option Value}
    (hlo : lo = none ∧ vlo = none ∨ ∃ d u, lo = some d ∧ vlo = some u ∧ rep ρ I d u)
    (hhi : hi = none ∧ vhi = none ∨ ∃ d u, hi = some d ∧ vhi = some u ∧ rep ρ I d u)
    (hmx : mx = none ∧ vmx = none ∨ ∃ d u, mx = some d ∧ vmx = some u ∧ rep ρ I d u)
    (h : vcSlice τ t x (lo.getD (.int .i64 0)) hi mx (fun d => K d os)) :
    ∃ v', (Instr.sliceAt t v vlo vhi vmx).run P w = .ok v' w ∧ Goes Γ ρ I K v' w := by
  unfold vcSlice at h
  split at h
  case h_2 => exact h.elim
  rename_i e s1 s2 s3 ht
  obtain ⟨i0, d0, hty⟩ := hτ t _ ht
  have hund : P.underlying t = some (.slice e) := by have := hty.und; have hk := hty.kind; simp only [kindOk] at hk; rw [hk] at this; exact this
  split at h
  case h_2 => exact h.elim
  rename_i te hte
  obtain ⟨i1, d1, htye⟩ := hτ e _ hte
  have start : ∀ (k : IntKind) (l : Int), lo.getD (.int .i64 0) = .int k l → vlo = some (.int k l) ∨ (vlo = none ∧ l = 0) := by
    intro k l he
    rcases hlo with ⟨rfl, rfl⟩ | ⟨d, u, rfl, rfl, hd⟩
    · simp at he; exact .inr ⟨rfl, he.2.symm⟩
    · simp at he; subst he; rw [rep_int hd]; exact .inl rfl
  have stop : ∀ (n : Nat) (k : IntKind) (l : Int), hi.getD (.int .i64 (n : Int)) = .int k l → vhi = some (.int k l) ∨ (vhi = none ∧ l = (n : Int)) := by
    intro n k l he
    rcases hhi with ⟨rfl, rfl⟩ | ⟨d, u, rfl, rfl, hd⟩
    · simp at he; exact .inr ⟨rfl, he.2.symm⟩
    · simp at he; subst he; rw [rep_int hd]; exact .inl rfl
  have hrun : ∀ (A : Option Addr) (len c l hh m : Nat), (Instr.sliceBounds true len c vlo vhi vmx).run P w = .ok (l, hh, m) w →
      (Instr.sliceAt t (.slice A len c) vlo vhi vmx).run P w = .ok (.slice (if m = l then A else A.map (·.add (l * te.size))) (hh - l) (m - l)) w := by
    intro A len c l hh m hb
    simp [Instr.sliceAt, run_underlying hund, Instr.slice, hb, sizeOf, typeInfo, htye.info, htye.size]
  simp only [Nm.iff] at h
  split at h
  · -- a slice that is only read
    rename_i sz full es kl l hlx
    have hl' := start kl l hlx
    rw [rep] at hv
    obtain ⟨A, c, us, rfl, h1, hm, h2, hr, hf, hA⟩ := hv
    have hul : us.length = es.length := repL_length hr
    split at h
    · rename_i kh hh hhx
      split at h
      case isFalse => exact h.elim
      rename_i hsz; subst hsz
      obtain ⟨⟨g0, g1⟩, g2, h⟩ := h
      rcases hmx with ⟨_, rfl⟩ | ⟨d, u, e', _, _⟩
      case inr => simp at e'
      refine ⟨_, hrun A _ c _ _ _ (run_bounds true es.length c kl kh l hh g0 g1 (by omega) vlo vhi hl' (stop _ _ _ hhx)), Goes.same sat fr ?_ h⟩
      obtain ⟨k1, k2⟩ := cut_rows (sz := te.size) l.toNat hh.toNat hr hf
      rw [rep]
      have hlen : ((es.take hh.toNat).drop l.toNat).length = hh.toNat - l.toNat := by simp; omega
      refine ⟨_, c - l.toNat, _, by rw [hlen], by rw [hlen]; omega, by omega, ?_, k1, k2, ?_⟩
      · intro hfull
        simp only [Bool.and_eq_true, decide_eq_true_eq] at hfull
        rw [hlen, h2 hfull.1]; omega
      · rcases hA with rfl | ⟨b, o, arr, t', fz, rfl, hI, hfl⟩
        · left; simp
        · by_cases hemp : (es.take hh.toNat).drop l.toNat = []
          · exact .inl hemp
          · right
            have hlt : l.toNat < hh.toNat := by
              rcases Nat.lt_or_ge l.toNat hh.toNat with h' | h'
              · exact h'
              · exact absurd (List.eq_nil_of_length_eq_zero (by rw [hlen]; omega)) hemp
            rw [if_neg (by omega)]
            refine ⟨b, o + l.toNat * te.size, arr, t', fz, by simp [Addr.add_mid], hI, ?_⟩
            exact cut_flat l.toNat hh.toNat hf (by rw [List.length_take]; omega) hfl
    · rename_i kh hh km m hhx
      split at h
      case isFalse => exact h.elim
      rename_i hsz; obtain ⟨hsz, hhs⟩ := hsz; subst hsz
      obtain ⟨⟨g0, g1⟩, ⟨rfl, g2⟩, h⟩ := h
      rcases hmx with ⟨e', _⟩ | ⟨d, u, e', rfl, hd⟩
      · simp at e'
      simp at e'; subst e'
      rw [rep_int hd] at hrun ⊢
      have hst : vhi = some (.int kh hh) := by
        rcases hhi with ⟨rfl, _⟩ | ⟨d', u', rfl, rfl, hd'⟩
        · simp at hhs
        · simp at hhx; subst hhx; rw [rep_int hd']
      subst hst
      refine ⟨_, hrun A _ c _ _ _ (run_bounds3 true es.length c kl kh km l hh hh g0 g1 (Int.le_refl _) (by omega) vlo hl'), Goes.same sat fr ?_ h⟩
      obtain ⟨k1, k2⟩ := cut_rows (sz := te.size) l.toNat hh.toNat hr hf
      rw [rep]
      have hlen : ((es.take hh.toNat).drop l.toNat).length = hh.toNat - l.toNat := by simp; omega
      refine ⟨_, hh.toNat - l.toNat, _, by rw [hlen], by rw [hlen]; omega, by omega, fun _ => hlen.symm, k1, k2, ?_⟩
      rcases hA with rfl | ⟨b, o, arr, t', fz, rfl, hI, hfl⟩
      · left; simp
      · by_cases hemp : (es.take hh.toNat).drop l.toNat = []
        · exact .inl hemp
        · right
          have hlt : l.toNat < hh.toNat := by
            rcases Nat.lt_or_ge l.toNat hh.toNat with h' | h'
            · exact h'
            · exact absurd (List.eq_nil_of_length_eq_zero (by rw [hlen]; omega)) hemp
          rw [if_neg (by omega)]
          refine ⟨b, o + l.toNat * te.size, arr, t', fz, by simp [Addr.add_mid], hI, ?_⟩
          exact cut_flat l.toNat hh.toNat hf (by rw [List.length_take]; omega) hfl
    · exact h.elim
  · -- a slice of an object
    rename_i i j sz lo0 len cap kl l hlx
    have hl' := start kl l hlx
    rw [rep] at hv
    obtain ⟨p, A, c, hp, rfl, h2, h3, h4, h5, hA⟩ := hv
    split at h
    · rename_i kh hh hhx
      split at h
      case isFalse => exact h.elim
      rename_i hsz; subst hsz
      obtain ⟨⟨g0, g1⟩, ⟨g2, g3⟩, h⟩ := h
      rcases hmx with ⟨_, rfl⟩ | ⟨d, u, e', _, _⟩
      case inr => simp at e'
      refine ⟨_, hrun A _ c _ _ _ (run_bounds true len c kl kh l hh g0 g1 (by omega) vlo vhi hl' (stop _ _ _ hhx)), Goes.same sat fr ?_ h⟩
      rw [rep]
      refine ⟨p, _, c - l.toNat, hp, rfl, by omega, by omega, by omega, ?_, ?_⟩
      · cases cap with
        | none => simp only [Option.map_none]; dsimp only at h5; omega
        | some c' => simp only [Option.map_some]; dsimp only at h5; omega
      · intro hpos
        rw [hA hpos]
        rcases g3 with rfl | hlt
        · simp [Addr.add]
        · rw [if_neg (by omega)]; simp [Addr.add_mid, Nat.add_mul]
    · rename_i kh hh km m hhx
      split at h
      case isFalse => exact h.elim
      rename_i hsz; obtain ⟨hsz, hhs⟩ := hsz; subst hsz
      obtain ⟨⟨g0, g1⟩, ⟨rfl, g2⟩, he, h⟩ := h
      rcases hmx with ⟨e', _⟩ | ⟨d, u, e', rfl, hd⟩
      · simp at e'
      simp at e'; subst e'
      rw [rep_int hd] at hrun ⊢
      have hst : vhi = some (.int kh hh) := by
        rcases hhi with ⟨rfl, _⟩ | ⟨d', u', rfl, rfl, hd'⟩
        · simp at hhs
        · simp at hhx; subst hhx; rw [rep_int hd']
      subst hst
      have hrun' := hrun A _ c _ _ _ (run_bounds3 true len c kl kh km l hh hh g0 g1 (Int.le_refl _) (by omega) vlo hl')
      by_cases hlh : l = hh
      · subst hlh
        refine ⟨_, hrun', Goes.same sat fr ?_ (he rfl)⟩
        rw [rep]
        exact ⟨A, 0, [], by simp, Nat.le_refl _, by simp, fun _ => rfl, repL_nil.2 rfl, (fun u hu => by cases hu), .inl rfl⟩
      · refine ⟨_, hrun', Goes.same sat fr ?_ (h (by omega))⟩
        rw [rep]
        refine ⟨p, _, hh.toNat - l.toNat, hp, rfl, Nat.le_refl _, by omega, by omega, rfl, ?_⟩
        intro hpos
        rw [hA hpos, if_neg (by omega)]; simp [Addr.add_mid, Nat.add_mul]
    · exact h.elim
  · rename_i kl l hlx
    have hl' := start kl l hlx
    rw [rep] at hv
    subst hv
    split at h
    · rename_i kh hh hhx
      obtain ⟨⟨rfl, rfl⟩, h⟩ := h
      rcases hmx with ⟨_, rfl⟩ | ⟨d, u, e', _, _⟩
      case inr => simp at e'
      have := hrun none 0 0 _ _ _ (run_bounds true 0 0 kl kh 0 0 (by omega) (by omega) (by omega) vlo vhi hl' (stop 0 _ _ hhx))
      exact ⟨_, this, Goes.same sat fr (by rw [rep]; simp) h⟩
    · rename_i kh hh km m hhx
      split at h
      case isFalse => exact h.elim
      rename_i hhs
      obtain ⟨⟨rfl, rfl, rfl⟩, h⟩ := h
      rcases hmx with ⟨e', _⟩ | ⟨d, u, e', rfl, hd⟩
      · simp at e'
      simp at e'; subst e'
      rw [rep_int hd] at hrun ⊢
      have hst : vhi = some (.int kh 0) := by
        rcases hhi with ⟨rfl, _⟩ | ⟨d', u', rfl, rfl, hd'⟩
        · simp at hhs
        · simp at hhx; subst hhx; rw [rep_int hd']
      subst hst
      have := hrun none 0 0 _ _ _ (run_bounds3 true 0 0 kl kh km 0 0 0 (by omega) (by omega) (by omega) (by omega) vlo hl')
      exact ⟨_, this, Goes.same sat fr (by rw [rep]; simp) h⟩
    · exact h.elim
  · exact h.elim
end ops
end Go.Proofs.Ytaplihoeephbeaa.V
