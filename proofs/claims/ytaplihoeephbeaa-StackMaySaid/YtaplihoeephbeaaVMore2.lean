/- VMore2: a text of a symbolic executor that is proved sound, and contracts that are proved with it. -/
import Derived.Test.YtaplihoeephbeaaVMore
namespace Go.Proofs.Ytaplihoeephbeaa.V
open Go Go.RowKit
set_option linter.unusedVariables false
/-- Objects are only read from now on; what lies in another one is told anew. -/
theorem Weak.frzO {n0 : Nat} {m : List (Nat × D)} {os : Objs} (F : Nat → Bool) (sl : List (Nat × D)) (k : Nat) {ty : TypeId} {sz : Nat} {es : List D} (hk : os.at k 0 = .row ty sz false es) (hF : F k = false) (es' : List D) (hl : es'.length = es.length) (hes : ViewL F os es es') (hv : viewed F os m sl) :
    Weak n0 { m := m, objs := os } { m := sl ++ m, objs := (dropF F os).put k 0 (.row ty sz false es') } := by
  intro ρ I w tm h1 h2 h3
  have hkl : k < os.length := lt_of_at (by rw [hk]; simp)
  have hat0 : ∀ i j, ((dropF F os).put k 0 (.row ty sz false es')).at i j = if i = k ∧ j = 0 then .row ty sz false es' else if F i then .gone else os.at i j := by
    intro i j
    by_cases hc : i = k ∧ j = 0
    · rw [if_pos hc, hc.1, hc.2, at_put_self _ _ _ (by rw [dropF_length]; exact hkl)]
    · rw [if_neg hc, at_put_ne _ _ _ _ hc, dropF_at]
  have hat : ∀ i j, ((dropF F os).put k 0 (.row ty sz false es')).at i j ≠ .gone → F i = false ∧ os.at i j ≠ .gone := by
    intro i j hne
    rw [hat0] at hne
    by_cases hc : i = k ∧ j = 0
    · rw [hc.1, hc.2]; exact ⟨hF, by rw [hk]; simp⟩
    · rw [if_neg hc] at hne
      cases hFi : F i with
      | true => rw [hFi] at hne; simp at hne
      | false => rw [hFi] at hne; exact ⟨rfl, by simpa using hne⟩
  have hlen : ((dropF F os).put k 0 (.row ty sz false es')).length = os.length := by rw [length_put, dropF_length]
  refine ⟨ρ, Go.Proofs.Ytaplihoeephbeaa.V.frz F ρ I os w, ⟨?_, fun i j hne => ?_, ?_, ?_, fun i j hi => h1.dom i j (by simpa [hlen] using hi)⟩, fun i => viewed_look i hv ρ I w _ h1 (h2 i), frz_le h1, by simpa [hlen] using h3, fun _ _ _ => rfl, fun b hb => ?_, ?_⟩
  · intro b o hb
    exact frz_heap h1 b o hb
  · obtain ⟨hFi, hn⟩ := hat i j hne
    obtain ⟨p, hp, hok⟩ := h1.ok i j hn
    refine ⟨p, hp, ?_⟩
    show objOk ρ _ w p (((dropF F os).put k 0 (.row ty sz false es')).at i j)
    rw [hat0]
    by_cases hc : i = k ∧ j = 0
    · rw [if_pos hc]
      rw [hc.1, hc.2, hk] at hok
      obtain ⟨c1, c2, c3⟩ := hok
      refine ⟨by rw [hl]; exact c1, c2, fun hpos => ?_⟩
      obtain ⟨arr, us, g1, g2, g3, g4, g5⟩ := c3 hpos
      exact ⟨arr, us, g1, g2, hes ρ I w us h1 g3, g4, g5⟩
    · rw [if_neg hc, hFi]
      exact objOk_mono (Pl.le_refl _) (frz_le h1) (fun _ => rfl) hok
  · intro i j i' j' p p' hne hne'
    exact h1.inj i j i' j' p p' (hat i j hne).2 (hat i' j' hne').2
  · rintro b ⟨i, j, p, hne, hp, hpos, rfl⟩
    obtain ⟨hFi, hn⟩ := hat i j hne
    unfold Go.Proofs.Ytaplihoeephbeaa.V.frz
    rw [if_neg ?_]
    · exact h1.apart _ ⟨i, j, p, hn, hp, hpos, rfl⟩
    · rintro ⟨i', j', p', hF', hne', hp', hpos', hb⟩
      have := (h1.inj i' j' i j p' p hne' hn hp' hp hpos' hpos hb).1
      subst this
      rw [hFi] at hF'; simp at hF'
  · unfold Go.Proofs.Ytaplihoeephbeaa.V.frz at hb
    split at hb
    · rename_i h
      obtain ⟨i, j, p, _, g1, g2, g3, g4⟩ := h
      exact .inr ⟨i, j, p, g1, g2, g3, g4⟩
    · exact .inl hb
  · rintro b ⟨i, j, p, hne, hp, hpos, rfl⟩
    exact ⟨i, j, p, (hat i j hne).2, hp, hpos, rfl⟩
/-- What is handed back, told in other words. -/
theorem Spec.weak {P : Program} {f : FuncId} {args : List D} {os : Objs} {post post' : D → Objs → Prop} (h : Spec P f args os post) (k : ∀ d os', post d os' → ∃ m' os'', Weak os.length { m := [(0, d)], objs := os' } { m := m', objs := os'' } ∧ post' (look m' 0) os'') : Spec P f args os post' := by
  refine ⟨h.1, fun ρ I w vs sat hr => (h.2 ρ I w vs sat hr).mono ?_⟩
  rintro e w' ⟨v, d, os', ρ', I', rfl, hp, sat', fr, hrv⟩
  obtain ⟨m', os'', hw, hpost⟩ := k d os' hp
  obtain ⟨ρ2, I2, g1, g2, g3, g4, g5, g6, g7⟩ := hw ρ' I' w' (fun _ => v) sat' (fun i => by
    simp only [St.get, look]
    cases Nat.beq 0 i with
    | true => exact hrv
    | false => simp only [cond_false]; rw [rep]; trivial) fr.len
  refine ⟨v, look m' 0, os'', ρ2, I2, rfl, hpost, g1, ⟨fr.wos, fr.tape, fr.output, fr.size, fr.kept, g4, fun i j hi => (g5 i j hi).trans (fr.same i j hi), Im.le_trans fr.imle g3, fun b hb => ?_, fun b hb => fr.obnew b (g7 b hb)⟩, g2 0⟩
  rcases g6 b hb with h' | h'
  · exact fr.imnew b h'
  · exact .inr (fr.obnew b h')
theorem Weak.start' {n0 : Nat} {s s0 : St} {ws : List Nat} {sl : List (Nat × D)} {os : Objs} (ho : s.objs = os) (hm : without ws s.m = without ws s0.m) (h : told s.m sl) : Weak n0 s (s0.head ws sl os) := by
  have := Weak.start (n0 := n0) (ws := ws) h
  unfold St.head at this ⊢
  rw [hm, ho] at this
  exact this
end Go.Proofs.Ytaplihoeephbeaa.V
