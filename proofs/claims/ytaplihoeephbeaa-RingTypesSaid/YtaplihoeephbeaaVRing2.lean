/- VRing2: a text of a symbolic executor that is proved sound, and contracts that are proved with it. -/
import Derived.Test.YtaplihoeephbeaaVRing
set_option linter.unusedVariables false
set_option linter.unusedSimpArgs false
namespace Go.Proofs.Ytaplihoeephbeaa.V
open Go Go.Proofs
set_option maxRecDepth 100000
/-- A row is told to its first so many. -/
theorem Weak.cutRow {n0 : Nat} {m : List (Nat × D)} {os : Objs} (f k : Nat) {t : TypeId} {sz : Nat} {pr : Bool} {es : List D} (hf : os.at f 0 = .row t sz pr es) : Weak n0 { m := m, objs := os } { m := m, objs := os.put f 0 (.row t sz pr (es.take k)) } := by
  intro ρ I w tm h1 h2 h3
  have hfl : f < os.length := lt_of_at (by rw [hf]; simp)
  have hat : ∀ i j, (os.put f 0 (.row t sz pr (es.take k))).at i j ≠ .gone → os.at i j ≠ .gone := by
    intro i j hne
    by_cases hc : i = f ∧ j = 0
    · rw [hc.1, hc.2, hf]; simp
    · rwa [at_put_ne _ _ _ _ hc] at hne
  refine ⟨ρ, I, ⟨h1.im, fun i j hne => ?_, fun i j i' j' p p' hne hne' => h1.inj i j i' j' p p' (hat i j hne) (hat i' j' hne'), ?_, fun i j hi => h1.dom i j (by simpa [length_put] using hi)⟩, h2, Im.le_refl _, by simpa [length_put] using h3, fun _ _ _ => rfl, fun _ h => .inl h, ?_⟩
  · obtain ⟨p, hp, hok⟩ := h1.ok i j (hat i j hne)
    refine ⟨p, hp, ?_⟩
    by_cases hc : i = f ∧ j = 0
    · obtain ⟨rfl, rfl⟩ := hc
      simp only
      rw [at_put_self _ _ _ hfl]
      rw [hf] at hok
      obtain ⟨k1, k2, k3⟩ := hok
      refine ⟨by rw [List.length_take]; omega, k2, fun hpos => ?_⟩
      obtain ⟨arr, us, g1, g2, g3, g4, g5⟩ := k3 hpos
      exact ⟨arr, us.take k, g1, g2, repL_take k g3, fun u hu => g4 u (List.mem_of_mem_take hu), (flat_take_prefix k us).trans g5⟩
    · simp only
      rw [at_put_ne _ _ _ _ hc]; exact hok
  · rintro b ⟨i, j, p, hne, hp, hpos, rfl⟩
    exact h1.apart _ ⟨i, j, p, hat i j hne, hp, hpos, rfl⟩
  · rintro b ⟨i, j, p, hne, hp, hpos, rfl⟩
    exact ⟨i, j, p, hat i j hne, hp, hpos, rfl⟩
end Go.Proofs.Ytaplihoeephbeaa.V
