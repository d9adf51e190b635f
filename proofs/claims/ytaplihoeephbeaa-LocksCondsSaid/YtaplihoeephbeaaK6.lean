/- K6: a text of a symbolic executor that is proved sound, and contracts that are proved with it. -/
import Derived.Test.YtaplihoeephbeaaK5
set_option linter.unusedVariables false
set_option linter.unusedSimpArgs false
namespace Go.Proofs.Ytaplihoeephbeaa.V
open Go Go.Proofs
set_option maxRecDepth 100000
set_option maxHeartbeats 40000000
/-- A slot that holds an empty row that has no room holds a row of nothing that may grow. -/
theorem Weak.emptyrow {n0 : Nat} {m : List (Nat × D)} {os : Objs} (k : Nat) {sz : Nat} (hk : look m k = .lst sz true []) (t : TypeId) (pr : Bool) : Weak n0 { m := m, objs := os } { m := (k, .sl os.length 0 sz 0 0 none) :: m, objs := os ++ [one (.row t sz pr [])] } := by
  intro ρ I w tm h1 h2 h3
  have h3' : n0 ≤ os.length := h3
  have hle : ρ.le (ρ.new os.length (w.heap.size, 0)) := Pl.le_new (fun j => h1.dom _ _ (Nat.le_refl _))
  have hs := h1.new (w' := w) (fun _ _ => rfl) 0 (.row t sz pr []) ⟨Nat.le_refl _, by simp, fun h => by omega⟩
  refine ⟨_, I, hs, fun i => ?_, Im.le_refl _, by simp; omega, fun i j hi => Pl.new_ne _ _ (fun e => by omega), fun _ h => .inl h, ?_⟩
  · simp only [St.get, look]
    cases hb : Nat.beq k i with
    | true =>
      have := Nat.eq_of_beq_eq_true hb
      subst this
      have := h2 k
      simp only [St.get] at this
      rw [hk, rep] at this
      simp only [cond_true]
      obtain ⟨A, c, us, e, g1, g2, g3, _⟩ := this
      rw [rep]
      have hc := g3 rfl
      subst hc
      exact ⟨_, A, 0, Pl.new_self _ _ _, e, Nat.le_refl _, by simp, by simp, by simp, fun h => by simp at h⟩
    | false => exact rep_mono hle (Im.le_refl _) _ _ (h2 i)
  · rintro c ⟨i, j, p, hne, hp, hpos, rfl⟩
    by_cases hc : i = os.length ∧ j = 0
    · obtain ⟨rfl, rfl⟩ := hc
      rw [Pl.new_self] at hp; cases hp
      simp at hpos
    · rw [Pl.new_ne _ _ hc] at hp
      refine ⟨i, j, p, ?_, hp, hpos, rfl⟩
      rcases Nat.lt_or_ge i os.length with hi | hi
      · rwa [at_lt _ _ _ hi] at hne
      · rcases Nat.eq_or_lt_of_le hi with e | hlt
        · subst e; rw [at_new] at hne; exact absurd (one_pos _ (fun e => hc ⟨rfl, e⟩)) hne
        · exact absurd (at_ge (os ++ [one (.row t sz pr [])]) j (by simp; omega)) hne
theorem clone130w (xs : List Int) (hl : xs.length * 8 ≤ 140737488351232) : Spec Try.prog 130 [ints xs] [] (fun d os' => d = .sl 0 0 1 0 xs.length none ∧ os' = [rowI xs]) := by
  by_cases hx : xs = []
  · subst hx
    refine Spec.by Try.func130 rfl (by decide) (by decide +kernel) rfl ?_
    (refine goA ?_)
    refine fun _ => And.intro ?_ ?_
    · (refine goA ?_)
      refine Ret.weak (Weak.nilrow 2 rfl 3 1 true) ?_
      exact Ret.mk [.tmp _] rfl (And.intro rfl rfl)
    · (refine goA ?_)
      refine App.own ?_
      (refine goA ?_)
      refine Ret.weak (Weak.shift 1 0 (by decide) (by simp) (Nat.le_of_ble_eq_true rfl) (Nat.le_of_ble_eq_true rfl) (fun j => by cases j <;> rfl) rfl) ?_
      refine Ret.trim 1 (by simp) rfl (Nat.le_of_ble_eq_true rfl) ?_
      exact Ret.mk [.tmp _] rfl (And.intro rfl rfl)
  · exact clone130p xs hl hx
theorem fn151 (l : List Int) : Spec Try.prog 151 [ints l] [] (fun d os' => d = .bool (decide (0 < l.length)) ∧ os' = []) := by
  have hlm : (l.map (D.int .i64)).length = l.length := List.length_map ..
  refine Spec.by Try.func151 rfl (by decide) (by decide +kernel) rfl ?_
  (refine goA ?_)
  refine Ret.mk [.tmp 2] rfl ⟨?_, rfl⟩
  show D.bool (decide ((0 : Int) < ((l.map (D.int .i64)).length : Int))) = _
  rw [hlm]
  exact congrArg D.bool (decide_eq_decide.2 (by omega))
theorem fn153 (v : Int) : Spec Try.prog 153 [.int .i64 v] [] (fun d os' => d = .bool (!decide (v = -1)) ∧ os' = []) := by
  refine Spec.by Try.func153 rfl (by decide) (by decide +kernel) rfl ?_
  (refine goA ?_)
  exact Ret.mk [.tmp 2] rfl ⟨rfl, rfl⟩
theorem idx194 (xs : List (List Int)) (g : Nat) (q : List Int → Bool) (hl : xs.length ≤ 9223372036854775806) (hq : ∀ x ∈ xs, Spec Try.prog g [ints x] [] (fun d os' => d = .bool (q x) ∧ os' = [])) :
    Spec Try.prog 194 [.lst 1 false (xs.map ints), .fn (.func g) [] []] [] (fun d os' => d = idxD (xs.findIdx? q) ∧ os' = []) := by
  refine Spec.by Try.func194 rfl (by decide) (by decide +kernel) rfl ?_
  (refine goA ?_)
  refine Loop.inv (A := Nat) [] (fun i => [(8, .int .i64 (i : Int))]) (fun _ => []) (fun i => i ≤ xs.length ∧ ∀ x ∈ xs.take i, q x = false) (fun i => xs.length - i) 0 ⟨Nat.zero_le _, by simp⟩ (Weak.start tld) ?_
  intro i ⟨hi, hf⟩
  (refine goA ?_)
  refine Br.dec (fun h => ?_) (fun h => ?_)
  · simp only [List.length_map] at h
    (refine goA ?_)
    refine Opt.of (get_map (List.getElem?_eq_getElem (l := xs) (i := i) (by omega))) ?_
    (refine goA ?_)
    refine Call.mk (hq _ (List.getElem_mem (by omega))) ?_
    rintro d os' ⟨rfl, rfl⟩
    (refine goA ?_)
    refine Br.cs (fun hb => ?_) (fun hb => ?_)
    · (refine goA ?_)
      refine Ret.mk [.tmp _] rfl ?_; refine And.intro ?_ rfl
      rw [find_at (by omega) hb hf]
    · (refine goA ?_)
      refine Loop.next (i + 1) ?_ ?_ (Weak.back rfl tld rfl rfl)
      · exact ⟨by omega, take_more (by omega) hb hf⟩
      · omega
  · (refine goA ?_)
    refine Ret.mk [.tmp _] rfl ?_; refine And.intro ?_ rfl
    rw [find_none (by simpa using h) hf]
theorem con154 (xs : List (List Int)) (g : Nat) (q : List Int → Bool) (hl : xs.length ≤ 9223372036854775806) (hq : ∀ x ∈ xs, Spec Try.prog g [ints x] [] (fun d os' => d = .bool (q x) ∧ os' = [])) :
    Spec Try.prog 154 [.lst 1 false (xs.map ints), .fn (.func g) [] []] [] (fun d os' => d = .bool (xs.any q) ∧ os' = []) := by
  refine Spec.by Try.func154 rfl (by decide) (by decide +kernel) rfl ?_
  (refine goA ?_)
  refine Call.mk (idx194 xs g q hl hq) ?_
  rintro d os' ⟨rfl, rfl⟩
  (refine goA ?_)
  refine Ret.mk [.tmp _] rfl ?_; refine And.intro ?_ rfl
  cases h : xs.findIdx? q with
  | none =>
    rw [List.findIdx?_eq_none_iff] at h
    have : xs.any q = false := by simpa using h
    rw [this]; rfl
  | some i =>
    rw [List.findIdx?_eq_some_iff_getElem] at h
    obtain ⟨hi, hb, _⟩ := h
    have : xs.any q = true := List.any_eq_true.2 ⟨_, List.getElem_mem hi, hb⟩
    rw [this]; simp
theorem grow195 (n : Nat) (hn : n ≤ 100000) : Spec Try.prog 195 [.nils, .int .i64 n] [] (fun d os' => d = .sl 0 0 1 0 0 none ∧ os' = [one (.row 23 1 true (List.replicate n .nils))]) := by
  by_cases h0 : n = 0
  · subst h0
    refine Spec.by Try.func195 rfl (by decide) (by decide +kernel) rfl ?_
    (refine goA ?_)
    refine Ret.weak (Weak.nilrow 4 rfl 23 1 true) ?_
    exact Ret.mk [.tmp 4] rfl ⟨rfl, rfl⟩
  · refine Spec.by Try.func195 rfl (by decide) (by decide +kernel) rfl ?_
    (refine goA ?_)
    intro _
    refine App.own ?_
    (refine goA ?_)
    refine Ret.mk [.tmp 4] rfl ⟨rfl, ?_⟩
    exact congrArg (fun x => ([one (.row 23 1 true (List.replicate x D.nils))] : Objs)) (by omega : ((n : Int) - (0 - 0)).toNat = n)
end Go.Proofs.Ytaplihoeephbeaa.V
