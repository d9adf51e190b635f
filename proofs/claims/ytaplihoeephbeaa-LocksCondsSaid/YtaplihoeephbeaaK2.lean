/- K2: a text of a symbolic executor that is proved sound, and contracts that are proved with it. -/
import Derived.Test.YtaplihoeephbeaaK1
import Derived.Test.YtaplihoeephbeaaF1
set_option linter.unusedVariables false
set_option linter.unusedSimpArgs false
namespace Go.Proofs.Ytaplihoeephbeaa.V
open Go Go.Proofs
set_option maxRecDepth 100000
set_option maxHeartbeats 40000000
/-- A callee that is given an element of a row to write, at any place. -/
theorem Spec.rowAt {P : Program} {f : FuncId} {args : List D} {t : TypeId} {sz e off : Nat} {pr : Bool} {es : List D} {post : D → List D → Prop} (h : Spec P f (.ptr 0 0 sz e off :: args) [one (.row t sz pr es)] (fun d os' => ∃ es', post d es' ∧ os' = [one (.row t sz pr es')]))
    (i : Nat) (os : Objs) (hat : os.at i 0 = .row t sz pr es) (hargs : D.pureL args = true) (hx : D.pureL es = true) (hp : ∀ d y, post d y → d.pure = true ∧ D.pureL y = true) :
    Spec P f (.ptr i 0 sz e off :: args) os (fun d os' => ∃ es', post d es' ∧ os' = os.put i 0 (.row t sz pr es')) := by
  have hil := lt_of_at (os := os) (i := i) (j := 0) (by rw [hat]; simp)
  have := h.frame os [(i, 0)] rfl (by simp) (fun k p hk => by
    cases k with
    | zero =>
      simp at hk; subst hk
      refine ⟨hil, ?_, ?_, fun j hj => one_pos _ hj⟩
      · rw [hat]
        show _ = O.mapId _ (.row t sz pr es)
        cases pr <;> simp only [O.mapId, mapIdL_pure _ _ hx]
      · show O.sgl _ (.row t sz pr es) = true
        cases pr <;> simp [O.sgl, sglL_pure _ _ hx]
    | succ k => simp at hk) (by simp [D.sglL, D.sgl, sglL_pure _ _ hargs])
  have e1 : D.mapIdL (lead [(i, 0)] os.length) (.ptr 0 0 sz e off :: args) = .ptr i 0 sz e off :: args := by
    simp only [D.mapIdL, D.mapId, lead, mapIdL_pure _ _ hargs]
    rfl
  rw [e1] at this
  refine this.mono ?_
  rintro d os' ⟨d1, os1, ⟨y, hy, rfl⟩, rfl, rfl⟩
  obtain ⟨h1, h2⟩ := hp _ _ hy
  refine ⟨y, by rw [mapId_pure _ _ h1]; exact hy, ?_⟩
  simp only [merge, putAll, List.drop_one, List.length_cons, List.length_nil, List.drop_succ_cons, List.drop_zero, List.map_nil, List.append_nil, List.tail_cons]
  show os.put i 0 (O.mapId _ (.row t sz pr y)) = _
  cases pr <;> simp [O.mapId, mapIdL_pure _ _ h2]
/-- A row of what is only read, told in other words. -/
theorem Weak.retellP {n0 : Nat} {m : List (Nat × D)} {os : Objs} (k : Nat) {t : TypeId} {sz : Nat} {es : List D} (hk : os.at k 0 = .row t sz true es) (es' : List D) (hl : es'.length = es.length) (h : ∀ I us, repL bot I es us → repL bot I es' us) :
    Weak n0 { m := m, objs := os } { m := m, objs := os.put k 0 (.row t sz true es') } := by
  intro ρ I w tm h1 h2 h3
  obtain ⟨g1, g2⟩ := h1.retell (k := k) (by show os.at k 0 ≠ .gone; rw [hk]; simp) (.row t sz true es') (by
    intro p hp hok
    rw [show ({ m := m, objs := os } : St).objs = os from rfl, hk] at hok
    obtain ⟨a1, a2, a3⟩ := hok
    refine ⟨by rw [hl]; exact a1, a2, fun hpos => ?_⟩
    obtain ⟨arr, us, b1, b2, b3, b4, b5⟩ := a3 hpos
    exact ⟨arr, us, b1, b2, h I us b3, b4, b5⟩)
  exact ⟨ρ, I, g1, h2, Im.le_refl _, by rw [length_put]; exact h3, fun _ _ _ => rfl, fun _ hb => .inl hb, g2⟩
theorem rep_full {ρ : Pl} {I : Im} {v : Value} {sz : Nat} {es : List D} (h : rep ρ I (.lst sz true es) v) : rep ρ I (.lst sz false es) v := by
  rw [rep] at h ⊢
  obtain ⟨A, c, us, e, h1, hm, h2, h3⟩ := h
  exact ⟨A, c, us, e, h1, hm, (fun h => Bool.noConfusion h), h3⟩
theorem repL_set2 {ρ : Pl} {I : Im} {d d' : D} (h : ∀ v, rep ρ I d v → rep ρ I d' v) : ∀ (l : List D) (e : Nat) (vs : List Value), repL ρ I (l.set e d) vs → repL ρ I (l.set e d') vs
  | [], _, _, hr => hr
  | x :: l, 0, vs, hr => by
    obtain ⟨u, us, rfl, hu, hr⟩ := repL_cons.1 hr
    exact repL_cons.2 ⟨u, us, rfl, h u hu, hr⟩
  | x :: l, e + 1, vs, hr => by
    obtain ⟨u, us, rfl, hu, hr⟩ := repL_cons.1 hr
    exact repL_cons.2 ⟨u, us, rfl, hu, repL_set2 h l e us hr⟩
theorem pureL_rows (Ls : List (List Int)) : D.pureL (Ls.map ints) = true := pureL_map (fun _ => rfl) _
theorem set_ints (Ls : List (List Int)) (e : Nat) (L : List Int) : (Ls.map ints).set e (ints L) = (Ls.set e L).map ints := by rw [List.map_set]
theorem push149 (Ls : List (List Int)) (e : Nat) (L : List Int) (hL : Ls[e]? = some L) (t : Int) (hl : L.length ≤ 1000000) : Spec Try.prog 149 [.ptr 0 0 1 e 0, .int .i64 t] [rowC Ls] (fun d os' => ∃ es', (d = .tup [] ∧ es' = (Ls.set e (L ++ [t])).map ints) ∧ os' = [one (.row 23 1 true es')]) := by
  have hlm : (L.map (D.int .i64)).length = L.length := List.length_map ..
  refine Spec.by Try.func149 rfl (by decide) (by decide +kernel) rfl ?_
  (refine goA ?_)
  refine Opt.of (get_map hL) ?_
  (refine goA ?_)
  refine Nm.mk (L.map (D.int .i64)) (by simp [List.take_of_length_le]) ?_
  (refine goA ?_)
  refine App.only false rfl rfl ?_
  (refine goA ?_)
  refine App.only false rfl rfl ?_
  (refine goA ?_)
  refine Opt.of (get_map hL) ?_
  (refine goA ?_)
  refine Ret.mk [] rfl ⟨_, ⟨rfl, ?_⟩, rfl⟩
  rw [← set_ints]
  exact congrArg (fun r => (Ls.map ints).set e (.lst 1 false r)) (map_snoc _ _)
/-- The first one of a row, none: there is none. -/
def headQ (L : List Int) : Int := L.headD (-1)
theorem pop156 (Ls : List (List Int)) (e : Nat) (L : List Int) (hL : Ls[e]? = some L) (hl : L.length ≤ 1000000) : Spec Try.prog 156 [.ptr 0 0 1 e 0] [rowC Ls] (fun d os' => ∃ es', (d = .int .i64 (headQ L) ∧ es' = (Ls.set e L.tail).map ints) ∧ os' = [one (.row 23 1 true es')]) := by
  cases L with
  | nil =>
    refine Spec.by Try.func156 rfl (by decide) (by decide +kernel) rfl ?_
    (refine goA ?_)
    refine Opt.of (get_map hL) ?_
    (refine goA ?_)
    refine Ret.mk [.tmp 2] rfl ⟨_, ⟨rfl, ?_⟩, rfl⟩
    rw [← set_ints]
    exact (set_same hL).symm
  | cons v L =>
    have hlm : (L.map (D.int .i64)).length = L.length := List.length_map ..
    refine Spec.by Try.func156 rfl (by decide) (by decide +kernel) rfl ?_
    (refine goA ?_)
    refine Opt.of (get_map hL) ?_
    (refine goA ?_)
    refine Nm.mk (L.map (D.int .i64)) (by simp [List.take_of_length_le]) ?_
    (refine goR ?_)
    refine Opt.of (get_map hL) ?_
    (refine goA ?_)
    refine Ret.weak (Weak.on [(2, .int .i64 v)] [one (.row 23 1 true ((Ls.map ints).set e (.lst 1 true (L.map (D.int .i64)))))]) ?_
    refine Ret.weak (Weak.retellP 0 rfl ((Ls.map ints).set e (ints L)) (by rw [List.length_set, List.length_set]) (fun I us => repL_set2 (fun v => rep_full) _ _ _)) ?_
    refine Ret.mk [.tmp 2] rfl ⟨_, ⟨rfl, ?_⟩, rfl⟩
    rw [← set_ints]
    rfl
end Go.Proofs.Ytaplihoeephbeaa.V
