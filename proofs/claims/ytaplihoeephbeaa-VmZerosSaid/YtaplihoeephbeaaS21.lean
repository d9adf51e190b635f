/- S21: a text of a symbolic executor that is proved sound, and contracts that are proved with it. -/
import Derived.Test.YtaplihoeephbeaaS20
namespace Go.Proofs.Ytaplihoeephbeaa.V
open Go Go.Proofs
set_option maxRecDepth 100000
set_option maxHeartbeats 4000000
mutual
theorem names_pure (b : Nat) : ∀ (d : D), d.pure = true → d.names b = false
  | .agg cs, h => namesL_pure b cs h
  | .tup cs, h => namesL_pure b cs h
  | .fn g x y, h => by
    have h' : D.pureL x = true ∧ D.pureL y = true := by simpa [D.pure] using h
    simp [D.names, namesL_pure b x h'.1, namesL_pure b y h'.2]
  | .ptr .., h | .sl .., h | .mp .., h | .yl .., h => by simp [D.pure] at h
  | .int .., _ | .bool _, _ | .str _, _ | .nilp, _ | .nils, _ | .nilf, _ | .junk, _ | .pel .., _ | .lst .., _ => rfl
theorem namesL_pure (b : Nat) : ∀ (ds : List D), D.pureL ds = true → D.namesL b ds = false
  | [], _ => rfl
  | d :: ds, h => by
    have h' : d.pure = true ∧ D.pureL ds = true := by simpa [D.pureL] using h
    simp [D.namesL, names_pure b d h'.1, namesL_pure b ds h'.2]
end
mutual
theorem lt_pure (n : Nat) : ∀ (d : D), d.pure = true → d.lt n = true
  | .agg cs, h => ltL_pure n cs h
  | .tup cs, h => ltL_pure n cs h
  | .fn g x y, h => by
    have h' : D.pureL x = true ∧ D.pureL y = true := by simpa [D.pure] using h
    simp [D.lt, ltL_pure n x h'.1, ltL_pure n y h'.2]
  | .ptr .., h | .sl .., h | .mp .., h | .yl .., h => by simp [D.pure] at h
  | .int .., _ | .bool _, _ | .str _, _ | .nilp, _ | .nils, _ | .nilf, _ | .junk, _ | .pel .., _ | .lst .., _ => rfl
theorem ltL_pure (n : Nat) : ∀ (ds : List D), D.pureL ds = true → D.ltL n ds = true
  | [], _ => rfl
  | d :: ds, h => by
    have h' : d.pure = true ∧ D.pureL ds = true := by simpa [D.pureL] using h
    simp [D.ltL, lt_pure n d h'.1, ltL_pure n ds h'.2]
end
mutual
theorem ren_pure (a b : Nat) : ∀ (d : D), d.pure = true → d.ren a b = d
  | .agg cs, h => by rw [D.ren, renL_pure a b cs h]
  | .tup cs, h => by rw [D.ren, renL_pure a b cs h]
  | .fn g x y, h => by
    have h' : D.pureL x = true ∧ D.pureL y = true := by simpa [D.pure] using h
    rw [D.ren, renL_pure a b x h'.1, renL_pure a b y h'.2]
  | .ptr .., h | .sl .., h | .mp .., h | .yl .., h => by simp [D.pure] at h
  | .int .., _ | .bool _, _ | .str _, _ | .nilp, _ | .nils, _ | .nilf, _ | .junk, _ | .pel .., _ | .lst .., _ => rfl
theorem renL_pure (a b : Nat) : ∀ (ds : List D), D.pureL ds = true → D.renL a b ds = ds
  | [], _ => rfl
  | d :: ds, h => by
    have h' : d.pure = true ∧ D.pureL ds = true := by simpa [D.pureL] using h
    rw [D.renL, ren_pure a b d h'.1, renL_pure a b ds h'.2]
end
theorem namesL_append (b : Nat) : ∀ (x y : List D), D.namesL b (x ++ y) = (D.namesL b x || D.namesL b y)
  | [], y => by simp [D.namesL]
  | d :: x, y => by simp [D.namesL, namesL_append b x y, Bool.or_assoc]
theorem ltL_append (n : Nat) : ∀ (x y : List D), D.ltL n (x ++ y) = (D.ltL n x && D.ltL n y)
  | [], y => by simp [D.ltL]
  | d :: x, y => by simp [D.ltL, ltL_append n x y, Bool.and_assoc]
theorem renL_append (a b : Nat) : ∀ (x y : List D), D.renL a b (x ++ y) = D.renL a b x ++ D.renL a b y
  | [], y => by simp [D.renL]
  | d :: x, y => by simp [D.renL, renL_append a b x y]
/-- A row that names nothing may come to name something. -/
theorem Weak.unpure {n0 : Nat} {m : List (Nat × D)} {os : Objs} (k : Nat) {ty : TypeId} {sz : Nat} {es : List D} (hk : os.at k 0 = .row ty sz true es) : Weak n0 { m := m, objs := os } { m := m, objs := os.put k 0 (.row ty sz false es) } := by
  intro ρ I w tm h1 h2 h3
  have hs := h1.retell (k := k) (by show os.at k 0 ≠ _; rw [hk]; simp) (.row ty sz false es) (fun p hp hok => by
    have hok' : objOk ρ I w p (os.at k 0) := hok
    rw [hk] at hok'
    obtain ⟨c1, c2, c3⟩ := hok'
    refine ⟨c1, c2, fun hpos => ?_⟩
    obtain ⟨arr, us, g1, g2, g3, g4, g5⟩ := c3 hpos
    exact ⟨arr, us, g1, g2, repL_bot g3, g4, g5⟩)
  exact ⟨ρ, I, hs.1, h2, Im.le_refl _, by show n0 ≤ (os.put _ _ _).length; rw [length_put]; exact h3, fun _ _ _ => rfl, fun _ h => .inl h, hs.2⟩
/-- The frames, the last one with locals of its own. -/
def RL (s : List Fm) (f : Fm) (q : Nat) : List D := s.map frD ++ [.agg [.int .i64 f.fn, .int .i64 f.pc, .sl q 0 1 0 f.ls.length none]]
theorem RL_names (s : List Fm) (f : Fm) (q n : Nat) (h : Nat.beq q n = false) : D.namesL n (RL s f q) = false := by
  rw [RL, namesL_append, namesL_pure _ _ (pureL_map (fun _ => rfl) _)]
  simp [D.namesL, D.names, h]
theorem RL_lt (s : List Fm) (f : Fm) (q n : Nat) (h : Nat.blt q n = true) : D.ltL n (RL s f q) = true := by
  rw [RL, ltL_append, ltL_pure _ _ (pureL_map (fun _ => rfl) _)]
  simp [D.ltL, D.lt, h]
theorem RL_ren (s : List Fm) (f : Fm) (q a b : Nat) (h : Nat.beq q a = false) : D.renL a b (RL s f q) = RL s f q := by
  rw [RL, renL_append, renL_pure _ _ _ (pureL_map (fun _ => rfl) _)]
  simp [D.renL, D.ren, h]
theorem RL_ren' (s : List Fm) (f : Fm) (a b : Nat) : D.renL a b (RL s f a) = RL s f b := by
  rw [RL, renL_append, renL_pure _ _ _ (pureL_map (fun _ => rfl) _)]
  simp [D.renL, D.ren, RL]
theorem clone59L (t : Th) (h : t.okB) (s : List Fm) (f : Fm) (hs : t.fr = s ++ [f]) : Spec Try.prog 59 [thD t] [] (fun d os' => d = .agg [.int .i64 t.st, .int .i64 t.on, .sl 0 0 3 0 t.fr.length none, .sl 2 0 1 0 t.sk.length none, .int .i64 t.code] ∧ os' = [one (.row 34 3 false (RL s f 1)), rowI f.ls, rowI t.sk]) := by
  obtain ⟨h1, h2, h3⟩ := h
  have hl' : t.fr.length = s.length + 1 := by rw [hs]; simp
  refine Spec.weak (post := fun d os' => d = .agg [.int .i64 t.st, .int .i64 t.on, .sl 2 0 3 0 t.fr.length none, .sl 5 0 1 0 t.sk.length none, .int .i64 t.code] ∧ ∃ a b : Fam, os' = [a, b, one (.row 34 3 false (RL s f 3)), rowI f.ls, one .gone, rowI t.sk]) ?_ ?_
  · refine Spec.by Try.func59 rfl (by decide) (by decide +kernel) rfl ?_
    (conv => whnf); repeat ((first | with_reducible (first | refine Pt.go ?_ | refine dA ?_ | refine dL ?_) | refine Br.t ?_ | refine Br.f ?_ | refine bT ?_ | refine bF ?_ | refine Opt.mk ?_ | with_reducible refine aR ?_ | refine ⟨fun h => absurd (congrArg List.length h) (Nat.succ_ne_zero _), fun _ => ?_⟩ | refine aC ?_ | refine apG ?_); conv => whnf)
    refine Loop.inv (A := Nat × Bool) [] (fun a => [(4, .int .i64 (a.1 : Int)), (3, .sl 2 0 3 0 a.1 none)]) (fun a => bif a.2 then [one (.row 29 5 false [thD t]), one (.row 29 5 false [z29]), one (.row 34 3 false (RL s f 3)), rowI f.ls] else [one (.row 29 5 false [thD t]), one (.row 29 5 false [z29]), rowF (t.fr.take a.1)]) (fun a => bif a.2 then a.1 = t.fr.length else a.1 < t.fr.length) (fun a => t.fr.length - a.1) (0, false) (by show 0 < t.fr.length; omega) ?_ ?_
    · refine Weak.trans (Weak.nilrow 3 rfl 34 3 true) ?_
      exact Weak.start' rfl rfl ⟨rfl, rfl, trivial⟩
    rintro ⟨i, b⟩ hi
    cases b with
    | true =>
      dsimp only [cond_true] at hi ⊢
      have hno : ¬ ((i : Int) < ((t.fr.map frD).length : Int)) := by rw [List.length_map]; omega
      (conv => whnf); repeat ((first | with_reducible (first | refine dA ?_ | refine dL ?_) | refine Br.t ?_ | refine Br.f ?_ | refine bT ?_ | refine bF ?_ | refine Opt.mk ?_ | with_reducible refine aR ?_ | refine ⟨fun h => absurd (congrArg List.length h) (Nat.succ_ne_zero _), fun _ => ?_⟩ | refine aC ?_ | refine apG ?_); conv => whnf)
      ((with_reducible refine Pt.go ?_); conv => whnf)
      (conv => whnf); repeat ((first | with_reducible (first | refine dA ?_ | refine dL ?_) | refine Br.t ?_ | refine Br.f ?_ | refine bT ?_ | refine bF ?_ | refine Opt.mk ?_ | with_reducible refine aR ?_ | refine ⟨fun h => absurd (congrArg List.length h) (Nat.succ_ne_zero _), fun _ => ?_⟩ | refine aC ?_ | refine apG ?_); conv => whnf)
      ((with_reducible refine Pt.go ?_); conv => whnf)
      (conv => whnf); repeat ((first | with_reducible (first | refine dA ?_ | refine dL ?_) | refine Br.t ?_ | refine Br.f ?_ | refine bT ?_ | refine bF ?_ | refine Opt.mk ?_ | with_reducible refine aR ?_ | refine ⟨fun h => absurd (congrArg List.length h) (Nat.succ_ne_zero _), fun _ => ?_⟩ | refine aC ?_ | refine apG ?_); conv => whnf)
      ((with_reducible refine Pt.go ?_); conv => whnf)
      (conv => whnf); repeat ((first | with_reducible (first | refine dA ?_ | refine dL ?_) | refine Br.t ?_ | refine Br.f ?_ | refine bT ?_ | refine bF ?_ | refine Opt.mk ?_ | with_reducible refine aR ?_ | refine ⟨fun h => absurd (congrArg List.length h) (Nat.succ_ne_zero _), fun _ => ?_⟩ | refine aC ?_ | refine apG ?_); conv => whnf)
      refine Pt.weak (Weak.nilrow 7 rfl 3 1 true) ?_
      (conv => whnf); repeat ((first | with_reducible (first | refine Pt.go ?_ | refine dA ?_ | refine dL ?_) | refine Br.t ?_ | refine Br.f ?_ | refine bT ?_ | refine bF ?_ | refine Opt.mk ?_ | with_reducible refine aR ?_ | refine ⟨fun h => absurd (congrArg List.length h) (Nat.succ_ne_zero _), fun _ => ?_⟩ | refine aC ?_ | refine apG ?_); conv => whnf)
      refine Ret.mk [.cell 2 29] rfl ?_; (conv => whnf); repeat ((first | with_reducible (first | refine Pt.go ?_ | refine dA ?_ | refine dL ?_) | refine Br.t ?_ | refine Br.f ?_ | refine bT ?_ | refine bF ?_ | refine Opt.mk ?_ | with_reducible refine aR ?_ | refine ⟨fun h => absurd (congrArg List.length h) (Nat.succ_ne_zero _), fun _ => ?_⟩ | refine aC ?_ | refine apG ?_); conv => whnf)
      refine ⟨?_, _, _, rfl⟩
      show D.agg [.int .i64 t.st, .int .i64 t.on, .sl 2 0 3 0 i none, .sl 5 0 1 0 (0 + (t.sk.map (D.int .i64)).length) none, .int .i64 t.code] = _
      simp [hi]
    | false =>
      dsimp only [cond_false] at hi ⊢
      have hyes : ((i : Int) < ((t.fr.map frD).length : Int)) := by rw [List.length_map]; omega
      obtain ⟨x, hget⟩ : ∃ x, t.fr[i]? = some x := ⟨_, List.getElem?_eq_getElem hi⟩
      have hls := h3 _ (List.mem_of_getElem? hget)
      (conv => whnf); repeat ((first | with_reducible (first | refine dA ?_ | refine dL ?_) | refine Br.t ?_ | refine Br.f ?_ | refine bT ?_ | refine bF ?_ | refine Opt.mk ?_ | with_reducible refine aR ?_ | refine ⟨fun h => absurd (congrArg List.length h) (Nat.succ_ne_zero _), fun _ => ?_⟩ | refine aC ?_ | refine apG ?_); conv => whnf)
      ((with_reducible refine Pt.go ?_); conv => whnf)
      (conv => whnf); repeat ((first | with_reducible (first | refine dA ?_ | refine dL ?_) | refine Br.t ?_ | refine Br.f ?_ | refine bT ?_ | refine bF ?_ | refine Opt.mk ?_ | with_reducible refine aR ?_ | refine ⟨fun h => absurd (congrArg List.length h) (Nat.succ_ne_zero _), fun _ => ?_⟩ | refine aC ?_ | refine apG ?_); conv => whnf)
      ((with_reducible refine Pt.go ?_); conv => whnf)
      (conv => whnf); repeat ((first | with_reducible (first | refine dA ?_ | refine dL ?_) | refine Br.t ?_ | refine Br.f ?_ | refine bT ?_ | refine bF ?_ | refine Opt.mk ?_ | with_reducible refine aR ?_ | refine ⟨fun h => absurd (congrArg List.length h) (Nat.succ_ne_zero _), fun _ => ?_⟩ | refine aC ?_ | refine apG ?_); conv => whnf)
      refine Opt.of (get_map hget) ?_
      (conv => whnf); repeat ((first | with_reducible (first | refine dA ?_ | refine dL ?_) | refine Br.t ?_ | refine Br.f ?_ | refine bT ?_ | refine bF ?_ | refine Opt.mk ?_ | with_reducible refine aR ?_ | refine ⟨fun h => absurd (congrArg List.length h) (Nat.succ_ne_zero _), fun _ => ?_⟩ | refine aC ?_ | refine apG ?_); conv => whnf)
      ((with_reducible refine Pt.go ?_); conv => whnf)
      (conv => whnf); repeat ((first | with_reducible (first | refine dA ?_ | refine dL ?_) | refine Br.t ?_ | refine Br.f ?_ | refine bT ?_ | refine bF ?_ | refine Opt.mk ?_ | with_reducible refine aR ?_ | refine ⟨fun h => absurd (congrArg List.length h) (Nat.succ_ne_zero _), fun _ => ?_⟩ | refine aC ?_ | refine apG ?_); conv => whnf)
      refine Pt.weak (Weak.nilrow 6 rfl 3 1 true) ?_
      ((with_reducible refine Pt.go ?_); conv => whnf)
      (conv => whnf); repeat ((first | with_reducible (first | refine dA ?_ | refine dL ?_) | refine Br.t ?_ | refine Br.f ?_ | refine bT ?_ | refine bF ?_ | refine Opt.mk ?_ | with_reducible refine aR ?_ | refine ⟨fun h => absurd (congrArg List.length h) (Nat.succ_ne_zero _), fun _ => ?_⟩ | refine aC ?_ | refine apG ?_); conv => whnf)
      by_cases hlast : i + 1 < t.fr.length
      · refine Pt.weak (Weak.frzO (fun i => Nat.beq i 5) [] 3 (ty := 34) (sz := 3) (es := [.agg [.int .i64 x.fn, .int .i64 x.pc, .sl 5 0 1 0 (0 + (x.ls.map (D.int .i64)).length) none]]) rfl rfl [frD x] rfl ?_ trivial) ?_
        · refine .cons (.agg (.cons (.same _) (.cons (.same _) (.cons (View.slAll rfl rfl ?_ ?_ (ViewL.same _) (pureL_map (fun _ => rfl) _)) .nil)))) .nil
          · simp
          · simp
        ((with_reducible refine Pt.go ?_); conv => whnf)
        (conv => whnf); repeat ((first | with_reducible (first | refine dA ?_ | refine dL ?_) | refine Br.t ?_ | refine Br.f ?_ | refine bT ?_ | refine bF ?_ | refine Opt.mk ?_ | with_reducible refine aR ?_ | refine ⟨fun h => absurd (congrArg List.length h) (Nat.succ_ne_zero _), fun _ => ?_⟩ | refine aC ?_ | refine apG ?_); conv => whnf)
        refine App.only false rfl rfl ?_
        (conv => whnf); repeat ((first | with_reducible (first | refine dA ?_ | refine dL ?_) | refine Br.t ?_ | refine Br.f ?_ | refine bT ?_ | refine bF ?_ | refine Opt.mk ?_ | with_reducible refine aR ?_ | refine ⟨fun h => absurd (congrArg List.length h) (Nat.succ_ne_zero _), fun _ => ?_⟩ | refine aC ?_ | refine apG ?_); conv => whnf)
        ((with_reducible refine Pt.go ?_); conv => whnf)
        (conv => whnf); repeat ((first | with_reducible (first | refine dA ?_ | refine dL ?_) | refine Br.t ?_ | refine Br.f ?_ | refine bT ?_ | refine bF ?_ | refine Opt.mk ?_ | with_reducible refine aR ?_ | refine ⟨fun h => absurd (congrArg List.length h) (Nat.succ_ne_zero _), fun _ => ?_⟩ | refine aC ?_ | refine apG ?_); conv => whnf)
        refine ⟨_, _, _, ?_, ⟨(i + 1, false), ?_, rfl, rfl, rfl⟩, ?_⟩
        · show t.fr.length - (i + 1) < t.fr.length - i
          omega
        · exact hlast
        · refine Weak.trans (Weak.shift 6 2 (by decide) (by simp) (Nat.le_of_ble_eq_true rfl) (Nat.le_of_ble_eq_true rfl) (fun j => by cases j <;> rfl) rfl) ?_
          refine Weak.backT 3 (by simp) ?_ rfl (Nat.le_of_ble_eq_true rfl) ?_ rfl rfl
          · have e : (t.fr.take i).map frD ++ [frD x] = (t.fr.take (i + 1)).map frD := by
              rw [List.take_add_one, hget, List.map_append]; rfl
            exact congrArg (fun r => ([one (.row 29 5 false [thD t]), one (.row 29 5 false [z29]), one (.row 34 3 true r)] : Objs)) e
          · exact ⟨rfl, rfl, trivial⟩
      · have hil : i = s.length := by omega
        have hxf : x = f := by rw [hil, hs] at hget; simp at hget; exact hget.symm
        subst hxf
        have hts : (t.fr.take i).map frD = s.map frD := by rw [hil, hs]; simp
        have hlen : (x.ls.map (D.int .i64)).length = x.ls.length := List.length_map ..
        refine Pt.weak (Weak.unpure 2 rfl) ?_
        ((with_reducible refine Pt.go ?_); conv => whnf)
        (conv => whnf); repeat ((first | with_reducible (first | refine dA ?_ | refine dL ?_) | refine Br.t ?_ | refine Br.f ?_ | refine bT ?_ | refine bF ?_ | refine Opt.mk ?_ | with_reducible refine aR ?_ | refine ⟨fun h => absurd (congrArg List.length h) (Nat.succ_ne_zero _), fun _ => ?_⟩ | refine aC ?_ | refine apG ?_); conv => whnf)
        refine App.own ?_
        (conv => whnf); repeat ((first | with_reducible (first | refine dA ?_ | refine dL ?_) | refine Br.t ?_ | refine Br.f ?_ | refine bT ?_ | refine bF ?_ | refine Opt.mk ?_ | with_reducible refine aR ?_ | refine ⟨fun h => absurd (congrArg List.length h) (Nat.succ_ne_zero _), fun _ => ?_⟩ | refine aC ?_ | refine apG ?_); conv => whnf)
        ((with_reducible refine Pt.go ?_); conv => whnf)
        (conv => whnf); repeat ((first | with_reducible (first | refine dA ?_ | refine dL ?_) | refine Br.t ?_ | refine Br.f ?_ | refine bT ?_ | refine bF ?_ | refine Opt.mk ?_ | with_reducible refine aR ?_ | refine ⟨fun h => absurd (congrArg List.length h) (Nat.succ_ne_zero _), fun _ => ?_⟩ | refine aC ?_ | refine apG ?_); conv => whnf)
        refine ⟨_, _, _, ?_, ⟨(i + 1, true), ?_, rfl, rfl, rfl⟩, ?_⟩
        · show t.fr.length - (i + 1) < t.fr.length - i
          omega
        · show i + 1 = t.fr.length
          omega
        · refine Weak.trans (Weak.objs (os' := [one (.row 29 5 false [thD t]), one (.row 29 5 false [z29]), one .gone, one (.row 34 3 false [.agg [.int .i64 x.fn, .int .i64 x.pc, .sl 5 0 1 0 (0 + (x.ls.map (D.int .i64)).length) none]]), one .gone, rowI x.ls, one (.row 34 3 false [.agg [.int .i64 x.fn, .int .i64 x.pc, .sl 5 0 1 0 (0 + (x.ls.map (D.int .i64)).length) none]]), one (.row 34 3 false ((t.fr.take i).map frD ++ [.agg [.int .i64 x.fn, .int .i64 x.pc, .sl 5 0 1 0 (0 + (x.ls.map (D.int .i64)).length) none]]))]) (by kernel_rfl)) ?_
          refine Weak.trans (Weak.objs (os' := [one (.row 29 5 false [thD t]), one (.row 29 5 false [z29]), one .gone, one (.row 34 3 false [.agg [.int .i64 x.fn, .int .i64 x.pc, .sl 5 0 1 0 x.ls.length none]]), one .gone, rowI x.ls, one (.row 34 3 false [.agg [.int .i64 x.fn, .int .i64 x.pc, .sl 5 0 1 0 x.ls.length none]]), one (.row 34 3 false (s.map frD ++ [.agg [.int .i64 x.fn, .int .i64 x.pc, .sl 5 0 1 0 x.ls.length none]]))]) (by rw [hts, Nat.zero_add, hlen])) ?_
          refine Weak.trans (Weak.frzK (fun i => Nat.beq i 3 || Nat.beq i 6) [] trivial) ?_
          refine Weak.trans (Weak.objs (os' := [one (.row 29 5 false [thD t]), one (.row 29 5 false [z29]), one .gone, one .gone, one .gone, rowI x.ls, one .gone, one (.row 34 3 false (RL s x 5))]) (by kernel_rfl)) ?_
          refine Weak.trans (Weak.shift 7 2 (by decide) (by simp) (Nat.le_of_ble_eq_true rfl) (Nat.le_of_ble_eq_true rfl) (fun j => by cases j <;> rfl) (by simp [Fam.names, O.names, D.namesL, D.names, RL_names s x 5 2 rfl])) ?_
          refine Weak.trans (Weak.objs (os' := [one (.row 29 5 false [thD t]), one (.row 29 5 false [z29]), one (.row 34 3 false (RL s x 5)), one .gone, one .gone, rowI x.ls, one .gone, one .gone]) (congrArg (fun r => ([one (.row 29 5 false [thD t]), one (.row 29 5 false [z29]), one (.row 34 3 false r), one .gone, one .gone, rowI x.ls, one .gone, one .gone] : Objs)) (RL_ren s x 5 7 2 rfl))) ?_
          refine Weak.trans (Weak.shift 5 3 (by decide) (by simp) (Nat.le_of_ble_eq_true rfl) (Nat.le_of_ble_eq_true rfl) (fun j => by cases j <;> rfl) (by simp [Fam.names, O.names, D.namesL, D.names, RL_names s x 5 3 rfl])) ?_
          refine Weak.trans (Weak.objs (os' := [one (.row 29 5 false [thD t]), one (.row 29 5 false [z29]), one (.row 34 3 false (RL s x 3)), rowI x.ls, one .gone, one .gone, one .gone, one .gone]) (congrArg (fun r => ([one (.row 29 5 false [thD t]), one (.row 29 5 false [z29]), one (.row 34 3 false r), rowI x.ls, one .gone, one .gone, one .gone, one .gone] : Objs)) (RL_ren' s x 5 3))) ?_
          refine Weak.backT 4 (by simp) (by first | rfl | kernel_rfl) (by simp [Fam.lt, O.lt, D.lt, D.ltL, RL_lt s x 3 4 rfl]) (Nat.le_of_ble_eq_true rfl) (by repeat (first | exact trivial | refine And.intro (by first | rfl | exact congrArg (fun n => D.sl _ _ _ _ n none) List.length_append | exact congrArg _ (by omega)) ?_)) (by kernel_rfl) (by kernel_rfl)
  · rintro d os' ⟨rfl, a, b, rfl⟩
    refine ⟨_, _, Weak.trans (Weak.frzK (fun i => Nat.blt i 2) [] trivial) (Weak.trans (Weak.objs (os' := [one .gone, one .gone, one (.row 34 3 false (RL s f 3)), rowI f.ls, one .gone, rowI t.sk]) rfl) (Weak.trans (Weak.shift 2 0 (by decide) (by simp) (by simp) (by simp) (fun j => by cases j <;> rfl) (by simp [Fam.names, O.names, RL_names s f 3 0 rfl])) (Weak.trans (Weak.objs (os' := [one (.row 34 3 false (RL s f 3)), one .gone, one .gone, rowI f.ls, one .gone, rowI t.sk]) (congrArg (fun r => ([one (.row 34 3 false r), one .gone, one .gone, rowI f.ls, one .gone, rowI t.sk] : Objs)) (RL_ren s f 3 2 0 rfl))) (Weak.trans (Weak.shift 3 1 (by decide) (by simp) (by simp) (by simp) (fun j => by cases j <;> rfl) (by simp [Fam.names, O.names, RL_names s f 3 1 rfl])) (Weak.trans (Weak.objs (os' := [one (.row 34 3 false (RL s f 1)), rowI f.ls, one .gone, one .gone, one .gone, rowI t.sk]) (congrArg (fun r => ([one (.row 34 3 false r), rowI f.ls, one .gone, one .gone, one .gone, rowI t.sk] : Objs)) (RL_ren' s f 3 1))) (Weak.trans (Weak.shift 5 2 (by decide) (by simp) (by simp) (by simp) (fun j => by cases j <;> rfl) (by simp [Fam.names, O.names, RL_names s f 1 2 rfl])) (Weak.trans (Weak.objs (os' := [one (.row 34 3 false (RL s f 1)), rowI f.ls, rowI t.sk, one .gone, one .gone, one .gone]) (congrArg (fun r => ([one (.row 34 3 false r), rowI f.ls, rowI t.sk, one .gone, one .gone, one .gone] : Objs)) (RL_ren s f 1 5 2 rfl))) (Weak.trim 3 (by simp) (by simp [Fam.lt, O.lt, RL_lt s f 1 3 rfl]) (by simp))))))))), rfl, rfl⟩
end Go.Proofs.Ytaplihoeephbeaa.V
