/- S14: a text of a symbolic executor that is proved sound, and contracts that are proved with it. -/
import Derived.Test.YtaplihoeephbeaaS13
import Derived.Test.YtaplihoeephbeaaS11a
set_option linter.unusedVariables false
set_option linter.unusedSimpArgs false
namespace Go.Proofs.Ytaplihoeephbeaa.V
open Go Go.Proofs
set_option maxRecDepth 100000
set_option maxHeartbeats 4000000
theorem numbers110 (xs : List Int) (m : Int) (hm : 0 ≤ m ∧ m ≤ 100) (hl : xs.length ≤ 9223372036854775806) : Spec Try.prog 110 [ints xs, .int .i64 m] [] (fun d os' => ∃ l, kept l = true ∧ (l.length : Int) ≤ m ∧ d = .sl 0 0 1 0 l.length none ∧ os' = [rowI l]) := by
  refine Spec.by Try.func110 rfl (by decide) (by decide +kernel) rfl ?_
  (refine goA ?_)
  refine Loop.inv2 (A := Nat × List Int) 0 (List.range 27) (fun a => [(6, .int .i64 (a.1 : Int)), (5, .sl 0 0 1 0 a.2.length none), (0, ints xs), (1, .int .i64 m)]) (fun a => [rowI a.2]) (fun a => a.1 ≤ xs.length ∧ (a.1 : Int) ≤ m ∧ a.2.length = a.1 ∧ kept a.2 = true) (fun a => (a.2.length : Int) ≤ m ∧ kept a.2 = true) (fun a => xs.length - a.1) (0, []) ⟨Nat.zero_le _, by simp; omega, rfl, rfl⟩ ?_ ?_ ?_
  · refine Weak.trans (Weak.nilrow 5 rfl 3 1 true) ?_
    exact Weak.start' rfl rfl tld
  · intro cont
    rintro ⟨i, l⟩ ⟨hi, h4, hil, hk⟩
    dsimp only at hi h4 hil hk ⊢
    (refine goA ?_)
    refine Br.dec (fun h => ?_) (fun h => ?_)
    · (refine goA ?_)
      refine Br.dec (fun h2 => ?_) (fun h2 => ?_)
      · simp only [List.length_map] at h
        (refine goA ?_)
        refine Opt.of (get_map (List.getElem?_eq_getElem (l := xs) (i := i) (by omega))) ?_
        (refine goA ?_)
        refine Call.mk (keep36 xs[i] _) ?_
        rintro d os' ⟨rfl, rfl⟩
        (refine goA ?_)
        refine App.only false rfl rfl ?_
        (refine goA ?_)
        refine ⟨_, _, _, ?_, ⟨(i + 1, l ++ [keep xs[i]]), ?_, rfl, rfl, rfl⟩, ?_⟩
        · show xs.length - (i + 1) < xs.length - i
          omega
        · refine ⟨by show i + 1 ≤ _; omega, by show ((i + 1 : Nat) : Int) ≤ m; omega, by simp [hil], ?_⟩
          rw [kept_iff] at hk ⊢
          intro v hv
          rcases List.mem_append.1 hv with hv | hv
          · exact hk v hv
          · simp at hv; subst hv; exact keep_range _
        · refine Weak.trans (Weak.shift 1 0 (by decide) (by simp) (Nat.le_of_ble_eq_true rfl) (Nat.le_of_ble_eq_true rfl) (fun j => by cases j <;> rfl) rfl) ?_
          refine Weak.backT 1 (by simp) ?_ (by kernel_rfl) (Nat.le_of_ble_eq_true rfl) tld (by kernel_rfl) (by kernel_rfl)
          exact congrArg (fun r => ([one (.row 3 1 true r)] : Objs)) (map_snoc _ _)
      · (refine goR ?_)
        refine Pt.weak ?_ (cont.h (i, l) ?_)
        · refine Weak.backT 1 (by simp) (by first | rfl | kernel_rfl) (by kernel_rfl) (Nat.le_of_ble_eq_true rfl) tld (by kernel_rfl) (by kernel_rfl)
        · exact ⟨by show (l.length : Int) ≤ m; omega, hk⟩
    · (refine goR ?_)
      refine Pt.weak ?_ (cont.h (i, l) ?_)
      · refine Weak.backT 1 (by simp) (by first | rfl | kernel_rfl) (by kernel_rfl) (Nat.le_of_ble_eq_true rfl) tld (by kernel_rfl) (by kernel_rfl)
      · exact ⟨by show (l.length : Int) ≤ m; omega, hk⟩
  · rintro ⟨i, l⟩ ⟨hl, hk⟩
    dsimp only at hl hk ⊢
    (refine goA ?_)
    refine Ret.mk [.tmp 4] rfl ?_; (refine goA ?_)
    exact ⟨l, hk, hl, rfl, rfl⟩
theorem frame111 (p : Pg) (f : Nat) (u : Fu) (hu : p.fu[f]? = some u) (h0 : 0 ≤ u.loc ∧ u.loc ≤ 100) : Spec Try.prog 111 [pgD p, .int .i64 f] [] (fun d os' => d = .agg [.int .i64 f, .int .i64 0, .sl 0 0 1 0 u.loc.toNat none] ∧ os' = [rowI (List.replicate u.loc.toNat 0)]) := by
  refine Spec.weak (post := fun d os' => d = .agg [.int .i64 f, .int .i64 0, .sl 2 0 1 0 u.loc.toNat none] ∧ ∃ a b : Fam, os' = [a, b, rowI (List.replicate u.loc.toNat 0)]) ?_ ?_
  · refine Spec.by Try.func111 rfl (by decide) (by decide +kernel) rfl ?_
    (refine goA ?_)
    refine Opt.of (get_map hu) ?_
    (refine goA ?_)
    refine App.own ?_
    (refine goA ?_)
    refine Ret.mk [.cell 4 34] rfl ?_; (refine goA ?_)
    refine ⟨_, _, congrArg (fun r => ([_, _, one (.row 3 1 true r)] : Objs)) (?_ : List.replicate u.loc.toNat (D.int .i64 0) = _)⟩
    rw [List.map_replicate]
  · rintro d os' ⟨rfl, a, b, rfl⟩
    refine ⟨_, _, Weak.trans (Weak.frzK (fun i => Nat.blt i 2) [] trivial) (Weak.trans (Weak.shift 2 0 (by decide) (by simp) (by simp [dropF]) (by simp [dropF]) (fun j => by cases j <;> rfl) rfl) (Weak.trim 1 (by simp) rfl (by simp [dropF]))), rfl, rfl⟩
theorem frame111f (p : Pg) (f : Nat) (u : Fu) (hu : p.fu[f]? = some u) (h0 : 0 ≤ u.loc ∧ u.loc ≤ 100) : Spec Try.prog 111 [pgD p, .int .i64 f] [] (fun d os' => d = frD ⟨f, 0, List.replicate u.loc.toNat 0⟩ ∧ os' = []) := by
  refine Spec.frz (post' := fun d => d = frD ⟨f, 0, List.replicate u.loc.toNat 0⟩) ((frame111 p f u hu h0).mono ?_)
  rintro d os' ⟨rfl, rfl⟩
  exact ⟨_, View.agg (.cons (.same _) (.cons (.same _) (.cons (View.slAll rfl rfl (by simp) (by simp) (ViewL.same _) (pureL_map (fun _ => rfl) _)) .nil))), rfl, rfl⟩
theorem odd_not {g : Pg} {k : Nat} {u : Fu} (hu : g.fu[k]? = some u) {pc : Int} (hpc : 0 ≤ pc ∧ pc ≤ u.code.length) {l : List Int} (hl : l.length = u.loc.toNat) (h0 : 0 ≤ u.loc) (hk : kept l = true) : oddF g ⟨k, pc, l⟩ = false := by
  have hkl := (List.getElem?_eq_some_iff.1 hu).1
  unfold oddF
  dsimp only
  rw [if_neg (by omega), Int.toNat_natCast, hu]
  dsimp only
  rw [decide_eq_false (by omega), decide_eq_false (by omega), decide_eq_false (by omega), hk]
  rfl
/-- A thread that is made: Ready, with frames. -/
structure GoodT (g : Pg) (x : Th) : Prop where
  st : x.st = 0
  on : x.on = 0
  code : x.code = 0
  sk : x.sk.length ≤ 16
  kp : kept x.sk = true
  fl : 1 ≤ x.fr.length ∧ x.fr.length ≤ 8
  fr : ∀ f ∈ x.fr, oddF g f = false
structure Th.okR (t : Th) : Prop where
  b : t.okB
  fr : ∀ f ∈ t.fr, I64 f.fn ∧ I64 f.pc
@[reducible] def tO (g : Pg) (t : Th) (sk : List Int) (n : Nat) (fr : List Fm) (r : Objs) : Objs :=
  one (.row 26 7 false [pgD g]) :: one (.row 29 5 false [thD t]) :: one (.row 29 5 false [z29]) :: rowI sk :: one (.row 29 5 false [.agg [.int .i64 0, .int .i64 0, .sl 5 0 3 0 n none, .sl 3 0 1 0 sk.length none, .int .i64 0]]) :: rowF fr :: r
@[reducible] def P30 : List (Nat × D) := [(2, .ptr 0 0 7 0 0), (3, .ptr 1 0 5 0 0), (4, .ptr 2 0 5 0 0), (5, .ptr 4 0 5 0 0)]
theorem good30 (g : Pg) (hg : GoodP g) (t : Th) (ht : t.okR) : Spec Try.prog 30 [pgD g, thD t] [] (fun d os' => ∃ x, GoodT g x ∧ d = .agg [.int .i64 0, .int .i64 0, .sl 0 0 3 0 x.fr.length none, .sl 1 0 1 0 x.sk.length none, .int .i64 0] ∧ os' = [rowF x.fr, rowI x.sk]) := by
  refine Spec.weak (post := fun d os' => ∃ x, GoodT g x ∧ d = .agg [.int .i64 0, .int .i64 0, .sl 5 0 3 0 x.fr.length none, .sl 3 0 1 0 x.sk.length none, .int .i64 0] ∧ ∃ a b c e : Fam, os' = [a, b, c, rowI x.sk, e, rowF x.fr]) ?_ ?_
  · obtain ⟨⟨h1, h2, h3⟩, h4⟩ := ht
    have hfu := hg.sz.fu
    have hfu' : 1 ≤ (g.fu.map fuD).length ∧ (g.fu.map fuD).length ≤ 4 := by rw [List.length_map]; exact hfu
    refine Spec.by Try.func30 rfl (by decide) (by decide +kernel) rfl ?_
    (refine goA ?_)
    refine Call.mk ((numbers110 t.sk 16 (by omega) (by omega)).onto _ rfl) ?_
    rintro d os' ⟨d1, os1, ⟨sk, hsk, hskl, rfl, rfl⟩, rfl, rfl⟩
    (refine goA ?_)
    refine Loop.inv2 (A := Nat × List Fm) 0 (List.range 100) (fun a => (6, .int .i64 (a.1 : Int)) :: P30) (fun a => tO g t sk a.2.length a.2 []) (fun a => a.1 ≤ t.fr.length ∧ a.1 ≤ 8 ∧ a.2.length = a.1 ∧ ∀ f ∈ a.2, oddF g f = false) (fun a => a.2.length ≤ 8 ∧ ∀ f ∈ a.2, oddF g f = false) (fun a => 8 - a.1) (0, []) ⟨Nat.zero_le _, by omega, rfl, by simp⟩ ?_ ?_ ?_
    · refine Weak.trans (Weak.nilO 4 5 rfl (es := [.agg [.int .i64 0, .int .i64 0, .nils, .sl 3 0 1 0 sk.length none, .int .i64 0]]) rfl [.agg [.int .i64 0, .int .i64 0, .sl 5 0 3 0 0 none, .sl 3 0 1 0 sk.length none, .int .i64 0]] rfl (.cons (.agg (.cons (.same _ _) (.cons (.same _ _) (.cons (.nils _ _) (.same _ _))))) (.same _ _)) 34 3 true) ?_
      exact Weak.start' rfl rfl tld
    · intro cont
      rintro ⟨i, fr⟩ ⟨hi, h8, hil, hodd⟩
      dsimp only at hi h8 hil hodd ⊢
      (refine goA ?_)
      refine Br.dec (fun c1 => ?_) (fun c1 => ?_)
      · (refine goA ?_)
        refine Br.dec (fun c2 => ?_) (fun c2 => ?_)
        · simp only [List.length_map] at c1
          have hgf : t.fr[i]? = some (t.fr[i]'(by omega)) := List.getElem?_eq_getElem (by omega)
          have hin := h3 _ (List.getElem_mem (l := t.fr) (n := i) (by omega))
          have hin4 := h4 _ (List.getElem_mem (l := t.fr) (n := i) (by omega))
          generalize t.fr[i] = f at hgf hin hin4
          have hr := around_lt f.fn (g.fu.map fuD).length (by omega)
          obtain ⟨k, hk⟩ : ∃ k : Nat, around f.fn (g.fu.map fuD).length = (k : Int) := ⟨(around f.fn (g.fu.map fuD).length).toNat, by omega⟩
          rw [hk] at hr
          have hkl : k < g.fu.length := by rw [List.length_map] at hr; omega
          obtain ⟨u, hu⟩ : ∃ u, g.fu[k]? = some u := ⟨_, List.getElem?_eq_getElem hkl⟩
          have hgu := hg.fu u (List.mem_of_getElem? hu)
          have hul : (u.code.map inD).length ≤ 24 := by rw [List.length_map]; exact hgu.2.1
          (refine goA ?_)
          refine Opt.of (get_map hgf) ?_
          (refine goA ?_)
          refine Call.mk ((around33 f.fn (g.fu.map fuD).length hin4.1 (by omega)).only _ rfl (by rintro d rfl; rfl)) ?_
          rintro d os' ⟨rfl, rfl⟩
          rw [hk]
          (refine goA ?_)
          refine Call.mk ((frame111 g k u hu (by have := hgu.1; omega)).onto _ rfl) ?_
          rintro d os' ⟨d1, os1, ⟨rfl, rfl⟩, rfl, rfl⟩
          (refine goA ?_)
          refine Opt.of (get_map hgf) ?_
          (refine goA ?_)
          refine Opt.of (get_map hu) ?_
          (refine goA ?_)
          refine Call.mk ((around33 f.pc ((u.code.map inD).length + 1) hin4.2 (by omega)).only _ rfl (by rintro d rfl; rfl)) ?_
          rintro d os' ⟨rfl, rfl⟩
          have hpc := around_lt f.pc ((u.code.map inD).length + 1) (by omega)
          generalize around f.pc ((u.code.map inD).length + 1) = pc at hpc ⊢
          (refine goA ?_)
          generalize hn : u.loc.toNat = n
          refine Loop.inv2 (A := Nat × List Int) 2 (List.range 100) (fun a => (8, .int .i64 (a.1 : Int)) :: (6, .int .i64 (i : Int)) :: (7, .ptr 7 0 3 0 0) :: P30) (fun a => tO g t sk fr.length fr [rowI a.2, one (.row 34 3 false [.agg [.int .i64 k, .int .i64 pc, .sl 6 0 1 0 n none]])])
            (fun a => a.1 ≤ n ∧ a.2.length = n ∧ kept a.2 = true) (fun a => a.2.length = n ∧ kept a.2 = true) (fun a => n - a.1) (0, List.replicate n 0) ⟨Nat.zero_le _, by simp, by rw [kept_iff]; intro v hv; have := List.eq_of_mem_replicate hv; omega⟩ ?_ ?_ ?_
          · exact Weak.start' (by first | rfl | kernel_rfl) (by first | rfl | kernel_rfl) tld
          · intro cont2
            rintro ⟨j, l⟩ ⟨hj, hll, hlk⟩
            dsimp only at hj hll hlk ⊢
            (refine goA ?_)
            refine Br.dec (fun c3 => ?_) (fun c3 => ?_)
            · (refine goA ?_)
              refine Opt.of (get_map hgf) ?_
              (refine goA ?_)
              refine Br.dec (fun c4 => ?_) (fun c4 => ?_)
              · simp only [List.length_map] at c4
                have hls : f.ls[j]? = some (f.ls[j]'(by omega)) := List.getElem?_eq_getElem (by omega)
                generalize f.ls[j] = v at hls
                have hlj : l[0 + j]? = some (l[j]'(by omega)) := by rw [Nat.zero_add]; exact List.getElem?_eq_getElem (by omega)
                (refine goA ?_)
                refine Opt.of (get_map hgf) ?_
                (refine goA ?_)
                refine Opt.of (get_map hls) ?_
                (refine goA ?_)
                refine Call.mk (keep36 v _) ?_
                rintro d os' ⟨rfl, rfl⟩
                (refine goA ?_)
                refine Opt.of (get_map hlj) ?_
                (refine goA ?_)
                refine ⟨_, _, _, ?_, ⟨(j + 1, l.set j (keep v)), ?_, rfl, rfl, rfl⟩, ?_⟩
                · show n - (j + 1) < n - j
                  omega
                · refine ⟨by show j + 1 ≤ _; omega, by simp [hll], ?_⟩
                  rw [kept_iff] at hlk ⊢
                  intro x hx
                  rcases List.mem_or_eq_of_mem_set hx with hx | rfl
                  · exact hlk x hx
                  · exact keep_range _
                · refine Weak.backT 8 (by simp) ?_ (by kernel_rfl) (Nat.le_of_ble_eq_true rfl) tld (by kernel_rfl) (by kernel_rfl)
                  have e : (l.map (D.int .i64)).set (0 + j) (.int .i64 (keep v)) = (l.set j (keep v)).map (D.int .i64) := by rw [Nat.zero_add, List.map_set]
                  exact congrArg (fun r => tO g t sk fr.length fr [one (.row 3 1 true r), one (.row 34 3 false [.agg [.int .i64 k, .int .i64 pc, .sl 6 0 1 0 n none]])]) e
              · (refine goR ?_)
                refine Pt.weak ?_ (cont2.h (j, l) ?_)
                · refine Weak.backT 8 (by simp) (by first | rfl | kernel_rfl) (by kernel_rfl) (Nat.le_of_ble_eq_true rfl) tld (by kernel_rfl) (by kernel_rfl)
                · exact ⟨hll, hlk⟩
            · (refine goR ?_)
              refine Pt.weak ?_ (cont2.h (j, l) ?_)
              · refine Weak.backT 8 (by simp) (by first | rfl | kernel_rfl) (by kernel_rfl) (Nat.le_of_ble_eq_true rfl) tld (by kernel_rfl) (by kernel_rfl)
              · exact ⟨hll, hlk⟩
          · rintro ⟨j, l⟩ ⟨hll, hlk⟩
            dsimp only at hll hlk ⊢
            (refine goR ?_)
            refine Pt.weak (Weak.frzO (fun i => Nat.beq i 6) [] 7 (ty := 34) (sz := 3) (es := [.agg [.int .i64 k, .int .i64 pc, .sl 6 0 1 0 n none]]) rfl rfl [frD ⟨k, pc, l⟩] rfl ?_ trivial) ?_
            · exact .cons (.agg (.cons (.same _) (.cons (.same _) (.cons (View.slAll rfl rfl (by simp [hll]) (by simp) (ViewL.same _) (pureL_map (fun _ => rfl) _)) .nil)))) .nil
            (refine goA ?_)
            refine App.only false rfl rfl ?_
            (refine goA ?_)
            refine ⟨_, _, _, ?_, ⟨(i + 1, fr ++ [(⟨k, pc, l⟩ : Fm)]), ?_, rfl, rfl, rfl⟩, ?_⟩
            · show 8 - (i + 1) < 8 - i
              omega
            · refine ⟨by show i + 1 ≤ _; omega, by show i + 1 ≤ 8; omega, by simp [hil], fun x hx => ?_⟩
              rcases List.mem_append.1 hx with hx | hx
              · exact hodd x hx
              · simp at hx; subst hx
                rw [List.length_map] at hpc
                exact odd_not hu (by omega) (by rw [hll, hn]) hgu.1.1 hlk
            · refine Weak.trans (Weak.shift 8 5 (by decide) (by simp) (Nat.le_of_ble_eq_true rfl) (Nat.le_of_ble_eq_true rfl) (fun j => by cases j <;> rfl) rfl) ?_
              refine Weak.backT 6 (by simp) ?_ (by kernel_rfl) (Nat.le_of_ble_eq_true rfl) tld (by kernel_rfl) (by kernel_rfl)
              have e : fr.map frD ++ [frD ⟨k, pc, l⟩] = (fr ++ [(⟨k, pc, l⟩ : Fm)]).map frD := by simp
              have e2 : fr.length + 1 = (fr ++ [(⟨k, pc, l⟩ : Fm)]).length := by simp
              rw [← e2]
              exact congrArg (fun r => ([one (.row 26 7 false [pgD g]), one (.row 29 5 false [thD t]), one (.row 29 5 false [z29]), rowI sk, one (.row 29 5 false [.agg [.int .i64 0, .int .i64 0, .sl 5 0 3 0 (fr.length + 1) none, .sl 3 0 1 0 sk.length none, .int .i64 0]]), one (.row 34 3 true r)] : Objs)) e
        · (refine goR ?_)
          refine Pt.weak ?_ (cont.h (i, fr) ?_)
          · refine Weak.backT 6 (by simp) (by first | rfl | kernel_rfl) (by kernel_rfl) (Nat.le_of_ble_eq_true rfl) tld (by kernel_rfl) (by kernel_rfl)
          · exact ⟨by show fr.length ≤ 8; omega, hodd⟩
      · (refine goR ?_)
        refine Pt.weak ?_ (cont.h (i, fr) ?_)
        · refine Weak.backT 6 (by simp) (by first | rfl | kernel_rfl) (by kernel_rfl) (Nat.le_of_ble_eq_true rfl) tld (by kernel_rfl) (by kernel_rfl)
        · exact ⟨by show fr.length ≤ 8; omega, hodd⟩
    · rintro ⟨i, fr⟩ ⟨hfl, hodd⟩
      dsimp only at hfl hodd ⊢
      (refine goA ?_)
      refine Br.dec (fun c5 => ?_) (fun c5 => ?_)
      · obtain ⟨u, hu⟩ : ∃ u, g.fu[0]? = some u := ⟨_, List.getElem?_eq_getElem (by omega)⟩
        have hgu := hg.fu u (List.mem_of_getElem? hu)
        (refine goA ?_)
        refine Call.mk ((frame111f g 0 u hu (by have := hgu.1; omega)).only _ rfl (by rintro d rfl; rfl)) ?_
        rintro d os' ⟨rfl, rfl⟩
        (refine goR ?_)
        refine App.own ?_
        (refine goR ?_)
        refine Pt.weak (Weak.frzK (fun i => Nat.beq i 5) [] trivial) ?_
        refine Pt.weak (Weak.shift 6 5 (by decide) (by simp) (Nat.le_of_ble_eq_true rfl) (Nat.le_of_ble_eq_true rfl) (fun j => by cases j <;> rfl) rfl) ?_
        (refine goA ?_)
        refine Ret.trim 6 (by simp) rfl (Nat.le_of_ble_eq_true rfl) ?_
        refine Ret.mk [.cell 4 29] rfl ?_; (refine goA ?_)
        refine ⟨⟨0, 0, [⟨((0 : Nat) : Int), 0, List.replicate u.loc.toNat 0⟩], sk, 0⟩, ⟨rfl, rfl, rfl, by show sk.length ≤ 16; omega, hsk, ⟨Nat.le_refl 1, by show 1 ≤ 8; omega⟩, fun f hf => ?_⟩, rfl, _, _, _, _, rfl⟩
        simp only [List.mem_singleton] at hf
        subst hf
        exact odd_not hu (by omega) (by simp) hgu.1.1 (by rw [kept_iff]; intro v hv; have := List.eq_of_mem_replicate hv; omega)
      · (refine goA ?_)
        refine Ret.mk [.cell 4 29] rfl ?_; (refine goA ?_)
        refine ⟨⟨0, 0, fr, sk, 0⟩, ⟨rfl, rfl, rfl, by show sk.length ≤ 16; omega, hsk, ⟨by show 1 ≤ fr.length; omega, hfl⟩, hodd⟩, rfl, _, _, _, _, rfl⟩
  · rintro d os' ⟨x, hx, rfl, a, b, c, e, rfl⟩
    refine ⟨_, _, Weak.trans (Weak.frzK (fun i => Nat.blt i 3 || Nat.beq i 4) [] trivial) (Weak.trans (Weak.shift 5 0 (by decide) (by simp) (by simp [dropF]) (by simp [dropF]) (fun j => by cases j <;> rfl) rfl) (Weak.trans (Weak.shift 3 1 (by decide) (by simp) (by simp [dropF]) (by simp [dropF]) (fun j => by cases j <;> rfl) rfl) (Weak.trim 2 (by simp) rfl (by simp [dropF])))), x, hx, rfl, rfl⟩
theorem good30f (g : Pg) (hg : GoodP g) (t : Th) (ht : t.okR) : Spec Try.prog 30 [pgD g, thD t] [] (fun d os' => (∃ x, GoodT g x ∧ d = thD x) ∧ os' = []) := by
  refine Spec.frz (post' := fun d => ∃ x, GoodT g x ∧ d = thD x) ((good30 g hg t ht).mono ?_)
  rintro d os' ⟨⟨st, on, fr, sk, code⟩, hx, rfl, rfl⟩
  have h1 := hx.st
  have h2 := hx.on
  have h3 := hx.code
  dsimp only at h1 h2 h3
  subst h1 h2 h3
  exact ⟨thD ⟨0, 0, fr, sk, 0⟩, View.agg (.cons (.same _) (.cons (.same _) (.cons (View.slAll rfl rfl (by simp) (by simp) (ViewL.same _) (pureL_map (fun _ => rfl) _)) (.cons (View.slAll rfl rfl (by simp) (by simp) (ViewL.same _) (pureL_map (fun _ => rfl) _)) (.same _))))), rfl, _, hx, rfl⟩
end Go.Proofs.Ytaplihoeephbeaa.V
