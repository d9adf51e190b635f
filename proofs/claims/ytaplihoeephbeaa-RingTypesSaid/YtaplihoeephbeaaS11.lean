/- S11: a text of a symbolic executor that is proved sound, and contracts that are proved with it. -/
import Derived.Test.YtaplihoeephbeaaS11a
set_option linter.unusedVariables false
set_option linter.unusedSimpArgs false
namespace Go.Proofs.Ytaplihoeephbeaa.V
open Go Go.Proofs
set_option maxRecDepth 100000
set_option maxHeartbeats 4000000
theorem good29 (p : Pg) (hp : p.okB) : Spec Try.prog 29 [pgD p] [] (fun d os' => (∃ g, GoodP g ∧ d = pgD g) ∧ os' = []) := by
  refine Spec.frz (post' := fun d => ∃ g, GoodP g ∧ d = pgD g) ?_
  obtain ⟨h1, h2, h3, h4, h5, h6, h7, h8, h9⟩ := hp
  have lenL : ∀ l : List Int, lok l → l.length ≤ 9223372036854775806 := fun l h => by have := h.1; omega
  refine Spec.by Try.func29 rfl (by decide) (by decide +kernel) rfl ?_
  (refine goA ?_)
  refine Call.mk ((around33 p.mu 4 h3 (by omega)).only _ rfl (by rintro d rfl; rfl)) ?_
  rintro d os' ⟨rfl, rfl⟩
  have hmu := around_lt p.mu 4 (by omega)
  generalize around p.mu 4 = mu at hmu ⊢
  (refine goA ?_)
  refine Call.mk ((things108 p.co (mu - 1) h4.2 (lenL _ h4) (by omega)).only _ rfl (by rintro d ⟨l, _, rfl⟩; rfl)) ?_
  rintro d os' ⟨⟨co, hco, rfl⟩, rfl⟩
  (refine goA ?_)
  refine Call.mk ((things108 p.se 3 h5.2 (lenL _ h5) (by omega)).only _ rfl (by rintro d ⟨l, _, rfl⟩; rfl)) ?_
  rintro d os' ⟨⟨se, hse, rfl⟩, rfl⟩
  (refine goA ?_)
  refine Call.mk ((things108 p.ch 3 h6.2 (lenL _ h6) (by omega)).only _ rfl (by rintro d ⟨l, _, rfl⟩; rfl)) ?_
  rintro d os' ⟨⟨ch, hch, rfl⟩, rfl⟩
  (refine goA ?_)
  refine Call.mk ((around33 p.th 8 h9 (by omega)).only _ rfl (by rintro d rfl; rfl)) ?_
  rintro d os' ⟨rfl, rfl⟩
  have hth := around_lt p.th 8 (by omega)
  generalize around p.th 8 = th at hth ⊢
  (refine goA ?_)
  refine Loop.inv2 (A := Nat × List (List Int)) 0 (List.range 196) (fun a => (4, .int .i64 (a.1 : Int)) :: P3) (fun a => [one (.row 26 7 false [pgD p]), one (.row 26 7 false [zP]), outD .nils mu co se ch (.sl 3 0 1 0 a.2.length none) (1 + th), rowC a.2])
    (fun a => a.1 ≤ p.cs.length ∧ a.1 ≤ 4 ∧ a.2.length ≤ a.1 ∧ ∀ l ∈ a.2, l ≠ [] ∧ small (ch.length - 1) l) (fun a => a.2.length ≤ 4 ∧ ∀ l ∈ a.2, l ≠ [] ∧ small (ch.length - 1) l) (fun a => 4 - a.1) (0, []) ⟨Nat.zero_le _, by omega, Nat.le_refl _, by simp⟩ ?_ ?_ ?_
  · refine Weak.trans (Weak.nilO 2 3 rfl (es := [.agg [.nils, .int .i64 mu, ints co, ints se, ints ch, .nils, .int .i64 (1 + th)]]) rfl [.agg [.nils, .int .i64 mu, ints co, ints se, ints ch, .sl 3 0 1 0 0 none, .int .i64 (1 + th)]] rfl (.cons (.agg (.cons (.same _ _) (.cons (.same _ _) (.cons (.same _ _) (.cons (.same _ _) (.cons (.same _ _) (.cons (.nils _ _) (.same _ _)))))))) (.same _ _)) 23 1 true) ?_
    exact Weak.start' rfl rfl tld
  · intro cont
    rintro ⟨i, cs⟩ ⟨hi, hi4, hl, hcs⟩
    dsimp only at hi hi4 hl hcs ⊢
    (refine goA ?_)
    refine Br.dec (fun c1 => ?_) (fun c1 => ?_)
    · (refine goA ?_)
      refine Br.dec (fun c2 => ?_) (fun c2 => ?_)
      · simp only [List.length_map] at c1
        (refine goA ?_)
        have hget : p.cs[i]? = some (p.cs[i]'(by omega)) := List.getElem?_eq_getElem (by omega)
        have hin := h8 _ (List.getElem_mem (l := p.cs) (n := i) (by omega))
        have hch4 := hch.1
        refine Opt.of (get_map hget) ?_
        (refine goA ?_)
        refine Call.mk ((things108 p.cs[i] (((ch.map (D.int .i64)).length : Int) - 1) hin.2 (lenL _ hin) (by rw [List.length_map]; omega)).only _ rfl (by rintro d ⟨l, _, rfl⟩; rfl)) ?_
        rintro d os' ⟨⟨own, hown, rfl⟩, rfl⟩
        rw [List.length_map] at hown
        have hown4 := hown.1
        (refine goA ?_)
        refine Loop.inv2 (A := Nat × List Int) 2 (List.range 196) (fun a => (7, .int .i64 (a.1 : Int)) :: (6, .sl 4 0 1 0 a.2.length none) :: (4, .int .i64 (i : Int)) :: (5, ints own) :: P3) (fun a => [one (.row 26 7 false [pgD p]), one (.row 26 7 false [zP]), outD .nils mu co se ch (.sl 3 0 1 0 cs.length none) (1 + th), rowC cs, rowI a.2])
          (fun a => a.1 ≤ own.length ∧ a.2.length ≤ a.1 ∧ ∀ v ∈ a.2, 0 ≤ v ∧ v ≤ ch.length - 1) (fun a => a.2.length ≤ 4 ∧ ∀ v ∈ a.2, 0 ≤ v ∧ v ≤ ch.length - 1) (fun a => own.length - a.1) (0, []) ⟨Nat.zero_le _, Nat.le_refl _, by simp⟩ ?_ ?_ ?_
        · refine Weak.trans (Weak.nilrow 6 rfl 3 1 true) ?_
          exact Weak.start' rfl rfl tld
        · intro cont2
          rintro ⟨k, l⟩ ⟨hk, hlk, hlv⟩
          dsimp only at hk hlk hlv ⊢
          (refine goA ?_)
          refine Br.dec (fun c3 => ?_) (fun c3 => ?_)
          · simp only [List.length_map] at c3
            (refine goA ?_)
            have hgk : own[k]? = some (own[k]'(by omega)) := List.getElem?_eq_getElem (by omega)
            refine Loop.inv2 (A := Nat × Bool) 4 (List.range 196) (fun a => (9, .int .i64 (a.1 : Int)) :: (8, .bool a.2) :: (7, .int .i64 (k : Int)) :: (6, .sl 4 0 1 0 l.length none) :: (4, .int .i64 (i : Int)) :: (5, ints own) :: P3) (fun a => [one (.row 26 7 false [pgD p]), one (.row 26 7 false [zP]), outD .nils mu co se ch (.sl 3 0 1 0 cs.length none) (1 + th), rowC cs, rowI l])
              (fun a => a.1 ≤ l.length) (fun a => True) (fun a => l.length - a.1) (0, false) (Nat.zero_le _) (Weak.start tld) ?_ ?_
            · intro cont3
              rintro ⟨j, b⟩ hj
              dsimp only at hj ⊢
              (refine goA ?_)
              refine Br.dec (fun c4 => ?_) (fun c4 => ?_)
              · have hgj : l[0 + j]? = some (l[j]'(by omega)) := by rw [Nat.zero_add]; exact List.getElem?_eq_getElem (by omega)
                (refine goA ?_)
                refine Br.cs (fun hb => ?_) (fun hb => ?_)
                · (refine goA ?_)
                  refine ⟨_, _, _, ?_, ⟨(j + 1, b), ?_, rfl, rfl, rfl⟩, ?_⟩
                  · show l.length - (j + 1) < l.length - j
                    omega
                  · show j + 1 ≤ _
                    omega
                  · subst hb
                    refine Weak.backT 5 (by simp) (by first | rfl | kernel_rfl) (by kernel_rfl) (Nat.le_of_ble_eq_true rfl) tld (by kernel_rfl) (by kernel_rfl)
                · (refine goA ?_)
                  refine Opt.of (get_map hgj) ?_
                  (refine goA ?_)
                  refine Opt.of (get_map hgk) ?_
                  (refine goA ?_)
                  refine ⟨_, _, _, ?_, ⟨(j + 1, decide (l[j] = own[k])), ?_, rfl, rfl, rfl⟩, ?_⟩
                  · show l.length - (j + 1) < l.length - j
                    omega
                  · show j + 1 ≤ _
                    omega
                  · refine Weak.backT 5 (by simp) (by first | rfl | kernel_rfl) (by kernel_rfl) (Nat.le_of_ble_eq_true rfl) tld (by kernel_rfl) (by kernel_rfl)
              · (refine goR ?_)
                refine Pt.weak ?_ (cont3.h (j, b) trivial)
                refine Weak.backT 5 (by simp) (by first | rfl | kernel_rfl) (by kernel_rfl) (Nat.le_of_ble_eq_true rfl) tld (by kernel_rfl) (by kernel_rfl)
            · rintro ⟨j, b⟩ _
              dsimp only
              (refine goA ?_)
              refine Br.cs (fun hb => ?_) (fun hb => ?_)
              · (refine goA ?_)
                refine Opt.of (get_map hgk) ?_
                (refine goA ?_)
                refine App.only false rfl rfl ?_
                (refine goA ?_)
                refine ⟨_, _, _, ?_, ⟨(k + 1, l ++ [own[k]]), ?_, rfl, rfl, rfl⟩, ?_⟩
                · show own.length - (k + 1) < own.length - k
                  omega
                · refine ⟨by show k + 1 ≤ _; omega, by simp; omega, fun v hv => ?_⟩
                  rcases List.mem_append.1 hv with hv | hv
                  · exact hlv v hv
                  · simp at hv; subst hv; exact hown.2 _ (List.getElem_mem _)
                · refine Weak.trans (Weak.shift 5 4 (by decide) (by simp) (Nat.le_of_ble_eq_true rfl) (Nat.le_of_ble_eq_true rfl) (fun j => by cases j <;> rfl) rfl) ?_
                  refine Weak.backT 5 (by simp) ?_ (by kernel_rfl) (Nat.le_of_ble_eq_true rfl) tld (by kernel_rfl) (by kernel_rfl)
                  exact congrArg (fun r => ([one (.row 26 7 false [pgD p]), one (.row 26 7 false [zP]), outD .nils mu co se ch (.sl 3 0 1 0 cs.length none) (1 + th), rowC cs, one (.row 3 1 true r)] : Objs)) (map_snoc _ _)
              · (refine goA ?_)
                refine ⟨_, _, _, ?_, ⟨(k + 1, l), ?_, rfl, rfl, rfl⟩, ?_⟩
                · show own.length - (k + 1) < own.length - k
                  omega
                · exact ⟨by show k + 1 ≤ _; omega, by show l.length ≤ k + 1; omega, hlv⟩
                · refine Weak.backT 5 (by simp) (by first | rfl | kernel_rfl) (by kernel_rfl) (Nat.le_of_ble_eq_true rfl) tld (by kernel_rfl) (by kernel_rfl)
          · simp only [List.length_map] at c3
            (refine goR ?_)
            refine Pt.weak ?_ (cont2.h (k, l) ?_)
            · refine Weak.backT 5 (by simp) (by first | rfl | kernel_rfl) (by kernel_rfl) (Nat.le_of_ble_eq_true rfl) tld (by kernel_rfl) (by kernel_rfl)
            · exact ⟨by show l.length ≤ 4; omega, hlv⟩
        · rintro ⟨k, l⟩ ⟨hl4, hlv⟩
          dsimp only at hl4 hlv ⊢
          (refine goR ?_)
          ((with_reducible refine Pt.go ?_); conv => whnf)
          (refine goR ?_)
          refine Br.dec (fun c5 => ?_) (fun c5 => ?_)
          · (refine goR ?_)
            refine Pt.weak (Weak.frzK (fun i => Nat.beq i 4) [(6, ints l)] ⟨View.slAll rfl rfl (by simp) (by simp) (ViewL.same _) (pureL_map (fun _ => rfl) _), trivial⟩) ?_
            (refine goA ?_)
            refine App.only false rfl rfl ?_
            (refine goA ?_)
            refine ⟨_, _, _, ?_, ⟨(i + 1, cs ++ [l]), ?_, rfl, rfl, rfl⟩, ?_⟩
            · show 4 - (i + 1) < 4 - i
              omega
            · refine ⟨by show i + 1 ≤ _; omega, by show i + 1 ≤ 4; omega, by simp; omega, fun v hv => ?_⟩
              rcases List.mem_append.1 hv with hv | hv
              · exact hcs v hv
              · simp at hv; subst hv
                exact ⟨fun e => by subst e; simp at c5, hl4, hlv⟩
            · refine Weak.trans (Weak.shift 5 3 (by decide) (by simp) (Nat.le_of_ble_eq_true rfl) (Nat.le_of_ble_eq_true rfl) (fun j => by cases j <;> rfl) rfl) ?_
              refine Weak.backT 4 (by simp) ?_ (by kernel_rfl) (Nat.le_of_ble_eq_true rfl) tld (by kernel_rfl) (by kernel_rfl)
              have e : cs.map ints ++ [ints l] = (cs ++ [l]).map ints := by simp
              have e2 : cs.length + 1 = (cs ++ [l]).length := by simp
              rw [← e2]
              exact congrArg (fun r => ([one (.row 26 7 false [pgD p]), one (.row 26 7 false [zP]), outD .nils mu co se ch (.sl 3 0 1 0 (cs.length + 1) none) (1 + th), one (.row 23 1 true r)] : Objs)) e
          · (refine goA ?_)
            refine ⟨_, _, _, ?_, ⟨(i + 1, cs), ?_, rfl, rfl, rfl⟩, ?_⟩
            · show 4 - (i + 1) < 4 - i
              omega
            · exact ⟨by show i + 1 ≤ _; omega, by show i + 1 ≤ 4; omega, by show cs.length ≤ i + 1; omega, hcs⟩
            · refine Weak.backT 4 (by simp) (by first | rfl | kernel_rfl) (by kernel_rfl) (Nat.le_of_ble_eq_true rfl) tld (by kernel_rfl) (by kernel_rfl)
      · (refine goR ?_)
        refine Pt.weak ?_ (cont.h (i, cs) ?_)
        · refine Weak.backT 4 (by simp) (by first | rfl | kernel_rfl) (by kernel_rfl) (Nat.le_of_ble_eq_true rfl) tld (by kernel_rfl) (by kernel_rfl)
        · exact ⟨by show cs.length ≤ 4; omega, hcs⟩
    · (refine goR ?_)
      refine Pt.weak ?_ (cont.h (i, cs) ?_)
      · refine Weak.backT 4 (by simp) (by first | rfl | kernel_rfl) (by kernel_rfl) (Nat.le_of_ble_eq_true rfl) tld (by kernel_rfl) (by kernel_rfl)
      · exact ⟨by show cs.length ≤ 4; omega, hcs⟩
  · rintro ⟨i, cs⟩ ⟨hcl, hcs⟩
    dsimp only at hcl hcs ⊢
    (refine goR ?_)
    refine Pt.weak (Weak.frzO (fun i => Nat.beq i 3) [] 2 (ty := 26) (sz := 7) (es := [.agg [.nils, .int .i64 mu, ints co, ints se, ints ch, .sl 3 0 1 0 cs.length none, .int .i64 (1 + th)]]) rfl rfl [.agg [.nils, .int .i64 mu, ints co, ints se, ints ch, .lst 1 false (cs.map ints), .int .i64 (1 + th)]] rfl ?_ trivial) ?_
    · exact .cons (.agg (.cons (.same _) (.cons (.same _) (.cons (.same _) (.cons (.same _) (.cons (.same _) (.cons (View.slAll rfl rfl (by simp) (by simp) (ViewL.same _) (pureL_map (fun _ => rfl) _)) (.same _)))))))) .nil
    (refine goA ?_)
    refine Loop.inv2 (A := Nat × List Fu) 6 (List.range 196) (fun a => (10, .int .i64 (a.1 : Int)) :: P3) (fun a => gO p mu co se ch cs th (.sl 4 0 2 0 a.2.length none) (one (.row 45 2 false (fuR a.2))) (fuC a.2) [])
      (fun a => a.1 ≤ p.fu.length ∧ a.1 ≤ 4 ∧ a.2.length = a.1 ∧ ∀ f ∈ a.2, rawF f) (fun a => a.2.length ≤ 4 ∧ ∀ f ∈ a.2, rawF f) (fun a => 4 - a.1) (0, []) ⟨Nat.zero_le _, by omega, rfl, by simp⟩ ?_ ?_ ?_
    · refine Weak.trans (Weak.nilO 2 4 rfl (es := [.agg [.nils, .int .i64 mu, ints co, ints se, ints ch, .lst 1 false (cs.map ints), .int .i64 (1 + th)]]) rfl [.agg [.sl 4 0 2 0 0 none, .int .i64 mu, ints co, ints se, ints ch, .lst 1 false (cs.map ints), .int .i64 (1 + th)]] rfl (.cons (.agg (.cons (.nils _ _) (.same _ _))) (.same _ _)) 45 2 false) ?_
      refine Weak.trans (Weak.rows 139 2) ?_
      exact Weak.start' rfl rfl tld
    · intro cont4
      rintro ⟨i, fs⟩ ⟨hi, hi4, hl, hfs⟩
      dsimp only at hi hi4 hl hfs ⊢
      (refine goA ?_)
      refine Br.dec (fun c6 => ?_) (fun c6 => ?_)
      · (refine goA ?_)
        refine Br.dec (fun c7 => ?_) (fun c7 => ?_)
        · simp only [List.length_map] at c6
          have hgf : p.fu[i]? = some (p.fu[i]'(by omega)) := List.getElem?_eq_getElem (by omega)
          have hin := h2 _ (List.getElem_mem (l := p.fu) (n := i) (by omega))
          generalize p.fu[i] = f at hgf hin
          obtain ⟨hin1, hin2, hin3⟩ := hin
          (refine goA ?_)
          refine Opt.of (get_map hgf) ?_
          (refine goA ?_)
          refine Call.mk ((around33 f.loc 4 hin1 (by omega)).only _ rfl (by rintro d rfl; rfl)) ?_
          rintro d os' ⟨rfl, rfl⟩
          have hloc := around_lt f.loc 4 (by omega)
          generalize around f.loc 4 = loc at hloc ⊢
          (refine goA ?_)
          refine Loop.inv2 (A := Nat × List (Int × Int)) 8 (List.range 196) (fun a => (12, .int .i64 (a.1 : Int)) :: (10, .int .i64 (i : Int)) :: (11, .ptr 6 0 2 0 0) :: P3) (fun a => gO p mu co se ch cs th (.sl 4 0 2 0 fs.length none) (one (.row 45 2 false (fuR fs))) (fuC fs) [one (.row 45 2 false [.agg [.int .i64 loc, .sl 7 0 2 0 a.2.length none]]), one (.row 139 2 true (a.2.map inD))])
            (fun a => a.1 ≤ f.code.length ∧ a.1 ≤ 24 ∧ a.2.length = a.1 ∧ ∀ x ∈ a.2, I64 x.1 ∧ I64 x.2) (fun a => a.2.length ≤ 24 ∧ ∀ x ∈ a.2, I64 x.1 ∧ I64 x.2) (fun a => 24 - a.1) (0, []) ⟨Nat.zero_le _, by omega, rfl, by simp⟩ ?_ ?_ ?_
          · refine Weak.trans (Weak.nilO 6 7 rfl (es := [.agg [.int .i64 loc, .nils]]) rfl [.agg [.int .i64 loc, .sl 7 0 2 0 0 none]] rfl (.cons (.agg (.cons (.same _ _) (.cons (.nils _ _) (.same _ _)))) (.same _ _)) 139 2 true) ?_
            exact Weak.start' rfl rfl tld
          · intro cont5
            rintro ⟨k, code⟩ ⟨hk, hk24, hlc, hcode⟩
            dsimp only at hk hk24 hlc hcode ⊢
            (refine goA ?_)
            refine Opt.of (get_map hgf) ?_
            (refine goA ?_)
            refine Br.dec (fun c8 => ?_) (fun c8 => ?_)
            · (refine goA ?_)
              refine Br.dec (fun c9 => ?_) (fun c9 => ?_)
              · simp only [List.length_map] at c8
                have hgx : f.code[k]? = some (f.code[k]'(by omega)) := List.getElem?_eq_getElem (by omega)
                have hx := hin3 _ (List.getElem_mem (l := f.code) (n := k) (by omega))
                generalize f.code[k] = x at hgx hx
                (refine goA ?_)
                refine Opt.of (get_map hgf) ?_
                (refine goA ?_)
                refine Opt.of (get_map hgx) ?_
                (refine goA ?_)
                refine App.only false rfl rfl ?_
                (refine goA ?_)
                refine ⟨_, _, _, ?_, ⟨(k + 1, code ++ [x]), ?_, rfl, rfl, rfl⟩, ?_⟩
                · show 24 - (k + 1) < 24 - k
                  omega
                · refine ⟨by show k + 1 ≤ _; omega, by show k + 1 ≤ 24; omega, by simp; omega, fun v hv => ?_⟩
                  rcases List.mem_append.1 hv with hv | hv
                  · exact hcode v hv
                  · simp at hv; subst hv; exact hx
                · refine Weak.trans (Weak.objs (os' := gO p mu co se ch cs th (.sl 4 0 2 0 fs.length none) (one (.row 45 2 false (fuR fs))) (fuC fs) [one (.row 45 2 false [.agg [.int .i64 loc, .sl 8 0 2 0 (code.length + 1) none]]), one .gone, one (.row 139 2 true (code.map inD ++ [inD x]))]) (by kernel_rfl)) ?_
                  refine Weak.trans (Weak.shift 8 7 (by decide) (by simp) (Nat.le_of_ble_eq_true rfl) (Nat.le_of_ble_eq_true rfl) (fun j => by cases j <;> rfl) (by simp [Fam.names, O.names, D.namesL, D.names, fuR, fuK_names 5 7 rfl] <;> decide)) ?_
                  refine Weak.trans (Weak.objs (os' := gO p mu co se ch cs th (.sl 4 0 2 0 fs.length none) (one (.row 45 2 false (fuR fs))) (fuC fs) [one (.row 45 2 false [.agg [.int .i64 loc, .sl 7 0 2 0 (code ++ [x]).length none]]), one (.row 139 2 true ((code ++ [x]).map inD)), one .gone]) ?_) ?_
                  · have e2 : code.map inD ++ [inD x] = (code ++ [x]).map inD := by simp
                    have e3 : code.length + 1 = (code ++ [x]).length := by simp
                    rw [← e2, ← e3]
                    exact congrArg (fun r => gO p mu co se ch cs th (.sl 4 0 2 0 fs.length none) (one (.row 45 2 false r)) (fuC fs) [one (.row 45 2 false [.agg [.int .i64 loc, .sl 7 0 2 0 (code.length + 1) none]]), one (.row 139 2 true (code.map inD ++ [inD x])), one .gone]) (fuK_ren 5 8 7 rfl 0 fs)
                  · refine Weak.backT 8 (by simp) (by first | rfl | kernel_rfl) (by simp [Fam.lt, O.lt, D.lt, D.ltL, fuR, fuK_lt 5 8 rfl] <;> decide) (Nat.le_of_ble_eq_true rfl) tld (by kernel_rfl) (by kernel_rfl)
              · (refine goR ?_)
                refine Pt.weak ?_ (cont5.h (k, code) ?_)
                · refine Weak.backT 8 (by simp) (by first | rfl | kernel_rfl) (by simp [Fam.lt, O.lt, D.lt, D.ltL, fuR, fuK_lt 5 8 rfl] <;> decide) (Nat.le_of_ble_eq_true rfl) tld (by kernel_rfl) (by kernel_rfl)
                · exact ⟨by show code.length ≤ 24; omega, hcode⟩
            · (refine goR ?_)
              refine Pt.weak ?_ (cont5.h (k, code) ?_)
              · refine Weak.backT 8 (by simp) (by first | rfl | kernel_rfl) (by simp [Fam.lt, O.lt, D.lt, D.ltL, fuR, fuK_lt 5 8 rfl] <;> decide) (Nat.le_of_ble_eq_true rfl) tld (by kernel_rfl) (by kernel_rfl)
              · exact ⟨by show code.length ≤ 24; omega, hcode⟩
          · rintro ⟨k, code⟩ ⟨hcl24, hcode⟩
            dsimp only at hcl24 hcode ⊢
            have hR : (fuR fs).length = fs.length := by rw [fuR, fuK_length]
            (refine goA ?_)
            refine App.own ?_
            (refine goA ?_)
            subst hl
            refine ⟨_, _, _, ?_, ⟨(fs.length + 1, fs ++ [(⟨loc, code⟩ : Fu)]), ?_, rfl, rfl, rfl⟩, ?_⟩
            · show 4 - (fs.length + 1) < 4 - fs.length
              omega
            · refine ⟨by show fs.length + 1 ≤ _; omega, by show fs.length + 1 ≤ 4; omega, by simp, fun v hv => ?_⟩
              rcases List.mem_append.1 hv with hv | hv
              · exact hfs v hv
              · simp at hv; subst hv; exact ⟨by show 0 ≤ loc ∧ loc ≤ 3; omega, hcl24, hcode⟩
            · refine Weak.trans (Weak.objs (os' := gO p mu co se ch cs th (.sl 9 0 2 0 (fs.length + 1) none) (one .gone) (fuC fs) [one (.row 45 2 false [.agg [.int .i64 loc, .sl 7 0 2 0 code.length none]]), one (.row 139 2 true (code.map inD)), one (.row 45 2 false [.agg [.int .i64 loc, .sl 7 0 2 0 code.length none]]), one (.row 45 2 false (fuR fs ++ [.agg [.int .i64 loc, .sl 7 0 2 0 code.length none]]))]) (by kernel_rfl)) ?_
              refine Weak.trans (Weak.swap 7 5 fs.length (by decide) (by simp) (by simp) (Nat.le_of_ble_eq_true rfl) (Nat.le_of_ble_eq_true rfl) (fun j => rfl)) ?_
              refine Weak.trans (Weak.objs (os' := gO p mu co se ch cs th (.sl 9 0 2 0 (fs.length + 1) none) (one .gone) (fuC (fs ++ [(⟨loc, code⟩ : Fu)])) [one (.row 45 2 false [.agg [.int .i64 loc, .sl 5 fs.length 2 0 code.length none]]), one (.row 139 2 true (fuC fs fs.length)), one (.row 45 2 false [.agg [.int .i64 loc, .sl 5 fs.length 2 0 code.length none]]), one (.row 45 2 false (fuR (fs ++ [(⟨loc, code⟩ : Fu)])))]) ?_) ?_
              · have e1 : D.mapIdL (swp 7 5 fs.length) (fuR fs ++ [D.agg [.int .i64 loc, .sl 7 0 2 0 code.length none]]) = fuR (fs ++ [(⟨loc, code⟩ : Fu)]) := by
                  rw [mapIdL_append, fuR, fuK_swp 5 7 _ rfl 0 fs (by omega), fuR, fuK_snoc, Nat.zero_add]
                  rfl
                rw [← fuC_snoc fs ⟨loc, code⟩]
                exact congrArg (fun r => gO p mu co se ch cs th (.sl 9 0 2 0 (fs.length + 1) none) (one .gone) (fun k => bif Nat.beq k fs.length then code.map inD else fuC fs k) [one (.row 45 2 false [.agg [.int .i64 loc, .sl 5 fs.length 2 0 code.length none]]), one (.row 139 2 true (fuC fs fs.length)), one (.row 45 2 false [.agg [.int .i64 loc, .sl 5 fs.length 2 0 code.length none]]), one (.row 45 2 false r)]) e1
              · refine Weak.trans (Weak.shift 9 4 (by decide) (by simp) (Nat.le_of_ble_eq_true rfl) (Nat.le_of_ble_eq_true rfl) (fun j => by cases j <;> rfl) (by simp [Fam.names, O.names, D.namesL, D.names, fuR, fuK_names 5 4 rfl] <;> decide)) ?_
                refine Weak.trans (Weak.objs (os' := gO p mu co se ch cs th (.sl 4 0 2 0 (fs ++ [(⟨loc, code⟩ : Fu)]).length none) (one (.row 45 2 false (fuR (fs ++ [(⟨loc, code⟩ : Fu)])))) (fuC (fs ++ [(⟨loc, code⟩ : Fu)])) [one (.row 45 2 false [.agg [.int .i64 loc, .sl 5 fs.length 2 0 code.length none]]), one (.row 139 2 true (fuC fs fs.length)), one (.row 45 2 false [.agg [.int .i64 loc, .sl 5 fs.length 2 0 code.length none]]), one .gone]) ?_) ?_
                · have e3 : fs.length + 1 = (fs ++ [(⟨loc, code⟩ : Fu)]).length := by simp
                  rw [← e3]
                  exact congrArg (fun r => gO p mu co se ch cs th (.sl 4 0 2 0 (fs.length + 1) none) (one (.row 45 2 false r)) (fuC (fs ++ [(⟨loc, code⟩ : Fu)])) [one (.row 45 2 false [.agg [.int .i64 loc, .sl 5 fs.length 2 0 code.length none]]), one (.row 139 2 true (fuC fs fs.length)), one (.row 45 2 false [.agg [.int .i64 loc, .sl 5 fs.length 2 0 code.length none]]), one .gone]) (fuK_ren 5 9 4 rfl 0 _)
                · refine Weak.backT 6 (by simp) (by first | rfl | kernel_rfl) (by simp [Fam.lt, O.lt, D.lt, D.ltL, fuR, fuK_lt 5 6 rfl] <;> decide) (Nat.le_of_ble_eq_true rfl) tld (by kernel_rfl) (by kernel_rfl)
        · (refine goR ?_)
          refine Pt.weak ?_ (cont4.h (i, fs) ?_)
          · refine Weak.backT 6 (by simp) (by first | rfl | kernel_rfl) (by simp [Fam.lt, O.lt, D.lt, D.ltL, fuR, fuK_lt 5 6 rfl] <;> decide) (Nat.le_of_ble_eq_true rfl) tld (by kernel_rfl) (by kernel_rfl)
          · exact ⟨by show fs.length ≤ 4; omega, hfs⟩
      · (refine goR ?_)
        refine Pt.weak ?_ (cont4.h (i, fs) ?_)
        · refine Weak.backT 6 (by simp) (by first | rfl | kernel_rfl) (by simp [Fam.lt, O.lt, D.lt, D.ltL, fuR, fuK_lt 5 6 rfl] <;> decide) (Nat.le_of_ble_eq_true rfl) tld (by kernel_rfl) (by kernel_rfl)
        · exact ⟨by show fs.length ≤ 4; omega, hfs⟩
    · rintro ⟨i, fs⟩ ⟨hfl, hfs⟩
      dsimp only at hfl hfs ⊢
      have hR : (fuR fs).length = fs.length := by rw [fuR, fuK_length]
      (refine goA ?_)
      refine Br.dec (fun c10 => ?_) (fun c10 => ?_)
      · (refine goA ?_)
        refine App.only false rfl rfl ?_
        (refine goA ?_)
        refine Loop.inv (A := Nat) (List.range 196) (fun i => (13, .int .i64 (i : Int)) :: P3) (fun i => gO p mu co se ch cs th (.lst 2 false [.agg [.int .i64 0, .nils]]) (one (.row 45 2 false (fuR fs))) (fuC fs) []) (fun i => i ≤ 1) (fun i => 1 - i) 0 (Nat.zero_le _) ?_ ?_
        · exact Weak.start' rfl rfl tld
        intro i hi
        (refine goA ?_)
        refine Br.dec (fun c11 => ?_) (fun c11 => ?_)
        · obtain rfl : i = 0 := by simp at c11; omega
          (refine goA ?_)
          refine Loop.inv (A := Unit) (List.range 196) (fun _ => (15, .int .i64 0) :: (13, .int .i64 ((0 : Nat) : Int)) :: (14, .ptr 6 0 2 0 0) :: P3) (fun _ => gO p mu co se ch cs th (.lst 2 false [.agg [.int .i64 0, .nils]]) (one (.row 45 2 false (fuR fs))) (fuC fs) [one (.row 45 2 false [.agg [.int .i64 0, .nils]])]) (fun _ => True) (fun _ => 0) () trivial ?_ ?_
          · exact Weak.start' rfl rfl tld
          intro _ _
          (refine goA ?_)
          refine ⟨_, _, _, ?_, ⟨(0 + 1), ?_, rfl, rfl, rfl⟩, ?_⟩
          · show 1 - (0 + 1) < 1 - 0
            omega
          · show 0 + 1 ≤ 1
            omega
          · refine Weak.backT 6 (by simp) (by first | rfl | kernel_rfl) (by simp [Fam.lt, O.lt, D.lt, D.ltL, fuR, fuK_lt 5 6 rfl] <;> decide) (Nat.le_of_ble_eq_true rfl) tld (by kernel_rfl) (by kernel_rfl)
        · (refine goA ?_)
          refine Ret.mk [.cell 2 26] rfl ?_; (refine goA ?_)
          refine ⟨pgD ⟨[⟨0, []⟩], mu, co, se, ch, cs, 1 + th⟩, View.agg (.cons (View.lst (by simp) (.cons (.agg (.cons (.same _) (.cons (.nils _ _) .nil))) .nil) rfl) (.same _)), rfl, _, ?_, rfl⟩
          refine ⟨⟨by simp, by show 0 ≤ mu ∧ mu ≤ 3; omega, hco.1, hse.1, hch.1, hcl⟩, ?_, fun v hv => by have := hco.2 v hv; show 0 ≤ v ∧ v < mu; omega, hse.2, hch.2, hcs, by show 1 ≤ 1 + th ∧ 1 + th ≤ 8; omega⟩
          intro f hf
          simp at hf
          subst hf
          exact ⟨by decide, by decide, by simp⟩
      · have hne : fs ≠ [] := fun e => c10 (by rw [e]; rfl)
        (refine goA ?_)
        refine Loop.inv (A := Nat × List Fu) (List.range 196) (fun a => (13, .int .i64 (a.1 : Int)) :: P3) (fun a => gO p mu co se ch cs th (.sl 4 0 2 0 a.2.length none) (one (.row 45 2 false (fuR a.2))) (fuC a.2) [])
          (fun a => a.1 ≤ a.2.length ∧ a.2.length = fs.length ∧ ∀ j f, a.2[j]? = some f → rawF f ∧ (j < a.1 → ∀ x ∈ f.code, inOk fs.length ⟨[], mu, co, se, ch, cs, 1 + th⟩ f.loc f.code.length x)) (fun a => fs.length - a.1) (0, fs) ⟨Nat.zero_le _, rfl, fun j f hj => ⟨hfs f (List.mem_of_getElem? hj), fun h => by omega⟩⟩ ?_ ?_
        · exact Weak.start' rfl rfl tld
        rintro ⟨i, fs'⟩ ⟨hi, hlen, hall⟩
        dsimp only at hi hlen hall ⊢
        (refine goA ?_)
        refine Br.dec (fun c11 => ?_) (fun c11 => ?_)
        · obtain ⟨f, hgf⟩ : ∃ f, fs'[i]? = some f := ⟨_, List.getElem?_eq_getElem (by omega)⟩
          have hraw := (hall i f hgf).1
          have hc24 := hraw.2.1
          have hgR : (fuR fs')[0 + i]? = some (.agg [.int .i64 f.loc, .sl 5 i 2 0 f.code.length none]) := by rw [Nat.zero_add, fuR, fuK_get, hgf, Nat.zero_add]; rfl
          (refine goA ?_)
          refine Opt.of hgR ?_
          (refine goA ?_)
          refine Loop.inv (A := Nat × List (Int × Int)) (List.range 196) (fun a => (15, .int .i64 (a.1 : Int)) :: (13, .int .i64 (i : Int)) :: (14, .ptr 6 0 2 0 0) :: P3) (fun a => gO p mu co se ch cs th (.sl 4 0 2 0 fs'.length none) (one (.row 45 2 false (fuR fs'))) (fuC (fs'.set i ⟨f.loc, a.2⟩)) [one (.row 45 2 false [.agg [.int .i64 f.loc, .sl 5 i 2 0 f.code.length none]])])
            (fun a => a.1 ≤ f.code.length ∧ a.2.length = f.code.length ∧ ∀ m x, a.2[m]? = some x → (I64 x.1 ∧ I64 x.2) ∧ (m < a.1 → inOk fs.length ⟨[], mu, co, se, ch, cs, 1 + th⟩ f.loc f.code.length x)) (fun a => f.code.length - a.1) (0, f.code) ⟨Nat.zero_le _, rfl, fun m x hm => ⟨hraw.2.2 x (List.mem_of_getElem? hm), fun h => by omega⟩⟩ ?_ ?_
          · have e : fs'.set i ⟨f.loc, f.code⟩ = fs' := by
              apply List.ext_getElem?
              intro j
              rw [List.getElem?_set]
              by_cases hj : i = j
              · subst hj; rw [if_pos rfl, if_pos (by omega), hgf]
              · rw [if_neg hj]
            refine Weak.trans (Weak.objs (os' := gO p mu co se ch cs th (.sl 4 0 2 0 fs'.length none) (one (.row 45 2 false (fuR fs'))) (fuC (fs'.set i ⟨f.loc, f.code⟩)) [one (.row 45 2 false [.agg [.int .i64 f.loc, .sl 5 i 2 0 f.code.length none]])]) (by rw [e] <;> kernel_rfl)) ?_
            exact Weak.start' rfl rfl tld
          rintro ⟨k, c⟩ ⟨hk, hlc, hc⟩
          dsimp only at hk hlc hc ⊢
          (refine goA ?_)
          refine Br.dec (fun c12 => ?_) (fun c12 => ?_)
          · obtain ⟨x, hgx⟩ : ∃ x, c[k]? = some x := ⟨_, List.getElem?_eq_getElem (by omega)⟩
            have hC : fuC (fs'.set i ⟨f.loc, c⟩) i = c.map inD := by unfold fuC; rw [List.getElem?_set_self (by omega)]; rfl
            have hCk : (fuC (fs'.set i ⟨f.loc, c⟩) i)[0 + k]? = some (inD x) := by rw [hC, Nat.zero_add]; exact get_map hgx
            have hfR : fuR (fs'.set i ⟨f.loc, c⟩) = fuR fs' := fuK_set 5 ⟨f.loc, c⟩ 0 fs' i f hgf rfl hlc.symm
            have hlen' : (fs'.set i (⟨f.loc, c⟩ : Fu)).length = fs'.length := List.length_set ..
            have hSz : Szs ⟨fs'.set i ⟨f.loc, c⟩, mu, co, se, ch, cs, 1 + th⟩ := ⟨⟨by show 1 ≤ (fs'.set i _).length; rw [hlen']; omega, by show (fs'.set i _).length ≤ 4; rw [hlen']; omega⟩, by show 0 ≤ mu ∧ mu ≤ 3; omega, hco.1, hse.1, hch.1, hcl⟩
            (refine goA ?_)
            refine Opt.of hCk ?_
            (refine goA ?_)
            refine Call.mk ((instr109 ⟨fs'.set i ⟨f.loc, c⟩, mu, co, se, ch, cs, 1 + th⟩ hSz ⟨f.loc, c⟩ x hraw.1 (by show c.length ≤ 24; have := hraw.2.1; omega) (hc k x hgx).1).read (.cons (View.agg (.cons (view_fu hlen' (by rw [hfR]; rfl) (fun j => rfl) rfl rfl) (.same _))) (.cons (View.agg (.cons (.same _) (.cons (View.slAll rfl (t := 139) (pr := true) (es := fuC (fs'.set i ⟨f.loc, c⟩) i) rfl (by rw [hC, List.length_map]; exact hlc) (by simp) (by rw [hC]; exact .same _) (pureL_map (fun _ => rfl) _)) .nil))) (.same _))) rfl (by rintro d ⟨y, _, rfl⟩; exact ⟨rfl, rfl⟩)) ?_
            rintro d os' ⟨⟨y, hy, rfl⟩, rfl⟩
            (refine goA ?_)
            refine Opt.of hCk ?_
            (refine goA ?_)
            refine ⟨_, _, _, ?_, ⟨(k + 1, c.set k y), ?_, rfl, rfl, rfl⟩, ?_⟩
            · show f.code.length - (k + 1) < f.code.length - k
              omega
            · refine ⟨by show k + 1 ≤ _; omega, by rw [List.length_set]; exact hlc, fun m x' hm => ?_⟩
              dsimp only at hm ⊢
              rw [List.getElem?_set] at hm
              rw [hlen', hlen] at hy
              by_cases hkm : k = m
              · subst hkm
                rw [if_pos rfl, if_pos (by have := (List.getElem?_eq_some_iff.1 hgx).1; omega)] at hm
                cases hm
                rw [hlc] at hy
                exact ⟨⟨⟨by have := hy.1; omega, by have := hy.1; omega⟩, ⟨by have := hy.2.1; omega, by have := hy.2.1; omega⟩⟩, fun _ => hy⟩
              · rw [if_neg hkm] at hm
                exact ⟨(hc m x' hm).1, fun h => (hc m x' hm).2 (by have h' : m < k + 1 := h; omega)⟩
            · have e1 : (fuC (fs'.set i ⟨f.loc, c⟩) i).set (0 + k) (inD y) = (c.set k y).map inD := by rw [hC, Nat.zero_add, List.map_set]
              have e2 := fuC_set (fs'.set i ⟨f.loc, c⟩) i ⟨f.loc, c.set k y⟩ (by rw [hlen']; omega)
              rw [List.set_set] at e2
              refine Weak.trans (Weak.objs (os' := gO p mu co se ch cs th (.sl 4 0 2 0 fs'.length none) (one (.row 45 2 false (fuR fs'))) (fuC (fs'.set i ⟨f.loc, c.set k y⟩)) [one (.row 45 2 false [.agg [.int .i64 f.loc, .sl 5 i 2 0 f.code.length none]])]) (by rw [← e2, ← e1] <;> kernel_rfl)) ?_
              refine Weak.backT 7 (by simp) (by first | rfl | kernel_rfl) (by simp [Fam.lt, O.lt, D.lt, D.ltL, fuR, fuK_lt 5 7 rfl] <;> decide) (Nat.le_of_ble_eq_true rfl) tld (by kernel_rfl) (by kernel_rfl)
          · have hlen' : (fs'.set i (⟨f.loc, c⟩ : Fu)).length = fs'.length := List.length_set ..
            have hfR : fuR (fs'.set i ⟨f.loc, c⟩) = fuR fs' := fuK_set 5 ⟨f.loc, c⟩ 0 fs' i f hgf rfl hlc.symm
            (refine goA ?_)
            refine ⟨_, _, _, ?_, ⟨(i + 1, fs'.set i ⟨f.loc, c⟩), ?_, rfl, rfl, rfl⟩, ?_⟩
            · show fs.length - (i + 1) < fs.length - i
              omega
            · refine ⟨by show i + 1 ≤ _; rw [hlen']; omega, by show (fs'.set i _).length = _; rw [hlen']; exact hlen, fun j g hj => ?_⟩
              dsimp only at hj ⊢
              rw [List.getElem?_set] at hj
              by_cases hij : i = j
              · subst hij
                rw [if_pos rfl, if_pos (by omega)] at hj
                cases hj
                refine ⟨⟨hraw.1, by show c.length ≤ 24; omega, fun x hx => ?_⟩, fun _ x hx => ?_⟩
                · obtain ⟨m, hm⟩ := List.getElem?_of_mem hx
                  exact (hc m x hm).1
                · obtain ⟨m, hm⟩ := List.getElem?_of_mem hx
                  have hml : m < c.length := (List.getElem?_eq_some_iff.1 hm).1
                  have := (hc m x hm).2 (by simp at c12; omega)
                  rw [← hlc] at this
                  exact this
              · rw [if_neg hij] at hj
                exact ⟨(hall j g hj).1, fun h => (hall j g hj).2 (by have h' : j < i + 1 := h; omega)⟩
            · refine Weak.trans (Weak.objs (os' := gO p mu co se ch cs th (.sl 4 0 2 0 (fs'.set i ⟨f.loc, c⟩).length none) (one (.row 45 2 false (fuR (fs'.set i ⟨f.loc, c⟩)))) (fuC (fs'.set i ⟨f.loc, c⟩)) [one (.row 45 2 false [.agg [.int .i64 f.loc, .sl 5 i 2 0 f.code.length none]])]) (by rw [hfR, hlen'] <;> kernel_rfl)) ?_
              refine Weak.backT 6 (by simp) (by first | rfl | kernel_rfl) (by simp [Fam.lt, O.lt, D.lt, D.ltL, fuR, fuK_lt 5 6 rfl] <;> decide) (Nat.le_of_ble_eq_true rfl) tld (by kernel_rfl) (by kernel_rfl)
        · (refine goA ?_)
          refine Ret.mk [.cell 2 26] rfl ?_; (refine goA ?_)
          refine ⟨pgD ⟨fs', mu, co, se, ch, cs, 1 + th⟩, View.agg (.cons (view_fu rfl rfl (fun j => rfl) rfl rfl) (.same _)), rfl, _, ?_, rfl⟩
          have hn4 : 1 ≤ fs'.length ∧ fs'.length ≤ 4 := by
            have : 0 < fs.length := List.length_pos_iff.2 hne
            omega
          refine ⟨⟨hn4, by show 0 ≤ mu ∧ mu ≤ 3; omega, hco.1, hse.1, hch.1, hcl⟩, ?_, fun v hv => by have := hco.2 v hv; show 0 ≤ v ∧ v < mu; omega, hse.2, hch.2, hcs, by show 1 ≤ 1 + th ∧ 1 + th ≤ 8; omega⟩
          intro f hf
          obtain ⟨j, hj⟩ := List.getElem?_of_mem hf
          have hjl : j < fs'.length := (List.getElem?_eq_some_iff.1 hj).1
          have hx := hall j f hj
          refine ⟨hx.1.1, hx.1.2.1, fun x hxm => ?_⟩
          have := hx.2 (by omega) x hxm
          rw [← hlen] at this
          exact this
end Go.Proofs.Ytaplihoeephbeaa.V
