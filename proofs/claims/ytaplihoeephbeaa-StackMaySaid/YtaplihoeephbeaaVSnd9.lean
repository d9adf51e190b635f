/- VSnd9: a text of a symbolic executor that is proved sound, and contracts that are proved with it. -/
import Derived.Test.YtaplihoeephbeaaVSnd8
namespace Go.Proofs.Ytaplihoeephbeaa.V
open Go Go.RowKit
set_option linter.unusedVariables false
section ops
variable {P : Program} {τ : Tau} {Γ : Ctx} {ρ : Pl} {I : Im} {os : Objs} {w : World} {get : Nat → D} {a : Act} {K : D → Objs → Prop} {C : CallW}

theorem zip_list (f : Operand → Value) : ∀ (l : List (Nat × Operand)), (l.map fun (i, x) => (i, f x)) = (l.map (·.1)).zip (l.map fun p => f p.2)
  | [] => rfl
  | p :: l => by simp only [List.map_cons, List.zip_cons_cons, zip_list f l]
theorem zip_parts (parts : Array (Nat × Operand)) (f : Operand → Value) : (parts.map fun (i, x) => (i, f x)) = ((parts.toList.map (·.1)).zip (parts.toList.map fun p => f p.2)).toArray := by
  apply Array.ext'
  simp only [Array.toList_map]
  exact zip_list f parts.toList

theorem opt_ops (tm : ∀ i, rep ρ I (get i) (a.tmps.getD i undef)) (o : Option Operand) : (o.map (evalO get) = none ∧ o.map a.eval = none) ∨ ∃ d u, o.map (evalO get) = some d ∧ o.map a.eval = some u ∧ rep ρ I d u := by
  cases o with
  | none => exact .inl ⟨rfl, rfl⟩
  | some x => exact .inr ⟨_, _, rfl, rfl, rep_evalO tm x⟩

theorem vcOp_run (hτ : TauOk P τ) (hC : CallOk P Γ C) (sat : Sat ρ I os w) (fr : Γ.Fr ρ I os w) (tm : ∀ i, rep ρ I (get i) (a.tmps.getD i undef)) (o : Oper) (h : vcOp τ C get os o.op K) :
    Out P Γ ρ I ((execOp a.eval o).run P w) w K := by
  have ev := fun x => rep_evalO tm x
  obtain ⟨dst, op, type, pos, after, guard⟩ := o
  dsimp only at h
  cases op with
  | move x => simp only [vcOp, D.force_eq] at h; exact .val rfl (.same sat fr (ev x) h)
  | assign x => simp only [vcOp, D.force_eq] at h; exact .val rfl (.same sat fr (ev x) h)
  | pick c x y =>
    simp only [vcOp] at h
    split at h
    case h_2 => exact h.elim
    rename_i t ht
    have hc := ev c
    rw [ht] at hc
    have hcb := rep_bool hc
    rw [Br.iff] at h
    refine .val (v := if t then a.eval x else a.eval y) (w' := w) ?_ ?_
    · simp [execOp, hcb, asBool]
    · cases t
      · simp only [Bool.false_eq_true, if_false, D.force_eq] at h ⊢; exact .same sat fr (ev y) h
      · simp only [if_true, D.force_eq] at h ⊢; exact .same sat fr (ev x) h
  | alloc t =>
    simp only [vcOp] at h
    split at h
    case h_2 => exact h.elim
    rename_i ti ht
    cases hz : ti.zero.isJunk with
    | true => rw [hz] at h; exact h.elim
    | false =>
      rw [hz] at h
      obtain ⟨v, w', hr, hg⟩ := snd_alloc (K := K) hτ sat fr ht hz h
      exact .val (by simp [execOp, hr]) hg
  | box t x =>
    simp only [vcOp, D.force_eq] at h
    cases hz : (evalO get x).cells.all D.one with
    | false => rw [hz] at h; exact h.elim
    | true =>
      rw [hz] at h
      obtain ⟨v, w', hr, hg⟩ := snd_box (P := P) (K := K) sat fr t (ev x) hz h
      exact .val (by simp [execOp, hr]) hg
  | buildSlice t len parts =>
    simp only [vcOp] at h
    have hp : repL ρ I (parts.toList.map fun p => evalO get p.2) (parts.toList.map fun p => a.eval p.2) := by
      have := repL_evalO tm (parts.toList.map (·.2))
      rw [List.map_map, List.map_map] at this; exact this
    obtain ⟨v, w', hr, hg⟩ := snd_buildSlice hτ sat fr hp (by simp) h
    exact .val (by simp only [execOp]; rw [zip_parts]; simp [hr]) hg
  | build t parts =>
    simp only [vcOp] at h
    have hp : repL ρ I (parts.toList.map fun p => evalO get p.2) (parts.toList.map fun p => a.eval p.2) := by
      have := repL_evalO tm (parts.toList.map (·.2))
      rw [List.map_map, List.map_map] at this; exact this
    obtain ⟨v, hr, hg⟩ := snd_build hτ sat fr hp h
    exact .val (by simp only [execOp]; rw [zip_parts]; simp [hr]) hg
  | load t x =>
    simp only [vcOp] at h
    obtain ⟨v, w', hr, hg⟩ := snd_load hτ sat fr (ev x) h
    exact .val (by simp [execOp, hr]) hg
  | store t x y =>
    simp only [vcOp] at h
    obtain ⟨w', hr, hg⟩ := snd_store hτ sat fr (ev x) (ev y) h
    exact .skip (by simp [execOp, hr]) hg
  | nilCheck x =>
    simp only [vcOp] at h
    have hx := ev x
    split at h
    case h_4 => exact h.elim
    all_goals rename_i hd; rw [hd] at hx; have hx' := hx; rw [rep] at hx
    · obtain ⟨p, _, _, e⟩ := hx
      exact .val (v := a.eval x) (w' := w) (by simp [execOp, e]) (.same sat fr hx' h)
    · obtain ⟨b, o, arr, t, fz, u, e, _⟩ := hx
      exact .val (v := a.eval x) (w' := w) (by simp [execOp, e]) (.same sat fr hx' h)
    · obtain ⟨y, z, e, _⟩ := hx
      exact .val (v := a.eval x) (w' := w) (by simp [execOp, e]) (.same sat fr hx' h)
  | binOp op t x y yt =>
    simp only [vcOp] at h
    cases hn : isNilS y with
    | true =>
      rw [hn] at h
      simp only [cond_true] at h
      have hy : y = .const (.slice none 0 0) := by
        unfold isNilS at hn
        split at hn
        · rfl
        · simp at hn
      subst hy
      unfold vcNilOp at h
      split at h
      case h_3 => exact h.elim
      · obtain ⟨⟨b, hb, h1, h2⟩, A, n, c, e⟩ := snd_nil (P := P) hτ (ev x) sat h
        refine .val (v := .bool b) (w' := w) ?_ (.same sat fr (by rw [rep]) hb)
        have g := eqGuard_ok (P := P) (w := w) (op := .eql) (t := t) (x := x) (y := .const (.slice none 0 0)) (vx := a.eval x) (vy := .slice none 0 0) (fun c => by rw [e]; simp) (by rw [e]; simp)
        have e2 : a.eval (.const (.slice none 0 0)) = .slice none 0 0 := rfl
        simp [execOp, e2, g, h1]
      · obtain ⟨⟨b, hb, h1, h2⟩, A, n, c, e⟩ := snd_nil (P := P) hτ (ev x) sat h
        refine .val (v := .bool (!b)) (w' := w) ?_ (.same sat fr (by rw [rep]) hb)
        have g := eqGuard_ok (P := P) (w := w) (op := .neq) (t := t) (x := x) (y := .const (.slice none 0 0)) (vx := a.eval x) (vy := .slice none 0 0) (fun c => by rw [e]; simp) (by rw [e]; simp)
        have e2 : a.eval (.const (.slice none 0 0)) = .slice none 0 0 := rfl
        simp [execOp, e2, g, h2]
    | false =>
    rw [hn] at h
    simp only [cond_false] at h
    unfold vcCmp at h
    split at h
    · obtain ⟨b, hb, h1, h2⟩ := snd_eql (P := P) (w := w) hτ (ev x) (ev y) h
      obtain ⟨n1, n2⟩ := eql_notagg (ev x) h
      refine .val (v := .bool b) (w' := w) ?_ (.same sat fr (by rw [rep]) hb)
      simp [execOp, eqGuard_ok n1 n2, h1]
    · obtain ⟨b, hb, h1, h2⟩ := snd_eql (P := P) (w := w) hτ (ev x) (ev y) h
      obtain ⟨n1, n2⟩ := eql_notagg (ev x) h
      refine .val (v := .bool (!b)) (w' := w) ?_ (.same sat fr (by rw [rep]) hb)
      simp [execOp, eqGuard_ok n1 n2, h2]
    · obtain ⟨v, hr, hg⟩ := snd_bin (P := P) (t := t) sat fr (ev x) (ev y) h
      obtain ⟨n1, n2⟩ := bin_notagg (ev x) h
      exact .val (by simp [execOp, eqGuard_ok n1 n2, hr]) hg
  | unOp op t x =>
    simp only [vcOp] at h
    have hx := ev x
    split at h
    case h_3 => exact h.elim
    · rename_i b hd
      rw [hd] at hx
      have e := rep_bool hx
      exact .val (v := .bool (!b)) (w' := w) (by simp [execOp, e, Op.unary]) (.same sat fr (by rw [rep]) h)
    · rename_i k n hd
      rw [hd] at hx
      have e := rep_int hx
      obtain ⟨z, hz, h⟩ := h
      subst hz
      exact .val (v := .int k (k.wrap (0 - n))) (w' := w) (by simp [execOp, e, Op.unary, Op.intArith]) (.same sat fr (by rw [rep]) h)
  | convert src dst' x =>
    simp only [vcOp] at h
    have hx := ev x
    split at h
    case h_3 => exact h.elim
    · rename_i ks q1 q2 q3 kd r1 r2 r3 k n hs hd he
      rw [he] at hx
      have e := rep_int hx
      obtain ⟨z, hz, h⟩ := h
      subst hz
      obtain ⟨i1, d1, t1⟩ := hτ _ _ hs
      obtain ⟨i2, d2, t2⟩ := hτ _ _ hd
      have k1 := t1.kind
      have k2 := t2.kind
      simp only [kindOk] at k1 k2
      subst k1 k2
      exact .val (v := .int kd (kd.wrap n)) (w' := w) (by simp [execOp, e, convert, run_underlying t1.und, run_underlying t2.und, Conv.intToInt]) (.same sat fr (by rw [rep]) h)
    · rename_i q1 q2 q3 r1 r2 r3 s hs hd he
      rw [he] at hx
      have hx' := hx
      rw [rep] at hx
      obtain ⟨i1, d1, t1⟩ := hτ _ _ hs
      obtain ⟨i2, d2, t2⟩ := hτ _ _ hd
      have k1 := t1.kind
      have k2 := t2.kind
      simp only [kindOk] at k1 k2
      subst k1 k2
      exact .val (v := a.eval x) (w' := w) (by simp [execOp, hx, convert, run_underlying t1.und, run_underlying t2.und]) (.same sat fr hx' h)
  | makeFunc fn x y =>
    simp only [vcOp, forceL_eq] at h
    refine .val (v := .func fn (x.map a.eval) (y.map a.eval)) (w' := w) rfl (.same sat fr ?_ h)
    rw [rep]
    exact ⟨_, _, rfl, by simpa using repL_evalO tm x.toList, by simpa using repL_evalO tm y.toList⟩
  | makeSlice t l c =>
    simp only [vcOp] at h
    obtain ⟨v, w', hr, hg⟩ := snd_makeSlice hτ sat fr (ev l) (ev c) h
    exact .val (by simp [execOp, hr]) hg
  | fieldAddr t x f =>
    simp only [vcOp] at h
    obtain ⟨v, hr, hg⟩ := snd_fieldAddr hτ sat fr (ev x) h
    exact .val (by simp [execOp, hr]) hg
  | field t x f =>
    simp only [vcOp] at h
    obtain ⟨v, hr, hg⟩ := snd_field hτ sat fr (ev x) h
    exact .val (by simp [execOp, hr]) hg
  | indexAddr t x i =>
    simp only [vcOp] at h
    obtain ⟨v, hr, hg⟩ := snd_indexAddr hτ sat fr (ev x) (ev i) h
    exact .val (by simp [execOp, hr]) hg
  | slice t x lo hi mx =>
    simp only [vcOp] at h
    obtain ⟨v, hr, hg⟩ := snd_slice hτ sat fr (ev x) (opt_ops tm lo) (opt_ops tm hi) (opt_ops tm mx) h
    exact .val (by simp [execOp, hr]) hg
  | extract x i =>
    simp only [vcOp] at h
    have hx := ev x
    split at h
    case h_2 => exact h.elim
    rename_i vs hd
    split at h
    case h_2 => exact h.elim
    rename_i d hi
    rw [D.force_eq] at h
    rw [hd, rep] at hx
    obtain ⟨arr, e, hr⟩ := hx
    obtain ⟨v, hv, hrv⟩ := repL_get hr hi
    have hv' : arr[i]? = some v := by simpa using hv
    exact .val (v := v) (w' := w) (by simp [execOp, e, Instr.extract, hv']) (.same sat fr hrv h)
  | call c =>
    obtain ⟨callee, args, ats⟩ := c
    cases callee with
    | value f =>
      simp only [vcOp] at h
      split at h
      case h_2 => exact h.elim
      rename_i n x y hf
      rw [forceL_eq] at h
      have hx := ev f
      rw [hf, rep] at hx
      obtain ⟨fi, ca, e, h1, h2⟩ := hx
      have hargs : repL ρ I (x ++ (args.toList.map (evalO get) ++ y)) (fi.toList ++ (args.toList.map a.eval ++ ca.toList)) := repL_append h1 (repL_append (repL_evalO tm _) h2)
      obtain ⟨hent, hcalls⟩ := hC _ _ _ _ h ρ I w _ sat fr hargs
      have hr : (execOp a.eval { dst, op := .call { callee := .value f, args, argTypes := ats }, type, pos, after, guard }).run P w = .ok (.enter n (fi.toList ++ (args.toList.map a.eval ++ ca.toList)).toArray) w := by
        have e1 : fi ++ args.map a.eval ++ ca = (fi.toList ++ (args.toList.map a.eval ++ ca.toList)).toArray := by
          apply Array.ext'; simp
        simp [execOp, resolve, e, Deferred.ofValue, invoke]
        rw [← hent w, ← e1]
        simp
      exact .inr ⟨n, _, hr, hcalls⟩
    | invoke r m => exact h.elim
    | builtin b =>
      simp only [vcOp] at h
      have hargs := repL_evalO tm args.toList
      obtain ⟨v, w', hr, hg⟩ := snd_builtin (ty := type) (cs := args.map fun | .const _ => true | _ => false) hτ sat fr hargs h
      refine .val ?_ hg
      have e1 : args.map a.eval = (args.toList.map a.eval).toArray := by apply Array.ext'; simp
      simp only [execOp, resolve, e1, Sem.run_bind, Sem.run_pure, Result.andThen_ok, invoke]
      exact hr
  | _ => exact h.elim
end ops
end Go.Proofs.Ytaplihoeephbeaa.V
