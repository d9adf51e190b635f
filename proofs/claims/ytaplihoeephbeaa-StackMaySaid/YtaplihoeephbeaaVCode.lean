/- VCode: a text of a symbolic executor that is proved sound, and contracts that are proved with it. -/
import Derived.Test.YtaplihoeephbeaaVSnd9
namespace Go.Proofs.Ytaplihoeephbeaa.V
open Go Go.RowKit
set_option linter.unusedVariables false

/-! ### States -/
def look : List (Nat × D) → Nat → D
  | [], _ => .junk
  | (k, d) :: m, i => bif Nat.beq k i then d else look m i
structure St where
  m : List (Nat × D)
  objs : Objs
def St.get (s : St) (i : Nat) : D := look s.m i
def St.put (s : St) (dst : Option Nat) (d : D) (os : Objs) : St :=
  match dst with
  | none => { m := s.m, objs := os }
  | some t => { m := (t, d) :: s.m, objs := os }
/-- The state behind a put, laid open. -/
def St.putK (s : St) (dst : Option Nat) (d : D) (os : Objs) (K : St → Prop) : Prop :=
  match s, dst with
  | ⟨m, _⟩, none => K ⟨m, os⟩
  | ⟨m, _⟩, some t => K ⟨(t, d) :: m, os⟩
theorem St.putK_eq (s : St) (dst : Option Nat) (d : D) (os : Objs) (K : St → Prop) : s.putK dst d os K = K (s.put dst d os) := by cases s; cases dst <;> rfl
/-- The state, laid open. -/
def St.opn (s : St) (F : (Nat → D) → Objs → Prop) : Prop :=
  match s with
  | ⟨m, os⟩ => F (look m) os
theorem St.opn_eq (s : St) (F : (Nat → D) → Objs → Prop) : s.opn F = F s.get s.objs := by cases s; rfl
structure R (Γ : Ctx) (N : Nat) (s : St) (ρ : Pl) (I : Im) (a : Act) (w : World) : Prop where
  sat : Sat ρ I s.objs w
  fr : Γ.Fr ρ I s.objs w
  tm : ∀ i, rep ρ I (s.get i) (a.tmps.getD i undef)
  df : a.defers = []
  sz : a.tmps.size = N

theorem R.put {Γ : Ctx} {N : Nat} {s : St} {ρ : Pl} {I : Im} {a : Act} {w : World} (h : R Γ N s ρ I a w) {dst : Option Nat} (hd : ∀ t, dst = some t → t < N) {d : D} {v : Value} {os : Objs} {ρ' : Pl} {I' : Im} {w' : World}
    (sat : Sat ρ' I' os w') (fr : Γ.Fr ρ' I' os w') (hρ : ρ.le ρ') (hI : I.le I') (hv : rep ρ' I' d v) : R Γ N (s.put dst d os) ρ' I' (a.put dst v) w' := by
  cases dst with
  | none => exact ⟨sat, fr, fun i => rep_mono hρ hI _ _ (h.tm i), h.df, h.sz⟩
  | some t =>
    have ht := hd t rfl
    refine ⟨sat, fr, fun i => ?_, h.df, by simp [Act.put, h.sz]⟩
    simp only [St.get, St.put, look, Act.put]
    by_cases he : t = i
    · subst he
      have e1 : Nat.beq t t = true := Nat.beq_refl t
      rw [e1]
      simp only [cond_true]
      rw [Array.getD_eq_getD_getElem?, Array.getElem?_setIfInBounds_self_of_lt (by rw [h.sz]; exact ht)]
      exact hv
    · have e1 : Nat.beq t i = false := by
        cases hb : Nat.beq t i with
        | false => rfl
        | true => exact absurd (Nat.eq_of_beq_eq_true hb) he
      rw [e1]
      simp only [cond_false]
      rw [Array.getD_eq_getD_getElem?, Array.getElem?_setIfInBounds_ne he, ← Array.getD_eq_getD_getElem?]
      exact rep_mono hρ hI _ _ (h.tm i)

/-- What is less known: another view of the same memory. -/
def Weak (n0 : Nat) (s t : St) : Prop := ∀ (ρ : Pl) (I : Im) (w : World) (tm : Nat → Value), Sat ρ I s.objs w → (∀ i, rep ρ I (s.get i) (tm i)) → n0 ≤ s.objs.length →
  ∃ ρ' I', Sat ρ' I' t.objs w ∧ (∀ i, rep ρ' I' (t.get i) (tm i)) ∧ I.le I' ∧ n0 ≤ t.objs.length ∧ (∀ i j, i < n0 → ρ' i j = ρ i j) ∧ (∀ b, I' b ≠ none → I b ≠ none ∨ foot ρ s.objs b) ∧ (∀ b, foot ρ' t.objs b → foot ρ s.objs b)
theorem Weak.refl (n0 : Nat) (s : St) : Weak n0 s s := fun ρ I w tm h1 h2 h3 => ⟨ρ, I, h1, h2, Im.le_refl _, h3, fun _ _ _ => rfl, fun _ h => .inl h, fun _ h => h⟩
theorem Weak.trans {n0 : Nat} {s t u : St} (h : Weak n0 s t) (k : Weak n0 t u) : Weak n0 s u := by
  intro ρ I w tm h1 h2 h3
  obtain ⟨ρ1, I1, a1, a2, a3, a4, a5, a6, a7⟩ := h ρ I w tm h1 h2 h3
  obtain ⟨ρ2, I2, b1, b2, b3, b4, b5, b6, b7⟩ := k ρ1 I1 w tm a1 a2 a4
  refine ⟨ρ2, I2, b1, b2, Im.le_trans a3 b3, b4, fun i j hi => (b5 i j hi).trans (a5 i j hi), fun b hb => ?_, fun b hb => a7 b (b7 b hb)⟩
  rcases b6 b hb with h | h
  · exact a6 b h
  · exact .inr (a7 b h)
theorem R.weak {Γ : Ctx} {N : Nat} {s t : St} {ρ : Pl} {I : Im} {a : Act} {w : World} (h : R Γ N s ρ I a w) (hw : Weak Γ.os.length s t) : ∃ ρ' I', R Γ N t ρ' I' a w := by
  obtain ⟨ρ', I', h1, h2, h3, h4, h5, h6, h7⟩ := hw ρ I w (fun i => a.tmps.getD i undef) h.sat h.tm h.fr.len
  refine ⟨ρ', I', h1, ⟨h.fr.wos, h.fr.tape, h.fr.output, h.fr.size, h.fr.kept, h4, fun i j hi => (h5 i j hi).trans (h.fr.same i j hi), Im.le_trans h.fr.imle h3, fun b hb => ?_, fun b hb => h.fr.obnew b (h7 b hb)⟩, h2, h.df, h.sz⟩
  rcases h6 b hb with h' | h'
  · exact h.fr.imnew b h'
  · exact .inr (h.fr.obnew b h')

/-- Where the view may be turned. -/
inductive Pt (n0 : Nat) : St → (St → Prop) → Prop
  | go {s : St} {K : St → Prop} : K s → Pt n0 s K
  | weak {s t : St} {K : St → Prop} : Weak n0 s t → Pt n0 t K → Pt n0 s K

/-! ### Regions -/
def vcOps (τ : Tau) (C : CallW) (all : List Oper) : List Oper → (St → Prop) → St → Prop
  | [], K, s => K s
  | o :: os, K, s => match o.guard with
    | none => s.opn fun g ob => vcOp τ C g ob o.op (fun d objs => s.putK o.dst d objs (vcOps τ C all os K))
    | some (g, want) => match (all[g]?).bind (·.dst) with
      | none => False
      | some t => match s.get t with
        | .bool b => bif want then Br b (s.opn fun g ob => vcOp τ C g ob o.op (fun d objs => s.putK o.dst d objs (vcOps τ C all os K))) (s.opn fun _ ob => s.putK o.dst (.tup []) ob (vcOps τ C all os K))
            else Br b (s.opn fun _ ob => s.putK o.dst (.tup []) ob (vcOps τ C all os K)) (s.opn fun g ob => vcOp τ C g ob o.op (fun d objs => s.putK o.dst d objs (vcOps τ C all os K)))
        | .tup [] => s.opn fun _ ob => s.putK o.dst (.tup []) ob (vcOps τ C all os K)
        | _ => False
def dstsOk (N : Nat) (ops : List Oper) : Bool := ops.all fun o => match o.dst with | none => true | some t => Nat.blt t N

section
variable {P : Program} {τ : Tau} {Γ : Ctx} {C : CallW} {N : Nat}

/-- One operation, whatever comes behind it. -/
theorem op_sound (hτ : TauOk P τ) (hC : CallOk P Γ C) {s : St} {ρ : Pl} {I : Im} {a : Act} {w : World} (h : R Γ N s ρ I a w) {o : Oper} (hd : ∀ t, o.dst = some t → t < N) {K : D → Objs → Prop}
    (hop : vcOp τ C s.get s.objs o.op K) {next : Act → World → Prop} {Q : Exit → Act → World → Prop} (hnext : ∀ d os ρ' I' a' w', R Γ N (s.put o.dst d os) ρ' I' a' w' → K d os → next a' w') : o.wp P a w next Q := by
  have fin : ∀ v w', Goes Γ ρ I K v w' → next (a.put o.dst v) w' := by
    rintro v w' ⟨d, os, ρ', I', h1, h2, h3, h4, h5, h6⟩
    exact hnext d os ρ' I' _ w' (h.put hd h1 h2 h3 h4 h5) h6
  unfold Oper.wp
  rcases vcOp_run hτ hC h.sat h.fr h.tm o hop with ⟨v, w', hr, hg⟩ | ⟨n, vs, hr, hcalls⟩
  · rcases hr with hr | ⟨hr, rfl⟩ <;> rw [hr]
    · exact fin v w' hg
    · exact fin undef w' hg
  · rw [hr]
    refine hcalls.mono fun e w' he => ?_
    obtain ⟨v, rfl, hg⟩ := he
    exact fin v w' hg

theorem ops_sound (hτ : TauOk P τ) (hC : CallOk P Γ C) {ops : Array Oper} {Q : Exit → Act → World → Prop} {K : St → Prop} (hQ : ∀ s ρ I a w, R Γ N s ρ I a w → K s → Q .normal a w) :
    ∀ (suf pre : List Oper), ops.toList = pre ++ suf → dstsOk N suf = true → ∀ (s : St) (ρ : Pl) (I : Im) (a : Act) (w : World), R Γ N s ρ I a w → vcOps τ C ops.toList suf K s → wpOps P ops Q (List.range' pre.length suf.length) a w
  | [], pre, _, _, s, ρ, I, a, w, h, hk => hQ s ρ I a w h hk
  | o :: suf, pre, he, hN, s, ρ, I, a, w, h, hk => by
    have hi : ops[pre.length]? = some o := by
      rw [← Array.getElem?_toList, he, List.getElem?_append_right (Nat.le_refl _)]; simp
    have hN' : (match o.dst with | none => true | some t => Nat.blt t N) = true ∧ dstsOk N suf = true := by simpa [dstsOk] using hN
    have hd : ∀ t, o.dst = some t → t < N := fun t ht => by
      have := hN'.1; rw [ht] at this; exact Nat.le_of_ble_eq_true this
    have rest : ∀ s' ρ' I' a' w', R Γ N s' ρ' I' a' w' → vcOps τ C ops.toList suf K s' → wpOps P ops Q (List.range' (pre.length + 1) suf.length) a' w' := by
      intro s' ρ' I' a' w' h' hk'
      have := ops_sound hτ hC hQ suf (pre ++ [o]) (by simp [he]) hN'.2 s' ρ' I' a' w' h' hk'
      simpa using this
    have skip : vcOps τ C ops.toList suf K (s.put o.dst (.tup []) s.objs) → wpOps P ops Q (List.range' (pre.length + 1) suf.length) (a.put o.dst undef) w := fun hk =>
      rest _ ρ I _ w (h.put hd h.sat h.fr (Pl.le_refl _) (Im.le_refl _) rep_undef) hk
    have run : vcOp τ C s.get s.objs o.op (fun d objs => vcOps τ C ops.toList suf K (s.put o.dst d objs)) → o.wp P a w (wpOps P ops Q (List.range' (pre.length + 1) suf.length)) Q := fun hop =>
      op_sound hτ hC h hd hop fun d os ρ' I' a' w' h' hk' => rest _ ρ' I' a' w' h' hk'
    rw [List.length_cons, List.range'_succ]
    simp only [wpOps, hi]
    simp only [vcOps, St.opn_eq, St.putK_eq] at hk
    cases hg : o.guard with
    | none =>
      rw [hg] at hk
      rw [if_pos (by simp [Region.wanted, hg])]
      exact .inl (run hk)
    | some gw =>
      obtain ⟨g, want⟩ := gw
      rw [hg] at hk
      dsimp only at hk
      cases ht : (ops.toList[g]?).bind (·.dst) with
      | none => rw [ht] at hk; exact hk.elim
      | some t =>
        rw [ht] at hk
        dsimp only at hk
        have ht' : (ops[g]?).bind (·.dst) = some t := by rw [← Array.getElem?_toList]; exact ht
        have htm := h.tm t
        split at hk
        · rename_i b hb
          rw [hb] at htm
          have hv := rep_bool htm
          have hy : yielded ops a.tmps g = some b := by
            unfold yielded
            rw [ht']
            simp only [Option.bind_some]
            rw [Array.getD_eq_getD_getElem?] at hv
            cases hq : a.tmps[t]? with
            | none => rw [hq] at hv; simp [undef] at hv
            | some u => rw [hq] at hv; simp at hv; subst hv; rfl
          have hw : Region.wanted o (yielded ops a.tmps) = (b == want) := by
            simp [Region.wanted, hg, hy]
          rw [hw]
          cases want <;> cases b <;> simp only [cond_true, cond_false, Br.iff, Bool.false_eq_true, if_true, if_false] at hk
          · rw [if_pos (by decide)]; exact .inl (run hk)
          · rw [if_neg (by decide)]; exact skip hk
          · rw [if_neg (by decide)]; exact skip hk
          · rw [if_pos (by decide)]; exact .inl (run hk)
        · rename_i hb
          rw [hb] at htm
          have hv : a.tmps.getD t undef = .tuple #[] := by
            rw [rep] at htm
            obtain ⟨arr, e, hr⟩ := htm
            rw [repL_nil] at hr
            have : arr = #[] := Array.ext' (by simpa using hr)
            rw [e, this]
          have hy : yielded ops a.tmps g = none := by
            unfold yielded
            rw [ht']
            simp only [Option.bind_some]
            rw [Array.getD_eq_getD_getElem?] at hv
            cases hq : a.tmps[t]? with
            | none => rfl
            | some u => rw [hq] at hv; simp at hv; subst hv; rfl
          rw [if_neg (by simp [Region.wanted, hg, hy])]
          exact skip hk
        · exact hk.elim
end
end Go.Proofs.Ytaplihoeephbeaa.V
