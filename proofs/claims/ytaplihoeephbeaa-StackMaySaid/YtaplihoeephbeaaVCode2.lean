/- VCode2: a text of a symbolic executor that is proved sound, and contracts that are proved with it. -/
import Derived.Test.YtaplihoeephbeaaVCode
namespace Go.Proofs.Ytaplihoeephbeaa.V
open Go Go.RowKit
set_option linter.unusedVariables false

/-! ### Code -/
inductive E where
  | normal
  | exit (id : Nat)
  | ret
def without (ws : List Nat) : List (Nat × D) → List (Nat × D)
  | [] => []
  | (k, d) :: m => bif ws.contains k then without ws m else (k, d) :: without ws m
def withoutK (ws : List Nat) : List (Nat × D) → (List (Nat × D) → Prop) → Prop
  | [], K => K []
  | (k, d) :: m, K => bif ws.contains k then withoutK ws m K else withoutK ws m (fun m' => K ((k, d) :: m'))
theorem withoutK_eq (ws : List Nat) : ∀ (m : List (Nat × D)) (K : List (Nat × D) → Prop), withoutK ws m K = K (without ws m)
  | [], K => rfl
  | (k, d) :: m, K => by
    unfold withoutK without
    cases ws.contains k <;> simp only [cond_true, cond_false, withoutK_eq ws m]
/-- The state at a loop's head: of the slots that the body writes nothing is known but what is told. -/
def St.head (s : St) (ws : List Nat) (slots : List (Nat × D)) (os : Objs) : St := { m := slots ++ without ws s.m, objs := os }
inductive Loop (n0 : Nat) (ws : List Nat) (body : (E → St → Prop) → St → Prop) (K : E → St → Prop) (s : St) : Prop
  | mk (js : List Nat) (J : Nat → List (Nat × D) → Objs → Prop) (n : Nat) (slots : List (Nat × D)) (os : Objs) (h0 : J n slots os) (hw : Weak n0 s (s.head (js ++ ws) slots os))
      (hr : ∀ n slots os, J n slots os → withoutK (js ++ ws) s.m (fun m => body (fun e s' => match e with
        | .normal => ∃ k slots' os', k < n ∧ J k slots' os' ∧ Weak n0 s' { m := slots' ++ m, objs := os' }
        | e => K e s') { m := slots ++ m, objs := os })) : Loop n0 ws body K s

def writes : Code → List Nat
  | .region _ ops _ => ops.toList.filterMap (·.dst)
  | .seq a b => writes a ++ writes b
  | .cond _ a b => writes a ++ writes b
  | .block _ c => writes c
  | .loop c => writes c
  | .scope c => writes c
  | _ => []
def codeOk (N : Nat) : Code → Bool
  | .region _ ops _ => dstsOk N ops.toList
  | .seq a b => codeOk N a && codeOk N b
  | .cond _ a b => codeOk N a && codeOk N b
  | .block _ c => codeOk N c
  | .loop c => codeOk N c
  | _ => true

/-- A region that draws its order: what its operations come to in whatever order. -/
abbrev DrawW := Nat → List Oper → (St → Prop) → St → Prop

def vc (τ : Tau) (C : CallW) (Dr : DrawW) (n0 : Nat) : Code → (E → St → Prop) → St → Prop
  | .skip, K, s => K .normal s
  | .region id ops false, K, s => Pt n0 s (fun s => vcOps τ C ops.toList ops.toList (K .normal) s)
  | .region id ops true, K, s => Pt n0 s (fun s => Dr id ops.toList (K .normal) s)
  | .seq a b, K, s => vc τ C Dr n0 a (fun e s' => match e with
      | .normal => vc τ C Dr n0 b K s'
      | e => K e s') s
  | .cond c x y, K, s => match evalO s.get c with
      | .bool b => Br b (vc τ C Dr n0 x K s) (vc τ C Dr n0 y K s)
      | _ => False
  | .block id c, K, s => vc τ C Dr n0 c (fun e s' => match e with
      | .exit id' => bif Nat.beq id' id then K .normal s' else K (.exit id') s'
      | e => K e s') s
  | .loop c, K, s => Loop n0 (writes c) (fun K' s' => vc τ C Dr n0 c K' s') K s
  | .exit id, K, s => K (.exit id) s
  | .ret, K, s => K .ret s
  | .label _, K, s => K .normal s
  | _, _, _ => False

def DrawOk (P : Program) (Γ : Ctx) (N : Nat) (Dr : DrawW) : Prop := ∀ id ops K s, Dr id ops.toList K s → dstsOk N ops.toList = true → ∀ ρ I a w, R Γ N s ρ I a w → ∀ Q : Exit → Act → World → Prop,
  (∀ s ρ I a w, R Γ N s ρ I a w → K s → Q .normal a w) → (Code.region id ops true).wp P Q a w

section
variable {P : Program} {τ : Tau} {Γ : Ctx} {C : CallW} {Dr : DrawW} {N : Nat}

theorem Pt.out {s : St} {K : St → Prop} (h : Pt Γ.os.length s K) {ρ : Pl} {I : Im} {a : Act} {w : World} (hR : R Γ N s ρ I a w) : ∃ s' ρ' I', R Γ N s' ρ' I' a w ∧ K s' := by
  induction h generalizing ρ I with
  | go h => exact ⟨_, ρ, I, hR, h⟩
  | weak hw _ ih =>
    obtain ⟨ρ', I', h'⟩ := hR.weak hw
    exact ih h'

/-- What is asked of an end. -/
def Ends (Γ : Ctx) (N : Nat) (K : E → St → Prop) (Q : Exit → Act → World → Prop) : Prop :=
  (∀ s ρ I a w, R Γ N s ρ I a w → K .normal s → Q .normal a w) ∧ (∀ id s ρ I a w, R Γ N s ρ I a w → K (.exit id) s → Q (.exit id) a w) ∧ (∀ s ρ I a w, R Γ N s ρ I a w → K .ret s → Q .ret a w)

theorem vc_sound (hτ : TauOk P τ) (hC : CallOk P Γ C) (hD : DrawOk P Γ N Dr) : ∀ (c : Code), codeOk N c = true → ∀ (K : E → St → Prop) (s : St), vc τ C Dr Γ.os.length c K s → ∀ (ρ : Pl) (I : Im) (a : Act) (w : World), R Γ N s ρ I a w →
    ∀ (Q : Exit → Act → World → Prop), Ends Γ N K Q → c.wp P Q a w := by
  intro c
  induction c with
  | skip => intro _ K s h ρ I a w hR Q hQ; exact wp_skip (hQ.1 _ _ _ _ _ hR h)
  | region id ops draw =>
    intro hN K s h ρ I a w hR Q hQ
    cases draw with
    | false =>
      simp only [vc] at h
      obtain ⟨s', ρ', I', hR', h'⟩ := h.out hR
      refine wp_region ?_
      have := ops_sound hτ hC hQ.1 ops.toList [] (by simp) hN s' ρ' I' a w hR' h'
      simpa [List.range_eq_range'] using this
    | true =>
      simp only [vc] at h
      obtain ⟨s', ρ', I', hR', h'⟩ := h.out hR
      exact hD id ops _ _ h' hN ρ' I' a w hR' Q hQ.1
  | seq x y ihx ihy =>
    intro hN K s h ρ I a w hR Q hQ
    have hN' : codeOk N x = true ∧ codeOk N y = true := by simpa [codeOk] using hN
    simp only [vc] at h
    refine wp_seq (ihx hN'.1 _ _ h ρ I a w hR _ ⟨?_, ?_, ?_⟩)
    · intro s' ρ' I' a' w' hR' hk; exact ihy hN'.2 _ _ hk ρ' I' a' w' hR' Q hQ
    · intro id s' ρ' I' a' w' hR' hk; exact hQ.2.1 id _ _ _ _ _ hR' hk
    · intro s' ρ' I' a' w' hR' hk; exact hQ.2.2 _ _ _ _ _ hR' hk
  | cond c x y ihx ihy =>
    intro hN K s h ρ I a w hR Q hQ
    have hN' : codeOk N x = true ∧ codeOk N y = true := by simpa [codeOk] using hN
    simp only [vc] at h
    have hc := rep_evalO hR.tm c
    split at h
    case h_2 => exact h.elim
    rename_i b hb
    rw [hb] at hc
    rw [Br.iff] at h
    refine wp_cond_split (rep_bool hc) (fun e => ?_) (fun e => ?_)
    · subst e; exact ihx hN'.1 _ _ h ρ I a w hR Q hQ
    · subst e; exact ihy hN'.2 _ _ h ρ I a w hR Q hQ
  | block id c ih =>
    intro hN K s h ρ I a w hR Q hQ
    simp only [vc] at h
    refine wp_block (ih hN _ _ h ρ I a w hR _ ⟨?_, ?_, ?_⟩)
    · intro s' ρ' I' a' w' hR' hk; exact hQ.1 _ _ _ _ _ hR' hk
    · intro id' s' ρ' I' a' w' hR' hk
      dsimp only at hk
      simp only [Exit.inBlock]
      cases hb : Nat.beq id' id with
      | true => rw [hb] at hk; rw [if_pos (Nat.eq_of_beq_eq_true hb)]; exact hQ.1 _ _ _ _ _ hR' hk
      | false =>
        rw [hb] at hk
        rw [if_neg (fun e => by subst e; rw [Nat.beq_refl] at hb; simp at hb)]
        exact hQ.2.1 id' _ _ _ _ _ hR' hk
    · intro s' ρ' I' a' w' hR' hk; exact hQ.2.2 _ _ _ _ _ hR' hk
  | loop c ih =>
    intro hN K s h ρ I a w hR Q hQ
    simp only [vc] at h
    obtain ⟨js, J, n, slots, os, h0, hw, hr⟩ := h
    simp only [withoutK_eq] at hr
    obtain ⟨ρ1, I1, hR1⟩ := hR.weak hw
    intro b k cs
    have key : ∀ n, ∀ (a : Act) (w : World), (∃ slots os ρ I, J n slots os ∧ R Γ N (s.head (js ++ writes c) slots os) ρ I a w) →
        ∃ e a' w', Q e a' w' ∧ Arrives P (lone (b.at a (.code c :: .inLoop c :: k)) cs w) b k cs e a' w' := by
      intro n
      induction n using Nat.strongRecOn with
      | _ n ihn =>
        intro a w hex
        obtain ⟨slots, os, ρ, I, hj, hR⟩ := hex
        have hround := ih hN _ _ (hr n slots os hj) ρ I a w hR (Exit.then (fun a' w' => ∃ m, m < n ∧ ∃ slots os ρ I, J m slots os ∧ R Γ N (s.head (js ++ writes c) slots os) ρ I a' w') Q) ⟨?_, ?_, ?_⟩
        · obtain ⟨e, a₁, w₁, hq, harr⟩ := hround b (.inLoop c :: k) cs
          cases e with
          | normal =>
            obtain ⟨m, hm, hex⟩ := hq
            obtain ⟨e₂, a₂, w₂, hq₂, harr₂⟩ := ihn m hm a₁ w₁ hex
            exact ⟨e₂, a₂, w₂, hq₂, .of_steps (Steps.trans harr (.one step_inLoop)) harr₂⟩
          | exit id => exact ⟨_, a₁, w₁, hq, .pass (x := .inLoop c) rfl (fun _ _ => .inl (by simp)) harr⟩
          | goto l => exact ⟨_, a₁, w₁, hq, .pass (x := .inLoop c) rfl (fun _ _ => .inl (by simp)) harr⟩
          | ret => exact ⟨_, a₁, w₁, hq, .pass (x := .inLoop c) rfl (fun _ _ => .inl (by simp)) harr⟩
          | panic ch => exact ⟨_, a₁, w₁, hq, .pass (x := .inLoop c) rfl (fun _ _ => .inl (by simp)) harr⟩
          | outgrown => exact ⟨_, a₁, w₁, hq, .pass (x := .inLoop c) rfl (fun _ _ => .inl (by simp)) harr⟩
        · intro s' ρ' I' a' w' hR' hk
          obtain ⟨m, slots', os', hm, hj', hw'⟩ := hk
          obtain ⟨ρ2, I2, hR2⟩ := hR'.weak hw'
          exact ⟨m, hm, slots', os', ρ2, I2, hj', hR2⟩
        · intro id s' ρ' I' a' w' hR' hk; exact hQ.2.1 id _ _ _ _ _ hR' hk
        · intro s' ρ' I' a' w' hR' hk; exact hQ.2.2 _ _ _ _ _ hR' hk
    obtain ⟨e, a', w', hq, harr⟩ := key n a w ⟨slots, os, ρ1, I1, h0, hR1⟩
    exact ⟨e, a', w', hq, .of_steps (.one step_loop) harr⟩
  | exit id => intro _ K s h ρ I a w hR Q hQ; exact wp_exit (hQ.2.1 id _ _ _ _ _ hR h)
  | ret => intro _ K s h ρ I a w hR Q hQ; exact wp_ret (hQ.2.2 _ _ _ _ _ hR h)
  | label l => intro _ K s h ρ I a w hR Q hQ; exact wp_label (hQ.1 _ _ _ _ _ hR h)
  | rangeFunc => intro _ K s h; exact h.elim
  | scope => intro _ K s h; exact h.elim
  | goto => intro _ K s h; exact h.elim
  | refuse => intro _ K s h; exact h.elim
end

/-! ### Contracts -/
def Enters (P : Program) (f : FuncId) : Prop := ∀ args w, (callFunc f args).run P w = .ok (.enter f args) w
theorem Enters.of {P : Program} {f : FuncId} {fn : Func} {c : Code} (hf : P.funcs[f]? = some fn) (hname : (fn.name == "runtime.NumGoroutine") = false) (hb : fn.body = some c) : Enters P f :=
  fun args w => by
    have h1 : fn.name ≠ "runtime.NumGoroutine" := by simpa using hname
    simp [callFunc, hf, h1, hb]
def Post (P : Program) (ρ : Pl) (I : Im) (os : Objs) (w : World) (post : D → Objs → Prop) (e : Ending) (w' : World) : Prop :=
  ∃ v d os' ρ' I', e = .returned v ∧ post d os' ∧ Sat ρ' I' os' w' ∧ Fr ρ I os w ρ' I' os' w' ∧ rep ρ' I' d v
def Spec (P : Program) (f : FuncId) (args : List D) (os : Objs) (post : D → Objs → Prop) : Prop :=
  Enters P f ∧ ∀ ρ I w vs, Sat ρ I os w → repL ρ I args vs → Calls P f vs.toArray w (Post P ρ I os w post)
theorem Spec.mono {P : Program} {f : FuncId} {args : List D} {os : Objs} {post post' : D → Objs → Prop} (h : Spec P f args os post) (k : ∀ d os', post d os' → post' d os') : Spec P f args os post' :=
  ⟨h.1, fun ρ I w vs h1 h2 => (h.2 ρ I w vs h1 h2).mono fun e w' ⟨v, d, os', ρ', I', he, hp, r⟩ => ⟨v, d, os', ρ', I', he, k d os' hp, r⟩⟩
theorem Fr.le {ρ ρ' : Pl} {I I' : Im} {os os' : Objs} {w w' : World} (sat : Sat ρ I os w) (h : Fr ρ I os w ρ' I' os' w') : ρ.le ρ' := by
  intro i j p hp
  rcases Nat.lt_or_ge i os.length with hi | hi
  · rw [h.same i j hi]; exact hp
  · rw [sat.dom i j hi] at hp; simp at hp
theorem Fr.comp {ρ0 ρ ρ' : Pl} {I0 I I' : Im} {os0 os os' : Objs} {w0 w w' : World} (h : Fr ρ0 I0 os0 w0 ρ I os w) (k : Fr ρ I os w ρ' I' os' w') : Fr ρ0 I0 os0 w0 ρ' I' os' w' := by
  refine ⟨k.wos.trans h.wos, k.tape.trans h.tape, k.output.trans h.output, Nat.le_trans h.size k.size, fun b hb hf => ?_, Nat.le_trans h.len k.len, fun i j hi => ?_, Im.le_trans h.imle k.imle, fun b hb => ?_, fun b hb => ?_⟩
  · rw [k.kept b (Nat.lt_of_lt_of_le hb h.size) (fun hf' => ?_)]
    · exact h.kept b hb hf
    · rcases h.obnew b hf' with h' | h'
      · exact hf h'
      · omega
  · rw [k.same i j (Nat.lt_of_lt_of_le hi h.len)]; exact h.same i j hi
  · rcases k.imnew b hb with h' | h' | h'
    · exact h.imnew b h'
    · exact .inr (h.obnew b h')
    · exact .inr (.inr (Nat.le_trans h.size h'))
  · rcases k.obnew b hb with h' | h'
    · exact h.obnew b h'
    · exact .inr (Nat.le_trans h.size h')

/-- A call, by a contract. -/
inductive Call (P : Program) : CallW
  | mk {f : FuncId} {args : List D} {os : Objs} {K : D → Objs → Prop} {post : D → Objs → Prop} (h : Spec P f args os post) (hk : ∀ d os', post d os' → K d os') : Call P f args os K
theorem call_ok (P : Program) (Γ : Ctx) : CallOk P Γ (Call P) := by
  intro n args os K h ρ I w vs sat fr hr
  obtain ⟨h, hk⟩ := h
  refine ⟨fun w' => h.1 _ w', (h.2 ρ I w vs sat hr).mono ?_⟩
  rintro e w' ⟨v, d, os', ρ', I', he, hp, h1, h2, h3⟩
  exact ⟨v, he, d, os', ρ', I', h1, fr.comp h2, h2.le sat, h2.imle, h3, hk _ _ hp⟩

/-- What a function hands back. -/
def resK (τ : Tau) (get : Nat → D) (os : Objs) : List ResultVar → (List D → Prop) → Prop
  | [], K => K []
  | .tmp t :: r, K => D.force (fun d => resK τ get os r (fun ds => K (d :: ds))) (get t)
  | .cell a t :: r, K => vcLoad τ t (get a) os (fun d _ => resK τ get os r (fun ds => K (d :: ds)))
def resD (post : D → Objs → Prop) (os : Objs) : List D → Prop
  | [d] => post d os
  | ds => post (.tup ds) os
inductive Ret (τ : Tau) (n0 : Nat) (fn : Func) (post : D → Objs → Prop) : St → Prop
  | mk {s : St} (rs : List ResultVar) : fn.results = rs.toArray → s.opn (fun g os => resK τ g os rs (resD post os)) → Ret τ n0 fn post s
  | weak {s t : St} : Weak n0 s t → Ret τ n0 fn post t → Ret τ n0 fn post s

def start (args : List D) (os : Objs) : St := { m := (List.range args.length).zip args, objs := os }

section
variable {P : Program} {τ : Tau} {N : Nat}
theorem look_start : ∀ (args : List D) (k i : Nat), look ((List.range' k args.length).zip args) i = if k ≤ i then args.getD (i - k) .junk else .junk
  | [], k, i => by simp [look]
  | d :: args, k, i => by
    rw [List.length_cons, List.range'_succ, List.zip_cons_cons, look]
    cases hb : Nat.beq k i with
    | true =>
      have := Nat.eq_of_beq_eq_true hb
      subst this
      simp
    | false =>
      have hne : k ≠ i := fun e => by subst e; rw [Nat.beq_refl] at hb; simp at hb
      simp only [cond_false]
      rw [look_start args (k + 1) i]
      by_cases hk : k ≤ i
      · rw [if_pos (by omega), if_pos hk, show i - k = (i - (k + 1)) + 1 by omega]; simp
      · rw [if_neg (by omega), if_neg hk]

def resF (tm : Array Value) : ResultVar → Sem Value
  | .tmp t => pure (tm.getD t undef)
  | .cell a t => do loadVar t (← asAddr (tm.getD a undef))
theorem res_run (hτ : TauOk P τ) {ρ : Pl} {I : Im} {os : Objs} {w : World} {get : Nat → D} {tm : Array Value} (sat : Sat ρ I os w) (htm : ∀ i, rep ρ I (get i) (tm.getD i undef)) : ∀ (rs : List ResultVar) (K : List D → Prop), resK τ get os rs K →
    ∃ ds vs, (rs.mapM (resF tm)).run P w = .ok vs w ∧ repL ρ I ds vs ∧ K ds
  | [], K, h => ⟨[], [], by simp, repL_nil.2 rfl, h⟩
  | .tmp t :: r, K, h => by
    rw [resK, D.force_eq] at h
    obtain ⟨ds, vs, h1, h2, h3⟩ := res_run hτ sat htm r _ h
    exact ⟨_, _ :: vs, by rw [List.mapM_cons]; simp only [resF, Sem.run_bind, Sem.run_pure, Result.andThen_ok, h1], repL_cons.2 ⟨_, _, rfl, htm t, h2⟩, h3⟩
  | .cell a t :: r, K, h => by
    rw [resK] at h
    obtain ⟨v, d, hrun, hrep, h⟩ := load_run (P := P) hτ sat (htm a) h
    obtain ⟨ds, vs, h1, h2, h3⟩ := res_run hτ sat htm r _ h
    have hl : (do loadVar t (← asAddr (tm.getD a undef)) : Sem Value).run P w = .ok v w := by
      unfold Instr.loadAt at hrun
      generalize tm.getD a undef = x at hrun ⊢
      cases x with
      | pointer p =>
        cases p with
        | none => simp [Instr.sureAddr, stuck] at hrun
        | some p => simpa [Instr.sureAddr, asAddr] using hrun
      | _ => simp [Instr.sureAddr, stuck] at hrun
    exact ⟨_, _ :: vs, by rw [List.mapM_cons]; have hl' : (resF tm (.cell a t)).run P w = .ok v w := hl; simp only [Sem.run_bind, hl', Sem.run_pure, Result.andThen_ok, h1], repL_cons.2 ⟨_, _, rfl, hrep, h2⟩, h3⟩
theorem ret_out (hτ : TauOk P τ) {Γ : Ctx} {fn : Func} {post : D → Objs → Prop} {s : St} (h : Ret τ Γ.os.length fn post s) {ρ : Pl} {I : Im} {a : Act} {w : World} (hR : R Γ N s ρ I a w) :
    ∃ v, (results fn a.tmps).run P w = .ok v w ∧ Post P Γ.ρ Γ.I Γ.os Γ.w post (.returned v) w := by
  induction h generalizing ρ I with
  | mk rs hr hp =>
    rename_i s
    rw [St.opn_eq] at hp
    obtain ⟨ds, vs, h1, h2, h3⟩ := res_run (P := P) hτ hR.sat hR.tm rs _ hp
    have hrun : (results fn a.tmps).run P w = .ok (if h : vs.toArray.size = 1 then vs.toArray[0] else .tuple vs.toArray) w := by
      have e : results fn a.tmps = (do let vs ← fn.results.mapM (resF a.tmps); pure (if h : vs.size = 1 then vs[0] else .tuple vs)) := by
        unfold results
        congr 2
      rw [e, hr]
      simp only [Array.mapM_eq_mapM_toList, Sem.run_bind, Sem.run_map]
      rw [h1]
      simp
    refine ⟨_, hrun, ?_⟩
    match ds, vs, h2, h3 with
    | [], _, h2, h3 =>
      rw [repL_nil] at h2; subst h2
      exact ⟨_, _, _, ρ, I, rfl, h3, hR.sat, hR.fr, by simp; rw [rep]; exact ⟨_, rfl, repL_nil.2 rfl⟩⟩
    | [d], _, h2, h3 =>
      obtain ⟨u, us, rfl, hu, h2⟩ := repL_cons.1 h2
      rw [repL_nil] at h2; subst h2
      exact ⟨_, _, _, ρ, I, rfl, h3, hR.sat, hR.fr, by simpa using hu⟩
    | d :: e :: ds, _, h2, h3 =>
      obtain ⟨u, us, rfl, hu, h2⟩ := repL_cons.1 h2
      obtain ⟨u', us', rfl, hu', h2⟩ := repL_cons.1 h2
      refine ⟨_, _, _, ρ, I, rfl, h3, hR.sat, hR.fr, ?_⟩
      rw [dif_neg (by simp), rep]
      exact ⟨_, rfl, repL_cons.2 ⟨_, _, rfl, hu, repL_cons.2 ⟨_, _, rfl, hu', h2⟩⟩⟩
  | weak hw _ ih =>
    obtain ⟨ρ', I', h'⟩ := hR.weak hw
    exact ih h'

/-- THE ROAD: a function's contract out of its condition. -/
theorem Spec.of {f : FuncId} {fn : Func} {c : Code} {args : List D} {os : Objs} {post : D → Objs → Prop} (Dr : DrawW) (hD : ∀ Γ : Ctx, Γ.os = os → DrawOk P Γ fn.ntmps Dr) (hτ : TauOk P τ) (hf : P.funcs[f]? = some fn) (hname : (fn.name == "runtime.NumGoroutine") = false) (hb : fn.body = some c) (hok : codeOk fn.ntmps c = true)
    (hn : args.length ≤ fn.ntmps)
    (h : vc τ (Call P) Dr os.length c (fun e s => match e with | .exit _ => False | _ => Ret τ os.length fn post s) (start args os)) : Spec P f args os post := by
  refine ⟨Enters.of hf hname hb, fun ρ I w vs sat hr => ?_⟩
  obtain ⟨Γ, hΓ⟩ : ∃ Γ : Ctx, Γ = ⟨ρ, I, os, w⟩ := ⟨_, rfl⟩
  have hl := repL_length hr
  have hR : R Γ fn.ntmps (start args os) ρ I { tmps := vs.toArray ++ Array.replicate (fn.ntmps - vs.toArray.size) undef, defers := [] } w := by
    subst hΓ
    refine ⟨sat, Fr.refl _ _ _ _, fun i => ?_, rfl, by simp; omega⟩
    simp only [St.get, start, List.range_eq_range']
    rw [look_start args 0 i]
    simp only [Nat.zero_le, if_true, Nat.sub_zero]
    by_cases hi : i < args.length
    · obtain ⟨v, hv, hrv⟩ := repL_get hr (List.getElem?_eq_getElem hi)
      rw [List.getD_eq_getElem?_getD, List.getElem?_eq_getElem hi]
      rw [Array.getD_eq_getD_getElem?, Array.getElem?_append_left (by simp; omega)]
      have : vs.toArray[i]? = some v := by simpa using hv
      rw [this]; exact hrv
    · rw [List.getD_eq_getElem?_getD, List.getElem?_eq_none (by omega)]
      simp only [Option.getD_none]; rw [rep]; trivial
  have := vc_sound (Γ := Γ) (N := fn.ntmps) hτ (call_ok P Γ) (hD Γ (by subst hΓ; rfl)) c hok _ _ (by subst hΓ; exact h) ρ I _ w hR (bodyPost P fn (Post P ρ I os w post)) ⟨?_, ?_, ?_⟩
  · exact calls_of_wp hf hb this
  · intro s ρ' I' a w' hR' hk
    obtain ⟨v, h1, h2⟩ := ret_out (P := P) (Γ := Γ) hτ (by subst hΓ; exact hk) hR'
    exact ⟨hR'.df, v, h1, by subst hΓ; exact h2⟩
  · intro id s ρ' I' a w' hR' hk; exact hk.elim
  · intro s ρ' I' a w' hR' hk
    obtain ⟨v, h1, h2⟩ := ret_out (P := P) (Γ := Γ) hτ (by subst hΓ; exact hk) hR'
    exact ⟨hR'.df, v, h1, by subst hΓ; exact h2⟩
end
end Go.Proofs.Ytaplihoeephbeaa.V
