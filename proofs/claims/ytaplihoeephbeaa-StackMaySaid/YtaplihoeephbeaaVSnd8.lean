/- VSnd8: a text of a symbolic executor that is proved sound, and contracts that are proved with it. -/
import Derived.Test.YtaplihoeephbeaaVSnd7
import Derived.Laws.Strings
namespace Go.Proofs.Ytaplihoeephbeaa.V
open Go Go.RowKit
set_option linter.unusedVariables false

/-- What a call must come to. -/
def CallOk (P : Program) (Γ : Ctx) (C : CallW) : Prop := ∀ n args os K, C n args os K → ∀ ρ I w vs, Sat ρ I os w → Γ.Fr ρ I os w → repL ρ I args vs →
  (∀ w', (callFunc n vs.toArray).run P w' = .ok (.enter n vs.toArray) w') ∧ Calls P n vs.toArray w (fun e w' => ∃ v, e = .returned v ∧ Goes Γ ρ I K v w')

section ops
variable {P : Program} {τ : Tau} {Γ : Ctx} {ρ : Pl} {I : Im} {os : Objs} {w : World} {get : Nat → D} {a : Act} {K : D → Objs → Prop} {C : CallW}

theorem Out.val {v : Value} {w' : World} {r : Result Next} (hr : r = .ok (.value v) w') (h : Goes Γ ρ I K v w') : Out P Γ ρ I r w K := .inl ⟨v, w', .inl hr, h⟩
theorem Out.skip {w' : World} {r : Result Next} (hr : r = .ok .skip w') (h : Goes Γ ρ I K undef w') : Out P Γ ρ I r w K := .inl ⟨undef, w', .inr ⟨hr, rfl⟩, h⟩

theorem rep_bool {b : Bool} {v : Value} (h : rep ρ I (.bool b) v) : v = .bool b := by rw [rep] at h; exact h

theorem str_eq (a b : ByteArray) : (a.toList == b.toList) = decide (a = b) := by
  rw [ByteArray.toList_eq, ByteArray.toList_eq]
  cases a with | mk x => cases b with | mk y =>
  by_cases h : x = y
  · subst h; simp
  · simp [h]
theorem run_bin_int {op : BinOp} {t : TypeId} {k : IntKind} {x y : Int} : (binOp op t (.int k x) (.int k y)).run P w = match op with
    | .shl | .shr => (Op.shift op k x k y).run P w
    | .add | .sub | .mul => (Op.intArith op k x y).run P w
    | .quo | .rem => (Op.intDiv op k x y).run P w
    | .and | .or | .xor | .andNot => (Op.intBits op k x y).run P w
    | _ => (Op.intCmp op x y).run P w := by
  cases op <;> simp [binOp]

theorem snd_bin (sat : Sat ρ I os w) (fr : Γ.Fr ρ I os w) {op : BinOp} {t : TypeId} {x y : D} {vx vy : Value} (hx : rep ρ I x vx) (hy : rep ρ I y vy) (h : vcBin op x y (fun d => K d os)) :
    ∃ v, (binOp op t vx vy).run P w = .ok v w ∧ Goes Γ ρ I K v w := by
  have key : ∀ (k : IntKind) (z : Int), K (.int k z) os → Goes Γ ρ I K (.int k z) w := fun k z h => Goes.same sat fr (by rw [rep]) h
  have keyb : ∀ (b : Bool), K (.bool b) os → Goes Γ ρ I K (.bool b) w := fun b h => Goes.same sat fr (by rw [rep]) h
  unfold vcBin at h
  split at h
  case h_12 => exact h.elim
  all_goals
    rename_i k x k' y
    split at h
    case isFalse => exact h.elim
    rename_i hk; subst hk
    rw [rep_int hx, rep_int hy]
    rw [run_bin_int]
  case h_1 | h_2 | h_3 =>
    obtain ⟨z, hz, h⟩ := h
    subst hz
    exact ⟨_, rfl, key k _ h⟩
  case h_4 =>
    obtain ⟨h0, z, hz, h⟩ := h
    subst hz
    exact ⟨_, by simp [Op.intDiv, h0], key k _ h⟩
  case h_5 =>
    obtain ⟨h0, h⟩ := h
    exact ⟨_, by simp [Op.intDiv, h0], key k _ h⟩
  case h_6 => exact ⟨_, by simp [Op.intCmp]; rfl, keyb _ h⟩
  case h_7 => exact ⟨.bool (decide (x ≠ y)), by simp [Op.intCmp, bne]; rfl, keyb _ h⟩
  all_goals exact ⟨_, by simp [Op.intCmp], keyb _ h⟩

theorem snd_eql (hτ : TauOk P τ) {t : TypeId} {x y : D} {vx vy : Value} {Q : Bool → Prop} (hx : rep ρ I x vx) (hy : rep ρ I y vy) (h : vcEql τ t x y Q) :
    ∃ b, Q b ∧ (binOp .eql t vx vy).run P w = .ok (.bool b) w ∧ (binOp .neq t vx vy).run P w = .ok (.bool (!b)) w := by
  unfold vcEql at h
  split at h
  · rename_i k x k' y
    split at h
    case isFalse => exact h.elim
    rename_i hk; subst hk
    rw [rep_int hx, rep_int hy, run_bin_int, run_bin_int]
    refine ⟨_, h, by simp [Op.intCmp]; rfl, by simp [Op.intCmp, bne]; rfl⟩
  · split at h
    case h_2 => exact h.elim
    rename_i ti ht
    obtain ⟨i, d, hty⟩ := hτ t ti ht
    have hk := hty.kind
    have hu := hty.und
    generalize hkk : ti.k = kk at h
    unfold vcEq at h
    have fin : ∀ b : Bool, Q b → (∀ n, (Op.equalIn (n + 1) t vx vy).run P w = .ok b w) → binOp .eql t vx vy = (do pure (Value.bool (← Op.equal t vx vy)) : Sem Value) → binOp .neq t vx vy = (do pure (Value.bool (!(← Op.equal t vx vy))) : Sem Value) →
        ∃ b, Q b ∧ (binOp .eql t vx vy).run P w = .ok (.bool b) w ∧ (binOp .neq t vx vy).run P w = .ok (.bool (!b)) w := by
      intro b hb he h1 h2
      have he' : (Op.equal t vx vy).run P w = .ok b w := he 9999
      refine ⟨b, hb, ?_, ?_⟩
      · rw [h1]; simp only [Sem.run_bind, he', Result.andThen_ok, Sem.run_pure]
      · rw [h2]; simp only [Sem.run_bind, he', Result.andThen_ok, Sem.run_pure]
    split at h
    all_goals first | exact h.elim | skip
    all_goals rw [hkk] at hk
    all_goals simp only [kindOk] at hk
    case h_1 p q =>
      subst hk
      have e1 := rep_bool hx
      have e2 := rep_bool hy
      subst e1 e2
      exact fin _ h (fun n => by simp [Op.equalIn, run_underlying hu]) rfl rfl
    case h_2 p q =>
      rw [rep] at hx
      rw [rep] at hy
      subst hx hy
      refine ⟨_, h, ?_, ?_⟩
      · rw [binOp_string_eql, ← str_eq]; rfl
      · rw [binOp_string_neq, ← str_eq]; rfl
    case h_3 =>
      obtain ⟨e, rfl⟩ := hk
      rw [rep] at hx
      rw [rep] at hy
      subst hx hy
      exact fin _ h (fun n => by simp [Op.equalIn, run_underlying hu]) rfl rfl
    case h_4 =>
      obtain ⟨e, rfl⟩ := hk
      rw [rep] at hx
      rw [rep] at hy
      obtain ⟨p, _, _, rfl⟩ := hy
      subst hx
      exact fin _ h (fun n => by simp [Op.equalIn, run_underlying hu]) rfl rfl
    case h_5 =>
      obtain ⟨e, rfl⟩ := hk
      rw [rep] at hx
      rw [rep] at hy
      obtain ⟨p, _, _, rfl⟩ := hx
      subst hy
      exact fin _ h (fun n => by simp [Op.equalIn, run_underlying hu]) rfl rfl
    case h_6 =>
      obtain ⟨a', b', c', rfl⟩ := hk
      rw [rep] at hx
      rw [rep] at hy
      subst hx hy
      exact fin _ h (fun n => by simp [Op.equalIn, run_underlying hu]) rfl rfl
    case h_7 =>
      obtain ⟨a', b', c', rfl⟩ := hk
      rw [rep] at hx
      rw [rep] at hy
      obtain ⟨x', y', rfl, _⟩ := hy
      subst hx
      exact fin _ h (fun n => by simp [Op.equalIn, run_underlying hu]) rfl rfl
    case h_8 =>
      obtain ⟨a', b', c', rfl⟩ := hk
      rw [rep] at hx
      rw [rep] at hy
      obtain ⟨x', y', rfl, _⟩ := hx
      subst hy
      exact fin _ h (fun n => by simp [Op.equalIn, run_underlying hu]) rfl rfl

theorem snd_nil (hτ : TauOk P τ) {t : TypeId} {x : D} {vx : Value} {Q : Bool → Prop} (hx : rep ρ I x vx) (sat : Sat ρ I os w) (h : vcNil τ t x Q) :
    (∃ b, Q b ∧ (binOp .eql t vx (.slice none 0 0)).run P w = .ok (.bool b) w ∧ (binOp .neq t vx (.slice none 0 0)).run P w = .ok (.bool (!b)) w) ∧ ∃ A n c, vx = .slice A n c := by
  unfold vcNil at h
  split at h
  case h_2 => exact h.elim
  rename_i e s1 s2 s3 ht
  obtain ⟨i, d, hty⟩ := hτ t _ ht
  have hk := hty.kind
  simp only [kindOk] at hk
  have hu := hty.und
  rw [hk] at hu
  have fin : ∀ (A : Option Addr) (n c : Nat), vx = .slice A n c → Q A.isNone → (∃ b, Q b ∧ (binOp .eql t vx (.slice none 0 0)).run P w = .ok (.bool b) w ∧ (binOp .neq t vx (.slice none 0 0)).run P w = .ok (.bool (!b)) w) ∧ ∃ A n c, vx = .slice A n c := by
    rintro A n c rfl hq
    have he0 : ∀ m, (Op.equalIn (m + 1) t (.slice A n c) (.slice none 0 0)).run P w = .ok A.isNone w := by
      intro m
      cases A <;> simp [Op.equalIn, run_underlying hu]
    have he : (Op.equal t (.slice A n c) (.slice none 0 0)).run P w = .ok A.isNone w := he0 9999
    have h1 : binOp .eql t (.slice A n c) (.slice none 0 0) = (do pure (Value.bool (← Op.equal t (.slice A n c) (.slice none 0 0))) : Sem Value) := rfl
    have h2 : binOp .neq t (.slice A n c) (.slice none 0 0) = (do pure (Value.bool (!(← Op.equal t (.slice A n c) (.slice none 0 0)))) : Sem Value) := rfl
    refine ⟨⟨_, hq, ?_, ?_⟩, _, _, _, rfl⟩
    · rw [h1]; simp only [Sem.run_bind, he, Result.andThen_ok, Sem.run_pure]
    · rw [h2]; simp only [Sem.run_bind, he, Result.andThen_ok, Sem.run_pure]
  split at h
  case h_4 => exact h.elim
  case h_1 =>
    rw [rep] at hx
    exact fin _ _ _ hx h
  case h_2 sz fl es =>
    rw [rep] at hx
    obtain ⟨A, c, us, e1, _, _, _, _, _, h6⟩ := hx
    refine fin A _ c e1 ?_
    by_cases he : es = []
    · cases A with
      | none => exact (h.2 he).1
      | some a => exact (h.2 he).2
    · rcases h6 with h6 | ⟨b, o, _, _, _, h6, _⟩
      · exact absurd h6 he
      · subst h6; exact h.1 he
  case h_3 i j sz lo len cap =>
    rw [rep] at hx
    obtain ⟨p, A, c, _, e1, h2, h3, h4, h5, h6⟩ := hx
    refine fin A _ c e1 ?_
    by_cases he : len = 0
    · cases A with
      | none => exact (h.2 he).1
      | some a => exact (h.2 he).2
    · have := h6 (by omega)
      subst this; exact h.1 (by omega)

theorem eqGuard_ok {op : BinOp} {t : TypeId} {x y : Operand} {vx vy : Value} (h1 : ∀ c, vx ≠ .agg c) (h2 : vx ≠ .nilIface) : (eqGuard op t x y vx vy).run P w = .ok () w := by
  cases vx <;> first | exact absurd rfl (h1 _) | exact absurd rfl h2 | (cases op <;> rfl)
theorem bin_notagg {op : BinOp} {x y : D} {vx : Value} {Q : D → Prop} (hx : rep ρ I x vx) (h : vcBin op x y Q) : (∀ c, vx ≠ .agg c) ∧ vx ≠ .nilIface := by
  unfold vcBin at h
  split at h
  case h_12 => exact h.elim
  all_goals
    rw [rep_int hx]; exact ⟨fun c => by simp, by simp⟩
theorem eql_notagg {t : TypeId} {x y : D} {vx : Value} {Q : Bool → Prop} (hx : rep ρ I x vx) (h : vcEql τ t x y Q) : (∀ c, vx ≠ .agg c) ∧ vx ≠ .nilIface := by
  unfold vcEql at h
  split at h
  · rw [rep_int hx]; exact ⟨fun c => by simp, by simp⟩
  · split at h
    case h_2 => exact h.elim
    unfold vcEq at h
    split at h
    all_goals first | exact h.elim | skip
    all_goals rw [rep] at hx
    case h_1 => subst hx; exact ⟨fun c => by simp, by simp⟩
    case h_2 => subst hx; exact ⟨fun c => by simp, by simp⟩
    case h_3 => subst hx; exact ⟨fun c => by simp, by simp⟩
    case h_4 => subst hx; exact ⟨fun c => by simp, by simp⟩
    case h_5 => obtain ⟨p, _, _, rfl⟩ := hx; exact ⟨fun c => by simp, by simp⟩
    case h_6 => subst hx; exact ⟨fun c => by simp, by simp⟩
    case h_7 => subst hx; exact ⟨fun c => by simp, by simp⟩
    case h_8 => obtain ⟨x', y', rfl, _⟩ := hx; exact ⟨fun c => by simp, by simp⟩

theorem minL_run : ∀ (ds : List D) (vs : List Value) (k : IntKind) (x z : Int), repL ρ I ds vs → minL x ds = some z → (vs.foldlM Builtin.min2 (.int k x)).run P w = .ok (.int k z) w
  | [], _, k, x, z, h, e => by rw [repL_nil] at h; subst h; simp [minL] at e; subst e; rfl
  | d :: ds, _, k, x, z, h, e => by
    obtain ⟨u, us, rfl, hu, h'⟩ := repL_cons.1 h
    cases d <;> simp only [minL] at e <;> try (simp at e; done)
    rename_i k' y
    rw [rep_int hu]
    have := minL_run ds us k _ z h' e
    simpa [Builtin.min2] using this
theorem maxL_run : ∀ (ds : List D) (vs : List Value) (k : IntKind) (x z : Int), repL ρ I ds vs → maxL x ds = some z → (vs.foldlM Builtin.max2 (.int k x)).run P w = .ok (.int k z) w
  | [], _, k, x, z, h, e => by rw [repL_nil] at h; subst h; simp [maxL] at e; subst e; rfl
  | d :: ds, _, k, x, z, h, e => by
    obtain ⟨u, us, rfl, hu, h'⟩ := repL_cons.1 h
    cases d <;> simp only [maxL] at e <;> try (simp at e; done)
    rename_i k' y
    rw [rep_int hu]
    have := maxL_run ds us k _ z h' e
    simpa [Builtin.max2] using this

theorem snd_builtin (hτ : TauOk P τ) (sat : Sat ρ I os w) (fr : Γ.Fr ρ I os w) {b : Builtin} {ds : List D} {vs : List Value} {ats : Array TypeId} {ty : TypeId} {cs : Array Bool} (hv : repL ρ I ds vs) (h : vcBuiltin τ b ds ats.toList os K) :
    ∃ v w', (builtin b ats ty cs vs.toArray).run P w = .ok (.value v) w' ∧ Goes Γ ρ I K v w' := by
  unfold vcBuiltin at h
  have fint : ∀ (k : IntKind) (n : Int), K (.int k n) os → Goes Γ ρ I K (.int k n) w := fun k n h => Goes.same sat fr (by rw [rep]) h
  split at h
  case h_5 => exact h.elim
  · rename_i x t hats
    obtain ⟨v, us, rfl, hx, hn⟩ := repL_cons.1 hv
    rw [repL_nil] at hn; subst hn
    have hats' : ats = #[t] := Array.ext' (by simpa using hats)
    subst hats'
    split at h
    case h_2 => exact h.elim
    rename_i ti ht
    obtain ⟨i, d, hty⟩ := hτ t ti ht
    have hk := hty.kind
    have hu := hty.und
    generalize hkk : ti.k = kk at h hk
    split at h
    all_goals first | exact h.elim | skip
    all_goals simp only [kindOk] at hk
    all_goals subst hk
    all_goals rw [rep] at hx
    case h_1 => subst hx; exact ⟨_, w, by simp [builtin, Builtin.len_, run_underlying hu, goInt], fint _ _ h⟩
    case h_2 => obtain ⟨A, c, us, rfl, _⟩ := hx; exact ⟨_, w, by simp [builtin, Builtin.len_, run_underlying hu, goInt], fint _ _ h⟩
    case h_3 => obtain ⟨p, A, c, _, rfl, _⟩ := hx; exact ⟨_, w, by simp [builtin, Builtin.len_, run_underlying hu, goInt], fint _ _ h⟩
    case h_4 => subst hx; exact ⟨_, w, by simp [builtin, Builtin.len_, run_underlying hu, goInt], fint _ _ h⟩
  · rename_i k x r ts
    obtain ⟨v, us, rfl, hx, hr⟩ := repL_cons.1 hv
    rw [rep_int hx]
    split at h
    case h_2 => exact h.elim
    rename_i z hz
    have := minL_run (P := P) (w := w) _ us x _ z hr hz
    exact ⟨_, w, by simp [builtin, Builtin.min_, this], fint _ _ h⟩
  · rename_i k x r ts
    obtain ⟨v, us, rfl, hx, hr⟩ := repL_cons.1 hv
    rw [rep_int hx]
    split at h
    case h_2 => exact h.elim
    rename_i z hz
    have := maxL_run (P := P) (w := w) _ us x _ z hr hz
    exact ⟨_, w, by simp [builtin, Builtin.max_, this], fint _ _ h⟩
  · rename_i s x t tx hats
    obtain ⟨v, us, rfl, hs, hr⟩ := repL_cons.1 hv
    obtain ⟨u, us2, rfl, hx, hn⟩ := repL_cons.1 hr
    rw [repL_nil] at hn; subst hn
    have hats' : ats = #[t, tx] := Array.ext' (by simpa using hats)
    subst hats'
    split at h
    case h_2 => exact h.elim
    rename_i e s1 s2 s3 e' s1' s2' s3' ht htx
    split at h
    case h_2 => exact h.elim
    rename_i te hte
    obtain ⟨i0, d0, hty⟩ := hτ t _ ht
    obtain ⟨i1, d1, htyx⟩ := hτ tx _ htx
    have hund : P.underlying t = some (.slice e) := by have := hty.und; have hk := hty.kind; simp only [kindOk] at hk; rw [hk] at this; exact this
    have hundx : P.underlying tx = some (.slice e') := by have := htyx.und; have hk := htyx.kind; simp only [kindOk] at hk; rw [hk] at this; exact this
    cases hb : (Nat.beq te.size 0 || te.zero.isJunk) with
    | true => rw [hb] at h; exact h.elim
    | false =>
    rw [hb] at h
    simp only [cond_false] at h
    simp only [Bool.or_eq_false_iff] at hb
    have hsz : 0 < te.size := Nat.pos_of_ne_zero (fun e => by rw [e] at hb; simp at hb)
    obtain ⟨news, vals, hK, h1, h2, h3, h4⟩ := src_ok (w := w) sat hx h hundx
    obtain ⟨v', w', hrun, hg⟩ := snd_append (ty := ty) hτ sat fr hte hund hb.2 hsz hs h1 h2 h3 h4 hK
    exact ⟨v', w', by simp [builtin, hrun], hg⟩
end ops
end Go.Proofs.Ytaplihoeephbeaa.V
