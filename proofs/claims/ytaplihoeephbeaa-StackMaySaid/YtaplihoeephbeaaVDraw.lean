/- VDraw: a text of a symbolic executor that is proved sound, and contracts that are proved with it. -/
import Derived.Test.YtaplihoeephbeaaVCode2
import Derived.Orders
namespace Go.Proofs.Ytaplihoeephbeaa.V
open Go Go.RowKit
set_option linter.unusedVariables false

/-! ### Regions that draw their order -/
def pureOp : Op → Bool
  | .move _ | .assign _ | .pick .. | .nilCheck _ | .unOp .. | .convert .. | .makeFunc .. | .fieldAddr .. | .field .. | .indexAddr .. | .slice .. | .extract .. | .build .. => true
  | .binOp _ _ _ y _ => !isNilS y
  | .call { callee := .builtin .len, .. } | .call { callee := .builtin .min, .. } | .call { callee := .builtin .max, .. } => true
  | _ => false
def isLoad : Op → Bool
  | .load .. => true
  | _ => false
def quietOp (op : Op) : Bool := pureOp op || isLoad op

section
variable {τ : Tau} {C : CallW} {g g' : Nat → D} {os os' : Objs}

theorem builtin_pure {b : Builtin} (hb : b = .len ∨ b = .min ∨ b = .max) (xs : List D) (ts : List TypeId) (K : D → Objs → Prop) : vcBuiltin τ b xs ts os K ↔ vcBuiltin τ b xs ts [] (fun d _ => K d os) := by
  rcases hb with rfl | rfl | rfl
  · rcases xs with _ | ⟨x, _ | ⟨y, r⟩⟩
    · exact Iff.rfl
    · rcases ts with _ | ⟨t, _ | ⟨u, r⟩⟩ <;> exact Iff.rfl
    · rcases ts with _ | ⟨t, _ | ⟨u, r⟩⟩ <;> exact Iff.rfl
  · rcases xs with _ | ⟨x, r⟩
    · exact Iff.rfl
    · cases x <;> exact Iff.rfl
  · rcases xs with _ | ⟨x, r⟩
    · exact Iff.rfl
    · cases x <;> exact Iff.rfl
theorem vcOp_pure {op : Op} (h : pureOp op = true) (K : D → Objs → Prop) : vcOp τ C g os op K ↔ vcOp τ C g [] op (fun d _ => K d os) := by
  cases op
  case call c =>
    obtain ⟨callee, args, ats⟩ := c
    cases callee with
    | value f => simp [pureOp] at h
    | invoke r m => simp [pureOp] at h
    | builtin b =>
      cases b
      case len => exact builtin_pure (.inl rfl) _ _ K
      case min => exact builtin_pure (.inr (.inl rfl)) _ _ K
      case max => exact builtin_pure (.inr (.inr rfl)) _ _ K
      all_goals exact absurd h (by simp [pureOp])
  case binOp op t x y yt => exact Iff.rfl
  all_goals first | exact Iff.rfl | exact absurd h (by simp [pureOp])

theorem maps_congr {l : List Operand} (h : ∀ x ∈ l, evalO g x = evalO g' x) : l.map (evalO g) = l.map (evalO g') := List.map_congr_left h
theorem parts_congr {l : List (Nat × Operand)} (h : ∀ x ∈ l.map (·.2), evalO g x = evalO g' x) : l.map (fun p => evalO g p.2) = l.map (fun p => evalO g' p.2) :=
  List.map_congr_left fun p hp => h p.2 (List.mem_map.2 ⟨p, hp, rfl⟩)

theorem vcOp_congr {op : Op} (h : ∀ x ∈ op.operands, evalO g x = evalO g' x) (K : D → Objs → Prop) : vcOp τ C g os op K ↔ vcOp τ C g' os op K := by
  cases op <;> simp only [Op.operands] at h
  case binOp op t x y yt =>
    show (bif isNilS y then _ else _) ↔ (bif isNilS y then _ else _)
    rw [h x (by simp), h y (by simp)]
  all_goals simp only [vcOp]
  case build t ps => rw [parts_congr fun x hx => h x (by simpa using hx)]
  case buildSlice t n ps => rw [parts_congr fun x hx => h x (by simpa using hx)]
  case makeFunc fn a b => rw [maps_congr (l := a.toList) fun x hx => h x (by simp at hx; simp [hx]), maps_congr (l := b.toList) fun x hx => h x (by simp at hx; simp [hx])]
  case slice t x lo hi mx => cases lo <;> cases hi <;> cases mx <;> simp_all
  case call c =>
    obtain ⟨callee, args, ats⟩ := c
    cases callee with
    | value f =>
      have hf := h f (by simp [Call.operands])
      have ha := maps_congr (l := args.toList) fun x hx => h x (by simp at hx; simp [Call.operands, hx])
      simp only [hf, ha]
    | invoke r m => exact Iff.rfl
    | builtin b =>
      have ha := maps_congr (l := args.toList) fun x hx => h x (by simp at hx; simp [Call.operands, hx])
      simp only [ha]
  all_goals first | rfl | (simp_all; done)

/-- A condition that hangs on one value alone. -/
def Det {α : Type} (F : (α → Prop) → Prop) : Prop := ∀ K0, F K0 → ∃ d, K0 d ∧ ∀ K, K d → F K
theorem det_pt {α : Type} (d : α) : Det (fun K => K d) := fun K0 h => ⟨d, h, fun _ h => h⟩
theorem det_false {α : Type} : Det (fun (_ : α → Prop) => False) := fun _ h => h.elim
theorem det_and {α : Type} {p : Prop} {F : (α → Prop) → Prop} (h : Det F) : Det (fun K => p ∧ F K) := fun K0 ⟨hp, hf⟩ => let ⟨d, h1, h2⟩ := h K0 hf; ⟨d, h1, fun K hk => ⟨hp, h2 K hk⟩⟩
theorem det_if {α : Type} {p : Prop} [Decidable p] {F : (α → Prop) → Prop} (h : Det F) : Det (fun K => if p then F K else False) := by
  by_cases hp : p
  · simpa only [if_pos hp] using h
  · simpa only [if_neg hp] using det_false
theorem det_ifn {α : Type} {b : Bool} {F : (α → Prop) → Prop} (h : Det F) : Det (fun K => bif b then False else F K) := by
  cases b
  · exact h
  · exact det_false
theorem det_ifp {α : Type} {b : Bool} {F : (α → Prop) → Prop} (h : Det F) : Det (fun K => bif b then F K else False) := by
  cases b
  · exact det_false
  · exact h
theorem det_bif {α : Type} {b : Bool} {F G : (α → Prop) → Prop} (h : Det F) (k : Det G) : Det (fun K => bif b then F K else G K) := by
  cases b
  · exact k
  · exact h
theorem det_opt {α β : Type} {o : Option β} {F : β → (α → Prop) → Prop} (h : ∀ x, Det (F x)) : Det (fun K => Opt o (fun x => F x K)) := by
  intro K0 hk
  obtain ⟨x, hx, hk⟩ := Opt.iff.1 hk
  obtain ⟨d, h1, h2⟩ := h x K0 hk
  exact ⟨d, h1, fun K hk => Opt.iff.2 ⟨x, hx, h2 K hk⟩⟩
theorem det_ar {α : Type} {k : IntKind} {e : Int} {f : Int → α} : Det (fun (K : α → Prop) => Ar k e (fun z => K (f z))) := by
  rintro K0 ⟨z, hz, hk⟩
  exact ⟨f z, hk, fun K hk => ⟨z, hz, hk⟩⟩
theorem det_br {α : Type} {b : Bool} {F G : (α → Prop) → Prop} (h : Det F) (k : Det G) : Det (fun K => Br b (F K) (G K)) := by
  intro K0 hk
  cases b
  · cases hk with | f hk => obtain ⟨d, h1, h2⟩ := k K0 hk; exact ⟨d, h1, fun K hk => .f (h2 K hk)⟩
  · cases hk with | t hk => obtain ⟨d, h1, h2⟩ := h K0 hk; exact ⟨d, h1, fun K hk => .t (h2 K hk)⟩
theorem det_nm {α β : Type} {e : β} {f : β → α} : Det (fun (K : α → Prop) => Nm e (fun x => K (f x))) := by
  intro K0 h
  have h' : Nm e (fun x => K0 (f x)) := h
  obtain ⟨x, hx, hk⟩ := h'
  exact ⟨f x, hk, fun K hk' => ⟨x, hx, hk'⟩⟩
theorem det_force (d : D) : Det (fun K => D.force K d) := by
  have : (fun (K : D → Prop) => D.force K d) = fun K => K d := by funext K; exact D.force_eq K d
  rw [this]; exact det_pt d
theorem det_forceL {α : Type} (ds : List D) {F : List D → (α → Prop) → Prop} (h : ∀ x, Det (F x)) : Det (fun K => forceL ds (fun x => F x K)) := by
  have : (fun (K : α → Prop) => forceL ds (fun x => F x K)) = fun K => F ds K := by funext K; exact forceL_eq ds _
  rw [this]; exact h ds
theorem det_ld (t : TypeId) (cs : List D) (off : Nat) : Det (ldPart τ t cs off) := by
  unfold ldPart
  cases τ t with
  | none => exact det_false
  | some ti =>
    dsimp only
    cases ti.k.agg with
    | none => exact det_false
    | some b =>
      cases b with
      | false => exact det_and (det_opt fun x => det_force x)
      | true => exact det_bif (det_pt _) (det_ifp (det_forceL _ fun x => det_pt _))
theorem det_ldOf (t : TypeId) (d : D) (off : Nat) : Det (ldOf τ t d off) := det_ifn (det_ld t _ off)
theorem det_eq (k : TK) (x y : D) : Det (vcEq k x y) := by
  intro K0 h
  unfold vcEq at h
  split at h <;> first | exact h.elim | exact ⟨_, h, fun K hk => hk⟩
theorem det_eql (t : TypeId) (x y : D) : Det (vcEql τ t x y) := by
  intro K0 h
  unfold vcEql at h ⊢
  split at h
  · split at h
    · rename_i hk; exact ⟨_, h, fun K hk' => by rw [if_pos hk]; exact hk'⟩
    · exact h.elim
  · split at h
    · rename_i ti ht
      obtain ⟨b, h1, h2⟩ := det_eq _ _ _ K0 h
      exact ⟨b, h1, fun K hk => h2 K hk⟩
    · exact h.elim
theorem det_bin (op : BinOp) (x y : D) : Det (vcBin op x y) := by
  intro K0 h
  unfold vcBin at h ⊢
  split at h
  case h_12 => exact h.elim
  all_goals
    split at h
    case isFalse => exact h.elim
    rename_i hk
    simp only [if_pos hk]
  case h_1 | h_2 | h_3 => obtain ⟨d, h1, h2⟩ := det_ar K0 h; exact ⟨d, h1, h2⟩
  case h_4 => obtain ⟨d, h1, h2⟩ := det_and det_ar K0 h; exact ⟨d, h1, h2⟩
  case h_5 => exact ⟨_, h.2, fun K hk' => ⟨h.1, hk'⟩⟩
  all_goals exact ⟨_, h, fun K hk' => hk'⟩

theorem det_map {α β : Type} {F : (α → Prop) → Prop} (h : Det F) (f : α → β) : Det (fun (K : β → Prop) => F (fun a => K (f a))) := by
  intro K0 hk
  obtain ⟨d, h1, h2⟩ := h _ hk
  exact ⟨f d, h1, fun K hk => h2 _ hk⟩

theorem vcOp_quiet {op : Op} (hq : quietOp op = true) {K0 : D → Objs → Prop} (h : vcOp τ C g os op K0) : ∃ d, K0 d os ∧ ∀ K, K d os → vcOp τ C g os op K := by
  -- it is enough to look at conditions that hang on the value alone
  have red : (∃ F : (D → Prop) → Prop, Det F ∧ ∀ K, vcOp τ C g os op K ↔ F (fun d => K d os)) → ∃ d, K0 d os ∧ ∀ K, K d os → vcOp τ C g os op K := by
    rintro ⟨F, hF, he⟩
    obtain ⟨d, h1, h2⟩ := hF _ ((he K0).1 h)
    exact ⟨d, h1, fun K hk => (he K).2 (h2 _ hk)⟩
  cases op
  case move x => exact red ⟨fun K => D.force K (evalO g x), det_force _, fun K => Iff.rfl⟩
  case assign x => exact red ⟨fun K => D.force K (evalO g x), det_force _, fun K => Iff.rfl⟩
  case pick c x y =>
    simp only [vcOp] at h
    split at h
    case h_2 => exact h.elim
    rename_i t ht
    exact red ⟨fun K => Br t (D.force K (evalO g x)) (D.force K (evalO g y)), det_br (det_force _) (det_force _), fun K => by simp only [vcOp]; rw [ht]⟩
  case nilCheck x =>
    simp only [vcOp] at h
    split at h
    case h_4 => exact h.elim
    all_goals
      rename_i ht
      exact ⟨_, h, fun K hk => by simp only [vcOp]; rw [ht]; exact hk⟩
  case binOp bop t x y yt =>
    have hn : isNilS y = false := by simpa [quietOp, pureOp, isLoad] using hq
    have e : ∀ K, vcOp τ C g os (.binOp bop t x y yt) K = vcCmp τ bop t (evalO g x) (evalO g y) (fun d => K d os) := fun K => by
      show (bif isNilS y then _ else _) = _
      rw [hn]; rfl
    cases bop
    case eql => exact red ⟨_, det_map (det_eql t (evalO g x) (evalO g y)) D.bool, fun K => by rw [e]; exact Iff.rfl⟩
    case neq => exact red ⟨_, det_map (det_eql t (evalO g x) (evalO g y)) (fun r => D.bool (!r)), fun K => by rw [e]; exact Iff.rfl⟩
    all_goals first | exact red ⟨_, det_bin _ (evalO g x) (evalO g y), fun K => by rw [e]; exact Iff.rfl⟩ | (rw [e] at h; exact (show False from h).elim)
  case unOp uop t x =>
    simp only [vcOp] at h
    split at h
    case h_3 => exact h.elim
    · rename_i b ht
      exact ⟨_, h, fun K hk => by simp only [vcOp]; rw [ht]; exact hk⟩
    · rename_i k n ht
      obtain ⟨d, h1, h2⟩ := det_ar (f := fun z => (D.int k z)) (fun d => K0 d os) h
      exact ⟨d, h1, fun K hk => by simp only [vcOp]; rw [ht]; exact h2 (fun d => K d os) hk⟩
  case convert src dst x =>
    simp only [vcOp] at h
    split at h
    case h_3 => exact h.elim
    · rename_i ks q1 q2 q3 kd r1 r2 r3 k n hs hd he
      obtain ⟨d, h1, h2⟩ := det_ar (f := fun z => (D.int kd z)) (fun d => K0 d os) h
      exact ⟨d, h1, fun K hk => by simp only [vcOp]; rw [hs, hd, he]; exact h2 (fun d => K d os) hk⟩
    · rename_i q1 q2 q3 r1 r2 r3 s hs hd he
      exact ⟨_, h, fun K hk => by simp only [vcOp]; rw [hs, hd, he]; exact hk⟩
  case makeFunc fn x y => exact red ⟨_, det_forceL _ (fun a => det_forceL _ (fun b => det_pt (D.fn fn a b))), fun K => Iff.rfl⟩
  case build t parts =>
    simp only [vcOp] at h
    unfold vcBuild at h
    split at h
    case h_2 => exact h.elim
    rename_i fs s1 s2 zc ht
    split at h
    case h_2 => exact h.elim
    rename_i places hpl
    rw [forceL_eq] at h
    cases hnj : (parts.toList.map fun p => evalO g p.2).all (fun d => !d.isJunk) with
    | false => rw [hnj] at h; exact h.elim
    | true =>
      rw [hnj] at h
      simp only [Bool.not_true, cond_false] at h
      split at h
      case h_2 => exact h.elim
      rename_i cs hcs
      rw [forceL_eq] at h
      refine ⟨_, h, fun K hk => ?_⟩
      simp only [vcOp]
      unfold vcBuild
      rw [ht]
      dsimp only
      rw [hpl]
      dsimp only
      rw [forceL_eq, hnj]
      simp only [Bool.not_true, cond_false]
      rw [hcs]
      dsimp only
      rw [forceL_eq]
      exact hk
  case load t x =>
    simp only [vcOp] at h
    unfold vcLoad at h
    split at h
    case h_3 => exact h.elim
    · rename_i i j sz e off hx
      split at h
      case h_2 => exact h.elim
      rename_i t' sz' p es hat
      obtain ⟨d, h1, h2⟩ := (det_if (p := sz' = sz) (det_opt (o := es[e]?) (fun d => det_ldOf (τ := τ) t d off))) (fun d => K0 d os) h
      refine ⟨d, h1, fun K hk => ?_⟩
      simp only [vcOp]
      unfold vcLoad
      rw [hx]
      dsimp only
      rw [hat]
      exact h2 (fun d => K d os) hk
    · rename_i d0 off hx
      obtain ⟨d, h1, h2⟩ := det_ldOf (τ := τ) t d0 off (fun d => K0 d os) h
      refine ⟨d, h1, fun K hk => ?_⟩
      simp only [vcOp]
      unfold vcLoad
      rw [hx]
      exact h2 (fun d => K d os) hk
  case fieldAddr t x f =>
    simp only [vcOp] at h
    unfold vcFieldAddr at h
    split at h
    case h_2 => exact h.elim
    rename_i fs s1 s2 s3 ht
    split at h
    case h_2 => exact h.elim
    rename_i o ft hf
    split at h
    case h_2 => exact h.elim
    rename_i tf htf
    cases hb : Nat.beq tf.size 0 with
    | true => rw [hb] at h; exact h.elim
    | false =>
      rw [hb] at h
      simp only [cond_false] at h
      split at h
      case h_3 => exact h.elim
      all_goals
        rename_i hx
        refine ⟨_, h, fun K hk => ?_⟩
        simp only [vcOp]
        unfold vcFieldAddr
        rw [ht]
        dsimp only
        rw [hf]
        dsimp only
        rw [htf]
        dsimp only
        rw [hb, hx]
        exact hk
  case field t x f =>
    simp only [vcOp] at h
    unfold vcField at h
    split at h
    case h_2 => exact h.elim
    rename_i fs s1 s2 s3 ht
    split at h
    case h_2 => exact h.elim
    rename_i o ft cs hf hx
    obtain ⟨d, h1, h2⟩ := det_ld (τ := τ) ft cs o (fun d => K0 d os) h
    refine ⟨d, h1, fun K hk => ?_⟩
    simp only [vcOp]
    unfold vcField
    rw [ht]
    dsimp only
    rw [hf, hx]
    exact h2 (fun d => K d os) hk
  case indexAddr t x i =>
    simp only [vcOp] at h
    unfold vcIndexAddr at h
    split at h
    case h_2 => exact h.elim
    rename_i e s1 s2 s3 ht
    split at h
    case h_2 => exact h.elim
    rename_i te hte
    split at h
    case h_3 => exact h.elim
    · rename_i sz full es k n hx hi
      obtain ⟨d, h1, h2⟩ := (det_if (p := sz = te.size) (det_and (p := 0 ≤ n) (det_opt (o := es[n.toNat]?) (fun d => det_pt (D.pel d 0))))) (fun d => K0 d os) h
      refine ⟨d, h1, fun K hk => ?_⟩
      simp only [vcOp]
      unfold vcIndexAddr
      rw [ht]
      dsimp only
      rw [hte]
      dsimp only
      rw [hx, hi]
      exact h2 (fun d => K d os) hk
    · rename_i i' j sz lo len cap k n hx hi
      obtain ⟨d, h1, h2⟩ := (det_if (p := sz = te.size) (det_and (p := 0 ≤ n ∧ n < (len : Int)) (det_pt (D.ptr i' j sz (lo + n.toNat) 0)))) (fun d => K0 d os) h
      refine ⟨d, h1, fun K hk => ?_⟩
      simp only [vcOp]
      unfold vcIndexAddr
      rw [ht]
      dsimp only
      rw [hte]
      dsimp only
      rw [hx, hi]
      exact h2 (fun d => K d os) hk
  case slice t x lo hi mx =>
    simp only [vcOp] at h
    refine red ⟨fun K => vcSlice τ t (evalO g x) ((lo.map (evalO g)).getD (.int .i64 0)) (hi.map (evalO g)) (mx.map (evalO g)) K, ?_, fun K => Iff.rfl⟩
    clear h red
    generalize evalO g x = dx
    generalize (lo.map (evalO g)).getD (.int .i64 0) = dl
    generalize hi.map (evalO g) = dh
    generalize mx.map (evalO g) = dm
    intro K0 h
    unfold vcSlice at h ⊢
    split at h
    case h_2 => exact h.elim
    rename_i e s1 s2 s3 ht
    split at h
    case h_2 => exact h.elim
    rename_i te hte
    split at h
    case h_4 => exact h.elim
    · split at h
      case h_3 => exact h.elim
      · obtain ⟨d, h1, h2⟩ := (det_if (det_and (det_and det_nm))) K0 h
        exact ⟨d, h1, h2⟩
      · obtain ⟨d, h1, h2⟩ := (det_if (det_and (det_and det_nm))) K0 h
        exact ⟨d, h1, h2⟩
    · split at h
      case h_3 => exact h.elim
      · obtain ⟨d, h1, h2⟩ := (det_if (det_and (det_and (det_pt _)))) K0 h
        exact ⟨d, h1, h2⟩
      · split at h
        case isFalse => exact h.elim
        rename_i hc
        obtain ⟨hb, hb2, h3, h4⟩ := h
        rcases Int.lt_or_eq_of_le hb.2 with hl | hl
        · exact ⟨_, h4 hl, fun K hk => by dsimp only; rw [if_pos hc]; exact ⟨hb, hb2, fun e => by omega, fun _ => hk⟩⟩
        · exact ⟨_, h3 hl, fun K hk => by dsimp only; rw [if_pos hc]; exact ⟨hb, hb2, fun _ => hk, fun hlt => by omega⟩⟩
    · split at h
      case h_3 => exact h.elim
      · obtain ⟨d, h1, h2⟩ := (det_and (det_pt _)) K0 h
        exact ⟨d, h1, h2⟩
      · obtain ⟨d, h1, h2⟩ := (det_if (det_and (det_pt _))) K0 h
        exact ⟨d, h1, h2⟩
  case extract x i =>
    simp only [vcOp] at h
    split at h
    case h_2 => exact h.elim
    rename_i vs hx
    split at h
    case h_2 => exact h.elim
    rename_i d hd
    rw [D.force_eq] at h
    refine ⟨_, h, fun K hk => ?_⟩
    simp only [vcOp]
    rw [hx]
    dsimp only
    rw [hd]
    dsimp only
    rw [D.force_eq]
    exact hk
  case call c =>
    obtain ⟨callee, args, ats⟩ := c
    cases callee with
    | value f => simp [quietOp, pureOp, isLoad] at hq
    | invoke r m => simp [quietOp, pureOp, isLoad] at hq
    | builtin b =>
      simp only [vcOp] at h ⊢
      generalize args.toList.map (evalO g) = xs at h ⊢
      generalize ats.toList = ts at h ⊢
      cases b
      case len =>
        rcases xs with _ | ⟨x, _ | ⟨y, r⟩⟩
        · exact h.elim
        · rcases ts with _ | ⟨t, _ | ⟨u, r⟩⟩
          · exact h.elim
          · simp only [vcBuiltin] at h ⊢
            split at h
            case h_2 => exact h.elim
            rename_i ti ht
            generalize ti.k = kk at h ⊢
            split at h
            case h_5 => exact h.elim
            all_goals exact ⟨_, h, fun K hk => hk⟩
          · exact h.elim
        · rcases ts with _ | ⟨t, _ | ⟨u, r⟩⟩ <;> exact h.elim
      case min =>
        rcases xs with _ | ⟨x, r⟩
        · exact h.elim
        · cases x <;> try exact h.elim
          simp only [vcBuiltin] at h ⊢
          split at h
          case h_2 => exact h.elim
          rename_i z hz
          exact ⟨_, h, fun K hk => hk⟩
      case max =>
        rcases xs with _ | ⟨x, r⟩
        · exact h.elim
        · cases x <;> try exact h.elim
          simp only [vcBuiltin] at h ⊢
          split at h
          case h_2 => exact h.elim
          rename_i z hz
          exact ⟨_, h, fun K hk => hk⟩
      all_goals simp [quietOp, pureOp, isLoad] at hq
  all_goals simp [quietOp, pureOp, isLoad] at hq
end
end Go.Proofs.Ytaplihoeephbeaa.V
