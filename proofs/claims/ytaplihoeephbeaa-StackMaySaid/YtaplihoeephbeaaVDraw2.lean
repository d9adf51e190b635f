/- VDraw2: a text of a symbolic executor that is proved sound, and contracts that are proved with it. -/
import Derived.Test.YtaplihoeephbeaaVDraw
namespace Go.Proofs.Ytaplihoeephbeaa.V
open Go Go.RowKit
set_option linter.unusedVariables false

def dirs (o : Oper) : List Nat := (o.after.toList.filter (Region.binds .any)).map (·.on)
def effAt (l : List Oper) (E : List Nat) (i : Nat) : Bool := match l[i]? with | some o => !(quietOp o.op && !E.contains i) | none => false
def dirsAt (l : List Oper) (i : Nat) : List Nat := match l[i]? with | some o => dirs o | none => []
def ancAt (A : List (List Nat)) (i : Nat) : List Nat := A.getD i []
/-- An alloc that may come at any time ahead of those that wait for it. -/
def alAt (l : List Oper) (i : Nat) : Bool := match l[i]? with
  | some { op := .alloc _, guard := none, dst := some _, .. } => true
  | _ => false
theorem alAt_out {l : List Oper} {i : Nat} (h : alAt l i = true) : ∃ (o : Oper) (ty : TypeId) (t : Nat), l[i]? = some o ∧ o.op = .alloc ty ∧ o.guard = none ∧ o.dst = some t := by
  unfold alAt at h
  split at h
  · rename_i ty t _ _ _ he
    exact ⟨_, _, _, he, rfl, rfl, rfl⟩
  · simp at h
def allOk (τ : Tau) (l : List Oper) : Bool := l.all fun o => match o.op with
  | .alloc t => match τ t with
    | some ti => !ti.zero.isJunk
    | none => false
  | _ => true
def pairOk (l : List Oper) (E : List Nat) (A : List (List Nat)) (i j : Nat) : Bool := (!effAt l E i || ((ancAt A j).contains i || alAt l j)) && (!(dirsAt l i).contains j && !Nat.beq i j)
def pw (r : Nat → Nat → Bool) : List Nat → Bool
  | [] => true
  | i :: is => is.all (r i) && pw r is
def drawOk (l : List Oper) (E : List Nat) (perm : List Nat) (A : List (List Nat)) : Bool :=
  (List.range l.length).all (fun i => perm.contains i && ((dirsAt l i).all (fun j => Nat.blt j i) &&
    ((ancAt A i).all (fun j => (dirsAt l i).contains j || (dirsAt l i).any (fun k => (ancAt A k).contains j)) &&
    match l[i]? with
    | none => false
    | some o => (Oper.looksAt l.toArray o).all (fun t => (List.range l.length).all (fun j => match l[j]? with
        | some o' => !(o'.dst == some t) || ((dirs o).contains j || ((dirs o').contains i && effAt l E j))
        | none => true)) &&
      match o.dst with
      | none => true
      | some t => (List.range l.length).all (fun j => Nat.beq j i || match l[j]? with
        | some o' => !(o'.dst == some t)
        | none => true)))) &&
  (perm.all (fun i => Nat.blt i l.length) && pw (pairOk l E A) perm)

theorem pw_append {r : Nat → Nat → Bool} : ∀ {a b : List Nat}, pw r (a ++ b) = true → (∀ i ∈ a, ∀ j ∈ b, r i j = true)
  | [], b, _ => by simp
  | x :: a, b, h => by
    simp only [List.cons_append, pw, Bool.and_eq_true, List.all_eq_true] at h
    intro i hi j hj
    rcases List.mem_cons.1 hi with rfl | hi
    · exact h.1 j (by simp [hj])
    · exact pw_append h.2 i hi j hj

structure DrawFacts (l : List Oper) (E : List Nat) (perm : List Nat) (A : List (List Nat)) : Prop where
  all : ∀ i, i < l.length → i ∈ perm
  lt : ∀ i ∈ perm, i < l.length
  down : ∀ i, i < l.length → ∀ j ∈ dirsAt l i, j < i
  anc : ∀ i, i < l.length → ∀ j ∈ ancAt A i, j ∈ dirsAt l i ∨ ∃ k ∈ dirsAt l i, j ∈ ancAt A k
  looks : ∀ (i : Nat) (o : Oper), l[i]? = some o → ∀ t ∈ Oper.looksAt l.toArray o, ∀ (j : Nat) (o' : Oper), l[j]? = some o' → o'.dst = some t → j ∈ dirs o ∨ (i ∈ dirs o' ∧ effAt l E j = true)
  dst : ∀ (i : Nat) (o : Oper) (t : Nat), l[i]? = some o → o.dst = some t → ∀ (j : Nat) (o' : Oper), l[j]? = some o' → o'.dst = some t → j = i
  pw : pw (pairOk l E A) perm = true
theorem drawOk_facts {l : List Oper} {E : List Nat} {perm : List Nat} {A : List (List Nat)} (h : drawOk l E perm A = true) : DrawFacts l E perm A := by
  simp only [drawOk, Bool.and_eq_true, List.all_eq_true, List.mem_range] at h
  obtain ⟨h1, h2, h3⟩ := h
  have hl : ∀ {i : Nat} {o : Oper}, l[i]? = some o → i < l.length := fun hi => (List.getElem?_eq_some_iff.1 hi).1
  refine ⟨fun i hi => by simpa using (h1 i hi).1, fun i hi => Nat.le_of_ble_eq_true (h2 i hi), fun i hi j hj => Nat.le_of_ble_eq_true ((h1 i hi).2.1 j hj), fun i hi j hj => ?_, ?_, ?_, h3⟩
  · have := (h1 i hi).2.2.1 j hj
    simp only [Bool.or_eq_true, List.any_eq_true, List.contains_iff_mem] at this
    rcases this with h | ⟨k, hk, h⟩
    · exact .inl h
    · exact .inr ⟨k, hk, h⟩
  · intro i o hi t ht j o' hj hd
    have := (h1 i (hl hi)).2.2.2
    rw [hi] at this
    simp only [Bool.and_eq_true, List.all_eq_true, List.mem_range] at this
    have := this.1 t ht j (hl hj)
    rw [hj] at this
    simp only [hd, beq_self_eq_true, Bool.not_true, Bool.false_or, Bool.or_eq_true, Bool.and_eq_true, List.contains_iff_mem] at this
    exact this
  · intro i o t hi hd j o' hj hd'
    have := (h1 i (hl hi)).2.2.2
    rw [hi] at this
    simp only [Bool.and_eq_true] at this
    have := this.2
    rw [hd] at this
    simp only [List.all_eq_true, List.mem_range] at this
    have := this j (hl hj)
    rw [hj] at this
    simp only [hd', beq_self_eq_true, Bool.not_true, Bool.or_false] at this
    exact Nat.eq_of_beq_eq_true this

def gd (l : List Oper) (s : St) (o : Oper) : Option Bool :=
  match o.guard with
  | none => some true
  | some (g, want) => match (l[g]?).bind (·.dst) with
    | none => none
    | some t => match s.get t with
      | .bool b => some (b == want)
      | .tup [] => some false
      | _ => none
def guarded (l : List Oper) (s : St) (o : Oper) (X Y : Prop) : Prop :=
  match o.guard with
  | none => X
  | some (g, want) => match (l[g]?).bind (·.dst) with
    | none => False
    | some t => match s.get t with
      | .bool b => bif want then Br b X Y else Br b Y X
      | .tup [] => Y
      | _ => False
theorem guarded_out {l : List Oper} {s : St} {o : Oper} {X Y : Prop} (h : guarded l s o X Y) : (gd l s o = some true ∧ X) ∨ (gd l s o = some false ∧ Y) := by
  unfold guarded at h
  unfold gd
  split at h
  · exact .inl ⟨rfl, h⟩
  · rename_i g want hg
    split at h
    · exact h.elim
    · split at h
      · rename_i b _
        cases b <;> cases want <;> simp only [cond_true, cond_false, Br.iff, Bool.false_eq_true, if_true, if_false] at h
        · exact .inl ⟨rfl, h⟩
        · exact .inr ⟨rfl, h⟩
        · exact .inr ⟨rfl, h⟩
        · exact .inl ⟨rfl, h⟩
      · exact .inr ⟨rfl, h⟩
      · exact h.elim

/-- What has been loaded is still so. -/
def recheck (τ : Tau) (C : CallW) (l : List Oper) (anc : List Nat) (get : Nat → D) (os : Objs) (P : Prop) : List (Nat × D) → Prop
  | [] => P
  | (i, d) :: acc => bif anc.contains i then recheck τ C l anc get os P acc else
      (match l[i]? with | some o => vcOp τ C get os o.op (fun d' _ => d' = d) | none => False) ∧ recheck τ C l anc get os P acc
theorem recheck_out {τ : Tau} {C : CallW} {l : List Oper} {anc : List Nat} {get : Nat → D} {os : Objs} {P : Prop} : ∀ {acc : List (Nat × D)}, recheck τ C l anc get os P acc →
    P ∧ ∀ i d o, (i, d) ∈ acc → i ∉ anc → l[i]? = some o → vcOp τ C get os o.op (fun d' _ => d' = d)
  | [], h => ⟨h, fun _ _ _ h => by cases h⟩
  | (i, d) :: acc, h => by
    unfold recheck at h
    cases hc : anc.contains i with
    | true =>
      rw [hc] at h
      obtain ⟨h1, h2⟩ := recheck_out h
      refine ⟨h1, fun i' d' o hm hn ho => ?_⟩
      rcases List.mem_cons.1 hm with e | hm
      · cases e; exact absurd (by simpa using hc) hn
      · exact h2 i' d' o hm hn ho
    | false =>
      rw [hc] at h
      obtain ⟨h0, h⟩ := h
      obtain ⟨h1, h2⟩ := recheck_out h
      refine ⟨h1, fun i' d' o hm hn ho => ?_⟩
      rcases List.mem_cons.1 hm with e | hm
      · cases e; rw [ho] at h0; exact h0
      · exact h2 i' d' o hm hn ho

def drw (τ : Tau) (C : CallW) (l : List Oper) (A : List (List Nat)) (E : List Nat) (K : St → Prop) : List Nat → List (Nat × D) → St → Prop
  | [], _, s => K s
  | i :: rest, acc, s => match l[i]? with
    | none => False
    | some o => guarded l s o
        (s.opn fun g ob => vcOp τ C g ob o.op (fun d os => bif quietOp o.op && !E.contains i then s.putK o.dst d ob (drw τ C l A E K rest (bif isLoad o.op then (i, d) :: acc else acc))
          else recheck τ C l (ancAt A i) g os (s.putK o.dst d os (drw τ C l A E K rest acc)) acc))
        (s.opn fun _ ob => s.putK o.dst (.tup []) ob (drw τ C l A E K rest acc))

theorem get_put_ne {s : St} {dst : Option Nat} {d : D} {os : Objs} {t : Nat} (h : dst ≠ some t) : (s.put dst d os).get t = s.get t := by
  cases dst with
  | none => rfl
  | some u =>
    have hne : u ≠ t := fun e => h (by rw [e])
    simp only [St.get, St.put, look]
    cases hb : Nat.beq u t with
    | true => exact absurd (Nat.eq_of_beq_eq_true hb) hne
    | false => rfl
theorem get_put_self {s : St} {t : Nat} {d : D} {os : Objs} : (s.put (some t) d os).get t = d := by
  simp only [St.get, St.put, look, Nat.beq_refl, cond_true]
theorem objs_put {s : St} {dst : Option Nat} {d : D} {os : Objs} : (s.put dst d os).objs = os := by cases dst <;> rfl

section
variable {P : Program} {τ : Tau} {Γ : Ctx} {C : CallW} {N : Nat} {l : List Oper} {E perm : List Nat} {A : List (List Nat)}

theorem looks_operand {o : Oper} {t : Nat} (h : Operand.tmp t ∈ o.op.operands) : t ∈ Oper.looksAt l.toArray o :=
  List.mem_append_left _ (List.mem_filterMap.2 ⟨.tmp t, by simpa using h, rfl⟩)
theorem looks_guard {o : Oper} {g : Nat} {want : Bool} {t : Nat} (h : o.guard = some (g, want)) (ht : (l[g]?).bind (·.dst) = some t) : t ∈ Oper.looksAt l.toArray o := by
  refine List.mem_append_right _ ?_
  rw [h]
  simpa using ht
/-- An operation that does not look at what is put. -/
theorem op_put {s : St} {o : Oper} {dst : Option Nat} {d : D} {os os' : Objs} (h : ∀ t, dst = some t → t ∉ Oper.looksAt l.toArray o) (K : D → Objs → Prop) : vcOp τ C (s.put dst d os).get os' o.op K ↔ vcOp τ C s.get os' o.op K := by
  refine vcOp_congr (fun x hx => ?_) K
  cases x with
  | tmp t => exact get_put_ne fun e => h t e (looks_operand hx)
  | _ => rfl
theorem gd_put {s : St} {o : Oper} {dst : Option Nat} {d : D} {os : Objs} (h : ∀ t, dst = some t → t ∉ Oper.looksAt l.toArray o) : gd l (s.put dst d os) o = gd l s o := by
  unfold gd
  cases hg : o.guard with
  | none => rfl
  | some gw =>
    obtain ⟨g, want⟩ := gw
    dsimp only
    cases ht : (l[g]?).bind (·.dst) with
    | none => rfl
    | some t =>
      dsimp only
      rw [get_put_ne fun e => h t e (looks_guard hg ht)]

/-- What an operation that has not come up yet will come to. -/
def Known (τ : Tau) (C : CallW) (l : List Oper) (s : St) (o : Oper) (d : D) : Prop :=
  (gd l s o = some true ∧ quietOp o.op = true ∧ ∀ K : D → Objs → Prop, K d s.objs → vcOp τ C s.get s.objs o.op K) ∨ (gd l s o = some false ∧ d = .tup [])

structure Inv (τ : Tau) (C : CallW) (l : List Oper) (E : List Nat) (s : St) (done : List Nat) (acc : List (Nat × D)) (lst : Nat → Prop) : Prop where
  eff : ∀ j ∈ done, effAt l E j = true → lst j
  known : ∀ j ∈ done, ¬ lst j → ∃ o d, l[j]? = some o ∧ (∀ t, o.dst = some t → s.get t = d) ∧ Known τ C l s o d ∧ (isLoad o.op = true → gd l s o = some true → (j, d) ∈ acc)

theorem al_eff {j : Nat} (h : alAt l j = true) : effAt l E j = true := by
  obtain ⟨o, ty, t, h1, h2, _⟩ := alAt_out h
  unfold effAt
  rw [h1]
  simp only [h2]
  simp [quietOp, pureOp, isLoad]
/-- The readers that come next are taken as read. -/
theorem Inv.norm (hF : DrawFacts l E perm A) {K : St → Prop} {lst : Nat → Prop} : ∀ (rest done : List Nat) (acc : List (Nat × D)) (s : St), done ++ rest = perm → Inv τ C l E s done acc lst → (∀ j ∈ rest, lst j → alAt l j = true) → drw τ C l A E K rest acc s →
    ∃ done' rest' acc' s', done' ++ rest' = perm ∧ Inv τ C l E s' done' acc' lst ∧ (∃ pre, rest = pre ++ rest' ∧ ∀ j ∈ pre, effAt l E j = false) ∧ drw τ C l A E K rest' acc' s' ∧ s'.objs = s.objs ∧
      (∀ t, s'.get t = s.get t ∨ ∃ j o, l[j]? = some o ∧ o.dst = some t ∧ ¬ lst j ∧ effAt l E j = false) ∧ (rest' = [] ∨ ∃ e r, rest' = e :: r ∧ effAt l E e = true)
  | [], done, acc, s, hp, hI, hr, h => ⟨done, [], acc, s, hp, hI, ⟨[], rfl, by simp⟩, h, rfl, fun _ => .inl rfl, .inl rfl⟩
  | i :: rest, done, acc, s, hp, hI, hr, h => by
    cases he : effAt l E i with
    | true => exact ⟨done, i :: rest, acc, s, hp, hI, ⟨[], rfl, by simp⟩, h, rfl, fun _ => .inl rfl, .inr ⟨i, rest, rfl, he⟩⟩
    | false =>
      have hil : i < l.length := hF.lt i (by rw [← hp]; simp)
      have hio : l[i]? = some l[i] := List.getElem?_eq_getElem hil
      generalize l[i] = o at hio
      have hq : quietOp o.op = true := by
        unfold effAt at he; rw [hio] at he; simp only [Bool.not_eq_false', Bool.and_eq_true] at he; exact he.1
      have hqe : (quietOp o.op && !E.contains i) = true := by
        unfold effAt at he; rw [hio] at he; simpa only [Bool.not_eq_false'] using he
      have hni : ¬ lst i := fun hl => by rw [al_eff (hr i (by simp) hl)] at he; simp at he
      have hpw := pw_append (a := done) (b := i :: rest) (by rw [hp]; exact hF.pw)
      -- what is put now is looked at by nobody of those that are done
      have apart : ∀ j o', j ∈ done → l[j]? = some o' → ∀ t, o.dst = some t → t ∉ Oper.looksAt l.toArray o' := by
        intro j o' hj ho' t ht hm
        have h1 : i ∈ dirs o' := (hF.looks j o' ho' t hm i o hio ht).resolve_right (fun h => by rw [he] at h; simp at h)
        have h2 := hpw j hj i (by simp)
        simp only [pairOk, Bool.and_eq_true] at h2
        have h3 := h2.2.1
        simp only [dirsAt, ho'] at h3
        simp [h1] at h3
      have apart_self : ∀ t, o.dst = some t → t ∉ Oper.looksAt l.toArray o := by
        intro t ht hm
        have h1 : i ∈ dirs o := (hF.looks i o hio t hm i o hio ht).resolve_right (fun h => by rw [he] at h; simp at h)
        have h2 := hF.down i hil i (by simp only [dirsAt, hio]; exact h1)
        omega
      have keep : ∀ (d : D) (acc' : List (Nat × D)), (∀ x ∈ acc, x ∈ acc') → Known τ C l s o d → (isLoad o.op = true → gd l s o = some true → (i, d) ∈ acc') → Inv τ C l E (s.put o.dst d s.objs) (done ++ [i]) acc' lst := by
        intro d acc' hac hk hl
        refine ⟨fun j hj hej => ?_, fun j hj hnj => ?_⟩
        · rcases List.mem_append.1 hj with hj | hj
          · exact hI.eff j hj hej
          · simp at hj; subst hj; rw [he] at hej; simp at hej
        · rcases List.mem_append.1 hj with hjd | hj
          · obtain ⟨o', d', ho', hv, hk', hl'⟩ := hI.known j hjd hnj
            refine ⟨o', d', ho', fun t ht => ?_, ?_, fun h1 h2 => ?_⟩
            · rw [get_put_ne (fun e => ?_)]
              · exact hv t ht
              · have := hF.dst i o t hio e j o' ho' ht
                subst this
                have h2 := hpw j hjd j (by simp)
                simp [pairOk, Nat.beq_refl] at h2
            · rcases hk' with ⟨g1, g2, g3⟩ | ⟨g1, g2⟩
              · refine .inl ⟨by rw [gd_put (apart j o' hjd ho')]; exact g1, g2, fun K hK => ?_⟩
                rw [objs_put] at hK ⊢
                exact (op_put (apart j o' hjd ho') K).2 (g3 K hK)
              · exact .inr ⟨by rw [gd_put (apart j o' hjd ho')]; exact g1, g2⟩
            · rw [gd_put (apart j o' hjd ho')] at h2
              exact hac _ (hl' h1 h2)
          · simp at hj; subst hj
            refine ⟨o, d, hio, fun t ht => by rw [ht]; exact get_put_self, ?_, fun h1 h2 => ?_⟩
            · rcases hk with ⟨g1, g2, g3⟩ | ⟨g1, g2⟩
              · refine .inl ⟨by rw [gd_put apart_self]; exact g1, g2, fun K hK => ?_⟩
                rw [objs_put] at hK ⊢
                exact (op_put apart_self K).2 (g3 K hK)
              · exact .inr ⟨by rw [gd_put apart_self]; exact g1, g2⟩
            · rw [gd_put apart_self] at h2
              exact hl h1 h2
      have go : ∀ (d : D) (acc' : List (Nat × D)), (∀ x ∈ acc, x ∈ acc') → Known τ C l s o d → (isLoad o.op = true → gd l s o = some true → (i, d) ∈ acc') → drw τ C l A E K rest acc' (s.put o.dst d s.objs) → _ := fun d acc' hac hk hl hd =>
        Inv.norm hF rest (done ++ [i]) acc' (s.put o.dst d s.objs) (by rw [← hp]; simp) (keep d acc' hac hk hl) (fun j hj => hr j (by simp [hj])) hd
      have fin : ∀ d, (∃ done' rest' acc' s', done' ++ rest' = perm ∧ Inv τ C l E s' done' acc' lst ∧ (∃ pre, rest = pre ++ rest' ∧ ∀ j ∈ pre, effAt l E j = false) ∧ drw τ C l A E K rest' acc' s' ∧ s'.objs = (s.put o.dst d s.objs).objs ∧
          (∀ t, s'.get t = (s.put o.dst d s.objs).get t ∨ ∃ j o, l[j]? = some o ∧ o.dst = some t ∧ ¬ lst j ∧ effAt l E j = false) ∧ (rest' = [] ∨ ∃ e r, rest' = e :: r ∧ effAt l E e = true)) →
          ∃ done' rest' acc' s', done' ++ rest' = perm ∧ Inv τ C l E s' done' acc' lst ∧ (∃ pre, i :: rest = pre ++ rest' ∧ ∀ j ∈ pre, effAt l E j = false) ∧ drw τ C l A E K rest' acc' s' ∧ s'.objs = s.objs ∧
          (∀ t, s'.get t = s.get t ∨ ∃ j o, l[j]? = some o ∧ o.dst = some t ∧ ¬ lst j ∧ effAt l E j = false) ∧ (rest' = [] ∨ ∃ e r, rest' = e :: r ∧ effAt l E e = true) := by
        rintro d ⟨done', rest', acc', s', h1, h2, h3, h4, h5, h6, h7⟩
        obtain ⟨pre, hpre, hq'⟩ := h3
        refine ⟨done', rest', acc', s', h1, h2, ⟨i :: pre, by rw [hpre]; rfl, fun j hj => by
          rcases List.mem_cons.1 hj with rfl | hj
          · exact he
          · exact hq' j hj⟩, h4, by rw [h5, objs_put], fun t => ?_, h7⟩
        rcases h6 t with h6 | h6
        · by_cases ht : o.dst = some t
          · exact .inr ⟨i, o, hio, ht, hni, he⟩
          · exact .inl (by rw [h6, get_put_ne ht])
        · exact .inr h6
      simp only [drw, hio, St.opn_eq, St.putK_eq] at h
      rcases guarded_out h with ⟨hg, h⟩ | ⟨hg, h⟩
      · obtain ⟨d, h1, h2⟩ := vcOp_quiet hq h
        rw [hqe] at h1
        simp only [cond_true] at h1
        cases hld : isLoad o.op with
        | true =>
          rw [hld] at h1
          exact fin d (go d ((i, d) :: acc) (fun x hx => by simp [hx]) (.inl ⟨hg, hq, h2⟩) (fun _ _ => by simp) h1)
        | false =>
          rw [hld] at h1
          exact fin d (go d acc (fun x hx => hx) (.inl ⟨hg, hq, h2⟩) (fun h _ => by simp [hld] at h) h1)
      · exact fin _ (go _ acc (fun x hx => hx) (.inr ⟨hg, rfl⟩) (fun _ h => by rw [hg] at h; simp at h) h)

/-- Whoever waits for an operation waits for all for which that one waits. -/
theorem anc_listed (hF : DrawFacts l E perm A) {lst : Nat → Prop} (hclosed : ∀ j, lst j → ∀ k ∈ dirsAt l j, lst k) : ∀ (n i : Nat), i ≤ n → i < l.length → (∀ k ∈ dirsAt l i, lst k) → ∀ j ∈ ancAt A i, lst j := by
  intro n
  induction n with
  | zero =>
    intro i hi hl hd j hj
    rcases hF.anc i hl j hj with h | ⟨k, hk, _⟩
    · exact hd j h
    · have := hF.down i hl k hk; omega
  | succ n ih =>
    intro i hi hl hd j hj
    rcases hF.anc i hl j hj with h | ⟨k, hk, hjk⟩
    · exact hd j h
    · have := hF.down i hl k hk
      exact ih k (by omega) (by omega) (hclosed k (hd k hk)) j hjk

theorem look_map_mem (g : Nat → D) : ∀ (ts : List Nat) (t : Nat), t ∈ ts → look (ts.map (fun t => (t, g t))) t = g t
  | [], t, h => by cases h
  | u :: ts, t, h => by
    simp only [List.map_cons, look]
    cases hb : Nat.beq u t with
    | true => rw [Nat.eq_of_beq_eq_true hb]; rfl
    | false =>
      simp only [cond_false]
      rcases List.mem_cons.1 h with e | h
      · subst e; rw [Nat.beq_refl] at hb; simp at hb
      · exact look_map_mem g ts t h
theorem look_map (g : Nat → D) : ∀ (ts : List Nat) (t : Nat), (t ∈ ts ∧ look (ts.map (fun t => (t, g t))) t = g t) ∨ look (ts.map (fun t => (t, g t))) t = .junk
  | [], t => .inr rfl
  | u :: ts, t => by
    simp only [List.map_cons, look]
    cases hb : Nat.beq u t with
    | true => left; have := Nat.eq_of_beq_eq_true hb; subst this; exact ⟨by simp, rfl⟩
    | false =>
      simp only [cond_false]
      rcases look_map g ts t with ⟨h1, h2⟩ | h
      · exact .inl ⟨by simp [h1], h2⟩
      · exact .inr h
/-- An alloc that has come already, but is not told yet: its block. -/
def pendAt (τ : Tau) (l : List Oper) (lo : Nat) (ρ : Pl) (I : Im) (os : Objs) (a : Act) (w : World) (j b : Nat) : Prop :=
  ∃ o ty ti t, l[j]? = some o ∧ o.op = .alloc ty ∧ o.guard = none ∧ o.dst = some t ∧ τ ty = some ti ∧ a.tmps.getD t undef = .pointer (some ⟨b, 0, none⟩) ∧ lo ≤ b ∧ b < w.heap.size ∧ I b = none ∧ ¬ foot ρ os b ∧
    ∀ ρ' I', objOk ρ' I' w (b, 1) (.row ty ti.size false [ti.zero])
structure DR (τ : Tau) (Γ : Ctx) (N : Nat) (l : List Oper) (E : List Nat) (lst : Nat → Prop) (rest : List Nat) (s : St) (ρ : Pl) (I : Im) (a : Act) (w : World) : Prop where
  sat : Sat ρ I s.objs w
  fr : Γ.Fr ρ I s.objs w
  tm : ∀ t, (∃ j o, l[j]? = some o ∧ o.dst = some t ∧ ((¬ lst j ∧ effAt l E j = false) ∨ (j ∈ rest ∧ lst j))) ∨ rep ρ I (s.get t) (a.tmps.getD t undef)
  df : a.defers = []
  sz : a.tmps.size = N
  pend : ∃ B : Nat → Nat, (∀ j ∈ rest, lst j → pendAt τ l Γ.w.heap.size ρ I s.objs a w j (B j)) ∧ ∀ j j', j ∈ rest → j' ∈ rest → lst j → lst j' → B j = B j' → j = j'
theorem DR.al {Γ : Ctx} {lst : Nat → Prop} {rest : List Nat} {s : St} {ρ : Pl} {I : Im} {a : Act} {w : World} (h : DR τ Γ N l E lst rest s ρ I a w) : ∀ j ∈ rest, lst j → alAt l j = true := by
  obtain ⟨B, hB, _⟩ := h.pend
  intro j hj hl
  obtain ⟨o, ty, ti, t, h1, h2, h3, h4, _⟩ := hB j hj hl
  obtain ⟨dst, op, tp, pos, after, guard⟩ := o
  dsimp only at h2 h3 h4
  subst h2 h3 h4
  unfold alAt
  rw [h1]
/-- A block that is there becomes an object. -/
theorem Sat.adopt {ρ : Pl} {I : Im} {os : Objs} {w : World} (h : Sat ρ I os w) {b C : Nat} (hI : I b = none) (hf : ¬ foot ρ os b) (o : O)
    (ho : objOk (ρ.new os.length (b, C)) I w (b, C) o) : Sat (ρ.new os.length (b, C)) I (os ++ [one o]) w ∧ ∀ c, foot (ρ.new os.length (b, C)) (os ++ [one o]) c → foot ρ os c ∨ c = b := by
  have hle : ρ.le (ρ.new os.length (b, C)) := Pl.le_new (fun j => h.dom _ _ (Nat.le_refl _))
  have old : ∀ i j, Objs.at (os ++ [one o]) i j ≠ .gone → ¬ (i = os.length ∧ j = 0) → os.at i j ≠ .gone ∧ i < os.length := by
    intro i j hne hn
    rcases Nat.lt_or_ge i os.length with hi | hi
    · rw [at_lt _ _ _ hi] at hne; exact ⟨hne, hi⟩
    · rcases Nat.eq_or_lt_of_le hi with e | hlt
      · subst e; rw [at_new] at hne; exact absurd (one_pos o (fun e => hn ⟨rfl, e⟩)) hne
      · exact absurd (at_ge (os ++ [one o]) j (by simp; omega)) hne
  have hfoot : ∀ c, foot (ρ.new os.length (b, C)) (os ++ [one o]) c → foot ρ os c ∨ c = b := by
    rintro c ⟨i, j, p, hne, hp, hpos, rfl⟩
    by_cases hc : i = os.length ∧ j = 0
    · obtain ⟨rfl, rfl⟩ := hc
      rw [Pl.new_self] at hp; cases hp
      exact .inr rfl
    · rw [Pl.new_ne _ _ hc] at hp
      exact .inl ⟨i, j, p, (old i j hne hc).1, hp, hpos, rfl⟩
  refine ⟨⟨h.im, fun i j hne => ?_, ?_, fun c hc => ?_, ?_⟩, hfoot⟩
  · by_cases hc : i = os.length ∧ j = 0
    · obtain ⟨rfl, rfl⟩ := hc
      exact ⟨_, Pl.new_self _ _ _, by rw [at_new]; exact ho⟩
    · obtain ⟨hne', hi⟩ := old i j hne hc
      obtain ⟨p, hp, hok⟩ := h.ok i j hne'
      refine ⟨p, by rw [Pl.new_ne _ _ hc]; exact hp, ?_⟩
      rw [at_lt _ _ _ hi]
      exact objOk_mono hle (Im.le_refl _) (fun _ => rfl) hok
  · intro i j i' j' p p' hne hne' hp hp' hpos hpos' he
    by_cases hc : i = os.length ∧ j = 0 <;> by_cases hc' : i' = os.length ∧ j' = 0
    · exact ⟨hc.1.trans hc'.1.symm, hc.2.trans hc'.2.symm⟩
    · obtain ⟨k, hi⟩ := old i' j' hne' hc'
      rw [Pl.new_ne _ _ hc'] at hp'
      obtain ⟨rfl, rfl⟩ := hc
      rw [Pl.new_self] at hp; cases hp
      exact absurd ⟨i', j', p', k, hp', hpos', he.symm⟩ hf
    · obtain ⟨k, hi⟩ := old i j hne hc
      rw [Pl.new_ne _ _ hc] at hp
      obtain ⟨rfl, rfl⟩ := hc'
      rw [Pl.new_self] at hp'; cases hp'
      exact absurd ⟨i, j, p, k, hp, hpos, he⟩ hf
    · rw [Pl.new_ne _ _ hc] at hp
      rw [Pl.new_ne _ _ hc'] at hp'
      exact h.inj i j i' j' p p' (old i j hne hc).1 (old i' j' hne' hc').1 hp hp' hpos hpos' he
  · rcases hfoot c hc with h' | rfl
    · exact h.apart c h'
    · exact hI
  · intro i j hi
    rw [Pl.new_ne _ _ (fun e => by simp at hi; omega)]
    exact h.dom i j (by simp at hi; omega)
/-- The heap grows. -/
theorem Sat.grow {ρ : Pl} {I : Im} {os : Objs} {w w' : World} (h : Sat ρ I os w) (hw : ∀ b, b < w.heap.size → w'.heap[b]? = w.heap[b]?) : Sat ρ I os w' :=
  ⟨fun b ob hb => by rw [hw b (h.im_lt hb)]; exact h.im b ob hb, fun i j hne => by
    obtain ⟨p, hp, hok⟩ := h.ok i j hne
    exact ⟨p, hp, objOk_mono (Pl.le_refl _) (Im.le_refl _) (fun hpos => hw _ (objOk_lt hne hpos hok)) hok⟩, h.inj, h.apart, h.dom⟩
/-- What has come ahead stays, whatever is done. -/
theorem pendAt.keep {lo : Nat} {ρ ρ' : Pl} {I I' : Im} {os os' : Objs} {w w' : World} {a a' : Act} {j b : Nat} (h : pendAt τ l lo ρ I os a w j b) (hfr : Fr ρ I os w ρ' I' os' w') (ht : ∀ o t, l[j]? = some o → o.dst = some t → a'.tmps.getD t undef = a.tmps.getD t undef) : pendAt τ l lo ρ' I' os' a' w' j b := by
  obtain ⟨o, ty, ti, t, h1, h2, h3, h4, h5, h6, h7, h8, h9, h10, h11⟩ := h
  refine ⟨o, ty, ti, t, h1, h2, h3, h4, h5, by rw [ht o t h1 h4]; exact h6, h7, Nat.lt_of_lt_of_le h8 hfr.size, ?_, fun hf => ?_, fun ρ2 I2 => ?_⟩
  · cases hI : I' b with
    | none => rfl
    | some x =>
      rcases hfr.imnew b (by rw [hI]; simp) with h | h | h
      · exact absurd h9 h
      · exact absurd h h10
      · omega
  · rcases hfr.obnew b hf with h | h
    · exact h10 h
    · omega
  · exact objOk_mono (w := w) (Pl.le_refl _) (Im.le_refl _) (fun _ => hfr.kept b h8 h10) (h11 ρ2 I2)
theorem unlisted_lt {listed : Array Bool} {j : Nat} (h : listed.getD j true = false) : j < listed.size ∧ listed.getD j false = false := by
  rcases Nat.lt_or_ge j listed.size with hl | hl
  · simp [hl] at h ⊢; exact h
  · simp [hl] at h

/-- The first of those that are left has acted. -/
theorem Inv.act (hF : DrawFacts l E perm A) {lst lst' : Nat → Prop} {done r : List Nat} {i : Nat} {acc : List (Nat × D)} {s : St} {o : Oper} (hp : done ++ i :: r = perm) (hI : Inv τ C l E s done acc lst) (ho' : l[i]? = some o)
    (hup : ∀ j, lst j → lst' j) (hi : lst' i) (hdn : ∀ j, lst' j → lst j ∨ j = i) (hdir : ∀ k ∈ dirsAt l i, lst k) (hanc : ∀ j ∈ ancAt A i, lst j) (d : D) (os : Objs)
    (hre : (∀ j d' oj, (j, d') ∈ acc → j ∉ ancAt A i → l[j]? = some oj → vcOp τ C s.get os oj.op (fun d'' _ => d'' = d')) ∨ os = s.objs) : Inv τ C l E (s.put o.dst d os) (done ++ [i]) acc lst' := by
  have hpw := pw_append (a := done) (b := i :: r) (by rw [hp]; exact hF.pw)
  have apart : ∀ j o', j ∈ done → ¬ lst j → l[j]? = some o' → ∀ t, o.dst = some t → t ∉ Oper.looksAt l.toArray o' := by
    intro j oj hj hnl hoj t ht hm
    have h1 : i ∈ dirs oj := (hF.looks j oj hoj t hm i o ho' ht).resolve_right (fun h => hnl (hdir j (by simp only [dirsAt, ho']; exact h.1)))
    have h2 := hpw j hj i (by simp)
    simp only [pairOk, Bool.and_eq_true] at h2
    have h3 := h2.2.1
    simp only [dirsAt, hoj] at h3
    simp [h1] at h3
  refine ⟨fun j hj hej => ?_, fun j hj hn => ?_⟩
  · rcases List.mem_append.1 hj with hj | hj
    · exact hup j (hI.eff j hj hej)
    · simp at hj; subst hj; exact hi
  · rcases List.mem_append.1 hj with hjd | hj
    · have hnl : ¬ lst j := fun h => hn (hup j h)
      obtain ⟨oj, dj, hoj, hv, hk, hac⟩ := hI.known j hjd hnl
      refine ⟨oj, dj, hoj, fun t ht => ?_, ?_, fun q1 q2 => ?_⟩
      · rw [get_put_ne (fun e => ?_)]
        · exact hv t ht
        · have := hF.dst i o t ho' e j oj hoj ht
          subst this
          have h2 := hpw j hjd j (by simp)
          simp [pairOk, Nat.beq_refl] at h2
      · rcases hk with ⟨g1, g2, g3⟩ | ⟨g1, g2⟩
        · refine .inl ⟨by rw [gd_put (apart j oj hjd hnl hoj)]; exact g1, g2, ?_⟩
          intro K' hK'
          rw [objs_put] at hK' ⊢
          refine (op_put (apart j oj hjd hnl hoj) K').2 ?_
          rcases hre with hre | rfl
          · cases hpu : pureOp oj.op with
            | true =>
              refine (vcOp_pure hpu K').2 ?_
              exact (vcOp_pure hpu (fun d'' _ => K' d'' os)).1 (g3 (fun d'' _ => K' d'' os) hK')
            | false =>
              have hld : isLoad oj.op = true := by
                unfold quietOp at g2; rw [hpu] at g2; simpa using g2
              have hmem := hac hld g1
              have hna : j ∉ ancAt A i := fun hm => hnl (hanc j hm)
              obtain ⟨d'', e1, e2⟩ := vcOp_quiet g2 (hre j dj oj hmem hna hoj)
              subst e1
              exact e2 K' hK'
          · exact g3 K' hK'
        · exact .inr ⟨by rw [gd_put (apart j oj hjd hnl hoj)]; exact g1, g2⟩
      · rw [gd_put (apart j oj hjd hnl hoj)] at q2
        exact hac q1 q2
    · simp at hj; exact absurd (by subst hj; exact hi) hn
theorem nodup_perm (hF : DrawFacts l E perm A) {done r : List Nat} {i : Nat} (hp : done ++ i :: r = perm) : i ∉ r := by
  intro hm
  have hpp := hF.pw
  rw [← hp] at hpp
  have := pw_append (a := done ++ [i]) (b := r) (by rw [List.append_assoc]; exact hpp) i (by simp) i hm
  simp [pairOk, Nat.beq_refl] at this
/-- What has come ahead is told when its turn has come. -/
theorem settle (hF : DrawFacts l E perm A) {lst : Nat → Prop} {K : St → Prop} (hclosed : ∀ j, lst j → ∀ k ∈ dirsAt l j, lst k) {I : Im} {a : Act} {w : World} : ∀ (n : Nat) (rest done : List Nat) (acc : List (Nat × D)) (s : St) (ρ : Pl), rest.length ≤ n → done ++ rest = perm → Inv τ C l E s done acc lst → DR τ Γ N l E lst rest s ρ I a w → drw τ C l A E K rest acc s →
    ∃ done' rest' acc' s' ρ', done' ++ rest' = perm ∧ Inv τ C l E s' done' acc' lst ∧ DR τ Γ N l E lst rest' s' ρ' I a w ∧ drw τ C l A E K rest' acc' s' ∧ (rest' = [] ∨ ∃ e r, rest' = e :: r ∧ effAt l E e = true ∧ ¬ lst e) := by
  intro n
  induction n with
  | zero =>
    intro rest done acc s ρ hn hp hI hD h
    have : rest = [] := List.length_eq_zero_iff.1 (by omega)
    subst this
    exact ⟨done, [], acc, s, ρ, hp, hI, hD, h, .inl rfl⟩
  | succ n ih =>
    intro rest done acc s ρ hn hp hI hD h
    obtain ⟨done1, rest1, acc1, s1, q1, q2, q3, q4, q5, q6, q7⟩ := Inv.norm hF rest done acc s hp hI hD.al h
    obtain ⟨B, hB, hBi⟩ := hD.pend
    have hD1 : DR τ Γ N l E lst rest1 s1 ρ I a w := by
      obtain ⟨pre, hpre, hq⟩ := q3
      have sub : ∀ j, j ∈ rest1 → j ∈ rest := fun j hj => by rw [hpre]; exact List.mem_append_right _ hj
      refine ⟨by rw [q5]; exact hD.sat, by rw [q5]; exact hD.fr, fun t => ?_, hD.df, hD.sz, B, fun j hj hl => by rw [q5]; exact hB j (sub j hj) hl, fun j j' hj hj' => hBi j j' (sub j hj) (sub j' hj')⟩
      rcases q6 t with q6 | ⟨j, o, h1, h2, h3, h4⟩
      · rw [q6]
        rcases hD.tm t with ⟨j, o, h1, h2, h3 | h3⟩ | h3
        · exact .inl ⟨j, o, h1, h2, .inl h3⟩
        · -- a pending one of those that were left: it is still left
          by_cases hj : j ∈ rest1
          · exact .inl ⟨j, o, h1, h2, .inr ⟨hj, h3.2⟩⟩
          · exfalso
            have hjp : j ∈ pre := by
              have := h3.1
              rw [hpre] at this
              exact (List.mem_append.1 this).resolve_right hj
            have h5 := al_eff (E := E) (hD.al j h3.1 h3.2)
            rw [hq j hjp] at h5
            simp at h5
        · exact .inr h3
      · exact .inl ⟨j, o, h1, h2, .inl ⟨h3, h4⟩⟩
    rcases q7 with rfl | ⟨e, r, rfl, he⟩
    · exact ⟨done1, [], acc1, s1, ρ, q1, q2, hD1, q4, .inl rfl⟩
    · by_cases hl : lst e
      · -- it is told
        obtain ⟨B1, hB1, hB1i⟩ := hD1.pend
        obtain ⟨o, ty, ti, t, h1, h2, h3, h4, h5, h6, h7, h8, h9, h10, h11⟩ := hB1 e (by simp) hl
        have hdir : ∀ k ∈ dirsAt l e, lst k := hclosed e hl
        have hel : e < l.length := (List.getElem?_eq_some_iff.1 h1).1
        have hanc := anc_listed hF hclosed e e (Nat.le_refl _) hel hdir
        have her : e ∉ r := nodup_perm hF q1
        have h := q4
        simp only [drw, h1, St.opn_eq, St.putK_eq] at h
        unfold guarded at h
        rw [h3] at h
        simp only [h2, vcOp, h5] at h
        cases hz : ti.zero.isJunk with
        | true => rw [hz] at h; exact h.elim
        | false =>
          rw [hz] at h
          simp only [cond_false] at h
          have hq : (quietOp (.alloc ty) && !E.contains e) = false := by simp [quietOp, pureOp, isLoad]
          rw [hq] at h
          simp only [cond_false] at h
          obtain ⟨k1, k2⟩ := recheck_out h
          have had := hD1.sat.adopt (C := 1) h9 h10 (.row ty ti.size false [ti.zero]) (h11 _ _)
          have hle : ρ.le (ρ.new s1.objs.length (B1 e, 1)) := Pl.le_new (fun j => hD1.sat.dom _ _ (Nat.le_refl _))
          have hI2 := Inv.act hF q1 q2 h1 (fun j h => h) hl (fun j h => .inl h) hdir hanc (.ptr s1.objs.length 0 ti.size 0 0) (s1.objs ++ [one (.row ty ti.size false [ti.zero])]) (.inl k2)
          refine ih r (done1 ++ [e]) acc1 _ _ ?_ (by rw [← q1]; simp) hI2 ⟨by rw [objs_put]; exact had.1, ?_, fun t' => ?_, hD.df, hD.sz, B1, fun j hj hlj => ?_, fun j j' hj hj' => hB1i j j' (by simp [hj]) (by simp [hj'])⟩ k1
          · obtain ⟨pre, hpre, _⟩ := q3
            rw [hpre] at hn
            simp at hn
            omega
          · rw [objs_put]
            have fr := hD1.fr
            refine ⟨fr.wos, fr.tape, fr.output, fr.size, fr.kept, by have := fr.len; simp; omega, fun i j hi => ?_, fr.imle, fr.imnew, fun c hc => ?_⟩
            · rw [Pl.new_ne _ _ (fun e => by have := fr.len; omega)]; exact fr.same i j hi
            · rcases had.2 c hc with hc | rfl
              · exact fr.obnew c hc
              · exact .inr h7
          · by_cases ht : o.dst = some t'
            · right
              rw [ht, get_put_self]
              have : t = t' := by rw [h4] at ht; injection ht
              subst this
              rw [h6, rep]
              exact ⟨_, Pl.new_self _ _ _, by simp, by simp⟩
            · rw [get_put_ne ht]
              rcases hD1.tm t' with ⟨j, oj, g1, g2, g3 | g3⟩ | g3
              · exact .inl ⟨j, oj, g1, g2, .inl g3⟩
              · refine .inl ⟨j, oj, g1, g2, .inr ⟨?_, g3.2⟩⟩
                rcases List.mem_cons.1 g3.1 with rfl | hj
                · rw [h1] at g1; cases g1; exact absurd g2 ht
                · exact hj
              · exact .inr (rep_mono hle (Im.le_refl _) _ _ g3)
          · rw [objs_put]
            obtain ⟨o', ty', ti', t', g1, g2, g3, g4, g5, g6, g7, g8, g9, g10, g11⟩ := hB1 j (by simp [hj]) hlj
            refine ⟨o', ty', ti', t', g1, g2, g3, g4, g5, g6, g7, g8, g9, fun hf => ?_, g11⟩
            rcases had.2 _ hf with hf | hf
            · exact g10 hf
            · have := hB1i j e (by simp [hj]) (by simp) hlj hl hf
              subst this
              exact her hj
      · exact ⟨done1, e :: r, acc1, s1, ρ, q1, q2, hD1, q4, .inr ⟨e, r, rfl, he, hl⟩⟩
theorem drw_sound (hτ : TauOk P τ) (hC : ∀ Γ, CallOk P Γ C) (hF : DrawFacts l E perm A) (hAll : allOk τ l = true) (hN : dstsOk N l = true) {K : St → Prop} {Q : Exit → Act → World → Prop} (hQ : ∀ s ρ I a w, R Γ N s ρ I a w → K s → Q .normal a w) :
    ∀ (fuel : Nat) (listed : Array Bool), listed.size = l.length →
      ((List.range l.length).filter (fun j => !listed.getD j false)).length ≤ fuel →
      (∀ j, listed.getD j false = true → ∀ k ∈ dirsAt l j, listed.getD k false = true) →
      ∀ (done rest : List Nat) (acc : List (Nat × D)) (s : St), done ++ rest = perm → Inv τ C l E s done acc (fun j => listed.getD j false = true) →
      drw τ C l A E K rest acc s → ∀ (ρ : Pl) (I : Im) (a : Act) (w : World), DR τ Γ N l E (fun j => listed.getD j false = true) rest s ρ I a w →
      (rest = [] ∨ ∃ e r, rest = e :: r ∧ effAt l E e = true ∧ ¬ listed.getD e false = true) →
      wpAny P .any l.toArray Q fuel listed a w := by
  have hdN : ∀ (i : Nat) (o : Oper), l[i]? = some o → ∀ t, o.dst = some t → t < N := by
    intro i o hi t ht
    have := List.all_eq_true.1 hN o (List.mem_of_getElem? hi)
    rw [ht] at this
    exact Nat.le_of_ble_eq_true this
  -- where nothing is ready all is listed
  have ended : ∀ (listed : Array Bool), listed.size = l.length → Region.ready .any l.toArray listed = [] → ∀ n j, j ≤ n → j < l.length → listed.getD j false = true := by
    intro listed hsz hr n
    induction n with
    | zero =>
      intro j hj hl
      cases hb : listed.getD j false with
      | true => rfl
      | false =>
        have : j ∈ Region.ready .any l.toArray listed := by
          refine mem_ready.2 ⟨by simp [hsz, hl] at hb ⊢; exact hb, l[j], by simp [hl], fun e he hbd => ?_⟩
          have hm : e.on ∈ dirsAt l j := by
            simp only [dirsAt, List.getElem?_eq_getElem hl, dirs]
            exact List.mem_map.2 ⟨e, List.mem_filter.2 ⟨by simpa using he, hbd⟩, rfl⟩
          have := hF.down j hl _ hm; omega
        rw [hr] at this; cases this
    | succ n ih =>
      intro j hj hl
      cases hb : listed.getD j false with
      | true => rfl
      | false =>
        have : j ∈ Region.ready .any l.toArray listed := by
          refine mem_ready.2 ⟨by simp [hsz, hl] at hb ⊢; exact hb, l[j], by simp [hl], fun e he hbd => ?_⟩
          have hm : e.on ∈ dirsAt l j := by
            simp only [dirsAt, List.getElem?_eq_getElem hl, dirs]
            exact List.mem_map.2 ⟨e, List.mem_filter.2 ⟨by simpa using he, hbd⟩, rfl⟩
          have := hF.down j hl _ hm
          exact ih e.on (by omega) (by omega)
        rw [hr] at this; cases this
  have final : ∀ (listed : Array Bool), (∀ j, j < l.length → listed.getD j false = true) → ∀ (done rest : List Nat) (acc : List (Nat × D)) (s : St), done ++ rest = perm → (rest = [] ∨ ∃ e r, rest = e :: r ∧ effAt l E e = true ∧ ¬ listed.getD e false = true) → drw τ C l A E K rest acc s →
      ∀ ρ I a w, DR τ Γ N l E (fun j => listed.getD j false = true) rest s ρ I a w → Q .normal a w := by
    intro listed hall done rest acc s hp hr h ρ I a w hD
    rcases hr with rfl | ⟨i, r, rfl, _, hni⟩
    · refine hQ s ρ I a w ⟨hD.sat, hD.fr, fun t => ?_, hD.df, hD.sz⟩ h
      rcases hD.tm t with ⟨j, o, hj, _, hn | hn⟩ | h
      · exact absurd (hall j (List.getElem?_eq_some_iff.1 hj).1) hn.1
      · cases hn.1
      · exact h
    · exact absurd (hall i (hF.lt i (by rw [← hp]; simp))) hni
  intro fuel
  induction fuel with
  | zero =>
    intro listed hsz hcount hclosed done rest acc s hp hI h ρ I a w hD hhead
    have hall : ∀ j, j < l.length → listed.getD j false = true := by
      intro j hj
      cases hb : listed.getD j false with
      | true => rfl
      | false =>
        have hm : j ∈ (List.range l.length).filter (fun j => !listed.getD j false) := List.mem_filter.2 ⟨List.mem_range.2 hj, by simp [hb]⟩
        have := List.length_pos_of_mem hm
        omega
    refine ⟨?_, final listed hall done rest acc s hp hhead h ρ I a w hD⟩
    rw [List.eq_nil_iff_forall_not_mem]
    intro j hj
    obtain ⟨h1, h2⟩ := unlisted_lt (mem_ready.1 hj).1
    rw [hall j (by omega)] at h2; simp at h2
  | succ fuel ih =>
    intro listed hsz hcount hclosed done rest acc s hp hI h ρ I a w hD hhead
    refine ⟨fun h0 => final listed (fun j hj => ended listed hsz h0 j j (Nat.le_refl _) hj) done rest acc s hp hhead h ρ I a w hD, fun i hi => ?_⟩
    obtain ⟨hun, o, ho, hdeps⟩ := mem_ready.1 hi
    obtain ⟨hil, hni⟩ := unlisted_lt hun
    have ho' : l[i]? = some o := by simpa using ho
    have hdir : ∀ k ∈ dirsAt l i, listed.getD k false = true := by
      intro k hk
      simp only [dirsAt, ho', dirs] at hk
      obtain ⟨e, he, rfl⟩ := List.mem_map.1 hk
      obtain ⟨he1, he2⟩ := List.mem_filter.1 he
      exact hdeps e (by simpa using he1) he2
    have hanc := anc_listed hF (lst := fun j => listed.getD j false = true) hclosed i i (Nat.le_refl _) (by omega) hdir
    -- the numbers behind
    obtain ⟨listed', hl'⟩ : ∃ x, x = listed.setIfInBounds i true := ⟨_, rfl⟩
    have hsz' : listed'.size = l.length := by rw [hl']; simp [hsz]
    have hget : ∀ j, listed'.getD j false = true ↔ listed.getD j false = true ∨ j = i := by
      intro j
      rw [hl']
      by_cases hji : i = j
      · subst hji; simp [hil]
      · rw [getD_set_ne false hji]; constructor
        · exact .inl
        · rintro (h | h)
          · exact h
          · exact absurd h.symm hji
    have hclosed' : ∀ j, listed'.getD j false = true → ∀ k ∈ dirsAt l j, listed'.getD k false = true := by
      intro j hj k hk
      rcases (hget j).1 hj with h | h
      · exact (hget k).2 (.inl (hclosed j h k hk))
      · subst h; exact (hget k).2 (.inl (hdir k hk))
    have hcount' : ((List.range l.length).filter (fun j => !listed'.getD j false)).length ≤ fuel := by
      have hsub : ((List.range l.length).filter (fun j => !listed'.getD j false)).length < ((List.range l.length).filter (fun j => !listed.getD j false)).length := by
        have e : (List.range l.length).filter (fun j => !listed'.getD j false) = ((List.range l.length).filter (fun j => !listed.getD j false)).filter (fun j => !Nat.beq j i) := by
          rw [List.filter_filter]
          congr 1
          funext j
          cases h1 : listed'.getD j false with
          | true =>
            rcases (hget j).1 h1 with h | h
            · simp [h]
            · subst h; simp [Nat.beq_refl]
          | false =>
            have h2 : listed.getD j false = false := by
              cases h3 : listed.getD j false with
              | false => rfl
              | true => rw [(hget j).2 (.inl h3)] at h1; simp at h1
            have h3 : Nat.beq j i = false := by
              cases h4 : Nat.beq j i with
              | false => rfl
              | true => rw [(hget j).2 (.inr (Nat.eq_of_beq_eq_true h4))] at h1; simp at h1
            simp [h2, h3]
        rw [e]
        have hm : i ∈ (List.range l.length).filter (fun j => !listed.getD j false) := List.mem_filter.2 ⟨List.mem_range.2 (by omega), by simp [hni]⟩
        refine Nat.lt_of_le_of_ne (List.length_filter_le _ _) (fun he => ?_)
        have := List.length_filter_eq_length_iff.1 he i hm
        simp [Nat.beq_refl] at this
      omega
    rw [← hl']
    -- how it goes on
    have on : ∀ (done rest : List Nat) (acc : List (Nat × D)) (s : St) (ρ : Pl) (I : Im) (a : Act) (w : World), done ++ rest = perm → Inv τ C l E s done acc (fun j => listed'.getD j false = true) → drw τ C l A E K rest acc s →
        DR τ Γ N l E (fun j => listed'.getD j false = true) rest s ρ I a w → wpAny P .any l.toArray Q fuel listed' a w := by
      intro done rest acc s ρ I a w hp hI h hD
      obtain ⟨done2, rest2, acc2, s2, ρ2, q1, q2, q3, q4, q5⟩ := settle hF hclosed' rest.length rest done acc s ρ (Nat.le_refl _) hp hI hD h
      exact ih listed' hsz' hcount' hclosed' done2 rest2 acc2 s2 q1 q2 q4 ρ2 I a w q3 q5
    have tmput : ∀ (v : Value) (t : Nat), o.dst ≠ some t → (a.put o.dst v).tmps.getD t undef = a.tmps.getD t undef := by
      intro v t ht
      cases hd' : o.dst with
      | none => rfl
      | some u => simp only [Act.put]; rw [Array.getD_eq_getD_getElem?, Array.getElem?_setIfInBounds_ne (fun e => ht (by rw [hd', e])), ← Array.getD_eq_getD_getElem?]
    have tmself : ∀ (v : Value) (t : Nat), o.dst = some t → (a.put o.dst v).tmps.getD t undef = v := by
      intro v t ht
      rw [ht]
      simp only [Act.put]
      rw [Array.getD_eq_getD_getElem?, Array.getElem?_setIfInBounds_self_of_lt (by rw [hD.sz]; exact hdN i o ho' t ht)]
      rfl
    have szput : ∀ v : Value, (a.put o.dst v).tmps.size = N := fun v => by cases hd' : o.dst <;> simp [Act.put, hD.sz]
    have dfput : ∀ v : Value, (a.put o.dst v).defers = [] := fun v => by cases o.dst <;> exact hD.df
    have pendput : ∀ (v : Value) (j : Nat), j ≠ i → ∀ oj t, l[j]? = some oj → oj.dst = some t → (a.put o.dst v).tmps.getD t undef = a.tmps.getD t undef := by
      intro v j hji oj t hoj hdj
      refine tmput v t (fun e => ?_)
      exact hji (hF.dst i o t ho' e j oj hoj hdj)
    obtain ⟨B, hB, hBi⟩ := hD.pend
    have hdd : i ∈ done ∨ i ∈ rest := by
      have := hF.all i (by omega)
      rw [← hp] at this
      exact List.mem_append.1 this
    unfold wpOp
    rw [ho]
    dsimp only
    cases hal : alAt l i with
    | true =>
      -- an alloc comes ahead of its turn
      obtain ⟨o2, ty, t, h1, h2, h3, h4⟩ := alAt_out hal
      rw [ho'] at h1; cases h1
      have hir : i ∈ rest := hdd.resolve_left (fun hid => by
        have := hI.eff i hid (al_eff hal)
        rw [hni] at this; simp at this)
      obtain ⟨ti, hti, hz⟩ : ∃ ti, τ ty = some ti ∧ ti.zero.isJunk = false := by
        have := List.all_eq_true.1 hAll o (List.mem_of_getElem? ho')
        rw [h2] at this
        dsimp only at this
        cases ht : τ ty with
        | none => rw [ht] at this; simp at this
        | some ti => rw [ht] at this; exact ⟨ti, rfl, by simpa using this⟩
      obtain ⟨inf, desc, hty⟩ := hτ ty ti hti
      rcases hty.zero with e | ⟨z, hz1, hz2, hz3⟩
      · rw [e] at hz; simp [D.isJunk] at hz
      have hwt : Region.wanted o (yielded l.toArray a.tmps) = true := by simp [Region.wanted, h3]
      rw [hwt, if_pos rfl]
      left
      have hrun : (execOp a.eval o).run P w = .ok (.value (.pointer (some ⟨w.heap.size, 0, none⟩))) (w.alloc (.cells z.cells ty)) := by
        obtain ⟨dst, op, tp, pos, after, guard⟩ := o
        dsimp only at h2
        subst h2
        have : (Instr.alloc ty true (.tuple #[])).run P w = .ok (.pointer (some ⟨w.heap.size, 0, none⟩)) (w.alloc (.cells z.cells ty)) := by
          simp [Instr.alloc, zeroValue, typeInfo, hty.info, hz1, newVar, newRow]
        simp [execOp, this]
      unfold Oper.wp
      rw [hrun]
      have hold : ∀ b, b < w.heap.size → (w.alloc (.cells z.cells ty)).heap[b]? = w.heap[b]? := fun b hb => by
        show (w.heap.push _)[b]? = _
        rw [Array.getElem?_push, if_neg (by omega)]
      have hsize : (w.alloc (.cells z.cells ty)).heap.size = w.heap.size + 1 := by
        show (w.heap.push _).size = _
        simp
      refine on done rest acc s ρ I _ _ hp ⟨fun j hj he => (hget j).2 (.inl (hI.eff j hj he)), fun j hj hn => hI.known j hj (fun h => hn ((hget j).2 (.inl h)))⟩ h ⟨hD.sat.grow hold, ?_, fun t' => ?_, dfput _, szput _, fun j => if j = i then w.heap.size else B j, fun j hj hlj => ?_, fun j j' hj hj' hlj hlj' e => ?_⟩
      · have fr := hD.fr
        exact ⟨fr.wos, fr.tape, fr.output, by rw [hsize]; have := fr.size; omega, fun b hb hf => by rw [hold b (Nat.lt_of_lt_of_le hb fr.size)]; exact fr.kept b hb hf, fr.len, fr.same, fr.imle, fr.imnew, fr.obnew⟩
      · by_cases ht : o.dst = some t'
        · exact .inl ⟨i, o, ho', ht, .inr ⟨hir, (hget i).2 (.inr rfl)⟩⟩
        · rw [tmput _ _ ht]
          rcases hD.tm t' with ⟨j, oj, hj, hdj, hn | hn⟩ | h
          · refine .inl ⟨j, oj, hj, hdj, .inl ⟨fun h => ?_, hn.2⟩⟩
            rcases (hget j).1 h with h | h
            · exact hn.1 h
            · subst h; rw [ho'] at hj; cases hj; exact ht hdj
          · exact .inl ⟨j, oj, hj, hdj, .inr ⟨hn.1, (hget j).2 (.inl hn.2)⟩⟩
          · exact .inr h
      · by_cases hji : j = i
        · subst hji
          dsimp only
          rw [if_pos rfl]
          refine ⟨o, ty, ti, t, ho', h2, h3, h4, hti, tmself _ _ h4, hD.fr.size, by rw [hsize]; omega, ?_, fun hf => ?_, fun ρ2 I2 => ?_⟩
          · cases hI' : I w.heap.size with
            | none => rfl
            | some x => exact absurd (hD.sat.im_lt hI') (by omega)
          · have := hD.sat.foot_lt hf; omega
          · refine ⟨Nat.le_refl _, maxLen_pos, fun _ => ⟨z.cells, [z], ?_, by rw [hz3.1]; omega, repL_cons.2 ⟨z, [], rfl, ?_, repL_nil.2 rfl⟩, by simpa using hz3, by simp [flat]⟩⟩
            · show (w.heap.push _)[w.heap.size]? = _
              simp
            · exact hz2 _ _
        · dsimp only
          rw [if_neg hji]
          have hlj' := ((hget j).1 hlj).resolve_right hji
          obtain ⟨o', ty', ti', t', g1, g2, g3, g4, g5, g6, g7, g8, g9, g10, g11⟩ := hB j hj hlj'
          refine ⟨o', ty', ti', t', g1, g2, g3, g4, g5, by rw [pendput _ j hji o' t' g1 g4]; exact g6, g7, by rw [hsize]; omega, g9, g10, fun ρ2 I2 => objOk_mono (w := w) (Pl.le_refl _) (Im.le_refl _) (fun _ => hold _ g8) (g11 ρ2 I2)⟩
      · dsimp only at e
        by_cases hji : j = i <;> by_cases hji' : j' = i
        · rw [hji, hji']
        · rw [if_pos hji, if_neg hji'] at e
          obtain ⟨_, _, _, _, _, _, _, _, _, _, _, g8, _⟩ := hB j' hj' (((hget j').1 hlj').resolve_right hji')
          omega
        · rw [if_neg hji, if_pos hji'] at e
          obtain ⟨_, _, _, _, _, _, _, _, _, _, _, g8, _⟩ := hB j hj (((hget j).1 hlj).resolve_right hji)
          omega
        · rw [if_neg hji, if_neg hji'] at e
          exact hBi j j' hj hj' (((hget j).1 hlj).resolve_right hji) (((hget j').1 hlj').resolve_right hji') e
    | false =>
    have hcase : i ∈ done ∨ ∃ r, rest = i :: r ∧ effAt l E i = true := by
      rcases hdd with h | hir
      · exact .inl h
      · right
        rcases hhead with hhead | ⟨e, r, hhead, he, hne⟩
        · subst hhead; cases hir
        · subst hhead
          rcases List.mem_cons.1 hir with hie | hm
          · subst hie; exact ⟨r, rfl, he⟩
          · exfalso
            have h1 : pw (pairOk l E A) (e :: r) = true := by
              have := hF.pw
              rw [← hp] at this
              clear hp hI
              induction done with
              | nil => exact this
              | cons x done ihd => simp only [List.cons_append, pw, Bool.and_eq_true] at this; exact ihd (this.2)
            simp only [pw, Bool.and_eq_true, List.all_eq_true] at h1
            have h2 := h1.1 i hm
            simp only [pairOk, he, hal, Bool.not_true, Bool.false_or, Bool.or_false, Bool.and_eq_true] at h2
            exact hne (hanc e (by simpa using h2.1))
    -- what the operation looks at
    have hlook : ∀ t ∈ Oper.looksAt l.toArray o, rep ρ I (s.get t) (a.tmps.getD t undef) := by
      intro t ht
      rcases hD.tm t with ⟨j, oj, hj, hdj, hn⟩ | h
      · exfalso
        rcases hF.looks i o ho' t ht j oj hj hdj with hjd | ⟨hid, hje⟩
        · rcases hn with ⟨hn, hne⟩ | ⟨hjr, hlj⟩
          · exact hn (hdir j (by simp only [dirsAt, ho']; exact hjd))
          · -- it comes behind it
            have hji : j ≠ i := fun e => by subst e; rw [hni] at hlj; simp at hlj
            have hpi : pairOk l E A i j = true := by
              rcases hcase with hid | ⟨r, hr, _⟩
              · exact pw_append (a := done) (b := rest) (by rw [hp]; exact hF.pw) i hid j hjr
              · subst hr
                rcases List.mem_cons.1 hjr with e | hjr
                · exact absurd e hji
                · have hpp := hF.pw
                  rw [← hp] at hpp
                  exact pw_append (a := done ++ [i]) (b := r) (by rw [List.append_assoc]; exact hpp) i (by simp) j hjr
            simp only [pairOk, Bool.and_eq_true] at hpi
            have h3 := hpi.2.1
            simp only [dirsAt, ho'] at h3
            simp [hjd] at h3
        · rcases hn with ⟨hn, hne⟩ | ⟨hjr, hlj⟩
          · rw [hne] at hje; simp at hje
          · have := hclosed j hlj i (by simp only [dirsAt, hj]; exact hid)
            rw [hni] at this; simp at this
      · exact h
    obtain ⟨s0, hs0⟩ : ∃ s0 : St, s0 = { m := (Oper.looksAt l.toArray o).map (fun t => (t, s.get t)), objs := s.objs } := ⟨_, rfl⟩
    have hR0 : R Γ N s0 ρ I a w := by
      subst hs0
      refine ⟨hD.sat, hD.fr, fun t => ?_, hD.df, hD.sz⟩
      rcases look_map s.get (Oper.looksAt l.toArray o) t with ⟨h1, h2⟩ | h1
      · show rep ρ I (look ((Oper.looksAt l.toArray o).map (fun t => (t, s.get t))) t) _
        rw [h2]; exact hlook t h1
      · show rep ρ I (look ((Oper.looksAt l.toArray o).map (fun t => (t, s.get t))) t) _
        rw [h1]; rw [rep]; trivial
    have hsame : ∀ (K : D → Objs → Prop) (os : Objs), vcOp τ C s.get os o.op K → vcOp τ C s0.get os o.op K := by
      intro K os hk
      refine (vcOp_congr (fun x hx => ?_) K).1 hk
      cases x with
      | tmp t =>
        subst hs0
        simp only [evalO]
        exact (look_map_mem s.get _ t (looks_operand hx)).symm
      | _ => rfl
    have hwant : ∀ b, gd l s o = some b → Region.wanted o (yielded l.toArray a.tmps) = b := by
      intro b hb
      unfold gd at hb
      cases hg : o.guard with
      | none => rw [hg] at hb; simp at hb; subst hb; simp [Region.wanted, hg]
      | some gw =>
        obtain ⟨g, want⟩ := gw
        rw [hg] at hb
        dsimp only at hb
        cases ht : (l[g]?).bind (·.dst) with
        | none => rw [ht] at hb; simp at hb
        | some t =>
          rw [ht] at hb
          dsimp only at hb
          have htm := hlook t (looks_guard hg ht)
          have ht' : (l.toArray[g]?).bind (·.dst) = some t := by simpa using ht
          split at hb
          · rename_i c hc
            rw [hc] at htm
            have hv := rep_bool htm
            have hy : yielded l.toArray a.tmps g = some c := by
              unfold yielded
              rw [ht']
              simp only [Option.bind_some]
              rw [Array.getD_eq_getD_getElem?] at hv
              cases hq : a.tmps[t]? with
              | none => rw [hq] at hv; simp [undef] at hv
              | some u => rw [hq] at hv; simp at hv; subst hv; rfl
            simp at hb
            subst hb
            simp [Region.wanted, hg, hy]
          · rename_i hc
            rw [hc] at htm
            have hv : a.tmps.getD t undef = .tuple #[] := by
              rw [rep] at htm
              obtain ⟨arr, e, hr⟩ := htm
              rw [repL_nil] at hr
              have : arr = #[] := Array.ext' (by simpa using hr)
              rw [e, this]
            have hy : yielded l.toArray a.tmps g = none := by
              unfold yielded
              rw [ht']
              simp only [Option.bind_some]
              rw [Array.getD_eq_getD_getElem?] at hv
              cases hq : a.tmps[t]? with
              | none => rfl
              | some u => rw [hq] at hv; simp at hv; subst hv; rfl
            simp at hb
            subst hb
            simp [Region.wanted, hg, hy]
          · simp at hb
    -- what comes behind it
    have keepP : ∀ (v : Value) (ρ' : Pl) (I' : Im) (os : Objs) (w' : World), Fr ρ I s.objs w ρ' I' os w' → ∀ rest' : List Nat, (∀ j ∈ rest', j ∈ rest ∧ j ≠ i) →
        ∃ B : Nat → Nat, (∀ j ∈ rest', listed'.getD j false = true → pendAt τ l Γ.w.heap.size ρ' I' os (a.put o.dst v) w' j (B j)) ∧ ∀ j j', j ∈ rest' → j' ∈ rest' → listed'.getD j false = true → listed'.getD j' false = true → B j = B j' → j = j' := by
      intro v ρ' I' os w' hfr rest' hsub
      have hl : ∀ j ∈ rest', listed'.getD j false = true → listed.getD j false = true := fun j hj h => ((hget j).1 h).resolve_right (hsub j hj).2
      exact ⟨B, fun j hj hlj => (hB j (hsub j hj).1 (hl j hj hlj)).keep hfr (pendput v j (hsub j hj).2), fun j j' hj hj' h1 h2 e => hBi j j' (hsub j hj).1 (hsub j' hj').1 (hl j hj h1) (hl j' hj' h2) e⟩
    have tmK : ∀ (v : Value) (ρ' : Pl) (I' : Im) (rest' : List Nat), (∀ j ∈ rest, j ≠ i → j ∈ rest') → ρ.le ρ' → I.le I' → ∀ t, o.dst ≠ some t → (∃ j o, l[j]? = some o ∧ o.dst = some t ∧ ((¬ listed'.getD j false = true ∧ effAt l E j = false) ∨ (j ∈ rest' ∧ listed'.getD j false = true))) ∨ rep ρ' I' (s.get t) ((a.put o.dst v).tmps.getD t undef) := by
      intro v ρ' I' rest' hsub h3 h4 t ht
      rw [tmput _ _ ht]
      rcases hD.tm t with ⟨j, oj, hj, hdj, hn | hn⟩ | h
      · refine .inl ⟨j, oj, hj, hdj, .inl ⟨fun h => ?_, hn.2⟩⟩
        rcases (hget j).1 h with h | h
        · exact hn.1 h
        · subst h; rw [ho'] at hj; cases hj; exact ht hdj
      · refine .inl ⟨j, oj, hj, hdj, .inr ⟨hsub j hn.1 (fun e => ?_), (hget j).2 (.inl hn.2)⟩⟩
        subst e; rw [ho'] at hj; cases hj; exact ht hdj
      · exact .inr (rep_mono h3 h4 _ _ h)
    have loc : Fr ρ I s.objs w ρ I s.objs w := Fr.refl ρ I s.objs w
    rcases hcase with hid | ⟨r, hr, he⟩
    · -- one that has been read ahead
      have hnr : ∀ j ∈ rest, j ≠ i := fun j hj e => by
        subst e
        have := pw_append (a := done) (b := rest) (by rw [hp]; exact hF.pw) j hid j hj
        simp [pairOk, Nat.beq_refl] at this
      obtain ⟨o2, d, ho2, hv, hk, _⟩ := hI.known i hid (by simp [hni])
      rw [ho'] at ho2; cases ho2
      have next : ∀ v w' ρ' I', Sat ρ' I' s.objs w' → Fr ρ I s.objs w ρ' I' s.objs w' → ρ.le ρ' → I.le I' → rep ρ' I' d v → wpAny P .any l.toArray Q fuel listed' (a.put o.dst v) w' := by
        intro v w' ρ' I' h1 h2 h3 h4 h5
        refine on done rest acc s ρ' I' _ w' hp ⟨fun j hj he => (hget j).2 (.inl (hI.eff j hj he)), fun j hj hn => hI.known j hj (fun h => hn ((hget j).2 (.inl h)))⟩ h ⟨h1, hD.fr.comp h2, fun t => ?_, dfput v, szput v, keepP v ρ' I' s.objs w' h2 rest (fun j hj => ⟨hj, hnr j hj⟩)⟩
        by_cases ht : o.dst = some t
        · right
          rw [hv t ht, tmself v t ht]
          exact h5
        · exact tmK v ρ' I' rest (fun j hj _ => hj) h3 h4 t ht
      rcases hk with ⟨hg, hq, hk⟩ | ⟨hg, rfl⟩
      · rw [hwant true hg, if_pos rfl]
        left
        have := hsame (fun d' os' => d' = d ∧ os' = s.objs) s.objs (hk _ ⟨rfl, rfl⟩)
        unfold Oper.wp
        have hcase := vcOp_run (P := P) (Γ := ⟨ρ, I, s.objs, w⟩) (os := s.objs) hτ (hC _) hD.sat loc hR0.tm o this
        rcases hcase with ⟨v, w', hrun, d', os', ρ', I', h1, h2, h3, h4, h5, rfl, rfl⟩ | ⟨n, vs, hrun, hcalls⟩
        · rcases hrun with hrun | ⟨hrun, rfl⟩ <;> rw [hrun]
          · exact next v w' ρ' I' h1 h2 h3 h4 h5
          · exact next undef w' ρ' I' h1 h2 h3 h4 h5
        · rw [hrun]
          refine hcalls.mono fun e w' he => ?_
          obtain ⟨v, rfl, d', os', ρ', I', h1, h2, h3, h4, h5, rfl, rfl⟩ := he
          exact next v w' ρ' I' h1 h2 h3 h4 h5
      · rw [hwant false hg, if_neg (by simp)]
        exact next undef w ρ I hD.sat loc (Pl.le_refl _) (Im.le_refl _) rep_undef
    · -- the one that acts
      subst hr
      have her : i ∉ r := nodup_perm hF hp
      have hnq : (quietOp o.op && !E.contains i) = false := by
        unfold effAt at he; rw [ho'] at he; simpa only [Bool.not_eq_true'] using he
      have next : ∀ (d : D) (os : Objs) v w' ρ' I', Sat ρ' I' os w' → Fr ρ I s.objs w ρ' I' os w' → ρ.le ρ' → I.le I' → rep ρ' I' d v →
          (∀ j d' oj, (j, d') ∈ acc → j ∉ ancAt A i → l[j]? = some oj → vcOp τ C s.get os oj.op (fun d'' _ => d'' = d')) ∨ os = s.objs → drw τ C l A E K r acc (s.put o.dst d os) → wpAny P .any l.toArray Q fuel listed' (a.put o.dst v) w' := by
        intro d os v w' ρ' I' h1 h2 h3 h4 h5 hre hdr
        have hInv := Inv.act (lst' := fun j => listed'.getD j false = true) hF hp hI ho' (fun j h => (hget j).2 (.inl h)) ((hget i).2 (.inr rfl)) (fun j h => (hget j).1 h) hdir hanc d os hre
        refine on (done ++ [i]) r acc _ ρ' I' _ w' (by rw [← hp]; simp) hInv hdr ⟨by rw [objs_put]; exact h1, by rw [objs_put]; exact hD.fr.comp h2, fun t => ?_, dfput v, szput v, by rw [objs_put]; exact keepP v ρ' I' os w' h2 r (fun j hj => ⟨by simp [hj], fun e => her (by rw [← e]; exact hj)⟩)⟩
        by_cases ht : o.dst = some t
        · right
          rw [ht, get_put_self, ← ht, tmself v t ht]
          exact h5
        · rw [get_put_ne ht]
          exact tmK v ρ' I' r (fun j hj hji => (List.mem_cons.1 hj).resolve_left hji) h3 h4 t ht
      simp only [drw, ho', St.opn_eq, St.putK_eq] at h
      rcases guarded_out h with ⟨hg, h⟩ | ⟨hg, h⟩
      · rw [hwant true hg, if_pos rfl]
        left
        rw [hnq] at h
        simp only [cond_false] at h
        have := hsame _ s.objs h
        have hcase := vcOp_run (P := P) (Γ := ⟨ρ, I, s.objs, w⟩) (os := s.objs) hτ (hC _) hD.sat loc hR0.tm o this
        unfold Oper.wp
        rcases hcase with ⟨v, w', hrun, d', os', ρ', I', h1, h2, h3, h4, h5, h6⟩ | ⟨n, vs, hrun, hcalls⟩
        · obtain ⟨k1, k2⟩ := recheck_out h6
          rcases hrun with hrun | ⟨hrun, rfl⟩ <;> rw [hrun]
          · exact next d' os' _ w' ρ' I' h1 h2 h3 h4 h5 (.inl k2) k1
          · exact next d' os' _ w' ρ' I' h1 h2 h3 h4 h5 (.inl k2) k1
        · rw [hrun]
          refine hcalls.mono fun e w' he => ?_
          obtain ⟨v, rfl, d', os', ρ', I', h1, h2, h3, h4, h5, h6⟩ := he
          obtain ⟨k1, k2⟩ := recheck_out h6
          exact next d' os' v w' ρ' I' h1 h2 h3 h4 h5 (.inl k2) k1
      · rw [hwant false hg, if_neg (by simp)]
        exact next _ s.objs undef w ρ I hD.sat loc (Pl.le_refl _) (Im.le_refl _) rep_undef (.inr rfl) h
end

/-! ### The order in which a region is read -/
def closGo : List Oper → List (List Nat) → List (List Nat)
  | [], acc => acc
  | o :: l, acc => closGo l (acc ++ [(dirs o ++ (dirs o).flatMap (fun j => acc.getD j [])).foldl (fun s j => bif s.contains j then s else s ++ [j]) []])
/-- Of those that are left: the first one that only reads and whose elders have come; else the first one whose elders have come. -/
def pick1 (l : List Oper) (came : List Nat) : List Nat → Option Nat
  | [] => none
  | i :: r => bif !effAt l [] i && (dirsAt l i).all came.contains then some i else pick1 l came r
def pick2 (l : List Oper) (came : List Nat) : List Nat → Option Nat
  | [] => none
  | i :: r => bif (dirsAt l i).all came.contains then some i else pick2 l came r
def permGo (l : List Oper) : Nat → List Nat → List Nat → List Nat
  | 0, came, _ => came
  | n + 1, came, left => match (match pick1 l came left with | some i => some i | none => pick2 l came left) with
    | some i => permGo l n (came ++ [i]) (left.filter (fun j => !Nat.beq j i))
    | none => came
def permOf (l : List Oper) : List Nat := permGo l l.length [] (List.range l.length)
def closOf (l : List Oper) : List (List Nat) := closGo l []

inductive Drw (τ : Tau) (C : CallW) (l : List Oper) (K : St → Prop) (s : St) : Prop
  | mk (E : List Nat) (perm : List Nat) (A : List (List Nat)) (hok : (drawOk l E perm A && allOk τ l) = true) (h : drw τ C l A E K perm [] s) : Drw τ C l K s
theorem Drw.auto {τ : Tau} {C : CallW} {l : List Oper} {K : St → Prop} {s : St} (hok : (drawOk l [] (permOf l) (closOf l) && allOk τ l) = true) (h : drw τ C l (closOf l) [] K (permOf l) [] s) : Drw τ C l K s := ⟨_, _, _, hok, h⟩
/-- The last operation writes what others look at ahead of it. -/
theorem Drw.late {τ : Tau} {C : CallW} {l : List Oper} {K : St → Prop} {s : St} (hok : (drawOk l [l.length - 1] (permOf l) (closOf l) && allOk τ l) = true) (h : drw τ C l (closOf l) [l.length - 1] K (permOf l) [] s) : Drw τ C l K s := ⟨_, _, _, hok, h⟩
def draws (τ : Tau) (C : CallW) : DrawW := fun _ l K s => Drw τ C l K s

theorem draws_ok {P : Program} {τ : Tau} (hτ : TauOk P τ) (hm : P.follows .mixedOrders = true) (Γ : Ctx) (N : Nat) : DrawOk P Γ N (draws τ (Call P)) := by
  intro id ops K s h hN ρ I a w hR Q hQ
  obtain ⟨E, perm, A, hok, h⟩ := h
  rw [Bool.and_eq_true] at hok
  have hF := drawOk_facts hok.1
  have hl0 : ∀ j, (Array.replicate ops.size false).getD j false = false := by
    intro j
    rcases Nat.lt_or_ge j ops.size with hj | hj
    · simp [hj]
    · simp [Nat.not_lt.2 hj]
  refine wp_region_any hm ?_
  have e : ops = ops.toList.toArray := by simp
  have hcl : ∀ j, (Array.replicate ops.size false).getD j false = true → ∀ k ∈ dirsAt ops.toList j, (Array.replicate ops.size false).getD k false = true := fun j hj => by rw [hl0] at hj; simp at hj
  have hI0 : Inv τ (Call P) ops.toList E s [] [] (fun j => (Array.replicate ops.size false).getD j false = true) := ⟨fun j hj => (by cases hj), fun j hj => (by cases hj)⟩
  have hD0 : DR τ Γ N ops.toList E (fun j => (Array.replicate ops.size false).getD j false = true) perm s ρ I a { w with drawn := w.drawn + 1 } :=
    ⟨hR.sat.heap rfl, hR.fr.heap rfl rfl rfl rfl, fun t => .inr (hR.tm t), hR.df, hR.sz, fun _ => 0, fun j _ hl => by rw [hl0] at hl; simp at hl, fun j j' _ _ hl => by rw [hl0] at hl; simp at hl⟩
  obtain ⟨done, rest, acc, s', ρ', q1, q2, q3, q4, q5⟩ := settle (C := Call P) hF hcl perm.length perm [] [] s ρ (Nat.le_refl _) rfl hI0 hD0 h
  have := drw_sound (Γ := Γ) (Q := Q) hτ (call_ok P) hF hok.2 hN hQ ops.toList.length (Array.replicate ops.size false) (by simp) (by
      refine Nat.le_trans (List.length_filter_le _ _) (by simp)) hcl done rest acc s' q1 q2 q4 ρ' I a { w with drawn := w.drawn + 1 } q3 q5
  rw [← e] at this
  simpa using this
end Go.Proofs.Ytaplihoeephbeaa.V
