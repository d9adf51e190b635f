/- VDraw2: a text of a symbolic executor that is proved sound, and contracts that are proved with it. -/
import Derived.Test.YtaplihoeephbeaaVDraw
namespace Go.Proofs.Ytaplihoeephbeaa.V
open Go Go.RowKit
set_option linter.unusedVariables false

def dirs (o : Oper) : List Nat := (o.after.toList.filter (Region.binds .any)).map (·.on)
def effAt (l : List Oper) (i : Nat) : Bool := match l[i]? with | some o => !quietOp o.op | none => false
def dirsAt (l : List Oper) (i : Nat) : List Nat := match l[i]? with | some o => dirs o | none => []
def ancAt (A : List (List Nat)) (i : Nat) : List Nat := A.getD i []
def pairOk (l : List Oper) (A : List (List Nat)) (i j : Nat) : Bool := (!effAt l i || (ancAt A j).contains i) && (!(dirsAt l i).contains j && !Nat.beq i j)
def pw (r : Nat → Nat → Bool) : List Nat → Bool
  | [] => true
  | i :: is => is.all (r i) && pw r is
def drawOk (l : List Oper) (perm : List Nat) (A : List (List Nat)) : Bool :=
  (List.range l.length).all (fun i => perm.contains i && ((dirsAt l i).all (fun j => Nat.blt j i) &&
    ((ancAt A i).all (fun j => (dirsAt l i).contains j || (dirsAt l i).any (fun k => (ancAt A k).contains j)) &&
    match l[i]? with
    | none => false
    | some o => (Oper.looksAt l.toArray o).all (fun t => (List.range l.length).all (fun j => match l[j]? with
        | some o' => !(o'.dst == some t) || (dirs o).contains j
        | none => true)) &&
      match o.dst with
      | none => true
      | some t => (List.range l.length).all (fun j => Nat.beq j i || match l[j]? with
        | some o' => !(o'.dst == some t)
        | none => true)))) &&
  (perm.all (fun i => Nat.blt i l.length) && pw (pairOk l A) perm)

theorem pw_append {r : Nat → Nat → Bool} : ∀ {a b : List Nat}, pw r (a ++ b) = true → (∀ i ∈ a, ∀ j ∈ b, r i j = true)
  | [], b, _ => by simp
  | x :: a, b, h => by
    simp only [List.cons_append, pw, Bool.and_eq_true, List.all_eq_true] at h
    intro i hi j hj
    rcases List.mem_cons.1 hi with rfl | hi
    · exact h.1 j (by simp [hj])
    · exact pw_append h.2 i hi j hj

structure DrawFacts (l : List Oper) (perm : List Nat) (A : List (List Nat)) : Prop where
  all : ∀ i, i < l.length → i ∈ perm
  lt : ∀ i ∈ perm, i < l.length
  down : ∀ i, i < l.length → ∀ j ∈ dirsAt l i, j < i
  anc : ∀ i, i < l.length → ∀ j ∈ ancAt A i, j ∈ dirsAt l i ∨ ∃ k ∈ dirsAt l i, j ∈ ancAt A k
  looks : ∀ (i : Nat) (o : Oper), l[i]? = some o → ∀ t ∈ Oper.looksAt l.toArray o, ∀ (j : Nat) (o' : Oper), l[j]? = some o' → o'.dst = some t → j ∈ dirs o
  dst : ∀ (i : Nat) (o : Oper) (t : Nat), l[i]? = some o → o.dst = some t → ∀ (j : Nat) (o' : Oper), l[j]? = some o' → o'.dst = some t → j = i
  pw : pw (pairOk l A) perm = true
theorem drawOk_facts {l : List Oper} {perm : List Nat} {A : List (List Nat)} (h : drawOk l perm A = true) : DrawFacts l perm A := by
  simp only [drawOk, Bool.and_eq_true, List.all_eq_true, List.mem_range] at h
  obtain ⟨h1, h2, h3⟩ := h
  have hl : ∀ {i : Nat} {o : Oper}, l[i]? = some o → i < l.length := fun hi => (List.getElem?_eq_some_iff.1 hi).1
  refine ⟨fun i hi => by simpa using (h1 i hi).1, fun i hi => Nat.le_of_ble_eq_true (h2 i hi), fun i hi j hj => Nat.le_of_ble_eq_true ((h1 i hi).2.1 j hj), fun i hi j hj => ?_, ?_, ?_, h3⟩
  · have := (h1 i hi).2.2.1 j hj
    simp only [Bool.or_eq_true, List.any_eq_true, List.contains_iff_mem] at this
    rcases this with h | ⟨k, hk, h⟩
    · exact .inl h
    · exact .inr ⟨k, hk, h⟩
  · intro i o hi t ht j o' hj hd
    have := (h1 i (hl hi)).2.2.2
    rw [hi] at this
    simp only [Bool.and_eq_true, List.all_eq_true, List.mem_range] at this
    have := this.1 t ht j (hl hj)
    rw [hj] at this
    simp only [hd, beq_self_eq_true, Bool.not_true, Bool.false_or, List.contains_iff_mem] at this
    exact this
  · intro i o t hi hd j o' hj hd'
    have := (h1 i (hl hi)).2.2.2
    rw [hi] at this
    simp only [Bool.and_eq_true] at this
    have := this.2
    rw [hd] at this
    simp only [List.all_eq_true, List.mem_range] at this
    have := this j (hl hj)
    rw [hj] at this
    simp only [hd', beq_self_eq_true, Bool.not_true, Bool.or_false] at this
    exact Nat.eq_of_beq_eq_true this

def gd (l : List Oper) (s : St) (o : Oper) : Option Bool :=
  match o.guard with
  | none => some true
  | some (g, want) => match (l[g]?).bind (·.dst) with
    | none => none
    | some t => match s.get t with
      | .bool b => some (b == want)
      | .tup [] => some false
      | _ => none
def guarded (l : List Oper) (s : St) (o : Oper) (X Y : Prop) : Prop :=
  match o.guard with
  | none => X
  | some (g, want) => match (l[g]?).bind (·.dst) with
    | none => False
    | some t => match s.get t with
      | .bool b => bif want then Br b X Y else Br b Y X
      | .tup [] => Y
      | _ => False
theorem guarded_out {l : List Oper} {s : St} {o : Oper} {X Y : Prop} (h : guarded l s o X Y) : (gd l s o = some true ∧ X) ∨ (gd l s o = some false ∧ Y) := by
  unfold guarded at h
  unfold gd
  split at h
  · exact .inl ⟨rfl, h⟩
  · rename_i g want hg
    split at h
    · exact h.elim
    · split at h
      · rename_i b _
        cases b <;> cases want <;> simp only [cond_true, cond_false, Br.iff, Bool.false_eq_true, if_true, if_false] at h
        · exact .inl ⟨rfl, h⟩
        · exact .inr ⟨rfl, h⟩
        · exact .inr ⟨rfl, h⟩
        · exact .inl ⟨rfl, h⟩
      · exact .inr ⟨rfl, h⟩
      · exact h.elim

/-- What has been loaded is still so. -/
def recheck (τ : Tau) (C : CallW) (l : List Oper) (anc : List Nat) (get : Nat → D) (os : Objs) (P : Prop) : List (Nat × D) → Prop
  | [] => P
  | (i, d) :: acc => bif anc.contains i then recheck τ C l anc get os P acc else
      (match l[i]? with | some o => vcOp τ C get os o.op (fun d' _ => d' = d) | none => False) ∧ recheck τ C l anc get os P acc
theorem recheck_out {τ : Tau} {C : CallW} {l : List Oper} {anc : List Nat} {get : Nat → D} {os : Objs} {P : Prop} : ∀ {acc : List (Nat × D)}, recheck τ C l anc get os P acc →
    P ∧ ∀ i d o, (i, d) ∈ acc → i ∉ anc → l[i]? = some o → vcOp τ C get os o.op (fun d' _ => d' = d)
  | [], h => ⟨h, fun _ _ _ h => by cases h⟩
  | (i, d) :: acc, h => by
    unfold recheck at h
    cases hc : anc.contains i with
    | true =>
      rw [hc] at h
      obtain ⟨h1, h2⟩ := recheck_out h
      refine ⟨h1, fun i' d' o hm hn ho => ?_⟩
      rcases List.mem_cons.1 hm with e | hm
      · cases e; exact absurd (by simpa using hc) hn
      · exact h2 i' d' o hm hn ho
    | false =>
      rw [hc] at h
      obtain ⟨h0, h⟩ := h
      obtain ⟨h1, h2⟩ := recheck_out h
      refine ⟨h1, fun i' d' o hm hn ho => ?_⟩
      rcases List.mem_cons.1 hm with e | hm
      · cases e; rw [ho] at h0; exact h0
      · exact h2 i' d' o hm hn ho

def drw (τ : Tau) (C : CallW) (l : List Oper) (A : List (List Nat)) (K : St → Prop) : List Nat → List (Nat × D) → St → Prop
  | [], _, s => K s
  | i :: rest, acc, s => match l[i]? with
    | none => False
    | some o => guarded l s o
        (s.opn fun g ob => vcOp τ C g ob o.op (fun d os => bif quietOp o.op then s.putK o.dst d ob (drw τ C l A K rest (bif isLoad o.op then (i, d) :: acc else acc))
          else recheck τ C l (ancAt A i) g os (s.putK o.dst d os (drw τ C l A K rest acc)) acc))
        (s.opn fun _ ob => s.putK o.dst (.tup []) ob (drw τ C l A K rest acc))

theorem get_put_ne {s : St} {dst : Option Nat} {d : D} {os : Objs} {t : Nat} (h : dst ≠ some t) : (s.put dst d os).get t = s.get t := by
  cases dst with
  | none => rfl
  | some u =>
    have hne : u ≠ t := fun e => h (by rw [e])
    simp only [St.get, St.put, look]
    cases hb : Nat.beq u t with
    | true => exact absurd (Nat.eq_of_beq_eq_true hb) hne
    | false => rfl
theorem get_put_self {s : St} {t : Nat} {d : D} {os : Objs} : (s.put (some t) d os).get t = d := by
  simp only [St.get, St.put, look, Nat.beq_refl, cond_true]
theorem objs_put {s : St} {dst : Option Nat} {d : D} {os : Objs} : (s.put dst d os).objs = os := by cases dst <;> rfl

section
variable {P : Program} {τ : Tau} {Γ : Ctx} {C : CallW} {N : Nat} {l : List Oper} {perm : List Nat} {A : List (List Nat)}

theorem looks_operand {o : Oper} {t : Nat} (h : Operand.tmp t ∈ o.op.operands) : t ∈ Oper.looksAt l.toArray o :=
  List.mem_append_left _ (List.mem_filterMap.2 ⟨.tmp t, by simpa using h, rfl⟩)
theorem looks_guard {o : Oper} {g : Nat} {want : Bool} {t : Nat} (h : o.guard = some (g, want)) (ht : (l[g]?).bind (·.dst) = some t) : t ∈ Oper.looksAt l.toArray o := by
  refine List.mem_append_right _ ?_
  rw [h]
  simpa using ht
/-- An operation that does not look at what is put. -/
theorem op_put {s : St} {o : Oper} {dst : Option Nat} {d : D} {os os' : Objs} (h : ∀ t, dst = some t → t ∉ Oper.looksAt l.toArray o) (K : D → Objs → Prop) : vcOp τ C (s.put dst d os).get os' o.op K ↔ vcOp τ C s.get os' o.op K := by
  refine vcOp_congr (fun x hx => ?_) K
  cases x with
  | tmp t => exact get_put_ne fun e => h t e (looks_operand hx)
  | _ => rfl
theorem gd_put {s : St} {o : Oper} {dst : Option Nat} {d : D} {os : Objs} (h : ∀ t, dst = some t → t ∉ Oper.looksAt l.toArray o) : gd l (s.put dst d os) o = gd l s o := by
  unfold gd
  cases hg : o.guard with
  | none => rfl
  | some gw =>
    obtain ⟨g, want⟩ := gw
    dsimp only
    cases ht : (l[g]?).bind (·.dst) with
    | none => rfl
    | some t =>
      dsimp only
      rw [get_put_ne fun e => h t e (looks_guard hg ht)]

/-- What an operation that has not come up yet will come to. -/
def Known (τ : Tau) (C : CallW) (l : List Oper) (s : St) (o : Oper) (d : D) : Prop :=
  (gd l s o = some true ∧ quietOp o.op = true ∧ ∀ K : D → Objs → Prop, K d s.objs → vcOp τ C s.get s.objs o.op K) ∨ (gd l s o = some false ∧ d = .tup [])

structure Inv (τ : Tau) (C : CallW) (l : List Oper) (s : St) (done : List Nat) (acc : List (Nat × D)) (lst : Nat → Prop) : Prop where
  sub : ∀ j, lst j → j ∈ done
  eff : ∀ j ∈ done, effAt l j = true → lst j
  known : ∀ j ∈ done, ¬ lst j → ∃ o d, l[j]? = some o ∧ (∀ t, o.dst = some t → s.get t = d) ∧ Known τ C l s o d ∧ (isLoad o.op = true → gd l s o = some true → (j, d) ∈ acc)

/-- The readers that come next are taken as read. -/
theorem Inv.norm (hF : DrawFacts l perm A) {K : St → Prop} {lst : Nat → Prop} : ∀ (rest done : List Nat) (acc : List (Nat × D)) (s : St), done ++ rest = perm → Inv τ C l s done acc lst → (∀ j ∈ rest, ¬ lst j) → drw τ C l A K rest acc s →
    ∃ done' rest' acc' s', done' ++ rest' = perm ∧ Inv τ C l s' done' acc' lst ∧ (∀ j ∈ rest', ¬ lst j) ∧ drw τ C l A K rest' acc' s' ∧ s'.objs = s.objs ∧
      (∀ t, s'.get t = s.get t ∨ ∃ j o, l[j]? = some o ∧ o.dst = some t ∧ ¬ lst j) ∧ (rest' = [] ∨ ∃ e r, rest' = e :: r ∧ effAt l e = true)
  | [], done, acc, s, hp, hI, hr, h => ⟨done, [], acc, s, hp, hI, hr, h, rfl, fun _ => .inl rfl, .inl rfl⟩
  | i :: rest, done, acc, s, hp, hI, hr, h => by
    cases he : effAt l i with
    | true => exact ⟨done, i :: rest, acc, s, hp, hI, hr, h, rfl, fun _ => .inl rfl, .inr ⟨i, rest, rfl, he⟩⟩
    | false =>
      have hil : i < l.length := hF.lt i (by rw [← hp]; simp)
      have hio : l[i]? = some l[i] := List.getElem?_eq_getElem hil
      generalize l[i] = o at hio
      have hq : quietOp o.op = true := by
        unfold effAt at he; rw [hio] at he; simpa using he
      have hni : ¬ lst i := hr i (by simp)
      have hpw := pw_append (a := done) (b := i :: rest) (by rw [hp]; exact hF.pw)
      -- what is put now is looked at by nobody of those that are done
      have apart : ∀ j o', j ∈ done → l[j]? = some o' → ∀ t, o.dst = some t → t ∉ Oper.looksAt l.toArray o' := by
        intro j o' hj ho' t ht hm
        have h1 := hF.looks j o' ho' t hm i o hio ht
        have h2 := hpw j hj i (by simp)
        simp only [pairOk, Bool.and_eq_true] at h2
        have h3 := h2.2.1
        simp only [dirsAt, ho'] at h3
        simp [h1] at h3
      have apart_self : ∀ t, o.dst = some t → t ∉ Oper.looksAt l.toArray o := by
        intro t ht hm
        have h1 := hF.looks i o hio t hm i o hio ht
        have h2 := hF.down i hil i (by simp only [dirsAt, hio]; exact h1)
        omega
      have keep : ∀ (d : D) (acc' : List (Nat × D)), (∀ x ∈ acc, x ∈ acc') → Known τ C l s o d → (isLoad o.op = true → gd l s o = some true → (i, d) ∈ acc') → Inv τ C l (s.put o.dst d s.objs) (done ++ [i]) acc' lst := by
        intro d acc' hac hk hl
        refine ⟨fun j hj => by simp [hI.sub j hj], fun j hj hej => ?_, fun j hj hnj => ?_⟩
        · rcases List.mem_append.1 hj with hj | hj
          · exact hI.eff j hj hej
          · simp at hj; subst hj; rw [he] at hej; simp at hej
        · rcases List.mem_append.1 hj with hjd | hj
          · obtain ⟨o', d', ho', hv, hk', hl'⟩ := hI.known j hjd hnj
            refine ⟨o', d', ho', fun t ht => ?_, ?_, fun h1 h2 => ?_⟩
            · rw [get_put_ne (fun e => ?_)]
              · exact hv t ht
              · have := hF.dst i o t hio e j o' ho' ht
                subst this
                have h2 := hpw j hjd j (by simp)
                simp [pairOk, Nat.beq_refl] at h2
            · rcases hk' with ⟨g1, g2, g3⟩ | ⟨g1, g2⟩
              · refine .inl ⟨by rw [gd_put (apart j o' hjd ho')]; exact g1, g2, fun K hK => ?_⟩
                rw [objs_put] at hK ⊢
                exact (op_put (apart j o' hjd ho') K).2 (g3 K hK)
              · exact .inr ⟨by rw [gd_put (apart j o' hjd ho')]; exact g1, g2⟩
            · rw [gd_put (apart j o' hjd ho')] at h2
              exact hac _ (hl' h1 h2)
          · simp at hj; subst hj
            refine ⟨o, d, hio, fun t ht => by rw [ht]; exact get_put_self, ?_, fun h1 h2 => ?_⟩
            · rcases hk with ⟨g1, g2, g3⟩ | ⟨g1, g2⟩
              · refine .inl ⟨by rw [gd_put apart_self]; exact g1, g2, fun K hK => ?_⟩
                rw [objs_put] at hK ⊢
                exact (op_put apart_self K).2 (g3 K hK)
              · exact .inr ⟨by rw [gd_put apart_self]; exact g1, g2⟩
            · rw [gd_put apart_self] at h2
              exact hl h1 h2
      have go : ∀ (d : D) (acc' : List (Nat × D)), (∀ x ∈ acc, x ∈ acc') → Known τ C l s o d → (isLoad o.op = true → gd l s o = some true → (i, d) ∈ acc') → drw τ C l A K rest acc' (s.put o.dst d s.objs) → _ := fun d acc' hac hk hl hd =>
        Inv.norm hF rest (done ++ [i]) acc' (s.put o.dst d s.objs) (by rw [← hp]; simp) (keep d acc' hac hk hl) (fun j hj => hr j (by simp [hj])) hd
      have fin : ∀ d, (∃ done' rest' acc' s', done' ++ rest' = perm ∧ Inv τ C l s' done' acc' lst ∧ (∀ j ∈ rest', ¬ lst j) ∧ drw τ C l A K rest' acc' s' ∧ s'.objs = (s.put o.dst d s.objs).objs ∧
          (∀ t, s'.get t = (s.put o.dst d s.objs).get t ∨ ∃ j o, l[j]? = some o ∧ o.dst = some t ∧ ¬ lst j) ∧ (rest' = [] ∨ ∃ e r, rest' = e :: r ∧ effAt l e = true)) →
          ∃ done' rest' acc' s', done' ++ rest' = perm ∧ Inv τ C l s' done' acc' lst ∧ (∀ j ∈ rest', ¬ lst j) ∧ drw τ C l A K rest' acc' s' ∧ s'.objs = s.objs ∧
          (∀ t, s'.get t = s.get t ∨ ∃ j o, l[j]? = some o ∧ o.dst = some t ∧ ¬ lst j) ∧ (rest' = [] ∨ ∃ e r, rest' = e :: r ∧ effAt l e = true) := by
        rintro d ⟨done', rest', acc', s', h1, h2, h3, h4, h5, h6, h7⟩
        refine ⟨done', rest', acc', s', h1, h2, h3, h4, by rw [h5, objs_put], fun t => ?_, h7⟩
        rcases h6 t with h6 | h6
        · by_cases ht : o.dst = some t
          · exact .inr ⟨i, o, hio, ht, hni⟩
          · exact .inl (by rw [h6, get_put_ne ht])
        · exact .inr h6
      simp only [drw, hio, St.opn_eq, St.putK_eq] at h
      rcases guarded_out h with ⟨hg, h⟩ | ⟨hg, h⟩
      · obtain ⟨d, h1, h2⟩ := vcOp_quiet hq h
        rw [hq] at h1
        simp only [cond_true] at h1
        cases hld : isLoad o.op with
        | true =>
          rw [hld] at h1
          exact fin d (go d ((i, d) :: acc) (fun x hx => by simp [hx]) (.inl ⟨hg, hq, h2⟩) (fun _ _ => by simp) h1)
        | false =>
          rw [hld] at h1
          exact fin d (go d acc (fun x hx => hx) (.inl ⟨hg, hq, h2⟩) (fun h _ => by simp [hld] at h) h1)
      · exact fin _ (go _ acc (fun x hx => hx) (.inr ⟨hg, rfl⟩) (fun _ h => by rw [hg] at h; simp at h) h)

/-- Whoever waits for an operation waits for all for which that one waits. -/
theorem anc_listed (hF : DrawFacts l perm A) {lst : Nat → Prop} (hclosed : ∀ j, lst j → ∀ k ∈ dirsAt l j, lst k) : ∀ (n i : Nat), i ≤ n → i < l.length → (∀ k ∈ dirsAt l i, lst k) → ∀ j ∈ ancAt A i, lst j := by
  intro n
  induction n with
  | zero =>
    intro i hi hl hd j hj
    rcases hF.anc i hl j hj with h | ⟨k, hk, _⟩
    · exact hd j h
    · have := hF.down i hl k hk; omega
  | succ n ih =>
    intro i hi hl hd j hj
    rcases hF.anc i hl j hj with h | ⟨k, hk, hjk⟩
    · exact hd j h
    · have := hF.down i hl k hk
      exact ih k (by omega) (by omega) (hclosed k (hd k hk)) j hjk

theorem look_map_mem (g : Nat → D) : ∀ (ts : List Nat) (t : Nat), t ∈ ts → look (ts.map (fun t => (t, g t))) t = g t
  | [], t, h => by cases h
  | u :: ts, t, h => by
    simp only [List.map_cons, look]
    cases hb : Nat.beq u t with
    | true => rw [Nat.eq_of_beq_eq_true hb]; rfl
    | false =>
      simp only [cond_false]
      rcases List.mem_cons.1 h with e | h
      · subst e; rw [Nat.beq_refl] at hb; simp at hb
      · exact look_map_mem g ts t h
theorem look_map (g : Nat → D) : ∀ (ts : List Nat) (t : Nat), (t ∈ ts ∧ look (ts.map (fun t => (t, g t))) t = g t) ∨ look (ts.map (fun t => (t, g t))) t = .junk
  | [], t => .inr rfl
  | u :: ts, t => by
    simp only [List.map_cons, look]
    cases hb : Nat.beq u t with
    | true => left; have := Nat.eq_of_beq_eq_true hb; subst this; exact ⟨by simp, rfl⟩
    | false =>
      simp only [cond_false]
      rcases look_map g ts t with ⟨h1, h2⟩ | h
      · exact .inl ⟨by simp [h1], h2⟩
      · exact .inr h
structure DR (Γ : Ctx) (N : Nat) (l : List Oper) (lst : Nat → Prop) (s : St) (ρ : Pl) (I : Im) (a : Act) (w : World) : Prop where
  sat : Sat ρ I s.objs w
  fr : Γ.Fr ρ I s.objs w
  tm : ∀ t, (∃ j o, l[j]? = some o ∧ o.dst = some t ∧ ¬ lst j) ∨ rep ρ I (s.get t) (a.tmps.getD t undef)
  df : a.defers = []
  sz : a.tmps.size = N

theorem unlisted_lt {listed : Array Bool} {j : Nat} (h : listed.getD j true = false) : j < listed.size ∧ listed.getD j false = false := by
  rcases Nat.lt_or_ge j listed.size with hl | hl
  · simp [hl] at h ⊢; exact h
  · simp [hl] at h

theorem drw_sound (hτ : TauOk P τ) (hC : CallOk P Γ C) (hF : DrawFacts l perm A) (hN : dstsOk N l = true) {K : St → Prop} {Q : Exit → Act → World → Prop} (hQ : ∀ s ρ I a w, R Γ N s ρ I a w → K s → Q .normal a w) :
    ∀ (fuel : Nat) (listed : Array Bool), listed.size = l.length → (∀ j, j < l.length → listed.getD j false = true ∨ True) →
      ((List.range l.length).filter (fun j => !listed.getD j false)).length ≤ fuel →
      (∀ j, listed.getD j false = true → ∀ k ∈ dirsAt l j, listed.getD k false = true) →
      ∀ (done rest : List Nat) (acc : List (Nat × D)) (s : St), done ++ rest = perm → Inv τ C l s done acc (fun j => listed.getD j false = true) → (∀ j ∈ rest, ¬ listed.getD j false = true) →
      drw τ C l A K rest acc s → (rest = [] ∨ ∃ e r, rest = e :: r ∧ effAt l e = true) → ∀ (ρ : Pl) (I : Im) (a : Act) (w : World), DR Γ N l (fun j => listed.getD j false = true) s ρ I a w →
      wpAny P .any l.toArray Q fuel listed a w := by
  have hdN : ∀ (i : Nat) (o : Oper), l[i]? = some o → ∀ t, o.dst = some t → t < N := by
    intro i o hi t ht
    have := List.all_eq_true.1 hN o (List.mem_of_getElem? hi)
    rw [ht] at this
    exact Nat.le_of_ble_eq_true this
  -- where nothing is ready all is listed
  have ended : ∀ (listed : Array Bool), listed.size = l.length → Region.ready .any l.toArray listed = [] → ∀ n j, j ≤ n → j < l.length → listed.getD j false = true := by
    intro listed hsz hr n
    induction n with
    | zero =>
      intro j hj hl
      cases hb : listed.getD j false with
      | true => rfl
      | false =>
        have : j ∈ Region.ready .any l.toArray listed := by
          refine mem_ready.2 ⟨by simp [hsz, hl] at hb ⊢; exact hb, l[j], by simp [hl], fun e he hbd => ?_⟩
          have hm : e.on ∈ dirsAt l j := by
            simp only [dirsAt, List.getElem?_eq_getElem hl, dirs]
            exact List.mem_map.2 ⟨e, List.mem_filter.2 ⟨by simpa using he, hbd⟩, rfl⟩
          have := hF.down j hl _ hm; omega
        rw [hr] at this; cases this
    | succ n ih =>
      intro j hj hl
      cases hb : listed.getD j false with
      | true => rfl
      | false =>
        have : j ∈ Region.ready .any l.toArray listed := by
          refine mem_ready.2 ⟨by simp [hsz, hl] at hb ⊢; exact hb, l[j], by simp [hl], fun e he hbd => ?_⟩
          have hm : e.on ∈ dirsAt l j := by
            simp only [dirsAt, List.getElem?_eq_getElem hl, dirs]
            exact List.mem_map.2 ⟨e, List.mem_filter.2 ⟨by simpa using he, hbd⟩, rfl⟩
          have := hF.down j hl _ hm
          exact ih e.on (by omega) (by omega)
        rw [hr] at this; cases this
  have final : ∀ (listed : Array Bool), (∀ j, j < l.length → listed.getD j false = true) → ∀ (done rest : List Nat) (acc : List (Nat × D)) (s : St), done ++ rest = perm → (∀ j ∈ rest, ¬ listed.getD j false = true) → drw τ C l A K rest acc s →
      ∀ ρ I a w, DR Γ N l (fun j => listed.getD j false = true) s ρ I a w → Q .normal a w := by
    intro listed hall done rest acc s hp hr h ρ I a w hD
    cases rest with
    | cons i rest => exact absurd (hall i (hF.lt i (by rw [← hp]; simp))) (hr i (by simp))
    | nil =>
      refine hQ s ρ I a w ⟨hD.sat, hD.fr, fun t => ?_, hD.df, hD.sz⟩ h
      rcases hD.tm t with ⟨j, o, hj, _, hn⟩ | h
      · exact absurd (hall j (List.getElem?_eq_some_iff.1 hj).1) hn
      · exact h
  intro fuel
  induction fuel with
  | zero =>
    intro listed hsz _ hcount hclosed done rest acc s hp hI hr h hhead ρ I a w hD
    have hall : ∀ j, j < l.length → listed.getD j false = true := by
      intro j hj
      cases hb : listed.getD j false with
      | true => rfl
      | false =>
        have hm : j ∈ (List.range l.length).filter (fun j => !listed.getD j false) := List.mem_filter.2 ⟨List.mem_range.2 hj, by simp [hb]⟩
        have := List.length_pos_of_mem hm
        omega
    refine ⟨?_, final listed hall done rest acc s hp hr h ρ I a w hD⟩
    rw [List.eq_nil_iff_forall_not_mem]
    intro j hj
    obtain ⟨h1, h2⟩ := unlisted_lt (mem_ready.1 hj).1
    rw [hall j (by omega)] at h2; simp at h2
  | succ fuel ih =>
    intro listed hsz _ hcount hclosed done rest acc s hp hI hr h hhead ρ I a w hD
    refine ⟨fun h0 => final listed (fun j hj => ended listed hsz h0 j j (Nat.le_refl _) hj) done rest acc s hp hr h ρ I a w hD, fun i hi => ?_⟩
    obtain ⟨hun, o, ho, hdeps⟩ := mem_ready.1 hi
    obtain ⟨hil, hni⟩ := unlisted_lt hun
    have ho' : l[i]? = some o := by simpa using ho
    have hdir : ∀ k ∈ dirsAt l i, listed.getD k false = true := by
      intro k hk
      simp only [dirsAt, ho', dirs] at hk
      obtain ⟨e, he, rfl⟩ := List.mem_map.1 hk
      obtain ⟨he1, he2⟩ := List.mem_filter.1 he
      exact hdeps e (by simpa using he1) he2
    have hanc := anc_listed hF (lst := fun j => listed.getD j false = true) hclosed i i (Nat.le_refl _) (by omega) hdir
    -- what the operation looks at
    have hlook : ∀ t ∈ Oper.looksAt l.toArray o, rep ρ I (s.get t) (a.tmps.getD t undef) := by
      intro t ht
      rcases hD.tm t with ⟨j, oj, hj, hdj, hn⟩ | h
      · have := hF.looks i o ho' t ht j oj hj hdj
        exact absurd (hdir j (by simp only [dirsAt, ho']; exact this)) hn
      · exact h
    obtain ⟨s0, hs0⟩ : ∃ s0 : St, s0 = { m := (Oper.looksAt l.toArray o).map (fun t => (t, s.get t)), objs := s.objs } := ⟨_, rfl⟩
    have hR0 : R Γ N s0 ρ I a w := by
      subst hs0
      refine ⟨hD.sat, hD.fr, fun t => ?_, hD.df, hD.sz⟩
      rcases look_map s.get (Oper.looksAt l.toArray o) t with ⟨h1, h2⟩ | h1
      · show rep ρ I (look ((Oper.looksAt l.toArray o).map (fun t => (t, s.get t))) t) _
        rw [h2]; exact hlook t h1
      · show rep ρ I (look ((Oper.looksAt l.toArray o).map (fun t => (t, s.get t))) t) _
        rw [h1]; rw [rep]; trivial
    have hsame : ∀ (K : D → Objs → Prop) (os : Objs), vcOp τ C s.get os o.op K → vcOp τ C s0.get os o.op K := by
      intro K os hk
      refine (vcOp_congr (fun x hx => ?_) K).1 hk
      cases x with
      | tmp t =>
        subst hs0
        simp only [evalO]
        exact (look_map_mem s.get _ t (looks_operand hx)).symm
      | _ => rfl
    have hwant : ∀ b, gd l s o = some b → Region.wanted o (yielded l.toArray a.tmps) = b := by
      intro b hb
      unfold gd at hb
      cases hg : o.guard with
      | none => rw [hg] at hb; simp at hb; subst hb; simp [Region.wanted, hg]
      | some gw =>
        obtain ⟨g, want⟩ := gw
        rw [hg] at hb
        dsimp only at hb
        cases ht : (l[g]?).bind (·.dst) with
        | none => rw [ht] at hb; simp at hb
        | some t =>
          rw [ht] at hb
          dsimp only at hb
          have htm := hlook t (looks_guard hg ht)
          have ht' : (l.toArray[g]?).bind (·.dst) = some t := by simpa using ht
          split at hb
          · rename_i c hc
            rw [hc] at htm
            have hv := rep_bool htm
            have hy : yielded l.toArray a.tmps g = some c := by
              unfold yielded
              rw [ht']
              simp only [Option.bind_some]
              rw [Array.getD_eq_getD_getElem?] at hv
              cases hq : a.tmps[t]? with
              | none => rw [hq] at hv; simp [undef] at hv
              | some u => rw [hq] at hv; simp at hv; subst hv; rfl
            simp at hb
            subst hb
            simp [Region.wanted, hg, hy]
          · rename_i hc
            rw [hc] at htm
            have hv : a.tmps.getD t undef = .tuple #[] := by
              rw [rep] at htm
              obtain ⟨arr, e, hr⟩ := htm
              rw [repL_nil] at hr
              have : arr = #[] := Array.ext' (by simpa using hr)
              rw [e, this]
            have hy : yielded l.toArray a.tmps g = none := by
              unfold yielded
              rw [ht']
              simp only [Option.bind_some]
              rw [Array.getD_eq_getD_getElem?] at hv
              cases hq : a.tmps[t]? with
              | none => rfl
              | some u => rw [hq] at hv; simp at hv; subst hv; rfl
            simp at hb
            subst hb
            simp [Region.wanted, hg, hy]
          · simp at hb
    -- the numbers behind
    obtain ⟨listed', hl'⟩ : ∃ x, x = listed.setIfInBounds i true := ⟨_, rfl⟩
    have hsz' : listed'.size = l.length := by rw [hl']; simp [hsz]
    have hget : ∀ j, listed'.getD j false = true ↔ listed.getD j false = true ∨ j = i := by
      intro j
      rw [hl']
      by_cases hji : i = j
      · subst hji; simp [hil]
      · rw [getD_set_ne false hji]; constructor
        · exact .inl
        · rintro (h | h)
          · exact h
          · exact absurd h.symm hji
    have hclosed' : ∀ j, listed'.getD j false = true → ∀ k ∈ dirsAt l j, listed'.getD k false = true := by
      intro j hj k hk
      rcases (hget j).1 hj with h | h
      · exact (hget k).2 (.inl (hclosed j h k hk))
      · subst h; exact (hget k).2 (.inl (hdir k hk))
    have hcount' : ((List.range l.length).filter (fun j => !listed'.getD j false)).length ≤ fuel := by
      have hsub : ((List.range l.length).filter (fun j => !listed'.getD j false)).length < ((List.range l.length).filter (fun j => !listed.getD j false)).length := by
        have e : (List.range l.length).filter (fun j => !listed'.getD j false) = ((List.range l.length).filter (fun j => !listed.getD j false)).filter (fun j => !Nat.beq j i) := by
          rw [List.filter_filter]
          congr 1
          funext j
          cases h1 : listed'.getD j false with
          | true =>
            rcases (hget j).1 h1 with h | h
            · simp [h]
            · subst h; simp [Nat.beq_refl]
          | false =>
            have h2 : listed.getD j false = false := by
              cases h3 : listed.getD j false with
              | false => rfl
              | true => rw [(hget j).2 (.inl h3)] at h1; simp at h1
            have h3 : Nat.beq j i = false := by
              cases h4 : Nat.beq j i with
              | false => rfl
              | true => rw [(hget j).2 (.inr (Nat.eq_of_beq_eq_true h4))] at h1; simp at h1
            simp [h2, h3]
        rw [e]
        have hm : i ∈ (List.range l.length).filter (fun j => !listed.getD j false) := List.mem_filter.2 ⟨List.mem_range.2 (by omega), by simp [hni]⟩
        refine Nat.lt_of_le_of_ne (List.length_filter_le _ _) (fun he => ?_)
        have := List.length_filter_eq_length_iff.1 he i hm
        simp [Nat.beq_refl] at this
      omega
    have hdd : i ∈ done ∨ i ∈ rest := by
      have := hF.all i (by omega)
      rw [← hp] at this
      exact List.mem_append.1 this
    rw [← hl']
    unfold wpOp
    rw [ho]
    dsimp only
    rcases hdd with hid | hir
    · -- one that has been read ahead
      obtain ⟨o2, d, ho2, hv, hk, _⟩ := hI.known i hid (by simp [hni])
      rw [ho'] at ho2; cases ho2
      have next : ∀ a' w' ρ' I', Sat ρ' I' s.objs w' → Γ.Fr ρ' I' s.objs w' → ρ.le ρ' → I.le I' → (∃ v, a' = a.put o.dst v ∧ rep ρ' I' d v) → wpAny P .any l.toArray Q fuel listed' a' w' := by
        rintro a' w' ρ' I' h1 h2 h3 h4 ⟨v, rfl, h5⟩
        refine ih listed' hsz' (fun _ _ => .inr trivial) hcount' hclosed' done rest acc s hp ⟨fun j hj => ?_, fun j hj he => (hget j).2 (.inl (hI.eff j hj he)), fun j hj hn => hI.known j hj (fun h => hn ((hget j).2 (.inl h)))⟩ (fun j hj hn => ?_) h hhead ρ' I' _ w' ⟨h1, h2, fun t => ?_, by cases o.dst <;> exact hD.df, ?_⟩
        · rcases (hget j).1 hj with h | h
          · exact hI.sub j h
          · subst h; exact hid
        · rcases (hget j).1 hn with h | h
          · exact hr j hj h
          · subst h
            have := pw_append (a := done) (b := rest) (by rw [hp]; exact hF.pw) j hid j hj
            simp [pairOk, Nat.beq_refl] at this
        · by_cases ht : o.dst = some t
          · right
            rw [hv t ht, ht]
            simp only [Act.put]
            rw [Array.getD_eq_getD_getElem?, Array.getElem?_setIfInBounds_self_of_lt (by rw [hD.sz]; exact hdN i o ho' t ht)]
            exact h5
          · rcases hD.tm t with ⟨j, oj, hj, hdj, hn⟩ | h
            · left
              refine ⟨j, oj, hj, hdj, fun h => ?_⟩
              rcases (hget j).1 h with h | h
              · exact hn h
              · subst h; rw [ho'] at hj; cases hj; exact ht hdj
            · right
              have e : (a.put o.dst v).tmps.getD t undef = a.tmps.getD t undef := by
                cases hd' : o.dst with
                | none => rfl
                | some u => simp only [Act.put]; rw [Array.getD_eq_getD_getElem?, Array.getElem?_setIfInBounds_ne (fun e => ht (by rw [hd', e])), ← Array.getD_eq_getD_getElem?]
              rw [e]
              exact rep_mono h3 h4 _ _ h
        · cases hd' : o.dst <;> simp [Act.put, hD.sz]
      rcases hk with ⟨hg, hq, hk⟩ | ⟨hg, rfl⟩
      · rw [hwant true hg, if_pos rfl]
        left
        have := hsame (fun d' os' => d' = d ∧ os' = s.objs) s.objs (hk _ ⟨rfl, rfl⟩)
        unfold Oper.wp
        have hcase := vcOp_run (P := P) (Γ := Γ) (os := s.objs) hτ hC hD.sat hD.fr hR0.tm o this
        rcases hcase with ⟨v, w', hrun, d', os', ρ', I', h1, h2, h3, h4, h5, rfl, rfl⟩ | ⟨n, vs, hrun, hcalls⟩
        · rcases hrun with hrun | ⟨hrun, rfl⟩ <;> rw [hrun]
          · exact next _ w' ρ' I' h1 h2 h3 h4 ⟨v, rfl, h5⟩
          · exact next _ w' ρ' I' h1 h2 h3 h4 ⟨undef, rfl, h5⟩
        · rw [hrun]
          refine hcalls.mono fun e w' he => ?_
          obtain ⟨v, rfl, d', os', ρ', I', h1, h2, h3, h4, h5, rfl, rfl⟩ := he
          exact next _ w' ρ' I' h1 h2 h3 h4 ⟨v, rfl, h5⟩
      · rw [hwant false hg, if_neg (by simp)]
        exact next _ w ρ I hD.sat hD.fr (Pl.le_refl _) (Im.le_refl _) ⟨undef, rfl, rep_undef⟩
    · -- the one that acts
      rcases hhead with hhead | ⟨e, r, hhead, he⟩
      · subst hhead; cases hir
      · subst hhead
        have hie : i = e := by
          rcases List.mem_cons.1 hir with h | h
          · exact h
          · exfalso
            have h1 : pw (pairOk l A) (e :: r) = true := by
              have := hF.pw
              rw [← hp] at this
              clear hp hI
              induction done with
              | nil => exact this
              | cons x done ihd => simp only [List.cons_append, pw, Bool.and_eq_true] at this; exact ihd (this.2)
            simp only [pw, Bool.and_eq_true, List.all_eq_true] at h1
            have h2 := h1.1 i h
            simp only [pairOk, he, Bool.not_true, Bool.false_or, Bool.and_eq_true] at h2
            exact hr e (by simp) (hanc e (by simpa using h2.1))
        subst hie
        have hpw := pw_append (a := done) (b := i :: r) (by rw [hp]; exact hF.pw)
        have hnq : quietOp o.op = false := by
          unfold effAt at he; rw [ho'] at he; simpa using he
        have apart : ∀ j o', j ∈ done → l[j]? = some o' → ∀ t, o.dst = some t → t ∉ Oper.looksAt l.toArray o' := by
          intro j oj hj hoj t ht hm
          have h1 := hF.looks j oj hoj t hm i o ho' ht
          have h2 := hpw j hj i (by simp)
          simp only [pairOk, Bool.and_eq_true] at h2
          have h3 := h2.2.1
          simp only [dirsAt, hoj] at h3
          simp [h1] at h3
        -- what comes behind it
        have next : ∀ (d : D) (os : Objs) a' w' ρ' I', Sat ρ' I' os w' → Γ.Fr ρ' I' os w' → ρ.le ρ' → I.le I' → (∃ v, a' = a.put o.dst v ∧ rep ρ' I' d v) →
            (∀ j d' oj, (j, d') ∈ acc → j ∉ ancAt A i → l[j]? = some oj → vcOp τ C s.get os oj.op (fun d'' _ => d'' = d')) ∨ os = s.objs → drw τ C l A K r acc (s.put o.dst d os) → wpAny P .any l.toArray Q fuel listed' a' w' := by
          rintro d os a' w' ρ' I' h1 h2 h3 h4 ⟨v, rfl, h5⟩ hre hdr
          have hInv : Inv τ C l (s.put o.dst d os) (done ++ [i]) acc (fun j => listed'.getD j false = true) := by
            refine ⟨fun j hj => ?_, fun j hj hej => ?_, fun j hj hn => ?_⟩
            · rcases (hget j).1 hj with h | h
              · simp [hI.sub j h]
              · subst h; simp
            · rcases List.mem_append.1 hj with hj | hj
              · exact (hget j).2 (.inl (hI.eff j hj hej))
              · simp at hj; exact (hget j).2 (.inr hj)
            · rcases List.mem_append.1 hj with hjd | hj
              · have hnl : ¬ listed.getD j false = true := fun h => hn ((hget j).2 (.inl h))
                obtain ⟨oj, dj, hoj, hv, hk, hac⟩ := hI.known j hjd hnl
                refine ⟨oj, dj, hoj, fun t ht => ?_, ?_, fun q1 q2 => ?_⟩
                · rw [get_put_ne (fun e => ?_)]
                  · exact hv t ht
                  · have := hF.dst i o t ho' e j oj hoj ht
                    subst this
                    have h2 := hpw j hjd j (by simp)
                    simp [pairOk, Nat.beq_refl] at h2
                · rcases hk with ⟨g1, g2, g3⟩ | ⟨g1, g2⟩
                  · refine .inl ⟨by rw [gd_put (apart j oj hjd hoj)]; exact g1, g2, ?_⟩
                    intro K' hK'
                    rw [objs_put] at hK' ⊢
                    refine (op_put (apart j oj hjd hoj) K').2 ?_
                    rcases hre with hre | rfl
                    · cases hpu : pureOp oj.op with
                      | true =>
                        refine (vcOp_pure hpu K').2 ?_
                        exact (vcOp_pure hpu (fun d'' _ => K' d'' os)).1 (g3 (fun d'' _ => K' d'' os) hK')
                      | false =>
                        have hld : isLoad oj.op = true := by
                          unfold quietOp at g2; rw [hpu] at g2; simpa using g2
                        have hmem := hac hld g1
                        have hna : j ∉ ancAt A i := fun hm => hnl (hanc j hm)
                        obtain ⟨d'', e1, e2⟩ := vcOp_quiet g2 (hre j dj oj hmem hna hoj)
                        subst e1
                        exact e2 K' hK'
                    · exact g3 K' hK'
                  · exact .inr ⟨by rw [gd_put (apart j oj hjd hoj)]; exact g1, g2⟩
                · rw [gd_put (apart j oj hjd hoj)] at q2
                  exact hac q1 q2
              · simp at hj; exact absurd ((hget j).2 (.inr hj)) hn
          obtain ⟨done2, rest2, acc2, s2, q1, q2, q3, q4, q5, q6, q7⟩ := Inv.norm hF (lst := fun j => listed'.getD j false = true) r (done ++ [i]) acc (s.put o.dst d os) (by rw [← hp]; simp) hInv (fun j hj hn => by
            rcases (hget j).1 hn with h | h
            · exact hr j (by simp [hj]) h
            · subst h
              have hpp := hF.pw
              rw [← hp] at hpp
              have := pw_append (a := done ++ [j]) (b := r) (by rw [List.append_assoc]; exact hpp) j (by simp) j hj
              simp [pairOk, Nat.beq_refl] at this) hdr
          rw [objs_put] at q5
          refine ih listed' hsz' (fun _ _ => .inr trivial) hcount' hclosed' done2 rest2 acc2 s2 q1 q2 q3 q4 q7 ρ' I' _ w' ⟨by rw [q5]; exact h1, by rw [q5]; exact h2, fun t => ?_, by cases o.dst <;> exact hD.df, ?_⟩
          · rcases q6 t with q6 | q6
            · rw [q6]
              by_cases ht : o.dst = some t
              · right
                rw [ht, get_put_self]
                simp only [Act.put]
                rw [Array.getD_eq_getD_getElem?, Array.getElem?_setIfInBounds_self_of_lt (by rw [hD.sz]; exact hdN i o ho' t ht)]
                exact h5
              · rw [get_put_ne ht]
                rcases hD.tm t with ⟨j, oj, hj, hdj, hn⟩ | h
                · left
                  refine ⟨j, oj, hj, hdj, fun h => ?_⟩
                  rcases (hget j).1 h with h | h
                  · exact hn h
                  · subst h; rw [ho'] at hj; cases hj; exact ht hdj
                · right
                  have e : (a.put o.dst v).tmps.getD t undef = a.tmps.getD t undef := by
                    cases hd' : o.dst with
                    | none => rfl
                    | some u => simp only [Act.put]; rw [Array.getD_eq_getD_getElem?, Array.getElem?_setIfInBounds_ne (fun e => ht (by rw [hd', e])), ← Array.getD_eq_getD_getElem?]
                  rw [e]
                  exact rep_mono h3 h4 _ _ h
            · exact .inl q6
          · cases hd' : o.dst <;> simp [Act.put, hD.sz]
        simp only [drw, ho', St.opn_eq, St.putK_eq] at h
        rcases guarded_out h with ⟨hg, h⟩ | ⟨hg, h⟩
        · rw [hwant true hg, if_pos rfl]
          left
          rw [hnq] at h
          simp only [cond_false] at h
          have := hsame _ s.objs h
          have hcase := vcOp_run (P := P) (Γ := Γ) (os := s.objs) hτ hC hD.sat hD.fr hR0.tm o this
          unfold Oper.wp
          rcases hcase with ⟨v, w', hrun, d', os', ρ', I', h1, h2, h3, h4, h5, h6⟩ | ⟨n, vs, hrun, hcalls⟩
          · obtain ⟨k1, k2⟩ := recheck_out h6
            rcases hrun with hrun | ⟨hrun, rfl⟩ <;> rw [hrun]
            · exact next d' os' _ w' ρ' I' h1 h2 h3 h4 ⟨v, rfl, h5⟩ (.inl k2) k1
            · exact next d' os' _ w' ρ' I' h1 h2 h3 h4 ⟨undef, rfl, h5⟩ (.inl k2) k1
          · rw [hrun]
            refine hcalls.mono fun e w' he => ?_
            obtain ⟨v, rfl, d', os', ρ', I', h1, h2, h3, h4, h5, h6⟩ := he
            obtain ⟨k1, k2⟩ := recheck_out h6
            exact next d' os' _ w' ρ' I' h1 h2 h3 h4 ⟨v, rfl, h5⟩ (.inl k2) k1
        · rw [hwant false hg, if_neg (by simp)]
          exact next _ s.objs _ w ρ I hD.sat hD.fr (Pl.le_refl _) (Im.le_refl _) ⟨undef, rfl, rep_undef⟩ (.inr rfl) h
end

/-! ### The order in which a region is read -/
def closGo : List Oper → List (List Nat) → List (List Nat)
  | [], acc => acc
  | o :: l, acc => closGo l (acc ++ [(dirs o ++ (dirs o).flatMap (fun j => acc.getD j [])).foldl (fun s j => bif s.contains j then s else s ++ [j]) []])
/-- Of those that are left: the first one that only reads and whose elders have come; else the first one whose elders have come. -/
def pick1 (l : List Oper) (came : List Nat) : List Nat → Option Nat
  | [] => none
  | i :: r => bif !effAt l i && (dirsAt l i).all came.contains then some i else pick1 l came r
def pick2 (l : List Oper) (came : List Nat) : List Nat → Option Nat
  | [] => none
  | i :: r => bif (dirsAt l i).all came.contains then some i else pick2 l came r
def permGo (l : List Oper) : Nat → List Nat → List Nat → List Nat
  | 0, came, _ => came
  | n + 1, came, left => match (match pick1 l came left with | some i => some i | none => pick2 l came left) with
    | some i => permGo l n (came ++ [i]) (left.filter (fun j => !Nat.beq j i))
    | none => came
def permOf (l : List Oper) : List Nat := permGo l l.length [] (List.range l.length)
def closOf (l : List Oper) : List (List Nat) := closGo l []

inductive Drw (τ : Tau) (C : CallW) (l : List Oper) (K : St → Prop) (s : St) : Prop
  | mk (perm : List Nat) (A : List (List Nat)) (hok : drawOk l perm A = true) (h : drw τ C l A K perm [] s) : Drw τ C l K s
theorem Drw.auto {τ : Tau} {C : CallW} {l : List Oper} {K : St → Prop} {s : St} (hok : drawOk l (permOf l) (closOf l) = true) (h : drw τ C l (closOf l) K (permOf l) [] s) : Drw τ C l K s := ⟨_, _, hok, h⟩
def draws (τ : Tau) (C : CallW) : DrawW := fun _ l K s => Drw τ C l K s

theorem draws_ok {P : Program} {τ : Tau} (hτ : TauOk P τ) (hm : P.follows .mixedOrders = true) (Γ : Ctx) (N : Nat) : DrawOk P Γ N (draws τ (Call P)) := by
  intro id ops K s h hN ρ I a w hR Q hQ
  obtain ⟨perm, A, hok, h⟩ := h
  have hF := drawOk_facts hok
  have hl0 : ∀ j, (Array.replicate ops.size false).getD j false = false := by
    intro j
    rcases Nat.lt_or_ge j ops.size with hj | hj
    · simp [hj]
    · simp [Nat.not_lt.2 hj]
  refine wp_region_any hm ?_
  have e : ops = ops.toList.toArray := by simp
  obtain ⟨done, rest, acc, s', h1, h2, h3, h4, h5, h6, h7⟩ := Inv.norm hF (lst := fun j => (Array.replicate ops.size false).getD j false = true) perm [] [] s rfl
    ⟨fun j hj => by rw [hl0] at hj; simp at hj, fun j hj => (by cases hj), fun j hj => (by cases hj)⟩ (fun j _ hn => by rw [hl0] at hn; simp at hn) h
  have := drw_sound (Γ := Γ) (Q := Q) hτ (call_ok P Γ) hF hN hQ ops.toList.length (Array.replicate ops.size false) (by simp) (fun _ _ => .inr trivial) (by
      refine Nat.le_trans (List.length_filter_le _ _) (by simp)) (fun j hj => by rw [hl0] at hj; simp at hj) done rest acc s' h1 h2 h3 h4 h7 ρ I a { w with drawn := w.drawn + 1 }
    ⟨by rw [h5]; exact hR.sat.heap rfl, by rw [h5]; exact hR.fr.heap rfl rfl rfl rfl, fun t => ?_, hR.df, hR.sz⟩
  · rw [← e] at this
    simpa using this
  · rcases h6 t with h6 | h6
    · right; rw [h6]; exact hR.tm t
    · exact .inl h6
end Go.Proofs.Ytaplihoeephbeaa.V
