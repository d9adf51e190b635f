/- From a statement's row to a contract: whatever reads as data of a type is told by a D; a row of parameters, too. -/
import Derived.Test.YtaplihoeephbeaaVC
import Derived.ChangeArms
import Derived.ChangeSlices
import Derived.ChangeShapes
import Derived.WideShapes
import Derived.SizedLaws
import Derived.Carry
import Derived.OpenShut
set_option linter.unusedVariables false
set_option linter.unusedSimpArgs false
namespace Go.Proofs.Ytaplihoeephbeaa.V
open Go Go.RowKit Go.ChangeShapes Go.WideShapes

/-- Whatever reads as data of type t is told by a D; J: what else is known of it. -/
def Opens {α : Type} (P : Program) (t : TypeId) (enc : α → D) (J : α → Prop) : Prop :=
  ∀ {H : Type} (en : TypeId × Value → H) (w : World) (base : Nat) (sp : Nat → Bool) (held : Bool) (fuel : Nat) (cs : List Value) (x : DataW H × List MemPlace),
    DataW.trod en P w base sp held fuel t cs = some x → (x.1.weights P t).all (· ≤ reachBytes) = true →
    ∃ a v, rep bot (heapIm w) (enc a) v ∧ enc a ≠ .junk ∧ v.cells.toList = cs ∧ (∀ c ∈ cs, c.oneCell' = true) ∧ J a
theorem opens_int {P : Program} {t : TypeId} (ht : P.underlying t = some (.int .i64)) : Opens P t (D.int .i64) (fun n => -9223372036854775808 ≤ n ∧ n ≤ 9223372036854775807) := fun en w base sp held fuel cs x h _ => by
  obtain ⟨n, rfl, rfl, hw⟩ := DataW.trod_int ht h
  refine ⟨n, .int .i64 n, by rw [rep], by simp, rfl, by simp [Value.oneCell'], ?_⟩
  simp [Lit.wf, IntKind.min, IntKind.max, IntKind.signed, IntKind.bits] at hw
  omega
theorem opens_bool {P : Program} {t : TypeId} (ht : P.underlying t = some .bool) : Opens P t D.bool (fun _ => True) := fun en w base sp held fuel cs x h _ => by
  obtain ⟨b, rfl, rfl⟩ := DataW.trod_bool ht h
  exact ⟨b, .bool b, by rw [rep], by simp, rfl, by simp [Value.oneCell'], trivial⟩
theorem opens_string {P : Program} {t : TypeId} (ht : P.underlying t = some .string) : Opens P t D.str (fun s => s.size ≤ maxLen) := fun en w base sp held fuel cs x h _ => by
  obtain ⟨b, rfl, rfl, hl⟩ := DataW.trod_string ht h
  exact ⟨b, .string b, by rw [rep], by simp, rfl, by simp [Value.oneCell'], hl⟩
theorem opens_imp {α : Type} {P : Program} {t : TypeId} {enc : α → D} {J J' : α → Prop} (h : Opens P t enc J) (k : ∀ a, J a → J' a) : Opens P t enc J' := fun en w base sp held fuel cs x h1 h2 => by
  obtain ⟨a, v, r⟩ := h en w base sp held fuel cs x h1 h2
  exact ⟨a, v, r.1, r.2.1, r.2.2.1, r.2.2.2.1, k a r.2.2.2.2⟩

theorem exists_list {α : Type} (n : Nat) (Q : Nat → α → Prop) (h : ∀ i, i < n → ∃ a, Q i a) : ∃ xs : List α, xs.length = n ∧ ∀ i a, xs[i]? = some a → Q i a := by
  induction n with
  | zero => exact ⟨[], rfl, fun i a hi => by simp at hi⟩
  | succ n ih =>
    obtain ⟨xs, hl, hx⟩ := ih (fun i hi => h i (by omega))
    obtain ⟨a, ha⟩ := h n (by omega)
    refine ⟨xs ++ [a], by simp [hl], fun i b hi => ?_⟩
    by_cases hlt : i < n
    · rw [List.getElem?_append_left (by omega)] at hi; exact hx i b hi
    · have hle : i = n := by
        have := (List.getElem?_eq_some_iff.1 hi).1
        simp at this; omega
      subst hle
      rw [List.getElem?_append_right (by omega), hl] at hi
      simp at hi
      exact hi ▸ ha
theorem weights_at {H : Type} {P : Program} {e : TypeId} : ∀ {l : List (DataW H)} {d : DataW H}, d ∈ l → (DataW.weightsAll P e l).all (· ≤ reachBytes) = true → (d.weights P e).all (· ≤ reachBytes) = true
  | y :: r, d, hd, h => by
    rw [DataW.weightsAll, List.all_append, Bool.and_eq_true] at h
    rcases List.mem_cons.1 hd with rfl | hd
    · exact h.1
    · exact weights_at hd h.2
theorem repL_of {ρ : Pl} {I : Im} : ∀ (ds : List D) (vs : List Value), ds.length = vs.length → (∀ (i : Nat) d v, ds[i]? = some d → vs[i]? = some v → rep ρ I d v) → repL ρ I ds vs
  | [], [], _, _ => repL_nil.2 rfl
  | [], _ :: _, h, _ => by simp at h
  | _ :: _, [], h, _ => by simp at h
  | d :: ds, v :: vs, hl, h => repL_cons.2 ⟨v, vs, rfl, h 0 d v rfl rfl, repL_of ds vs (by simpa using hl) (fun i d' v' h1 h2 => h (i + 1) d' v' (by simpa using h1) (by simpa using h2))⟩
/-- The cells of a row of values, each of sz. -/
theorem flat_get {sz : Nat} : ∀ {us : List Value}, (∀ u ∈ us, u.cells.size = sz) → ∀ {j : Nat} {c : Value}, (flat us)[j]? = some c → ∃ u, us[j / sz]? = some u ∧ u.cells.toList[j % sz]? = some c ∧ 0 < sz
  | [], _, j, c, h => by simp [flat] at h
  | u :: us, hu, j, c, h => by
    rw [flat_cons] at h
    have hs : u.cells.toList.length = sz := by simpa using hu u (by simp)
    by_cases hj : j < sz
    · rw [List.getElem?_append_left (by omega)] at h
      exact ⟨u, by rw [Nat.div_eq_of_lt hj]; rfl, by rw [Nat.mod_eq_of_lt hj]; exact h, by omega⟩
    · rw [List.getElem?_append_right (by omega), hs] at h
      obtain ⟨u', h1, h2, h3⟩ := flat_get (fun u hu' => hu u (List.mem_cons_of_mem _ hu')) h
      refine ⟨u', ?_, ?_, h3⟩
      · rw [show j / sz = (j - sz) / sz + 1 by
          rw [show j = (j - sz) + sz by omega, Nat.add_div_right _ h3]; simp]
        simpa using h1
      · rw [← h2]; congr 1
        conv => lhs; rw [show j = (j - sz) + sz by omega]
        simp
theorem prefix_of {cs l : List Value} (h : ∀ (j : Nat) c, cs[j]? = some c → l[j]? = some c) : cs <+: l := by
  have hl : cs.length ≤ l.length := by
    rcases Nat.eq_zero_or_pos cs.length with h0 | h0
    · omega
    · have := h (cs.length - 1) _ (List.getElem?_eq_getElem (by omega))
      have := (List.getElem?_eq_some_iff.1 this).1
      omega
  have : cs = l.take cs.length := by
    apply List.ext_getElem?
    intro j
    by_cases hj : j < cs.length
    · rw [List.getElem?_take, if_pos hj, h j _ (List.getElem?_eq_getElem hj), List.getElem?_eq_getElem hj]
    · rw [List.getElem?_eq_none (by omega), List.getElem?_take, if_neg hj]
  rw [this]; exact List.take_prefix _ _
theorem opens_slice {α : Type} {P : Program} {t e : TypeId} {enc : α → D} {J : α → Prop} {sz : Nat} (ht : P.underlying t = some (.slice e)) (he : Opens P e enc J) (hsz : P.cellsOf e = sz) (h0 : 0 < sz) :
    Opens P t (fun xs : List α => D.lst sz false (xs.map enc)) (fun xs => xs.length ≤ maxLen ∧ xs.length * P.bytesOf e ≤ 140737488351232 ∧ ∀ x ∈ xs, J x) := fun en w base sp held fuel cs x h hwt => by
  rcases DataW.trod_slice ht h with ⟨rfl, rfl⟩ | ⟨a, len, cap, elems, rest, n, rfl, rfl, rfl, hb, hl, hm, hlen, hel, _, _⟩
  · refine ⟨[], .slice none 0 0, ?_, by simp, rfl, by simp [Value.oneCell'], by simp [maxLen], by simp, by simp⟩
    rw [rep]
    exact ⟨none, 0, [], rfl, by simp, by simp [maxLen], by simp, repL_nil.2 rfl, by simp, .inl rfl⟩
  · rw [DataW.weights, ht] at hwt
    simp only [List.all_cons, List.all_append, Bool.and_eq_true, decide_eq_true_eq, List.length_map] at hwt
    obtain ⟨hw0, hw1, _⟩ := hwt
    obtain ⟨xs, hxl, hx⟩ := exists_list len (fun i (p : α × Value) => rep bot (heapIm w) (enc p.1) p.2 ∧ Value.fine p.2 sz ∧ J p.1 ∧ ∀ k c, p.2.cells.toList[k]? = some c → w.cell? (a.add (i * sz + k)) = some c) (fun i hi => by
      have hE := hel i hi
      have hi2 : i < elems.length := by omega
      rw [List.getElem?_eq_getElem hi2, Option.bind_eq_some_iff] at hE
      obtain ⟨c, hc, hy⟩ := hE
      obtain ⟨p, v, h1, h2, h3, h4, h5⟩ := he en w base sp held n c _ hy (weights_at (l := elems.map (·.1)) (List.mem_map.2 ⟨_, List.getElem_mem hi2, rfl⟩) hw1)
      obtain ⟨_, hcl, hcc⟩ := World.cells?_some hc
      rw [hsz] at hcl hcc
      refine ⟨(p, v), h1, ⟨by simpa [← h3] using hcl, fun c hc => h4 c (by rw [← h3]; exact hc)⟩, h5, fun k u hk => ?_⟩
      rw [h3] at hk
      have hkl : k < sz := by have := (List.getElem?_eq_some_iff.1 hk).1; omega
      have := (hcc k hkl).trans hk
      rw [← this]
      congr 1
      unfold Addr.add
      by_cases hm : i * sz = 0 <;> by_cases hn : k = 0 <;> simp [hm, hn, Nat.add_assoc])
    have hfine : ∀ u ∈ xs.map (·.2), Value.fine u sz := by
      intro u hu
      obtain ⟨p, hp, rfl⟩ := List.mem_map.1 hu
      obtain ⟨j, hj⟩ := List.getElem?_of_mem hp
      exact (hx j p hj).2.1
    refine ⟨xs.map (·.1), .slice (some a) len cap, ?_, by simp, rfl, by simp [Value.oneCell'], ?_, ?_, ?_⟩
    · rw [rep]
      refine ⟨some a, cap, xs.map (·.2), by simp [hxl], by simpa [hxl] using hl, hm, by simp, repL_of _ _ (by simp) ?_, hfine, ?_⟩
      · intro i d v h1 h2
        rw [List.map_map, List.getElem?_map, Option.map_eq_some_iff] at h1
        rw [List.getElem?_map, Option.map_eq_some_iff] at h2
        obtain ⟨p, hp, rfl⟩ := h1
        obtain ⟨q, hq, rfl⟩ := h2
        have : p = q := Option.some.inj (hp.symm.trans hq)
        subst this
        exact (hx i p hp).1
      · rcases Nat.eq_zero_or_pos len with hz | hz
        · left; rw [List.eq_nil_of_length_eq_zero (l := xs) (by omega)]; rfl
        · right
          have hcell : ∀ j c, (flat (xs.map (·.2)))[j]? = some c → w.cell? (a.add j) = some c := by
            intro j c hj
            obtain ⟨u, h1, h2, h3⟩ := flat_get (fun u hu => (hfine u hu).1) hj
            rw [List.getElem?_map, Option.map_eq_some_iff] at h1
            obtain ⟨p, hp, rfl⟩ := h1
            have := (hx _ p hp).2.2.2 _ c h2
            rwa [Nat.mul_comm, Nat.div_add_mod] at this
          have hfl : (flat (xs.map (·.2))).length = len * sz := by rw [flat_length (fun u hu => (hfine u hu).1)]; simp [hxl]
          have h00 := hcell 0 _ (List.getElem?_eq_getElem (by rw [hfl]; exact Nat.mul_pos hz h0))
          have ha0 : a.add 0 = a := by simp [Addr.add]
          rw [ha0] at h00
          obtain ⟨b, o, spt⟩ := a
          unfold World.cell? at h00
          split at h00
          case h_2 => simp at h00
          rename_i arr t' fz hblk
          have hsp : spt = none := by cases spt with | none => rfl | some k => simp at h00
          subst hsp
          refine ⟨b, o, arr, t', fz, rfl, hblk, prefix_of fun j c hj => ?_⟩
          have := hcell j c hj
          have ea : Addr.add ⟨b, o, none⟩ j = ⟨b, o + j, none⟩ := by unfold Addr.add; by_cases hj0 : j = 0 <;> simp [hj0]
          rw [ea] at this
          unfold World.cell? at this
          have hblk' : w.heap[b]? = some (.cells arr t' fz) := hblk
          rw [hblk'] at this
          simp at this
          rw [List.getElem?_drop, Array.getElem?_toList]; exact this
    · have hmm : maxLen = 9223372036854775807 := by decide
      simp only [List.length_map, hxl]; omega
    · have hle : (xs.map (·.1)).length ≤ elems.length + rest.length := by simp [hxl]; omega
      refine Nat.le_trans (Nat.mul_le_mul_right _ hle) (Nat.le_trans hw0 ?_)
      decide
    · intro p hp
      obtain ⟨q, hq, rfl⟩ := List.mem_map.1 hp
      obtain ⟨j, hj⟩ := List.getElem?_of_mem hq
      exact (hx j q hj).2.2.1

/-- The fields of a struct, one behind the other. -/
def Fits {H : Type} (en : TypeId × Value → H) (P : Program) (w : World) (base : Nat) (sp : Nat → Bool) (held : Bool) (fuel : Nat) : List TypeId → List Value → List (DataW H × List MemPlace) → Prop
  | [], cs, ys => cs = [] ∧ ys = []
  | t :: ts, cs, ys => ∃ y ys', ys = y :: ys' ∧ P.cellsOf t ≤ cs.length ∧ DataW.trod en P w base sp held fuel t (cs.take (P.cellsOf t)) = some y ∧ Fits en P w base sp held fuel ts (cs.drop (P.cellsOf t)) ys'
def OpensL {α : Type} (P : Program) (ts : List TypeId) (enc : α → List D) (J : α → Prop) : Prop :=
  ∀ {H : Type} (en : TypeId × Value → H) (w : World) (base : Nat) (sp : Nat → Bool) (held : Bool) (fuel : Nat) (cs : List Value) (ys : List (DataW H × List MemPlace)),
    Fits en P w base sp held fuel ts cs ys → (DataW.weightsEach P ts (ys.map (·.1))).all (· ≤ reachBytes) = true → ∃ a, repL bot (heapIm w) (enc a) cs ∧ (∀ c ∈ cs, c.oneCell' = true) ∧ J a
theorem opensL_one {α : Type} {P : Program} {t : TypeId} {enc : α → D} {J : α → Prop} (h : Opens P t enc J) : OpensL P [t] (fun a => (enc a).cells) J := fun en w base sp held fuel cs ys hf hw => by
  obtain ⟨y, ys', rfl, hle, hy, h0, rfl⟩ := hf
  have he : cs.take (P.cellsOf t) = cs := by
    apply List.take_of_length_le
    have := congrArg List.length h0
    simp at this; omega
  rw [he] at hy
  obtain ⟨a, v, h1, h2, h3, h4, h5⟩ := h en w base sp held fuel cs y hy (by simpa [DataW.weightsEach] using hw)
  exact ⟨a, by rw [← h3]; exact rep_cells h2 h1, h4, h5⟩
theorem opensL_cons {α β : Type} {P : Program} {t : TypeId} {ts : List TypeId} {enc : α → D} {enc' : β → List D} {J : α → Prop} {J' : β → Prop} (h : Opens P t enc J) (h' : OpensL P ts enc' J') :
    OpensL P (t :: ts) (fun x : α × β => (enc x.1).cells ++ enc' x.2) (fun x => J x.1 ∧ J' x.2) := fun en w base sp held fuel cs ys hf hw => by
  obtain ⟨y, ys', rfl, hle, hy, hr⟩ := hf
  simp only [List.map_cons, DataW.weightsEach, List.all_append, Bool.and_eq_true] at hw
  obtain ⟨a, v, h1, h2, h3, h4, h5⟩ := h en w base sp held fuel _ _ hy hw.1
  obtain ⟨b, k1, k2, k3⟩ := h' en w base sp held fuel _ _ hr hw.2
  refine ⟨(a, b), ?_, ?_, h5, k3⟩
  · rw [← List.take_append_drop (P.cellsOf t) cs]
    exact repL_append (by rw [← h3]; exact rep_cells h2 h1) k1
  · intro c hc
    rw [← List.take_append_drop (P.cellsOf t) cs] at hc
    exact (List.mem_append.1 hc).elim (h4 c) (k2 c)
/-- The fields lie one behind the other, from o on. -/
def rowed (P : Program) : Nat → List Field → Nat → Bool
  | o, [], n => o == n
  | o, f :: fs, n => f.offset == o && rowed P (o + P.cellsOf f.type) fs n
theorem rowed_le {P : Program} {n : Nat} : ∀ (gs : List Field) (o : Nat), rowed P o gs n = true → o ≤ n
  | [], o, h => by simp only [rowed, beq_iff_eq] at h; omega
  | g :: gs, o, h => by simp only [rowed, Bool.and_eq_true, beq_iff_eq] at h; have := rowed_le gs _ h.2; omega
theorem fits_of {H : Type} {en : TypeId × Value → H} {P : Program} {w : World} {base : Nat} {sp : Nat → Bool} {held : Bool} {fuel : Nat} {n : Nat} : ∀ (fs : List Field) (o : Nat) (cs0 cs : List Value) (ys : List (DataW H × List MemPlace)),
    rowed P o fs n = true → cs0.length = n → cs = cs0.drop o → ys.length = fs.length → (∀ (i : Nat) (f : Field), fs[i]? = some f → DataW.trod en P w base sp held fuel f.type ((cs0.drop f.offset).take (P.cellsOf f.type)) = ys[i]?) → Fits en P w base sp held fuel (fs.map (·.type)) cs ys
  | [], o, cs0, cs, ys, hr, hn, hc, hl, _ => by
    simp only [rowed, beq_iff_eq] at hr
    refine ⟨?_, List.length_eq_zero_iff.1 hl⟩
    rw [hc, hr, ← hn, List.drop_length]
  | f :: fs, o, cs0, cs, ys, hr, hn, hc, hl, h => by
    simp only [rowed, Bool.and_eq_true, beq_iff_eq] at hr
    obtain ⟨ho, hr⟩ := hr
    cases ys with
    | nil => simp at hl
    | cons y ys =>
      have h0 := h 0 f rfl
      simp only [List.getElem?_cons_zero] at h0
      have hle1 := rowed_le fs _ hr
      refine ⟨y, ys, rfl, ?_, ?_, fits_of fs (o + P.cellsOf f.type) cs0 _ ys hr hn ?_ (by simpa using hl) (fun i g hg => by simpa using h (i + 1) g (by simpa using hg))⟩
      · show P.cellsOf f.type ≤ cs.length
        rw [hc, List.length_drop]; omega
      · rw [hc, ← ho]; exact h0
      · rw [hc, List.drop_drop]
theorem opens_struct {α : Type} {P : Program} {t : TypeId} {fs : Array Field} {enc : α → List D} {J : α → Prop} (ht : P.underlying t = some (.struct fs)) (hr : rowed P 0 fs.toList (P.cellsOf t) = true) (h : OpensL P (fs.toList.map (·.type)) enc J) :
    Opens P t (fun a => .agg (enc a)) J := fun en w base sp held fuel cs x hx hw => by
  obtain ⟨xs, n, rfl, rfl, hl, hlen, hf⟩ := DataW.trod_struct ht hx
  obtain ⟨a, h1, h2, h3⟩ := h en w base sp held n cs xs (fits_of fs.toList 0 cs cs xs hr hl (by simp) (by simpa using hlen) (fun i f hi => hf i f (by simpa using hi))) (by rw [DataW.weights, ht] at hw; exact hw)
  exact ⟨a, .agg cs.toArray, by rw [rep]; exact ⟨_, rfl, by simpa using h1⟩, by simp, by simp [Value.cells], h2, h3⟩
theorem opens_iso {α β : Type} {P : Program} {t : TypeId} {enc : α → D} {enc' : β → D} {J : α → Prop} {J' : β → Prop} (h : Opens P t enc J) (g : α → β) (he : ∀ a, enc' (g a) = enc a) (hJ : ∀ a, J a → J' (g a)) : Opens P t enc' J' := fun en w base sp held fuel cs x hx hw => by
  obtain ⟨a, v, h1, h2, h3, h4, h5⟩ := h en w base sp held fuel cs x hx hw
  exact ⟨g a, v, by rw [he]; exact h1, by rw [he]; exact h2, h3, h4, hJ a h5⟩

/-! ### A row of parameters -/
def OpensA {α : Type} (P : Program) (ts : List TypeId) (enc : α → List D) (J : α → Prop) : Prop :=
  ∀ {H : Type} (en : TypeId × Value → H) (w : World) (base : Nat) (sp : Nat → Bool) (held : Bool) (r : Reach) (b0 : Nat) (args : List Value) (ds : List (DataW H)) (ps : List MemPlace),
    DataW.TrodAll en P w base sp held ts args ds ps → (∀ (j : Nat) t v, ts[j]? = some t → args[j]? = some v → Value.okWide P w r b0 t v) → (DataW.weightsEach P ts ds).all (· ≤ reachBytes) = true → ∃ a, repL bot (heapIm w) (enc a) args ∧ J a
theorem opensA_nil {P : Program} : OpensA P [] (fun _ : Unit => []) (fun _ => True) := fun en w base sp held r b0 args ds ps h _ _ => by
  obtain ⟨rfl, _⟩ := trodAll_nil h
  exact ⟨(), repL_nil.2 rfl, trivial⟩
/-- A type whose values are one kind: of one cell, or of cells in a row. -/
def kindly (P : Program) (t : TypeId) : Option Bool :=
  match P.underlying t with
  | some (.struct _) => some true
  | some (.int _) | some .bool | some (.slice _) | some .string => some false
  | _ => none
theorem okWide_kindly {P : Program} {w : World} {r : Reach} {b0 : Nat} {t : TypeId} {b : Bool} (hk : kindly P t = some b) {v u : Value} (h : Value.okWide P w r b0 t v) (hc : v.cells.toList = u.cells.toList) (hu : (∃ cs, u = .agg cs) ↔ b = true) : u = v := by
  have hc' : v.cells = u.cells := Array.ext' hc
  cases b
  · have hv : ¬ ∃ cs, v = .agg cs := by
      unfold kindly at hk
      split at hk <;> simp at hk
      · rename_i ht; obtain ⟨n, rfl⟩ := okWide_int ht h; simp
      · rename_i ht; obtain ⟨n, rfl⟩ := okWide_bool ht h; simp
      · rename_i ht; obtain ⟨a, l, c, rfl⟩ := okWide_slice ht h; simp
      · rename_i ht; obtain ⟨n, rfl⟩ := okWide_string ht h; simp
    have hu' : ¬ ∃ cs, u = .agg cs := fun h => by simpa using hu.1 h
    have e1 : ∀ x : Value, (¬ ∃ cs, x = .agg cs) → x.cells = #[x] := by
      intro x hx
      cases x <;> first | rfl | exact absurd ⟨_, rfl⟩ hx
    rw [e1 v hv, e1 u hu'] at hc'
    have := congrArg Array.toList hc'
    simpa using this.symm
  · obtain ⟨cs, rfl⟩ := hu.2 rfl
    obtain ⟨cs', rfl⟩ : ∃ cs, v = .agg cs := by
      unfold kindly at hk
      split at hk <;> simp at hk
      rename_i ht
      unfold Value.okWide at h
      rw [ht] at h
      obtain ⟨cs, hcs, _⟩ := h
      exact ⟨cs, hcs⟩
    simp only [Value.cells] at hc'
    rw [hc']
def D.isAgg : D → Bool | .agg _ => true | _ => false
theorem rep_agg {ρ : Pl} {I : Im} {d : D} {v : Value} (hj : d ≠ .junk) (h : rep ρ I d v) : (∃ cs, v = .agg cs) ↔ d.isAgg = true := by
  cases d <;> simp only [D.isAgg] <;> rw [rep] at h
  case agg cs => obtain ⟨arr, rfl, h⟩ := h; simp
  case junk => exact absurd rfl hj
  case int => subst h; simp
  case bool => subst h; simp
  case str => subst h; simp
  case nilp => subst h; simp
  case ptr => obtain ⟨p, _, _, rfl⟩ := h; simp
  case pel => obtain ⟨b, o, arr, t, fz, u, rfl, _⟩ := h; simp
  case nils => subst h; simp
  case lst => obtain ⟨A, c, us, rfl, _⟩ := h; simp
  case sl => obtain ⟨p, A, c, _, rfl, _⟩ := h; simp
  case tup => obtain ⟨arr, rfl, h⟩ := h; simp
  case fn => obtain ⟨x, y, rfl, _⟩ := h; simp
  case nilf => subst h; simp
  case mp => obtain ⟨p, _, _, rfl⟩ := h; simp
  case yl => obtain ⟨p, _, _, rfl⟩ := h; simp
theorem opensA_cons {α β : Type} {P : Program} {t : TypeId} {ts : List TypeId} {enc : α → D} {enc' : β → List D} {J : α → Prop} {J' : β → Prop} {b : Bool} (hk : kindly P t = some b) (hb : ∀ a, (enc a).isAgg = b) (h : Opens P t enc J) (h' : OpensA P ts enc' J') :
    OpensA P (t :: ts) (fun x : α × β => enc x.1 :: enc' x.2) (fun x => J x.1 ∧ J' x.2) := fun en w base sp held r b0 args ds ps hA hval hw => by
  obtain ⟨v, vs, d, ds', p, q, rfl, rfl, rfl, ⟨fuel, hf⟩, hr⟩ := trodAll_cons hA
  simp only [DataW.weightsEach, List.all_append, Bool.and_eq_true] at hw
  obtain ⟨a, u, h1, h2, h3, h4, h5⟩ := h en w base sp held fuel _ _ hf hw.1
  obtain ⟨c, k1, k2⟩ := h' en w base sp held r b0 vs ds' q hr (fun j t v ht hv => hval (j + 1) t v (by simpa using ht) (by simpa using hv)) hw.2
  have : u = v := okWide_kindly hk (hval 0 t v rfl rfl) h3.symm (by rw [rep_agg h2 h1, hb])
  subst this
  exact ⟨(a, c), repL_cons.2 ⟨_, _, rfl, h1, k1⟩, h5, k2⟩

/-! ### Behind the call -/
theorem trodAll_below {H : Type} {en : TypeId × Value → H} {P : Program} (hl : laidOutB P = true) {W W' : World} (hb : Below W.heap.size W W') : ∀ {ts : List TypeId} {vs : List Value} {ds : List (DataW H)} {ps : List MemPlace},
    (ts.all fun t => P.readableRec t && decide (t < P.types.size)) = true → DataW.TrodAll en P W 0 (fun _ => true) true ts vs ds ps → DataW.TrodAll en P W' 0 (fun b => decide (b < W.heap.size)) true ts vs ds ps
  | [], [], [], _, _, h => h
  | t :: ts, v :: vs, d :: ds, ps, ht, h => by
    simp only [List.all_cons, Bool.and_eq_true, decide_eq_true_eq] at ht
    obtain ⟨p, q, h1, h2, e⟩ := h
    have lt : ∀ x ∈ p, x.block < W.heap.size := by obtain ⟨m, hm⟩ := h1; exact DataW.trod_lt m _ _ _ hm
    exact ⟨p, q, Below.trod hl ht.1.1 ht.1.2 h1 hb lt, trodAll_below hl hb (by simpa using ht.2) h2, e⟩
  | [], _ :: _, _, _, _, h | [], [], _ :: _, _, _, h | _ :: _, [], _, _, _, h | _ :: _, _ :: _, [], _, _, h => h.elim
end Go.Proofs.Ytaplihoeephbeaa.V
