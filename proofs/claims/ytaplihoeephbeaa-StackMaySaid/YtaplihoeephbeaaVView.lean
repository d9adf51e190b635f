/- Reading: whatever a callee only reads may be told as rows that are never written. -/
import Derived.Test.YtaplihoeephbeaaVFrame
namespace Go.Proofs.Ytaplihoeephbeaa.V
open Go Go.RowKit
set_option linter.unusedVariables false

def heapIm (w : World) : Im := fun b => w.heap[b]?
open Classical in
/-- The memory that is only read from now on: that of the objects in F, too. -/
noncomputable def frz (F : Nat → Bool) (ρ : Pl) (I : Im) (os : Objs) (w : World) : Im := fun b =>
  if ∃ i j p, F i = true ∧ os.at i j ≠ .gone ∧ ρ i j = some p ∧ 0 < p.2 ∧ p.1 = b then w.heap[b]? else I b
theorem frz_le {F : Nat → Bool} {ρ : Pl} {I : Im} {os : Objs} {w : World} (sat : Sat ρ I os w) : I.le (frz F ρ I os w) := by
  intro b o hb
  unfold frz
  split
  · rename_i h
    obtain ⟨i, j, p, _, h1, h2, h3, h4⟩ := h
    have := sat.apart b ⟨i, j, p, h1, h2, h3, h4⟩
    rw [hb] at this; simp at this
  · exact hb
theorem frz_heap {F : Nat → Bool} {ρ : Pl} {I : Im} {os : Objs} {w : World} (sat : Sat ρ I os w) : (frz F ρ I os w).le (heapIm w) := by
  intro b o hb
  unfold frz at hb
  split at hb
  · exact hb
  · exact sat.im b o hb
theorem frz_in {F : Nat → Bool} {ρ : Pl} {I : Im} {os : Objs} {w : World} {i j : Nat} {p : Nat × Nat} (h : F i = true) (h1 : os.at i j ≠ .gone) (h2 : ρ i j = some p) (h3 : 0 < p.2) : frz F ρ I os w p.1 = w.heap[p.1]? := by
  unfold frz
  rw [if_pos ⟨i, j, p, h, h1, h2, h3, rfl⟩]
def View (F : Nat → Bool) (os : Objs) (d' d : D) : Prop := ∀ ρ I w v, Sat ρ I os w → rep ρ I d' v → rep ρ (frz F ρ I os w) d v
def ViewL (F : Nat → Bool) (os : Objs) (ds' ds : List D) : Prop := ∀ ρ I w vs, Sat ρ I os w → repL ρ I ds' vs → repL ρ (frz F ρ I os w) ds vs
section
variable {F : Nat → Bool} {os : Objs}
theorem View.same (d : D) : View F os d d := fun ρ I w v sat h => rep_mono (Pl.le_refl _) (frz_le sat) d v h
theorem View.junk (d : D) : View F os d .junk := fun ρ I w v sat h => by rw [rep]; trivial
theorem ViewL.same (ds : List D) : ViewL F os ds ds := fun ρ I w v sat h => repL_mono (Pl.le_refl _) (frz_le sat) ds v h
theorem ViewL.nil : ViewL F os [] [] := ViewL.same []
theorem ViewL.cons {d d' : D} {ds ds' : List D} (h : View F os d d') (k : ViewL F os ds ds') : ViewL F os (d :: ds) (d' :: ds') := fun ρ I w vs sat hr => by
  obtain ⟨u, us, rfl, h1, h2⟩ := repL_cons.1 hr
  exact repL_cons.2 ⟨u, us, rfl, h ρ I w u sat h1, k ρ I w us sat h2⟩
theorem ViewL.append {ds ds' es es' : List D} (h : ViewL F os ds ds') (k : ViewL F os es es') : ViewL F os (ds ++ es) (ds' ++ es') := fun ρ I w vs sat hr => by
  rw [← List.take_append_drop ds.length vs]
  have hl := repL_length hr
  have h1 : repL ρ I ds (vs.take ds.length) := by have := repL_take ds.length hr; rwa [List.take_left' rfl] at this
  have h2 : repL ρ I es (vs.drop ds.length) := by have := repL_drop ds.length hr; rwa [List.drop_left' rfl] at this
  exact repL_append (h ρ I w _ sat h1) (k ρ I w _ sat h2)
theorem ViewL.map {α : Type} {f g : α → D} : ∀ (l : List α), (∀ x ∈ l, View F os (f x) (g x)) → ViewL F os (l.map f) (l.map g)
  | [], _ => ViewL.nil
  | x :: l, h => ViewL.cons (h x (by simp)) (ViewL.map l fun y hy => h y (List.mem_cons_of_mem _ hy))
theorem ViewL.of : ∀ {ds ds' : List D}, ds.length = ds'.length → (∀ (i : Nat) d d', ds[i]? = some d → ds'[i]? = some d' → View F os d d') → ViewL F os ds ds'
  | [], [], _, _ => ViewL.nil
  | [], _ :: _, h, _ => by simp at h
  | _ :: _, [], h, _ => by simp at h
  | d :: ds, d' :: ds', hl, h => ViewL.cons (h 0 d d' rfl rfl) (ViewL.of (by simpa using hl) fun i a b ha hb => h (i + 1) a b (by simpa using ha) (by simpa using hb))
theorem View.agg {cs cs' : List D} (h : ViewL F os cs cs') : View F os (.agg cs) (.agg cs') := fun ρ I w v sat hr => by
  rw [rep] at hr ⊢
  obtain ⟨a, rfl, hr⟩ := hr
  exact ⟨a, rfl, h ρ I w _ sat hr⟩
theorem View.tup {cs cs' : List D} (h : ViewL F os cs cs') : View F os (.tup cs) (.tup cs') := fun ρ I w v sat hr => by
  rw [rep] at hr ⊢
  obtain ⟨a, rfl, hr⟩ := hr
  exact ⟨a, rfl, h ρ I w _ sat hr⟩
theorem View.fn {f : Fn} {a b a' b' : List D} (h : ViewL F os a a') (k : ViewL F os b b') : View F os (.fn f a b) (.fn f a' b') := fun ρ I w v sat hr => by
  rw [rep] at hr ⊢
  obtain ⟨x, y, rfl, h1, h2⟩ := hr
  exact ⟨x, y, rfl, h ρ I w _ sat h1, k ρ I w _ sat h2⟩
theorem View.nils (sz : Nat) (f : Bool) : View F os .nils (.lst sz f []) := fun ρ I w v sat h => by
  rw [rep] at h; subst h
  rw [rep]
  exact ⟨none, 0, [], rfl, Nat.le_refl _, by simp, fun _ => rfl, repL_nil.2 rfl, (fun u hu => by cases hu), .inl rfl⟩
theorem View.lst {sz : Nat} {f f' : Bool} {es es' : List D} (hf : f' = true → f = true) (h : ViewL F os es es') (hp : D.pureL es' = true) : View F os (.lst sz f es) (.lst sz f' es') := fun ρ I w v sat hr => by
  rw [rep] at hr ⊢
  obtain ⟨A, c, us, rfl, h1, h2, h3, h4, h5, h6⟩ := hr
  have h4' := h ρ I w us sat (repL_bot h4)
  have hl : es.length = es'.length := by rw [← repL_length h4, repL_length h4']
  refine ⟨A, c, us, by rw [hl], by rw [← hl]; exact h1, h2, fun e => by rw [← hl]; exact h3 (hf e), repL_pure es' us hp h4', h5, ?_⟩
  rcases h6 with e | ⟨b, o, arr, t, fz, e1, e2, e3⟩
  · left; subst e; exact List.eq_nil_of_length_eq_zero (by simpa using hl.symm)
  · exact .inr ⟨b, o, arr, t, fz, e1, frz_le sat _ _ e2, e3⟩
theorem View.sl {i j sz lo len : Nat} {cap : Option Nat} {t : TypeId} {pr : Bool} {es es' : List D} {f : Bool} (hF : F i = true) (hat : os.at i j = .row t sz pr es) (hl : lo + len ≤ es.length) (hc : f = true → cap = some len)
    (h : ViewL F os ((es.drop lo).take len) es') (hp : D.pureL es' = true) : View F os (.sl i j sz lo len cap) (.lst sz f es') := fun ρ I w v sat hr => by
  rw [rep] at hr
  rw [rep]
  obtain ⟨p, A, c, h1, rfl, h2, h3, h4, h5, h6⟩ := hr
  have hne : os.at i j ≠ .gone := by rw [hat]; simp
  obtain ⟨q, hq, hok⟩ := sat.ok i j hne
  have : q = p := Option.some.inj (hq.symm.trans h1)
  subst this
  rw [hat] at hok
  obtain ⟨k1, k2, k3⟩ := hok
  have hfull : f = true → c = len := fun e => by have := hc e; subst this; exact h5
  by_cases hpos : 0 < q.2
  · obtain ⟨arr, us, g1, g2, g3, g4, g5⟩ := k3 hpos
    have g3' : repL ρ I es us := by cases pr with
      | true => exact repL_bot g3
      | false => exact g3
    have hv := h ρ I w _ sat (repL_take len (repL_drop lo g3'))
    have hul : us.length = es.length := repL_length g3
    have hel : es'.length = len := by rw [← repL_length hv]; simp; omega
    refine ⟨A, c, (us.drop lo).take len, by rw [hel], by rw [hel]; exact h2, h3, fun e => by rw [hel]; exact hfull e, repL_pure es' _ hp hv, fun u hu => g4 u (List.mem_of_mem_drop (List.mem_of_mem_take hu)), .inr ⟨q.1, lo * sz, arr, t, (0, 0), h6 hpos, ?_, ?_⟩⟩
    · rw [frz_in hF hne hq hpos]; exact g1
    · have := cut_flat (sz := sz) (cs := arr.toList) (o := 0) lo (lo + len) g4 (by rw [List.length_take]; omega) (by simpa using g5)
      rw [List.drop_take, show lo + len - lo = len by omega, Nat.zero_add] at this
      exact this
  · have he : es = [] := List.eq_nil_of_length_eq_zero (by omega)
    subst he
    have hlen : len = 0 := by simp at hl; omega
    subst hlen
    have hv := h ρ I w [] sat (by simp [repL_nil])
    have : es' = [] := List.eq_nil_of_length_eq_zero (repL_length hv).symm
    subst this
    exact ⟨A, c, [], by simp, by simp, h3, fun e => by simpa using hfull e, repL_nil.2 rfl, (fun u hu => by cases hu), .inl rfl⟩
theorem View.ptr {i j sz e off : Nat} {t : TypeId} {pr : Bool} {es : List D} {x x' : D} (hF : F i = true) (hat : os.at i j = .row t sz pr es) (he : es[e]? = some x)
    (h : View F os x x') (hp : x'.pure = true) : View F os (.ptr i j sz e off) (.pel x' off) := fun ρ I w v sat hr => by
  rw [rep] at hr
  rw [rep]
  obtain ⟨p, h1, hpos, rfl⟩ := hr
  have hne : os.at i j ≠ .gone := by rw [hat]; simp
  obtain ⟨q, hq, hok⟩ := sat.ok i j hne
  have : q = p := Option.some.inj (hq.symm.trans h1)
  subst this
  rw [hat] at hok
  obtain ⟨k1, k2, k3⟩ := hok
  obtain ⟨arr, us, g1, g2, g3, g4, g5⟩ := k3 hpos
  have g3' : repL ρ I es us := by cases pr with
    | true => exact repL_bot g3
    | false => exact g3
  obtain ⟨u, hu, hru⟩ := repL_get g3' he
  refine ⟨q.1, e * sz, arr, t, (0, 0), u, rfl, ?_, rep_pure x' u hp (h ρ I w u sat hru), ?_⟩
  · rw [frz_in hF hne hq hpos]; exact g1
  · have hu1 : us.take (e + 1) = us.take e ++ [u] := by rw [List.take_add_one, hu]; rfl
    have := cut_flat (sz := sz) (cs := arr.toList) (o := 0) e (e + 1) g4 (by have := (List.getElem?_eq_some_iff.1 hu).1; rw [List.length_take]; omega) (by simpa using g5)
    rw [hu1, List.drop_append_of_le_length (by have := (List.getElem?_eq_some_iff.1 hu).1; rw [List.length_take]; omega)] at this
    have e0 : (us.take e).drop e = [] := by simp
    rw [e0, Nat.zero_add] at this
    simpa [flat] using this
end

/-! ### Objects that are only read from now on -/
def dropF (F : Nat → Bool) (os : Objs) : Objs := os.mapIdx fun i f => if F i then .one .gone else f
theorem dropF_length (F : Nat → Bool) (os : Objs) : (dropF F os).length = os.length := by simp [dropF]
theorem dropF_at (F : Nat → Bool) (os : Objs) (i j : Nat) : (dropF F os).at i j = if F i then .gone else os.at i j := by
  unfold Objs.at dropF
  simp only [List.getD_eq_getElem?_getD, List.getElem?_mapIdx]
  by_cases hi : i < os.length
  · rw [List.getElem?_eq_getElem hi]
    simp only [Option.map_some, Option.getD_some]
    split
    · cases j <;> rfl
    · rfl
  · rw [List.getElem?_eq_none (by omega)]
    simp only [Option.map_none, Option.getD_none, Fam.at]
    split <;> rfl
theorem Weak.frz {n0 : Nat} (F : Nat → Bool) {s t : St} (ho : t.objs = dropF F s.objs) (hv : ∀ i, View F s.objs (s.get i) (t.get i)) : Weak n0 s t := by
  intro ρ I w tm h1 h2 h3
  have hat : ∀ i j, t.objs.at i j ≠ .gone → F i = false ∧ t.objs.at i j = s.objs.at i j := by
    intro i j hne
    rw [ho, dropF_at] at hne ⊢
    cases hF : F i with
    | true => rw [hF] at hne; simp at hne
    | false => simp
  refine ⟨ρ, Go.Proofs.Ytaplihoeephbeaa.V.frz F ρ I s.objs w, ⟨?_, fun i j hne => ?_, ?_, ?_, fun i j hi => h1.dom i j (by rw [ho, dropF_length] at hi; exact hi)⟩, fun i => hv i ρ I w _ h1 (h2 i), frz_le h1, by rw [ho, dropF_length]; exact h3, fun _ _ _ => rfl, fun b hb => ?_, ?_⟩
  · intro b o hb
    exact frz_heap h1 b o hb
  · obtain ⟨hF, he⟩ := hat i j hne
    rw [he] at hne ⊢
    obtain ⟨p, hp, hok⟩ := h1.ok i j hne
    exact ⟨p, hp, objOk_mono (Pl.le_refl _) (frz_le h1) (fun _ => rfl) hok⟩
  · intro i j i' j' p p' hne hne'
    have e1 := hat i j hne
    have e2 := hat i' j' hne'
    rw [e1.2] at hne; rw [e2.2] at hne'
    exact h1.inj i j i' j' p p' hne hne'
  · rintro b ⟨i, j, p, hne, hp, hpos, rfl⟩
    obtain ⟨hF, he⟩ := hat i j hne
    rw [he] at hne
    unfold Go.Proofs.Ytaplihoeephbeaa.V.frz
    rw [if_neg ?_]
    · exact h1.apart _ ⟨i, j, p, hne, hp, hpos, rfl⟩
    · rintro ⟨i', j', p', hF', hne', hp', hpos', hb⟩
      have := (h1.inj i' j' i j p' p hne' hne hp' hp hpos' hpos hb).1
      subst this
      rw [hF] at hF'; simp at hF'
  · unfold Go.Proofs.Ytaplihoeephbeaa.V.frz at hb
    split at hb
    · rename_i h
      obtain ⟨i, j, p, _, g1, g2, g3, g4⟩ := h
      exact .inr ⟨i, j, p, g1, g2, g3, g4⟩
    · exact .inl hb
  · rintro b ⟨i, j, p, hne, hp, hpos, rfl⟩
    have e1 := hat i j hne
    rw [e1.2] at hne
    exact ⟨i, j, p, hne, hp, hpos, rfl⟩

/-! ### What reads nothing -/
mutual
/-- d leads to nothing that is only read. -/
def D.own : D → Bool
  | .pel .. | .lst .. => false
  | .agg cs => D.ownL cs
  | .tup cs => D.ownL cs
  | .fn _ a b => D.ownL a && D.ownL b
  | _ => true
def D.ownL : List D → Bool
  | [] => true
  | d :: ds => d.own && D.ownL ds
end
mutual
theorem rep_own {ρ : Pl} {I J : Im} : ∀ (d : D) (v : Value), d.own = true → rep ρ I d v → rep ρ J d v
  | .int _ _, _, _, h | .bool _, _, _, h | .str _, _, _, h | .nilp, _, _, h | .nils, _, _, h | .nilf, _, _, h | .junk, _, _, h => by
    rw [rep] at h ⊢; exact h
  | .ptr .., _, _, h | .mp .., _, _, h | .sl .., _, _, h => by rw [rep] at h ⊢; exact h
  | .agg cs, _, hp, h => by
    rw [rep] at h ⊢; obtain ⟨arr, e, h⟩ := h; exact ⟨arr, e, repL_own cs _ (by simpa [D.own] using hp) h⟩
  | .tup cs, _, hp, h => by
    rw [rep] at h ⊢; obtain ⟨arr, e, h⟩ := h; exact ⟨arr, e, repL_own cs _ (by simpa [D.own] using hp) h⟩
  | .fn f a b, _, hp, h => by
    rw [rep] at h ⊢; obtain ⟨x, y, e, h1, h2⟩ := h
    have hp' : D.ownL a = true ∧ D.ownL b = true := by simpa [D.own] using hp
    exact ⟨x, y, e, repL_own a _ hp'.1 h1, repL_own b _ hp'.2 h2⟩
  | .pel .., _, hp, _ | .lst .., _, hp, _ => by simp [D.own] at hp
theorem repL_own {ρ : Pl} {I J : Im} : ∀ (ds : List D) (vs : List Value), D.ownL ds = true → repL ρ I ds vs → repL ρ J ds vs
  | [], _, _, h => by rw [repL_nil] at h ⊢; exact h
  | d :: ds, _, hp, h => by
    obtain ⟨u, us, rfl, hu, h⟩ := repL_cons.1 h
    have hp' : d.own = true ∧ D.ownL ds = true := by simpa [D.ownL] using hp
    exact repL_cons.2 ⟨u, us, rfl, rep_own d u hp'.1 hu, repL_own ds us hp'.2 h⟩
end
def O.own : O → Bool
  | .gone => true
  | .row _ _ _ es => D.ownL es
  | .map es => D.ownL (es.map (·.2))
theorem objOk_own {ρ : Pl} {I J : Im} {w : World} {p : Nat × Nat} {o : O} (hp : o.own = true) (h : objOk ρ I w p o) : objOk ρ J w p o := by
  cases o with
  | gone => trivial
  | row t sz pr es =>
    obtain ⟨h1, h2, h3⟩ := h
    refine ⟨h1, h2, fun hpos => ?_⟩
    obtain ⟨arr, us, g1, g2, g3, g4, g5⟩ := h3 hpos
    exact ⟨arr, us, g1, g2, repL_own es us hp g3, g4, g5⟩
  | map es =>
    obtain ⟨h1, ents, clk, h2, us, h3, h4⟩ := h
    exact ⟨h1, ents, clk, h2, us, repL_own _ us hp h3, h4⟩
def Objs.own (os : Objs) : Prop := ∀ i j, (os.at i j).own = true
def allF : Nat → Bool := fun _ => true
theorem Sat.later {ρ : Pl} {I : Im} {os : Objs} {w w' : World} (h : Sat ρ I os w) (hb : Below w.heap.size w w') : Sat ρ I os w' := by
  refine ⟨fun b o hI => ?_, fun i j hne => ?_, h.inj, h.apart, h.dom⟩
  · rw [hb.block b (h.im_lt hI)]; exact h.im b o hI
  · obtain ⟨p, hp, hok⟩ := h.ok i j hne
    exact ⟨p, hp, objOk_mono (Pl.le_refl _) (Im.le_refl _) (fun hpos => hb.block _ (objOk_lt hne hpos hok)) hok⟩
theorem Fr.below {w : World} {ρ' : Pl} {I' : Im} {os' : Objs} {w' : World} (h : Fr bot (heapIm w) [] w ρ' I' os' w') : Below w.heap.size w w' :=
  ⟨h.wos, h.tape, h.output, h.size, fun k hk => h.kept k hk (by rintro ⟨i, j, p, h1, h2, _⟩; simp [bot] at h2)⟩
theorem Sat.begin (w : World) : Sat bot (heapIm w) [] w :=
  ⟨fun b o h => h, fun i j h => absurd (at_ge [] j (Nat.zero_le i)) h, fun i j i' j' p p' h => absurd (at_ge [] j (Nat.zero_le i)) h, fun b hb => by obtain ⟨i, j, p, h1, h2, _⟩ := hb; simp [bot] at h2, fun _ _ _ => rfl⟩

mutual
theorem mapId_pure (φ : Nat → Nat → Nat × Nat) : ∀ (d : D), d.pure = true → d.mapId φ = d
  | .agg cs, h => by rw [D.mapId, mapIdL_pure φ cs (by simpa [D.pure] using h)]
  | .tup cs, h => by rw [D.mapId, mapIdL_pure φ cs (by simpa [D.pure] using h)]
  | .fn g a b, h => by
    have h' : D.pureL a = true ∧ D.pureL b = true := by simpa [D.pure] using h
    rw [D.mapId, mapIdL_pure φ a h'.1, mapIdL_pure φ b h'.2]
  | .ptr .., h | .sl .., h | .mp .., h => by simp [D.pure] at h
  | .int .., _ | .bool _, _ | .str _, _ | .nilp, _ | .nils, _ | .nilf, _ | .junk, _ | .pel .., _ | .lst .., _ => rfl
theorem mapIdL_pure (φ : Nat → Nat → Nat × Nat) : ∀ (ds : List D), D.pureL ds = true → D.mapIdL φ ds = ds
  | [], _ => rfl
  | d :: ds, h => by
    have h' : d.pure = true ∧ D.pureL ds = true := by simpa [D.pureL] using h
    rw [D.mapIdL, mapId_pure φ d h'.1, mapIdL_pure φ ds h'.2]
end
/-- A CALLEE THAT ONLY READS, and makes what it hands back: its contract, told with rows that are only read, holds among any objects. -/
theorem Spec.fresh {P : Program} {f : FuncId} {args args' : List D} {os : Objs} {post : D → Objs → Prop} (h : Spec P f args [] post) (hv : ViewL allF os args' args) (hp : D.pureL args = true)
    (hs : ∀ d os', post d os' → d.own = true ∧ Objs.own os') : Spec P f args' os (fun d os' => ∃ d0 os0, post d0 os0 ∧ d = d0.mapId (lead [] os.length) ∧ os' = os ++ os0.map (Fam.mapId (lead [] os.length))) := by
  refine ⟨h.1, fun ρ I w vs sat hr => ?_⟩
  have hr1 : repL bot (heapIm w) args vs := repL_pure args vs hp (repL_mono (Pl.le_refl _) (frz_heap sat) args vs (hv ρ I w vs sat hr))
  refine (h.2 bot (heapIm w) w vs (Sat.begin w) hr1).mono ?_
  rintro e w' ⟨v, d, os0, ρ', I', rfl, hpo, sat', fr, hrv⟩
  obtain ⟨hd, hob⟩ := hs d os0 hpo
  have hbel := fr.below
  have sl := sat.later hbel
  have hφ : ∀ k j, lead [] os.length k j = (os.length + k, j) := fun k j => by simp [lead]
  have hnew : ∀ b, foot ρ' os0 b → w.heap.size ≤ b := fun b hb => by
    rcases fr.obnew b hb with h' | h'
    · obtain ⟨i, j, p, _, h2, _⟩ := h'; simp [bot] at h2
    · exact h'
  obtain ⟨ρ2, hρ2⟩ : ∃ ρ2 : Pl, ρ2 = fun i j => if i < os.length then ρ i j else ρ' (i - os.length) j := ⟨_, rfl⟩
  have up : ∀ k j p, ρ' k j = some p → ρ2 (lead [] os.length k j).1 (lead [] os.length k j).2 = some p := by
    intro k j p hk; rw [hφ, hρ2]
    simp only
    rw [if_neg (by omega), show os.length + k - os.length = k by omega]; exact hk
  have le : ρ.le ρ2 := by
    intro i j p hk; rw [hρ2]
    by_cases hi : i < os.length
    · simp only [if_pos hi]; exact hk
    · rw [sat.dom i j (by omega)] at hk; simp at hk
  have hat : ∀ i j, (os ++ os0.map (Fam.mapId (lead [] os.length))).at i j = if i < os.length then os.at i j else (os0.at (i - os.length) j).mapId (lead [] os.length) := by
    intro i j
    by_cases hi : i < os.length
    · rw [if_pos hi, at_lt os _ j hi]
    · rw [if_neg hi]
      unfold Objs.at
      rw [List.getD_eq_getElem?_getD, List.getElem?_append_right (by omega), List.getElem?_map, List.getD_eq_getElem?_getD]
      cases hg : os0[i - os.length]? with
      | none => simp [Fam.at, O.mapId]
      | some g => simp [fam_mapId_at]
  have kinds : ∀ i j, (os ++ os0.map (Fam.mapId (lead [] os.length))).at i j ≠ .gone → (i < os.length ∧ os.at i j ≠ .gone ∧ ρ2 i j = ρ i j ∧ (os ++ os0.map (Fam.mapId (lead [] os.length))).at i j = os.at i j) ∨
      (os.length ≤ i ∧ os0.at (i - os.length) j ≠ .gone ∧ ρ2 i j = ρ' (i - os.length) j ∧ (os ++ os0.map (Fam.mapId (lead [] os.length))).at i j = (os0.at (i - os.length) j).mapId (lead [] os.length)) := by
    intro i j hne
    rw [hat] at hne ⊢
    by_cases hi : i < os.length
    · rw [if_pos hi] at hne ⊢
      exact .inl ⟨hi, hne, by rw [hρ2]; simp [hi], rfl⟩
    · rw [if_neg hi] at hne ⊢
      exact .inr ⟨by omega, fun e => hne (O.mapId_gone.2 e), by rw [hρ2]; simp [hi], rfl⟩
  have lt_of : ∀ i j p, os.at i j ≠ .gone → ρ i j = some p → 0 < p.2 → p.1 < w.heap.size := fun i j p h1 h2 h3 => sat.foot_lt ⟨i, j, p, h1, h2, h3, rfl⟩
  refine ⟨v, d.mapId (lead [] os.length), _, ρ2, I, rfl, ⟨d, os0, hpo, rfl, rfl⟩, ⟨sl.im, fun i j hne => ?_, fun i j i' j' p p' hne hne' h1 h2 hpos hpos' he => ?_, fun b hb => ?_, fun i j hi => ?_⟩,
    ⟨hbel.os, hbel.tape, hbel.output, hbel.size, fun b hb _ => hbel.block b hb, by simp, fun i j hi => by rw [hρ2]; simp [hi], Im.le_refl _, fun b hb => .inl hb, fun b hb => ?_⟩, rep_up up d v (rep_own d v hd hrv)⟩
  · rcases kinds i j hne with ⟨hi, h1, h2, h3⟩ | ⟨hi, h1, h2, h3⟩
    · obtain ⟨p, hp', hok⟩ := sl.ok i j h1
      exact ⟨p, by rw [h2]; exact hp', by rw [h3]; exact objOk_mono le (Im.le_refl _) (fun _ => rfl) hok⟩
    · obtain ⟨p, hp', hok⟩ := sat'.ok _ _ h1
      exact ⟨p, by rw [h2]; exact hp', by rw [h3]; exact obj_up up (objOk_own (hob _ _) hok)⟩
  · rcases kinds i j hne with ⟨hi, g1, g2, _⟩ | ⟨hi, g1, g2, _⟩ <;> rcases kinds i' j' hne' with ⟨hi', g1', g2', _⟩ | ⟨hi', g1', g2', _⟩ <;> rw [g2] at h1 <;> rw [g2'] at h2
    · exact sat.inj i j i' j' p p' g1 g1' h1 h2 hpos hpos' he
    · have a1 := lt_of i j p g1 h1 hpos
      have a2 := hnew _ ⟨_, _, p', g1', h2, hpos', rfl⟩
      omega
    · have a1 := lt_of i' j' p' g1' h2 hpos'
      have a2 := hnew _ ⟨_, _, p, g1, h1, hpos, rfl⟩
      omega
    · have := sat'.inj _ _ _ _ p p' g1 g1' h1 h2 hpos hpos' he
      exact ⟨by omega, this.2⟩
  · obtain ⟨i, j, p, hne, h1, hpos, rfl⟩ := hb
    rcases kinds i j hne with ⟨hi, g1, g2, _⟩ | ⟨hi, g1, g2, _⟩ <;> rw [g2] at h1
    · exact sat.apart _ ⟨i, j, p, g1, h1, hpos, rfl⟩
    · have a2 := hnew _ ⟨_, _, p, g1, h1, hpos, rfl⟩
      cases hI : I p.1 with
      | none => rfl
      | some o => have := sat.im_lt hI; omega
  · rw [List.length_append, List.length_map] at hi
    rw [hρ2]; simp only
    rw [if_neg (by omega)]
    exact sat'.dom _ _ (by omega)
  · obtain ⟨i, j, p, hne, h1, hpos, rfl⟩ := hb
    rcases kinds i j hne with ⟨hi, g1, g2, _⟩ | ⟨hi, g1, g2, _⟩ <;> rw [g2] at h1
    · exact .inl ⟨i, j, p, g1, h1, hpos, rfl⟩
    · exact .inr (hnew _ ⟨_, _, p, g1, h1, hpos, rfl⟩)
/-- The same, of one that makes nothing. -/
theorem Spec.read {P : Program} {f : FuncId} {args args' : List D} {os : Objs} {post : D → Prop} (h : Spec P f args [] (fun d os' => post d ∧ os' = [])) (hv : ViewL allF os args' args) (hp : D.pureL args = true)
    (hs : ∀ d, post d → d.own = true ∧ d.pure = true) : Spec P f args' os (fun d os' => post d ∧ os' = os) := by
  refine (h.fresh hv hp (fun d os' hd => ⟨(hs d hd.1).1, by rw [hd.2]; intro i j; rw [at_ge [] j (Nat.zero_le i)]; rfl⟩)).mono ?_
  rintro d os' ⟨d0, os0, ⟨h1, rfl⟩, rfl, rfl⟩
  have : d0.mapId (lead [] os.length) = d0 := mapId_pure _ d0 (hs d0 h1).2
  rw [this]
  exact ⟨h1, by simp⟩
end Go.Proofs.Ytaplihoeephbeaa.V
