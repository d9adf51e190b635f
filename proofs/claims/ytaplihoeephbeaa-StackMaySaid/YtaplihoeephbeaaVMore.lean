/- Loops that are told by data; what is left over at the end. -/
import Derived.Test.YtaplihoeephbeaaVBase
import Derived.Test.YtaplihoeephbeaaVView
namespace Go.Proofs.Ytaplihoeephbeaa.V
open Go Go.RowKit
set_option linter.unusedVariables false
theorem Loop.inv {n0 : Nat} {ws : List Nat} {body : (E → St → Prop) → St → Prop} {K : E → St → Prop} {s : St} {A : Type} (js : List Nat) (S : A → List (Nat × D)) (O : A → Objs) (Q : A → Prop) (μ : A → Nat) (a0 : A) (h0 : Q a0) (hw : Weak n0 s (s.head (js ++ ws) (S a0) (O a0)))
    (hr : ∀ a, Q a → withoutK (js ++ ws) s.m (fun m => body (fun e s' => match e with
      | .normal => ∃ k slots' os', k < μ a ∧ (∃ a', Q a' ∧ k = μ a' ∧ slots' = S a' ∧ os' = O a') ∧ Weak n0 s' { m := slots' ++ m, objs := os' }
      | e => K e s') { m := S a ++ m, objs := O a })) : Loop n0 ws body K s :=
  Loop.mk js (fun n sl os => ∃ a, Q a ∧ n = μ a ∧ sl = S a ∧ os = O a) (μ a0) (S a0) (O a0) ⟨a0, h0, rfl, rfl, rfl⟩ hw (by
    rintro n sl os ⟨a, hq, rfl, rfl, rfl⟩
    exact hr a hq)
theorem Loop.next {n0 : Nat} {s' : St} {m : List (Nat × D)} {A : Type} {S : A → List (Nat × D)} {O : A → Objs} {Q : A → Prop} {μ : A → Nat} {a : A} (a' : A) (hq : Q a') (hl : μ a' < μ a) (hw : Weak n0 s' { m := S a' ++ m, objs := O a' }) :
    ∃ k slots' os', k < μ a ∧ (∃ a', Q a' ∧ k = μ a' ∧ slots' = S a' ∧ os' = O a') ∧ Weak n0 s' { m := slots' ++ m, objs := os' } := ⟨_, _, _, hl, ⟨a', hq, rfl, rfl, rfl⟩, hw⟩
/-- Objects that nothing leads to are left. -/
def trimM (n : Nat) (m : List (Nat × D)) : List (Nat × D) := m.map fun p => (p.1, bif p.2.lt n then p.2 else .junk)
theorem look_trimM (n : Nat) : ∀ (m : List (Nat × D)) (i : Nat), look (trimM n m) i = .junk ∨ look (trimM n m) i = look m i
  | [], i => .inl rfl
  | (k, d) :: m, i => by
    simp only [trimM, List.map_cons, look]
    cases Nat.beq k i with
    | true => cases d.lt n <;> simp
    | false => exact look_trimM n m i
theorem Weak.trim {n0 : Nat} {m : List (Nat × D)} {os : Objs} (n : Nat) (hn : n0 ≤ n) (ho : (os.take n).all (fun F => F.lt n) = true) (hl : n ≤ os.length) : Weak n0 { m := m, objs := os } { m := trimM n m, objs := os.take n } := by
  refine Weak.trans (t := { m := trimM n m, objs := os }) (Weak.slots rfl (look_trimM n m)) (Weak.take n hn ?_ ho hl)
  rw [List.all_eq_true]
  intro p hp
  obtain ⟨q, hq, rfl⟩ := List.mem_map.1 hp
  dsimp only
  cases h : q.2.lt n with
  | true => exact h
  | false => rfl
theorem keysIn_self (pre : List (Nat × D)) : keysIn (pre.map (·.1)) pre = true := by
  unfold keysIn
  rw [List.all_eq_true]
  intro p hp
  exact List.contains_iff_mem.2 (List.mem_map_of_mem hp)
/-- At a loop's head, behind a round: m is what the body does not touch. -/
theorem Weak.back {n0 : Nat} {s : St} {sl m : List (Nat × D)} {os : Objs} (ho : s.objs = os) (hsl : told s.m sl) (hm : s.m = s.m.take (s.m.length - m.length) ++ m) (hk : (m.all fun p => !((s.m.take (s.m.length - m.length)).map (·.1)).contains p.1) = true) :
    Weak n0 s { m := sl ++ m, objs := os } := by
  subst ho
  exact Weak.round ((s.m.take (s.m.length - m.length)).map (·.1)) hsl ⟨_, hm, keysIn_self _⟩ (.inr hk) hk
/-- The same, with the round's own objects left. -/
theorem Weak.backT {n0 : Nat} {m0 sl m : List (Nat × D)} {os0 os : Objs} (n : Nat) (hn : n0 ≤ n) (ho' : os0.take n = os) (ho : (os0.take n).all (fun F => F.lt n) = true) (hl : n ≤ os0.length) (hsl : told (trimM n m0) sl) (hm : trimM n m0 = (trimM n m0).take ((trimM n m0).length - m.length) ++ m)
    (hk : (m.all fun p => !(((trimM n m0).take ((trimM n m0).length - m.length)).map (·.1)).contains p.1) = true) : Weak n0 { m := m0, objs := os0 } { m := sl ++ m, objs := os } :=
  Weak.trans (Weak.trim n hn ho hl) (Weak.back (s := { m := trimM n m0, objs := os0.take n }) ho' hsl hm hk)
theorem Ret.trim {τ : Tau} {n0 : Nat} {fn : Func} {post : D → Objs → Prop} {m : List (Nat × D)} {os : Objs} (n : Nat) (hn : n0 ≤ n) (ho : (os.take n).all (fun F => F.lt n) = true) (hl : n ≤ os.length) (h : Ret τ n0 fn post { m := trimM n m, objs := os.take n }) : Ret τ n0 fn post { m := m, objs := os } :=
  Ret.weak (Weak.trim n hn ho hl) h
mutual
theorem sgl_pure (n : Nat) : ∀ (d : D), d.pure = true → d.sgl n = true
  | .agg cs, h => sglL_pure n cs h
  | .tup cs, h => sglL_pure n cs h
  | .fn g a b, h => by
    have h' : D.pureL a = true ∧ D.pureL b = true := by simpa [D.pure] using h
    simp [D.sgl, sglL_pure n a h'.1, sglL_pure n b h'.2]
  | .ptr .., h | .sl .., h | .mp .., h => by simp [D.pure] at h
  | .int .., _ | .bool _, _ | .str _, _ | .nilp, _ | .nils, _ | .nilf, _ | .junk, _ | .pel .., _ | .lst .., _ => rfl
theorem sglL_pure (n : Nat) : ∀ (ds : List D), D.pureL ds = true → D.sglL n ds = true
  | [], _ => rfl
  | d :: ds, h => by
    have h' : d.pure = true ∧ D.pureL ds = true := by simpa [D.pureL] using h
    simp [D.sglL, sgl_pure n d h'.1, sglL_pure n ds h'.2]
end
/-- A callee that makes what is only read, from what is only read. -/
theorem Spec.only {P : Program} {f : FuncId} {args : List D} {post : D → Prop} (h : Spec P f args [] (fun d os' => post d ∧ os' = [])) (os : Objs) (hp : D.pureL args = true) (hs : ∀ d, post d → d.pure = true) : Spec P f args os (fun d os' => post d ∧ os' = os) := by
  have := h.frame os [] rfl List.nodup_nil (fun k p hk => by simp at hk) (sglL_pure _ _ hp)
  rw [mapIdL_pure _ _ hp] at this
  refine this.mono ?_
  rintro d os' ⟨d1, os1, ⟨h1, rfl⟩, rfl, rfl⟩
  rw [mapId_pure _ _ (hs _ h1)]
  exact ⟨h1, by simp [merge, putAll]⟩
def forgetM (b : Nat) (m : List (Nat × D)) : List (Nat × D) := m.map fun p => (p.1, bif p.2.names b then .junk else p.2)
theorem look_forgetM (b : Nat) : ∀ (m : List (Nat × D)) (i : Nat), look (forgetM b m) i = .junk ∨ look (forgetM b m) i = look m i
  | [], i => .inl rfl
  | (k, d) :: m, i => by
    simp only [forgetM, List.map_cons, look]
    cases Nat.beq k i with
    | true => cases d.names b <;> simp
    | false => exact look_forgetM b m i
theorem forgetM_names (b : Nat) (m : List (Nat × D)) : namesM b (forgetM b m) = false := by
  unfold namesM
  rw [List.any_eq_false]
  intro p hp
  obtain ⟨q, hq, rfl⟩ := List.mem_map.1 hp
  dsimp only
  cases h : q.2.names b with
  | true => simp [D.names]
  | false => simp [h]
/-- Object a takes the place of b, which is gone. -/
theorem Weak.shift {n0 : Nat} {m : List (Nat × D)} {os : Objs} (a b : Nat) (hab : a ≠ b) (hb0 : n0 ≤ b) (ha : a < os.length) (hb : b < os.length) (hgone : ∀ j, os.at b j = .gone) (ho : os.all (fun F => !F.names b) = true) :
    Weak n0 { m := m, objs := os } { m := renM a b (forgetM b m), objs := ((os.map (Fam.ren a b)).set b ((os.getD a (.one .gone)).ren a b)).set a (.one .gone) } :=
  Weak.trans (t := { m := forgetM b m, objs := os }) (Weak.slots rfl (look_forgetM b m)) (Weak.move a b hab hb0 ha hb hgone (forgetM_names b m) ho)
def viewed (F : Nat → Bool) (os : Objs) (m : List (Nat × D)) : List (Nat × D) → Prop
  | [] => True
  | (k, d) :: r => View F os (look m k) d ∧ viewed F os m r
theorem viewed_look {F : Nat → Bool} {os : Objs} {m : List (Nat × D)} : ∀ {sl : List (Nat × D)} (i : Nat), viewed F os m sl → View F os (look m i) (look (sl ++ m) i)
  | [], i, _ => View.same _
  | (k, d) :: r, i, h => by
    simp only [List.cons_append, look]
    cases hb : Nat.beq k i with
    | true => have := Nat.eq_of_beq_eq_true hb; subst this; exact h.1
    | false => exact viewed_look i h.2
/-- Objects are only read from now on; slots are told anew. -/
theorem Weak.frzK {n0 : Nat} {m : List (Nat × D)} {os : Objs} (F : Nat → Bool) (sl : List (Nat × D)) (h : viewed F os m sl) : Weak n0 { m := m, objs := os } { m := sl ++ m, objs := dropF F os } :=
  Weak.frz F rfl fun i => viewed_look i h
theorem Ret.frz {τ : Tau} {n0 : Nat} {fn : Func} {post : D → Objs → Prop} {m : List (Nat × D)} {os : Objs} (F : Nat → Bool) (sl : List (Nat × D)) (h : viewed F os m sl) (k : Ret τ n0 fn post { m := sl ++ m, objs := dropF F os }) : Ret τ n0 fn post { m := m, objs := os } :=
  Ret.weak (Weak.frzK F sl h) k
theorem Pt.frz {n0 : Nat} {m : List (Nat × D)} {os : Objs} {K : St → Prop} (F : Nat → Bool) (sl : List (Nat × D)) (h : viewed F os m sl) (k : Pt n0 { m := sl ++ m, objs := dropF F os } K) : Pt n0 { m := m, objs := os } K :=
  Pt.weak (Weak.frzK F sl h) k
theorem take_all {α : Type} {l l' : List α} {n : Nat} (h : l.length = n) (e : l = l') : (l.drop 0).take n = l' := by
  subst e; rw [List.drop_zero, List.take_of_length_le (by omega)]
theorem View.slAll {F : Nat → Bool} {os : Objs} {i j sz len : Nat} {cap : Option Nat} {t : TypeId} {pr : Bool} {es es' : List D} {f : Bool} (hF : F i = true) (hat : os.at i j = .row t sz pr es) (hl : es.length = len) (hc : f = true → cap = some len)
    (h : ViewL F os es es') (hp : D.pureL es' = true) : View F os (.sl i j sz 0 len cap) (.lst sz f es') :=
  View.sl hF hat (by omega) hc (by rw [take_all hl rfl]; exact h) hp
theorem pureL_map {α : Type} {f : α → D} (hf : ∀ x, (f x).pure = true) : ∀ (l : List α), D.pureL (l.map f) = true
  | [] => rfl
  | x :: l => by simp [D.pureL, hf x, pureL_map hf l]
/-- A callee that makes what it hands back, from what is only read. -/
theorem Spec.onto {P : Program} {f : FuncId} {args : List D} {post : D → Objs → Prop} (h : Spec P f args [] post) (os : Objs) (hp : D.pureL args = true) : Spec P f args os (fun d os' => ∃ d1 os1, post d1 os1 ∧ d = d1.mapId (lead [] os.length) ∧ os' = os ++ os1.map (Fam.mapId (lead [] os.length))) := by
  have := h.frame os [] rfl List.nodup_nil (fun k p hk => by simp at hk) (sglL_pure _ _ hp)
  rw [mapIdL_pure _ _ hp] at this
  refine this.mono ?_
  rintro d os' ⟨d1, os1, h1, rfl, rfl⟩
  exact ⟨d1, os1, h1, rfl, by simp [merge, putAll]⟩
/-- What a callee hands back is only read from now on. -/
theorem Spec.frz {P : Program} {f : FuncId} {args : List D} {post' : D → Prop} (h : Spec P f args [] (fun d os' => ∃ d', View allF os' d d' ∧ d'.pure = true ∧ post' d')) : Spec P f args [] (fun d os' => post' d ∧ os' = []) := by
  refine ⟨h.1, fun ρ I w vs sat hr => (h.2 ρ I w vs sat hr).mono ?_⟩
  rintro e w' ⟨v, d, os', ρ', I', rfl, ⟨d', hv, hp, hpost⟩, sat', fr, hrv⟩
  have f0 : ∀ b, ¬ foot ρ [] b := by
    rintro b ⟨i, j, p, h1, _⟩
    exact h1 (at_ge [] j (Nat.zero_le i))
  have hρ : ∀ i j, ρ i j = none := fun i j => sat.dom i j (Nat.zero_le i)
  refine ⟨v, d', [], ρ, Go.Proofs.Ytaplihoeephbeaa.V.frz allF ρ' I' os' w', rfl, ⟨hpost, rfl⟩, ⟨fun b o hb => frz_heap sat' b o hb, fun i j hne => absurd (at_ge [] j (Nat.zero_le i)) hne, fun i j i' j' p p' hne => absurd (at_ge [] j (Nat.zero_le i)) hne, fun b hb => absurd hb (f0 b), fun i j _ => hρ i j⟩,
    ⟨fr.wos, fr.tape, fr.output, fr.size, fr.kept, Nat.le_refl _, fun _ _ _ => rfl, Im.le_trans fr.imle (frz_le sat'), fun b hb => ?_, fun b hb => absurd hb (f0 b)⟩, rep_pure d' v hp (hv ρ' I' w' v sat' hrv)⟩
  unfold Go.Proofs.Ytaplihoeephbeaa.V.frz at hb
  split at hb
  · rename_i hx
    obtain ⟨i, j, p, _, g1, g2, g3, g4⟩ := hx
    exact .inr (fr.obnew b ⟨i, j, p, g1, g2, g3, g4⟩)
  · exact fr.imnew b hb
theorem set_same {α : Type} {f : α → D} {l : List α} {i : Nat} {x : α} (h : l[i]? = some x) : (l.map f).set i (f x) = l.map f := by
  apply List.ext_getElem?
  intro j
  rw [List.getElem?_set]
  by_cases hj : i = j
  · subst hj
    obtain ⟨h1, rfl⟩ := List.getElem?_eq_some_iff.1 h
    simp [h1]
  · rw [if_neg hj]
/-! ### Steps of a walk: what they ask is found where they are used -/
theorem aR {e : Int} {K : Int → Prop} (hk : K e) (h0 : -9223372036854775808 ≤ e := by first | omega | (simp only [List.length_map]; omega)) (h1 : e ≤ 9223372036854775807 := by first | omega | (simp only [List.length_map]; omega)) : Ar .i64 e K := Ar.mk e (ar_fit h0 h1) hk
theorem aCi {a b : Prop} (hb : b) (ha : a := by first | exact rfl | exact (fun _ => pureL_map (fun _ => rfl) _) | omega | (refine ⟨by omega, by omega⟩) | (refine ⟨by omega, by omega, by omega⟩) | exact (fun _ => rfl) | exact Nat.le_of_ble_eq_true rfl | exact (fun h => Bool.noConfusion h) | (simp; done) | (simp; omega) | (simp [setAll]; done) | (simp [setAll]; omega)) : a ∧ b := ⟨ha, hb⟩
theorem aC {a b : Prop} (hb : b) (ha : a := by first | exact rfl | exact (fun _ => pureL_map (fun _ => rfl) _) | omega | (refine ⟨by omega, by omega⟩) | (refine ⟨by omega, by omega, by omega⟩) | exact (fun _ => rfl) | exact Nat.le_of_ble_eq_true rfl | exact (fun h => Bool.noConfusion h) | (simp; done) | (simp; omega) | (simp [setAll]; done) | (simp [setAll]; omega) | ((conv => whnf); (repeat (first | (refine Opt.mk ?_; conv => whnf) | (refine Opt.of (get_map (List.getElem?_eq_getElem (by first | assumption | omega))) ?_; conv => whnf) | (refine aR ?_; conv => whnf) | (refine aCi ?_; conv => whnf) | (refine ⟨fun h => absurd (congrArg List.length h) (Nat.succ_ne_zero _), fun _ => ?_⟩; conv => whnf) | fail)); first | done | exact rfl) | decide) : a ∧ b := ⟨ha, hb⟩
theorem bT {b : Bool} {A B : Prop} (hA : A) (h : b = true := by first | assumption | exact decide_eq_true (by first | assumption | omega | exact rfl) | exact congrArg Bool.not (decide_eq_false (by first | assumption | omega))) : Br b A B := Br.tt h hA
theorem bF {b : Bool} {A B : Prop} (hB : B) (h : b = false := by first | assumption | exact decide_eq_false (by first | assumption | omega) | exact congrArg Bool.not (decide_eq_true (by first | assumption | omega | exact rfl))) : Br b A B := Br.ff h hB
theorem dA {τ : Tau} {C : CallW} {l : List Oper} {K : St → Prop} {s : St} (h : drw τ C l (closOf l) [] K (permOf l) [] s) (hok : (drawOk l [] (permOf l) (closOf l) && allOk τ l) = true := by decide +kernel) : Drw τ C l K s := Drw.auto hok h
theorem dL {τ : Tau} {C : CallW} {l : List Oper} {K : St → Prop} {s : St} (h : drw τ C l (closOf l) [l.length - 1] K (permOf l) [] s) (hok : (drawOk l [l.length - 1] (permOf l) (closOf l) && allOk τ l) = true := by decide +kernel) : Drw τ C l K s := Drw.late hok h
theorem nE {α : Type} {x : α} {l : List α} {A B : Prop} (h : B) : (x :: l = [] → A) ∧ (x :: l ≠ [] → B) := ⟨fun h => absurd h (List.cons_ne_nil _ _), fun _ => h⟩
end Go.Proofs.Ytaplihoeephbeaa.V
