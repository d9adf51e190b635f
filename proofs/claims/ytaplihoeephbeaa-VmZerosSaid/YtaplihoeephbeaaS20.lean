/- S20: a text of a symbolic executor that is proved sound, and contracts that are proved with it. -/
import Derived.Test.YtaplihoeephbeaaS19
namespace Go.Proofs.Ytaplihoeephbeaa.V
open Go Go.Proofs
set_option maxRecDepth 100000
set_option maxHeartbeats 4000000
theorem pop133 (t : Th) (ht : t.okB) (s : List Int) (v : Int) (hs : t.sk = s ++ [v]) : Spec Try.prog 133 [thD t] [] (fun d os' => d = .tup [thD { t with sk := s }, .int .i64 v, .bool true] ∧ os' = []) := by
  refine Spec.frz (post' := fun d => d = .tup [thD { t with sk := s }, .int .i64 v, .bool true]) ?_
  have hlen : (t.sk.map (D.int .i64)).length = s.length + 1 := by rw [hs]; simp
  have hl' : t.sk.length = s.length + 1 := by rw [hs]; simp
  have hb := ht.2.1
  have e : (((t.sk.length : Nat) : Int) - 1).toNat = s.length := by omega
  have hget : t.sk[0 + (((t.sk.length : Nat) : Int) - 1).toNat]? = some v := by rw [e, hs]; simp
  refine Spec.by Try.func133 rfl (by decide) (by decide +kernel) rfl ?_
  (conv => whnf); repeat ((first | with_reducible (first | refine Pt.go ?_ | refine dA ?_ | refine dL ?_) | refine Br.t ?_ | refine Br.f ?_ | refine bT ?_ | refine bF ?_ | refine Opt.mk ?_ | with_reducible refine aR ?_ | refine ⟨fun h => absurd (congrArg List.length h) (Nat.succ_ne_zero _), fun _ => ?_⟩ | refine aC ?_ | refine apG ?_); conv => whnf)
  refine Call.mk ((clone59o t ht).onto _ rfl) ?_
  rintro d os' ⟨d1, os1, ⟨rfl, rfl⟩, rfl, rfl⟩
  (conv => whnf); repeat ((first | with_reducible (first | refine Pt.go ?_ | refine dA ?_ | refine dL ?_) | refine Br.t ?_ | refine Br.f ?_ | refine bT ?_ | refine bF ?_ | refine Opt.mk ?_ | with_reducible refine aR ?_ | refine ⟨fun h => absurd (congrArg List.length h) (Nat.succ_ne_zero _), fun _ => ?_⟩ | refine aC ?_ | refine apG ?_); conv => whnf)
  refine Opt.of (get_map hget) ?_
  (conv => whnf); repeat ((first | with_reducible (first | refine Pt.go ?_ | refine dA ?_ | refine dL ?_) | refine Br.t ?_ | refine Br.f ?_ | refine bT ?_ | refine bF ?_ | refine Opt.mk ?_ | with_reducible refine aR ?_ | refine ⟨fun h => absurd (congrArg List.length h) (Nat.succ_ne_zero _), fun _ => ?_⟩ | refine aC ?_ | refine apG ?_); conv => whnf)
  refine Ret.mk [.cell 2 29, .tmp 3, .tmp 4] rfl ?_; (conv => whnf); repeat ((first | with_reducible (first | refine Pt.go ?_ | refine dA ?_ | refine dL ?_) | refine Br.t ?_ | refine Br.f ?_ | refine bT ?_ | refine bF ?_ | refine Opt.mk ?_ | with_reducible refine aR ?_ | refine ⟨fun h => absurd (congrArg List.length h) (Nat.succ_ne_zero _), fun _ => ?_⟩ | refine aC ?_ | refine apG ?_); conv => whnf)
  refine ⟨.tup [thD { t with sk := s }, .int .i64 v, .bool true], View.tup (.cons (.agg (.cons (.same _) (.cons (.same _) (.cons (View.slAll rfl rfl (by simp) (by simp) (ViewL.same _) (pureL_map (fun _ => rfl) _)) (.cons (View.sl rfl (t := 3) (pr := true) (es := t.sk.map (D.int .i64)) rfl ?_ (by simp) ?_ (pureL_map (fun _ => rfl) _)) (.same _)))))) (.same _)), rfl, rfl⟩
  · simp
  · have e2 : ((t.sk.map (D.int .i64)).drop (0 + (0 : Int).toNat)).take ((((t.sk.length : Nat) : Int) - 1).toNat - (0 : Int).toNat) = s.map (D.int .i64) := by
      rw [e, hs]; simp
    rw [show (((t.sk.map (D.int .i64)).drop (0 + (0 : Int).toNat)).take ((((t.sk.length : Nat) : Int) - 1).toNat - (0 : Int).toNat)) = s.map (D.int .i64) from e2]
    exact .same _
def enterR (t : Th) (f : Fm) : Th × Bool := if 8 ≤ t.fr.length then (t, false) else ({ t with fr := t.fr ++ [f] }, true)
theorem enter134 (g : Pg) (t : Th) (ht : t.okB) (k : Nat) (u : Fu) (hu : g.fu[k]? = some u) (h0 : 0 ≤ u.loc ∧ u.loc ≤ 100) : Spec Try.prog 134 [pgD g, thD t, .int .i64 k] [] (fun d os' => d = .tup [thD (enterR t ⟨k, 0, List.replicate u.loc.toNat 0⟩).1, .bool (enterR t ⟨k, 0, List.replicate u.loc.toNat 0⟩).2] ∧ os' = []) := by
  refine Spec.frz (post' := fun d => d = .tup [thD (enterR t ⟨k, 0, List.replicate u.loc.toNat 0⟩).1, .bool (enterR t ⟨k, 0, List.replicate u.loc.toNat 0⟩).2]) ?_
  refine Spec.by Try.func134 rfl (by decide) (by decide +kernel) rfl ?_
  (conv => whnf); repeat ((first | with_reducible (first | refine Pt.go ?_ | refine dA ?_ | refine dL ?_) | refine Br.t ?_ | refine Br.f ?_ | refine bT ?_ | refine bF ?_ | refine Opt.mk ?_ | with_reducible refine aR ?_ | refine ⟨fun h => absurd (congrArg List.length h) (Nat.succ_ne_zero _), fun _ => ?_⟩ | refine aC ?_ | refine apG ?_); conv => whnf)
  refine Br.dec (fun h => ?_) (fun h => ?_)
  · (conv => whnf); repeat ((first | with_reducible (first | refine Pt.go ?_ | refine dA ?_ | refine dL ?_) | refine Br.t ?_ | refine Br.f ?_ | refine bT ?_ | refine bF ?_ | refine Opt.mk ?_ | with_reducible refine aR ?_ | refine ⟨fun h => absurd (congrArg List.length h) (Nat.succ_ne_zero _), fun _ => ?_⟩ | refine aC ?_ | refine apG ?_); conv => whnf)
    refine Ret.mk [.cell 6 29, .tmp 7] rfl ?_; (conv => whnf); repeat ((first | with_reducible (first | refine Pt.go ?_ | refine dA ?_ | refine dL ?_) | refine Br.t ?_ | refine Br.f ?_ | refine bT ?_ | refine bF ?_ | refine Opt.mk ?_ | with_reducible refine aR ?_ | refine ⟨fun h => absurd (congrArg List.length h) (Nat.succ_ne_zero _), fun _ => ?_⟩ | refine aC ?_ | refine apG ?_); conv => whnf)
    have h' : 8 ≤ t.fr.length := by simp at h; omega
    simp only [enterR, if_pos h']
    exact ⟨_, View.same _, rfl, rfl⟩
  · have h' : ¬ 8 ≤ t.fr.length := by simp at h; omega
    (conv => whnf); repeat ((first | with_reducible (first | refine Pt.go ?_ | refine dA ?_ | refine dL ?_) | refine Br.t ?_ | refine Br.f ?_ | refine bT ?_ | refine bF ?_ | refine Opt.mk ?_ | with_reducible refine aR ?_ | refine ⟨fun h => absurd (congrArg List.length h) (Nat.succ_ne_zero _), fun _ => ?_⟩ | refine aC ?_ | refine apG ?_); conv => whnf)
    refine Call.mk ((clone59o t ht).onto _ rfl) ?_
    rintro d os' ⟨d1, os1, ⟨rfl, rfl⟩, rfl, rfl⟩
    (conv => whnf); repeat ((first | with_reducible (first | refine Pt.go ?_ | refine dA ?_ | refine dL ?_) | refine Br.t ?_ | refine Br.f ?_ | refine bT ?_ | refine bF ?_ | refine Opt.mk ?_ | with_reducible refine aR ?_ | refine ⟨fun h => absurd (congrArg List.length h) (Nat.succ_ne_zero _), fun _ => ?_⟩ | refine aC ?_ | refine apG ?_); conv => whnf)
    refine Call.mk ((frame111f g k u hu h0).only _ rfl (by rintro d rfl; rfl)) ?_
    rintro d os' ⟨rfl, rfl⟩
    (conv => whnf); repeat ((first | with_reducible (first | refine Pt.go ?_ | refine dA ?_ | refine dL ?_) | refine Br.t ?_ | refine Br.f ?_ | refine bT ?_ | refine bF ?_ | refine Opt.mk ?_ | with_reducible refine aR ?_ | refine ⟨fun h => absurd (congrArg List.length h) (Nat.succ_ne_zero _), fun _ => ?_⟩ | refine aC ?_ | refine apG ?_); conv => whnf)
    refine App.only false rfl rfl ?_
    (conv => whnf); repeat ((first | with_reducible (first | refine Pt.go ?_ | refine dA ?_ | refine dL ?_) | refine Br.t ?_ | refine Br.f ?_ | refine bT ?_ | refine bF ?_ | refine Opt.mk ?_ | with_reducible refine aR ?_ | refine ⟨fun h => absurd (congrArg List.length h) (Nat.succ_ne_zero _), fun _ => ?_⟩ | refine aC ?_ | refine apG ?_); conv => whnf)
    refine Ret.mk [.cell 6 29, .tmp 7] rfl ?_; (conv => whnf); repeat ((first | with_reducible (first | refine Pt.go ?_ | refine dA ?_ | refine dL ?_) | refine Br.t ?_ | refine Br.f ?_ | refine bT ?_ | refine bF ?_ | refine Opt.mk ?_ | with_reducible refine aR ?_ | refine ⟨fun h => absurd (congrArg List.length h) (Nat.succ_ne_zero _), fun _ => ?_⟩ | refine aC ?_ | refine apG ?_); conv => whnf)
    simp only [enterR, if_neg h']
    refine ⟨.tup [thD { t with fr := t.fr ++ [⟨k, 0, List.replicate u.loc.toNat 0⟩] }, .bool true], View.tup (.cons (.agg (.cons (.same _) (.cons (.same _) (.cons (View.slAll rfl (t := 34) (pr := true) (es := t.fr.map frD ++ [frD ⟨k, 0, List.replicate u.loc.toNat 0⟩]) rfl (by simp [setAll]) (by simp) ?_ (pureL_map (fun _ => rfl) _)) (.cons (View.slAll rfl rfl (by simp) (by simp) (ViewL.same _) (pureL_map (fun _ => rfl) _)) (.same _)))))) (.same _)), rfl, rfl⟩
    show ViewL _ _ _ ((t.fr ++ [_]).map frD)
    rw [List.map_append]
    exact .same _
theorem leave135 (t : Th) (ht : t.okB) (s : List Fm) (f : Fm) (hs : t.fr = s ++ [f]) : Spec Try.prog 135 [thD t] [] (fun d os' => d = .tup [thD { t with fr := s }, .bool (decide (0 < s.length))] ∧ os' = []) := by
  refine Spec.frz (post' := fun d => d = .tup [thD { t with fr := s }, .bool (decide (0 < s.length))]) ?_
  have hl' : t.fr.length = s.length + 1 := by rw [hs]; simp
  have hb := ht.1
  have e : (((t.fr.length : Nat) : Int) - 1).toNat = s.length := by omega
  refine Spec.by Try.func135 rfl (by decide) (by decide +kernel) rfl ?_
  (conv => whnf); repeat ((first | with_reducible (first | refine Pt.go ?_ | refine dA ?_ | refine dL ?_) | refine Br.t ?_ | refine Br.f ?_ | refine bT ?_ | refine bF ?_ | refine Opt.mk ?_ | with_reducible refine aR ?_ | refine ⟨fun h => absurd (congrArg List.length h) (Nat.succ_ne_zero _), fun _ => ?_⟩ | refine aC ?_ | refine apG ?_); conv => whnf)
  refine Call.mk ((clone59o t ht).onto _ rfl) ?_
  rintro d os' ⟨d1, os1, ⟨rfl, rfl⟩, rfl, rfl⟩
  (conv => whnf); repeat ((first | with_reducible (first | refine Pt.go ?_ | refine dA ?_ | refine dL ?_) | refine Br.t ?_ | refine Br.f ?_ | refine bT ?_ | refine bF ?_ | refine Opt.mk ?_ | with_reducible refine aR ?_ | refine ⟨fun h => absurd (congrArg List.length h) (Nat.succ_ne_zero _), fun _ => ?_⟩ | refine aC ?_ | refine apG ?_); conv => whnf)
  refine Ret.mk [.cell 2 29, .tmp 3] rfl ?_; (conv => whnf); repeat ((first | with_reducible (first | refine Pt.go ?_ | refine dA ?_ | refine dL ?_) | refine Br.t ?_ | refine Br.f ?_ | refine bT ?_ | refine bF ?_ | refine Opt.mk ?_ | with_reducible refine aR ?_ | refine ⟨fun h => absurd (congrArg List.length h) (Nat.succ_ne_zero _), fun _ => ?_⟩ | refine aC ?_ | refine apG ?_); conv => whnf)
  have e3 : decide ((0 : Int) < (((((t.fr.length : Nat) : Int) - 1).toNat - (0 : Int).toNat : Nat) : Int)) = decide (0 < s.length) := decide_eq_decide.2 (by omega)
  refine ⟨.tup [thD { t with fr := s }, .bool (decide ((0 : Int) < (((((t.fr.length : Nat) : Int) - 1).toNat - (0 : Int).toNat : Nat) : Int)))], View.tup (.cons (.agg (.cons (.same _) (.cons (.same _) (.cons (View.sl rfl (t := 34) (pr := true) (es := t.fr.map frD) rfl ?_ (by simp) ?_ (pureL_map (fun _ => rfl) _)) (.cons (View.slAll rfl rfl (by simp) (by simp) (ViewL.same _) (pureL_map (fun _ => rfl) _)) (.same _)))))) (.same _)), rfl, by rw [e3]⟩
  · simp
  · have e2 : ((t.fr.map frD).drop (0 + (0 : Int).toNat)).take ((((t.fr.length : Nat) : Int) - 1).toNat - (0 : Int).toNat) = s.map frD := by
      rw [e, hs]; simp
    rw [show (((t.fr.map frD).drop (0 + (0 : Int).toNat)).take ((((t.fr.length : Nat) : Int) - 1).toNat - (0 : Int).toNat)) = s.map frD from e2]
    exact .same _
theorem jump137 (t : Th) (ht : t.okB) (s : List Fm) (f : Fm) (hs : t.fr = s ++ [f]) (pc : Int) : Spec Try.prog 137 [thD t, .int .i64 pc] [] (fun d os' => d = thD { t with fr := s ++ [⟨f.fn, pc, f.ls⟩] } ∧ os' = []) := by
  refine Spec.frz (post' := fun d => d = thD { t with fr := s ++ [⟨f.fn, pc, f.ls⟩] }) ?_
  have hl' : t.fr.length = s.length + 1 := by rw [hs]; simp
  have hb := ht.1
  have e : (((t.fr.length : Nat) : Int) - 1).toNat = s.length := by omega
  have hget : t.fr[0 + (((t.fr.length : Nat) : Int) - 1).toNat]? = some f := by rw [e, hs]; simp
  refine Spec.by Try.func137 rfl (by decide) (by decide +kernel) rfl ?_
  (conv => whnf); repeat ((first | with_reducible (first | refine Pt.go ?_ | refine dA ?_ | refine dL ?_) | refine Br.t ?_ | refine Br.f ?_ | refine bT ?_ | refine bF ?_ | refine Opt.mk ?_ | with_reducible refine aR ?_ | refine ⟨fun h => absurd (congrArg List.length h) (Nat.succ_ne_zero _), fun _ => ?_⟩ | refine aC ?_ | refine apG ?_); conv => whnf)
  refine Call.mk ((clone59o t ht).onto _ rfl) ?_
  rintro d os' ⟨d1, os1, ⟨rfl, rfl⟩, rfl, rfl⟩
  (conv => whnf); repeat ((first | with_reducible (first | refine Pt.go ?_ | refine dA ?_ | refine dL ?_) | refine Br.t ?_ | refine Br.f ?_ | refine bT ?_ | refine bF ?_ | refine Opt.mk ?_ | with_reducible refine aR ?_ | refine ⟨fun h => absurd (congrArg List.length h) (Nat.succ_ne_zero _), fun _ => ?_⟩ | refine aC ?_ | refine apG ?_); conv => whnf)
  refine Opt.of (get_map hget) ?_
  (conv => whnf); repeat ((first | with_reducible (first | refine Pt.go ?_ | refine dA ?_ | refine dL ?_) | refine Br.t ?_ | refine Br.f ?_ | refine bT ?_ | refine bF ?_ | refine Opt.mk ?_ | with_reducible refine aR ?_ | refine ⟨fun h => absurd (congrArg List.length h) (Nat.succ_ne_zero _), fun _ => ?_⟩ | refine aC ?_ | refine apG ?_); conv => whnf)
  refine Ret.mk [.cell 4 29] rfl ?_; (conv => whnf); repeat ((first | with_reducible (first | refine Pt.go ?_ | refine dA ?_ | refine dL ?_) | refine Br.t ?_ | refine Br.f ?_ | refine bT ?_ | refine bF ?_ | refine Opt.mk ?_ | with_reducible refine aR ?_ | refine ⟨fun h => absurd (congrArg List.length h) (Nat.succ_ne_zero _), fun _ => ?_⟩ | refine aC ?_ | refine apG ?_); conv => whnf)
  refine ⟨thD { t with fr := s ++ [⟨f.fn, pc, f.ls⟩] }, View.agg (.cons (.same _) (.cons (.same _) (.cons (View.slAll rfl (t := 34) (pr := true) (es := (t.fr.map frD).set (0 + (((t.fr.length : Nat) : Int) - 1).toNat) (frD ⟨f.fn, pc, f.ls⟩)) rfl (by simp) (by simp) ?_ (pureL_map (fun _ => rfl) _)) (.cons (View.slAll rfl rfl (by simp) (by simp) (ViewL.same _) (pureL_map (fun _ => rfl) _)) (.same _))))), rfl, rfl⟩
  have e2 : (t.fr.map frD).set (0 + (((t.fr.length : Nat) : Int) - 1).toNat) (frD ⟨f.fn, pc, f.ls⟩) = (s ++ [(⟨f.fn, pc, f.ls⟩ : Fm)]).map frD := by
    rw [e, hs, Nat.zero_add, ← List.map_set]
    congr 1
    simp
  rw [e2]
  exact .same _
theorem clone130o (xs : List Int) (hl : xs.length * 8 ≤ 140737488351232) (hx : xs ≠ []) : Spec Try.prog 130 [ints xs] [] (fun d os' => d = .sl 0 0 1 0 xs.length none ∧ os' = [rowI xs]) := by
  have hm : (xs.map (D.int .i64)) ≠ [] := fun e => hx (List.map_eq_nil_iff.1 e)
  refine Spec.by Try.func130 rfl (by decide) (by decide +kernel) rfl ?_
  (conv => whnf); repeat ((first | with_reducible (first | refine Pt.go ?_ | refine dA ?_ | refine dL ?_) | refine Br.t ?_ | refine Br.f ?_ | refine bT ?_ | refine bF ?_ | refine Opt.mk ?_ | with_reducible refine aR ?_ | refine ⟨fun h => absurd (congrArg List.length h) (Nat.succ_ne_zero _), fun _ => ?_⟩ | refine aC ?_ | refine apG ?_); conv => whnf)
  refine And.intro (fun hn => ?_) (fun hn => absurd hn hm)
  (conv => whnf); repeat ((first | with_reducible (first | refine Pt.go ?_ | refine dA ?_ | refine dL ?_) | refine Br.t ?_ | refine Br.f ?_ | refine bT ?_ | refine bF ?_ | refine Opt.mk ?_ | with_reducible refine aR ?_ | refine ⟨fun h => absurd (congrArg List.length h) (Nat.succ_ne_zero _), fun _ => ?_⟩ | refine aC ?_ | refine apG ?_); conv => whnf)
  refine App.own ?_
  (conv => whnf); repeat ((first | with_reducible (first | refine Pt.go ?_ | refine dA ?_ | refine dL ?_) | refine Br.t ?_ | refine Br.f ?_ | refine bT ?_ | refine bF ?_ | refine Opt.mk ?_ | with_reducible refine aR ?_ | refine ⟨fun h => absurd (congrArg List.length h) (Nat.succ_ne_zero _), fun _ => ?_⟩ | refine aC ?_ | refine apG ?_); conv => whnf)
  refine Ret.weak (Weak.shift 1 0 (by decide) (by simp) (Nat.le_of_ble_eq_true rfl) (Nat.le_of_ble_eq_true rfl) (fun j => by cases j <;> rfl) rfl) ?_
  refine Ret.trim 1 (by simp) rfl (Nat.le_of_ble_eq_true rfl) ?_
  refine Ret.mk [.tmp _] rfl (And.intro ?_ rfl)
  show D.sl 0 0 1 0 (0 + (xs.map (D.int .i64)).length) none = _
  simp
theorem set138 (t : Th) (s : List Fm) (f : Fm) (hs : t.fr = s ++ [f]) (hl : s.length ≤ 1000000) (hf : f.ls.length ≤ 1000000) (i : Nat) (hi : i < f.ls.length) (v : Int) : Spec Try.prog 138 [thD t, .int .i64 i, .int .i64 v] [] (fun d os' => d = thD { t with fr := s ++ [⟨f.fn, f.pc, f.ls.set i (keep v)⟩] } ∧ os' = []) := by
  refine Spec.frz (post' := fun d => d = thD { t with fr := s ++ [⟨f.fn, f.pc, f.ls.set i (keep v)⟩] }) ?_
  have hget : f.ls[0 + i]? = some (f.ls[i]) := by rw [Nat.zero_add]; exact List.getElem?_eq_getElem hi
  refine Spec.by Try.func138 rfl (by decide) (by decide +kernel) rfl ?_
  (conv => whnf); repeat ((first | with_reducible (first | refine Pt.go ?_ | refine dA ?_ | refine dL ?_) | refine Br.t ?_ | refine Br.f ?_ | refine bT ?_ | refine bF ?_ | refine Opt.mk ?_ | with_reducible refine aR ?_ | refine ⟨fun h => absurd (congrArg List.length h) (Nat.succ_ne_zero _), fun _ => ?_⟩ | refine aC ?_ | refine apG ?_); conv => whnf)
  refine Call.mk ((top190 t s f hs hl).only _ rfl (by rintro d rfl; rfl)) ?_
  rintro d os' ⟨rfl, rfl⟩
  (conv => whnf); repeat ((first | with_reducible (first | refine Pt.go ?_ | refine dA ?_ | refine dL ?_) | refine Br.t ?_ | refine Br.f ?_ | refine bT ?_ | refine bF ?_ | refine Opt.mk ?_ | with_reducible refine aR ?_ | refine ⟨fun h => absurd (congrArg List.length h) (Nat.succ_ne_zero _), fun _ => ?_⟩ | refine aC ?_ | refine apG ?_); conv => whnf)
  refine Call.mk ((clone130o f.ls (by omega) (fun e => by rw [e] at hi; simp at hi)).onto _ rfl) ?_
  rintro d os' ⟨d1, os1, ⟨rfl, rfl⟩, rfl, rfl⟩
  (conv => whnf); repeat ((first | with_reducible (first | refine Pt.go ?_ | refine dA ?_ | refine dL ?_) | refine Br.t ?_ | refine Br.f ?_ | refine bT ?_ | refine bF ?_ | refine Opt.mk ?_ | with_reducible refine aR ?_ | refine ⟨fun h => absurd (congrArg List.length h) (Nat.succ_ne_zero _), fun _ => ?_⟩ | refine aC ?_ | refine apG ?_); conv => whnf)
  refine Call.mk (keep35 v _) ?_
  rintro d os' ⟨rfl, rfl⟩
  (conv => whnf); repeat ((first | with_reducible (first | refine Pt.go ?_ | refine dA ?_ | refine dL ?_) | refine Br.t ?_ | refine Br.f ?_ | refine bT ?_ | refine bF ?_ | refine Opt.mk ?_ | with_reducible refine aR ?_ | refine ⟨fun h => absurd (congrArg List.length h) (Nat.succ_ne_zero _), fun _ => ?_⟩ | refine aC ?_ | refine apG ?_); conv => whnf)
  refine Opt.of (get_map hget) ?_
  (conv => whnf); repeat ((first | with_reducible (first | refine dA ?_ | refine dL ?_) | refine Br.t ?_ | refine Br.f ?_ | refine bT ?_ | refine bF ?_ | refine Opt.mk ?_ | with_reducible refine aR ?_ | refine ⟨fun h => absurd (congrArg List.length h) (Nat.succ_ne_zero _), fun _ => ?_⟩ | refine aC ?_ | refine apG ?_); conv => whnf)
  refine Pt.weak (Weak.frzO (fun i => Nat.beq i 3) [] 2 (ty := 34) (sz := 3) (es := [.agg [.int .i64 f.fn, .int .i64 f.pc, .sl 3 0 1 0 f.ls.length none]]) rfl rfl [frD ⟨f.fn, f.pc, f.ls.set i (keep v)⟩] rfl ?_ trivial) ?_
  · refine .cons (.agg (.cons (.same _) (.cons (.same _) (.cons (View.slAll rfl rfl (by simp) (by simp) ?_ (pureL_map (fun _ => rfl) _)) .nil)))) .nil
    have e : (f.ls.map (D.int .i64)).set (0 + i) (.int .i64 (keep v)) = (f.ls.set i (keep v)).map (D.int .i64) := by rw [Nat.zero_add, List.map_set]
    show ViewL _ _ ((f.ls.map (D.int .i64)).set (0 + i) (.int .i64 (keep v))) _
    rw [e]
    exact .same _
  (conv => whnf); repeat ((first | with_reducible (first | refine Pt.go ?_ | refine dA ?_ | refine dL ?_) | refine Br.t ?_ | refine Br.f ?_ | refine bT ?_ | refine bF ?_ | refine Opt.mk ?_ | with_reducible refine aR ?_ | refine ⟨fun h => absurd (congrArg List.length h) (Nat.succ_ne_zero _), fun _ => ?_⟩ | refine aC ?_ | refine apG ?_); conv => whnf)
  refine Call.mk ((with191 t s f ⟨f.fn, f.pc, f.ls.set i (keep v)⟩ hs hl).only _ rfl (by rintro d rfl; rfl)) ?_
  rintro d os' ⟨rfl, rfl⟩
  (conv => whnf); repeat ((first | with_reducible (first | refine Pt.go ?_ | refine dA ?_ | refine dL ?_) | refine Br.t ?_ | refine Br.f ?_ | refine bT ?_ | refine bF ?_ | refine Opt.mk ?_ | with_reducible refine aR ?_ | refine ⟨fun h => absurd (congrArg List.length h) (Nat.succ_ne_zero _), fun _ => ?_⟩ | refine aC ?_ | refine apG ?_); conv => whnf)
  refine Ret.mk [.cell 6 29] rfl ?_; (conv => whnf); repeat ((first | with_reducible (first | refine Pt.go ?_ | refine dA ?_ | refine dL ?_) | refine Br.t ?_ | refine Br.f ?_ | refine bT ?_ | refine bF ?_ | refine Opt.mk ?_ | with_reducible refine aR ?_ | refine ⟨fun h => absurd (congrArg List.length h) (Nat.succ_ne_zero _), fun _ => ?_⟩ | refine aC ?_ | refine apG ?_); conv => whnf)
  exact ⟨_, View.same _, rfl, rfl⟩
/-- What a thread does next. -/
def fetchI (g : Pg) (f : Fm) : (Int × Int) × Bool := match g.fu[f.fn.toNat]? with
  | none => ((0, 0), false)
  | some u => match u.code[f.pc.toNat]? with
    | none => ((0, 0), false)
    | some x => (x, true)
theorem at196 (g : Pg) (k : Nat) (u : Fu) (hu : g.fu[k]? = some u) (pc : Nat) : Spec Try.prog 196 [pgD g, .int .i64 k, .int .i64 pc] [] (fun d os' => d = .tup [inD (fetchI g ⟨k, pc, []⟩).1, .bool (fetchI g ⟨k, pc, []⟩).2] ∧ os' = []) := by
  refine Spec.frz (post' := fun d => d = .tup [inD (fetchI g ⟨k, pc, []⟩).1, .bool (fetchI g ⟨k, pc, []⟩).2]) ?_
  have hkl := (List.getElem?_eq_some_iff.1 hu).1
  have hkl' : k < (g.fu.map fuD).length := by rw [List.length_map]; exact hkl
  refine Spec.by Try.func196 rfl (by decide) (by decide +kernel) rfl ?_
  (conv => whnf); repeat ((first | with_reducible (first | refine Pt.go ?_ | refine dA ?_ | refine dL ?_) | refine Br.t ?_ | refine Br.f ?_ | refine bT ?_ | refine bF ?_ | refine Opt.mk ?_ | with_reducible refine aR ?_ | refine ⟨fun h => absurd (congrArg List.length h) (Nat.succ_ne_zero _), fun _ => ?_⟩ | refine aC ?_ | refine apG ?_); conv => whnf)
  refine Opt.of (get_map hu) ?_
  (conv => whnf); repeat ((first | with_reducible (first | refine Pt.go ?_ | refine dA ?_ | refine dL ?_) | refine Br.t ?_ | refine Br.f ?_ | refine bT ?_ | refine bF ?_ | refine Opt.mk ?_ | with_reducible refine aR ?_ | refine ⟨fun h => absurd (congrArg List.length h) (Nat.succ_ne_zero _), fun _ => ?_⟩ | refine aC ?_ | refine apG ?_); conv => whnf)
  refine Br.dec (fun h => ?_) (fun h => ?_)
  · (conv => whnf); repeat ((first | with_reducible (first | refine Pt.go ?_ | refine dA ?_ | refine dL ?_) | refine Br.t ?_ | refine Br.f ?_ | refine bT ?_ | refine bF ?_ | refine Opt.mk ?_ | with_reducible refine aR ?_ | refine ⟨fun h => absurd (congrArg List.length h) (Nat.succ_ne_zero _), fun _ => ?_⟩ | refine aC ?_ | refine apG ?_); conv => whnf)
    refine Ret.mk [.cell 6 139, .tmp 7] rfl ?_; (conv => whnf); repeat ((first | with_reducible (first | refine Pt.go ?_ | refine dA ?_ | refine dL ?_) | refine Br.t ?_ | refine Br.f ?_ | refine bT ?_ | refine bF ?_ | refine Opt.mk ?_ | with_reducible refine aR ?_ | refine ⟨fun h => absurd (congrArg List.length h) (Nat.succ_ne_zero _), fun _ => ?_⟩ | refine aC ?_ | refine apG ?_); conv => whnf)
    have hx : u.code[pc]? = none := List.getElem?_eq_none (by rw [List.length_map] at h; omega)
    have e : fetchI g ⟨k, pc, []⟩ = ((0, 0), false) := by unfold fetchI; dsimp only; rw [Int.toNat_natCast, hu]; dsimp only; rw [Int.toNat_natCast, hx]
    rw [e]
    exact ⟨_, View.same _, rfl, rfl⟩
  · obtain ⟨x, hx⟩ : ∃ x, u.code[pc]? = some x := ⟨_, List.getElem?_eq_getElem (by rw [List.length_map] at h; omega)⟩
    have e : fetchI g ⟨k, pc, []⟩ = (x, true) := by unfold fetchI; dsimp only; rw [Int.toNat_natCast, hu]; dsimp only; rw [Int.toNat_natCast, hx]
    (conv => whnf); repeat ((first | with_reducible (first | refine Pt.go ?_ | refine dA ?_ | refine dL ?_) | refine Br.t ?_ | refine Br.f ?_ | refine bT ?_ | refine bF ?_ | refine Opt.mk ?_ | with_reducible refine aR ?_ | refine ⟨fun h => absurd (congrArg List.length h) (Nat.succ_ne_zero _), fun _ => ?_⟩ | refine aC ?_ | refine apG ?_); conv => whnf)
    refine Opt.of (get_map hu) ?_
    (conv => whnf); repeat ((first | with_reducible (first | refine Pt.go ?_ | refine dA ?_ | refine dL ?_) | refine Br.t ?_ | refine Br.f ?_ | refine bT ?_ | refine bF ?_ | refine Opt.mk ?_ | with_reducible refine aR ?_ | refine ⟨fun h => absurd (congrArg List.length h) (Nat.succ_ne_zero _), fun _ => ?_⟩ | refine aC ?_ | refine apG ?_); conv => whnf)
    refine Opt.of (get_map hx) ?_
    (conv => whnf); repeat ((first | with_reducible (first | refine Pt.go ?_ | refine dA ?_ | refine dL ?_) | refine Br.t ?_ | refine Br.f ?_ | refine bT ?_ | refine bF ?_ | refine Opt.mk ?_ | with_reducible refine aR ?_ | refine ⟨fun h => absurd (congrArg List.length h) (Nat.succ_ne_zero _), fun _ => ?_⟩ | refine aC ?_ | refine apG ?_); conv => whnf)
    refine Ret.mk [.cell 6 139, .tmp 7] rfl ?_; (conv => whnf); repeat ((first | with_reducible (first | refine Pt.go ?_ | refine dA ?_ | refine dL ?_) | refine Br.t ?_ | refine Br.f ?_ | refine bT ?_ | refine bF ?_ | refine Opt.mk ?_ | with_reducible refine aR ?_ | refine ⟨fun h => absurd (congrArg List.length h) (Nat.succ_ne_zero _), fun _ => ?_⟩ | refine aC ?_ | refine apG ?_); conv => whnf)
    rw [e]
    exact ⟨_, View.same _, rfl, rfl⟩
theorem fetch161 (g : Pg) (t : Th) (s : List Fm) (k pc : Nat) (ls : List Int) (u : Fu) (hu : g.fu[k]? = some u) (hs : t.fr = s ++ [⟨k, pc, ls⟩]) (hl : s.length ≤ 1000000) : Spec Try.prog 161 [pgD g, thD t] [] (fun d os' => d = .tup [inD (fetchI g ⟨k, pc, []⟩).1, .bool (fetchI g ⟨k, pc, []⟩).2] ∧ os' = []) := by
  refine Spec.frz (post' := fun d => d = .tup [inD (fetchI g ⟨k, pc, []⟩).1, .bool (fetchI g ⟨k, pc, []⟩).2]) ?_
  refine Spec.by Try.func161 rfl (by decide) (by decide +kernel) rfl ?_
  (conv => whnf); repeat ((first | with_reducible (first | refine Pt.go ?_ | refine dA ?_ | refine dL ?_) | refine Br.t ?_ | refine Br.f ?_ | refine bT ?_ | refine bF ?_ | refine Opt.mk ?_ | with_reducible refine aR ?_ | refine ⟨fun h => absurd (congrArg List.length h) (Nat.succ_ne_zero _), fun _ => ?_⟩ | refine aC ?_ | refine apG ?_); conv => whnf)
  refine Call.mk ((top190 t s ⟨k, pc, ls⟩ hs hl).only _ rfl (by rintro d rfl; rfl)) ?_
  rintro d os' ⟨rfl, rfl⟩
  (conv => whnf); repeat ((first | with_reducible (first | refine Pt.go ?_ | refine dA ?_ | refine dL ?_) | refine Br.t ?_ | refine Br.f ?_ | refine bT ?_ | refine bF ?_ | refine Opt.mk ?_ | with_reducible refine aR ?_ | refine ⟨fun h => absurd (congrArg List.length h) (Nat.succ_ne_zero _), fun _ => ?_⟩ | refine aC ?_ | refine apG ?_); conv => whnf)
  refine Call.mk ((at196 g k u hu pc).only _ rfl (by rintro d rfl; rfl)) ?_
  rintro d os' ⟨rfl, rfl⟩
  (conv => whnf); repeat ((first | with_reducible (first | refine Pt.go ?_ | refine dA ?_ | refine dL ?_) | refine Br.t ?_ | refine Br.f ?_ | refine bT ?_ | refine bF ?_ | refine Opt.mk ?_ | with_reducible refine aR ?_ | refine ⟨fun h => absurd (congrArg List.length h) (Nat.succ_ne_zero _), fun _ => ?_⟩ | refine aC ?_ | refine apG ?_); conv => whnf)
  refine Ret.mk [.cell 4 139, .tmp 5] rfl ?_; (conv => whnf); repeat ((first | with_reducible (first | refine Pt.go ?_ | refine dA ?_ | refine dL ?_) | refine Br.t ?_ | refine Br.f ?_ | refine bT ?_ | refine bF ?_ | refine Opt.mk ?_ | with_reducible refine aR ?_ | refine ⟨fun h => absurd (congrArg List.length h) (Nat.succ_ne_zero _), fun _ => ?_⟩ | refine aC ?_ | refine apG ?_); conv => whnf)
  exact ⟨_, View.same _, rfl, rfl⟩
theorem fetch163 (g : Pg) (t : Th) (s : List Fm) (k pc : Nat) (ls : List Int) (u : Fu) (hu : g.fu[k]? = some u) (hs : t.fr = s ++ [⟨k, pc, ls⟩]) (hl : s.length ≤ 1000000) : Spec Try.prog 163 [pgD g, thD t] [] (fun d os' => d = .tup [inD (fetchI g ⟨k, pc, []⟩).1, .bool (fetchI g ⟨k, pc, []⟩).2] ∧ os' = []) := by
  refine Spec.frz (post' := fun d => d = .tup [inD (fetchI g ⟨k, pc, []⟩).1, .bool (fetchI g ⟨k, pc, []⟩).2]) ?_
  have hlen : (t.fr.map frD).length = s.length + 1 := by rw [hs]; simp
  have e : ((((t.fr.map frD).length : Nat) : Int) - 1).toNat = s.length := by omega
  have hget : t.fr[((((t.fr.map frD).length : Nat) : Int) - 1).toNat]? = some ⟨k, pc, ls⟩ := by rw [e, hs]; simp
  refine Spec.by Try.func163 rfl (by decide) (by decide +kernel) rfl ?_
  (conv => whnf); repeat ((first | with_reducible (first | refine Pt.go ?_ | refine dA ?_ | refine dL ?_) | refine Br.t ?_ | refine Br.f ?_ | refine bT ?_ | refine bF ?_ | refine Opt.mk ?_ | with_reducible refine aR ?_ | refine ⟨fun h => absurd (congrArg List.length h) (Nat.succ_ne_zero _), fun _ => ?_⟩ | refine aC ?_ | refine apG ?_); conv => whnf)
  refine Opt.of (get_map hget) ?_
  (conv => whnf); repeat ((first | with_reducible (first | refine Pt.go ?_ | refine dA ?_ | refine dL ?_) | refine Br.t ?_ | refine Br.f ?_ | refine bT ?_ | refine bF ?_ | refine Opt.mk ?_ | with_reducible refine aR ?_ | refine ⟨fun h => absurd (congrArg List.length h) (Nat.succ_ne_zero _), fun _ => ?_⟩ | refine aC ?_ | refine apG ?_); conv => whnf)
  refine Opt.of (get_map hu) ?_
  (conv => whnf); repeat ((first | with_reducible (first | refine Pt.go ?_ | refine dA ?_ | refine dL ?_) | refine Br.t ?_ | refine Br.f ?_ | refine bT ?_ | refine bF ?_ | refine Opt.mk ?_ | with_reducible refine aR ?_ | refine ⟨fun h => absurd (congrArg List.length h) (Nat.succ_ne_zero _), fun _ => ?_⟩ | refine aC ?_ | refine apG ?_); conv => whnf)
  refine Br.dec (fun h => ?_) (fun h => ?_)
  · (conv => whnf); repeat ((first | with_reducible (first | refine Pt.go ?_ | refine dA ?_ | refine dL ?_) | refine Br.t ?_ | refine Br.f ?_ | refine bT ?_ | refine bF ?_ | refine Opt.mk ?_ | with_reducible refine aR ?_ | refine ⟨fun h => absurd (congrArg List.length h) (Nat.succ_ne_zero _), fun _ => ?_⟩ | refine aC ?_ | refine apG ?_); conv => whnf)
    refine Ret.mk [.cell 4 139, .tmp 5] rfl ?_; (conv => whnf); repeat ((first | with_reducible (first | refine Pt.go ?_ | refine dA ?_ | refine dL ?_) | refine Br.t ?_ | refine Br.f ?_ | refine bT ?_ | refine bF ?_ | refine Opt.mk ?_ | with_reducible refine aR ?_ | refine ⟨fun h => absurd (congrArg List.length h) (Nat.succ_ne_zero _), fun _ => ?_⟩ | refine aC ?_ | refine apG ?_); conv => whnf)
    have hx : u.code[pc]? = none := List.getElem?_eq_none (by rw [List.length_map] at h; have h' : (u.code.length : Int) ≤ (pc : Int) := h; omega)
    have e : fetchI g ⟨k, pc, []⟩ = ((0, 0), false) := by unfold fetchI; dsimp only; rw [Int.toNat_natCast, hu]; dsimp only; rw [Int.toNat_natCast, hx]
    rw [e]
    exact ⟨_, View.same _, rfl, rfl⟩
  · obtain ⟨x, hx⟩ : ∃ x, u.code[pc]? = some x := ⟨_, List.getElem?_eq_getElem (by rw [List.length_map] at h; have h' : ¬ (u.code.length : Int) ≤ (pc : Int) := h; omega)⟩
    have e : fetchI g ⟨k, pc, []⟩ = (x, true) := by unfold fetchI; dsimp only; rw [Int.toNat_natCast, hu]; dsimp only; rw [Int.toNat_natCast, hx]
    (conv => whnf); repeat ((first | with_reducible (first | refine Pt.go ?_ | refine dA ?_ | refine dL ?_) | refine Br.t ?_ | refine Br.f ?_ | refine bT ?_ | refine bF ?_ | refine Opt.mk ?_ | with_reducible refine aR ?_ | refine ⟨fun h => absurd (congrArg List.length h) (Nat.succ_ne_zero _), fun _ => ?_⟩ | refine aC ?_ | refine apG ?_); conv => whnf)
    refine Opt.of (get_map hx) ?_
    (conv => whnf); repeat ((first | with_reducible (first | refine Pt.go ?_ | refine dA ?_ | refine dL ?_) | refine Br.t ?_ | refine Br.f ?_ | refine bT ?_ | refine bF ?_ | refine Opt.mk ?_ | with_reducible refine aR ?_ | refine ⟨fun h => absurd (congrArg List.length h) (Nat.succ_ne_zero _), fun _ => ?_⟩ | refine aC ?_ | refine apG ?_); conv => whnf)
    refine Ret.mk [.cell 4 139, .tmp 5] rfl ?_; (conv => whnf); repeat ((first | with_reducible (first | refine Pt.go ?_ | refine dA ?_ | refine dL ?_) | refine Br.t ?_ | refine Br.f ?_ | refine bT ?_ | refine bF ?_ | refine Opt.mk ?_ | with_reducible refine aR ?_ | refine ⟨fun h => absurd (congrArg List.length h) (Nat.succ_ne_zero _), fun _ => ?_⟩ | refine aC ?_ | refine apG ?_); conv => whnf)
    rw [e]
    exact ⟨_, View.same _, rfl, rfl⟩
end Go.Proofs.Ytaplihoeephbeaa.V
