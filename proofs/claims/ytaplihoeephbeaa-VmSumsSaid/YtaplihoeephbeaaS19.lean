/- S19: a text of a symbolic executor that is proved sound, and contracts that are proved with it. -/
import Derived.Test.YtaplihoeephbeaaS17
namespace Go.Proofs.Ytaplihoeephbeaa.V
open Go Go.Proofs
set_option maxRecDepth 100000
set_option maxHeartbeats 4000000
theorem clone59o (t : Th) (h : t.okB) : Spec Try.prog 59 [thD t] [] (fun d os' => d = .agg [.int .i64 t.st, .int .i64 t.on, .sl 0 0 3 0 t.fr.length none, .sl 1 0 1 0 t.sk.length none, .int .i64 t.code] ∧ os' = [rowF t.fr, rowI t.sk]) := by
  obtain ⟨h1, h2, h3⟩ := h
  refine Spec.weak (post := fun d os' => d = .agg [.int .i64 t.st, .int .i64 t.on, .sl 2 0 3 0 t.fr.length none, .sl 4 0 1 0 t.sk.length none, .int .i64 t.code] ∧ ∃ a b : Fam, os' = [a, b, rowF t.fr, one .gone, rowI t.sk]) ?_ ?_
  · refine Spec.by Try.func59 rfl (by decide) (by decide +kernel) rfl ?_
    (conv => whnf); repeat ((first | with_reducible (first | refine Pt.go ?_ | refine dA ?_ | refine dL ?_) | refine Br.t ?_ | refine Br.f ?_ | refine bT ?_ | refine bF ?_ | refine Opt.mk ?_ | with_reducible refine aR ?_ | refine ⟨fun h => absurd (congrArg List.length h) (Nat.succ_ne_zero _), fun _ => ?_⟩ | refine aC ?_ | refine apG ?_); conv => whnf)
    refine Loop.inv (A := Nat) [] (fun i => [(4, .int .i64 (i : Int)), (3, .sl 2 0 3 0 i none)]) (fun i => [one (.row 29 5 false [thD t]), one (.row 29 5 false [z29]), rowF (t.fr.take i)]) (fun i => i ≤ t.fr.length) (fun i => t.fr.length - i) 0 (Nat.zero_le _) ?_ ?_
    · refine Weak.trans (Weak.nilrow 3 rfl 34 3 true) ?_
      exact Weak.start' rfl rfl ⟨rfl, rfl, trivial⟩
    intro i hi
    (conv => whnf); repeat ((first | with_reducible (first | refine Pt.go ?_ | refine dA ?_ | refine dL ?_) | refine Br.t ?_ | refine Br.f ?_ | refine bT ?_ | refine bF ?_ | refine Opt.mk ?_ | with_reducible refine aR ?_ | refine ⟨fun h => absurd (congrArg List.length h) (Nat.succ_ne_zero _), fun _ => ?_⟩ | refine aC ?_ | refine apG ?_); conv => whnf)
    refine Br.dec (fun h => ?_) (fun h => ?_)
    · simp only [List.length_map] at h
      have hget : t.fr[i]? = some t.fr[i] := List.getElem?_eq_getElem (by omega)
      have hls := h3 _ (List.getElem_mem (l := t.fr) (n := i) (by omega))
      (conv => whnf); repeat ((first | with_reducible (first | refine dA ?_ | refine dL ?_) | refine Br.t ?_ | refine Br.f ?_ | refine bT ?_ | refine bF ?_ | refine Opt.mk ?_ | with_reducible refine aR ?_ | refine ⟨fun h => absurd (congrArg List.length h) (Nat.succ_ne_zero _), fun _ => ?_⟩ | refine aC ?_ | refine apG ?_); conv => whnf)
      ((with_reducible refine Pt.go ?_); conv => whnf)
      (conv => whnf); repeat ((first | with_reducible (first | refine dA ?_ | refine dL ?_) | refine Br.t ?_ | refine Br.f ?_ | refine bT ?_ | refine bF ?_ | refine Opt.mk ?_ | with_reducible refine aR ?_ | refine ⟨fun h => absurd (congrArg List.length h) (Nat.succ_ne_zero _), fun _ => ?_⟩ | refine aC ?_ | refine apG ?_); conv => whnf)
      refine Opt.of (get_map hget) ?_
      (conv => whnf); repeat ((first | with_reducible (first | refine dA ?_ | refine dL ?_) | refine Br.t ?_ | refine Br.f ?_ | refine bT ?_ | refine bF ?_ | refine Opt.mk ?_ | with_reducible refine aR ?_ | refine ⟨fun h => absurd (congrArg List.length h) (Nat.succ_ne_zero _), fun _ => ?_⟩ | refine aC ?_ | refine apG ?_); conv => whnf)
      ((with_reducible refine Pt.go ?_); conv => whnf)
      (conv => whnf); repeat ((first | with_reducible (first | refine dA ?_ | refine dL ?_) | refine Br.t ?_ | refine Br.f ?_ | refine bT ?_ | refine bF ?_ | refine Opt.mk ?_ | with_reducible refine aR ?_ | refine ⟨fun h => absurd (congrArg List.length h) (Nat.succ_ne_zero _), fun _ => ?_⟩ | refine aC ?_ | refine apG ?_); conv => whnf)
      refine Pt.weak (Weak.nilrow 6 rfl 3 1 true) ?_
      ((with_reducible refine Pt.go ?_); conv => whnf)
      (conv => whnf); repeat ((first | with_reducible (first | refine dA ?_ | refine dL ?_) | refine Br.t ?_ | refine Br.f ?_ | refine bT ?_ | refine bF ?_ | refine Opt.mk ?_ | with_reducible refine aR ?_ | refine ⟨fun h => absurd (congrArg List.length h) (Nat.succ_ne_zero _), fun _ => ?_⟩ | refine aC ?_ | refine apG ?_); conv => whnf)
      refine Pt.weak (Weak.frzO (fun i => Nat.beq i 5) [] 3 (ty := 34) (sz := 3) (es := [.agg [.int .i64 t.fr[i].fn, .int .i64 t.fr[i].pc, .sl 5 0 1 0 (0 + (t.fr[i].ls.map (D.int .i64)).length) none]]) rfl rfl [frD t.fr[i]] rfl ?_ trivial) ?_
      · refine .cons (.agg (.cons (.same _) (.cons (.same _) (.cons (View.slAll rfl rfl ?_ ?_ (ViewL.same _) (pureL_map (fun _ => rfl) _)) .nil)))) .nil
        · simp
        · simp
      ((with_reducible refine Pt.go ?_); conv => whnf)
      (conv => whnf); repeat ((first | with_reducible (first | refine dA ?_ | refine dL ?_) | refine Br.t ?_ | refine Br.f ?_ | refine bT ?_ | refine bF ?_ | refine Opt.mk ?_ | with_reducible refine aR ?_ | refine ⟨fun h => absurd (congrArg List.length h) (Nat.succ_ne_zero _), fun _ => ?_⟩ | refine aC ?_ | refine apG ?_); conv => whnf)
      refine App.only false rfl rfl ?_
      (conv => whnf); repeat ((first | with_reducible (first | refine dA ?_ | refine dL ?_) | refine Br.t ?_ | refine Br.f ?_ | refine bT ?_ | refine bF ?_ | refine Opt.mk ?_ | with_reducible refine aR ?_ | refine ⟨fun h => absurd (congrArg List.length h) (Nat.succ_ne_zero _), fun _ => ?_⟩ | refine aC ?_ | refine apG ?_); conv => whnf)
      ((with_reducible refine Pt.go ?_); conv => whnf)
      (conv => whnf); repeat ((first | with_reducible (first | refine dA ?_ | refine dL ?_) | refine Br.t ?_ | refine Br.f ?_ | refine bT ?_ | refine bF ?_ | refine Opt.mk ?_ | with_reducible refine aR ?_ | refine ⟨fun h => absurd (congrArg List.length h) (Nat.succ_ne_zero _), fun _ => ?_⟩ | refine aC ?_ | refine apG ?_); conv => whnf)
      refine Loop.next (i + 1) ?_ ?_ (Weak.trans (Weak.shift 6 2 (by decide) (by simp) (Nat.le_of_ble_eq_true rfl) (Nat.le_of_ble_eq_true rfl) (fun j => by cases j <;> rfl) rfl) (Weak.backT 3 (by simp) ?_ rfl (Nat.le_of_ble_eq_true rfl) ?_ rfl rfl))
      · omega
      · omega
      · have e : (t.fr.take i).map frD ++ [frD t.fr[i]] = (t.fr.take (i + 1)).map frD := by
          rw [List.take_add_one, hget, List.map_append]; rfl
        exact congrArg (fun r => ([one (.row 29 5 false [thD t]), one (.row 29 5 false [z29]), one (.row 34 3 true r)] : Objs)) e
      · exact ⟨rfl, rfl, trivial⟩
    · simp only [List.length_map] at h
      (conv => whnf); repeat ((first | with_reducible (first | refine dA ?_ | refine dL ?_) | refine Br.t ?_ | refine Br.f ?_ | refine bT ?_ | refine bF ?_ | refine Opt.mk ?_ | with_reducible refine aR ?_ | refine ⟨fun h => absurd (congrArg List.length h) (Nat.succ_ne_zero _), fun _ => ?_⟩ | refine aC ?_ | refine apG ?_); conv => whnf)
      ((with_reducible refine Pt.go ?_); conv => whnf)
      (conv => whnf); repeat ((first | with_reducible (first | refine dA ?_ | refine dL ?_) | refine Br.t ?_ | refine Br.f ?_ | refine bT ?_ | refine bF ?_ | refine Opt.mk ?_ | with_reducible refine aR ?_ | refine ⟨fun h => absurd (congrArg List.length h) (Nat.succ_ne_zero _), fun _ => ?_⟩ | refine aC ?_ | refine apG ?_); conv => whnf)
      ((with_reducible refine Pt.go ?_); conv => whnf)
      (conv => whnf); repeat ((first | with_reducible (first | refine dA ?_ | refine dL ?_) | refine Br.t ?_ | refine Br.f ?_ | refine bT ?_ | refine bF ?_ | refine Opt.mk ?_ | with_reducible refine aR ?_ | refine ⟨fun h => absurd (congrArg List.length h) (Nat.succ_ne_zero _), fun _ => ?_⟩ | refine aC ?_ | refine apG ?_); conv => whnf)
      refine Pt.weak (Weak.nilrow 7 rfl 3 1 true) ?_
      (conv => whnf); repeat ((first | with_reducible (first | refine Pt.go ?_ | refine dA ?_ | refine dL ?_) | refine Br.t ?_ | refine Br.f ?_ | refine bT ?_ | refine bF ?_ | refine Opt.mk ?_ | with_reducible refine aR ?_ | refine ⟨fun h => absurd (congrArg List.length h) (Nat.succ_ne_zero _), fun _ => ?_⟩ | refine aC ?_ | refine apG ?_); conv => whnf)
      refine Ret.mk [.cell 2 29] rfl ?_; (conv => whnf); repeat ((first | with_reducible (first | refine Pt.go ?_ | refine dA ?_ | refine dL ?_) | refine Br.t ?_ | refine Br.f ?_ | refine bT ?_ | refine bF ?_ | refine Opt.mk ?_ | with_reducible refine aR ?_ | refine ⟨fun h => absurd (congrArg List.length h) (Nat.succ_ne_zero _), fun _ => ?_⟩ | refine aC ?_ | refine apG ?_); conv => whnf)
      obtain rfl : i = t.fr.length := by omega
      have e : (t.fr.take t.fr.length).map frD = t.fr.map frD := by rw [List.take_length]
      refine ⟨?_, _, _, congrArg (fun r => ([_, _, one (.row 34 3 true r), one .gone, rowI t.sk] : Objs)) e⟩
      show D.agg [.int .i64 t.st, .int .i64 t.on, .sl 2 0 3 0 t.fr.length none, .sl 4 0 1 0 (0 + (t.sk.map (D.int .i64)).length) none, .int .i64 t.code] = _
      simp
  · rintro d os' ⟨rfl, a, b, rfl⟩
    refine ⟨_, _, Weak.trans (Weak.frzK (fun i => Nat.blt i 2) [] trivial) (Weak.trans (Weak.shift 2 0 (by decide) (by simp) (by simp [dropF]) (by simp [dropF]) (fun j => by cases j <;> rfl) rfl) (Weak.trans (Weak.shift 4 1 (by decide) (by simp) (by simp [dropF]) (by simp [dropF]) (fun j => by cases j <;> rfl) rfl) (Weak.trim 2 (by simp) rfl (by simp [dropF])))), rfl, rfl⟩
def pushR (t : Th) (v : Int) : Th × Bool := if 16 ≤ t.sk.length then (t, false) else ({ t with sk := t.sk ++ [keep v] }, true)
theorem push132 (t : Th) (ht : t.okB) (v : Int) : Spec Try.prog 132 [thD t, .int .i64 v] [] (fun d os' => d = .tup [thD (pushR t v).1, .bool (pushR t v).2] ∧ os' = []) := by
  refine Spec.frz (post' := fun d => d = .tup [thD (pushR t v).1, .bool (pushR t v).2]) ?_
  refine Spec.by Try.func132 rfl (by decide) (by decide +kernel) rfl ?_
  (conv => whnf); repeat ((first | with_reducible (first | refine Pt.go ?_ | refine dA ?_ | refine dL ?_) | refine Br.t ?_ | refine Br.f ?_ | refine bT ?_ | refine bF ?_ | refine Opt.mk ?_ | with_reducible refine aR ?_ | refine ⟨fun h => absurd (congrArg List.length h) (Nat.succ_ne_zero _), fun _ => ?_⟩ | refine aC ?_ | refine apG ?_); conv => whnf)
  refine Br.dec (fun h => ?_) (fun h => ?_)
  · (conv => whnf); repeat ((first | with_reducible (first | refine Pt.go ?_ | refine dA ?_ | refine dL ?_) | refine Br.t ?_ | refine Br.f ?_ | refine bT ?_ | refine bF ?_ | refine Opt.mk ?_ | with_reducible refine aR ?_ | refine ⟨fun h => absurd (congrArg List.length h) (Nat.succ_ne_zero _), fun _ => ?_⟩ | refine aC ?_ | refine apG ?_); conv => whnf)
    refine Ret.mk [.cell 4 29, .tmp 5] rfl ?_; (conv => whnf); repeat ((first | with_reducible (first | refine Pt.go ?_ | refine dA ?_ | refine dL ?_) | refine Br.t ?_ | refine Br.f ?_ | refine bT ?_ | refine bF ?_ | refine Opt.mk ?_ | with_reducible refine aR ?_ | refine ⟨fun h => absurd (congrArg List.length h) (Nat.succ_ne_zero _), fun _ => ?_⟩ | refine aC ?_ | refine apG ?_); conv => whnf)
    have h' : 16 ≤ t.sk.length := by simp at h; omega
    simp only [pushR, if_pos h']
    exact ⟨_, View.same _, rfl, rfl⟩
  · have h' : ¬ 16 ≤ t.sk.length := by simp at h; omega
    (conv => whnf); repeat ((first | with_reducible (first | refine Pt.go ?_ | refine dA ?_ | refine dL ?_) | refine Br.t ?_ | refine Br.f ?_ | refine bT ?_ | refine bF ?_ | refine Opt.mk ?_ | with_reducible refine aR ?_ | refine ⟨fun h => absurd (congrArg List.length h) (Nat.succ_ne_zero _), fun _ => ?_⟩ | refine aC ?_ | refine apG ?_); conv => whnf)
    refine Call.mk ((clone59o t ht).onto _ rfl) ?_
    rintro d os' ⟨d1, os1, ⟨rfl, rfl⟩, rfl, rfl⟩
    (conv => whnf); repeat ((first | with_reducible (first | refine Pt.go ?_ | refine dA ?_ | refine dL ?_) | refine Br.t ?_ | refine Br.f ?_ | refine bT ?_ | refine bF ?_ | refine Opt.mk ?_ | with_reducible refine aR ?_ | refine ⟨fun h => absurd (congrArg List.length h) (Nat.succ_ne_zero _), fun _ => ?_⟩ | refine aC ?_ | refine apG ?_); conv => whnf)
    refine Call.mk (keep36 v _) ?_
    rintro d os' ⟨rfl, rfl⟩
    (conv => whnf); repeat ((first | with_reducible (first | refine Pt.go ?_ | refine dA ?_ | refine dL ?_) | refine Br.t ?_ | refine Br.f ?_ | refine bT ?_ | refine bF ?_ | refine Opt.mk ?_ | with_reducible refine aR ?_ | refine ⟨fun h => absurd (congrArg List.length h) (Nat.succ_ne_zero _), fun _ => ?_⟩ | refine aC ?_ | refine apG ?_); conv => whnf)
    refine App.only false rfl rfl ?_
    (conv => whnf); repeat ((first | with_reducible (first | refine Pt.go ?_ | refine dA ?_ | refine dL ?_) | refine Br.t ?_ | refine Br.f ?_ | refine bT ?_ | refine bF ?_ | refine Opt.mk ?_ | with_reducible refine aR ?_ | refine ⟨fun h => absurd (congrArg List.length h) (Nat.succ_ne_zero _), fun _ => ?_⟩ | refine aC ?_ | refine apG ?_); conv => whnf)
    refine Ret.mk [.cell 4 29, .tmp 5] rfl ?_; (conv => whnf); repeat ((first | with_reducible (first | refine Pt.go ?_ | refine dA ?_ | refine dL ?_) | refine Br.t ?_ | refine Br.f ?_ | refine bT ?_ | refine bF ?_ | refine Opt.mk ?_ | with_reducible refine aR ?_ | refine ⟨fun h => absurd (congrArg List.length h) (Nat.succ_ne_zero _), fun _ => ?_⟩ | refine aC ?_ | refine apG ?_); conv => whnf)
    simp only [pushR, if_neg h']
    refine ⟨.tup [thD { t with sk := t.sk ++ [keep v] }, .bool true], View.tup (.cons (.agg (.cons (.same _) (.cons (.same _) (.cons (View.slAll rfl rfl (by simp) (by simp) (ViewL.same _) (pureL_map (fun _ => rfl) _)) (.cons (View.slAll rfl (t := 3) (pr := true) (es := t.sk.map (D.int .i64) ++ [D.int .i64 (keep v)]) rfl (by simp [setAll]) (by simp) (by rw [map_snoc]; exact .same _) (pureL_map (fun _ => rfl) _)) (.same _)))))) (.same _)), rfl, rfl⟩
theorem top190 (t : Th) (s : List Fm) (f : Fm) (hs : t.fr = s ++ [f]) (hl : s.length ≤ 1000000) : Spec Try.prog 190 [thD t] [] (fun d os' => d = frD f ∧ os' = []) := by
  refine Spec.frz (post' := fun d => d = frD f) ?_
  have hlen : (t.fr.map frD).length = s.length + 1 := by rw [hs]; simp
  have e : ((((t.fr.map frD).length : Nat) : Int) - 1).toNat = s.length := by omega
  have hget : t.fr[((((t.fr.map frD).length : Nat) : Int) - 1).toNat]? = some f := by rw [e, hs]; simp
  refine Spec.by Try.func190 rfl (by decide) (by decide +kernel) rfl ?_
  (conv => whnf); repeat ((first | with_reducible (first | refine Pt.go ?_ | refine dA ?_ | refine dL ?_) | refine Br.t ?_ | refine Br.f ?_ | refine bT ?_ | refine bF ?_ | refine Opt.mk ?_ | with_reducible refine aR ?_ | refine ⟨fun h => absurd (congrArg List.length h) (Nat.succ_ne_zero _), fun _ => ?_⟩ | refine aC ?_ | refine apG ?_); conv => whnf)
  refine Opt.of (get_map hget) ?_
  (conv => whnf); repeat ((first | with_reducible (first | refine Pt.go ?_ | refine dA ?_ | refine dL ?_) | refine Br.t ?_ | refine Br.f ?_ | refine bT ?_ | refine bF ?_ | refine Opt.mk ?_ | with_reducible refine aR ?_ | refine ⟨fun h => absurd (congrArg List.length h) (Nat.succ_ne_zero _), fun _ => ?_⟩ | refine aC ?_ | refine apG ?_); conv => whnf)
  refine Ret.mk [.cell 2 34] rfl ?_; (conv => whnf); repeat ((first | with_reducible (first | refine Pt.go ?_ | refine dA ?_ | refine dL ?_) | refine Br.t ?_ | refine Br.f ?_ | refine bT ?_ | refine bF ?_ | refine Opt.mk ?_ | with_reducible refine aR ?_ | refine ⟨fun h => absurd (congrArg List.length h) (Nat.succ_ne_zero _), fun _ => ?_⟩ | refine aC ?_ | refine apG ?_); conv => whnf)
  exact ⟨frD f, View.same _, rfl, rfl⟩
theorem with191 (t : Th) (s : List Fm) (f f' : Fm) (hs : t.fr = s ++ [f]) (hl : s.length ≤ 1000000) : Spec Try.prog 191 [thD t, frD f'] [] (fun d os' => d = thD { t with fr := s ++ [f'] } ∧ os' = []) := by
  refine Spec.frz (post' := fun d => d = thD { t with fr := s ++ [f'] }) ?_
  have hlen : (t.fr.map frD).length = s.length + 1 := by rw [hs]; simp
  have e : ((((t.fr.map frD).length : Nat) : Int) - 1).toNat = s.length := by omega
  refine Spec.by Try.func191 rfl (by decide) (by decide +kernel) rfl ?_
  (conv => whnf); repeat ((first | with_reducible (first | refine Pt.go ?_ | refine dA ?_ | refine dL ?_) | refine Br.t ?_ | refine Br.f ?_ | refine bT ?_ | refine bF ?_ | refine Opt.mk ?_ | with_reducible refine aR ?_ | refine ⟨fun h => absurd (congrArg List.length h) (Nat.succ_ne_zero _), fun _ => ?_⟩ | refine aC ?_ | refine apG ?_); conv => whnf)
  refine Nm.mk (s.map frD) (by show s.map frD = ((t.fr.map frD).take ((((t.fr.map frD).length : Nat) : Int) - 1).toNat).drop 0; rw [List.drop_zero, e, hs, List.map_append, List.take_left' (by simp)]) ?_
  (conv => whnf); repeat ((first | with_reducible (first | refine Pt.go ?_ | refine dA ?_ | refine dL ?_) | refine Br.t ?_ | refine Br.f ?_ | refine bT ?_ | refine bF ?_ | refine Opt.mk ?_ | with_reducible refine aR ?_ | refine ⟨fun h => absurd (congrArg List.length h) (Nat.succ_ne_zero _), fun _ => ?_⟩ | refine aC ?_ | refine apG ?_); conv => whnf)
  refine App.only false rfl rfl ?_
  (conv => whnf); repeat ((first | with_reducible (first | refine Pt.go ?_ | refine dA ?_ | refine dL ?_) | refine Br.t ?_ | refine Br.f ?_ | refine bT ?_ | refine bF ?_ | refine Opt.mk ?_ | with_reducible refine aR ?_ | refine ⟨fun h => absurd (congrArg List.length h) (Nat.succ_ne_zero _), fun _ => ?_⟩ | refine aC ?_ | refine apG ?_); conv => whnf)
  refine App.only false rfl rfl ?_
  (conv => whnf); repeat ((first | with_reducible (first | refine Pt.go ?_ | refine dA ?_ | refine dL ?_) | refine Br.t ?_ | refine Br.f ?_ | refine bT ?_ | refine bF ?_ | refine Opt.mk ?_ | with_reducible refine aR ?_ | refine ⟨fun h => absurd (congrArg List.length h) (Nat.succ_ne_zero _), fun _ => ?_⟩ | refine aC ?_ | refine apG ?_); conv => whnf)
  refine Ret.mk [.cell 4 29] rfl ?_; (conv => whnf); repeat ((first | with_reducible (first | refine Pt.go ?_ | refine dA ?_ | refine dL ?_) | refine Br.t ?_ | refine Br.f ?_ | refine bT ?_ | refine bF ?_ | refine Opt.mk ?_ | with_reducible refine aR ?_ | refine ⟨fun h => absurd (congrArg List.length h) (Nat.succ_ne_zero _), fun _ => ?_⟩ | refine aC ?_ | refine apG ?_); conv => whnf)
  refine ⟨thD { t with fr := s ++ [f'] }, View.agg (.cons (.same _) (.cons (.same _) (.cons ?_ (.same _)))), rfl, rfl⟩
  show View _ _ _ (D.lst 3 false ((s ++ [f']).map frD))
  rw [List.map_append]
  exact .same _
theorem jump136 (t : Th) (s : List Fm) (f : Fm) (hs : t.fr = s ++ [f]) (hl : s.length ≤ 1000000) (pc : Int) : Spec Try.prog 136 [thD t, .int .i64 pc] [] (fun d os' => d = thD { t with fr := s ++ [⟨f.fn, pc, f.ls⟩] } ∧ os' = []) := by
  refine Spec.frz (post' := fun d => d = thD { t with fr := s ++ [⟨f.fn, pc, f.ls⟩] }) ?_
  refine Spec.by Try.func136 rfl (by decide) (by decide +kernel) rfl ?_
  (conv => whnf); repeat ((first | with_reducible (first | refine Pt.go ?_ | refine dA ?_ | refine dL ?_) | refine Br.t ?_ | refine Br.f ?_ | refine bT ?_ | refine bF ?_ | refine Opt.mk ?_ | with_reducible refine aR ?_ | refine ⟨fun h => absurd (congrArg List.length h) (Nat.succ_ne_zero _), fun _ => ?_⟩ | refine aC ?_ | refine apG ?_); conv => whnf)
  refine Call.mk ((top190 t s f hs hl).only _ rfl (by rintro d rfl; rfl)) ?_
  rintro d os' ⟨rfl, rfl⟩
  (conv => whnf); repeat ((first | with_reducible (first | refine Pt.go ?_ | refine dA ?_ | refine dL ?_) | refine Br.t ?_ | refine Br.f ?_ | refine bT ?_ | refine bF ?_ | refine Opt.mk ?_ | with_reducible refine aR ?_ | refine ⟨fun h => absurd (congrArg List.length h) (Nat.succ_ne_zero _), fun _ => ?_⟩ | refine aC ?_ | refine apG ?_); conv => whnf)
  refine Call.mk ((with191 t s f ⟨f.fn, pc, f.ls⟩ hs hl).only _ rfl (by rintro d rfl; rfl)) ?_
  rintro d os' ⟨rfl, rfl⟩
  (conv => whnf); repeat ((first | with_reducible (first | refine Pt.go ?_ | refine dA ?_ | refine dL ?_) | refine Br.t ?_ | refine Br.f ?_ | refine bT ?_ | refine bF ?_ | refine Opt.mk ?_ | with_reducible refine aR ?_ | refine ⟨fun h => absurd (congrArg List.length h) (Nat.succ_ne_zero _), fun _ => ?_⟩ | refine aC ?_ | refine apG ?_); conv => whnf)
  refine Ret.mk [.cell 4 29] rfl ?_; (conv => whnf); repeat ((first | with_reducible (first | refine Pt.go ?_ | refine dA ?_ | refine dL ?_) | refine Br.t ?_ | refine Br.f ?_ | refine bT ?_ | refine bF ?_ | refine Opt.mk ?_ | with_reducible refine aR ?_ | refine ⟨fun h => absurd (congrArg List.length h) (Nat.succ_ne_zero _), fun _ => ?_⟩ | refine aC ?_ | refine apG ?_); conv => whnf)
  exact ⟨_, View.same _, rfl, rfl⟩
theorem get140 (t : Th) (s : List Fm) (f : Fm) (hs : t.fr = s ++ [f]) (hl : s.length ≤ 1000000) (i : Nat) (v : Int) (hv : f.ls[i]? = some v) : Spec Try.prog 140 [thD t, .int .i64 i] [] (fun d os' => d = .int .i64 v ∧ os' = []) := by
  refine Spec.by Try.func140 rfl (by decide) (by decide +kernel) rfl ?_
  (conv => whnf); repeat ((first | with_reducible (first | refine Pt.go ?_ | refine dA ?_ | refine dL ?_) | refine Br.t ?_ | refine Br.f ?_ | refine bT ?_ | refine bF ?_ | refine Opt.mk ?_ | with_reducible refine aR ?_ | refine ⟨fun h => absurd (congrArg List.length h) (Nat.succ_ne_zero _), fun _ => ?_⟩ | refine aC ?_ | refine apG ?_); conv => whnf)
  refine Call.mk ((top190 t s f hs hl).only _ rfl (by rintro d rfl; rfl)) ?_
  rintro d os' ⟨rfl, rfl⟩
  (conv => whnf); repeat ((first | with_reducible (first | refine Pt.go ?_ | refine dA ?_ | refine dL ?_) | refine Br.t ?_ | refine Br.f ?_ | refine bT ?_ | refine bF ?_ | refine Opt.mk ?_ | with_reducible refine aR ?_ | refine ⟨fun h => absurd (congrArg List.length h) (Nat.succ_ne_zero _), fun _ => ?_⟩ | refine aC ?_ | refine apG ?_); conv => whnf)
  refine Opt.of (get_map hv) ?_
  (conv => whnf); repeat ((first | with_reducible (first | refine Pt.go ?_ | refine dA ?_ | refine dL ?_) | refine Br.t ?_ | refine Br.f ?_ | refine bT ?_ | refine bF ?_ | refine Opt.mk ?_ | with_reducible refine aR ?_ | refine ⟨fun h => absurd (congrArg List.length h) (Nat.succ_ne_zero _), fun _ => ?_⟩ | refine aC ?_ | refine apG ?_); conv => whnf)
  refine Ret.trim 0 (by simp) rfl (Nat.le_of_ble_eq_true rfl) ?_
  refine Ret.mk [.tmp _] rfl ?_; refine And.intro ?_ rfl
  rfl
theorem get141 (t : Th) (s : List Fm) (f : Fm) (hs : t.fr = s ++ [f]) (hl : s.length ≤ 1000000) (i : Nat) (v : Int) (hv : f.ls[i]? = some v) : Spec Try.prog 141 [thD t, .int .i64 i] [] (fun d os' => d = .int .i64 v ∧ os' = []) := by
  have hlen : (t.fr.map frD).length = s.length + 1 := by rw [hs]; simp
  have e : ((((t.fr.map frD).length : Nat) : Int) - 1).toNat = s.length := by omega
  have hget : t.fr[((((t.fr.map frD).length : Nat) : Int) - 1).toNat]? = some f := by rw [e, hs]; simp
  refine Spec.by Try.func141 rfl (by decide) (by decide +kernel) rfl ?_
  (conv => whnf); repeat ((first | with_reducible (first | refine Pt.go ?_ | refine dA ?_ | refine dL ?_) | refine Br.t ?_ | refine Br.f ?_ | refine bT ?_ | refine bF ?_ | refine Opt.mk ?_ | with_reducible refine aR ?_ | refine ⟨fun h => absurd (congrArg List.length h) (Nat.succ_ne_zero _), fun _ => ?_⟩ | refine aC ?_ | refine apG ?_); conv => whnf)
  refine Opt.of (get_map hget) ?_
  (conv => whnf); repeat ((first | with_reducible (first | refine Pt.go ?_ | refine dA ?_ | refine dL ?_) | refine Br.t ?_ | refine Br.f ?_ | refine bT ?_ | refine bF ?_ | refine Opt.mk ?_ | with_reducible refine aR ?_ | refine ⟨fun h => absurd (congrArg List.length h) (Nat.succ_ne_zero _), fun _ => ?_⟩ | refine aC ?_ | refine apG ?_); conv => whnf)
  refine Opt.of (get_map hv) ?_
  (conv => whnf); repeat ((first | with_reducible (first | refine Pt.go ?_ | refine dA ?_ | refine dL ?_) | refine Br.t ?_ | refine Br.f ?_ | refine bT ?_ | refine bF ?_ | refine Opt.mk ?_ | with_reducible refine aR ?_ | refine ⟨fun h => absurd (congrArg List.length h) (Nat.succ_ne_zero _), fun _ => ?_⟩ | refine aC ?_ | refine apG ?_); conv => whnf)
  refine Ret.trim 0 (by simp) rfl (Nat.le_of_ble_eq_true rfl) ?_
  refine Ret.mk [.tmp _] rfl ?_; refine And.intro ?_ rfl
  rfl
end Go.Proofs.Ytaplihoeephbeaa.V
