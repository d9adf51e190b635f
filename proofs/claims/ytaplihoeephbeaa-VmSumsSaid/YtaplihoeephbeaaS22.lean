/- S22: a text of a symbolic executor that is proved sound, and contracts that are proved with it. -/
import Derived.Test.YtaplihoeephbeaaS21
namespace Go.Proofs.Ytaplihoeephbeaa.V
open Go Go.Proofs
set_option maxRecDepth 100000
set_option maxHeartbeats 4000000
theorem RL_map (s : List Fm) (f : Fm) (q n : Nat) : D.mapIdL (lead [] n) (RL s f q) = RL s f (lead [] n q 0).1 := by
  rw [RL, mapIdL_append, mapIdL_pure _ _ (pureL_map (fun _ => rfl) _)]
  rfl
theorem RL_last (s : List Fm) (f : Fm) (q : Nat) : (RL s f q)[s.length]? = some (.agg [.int .i64 f.fn, .int .i64 f.pc, .sl q 0 1 0 f.ls.length none]) := by
  have e : s.length = (s.map frD).length := (List.length_map ..).symm
  rw [RL, e]
  simp
theorem set139 (t : Th) (ht : t.okB) (s : List Fm) (f : Fm) (hs : t.fr = s ++ [f]) (i : Nat) (hi : i < f.ls.length) (v : Int) : Spec Try.prog 139 [thD t, .int .i64 i, .int .i64 v] [] (fun d os' => d = thD { t with fr := s ++ [⟨f.fn, f.pc, f.ls.set i (keep v)⟩] } ∧ os' = []) := by
  refine Spec.frz (post' := fun d => d = thD { t with fr := s ++ [⟨f.fn, f.pc, f.ls.set i (keep v)⟩] }) ?_
  have hl' : t.fr.length = s.length + 1 := by rw [hs]; simp
  have hb := ht.1
  have e : (((t.fr.length : Nat) : Int) - 1).toNat = s.length := by omega
  have hget : (RL s f 3)[0 + (((t.fr.length : Nat) : Int) - 1).toNat]? = some (.agg [.int .i64 f.fn, .int .i64 f.pc, .sl 3 0 1 0 f.ls.length none]) := by
    rw [e, Nat.zero_add]; exact RL_last s f 3
  have hgl : f.ls[0 + i]? = some (f.ls[i]) := by rw [Nat.zero_add]; exact List.getElem?_eq_getElem hi
  refine Spec.by Try.func139 rfl (by decide) (by decide +kernel) rfl ?_
  (conv => whnf); repeat ((first | with_reducible (first | refine Pt.go ?_ | refine dA ?_ | refine dL ?_) | refine Br.t ?_ | refine Br.f ?_ | refine bT ?_ | refine bF ?_ | refine Opt.mk ?_ | with_reducible refine aR ?_ | refine ⟨fun h => absurd (congrArg List.length h) (Nat.succ_ne_zero _), fun _ => ?_⟩ | refine aC ?_ | refine apG ?_); conv => whnf)
  refine Call.mk ((clone59L t ht s f hs).onto _ rfl) ?_
  rintro d os' ⟨d1, os1, ⟨rfl, rfl⟩, rfl, rfl⟩
  (conv => whnf); repeat ((first | with_reducible (first | refine dA ?_ | refine dL ?_) | refine Br.t ?_ | refine Br.f ?_ | refine bT ?_ | refine bF ?_ | refine Opt.mk ?_ | with_reducible refine aR ?_ | refine ⟨fun h => absurd (congrArg List.length h) (Nat.succ_ne_zero _), fun _ => ?_⟩ | refine aC ?_ | refine apG ?_); conv => whnf)
  refine Pt.weak (Weak.objs (os' := [one (.row 29 5 false [thD t]), one (.row 29 5 false [z29]), one (.row 34 3 false (D.mapIdL (lead [] 2) (RL s f 1))), rowI f.ls, rowI t.sk, one (.row 29 5 false [.agg [.int .i64 t.st, .int .i64 t.on, .sl 2 0 3 0 t.fr.length none, .sl 4 0 1 0 t.sk.length none, .int .i64 t.code]])]) (by kernel_rfl)) ?_
  refine Pt.weak (Weak.objs (os' := [one (.row 29 5 false [thD t]), one (.row 29 5 false [z29]), one (.row 34 3 false (RL s f 3)), rowI f.ls, rowI t.sk, one (.row 29 5 false [.agg [.int .i64 t.st, .int .i64 t.on, .sl 2 0 3 0 t.fr.length none, .sl 4 0 1 0 t.sk.length none, .int .i64 t.code]])]) (congrArg (fun r => ([one (.row 29 5 false [thD t]), one (.row 29 5 false [z29]), one (.row 34 3 false r), rowI f.ls, rowI t.sk, one (.row 29 5 false [.agg [.int .i64 t.st, .int .i64 t.on, .sl 2 0 3 0 t.fr.length none, .sl 4 0 1 0 t.sk.length none, .int .i64 t.code]])] : Objs)) (RL_map s f 1 2))) ?_
  (conv => whnf); repeat ((first | with_reducible (first | refine Pt.go ?_ | refine dA ?_ | refine dL ?_) | refine Br.t ?_ | refine Br.f ?_ | refine bT ?_ | refine bF ?_ | refine Opt.mk ?_ | with_reducible refine aR ?_ | refine ⟨fun h => absurd (congrArg List.length h) (Nat.succ_ne_zero _), fun _ => ?_⟩ | refine aC ?_ | refine apG ?_); conv => whnf)
  refine Opt.of hget ?_
  (conv => whnf); repeat ((first | with_reducible (first | refine Pt.go ?_ | refine dA ?_ | refine dL ?_) | refine Br.t ?_ | refine Br.f ?_ | refine bT ?_ | refine bF ?_ | refine Opt.mk ?_ | with_reducible refine aR ?_ | refine ⟨fun h => absurd (congrArg List.length h) (Nat.succ_ne_zero _), fun _ => ?_⟩ | refine aC ?_ | refine apG ?_); conv => whnf)
  refine Call.mk (keep36 v _) ?_
  rintro d os' ⟨rfl, rfl⟩
  (conv => whnf); repeat ((first | with_reducible (first | refine Pt.go ?_ | refine dA ?_ | refine dL ?_) | refine Br.t ?_ | refine Br.f ?_ | refine bT ?_ | refine bF ?_ | refine Opt.mk ?_ | with_reducible refine aR ?_ | refine ⟨fun h => absurd (congrArg List.length h) (Nat.succ_ne_zero _), fun _ => ?_⟩ | refine aC ?_ | refine apG ?_); conv => whnf)
  refine And.intro (by (conv => whnf); refine Opt.of hget ?_; (conv => whnf); refine And.intro rfl ?_; refine Opt.mk ?_; (conv => whnf)) ?_
  (conv => whnf); repeat ((first | with_reducible (first | refine Pt.go ?_ | refine dA ?_ | refine dL ?_) | refine Br.t ?_ | refine Br.f ?_ | refine bT ?_ | refine bF ?_ | refine Opt.mk ?_ | with_reducible refine aR ?_ | refine ⟨fun h => absurd (congrArg List.length h) (Nat.succ_ne_zero _), fun _ => ?_⟩ | refine aC ?_ | refine apG ?_); conv => whnf)
  refine Opt.of (get_map hgl) ?_
  (conv => whnf); repeat ((first | with_reducible (first | refine Pt.go ?_ | refine dA ?_ | refine dL ?_) | refine Br.t ?_ | refine Br.f ?_ | refine bT ?_ | refine bF ?_ | refine Opt.mk ?_ | with_reducible refine aR ?_ | refine ⟨fun h => absurd (congrArg List.length h) (Nat.succ_ne_zero _), fun _ => ?_⟩ | refine aC ?_ | refine apG ?_); conv => whnf)
  refine Ret.mk [.cell 6 29] rfl ?_; (conv => whnf); repeat ((first | with_reducible (first | refine Pt.go ?_ | refine dA ?_ | refine dL ?_) | refine Br.t ?_ | refine Br.f ?_ | refine bT ?_ | refine bF ?_ | refine Opt.mk ?_ | with_reducible refine aR ?_ | refine ⟨fun h => absurd (congrArg List.length h) (Nat.succ_ne_zero _), fun _ => ?_⟩ | refine aC ?_ | refine apG ?_); conv => whnf)
  have e4 : (f.ls.map (D.int .i64)).set (0 + i) (.int .i64 (keep v)) = (f.ls.set i (keep v)).map (D.int .i64) := by rw [Nat.zero_add, List.map_set]
  refine ⟨thD { t with fr := s ++ [⟨f.fn, f.pc, f.ls.set i (keep v)⟩] }, View.agg (.cons (.same _) (.cons (.same _) (.cons (View.slAll rfl (t := 34) (pr := false) (es := RL s f 3) rfl ?_ (by simp) ?_ (pureL_map (fun _ => rfl) _)) (.cons (View.slAll rfl rfl (by simp) (by simp) (ViewL.same _) (pureL_map (fun _ => rfl) _)) (.same _))))), rfl, rfl⟩
  · rw [RL]; simp [hl']
  · rw [RL, List.map_append]
    refine ViewL.append (.same _) (.cons (.agg (.cons (.same _) (.cons (.same _) (.cons (View.slAll rfl (t := 3) (pr := true) (es := (f.ls.map (D.int .i64)).set (0 + i) (.int .i64 (keep v))) rfl (by simp) (by simp) ?_ (pureL_map (fun _ => rfl) _)) .nil)))) .nil)
    rw [e4]
    exact .same _
end Go.Proofs.Ytaplihoeephbeaa.V
