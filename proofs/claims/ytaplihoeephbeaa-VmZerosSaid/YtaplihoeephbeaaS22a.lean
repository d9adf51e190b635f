/- S22a: a text of a symbolic executor that is proved sound, and contracts that are proved with it. -/
import Derived.Test.YtaplihoeephbeaaS22
namespace Go.Proofs.Ytaplihoeephbeaa.V
open Go Go.Proofs
set_option maxRecDepth 100000
set_option maxHeartbeats 40000000
theorem pop52e (t : Th) (hs : t.sk = []) : Spec Try.prog 52 [thD t] [] (fun d os' => d = .tup [thD t, .int .i64 0, .bool false] ∧ os' = []) := by
  refine Spec.frz (post' := fun d => d = .tup [thD t, .int .i64 0, .bool false]) ?_
  have hlen : (t.sk.map (D.int .i64)).length = 0 := by rw [hs]; rfl
  refine Spec.by Try.func52 rfl (by decide) (by decide +kernel) rfl ?_
  (conv => whnf); repeat ((first | with_reducible (first | refine Pt.go ?_ | refine dA ?_ | refine dL ?_) | refine Br.t ?_ | refine Br.f ?_ | refine bT ?_ | refine bF ?_ | refine Opt.mk ?_ | with_reducible refine aR ?_ | refine ⟨fun h => absurd (congrArg List.length h) (Nat.succ_ne_zero _), fun _ => ?_⟩ | refine aC ?_ | refine apG ?_); conv => whnf)
  refine Ret.mk [.cell 2 29, .tmp 3, .tmp 4] rfl ?_; (conv => whnf); repeat ((first | with_reducible (first | refine Pt.go ?_ | refine dA ?_ | refine dL ?_) | refine Br.t ?_ | refine Br.f ?_ | refine bT ?_ | refine bF ?_ | refine Opt.mk ?_ | with_reducible refine aR ?_ | refine ⟨fun h => absurd (congrArg List.length h) (Nat.succ_ne_zero _), fun _ => ?_⟩ | refine aC ?_ | refine apG ?_); conv => whnf)
  exact ⟨_, View.same _, rfl, rfl⟩
theorem pop133e (t : Th) (hs : t.sk = []) : Spec Try.prog 133 [thD t] [] (fun d os' => d = .tup [thD t, .int .i64 0, .bool false] ∧ os' = []) := by
  refine Spec.frz (post' := fun d => d = .tup [thD t, .int .i64 0, .bool false]) ?_
  have hlen : (t.sk.map (D.int .i64)).length = 0 := by rw [hs]; rfl
  refine Spec.by Try.func133 rfl (by decide) (by decide +kernel) rfl ?_
  (conv => whnf); repeat ((first | with_reducible (first | refine Pt.go ?_ | refine dA ?_ | refine dL ?_) | refine Br.t ?_ | refine Br.f ?_ | refine bT ?_ | refine bF ?_ | refine Opt.mk ?_ | with_reducible refine aR ?_ | refine ⟨fun h => absurd (congrArg List.length h) (Nat.succ_ne_zero _), fun _ => ?_⟩ | refine aC ?_ | refine apG ?_); conv => whnf)
  refine Ret.mk [.cell 2 29, .tmp 3, .tmp 4] rfl ?_; (conv => whnf); repeat ((first | with_reducible (first | refine Pt.go ?_ | refine dA ?_ | refine dL ?_) | refine Br.t ?_ | refine Br.f ?_ | refine bT ?_ | refine bF ?_ | refine Opt.mk ?_ | with_reducible refine aR ?_ | refine ⟨fun h => absurd (congrArg List.length h) (Nat.succ_ne_zero _), fun _ => ?_⟩ | refine aC ?_ | refine apG ?_); conv => whnf)
  exact ⟨_, View.same _, rfl, rfl⟩
/-- A thread that deeds may be done to. -/
structure KT (g : Pg) (x : Th) : Prop where
  fl : 1 ≤ x.fr.length ∧ x.fr.length ≤ 8
  sl : x.sk.length ≤ 16
  fr : ∀ f ∈ x.fr, oddF g f = false
theorem KT.okB {g : Pg} (hg : GoodP g) {x : Th} (hx : KT g x) : x.okB := ⟨by have := hx.fl; omega, by have := hx.sl; omega, fun f hf => by have := odd_ls hg (hx.fr f hf); omega⟩
theorem KT.push {g : Pg} {x : Th} (hx : KT g x) (v : Int) : KT g (pushT x v).1 := by
  unfold pushT
  split
  · exact hx
  · exact ⟨hx.fl, by have := hx.sl; simp; omega, hx.fr⟩
theorem push_same {g : Pg} {x : Th} (hx : KT g x) (v : Int) : pushR x v = pushT x v := by
  unfold pushR pushT
  have := hx.sl
  by_cases h : x.sk.length = 16
  · rw [if_pos (by omega), if_pos h]
  · rw [if_neg (by omega), if_neg h]
theorem enter_same {g : Pg} {x : Th} (hx : KT g x) (f : Fm) : enterR x f = enterT x f := by
  unfold enterR enterT
  have := hx.fl
  by_cases h : x.fr.length = 8
  · rw [if_pos (by omega), if_pos h]
  · rw [if_neg (by omega), if_neg h]
theorem KT.enter {g : Pg} {x : Th} (hx : KT g x) (f : Fm) (hf : oddF g f = false) : KT g (enterT x f).1 := by
  unfold enterT
  split
  · exact hx
  · refine ⟨by have := hx.fl; simp; omega, hx.sl, fun y hy => ?_⟩
    rcases List.mem_append.1 hy with hy | hy
    · exact hx.fr y hy
    · simp only [List.mem_singleton] at hy; subst hy; exact hf
theorem odd_inv {g : Pg} {f : Fm} (h : oddF g f = false) : ∃ (k pc : Nat) (u : Fu), f.fn = k ∧ f.pc = pc ∧ g.fu[k]? = some u ∧ pc ≤ u.code.length ∧ (f.ls.length : Int) = u.loc ∧ kept f.ls = true := by
  unfold oddF at h
  split at h
  · simp at h
  · rename_i h0
    split at h
    · simp at h
    · rename_i u hu
      simp at h
      exact ⟨f.fn.toNat, f.pc.toNat, u, by omega, by omega, hu, by omega, by omega, h.2⟩
theorem kt_good {g : Pg} {x : Th} (hx : GoodT g x) : KT g x := ⟨hx.fl, hx.sk, hx.fr⟩
theorem KT.ok {g : Pg} (hg : GoodP g) {x : Th} (hx : KT g x) : x.ok := ⟨by have := hx.fl; omega, by have := hx.sl; omega, fun f hf => by have := odd_ls hg (hx.fr f hf); unfold Fm.ok; omega⟩
theorem clone59f (t : Th) (h : t.okB) : Spec Try.prog 59 [thD t] [] (fun d os' => d = thD t ∧ os' = []) := by
  refine Spec.frz (post' := fun d => d = thD t) ((clone59o t h).mono ?_)
  rintro d os' ⟨rfl, rfl⟩
  exact ⟨thD t, View.agg (.cons (.same _) (.cons (.same _) (.cons (View.slAll rfl rfl (by simp) (by simp) (ViewL.same _) (pureL_map (fun _ => rfl) _)) (.cons (View.slAll rfl rfl (by simp) (by simp) (ViewL.same _) (pureL_map (fun _ => rfl) _)) (.same _))))), rfl, rfl⟩
@[reducible] def tR (x : Th) : Fam := one (.row 29 5 false [thD x])
end Go.Proofs.Ytaplihoeephbeaa.V
