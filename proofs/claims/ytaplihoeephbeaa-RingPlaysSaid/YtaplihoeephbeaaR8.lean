/- R8: a text of a symbolic executor that is proved sound, and contracts that are proved with it. -/
import Derived.Test.YtaplihoeephbeaaR7
import Derived.Test.YtaplihoeephbeaaVRing2
namespace Go.Proofs.Ytaplihoeephbeaa.V
open Go Go.Proofs
set_option linter.unusedVariables false
set_option maxRecDepth 100000
set_option maxHeartbeats 40000000
theorem cb65 (v : Int) : Spec Try.prog 65 [.int .i64 v] [] (fun d os' => d = .bool (decide (v < 0)) ∧ os' = []) := by
  refine Spec.by Try.func65 rfl (by decide) (by decide +kernel) rfl ?_
  (conv => whnf); repeat ((first | with_reducible (first | refine Pt.go ?_ | refine dA ?_ | refine dL ?_) | refine Br.t ?_ | refine Br.f ?_ | refine bT ?_ | refine bF ?_ | refine Opt.mk ?_ | with_reducible refine aR ?_ | refine ⟨fun h => absurd (congrArg List.length h) (Nat.succ_ne_zero _), fun _ => ?_⟩ | refine aC ?_ | refine apG ?_); conv => whnf)
  refine Ret.mk [.tmp _] rfl ?_; refine And.intro ?_ rfl
  rfl
theorem del147 (xs : List Int) (g : Nat) (q : Int → Bool) (hl : xs.length ≤ 1000000) (hq : ∀ x ∈ xs, Spec Try.prog g [.int .i64 x] [] (fun d os' => d = .bool (q x) ∧ os' = [])) :
    Spec Try.prog 147 [.sl 0 0 1 0 xs.length none, .fn (.func g) [] []] [rowI xs] (fun d os' => ∃ z, d = .sl 0 0 1 0 (xs.filter (fun x => !q x)).length none ∧ os' = [rowI (xs.filter (fun x => !q x) ++ z)]) := by
  have hlm : (xs.map (D.int .i64)).length = xs.length := List.length_map ..
  refine Spec.by Try.func147 rfl (by decide) (by decide +kernel) rfl ?_
  (conv => whnf); repeat ((first | with_reducible (first | refine Pt.go ?_ | refine dA ?_ | refine dL ?_) | refine Br.t ?_ | refine Br.f ?_ | refine bT ?_ | refine bF ?_ | refine Opt.mk ?_ | with_reducible refine aR ?_ | refine ⟨fun h => absurd (congrArg List.length h) (Nat.succ_ne_zero _), fun _ => ?_⟩ | refine aC ?_ | refine apG ?_); conv => whnf)
  refine Call.mk ((idx192 xs g [] [] q (by omega) hq).read (.cons (View.slAll rfl rfl hlm (by simp) (ViewL.same _) (pureL_map (fun _ => rfl) _)) (.cons (.same _) .nil)) rfl (by rintro d rfl; exact ⟨rfl, rfl⟩)) ?_
  rintro d os' ⟨rfl, rfl⟩
  cases h : xs.findIdx? q with
  | none =>
    have hf : xs.filter (fun x => !q x) = xs := by
      rw [List.findIdx?_eq_none_iff] at h
      rw [List.filter_eq_self]
      intro x hx
      rw [h x hx]; rfl
    (conv => whnf); repeat ((first | with_reducible (first | refine Pt.go ?_ | refine dA ?_ | refine dL ?_) | refine Br.t ?_ | refine Br.f ?_ | refine bT ?_ | refine bF ?_ | refine Opt.mk ?_ | with_reducible refine aR ?_ | refine ⟨fun h => absurd (congrArg List.length h) (Nat.succ_ne_zero _), fun _ => ?_⟩ | refine aC ?_ | refine apG ?_); conv => whnf)
    refine Ret.mk [.tmp 4] rfl ⟨[], ?_, ?_⟩
    · rw [hf]
    · rw [hf, List.append_nil]
  | some i0 =>
    have e0 : idxD (some i0) = .int .i64 (i0 : Int) := rfl
    rw [e0]
    obtain ⟨hi0, hqi, hqb⟩ := List.findIdx?_eq_some_iff_getElem.1 h
    have hfi : (xs.take i0).filter (fun x => !q x) = xs.take i0 := by
      rw [List.filter_eq_self]
      intro x hx
      obtain ⟨j, hj, rfl⟩ := List.mem_take_iff_getElem.1 hx
      simp [hqb j (by omega)]
    have hf1 : (xs.take (i0 + 1)).filter (fun x => !q x) = xs.take i0 := by
      rw [List.take_add_one, List.getElem?_eq_getElem hi0, List.filter_append, hfi]
      simp [hqi]
    (conv => whnf); repeat ((first | with_reducible (first | refine Pt.go ?_ | refine dA ?_ | refine dL ?_) | refine Br.t ?_ | refine Br.f ?_ | refine bT ?_ | refine bF ?_ | refine Opt.mk ?_ | with_reducible refine aR ?_ | refine ⟨fun h => absurd (congrArg List.length h) (Nat.succ_ne_zero _), fun _ => ?_⟩ | refine aC ?_ | refine apG ?_); conv => whnf)
    refine Loop.inv (A := Nat × Nat × List Int) (List.range 42) (fun x => [(0, .sl 0 0 1 0 xs.length none), (1, .fn (.func g) [] []), (5, .int .i64 (x.2.1 : Int)), (6, .int .i64 (x.1 : Int))]) (fun x => [rowI x.2.2]) (fun x => x.1 ≤ xs.length ∧ x.2.1 < x.1 ∧ x.2.2.length = xs.length ∧ ((xs.take x.1).filter (fun x => !q x)).length = x.2.1 ∧ x.2.2.take x.2.1 = (xs.take x.1).filter (fun x => !q x) ∧ x.2.2.drop x.1 = xs.drop x.1) (fun x => xs.length - x.1) (i0 + 1, i0, xs) ⟨hi0, Nat.lt_succ_self _, rfl, by show ((xs.take (i0 + 1)).filter (fun x => !q x)).length = i0; rw [hf1, List.length_take]; omega, hf1.symm, rfl⟩ ?_ ?_
    · exact Weak.start' rfl rfl (by repeat (first | exact trivial | refine And.intro (by first | rfl | exact congrArg (fun n => D.sl _ _ _ _ n none) List.length_append | exact congrArg _ (by omega)) ?_))
    rintro ⟨j, i, Y⟩ ⟨hj, hij, hY, hlen, htk, hdr⟩
    dsimp only at hj hij hY hlen htk hdr ⊢
    have hYm : (Y.map (D.int .i64)).length = xs.length := by rw [List.length_map]; exact hY
    (conv => whnf); repeat ((first | with_reducible (first | refine Pt.go ?_ | refine dA ?_ | refine dL ?_) | refine Br.t ?_ | refine Br.f ?_ | refine bT ?_ | refine bF ?_ | refine Opt.mk ?_ | with_reducible refine aR ?_ | refine ⟨fun h => absurd (congrArg List.length h) (Nat.succ_ne_zero _), fun _ => ?_⟩ | refine aC ?_ | refine apG ?_); conv => whnf)
    refine Br.dec (fun h0 => ?_) (fun h0 => ?_)
    · have hjl : j < xs.length := by omega
      have hYj : Y[j]? = some xs[j] := by
        have := congrArg (fun l => l[0]?) hdr
        simp only [List.getElem?_drop, Nat.add_zero] at this
        rw [this]; exact List.getElem?_eq_getElem hjl
      have hYj' : Y[0 + j]? = some xs[j] := by rw [Nat.zero_add]; exact hYj
      have hdr1 : Y.drop (j + 1) = xs.drop (j + 1) := by
        have := congrArg (fun l => l.drop 1) hdr
        simpa [List.drop_drop] using this
      (conv => whnf); repeat ((first | with_reducible (first | refine Pt.go ?_ | refine dA ?_ | refine dL ?_) | refine Br.t ?_ | refine Br.f ?_ | refine bT ?_ | refine bF ?_ | refine Opt.mk ?_ | with_reducible refine aR ?_ | refine ⟨fun h => absurd (congrArg List.length h) (Nat.succ_ne_zero _), fun _ => ?_⟩ | refine aC ?_ | refine apG ?_); conv => whnf)
      refine Opt.of (get_map hYj') ?_
      (conv => whnf); repeat ((first | with_reducible (first | refine Pt.go ?_ | refine dA ?_ | refine dL ?_) | refine Br.t ?_ | refine Br.f ?_ | refine bT ?_ | refine bF ?_ | refine Opt.mk ?_ | with_reducible refine aR ?_ | refine ⟨fun h => absurd (congrArg List.length h) (Nat.succ_ne_zero _), fun _ => ?_⟩ | refine aC ?_ | refine apG ?_); conv => whnf)
      refine Call.mk ((hq xs[j] (List.getElem_mem hjl)).only _ rfl (by rintro d rfl; rfl)) ?_
      rintro d os' ⟨rfl, rfl⟩
      cases hqj : q xs[j] with
      | true =>
        have hfj : (xs.take (j + 1)).filter (fun x => !q x) = (xs.take j).filter (fun x => !q x) := by
          rw [List.take_add_one, List.getElem?_eq_getElem hjl, List.filter_append]
          simp [hqj]
        (conv => whnf); repeat ((first | with_reducible (first | refine Pt.go ?_ | refine dA ?_ | refine dL ?_) | refine Br.t ?_ | refine Br.f ?_ | refine bT ?_ | refine bF ?_ | refine Opt.mk ?_ | with_reducible refine aR ?_ | refine ⟨fun h => absurd (congrArg List.length h) (Nat.succ_ne_zero _), fun _ => ?_⟩ | refine aC ?_ | refine apG ?_); conv => whnf)
        refine ⟨_, _, _, ?_, ⟨(j + 1, i, Y), ?_, rfl, rfl, rfl⟩, ?_⟩
        · show xs.length - (j + 1) < xs.length - j; omega
        · exact ⟨hjl, by show i < j + 1; omega, hY, by rw [hfj]; exact hlen, by rw [hfj]; exact htk, hdr1⟩
        · refine Weak.backT 1 (by simp) (by first | rfl | kernel_rfl) (by kernel_rfl) (Nat.le_of_ble_eq_true rfl) (by repeat (first | exact trivial | refine And.intro (by first | rfl | exact congrArg (fun n => D.sl _ _ _ _ n none) List.length_append | exact congrArg _ (by omega)) ?_)) (by kernel_rfl) (by kernel_rfl)
      | false =>
        have hfj : (xs.take (j + 1)).filter (fun x => !q x) = (xs.take j).filter (fun x => !q x) ++ [xs[j]] := by
          rw [List.take_add_one, List.getElem?_eq_getElem hjl, List.filter_append]
          simp [hqj]
        have hYi : Y[0 + i]? = some Y[i] := by rw [Nat.zero_add]; exact List.getElem?_eq_getElem (by omega)
        (conv => whnf); repeat ((first | with_reducible (first | refine Pt.go ?_ | refine dA ?_ | refine dL ?_) | refine Br.t ?_ | refine Br.f ?_ | refine bT ?_ | refine bF ?_ | refine Opt.mk ?_ | with_reducible refine aR ?_ | refine ⟨fun h => absurd (congrArg List.length h) (Nat.succ_ne_zero _), fun _ => ?_⟩ | refine aC ?_ | refine apG ?_); conv => whnf)
        refine Opt.of (get_map hYi) ?_
        (conv => whnf); repeat ((first | with_reducible (first | refine Pt.go ?_ | refine dA ?_ | refine dL ?_) | refine Br.t ?_ | refine Br.f ?_ | refine bT ?_ | refine bF ?_ | refine Opt.mk ?_ | with_reducible refine aR ?_ | refine ⟨fun h => absurd (congrArg List.length h) (Nat.succ_ne_zero _), fun _ => ?_⟩ | refine aC ?_ | refine apG ?_); conv => whnf)
        refine ⟨_, _, _, ?_, ⟨(j + 1, i + 1, Y.set i xs[j]), ?_, rfl, rfl, rfl⟩, ?_⟩
        · show xs.length - (j + 1) < xs.length - j; omega
        · refine ⟨hjl, by show i + 1 < j + 1; omega, by show (Y.set i xs[j]).length = _; rw [List.length_set]; exact hY, by rw [hfj, List.length_append]; simp [hlen], ?_, ?_⟩
          · show (Y.set i xs[j]).take (i + 1) = _
            rw [hfj, ← htk, List.take_add_one, List.getElem?_set_self (by omega), List.take_set_of_le (Nat.le_refl _)]
            rfl
          · show (Y.set i xs[j]).drop (j + 1) = _
            rw [List.drop_set_of_lt (by omega)]
            exact hdr1
        · refine Weak.backT 1 (by simp) ?_ (by kernel_rfl) (Nat.le_of_ble_eq_true rfl) (by repeat (first | exact trivial | refine And.intro (by first | rfl | exact congrArg (fun n => D.sl _ _ _ _ n none) List.length_append | exact congrArg _ (by omega)) ?_)) (by kernel_rfl) (by kernel_rfl)
          exact congrArg (fun r => ([one (.row 3 1 true r)] : Objs)) (by rw [Nat.zero_add, List.map_set, Int.toNat_natCast])
    · have hjn : j = xs.length := by omega
      subst hjn
      rw [List.take_length] at hlen htk
      (conv => whnf); repeat ((first | with_reducible (first | refine Pt.go ?_ | refine dA ?_ | refine dL ?_) | refine Br.t ?_ | refine Br.f ?_ | refine bT ?_ | refine bF ?_ | refine Opt.mk ?_ | with_reducible refine aR ?_ | refine ⟨fun h => absurd (congrArg List.length h) (Nat.succ_ne_zero _), fun _ => ?_⟩ | refine aC ?_ | refine apG ?_); conv => whnf)
      intro hpos
      (conv => whnf); repeat ((first | with_reducible (first | refine Pt.go ?_ | refine dA ?_ | refine dL ?_) | refine Br.t ?_ | refine Br.f ?_ | refine bT ?_ | refine bF ?_ | refine Opt.mk ?_ | with_reducible refine aR ?_ | refine ⟨fun h => absurd (congrArg List.length h) (Nat.succ_ne_zero _), fun _ => ?_⟩ | refine aC ?_ | refine apG ?_); conv => whnf)
      refine Ret.mk [.tmp 4] rfl ⟨List.replicate (xs.length - i) 0, ?_, ?_⟩
      · rw [hlen]; rfl
      · refine congrArg (fun r => ([one (.row 3 1 true r)] : Objs)) ?_
        show splice (Y.map (D.int .i64)) (0 + (i : Int).toNat) (List.replicate ((xs.length : Int).toNat - (i : Int).toNat) (D.int .i64 0)) = _
        unfold splice
        rw [Nat.zero_add, Int.toNat_natCast, Int.toNat_natCast, List.length_replicate, ← List.map_take, htk, List.drop_of_length_le (by rw [hYm]; omega), List.append_nil, List.map_append, List.map_replicate]
/-- What is cut is out. -/
theorem cut64 {room a n : Int} {L c : List Int} (h : Rg room a n L c) (g : Nat) (q : Int → Bool) (hq : ∀ x ∈ c, Spec Try.prog g [.int .i64 x] [] (fun d os' => d = .bool (q x) ∧ os' = [])) :
    Spec Try.prog 64 [.ptr 0 0 4 0 0, .fn (.func g) [] []] [rgC room a n L.length 1, rowI L] (fun d os' => ∃ a' n' L' g', (d = .int .i64 (c.length - (c.filter (fun x => !q x)).length) ∧ Rg room a' n' L' (c.filter (fun x => !q x))) ∧ os' = bif g' then [rgC room a' n' L'.length 2, one .gone, rowI L'] else [rgC room a' n' L'.length 1, rowI L']) := by
  have hcl : c.length ≤ 1024 := by have := h.cl; have := h.ll; have := h.rm; omega
  have hnl := h.nl
  refine Spec.by Try.func64 rfl (by decide) (by decide +kernel) rfl ?_
  (conv => whnf); repeat ((first | with_reducible (first | refine Pt.go ?_ | refine dA ?_ | refine dL ?_) | refine Br.t ?_ | refine Br.f ?_ | refine bT ?_ | refine bF ?_ | refine Opt.mk ?_ | with_reducible refine aR ?_ | refine ⟨fun h => absurd (congrArg List.length h) (Nat.succ_ne_zero _), fun _ => ?_⟩ | refine aC ?_ | refine apG ?_); conv => whnf)
  refine Call.mk (list123 h) ?_
  rintro d os' ⟨rfl, rfl⟩
  (conv => whnf); repeat ((first | with_reducible (first | refine Pt.go ?_ | refine dA ?_ | refine dL ?_) | refine Br.t ?_ | refine Br.f ?_ | refine bT ?_ | refine bF ?_ | refine Opt.mk ?_ | with_reducible refine aR ?_ | refine ⟨fun h => absurd (congrArg List.length h) (Nat.succ_ne_zero _), fun _ => ?_⟩ | refine aC ?_ | refine apG ?_); conv => whnf)
  refine Call.mk ((del147 c g q (by omega) hq).frame _ [(4, 0)] rfl (by decide) (fun k p hk => by
    match k, hk with
    | 0, hk => simp at hk; subst hk; exact ⟨Nat.le_of_ble_eq_true rfl, rfl, rfl, fun j hj => one_pos _ hj⟩
    | k + 1, hk => simp at hk) rfl) ?_
  rintro d os' ⟨d1, os1, ⟨z, rfl, rfl⟩, rfl, rfl⟩
  obtain ⟨f, hf⟩ : ∃ f, c.filter (fun x => !q x) = f := ⟨_, rfl⟩
  have hfl : f.length ≤ c.length := by rw [← hf]; exact List.length_filter_le _ _
  rw [hf]
  (conv => whnf); repeat ((first | with_reducible (first | refine dA ?_ | refine dL ?_) | refine Br.t ?_ | refine Br.f ?_ | refine bT ?_ | refine bF ?_ | refine Opt.mk ?_ | with_reducible refine aR ?_ | refine ⟨fun h => absurd (congrArg List.length h) (Nat.succ_ne_zero _), fun _ => ?_⟩ | refine aC ?_ | refine apG ?_); conv => whnf)
  refine Pt.weak (Weak.only [(0, .ptr 0 0 4 0 0), (4, .int .i64 0), (5, .int .i64 n)] [one (.row 176 4 false [.agg [.int .i64 room, .int .i64 a, .sl 4 0 1 0 f.length none, .int .i64 n]]), rowI L, one (.row 23 1 false [.sl 4 0 1 0 c.length none]), one (.row 56 1 false [.ptr 0 0 4 0 0]), rowI (f ++ z), one .gone] (by kernel_rfl) (by repeat (first | exact trivial | refine And.intro (by first | rfl | exact congrArg (fun n => D.sl _ _ _ _ n none) List.length_append | exact congrArg _ (by omega)) ?_))) ?_
  refine Pt.frz (fun k => Nat.beq k 1 || (Nat.beq k 2 || Nat.beq k 3)) [] trivial ?_
  refine Pt.weak (Weak.cutRow 4 f.length (t := 3) (sz := 1) (pr := true) (es := (f ++ z).map (D.int .i64)) rfl) ?_
  rw [show ((f ++ z).map (D.int .i64)).take f.length = f.map (D.int .i64) by rw [List.map_append, List.take_left' (List.length_map ..)]]
  refine Pt.weak (Weak.shift 4 2 (by decide) (by simp) (Nat.le_of_ble_eq_true rfl) (Nat.le_of_ble_eq_true rfl) (fun j => by cases j <;> rfl) rfl) ?_
  refine Pt.weak (Weak.trim 3 (by show 2 ≤ 3; decide) rfl (Nat.le_of_ble_eq_true rfl)) ?_
  (conv => whnf); repeat ((first | with_reducible (first | refine Pt.go ?_ | refine dA ?_ | refine dL ?_) | refine Br.t ?_ | refine Br.f ?_ | refine bT ?_ | refine bF ?_ | refine Opt.mk ?_ | with_reducible refine aR ?_ | refine ⟨fun h => absurd (congrArg List.length h) (Nat.succ_ne_zero _), fun _ => ?_⟩ | refine aC ?_ | refine apG ?_); conv => whnf)
  have hlr := h.ll
  have hcL := h.cl
  refine Ret.mk [.tmp 4] rfl ⟨0, f.length, f, true, ⟨?_, ⟨h.rm, rfl, Nat.le_refl _, by omega, Int.le_refl _, ?_, fun i hi => ?_⟩⟩, rfl⟩
  · rw [hnl]
  · cases f with
    | nil => exact .inl ⟨rfl, rfl⟩
    | cons v f => exact .inr (by rw [List.length_cons]; omega)
  · rw [show (0 : Int).toNat = 0 from rfl, Nat.zero_add, Nat.mod_eq_of_lt hi]
end Go.Proofs.Ytaplihoeephbeaa.V
