/- R12: a text of a symbolic executor that is proved sound, and contracts that are proved with it. -/
import Derived.Test.YtaplihoeephbeaaR11
namespace Go.Proofs.Ytaplihoeephbeaa.V
open Go Go.Proofs
set_option linter.unusedVariables false
set_option maxRecDepth 100000
set_option maxHeartbeats 40000000
theorem delS (room : Int) (c : List Int) (k : Int) (hl : c.length ≤ 1024) (hc : ∀ v ∈ c, I64 v) : Spec Try.prog 147 [.sl 0 0 1 0 c.length none, .fn (.func 145) [] [.ptr 1 0 1 0 0, .ptr 2 0 1 0 0, .ptr 3 0 2 0 0, .ptr 4 0 1 0 0]] (rowI c :: cbO room c k 0)
    (fun d os' => ∃ z, d = .sl 0 0 1 0 (c.filter (fun x => !cutB k x)).length none ∧ os' = rowI (c.filter (fun x => !cutB k x) ++ z) :: cbO room c k c.length) := by
  have hlm : (c.map (D.int .i64)).length = c.length := List.length_map ..
  refine Spec.by Try.func147 rfl (by decide) (by decide +kernel) rfl ?_
  (conv => whnf); repeat ((first | with_reducible (first | refine Pt.go ?_ | refine dA ?_ | refine dL ?_) | refine Br.t ?_ | refine Br.f ?_ | refine bT ?_ | refine bF ?_ | refine Opt.mk ?_ | with_reducible refine aR ?_ | refine ⟨fun h => absurd (congrArg List.length h) (Nat.succ_ne_zero _), fun _ => ?_⟩ | refine aC ?_ | refine apG ?_); conv => whnf)
  refine Call.mk (idxS room c k hl hc) ?_
  rintro d os' ⟨rfl, rfl⟩
  cases h : c.findIdx? (cutB k) with
  | none =>
    have hak : askI none c.length = c.length := rfl
    have hf : c.filter (fun x => !cutB k x) = c := by
      rw [List.findIdx?_eq_none_iff] at h
      rw [List.filter_eq_self]
      intro x hx
      rw [h x hx]; rfl
    (conv => whnf); repeat ((first | with_reducible (first | refine Pt.go ?_ | refine dA ?_ | refine dL ?_) | refine Br.t ?_ | refine Br.f ?_ | refine bT ?_ | refine bF ?_ | refine Opt.mk ?_ | with_reducible refine aR ?_ | refine ⟨fun h => absurd (congrArg List.length h) (Nat.succ_ne_zero _), fun _ => ?_⟩ | refine aC ?_ | refine apG ?_); conv => whnf)
    refine Ret.mk [.tmp 4] rfl ⟨[], ?_, ?_⟩
    · rw [hf]
    · rw [hf, List.append_nil]; rfl
  | some i0 =>
    have e0 : idxD (some i0) = .int .i64 (i0 : Int) := rfl
    rw [e0, show askI (some i0) c.length = i0 + 1 from rfl]
    obtain ⟨hi0, hqi, hqb⟩ := List.findIdx?_eq_some_iff_getElem.1 h
    have hfi : (c.take i0).filter (fun x => !cutB k x) = c.take i0 := by
      rw [List.filter_eq_self]
      intro x hx
      obtain ⟨j, hj, rfl⟩ := List.mem_take_iff_getElem.1 hx
      simp [hqb j (by omega)]
    have hf1 : (c.take (i0 + 1)).filter (fun x => !cutB k x) = c.take i0 := by
      rw [List.take_add_one, List.getElem?_eq_getElem hi0, List.filter_append, hfi]
      simp [hqi]
    (conv => whnf); repeat ((first | with_reducible (first | refine Pt.go ?_ | refine dA ?_ | refine dL ?_) | refine Br.t ?_ | refine Br.f ?_ | refine bT ?_ | refine bF ?_ | refine Opt.mk ?_ | with_reducible refine aR ?_ | refine ⟨fun h => absurd (congrArg List.length h) (Nat.succ_ne_zero _), fun _ => ?_⟩ | refine aC ?_ | refine apG ?_); conv => whnf)
    refine Loop.inv (A := Nat × Nat × List Int) (List.range 42) (fun x => [(0, .sl 0 0 1 0 c.length none), (1, .fn (.func 145) [] [.ptr 1 0 1 0 0, .ptr 2 0 1 0 0, .ptr 3 0 2 0 0, .ptr 4 0 1 0 0]), (5, .int .i64 (x.2.1 : Int)), (6, .int .i64 (x.1 : Int))]) (fun x => rowI x.2.2 :: cbO room c k x.1) (fun x => x.1 ≤ c.length ∧ x.2.1 < x.1 ∧ x.2.2.length = c.length ∧ ((c.take x.1).filter (fun x => !cutB k x)).length = x.2.1 ∧ x.2.2.take x.2.1 = (c.take x.1).filter (fun x => !cutB k x) ∧ x.2.2.drop x.1 = c.drop x.1) (fun x => c.length - x.1) (i0 + 1, i0, c) ⟨hi0, Nat.lt_succ_self _, rfl, by show ((c.take (i0 + 1)).filter (fun x => !cutB k x)).length = i0; rw [hf1, List.length_take]; omega, hf1.symm, rfl⟩ ?_ ?_
    · exact Weak.start' rfl rfl (by repeat (first | exact trivial | refine And.intro (by first | rfl | exact congrArg (fun n => D.sl _ _ _ _ n none) List.length_append | exact congrArg _ (by omega)) ?_))
    rintro ⟨j, i, Y⟩ ⟨hj, hij, hY, hlen, htk, hdr⟩
    dsimp only at hj hij hY hlen htk hdr ⊢
    have hYm : (Y.map (D.int .i64)).length = c.length := by rw [List.length_map]; exact hY
    (conv => whnf); repeat ((first | with_reducible (first | refine Pt.go ?_ | refine dA ?_ | refine dL ?_) | refine Br.t ?_ | refine Br.f ?_ | refine bT ?_ | refine bF ?_ | refine Opt.mk ?_ | with_reducible refine aR ?_ | refine ⟨fun h => absurd (congrArg List.length h) (Nat.succ_ne_zero _), fun _ => ?_⟩ | refine aC ?_ | refine apG ?_); conv => whnf)
    refine Br.dec (fun h0 => ?_) (fun h0 => ?_)
    · have hjl : j < c.length := by omega
      have hYj : Y[j]? = some c[j] := by
        have := congrArg (fun l => l[0]?) hdr
        simp only [List.getElem?_drop, Nat.add_zero] at this
        rw [this]; exact List.getElem?_eq_getElem hjl
      have hYj' : Y[0 + j]? = some c[j] := by rw [Nat.zero_add]; exact hYj
      have hdr1 : Y.drop (j + 1) = c.drop (j + 1) := by
        have := congrArg (fun l => l.drop 1) hdr
        simpa [List.drop_drop] using this
      (conv => whnf); repeat ((first | with_reducible (first | refine Pt.go ?_ | refine dA ?_ | refine dL ?_) | refine Br.t ?_ | refine Br.f ?_ | refine bT ?_ | refine bF ?_ | refine Opt.mk ?_ | with_reducible refine aR ?_ | refine ⟨fun h => absurd (congrArg List.length h) (Nat.succ_ne_zero _), fun _ => ?_⟩ | refine aC ?_ | refine apG ?_); conv => whnf)
      refine Opt.of (get_map hYj') ?_
      (conv => whnf); repeat ((first | with_reducible (first | refine Pt.go ?_ | refine dA ?_ | refine dL ?_) | refine Br.t ?_ | refine Br.f ?_ | refine bT ?_ | refine bF ?_ | refine Opt.mk ?_ | with_reducible refine aR ?_ | refine ⟨fun h => absurd (congrArg List.length h) (Nat.succ_ne_zero _), fun _ => ?_⟩ | refine aC ?_ | refine apG ?_); conv => whnf)
      refine Call.mk ((cb145 room c k hl j c[j] (List.getElem?_eq_getElem hjl) (hc _ (List.getElem_mem hjl))).frame (rowI Y :: cbO room c k j) [(1, 0), (2, 0), (3, 0), (4, 0)] rfl (by decide) (fun p q hk => by
        match p, hk with
        | 0, hk => simp at hk; subst hk; exact ⟨Nat.le_of_ble_eq_true rfl, rfl, rfl, fun j hj => one_pos _ hj⟩
        | 1, hk => simp at hk; subst hk; exact ⟨Nat.le_of_ble_eq_true rfl, rfl, rfl, fun j hj => one_pos _ hj⟩
        | 2, hk => simp at hk; subst hk; exact ⟨Nat.le_of_ble_eq_true rfl, rfl, rfl, fun j hj => one_pos _ hj⟩
        | 3, hk => simp at hk; subst hk; exact ⟨Nat.le_of_ble_eq_true rfl, rfl, rfl, fun j hj => one_pos _ hj⟩
        | p + 4, hk => simp at hk) rfl) ?_
      rintro d os' ⟨d1, os1, ⟨rfl, rfl⟩, rfl, rfl⟩
      rw [show merge [(1, 0), (2, 0), (3, 0), (4, 0)] (rowI Y :: cbO room c k j) (cbO room c k (j + 1)) = rowI Y :: cbO room c k (j + 1) from rfl, show (D.bool (cutB k c[j])).mapId (lead [(1, 0), (2, 0), (3, 0), (4, 0)] (rowI Y :: cbO room c k j).length) = D.bool (cutB k c[j]) from rfl]
      cases hqj : cutB k c[j] with
      | true =>
        have hfj : (c.take (j + 1)).filter (fun x => !cutB k x) = (c.take j).filter (fun x => !cutB k x) := by
          rw [List.take_add_one, List.getElem?_eq_getElem hjl, List.filter_append]
          simp [hqj]
        (conv => whnf); repeat ((first | with_reducible (first | refine Pt.go ?_ | refine dA ?_ | refine dL ?_) | refine Br.t ?_ | refine Br.f ?_ | refine bT ?_ | refine bF ?_ | refine Opt.mk ?_ | with_reducible refine aR ?_ | refine ⟨fun h => absurd (congrArg List.length h) (Nat.succ_ne_zero _), fun _ => ?_⟩ | refine aC ?_ | refine apG ?_); conv => whnf)
        refine ⟨_, _, _, ?_, ⟨(j + 1, i, Y), ?_, rfl, rfl, rfl⟩, ?_⟩
        · show c.length - (j + 1) < c.length - j; omega
        · exact ⟨hjl, by show i < j + 1; omega, hY, by rw [hfj]; exact hlen, by rw [hfj]; exact htk, hdr1⟩
        · refine Weak.backT 5 (by simp) (by first | rfl | kernel_rfl) (by kernel_rfl) (Nat.le_of_ble_eq_true rfl) (by repeat (first | exact trivial | refine And.intro (by first | rfl | exact congrArg (fun n => D.sl _ _ _ _ n none) List.length_append | exact congrArg _ (by omega)) ?_)) (by kernel_rfl) (by kernel_rfl)
      | false =>
        have hfj : (c.take (j + 1)).filter (fun x => !cutB k x) = (c.take j).filter (fun x => !cutB k x) ++ [c[j]] := by
          rw [List.take_add_one, List.getElem?_eq_getElem hjl, List.filter_append]
          simp [hqj]
        have hYi : Y[0 + i]? = some Y[i] := by rw [Nat.zero_add]; exact List.getElem?_eq_getElem (by omega)
        (conv => whnf); repeat ((first | with_reducible (first | refine Pt.go ?_ | refine dA ?_ | refine dL ?_) | refine Br.t ?_ | refine Br.f ?_ | refine bT ?_ | refine bF ?_ | refine Opt.mk ?_ | with_reducible refine aR ?_ | refine ⟨fun h => absurd (congrArg List.length h) (Nat.succ_ne_zero _), fun _ => ?_⟩ | refine aC ?_ | refine apG ?_); conv => whnf)
        refine Opt.of (get_map hYi) ?_
        (conv => whnf); repeat ((first | with_reducible (first | refine Pt.go ?_ | refine dA ?_ | refine dL ?_) | refine Br.t ?_ | refine Br.f ?_ | refine bT ?_ | refine bF ?_ | refine Opt.mk ?_ | with_reducible refine aR ?_ | refine ⟨fun h => absurd (congrArg List.length h) (Nat.succ_ne_zero _), fun _ => ?_⟩ | refine aC ?_ | refine apG ?_); conv => whnf)
        refine ⟨_, _, _, ?_, ⟨(j + 1, i + 1, Y.set i c[j]), ?_, rfl, rfl, rfl⟩, ?_⟩
        · show c.length - (j + 1) < c.length - j; omega
        · refine ⟨hjl, by show i + 1 < j + 1; omega, by show (Y.set i c[j]).length = _; rw [List.length_set]; exact hY, by rw [hfj, List.length_append]; simp [hlen], ?_, ?_⟩
          · show (Y.set i c[j]).take (i + 1) = _
            rw [hfj, ← htk, List.take_add_one, List.getElem?_set_self (by omega), List.take_set_of_le (Nat.le_refl _)]
            rfl
          · show (Y.set i c[j]).drop (j + 1) = _
            rw [List.drop_set_of_lt (by omega)]
            exact hdr1
        · refine Weak.backT 5 (by simp) ?_ (by kernel_rfl) (Nat.le_of_ble_eq_true rfl) (by repeat (first | exact trivial | refine And.intro (by first | rfl | exact congrArg (fun n => D.sl _ _ _ _ n none) List.length_append | exact congrArg _ (by omega)) ?_)) (by kernel_rfl) (by kernel_rfl)
          exact congrArg (fun r => (one (.row 3 1 true r) :: cbO room c k (j + 1) : Objs)) (by rw [Nat.zero_add, List.map_set, Int.toNat_natCast])
    · have hjn : j = c.length := by omega
      subst hjn
      rw [List.take_length] at hlen htk
      (conv => whnf); repeat ((first | with_reducible (first | refine Pt.go ?_ | refine dA ?_ | refine dL ?_) | refine Br.t ?_ | refine Br.f ?_ | refine bT ?_ | refine bF ?_ | refine Opt.mk ?_ | with_reducible refine aR ?_ | refine ⟨fun h => absurd (congrArg List.length h) (Nat.succ_ne_zero _), fun _ => ?_⟩ | refine aC ?_ | refine apG ?_); conv => whnf)
      intro hpos
      (conv => whnf); repeat ((first | with_reducible (first | refine Pt.go ?_ | refine dA ?_ | refine dL ?_) | refine Br.t ?_ | refine Br.f ?_ | refine bT ?_ | refine bF ?_ | refine Opt.mk ?_ | with_reducible refine aR ?_ | refine ⟨fun h => absurd (congrArg List.length h) (Nat.succ_ne_zero _), fun _ => ?_⟩ | refine aC ?_ | refine apG ?_); conv => whnf)
      refine Ret.mk [.tmp 4] rfl ⟨List.replicate (c.length - i) 0, ?_, ?_⟩
      · rw [hlen]; rfl
      · refine congrArg (fun r => (one (.row 3 1 true r) :: cbO room c k c.length : Objs)) ?_
        show splice (Y.map (D.int .i64)) (0 + (i : Int).toNat) (List.replicate ((c.length : Int).toNat - (i : Int).toNat) (D.int .i64 0)) = _
        unfold splice
        rw [Nat.zero_add, Int.toNat_natCast, Int.toNat_natCast, List.length_replicate, ← List.map_take, htk, List.drop_of_length_le (by rw [hYm]; omega), List.append_nil, List.map_append, List.map_replicate]
end Go.Proofs.Ytaplihoeephbeaa.V
