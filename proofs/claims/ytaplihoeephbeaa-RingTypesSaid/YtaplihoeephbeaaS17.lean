/- S17: a text of a symbolic executor that is proved sound, and contracts that are proved with it. -/
import Derived.Test.YtaplihoeephbeaaS15
import Derived.Test.YtaplihoeephbeaaS11
import Derived.Test.YtaplihoeephbeaaS4
set_option linter.unusedVariables false
set_option linter.unusedSimpArgs false
namespace Go.Proofs.Ytaplihoeephbeaa.V
open Go Go.Proofs
set_option maxRecDepth 100000
set_option maxHeartbeats 4000000
theorem odd_ls {g : Pg} (hg : GoodP g) {f : Fm} (h : oddF g f = false) : f.ls.length ≤ 3 := by
  unfold oddF at h
  split at h
  · simp at h
  · split at h
    · simp at h
    · rename_i u hu
      simp at h
      have := (hg.fu u (List.mem_of_getElem? hu)).1
      omega
theorem good_okB {g : Pg} (hg : GoodP g) {x : Th} (hx : GoodT g x) : x.okB := ⟨by have := hx.fl; omega, by have := hx.sk; omega, fun f hf => by have := odd_ls hg (hx.fr f hf); omega⟩
theorem good_ok {g : Pg} (hg : GoodP g) {x : Th} (hx : GoodT g x) : x.ok := ⟨by have := hx.fl; omega, by have := hx.sk; omega, fun f hf => by have := odd_ls hg (hx.fr f hf); unfold Fm.ok; omega⟩
theorem pop52 (t : Th) (s : List Int) (v : Int) (hs : t.sk = s ++ [v]) (hl : s.length ≤ 1000000) : Spec Try.prog 52 [thD t] [] (fun d os' => d = .tup [thD { t with sk := s }, .int .i64 v, .bool true] ∧ os' = []) := by
  refine Spec.frz (post' := fun d => d = .tup [thD { t with sk := s }, .int .i64 v, .bool true]) ?_
  have hlen : (t.sk.map (D.int .i64)).length = s.length + 1 := by rw [hs]; simp
  have e : ((((t.sk.map (D.int .i64)).length : Nat) : Int) - 1).toNat = s.length := by omega
  have hget : t.sk[((((t.sk.map (D.int .i64)).length : Nat) : Int) - 1).toNat]? = some v := by rw [e, hs]; simp
  refine Spec.by Try.func52 rfl (by decide) (by decide +kernel) rfl ?_
  (refine goA ?_)
  refine Opt.of (get_map hget) ?_
  (refine goA ?_)
  refine Nm.mk (s.map (D.int .i64)) (by show s.map (D.int .i64) = ((t.sk.map (D.int .i64)).take ((((t.sk.map (D.int .i64)).length : Nat) : Int) - 1).toNat).drop 0; rw [List.drop_zero, e, hs, List.map_append, List.take_left' (by simp)]) ?_
  (refine goA ?_)
  refine Ret.mk [.cell 2 29, .tmp 3, .tmp 4] rfl ?_; (refine goA ?_)
  exact ⟨.tup [thD { t with sk := s }, .int .i64 v, .bool true], View.tup (.cons (.agg (.cons (.same _) (.cons (.same _) (.cons (.same _) (.cons (View.lst (by simp) (.same _) (pureL_map (fun _ => rfl) _)) (.same _)))))) (.same _)), rfl, rfl⟩
theorem leave54 (t : Th) (s : List Fm) (f : Fm) (hs : t.fr = s ++ [f]) (hl : s.length ≤ 1000000) : Spec Try.prog 54 [thD t] [] (fun d os' => d = .tup [thD { t with fr := s }, .bool (decide (0 < (((t.fr.map frD).length : Nat) : Int) - 1))] ∧ os' = []) := by
  refine Spec.frz (post' := fun d => d = .tup [thD { t with fr := s }, .bool (decide (0 < (((t.fr.map frD).length : Nat) : Int) - 1))]) ?_
  have hlen : (t.fr.map frD).length = s.length + 1 := by rw [hs]; simp
  have e : ((((t.fr.map frD).length : Nat) : Int) - 1).toNat = s.length := by omega
  refine Spec.by Try.func54 rfl (by decide) (by decide +kernel) rfl ?_
  (refine goA ?_)
  refine Nm.mk (s.map frD) (by show s.map frD = ((t.fr.map frD).take ((((t.fr.map frD).length : Nat) : Int) - 1).toNat).drop 0; rw [List.drop_zero, e, hs, List.map_append, List.take_left' (by simp)]) ?_
  (refine goA ?_)
  refine Ret.mk [.cell 2 29, .tmp 3] rfl ?_; (refine goA ?_)
  exact ⟨.tup [thD { t with fr := s }, .bool (decide (0 < (((t.fr.map frD).length : Nat) : Int) - 1))], View.tup (.cons (.agg (.cons (.same _) (.cons (.same _) (.cons (View.lst (by simp) (.same _) (pureL_map (fun _ => rfl) _)) (.same _))))) (.same _)), rfl, rfl⟩
theorem end55 (t : Th) (c : Int) : Spec Try.prog 55 [thD t, .int .i64 c] [] (fun d os' => d = thD ⟨9, 0, [], [], c⟩ ∧ os' = []) := by
  refine Spec.frz (post' := fun d => d = thD ⟨9, 0, [], [], c⟩) ?_
  refine Spec.by Try.func55 rfl (by decide) (by decide +kernel) rfl ?_
  (refine goA ?_)
  refine Ret.mk [.cell 4 29] rfl ?_; (refine goA ?_)
  exact ⟨thD ⟨9, 0, [], [], c⟩, View.agg (.cons (.same _) (.cons (.same _) (.cons (.nils _ _) (.cons (.nils _ _) (.same _))))), rfl, rfl⟩
/-- Of all slots but these nothing is known any more. -/
theorem Weak.only {n0 : Nat} {m : List (Nat × D)} {os : Objs} (sl : List (Nat × D)) (os' : Objs) (ho : os = os') (h : told m sl) : Weak n0 { m := m, objs := os } { m := sl, objs := os' } := by
  subst ho
  refine Weak.slots rfl (fun i => ?_)
  cases hc : (sl.map (·.1)).contains i with
  | true => exact .inr (told_look h hc)
  | false => exact .inl (look_not_mem hc)
theorem law7 (p : Pg) (hp : p.okB) (t : Th) (ht : t.okR) (v : Int) (hv : I64 v) : Spec Try.prog 7 [pgD p, thD t, .int .i64 v] [] (fun d _ => d = .bool true) := by
  refine Spec.by Try.func7 rfl (by decide) (by decide +kernel) rfl ?_
  (refine goA ?_)
  refine Call.mk ((good29 p hp).only _ rfl (by rintro d ⟨g, _, rfl⟩; rfl)) ?_
  rintro d os' ⟨⟨g, hg, rfl⟩, rfl⟩
  have hfu := hg.sz.fu
  have hfu' : 1 ≤ (g.fu.map fuD).length ∧ (g.fu.map fuD).length ≤ 4 := by rw [List.length_map]; exact hfu
  (refine goA ?_)
  refine Call.mk ((good30f g hg t ht).only _ rfl (by rintro d ⟨x, _, rfl⟩; rfl)) ?_
  rintro d os' ⟨⟨x, hx, rfl⟩, rfl⟩
  have hok := good_ok hg hx
  have hfl := hx.fl
  have hsl := hx.sk
  have hr := around_lt v (g.fu.map fuD).length (by omega)
  obtain ⟨k, hk⟩ : ∃ k : Nat, around v (g.fu.map fuD).length = (k : Int) := ⟨(around v (g.fu.map fuD).length).toNat, by omega⟩
  rw [hk] at hr
  have hkl : k < g.fu.length := by rw [List.length_map] at hr; omega
  obtain ⟨u, hu⟩ : ∃ u, g.fu[k]? = some u := ⟨_, List.getElem?_eq_getElem hkl⟩
  have hgu := hg.fu u (List.mem_of_getElem? hu)
  (refine goA ?_)
  refine Call.mk ((push40 x v (by omega)).only _ rfl (by rintro d rfl; rfl)) ?_
  rintro d os' ⟨rfl, rfl⟩
  by_cases h16 : x.sk.length < 16
  · have he : pushT x v = ({ x with sk := x.sk ++ [keep v] }, true) := if_neg (by omega)
    rw [he]
    have b1 : (!(true == decide (((x.sk.map (D.int .i64)).length : Int) < 16))) = false := by rw [List.length_map, decide_eq_true (by omega)]; rfl
    (refine goA ?_)
    refine Call.mk ((pop52 { x with sk := x.sk ++ [keep v] } x.sk (keep v) rfl (by omega)).only _ rfl (by rintro d rfl; rfl)) ?_
    rintro d os' ⟨rfl, rfl⟩
    (refine goA ?_)
    refine Call.mk (keep36 v _) ?_
    rintro d os' ⟨rfl, rfl⟩
    (refine goA ?_)
    refine Call.mk ((same53 x x hok).only _ rfl (by rintro d rfl; rfl)) ?_
    rintro d os' ⟨rfl, rfl⟩
    (refine goR ?_)
    refine Pt.weak (Weak.trans (Weak.trim 4 (by simp) rfl (Nat.le_of_ble_eq_true rfl)) (Weak.only [(2, .int .i64 v), (7, .ptr 2 0 7 0 0), (8, .ptr 3 0 5 0 0)] [one (.row 26 7 false [pgD p]), one (.row 29 5 false [thD t]), one (.row 26 7 false [pgD g]), one (.row 29 5 false [thD x])] (by kernel_rfl) tld)) ?_
    (refine goA ?_)
    refine Call.mk ((around33 v (g.fu.map fuD).length hv (by omega)).only _ rfl (by rintro d rfl; rfl)) ?_
    rintro d os' ⟨rfl, rfl⟩
    rw [hk]
    (refine goA ?_)
    refine Call.mk ((enter39 g x k u hu (by have := hgu.1; omega) (by omega)).only _ rfl (by rintro d rfl; rfl)) ?_
    rintro d os' ⟨rfl, rfl⟩
    by_cases h8 : x.fr.length < 8
    · have he2 : enterT x ⟨k, 0, List.replicate u.loc.toNat 0⟩ = ({ x with fr := x.fr ++ [⟨k, 0, List.replicate u.loc.toNat 0⟩] }, true) := if_neg (by omega)
      rw [he2]
      have b2 : (!(true == decide (((x.fr.map frD).length : Int) < 8))) = false := by rw [List.length_map, decide_eq_true (by omega)]; rfl
      have hlen : (((x.fr ++ [(⟨k, 0, List.replicate u.loc.toNat 0⟩ : Fm)]).map frD).length : Int) = ((x.fr.map frD).length : Int) + 1 := by simp
      have h4 : 0 < (((x.fr ++ [(⟨k, 0, List.replicate u.loc.toNat 0⟩ : Fm)]).map frD).length : Int) - 1 := by simp; omega
      (refine goR ?_)
      refine Pt.weak (Weak.trans (Weak.trim 5 (by simp) rfl (Nat.le_of_ble_eq_true rfl)) (Weak.only [(7, .ptr 2 0 7 0 0), (8, .ptr 3 0 5 0 0), (14, .ptr 4 0 5 0 0), (15, .bool true)] [one (.row 26 7 false [pgD p]), one (.row 29 5 false [thD t]), one (.row 26 7 false [pgD g]), one (.row 29 5 false [thD x]), one (.row 29 5 false [thD { x with fr := x.fr ++ [⟨k, 0, List.replicate u.loc.toNat 0⟩] }])] (by kernel_rfl) tld)) ?_
      (refine goA ?_)
      refine Call.mk ((leave54 { x with fr := x.fr ++ [⟨k, 0, List.replicate u.loc.toNat 0⟩] } x.fr ⟨k, 0, List.replicate u.loc.toNat 0⟩ rfl (by omega)).only _ rfl (by rintro d rfl; rfl)) ?_
      rintro d os' ⟨rfl, rfl⟩
      (refine goA ?_)
      refine Call.mk ((same53 x x hok).only _ rfl (by rintro d rfl; rfl)) ?_
      rintro d os' ⟨rfl, rfl⟩
      (refine goA ?_)
      refine Call.mk ((end55 x 3).only _ rfl (by rintro d rfl; rfl)) ?_
      rintro d os' ⟨rfl, rfl⟩
      (refine goA ?_)
      refine Call.mk ((end34 3).only _ rfl (by rintro d rfl; rfl)) ?_
      rintro d os' ⟨rfl, rfl⟩
      (refine goA ?_)
      refine Call.mk ((same53 ⟨9, 0, [], [], 3⟩ ⟨9, 0, [], [], 3⟩ ⟨by simp, by simp, fun f hf => by simp at hf⟩).only _ rfl (by rintro d rfl; rfl)) ?_
      rintro d os' ⟨rfl, rfl⟩
      (refine goA ?_)
      refine Call.mk (lives37.only _ rfl (by rintro d rfl; rfl)) ?_
      rintro d os' ⟨rfl, rfl⟩
      (refine goA ?_)
      refine Ret.mk [.tmp _] rfl ?_
      exact rfl
    · have he2 : enterT x ⟨k, 0, List.replicate u.loc.toNat 0⟩ = (x, false) := if_pos (by omega)
      rw [he2]
      have b2 : (!(false == decide (((x.fr.map frD).length : Int) < 8))) = false := by rw [List.length_map, decide_eq_false (by omega)]; rfl
      (refine goR ?_)
      refine Pt.weak (Weak.trans (Weak.trim 5 (by simp) rfl (Nat.le_of_ble_eq_true rfl)) (Weak.only [(7, .ptr 2 0 7 0 0), (8, .ptr 3 0 5 0 0), (14, .ptr 4 0 5 0 0), (15, .bool false)] [one (.row 26 7 false [pgD p]), one (.row 29 5 false [thD t]), one (.row 26 7 false [pgD g]), one (.row 29 5 false [thD x]), one (.row 29 5 false [thD x])] (by kernel_rfl) tld)) ?_
      (refine goA ?_)
      refine Call.mk ((same53 x x hok).only _ rfl (by rintro d rfl; rfl)) ?_
      rintro d os' ⟨rfl, rfl⟩
      (refine goA ?_)
      refine Call.mk (lives37.only _ rfl (by rintro d rfl; rfl)) ?_
      rintro d os' ⟨rfl, rfl⟩
      (refine goA ?_)
      refine Ret.mk [.tmp _] rfl ?_
      exact rfl
  · have he : pushT x v = (x, false) := if_pos (by omega)
    rw [he]
    have b1 : (!(false == decide (((x.sk.map (D.int .i64)).length : Int) < 16))) = false := by rw [List.length_map, decide_eq_false (by omega)]; rfl
    (refine goR ?_)
    ((with_reducible refine Pt.go ?_); conv => whnf)
    (refine goR ?_)
    ((with_reducible refine Pt.go ?_); conv => whnf)
    (refine goR ?_)
    refine Pt.weak (Weak.trans (Weak.trim 4 (by simp) rfl (Nat.le_of_ble_eq_true rfl)) (Weak.only [(2, .int .i64 v), (7, .ptr 2 0 7 0 0), (8, .ptr 3 0 5 0 0)] [one (.row 26 7 false [pgD p]), one (.row 29 5 false [thD t]), one (.row 26 7 false [pgD g]), one (.row 29 5 false [thD x])] (by kernel_rfl) tld)) ?_
    (refine goA ?_)
    refine Call.mk ((around33 v (g.fu.map fuD).length hv (by omega)).only _ rfl (by rintro d rfl; rfl)) ?_
    rintro d os' ⟨rfl, rfl⟩
    rw [hk]
    (refine goA ?_)
    refine Call.mk ((enter39 g x k u hu (by have := hgu.1; omega) (by omega)).only _ rfl (by rintro d rfl; rfl)) ?_
    rintro d os' ⟨rfl, rfl⟩
    by_cases h8 : x.fr.length < 8
    · have he2 : enterT x ⟨k, 0, List.replicate u.loc.toNat 0⟩ = ({ x with fr := x.fr ++ [⟨k, 0, List.replicate u.loc.toNat 0⟩] }, true) := if_neg (by omega)
      rw [he2]
      have b2 : (!(true == decide (((x.fr.map frD).length : Int) < 8))) = false := by rw [List.length_map, decide_eq_true (by omega)]; rfl
      have hlen : (((x.fr ++ [(⟨k, 0, List.replicate u.loc.toNat 0⟩ : Fm)]).map frD).length : Int) = ((x.fr.map frD).length : Int) + 1 := by simp
      have h4 : 0 < (((x.fr ++ [(⟨k, 0, List.replicate u.loc.toNat 0⟩ : Fm)]).map frD).length : Int) - 1 := by simp; omega
      (refine goR ?_)
      refine Pt.weak (Weak.trans (Weak.trim 5 (by simp) rfl (Nat.le_of_ble_eq_true rfl)) (Weak.only [(7, .ptr 2 0 7 0 0), (8, .ptr 3 0 5 0 0), (14, .ptr 4 0 5 0 0), (15, .bool true)] [one (.row 26 7 false [pgD p]), one (.row 29 5 false [thD t]), one (.row 26 7 false [pgD g]), one (.row 29 5 false [thD x]), one (.row 29 5 false [thD { x with fr := x.fr ++ [⟨k, 0, List.replicate u.loc.toNat 0⟩] }])] (by kernel_rfl) tld)) ?_
      (refine goA ?_)
      refine Call.mk ((leave54 { x with fr := x.fr ++ [⟨k, 0, List.replicate u.loc.toNat 0⟩] } x.fr ⟨k, 0, List.replicate u.loc.toNat 0⟩ rfl (by omega)).only _ rfl (by rintro d rfl; rfl)) ?_
      rintro d os' ⟨rfl, rfl⟩
      (refine goA ?_)
      refine Call.mk ((same53 x x hok).only _ rfl (by rintro d rfl; rfl)) ?_
      rintro d os' ⟨rfl, rfl⟩
      (refine goA ?_)
      refine Call.mk ((end55 x 3).only _ rfl (by rintro d rfl; rfl)) ?_
      rintro d os' ⟨rfl, rfl⟩
      (refine goA ?_)
      refine Call.mk ((end34 3).only _ rfl (by rintro d rfl; rfl)) ?_
      rintro d os' ⟨rfl, rfl⟩
      (refine goA ?_)
      refine Call.mk ((same53 ⟨9, 0, [], [], 3⟩ ⟨9, 0, [], [], 3⟩ ⟨by simp, by simp, fun f hf => by simp at hf⟩).only _ rfl (by rintro d rfl; rfl)) ?_
      rintro d os' ⟨rfl, rfl⟩
      (refine goA ?_)
      refine Call.mk (lives37.only _ rfl (by rintro d rfl; rfl)) ?_
      rintro d os' ⟨rfl, rfl⟩
      (refine goA ?_)
      refine Ret.mk [.tmp _] rfl ?_
      exact rfl
    · have he2 : enterT x ⟨k, 0, List.replicate u.loc.toNat 0⟩ = (x, false) := if_pos (by omega)
      rw [he2]
      have b2 : (!(false == decide (((x.fr.map frD).length : Int) < 8))) = false := by rw [List.length_map, decide_eq_false (by omega)]; rfl
      (refine goR ?_)
      refine Pt.weak (Weak.trans (Weak.trim 5 (by simp) rfl (Nat.le_of_ble_eq_true rfl)) (Weak.only [(7, .ptr 2 0 7 0 0), (8, .ptr 3 0 5 0 0), (14, .ptr 4 0 5 0 0), (15, .bool false)] [one (.row 26 7 false [pgD p]), one (.row 29 5 false [thD t]), one (.row 26 7 false [pgD g]), one (.row 29 5 false [thD x]), one (.row 29 5 false [thD x])] (by kernel_rfl) tld)) ?_
      (refine goA ?_)
      refine Call.mk ((same53 x x hok).only _ rfl (by rintro d rfl; rfl)) ?_
      rintro d os' ⟨rfl, rfl⟩
      (refine goA ?_)
      refine Call.mk (lives37.only _ rfl (by rintro d rfl; rfl)) ?_
      rintro d os' ⟨rfl, rfl⟩
      (refine goA ?_)
      refine Ret.mk [.tmp _] rfl ?_
      exact rfl
end Go.Proofs.Ytaplihoeephbeaa.V
