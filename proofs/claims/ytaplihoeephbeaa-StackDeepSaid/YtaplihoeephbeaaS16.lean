/- S16: a text of a symbolic executor that is proved sound, and contracts that are proved with it. -/
import Derived.Test.YtaplihoeephbeaaS15
import Derived.Test.YtaplihoeephbeaaS11
namespace Go.Proofs.Ytaplihoeephbeaa.V
open Go Go.Proofs
set_option maxRecDepth 100000
set_option maxHeartbeats 4000000
@[reducible] def dO (p g : Pg) (x : Th) (r : Objs) : Objs := one (.row 26 7 false [pgD p]) :: one (.row 26 7 false [pgD g]) :: one (.row 29 5 false [thD x]) :: r
@[reducible] def P4 (l m : List Int) : List (Nat × D) := [(1, ints l), (2, ints m), (3, .ptr 0 0 7 0 0), (7, .ptr 1 0 7 0 0), (8, .ptr 2 0 5 0 0)]
structure deepT (g : Pg) (x : Th) : Prop where
  st : x.st = 0
  on : x.on = 0
  code : x.code = 0
  fl : 1 ≤ x.fr.length ∧ x.fr.length ≤ 8
  fr : ∀ f ∈ x.fr, oddF g f = false ∧ f.ls.length ≤ 3
  sl : x.sk.length ≤ 16
  kp : kept x.sk = true
theorem deep_may {g : Pg} {x : Th} (h : deepT g x) : mayT g x = true := by
  obtain ⟨h1, h2, h3, h4, h5, h6, h7⟩ := h
  unfold mayT
  have e1 : mayP x.st x.code x.fr.length x.sk.length := by unfold mayP; omega
  have e2 : x.on = keep x.on := by rw [h2]; rfl
  have e3 : x.fr.any (oddF g) = false := by rw [List.any_eq_false]; intro f hf; rw [(h5 f hf).1]; simp
  rw [decide_eq_true e1, decide_eq_true e2, h7, e3]
  rfl
theorem deep_ok {g : Pg} {x : Th} (h : deepT g x) : x.okB := ⟨by have := h.fl; omega, by have := h.sl; omega, fun f hf => by have := (h.fr f hf).2; omega⟩
theorem law4 (p : Pg) (hp : p.okB) (l m : List Int) (hl : lok l) (hm : lok m) : Spec Try.prog 4 [pgD p, ints l, ints m] [] (fun d _ => d = .bool true) := by
  have hll : l.length ≤ 9223372036854775806 := by have := hl.1; omega
  have hml : m.length ≤ 9223372036854775806 := by have := hm.1; omega
  refine Spec.by Try.func4 rfl (by decide) (by decide +kernel) rfl ?_
  (conv => whnf); repeat (first | ((with_reducible refine Pt.go ?_); conv => whnf) | ((with_reducible refine dA ?_); conv => whnf) | ((with_reducible refine dL ?_); conv => whnf) | (refine Br.t ?_; conv => whnf) | (refine Br.f ?_; conv => whnf) | (refine bT ?_; conv => whnf) | (refine bF ?_; conv => whnf) | (refine Opt.mk ?_; conv => whnf) | ((with_reducible refine aR ?_); conv => whnf) | (refine ⟨fun h => absurd (congrArg List.length h) (Nat.succ_ne_zero _), fun _ => ?_⟩; conv => whnf) | (refine aC ?_; conv => whnf) | fail)
  refine Call.mk ((good29 p hp).only _ rfl (by rintro d ⟨g, _, rfl⟩; rfl)) ?_
  rintro d os' ⟨⟨g, hg, rfl⟩, rfl⟩
  have hfu := hg.sz.fu
  have hfu' : 1 ≤ (g.fu.map fuD).length ∧ (g.fu.map fuD).length ≤ 4 := by rw [List.length_map]; exact hfu
  have odd0 : ∀ (k : Nat) (u : Fu), g.fu[k]? = some u → oddF g ⟨k, 0, List.replicate u.loc.toNat 0⟩ = false ∧ (List.replicate u.loc.toNat (0 : Int)).length ≤ 3 := fun k u hu => by
    have hgu := hg.fu u (List.mem_of_getElem? hu)
    exact ⟨odd_not hu (by omega) (by simp) hgu.1.1 (by rw [kept_iff]; intro v hv; have := List.eq_of_mem_replicate hv; omega), by rw [List.length_replicate]; omega⟩
  obtain ⟨u0, hu0⟩ : ∃ u, g.fu[0]? = some u := ⟨_, List.getElem?_eq_getElem (by omega)⟩
  (conv => whnf); repeat (first | ((with_reducible refine Pt.go ?_); conv => whnf) | ((with_reducible refine dA ?_); conv => whnf) | ((with_reducible refine dL ?_); conv => whnf) | (refine Br.t ?_; conv => whnf) | (refine Br.f ?_; conv => whnf) | (refine bT ?_; conv => whnf) | (refine bF ?_; conv => whnf) | (refine Opt.mk ?_; conv => whnf) | ((with_reducible refine aR ?_); conv => whnf) | (refine ⟨fun h => absurd (congrArg List.length h) (Nat.succ_ne_zero _), fun _ => ?_⟩; conv => whnf) | (refine aC ?_; conv => whnf) | fail)
  refine Call.mk ((new38 g 0 u0 hu0 (by have := (hg.fu u0 (List.mem_of_getElem? hu0)).1; omega)).only _ rfl (by rintro d rfl; rfl)) ?_
  rintro d os' ⟨rfl, rfl⟩
  (conv => whnf); repeat (first | ((with_reducible refine Pt.go ?_); conv => whnf) | ((with_reducible refine dA ?_); conv => whnf) | ((with_reducible refine dL ?_); conv => whnf) | (refine Br.t ?_; conv => whnf) | (refine Br.f ?_; conv => whnf) | (refine bT ?_; conv => whnf) | (refine bF ?_; conv => whnf) | (refine Opt.mk ?_; conv => whnf) | ((with_reducible refine aR ?_); conv => whnf) | (refine ⟨fun h => absurd (congrArg List.length h) (Nat.succ_ne_zero _), fun _ => ?_⟩; conv => whnf) | (refine aC ?_; conv => whnf) | fail)
  refine Loop.inv2 (A := Nat × Th) 0 (List.range 137) (fun a => (9, .int .i64 (a.1 : Int)) :: P4 l m) (fun a => dO p g a.2 []) (fun a => a.1 ≤ l.length ∧ a.1 ≤ 12 ∧ deepT g a.2 ∧ a.2.sk = [] ∧ a.2.fr.length = min (a.1 + 1) 8) (fun a => deepT g a.2 ∧ a.2.sk = []) (fun a => 12 - a.1) (0, ⟨0, 0, [⟨((0 : Nat) : Int), 0, List.replicate u0.loc.toNat 0⟩], [], 0⟩)
    ⟨Nat.zero_le _, by omega, ⟨rfl, rfl, rfl, ⟨Nat.le_refl 1, by show 1 ≤ 8; omega⟩, fun f hf => by simp only [List.mem_singleton] at hf; subst hf; exact odd0 0 u0 hu0, Nat.zero_le _, rfl⟩, rfl, rfl⟩ ?_ ?_ ?_
  · exact Weak.start' (by first | rfl | kernel_rfl) (by first | rfl | kernel_rfl) (by repeat (first | exact trivial | refine And.intro (by first | rfl | exact congrArg (fun n => D.sl _ _ _ _ n none) List.length_append | exact congrArg _ (by omega)) ?_))
  · intro cont
    rintro ⟨i, x⟩ ⟨hi, h12, hx, hsk, hfl⟩
    dsimp only at hi h12 hx hsk hfl ⊢
    (conv => whnf); repeat (first | ((with_reducible refine Pt.go ?_); conv => whnf) | ((with_reducible refine dA ?_); conv => whnf) | ((with_reducible refine dL ?_); conv => whnf) | (refine Br.t ?_; conv => whnf) | (refine Br.f ?_; conv => whnf) | (refine bT ?_; conv => whnf) | (refine bF ?_; conv => whnf) | (refine Opt.mk ?_; conv => whnf) | ((with_reducible refine aR ?_); conv => whnf) | (refine ⟨fun h => absurd (congrArg List.length h) (Nat.succ_ne_zero _), fun _ => ?_⟩; conv => whnf) | (refine aC ?_; conv => whnf) | fail)
    refine Br.dec (fun c1 => ?_) (fun c1 => ?_)
    · (conv => whnf); repeat (first | ((with_reducible refine Pt.go ?_); conv => whnf) | ((with_reducible refine dA ?_); conv => whnf) | ((with_reducible refine dL ?_); conv => whnf) | (refine Br.t ?_; conv => whnf) | (refine Br.f ?_; conv => whnf) | (refine bT ?_; conv => whnf) | (refine bF ?_; conv => whnf) | (refine Opt.mk ?_; conv => whnf) | ((with_reducible refine aR ?_); conv => whnf) | (refine ⟨fun h => absurd (congrArg List.length h) (Nat.succ_ne_zero _), fun _ => ?_⟩; conv => whnf) | (refine aC ?_; conv => whnf) | fail)
      refine Br.dec (fun c2 => ?_) (fun c2 => ?_)
      · simp only [List.length_map] at c1
        have hget : l[i]? = some (l[i]'(by omega)) := List.getElem?_eq_getElem (by omega)
        have hv := hl.2 _ (List.getElem_mem (l := l) (n := i) (by omega))
        generalize l[i] = v at hget hv
        have hr := around_lt v (g.fu.map fuD).length (by omega)
        obtain ⟨k, hk⟩ : ∃ k : Nat, around v (g.fu.map fuD).length = (k : Int) := ⟨(around v (g.fu.map fuD).length).toNat, by omega⟩
        rw [hk] at hr
        have hkl : k < g.fu.length := by rw [List.length_map] at hr; omega
        obtain ⟨u, hu⟩ : ∃ u, g.fu[k]? = some u := ⟨_, List.getElem?_eq_getElem hkl⟩
        have hgu := hg.fu u (List.mem_of_getElem? hu)
        (conv => whnf); repeat (first | ((with_reducible refine Pt.go ?_); conv => whnf) | ((with_reducible refine dA ?_); conv => whnf) | ((with_reducible refine dL ?_); conv => whnf) | (refine Br.t ?_; conv => whnf) | (refine Br.f ?_; conv => whnf) | (refine bT ?_; conv => whnf) | (refine bF ?_; conv => whnf) | (refine Opt.mk ?_; conv => whnf) | ((with_reducible refine aR ?_); conv => whnf) | (refine ⟨fun h => absurd (congrArg List.length h) (Nat.succ_ne_zero _), fun _ => ?_⟩; conv => whnf) | (refine aC ?_; conv => whnf) | fail)
        refine Opt.of (get_map hget) ?_
        (conv => whnf); repeat (first | ((with_reducible refine Pt.go ?_); conv => whnf) | ((with_reducible refine dA ?_); conv => whnf) | ((with_reducible refine dL ?_); conv => whnf) | (refine Br.t ?_; conv => whnf) | (refine Br.f ?_; conv => whnf) | (refine bT ?_; conv => whnf) | (refine bF ?_; conv => whnf) | (refine Opt.mk ?_; conv => whnf) | ((with_reducible refine aR ?_); conv => whnf) | (refine ⟨fun h => absurd (congrArg List.length h) (Nat.succ_ne_zero _), fun _ => ?_⟩; conv => whnf) | (refine aC ?_; conv => whnf) | fail)
        refine Call.mk ((around33 v (g.fu.map fuD).length hv (by omega)).only _ rfl (by rintro d rfl; rfl)) ?_
        rintro d os' ⟨rfl, rfl⟩
        rw [hk]
        (conv => whnf); repeat (first | ((with_reducible refine Pt.go ?_); conv => whnf) | ((with_reducible refine dA ?_); conv => whnf) | ((with_reducible refine dL ?_); conv => whnf) | (refine Br.t ?_; conv => whnf) | (refine Br.f ?_; conv => whnf) | (refine bT ?_; conv => whnf) | (refine bF ?_; conv => whnf) | (refine Opt.mk ?_; conv => whnf) | ((with_reducible refine aR ?_); conv => whnf) | (refine ⟨fun h => absurd (congrArg List.length h) (Nat.succ_ne_zero _), fun _ => ?_⟩; conv => whnf) | (refine aC ?_; conv => whnf) | fail)
        refine Call.mk ((enter39 g x k u hu (by have := hgu.1; omega) (by have := hx.fl; omega)).only _ rfl (by rintro d rfl; rfl)) ?_
        rintro d os' ⟨rfl, rfl⟩
        by_cases h7 : i < 7
        · have he : enterT x ⟨k, 0, List.replicate u.loc.toNat 0⟩ = ({ x with fr := x.fr ++ [⟨k, 0, List.replicate u.loc.toNat 0⟩] }, true) := if_neg (by omega)
          rw [he]
          have b1 : (!(true == decide ((i : Int) < 7))) = false := by rw [decide_eq_true (by omega)]; rfl
          have hlen : ((x.fr ++ [(⟨k, 0, List.replicate u.loc.toNat 0⟩ : Fm)]).map frD).length = i + 2 := by simp; omega
          have hnew : (x.fr ++ [(⟨k, 0, List.replicate u.loc.toNat 0⟩ : Fm)])[((i : Int) + 1).toNat]? = some ⟨k, 0, List.replicate u.loc.toNat 0⟩ := by
            have e : ((i : Int) + 1).toNat = x.fr.length := by omega
            rw [e]; simp
          (conv => whnf); repeat (first | ((with_reducible refine Pt.go ?_); conv => whnf) | ((with_reducible refine dA ?_); conv => whnf) | ((with_reducible refine dL ?_); conv => whnf) | (refine Br.t ?_; conv => whnf) | (refine Br.f ?_; conv => whnf) | (refine bT ?_; conv => whnf) | (refine bF ?_; conv => whnf) | (refine Opt.mk ?_; conv => whnf) | ((with_reducible refine aR ?_); conv => whnf) | (refine ⟨fun h => absurd (congrArg List.length h) (Nat.succ_ne_zero _), fun _ => ?_⟩; conv => whnf) | (refine aC ?_; conv => whnf) | fail)
          refine Br.ff (congrArg Bool.not (decide_eq_true (by show ((((x.fr ++ [(⟨k, 0, List.replicate u.loc.toNat 0⟩ : Fm)]).map frD).length : Nat) : Int) = _; rw [hlen]; split <;> omega))) ?_
          (conv => whnf); repeat (first | ((with_reducible refine Pt.go ?_); conv => whnf) | ((with_reducible refine dA ?_); conv => whnf) | ((with_reducible refine dL ?_); conv => whnf) | (refine Br.t ?_; conv => whnf) | (refine Br.f ?_; conv => whnf) | (refine bT ?_; conv => whnf) | (refine bF ?_; conv => whnf) | (refine Opt.mk ?_; conv => whnf) | ((with_reducible refine aR ?_); conv => whnf) | (refine ⟨fun h => absurd (congrArg List.length h) (Nat.succ_ne_zero _), fun _ => ?_⟩; conv => whnf) | (refine aC ?_; conv => whnf) | fail)
          refine Opt.of (get_map hnew) ?_
          have hN : (((List.replicate u.loc.toNat (0 : Int)).map (D.int .i64)).length : Int) = u.loc := by rw [List.length_map, List.length_replicate]; have := hgu.1; omega
          have hcode : ((g.fu.map fuD)[(k : Int).toNat]?) = some (fuD u) := get_map hu
          (conv => whnf); repeat (first | ((with_reducible refine Pt.go ?_); conv => whnf) | ((with_reducible refine dA ?_); conv => whnf) | ((with_reducible refine dL ?_); conv => whnf) | (refine Br.t ?_; conv => whnf) | (refine Br.f ?_; conv => whnf) | (refine bT ?_; conv => whnf) | (refine bF ?_; conv => whnf) | (refine Opt.mk ?_; conv => whnf) | ((with_reducible refine aR ?_); conv => whnf) | (refine ⟨fun h => absurd (congrArg List.length h) (Nat.succ_ne_zero _), fun _ => ?_⟩; conv => whnf) | (refine aC ?_; conv => whnf) | fail)
          refine Opt.of (get_map hnew) ?_
          (conv => whnf); repeat (first | ((with_reducible refine Pt.go ?_); conv => whnf) | ((with_reducible refine dA ?_); conv => whnf) | ((with_reducible refine dL ?_); conv => whnf) | (refine Br.t ?_; conv => whnf) | (refine Br.f ?_; conv => whnf) | (refine bT ?_; conv => whnf) | (refine bF ?_; conv => whnf) | (refine Opt.mk ?_; conv => whnf) | ((with_reducible refine aR ?_); conv => whnf) | (refine ⟨fun h => absurd (congrArg List.length h) (Nat.succ_ne_zero _), fun _ => ?_⟩; conv => whnf) | (refine aC ?_; conv => whnf) | fail)
          refine Opt.of (get_map hnew) ?_
          (conv => whnf); repeat (first | ((with_reducible refine Pt.go ?_); conv => whnf) | ((with_reducible refine dA ?_); conv => whnf) | ((with_reducible refine dL ?_); conv => whnf) | (refine Br.t ?_; conv => whnf) | (refine Br.f ?_; conv => whnf) | (refine bT ?_; conv => whnf) | (refine bF ?_; conv => whnf) | (refine Opt.mk ?_; conv => whnf) | ((with_reducible refine aR ?_); conv => whnf) | (refine ⟨fun h => absurd (congrArg List.length h) (Nat.succ_ne_zero _), fun _ => ?_⟩; conv => whnf) | (refine aC ?_; conv => whnf) | fail)
          refine Opt.of (get_map hu) ?_
          (conv => whnf); repeat (first | ((with_reducible refine Pt.go ?_); conv => whnf) | ((with_reducible refine dA ?_); conv => whnf) | ((with_reducible refine dL ?_); conv => whnf) | (refine Br.t ?_; conv => whnf) | (refine Br.f ?_; conv => whnf) | (refine bT ?_; conv => whnf) | (refine bF ?_; conv => whnf) | (refine Opt.mk ?_; conv => whnf) | ((with_reducible refine aR ?_); conv => whnf) | (refine ⟨fun h => absurd (congrArg List.length h) (Nat.succ_ne_zero _), fun _ => ?_⟩; conv => whnf) | (refine aC ?_; conv => whnf) | fail)
          refine ⟨_, _, _, ?_, ⟨(i + 1, { x with fr := x.fr ++ [(⟨k, 0, List.replicate u.loc.toNat 0⟩ : Fm)] }), ?_, rfl, rfl, rfl⟩, ?_⟩
          · show 12 - (i + 1) < 12 - i
            omega
          · refine ⟨by show i + 1 ≤ _; omega, by show i + 1 ≤ 12; omega, ⟨hx.st, hx.on, hx.code, by simp; omega, fun f hf => ?_, hx.sl, hx.kp⟩, hsk, by simp; omega⟩
            rcases List.mem_append.1 hf with hf | hf
            · exact hx.fr f hf
            · simp only [List.mem_singleton] at hf
              subst hf
              exact odd0 k u hu
          · refine Weak.backT 3 (by simp) (by first | rfl | kernel_rfl) (by kernel_rfl) (Nat.le_of_ble_eq_true rfl) (by repeat (first | exact trivial | refine And.intro (by first | rfl | exact congrArg (fun n => D.sl _ _ _ _ n none) List.length_append | exact congrArg _ (by omega)) ?_)) (by kernel_rfl) (by kernel_rfl)
        · have he : enterT x ⟨k, 0, List.replicate u.loc.toNat 0⟩ = (x, false) := if_pos (by omega)
          rw [he]
          have b1 : (!(false == decide ((i : Int) < 7))) = false := by rw [decide_eq_false (by omega)]; rfl
          (conv => whnf); repeat (first | ((with_reducible refine Pt.go ?_); conv => whnf) | ((with_reducible refine dA ?_); conv => whnf) | ((with_reducible refine dL ?_); conv => whnf) | (refine Br.t ?_; conv => whnf) | (refine Br.f ?_; conv => whnf) | (refine bT ?_; conv => whnf) | (refine bF ?_; conv => whnf) | (refine Opt.mk ?_; conv => whnf) | ((with_reducible refine aR ?_); conv => whnf) | (refine ⟨fun h => absurd (congrArg List.length h) (Nat.succ_ne_zero _), fun _ => ?_⟩; conv => whnf) | (refine aC ?_; conv => whnf) | fail)
          refine Br.ff (congrArg Bool.not (decide_eq_true (by show (((x.fr.map frD).length : Nat) : Int) = _; rw [List.length_map, hfl]; split <;> omega))) ?_
          (conv => whnf); repeat (first | ((with_reducible refine Pt.go ?_); conv => whnf) | ((with_reducible refine dA ?_); conv => whnf) | ((with_reducible refine dL ?_); conv => whnf) | (refine Br.t ?_; conv => whnf) | (refine Br.f ?_; conv => whnf) | (refine bT ?_; conv => whnf) | (refine bF ?_; conv => whnf) | (refine Opt.mk ?_; conv => whnf) | ((with_reducible refine aR ?_); conv => whnf) | (refine ⟨fun h => absurd (congrArg List.length h) (Nat.succ_ne_zero _), fun _ => ?_⟩; conv => whnf) | (refine aC ?_; conv => whnf) | fail)
          refine ⟨_, _, _, ?_, ⟨(i + 1, x), ?_, rfl, rfl, rfl⟩, ?_⟩
          · show 12 - (i + 1) < 12 - i
            omega
          · exact ⟨by show i + 1 ≤ _; omega, by show i + 1 ≤ 12; omega, hx, hsk, by show x.fr.length = min (i + 1 + 1) 8; omega⟩
          · refine Weak.backT 3 (by simp) (by first | rfl | kernel_rfl) (by kernel_rfl) (Nat.le_of_ble_eq_true rfl) (by repeat (first | exact trivial | refine And.intro (by first | rfl | exact congrArg (fun n => D.sl _ _ _ _ n none) List.length_append | exact congrArg _ (by omega)) ?_)) (by kernel_rfl) (by kernel_rfl)
      · (conv => whnf); repeat (first | ((with_reducible refine dA ?_); conv => whnf) | ((with_reducible refine dL ?_); conv => whnf) | (refine Br.t ?_; conv => whnf) | (refine Br.f ?_; conv => whnf) | (refine bT ?_; conv => whnf) | (refine bF ?_; conv => whnf) | (refine Opt.mk ?_; conv => whnf) | ((with_reducible refine aR ?_); conv => whnf) | (refine ⟨fun h => absurd (congrArg List.length h) (Nat.succ_ne_zero _), fun _ => ?_⟩; conv => whnf) | (refine aC ?_; conv => whnf) | fail)
        refine Pt.weak ?_ (cont.h (i, x) ?_)
        · refine Weak.backT 3 (by simp) (by first | rfl | kernel_rfl) (by kernel_rfl) (Nat.le_of_ble_eq_true rfl) (by repeat (first | exact trivial | refine And.intro (by first | rfl | exact congrArg (fun n => D.sl _ _ _ _ n none) List.length_append | exact congrArg _ (by omega)) ?_)) (by kernel_rfl) (by kernel_rfl)
        · exact ⟨hx, hsk⟩
    · (conv => whnf); repeat (first | ((with_reducible refine dA ?_); conv => whnf) | ((with_reducible refine dL ?_); conv => whnf) | (refine Br.t ?_; conv => whnf) | (refine Br.f ?_; conv => whnf) | (refine bT ?_; conv => whnf) | (refine bF ?_; conv => whnf) | (refine Opt.mk ?_; conv => whnf) | ((with_reducible refine aR ?_); conv => whnf) | (refine ⟨fun h => absurd (congrArg List.length h) (Nat.succ_ne_zero _), fun _ => ?_⟩; conv => whnf) | (refine aC ?_; conv => whnf) | fail)
      refine Pt.weak ?_ (cont.h (i, x) ?_)
      · refine Weak.backT 3 (by simp) (by first | rfl | kernel_rfl) (by kernel_rfl) (Nat.le_of_ble_eq_true rfl) (by repeat (first | exact trivial | refine And.intro (by first | rfl | exact congrArg (fun n => D.sl _ _ _ _ n none) List.length_append | exact congrArg _ (by omega)) ?_)) (by kernel_rfl) (by kernel_rfl)
      · exact ⟨hx, hsk⟩
  · rintro ⟨i0, x0⟩ ⟨hx0, hsk0⟩
    dsimp only at hx0 hsk0 ⊢
    (conv => whnf); repeat (first | ((with_reducible refine Pt.go ?_); conv => whnf) | ((with_reducible refine dA ?_); conv => whnf) | ((with_reducible refine dL ?_); conv => whnf) | (refine Br.t ?_; conv => whnf) | (refine Br.f ?_; conv => whnf) | (refine bT ?_; conv => whnf) | (refine bF ?_; conv => whnf) | (refine Opt.mk ?_; conv => whnf) | ((with_reducible refine aR ?_); conv => whnf) | (refine ⟨fun h => absurd (congrArg List.length h) (Nat.succ_ne_zero _), fun _ => ?_⟩; conv => whnf) | (refine aC ?_; conv => whnf) | fail)
    refine Loop.inv2 (A := Nat × Th) 2 (List.range 137) (fun a => (13, .int .i64 (a.1 : Int)) :: P4 l m) (fun a => dO p g a.2 []) (fun a => a.1 ≤ m.length ∧ a.1 ≤ 20 ∧ deepT g a.2 ∧ a.2.sk.length = min a.1 16) (fun a => deepT g a.2) (fun a => 20 - a.1) (0, x0)
      ⟨Nat.zero_le _, by omega, hx0, by rw [hsk0]; rfl⟩ ?_ ?_ ?_
    · exact Weak.start' (by first | rfl | kernel_rfl) (by first | rfl | kernel_rfl) (by repeat (first | exact trivial | refine And.intro (by first | rfl | exact congrArg (fun n => D.sl _ _ _ _ n none) List.length_append | exact congrArg _ (by omega)) ?_))
    · intro cont
      rintro ⟨i, x⟩ ⟨hi, h20, hx, hsl⟩
      dsimp only at hi h20 hx hsl ⊢
      (conv => whnf); repeat (first | ((with_reducible refine Pt.go ?_); conv => whnf) | ((with_reducible refine dA ?_); conv => whnf) | ((with_reducible refine dL ?_); conv => whnf) | (refine Br.t ?_; conv => whnf) | (refine Br.f ?_; conv => whnf) | (refine bT ?_; conv => whnf) | (refine bF ?_; conv => whnf) | (refine Opt.mk ?_; conv => whnf) | ((with_reducible refine aR ?_); conv => whnf) | (refine ⟨fun h => absurd (congrArg List.length h) (Nat.succ_ne_zero _), fun _ => ?_⟩; conv => whnf) | (refine aC ?_; conv => whnf) | fail)
      refine Br.dec (fun c1 => ?_) (fun c1 => ?_)
      · (conv => whnf); repeat (first | ((with_reducible refine Pt.go ?_); conv => whnf) | ((with_reducible refine dA ?_); conv => whnf) | ((with_reducible refine dL ?_); conv => whnf) | (refine Br.t ?_; conv => whnf) | (refine Br.f ?_; conv => whnf) | (refine bT ?_; conv => whnf) | (refine bF ?_; conv => whnf) | (refine Opt.mk ?_; conv => whnf) | ((with_reducible refine aR ?_); conv => whnf) | (refine ⟨fun h => absurd (congrArg List.length h) (Nat.succ_ne_zero _), fun _ => ?_⟩; conv => whnf) | (refine aC ?_; conv => whnf) | fail)
        refine Br.dec (fun c2 => ?_) (fun c2 => ?_)
        · simp only [List.length_map] at c1
          have hget : m[i]? = some (m[i]'(by omega)) := List.getElem?_eq_getElem (by omega)
          generalize m[i] = v at hget
          (conv => whnf); repeat (first | ((with_reducible refine Pt.go ?_); conv => whnf) | ((with_reducible refine dA ?_); conv => whnf) | ((with_reducible refine dL ?_); conv => whnf) | (refine Br.t ?_; conv => whnf) | (refine Br.f ?_; conv => whnf) | (refine bT ?_; conv => whnf) | (refine bF ?_; conv => whnf) | (refine Opt.mk ?_; conv => whnf) | ((with_reducible refine aR ?_); conv => whnf) | (refine ⟨fun h => absurd (congrArg List.length h) (Nat.succ_ne_zero _), fun _ => ?_⟩; conv => whnf) | (refine aC ?_; conv => whnf) | fail)
          refine Opt.of (get_map hget) ?_
          (conv => whnf); repeat (first | ((with_reducible refine Pt.go ?_); conv => whnf) | ((with_reducible refine dA ?_); conv => whnf) | ((with_reducible refine dL ?_); conv => whnf) | (refine Br.t ?_; conv => whnf) | (refine Br.f ?_; conv => whnf) | (refine bT ?_; conv => whnf) | (refine bF ?_; conv => whnf) | (refine Opt.mk ?_; conv => whnf) | ((with_reducible refine aR ?_); conv => whnf) | (refine ⟨fun h => absurd (congrArg List.length h) (Nat.succ_ne_zero _), fun _ => ?_⟩; conv => whnf) | (refine aC ?_; conv => whnf) | fail)
          refine Call.mk ((push40 x v (by have := hx.sl; omega)).only _ rfl (by rintro d rfl; rfl)) ?_
          rintro d os' ⟨rfl, rfl⟩
          by_cases h7 : i < 16
          · have he : pushT x v = ({ x with sk := x.sk ++ [keep v] }, true) := if_neg (by omega)
            rw [he]
            have b1 : (!(true == decide ((i : Int) < 16))) = false := by rw [decide_eq_true (by omega)]; rfl
            have hlen : ((x.sk ++ [keep v]).map (D.int .i64)).length = i + 1 := by simp; omega
            (conv => whnf); repeat (first | ((with_reducible refine Pt.go ?_); conv => whnf) | ((with_reducible refine dA ?_); conv => whnf) | ((with_reducible refine dL ?_); conv => whnf) | (refine Br.t ?_; conv => whnf) | (refine Br.f ?_; conv => whnf) | (refine bT ?_; conv => whnf) | (refine bF ?_; conv => whnf) | (refine Opt.mk ?_; conv => whnf) | ((with_reducible refine aR ?_); conv => whnf) | (refine ⟨fun h => absurd (congrArg List.length h) (Nat.succ_ne_zero _), fun _ => ?_⟩; conv => whnf) | (refine aC ?_; conv => whnf) | fail)
            refine Br.ff (congrArg Bool.not (decide_eq_true (by show ((((x.sk ++ [keep v]).map (D.int .i64)).length : Nat) : Int) = _; rw [hlen]; split <;> omega))) ?_
            (conv => whnf); repeat (first | ((with_reducible refine Pt.go ?_); conv => whnf) | ((with_reducible refine dA ?_); conv => whnf) | ((with_reducible refine dL ?_); conv => whnf) | (refine Br.t ?_; conv => whnf) | (refine Br.f ?_; conv => whnf) | (refine bT ?_; conv => whnf) | (refine bF ?_; conv => whnf) | (refine Opt.mk ?_; conv => whnf) | ((with_reducible refine aR ?_); conv => whnf) | (refine ⟨fun h => absurd (congrArg List.length h) (Nat.succ_ne_zero _), fun _ => ?_⟩; conv => whnf) | (refine aC ?_; conv => whnf) | fail)
            refine ⟨_, _, _, ?_, ⟨(i + 1, { x with sk := x.sk ++ [keep v] }), ?_, rfl, rfl, rfl⟩, ?_⟩
            · show 20 - (i + 1) < 20 - i
              omega
            · refine ⟨by show i + 1 ≤ _; omega, by show i + 1 ≤ 20; omega, ⟨hx.st, hx.on, hx.code, hx.fl, hx.fr, by simp; omega, ?_⟩, by simp; omega⟩
              show kept (x.sk ++ [keep v]) = true
              have hk := hx.kp
              rw [kept_iff] at hk ⊢
              intro y hy
              rcases List.mem_append.1 hy with hy | hy
              · exact hk y hy
              · simp only [List.mem_singleton] at hy; subst hy; exact keep_range _
            · refine Weak.backT 3 (by simp) (by first | rfl | kernel_rfl) (by kernel_rfl) (Nat.le_of_ble_eq_true rfl) (by repeat (first | exact trivial | refine And.intro (by first | rfl | exact congrArg (fun n => D.sl _ _ _ _ n none) List.length_append | exact congrArg _ (by omega)) ?_)) (by kernel_rfl) (by kernel_rfl)
          · have he : pushT x v = (x, false) := if_pos (by omega)
            rw [he]
            have b1 : (!(false == decide ((i : Int) < 16))) = false := by rw [decide_eq_false (by omega)]; rfl
            (conv => whnf); repeat (first | ((with_reducible refine Pt.go ?_); conv => whnf) | ((with_reducible refine dA ?_); conv => whnf) | ((with_reducible refine dL ?_); conv => whnf) | (refine Br.t ?_; conv => whnf) | (refine Br.f ?_; conv => whnf) | (refine bT ?_; conv => whnf) | (refine bF ?_; conv => whnf) | (refine Opt.mk ?_; conv => whnf) | ((with_reducible refine aR ?_); conv => whnf) | (refine ⟨fun h => absurd (congrArg List.length h) (Nat.succ_ne_zero _), fun _ => ?_⟩; conv => whnf) | (refine aC ?_; conv => whnf) | fail)
            refine Br.ff (congrArg Bool.not (decide_eq_true (by show (((x.sk.map (D.int .i64)).length : Nat) : Int) = _; rw [List.length_map, hsl]; split <;> omega))) ?_
            (conv => whnf); repeat (first | ((with_reducible refine Pt.go ?_); conv => whnf) | ((with_reducible refine dA ?_); conv => whnf) | ((with_reducible refine dL ?_); conv => whnf) | (refine Br.t ?_; conv => whnf) | (refine Br.f ?_; conv => whnf) | (refine bT ?_; conv => whnf) | (refine bF ?_; conv => whnf) | (refine Opt.mk ?_; conv => whnf) | ((with_reducible refine aR ?_); conv => whnf) | (refine ⟨fun h => absurd (congrArg List.length h) (Nat.succ_ne_zero _), fun _ => ?_⟩; conv => whnf) | (refine aC ?_; conv => whnf) | fail)
            refine ⟨_, _, _, ?_, ⟨(i + 1, x), ?_, rfl, rfl, rfl⟩, ?_⟩
            · show 20 - (i + 1) < 20 - i
              omega
            · exact ⟨by show i + 1 ≤ _; omega, by show i + 1 ≤ 20; omega, hx, by show x.sk.length = min (i + 1) 16; omega⟩
            · refine Weak.backT 3 (by simp) (by first | rfl | kernel_rfl) (by kernel_rfl) (Nat.le_of_ble_eq_true rfl) (by repeat (first | exact trivial | refine And.intro (by first | rfl | exact congrArg (fun n => D.sl _ _ _ _ n none) List.length_append | exact congrArg _ (by omega)) ?_)) (by kernel_rfl) (by kernel_rfl)
        · (conv => whnf); repeat (first | ((with_reducible refine dA ?_); conv => whnf) | ((with_reducible refine dL ?_); conv => whnf) | (refine Br.t ?_; conv => whnf) | (refine Br.f ?_; conv => whnf) | (refine bT ?_; conv => whnf) | (refine bF ?_; conv => whnf) | (refine Opt.mk ?_; conv => whnf) | ((with_reducible refine aR ?_); conv => whnf) | (refine ⟨fun h => absurd (congrArg List.length h) (Nat.succ_ne_zero _), fun _ => ?_⟩; conv => whnf) | (refine aC ?_; conv => whnf) | fail)
          refine Pt.weak ?_ (cont.h (i, x) ?_)
          · refine Weak.backT 3 (by simp) (by first | rfl | kernel_rfl) (by kernel_rfl) (Nat.le_of_ble_eq_true rfl) (by repeat (first | exact trivial | refine And.intro (by first | rfl | exact congrArg (fun n => D.sl _ _ _ _ n none) List.length_append | exact congrArg _ (by omega)) ?_)) (by kernel_rfl) (by kernel_rfl)
          · exact hx
      · (conv => whnf); repeat (first | ((with_reducible refine dA ?_); conv => whnf) | ((with_reducible refine dL ?_); conv => whnf) | (refine Br.t ?_; conv => whnf) | (refine Br.f ?_; conv => whnf) | (refine bT ?_; conv => whnf) | (refine bF ?_; conv => whnf) | (refine Opt.mk ?_; conv => whnf) | ((with_reducible refine aR ?_); conv => whnf) | (refine ⟨fun h => absurd (congrArg List.length h) (Nat.succ_ne_zero _), fun _ => ?_⟩; conv => whnf) | (refine aC ?_; conv => whnf) | fail)
        refine Pt.weak ?_ (cont.h (i, x) ?_)
        · refine Weak.backT 3 (by simp) (by first | rfl | kernel_rfl) (by kernel_rfl) (Nat.le_of_ble_eq_true rfl) (by repeat (first | exact trivial | refine And.intro (by first | rfl | exact congrArg (fun n => D.sl _ _ _ _ n none) List.length_append | exact congrArg _ (by omega)) ?_)) (by kernel_rfl) (by kernel_rfl)
        · exact hx
    · rintro ⟨i, x⟩ hx
      dsimp only at hx ⊢
      have hm1 := deep_may hx
      (conv => whnf); repeat (first | ((with_reducible refine Pt.go ?_); conv => whnf) | ((with_reducible refine dA ?_); conv => whnf) | ((with_reducible refine dL ?_); conv => whnf) | (refine Br.t ?_; conv => whnf) | (refine Br.f ?_; conv => whnf) | (refine bT ?_; conv => whnf) | (refine bF ?_; conv => whnf) | (refine Opt.mk ?_; conv => whnf) | ((with_reducible refine aR ?_); conv => whnf) | (refine ⟨fun h => absurd (congrArg List.length h) (Nat.succ_ne_zero _), fun _ => ?_⟩; conv => whnf) | (refine aC ?_; conv => whnf) | fail)
      refine Call.mk ((may31 g x (deep_ok hx)).only _ rfl (by rintro d rfl; rfl)) ?_
      rintro d os' ⟨rfl, rfl⟩
      (conv => whnf); repeat (first | ((with_reducible refine Pt.go ?_); conv => whnf) | ((with_reducible refine dA ?_); conv => whnf) | ((with_reducible refine dL ?_); conv => whnf) | (refine Br.t ?_; conv => whnf) | (refine Br.f ?_; conv => whnf) | (refine bT ?_; conv => whnf) | (refine bF ?_; conv => whnf) | (refine Opt.mk ?_; conv => whnf) | ((with_reducible refine aR ?_); conv => whnf) | (refine ⟨fun h => absurd (congrArg List.length h) (Nat.succ_ne_zero _), fun _ => ?_⟩; conv => whnf) | (refine aC ?_; conv => whnf) | fail)
      refine Call.mk (lives37.only _ rfl (by rintro d rfl; rfl)) ?_
      rintro d os' ⟨rfl, rfl⟩
      (conv => whnf); repeat (first | ((with_reducible refine Pt.go ?_); conv => whnf) | ((with_reducible refine dA ?_); conv => whnf) | ((with_reducible refine dL ?_); conv => whnf) | (refine Br.t ?_; conv => whnf) | (refine Br.f ?_; conv => whnf) | (refine bT ?_; conv => whnf) | (refine bF ?_; conv => whnf) | (refine Opt.mk ?_; conv => whnf) | ((with_reducible refine aR ?_); conv => whnf) | (refine ⟨fun h => absurd (congrArg List.length h) (Nat.succ_ne_zero _), fun _ => ?_⟩; conv => whnf) | (refine aC ?_; conv => whnf) | fail)
      refine Ret.mk [.tmp _] rfl ?_
      exact rfl
end Go.Proofs.Ytaplihoeephbeaa.V
