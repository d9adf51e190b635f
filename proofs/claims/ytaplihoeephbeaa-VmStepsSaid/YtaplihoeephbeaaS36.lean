/- S36: a text of a symbolic executor that is proved sound, and contracts that are proved with it. -/
import Derived.Test.YtaplihoeephbeaaS35
namespace Go.Proofs.Ytaplihoeephbeaa.V
open Go Go.Proofs
set_option maxRecDepth 100000
set_option maxHeartbeats 40000000
theorem okB_ok {t : Th} (h : t.okB) : t.ok := ⟨by have := h.1; omega, by have := h.2.1; omega, fun f hf => by have := h.2.2 f hf; unfold Fm.ok; omega⟩
theorem tellT_ok {x : Th} (h : x.okB) (hs : x.sk.length ≤ 16) (l : List Int) : (tellT x l).1.ok := by
  unfold tellT
  split
  · exact endT_ok _
  · exact okB_ok (pushL_okB l x (-1) hs h)
theorem law25 (p : Pg) (hp : p.okB) (t : Th) (ht : t.okR) (l : List Int) (hl : lok l) : Spec Try.prog 25 [pgD p, thD t, ints l] [] (fun d _ => d = .bool true) := by
  have hlm : (l.map (D.int .i64)).length = l.length := List.length_map ..
  refine Spec.by Try.func25 rfl (by decide) (by decide +kernel) rfl ?_
  (conv => whnf); repeat ((first | with_reducible (first | refine Pt.go ?_ | refine dA ?_ | refine dL ?_) | refine Br.t ?_ | refine Br.f ?_ | refine bT ?_ | refine bF ?_ | refine Opt.mk ?_ | with_reducible refine aR ?_ | refine ⟨fun h => absurd (congrArg List.length h) (Nat.succ_ne_zero _), fun _ => ?_⟩ | refine aC ?_ | refine apG ?_); conv => whnf)
  refine Call.mk ((good29 p hp).only _ rfl (by rintro d ⟨g, _, rfl⟩; rfl)) ?_
  rintro d' os' ⟨⟨g, hg, rfl⟩, rfl⟩
  (conv => whnf); repeat ((first | with_reducible (first | refine Pt.go ?_ | refine dA ?_ | refine dL ?_) | refine Br.t ?_ | refine Br.f ?_ | refine bT ?_ | refine bF ?_ | refine Opt.mk ?_ | with_reducible refine aR ?_ | refine ⟨fun h => absurd (congrArg List.length h) (Nat.succ_ne_zero _), fun _ => ?_⟩ | refine aC ?_ | refine apG ?_); conv => whnf)
  refine Call.mk ((good30f g hg t ht).only _ rfl (by rintro d ⟨x, _, rfl⟩; rfl)) ?_
  rintro d' os' ⟨⟨x, hx, rfl⟩, rfl⟩
  have hsk := hx.sk
  have hxB := good_okB hg hx
  (conv => whnf); repeat ((first | with_reducible (first | refine Pt.go ?_ | refine dA ?_ | refine dL ?_) | refine Br.t ?_ | refine Br.f ?_ | refine bT ?_ | refine bF ?_ | refine Opt.mk ?_ | with_reducible refine aR ?_ | refine ⟨fun h => absurd (congrArg List.length h) (Nat.succ_ne_zero _), fun _ => ?_⟩ | refine aC ?_ | refine apG ?_); conv => whnf)
  refine Br.dec (fun h => ?_) (fun h => ?_)
  · have HL : (l.take 20).length ≤ 20 := by rw [List.length_take]; omega
    (conv => whnf); repeat ((first | with_reducible (first | refine Pt.go ?_ | refine dA ?_ | refine dL ?_) | refine Br.t ?_ | refine Br.f ?_ | refine bT ?_ | refine bF ?_ | refine Opt.mk ?_ | with_reducible refine aR ?_ | refine ⟨fun h => absurd (congrArg List.length h) (Nat.succ_ne_zero _), fun _ => ?_⟩ | refine aC ?_ | refine apG ?_); conv => whnf)
    refine Nm.mk ((l.take 20).map (D.int .i64)) (by rw [List.map_take]; rfl) ?_
    (conv => whnf); repeat ((first | with_reducible (first | refine Pt.go ?_ | refine dA ?_ | refine dL ?_) | refine Br.t ?_ | refine Br.f ?_ | refine bT ?_ | refine bF ?_ | refine Opt.mk ?_ | with_reducible refine aR ?_ | refine ⟨fun h => absurd (congrArg List.length h) (Nat.succ_ne_zero _), fun _ => ?_⟩ | refine aC ?_ | refine apG ?_); conv => whnf)
    refine Call.mk ((tell99 x (l.take 20) hsk (by have := HL; omega)).only _ rfl (by rintro d rfl; rfl)) ?_; rintro d os' ⟨rfl, rfl⟩
    (conv => whnf); repeat ((first | with_reducible (first | refine Pt.go ?_ | refine dA ?_ | refine dL ?_) | refine Br.t ?_ | refine Br.f ?_ | refine bT ?_ | refine bF ?_ | refine Opt.mk ?_ | with_reducible refine aR ?_ | refine ⟨fun h => absurd (congrArg List.length h) (Nat.succ_ne_zero _), fun _ => ?_⟩ | refine aC ?_ | refine apG ?_); conv => whnf)
    refine Call.mk ((tell100 x hxB (l.take 20) hsk (by have := HL; omega)).only _ rfl (by rintro d rfl; rfl)) ?_; rintro d os' ⟨rfl, rfl⟩
    have hb := tellT_b x (l.take 20) hsk
    have hok : (tellT x (l.take 20)).1.ok := tellT_ok hxB hsk (l.take 20)
    obtain ⟨⟨y, b⟩, hr⟩ : ∃ r, tellT x (l.take 20) = r := ⟨_, rfl⟩
    rw [hr] at hb hok ⊢
    dsimp only at hb hok ⊢
    have e1 : ((((x.sk.map (D.int .i64)).length : Nat) : Int) + ((((l.take 20).map (D.int .i64)).length : Nat) : Int) ≤ 16) ↔ x.sk.length + (l.take 20).length ≤ 16 := by rw [List.length_map, List.length_map]; omega
    have b2 : (!b == decide ((((x.sk.map (D.int .i64)).length : Nat) : Int) + ((((l.take 20).map (D.int .i64)).length : Nat) : Int) ≤ 16)) = false := by
      have e2 : b = decide ((((x.sk.map (D.int .i64)).length : Nat) : Int) + ((((l.take 20).map (D.int .i64)).length : Nat) : Int) ≤ 16) := by rw [hb]; exact decide_eq_decide.2 e1.symm
      rw [← e2]; simp
    have b3 : (!b == b) = false := by simp
    (conv => whnf); repeat ((first | with_reducible (first | refine Pt.go ?_ | refine dA ?_ | refine dL ?_) | refine Br.t ?_ | refine Br.f ?_ | refine bT ?_ | refine bF ?_ | refine Opt.mk ?_ | with_reducible refine aR ?_ | refine ⟨fun h => absurd (congrArg List.length h) (Nat.succ_ne_zero _), fun _ => ?_⟩ | refine aC ?_ | refine apG ?_); conv => whnf)
    refine Call.mk ((same53 y y hok).only _ rfl (by rintro d rfl; rfl)) ?_; rintro d os' ⟨rfl, rfl⟩
    have b1 : decide (y = y) = true := decide_eq_true rfl
    rw [b1]
    (conv => whnf); repeat ((first | with_reducible (first | refine Pt.go ?_ | refine dA ?_ | refine dL ?_) | refine Br.t ?_ | refine Br.f ?_ | refine bT ?_ | refine bF ?_ | refine Opt.mk ?_ | with_reducible refine aR ?_ | refine ⟨fun h => absurd (congrArg List.length h) (Nat.succ_ne_zero _), fun _ => ?_⟩ | refine aC ?_ | refine apG ?_); conv => whnf)
    refine Call.mk ((lives95).only _ rfl (by rintro d rfl; rfl)) ?_; rintro d os' ⟨rfl, rfl⟩
    (conv => whnf); repeat ((first | with_reducible (first | refine Pt.go ?_ | refine dA ?_ | refine dL ?_) | refine Br.t ?_ | refine Br.f ?_ | refine bT ?_ | refine bF ?_ | refine Opt.mk ?_ | with_reducible refine aR ?_ | refine ⟨fun h => absurd (congrArg List.length h) (Nat.succ_ne_zero _), fun _ => ?_⟩ | refine aC ?_ | refine apG ?_); conv => whnf)
    exact Ret.mk [.tmp _] rfl rfl
  · have HL : l.length ≤ 20 := by omega
    (conv => whnf); repeat ((first | with_reducible (first | refine Pt.go ?_ | refine dA ?_ | refine dL ?_) | refine Br.t ?_ | refine Br.f ?_ | refine bT ?_ | refine bF ?_ | refine Opt.mk ?_ | with_reducible refine aR ?_ | refine ⟨fun h => absurd (congrArg List.length h) (Nat.succ_ne_zero _), fun _ => ?_⟩ | refine aC ?_ | refine apG ?_); conv => whnf)
    refine Call.mk ((tell99 x l hsk (by have := HL; omega)).only _ rfl (by rintro d rfl; rfl)) ?_; rintro d os' ⟨rfl, rfl⟩
    (conv => whnf); repeat ((first | with_reducible (first | refine Pt.go ?_ | refine dA ?_ | refine dL ?_) | refine Br.t ?_ | refine Br.f ?_ | refine bT ?_ | refine bF ?_ | refine Opt.mk ?_ | with_reducible refine aR ?_ | refine ⟨fun h => absurd (congrArg List.length h) (Nat.succ_ne_zero _), fun _ => ?_⟩ | refine aC ?_ | refine apG ?_); conv => whnf)
    refine Call.mk ((tell100 x hxB l hsk (by have := HL; omega)).only _ rfl (by rintro d rfl; rfl)) ?_; rintro d os' ⟨rfl, rfl⟩
    have hb := tellT_b x l hsk
    have hok : (tellT x l).1.ok := tellT_ok hxB hsk l
    obtain ⟨⟨y, b⟩, hr⟩ : ∃ r, tellT x l = r := ⟨_, rfl⟩
    rw [hr] at hb hok ⊢
    dsimp only at hb hok ⊢
    have e1 : ((((x.sk.map (D.int .i64)).length : Nat) : Int) + (((l.map (D.int .i64)).length : Nat) : Int) ≤ 16) ↔ x.sk.length + l.length ≤ 16 := by rw [List.length_map, List.length_map]; omega
    have b2 : (!b == decide ((((x.sk.map (D.int .i64)).length : Nat) : Int) + (((l.map (D.int .i64)).length : Nat) : Int) ≤ 16)) = false := by
      have e2 : b = decide ((((x.sk.map (D.int .i64)).length : Nat) : Int) + (((l.map (D.int .i64)).length : Nat) : Int) ≤ 16) := by rw [hb]; exact decide_eq_decide.2 e1.symm
      rw [← e2]; simp
    have b3 : (!b == b) = false := by simp
    (conv => whnf); repeat ((first | with_reducible (first | refine Pt.go ?_ | refine dA ?_ | refine dL ?_) | refine Br.t ?_ | refine Br.f ?_ | refine bT ?_ | refine bF ?_ | refine Opt.mk ?_ | with_reducible refine aR ?_ | refine ⟨fun h => absurd (congrArg List.length h) (Nat.succ_ne_zero _), fun _ => ?_⟩ | refine aC ?_ | refine apG ?_); conv => whnf)
    refine Call.mk ((same53 y y hok).only _ rfl (by rintro d rfl; rfl)) ?_; rintro d os' ⟨rfl, rfl⟩
    have b1 : decide (y = y) = true := decide_eq_true rfl
    rw [b1]
    (conv => whnf); repeat ((first | with_reducible (first | refine Pt.go ?_ | refine dA ?_ | refine dL ?_) | refine Br.t ?_ | refine Br.f ?_ | refine bT ?_ | refine bF ?_ | refine Opt.mk ?_ | with_reducible refine aR ?_ | refine ⟨fun h => absurd (congrArg List.length h) (Nat.succ_ne_zero _), fun _ => ?_⟩ | refine aC ?_ | refine apG ?_); conv => whnf)
    refine Call.mk ((lives95).only _ rfl (by rintro d rfl; rfl)) ?_; rintro d os' ⟨rfl, rfl⟩
    (conv => whnf); repeat ((first | with_reducible (first | refine Pt.go ?_ | refine dA ?_ | refine dL ?_) | refine Br.t ?_ | refine Br.f ?_ | refine bT ?_ | refine bF ?_ | refine Opt.mk ?_ | with_reducible refine aR ?_ | refine ⟨fun h => absurd (congrArg List.length h) (Nat.succ_ne_zero _), fun _ => ?_⟩ | refine aC ?_ | refine apG ?_); conv => whnf)
    exact Ret.mk [.tmp _] rfl rfl
end Go.Proofs.Ytaplihoeephbeaa.V
