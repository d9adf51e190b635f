/- R7: a text of a symbolic executor that is proved sound, and contracts that are proved with it. -/
import Derived.Test.YtaplihoeephbeaaR6
namespace Go.Proofs.Ytaplihoeephbeaa.V
open Go Go.Proofs
set_option linter.unusedVariables false
set_option maxRecDepth 100000
set_option maxHeartbeats 40000000
theorem ref_new56o (room : Int) (l : List Int) (hl : l.length ≤ 1000000) : Spec Try.prog 56 [.int .i64 room, ints l] [] (fun d os' => d = .agg [.int .i64 (roomI room), .sl 0 0 1 0 (newL (roomI room) [] l).length none] ∧ os' = [rowI (newL (roomI room) [] l)]) := by
  have hlm : (l.map (D.int .i64)).length = l.length := List.length_map ..
  have hR := roomI_r room
  rw [newL_take (roomI room) hR.1 l [] (by simp; omega)]
  refine Spec.weak (post := fun d os' => ∃ x y, d = .agg [.int .i64 (roomI room), .sl 2 0 1 0 ([] ++ l.take ((roomI room).toNat - ([] : List Int).length)).length none] ∧ os' = [one x, one y, rowI ([] ++ l.take ((roomI room).toNat - ([] : List Int).length))]) ?_ (by
    rintro d os' ⟨x, y, rfl, rfl⟩
    refine ⟨_, _, Weak.trans (Weak.frzK (fun k => Nat.beq k 0 || Nat.beq k 1) [] trivial) (Weak.trans (Weak.shift 2 0 (by decide) (Nat.zero_le _) (Nat.le_of_ble_eq_true rfl) (Nat.le_of_ble_eq_true rfl) (fun j => by cases j <;> rfl) rfl) (Weak.trim 1 (Nat.zero_le _) rfl (Nat.le_of_ble_eq_true rfl))), rfl, rfl⟩)
  refine Spec.by Try.func56 rfl (by decide) (by decide +kernel) rfl ?_
  (conv => whnf); repeat ((first | with_reducible (first | refine dA ?_ | refine dL ?_) | refine Br.t ?_ | refine Br.f ?_ | refine bT ?_ | refine bF ?_ | refine Opt.mk ?_ | with_reducible refine aR ?_ | refine ⟨fun h => absurd (congrArg List.length h) (Nat.succ_ne_zero _), fun _ => ?_⟩ | refine aC ?_ | refine apG ?_); conv => whnf)
  ((with_reducible refine Pt.go ?_); conv => whnf)
  (conv => whnf); repeat ((first | with_reducible (first | refine dA ?_ | refine dL ?_) | refine Br.t ?_ | refine Br.f ?_ | refine bT ?_ | refine bF ?_ | refine Opt.mk ?_ | with_reducible refine aR ?_ | refine ⟨fun h => absurd (congrArg List.length h) (Nat.succ_ne_zero _), fun _ => ?_⟩ | refine aC ?_ | refine apG ?_); conv => whnf)
  ((with_reducible refine Pt.go ?_); conv => whnf)
  (conv => whnf); repeat ((first | with_reducible (first | refine dA ?_ | refine dL ?_) | refine Br.t ?_ | refine Br.f ?_ | refine bT ?_ | refine bF ?_ | refine Opt.mk ?_ | with_reducible refine aR ?_ | refine ⟨fun h => absurd (congrArg List.length h) (Nat.succ_ne_zero _), fun _ => ?_⟩ | refine aC ?_ | refine apG ?_); conv => whnf)
  refine Pt.weak (Weak.trans (Weak.only [(1, ints l), (4, .ptr 0 0 2 0 0), (5, .ptr 1 0 2 0 0)] [one (.row 71 2 false [.agg [.int .i64 0, .nils]]), one (.row 71 2 false [.agg [.int .i64 (roomI room), .nils]])] (by kernel_rfl) (by repeat (first | exact trivial | refine And.intro (by first | rfl | exact congrArg (fun n => D.sl _ _ _ _ n none) List.length_append | exact congrArg _ (by omega)) ?_))) (Weak.nilO 1 2 rfl (es := [.agg [.int .i64 (roomI room), .nils]]) rfl [.agg [.int .i64 (roomI room), .sl 2 0 1 0 0 none]] rfl (.cons (.agg (.cons (.same _ _) (.cons (.nils _ _) (.same _ _)))) (.same _ _)) 3 1 true)) ?_
  (conv => whnf); repeat ((first | with_reducible (first | refine Pt.go ?_ | refine dA ?_ | refine dL ?_) | refine Br.t ?_ | refine Br.f ?_ | refine bT ?_ | refine bF ?_ | refine Opt.mk ?_ | with_reducible refine aR ?_ | refine ⟨fun h => absurd (congrArg List.length h) (Nat.succ_ne_zero _), fun _ => ?_⟩ | refine aC ?_ | refine apG ?_); conv => whnf)
  refine Loop.inv (A := Nat) (List.range 33) (fun i => [(1, ints l), (4, .ptr 0 0 2 0 0), (5, .ptr 1 0 2 0 0), (6, .int .i64 (i : Int))]) (fun i => [one (.row 71 2 false [.agg [.int .i64 0, .nils]]), one (.row 71 2 false [.agg [.int .i64 (roomI room), .sl 2 0 1 0 i none]]), rowI (l.take i)]) (fun i => i ≤ l.length ∧ (i : Int) ≤ roomI room) (fun i => l.length - i) 0 ⟨Nat.zero_le _, hR.1⟩ ?_ ?_
  · exact Weak.start' rfl rfl (by repeat (first | exact trivial | refine And.intro (by first | rfl | exact congrArg (fun n => D.sl _ _ _ _ n none) List.length_append | exact congrArg _ (by omega)) ?_))
  rintro i ⟨hi, hir⟩
  have hlt : ((l.take i).map (D.int .i64)).length = i := by rw [List.length_map, List.length_take]; omega
  have hlt' : (l.take i).length = i := by rw [List.length_take]; omega
  have fin : (l.length ≤ i ∨ roomI room ≤ i) → [] ++ l.take ((roomI room).toNat - ([] : List Int).length) = l.take i := by
    intro h
    rw [List.nil_append, List.length_nil, Nat.sub_zero]
    rcases h with h | h
    · rw [List.take_of_length_le h, List.take_of_length_le (by omega)]
    · rw [show (roomI room).toNat = i by omega]
  (conv => whnf); repeat ((first | with_reducible (first | refine Pt.go ?_ | refine dA ?_ | refine dL ?_) | refine Br.t ?_ | refine Br.f ?_ | refine bT ?_ | refine bF ?_ | refine Opt.mk ?_ | with_reducible refine aR ?_ | refine ⟨fun h => absurd (congrArg List.length h) (Nat.succ_ne_zero _), fun _ => ?_⟩ | refine aC ?_ | refine apG ?_); conv => whnf)
  refine Br.dec (fun h0 => ?_) (fun h0 => ?_)
  · have hil : i < l.length := by omega
    have hget : l[i]? = some l[i] := List.getElem?_eq_getElem hil
    (conv => whnf); repeat ((first | with_reducible (first | refine Pt.go ?_ | refine dA ?_ | refine dL ?_) | refine Br.t ?_ | refine Br.f ?_ | refine bT ?_ | refine bF ?_ | refine Opt.mk ?_ | with_reducible refine aR ?_ | refine ⟨fun h => absurd (congrArg List.length h) (Nat.succ_ne_zero _), fun _ => ?_⟩ | refine aC ?_ | refine apG ?_); conv => whnf)
    refine Br.dec (fun h1 => ?_) (fun h1 => ?_)
    · (conv => whnf); repeat ((first | with_reducible (first | refine Pt.go ?_ | refine dA ?_ | refine dL ?_) | refine Br.t ?_ | refine Br.f ?_ | refine bT ?_ | refine bF ?_ | refine Opt.mk ?_ | with_reducible refine aR ?_ | refine ⟨fun h => absurd (congrArg List.length h) (Nat.succ_ne_zero _), fun _ => ?_⟩ | refine aC ?_ | refine apG ?_); conv => whnf)
      refine Opt.of (get_map hget) ?_
      (conv => whnf); repeat ((first | with_reducible (first | refine Pt.go ?_ | refine dA ?_ | refine dL ?_) | refine Br.t ?_ | refine Br.f ?_ | refine bT ?_ | refine bF ?_ | refine Opt.mk ?_ | with_reducible refine aR ?_ | refine ⟨fun h => absurd (congrArg List.length h) (Nat.succ_ne_zero _), fun _ => ?_⟩ | refine aC ?_ | refine apG ?_); conv => whnf)
      refine App.only false rfl rfl ?_
      (conv => whnf); repeat ((first | with_reducible (first | refine Pt.go ?_ | refine dA ?_ | refine dL ?_) | refine Br.t ?_ | refine Br.f ?_ | refine bT ?_ | refine bF ?_ | refine Opt.mk ?_ | with_reducible refine aR ?_ | refine ⟨fun h => absurd (congrArg List.length h) (Nat.succ_ne_zero _), fun _ => ?_⟩ | refine aC ?_ | refine apG ?_); conv => whnf)
      refine ⟨_, _, _, ?_, ⟨i + 1, ?_, rfl, rfl, rfl⟩, ?_⟩
      · show l.length - (i + 1) < l.length - i; omega
      · exact ⟨hil, by omega⟩
      · refine Weak.trans (Weak.shift 3 2 (by decide) (by simp) (Nat.le_of_ble_eq_true rfl) (Nat.le_of_ble_eq_true rfl) (fun j => by cases j <;> rfl) rfl) ?_
        refine Weak.backT 3 (by simp) ?_ (by kernel_rfl) (Nat.le_of_ble_eq_true rfl) (by repeat (first | exact trivial | refine And.intro (by first | rfl | exact congrArg (fun n => D.sl _ _ _ _ n none) List.length_append | exact congrArg _ (by omega)) ?_)) (by kernel_rfl) (by kernel_rfl)
        exact congrArg (fun r => ([one (.row 71 2 false [.agg [.int .i64 0, .nils]]), one (.row 71 2 false [.agg [.int .i64 (roomI room), .sl 2 0 1 0 (i + 1) none]]), one (.row 3 1 true r)] : Objs)) (by rw [List.take_add_one, hget]; exact map_snoc _ _)
    · rw [fin (.inr (by omega)), hlt']
      (conv => whnf); repeat ((first | with_reducible (first | refine Pt.go ?_ | refine dA ?_ | refine dL ?_) | refine Br.t ?_ | refine Br.f ?_ | refine bT ?_ | refine bF ?_ | refine Opt.mk ?_ | with_reducible refine aR ?_ | refine ⟨fun h => absurd (congrArg List.length h) (Nat.succ_ne_zero _), fun _ => ?_⟩ | refine aC ?_ | refine apG ?_); conv => whnf)
      exact Ret.mk [.cell 4 71] rfl ⟨_, _, rfl, rfl⟩
  · rw [fin (.inl (by omega)), hlt']
    (conv => whnf); repeat ((first | with_reducible (first | refine Pt.go ?_ | refine dA ?_ | refine dL ?_) | refine Br.t ?_ | refine Br.f ?_ | refine bT ?_ | refine bF ?_ | refine Opt.mk ?_ | with_reducible refine aR ?_ | refine ⟨fun h => absurd (congrArg List.length h) (Nat.succ_ne_zero _), fun _ => ?_⟩ | refine aC ?_ | refine apG ?_); conv => whnf)
    exact Ret.mk [.cell 4 71] rfl ⟨_, _, rfl, rfl⟩
theorem law8 (a b : Int) (ha : I64 a) (hb : I64 b) (l m : List Int) (hl : lok l) (hm : lok m) : Spec Try.prog 8 [.int .i64 a, .int .i64 b, ints l, ints m] [] (fun d _ => d = .bool true) := by
  have hlm : (l.map (D.int .i64)).length = l.length := List.length_map ..
  have hmm : (m.map (D.int .i64)).length = m.length := List.length_map ..
  refine Spec.by Try.func8 rfl (by decide) (by decide +kernel) rfl ?_
  (conv => whnf); repeat ((first | with_reducible (first | refine Pt.go ?_ | refine dA ?_ | refine dL ?_) | refine Br.t ?_ | refine Br.f ?_ | refine bT ?_ | refine bF ?_ | refine Opt.mk ?_ | with_reducible refine aR ?_ | refine ⟨fun h => absurd (congrArg List.length h) (Nat.succ_ne_zero _), fun _ => ?_⟩ | refine aC ?_ | refine apG ?_); conv => whnf)
  refine Call.mk ((around33 a 21 ha (by decide)).only _ rfl (by rintro d rfl; rfl)) ?_; rintro d os' ⟨rfl, rfl⟩
  have h10 := around_lt a 21 (by omega)
  obtain ⟨ra, hra⟩ : ∃ rm, around a 21 = rm := ⟨_, rfl⟩
  rw [hra] at h10 ⊢
  (conv => whnf); repeat ((first | with_reducible (first | refine Pt.go ?_ | refine dA ?_ | refine dL ?_) | refine Br.t ?_ | refine Br.f ?_ | refine bT ?_ | refine bF ?_ | refine Opt.mk ?_ | with_reducible refine aR ?_ | refine ⟨fun h => absurd (congrArg List.length h) (Nat.succ_ne_zero _), fun _ => ?_⟩ | refine aC ?_ | refine apG ?_); conv => whnf)
  refine Call.mk ((around33 b 21 hb (by decide)).only _ rfl (by rintro d rfl; rfl)) ?_; rintro d os' ⟨rfl, rfl⟩
  have h5 := around_lt b 21 (by omega)
  obtain ⟨rb, hrb⟩ : ∃ pc, around b 21 = pc := ⟨_, rfl⟩
  rw [hrb] at h5 ⊢
  have hIa := roomI_id (n := ra) (by omega) (by omega)
  have hIb := roomI_id (n := rb) (by omega) (by omega)
  (conv => whnf); repeat ((first | with_reducible (first | refine Pt.go ?_ | refine dA ?_ | refine dL ?_) | refine Br.t ?_ | refine Br.f ?_ | refine bT ?_ | refine bF ?_ | refine Opt.mk ?_ | with_reducible refine aR ?_ | refine ⟨fun h => absurd (congrArg List.length h) (Nat.succ_ne_zero _), fun _ => ?_⟩ | refine aC ?_ | refine apG ?_); conv => whnf)
  apply cutG (A := List Int) (n0 := 0) (fun l' => [(0, .int .i64 ra), (1, .int .i64 rb), (2, ints l'), (3, ints m), (8, .bool false)]) (fun _ => []) (fun l' => l'.length ≤ 25)
  · intro key
    refine Br.dec (fun h => ?_) (fun h => ?_)
    · have HL : (l.take 25).length ≤ 25 := by rw [List.length_take]; omega
      (conv => whnf); repeat ((first | with_reducible (first | refine dA ?_ | refine dL ?_) | refine Br.t ?_ | refine Br.f ?_ | refine bT ?_ | refine bF ?_ | refine Opt.mk ?_ | with_reducible refine aR ?_ | refine ⟨fun h => absurd (congrArg List.length h) (Nat.succ_ne_zero _), fun _ => ?_⟩ | refine aC ?_ | refine apG ?_); conv => whnf)
      ((with_reducible refine Pt.go ?_); conv => whnf)
      (conv => whnf); repeat ((first | with_reducible (first | refine dA ?_ | refine dL ?_) | refine Br.t ?_ | refine Br.f ?_ | refine bT ?_ | refine bF ?_ | refine Opt.mk ?_ | with_reducible refine aR ?_ | refine ⟨fun h => absurd (congrArg List.length h) (Nat.succ_ne_zero _), fun _ => ?_⟩ | refine aC ?_ | refine apG ?_); conv => whnf)
      refine Nm.mk ((l.take 25).map (D.int .i64)) (by rw [List.map_take]; rfl) ?_
      (conv => whnf); repeat ((first | with_reducible (first | refine dA ?_ | refine dL ?_) | refine Br.t ?_ | refine Br.f ?_ | refine bT ?_ | refine bF ?_ | refine Opt.mk ?_ | with_reducible refine aR ?_ | refine ⟨fun h => absurd (congrArg List.length h) (Nat.succ_ne_zero _), fun _ => ?_⟩ | refine aC ?_ | refine apG ?_); conv => whnf)
      refine Pt.weak (Weak.only [(0, .int .i64 ra), (1, .int .i64 rb), (2, ints (l.take 25)), (3, ints m), (8, .bool false)] [] (by kernel_rfl) (by repeat (first | exact trivial | refine And.intro (by first | rfl | exact congrArg (fun n => D.sl _ _ _ _ n none) List.length_append | exact congrArg _ (by omega)) ?_))) (key _ HL)
    · (conv => whnf); repeat ((first | with_reducible (first | refine dA ?_ | refine dL ?_) | refine Br.t ?_ | refine Br.f ?_ | refine bT ?_ | refine bF ?_ | refine Opt.mk ?_ | with_reducible refine aR ?_ | refine ⟨fun h => absurd (congrArg List.length h) (Nat.succ_ne_zero _), fun _ => ?_⟩ | refine aC ?_ | refine apG ?_); conv => whnf)
      refine Pt.weak (Weak.only [(0, .int .i64 ra), (1, .int .i64 rb), (2, ints l), (3, ints m), (8, .bool false)] [] (by kernel_rfl) (by repeat (first | exact trivial | refine And.intro (by first | rfl | exact congrArg (fun n => D.sl _ _ _ _ n none) List.length_append | exact congrArg _ (by omega)) ?_))) (key _ (by omega))
  clear hlm
  clear hl
  clear l
  intro l hl
  (conv => whnf); repeat ((first | with_reducible (first | refine Pt.go ?_ | refine dA ?_ | refine dL ?_) | refine Br.t ?_ | refine Br.f ?_ | refine bT ?_ | refine bF ?_ | refine Opt.mk ?_ | with_reducible refine aR ?_ | refine ⟨fun h => absurd (congrArg List.length h) (Nat.succ_ne_zero _), fun _ => ?_⟩ | refine aC ?_ | refine apG ?_); conv => whnf)
  apply cutG (A := List Int) (n0 := 0) (fun m' => [(0, .int .i64 ra), (1, .int .i64 rb), (2, ints l), (3, ints m'), (8, .bool false)]) (fun _ => []) (fun m' => m'.length ≤ 25)
  · intro key
    refine Br.dec (fun h => ?_) (fun h => ?_)
    · have HL : (m.take 25).length ≤ 25 := by rw [List.length_take]; omega
      (conv => whnf); repeat ((first | with_reducible (first | refine dA ?_ | refine dL ?_) | refine Br.t ?_ | refine Br.f ?_ | refine bT ?_ | refine bF ?_ | refine Opt.mk ?_ | with_reducible refine aR ?_ | refine ⟨fun h => absurd (congrArg List.length h) (Nat.succ_ne_zero _), fun _ => ?_⟩ | refine aC ?_ | refine apG ?_); conv => whnf)
      ((with_reducible refine Pt.go ?_); conv => whnf)
      (conv => whnf); repeat ((first | with_reducible (first | refine dA ?_ | refine dL ?_) | refine Br.t ?_ | refine Br.f ?_ | refine bT ?_ | refine bF ?_ | refine Opt.mk ?_ | with_reducible refine aR ?_ | refine ⟨fun h => absurd (congrArg List.length h) (Nat.succ_ne_zero _), fun _ => ?_⟩ | refine aC ?_ | refine apG ?_); conv => whnf)
      refine Nm.mk ((m.take 25).map (D.int .i64)) (by rw [List.map_take]; rfl) ?_
      (conv => whnf); repeat ((first | with_reducible (first | refine dA ?_ | refine dL ?_) | refine Br.t ?_ | refine Br.f ?_ | refine bT ?_ | refine bF ?_ | refine Opt.mk ?_ | with_reducible refine aR ?_ | refine ⟨fun h => absurd (congrArg List.length h) (Nat.succ_ne_zero _), fun _ => ?_⟩ | refine aC ?_ | refine apG ?_); conv => whnf)
      refine Pt.weak (Weak.only [(0, .int .i64 ra), (1, .int .i64 rb), (2, ints l), (3, ints (m.take 25)), (8, .bool false)] [] (by kernel_rfl) (by repeat (first | exact trivial | refine And.intro (by first | rfl | exact congrArg (fun n => D.sl _ _ _ _ n none) List.length_append | exact congrArg _ (by omega)) ?_))) (key _ HL)
    · (conv => whnf); repeat ((first | with_reducible (first | refine dA ?_ | refine dL ?_) | refine Br.t ?_ | refine Br.f ?_ | refine bT ?_ | refine bF ?_ | refine Opt.mk ?_ | with_reducible refine aR ?_ | refine ⟨fun h => absurd (congrArg List.length h) (Nat.succ_ne_zero _), fun _ => ?_⟩ | refine aC ?_ | refine apG ?_); conv => whnf)
      refine Pt.weak (Weak.only [(0, .int .i64 ra), (1, .int .i64 rb), (2, ints l), (3, ints m), (8, .bool false)] [] (by kernel_rfl) (by repeat (first | exact trivial | refine And.intro (by first | rfl | exact congrArg (fun n => D.sl _ _ _ _ n none) List.length_append | exact congrArg _ (by omega)) ?_))) (key _ (by omega))
  clear hmm
  clear hm
  clear m
  intro m hm
  (conv => whnf); repeat ((first | with_reducible (first | refine Pt.go ?_ | refine dA ?_ | refine dL ?_) | refine Br.t ?_ | refine Br.f ?_ | refine bT ?_ | refine bF ?_ | refine Opt.mk ?_ | with_reducible refine aR ?_ | refine ⟨fun h => absurd (congrArg List.length h) (Nat.succ_ne_zero _), fun _ => ?_⟩ | refine aC ?_ | refine apG ?_); conv => whnf)
  refine Call.mk (new46 ra l (by omega)) ?_
  rintro d os' ⟨a1, n1, L1, ⟨hg1, rfl⟩, rfl⟩
  rw [hIa] at hg1 ⊢
  (conv => whnf); repeat ((first | with_reducible (first | refine Pt.go ?_ | refine dA ?_ | refine dL ?_) | refine Br.t ?_ | refine Br.f ?_ | refine bT ?_ | refine bF ?_ | refine Opt.mk ?_ | with_reducible refine aR ?_ | refine ⟨fun h => absurd (congrArg List.length h) (Nat.succ_ne_zero _), fun _ => ?_⟩ | refine aC ?_ | refine apG ?_); conv => whnf)
  refine Call.mk ((new46 rb m (by omega)).onto _ rfl) ?_
  rintro d os' ⟨d1, os1, ⟨a2, n2, L2, ⟨hg2, rfl⟩, rfl⟩, rfl, rfl⟩
  rw [hIb] at hg2 ⊢
  have c1 : (newL ra [] l).length ≤ 25 := by rw [newL_take ra (by omega) l [] (by simp; omega)]; simp; omega
  have c2 : (newL rb [] m).length ≤ 25 := by rw [newL_take rb (by omega) m [] (by simp; omega)]; simp; omega
  have hnx := ref_new56 ra l (by omega)
  have hny := ref_new56o rb m (by omega)
  rw [hIa] at hnx
  rw [hIb] at hny
  have hrb1 := hg2.ll
  have hrb2 := hg2.cl
  obtain ⟨x, hx⟩ : ∃ x, newL ra [] l = x := ⟨_, rfl⟩
  obtain ⟨y, hy⟩ : ∃ y, newL rb [] m = y := ⟨_, rfl⟩
  rw [hx] at hg1 hnx c1
  rw [hy] at hg2 hny c2 hrb2
  have hxm : (x.map (D.int .i64)).length = x.length := List.length_map ..
  have hym : (y.map (D.int .i64)).length = y.length := List.length_map ..
  (conv => whnf); repeat ((first | with_reducible (first | refine Pt.go ?_ | refine dA ?_ | refine dL ?_) | refine Br.t ?_ | refine Br.f ?_ | refine bT ?_ | refine bF ?_ | refine Opt.mk ?_ | with_reducible refine aR ?_ | refine ⟨fun h => absurd (congrArg List.length h) (Nat.succ_ne_zero _), fun _ => ?_⟩ | refine aC ?_ | refine apG ?_); conv => whnf)
  refine Call.mk ((hnx).only _ rfl (by rintro d rfl; rfl)) ?_; rintro d os' ⟨rfl, rfl⟩
  (conv => whnf); repeat ((first | with_reducible (first | refine Pt.go ?_ | refine dA ?_ | refine dL ?_) | refine Br.t ?_ | refine Br.f ?_ | refine bT ?_ | refine bF ?_ | refine Opt.mk ?_ | with_reducible refine aR ?_ | refine ⟨fun h => absurd (congrArg List.length h) (Nat.succ_ne_zero _), fun _ => ?_⟩ | refine aC ?_ | refine apG ?_); conv => whnf)
  refine Call.mk (hny.onto _ rfl) ?_
  rintro d os' ⟨d1, os1, ⟨rfl, rfl⟩, rfl, rfl⟩
  (conv => whnf); repeat ((first | with_reducible (first | refine dA ?_ | refine dL ?_) | refine Br.t ?_ | refine Br.f ?_ | refine bT ?_ | refine bF ?_ | refine Opt.mk ?_ | with_reducible refine aR ?_ | refine ⟨fun h => absurd (congrArg List.length h) (Nat.succ_ne_zero _), fun _ => ?_⟩ | refine aC ?_ | refine apG ?_); conv => whnf)
  refine Pt.weak (Weak.only [(0, .int .i64 ra), (1, .int .i64 rb), (8, .bool false), (9, .ptr 0 0 4 0 0), (10, .ptr 2 0 4 0 0), (11, .ptr 4 0 2 0 0), (12, .ptr 6 0 2 0 0)] [rgC ra a1 n1 L1.length 1, rowI L1, rgC rb a2 n2 L2.length 3, rowI L2, one (.row 71 2 false [.agg [.int .i64 ra, ints x]]), rowI y, one (.row 71 2 false [.agg [.int .i64 rb, .sl 5 0 1 0 y.length none]])] (by kernel_rfl) (by repeat (first | exact trivial | refine And.intro (by first | rfl | exact congrArg (fun n => D.sl _ _ _ _ n none) List.length_append | exact congrArg _ (by omega)) ?_))) ?_
  (conv => whnf); repeat ((first | with_reducible (first | refine Pt.go ?_ | refine dA ?_ | refine dL ?_) | refine Br.t ?_ | refine Br.f ?_ | refine bT ?_ | refine bF ?_ | refine Opt.mk ?_ | with_reducible refine aR ?_ | refine ⟨fun h => absurd (congrArg List.length h) (Nat.succ_ne_zero _), fun _ => ?_⟩ | refine aC ?_ | refine apG ?_); conv => whnf)
  refine Call.mk ((move57 hg1 hg2).frame _ [(0, 0), (1, 0), (2, 0), (3, 0)] rfl (by decide) (fun k p hk => by
    match k, hk with
    | 0, hk => simp at hk; subst hk; exact ⟨Nat.le_of_ble_eq_true rfl, rfl, rfl, fun j hj => one_pos _ hj⟩
    | 1, hk => simp at hk; subst hk; exact ⟨Nat.le_of_ble_eq_true rfl, rfl, rfl, fun j hj => one_pos _ hj⟩
    | 2, hk => simp at hk; subst hk; exact ⟨Nat.le_of_ble_eq_true rfl, rfl, rfl, fun j hj => one_pos _ hj⟩
    | 3, hk => simp at hk; subst hk; exact ⟨Nat.le_of_ble_eq_true rfl, rfl, rfl, fun j hj => one_pos _ hj⟩
    | k + 4, hk => simp at hk) rfl) ?_
  rintro d os' ⟨d1, os1, ⟨a3, n3, L3, a4, n4, L4, g, ⟨rfl, hg3, hg4⟩, rfl⟩, rfl, rfl⟩
  obtain ⟨k, hk⟩ : ∃ k, movN x y rb = k := ⟨_, rfl⟩
  rw [hk] at hg3 hg4 ⊢
  have hke : (if rb - (y.length : Int) < ((x.map (D.int .i64)).length : Int) then rb - (y.length : Int) else ((x.map (D.int .i64)).length : Int)) = (k : Int) := by
    rw [← hk]
    unfold movN
    have := hg2.nl
    split <;> omega
  have hkx : k ≤ x.length := by rw [← hk]; unfold movN; omega
  have htk : ((x.take k).map (D.int .i64)).length = k := by rw [List.length_map, List.length_take]; omega
  rw [hke]
  cases g with
  | false =>
    (conv => whnf); repeat ((first | with_reducible (first | refine dA ?_ | refine dL ?_) | refine Br.t ?_ | refine Br.f ?_ | refine bT ?_ | refine bF ?_ | refine Opt.mk ?_ | with_reducible refine aR ?_ | refine ⟨fun h => absurd (congrArg List.length h) (Nat.succ_ne_zero _), fun _ => ?_⟩ | refine aC ?_ | refine apG ?_); conv => whnf)
    refine Pt.weak (Weak.only [(8, .bool false), (9, .ptr 0 0 4 0 0), (10, .ptr 2 0 4 0 0), (11, .ptr 4 0 2 0 0), (12, .ptr 6 0 2 0 0), (13, .int .i64 (k : Int))] [rgC ra a3 n3 L3.length 1, rowI L3, rgC rb a4 n4 L4.length 3, rowI L4, one (.row 71 2 false [.agg [.int .i64 ra, ints x]]), rowI y, one (.row 71 2 false [.agg [.int .i64 rb, .sl 5 0 1 0 y.length none]])] (by kernel_rfl) (by repeat (first | exact trivial | refine And.intro (by first | rfl | exact congrArg (fun n => D.sl _ _ _ _ n none) List.length_append | exact congrArg _ (by omega)) ?_))) ?_
    ((with_reducible refine Pt.go ?_); conv => whnf)
    (conv => whnf); repeat ((first | with_reducible (first | refine dA ?_ | refine dL ?_) | refine Br.t ?_ | refine Br.f ?_ | refine bT ?_ | refine bF ?_ | refine Opt.mk ?_ | with_reducible refine aR ?_ | refine ⟨fun h => absurd (congrArg List.length h) (Nat.succ_ne_zero _), fun _ => ?_⟩ | refine aC ?_ | refine apG ?_); conv => whnf)
    refine Nm.mk ((x.take k).map (D.int .i64)) (by rw [Int.toNat_natCast, List.map_take]; rfl) ?_
    (conv => whnf); repeat ((first | with_reducible (first | refine dA ?_ | refine dL ?_) | refine Br.t ?_ | refine Br.f ?_ | refine bT ?_ | refine bF ?_ | refine Opt.mk ?_ | with_reducible refine aR ?_ | refine ⟨fun h => absurd (congrArg List.length h) (Nat.succ_ne_zero _), fun _ => ?_⟩ | refine aC ?_ | refine apG ?_); conv => whnf)
    refine Pt.weak (Weak.only [(8, .bool false), (9, .ptr 0 0 4 0 0), (10, .ptr 2 0 4 0 0), (11, .ptr 4 0 2 0 0), (12, .ptr 6 0 2 0 0), (13, .int .i64 (k : Int))] [rgC ra a3 n3 L3.length 1, rowI L3, rgC rb a4 n4 L4.length 3, rowI L4, one (.row 71 2 false [.agg [.int .i64 ra, ints x]]), one .gone, one (.row 71 2 false [.agg [.int .i64 rb, .sl 7 0 1 0 (y.length + ((x.take k).map (D.int .i64)).length) none]]), one (.row 3 1 true (y.map (D.int .i64) ++ (x.take k).map (D.int .i64)))] (by kernel_rfl) (by repeat (first | exact trivial | refine And.intro (by first | rfl | exact congrArg (fun n => D.sl _ _ _ _ n none) List.length_append | exact congrArg _ (by omega)) ?_))) ?_
    rw [show y.map (D.int .i64) ++ (x.take k).map (D.int .i64) = (y ++ x.take k).map (D.int .i64) from (List.map_append ..).symm, show y.length + ((x.take k).map (D.int .i64)).length = (y ++ x.take k).length by rw [List.length_append, List.length_map]]
    refine Pt.weak (Weak.frzO (fun i => Nat.beq i 7) [(8, .bool false), (9, .ptr 0 0 4 0 0), (10, .ptr 2 0 4 0 0), (11, .ptr 4 0 2 0 0), (12, .ptr 6 0 2 0 0), (13, .int .i64 (k : Int))] 6 (ty := 71) (sz := 2) (es := [.agg [.int .i64 rb, .sl 7 0 1 0 (y ++ x.take k).length none]]) rfl rfl [.agg [.int .i64 rb, ints (y ++ x.take k)]] rfl (.cons (View.agg (.cons (.same _) (.cons (View.slAll rfl rfl (List.length_map ..) (by simp) (ViewL.same _) (pureL_map (fun _ => rfl) _)) .nil))) .nil) ⟨View.same _, View.same _, View.same _, View.same _, View.same _, View.same _, trivial⟩) ?_
    (conv => whnf); repeat ((first | with_reducible (first | refine Pt.go ?_ | refine dA ?_ | refine dL ?_) | refine Br.t ?_ | refine Br.f ?_ | refine bT ?_ | refine bF ?_ | refine Opt.mk ?_ | with_reducible refine aR ?_ | refine ⟨fun h => absurd (congrArg List.length h) (Nat.succ_ne_zero _), fun _ => ?_⟩ | refine aC ?_ | refine apG ?_); conv => whnf)
    refine Nm.mk ((x.drop k).map (D.int .i64)) (by rw [List.take_of_length_le (by rw [Int.toNat_natCast]; exact Nat.le_refl _), Int.toNat_natCast, List.map_drop]) ?_
    (conv => whnf); repeat ((first | with_reducible (first | refine Pt.go ?_ | refine dA ?_ | refine dL ?_) | refine Br.t ?_ | refine Br.f ?_ | refine bT ?_ | refine bF ?_ | refine Opt.mk ?_ | with_reducible refine aR ?_ | refine ⟨fun h => absurd (congrArg List.length h) (Nat.succ_ne_zero _), fun _ => ?_⟩ | refine aC ?_ | refine apG ?_); conv => whnf)
    refine Call.mk (Spec.rgR (all58 hg3 (-1) ⟨by decide, by decide⟩) 0 1 _ rfl rfl (by decide) rfl (by rintro d rfl; rfl)) ?_
    rintro d os' ⟨rfl, rfl⟩
    (conv => whnf); repeat ((first | with_reducible (first | refine Pt.go ?_ | refine dA ?_ | refine dL ?_) | refine Br.t ?_ | refine Br.f ?_ | refine bT ?_ | refine bF ?_ | refine Opt.mk ?_ | with_reducible refine aR ?_ | refine ⟨fun h => absurd (congrArg List.length h) (Nat.succ_ne_zero _), fun _ => ?_⟩ | refine aC ?_ | refine apG ?_); conv => whnf)
    refine Call.mk (Spec.rgR (all58 hg4 (-1) ⟨by decide, by decide⟩) 2 3 _ rfl rfl (by decide) rfl (by rintro d rfl; rfl)) ?_
    rintro d os' ⟨rfl, rfl⟩
    (conv => whnf); repeat ((first | with_reducible (first | refine Pt.go ?_ | refine dA ?_ | refine dL ?_) | refine Br.t ?_ | refine Br.f ?_ | refine bT ?_ | refine bF ?_ | refine Opt.mk ?_ | with_reducible refine aR ?_ | refine ⟨fun h => absurd (congrArg List.length h) (Nat.succ_ne_zero _), fun _ => ?_⟩ | refine aC ?_ | refine apG ?_); conv => whnf)
    refine Call.mk ((lives45).only _ rfl (by rintro d rfl; rfl)) ?_; rintro d os' ⟨rfl, rfl⟩
    (conv => whnf); repeat ((first | with_reducible (first | refine Pt.go ?_ | refine dA ?_ | refine dL ?_) | refine Br.t ?_ | refine Br.f ?_ | refine bT ?_ | refine bF ?_ | refine Opt.mk ?_ | with_reducible refine aR ?_ | refine ⟨fun h => absurd (congrArg List.length h) (Nat.succ_ne_zero _), fun _ => ?_⟩ | refine aC ?_ | refine apG ?_); conv => whnf)
    exact Ret.mk [.tmp _] rfl rfl
  | true =>
    (conv => whnf); repeat ((first | with_reducible (first | refine dA ?_ | refine dL ?_) | refine Br.t ?_ | refine Br.f ?_ | refine bT ?_ | refine bF ?_ | refine Opt.mk ?_ | with_reducible refine aR ?_ | refine ⟨fun h => absurd (congrArg List.length h) (Nat.succ_ne_zero _), fun _ => ?_⟩ | refine aC ?_ | refine apG ?_); conv => whnf)
    refine Pt.weak (Weak.only [(8, .bool false), (9, .ptr 0 0 4 0 0), (10, .ptr 2 0 4 0 0), (11, .ptr 4 0 2 0 0), (12, .ptr 6 0 2 0 0), (13, .int .i64 (k : Int))] [rgC ra a3 n3 L3.length 1, rowI L3, rgC rb a4 n4 L4.length 7, one .gone, one (.row 71 2 false [.agg [.int .i64 ra, ints x]]), rowI y, one (.row 71 2 false [.agg [.int .i64 rb, .sl 5 0 1 0 y.length none]]), rowI L4] (by kernel_rfl) (by repeat (first | exact trivial | refine And.intro (by first | rfl | exact congrArg (fun n => D.sl _ _ _ _ n none) List.length_append | exact congrArg _ (by omega)) ?_))) ?_
    ((with_reducible refine Pt.go ?_); conv => whnf)
    (conv => whnf); repeat ((first | with_reducible (first | refine dA ?_ | refine dL ?_) | refine Br.t ?_ | refine Br.f ?_ | refine bT ?_ | refine bF ?_ | refine Opt.mk ?_ | with_reducible refine aR ?_ | refine ⟨fun h => absurd (congrArg List.length h) (Nat.succ_ne_zero _), fun _ => ?_⟩ | refine aC ?_ | refine apG ?_); conv => whnf)
    refine Nm.mk ((x.take k).map (D.int .i64)) (by rw [Int.toNat_natCast, List.map_take]; rfl) ?_
    (conv => whnf); repeat ((first | with_reducible (first | refine dA ?_ | refine dL ?_) | refine Br.t ?_ | refine Br.f ?_ | refine bT ?_ | refine bF ?_ | refine Opt.mk ?_ | with_reducible refine aR ?_ | refine ⟨fun h => absurd (congrArg List.length h) (Nat.succ_ne_zero _), fun _ => ?_⟩ | refine aC ?_ | refine apG ?_); conv => whnf)
    refine Pt.weak (Weak.only [(8, .bool false), (9, .ptr 0 0 4 0 0), (10, .ptr 2 0 4 0 0), (11, .ptr 4 0 2 0 0), (12, .ptr 6 0 2 0 0), (13, .int .i64 (k : Int))] [rgC ra a3 n3 L3.length 1, rowI L3, rgC rb a4 n4 L4.length 7, one .gone, one (.row 71 2 false [.agg [.int .i64 ra, ints x]]), one .gone, one (.row 71 2 false [.agg [.int .i64 rb, .sl 8 0 1 0 (y.length + ((x.take k).map (D.int .i64)).length) none]]), rowI L4, one (.row 3 1 true (y.map (D.int .i64) ++ (x.take k).map (D.int .i64)))] (by kernel_rfl) (by repeat (first | exact trivial | refine And.intro (by first | rfl | exact congrArg (fun n => D.sl _ _ _ _ n none) List.length_append | exact congrArg _ (by omega)) ?_))) ?_
    rw [show y.map (D.int .i64) ++ (x.take k).map (D.int .i64) = (y ++ x.take k).map (D.int .i64) from (List.map_append ..).symm, show y.length + ((x.take k).map (D.int .i64)).length = (y ++ x.take k).length by rw [List.length_append, List.length_map]]
    refine Pt.weak (Weak.frzO (fun i => Nat.beq i 8) [(8, .bool false), (9, .ptr 0 0 4 0 0), (10, .ptr 2 0 4 0 0), (11, .ptr 4 0 2 0 0), (12, .ptr 6 0 2 0 0), (13, .int .i64 (k : Int))] 6 (ty := 71) (sz := 2) (es := [.agg [.int .i64 rb, .sl 8 0 1 0 (y ++ x.take k).length none]]) rfl rfl [.agg [.int .i64 rb, ints (y ++ x.take k)]] rfl (.cons (View.agg (.cons (.same _) (.cons (View.slAll rfl rfl (List.length_map ..) (by simp) (ViewL.same _) (pureL_map (fun _ => rfl) _)) .nil))) .nil) ⟨View.same _, View.same _, View.same _, View.same _, View.same _, View.same _, trivial⟩) ?_
    (conv => whnf); repeat ((first | with_reducible (first | refine Pt.go ?_ | refine dA ?_ | refine dL ?_) | refine Br.t ?_ | refine Br.f ?_ | refine bT ?_ | refine bF ?_ | refine Opt.mk ?_ | with_reducible refine aR ?_ | refine ⟨fun h => absurd (congrArg List.length h) (Nat.succ_ne_zero _), fun _ => ?_⟩ | refine aC ?_ | refine apG ?_); conv => whnf)
    refine Nm.mk ((x.drop k).map (D.int .i64)) (by rw [List.take_of_length_le (by rw [Int.toNat_natCast]; exact Nat.le_refl _), Int.toNat_natCast, List.map_drop]) ?_
    (conv => whnf); repeat ((first | with_reducible (first | refine Pt.go ?_ | refine dA ?_ | refine dL ?_) | refine Br.t ?_ | refine Br.f ?_ | refine bT ?_ | refine bF ?_ | refine Opt.mk ?_ | with_reducible refine aR ?_ | refine ⟨fun h => absurd (congrArg List.length h) (Nat.succ_ne_zero _), fun _ => ?_⟩ | refine aC ?_ | refine apG ?_); conv => whnf)
    refine Call.mk (Spec.rgR (all58 hg3 (-1) ⟨by decide, by decide⟩) 0 1 _ rfl rfl (by decide) rfl (by rintro d rfl; rfl)) ?_
    rintro d os' ⟨rfl, rfl⟩
    (conv => whnf); repeat ((first | with_reducible (first | refine Pt.go ?_ | refine dA ?_ | refine dL ?_) | refine Br.t ?_ | refine Br.f ?_ | refine bT ?_ | refine bF ?_ | refine Opt.mk ?_ | with_reducible refine aR ?_ | refine ⟨fun h => absurd (congrArg List.length h) (Nat.succ_ne_zero _), fun _ => ?_⟩ | refine aC ?_ | refine apG ?_); conv => whnf)
    refine Call.mk (Spec.rgR (all58 hg4 (-1) ⟨by decide, by decide⟩) 2 7 _ rfl rfl (by decide) rfl (by rintro d rfl; rfl)) ?_
    rintro d os' ⟨rfl, rfl⟩
    (conv => whnf); repeat ((first | with_reducible (first | refine Pt.go ?_ | refine dA ?_ | refine dL ?_) | refine Br.t ?_ | refine Br.f ?_ | refine bT ?_ | refine bF ?_ | refine Opt.mk ?_ | with_reducible refine aR ?_ | refine ⟨fun h => absurd (congrArg List.length h) (Nat.succ_ne_zero _), fun _ => ?_⟩ | refine aC ?_ | refine apG ?_); conv => whnf)
    refine Call.mk ((lives45).only _ rfl (by rintro d rfl; rfl)) ?_; rintro d os' ⟨rfl, rfl⟩
    (conv => whnf); repeat ((first | with_reducible (first | refine Pt.go ?_ | refine dA ?_ | refine dL ?_) | refine Br.t ?_ | refine Br.f ?_ | refine bT ?_ | refine bF ?_ | refine Opt.mk ?_ | with_reducible refine aR ?_ | refine ⟨fun h => absurd (congrArg List.length h) (Nat.succ_ne_zero _), fun _ => ?_⟩ | refine aC ?_ | refine apG ?_); conv => whnf)
    exact Ret.mk [.tmp _] rfl rfl
end Go.Proofs.Ytaplihoeephbeaa.V
