/- S28: a text of a symbolic executor that is proved sound, and contracts that are proved with it. -/
import Derived.Test.YtaplihoeephbeaaS27
import Derived.Test.YtaplihoeephbeaaS29
namespace Go.Proofs.Ytaplihoeephbeaa.V
open Go Go.Proofs
set_option maxRecDepth 100000
set_option maxHeartbeats 40000000
theorem does162' (os : Objs) : Spec Try.prog 162 [] os (fun d os' => d = .mp os.length 0 ∧ os' = os ++ [one (.map doesM)]) := by
  refine (does162.onto os rfl).mono ?_
  rintro d os' ⟨d1, os1, ⟨rfl, rfl⟩, rfl, rfl⟩
  exact ⟨rfl, rfl⟩
/-- A step. -/
def stepX (x : Th × Int × Rq) : Th × Rq := if 0 ≤ x.2.1 then (endT x.2.1, ⟨1, 0, x.2.1⟩) else (x.1, x.2.2)
def stepT (g : Pg) (t : Th) : Th × Rq :=
  match t.fr.getLast? with
  | none => (t, nq)
  | some f => match fetchI g f with
    | (x, true) => stepX (execM g t.fr.dropLast ⟨f.fn, f.pc + 1, f.ls⟩ { t with fr := t.fr.dropLast ++ [⟨f.fn, f.pc + 1, f.ls⟩] } x.1 x.2)
    | (_, false) => (endT 6, ⟨1, 0, 6⟩)
theorem stepT_go {g : Pg} {t : Th} {s : List Fm} {f : Fm} {x : Int × Int} (hs : t.fr = s ++ [f]) (hx : fetchI g f = (x, true)) : stepT g t = stepX (execM g s ⟨f.fn, f.pc + 1, f.ls⟩ { t with fr := s ++ [⟨f.fn, f.pc + 1, f.ls⟩] } x.1 x.2) := by
  have h1 : t.fr.getLast? = some f := by rw [hs]; simp
  have h2 : t.fr.dropLast = s := by rw [hs]; simp
  simp only [stepT, h1, hx, h2]
theorem stepT_off {g : Pg} {t : Th} {s : List Fm} {f : Fm} {x : Int × Int} (hs : t.fr = s ++ [f]) (hx : fetchI g f = (x, false)) : stepT g t = (endT 6, ⟨1, 0, 6⟩) := by
  have h1 : t.fr.getLast? = some f := by rw [hs]; simp
  simp only [stepT, h1, hx]
/-- A thread that steps. -/
structure ST (g : Pg) (t : Th) (s : List Fm) (k pc : Nat) (ls : List Int) (u : Fu) : Prop where
  fr : t.fr = s ++ [⟨k, pc, ls⟩]
  sl : s.length ≤ 7
  hu : g.fu[k]? = some u
  pcl : pc ≤ u.code.length
  lsl : (ls.length : Int) = u.loc
  kl : kept ls = true
  sk : t.sk.length ≤ 16
  kp : ∀ v ∈ t.sk, kept2 v
theorem ST.of {g : Pg} {t : Th} (ht : GoodT g t) : ∃ s k pc ls u, ST g t s k pc ls u := by
  have hfl := ht.fl
  have hne : t.fr ≠ [] := fun e => by rw [e] at hfl; simp at hfl
  obtain ⟨s, f, hs⟩ : ∃ s f, t.fr = s ++ [f] := ⟨t.fr.dropLast, t.fr.getLast hne, (List.dropLast_concat_getLast hne).symm⟩
  have hsn : t.fr.length = s.length + 1 := by rw [hs]; simp
  have hof := ht.fr f (by rw [hs]; simp)
  obtain ⟨fn, fpc, ls⟩ := f
  obtain ⟨k, pc, u, hfn, hpc, hu, hpcl, hls, hkp⟩ := odd_inv hof
  dsimp only at hfn hpc hls hkp
  subst hfn hpc
  exact ⟨s, k, pc, ls, u, hs, by omega, hu, hpcl, hls, hkp, ht.sk, (kept_iff _).1 ht.kp⟩
theorem fetch_in {g : Pg} {k pc : Nat} {ls : List Int} {u : Fu} (hu : g.fu[k]? = some u) {x : Int × Int} (h : fetchI g ⟨k, pc, ls⟩ = (x, true)) : x ∈ u.code ∧ pc < u.code.length := by
  unfold fetchI at h
  dsimp only at h
  rw [Int.toNat_natCast, hu] at h
  dsimp only at h
  rw [Int.toNat_natCast] at h
  cases hc : u.code[pc]? with
  | none => rw [hc] at h; cases h
  | some y =>
    rw [hc] at h
    cases h
    exact ⟨List.mem_of_getElem? hc, (List.getElem?_eq_some_iff.1 hc).1⟩
theorem xt_of {g : Pg} (hg : GoodP g) {t : Th} {s : List Fm} {k pc : Nat} {ls : List Int} {u : Fu} (h : ST g t s k pc ls u) {op a : Int} (hx : fetchI g ⟨k, pc, ls⟩ = ((op, a), true)) :
    XT g s ⟨k, (pc : Int) + 1, ls⟩ { t with fr := s ++ [⟨k, (pc : Int) + 1, ls⟩] } op a := by
  obtain ⟨hm, hpl⟩ := fetch_in h.hu hx
  obtain ⟨q1, q2, q3⟩ := hg.fu u (List.mem_of_getElem? h.hu)
  have hin := q3 _ hm
  obtain ⟨i1, i2, i3, i4, i5, _⟩ := hin
  have := h.lsl
  exact ⟨rfl, by have := h.sl; omega, h.sk, h.kp, by show ls.length ≤ _; omega, i1, fun ho => by have := i3 ho; dsimp only at this ⊢; omega, fun ho => by have := i5 (.inl ho); dsimp only at this ⊢; omega, fun v hv => by have := (hg.fu v hv).1; omega⟩
theorem step97 (g : Pg) (hg : GoodP g) (t : Th) (ht : GoodT g t) : Spec Try.prog 97 [pgD g, thD t] [] (fun d os' => d = .tup [thD (stepT g t).1, rqD (stepT g t).2] ∧ os' = []) := by
  refine Spec.frz (post' := fun d => d = .tup [thD (stepT g t).1, rqD (stepT g t).2]) ?_
  obtain ⟨s, k, pc, ls, u, h⟩ := ST.of ht
  have hs := h.fr
  have hsl := h.sl
  have hget : t.fr[((((t.fr.map frD).length : Nat) : Int) - 1).toNat]? = some ⟨k, pc, ls⟩ := by
    have e : ((((t.fr.map frD).length : Nat) : Int) - 1).toNat = s.length := by rw [List.length_map, hs]; simp
    rw [e, hs]; simp
  have hlm : (t.fr.map frD).length = s.length + 1 := by rw [List.length_map, hs]; simp
  refine Spec.by Try.func97 rfl (by decide) (by decide +kernel) rfl ?_
  (conv => whnf); repeat ((first | with_reducible (first | refine Pt.go ?_ | refine dA ?_ | refine dL ?_) | refine Br.t ?_ | refine Br.f ?_ | refine bT ?_ | refine bF ?_ | refine Opt.mk ?_ | with_reducible refine aR ?_ | refine ⟨fun h => absurd (congrArg List.length h) (Nat.succ_ne_zero _), fun _ => ?_⟩ | refine aC ?_ | refine apG ?_); conv => whnf)
  refine Call.mk ((fetch161 g t s k pc ls u h.hu hs (by omega)).only _ rfl (by rintro d rfl; rfl)) ?_; rintro d os' ⟨rfl, rfl⟩
  obtain ⟨⟨op, a⟩, b, hx⟩ : ∃ x b, fetchI g ⟨k, pc, []⟩ = (x, b) := ⟨_, _, rfl⟩
  rw [hx]
  have hx' : fetchI g ⟨k, pc, ls⟩ = ((op, a), b) := hx
  cases b with
  | false =>
    rw [stepT_off hs hx']
    (conv => whnf); repeat ((first | with_reducible (first | refine Pt.go ?_ | refine dA ?_ | refine dL ?_) | refine Br.t ?_ | refine Br.f ?_ | refine bT ?_ | refine bF ?_ | refine Opt.mk ?_ | with_reducible refine aR ?_ | refine ⟨fun h => absurd (congrArg List.length h) (Nat.succ_ne_zero _), fun _ => ?_⟩ | refine aC ?_ | refine apG ?_); conv => whnf)
    refine Call.mk ((end55 t 6).only _ rfl (by rintro d rfl; rfl)) ?_; rintro d os' ⟨rfl, rfl⟩
    (conv => whnf); repeat ((first | with_reducible (first | refine Pt.go ?_ | refine dA ?_ | refine dL ?_) | refine Br.t ?_ | refine Br.f ?_ | refine bT ?_ | refine bF ?_ | refine Opt.mk ?_ | with_reducible refine aR ?_ | refine ⟨fun h => absurd (congrArg List.length h) (Nat.succ_ne_zero _), fun _ => ?_⟩ | refine aC ?_ | refine apG ?_); conv => whnf)
    refine Ret.mk [.cell 4 29, .cell 5 131] rfl ?_; (conv => whnf); repeat ((first | with_reducible (first | refine Pt.go ?_ | refine dA ?_ | refine dL ?_) | refine Br.t ?_ | refine Br.f ?_ | refine bT ?_ | refine bF ?_ | refine Opt.mk ?_ | with_reducible refine aR ?_ | refine ⟨fun h => absurd (congrArg List.length h) (Nat.succ_ne_zero _), fun _ => ?_⟩ | refine aC ?_ | refine apG ?_); conv => whnf)
    exact ⟨_, View.same _, rfl, rfl⟩
  | true =>
    rw [stepT_go hs hx']
    have hxt := xt_of hg h hx'
    have hpl := (fetch_in h.hu hx').2
    have hcl := (hg.fu u (List.mem_of_getElem? h.hu)).2.1
    (conv => whnf); repeat ((first | with_reducible (first | refine Pt.go ?_ | refine dA ?_ | refine dL ?_) | refine Br.t ?_ | refine Br.f ?_ | refine bT ?_ | refine bF ?_ | refine Opt.mk ?_ | with_reducible refine aR ?_ | refine ⟨fun h => absurd (congrArg List.length h) (Nat.succ_ne_zero _), fun _ => ?_⟩ | refine aC ?_ | refine apG ?_); conv => whnf)
    refine Opt.of (get_map hget) ?_
    (conv => whnf); repeat ((first | with_reducible (first | refine Pt.go ?_ | refine dA ?_ | refine dL ?_) | refine Br.t ?_ | refine Br.f ?_ | refine bT ?_ | refine bF ?_ | refine Opt.mk ?_ | with_reducible refine aR ?_ | refine ⟨fun h => absurd (congrArg List.length h) (Nat.succ_ne_zero _), fun _ => ?_⟩ | refine aC ?_ | refine apG ?_); conv => whnf)
    refine Call.mk ((jump136 t s ⟨k, pc, ls⟩ hs (by omega) ((pc : Int) + 1)).only _ rfl (by rintro d rfl; rfl)) ?_; rintro d os' ⟨rfl, rfl⟩
    (conv => whnf); repeat ((first | with_reducible (first | refine Pt.go ?_ | refine dA ?_ | refine dL ?_) | refine Br.t ?_ | refine Br.f ?_ | refine bT ?_ | refine bF ?_ | refine Opt.mk ?_ | with_reducible refine aR ?_ | refine ⟨fun h => absurd (congrArg List.length h) (Nat.succ_ne_zero _), fun _ => ?_⟩ | refine aC ?_ | refine apG ?_); conv => whnf)
    refine Call.mk (does162' _) ?_
    rintro d os' ⟨rfl, rfl⟩
    (conv => whnf); repeat ((first | with_reducible (first | refine Pt.go ?_ | refine dA ?_ | refine dL ?_) | refine Br.t ?_ | refine Br.f ?_ | refine bT ?_ | refine bF ?_ | refine Opt.mk ?_ | with_reducible refine aR ?_ | refine ⟨fun h => absurd (congrArg List.length h) (Nat.succ_ne_zero _), fun _ => ?_⟩ | refine aC ?_ | refine apG ?_); conv => whnf)
    have hsp0 := exec_fn g s ⟨k, (pc : Int) + 1, ls⟩ { t with fr := s ++ [⟨k, (pc : Int) + 1, ls⟩] } op a hxt
    generalize execM g s ⟨k, (pc : Int) + 1, ls⟩ { t with fr := s ++ [⟨k, (pc : Int) + 1, ls⟩] } op a = x at hsp0 ⊢
    obtain ⟨t', e', q'⟩ := x
    rcases hsp0 with ⟨n, hl, hsp⟩ | ⟨n, d, hl, hd, hsp⟩
    · refine Fnd.got hl ?_
      (conv => whnf); repeat ((first | with_reducible (first | refine Pt.go ?_ | refine dA ?_ | refine dL ?_) | refine Br.t ?_ | refine Br.f ?_ | refine bT ?_ | refine bF ?_ | refine Opt.mk ?_ | with_reducible refine aR ?_ | refine ⟨fun h => absurd (congrArg List.length h) (Nat.succ_ne_zero _), fun _ => ?_⟩ | refine aC ?_ | refine apG ?_); conv => whnf)
      refine Call.mk ((hsp).cellAt 5 _ rfl (fun j hj => one_pos _ hj) rfl rfl (by rintro d y ⟨rfl, rfl⟩; exact ⟨rfl, rfl⟩)) ?_; rintro d os' ⟨y, ⟨rfl, rfl⟩, rfl⟩
      (conv => whnf); repeat ((first | with_reducible (first | refine Pt.go ?_ | refine dA ?_ | refine dL ?_) | refine Br.t ?_ | refine Br.f ?_ | refine bT ?_ | refine bF ?_ | refine Opt.mk ?_ | with_reducible refine aR ?_ | refine ⟨fun h => absurd (congrArg List.length h) (Nat.succ_ne_zero _), fun _ => ?_⟩ | refine aC ?_ | refine apG ?_); conv => whnf)
      refine Br.dec (fun h0 => ?_) (fun h0 => ?_)
      · have he : stepX (t', e', q') = (endT e', ⟨1, 0, e'⟩) := by unfold stepX; exact if_pos h0
        (conv => whnf); repeat ((first | with_reducible (first | refine Pt.go ?_ | refine dA ?_ | refine dL ?_) | refine Br.t ?_ | refine Br.f ?_ | refine bT ?_ | refine bF ?_ | refine Opt.mk ?_ | with_reducible refine aR ?_ | refine ⟨fun h => absurd (congrArg List.length h) (Nat.succ_ne_zero _), fun _ => ?_⟩ | refine aC ?_ | refine apG ?_); conv => whnf)
        refine Call.mk ((end55 t' e').only _ rfl (by rintro d rfl; rfl)) ?_; rintro d os' ⟨rfl, rfl⟩
        (conv => whnf); repeat ((first | with_reducible (first | refine Pt.go ?_ | refine dA ?_ | refine dL ?_) | refine Br.t ?_ | refine Br.f ?_ | refine bT ?_ | refine bF ?_ | refine Opt.mk ?_ | with_reducible refine aR ?_ | refine ⟨fun h => absurd (congrArg List.length h) (Nat.succ_ne_zero _), fun _ => ?_⟩ | refine aC ?_ | refine apG ?_); conv => whnf)
        refine Ret.mk [.cell 4 29, .cell 5 131] rfl ?_; (conv => whnf); repeat ((first | with_reducible (first | refine Pt.go ?_ | refine dA ?_ | refine dL ?_) | refine Br.t ?_ | refine Br.f ?_ | refine bT ?_ | refine bF ?_ | refine Opt.mk ?_ | with_reducible refine aR ?_ | refine ⟨fun h => absurd (congrArg List.length h) (Nat.succ_ne_zero _), fun _ => ?_⟩ | refine aC ?_ | refine apG ?_); conv => whnf)
        rw [he]
        exact ⟨_, View.same _, rfl, rfl⟩
      · have he : stepX (t', e', q') = (t', q') := by unfold stepX; exact if_neg h0
        (conv => whnf); repeat ((first | with_reducible (first | refine Pt.go ?_ | refine dA ?_ | refine dL ?_) | refine Br.t ?_ | refine Br.f ?_ | refine bT ?_ | refine bF ?_ | refine Opt.mk ?_ | with_reducible refine aR ?_ | refine ⟨fun h => absurd (congrArg List.length h) (Nat.succ_ne_zero _), fun _ => ?_⟩ | refine aC ?_ | refine apG ?_); conv => whnf)
        refine Ret.mk [.cell 4 29, .cell 5 131] rfl ?_; (conv => whnf); repeat ((first | with_reducible (first | refine Pt.go ?_ | refine dA ?_ | refine dL ?_) | refine Br.t ?_ | refine Br.f ?_ | refine bT ?_ | refine bF ?_ | refine Opt.mk ?_ | with_reducible refine aR ?_ | refine ⟨fun h => absurd (congrArg List.length h) (Nat.succ_ne_zero _), fun _ => ?_⟩ | refine aC ?_ | refine apG ?_); conv => whnf)
        rw [he]
        exact ⟨_, View.same _, rfl, rfl⟩
    · refine Fnd.got hl ?_
      (conv => whnf); repeat ((first | with_reducible (first | refine Pt.go ?_ | refine dA ?_ | refine dL ?_) | refine Br.t ?_ | refine Br.f ?_ | refine bT ?_ | refine bF ?_ | refine Opt.mk ?_ | with_reducible refine aR ?_ | refine ⟨fun h => absurd (congrArg List.length h) (Nat.succ_ne_zero _), fun _ => ?_⟩ | refine aC ?_ | refine apG ?_); conv => whnf)
      refine Call.mk ((hsp).cellAt 5 _ rfl (fun j hj => one_pos _ hj) rfl rfl (by rintro d y ⟨rfl, rfl⟩; exact ⟨rfl, rfl⟩)) ?_; rintro d os' ⟨y, ⟨rfl, rfl⟩, rfl⟩
      (conv => whnf); repeat ((first | with_reducible (first | refine Pt.go ?_ | refine dA ?_ | refine dL ?_) | refine Br.t ?_ | refine Br.f ?_ | refine bT ?_ | refine bF ?_ | refine Opt.mk ?_ | with_reducible refine aR ?_ | refine ⟨fun h => absurd (congrArg List.length h) (Nat.succ_ne_zero _), fun _ => ?_⟩ | refine aC ?_ | refine apG ?_); conv => whnf)
      refine Br.dec (fun h0 => ?_) (fun h0 => ?_)
      · have he : stepX (t', e', q') = (endT e', ⟨1, 0, e'⟩) := by unfold stepX; exact if_pos h0
        (conv => whnf); repeat ((first | with_reducible (first | refine Pt.go ?_ | refine dA ?_ | refine dL ?_) | refine Br.t ?_ | refine Br.f ?_ | refine bT ?_ | refine bF ?_ | refine Opt.mk ?_ | with_reducible refine aR ?_ | refine ⟨fun h => absurd (congrArg List.length h) (Nat.succ_ne_zero _), fun _ => ?_⟩ | refine aC ?_ | refine apG ?_); conv => whnf)
        refine Call.mk ((end55 t' e').only _ rfl (by rintro d rfl; rfl)) ?_; rintro d os' ⟨rfl, rfl⟩
        (conv => whnf); repeat ((first | with_reducible (first | refine Pt.go ?_ | refine dA ?_ | refine dL ?_) | refine Br.t ?_ | refine Br.f ?_ | refine bT ?_ | refine bF ?_ | refine Opt.mk ?_ | with_reducible refine aR ?_ | refine ⟨fun h => absurd (congrArg List.length h) (Nat.succ_ne_zero _), fun _ => ?_⟩ | refine aC ?_ | refine apG ?_); conv => whnf)
        refine Ret.mk [.cell 4 29, .cell 5 131] rfl ?_; (conv => whnf); repeat ((first | with_reducible (first | refine Pt.go ?_ | refine dA ?_ | refine dL ?_) | refine Br.t ?_ | refine Br.f ?_ | refine bT ?_ | refine bF ?_ | refine Opt.mk ?_ | with_reducible refine aR ?_ | refine ⟨fun h => absurd (congrArg List.length h) (Nat.succ_ne_zero _), fun _ => ?_⟩ | refine aC ?_ | refine apG ?_); conv => whnf)
        rw [he]
        exact ⟨_, View.same _, rfl, rfl⟩
      · have he : stepX (t', e', q') = (t', q') := by unfold stepX; exact if_neg h0
        (conv => whnf); repeat ((first | with_reducible (first | refine Pt.go ?_ | refine dA ?_ | refine dL ?_) | refine Br.t ?_ | refine Br.f ?_ | refine bT ?_ | refine bF ?_ | refine Opt.mk ?_ | with_reducible refine aR ?_ | refine ⟨fun h => absurd (congrArg List.length h) (Nat.succ_ne_zero _), fun _ => ?_⟩ | refine aC ?_ | refine apG ?_); conv => whnf)
        refine Ret.mk [.cell 4 29, .cell 5 131] rfl ?_; (conv => whnf); repeat ((first | with_reducible (first | refine Pt.go ?_ | refine dA ?_ | refine dL ?_) | refine Br.t ?_ | refine Br.f ?_ | refine bT ?_ | refine bF ?_ | refine Opt.mk ?_ | with_reducible refine aR ?_ | refine ⟨fun h => absurd (congrArg List.length h) (Nat.succ_ne_zero _), fun _ => ?_⟩ | refine aC ?_ | refine apG ?_); conv => whnf)
        rw [he]
        exact ⟨_, View.same _, rfl, rfl⟩
end Go.Proofs.Ytaplihoeephbeaa.V
