/- R4: a text of a symbolic executor that is proved sound, and contracts that are proved with it. -/
import Derived.Test.YtaplihoeephbeaaR3
set_option linter.unusedVariables false
set_option linter.unusedSimpArgs false
namespace Go.Proofs.Ytaplihoeephbeaa.V
open Go Go.Proofs
set_option maxRecDepth 100000
set_option maxHeartbeats 40000000
/-- Behind a call all roads lead to one place. -/
theorem Call.cut {f : FuncId} {args : List D} {os : Objs} {K : D → Objs → Prop} {post : D → Objs → Prop} {A : Type} {n0 : Nat} {K2 : St → Prop} (S : A → List (Nat × D)) (O : A → Objs) (Q : A → Prop)
    (h : Spec Try.prog f args os post) (hk : ∀ d os', post d os' → (∀ a, Q a → Pt n0 { m := S a, objs := O a } K2) → K d os') (key : ∀ a, Q a → Pt n0 { m := S a, objs := O a } K2) : Call Try.prog f args os K :=
  .mk h fun d os' hp => hk d os' hp key
def popC (c : List Int) : Int × Int := match c with
  | [] => (0, 7)
  | v :: _ => (v, 0)
theorem pop48x {room a n : Int} {L c : List Int} (h : Rg room a n L c) : Spec Try.prog 48 [.ptr 0 0 4 0 0] [rgC room a n L.length 1, rowI L] (fun d os' => ∃ a' n' L', (d = .tup [.int .i64 (popC c).1, .int .i64 (popC c).2] ∧ Rg room a' n' L' c.tail) ∧ os' = [rgC room a' n' L'.length 1, rowI L']) := by
  cases c with
  | nil =>
    refine (popE48 h).mono ?_
    rintro d os' ⟨rfl, rfl⟩
    exact ⟨a, n, L, ⟨rfl, h⟩, rfl⟩
  | cons v c =>
    refine (pop48 h).mono ?_
    rintro d os' ⟨rfl, rfl⟩
    exact ⟨_, _, _, ⟨rfl, h.pop⟩, by rw [List.length_set]⟩
theorem lives45 : Spec Try.prog 45 [] [] (fun d os' => d = .bool true ∧ os' = []) := by
  have hc : newL (roomI 2) [] [7, 8, 9] = [7, 8] := rfl
  refine Spec.by Try.func45 rfl (by decide) (by decide +kernel) rfl ?_
  (refine goA ?_)
  refine App.only false rfl rfl ?_
  (refine goA ?_)
  refine Call.mk (new46 2 [7, 8, 9] (by decide)) ?_
  rintro d os' ⟨a, n, L, ⟨hg, rfl⟩, rfl⟩
  rw [hc] at hg
  (refine goA ?_)
  refine Call.mk (pop48x hg) ?_
  rintro d os' ⟨a, n, L, ⟨rfl, hg⟩, rfl⟩
  (refine goA ?_)
  refine Call.mk (pop48x hg) ?_
  rintro d os' ⟨a, n, L, ⟨rfl, hg⟩, rfl⟩
  (refine goA ?_)
  refine Call.mk (pop48x hg) ?_
  rintro d os' ⟨a, n, L, ⟨rfl, hg⟩, rfl⟩
  (refine goA ?_)
  refine Ret.trim 0 (by simp) rfl (Nat.le_of_ble_eq_true rfl) ?_
  refine Ret.mk [.tmp _] rfl ?_; refine And.intro ?_ rfl
  rfl
theorem ref_new56 (room : Int) (l : List Int) (hl : l.length ≤ 1000000) : Spec Try.prog 56 [.int .i64 room, ints l] [] (fun d os' => d = .agg [.int .i64 (roomI room), ints (newL (roomI room) [] l)] ∧ os' = []) := by
  have hlm : (l.map (D.int .i64)).length = l.length := List.length_map ..
  have hR := roomI_r room
  refine Spec.frz (post' := fun d => d = .agg [.int .i64 (roomI room), ints (newL (roomI room) [] l)]) ?_
  rw [newL_take (roomI room) hR.1 l [] (by simp; omega)]
  refine Spec.by Try.func56 rfl (by decide) (by decide +kernel) rfl ?_
  (refine goR ?_)
  ((with_reducible refine Pt.go ?_); conv => whnf)
  (refine goR ?_)
  ((with_reducible refine Pt.go ?_); conv => whnf)
  (refine goR ?_)
  refine Pt.weak (Weak.trans (Weak.only [(1, ints l), (4, .ptr 0 0 2 0 0), (5, .ptr 1 0 2 0 0)] [one (.row 71 2 false [.agg [.int .i64 0, .nils]]), one (.row 71 2 false [.agg [.int .i64 (roomI room), .nils]])] (by kernel_rfl) tld) (Weak.nilO 1 2 rfl (es := [.agg [.int .i64 (roomI room), .nils]]) rfl [.agg [.int .i64 (roomI room), .sl 2 0 1 0 0 none]] rfl (.cons (.agg (.cons (.same _ _) (.cons (.nils _ _) (.same _ _)))) (.same _ _)) 3 1 true)) ?_
  (refine goA ?_)
  refine Loop.inv (A := Nat) (List.range 33) (fun i => [(1, ints l), (4, .ptr 0 0 2 0 0), (5, .ptr 1 0 2 0 0), (6, .int .i64 (i : Int))]) (fun i => [one (.row 71 2 false [.agg [.int .i64 0, .nils]]), one (.row 71 2 false [.agg [.int .i64 (roomI room), .sl 2 0 1 0 i none]]), rowI (l.take i)]) (fun i => i ≤ l.length ∧ (i : Int) ≤ roomI room) (fun i => l.length - i) 0 ⟨Nat.zero_le _, hR.1⟩ ?_ ?_
  · exact Weak.start' rfl rfl tld
  rintro i ⟨hi, hir⟩
  have hlt : ((l.take i).map (D.int .i64)).length = i := by rw [List.length_map, List.length_take]; omega
  have fin : (l.length ≤ i ∨ roomI room ≤ i) → [] ++ l.take ((roomI room).toNat - ([] : List Int).length) = l.take i := by
    intro h
    rw [List.nil_append, List.length_nil, Nat.sub_zero]
    rcases h with h | h
    · rw [List.take_of_length_le h, List.take_of_length_le (by omega)]
    · rw [show (roomI room).toNat = i by omega]
  (refine goA ?_)
  refine Br.dec (fun h0 => ?_) (fun h0 => ?_)
  · have hil : i < l.length := by omega
    have hget : l[i]? = some l[i] := List.getElem?_eq_getElem hil
    (refine goA ?_)
    refine Br.dec (fun h1 => ?_) (fun h1 => ?_)
    · (refine goA ?_)
      refine Opt.of (get_map hget) ?_
      (refine goA ?_)
      refine App.only false rfl rfl ?_
      (refine goA ?_)
      refine ⟨_, _, _, ?_, ⟨i + 1, ?_, rfl, rfl, rfl⟩, ?_⟩
      · show l.length - (i + 1) < l.length - i; omega
      · exact ⟨hil, by omega⟩
      · refine Weak.trans (Weak.shift 3 2 (by decide) (by simp) (Nat.le_of_ble_eq_true rfl) (Nat.le_of_ble_eq_true rfl) (fun j => by cases j <;> rfl) rfl) ?_
        refine Weak.backT 3 (by simp) ?_ (by kernel_rfl) (Nat.le_of_ble_eq_true rfl) tld (by kernel_rfl) (by kernel_rfl)
        exact congrArg (fun r => ([one (.row 71 2 false [.agg [.int .i64 0, .nils]]), one (.row 71 2 false [.agg [.int .i64 (roomI room), .sl 2 0 1 0 (i + 1) none]]), one (.row 3 1 true r)] : Objs)) (by rw [List.take_add_one, hget]; exact map_snoc _ _)
    · rw [fin (.inr (by omega))]
      (refine goA ?_)
      refine Ret.mk [.cell 4 71] rfl ?_; (refine goA ?_)
      exact ⟨_, View.agg (.cons (.same _) (.cons (View.slAll rfl rfl hlt (by simp) (ViewL.same _) (pureL_map (fun _ => rfl) _)) .nil)), rfl, rfl⟩
  · rw [fin (.inl (by omega))]
    (refine goA ?_)
    refine Ret.mk [.cell 4 71] rfl ?_; (refine goA ?_)
    exact ⟨_, View.agg (.cons (.same _) (.cons (View.slAll rfl rfl hlt (by simp) (ViewL.same _) (pureL_map (fun _ => rfl) _)) .nil)), rfl, rfl⟩
end Go.Proofs.Ytaplihoeephbeaa.V
