/- R2: a text of a symbolic executor that is proved sound, and contracts that are proved with it. -/
import Derived.Test.YtaplihoeephbeaaR1
set_option linter.unusedVariables false
set_option linter.unusedSimpArgs false
namespace Go.Proofs.Ytaplihoeephbeaa.V
open Go Go.Proofs
set_option maxRecDepth 100000
set_option maxHeartbeats 40000000
def newL (room : Int) (c : List Int) : List Int → List Int
  | [] => c
  | v :: l => newL room (pushC room c v).2 l
theorem newL_snoc (room : Int) : ∀ (l : List Int) (c : List Int) (v : Int), newL room c (l ++ [v]) = (pushC room (newL room c l) v).2
  | [], c, v => rfl
  | w :: l, c, v => by simp only [List.cons_append, newL]; exact newL_snoc room l _ v
theorem newL_take (room : Int) (h0 : 0 ≤ room) : ∀ (l c : List Int), (c.length : Int) ≤ room → newL room c l = c ++ l.take (room.toNat - c.length)
  | [], c, _ => by simp [newL]
  | v :: l, c, hc => by
    simp only [newL, pushC]
    split
    · rename_i h
      rw [newL_take room h0 l c hc, show room.toNat - c.length = 0 by omega]
      simp
    · rename_i h
      obtain ⟨k, hk⟩ : ∃ k, room.toNat - c.length = k + 1 := ⟨room.toNat - c.length - 1, by omega⟩
      rw [newL_take room h0 l (c ++ [v]) (by simp; omega), hk]
      simp
      congr 1
      omega
def roomI (n : Int) : Int := if 1024 < if n < 0 then 0 else n then 1024 else if n < 0 then 0 else n
theorem roomI_r (n : Int) : 0 ≤ roomI n ∧ roomI n ≤ 1024 := by
  unfold roomI
  split <;> split <;> omega
theorem new46 (room : Int) (l : List Int) (hl : l.length ≤ 1000000) : Spec Try.prog 46 [.int .i64 room, ints l] [] (fun d os' => ∃ a n L, (Rg (roomI room) a n L (newL (roomI room) [] l) ∧ d = .ptr 0 0 4 0 0) ∧ os' = [rgC (roomI room) a n L.length 1, rowI L]) := by
  have hlm : (l.map (D.int .i64)).length = l.length := List.length_map ..
  have hR := roomI_r room
  refine Spec.by Try.func46 rfl (by decide) (by decide +kernel) rfl ?_
  (refine goR ?_)
  ((with_reducible refine Pt.go ?_); conv => whnf)
  (refine goR ?_)
  ((with_reducible refine Pt.go ?_); conv => whnf)
  (refine goR ?_)
  refine Pt.weak (Weak.trans (Weak.only [(1, ints l), (4, .nilp), (5, .ptr 0 0 4 0 0)] [one (.row 176 4 false [.agg [.int .i64 (roomI room), .int .i64 0, .nils, .int .i64 0]])] (by kernel_rfl) tld) (Weak.nilO 0 1 rfl (es := [.agg [.int .i64 (roomI room), .int .i64 0, .nils, .int .i64 0]]) rfl [.agg [.int .i64 (roomI room), .int .i64 0, .sl 1 0 1 0 0 none, .int .i64 0]] rfl (.cons (.agg (.cons (.same _ _) (.cons (.same _ _) (.cons (.nils _ _) (.same _ _))))) (.same _ _)) 3 1 true)) ?_
  (refine goA ?_)
  refine Loop.inv (A := Nat × Int × Int × List Int) (List.range 24) (fun x => [(4, .nilp), (5, .ptr 0 0 4 0 0), (13, ints l), (14, .int .i64 ((l.map (D.int .i64)).length : Int)), (15, .int .i64 (x.1 : Int))]) (fun x => [rgC (roomI room) x.2.1 x.2.2.1 x.2.2.2.length 1, rowI x.2.2.2]) (fun x => x.1 ≤ l.length ∧ Rg (roomI room) x.2.1 x.2.2.1 x.2.2.2 (newL (roomI room) [] (l.take x.1))) (fun x => l.length - x.1) (0, 0, 0, []) ⟨Nat.zero_le _, ⟨hR, rfl, Nat.le_refl _, hR.1, Int.le_refl _, .inl ⟨rfl, rfl⟩, fun i hi => by cases hi⟩⟩ ?_ ?_
  · exact Weak.start' rfl rfl tld
  rintro ⟨i, a, n, L⟩ ⟨hi, hg⟩
  dsimp only at hi hg ⊢
  (refine goA ?_)
  refine Br.dec (fun h0 => ?_) (fun h0 => ?_)
  · have hil : i < l.length := by omega
    have hget : l[i]? = some l[i] := List.getElem?_eq_getElem hil
    (refine goA ?_)
    refine Opt.of (get_map hget) ?_
    (refine goA ?_)
    refine Call.mk (push47 hg l[i]) ?_
    rintro d os' ⟨a', n', L', g, ⟨rfl, hg'⟩, rfl⟩
    have hs := newL_snoc (roomI room) (l.take i) [] l[i]
    rw [show l.take i ++ [l[i]] = l.take (i + 1) by rw [List.take_add_one, hget]; rfl] at hs
    rw [← hs] at hg'
    cases g with
    | true =>
      (refine goA ?_)
      refine ⟨_, _, _, ?_, ⟨(i + 1, a', n', L'), ?_, rfl, rfl, rfl⟩, ?_⟩
      · show l.length - (i + 1) < l.length - i; omega
      · exact ⟨hil, hg'⟩
      · refine Weak.trans (Weak.shift 2 1 (by decide) (by simp) (Nat.le_of_ble_eq_true rfl) (Nat.le_of_ble_eq_true rfl) (fun j => by cases j <;> rfl) rfl) ?_
        refine Weak.backT 2 (by simp) (by first | rfl | kernel_rfl) (by kernel_rfl) (Nat.le_of_ble_eq_true rfl) tld (by kernel_rfl) (by kernel_rfl)
    | false =>
      (refine goA ?_)
      refine ⟨_, _, _, ?_, ⟨(i + 1, a', n', L'), ?_, rfl, rfl, rfl⟩, ?_⟩
      · show l.length - (i + 1) < l.length - i; omega
      · exact ⟨hil, hg'⟩
      · refine Weak.backT 2 (by simp) (by first | rfl | kernel_rfl) (by kernel_rfl) (Nat.le_of_ble_eq_true rfl) tld (by kernel_rfl) (by kernel_rfl)
  · have hil : i = l.length := by omega
    subst hil
    rw [List.take_length] at hg
    (refine goA ?_)
    exact Ret.mk [.tmp 4] rfl ⟨_, _, _, ⟨hg, rfl⟩, rfl⟩
end Go.Proofs.Ytaplihoeephbeaa.V
