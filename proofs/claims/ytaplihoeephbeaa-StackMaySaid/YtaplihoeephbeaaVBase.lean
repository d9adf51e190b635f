/- VBase: a text of a symbolic executor that is proved sound, and contracts that are proved with it. -/
import Derived.Test.YtaplihoeephbeaaVFrame
import Derived.Test.YtaplihoeephbeaaVTab
namespace Go.Proofs.Ytaplihoeephbeaa.V
open Go Go.Proofs Go.RowKit
set_option maxRecDepth 100000

theorem ar_fit {x : Int} (h0 : -9223372036854775808 ≤ x) (h1 : x ≤ 9223372036854775807) : x = IntKind.i64.wrap x := by
  rw [Go.IntKind.wrap_i64]; omega
theorem Spec.by {f : FuncId} {fn : Func} {c : Code} {args : List D} {os : Objs} {post : D → Objs → Prop} (hf : Try.prog.funcs[f]? = some fn) (hb : fn.body = some c) (hname : (fn.name == "runtime.NumGoroutine") = false) (hok : codeOk fn.ntmps c = true) (hn : Nat.ble args.length fn.ntmps = true)
    (h : vc τ (Call Try.prog) Dr os.length c (fun e s => match e with | .exit _ => False | _ => Ret τ os.length fn post s) (start args os)) : Spec Try.prog f args os post :=
  Spec.of Dr (fun Γ _ => Dr_ok Γ _) τ_ok hf hname hb hok (Nat.le_of_ble_eq_true hn) h
/-- A test that is told in words. -/
theorem Br.dec {p : Prop} [Decidable p] {A B : Prop} (h1 : p → A) (h2 : ¬ p → B) : Br (decide p) A B := by
  by_cases h : p
  · rw [decide_eq_true h]; exact .t (h1 h)
  · rw [decide_eq_false h]; exact .f (h2 h)
theorem Br.tt {b : Bool} {A B : Prop} (h : b = true) (hA : A) : Br b A B := by subst h; exact .t hA
theorem Br.ff {b : Bool} {A B : Prop} (h : b = false) (hB : B) : Br b A B := by subst h; exact .f hB
theorem Br.cs {b : Bool} {A B : Prop} (h1 : b = true → A) (h2 : b = false → B) : Br b A B := by cases b with | true => exact .t (h1 rfl) | false => exact .f (h2 rfl)
theorem Opt.of {α : Type} {o : Option α} {x : α} {K : α → Prop} (h : o = some x) (hk : K x) : Opt o K := by subst h; exact .mk hk
/-- An element of a row that is told by a list. -/
theorem get_map {α : Type} {f : α → D} {l : List α} {i : Nat} {x : α} (h : l[i]? = some x) : (l.map f)[i]? = some (f x) := by rw [List.getElem?_map, h]; rfl
end Go.Proofs.Ytaplihoeephbeaa.V
