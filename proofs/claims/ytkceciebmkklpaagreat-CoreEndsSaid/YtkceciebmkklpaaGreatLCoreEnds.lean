/- The statement CoreEnds holds: What ends is seen to end once, and stays so; as many threads are there as were seen to be spawned, and one -/
import Derived.Test.YtkceciebmkklpaaGreatVA
import Derived.Test.YtkceciebmkklpaaGreatVB
import Derived.Test.YtkceciebmkklpaaGreatVT
import Derived.Test.YtkceciebmkklpaaGreatVC
import Derived.Test.YtkceciebmkklpaaGreatC0
import Derived.Test.YtkceciebmkklpaaGreatC1
import Derived.Test.YtkceciebmkklpaaGreatC2
import Derived.Test.YtkceciebmkklpaaGreatC3
import Derived.Test.YtkceciebmkklpaaGreatC4
import Derived.Test.YtkceciebmkklpaaGreatC5
import Derived.Test.YtkceciebmkklpaaGreatVJoinCoreEnds
import Derived.Test.YtkceciebmkklpaaGreatRows
import Derived.WalkKit
import Derived.ProofKit
import Derived.OpenShut
import Derived.ShutString
import Derived.ChangeOld
import Derived.Below
import Derived.SizedLaws
set_option linter.unusedVariables false
set_option linter.unusedSimpArgs false
namespace Go.Proofs.YtkceciebmkklpaaGreat.V
open Go Go.Proofs Go.RowKit Go.ChangeShapes Go.WideShapes Go.ChangeAt
set_option maxRecDepth 100000
theorem opens_coreEnds:OpensA Tryz.prog [26,23] (fun x:Pg × List Int × Unit=>[pgD x.1,ints x.2.1]) (fun x=>Pg.okB x.1∧lok x.2.1∧True) :=
 opensA_cons (b:=true) (by kernel_rfl) (fun _=>rfl) opens_pg (opensA_cons (b:=false) (by kernel_rfl) (fun _=>rfl) opens_is opensA_nil)
end Go.Proofs.YtkceciebmkklpaaGreat.V
namespace Go.Proofs.YtkceciebmkklpaaGreat.coreEnds
open Go.ChangeShapes Go.WideShapes Go.ChangeAt Go.RowKit Go.Proofs.YtkceciebmkklpaaGreat.V
theorem own:ownKnob Tryz.prog.godebug = none:=by kernel_rfl
theorem laidOut:laidOutB Tryz.prog = true:=by kernel_rfl
set_option maxRecDepth 100000 in
theorem lifted (os:Os) (started:os.Started) (H:Type) (enc:TypeId × Value→H) :
  ReturnsInHanded {} Tryz.checked os 12 .any (Rows.coreEndsSpec.pre6 enc Tryz.prog Tryz.f12 Rows.coreEndsRow.domain false) (Rows.coreEndsSpec.post enc Tryz.prog Tryz.f12 false true false false):=by
 refine returnsInHanded_of_change_sized (C:=Tryz.checked) own started (by kernel_rfl) Tryz.func12
  (ChangeSpec.witness6 (enc:=enc) (C:=Tryz.checked) false ⟨#[],#[.agg #[.slice none 0 0,.int .i64 0,.slice none 0 0,.slice none 0 0,.slice none 0 0,.slice none 0 0,.int .i64 0],.slice none 0 0],[]⟩ 8 (by kernel_rfl) (by kernel_rfl) (by kernel_rfl) (by kernel_rfl)) ?_
 intro W base args ds gs before hval0 hW hcnd hsz0 _
 have hsz:(DataW.weightsEach Tryz.prog (Tryz.f12.params.toList ++ Rows.coreEndsSpec.plain.varTypes Tryz.prog) (ds ++ gs)).all (·≤reachBytes) = true:=hsz0
 have hval:∀ (j:Nat) t v,Tryz.f12.params[j]? = some t→args[j]? = some v→Value.okWide Tryz.prog W .any base t v:=hval0
 have hW':=hW
 obtain ⟨p,q,hA0,hV,rfl,hfz,hnd⟩:=hW
 have hA:DataW.TrodAll enc Tryz.prog W 0 (fun _=>true) true Tryz.f12.params.toList args.toList ds p:=hA0
 obtain ⟨rfl,rfl⟩:=trodVars_none hV
 rw [Tryz.params12] at hA hval hsz
 obtain ⟨a,hrep,hJ⟩:=opens_coreEnds enc W 0 (fun _=>true) true .any base args.toList ds p hA (fun j t v h1 h2=>hval j t v (by simpa using h1) (by simpa using h2)) (by have e:ds ++ ([]:List (DataW H)) = ds:=List.append_nil ds; rw [e] at hsz; exact hsz)
 obtain ⟨v0,vs0,d0,ds0,p0,q0,hargs,rfl,rfl,h0,r0⟩:=trodAll_cons hA
 obtain ⟨v1,vs1,d1,ds1,p1,q1,rfl,rfl,rfl,h1,r1⟩:=trodAll_cons r0
 obtain ⟨rfl,rfl,rfl⟩:=trodAll_nil r1
 have hc:=(law12 a.1 hJ.1 a.2.1 hJ.2.1).2 bot (heapIm W) W args.toList (Sat.begin W) hrep
 rw [Array.toArray_toList] at hc
 refine hc.mono fun e W' he=>?_
 obtain ⟨v,d,os',ρ',I',rfl,hd,hs,hfr,hr⟩:=he
 subst hd
 rw [rep] at hr
 subst hr
 have bel:=hfr.below
 exact ⟨_,rfl,_,_,_,[],_,[],hW',trodAll_mk1 (shut_bool Tryz.underlying4 _),trodAll_below laidOut bel (by kernel_rfl) hA0,rfl,bel.frame _,fun h=>by cases h⟩
theorem over:Rows.coreEndsRow.holds Tryz.pinned (OpenSpec.ofChange Rows.coreEndsSpec) :=
 OpenClaim.holds_of_wide 12 Tryz.f12 rfl rfl rfl rfl rfl rfl rfl ⟨rfl,rfl,rfl,rfl,rfl⟩ rfl rfl rfl rfl rfl (by kernel_rfl) Tryz.func12 joined12
  (of_decide_eq_true (by kernel_rfl)) (by unfold Func.isWrapper; first | (rw [if_pos (by decide +kernel)]; kernel_rfl) | (rw [if_neg (by decide +kernel)]; exact ⟨rfl,rfl⟩))
  (fun os started H enc _=>lifted os started H enc)
theorem proved:Rows.CoreEndsSaid:=over
#print axioms proved
end Go.Proofs.YtkceciebmkklpaaGreat.coreEnds
namespace Go.Proofs.YtkceciebmkklpaaGreat
theorem coreEnds_holds:Rows.CoreEndsSaid:=coreEnds.proved
end Go.Proofs.YtkceciebmkklpaaGreat
