/- C2: a text of a symbolic executor that is proved sound, and contracts that are proved with it. -/
import Derived.Test.YtkceciebmkklpaaGreatVA
import Derived.Test.YtkceciebmkklpaaGreatVB
import Derived.Test.YtkceciebmkklpaaGreatVT
import Derived.Test.YtkceciebmkklpaaGreatVC
import Derived.Test.YtkceciebmkklpaaGreatC0
import Derived.Test.YtkceciebmkklpaaGreatC1
set_option linter.unusedVariables false
set_option linter.unusedSimpArgs false
namespace Go.Proofs.YtkceciebmkklpaaGreat.V
open Go Go.Proofs
set_option maxRecDepth 100000
set_option maxHeartbeats 40000000
theorem wakeF_len (x:Xs) (t:Int) (l:List Int):(wakeF x t l).C.th.length = x.C.th.length:=by
 unfold wakeF
 split
 ·rfl
 ·exact (wake_tame (end_tame 100) x t.toNat l).len
theorem wakeF_xb {b w:Nat} {x:Xs} (h:XB 100 b w x) {t:Int} (ht:0≤t→t.toNat < x.C.th.length) (l:List Int):XB 100 (b+1) (w+1) (wakeF x t l):=by
 unfold wakeF
 split
 ·exact h.le (by omega) (by omega)
 ·exact (wake_xb (end_xb 100) h (ht (by omega)) l).1
theorem restX_xb {b w:Nat} {x:Xs} (h:XB 100 b w x) {t:Nat} (ht:t < x.C.th.length) {st on:Int} (hst:st ≠ 2):XB 100 b w (restX x t st on):=by
 have:=(put_xb h ht (f:={ thAt x.C t with st:=st,on:=on }) (h.at t) hst x.ev x.wk x.wp).1
 exact this.le (by omega) (by omega)
theorem moved_len (x:Xs) (t m:Int) (has:Bool):(movedX x t m has).C.th.length = x.C.th.length:=by
 unfold movedX
 split
 ·exact wakeF_len ..
 ·exact rest_len ..
theorem moved_xb {b w:Nat} {x:Xs} (h:XB 100 b w x) {t:Int} (ht:t.toNat < x.C.th.length) (m:Int) (has:Bool):XB 100 (b+1) (w+1) (movedX x t m has):=by
 unfold movedX
 split
 ·exact wakeF_xb h (fun _=>ht) []
 ·exact (restX_xb h ht (by decide)).le (by omega) (by omega)
theorem wakeF_rest (x:Xs) (t:Int) (l:List Int):(wakeF x t l).C = { x.C with th:=(wakeF x t l).C.th }:=by
 unfold wakeF
 split
 ·rfl
 ·exact (wake_tame (end_tame 100) x t.toNat l).rest
theorem moved_rest (x:Xs) (t m:Int) (has:Bool):(movedX x t m has).C = { x.C with th:=(movedX x t m has).C.th }:=by
 unfold movedX
 split
 ·exact wakeF_rest ..
 ·rfl
theorem args_upO (σ:List (Nat × Nat)) (n off:Nat) (h5:σ[5]? = some (5,0)) (hl:5 < σ.length) {xs:List D} (hp:D.pureL xs = true):D.mapIdL (lead σ n) (.ptr 5 0 20 0 off :: xs) = .ptr 5 0 20 0 off :: xs∧D.sglL σ.length (.ptr 5 0 20 0 off :: xs) = true:=by
 refine ⟨?_,?_⟩
 ·rw [D.mapIdL,mapIdL_pure _ _ hp,D.mapId]
  unfold lead
  rw [h5]
 ·rw [D.sglL,sglL_pure _ _ hp]
  simp [D.sgl,hl]
theorem upKA {e:En} {x y:Xs} (K:Fam) {f:FuncId} {off:Nat} {xs:List D} {d:D} (h:Spec Tryz.prog f (.ptr 5 0 20 0 off :: xs) (pyA e x) (fun d' os'=>d' = d∧os' = pyA e y)) (hp:D.pureL xs = true) (hd:d.pure = true):Spec Tryz.prog f (.ptr 5 0 20 0 off :: xs) (pyK e x K) (fun d' os'=>d' = d∧os' = pyK e y K):=by
 obtain ⟨a1,a2⟩:=args_upO sgK 13 off rfl (by decide) hp
 have:=h.frame (pyK e x K) sgK rfl (by decide) (allQ_get0 (Q:=FrQ (pyK e x K) (pyA e x) sgK) ⟨⟨bl rfl,rfl,rfl,fun j hj=>one_pos _ hj⟩,⟨bl rfl,rfl,rfl,fun j hj=>one_pos _ hj⟩,⟨bl rfl,rfl,rfl,fun j hj=>one_pos _ hj⟩,⟨bl rfl,rfl,rfl,fun j hj=>one_pos _ hj⟩,⟨bl rfl,rfl,rfl,fun j hj=>one_pos _ hj⟩,⟨bl rfl,rfl,rfl,fun j hj=>one_pos _ hj⟩,⟨bl rfl,rfl,rfl,fun j hj=>one_pos _ hj⟩,⟨bl rfl,rfl,rfl,fun j hj=>one_pos _ hj⟩,⟨bl rfl,rfl,rfl,fun j hj=>one_pos _ hj⟩,⟨bl rfl,rfl,rfl,fun j hj=>one_pos _ hj⟩,⟨bl rfl,rfl,rfl,fun j hj=>one_pos _ hj⟩,⟨bl rfl,rfl,rfl,fun j hj=>one_pos _ hj⟩,trivial⟩) a2
 rw [show (pyK e x K).length = 13 from rfl,a1] at this
 refine this.mono ?_
 rintro d' os' ⟨d1,os1,⟨rfl,rfl⟩,rfl,rfl⟩
 refine ⟨mapId_pure _ _ hd,?_⟩
 kernel_rfl
theorem co_at {e:En} {x:Xs} (h:EO e x) {a:Nat} (ha:a < e.nw):∃ m:Nat,e.g.co.getD a 0 = (m:Int)∧m < e.nm∧(e.g.co.map (D.int .i64))[a]? = some (.int .i64 (m:Int)):=by
 have hl:a < e.g.co.length:=by rw [h.nw]; exact ha
 have hm:=h.co _ (getD_mem hl)
 refine ⟨(e.g.co.getD a 0).toNat,by omega,by omega,?_⟩
 rw [List.getElem?_map,List.getElem?_eq_getElem hl]
 have:e.g.co.getD a 0 = e.g.co[a]:=by rw [List.getD_eq_getElem?_getD,List.getElem?_eq_getElem hl]; rfl
 rw [this] at hm ⊢
 rw [Option.map_some,Int.toNat_of_nonneg hm.1]
theorem xb_inL {b w:Nat} {x:Xs} (h:XB 100 b w x) (S:Lk):XB 100 b w (inL x S):=⟨h.jn,h.tl,h.th,h.ev,h.wp,h.wk⟩
theorem wait114 {e:En} {x:Xs} (h:EO e x) (q:Rq) (hq:0≤q.a∧q.a < e.nw) (hz:LkZ e.nm e.nw e.ns (waitS x.C.L q.a.toNat (e.g.co.getD q.a.toNat 0).toNat e.t).1) (hn:0≤(waitS x.C.L q.a.toNat (e.g.co.getD q.a.toNat 0).toNat e.t).2.1→(waitS x.C.L q.a.toNat (e.g.co.getD q.a.toNat 0).toNat e.t).2.1.toNat < x.C.th.length):Spec Tryz.prog 114 [.ptr 5 0 20 0 0,rqD q] (pyA e x) (fun d os'=>d = .tup []∧os' = pyB e (waitX e.g x e.t q.a)):=by
 obtain ⟨kd,qa,v⟩:=q
 dsimp only at hq hz hn
 obtain ⟨a,rfl⟩:∃ a:Nat,qa = (a:Int):=⟨qa.toNat,by omega⟩
 obtain ⟨m,hme,hml,hmg⟩:=co_at h (a:=a) (by omega)
 have hcm:(e.g.co.map (D.int .i64)).length = e.g.co.length:=List.length_map ..
 rw [Int.toNat_natCast,hme,Int.toNat_natCast] at hz hn
 have hs:=wait89 (A:=e.A x 10 11) h.L a m (by omega) hml (e.t:Int) [rowT x.C.th,rowC x.C.bu,rowC x.C.sq,rowC x.C.rq,rowE x.ev,rowI x.wp,qK ⟨kd,a,v⟩]
 have hbad:(waitS x.C.L a m e.t).2.2 ≠ 0→(waitS x.C.L a m e.t).1 = x.C.L:=by
  unfold waitS; split
  ·intro _; rfl
  ·intro h; exact absurd rfl h
 unfold waitX
 dsimp only
 rw [Int.toNat_natCast,hme,Int.toNat_natCast]
 obtain ⟨⟨S',t',er⟩,hT⟩:∃ r,waitS x.C.L a m e.t = r:=⟨_,rfl⟩
 rw [hT] at hs hz hn hbad ⊢
 dsimp only at hs hz hn hbad ⊢
 have hnw:=h.nw
 by_cases he:er = 0
 ·rw [if_pos he]
  refine Spec.by Tryz.func114 rfl (by decide) (by decide +kernel) rfl ?_
  refine goA ?_
  refine Opt.of hmg ?_
  refine goA ?_
  refine Call.mk hs ?_
  rintro d os' ⟨rfl,rfl⟩
  refine goA ?_
  refine Call.mk (up_wake (x:=inL x S') (K:=qK ⟨kd,a,v⟩) (xb_inL h.xb S') (by omega) hn hz) ?_
  rintro d os' ⟨rfl,rfl⟩
  refine goA ?_
  refine Call.mk (restG (e:=e) (x:=wakeF (inL x S') t' []) (by rw [wakeF_len]; exact h.tl) 4 a 13 14 _) ?_
  rintro d os' ⟨rfl,rfl⟩
  refine goA ?_
  refine Ret.weak (Weak.on [] (pyKB e (restX (wakeF (inL x S') t' []) e.t 4 a) (qK ⟨kd,a,v⟩))) ?_
  refine Ret.weak (lowK [] (.inl rfl)) ?_
  exact Ret.mk [] rfl ⟨rfl,rfl⟩
 ·rw [if_neg he]
  have hSx:=hbad he
  rw [hSx] at hs
  refine Spec.by Tryz.func114 rfl (by decide) (by decide +kernel) rfl ?_
  refine goA ?_
  refine Opt.of hmg ?_
  refine goA ?_
  refine Call.mk hs ?_
  rintro d os' ⟨rfl,rfl⟩
  refine goA ?_
  refine Call.mk (up_end h 4) ?_
  rintro d os' ⟨rfl,rfl⟩
  refine goA ?_
  refine Ret.weak (Weak.on [] (pyKB e (endF x e.t 4) (qK ⟨kd,a,v⟩))) ?_
  refine Ret.weak (lowK [] (.inl rfl)) ?_
  exact Ret.mk [] rfl ⟨rfl,rfl⟩
theorem signal115 {e:En} {x:Xs} (h:EO e x) (q:Rq) (hq:0≤q.a∧q.a < e.nw) (hz:LkZ e.nm e.nw e.ns (signalS x.C.L q.a.toNat (e.g.co.getD q.a.toNat 0).toNat).1) (hn:0≤(signalS x.C.L q.a.toNat (e.g.co.getD q.a.toNat 0).toNat).2.1→(signalS x.C.L q.a.toNat (e.g.co.getD q.a.toNat 0).toNat).2.1.toNat < x.C.th.length):Spec Tryz.prog 115 [.ptr 5 0 20 0 0,rqD q] (pyA e x) (fun d os'=>d = .tup []∧os' = pyB e (signalX e.g x q.a)):=by
 obtain ⟨kd,qa,v⟩:=q
 dsimp only at hq hz hn
 obtain ⟨a,rfl⟩:∃ a:Nat,qa = (a:Int):=⟨qa.toNat,by omega⟩
 obtain ⟨m,hme,hml,hmg⟩:=co_at h (a:=a) (by omega)
 have hcm:(e.g.co.map (D.int .i64)).length = e.g.co.length:=List.length_map ..
 rw [Int.toNat_natCast,hme,Int.toNat_natCast] at hz hn
 have hs:=signal90 (A:=e.A x 10 11) h.L h.N a m (by omega) hml [rowT x.C.th,rowC x.C.bu,rowC x.C.sq,rowC x.C.rq,rowE x.ev,rowI x.wp,qK ⟨kd,a,v⟩]
 have hbad:(signalS x.C.L a m).2.1 < 0→(signalS x.C.L a m).1 = x.C.L:=by
  unfold signalS
  split
  ·intro _; rfl
  ·rename_i t q hq
   intro ht
   have:=(sigq_ok h.L h.N (c:=a) (by omega) hq).2.2.1
   dsimp only at ht
   omega
 unfold signalX
 dsimp only
 rw [Int.toNat_natCast,hme,Int.toNat_natCast]
 obtain ⟨⟨S',t',has⟩,hT⟩:∃ r,signalS x.C.L a m = r:=⟨_,rfl⟩
 rw [hT] at hs hz hn hbad ⊢
 dsimp only at hs hz hn hbad ⊢
 have hnw:=h.nw
 by_cases he:t' < 0
 ·rw [if_pos he]
  have hSx:=hbad he
  rw [hSx] at hs
  refine Spec.by Tryz.func115 rfl (by decide) (by decide +kernel) rfl ?_
  refine goA ?_
  refine Opt.of hmg ?_
  refine goA ?_
  refine Call.mk hs ?_
  rintro d os' ⟨rfl,rfl⟩
  refine goA ?_
  refine Ret.weak (Weak.fin (sl:=[]) (os:=pyA e x) 12) ?_
  refine Ret.weak (liftAB [] rfl rfl) ?_
  exact Ret.mk [] rfl ⟨rfl,rfl⟩
 ·rw [if_neg he]
  refine Spec.by Tryz.func115 rfl (by decide) (by decide +kernel) rfl ?_
  refine goA ?_
  refine Opt.of hmg ?_
  refine goA ?_
  refine Call.mk hs ?_
  rintro d os' ⟨rfl,rfl⟩
  refine goR ?_
  ((with_reducible refine Pt.go ?_); conv=>whnf)
  refine goR ?_
  refine Pt.weak (Weak.fin (sl:=[(0,.ptr 5 0 20 0 0),(4,.int .i64 m),(5,.int .i64 t'),(6,.bool has)]) (os:=pyA e (inL x S')) 12) ?_
  refine goA ?_
  refine Call.mk (moved188 (e:=e) (x:=inL x S') (xb_inL h.xb S') (by omega) (by omega) (hn (by omega)) hz m has) ?_
  rintro d os' ⟨rfl,rfl⟩
  refine goA ?_
  exact Ret.mk [] rfl ⟨rfl,rfl⟩
theorem own230 (l:List Int) (hl:l.length≤1000000):Spec Tryz.prog 123 [ints l] [] (fun d os'=>d = .sl 0 0 1 0 l.length none∧os' = [rowI l]):=by
 have hlm:(l.map (D.int .i64)).length = l.length:=List.length_map ..
 refine Spec.by Tryz.func123 rfl (by decide) (by decide +kernel) rfl ?_
 refine goA ?_
 refine And.intro (fun h=>?_) (fun h=>?_)
 ·obtain rfl:l = []:=List.map_eq_nil_iff.1 h
  refine goA ?_
  refine Ret.weak (Weak.nilrow 2 rfl 3 1 true) ?_
  exact Ret.mk [.tmp _] rfl (And.intro rfl rfl)
 ·refine And.intro (by rw [hlm]; show l.length * 8≤_; omega) (And.intro (by omega) ?_)
  refine App.own ?_
  refine goA ?_
  refine Ret.mk [.tmp _] rfl (And.intro ?_ ?_)
  ·rw [← hlm]; rfl
  ·exact congrArg (fun b=>([one (.row 3 1 b (l.map (D.int .i64)))]:Objs)) (pureL_map (fun _=>rfl) _)
theorem ints230 (l:List Int) (hl:l.length≤1000000):Spec Tryz.prog 123 [ints l] [] (fun d os'=>d = ints l∧os' = []):=by
 have hlm:(l.map (D.int .i64)).length = l.length:=List.length_map ..
 refine Spec.frz (post':=fun d=>d = ints l) ((own230 l hl).mono ?_)
 rintro d os' ⟨rfl,rfl⟩
 exact ⟨_,View.slAll rfl rfl hlm (by simp) (ViewL.same _) (pureL_map (fun _=>rfl) _),rfl,rfl⟩
theorem LkL.b0 {nm nw ns:Nat} {S:Lk} (h:LkL nm nw ns S) (hb:nm≤1000∧nw≤1000∧ns≤1000):S.ow.length≤1000∧S.co.length≤1000∧S.lk.length≤1000∧S.wq.length≤1000∧S.dq.length≤1000:=by
 have:=h.ow
 have:=h.co
 have:=h.lk
 have:=h.wq
 have:=h.dq
 omega
theorem lists231w (A:List (List Int)) (hA:A.length≤1000) (hl:∀ L ∈ A,L.length≤1000):Spec Tryz.prog 69 [lists A] [] (fun d os'=>d = .sl 0 0 1 0 A.length none∧os' = [rowC A]):=by
 have hAm:(A.map ints).length = A.length:=List.length_map ..
 refine Spec.by Tryz.func69 rfl (by decide) (by decide +kernel) rfl ?_
 refine goR ?_
 ((with_reducible refine Pt.go ?_); conv=>whnf)
 refine goR ?_
 ((with_reducible refine Pt.go ?_); conv=>whnf)
 refine goR ?_
 refine Pt.weak (Weak.trans (Weak.only [(0,lists A),(3,.nils)] [] (by kernel_rfl) tld) (Weak.nilrow 3 rfl 23 1 true)) ?_
 refine goA ?_
 refine Loop.inv (A:=Nat) (List.range 20) (fun i=>[(0,lists A),(3,.sl 0 0 1 0 i none),(4,.int .i64 (i:Int))]) (fun i=>[rowC (A.take i)]) (fun i=>i≤A.length) (fun i=>A.length - i) 0 (Nat.zero_le _) ?_ ?_
 ·exact Weak.start' rfl rfl tld
 rintro i hi
 have hlt:((A.take i).map ints).length = i:=by rw [List.length_map,List.length_take]; omega
 refine goA ?_
 refine Br.dec (fun h0=>?_) (fun h0=>?_)
 ·have hil:i < A.length:=by omega
  have hget:A[i]? = some A[i]:=List.getElem?_eq_getElem hil
  have hlen:=hl A[i] (List.getElem_mem _)
  refine goA ?_
  refine Opt.of (get_map hget) ?_
  refine goA ?_
  refine Call.mk ((ints230 A[i] (by omega)).only _ rfl (by rintro d rfl; rfl)) ?_; rintro d os' ⟨rfl,rfl⟩
  refine goA ?_
  refine App.only false rfl rfl ?_
  refine goA ?_
  refine ⟨_,_,_,?_,⟨i+1,?_,rfl,rfl,rfl⟩,?_⟩
  ·show A.length - (i+1) < A.length - i; omega
  ·exact hil
  ·refine Weak.trans (Weak.shift 1 0 (by decide) (by simp) (bl rfl) (bl rfl) (fun j=>by cases j <;> rfl) rfl) ?_
   refine Weak.backT 1 (by simp) ?_ (by kernel_rfl) (bl rfl) tld (by kernel_rfl) (by kernel_rfl)
   exact congrArg (fun r=>([one (.row 23 1 true r)]:Objs)) (by rw [List.take_add_one,hget]; show (A.take i).map ints ++ [ints A[i]] = (A.take i ++ [A[i]]).map ints; rw [List.map_append]; rfl)
 ·obtain rfl:i = A.length:=by omega
  rw [List.take_length] at *
  refine goA ?_
  refine Ret.mk [.tmp _] rfl ?_
  exact ⟨rfl,rfl⟩
theorem lists231 (A:List (List Int)) (hA:A.length≤1000) (hl:∀ L ∈ A,L.length≤1000):Spec Tryz.prog 69 [lists A] [] (fun d os'=>d = lists A∧os' = []):=by
 have hAm:(A.map ints).length = A.length:=List.length_map ..
 refine Spec.frz (post':=fun d=>d = lists A) ((lists231w A hA hl).mono ?_)
 rintro d os' ⟨rfl,rfl⟩
 exact ⟨_,View.slAll rfl rfl hAm (by simp) (ViewL.same _) (pureL_rows _),rfl,rfl⟩
def RE (X:List (List Int)) (L:List Int) (Y:List (List Int)) (q:Nat):List D:=X.map ints ++ .sl q 0 1 0 L.length none :: Y.map ints
theorem RE_names (X:List (List Int)) (L:List Int) (Y:List (List Int)) (q n:Nat) (h:Nat.beq q n = false):D.namesL n (RE X L Y q) = false:=by
 rw [RE,namesL_append,namesL_pure _ _ (pureL_rows _)]
 simp [D.namesL,D.names,h,namesL_pure _ _ (pureL_rows _)]
theorem RE_lt (X:List (List Int)) (L:List Int) (Y:List (List Int)) (q n:Nat) (h:Nat.blt q n = true):D.ltL n (RE X L Y q) = true:=by
 rw [RE,ltL_append,ltL_pure _ _ (pureL_rows _)]
 simp [D.ltL,D.lt,h,ltL_pure _ _ (pureL_rows _)]
theorem RE_ren (X:List (List Int)) (L:List Int) (Y:List (List Int)) (q a b:Nat) (h:Nat.beq q a = false):D.renL a b (RE X L Y q) = RE X L Y q:=by
 rw [RE,renL_append,renL_pure _ _ _ (pureL_rows _)]
 simp [D.renL,D.ren,h,renL_pure _ _ _ (pureL_rows _)]
theorem RE_len (X:List (List Int)) (L:List Int) (Y:List (List Int)) (q:Nat):(RE X L Y q).length = (X ++ L :: Y).length:=by
 simp [RE]
theorem RE_snoc (X:List (List Int)) (L:List Int) (Y:List (List Int)) (q:Nat) (M:List Int):RE X L Y q ++ [ints M] = RE X L (Y ++ [M]) q:=by
 rw [RE,RE,List.map_append,List.append_assoc,List.cons_append]; rfl
theorem RE_get (X:List (List Int)) (L:List Int) (Y:List (List Int)) (q:Nat):(RE X L Y q)[X.length]? = some (.sl q 0 1 0 L.length none):=by
 rw [RE,List.getElem?_append_right (by simp)]; simp
theorem RE_set (X:List (List Int)) (L:List Int) (Y:List (List Int)) (q r:Nat) (M:List Int):(RE X L Y q).set X.length (.sl r 0 1 0 M.length none) = RE X M Y r:=by
 rw [RE,RE,List.set_append_right _ _ (by simp)]; simp
theorem own_rowI (l:List Int):Objs.own [rowI l]:=fun i j=>by
 match i,j with
 | 0,0=>exact ownL_ints l
 | 0,j+1=>rfl
 | i+1,j=>cases i <;> cases j <;> rfl
theorem lists231e (X:List (List Int)) (L:List Int) (Y:List (List Int)) (hA:(X ++ L :: Y).length≤1000) (hl:∀ M ∈ X ++ L :: Y,M.length≤1000):Spec Tryz.prog 69 [lists (X ++ L :: Y)] [] (fun d os'=>d = .sl 0 0 1 0 (X ++ L :: Y).length none∧os' = [one (.row 23 1 false (RE X L Y 1)),rowI L]):=by
 obtain ⟨A,hAe⟩:∃ A,X ++ L :: Y = A:=⟨_,rfl⟩
 have hAm:(A.map ints).length = A.length:=List.length_map ..
 have hXA:X.length < A.length:=by rw [← hAe]; simp
 have hTX:A.take X.length = X:=by rw [← hAe,List.take_left' rfl]
 have hGX:A[X.length]? = some L:=by rw [← hAe]; simp
 have hAl:A.length = X.length+(Y.length+1):=by rw [← hAe]; simp
 have hTY:Y.take (A.length - (X.length+1)) = Y:=List.take_of_length_le (by omega)
 rw [hAe] at hA hl ⊢
 refine Spec.by Tryz.func69 rfl (by decide) (by decide +kernel) rfl ?_
 refine goR ?_
 ((with_reducible refine Pt.go ?_); conv=>whnf)
 refine goR ?_
 ((with_reducible refine Pt.go ?_); conv=>whnf)
 refine goR ?_
 refine Pt.weak (Weak.trans (Weak.only [(0,lists A),(3,.nils)] [] (by kernel_rfl) tld) (Weak.nilrow 3 rfl 23 1 true)) ?_
 refine goA ?_
 refine Loop.inv (A:=Nat × Bool) (List.range 20) (fun i=>[(0,lists A),(3,.sl 0 0 1 0 i.1 none),(4,.int .i64 (i.1:Int))]) (fun i=>bif i.2 then [one (.row 23 1 false (RE X L (Y.take (i.1 - (X.length+1))) 1)),rowI L] else [rowC (A.take i.1)]) (fun i=>i.1≤A.length∧(i.2 = true ↔ X.length < i.1)) (fun i=>A.length - i.1) (0,false) ⟨Nat.zero_le _,by simp⟩ ?_ ?_
 ·exact Weak.start' rfl rfl tld
 rintro ⟨i,b⟩ ⟨hi,hb⟩
 dsimp only at hi hb ⊢
 cases b with
 | true =>
  have hXi:X.length < i:=hb.1 rfl
  have hlt:(RE X L (Y.take (i - (X.length+1))) 1).length = i:=by
   rw [RE_len]; simp
   have:A.length = X.length+(Y.length+1):=by rw [← hAe]; simp
   omega
  dsimp only [cond_true]
  refine goA ?_
  refine Br.dec (fun h0=>?_) (fun h0=>?_)
  ·have hil:i < A.length:=by omega
   have hget:A[i]? = some A[i]:=List.getElem?_eq_getElem hil
   have hgY:Y[i - (X.length+1)]? = some A[i]:=by
    rw [← hget,← hAe,List.getElem?_append_right (by omega),show i - X.length = (i - (X.length+1))+1 by omega,List.getElem?_cons_succ]
   have hlen:=hl A[i] (List.getElem_mem _)
   have hsn:RE X L (Y.take (i - (X.length+1))) 1 ++ [ints A[i]] = RE X L (Y.take (i+1 - (X.length+1))) 1:=by
    rw [RE_snoc,show i+1 - (X.length+1) = (i - (X.length+1))+1 by omega,List.take_add_one,hgY]; rfl
   refine goA ?_
   refine Opt.of (get_map hget) ?_
   refine goA ?_
   refine Call.mk ((ints230 A[i] (by omega)).only _ rfl (by rintro d rfl; rfl)) ?_; rintro d os' ⟨rfl,rfl⟩
   refine goA ?_
   refine App.only false rfl rfl ?_
   refine goA ?_
   refine ⟨_,_,_,?_,⟨(i+1,true),?_,rfl,rfl,rfl⟩,?_⟩
   ·show A.length - (i+1) < A.length - i; omega
   ·exact ⟨hil,by simp; omega⟩
   ·refine Weak.trans (Weak.objs (os':=[one .gone,rowI L,one (.row 23 1 false (RE X L (Y.take (i+1 - (X.length+1))) 1))]) ?_) ?_
    ·exact congrArg (fun r=>([one .gone,rowI L,one (.row 23 1 false r)]:Objs)) hsn
    refine Weak.trans (Weak.shift 2 0 (by decide) (by simp) (bl rfl) (bl rfl) (fun j=>by cases j <;> rfl) (by simp [Fam.names,O.names,D.namesL,D.names,RE_names X L _ 1 0 rfl])) ?_
    refine Weak.trans (Weak.objs (os':=[one (.row 23 1 false (RE X L (Y.take (i+1 - (X.length+1))) 1)),rowI L,one .gone]) (congrArg (fun r=>([one (.row 23 1 false r),rowI L,one .gone]:Objs)) (RE_ren X L _ 1 2 0 rfl))) ?_
    refine Weak.backT 2 (by simp) (by first | rfl | kernel_rfl) (by simp [Fam.lt,O.lt,D.lt,D.ltL,RE_lt X L _ 1 2 rfl]) (bl rfl) tld (by kernel_rfl) (by kernel_rfl)
  ·obtain rfl:i = A.length:=by omega
   rw [hTY] at *
   refine goA ?_
   refine Ret.mk [.tmp _] rfl ⟨rfl,rfl⟩
 | false =>
  have hXi:i≤X.length:=by
   apply Nat.le_of_not_lt
   intro h
   have:=hb.2 h
   simp at this
  have hlt:((A.take i).map ints).length = i:=by rw [List.length_map,List.length_take]; omega
  have hil:i < A.length:=by omega
  have hget:A[i]? = some A[i]:=List.getElem?_eq_getElem hil
  have hlen:=hl A[i] (List.getElem_mem _)
  dsimp only [cond_false]
  refine goR ?_
  by_cases hiX:i = X.length
  ·have hAi:A[i] = L:=by
    have h2:A[i]? = some L:=by rw [hiX]; exact hGX
    exact Option.some.inj (hget.symm.trans h2)
   rw [hAi] at hlen hget
   have hLm:(L.map (D.int .i64)).length = L.length:=List.length_map ..
   refine Pt.weak (Weak.unpure 0 rfl) ?_
   refine goA ?_
   refine Opt.of (get_map hget) ?_
   refine goA ?_
   refine Call.mk ((own230 L (by omega)).fresh (ViewL.same _) rfl (by rintro d os' ⟨rfl,rfl⟩; exact ⟨rfl,own_rowI L⟩)) ?_
   rintro d os' ⟨d0,os0,⟨rfl,rfl⟩,rfl,rfl⟩
   refine goA ?_
   refine App.own ?_
   refine goA ?_
   refine ⟨_,_,_,?_,⟨(i+1,true),?_,rfl,rfl,rfl⟩,?_⟩
   ·show A.length - (i+1) < A.length - i; omega
   ·exact ⟨hil,by simp; omega⟩
   ·have e1:(A.take i).map ints = X.map ints:=by rw [hiX,hTX]
    have e2:Y.take (i+1 - (X.length+1)) = []:=by rw [hiX,Nat.sub_self]; rfl
    dsimp only [cond_true]
    rw [e2]
    refine Weak.trans (Weak.objs (os':=[one .gone,rowI L,one (.row 23 1 false [.sl 1 0 1 0 L.length none]),one (.row 23 1 false (RE X L [] 1))]) ?_) ?_
    ·exact congrArg (fun r=>([one .gone,rowI L,one (.row 23 1 false [.sl 1 0 1 0 L.length none]),one (.row 23 1 false (r ++ [.sl 1 0 1 0 L.length none]))]:Objs)) e1
    refine Weak.trans (Weak.frzK (fun i=>Nat.beq i 2) [] trivial) ?_
    refine Weak.trans (Weak.objs (os':=[one .gone,rowI L,one .gone,one (.row 23 1 false (RE X L [] 1))]) (by kernel_rfl)) ?_
    refine Weak.trans (Weak.shift 3 0 (by decide) (by simp) (bl rfl) (bl rfl) (fun j=>by cases j <;> rfl) (by simp [Fam.names,O.names,D.namesL,D.names,RE_names X L _ 1 0 rfl])) ?_
    refine Weak.trans (Weak.objs (os':=[one (.row 23 1 false (RE X L [] 1)),rowI L,one .gone,one .gone]) (congrArg (fun r=>([one (.row 23 1 false r),rowI L,one .gone,one .gone]:Objs)) (RE_ren X L _ 1 3 0 rfl))) ?_
    refine Weak.backT 2 (by simp) (by first | rfl | kernel_rfl) (by simp [Fam.lt,O.lt,D.lt,D.ltL,RE_lt X L _ 1 2 rfl]) (bl rfl) tld (by kernel_rfl) (by kernel_rfl)
  ·refine goA ?_
   refine Opt.of (get_map hget) ?_
   refine goA ?_
   refine Call.mk ((ints230 A[i] (by omega)).only _ rfl (by rintro d rfl; rfl)) ?_; rintro d os' ⟨rfl,rfl⟩
   refine goA ?_
   refine App.only false rfl rfl ?_
   refine goA ?_
   refine ⟨_,_,_,?_,⟨(i+1,false),?_,rfl,rfl,rfl⟩,?_⟩
   ·show A.length - (i+1) < A.length - i; omega
   ·exact ⟨hil,by simp; omega⟩
   ·refine Weak.trans (Weak.shift 1 0 (by decide) (by simp) (bl rfl) (bl rfl) (fun j=>by cases j <;> rfl) rfl) ?_
    refine Weak.backT 1 (by simp) ?_ (by kernel_rfl) (bl rfl) tld (by kernel_rfl) (by kernel_rfl)
    exact congrArg (fun r=>([one (.row 23 1 true r)]:Objs)) (by rw [List.take_add_one,hget]; show (A.take i).map ints ++ [ints A[i]] = (A.take i ++ [A[i]]).map ints; rw [List.map_append]; rfl)
theorem lists231x {A X Y:List (List Int)} {L:List Int} (hx:A = X ++ L :: Y) (hA:A.length≤1000) (hl:∀ M ∈ A,M.length≤1000):Spec Tryz.prog 69 [lists A] [] (fun d os'=>d = .sl 0 0 1 0 A.length none∧os' = [one (.row 23 1 false (RE X L Y 1)),rowI L]):=by
 subst hx
 exact lists231e X L Y hA hl
theorem mapIdL_app (σ:Nat→Nat→Nat × Nat):∀ (a b:List D),D.mapIdL σ (a ++ b) = D.mapIdL σ a ++ D.mapIdL σ b
 | [],b=>rfl
 | x :: a,b=>by rw [List.cons_append,D.mapIdL,D.mapIdL,mapIdL_app σ a b,List.cons_append]
theorem RE_map (X:List (List Int)) (L:List Int) (Y:List (List Int)) (n:Nat):D.mapIdL (lead [] n) (RE X L Y 1) = RE X L Y (n+1):=by
 rw [RE,mapIdL_app,mapIdL_pure _ _ (pureL_rows _)]
 show _ ++ D.mapId (lead [] n) (.sl 1 0 1 0 L.length none) :: D.mapIdL (lead [] n) (Y.map ints) = _
 rw [mapIdL_pure _ _ (pureL_rows _)]
 rfl
theorem lists231o {A X Y:List (List Int)} {L:List Int} (hx:A = X ++ L :: Y) (hA:A.length≤1000) (hl:∀ M ∈ A,M.length≤1000) (os:Objs):Spec Tryz.prog 69 [lists A] os (fun d os'=>d = .sl (os.length+0) 0 1 0 A.length none∧os' = os ++ [one (.row 23 1 false (RE X L Y (os.length+1))),rowI L]):=by
 refine ((lists231x hx hA hl).onto os rfl).mono ?_
 rintro d os' ⟨d1,os1,⟨rfl,rfl⟩,rfl,rfl⟩
 refine ⟨rfl,?_⟩
 exact congrArg (fun r=>os ++ [one (.row 23 1 false r),rowI L]) (RE_map X L Y os.length)
theorem own218a {C:Cr} {nm nw ns:Nat} {S:Lk} (h:LkL nm nw ns S) (hb:nm≤1000∧nw≤1000∧ns≤1000) {X Y:List (List Int)} {L:List Int} (hx:S.lk = X ++ L :: Y):Spec Tryz.prog 231 [lkV C S] [] (fun d os'=>d = .agg [.int .i64 C.now,ths C.th,.sl 2 0 1 0 S.ow.length none,ints S.co,lists C.bu,.sl 3 0 1 0 S.lk.length none,lists S.wq,lists S.dq,lists C.sq,lists C.rq]∧os' = [one .gone,one .gone,rowI S.ow,one (.row 23 1 false (RE X L Y 4)),rowI L]):=by
 obtain ⟨h1,h2,h3,h4,h5⟩:=h.b0 hb
 have qlk:=h.l1
 have qwq:=h.l2
 have qdq:=h.l3
 refine Spec.weak (post:=fun d os'=>d = .agg [.int .i64 C.now,ths C.th,.sl 2 0 1 0 S.ow.length none,ints S.co,lists C.bu,.sl 3 0 1 0 S.lk.length none,lists S.wq,lists S.dq,lists C.sq,lists C.rq]∧∃ a b:Fam,os' = [a,b,rowI S.ow,one (.row 23 1 false (RE X L Y 4)),rowI L]) ?_ ?_
 ·refine Spec.by Tryz.func231 rfl (by decide) (by decide +kernel) rfl ?_
  refine goA ?_
  refine Call.mk ((own230 S.ow (by omega)).onto _ rfl) ?_
  rintro d os' ⟨d0,os0,⟨rfl,rfl⟩,rfl,rfl⟩
  refine goA ?_
  refine Call.mk ((ints230 S.co (by omega)).only _ rfl (by rintro d rfl; rfl)) ?_; rintro d os' ⟨rfl,rfl⟩
  refine goA ?_
  refine Call.mk (lists231o hx (by omega) qlk _) ?_
  rintro d os' ⟨rfl,rfl⟩
  refine goA ?_
  refine Call.mk ((lists231 S.wq (by omega) qwq).only _ rfl (by rintro d rfl; rfl)) ?_; rintro d os' ⟨rfl,rfl⟩
  refine goA ?_
  refine Call.mk ((lists231 S.dq (by omega) qdq).only _ rfl (by rintro d rfl; rfl)) ?_; rintro d os' ⟨rfl,rfl⟩
  refine goA ?_
  refine Ret.mk [.cell 2 30] rfl ?_; (refine goA ?_)
  exact ⟨_,_,rfl⟩
 ·rintro d os' ⟨rfl,a,b,rfl⟩
  exact ⟨_,_,Weak.frzK (fun i=>Nat.blt i 2) [] trivial,rfl,rfl⟩
theorem own218b {C:Cr} {nm nw ns:Nat} {S:Lk} (h:LkL nm nw ns S) (hb:nm≤1000∧nw≤1000∧ns≤1000) {X Y:List (List Int)} {L:List Int} (hx:S.wq = X ++ L :: Y):Spec Tryz.prog 231 [lkV C S] [] (fun d os'=>d = .agg [.int .i64 C.now,ths C.th,.sl 2 0 1 0 S.ow.length none,ints S.co,lists C.bu,.sl 3 0 1 0 S.lk.length none,.sl 4 0 1 0 S.wq.length none,lists S.dq,lists C.sq,lists C.rq]∧os' = [one .gone,one .gone,rowI S.ow,rowC S.lk,one (.row 23 1 false (RE X L Y 5)),rowI L]):=by
 obtain ⟨h1,h2,h3,h4,h5⟩:=h.b0 hb
 have qlk:=h.l1
 have qwq:=h.l2
 have qdq:=h.l3
 refine Spec.weak (post:=fun d os'=>d = .agg [.int .i64 C.now,ths C.th,.sl 2 0 1 0 S.ow.length none,ints S.co,lists C.bu,.sl 3 0 1 0 S.lk.length none,.sl 4 0 1 0 S.wq.length none,lists S.dq,lists C.sq,lists C.rq]∧∃ a b:Fam,os' = [a,b,rowI S.ow,rowC S.lk,one (.row 23 1 false (RE X L Y 5)),rowI L]) ?_ ?_
 ·refine Spec.by Tryz.func231 rfl (by decide) (by decide +kernel) rfl ?_
  refine goA ?_
  refine Call.mk ((own230 S.ow (by omega)).onto _ rfl) ?_
  rintro d os' ⟨d0,os0,⟨rfl,rfl⟩,rfl,rfl⟩
  refine goA ?_
  refine Call.mk ((ints230 S.co (by omega)).only _ rfl (by rintro d rfl; rfl)) ?_; rintro d os' ⟨rfl,rfl⟩
  refine goA ?_
  refine Call.mk ((lists231w S.lk (by omega) qlk).onto _ rfl) ?_
  rintro d os' ⟨d0,os0,⟨rfl,rfl⟩,rfl,rfl⟩
  refine goA ?_
  refine Call.mk (lists231o hx (by omega) qwq _) ?_
  rintro d os' ⟨rfl,rfl⟩
  refine goA ?_
  refine Call.mk ((lists231 S.dq (by omega) qdq).only _ rfl (by rintro d rfl; rfl)) ?_; rintro d os' ⟨rfl,rfl⟩
  refine goA ?_
  refine Ret.mk [.cell 2 30] rfl ?_; (refine goA ?_)
  exact ⟨_,_,rfl⟩
 ·rintro d os' ⟨rfl,a,b,rfl⟩
  exact ⟨_,_,Weak.frzK (fun i=>Nat.blt i 2) [] trivial,rfl,rfl⟩
theorem own218f {C:Cr} {nm nw ns:Nat} {S:Lk} (h:LkL nm nw ns S) (hb:nm≤1000∧nw≤1000∧ns≤1000):Spec Tryz.prog 231 [lkV C S] [] (fun d os'=>d = .agg [.int .i64 C.now,ths C.th,.sl 2 0 1 0 S.ow.length none,ints S.co,lists C.bu,.sl 3 0 1 0 S.lk.length none,lists S.wq,lists S.dq,lists C.sq,lists C.rq]∧os' = [one .gone,one .gone,rowI S.ow,rowC S.lk]):=by
 obtain ⟨h1,h2,h3,h4,h5⟩:=h.b0 hb
 have qlk:=h.l1
 have qwq:=h.l2
 have qdq:=h.l3
 refine Spec.weak (post:=fun d os'=>d = .agg [.int .i64 C.now,ths C.th,.sl 2 0 1 0 S.ow.length none,ints S.co,lists C.bu,.sl 3 0 1 0 S.lk.length none,lists S.wq,lists S.dq,lists C.sq,lists C.rq]∧∃ a b:Fam,os' = [a,b,rowI S.ow,rowC S.lk]) ?_ ?_
 ·refine Spec.by Tryz.func231 rfl (by decide) (by decide +kernel) rfl ?_
  refine goA ?_
  refine Call.mk ((own230 S.ow (by omega)).onto _ rfl) ?_
  rintro d os' ⟨d0,os0,⟨rfl,rfl⟩,rfl,rfl⟩
  refine goA ?_
  refine Call.mk ((ints230 S.co (by omega)).only _ rfl (by rintro d rfl; rfl)) ?_; rintro d os' ⟨rfl,rfl⟩
  refine goA ?_
  refine Call.mk ((lists231w S.lk (by omega) qlk).onto _ rfl) ?_
  rintro d os' ⟨d0,os0,⟨rfl,rfl⟩,rfl,rfl⟩
  refine goA ?_
  refine Call.mk ((lists231 S.wq (by omega) qwq).only _ rfl (by rintro d rfl; rfl)) ?_; rintro d os' ⟨rfl,rfl⟩
  refine goA ?_
  refine Call.mk ((lists231 S.dq (by omega) qdq).only _ rfl (by rintro d rfl; rfl)) ?_; rintro d os' ⟨rfl,rfl⟩
  refine goA ?_
  refine Ret.mk [.cell 2 30] rfl ?_; (refine goA ?_)
  exact ⟨_,_,rfl⟩
 ·rintro d os' ⟨rfl,a,b,rfl⟩
  exact ⟨_,_,Weak.frzK (fun i=>Nat.blt i 2) [] trivial,rfl,rfl⟩
theorem own218c {C:Cr} {nm nw ns:Nat} {S:Lk} (h:LkL nm nw ns S) (hb:nm≤1000∧nw≤1000∧ns≤1000) {X Y:List (List Int)} {L:List Int} (hx:S.dq = X ++ L :: Y):Spec Tryz.prog 231 [lkV C S] [] (fun d os'=>d = .agg [.int .i64 C.now,ths C.th,ints S.ow,.sl 2 0 1 0 S.co.length none,lists C.bu,lists S.lk,lists S.wq,.sl 3 0 1 0 S.dq.length none,lists C.sq,lists C.rq]∧os' = [one .gone,one .gone,rowI S.co,one (.row 23 1 false (RE X L Y 4)),rowI L]):=by
 obtain ⟨h1,h2,h3,h4,h5⟩:=h.b0 hb
 have qlk:=h.l1
 have qwq:=h.l2
 have qdq:=h.l3
 refine Spec.weak (post:=fun d os'=>d = .agg [.int .i64 C.now,ths C.th,ints S.ow,.sl 2 0 1 0 S.co.length none,lists C.bu,lists S.lk,lists S.wq,.sl 3 0 1 0 S.dq.length none,lists C.sq,lists C.rq]∧∃ a b:Fam,os' = [a,b,rowI S.co,one (.row 23 1 false (RE X L Y 4)),rowI L]) ?_ ?_
 ·refine Spec.by Tryz.func231 rfl (by decide) (by decide +kernel) rfl ?_
  refine goA ?_
  refine Call.mk ((ints230 S.ow (by omega)).only _ rfl (by rintro d rfl; rfl)) ?_; rintro d os' ⟨rfl,rfl⟩
  refine goA ?_
  refine Call.mk ((own230 S.co (by omega)).onto _ rfl) ?_
  rintro d os' ⟨d0,os0,⟨rfl,rfl⟩,rfl,rfl⟩
  refine goA ?_
  refine Call.mk ((lists231 S.lk (by omega) qlk).only _ rfl (by rintro d rfl; rfl)) ?_; rintro d os' ⟨rfl,rfl⟩
  refine goA ?_
  refine Call.mk ((lists231 S.wq (by omega) qwq).only _ rfl (by rintro d rfl; rfl)) ?_; rintro d os' ⟨rfl,rfl⟩
  refine goA ?_
  refine Call.mk (lists231o hx (by omega) qdq _) ?_
  rintro d os' ⟨rfl,rfl⟩
  refine goA ?_
  refine Ret.mk [.cell 2 30] rfl ?_; (refine goA ?_)
  exact ⟨_,_,rfl⟩
 ·rintro d os' ⟨rfl,a,b,rfl⟩
  exact ⟨_,_,Weak.frzK (fun i=>Nat.blt i 2) [] trivial,rfl,rfl⟩
theorem own218d {C:Cr} {nm nw ns:Nat} {S:Lk} (h:LkL nm nw ns S) (hb:nm≤1000∧nw≤1000∧ns≤1000):Spec Tryz.prog 231 [lkV C S] [] (fun d os'=>d = .agg [.int .i64 C.now,ths C.th,ints S.ow,ints S.co,lists C.bu,lists S.lk,.sl 2 0 1 0 S.wq.length none,lists S.dq,lists C.sq,lists C.rq]∧os' = [one .gone,one .gone,rowC S.wq]):=by
 obtain ⟨h1,h2,h3,h4,h5⟩:=h.b0 hb
 have qlk:=h.l1
 have qwq:=h.l2
 have qdq:=h.l3
 refine Spec.weak (post:=fun d os'=>d = .agg [.int .i64 C.now,ths C.th,ints S.ow,ints S.co,lists C.bu,lists S.lk,.sl 2 0 1 0 S.wq.length none,lists S.dq,lists C.sq,lists C.rq]∧∃ a b:Fam,os' = [a,b,rowC S.wq]) ?_ ?_
 ·refine Spec.by Tryz.func231 rfl (by decide) (by decide +kernel) rfl ?_
  refine goA ?_
  refine Call.mk ((ints230 S.ow (by omega)).only _ rfl (by rintro d rfl; rfl)) ?_; rintro d os' ⟨rfl,rfl⟩
  refine goA ?_
  refine Call.mk ((ints230 S.co (by omega)).only _ rfl (by rintro d rfl; rfl)) ?_; rintro d os' ⟨rfl,rfl⟩
  refine goA ?_
  refine Call.mk ((lists231 S.lk (by omega) qlk).only _ rfl (by rintro d rfl; rfl)) ?_; rintro d os' ⟨rfl,rfl⟩
  refine goA ?_
  refine Call.mk ((lists231w S.wq (by omega) qwq).onto _ rfl) ?_
  rintro d os' ⟨d0,os0,⟨rfl,rfl⟩,rfl,rfl⟩
  refine goA ?_
  refine Call.mk ((lists231 S.dq (by omega) qdq).only _ rfl (by rintro d rfl; rfl)) ?_; rintro d os' ⟨rfl,rfl⟩
  refine goA ?_
  refine Ret.mk [.cell 2 30] rfl ?_; (refine goA ?_)
  exact ⟨_,_,rfl⟩
 ·rintro d os' ⟨rfl,a,b,rfl⟩
  exact ⟨_,_,Weak.frzK (fun i=>Nat.blt i 2) [] trivial,rfl,rfl⟩
theorem own218e {C:Cr} {nm nw ns:Nat} {S:Lk} (h:LkL nm nw ns S) (hb:nm≤1000∧nw≤1000∧ns≤1000):Spec Tryz.prog 231 [lkV C S] [] (fun d os'=>d = .agg [.int .i64 C.now,ths C.th,ints S.ow,.sl 2 0 1 0 S.co.length none,lists C.bu,lists S.lk,lists S.wq,.sl 3 0 1 0 S.dq.length none,lists C.sq,lists C.rq]∧os' = [one .gone,one .gone,rowI S.co,rowC S.dq]):=by
 obtain ⟨h1,h2,h3,h4,h5⟩:=h.b0 hb
 have qlk:=h.l1
 have qwq:=h.l2
 have qdq:=h.l3
 refine Spec.weak (post:=fun d os'=>d = .agg [.int .i64 C.now,ths C.th,ints S.ow,.sl 2 0 1 0 S.co.length none,lists C.bu,lists S.lk,lists S.wq,.sl 3 0 1 0 S.dq.length none,lists C.sq,lists C.rq]∧∃ a b:Fam,os' = [a,b,rowI S.co,rowC S.dq]) ?_ ?_
 ·refine Spec.by Tryz.func231 rfl (by decide) (by decide +kernel) rfl ?_
  refine goA ?_
  refine Call.mk ((ints230 S.ow (by omega)).only _ rfl (by rintro d rfl; rfl)) ?_; rintro d os' ⟨rfl,rfl⟩
  refine goA ?_
  refine Call.mk ((own230 S.co (by omega)).onto _ rfl) ?_
  rintro d os' ⟨d0,os0,⟨rfl,rfl⟩,rfl,rfl⟩
  refine goA ?_
  refine Call.mk ((lists231 S.lk (by omega) qlk).only _ rfl (by rintro d rfl; rfl)) ?_; rintro d os' ⟨rfl,rfl⟩
  refine goA ?_
  refine Call.mk ((lists231 S.wq (by omega) qwq).only _ rfl (by rintro d rfl; rfl)) ?_; rintro d os' ⟨rfl,rfl⟩
  refine goA ?_
  refine Call.mk ((lists231w S.dq (by omega) qdq).onto _ rfl) ?_
  rintro d os' ⟨d0,os0,⟨rfl,rfl⟩,rfl,rfl⟩
  refine goA ?_
  refine Ret.mk [.cell 2 30] rfl ?_; (refine goA ?_)
  exact ⟨_,_,rfl⟩
 ·rintro d os' ⟨rfl,a,b,rfl⟩
  exact ⟨_,_,Weak.frzK (fun i=>Nat.blt i 2) [] trivial,rfl,rfl⟩
theorem RE_mapq (X:List (List Int)) (L:List Int) (Y:List (List Int)) (n q:Nat):D.mapIdL (lead [] n) (RE X L Y q) = RE X L Y (n+q):=by
 rw [RE,mapIdL_app,mapIdL_pure _ _ (pureL_rows _)]
 show _ ++ D.mapId (lead [] n) (.sl q 0 1 0 L.length none) :: D.mapIdL (lead [] n) (Y.map ints) = _
 rw [mapIdL_pure _ _ (pureL_rows _)]
 rfl
theorem split_at (A:List (List Int)) (m:Nat) (h:m < A.length):A = A.take m ++ qAt A m :: A.drop (m+1)∧(A.take m).length = m:=by
 refine ⟨?_,by rw [List.length_take]; omega⟩
 rw [qAt,List.getD_eq_getElem?_getD,List.getElem?_eq_getElem h]
 show A = A.take m ++ A[m] :: A.drop (m+1)
 rw [← List.drop_eq_getElem_cons h,List.take_append_drop]
theorem own218ao {C:Cr} {nm nw ns:Nat} {S:Lk} (h:LkL nm nw ns S) (hb:nm≤1000∧nw≤1000∧ns≤1000) {X Y:List (List Int)} {L:List Int} (hx:S.lk = X ++ L :: Y) (os:Objs):Spec Tryz.prog 231 [lkV C S] os (fun d os'=>d = .agg [.int .i64 C.now,ths C.th,.sl (os.length+2) 0 1 0 S.ow.length none,ints S.co,lists C.bu,.sl (os.length+3) 0 1 0 S.lk.length none,lists S.wq,lists S.dq,lists C.sq,lists C.rq]∧os' = os ++ [one .gone,one .gone,rowI S.ow,one (.row 23 1 false (RE X L Y (os.length+4))),rowI L]):=by
 refine ((own218a h hb hx).onto os rfl).mono ?_
 rintro d os' ⟨d1,os1,⟨rfl,rfl⟩,rfl,rfl⟩
 exact ⟨rfl,congrArg (fun r=>os ++ [one .gone,one .gone,rowI S.ow,one (.row 23 1 false r),rowI L]) (RE_mapq X L Y os.length 4)⟩
theorem own218bo {C:Cr} {nm nw ns:Nat} {S:Lk} (h:LkL nm nw ns S) (hb:nm≤1000∧nw≤1000∧ns≤1000) {X Y:List (List Int)} {L:List Int} (hx:S.wq = X ++ L :: Y) (os:Objs):Spec Tryz.prog 231 [lkV C S] os (fun d os'=>d = .agg [.int .i64 C.now,ths C.th,.sl (os.length+2) 0 1 0 S.ow.length none,ints S.co,lists C.bu,.sl (os.length+3) 0 1 0 S.lk.length none,.sl (os.length+4) 0 1 0 S.wq.length none,lists S.dq,lists C.sq,lists C.rq]∧os' = os ++ [one .gone,one .gone,rowI S.ow,rowC S.lk,one (.row 23 1 false (RE X L Y (os.length+5))),rowI L]):=by
 refine ((own218b h hb hx).onto os rfl).mono ?_
 rintro d os' ⟨d1,os1,⟨rfl,rfl⟩,rfl,rfl⟩
 exact ⟨rfl,congrArg (fun r=>os ++ [one .gone,one .gone,rowI S.ow,rowC S.lk,one (.row 23 1 false r),rowI L]) (RE_mapq X L Y os.length 5)⟩
theorem own218fo {C:Cr} {nm nw ns:Nat} {S:Lk} (h:LkL nm nw ns S) (hb:nm≤1000∧nw≤1000∧ns≤1000) (os:Objs):Spec Tryz.prog 231 [lkV C S] os (fun d os'=>d = .agg [.int .i64 C.now,ths C.th,.sl (os.length+2) 0 1 0 S.ow.length none,ints S.co,lists C.bu,.sl (os.length+3) 0 1 0 S.lk.length none,lists S.wq,lists S.dq,lists C.sq,lists C.rq]∧os' = os ++ [one .gone,one .gone,rowI S.ow,rowC S.lk]):=by
 refine ((own218f h hb).onto os rfl).mono ?_
 rintro d os' ⟨d1,os1,⟨rfl,rfl⟩,rfl,rfl⟩
 exact ⟨rfl,rfl⟩
theorem own218co {C:Cr} {nm nw ns:Nat} {S:Lk} (h:LkL nm nw ns S) (hb:nm≤1000∧nw≤1000∧ns≤1000) {X Y:List (List Int)} {L:List Int} (hx:S.dq = X ++ L :: Y) (os:Objs):Spec Tryz.prog 231 [lkV C S] os (fun d os'=>d = .agg [.int .i64 C.now,ths C.th,ints S.ow,.sl (os.length+2) 0 1 0 S.co.length none,lists C.bu,lists S.lk,lists S.wq,.sl (os.length+3) 0 1 0 S.dq.length none,lists C.sq,lists C.rq]∧os' = os ++ [one .gone,one .gone,rowI S.co,one (.row 23 1 false (RE X L Y (os.length+4))),rowI L]):=by
 refine ((own218c h hb hx).onto os rfl).mono ?_
 rintro d os' ⟨d1,os1,⟨rfl,rfl⟩,rfl,rfl⟩
 exact ⟨rfl,congrArg (fun r=>os ++ [one .gone,one .gone,rowI S.co,one (.row 23 1 false r),rowI L]) (RE_mapq X L Y os.length 4)⟩
theorem own218do {C:Cr} {nm nw ns:Nat} {S:Lk} (h:LkL nm nw ns S) (hb:nm≤1000∧nw≤1000∧ns≤1000) (os:Objs):Spec Tryz.prog 231 [lkV C S] os (fun d os'=>d = .agg [.int .i64 C.now,ths C.th,ints S.ow,ints S.co,lists C.bu,lists S.lk,.sl (os.length+2) 0 1 0 S.wq.length none,lists S.dq,lists C.sq,lists C.rq]∧os' = os ++ [one .gone,one .gone,rowC S.wq]):=by
 refine ((own218d h hb).onto os rfl).mono ?_
 rintro d os' ⟨d1,os1,⟨rfl,rfl⟩,rfl,rfl⟩
 exact ⟨rfl,rfl⟩
theorem own218eo {C:Cr} {nm nw ns:Nat} {S:Lk} (h:LkL nm nw ns S) (hb:nm≤1000∧nw≤1000∧ns≤1000) (os:Objs):Spec Tryz.prog 231 [lkV C S] os (fun d os'=>d = .agg [.int .i64 C.now,ths C.th,ints S.ow,.sl (os.length+2) 0 1 0 S.co.length none,lists C.bu,lists S.lk,lists S.wq,.sl (os.length+3) 0 1 0 S.dq.length none,lists C.sq,lists C.rq]∧os' = os ++ [one .gone,one .gone,rowI S.co,rowC S.dq]):=by
 refine ((own218e h hb).onto os rfl).mono ?_
 rintro d os' ⟨d1,os1,⟨rfl,rfl⟩,rfl,rfl⟩
 exact ⟨rfl,rfl⟩
theorem RE_at {X:List (List Int)} {L:List Int} {Y:List (List Int)} {q m:Nat} (h:X.length = m):(RE X L Y q)[0+m]? = some (.sl q 0 1 0 L.length none):=by
 subst h
 rw [Nat.zero_add]
 exact RE_get X L Y q
theorem RE_view {os:Objs} {X:List (List Int)} {L:List Int} {Y:List (List Int)} {q:Nat} {pr:Bool} (hat:os.at q 0 = .row 3 1 pr (L.map (D.int .i64))):ViewL allF os (RE X L Y q) ((X ++ L :: Y).map ints):=by
 rw [RE,List.map_append,List.map_cons]
 exact ViewL.append (ViewL.same _) (.cons (View.slAll rfl hat (List.length_map ..) (by simp) (ViewL.same _) (pureL_map (fun _=>rfl) _)) (ViewL.same _))
theorem set_split {X:List (List Int)} {L:List Int} {Y:List (List Int)} {A:List (List Int)} {m:Nat} (hx:A = X ++ L :: Y) (hX:X.length = m) (M:List Int):A.set m M = X ++ M :: Y:=by
 subst hx hX
 rw [List.set_append_right _ _ (Nat.le_refl _),Nat.sub_self]; rfl
theorem RE_setm {X:List (List Int)} {L:List Int} {Y:List (List Int)} {q r m:Nat} (h:X.length = m) (M:List Int):(RE X L Y q).set (0+m) (.sl r 0 1 0 M.length none) = RE X M Y r:=by
 subst h
 rw [Nat.zero_add]
 exact RE_set X L Y q r M
theorem RE_setn {X:List (List Int)} {L:List Int} {Y:List (List Int)} {q r m n:Nat} (h:X.length = m) (M:List Int) (hn:n = M.length):O.row 23 1 false ((RE X L Y q).set (0+m) (.sl r 0 1 0 n none)) = O.row 23 1 false (RE X M Y r):=by
 subst hn
 rw [RE_setm h]
theorem map_snocO (L:List Int) (t:Int):O.row 3 1 true (L.map (D.int .i64) ++ [.int .i64 t]) = O.row 3 1 true ((L ++ [t]).map (D.int .i64)):=by
 rw [List.map_append]; rfl
theorem RE_lenA {A X:List (List Int)} {L M:List Int} {Y:List (List Int)} {q:Nat} (hx:A = X ++ L :: Y):(RE X M Y q).length = A.length:=by
 rw [RE_len,hx]; simp
theorem ow_setn {l:List Int} {m:Nat} {t:Int}:O.row 3 1 true ((l.map (D.int .i64)).set (0+m) (.int .i64 t)) = O.row 3 1 true ((l.set m t).map (D.int .i64)):=by
 rw [Nat.zero_add,List.map_set]
theorem lock213 {C:Cr} {nm nw ns:Nat} {S:Lk} (h:LkL nm nw ns S) (hn:LkN S) (hb:nm≤1000∧nw≤1000∧ns≤1000) (m:Nat) (hm:m < nm) (t:Int):Spec Tryz.prog 201 [lkV C S,.int .i64 m,.int .i64 t] [] (fun d os'=>d = .tup [lkV C (lockS S m t).1,.bool (lockS S m t).2]∧os' = []):=by
 obtain ⟨h1,h2,h3,h4,h5⟩:=h.b0 hb
 have hmo:m < S.ow.length:=by have:=h.ow; omega
 have hml:m < S.lk.length:=by have:=h.lk; omega
 have how:=hn.ow _ (getD_mem hmo)
 obtain ⟨hx,hX⟩:=split_at S.lk m hml
 have hq:=h.l1 _ (qAt_mem hml)
 obtain ⟨X,hXe⟩:∃ X,S.lk.take m = X:=⟨_,rfl⟩
 obtain ⟨L,hLe⟩:∃ L,qAt S.lk m = L:=⟨_,rfl⟩
 obtain ⟨Y,hYe⟩:∃ Y,S.lk.drop (m+1) = Y:=⟨_,rfl⟩
 rw [hXe] at hx hX
 rw [hLe] at hx hq
 rw [hYe] at hx
 have hom:(S.ow.map (D.int .i64)).length = S.ow.length:=List.length_map ..
 have hLm:(L.map (D.int .i64)).length = L.length:=List.length_map ..
 refine Spec.frz (post':=fun d=>d = .tup [lkV C (lockS S m t).1,.bool (lockS S m t).2]) ?_
 unfold lockS
 rw [hLe]
 refine Spec.by Tryz.func201 rfl (by decide) (by decide +kernel) rfl ?_
 refine goA ?_
 refine Call.mk (own218ao h hb hx _) ?_
 rintro d os' ⟨rfl,rfl⟩
 refine goA ?_
 refine Opt.of (rowI_at S.ow m hmo) ?_
 refine goA ?_
 refine Br.dec (fun h0=>?_) (fun h0=>?_)
 ·rw [if_pos (by omega)]
  refine goA ?_
  refine Opt.of (RE_at hX) ?_
  refine goA ?_
  refine App.only false rfl rfl ?_
  refine goA ?_
  refine And.intro ?_ ?_
  ·conv=>whnf
   refine Opt.of (RE_at hX) ?_
   conv=>whnf
   refine And.intro rfl ?_
   conv=>whnf
   refine Opt.mk ?_
   conv=>whnf
   first | done | exact rfl | exact ⟨rfl,rfl⟩ | trivial
  refine goA ?_
  refine Opt.of (RE_at hX) ?_
  refine goA ?_
  refine Ret.mk [.cell 6 30,.tmp 7] rfl ?_; (refine goA ?_)
  refine ⟨_,View.tup (.cons (View.agg (.cons (.same _) (.cons (.same _) (.cons (View.slAll (f:=false) rfl rfl hom (by simp) (ViewL.same _) (pureL_map (fun _=>rfl) _)) (.cons (.same _) (.cons (.same _) (.cons (View.slAll (f:=false) rfl (RE_setn hX (L ++ [t]) (by simp [setAll])) (RE_lenA hx) (by simp) (RE_view (pr:=true) (map_snocO L t)) (pureL_rows _)) (.cons (.same _) (.cons (.same _) (.cons (.same _) (.cons (.same _) .nil))))))))))) (.cons (.same _) .nil)),rfl,?_⟩
  rw [set_split hx hX]
 ·rw [if_neg (by omega)]
  refine goA ?_
  refine Opt.of (rowI_at S.ow m hmo) ?_
  refine goA ?_
  refine Ret.mk [.cell 6 30,.tmp 7] rfl ?_; (refine goA ?_)
  refine ⟨_,View.tup (.cons (View.agg (.cons (.same _) (.cons (.same _) (.cons (View.slAll (f:=false) rfl ow_setn (by simp) (by simp) (ViewL.same _) (pureL_map (fun _=>rfl) _)) (.cons (.same _) (.cons (.same _) (.cons (View.slAll (f:=false) rfl rfl (RE_lenA hx) (by simp) (RE_view (pr:=true) rfl) (pureL_rows _)) (.cons (.same _) (.cons (.same _) (.cons (.same _) (.cons (.same _) .nil))))))))))) (.cons (.same _) .nil)),rfl,?_⟩
  rw [← hx]; rfl
theorem lstI_at (l:List Int) (m:Nat) (h:m < l.length):(l.map (D.int .i64))[m]? = some (.int .i64 (l.getD m 0)):=by
 have:=rowI_at l m h
 rwa [Nat.zero_add] at this
theorem lstC_at (l:List (List Int)) (m:Nat) (h:m < l.length):(l.map ints)[m]? = some (ints (qAt l m)):=by
 have:=rowC_at l m h
 rwa [Nat.zero_add] at this
theorem setD_at (l:List Int) (m:Nat) (h:m < l.length) (x:D):((l.map (D.int .i64)).set (0+m) x)[0+m]? = some x:=by
 rw [Nat.zero_add]
 exact List.getElem?_set_self (by rw [List.length_map]; exact h)
theorem setD2_at (l:List Int) (m:Nat) (h:m < l.length) (x y:D):(((l.map (D.int .i64)).set (0+m) x).set (0+m) y)[0+m]? = some y:=by
 rw [Nat.zero_add]
 exact List.getElem?_set_self (by rw [List.length_set,List.length_map]; exact h)
theorem ow_set2 {l:List Int} {m:Nat} {t:Int} {x:D}:O.row 3 1 true (((l.map (D.int .i64)).set (0+m) x).set (0+m) (.int .i64 t)) = O.row 3 1 true ((l.set m t).map (D.int .i64)):=by
 rw [Nat.zero_add,List.set_set,List.map_set]
theorem lk_setn {A:List (List Int)} {m:Nat} {M:List Int}:O.row 23 1 true ((A.map ints).set (0+m) (ints M)) = O.row 23 1 true ((A.set m M).map ints):=by
 rw [Nat.zero_add,List.map_set]
theorem down172 {C:Cr} {nm nw ns:Nat} {S:Lk} (h:LkL nm nw ns S) (hn:LkN S) (hb:nm≤1000∧nw≤1000∧ns≤1000) (m:Nat) (hm:m < ns) (t:Int):Spec Tryz.prog 205 [lkV C S,.int .i64 m,.int .i64 t] [] (fun d os'=>d = .tup [lkV C (downS S m t).1,.bool (downS S m t).2]∧os' = []):=by
 obtain ⟨h1,h2,h3,h4,h5⟩:=h.b0 hb
 have hmo:m < S.co.length:=by have:=h.co; omega
 have hml:m < S.dq.length:=by have:=h.dq; omega
 have how:=hn.co _ (getD_mem hmo)
 obtain ⟨hx,hX⟩:=split_at S.dq m hml
 have hq:=h.l3 _ (qAt_mem hml)
 obtain ⟨X,hXe⟩:∃ X,S.dq.take m = X:=⟨_,rfl⟩
 obtain ⟨L,hLe⟩:∃ L,qAt S.dq m = L:=⟨_,rfl⟩
 obtain ⟨Y,hYe⟩:∃ Y,S.dq.drop (m+1) = Y:=⟨_,rfl⟩
 rw [hXe] at hx hX
 rw [hLe] at hx hq
 rw [hYe] at hx
 have hom:(S.co.map (D.int .i64)).length = S.co.length:=List.length_map ..
 have hLm:(L.map (D.int .i64)).length = L.length:=List.length_map ..
 refine Spec.frz (post':=fun d=>d = .tup [lkV C (downS S m t).1,.bool (downS S m t).2]) ?_
 unfold downS
 rw [hLe]
 refine Spec.by Tryz.func205 rfl (by decide) (by decide +kernel) rfl ?_
 refine goA ?_
 refine Call.mk (own218co h hb hx _) ?_
 rintro d os' ⟨rfl,rfl⟩
 refine goA ?_
 refine Opt.of (rowI_at S.co m hmo) ?_
 refine goA ?_
 refine Br.dec (fun h0=>?_) (fun h0=>?_)
 ·rw [if_pos (by omega)]
  refine goA ?_
  refine Opt.of (RE_at hX) ?_
  refine goA ?_
  refine App.only false rfl rfl ?_
  refine goA ?_
  refine And.intro ?_ ?_
  ·conv=>whnf
   refine Opt.of (RE_at hX) ?_
   conv=>whnf
   refine And.intro rfl ?_
   conv=>whnf
   refine Opt.mk ?_
   conv=>whnf
   first | done | exact rfl | exact ⟨rfl,rfl⟩ | trivial
  refine goA ?_
  refine Opt.of (RE_at hX) ?_
  refine goA ?_
  refine Ret.mk [.cell 6 30,.tmp 7] rfl ?_; (refine goA ?_)
  refine ⟨_,View.tup (.cons (View.agg (.cons (.same _) (.cons (.same _) (.cons (.same _) (.cons (View.slAll (f:=false) rfl rfl hom (by simp) (ViewL.same _) (pureL_map (fun _=>rfl) _)) (.cons (.same _) (.cons (.same _) (.cons (.same _) (.cons (View.slAll (f:=false) rfl (RE_setn hX (L ++ [t]) (by simp [setAll])) (RE_lenA hx) (by simp) (RE_view (pr:=true) (map_snocO L t)) (pureL_rows _)) (.cons (.same _) (.cons (.same _) .nil))))))))))) (.cons (.same _) .nil)),rfl,?_⟩
  rw [set_split hx hX]
 ·rw [if_neg (by omega)]
  refine goA ?_
  refine Opt.of (rowI_at S.co m hmo) ?_
  refine goA ?_
  refine Opt.of (rowI_at S.co m hmo) ?_
  refine goA ?_
  refine Ret.mk [.cell 6 30,.tmp 7] rfl ?_; (refine goA ?_)
  refine ⟨_,View.tup (.cons (View.agg (.cons (.same _) (.cons (.same _) (.cons (.same _) (.cons (View.slAll (f:=false) rfl ow_setn (by simp) (by simp) (ViewL.same _) (pureL_map (fun _=>rfl) _)) (.cons (.same _) (.cons (.same _) (.cons (.same _) (.cons (View.slAll (f:=false) rfl rfl (RE_lenA hx) (by simp) (RE_view (pr:=true) rfl) (pureL_rows _)) (.cons (.same _) (.cons (.same _) .nil))))))))))) (.cons (.same _) .nil)),rfl,?_⟩
  rw [← hx]; rfl
theorem unlock214 {C:Cr} {nm nw ns:Nat} {S:Lk} (h:LkL nm nw ns S) (hb:nm≤1000∧nw≤1000∧ns≤1000) (m:Nat) (hm:m < nm) (t:Int):Spec Tryz.prog 202 [lkV C S,.int .i64 m,.int .i64 t] [] (fun d os'=>d = .tup [lkV C (unlockS S m t).1,.int .i64 (unlockS S m t).2.1,.int .i64 (unlockS S m t).2.2]∧os' = []):=by
 obtain ⟨h1,h2,h3,h4,h5⟩:=h.b0 hb
 have hmo:m < S.ow.length:=by have:=h.ow; omega
 have hml:m < S.lk.length:=by have:=h.lk; omega
 have hq:=h.l1 _ (qAt_mem hml)
 have hrc:=rowC_at S.lk m hml
 obtain ⟨L,hLe⟩:∃ L,qAt S.lk m = L:=⟨_,rfl⟩
 have hom:(S.ow.map (D.int .i64)).length = S.ow.length:=List.length_map ..
 have hlm:(S.lk.map ints).length = S.lk.length:=List.length_map ..
 refine Spec.frz (post':=fun d=>d = .tup [lkV C (unlockS S m t).1,.int .i64 (unlockS S m t).2.1,.int .i64 (unlockS S m t).2.2]) ?_
 unfold unlockS handS
 have hset:S.lk.set m (qAt S.lk m) = S.lk:=set_qAt S.lk m hml
 rw [hLe] at hq hrc hset ⊢
 refine Spec.by Tryz.func202 rfl (by decide) (by decide +kernel) rfl ?_
 refine goA ?_
 refine Opt.of (lstI_at S.ow m hmo) ?_
 refine goA ?_
 by_cases h0:S.ow.getD m 0 = t
 ·have b1:(!decide (S.ow.getD m 0 = t)) = false:=by rw [decide_eq_true h0]; rfl
  rw [if_neg (by omega)]
  refine goA ?_
  refine Call.mk (own218fo h hb _) ?_
  rintro d os' ⟨rfl,rfl⟩
  refine goA ?_
  refine Opt.of (rowI_at S.ow m hmo) ?_
  refine goA ?_
  refine Opt.of hrc ?_
  cases L with
  | nil =>
   refine goA ?_
   refine Opt.of (setD_at S.ow m hmo _) ?_
   refine goA ?_
   refine And.intro ?_ ?_
   ·conv=>whnf
    refine Opt.of (setD_at S.ow m hmo _) ?_
    (conv=>whnf)
    first | done | exact rfl | (refine Opt.mk ?_; (conv=>whnf); done) | (refine Opt.mk ?_; (conv=>whnf); exact rfl) | (refine And.intro rfl ?_; (conv=>whnf); refine Opt.mk ?_; (conv=>whnf); done) | (refine And.intro rfl ?_; (conv=>whnf); refine Opt.mk ?_; (conv=>whnf); exact rfl)
   refine goA ?_
   refine Ret.mk [.cell 6 30,.tmp 7,.tmp 8] rfl ?_; (refine goA ?_)
   refine ⟨_,View.tup (.cons (View.agg (.cons (.same _) (.cons (.same _) (.cons (View.slAll (f:=false) rfl ow_setn (by simp) (by simp) (ViewL.same _) (pureL_map (fun _=>rfl) _)) (.cons (.same _) (.cons (.same _) (.cons (View.slAll (f:=false) rfl rfl hlm (by simp) (ViewL.same _) (pureL_rows _)) (.cons (.same _) (.cons (.same _) (.cons (.same _) (.cons (.same _) .nil))))))))))) (.cons (.same _) (.cons (.same _) .nil))),rfl,?_⟩
   rw [show S.lk.set m ([]:List Int).tail = S.lk from hset]
   rfl
  | cons v q =>
   have hvm:((v :: q).map (D.int .i64)).length = q.length+1:=by simp
   refine goA ?_
   refine Opt.of hrc ?_
   refine goA ?_
   refine Opt.of (setD_at S.ow m hmo _) ?_
   refine goA ?_
   refine Opt.of hrc ?_
   refine goA ?_
   refine Nm.mk (q.map (D.int .i64)) (by rw [Int.toNat_natCast,List.take_length]; rfl) ?_
   refine goA ?_
   refine Opt.of (rowC_at S.lk m hml) ?_
   refine goA ?_
   refine Opt.of (setD2_at S.ow m hmo _ _) ?_
   refine goA ?_
   refine And.intro ?_ ?_
   ·conv=>whnf
    refine Opt.of (setD2_at S.ow m hmo _ _) ?_
    (conv=>whnf)
    first | done | exact rfl | (refine Opt.mk ?_; (conv=>whnf); done) | (refine Opt.mk ?_; (conv=>whnf); exact rfl) | (refine And.intro rfl ?_; (conv=>whnf); refine Opt.mk ?_; (conv=>whnf); done) | (refine And.intro rfl ?_; (conv=>whnf); refine Opt.mk ?_; (conv=>whnf); exact rfl)
   refine goA ?_
   refine Ret.mk [.cell 6 30,.tmp 7,.tmp 8] rfl ?_; (refine goA ?_)
   refine ⟨_,View.tup (.cons (View.agg (.cons (.same _) (.cons (.same _) (.cons (View.slAll (f:=false) rfl ow_set2 (by simp) (by simp) (ViewL.same _) (pureL_map (fun _=>rfl) _)) (.cons (.same _) (.cons (.same _) (.cons (View.slAll (f:=false) rfl lk_setn (by simp) (by simp) (ViewL.same _) (pureL_rows _)) (.cons (.same _) (.cons (.same _) (.cons (.same _) (.cons (.same _) .nil))))))))))) (.cons (.same _) (.cons (.same _) .nil))),rfl,?_⟩
   rfl
 ·have b1:(!decide (S.ow.getD m 0 = t)) = true:=by rw [decide_eq_false h0]; rfl
  rw [if_pos (by omega)]
  refine goA ?_
  refine Ret.mk [.cell 6 30,.tmp 7,.tmp 8] rfl ?_
  exact ⟨_,View.tup (.cons (.same _) (.cons (.same _) (.cons (.same _) .nil))),rfl,rfl⟩
theorem up173 {C:Cr} {nm nw ns:Nat} {S:Lk} (h:LkL nm nw ns S) (hn:LkN S) (hb:nm≤1000∧nw≤1000∧ns≤1000) (m:Nat) (hm:m < ns):Spec Tryz.prog 206 [lkV C S,.int .i64 m] [] (fun d os'=>d = .tup [lkV C (upS S m).1,.int .i64 (upS S m).2]∧os' = []):=by
 obtain ⟨h1,h2,h3,h4,h5⟩:=h.b0 hb
 have hmo:m < S.co.length:=by have:=h.co; omega
 have hml:m < S.dq.length:=by have:=h.dq; omega
 have how:=hn.co _ (getD_mem hmo)
 have hq:=h.l3 _ (qAt_mem hml)
 have hrc:=rowC_at S.dq m hml
 obtain ⟨L,hLe⟩:∃ L,qAt S.dq m = L:=⟨_,rfl⟩
 have hom:(S.co.map (D.int .i64)).length = S.co.length:=List.length_map ..
 have hlm:(S.dq.map ints).length = S.dq.length:=List.length_map ..
 refine Spec.frz (post':=fun d=>d = .tup [lkV C (upS S m).1,.int .i64 (upS S m).2]) ?_
 unfold upS
 rw [hLe] at hq hrc ⊢
 refine Spec.by Tryz.func206 rfl (by decide) (by decide +kernel) rfl ?_
 refine goA ?_
 refine Call.mk (own218eo h hb _) ?_
 rintro d os' ⟨rfl,rfl⟩
 refine goA ?_
 refine Opt.of hrc ?_
 cases L with
 | nil =>
  dsimp only
  refine goA ?_
  refine Opt.of (rowI_at S.co m hmo) ?_
  refine goA ?_
  refine Br.dec (fun h0=>?_) (fun h0=>?_)
  ·rw [if_pos h0]
   refine goA ?_
   refine Opt.of (rowI_at S.co m hmo) ?_
   refine goA ?_
   refine Opt.of (rowI_at S.co m hmo) ?_
   refine goA ?_
   refine Ret.mk [.cell 4 30,.tmp 5] rfl ?_; (refine goA ?_)
   refine ⟨_,View.tup (.cons (View.agg (.cons (.same _) (.cons (.same _) (.cons (.same _) (.cons (View.slAll (f:=false) rfl ow_setn (by simp) (by simp) (ViewL.same _) (pureL_map (fun _=>rfl) _)) (.cons (.same _) (.cons (.same _) (.cons (.same _) (.cons (View.slAll (f:=false) rfl rfl (by simp) (by simp) (ViewL.same _) (pureL_rows _)) (.cons (.same _) (.cons (.same _) .nil))))))))))) (.cons (.same _) .nil)),rfl,?_⟩
   rfl
  ·rw [if_neg h0]
   refine goA ?_
   refine Ret.mk [.cell 4 30,.tmp 5] rfl ?_; (refine goA ?_)
   refine ⟨_,View.tup (.cons (View.agg (.cons (.same _) (.cons (.same _) (.cons (.same _) (.cons (View.slAll (f:=false) rfl rfl (by simp) (by simp) (ViewL.same _) (pureL_map (fun _=>rfl) _)) (.cons (.same _) (.cons (.same _) (.cons (.same _) (.cons (View.slAll (f:=false) rfl rfl (by simp) (by simp) (ViewL.same _) (pureL_rows _)) (.cons (.same _) (.cons (.same _) .nil))))))))))) (.cons (.same _) .nil)),rfl,?_⟩
   rfl
 | cons v q =>
  have hvm:((v :: q).map (D.int .i64)).length = q.length+1:=by simp
  dsimp only
  refine goA ?_
  refine Opt.of hrc ?_
  refine goA ?_
  refine Opt.of hrc ?_
  refine goA ?_
  refine Nm.mk (q.map (D.int .i64)) (by rw [Int.toNat_natCast,List.take_length]; rfl) ?_
  refine goA ?_
  refine Opt.of (rowC_at S.dq m hml) ?_
  refine goA ?_
  refine Ret.mk [.cell 4 30,.tmp 5] rfl ?_; (refine goA ?_)
  refine ⟨_,View.tup (.cons (View.agg (.cons (.same _) (.cons (.same _) (.cons (.same _) (.cons (View.slAll (f:=false) rfl rfl (by simp) (by simp) (ViewL.same _) (pureL_map (fun _=>rfl) _)) (.cons (.same _) (.cons (.same _) (.cons (.same _) (.cons (View.slAll (f:=false) rfl lk_setn (by simp) (by simp) (ViewL.same _) (pureL_rows _)) (.cons (.same _) (.cons (.same _) .nil))))))))))) (.cons (.same _) .nil)),rfl,?_⟩
  rfl
theorem signal216 {C:Cr} {nm nw ns:Nat} {S:Lk} (h:LkL nm nw ns S) (hn:LkN S) (hb:nm≤1000∧nw≤1000∧ns≤1000) (c m:Nat) (hc:c < nw) (hm:m < nm):Spec Tryz.prog 204 [lkV C S,.int .i64 c,.int .i64 m] [] (fun d os'=>d = .tup [lkV C (signalS S c m).1,.int .i64 (signalS S c m).2.1,.bool (signalS S c m).2.2]∧os' = []):=by
 obtain ⟨h1,h2,h3,h4,h5⟩:=h.b0 hb
 have hml:c < S.wq.length:=by have:=h.wq; omega
 have hq:=h.l2 _ (qAt_mem hml)
 have hrc:=rowC_at S.wq c hml
 have hlc:=lstC_at S.wq c hml
 have hsg:∀ t q,qAt S.wq c = t :: q→LkL nm nw ns { S with wq:=S.wq.set c q }∧LkN { S with wq:=S.wq.set c q }:=fun t q e=>⟨(sigq_ok h hn hc e).1,(sigq_ok h hn hc e).2.1⟩
 obtain ⟨L,hLe⟩:∃ L,qAt S.wq c = L:=⟨_,rfl⟩
 have hlm:(S.wq.map ints).length = S.wq.length:=List.length_map ..
 refine Spec.frz (post':=fun d=>d = .tup [lkV C (signalS S c m).1,.int .i64 (signalS S c m).2.1,.bool (signalS S c m).2.2]) ?_
 unfold signalS
 rw [hLe] at hq hrc hlc hsg ⊢
 refine Spec.by Tryz.func204 rfl (by decide) (by decide +kernel) rfl ?_
 refine goA ?_
 refine Opt.of hlc ?_
 cases L with
 | nil =>
  dsimp only
  refine goA ?_
  refine Ret.mk [.cell 6 30,.tmp 7,.tmp 8] rfl ?_
  exact ⟨_,View.tup (.cons (.same _) (.cons (.same _) (.cons (.same _) .nil))),rfl,rfl⟩
 | cons v q =>
  have hvm:((v :: q).map (D.int .i64)).length = q.length+1:=by simp
  obtain ⟨g1,g2⟩:=hsg v q rfl
  dsimp only
  refine goA ?_
  refine Call.mk (own218do h hb _) ?_
  rintro d os' ⟨rfl,rfl⟩
  refine goA ?_
  refine Opt.of hrc ?_
  refine goA ?_
  refine Opt.of hrc ?_
  refine goA ?_
  refine Nm.mk (q.map (D.int .i64)) (by rw [Int.toNat_natCast,List.take_length]; rfl) ?_
  refine goA ?_
  refine Opt.of (rowC_at S.wq c hml) ?_
  refine goR ?_
  refine Pt.weak (Weak.only [(1,.int .i64 (c:Int)),(2,.int .i64 (m:Int)),(3,.ptr 0 0 10 0 0),(6,.ptr 1 0 10 0 0),(9,.int .i64 v)] [one (.row 30 10 false [.agg [.int .i64 C.now,ths C.th,ints S.ow,ints S.co,lists C.bu,lists S.lk,.sl 4 0 1 0 S.wq.length none,lists S.dq,lists C.sq,lists C.rq]]),one (.row 30 10 false [.agg [.int .i64 0,.nils,.nils,.nils,.nils,.nils,.nils,.nils,.nils,.nils]]),one .gone,one .gone,one (.row 23 1 true ((S.wq.map ints).set (0+c) (ints q)))] (by kernel_rfl) tld) ?_
  refine Pt.weak (Weak.frzO (fun i=>Nat.beq i 4) [] 0 (ty:=30) (sz:=10) (es:=[.agg [.int .i64 C.now,ths C.th,ints S.ow,ints S.co,lists C.bu,lists S.lk,.sl 4 0 1 0 S.wq.length none,lists S.dq,lists C.sq,lists C.rq]]) rfl rfl [lkV C { S with wq:=S.wq.set c q }] rfl ?_ trivial) ?_
  ·exact .cons (View.agg (.cons (.same _) (.cons (.same _) (.cons (.same _) (.cons (.same _) (.cons (.same _) (.cons (.same _) (.cons (View.slAll (f:=false) rfl lk_setn (by simp) (by simp) (ViewL.same _) (pureL_rows _)) (.cons (.same _) (.cons (.same _) (.cons (.same _) .nil))))))))))) .nil
  refine goA ?_
  refine Call.mk ((lock213 g1 g2 hb m hm v).only _ rfl (by rintro d rfl; rfl)) ?_; rintro d os' ⟨rfl,rfl⟩
  refine goA ?_
  refine Ret.mk [.cell 6 30,.tmp 7,.tmp 8] rfl ?_
  exact ⟨_,View.tup (.cons (.same _) (.cons (.same _) (.cons (.same _) .nil))),rfl,rfl⟩
@[reducible] def lkVn (S:Lk):D:=.agg [.int .i64 0,.nils,ints S.ow,ints S.co,.nils,lists S.lk,lists S.wq,lists S.dq,.nils,.nils]
theorem dP {τ:Tau} {C:CallW} {l:List Oper} {K:St→Prop} {s:St} (h:drw τ C l (closOf l) [] (mksOf l) K (permOf l) [] s) (hok:(drawOk l [] (permOf l) (closOf l) (mksOf l) && allOk τ l) = true:=by decide +kernel):Drw τ C l K s:=⟨_,_,_,_,hok,h⟩
theorem nilsV {os:Objs} (n:Nat):ViewL allF os (List.replicate n .nils) ((List.replicate n ([]:List Int)).map ints):=by
 rw [List.map_replicate]
 induction n with
 | zero=>exact .nil
 | succ n ih=>exact .cons (View.nils 1 false) ih
theorem new169 (nm nw:Nat) (se:List Int) (h1:nm≤1000) (h2:nw≤1000) (h3:se.length≤1000):Spec Tryz.prog 60 [.int .i64 nm,.int .i64 nw,ints se] [] (fun d os'=>d = lkVn (newS nm nw se)∧os' = []):=by
 have hsm:(se.map (D.int .i64)).length = se.length:=List.length_map ..
 refine Spec.frz (post':=fun d=>d = lkVn (newS nm nw se)) ?_
 refine Spec.by Tryz.func60 rfl (by decide) (by decide +kernel) rfl ?_
 refine goA ?_
 refine dP ?_
 refine goA ?_
 repeat (refine erC ?_)
 refine goA ?_
 refine Loop.inv (A:=Nat) (List.range 33) (fun i=>[(0,.int .i64 (nm:Int)),(2,ints se),(6,.ptr 0 0 10 0 0),(7,.ptr 4 0 10 0 0),(8,.int .i64 (i:Int))]) (fun i=>[one (.row 30 10 false [.agg [.int .i64 0,.nils,.nils,.nils,.nils,.nils,.nils,.nils,.nils,.nils]]),nilC nm,nilC nw,nilC se.length,one (.row 30 10 false [.agg [.int .i64 0,.nils,.sl 5 0 1 0 i none,.nils,.nils,.sl 1 0 1 0 nm none,.sl 2 0 1 0 nw none,.sl 3 0 1 0 se.length none,.nils,.nils]]),rowI (List.replicate i (-1))]) (fun i=>i≤nm) (fun i=>nm - i) 0 (Nat.zero_le _) ?_ ?_
 ·refine Weak.trans (Weak.only [(0,.int .i64 (nm:Int)),(2,ints se),(6,.ptr 0 0 10 0 0),(7,.ptr 4 0 10 0 0),(8,.int .i64 0)] [one (.row 30 10 false [.agg [.int .i64 0,.nils,.nils,.nils,.nils,.nils,.nils,.nils,.nils,.nils]]),nilC nm,nilC nw,nilC se.length,one (.row 30 10 false [.agg [.int .i64 0,.nils,.nils,.nils,.nils,.sl 1 0 1 0 nm none,.sl 2 0 1 0 nw none,.sl 3 0 1 0 se.length none,.nils,.nils]])] ?_ tld) ?_
  ·rw [← hsm]; rfl
  exact Weak.nilO 4 5 rfl (es:=[.agg [.int .i64 0,.nils,.nils,.nils,.nils,.sl 1 0 1 0 nm none,.sl 2 0 1 0 nw none,.sl 3 0 1 0 se.length none,.nils,.nils]]) rfl [.agg [.int .i64 0,.nils,.sl 5 0 1 0 0 none,.nils,.nils,.sl 1 0 1 0 nm none,.sl 2 0 1 0 nw none,.sl 3 0 1 0 se.length none,.nils,.nils]] rfl (.cons (.agg (.cons (.same _ _) (.cons (.same _ _) (.cons (.nils _ _) (.same _ _))))) (.same _ _)) 3 1 true
 rintro i hi
 have hrm:((List.replicate i (-1:Int)).map (D.int .i64)).length = i:=by simp
 refine goA ?_
 refine Br.dec (fun h0=>?_) (fun h0=>?_)
 ·refine goA ?_
  refine App.only false rfl rfl ?_
  refine goA ?_
  refine ⟨_,_,_,?_,⟨i+1,?_,rfl,rfl,rfl⟩,?_⟩
  ·show nm - (i+1) < nm - i; omega
  ·show i+1≤nm; omega
  ·refine Weak.trans (Weak.shift 6 5 (by decide) (by simp) (bl rfl) (bl rfl) (fun j=>by cases j <;> rfl) rfl) ?_
   refine Weak.backT 6 (by simp) ?_ (by kernel_rfl) (bl rfl) tld (by kernel_rfl) (by kernel_rfl)
   exact congrArg (fun r=>([one (.row 30 10 false [.agg [.int .i64 0,.nils,.nils,.nils,.nils,.nils,.nils,.nils,.nils,.nils]]),nilC nm,nilC nw,nilC se.length,one (.row 30 10 false [.agg [.int .i64 0,.nils,.sl 5 0 1 0 (i+1) none,.nils,.nils,.sl 1 0 1 0 nm none,.sl 2 0 1 0 nw none,.sl 3 0 1 0 se.length none,.nils,.nils]]),one (.row 3 1 true r)]:Objs)) (by rw [show List.replicate (i+1) (-1:Int) = List.replicate i (-1) ++ [-1] from List.replicate_succ']; exact (map_snoc (List.replicate i (-1)) (-1)))
 ·have hin:i = nm:=by omega
  subst hin
  refine goA ?_
  refine And.intro (fun hz=>?_) (fun hz=>?_)
  ·have hz':se = []:=List.map_eq_nil_iff.1 hz
   refine goA ?_
   refine Ret.mk [.cell 6 30] rfl ?_; (refine goA ?_)
   refine ⟨_,View.agg (.cons (.same _) (.cons (.same _) (.cons (View.slAll (f:=false) rfl rfl hrm (by simp) (ViewL.same _) (pureL_map (fun _=>rfl) _)) (.cons (View.nils 1 false) (.cons (.same _) (.cons (View.slAll (f:=false) rfl rfl (List.length_replicate ..) (by simp) (nilsV i) (pureL_rows _)) (.cons (View.slAll (f:=false) rfl rfl (List.length_replicate ..) (by simp) (nilsV nw) (pureL_rows _)) (.cons (View.slAll (f:=false) rfl rfl (List.length_replicate ..) (by simp) (nilsV se.length) (pureL_rows _)) (.cons (.same _) (.cons (.same _) .nil)))))))))),rfl,?_⟩
   rw [hz']; rfl
  ·refine And.intro (by rw [hsm]; show se.length * 8≤_; omega) (And.intro (by omega) ?_)
   refine App.only false rfl (pureL_map (fun _=>rfl) _) ?_
   refine goA ?_
   refine Ret.mk [.cell 6 30] rfl ?_; (refine goA ?_)
   refine ⟨_,View.agg (.cons (.same _) (.cons (.same _) (.cons (View.slAll (f:=false) rfl rfl hrm (by simp) (ViewL.same _) (pureL_map (fun _=>rfl) _)) (.cons (.same _) (.cons (.same _) (.cons (View.slAll (f:=false) rfl rfl (List.length_replicate ..) (by simp) (nilsV i) (pureL_rows _)) (.cons (View.slAll (f:=false) rfl rfl (List.length_replicate ..) (by simp) (nilsV nw) (pureL_rows _)) (.cons (View.slAll (f:=false) rfl rfl (List.length_replicate ..) (by simp) (nilsV se.length) (pureL_rows _)) (.cons (.same _) (.cons (.same _) .nil)))))))))),rfl,?_⟩
   rfl
theorem tail_eq {a b:Fam} {x x' y y':O} {r:Objs} (h1:x = x') (h2:y = y'):(a :: b :: one .gone :: one .gone :: one x :: one y :: r:Objs) = a :: b :: one .gone :: one .gone :: one x' :: one y' :: r:=by
 subst h1 h2; rfl
theorem unlock214w {C:Cr} {nm nw ns:Nat} {S:Lk} (h:LkL nm nw ns S) (hb:nm≤1000∧nw≤1000∧ns≤1000) (m:Nat) (hm:m < nm) (t:Int) (h0:S.ow.getD m 0 = t) {X Y:List (List Int)} {W:List Int} (hx:S.wq = X ++ W :: Y):Spec Tryz.prog 202 [lkV C S,.int .i64 m,.int .i64 t] [] (fun d os'=>d = .tup [.agg [.int .i64 C.now,ths C.th,.sl 4 0 1 0 S.ow.length none,ints S.co,lists C.bu,.sl 5 0 1 0 S.lk.length none,.sl 6 0 1 0 S.wq.length none,lists S.dq,lists C.sq,lists C.rq],.int .i64 (headQ (qAt S.lk m)),.int .i64 0]∧os' = [one .gone,one .gone,one .gone,one .gone,rowI (S.ow.set m (headQ (qAt S.lk m))),rowC (S.lk.set m (qAt S.lk m).tail),one (.row 23 1 false (RE X W Y 7)),rowI W]):=by
 obtain ⟨h1,h2,h3,h4,h5⟩:=h.b0 hb
 have hmo:m < S.ow.length:=by have:=h.ow; omega
 have hml:m < S.lk.length:=by have:=h.lk; omega
 have hq:=h.l1 _ (qAt_mem hml)
 have hrc:=rowC_at S.lk m hml
 obtain ⟨L,hLe⟩:∃ L,qAt S.lk m = L:=⟨_,rfl⟩
 have hom:(S.ow.map (D.int .i64)).length = S.ow.length:=List.length_map ..
 have hlm:(S.lk.map ints).length = S.lk.length:=List.length_map ..
 have hset:S.lk.set m (qAt S.lk m) = S.lk:=set_qAt S.lk m hml
 refine Spec.weak (post:=fun d os'=>d = .tup [.agg [.int .i64 C.now,ths C.th,.sl 4 0 1 0 S.ow.length none,ints S.co,lists C.bu,.sl 5 0 1 0 S.lk.length none,.sl 6 0 1 0 S.wq.length none,lists S.dq,lists C.sq,lists C.rq],.int .i64 (headQ (qAt S.lk m)),.int .i64 0]∧∃ a b:Fam,os' = [a,b,one .gone,one .gone,rowI (S.ow.set m (headQ (qAt S.lk m))),rowC (S.lk.set m (qAt S.lk m).tail),one (.row 23 1 false (RE X W Y 7)),rowI W]) ?_ ?_
 rotate_left
 ·rintro d os' ⟨rfl,a,b,rfl⟩
  exact ⟨_,_,Weak.frzK (fun i=>Nat.blt i 2) [] trivial,rfl,rfl⟩
 rw [hLe] at hq hrc hset ⊢
 refine Spec.by Tryz.func202 rfl (by decide) (by decide +kernel) rfl ?_
 refine goA ?_
 refine Opt.of (lstI_at S.ow m hmo) ?_
 refine goA ?_
 have b1:(!decide (S.ow.getD m 0 = t)) = false:=by rw [decide_eq_true h0]; rfl
 refine goA ?_
 refine Call.mk (own218bo h hb hx _) ?_
 rintro d os' ⟨rfl,rfl⟩
 refine goA ?_
 refine Opt.of (rowI_at S.ow m hmo) ?_
 refine goA ?_
 refine Opt.of hrc ?_
 cases L with
 | nil =>
  refine goA ?_
  refine Opt.of (setD_at S.ow m hmo _) ?_
  refine goA ?_
  refine And.intro ?_ ?_
  ·conv=>whnf
   refine Opt.of (setD_at S.ow m hmo _) ?_
   (conv=>whnf)
   first | done | exact rfl | (refine Opt.mk ?_; (conv=>whnf); done) | (refine Opt.mk ?_; (conv=>whnf); exact rfl) | (refine And.intro rfl ?_; (conv=>whnf); refine Opt.mk ?_; (conv=>whnf); done) | (refine And.intro rfl ?_; (conv=>whnf); refine Opt.mk ?_; (conv=>whnf); exact rfl)
  refine goA ?_
  exact Ret.mk [.cell 6 30,.tmp 7,.tmp 8] rfl ⟨rfl,_,_,tail_eq ow_setn (congrArg (fun l=>O.row 23 1 true (l.map ints)) hset.symm)⟩
 | cons v q =>
  have hvm:((v :: q).map (D.int .i64)).length = q.length+1:=by simp
  refine goA ?_
  refine Opt.of hrc ?_
  refine goA ?_
  refine Opt.of (setD_at S.ow m hmo _) ?_
  refine goA ?_
  refine Opt.of hrc ?_
  refine goA ?_
  refine Nm.mk (q.map (D.int .i64)) (by rw [Int.toNat_natCast,List.take_length]; rfl) ?_
  refine goA ?_
  refine Opt.of (rowC_at S.lk m hml) ?_
  refine goA ?_
  refine Opt.of (setD2_at S.ow m hmo _ _) ?_
  refine goA ?_
  refine And.intro ?_ ?_
  ·conv=>whnf
   refine Opt.of (setD2_at S.ow m hmo _ _) ?_
   (conv=>whnf)
   first | done | exact rfl | (refine Opt.mk ?_; (conv=>whnf); done) | (refine Opt.mk ?_; (conv=>whnf); exact rfl) | (refine And.intro rfl ?_; (conv=>whnf); refine Opt.mk ?_; (conv=>whnf); done) | (refine And.intro rfl ?_; (conv=>whnf); refine Opt.mk ?_; (conv=>whnf); exact rfl)
  refine goA ?_
  exact Ret.mk [.cell 6 30,.tmp 7,.tmp 8] rfl ⟨rfl,_,_,tail_eq ow_set2 lk_setn⟩
theorem unlock214wo {C:Cr} {nm nw ns:Nat} {S:Lk} (h:LkL nm nw ns S) (hb:nm≤1000∧nw≤1000∧ns≤1000) (m:Nat) (hm:m < nm) (t:Int) (h0:S.ow.getD m 0 = t) {X Y:List (List Int)} {W:List Int} (hx:S.wq = X ++ W :: Y) (os:Objs):Spec Tryz.prog 202 [lkV C S,.int .i64 m,.int .i64 t] os (fun d os'=>d = .tup [.agg [.int .i64 C.now,ths C.th,.sl (os.length+4) 0 1 0 S.ow.length none,ints S.co,lists C.bu,.sl (os.length+5) 0 1 0 S.lk.length none,.sl (os.length+6) 0 1 0 S.wq.length none,lists S.dq,lists C.sq,lists C.rq],.int .i64 (headQ (qAt S.lk m)),.int .i64 0]∧os' = os ++ [one .gone,one .gone,one .gone,one .gone,rowI (S.ow.set m (headQ (qAt S.lk m))),rowC (S.lk.set m (qAt S.lk m).tail),one (.row 23 1 false (RE X W Y (os.length+7))),rowI W]):=by
 refine ((unlock214w h hb m hm t h0 hx).onto os rfl).mono ?_
 rintro d os' ⟨d1,os1,⟨rfl,rfl⟩,rfl,rfl⟩
 exact ⟨rfl,congrArg (fun r=>os ++ [one .gone,one .gone,one .gone,one .gone,rowI (S.ow.set m (headQ (qAt S.lk m))),rowC (S.lk.set m (qAt S.lk m).tail),one (.row 23 1 false r),rowI W]) (RE_mapq X W Y os.length 7)⟩
theorem wait215 {C:Cr} {nm nw ns:Nat} {S:Lk} (h:LkL nm nw ns S) (hb:nm≤1000∧nw≤1000∧ns≤1000) (c m:Nat) (hc:c < nw) (hm:m < nm) (t:Int):Spec Tryz.prog 203 [lkV C S,.int .i64 c,.int .i64 m,.int .i64 t] [] (fun d os'=>d = .tup [lkV C (waitS S c m t).1,.int .i64 (waitS S c m t).2.1,.int .i64 (waitS S c m t).2.2]∧os' = []):=by
 obtain ⟨h1,h2,h3,h4,h5⟩:=h.b0 hb
 have hmw:c < S.wq.length:=by have:=h.wq; omega
 obtain ⟨hx,hX⟩:=split_at S.wq c hmw
 have hq:=h.l2 _ (qAt_mem hmw)
 obtain ⟨X,hXe⟩:∃ X,S.wq.take c = X:=⟨_,rfl⟩
 obtain ⟨L,hLe⟩:∃ L,qAt S.wq c = L:=⟨_,rfl⟩
 obtain ⟨Y,hYe⟩:∃ Y,S.wq.drop (c+1) = Y:=⟨_,rfl⟩
 rw [hXe] at hx hX
 rw [hLe] at hx hq
 rw [hYe] at hx
 have hom:((S.ow.set m (headQ (qAt S.lk m))).map (D.int .i64)).length = S.ow.length:=by simp
 have hkm:((S.lk.set m (qAt S.lk m).tail).map ints).length = S.lk.length:=by simp
 have hLm:(L.map (D.int .i64)).length = L.length:=List.length_map ..
 refine Spec.frz (post':=fun d=>d = .tup [lkV C (waitS S c m t).1,.int .i64 (waitS S c m t).2.1,.int .i64 (waitS S c m t).2.2]) ?_
 unfold waitS handS
 rw [hLe]
 by_cases h0:S.ow.getD m 0 = t
 ·rw [if_neg (by omega)]
  refine Spec.by Tryz.func203 rfl (by decide) (by decide +kernel) rfl ?_
  refine goA ?_
  refine Call.mk (unlock214wo h hb m hm t h0 hx _) ?_
  rintro d os' ⟨rfl,rfl⟩
  refine goA ?_
  refine Opt.of (RE_at hX) ?_
  refine goA ?_
  refine App.only false rfl rfl ?_
  refine goA ?_
  refine And.intro ?_ ?_
  ·conv=>whnf
   refine Opt.of (RE_at hX) ?_
   conv=>whnf
   refine And.intro rfl ?_
   conv=>whnf
   refine Opt.mk ?_
   conv=>whnf
   first | done | exact rfl | exact ⟨rfl,rfl⟩ | trivial
  refine goA ?_
  refine Opt.of (RE_at hX) ?_
  refine goA ?_
  refine Ret.mk [.cell 8 30,.tmp 9,.tmp 10] rfl ?_; (refine goA ?_)
  refine ⟨_,View.tup (.cons (View.agg (.cons (.same _) (.cons (.same _) (.cons (View.slAll (f:=false) rfl rfl hom (by simp) (ViewL.same _) (pureL_map (fun _=>rfl) _)) (.cons (.same _) (.cons (.same _) (.cons (View.slAll (f:=false) rfl rfl hkm (by simp) (ViewL.same _) (pureL_rows _)) (.cons (View.slAll (f:=false) rfl (RE_setn hX (L ++ [t]) (by simp [setAll])) (RE_lenA hx) (by simp) (RE_view (pr:=true) (map_snocO L t)) (pureL_rows _)) (.cons (.same _) (.cons (.same _) (.cons (.same _) .nil))))))))))) (.cons (.same _) (.cons (.same _) .nil))),rfl,?_⟩
  rw [set_split hx hX]
 ·rw [if_pos (by omega)]
  have hu:unlockS S m t = (S,-1,10):=by unfold unlockS; rw [if_pos h0]
  have hus:=unlock214 (C:=C) h hb m hm t
  rw [hu] at hus
  refine Spec.by Tryz.func203 rfl (by decide) (by decide +kernel) rfl ?_
  refine goA ?_
  refine Call.mk ((hus).only _ rfl (by rintro d rfl; rfl)) ?_; rintro d os' ⟨rfl,rfl⟩
  refine goA ?_
  refine Ret.mk [.cell 8 30,.tmp 9,.tmp 10] rfl ?_
  exact ⟨_,View.tup (.cons (.same _) (.cons (.same _) (.cons (.same _) .nil))),rfl,rfl⟩
theorem rest146x {g:Pg} {u:Int} {x:Xs} {t:Nat} (ht:t < x.C.th.length) (hl:x.C.th.length≤100) (st on:Int):Spec Tryz.prog 146 [xS g u x,.int .i64 t,.int .i64 st,.int .i64 on] [] (fun d os'=>d = xS g u (restX x t st on)∧os' = []):=by
 have h:=rest146 g x.C u x.ev x.wk t ht (by omega) st on
 rw [show xD g { x.C with th:=x.C.th.set t { x.C.th[t] with st:=st,on:=on } } u x.ev x.wk = xS g u (restX x t st on) by unfold restX putT; rw [thAt_lt ht]] at h
 exact h
theorem tellF200 {g:Pg} {u:Int} {b w:Nat} {x:Xs} (hx:XB 100 b w x) (hb:b≤40000) (hw:w≤40000) {t:Nat} (ht:t < x.C.th.length) (l:List Int) (hl:l.length≤1000) :
  Spec Tryz.prog 200 [xS g u x,.int .i64 t,ints l] [] (fun d os'=>d = xS g u (tellF x t l)∧os' = []):=tell200 (end_allR g u 100) hx (by omega) (by omega) ht l hl
theorem wakeF199 {g:Pg} {u:Int} {b w:Nat} {x:Xs} (hx:XB 100 b w x) (hb:b≤40000) (hw:w≤40000) {t:Int} (ht:0≤t→t.toNat < x.C.th.length) (l:List Int) (hl:l.length≤1000) :
  Spec Tryz.prog 199 [xS g u x,.int .i64 t,ints l] [] (fun d os'=>d = xS g u (wakeF x t l)∧os' = []):=by
 unfold wakeF
 by_cases h0:t < 0
 ·rw [if_pos h0]
  refine Spec.frz (post':=fun d=>d = xS g u x) ?_
  refine Spec.by Tryz.func199 rfl (by decide) (by decide +kernel) rfl ?_
  refine goA ?_
  refine Ret.mk [.cell 6 142] rfl ?_; (refine goA ?_)
  exact ⟨_,.same _,rfl,rfl⟩
 ·rw [if_neg h0]
  obtain ⟨k,rfl⟩:∃ k:Nat,t = (k:Int):=⟨t.toNat,by omega⟩
  have hk:k < x.C.th.length:=by have:=ht (by omega); omega
  exact wake199 (end_allR g u 100) (rest_xb hx hk (k:Int) 0 0 (by decide)).1 (by omega) (by omega) hk l hl
theorem wakeN199 {g:Pg} {u:Int} {b w:Nat} {x:Xs} (hx:XB 100 b w x) (hb:b≤40000) (hw:w≤40000) {t:Int} (ht:0≤t→t.toNat < x.C.th.length) :
  Spec Tryz.prog 199 [xS g u x,.int .i64 t,.nils] [] (fun d os'=>d = xS g u (wakeF x t [])∧os' = []) :=
 (wakeF199 hx hb hw ht [] (by simp)).args (args_nils _ _)
structure EB (e:En):Prop where
 nm:e.nm≤1000
 nw:e.nw≤1000
 ns:e.ns≤1000
theorem EB.b {e:En} (h:EB e):e.nm≤1000∧e.nw≤1000∧e.ns≤1000:=⟨h.nm,h.nw,h.ns⟩
theorem down149 {e:En} {x:Xs} (h:EO e x) (hb:EB e) {a:Nat} (ha:a < e.ns):Spec Tryz.prog 149 [xS e.g e.t x,.int .i64 11,.int .i64 a] [] (fun d os'=>d = xS e.g e.t (downX x e.t a)∧os' = []):=by
 have htl:=h.xb.tl
 have hs:=down172 (C:=x.C) h.L h.N hb.b a ha e.t
 unfold downX
 dsimp only
 rw [Int.toNat_natCast]
 obtain ⟨⟨S',b⟩,hT⟩:∃ r,downS x.C.L a e.t = r:=⟨_,rfl⟩
 rw [hT] at hs ⊢
 dsimp only at hs ⊢
 cases b with
 | true =>
  refine Spec.frz (post':=fun d=>d = xS e.g e.t (inL x S')) ?_
  refine Spec.by Tryz.func149 rfl (by decide) (by decide +kernel) rfl ?_
  refine goA ?_
  refine Call.mk ((hs).only _ rfl (by rintro d rfl; rfl)) ?_; rintro d os' ⟨rfl,rfl⟩
  refine goA ?_
  refine Ret.mk [.cell 6 142] rfl ?_; (refine goA ?_)
  exact ⟨_,.same _,rfl,rfl⟩
 | false =>
  refine Spec.frz (post':=fun d=>d = xS e.g e.t (restX (inL x S') e.t 5 a)) ?_
  refine Spec.by Tryz.func149 rfl (by decide) (by decide +kernel) rfl ?_
  refine goA ?_
  refine Call.mk ((hs).only _ rfl (by rintro d rfl; rfl)) ?_; rintro d os' ⟨rfl,rfl⟩
  refine goA ?_
  refine Call.mk ((rest146x (g:=e.g) (u:=e.t) (x:=inL x S') h.tl htl 5 a).only _ rfl (by rintro d rfl; rfl)) ?_; rintro d os' ⟨rfl,rfl⟩
  refine goA ?_
  refine Ret.mk [.cell 6 142] rfl ?_; (refine goA ?_)
  exact ⟨_,.same _,rfl,rfl⟩
theorem up149 {e:En} {x:Xs} (h:EO e x) (hb:EB e) {a:Nat} (ha:a < e.ns) (hn:0≤(upS x.C.L a).2→(upS x.C.L a).2.toNat < x.C.th.length):Spec Tryz.prog 149 [xS e.g e.t x,.int .i64 12,.int .i64 a] [] (fun d os'=>d = xS e.g e.t (upX x a)∧os' = []):=by
 have hs:=up173 (C:=x.C) h.L h.N hb.b a ha
 unfold upX
 dsimp only
 rw [Int.toNat_natCast]
 obtain ⟨⟨S',t'⟩,hT⟩:∃ r,upS x.C.L a = r:=⟨_,rfl⟩
 rw [hT] at hs hn ⊢
 dsimp only at hs hn ⊢
 refine Spec.frz (post':=fun d=>d = xS e.g e.t (wakeF (inL x S') t' [])) ?_
 refine Spec.by Tryz.func149 rfl (by decide) (by decide +kernel) rfl ?_
 refine goA ?_
 refine Call.mk ((hs).only _ rfl (by rintro d rfl; rfl)) ?_; rintro d os' ⟨rfl,rfl⟩
 refine goA ?_
 refine Call.mk ((wakeN199 (g:=e.g) (u:=e.t) (xb_inL h.xb S') (by omega) (by omega) hn).only _ rfl (by rintro d rfl; rfl)) ?_; rintro d os' ⟨rfl,rfl⟩
 refine goA ?_
 refine Ret.mk [.cell 6 142] rfl ?_; (refine goA ?_)
 exact ⟨_,.same _,rfl,rfl⟩
theorem join147 {e:En} {x:Xs} (h:EO e x) (v:Int):Spec Tryz.prog 147 [xS e.g e.t x,.int .i64 v] [] (fun d os'=>d = xS e.g e.t (joinX x e.t v)∧os' = []):=by
 have hm:(x.C.th.map thD).length = x.C.th.length:=List.length_map ..
 have htl:=h.xb.tl
 have he:=end_allR e.g e.t 100 x e.t 5 1000 1000 h.xb (by omega) (by omega) h.tl
 rw [show endX 100 x e.t 5 = endF x e.t 5 from rfl] at he
 unfold joinX
 by_cases hc:v < 0∨(x.C.th.length:Int)≤v∨v = (e.t:Int)
 ·rw [if_pos hc]
  refine Spec.frz (post':=fun d=>d = xS e.g e.t (endF x e.t 5)) ?_
  refine Spec.by Tryz.func147 rfl (by decide) (by decide +kernel) rfl ?_
  refine goA ?_
  refine Br.dec (fun h1=>?_) (fun h1=>?_)
  ·refine goA ?_
   refine Call.mk ((he).only _ rfl (by rintro d rfl; rfl)) ?_; rintro d os' ⟨rfl,rfl⟩
   refine goA ?_
   refine Ret.mk [.cell 4 142] rfl ?_; (refine goA ?_)
   exact ⟨_,.same _,rfl,rfl⟩
  ·refine goA ?_
   refine Br.dec (fun h2=>?_) (fun h2=>?_)
   ·refine goA ?_
    refine Call.mk ((he).only _ rfl (by rintro d rfl; rfl)) ?_; rintro d os' ⟨rfl,rfl⟩
    refine goA ?_
    refine Ret.mk [.cell 4 142] rfl ?_; (refine goA ?_)
    exact ⟨_,.same _,rfl,rfl⟩
   ·have h3:v = (e.t:Int):=by omega
    refine goA ?_
    refine Call.mk ((he).only _ rfl (by rintro d rfl; rfl)) ?_; rintro d os' ⟨rfl,rfl⟩
    refine goA ?_
    refine Ret.mk [.cell 4 142] rfl ?_; (refine goA ?_)
    exact ⟨_,.same _,rfl,rfl⟩
 ·rw [if_neg hc]
  have c1:¬ v < 0:=fun h=>hc (.inl h)
  have c2:¬ (x.C.th.length:Int)≤v:=fun h=>hc (.inr (.inl h))
  have c3:¬ v = (e.t:Int):=fun h=>hc (.inr (.inr h))
  obtain ⟨k,rfl⟩:∃ k:Nat,v = (k:Int):=⟨v.toNat,by omega⟩
  rw [Int.toNat_natCast]
  have hgk:=th_at0 (C:=x.C) (t:=k) (by omega)
  by_cases h9:(thAt x.C k).st = 9
  ·rw [if_pos h9]
   refine Spec.frz (post':=fun d=>d = xS e.g e.t (tellF x e.t [(thAt x.C k).code])) ?_
   refine Spec.by Tryz.func147 rfl (by decide) (by decide +kernel) rfl ?_
   refine goA ?_
   refine Opt.of hgk ?_
   refine goA ?_
   refine Opt.of hgk ?_
   refine goA ?_
   refine App.only false rfl rfl ?_
   refine goA ?_
   refine Call.mk ((tellF200 (g:=e.g) (u:=e.t) h.xb (by omega) (by omega) h.tl [(thAt x.C k).code] (by simp)).only _ rfl (by rintro d rfl; rfl)) ?_; rintro d os' ⟨rfl,rfl⟩
   refine goA ?_
   refine Ret.mk [.cell 4 142] rfl ?_; (refine goA ?_)
   exact ⟨_,.same _,rfl,rfl⟩
  ·rw [if_neg h9]
   refine Spec.frz (post':=fun d=>d = xS e.g e.t (restX x e.t 2 k)) ?_
   refine Spec.by Tryz.func147 rfl (by decide) (by decide +kernel) rfl ?_
   refine goA ?_
   refine Opt.of hgk ?_
   refine goA ?_
   refine Call.mk ((rest146x (g:=e.g) (u:=e.t) (x:=x) h.tl htl 2 k).only _ rfl (by rintro d rfl; rfl)) ?_; rintro d os' ⟨rfl,rfl⟩
   refine goA ?_
   refine Ret.mk [.cell 4 142] rfl ?_; (refine goA ?_)
   exact ⟨_,.same _,rfl,rfl⟩
theorem endF144 {e:En} {x:Xs} (h:EO e x) (c:Int):Spec Tryz.prog 144 [xS e.g e.t x,.int .i64 e.t,.int .i64 c] [] (fun d os'=>d = xS e.g e.t (endF x e.t c)∧os' = []) :=
 end_allR e.g e.t 100 x e.t c 1000 1000 h.xb (by omega) (by omega) h.tl
theorem lock148 {e:En} {x:Xs} (h:EO e x) (hb:EB e) {a:Nat} (ha:a < e.nm):Spec Tryz.prog 148 [xS e.g e.t x,.int .i64 6,.int .i64 a] [] (fun d os'=>d = xS e.g e.t (lockX x e.t a)∧os' = []):=by
 have htl:=h.xb.tl
 have hs:=lock213 (C:=x.C) h.L h.N hb.b a ha e.t
 unfold lockX
 dsimp only
 rw [Int.toNat_natCast]
 obtain ⟨⟨S',b⟩,hT⟩:∃ r,lockS x.C.L a e.t = r:=⟨_,rfl⟩
 rw [hT] at hs ⊢
 dsimp only at hs ⊢
 cases b with
 | true =>
  refine Spec.frz (post':=fun d=>d = xS e.g e.t (inL x S')) ?_
  refine Spec.by Tryz.func148 rfl (by decide) (by decide +kernel) rfl ?_
  refine goA ?_
  refine Call.mk ((hs).only _ rfl (by rintro d rfl; rfl)) ?_; rintro d os' ⟨rfl,rfl⟩
  refine goA ?_
  refine Ret.mk [.cell 6 142] rfl ?_; (refine goA ?_)
  exact ⟨_,.same _,rfl,rfl⟩
 | false =>
  refine Spec.frz (post':=fun d=>d = xS e.g e.t (restX (inL x S') e.t 3 a)) ?_
  refine Spec.by Tryz.func148 rfl (by decide) (by decide +kernel) rfl ?_
  refine goA ?_
  refine Call.mk ((hs).only _ rfl (by rintro d rfl; rfl)) ?_; rintro d os' ⟨rfl,rfl⟩
  refine goA ?_
  refine Call.mk ((rest146x (g:=e.g) (u:=e.t) (x:=inL x S') h.tl htl 3 a).only _ rfl (by rintro d rfl; rfl)) ?_; rintro d os' ⟨rfl,rfl⟩
  refine goA ?_
  refine Ret.mk [.cell 6 142] rfl ?_; (refine goA ?_)
  exact ⟨_,.same _,rfl,rfl⟩
theorem unlock148 {e:En} {x:Xs} (h:EO e x) (hb:EB e) {a:Nat} (ha:a < e.nm) (hn:0≤(unlockS x.C.L a e.t).2.1→(unlockS x.C.L a e.t).2.1.toNat < x.C.th.length):Spec Tryz.prog 148 [xS e.g e.t x,.int .i64 7,.int .i64 a] [] (fun d os'=>d = xS e.g e.t (unlockX x e.t a)∧os' = []):=by
 have hs:=unlock214 (C:=x.C) h.L hb.b a ha e.t
 unfold unlockX
 dsimp only
 rw [Int.toNat_natCast]
 obtain ⟨⟨S',t',er⟩,hT⟩:∃ r,unlockS x.C.L a e.t = r:=⟨_,rfl⟩
 rw [hT] at hs hn ⊢
 dsimp only at hs hn ⊢
 by_cases he:er = 0
 ·rw [if_pos he]
  refine Spec.frz (post':=fun d=>d = xS e.g e.t (wakeF (inL x S') t' [])) ?_
  refine Spec.by Tryz.func148 rfl (by decide) (by decide +kernel) rfl ?_
  refine goA ?_
  refine Call.mk ((hs).only _ rfl (by rintro d rfl; rfl)) ?_; rintro d os' ⟨rfl,rfl⟩
  refine goA ?_
  refine Call.mk ((wakeN199 (g:=e.g) (u:=e.t) (xb_inL h.xb S') (by omega) (by omega) hn).only _ rfl (by rintro d rfl; rfl)) ?_; rintro d os' ⟨rfl,rfl⟩
  refine goA ?_
  refine Ret.mk [.cell 6 142] rfl ?_; (refine goA ?_)
  exact ⟨_,.same _,rfl,rfl⟩
 ·rw [if_neg he]
  refine Spec.frz (post':=fun d=>d = xS e.g e.t (endF x e.t 4)) ?_
  refine Spec.by Tryz.func148 rfl (by decide) (by decide +kernel) rfl ?_
  refine goA ?_
  refine Call.mk ((hs).only _ rfl (by rintro d rfl; rfl)) ?_; rintro d os' ⟨rfl,rfl⟩
  refine goA ?_
  refine Call.mk ((endF144 h 4).only _ rfl (by rintro d rfl; rfl)) ?_; rintro d os' ⟨rfl,rfl⟩
  refine goA ?_
  refine Ret.mk [.cell 6 142] rfl ?_; (refine goA ?_)
  exact ⟨_,.same _,rfl,rfl⟩
theorem wait148 {e:En} {x:Xs} (h:EO e x) (hb:EB e) {a:Nat} (ha:a < e.nw) (hn:0≤(waitS x.C.L a (e.g.co.getD a 0).toNat e.t).2.1→(waitS x.C.L a (e.g.co.getD a 0).toNat e.t).2.1.toNat < x.C.th.length):Spec Tryz.prog 148 [xS e.g e.t x,.int .i64 8,.int .i64 a] [] (fun d os'=>d = xS e.g e.t (waitX e.g x e.t a)∧os' = []):=by
 obtain ⟨m,hme,hml,hmg⟩:=co_at h (a:=a) (by omega)
 have hcm:(e.g.co.map (D.int .i64)).length = e.g.co.length:=List.length_map ..
 have hnw:=h.nw
 have htl:=h.xb.tl
 rw [hme,Int.toNat_natCast] at hn
 have hs:=wait215 (C:=x.C) h.L hb.b a m ha hml e.t
 unfold waitX
 dsimp only
 rw [Int.toNat_natCast,hme,Int.toNat_natCast]
 obtain ⟨⟨S',t',er⟩,hT⟩:∃ r,waitS x.C.L a m e.t = r:=⟨_,rfl⟩
 rw [hT] at hs hn ⊢
 dsimp only at hs hn ⊢
 by_cases he:er = 0
 ·rw [if_pos he]
  refine Spec.frz (post':=fun d=>d = xS e.g e.t (restX (wakeF (inL x S') t' []) e.t 4 a)) ?_
  refine Spec.by Tryz.func148 rfl (by decide) (by decide +kernel) rfl ?_
  refine goA ?_
  refine Opt.of hmg ?_
  refine goA ?_
  refine Call.mk ((hs).only _ rfl (by rintro d rfl; rfl)) ?_; rintro d os' ⟨rfl,rfl⟩
  refine goA ?_
  refine Call.mk ((wakeN199 (g:=e.g) (u:=e.t) (xb_inL h.xb S') (by omega) (by omega) hn).only _ rfl (by rintro d rfl; rfl)) ?_; rintro d os' ⟨rfl,rfl⟩
  refine goA ?_
  refine Call.mk ((rest146x (g:=e.g) (u:=e.t) (x:=wakeF (inL x S') t' []) (by rw [wakeF_len]; exact h.tl) (by rw [wakeF_len]; exact htl) 4 a).only _ rfl (by rintro d rfl; rfl)) ?_; rintro d os' ⟨rfl,rfl⟩
  refine goA ?_
  refine Ret.mk [.cell 6 142] rfl ?_; (refine goA ?_)
  exact ⟨_,.same _,rfl,rfl⟩
 ·rw [if_neg he]
  refine Spec.frz (post':=fun d=>d = xS e.g e.t (endF x e.t 4)) ?_
  refine Spec.by Tryz.func148 rfl (by decide) (by decide +kernel) rfl ?_
  refine goA ?_
  refine Opt.of hmg ?_
  refine goA ?_
  refine Call.mk ((hs).only _ rfl (by rintro d rfl; rfl)) ?_; rintro d os' ⟨rfl,rfl⟩
  refine goA ?_
  refine Call.mk ((endF144 h 4).only _ rfl (by rintro d rfl; rfl)) ?_; rintro d os' ⟨rfl,rfl⟩
  refine goA ?_
  refine Ret.mk [.cell 6 142] rfl ?_; (refine goA ?_)
  exact ⟨_,.same _,rfl,rfl⟩
theorem signal148 {e:En} {x:Xs} (h:EO e x) (hb:EB e) {a:Nat} (ha:a < e.nw) (hn:∀ v ∈ qAt x.C.L.wq a,0≤v∧v.toNat < x.C.th.length):Spec Tryz.prog 148 [xS e.g e.t x,.int .i64 9,.int .i64 a] [] (fun d os'=>d = xS e.g e.t (signalX e.g x a)∧os' = []):=by
 obtain ⟨m,hme,hml,hmg⟩:=co_at h (a:=a) (by omega)
 have hcm:(e.g.co.map (D.int .i64)).length = e.g.co.length:=List.length_map ..
 have hnw:=h.nw
 have htl:=h.xb.tl
 have hwl:=h.L.wq
 have hwm:(x.C.L.wq.map ints).length = x.C.L.wq.length:=List.length_map ..
 have hg:=lstC_at x.C.L.wq a (by omega)
 have hs:=signal216 (C:=x.C) h.L h.N hb.b a m ha hml
 unfold signalX
 dsimp only
 rw [Int.toNat_natCast,hme,Int.toNat_natCast]
 cases hq:qAt x.C.L.wq a with
 | nil =>
  have e1:signalS x.C.L a m = (x.C.L,-1,false):=by unfold signalS; rw [hq]
  rw [hq] at hg
  rw [e1,if_pos (show (-1:Int) < 0 by decide)]
  refine Spec.frz (post':=fun d=>d = xS e.g e.t x) ?_
  refine Spec.by Tryz.func148 rfl (by decide) (by decide +kernel) rfl ?_
  refine goA ?_
  refine Opt.of hmg ?_
  refine goA ?_
  refine Loop.inv (A:=Unit) (List.range 127) (fun _=>[(1,.int .i64 9),(2,.int .i64 a),(3,.ptr 0 0 20 0 0),(6,.ptr 1 0 20 0 0),(12,.int .i64 m)]) (fun _=>[one (.row 142 20 false [xS e.g e.t x]),one (.row 142 20 false [zX])]) (fun _=>True) (fun _=>0) () trivial ?_ ?_
  ·exact Weak.start' rfl rfl tld
  rintro ⟨⟩ _
  refine goA ?_
  refine Opt.of hg ?_
  refine goA ?_
  refine Ret.mk [.cell 6 142] rfl ?_; (refine goA ?_)
  exact ⟨_,.same _,rfl,rfl⟩
 | cons t q =>
  have hne:=hn t (by rw [hq]; simp)
  obtain ⟨k1,k2⟩:=signal_wq h.L h.N ha hml hq
  rw [hq] at hg
  obtain ⟨⟨S',t',has⟩,hT⟩:∃ r,signalS x.C.L a m = r:=⟨_,rfl⟩
  rw [hT] at hs k2 ⊢
  dsimp only at hs k2 ⊢
  subst k2
  rw [if_neg (by omega)]
  have hqm:((t' :: q).map (D.int .i64)).length = q.length+1:=by rw [List.length_map]; rfl
  cases has with
  | true =>
   rw [show movedX (inL x S') t' m true = wakeF (inL x S') t' [] from if_pos rfl]
   refine Spec.frz (post':=fun d=>d = xS e.g e.t (wakeF (inL x S') t' [])) ?_
   refine Spec.by Tryz.func148 rfl (by decide) (by decide +kernel) rfl ?_
   refine goA ?_
   refine Opt.of hmg ?_
   refine goA ?_
   refine Loop.inv (A:=Unit) (List.range 127) (fun _=>[(1,.int .i64 9),(2,.int .i64 a),(3,.ptr 0 0 20 0 0),(6,.ptr 1 0 20 0 0),(12,.int .i64 m)]) (fun _=>[one (.row 142 20 false [xS e.g e.t x]),one (.row 142 20 false [zX])]) (fun _=>True) (fun _=>0) () trivial ?_ ?_
   ·exact Weak.start' rfl rfl tld
   rintro ⟨⟩ _
   refine goA ?_
   refine Opt.of hg ?_
   refine goA ?_
   refine Call.mk ((hs).only _ rfl (by rintro d rfl; rfl)) ?_; rintro d os' ⟨rfl,rfl⟩
   refine goA ?_
   refine Call.mk ((wakeN199 (g:=e.g) (u:=e.t) (xb_inL h.xb S') (by omega) (by omega) (fun _=>hne.2)).only _ rfl (by rintro d rfl; rfl)) ?_; rintro d os' ⟨rfl,rfl⟩
   refine goA ?_
   refine Ret.mk [.cell 6 142] rfl ?_; (refine goA ?_)
   exact ⟨_,.same _,rfl,rfl⟩
  | false =>
   rw [show movedX (inL x S') t' m false = restX (inL x S') t'.toNat 3 m from if_neg Bool.false_ne_true]
   obtain ⟨k,rfl⟩:∃ k:Nat,t' = (k:Int):=⟨t'.toNat,by omega⟩
   rw [Int.toNat_natCast] at hne ⊢
   refine Spec.frz (post':=fun d=>d = xS e.g e.t (restX (inL x S') k 3 m)) ?_
   refine Spec.by Tryz.func148 rfl (by decide) (by decide +kernel) rfl ?_
   refine goA ?_
   refine Opt.of hmg ?_
   refine goA ?_
   refine Loop.inv (A:=Unit) (List.range 127) (fun _=>[(1,.int .i64 9),(2,.int .i64 a),(3,.ptr 0 0 20 0 0),(6,.ptr 1 0 20 0 0),(12,.int .i64 m)]) (fun _=>[one (.row 142 20 false [xS e.g e.t x]),one (.row 142 20 false [zX])]) (fun _=>True) (fun _=>0) () trivial ?_ ?_
   ·exact Weak.start' rfl rfl tld
   rintro ⟨⟩ _
   refine goA ?_
   refine Opt.of hg ?_
   refine goA ?_
   refine Call.mk ((hs).only _ rfl (by rintro d rfl; rfl)) ?_; rintro d os' ⟨rfl,rfl⟩
   refine goA ?_
   refine Call.mk ((rest146x (g:=e.g) (u:=e.t) (x:=inL x S') (t:=k) hne.2 htl 3 m).only _ rfl (by rintro d rfl; rfl)) ?_; rintro d os' ⟨rfl,rfl⟩
   refine goA ?_
   refine Ret.mk [.cell 6 142] rfl ?_; (refine goA ?_)
   exact ⟨_,.same _,rfl,rfl⟩
def broadI (g:Pg) (a:Nat):Nat→Xs→Xs
 | 0,x=>x
 | n+1,x=>broadI g a n (signalX g x a)
theorem broad148 {e:En} {x:Xs} (h:EO e x) (hb:EB e) {a:Nat} (ha:a < e.nw) (hn:∀ v ∈ qAt x.C.L.wq a,0≤v∧v.toNat < x.C.th.length):Spec Tryz.prog 148 [xS e.g e.t x,.int .i64 10,.int .i64 a] [] (fun d os'=>d = xS e.g e.t (broadI e.g a (qAt x.C.L.wq a).length x)∧os' = []):=by
 obtain ⟨m,hme,hml,hmg⟩:=co_at h (a:=a) (by omega)
 have hcm:(e.g.co.map (D.int .i64)).length = e.g.co.length:=List.length_map ..
 have hnw:=h.nw
 have htl:=h.xb.tl
 have hql:(qAt x.C.L.wq a).length≤1000:=h.L.l2 _ (qAt_mem (by have:=h.L.wq; omega))
 obtain ⟨R,hR⟩:∃ R,broadI e.g a (qAt x.C.L.wq a).length x = R:=⟨_,rfl⟩
 rw [hR]
 refine Spec.frz (post':=fun d=>d = xS e.g e.t R) ?_
 refine Spec.by Tryz.func148 rfl (by decide) (by decide +kernel) rfl ?_
 refine goA ?_
 refine Opt.of hmg ?_
 refine goA ?_
 refine Loop.inv (A:=Xs) (List.range 127) (fun _=>[(1,.int .i64 10),(2,.int .i64 a),(3,.ptr 0 0 20 0 0),(6,.ptr 1 0 20 0 0),(12,.int .i64 m)]) (fun y=>[one (.row 142 20 false [xS e.g e.t y]),one (.row 142 20 false [zX])]) (fun y=>broadI e.g a (qAt y.C.L.wq a).length y = R∧XB 100 (2000 - (qAt y.C.L.wq a).length) (2000 - (qAt y.C.L.wq a).length) y∧LkL e.nm e.nw e.ns y.C.L∧LkN y.C.L∧y.C.th.length = x.C.th.length∧(∀ v ∈ qAt y.C.L.wq a,0≤v∧v.toNat < x.C.th.length)∧(qAt y.C.L.wq a).length≤1000) (fun y=>(qAt y.C.L.wq a).length) x ⟨hR,h.xb.le (by omega) (by omega),h.L,h.N,rfl,hn,hql⟩ ?_ ?_
 ·exact Weak.start' rfl rfl tld
 rintro y ⟨hy,hxb,hL,hN,hyl,hyn,hyq⟩
 dsimp only at hy hxb hL hN hyl hyn hyq ⊢
 have hwl:=hL.wq
 have hwm:(y.C.L.wq.map ints).length = y.C.L.wq.length:=List.length_map ..
 have hg:=lstC_at y.C.L.wq a (by omega)
 have hs:=signal216 (C:=y.C) hL hN hb.b a m ha hml
 cases hq:qAt y.C.L.wq a with
 | nil =>
  rw [hq] at hg hy
  have hyR:y = R:=hy
  refine goA ?_
  refine Opt.of hg ?_
  refine goA ?_
  refine Ret.mk [.cell 6 142] rfl ?_; (refine goA ?_)
  exact ⟨_,.same _,rfl,by rw [hyR]; rfl⟩
 | cons t q =>
  have hne:=hyn t (by rw [hq]; simp)
  obtain ⟨k1,k2⟩:=signal_wq hL hN ha hml hq
  obtain ⟨k3,k4⟩:=signal_ok hL hN ha hml
  have hsx:signalX e.g y a = movedX (inL y (signalS y.C.L a m).1) t m (signalS y.C.L a m).2.2:=by
   unfold signalX
   dsimp only
   rw [Int.toNat_natCast,hme,Int.toNat_natCast,k2,if_neg (by omega)]
  have hmr:=moved_rest (inL y (signalS y.C.L a m).1) t m (signalS y.C.L a m).2.2
  have hml2:=moved_len (inL y (signalS y.C.L a m).1) t m (signalS y.C.L a m).2.2
  rw [hq] at hg hy hyq hxb hyn
  rw [List.length_cons] at hxb hyq
  have hmx:=moved_xb (xb_inL hxb (signalS y.C.L a m).1) (t:=t) (by show t.toNat < y.C.th.length; rw [hyl]; exact hne.2) m (signalS y.C.L a m).2.2
  rw [List.length_cons,broadI,hsx] at hy
  obtain ⟨z,hz⟩:∃ z,movedX (inL y (signalS y.C.L a m).1) t m (signalS y.C.L a m).2.2 = z:=⟨_,rfl⟩
  rw [hz] at hy hmr hml2 hmx
  have hzL:z.C.L = (signalS y.C.L a m).1:=by rw [hmr]; rfl
  have hzq:qAt z.C.L.wq a = q:=by rw [hzL]; exact k1
  have hzl:z.C.th.length = x.C.th.length:=by rw [hml2]; exact hyl
  have hqm:((t :: q).map (D.int .i64)).length = q.length+1:=by rw [List.length_map]; rfl
  have hQ:broadI e.g a (qAt z.C.L.wq a).length z = R∧XB 100 (2000 - (qAt z.C.L.wq a).length) (2000 - (qAt z.C.L.wq a).length) z∧LkL e.nm e.nw e.ns z.C.L∧LkN z.C.L∧z.C.th.length = x.C.th.length∧(∀ v ∈ qAt z.C.L.wq a,0≤v∧v.toNat < x.C.th.length)∧(qAt z.C.L.wq a).length≤1000:=by
   refine ⟨by rw [hzq]; exact hy,by rw [hzq]; exact hmx.le (by omega) (by omega),by rw [hzL]; exact k3,by rw [hzL]; exact k4,hzl,by rw [hzq]; exact fun v hv=>hyn v (by simp [hv]),by rw [hzq]; omega⟩
  obtain ⟨⟨S',t',has⟩,hT⟩:∃ r,signalS y.C.L a m = r:=⟨_,rfl⟩
  rw [hT] at hs k2 hz
  dsimp only at hs k2 hz
  subst k2
  cases has with
  | true =>
   rw [show movedX (inL y S') t' m true = wakeF (inL y S') t' [] from if_pos rfl] at hz
   have hw:=wakeN199 (g:=e.g) (u:=e.t) (xb_inL hxb S') (by omega) (by omega) (t:=t') (fun _=>by show t'.toNat < y.C.th.length; rw [hyl]; exact hne.2)
   rw [hz] at hw
   refine goA ?_
   refine Opt.of hg ?_
   refine goA ?_
   refine Call.mk ((hs).only _ rfl (by rintro d rfl; rfl)) ?_; rintro d os' ⟨rfl,rfl⟩
   refine goA ?_
   refine Call.mk ((hw).only _ rfl (by rintro d rfl; rfl)) ?_; rintro d os' ⟨rfl,rfl⟩
   refine goA ?_
   refine ⟨_,_,_,?_,⟨z,?_,rfl,rfl,rfl⟩,?_⟩
   ·rw [hzq,List.length_cons]; omega
   ·exact hQ
   ·refine Weak.backT 2 (by simp) (by first | rfl | kernel_rfl) (by kernel_rfl) (bl rfl) tld (by kernel_rfl) (by kernel_rfl)
  | false =>
   rw [show movedX (inL y S') t' m false = restX (inL y S') t'.toNat 3 m from if_neg Bool.false_ne_true] at hz
   obtain ⟨k,rfl⟩:∃ k:Nat,t' = (k:Int):=⟨t'.toNat,by omega⟩
   rw [Int.toNat_natCast] at hne hz
   have hw:=rest146x (g:=e.g) (u:=e.t) (x:=inL y S') (t:=k) (by show k < y.C.th.length; rw [hyl]; exact hne.2) (by show y.C.th.length≤100; rw [hyl]; exact htl) 3 m
   rw [hz] at hw
   refine goA ?_
   refine Opt.of hg ?_
   refine goA ?_
   refine Call.mk ((hs).only _ rfl (by rintro d rfl; rfl)) ?_; rintro d os' ⟨rfl,rfl⟩
   refine goA ?_
   refine Call.mk ((hw).only _ rfl (by rintro d rfl; rfl)) ?_; rintro d os' ⟨rfl,rfl⟩
   refine goA ?_
   refine ⟨_,_,_,?_,⟨z,?_,rfl,rfl,rfl⟩,?_⟩
   ·rw [hzq,List.length_cons]; omega
   ·exact hQ
   ·refine Weak.backT 2 (by simp) (by first | rfl | kernel_rfl) (by kernel_rfl) (bl rfl) tld (by kernel_rfl) (by kernel_rfl)
def fmK (b:Nat):Nat→List (List Int)→List D
 | _,[]=>[]
 | k,L :: A=>.sl b k 1 0 L.length none :: fmK b (k+1) A
def fmC (A:List (List Int)) (k:Nat):List D:=(qAt A k).map (D.int .i64)
theorem fmK_length (b:Nat):∀ (k:Nat) (A:List (List Int)),(fmK b k A).length = A.length
 | _,[]=>rfl
 | k,L :: A=>by simp [fmK,fmK_length b (k+1) A]
theorem fmK_get (b:Nat):∀ (k:Nat) (A:List (List Int)) (i:Nat),(fmK b k A)[i]? = (A[i]?).map (fun L=>D.sl b (k+i) 1 0 L.length none)
 | _,[],i=>by simp [fmK]
 | k,L :: A,0=>by simp [fmK]
 | k,L :: A,i+1=>by simp only [fmK,List.getElem?_cons_succ,fmK_get b (k+1) A i]; rw [Nat.add_right_comm,Nat.add_assoc]
theorem fmK_at (b:Nat) (A:List (List Int)) (m:Nat) (h:m < A.length):(fmK b 0 A)[0+m]? = some (.sl b m 1 0 (qAt A m).length none):=by
 rw [Nat.zero_add,fmK_get,qAt_get A m h,Nat.zero_add]; rfl
theorem fmK_snoc (b:Nat) (L:List Int):∀ (k:Nat) (A:List (List Int)),fmK b k (A ++ [L]) = fmK b k A ++ [.sl b (k+A.length) 1 0 L.length none]
 | _,[]=>rfl
 | k,M :: A=>by simp only [List.cons_append,fmK,fmK_snoc b L (k+1) A,List.length_cons]; rw [Nat.add_right_comm,Nat.add_assoc]
theorem fmK_lt (b n:Nat) (h:Nat.blt b n = true):∀ (k:Nat) (A:List (List Int)),D.ltL n (fmK b k A) = true
 | _,[]=>rfl
 | k,L :: A=>by simp [fmK,D.ltL,D.lt,h,fmK_lt b n h (k+1) A]
theorem fmK_names (b n:Nat) (h:Nat.beq b n = false):∀ (k:Nat) (A:List (List Int)),D.namesL n (fmK b k A) = false
 | _,[]=>rfl
 | k,L :: A=>by simp [fmK,D.namesL,D.names,h,fmK_names b n h (k+1) A]
theorem fmK_ren (b x y:Nat) (h:Nat.beq b x = false):∀ (k:Nat) (A:List (List Int)),D.renL x y (fmK b k A) = fmK b k A
 | _,[]=>rfl
 | k,L :: A=>by simp [fmK,D.renL,D.ren,h,fmK_ren b x y h (k+1) A]
theorem fmK_swp (b a n:Nat) (h:Nat.beq b a = false):∀ (k:Nat) (A:List (List Int)),k+A.length≤n→D.mapIdL (swp a b n) (fmK b k A) = fmK b k A
 | _,[],_=>rfl
 | k,L :: A,hl=>by
  have hk:k ≠ n:=by simp at hl; omega
  have e:swp a b n b k = (b,k):=swp_ne (fun e=>by rw [e.1,Nat.beq_refl] at h; simp at h) (fun e=>hk e.2)
  simp only [fmK,D.mapIdL,D.mapId,e,fmK_swp b a n h (k+1) A (by simp at hl; omega)]
theorem fmK_mapId (φ:Nat→Nat→Nat × Nat) (b c:Nat) (h:∀ j,φ b j = (c,j)):∀ (k:Nat) (A:List (List Int)),D.mapIdL φ (fmK b k A) = fmK c k A
 | _,[]=>rfl
 | k,L :: A=>by simp only [fmK,D.mapIdL,D.mapId,h,fmK_mapId φ b c h (k+1) A]
theorem qAt_app (A:List (List Int)) (L:List Int) (k:Nat):qAt (A ++ [L]) k = if k = A.length then L else qAt A k:=by
 unfold qAt
 rw [List.getD_eq_getElem?_getD,List.getD_eq_getElem?_getD]
 by_cases h:k = A.length
 ·subst h; simp
 ·rw [if_neg h]
  rcases Nat.lt_or_ge k A.length with hk | hk
  ·rw [List.getElem?_append_left hk]
  ·rw [List.getElem?_eq_none hk,List.getElem?_eq_none (by simp; omega)]
theorem fmC_snoc (A:List (List Int)) (L:List Int):(fun k=>bif Nat.beq k A.length then L.map (D.int .i64) else fmC A k) = fmC (A ++ [L]):=by
 funext k
 unfold fmC
 rw [qAt_app]
 by_cases h:k = A.length
 ·subst h; rw [Nat.beq_refl,if_pos rfl]; rfl
 ·rw [beq_ne h,if_neg h]; rfl
theorem lists231f (A:List (List Int)) (hA:A.length≤1000) (hl:∀ L ∈ A,L.length≤1000):Spec Tryz.prog 69 [lists A] [] (fun d os'=>d = .sl 0 0 1 0 A.length none∧os' = [one (.row 23 1 false (fmK 1 0 A)),.rows 3 1 (fmC A)]):=by
 have hAm:(A.map ints).length = A.length:=List.length_map ..
 refine Spec.by Tryz.func69 rfl (by decide) (by decide +kernel) rfl ?_
 refine goR ?_
 ((with_reducible refine Pt.go ?_); conv=>whnf)
 refine goR ?_
 ((with_reducible refine Pt.go ?_); conv=>whnf)
 refine goR ?_
 refine Pt.weak (Weak.trans (Weak.trans (Weak.only [(0,lists A),(3,.nils)] [] (by kernel_rfl) tld) (Weak.nilrow 3 rfl 23 1 false)) (Weak.rows 3 1)) ?_
 refine goA ?_
 refine Loop.inv (A:=Nat) (List.range 20) (fun i=>[(0,lists A),(3,.sl 0 0 1 0 i none),(4,.int .i64 (i:Int))]) (fun i=>[one (.row 23 1 false (fmK 1 0 (A.take i))),.rows 3 1 (fmC (A.take i))]) (fun i=>i≤A.length) (fun i=>A.length - i) 0 (Nat.zero_le _) ?_ ?_
 ·exact Weak.start' rfl rfl tld
 rintro i hi
 have hlt:(fmK 1 0 (A.take i)).length = i:=by rw [fmK_length,List.length_take]; omega
 have hti:(A.take i).length = i:=by rw [List.length_take]; omega
 refine goA ?_
 refine Br.dec (fun h0=>?_) (fun h0=>?_)
 ·have hil:i < A.length:=by omega
  have hget:A[i]? = some A[i]:=List.getElem?_eq_getElem hil
  have hlen:=hl A[i] (List.getElem_mem _)
  obtain ⟨L,hLe⟩:∃ L,A[i] = L:=⟨_,rfl⟩
  rw [hLe] at hlen hget
  have hsn:A.take (i+1) = A.take i ++ [L]:=by rw [List.take_add_one,hget]; rfl
  refine goA ?_
  refine Opt.of (get_map hget) ?_
  refine goA ?_
  refine Call.mk ((own230 L (by omega)).onto _ rfl) ?_
  rintro d os' ⟨d0,os0,⟨rfl,rfl⟩,rfl,rfl⟩
  refine goA ?_
  refine App.own ?_
  refine goA ?_
  refine ⟨_,_,_,?_,⟨i+1,?_,rfl,rfl,rfl⟩,?_⟩
  ·show A.length - (i+1) < A.length - i; omega
  ·exact hil
  ·rw [hsn]
   obtain ⟨T,hT⟩:∃ T,A.take i = T:=⟨_,rfl⟩
   rw [hT] at hti
   rw [hT]
   have hfl:(fmK 1 0 T).length = i:=by rw [fmK_length,hti]
   refine Weak.trans (Weak.only [(0,lists A),(3,.sl 4 0 1 0 (i+1) none),(4,.int .i64 ((i:Int)+1))] [one .gone,.rows 3 1 (fmC T),rowI L,one (.row 23 1 false [.sl 2 0 1 0 L.length none]),one (.row 23 1 false (fmK 1 0 T ++ [.sl 2 0 1 0 L.length none]))] (by kernel_rfl) tld) ?_
   refine Weak.trans (Weak.swap 2 1 T.length (by decide) (by simp) (by simp) (bl rfl) (bl rfl) (fun j=>rfl)) ?_
   refine Weak.trans (Weak.objs (os':=[one .gone,.rows 3 1 (fmC (T ++ [L])),one (.row 3 1 true (fmC T T.length)),one (.row 23 1 false [.sl 1 T.length 1 0 L.length none]),one (.row 23 1 false (fmK 1 0 (T ++ [L])))]) ?_) ?_
   ·have e1:D.mapIdL (swp 2 1 T.length) (fmK 1 0 T ++ [D.sl 2 0 1 0 L.length none]) = fmK 1 0 (T ++ [L]):=by
     rw [mapIdL_append,fmK_swp 1 2 _ rfl 0 T (by omega),fmK_snoc,Nat.zero_add]
     rfl
    rw [← fmC_snoc T L]
    exact congrArg (fun r=>([one .gone,.rows 3 1 (fun k=>bif Nat.beq k T.length then L.map (D.int .i64) else fmC T k),one (.row 3 1 true (fmC T T.length)),one (.row 23 1 false [.sl 1 T.length 1 0 L.length none]),one (.row 23 1 false r)]:Objs)) e1
   refine Weak.trans (Weak.shift 4 0 (by decide) (by simp) (bl rfl) (bl rfl) (fun j=>by cases j <;> rfl) (by simp [Fam.names,O.names,D.namesL,D.names,fmK_names 1 0 (by decide)] <;> decide)) ?_
   refine Weak.trans (Weak.objs (os':=[one (.row 23 1 false (fmK 1 0 (T ++ [L]))),.rows 3 1 (fmC (T ++ [L])),one (.row 3 1 true (fmC T T.length)),one (.row 23 1 false [.sl 1 T.length 1 0 L.length none]),one .gone]) (congrArg (fun r=>([one (.row 23 1 false r),.rows 3 1 (fmC (T ++ [L])),one (.row 3 1 true (fmC T T.length)),one (.row 23 1 false [.sl 1 T.length 1 0 L.length none]),one .gone]:Objs)) (fmK_ren 1 4 0 rfl 0 _))) ?_
   exact Weak.backT 2 (by simp) (by first | rfl | kernel_rfl) (by simp [Fam.lt,O.lt,fmK_lt 1 2 (by decide)]) (bl rfl) tld (by kernel_rfl) (by kernel_rfl)
 ·obtain rfl:i = A.length:=by omega
  rw [List.take_length] at *
  refine goA ?_
  exact Ret.mk [.tmp _] rfl ⟨rfl,rfl⟩
@[reducible] def fmO (b:Nat) (A:List (List Int)) (r:Objs):Objs:=one (.row 23 1 false (fmK b 0 A)) :: .rows 3 1 (fmC A) :: r
theorem lists231fo (A:List (List Int)) (hA:A.length≤1000) (hl:∀ L ∈ A,L.length≤1000) (os:Objs):Spec Tryz.prog 69 [lists A] os (fun d os'=>d = .sl (os.length+0) 0 1 0 A.length none∧os' = os ++ fmO (os.length+1) A []):=by
 refine ((lists231f A hA hl).onto os rfl).mono ?_
 rintro d os' ⟨d1,os1,⟨rfl,rfl⟩,rfl,rfl⟩
 refine ⟨rfl,?_⟩
 show os ++ [one (.row 23 1 false (D.mapIdL (lead [] os.length) (fmK 1 0 A))),.rows 3 1 (fmC A)] = _
 rw [fmK_mapId (lead [] os.length) 1 (os.length+1) (fun j=>rfl)]
structure ChB (C:Cr):Prop where
 b:C.bu.length≤1000
 s:C.sq.length≤1000
 r:C.rq.length≤1000
 lb:∀ L ∈ C.bu,L.length≤900
 ls:∀ L ∈ C.sq,L.length≤900
 lr:∀ L ∈ C.rq,L.length≤900
@[reducible] def coreF (C:Cr) (b s r:D):D:=.agg [.int .i64 C.now,ths C.th,ints C.L.ow,ints C.L.co,b,lists C.L.lk,lists C.L.wq,lists C.L.dq,s,r]
theorem own233f {C:Cr} (h:ChB C):Spec Tryz.prog 233 [coreV C] [] (fun d os'=>d = coreF C (.sl 2 0 1 0 C.bu.length none) (.sl 4 0 1 0 C.sq.length none) (.sl 6 0 1 0 C.rq.length none)∧os' = one .gone :: one .gone :: fmO 3 C.bu (fmO 5 C.sq (fmO 7 C.rq []))):=by
 refine Spec.weak (post:=fun d os'=>d = coreF C (.sl 2 0 1 0 C.bu.length none) (.sl 4 0 1 0 C.sq.length none) (.sl 6 0 1 0 C.rq.length none)∧∃ a b:Fam,os' = a :: b :: fmO 3 C.bu (fmO 5 C.sq (fmO 7 C.rq []))) ?_ ?_
 ·refine Spec.by Tryz.func233 rfl (by decide) (by decide +kernel) rfl ?_
  refine goA ?_
  refine Call.mk (lists231fo C.bu h.b (fun L hL=>by have:=h.lb L hL; omega) _) ?_
  rintro d os' ⟨rfl,rfl⟩
  refine goA ?_
  refine Call.mk (lists231fo C.sq h.s (fun L hL=>by have:=h.ls L hL; omega) _) ?_
  rintro d os' ⟨rfl,rfl⟩
  refine goA ?_
  refine Call.mk (lists231fo C.rq h.r (fun L hL=>by have:=h.lr L hL; omega) _) ?_
  rintro d os' ⟨rfl,rfl⟩
  refine goA ?_
  refine Ret.mk [.cell 2 30] rfl ?_; (refine goA ?_)
  exact ⟨_,_,rfl⟩
 ·rintro d os' ⟨rfl,a,b,rfl⟩
  exact ⟨_,_,Weak.frzK (fun i=>Nat.blt i 2) [] trivial,rfl,rfl⟩
theorem own233fo {C:Cr} (h:ChB C) (os:Objs):Spec Tryz.prog 233 [coreV C] os (fun d os'=>d = coreF C (.sl (os.length+2) 0 1 0 C.bu.length none) (.sl (os.length+4) 0 1 0 C.sq.length none) (.sl (os.length+6) 0 1 0 C.rq.length none)∧os' = os ++ one .gone :: one .gone :: fmO (os.length+3) C.bu (fmO (os.length+5) C.sq (fmO (os.length+7) C.rq []))):=by
 refine ((own233f h).onto os rfl).mono ?_
 rintro d os' ⟨d1,os1,⟨rfl,rfl⟩,rfl,rfl⟩
 refine ⟨rfl,?_⟩
 show os ++ [one .gone,one .gone,one (.row 23 1 false (D.mapIdL (lead [] os.length) (fmK 3 0 C.bu))),.rows 3 1 (fmC C.bu),one (.row 23 1 false (D.mapIdL (lead [] os.length) (fmK 5 0 C.sq))),.rows 3 1 (fmC C.sq),one (.row 23 1 false (D.mapIdL (lead [] os.length) (fmK 7 0 C.rq))),.rows 3 1 (fmC C.rq)] = _
 rw [fmK_mapId (lead [] os.length) 3 (os.length+3) (fun j=>rfl),fmK_mapId (lead [] os.length) 5 (os.length+5) (fun j=>rfl),fmK_mapId (lead [] os.length) 7 (os.length+7) (fun j=>rfl)]
theorem own233c {C:Cr} (h:ChB C) (os:Objs):Spec Tryz.prog 233 [coreV C] os (fun d os'=>d = coreF C (lists C.bu) (lists C.sq) (.sl (os.length+2) 0 1 0 C.rq.length none)∧os' = os ++ [one .gone,one .gone,rowC C.rq]):=by
 have h0:Spec Tryz.prog 233 [coreV C] [] (fun d os'=>d = coreF C (lists C.bu) (lists C.sq) (.sl 2 0 1 0 C.rq.length none)∧os' = [one .gone,one .gone,rowC C.rq]):=by
  refine Spec.weak (post:=fun d os'=>d = coreF C (lists C.bu) (lists C.sq) (.sl 2 0 1 0 C.rq.length none)∧∃ a b:Fam,os' = [a,b,rowC C.rq]) ?_ ?_
  ·refine Spec.by Tryz.func233 rfl (by decide) (by decide +kernel) rfl ?_
   refine goA ?_
   refine Call.mk ((lists231 C.bu h.b (fun L hL=>by have:=h.lb L hL; omega)).only _ rfl (by rintro d rfl; rfl)) ?_; rintro d os' ⟨rfl,rfl⟩
   refine goA ?_
   refine Call.mk ((lists231 C.sq h.s (fun L hL=>by have:=h.ls L hL; omega)).only _ rfl (by rintro d rfl; rfl)) ?_; rintro d os' ⟨rfl,rfl⟩
   refine goA ?_
   refine Call.mk ((lists231w C.rq h.r (fun L hL=>by have:=h.lr L hL; omega)).onto _ rfl) ?_
   rintro d os' ⟨d0,os0,⟨rfl,rfl⟩,rfl,rfl⟩
   refine goA ?_
   refine Ret.mk [.cell 2 30] rfl ?_; (refine goA ?_)
   exact ⟨_,_,rfl⟩
  ·rintro d os' ⟨rfl,a,b,rfl⟩
   exact ⟨_,_,Weak.frzK (fun i=>Nat.blt i 2) [] trivial,rfl,rfl⟩
 refine (h0.onto os rfl).mono ?_
 rintro d os' ⟨d1,os1,⟨rfl,rfl⟩,rfl,rfl⟩
 exact ⟨rfl,rfl⟩
theorem ready234 (C:Cr) (c:Nat) (hb:c < C.bu.length) (hs:c < C.sq.length):Spec Tryz.prog 234 [coreV C,.int .i64 c] [] (fun d os'=>d = .bool (canB C.bu C.sq c)∧os' = []):=by
 have hbm:(C.bu.map ints).length = C.bu.length:=List.length_map ..
 have hsm:(C.sq.map ints).length = C.sq.length:=List.length_map ..
 have hg1:(C.bu.map ints)[c]? = some (ints (qAt C.bu c)):=get_map (qAt_get _ _ hb)
 have hg2:(C.sq.map ints)[c]? = some (ints (qAt C.sq c)):=get_map (qAt_get _ _ hs)
 have hl1:((qAt C.bu c).map (D.int .i64)).length = (qAt C.bu c).length:=List.length_map ..
 have hl2:((qAt C.sq c).map (D.int .i64)).length = (qAt C.sq c).length:=List.length_map ..
 refine Spec.frz (post':=fun d=>d = .bool (canB C.bu C.sq c)) ?_
 refine Spec.by Tryz.func234 rfl (by decide) (by decide +kernel) rfl ?_
 refine goA ?_
 refine Opt.of hg1 ?_
 refine goA ?_
 refine Br.dec (fun h=>?_) (fun h=>?_)
 ·refine goA ?_
  refine Ret.mk [.tmp 4] rfl ?_; (refine goA ?_)
  refine ⟨_,.same _,rfl,?_⟩
  unfold canB
  rw [decide_eq_true (by omega)]
 ·refine goA ?_
  refine Opt.of hg2 ?_
  refine goA ?_
  refine Ret.mk [.tmp 4] rfl ?_; (refine goA ?_)
  refine ⟨_,.same _,rfl,?_⟩
  unfold canB
  refine congrArg D.bool (decide_eq_decide.2 ?_)
  omega
def outQ (t:Int) (q:List Int):List Int:=q.filter (fun v=>decide (v ≠ t))
theorem outQ_none {t:Int} {q:List Int} (h:∀ v ∈ q,decide (v ≠ t) = true):outQ t q = q:=List.filter_eq_self.2 h
def outI (t:Int) (R:List (List Int)) (i:Nat):List (List Int):=(R.take i).map (outQ t) ++ R.drop i
theorem outI_len (t:Int) (R:List (List Int)) (i:Nat):(outI t R i).length = R.length:=by
 unfold outI; rw [List.length_append,List.length_map,List.length_take,List.length_drop]; omega
theorem outI_get (t:Int) (R:List (List Int)) (i:Nat) (h:i < R.length):(outI t R i)[i]? = some R[i]:=by
 unfold outI
 rw [List.getElem?_append_right (by rw [List.length_map,List.length_take]; omega),List.length_map,List.length_take,List.getElem?_drop]
 rw [show i+(i - min i R.length) = i by omega,List.getElem?_eq_getElem h]
theorem outI_s (t:Int) (R:List (List Int)) (i:Nat) (h:i < R.length):outI t R (i+1) = (outI t R i).set i (outQ t R[i]):=by
 unfold outI
 rw [List.take_add_one,List.getElem?_eq_getElem h,List.map_append,List.set_append_right _ _ (by rw [List.length_map,List.length_take]; omega),List.length_map,List.length_take,show i - min i R.length = 0 by omega,List.drop_eq_getElem_cons h,List.set_cons_zero]
 simp
theorem outI_end (t:Int) (R:List (List Int)):outI t R R.length = cancelR R t:=by
 unfold outI cancelR
 rw [List.take_length,List.drop_length,List.append_nil]
 rfl
theorem outQ_s (t:Int) (q:List Int) (k:Nat) (h:k < q.length):outQ t (q.take (k+1)) = if q[k] = t then outQ t (q.take k) else outQ t (q.take k) ++ [q[k]]:=by
 unfold outQ
 rw [List.take_add_one,List.getElem?_eq_getElem h,List.filter_append]
 by_cases hc:q[k] = t
 ·rw [if_pos hc]; simp [hc]
 ·rw [if_neg hc]; simp [hc]
theorem outQ_len (t:Int) (q:List Int):(outQ t q).length≤q.length:=List.length_filter_le ..
@[reducible] def zC:D:=.agg [.int .i64 0,.nils,.nils,.nils,.nils,.nils,.nils,.nils,.nils,.nils]
@[reducible] def caO (C:Cr) (R:List (List Int)) (r:Objs):Objs:=one (.row 30 10 false [coreV C]) :: one (.row 30 10 false [zC]) :: one .gone :: one .gone :: rowC R :: one (.row 30 10 false [coreF C (lists C.bu) (lists C.sq) (.sl 4 0 1 0 C.rq.length none)]) :: r
theorem cancel232 {C:Cr} (h:ChB C) (t:Int):Spec Tryz.prog 232 [coreV C,.int .i64 t] [] (fun d os'=>(∃ b,d = .tup [coreV { C with rq:=cancelR C.rq t },.bool b])∧os' = []):=by
 have hrm:(C.rq.map ints).length = C.rq.length:=List.length_map ..
 have hrl:=h.r
 refine Spec.frz (post':=fun d=>∃ b,d = .tup [coreV { C with rq:=cancelR C.rq t },.bool b]) ?_
 refine Spec.by Tryz.func232 rfl (by decide) (by decide +kernel) rfl ?_
 refine goA ?_
 refine Call.mk (own233c h _) ?_
 rintro d os' ⟨rfl,rfl⟩
 refine goA ?_
 refine Loop.inv (A:=Nat × Bool) (List.range 58) (fun a=>[(1,.int .i64 t),(2,.ptr 0 0 10 0 0),(4,.ptr 1 0 10 0 0),(5,.bool false),(6,.ptr 5 0 10 0 0),(7,.bool a.2),(8,.int .i64 (a.1:Int))]) (fun a=>caO C (outI t C.rq a.1) []) (fun a=>a.1≤C.rq.length) (fun a=>C.rq.length - a.1) (0,false) (Nat.zero_le _) ?_ ?_
 ·exact Weak.start' rfl rfl tld
 rintro ⟨i,b⟩ hi
 dsimp only at hi ⊢
 refine goA ?_
 refine Br.dec (fun h0=>?_) (fun h0=>?_)
 ·have hil:i < C.rq.length:=by omega
  obtain ⟨q,hq⟩:∃ q,C.rq[i] = q:=⟨_,rfl⟩
  have hg:(C.rq.map ints)[i]? = some (ints q):=by rw [← hq]; exact get_map (List.getElem?_eq_getElem hil)
  have hql:q.length≤900:=by rw [← hq]; exact h.lr _ (List.getElem_mem _)
  have hqm:(q.map (D.int .i64)).length = q.length:=List.length_map ..
  have hs:=outI_s t C.rq i hil
  rw [hq] at hs
  have hom:((outI t C.rq i).map ints).length = C.rq.length:=by rw [List.length_map,outI_len]
  refine goA ?_
  refine Loop.inv (A:=Nat × Bool) (List.range 58) (fun a=>[(1,.int .i64 t),(2,.ptr 0 0 10 0 0),(4,.ptr 1 0 10 0 0),(5,.bool false),(6,.ptr 5 0 10 0 0),(7,.bool a.2),(8,.int .i64 (i:Int)),(9,.sl 6 0 1 0 (outQ t (q.take a.1)).length none),(10,.int .i64 (a.1:Int))]) (fun a=>caO C (outI t C.rq i) [rowI (outQ t (q.take a.1))]) (fun a=>a.1≤q.length) (fun a=>q.length - a.1) (0,b) (Nat.zero_le _) ?_ ?_
  ·refine Weak.trans (Weak.nilrow 9 rfl 3 1 true) ?_
   exact Weak.start' rfl rfl tld
  rintro ⟨k,b'⟩ hk
  dsimp only at hk ⊢
  have hfm:((outQ t (q.take k)).map (D.int .i64)).length = (outQ t (q.take k)).length:=List.length_map ..
  have hfl:(outQ t (q.take k)).length≤900:=by have:=outQ_len t (q.take k); rw [List.length_take] at this; omega
  refine goA ?_
  refine Opt.of hg ?_
  refine goA ?_
  refine Br.dec (fun h1=>?_) (fun h1=>?_)
  ·have hkl:k < q.length:=by omega
   have hgk:(q.map (D.int .i64))[k]? = some (.int .i64 q[k]):=get_map (List.getElem?_eq_getElem hkl)
   have hsk:=outQ_s t q k hkl
   by_cases h2:q[k] = t
   ·rw [if_pos h2] at hsk
    refine goA ?_
    refine Opt.of hg ?_
    refine goA ?_
    refine Opt.of hgk ?_
    refine goA ?_
    refine ⟨_,_,_,?_,⟨(k+1,true),?_,rfl,rfl,rfl⟩,?_⟩
    ·show q.length - (k+1) < q.length - k; omega
    ·exact hkl
    ·rw [hsk]
     refine Weak.backT 7 (by simp) (by first | rfl | kernel_rfl) (by kernel_rfl) (bl rfl) tld (by kernel_rfl) (by kernel_rfl)
   ·rw [if_neg h2] at hsk
    refine goA ?_
    refine Opt.of hg ?_
    refine goA ?_
    refine Opt.of hgk ?_
    refine goA ?_
    refine Opt.of hg ?_
    refine goA ?_
    refine Opt.of hgk ?_
    refine goA ?_
    refine App.only false rfl rfl ?_
    refine goA ?_
    refine ⟨_,_,_,?_,⟨(k+1,b'),?_,rfl,rfl,rfl⟩,?_⟩
    ·show q.length - (k+1) < q.length - k; omega
    ·exact hkl
    ·rw [hsk]
     refine Weak.trans (Weak.on [(1,.int .i64 t),(2,.ptr 0 0 10 0 0),(4,.ptr 1 0 10 0 0),(5,.bool false),(6,.ptr 5 0 10 0 0),(7,.bool b'),(8,.int .i64 (i:Int)),(9,.sl 7 0 1 0 ((outQ t (q.take k)).length+1) none),(10,.int .i64 ((k:Int)+1))] (caO C (outI t C.rq i) [one .gone,one (.row 3 1 true ((outQ t (q.take k)).map (D.int .i64) ++ [.int .i64 q[k]]))])) ?_
     rw [map_snoc,show (outQ t (q.take k)).length+1 = (outQ t (q.take k) ++ [q[k]]).length by rw [List.length_append,List.length_singleton]]
     refine Weak.trans (Weak.shift 7 6 (by decide) (by simp) (bl rfl) (bl rfl) (fun j=>by cases j <;> rfl) rfl) ?_
     refine Weak.backT 7 (by simp) (by first | rfl | kernel_rfl) (by kernel_rfl) (bl rfl) tld (by kernel_rfl) (by kernel_rfl)
  ·have hkl:q.take k = q:=List.take_of_length_le (by omega)
   rw [hkl] at hfm hfl ⊢
   refine goR ?_
   refine Pt.weak (Weak.on [(1,.int .i64 t),(2,.ptr 0 0 10 0 0),(4,.ptr 1 0 10 0 0),(5,.bool false),(6,.ptr 5 0 10 0 0),(7,.bool b'),(8,.int .i64 (i:Int)),(9,.sl 6 0 1 0 (outQ t q).length none)] (caO C (outI t C.rq i) [rowI (outQ t q)])) ?_
   refine Pt.weak (Weak.frzK (fun i=>Nat.beq i 6) [(9,ints (outQ t q))] ⟨View.slAll rfl rfl hfm (by simp) (ViewL.same _) (pureL_map (fun _=>rfl) _),trivial⟩) ?_
   refine goA ?_
   refine Opt.of (show ((outI t C.rq i).map ints)[0+i]? = some (ints q) by rw [Nat.zero_add]; exact get_map (by rw [outI_get t C.rq i hil,hq])) ?_
   refine goA ?_
   refine ⟨_,_,_,?_,⟨(i+1,b'),?_,rfl,rfl,rfl⟩,?_⟩
   ·show C.rq.length - (i+1) < C.rq.length - i; omega
   ·exact hil
   ·rw [hs]
    refine Weak.trans (Weak.on [(1,.int .i64 t),(2,.ptr 0 0 10 0 0),(4,.ptr 1 0 10 0 0),(5,.bool false),(6,.ptr 5 0 10 0 0),(7,.bool b'),(8,.int .i64 ((i:Int)+1))] ((caO C (outI t C.rq i) [one .gone]).put 4 0 (.row 23 1 true (((outI t C.rq i).map ints).set (0+i) (ints (outQ t q)))))) ?_
    rw [Nat.zero_add,set_ints]
    refine Weak.backT 6 (by simp) (by first | rfl | kernel_rfl) (by kernel_rfl) (bl rfl) tld (by kernel_rfl) (by kernel_rfl)
 ·have hie:i = C.rq.length:=by omega
  refine goA ?_
  refine Ret.mk [.cell 4 30,.tmp 5] rfl ?_; (refine goA ?_)
  refine ⟨_,View.tup (.cons (View.agg (.cons (.same _) (.cons (.same _) (.cons (.same _) (.cons (.same _) (.cons (.same _) (.cons (.same _) (.cons (.same _) (.cons (.same _) (.cons (.same _) (.cons (View.slAll (f:=false) rfl rfl (by rw [List.length_map,outI_len]) (by simp) (ViewL.same _) (pureL_rows _)) .nil))))))))))) (.cons (.same _) .nil)),rfl,?_⟩
  show ∃ b,_ = D.tup _
  refine Exists.intro b ?_
  rw [hie,outI_end]
theorem broadcast116 {e:En} {x:Xs} (h:EO e x) (q:Rq) (hq:0≤q.a∧q.a < e.nw) (hz:LkZ e.nm e.nw e.ns (broadS x.C.L q.a.toNat (e.g.co.getD q.a.toNat 0).toNat).1) (hll:(broadS x.C.L q.a.toNat (e.g.co.getD q.a.toNat 0).toNat).2.1.length≤1000) (hn:∀ v ∈ (broadS x.C.L q.a.toNat (e.g.co.getD q.a.toNat 0).toNat).2.1,0≤v∧v.toNat < x.C.th.length):Spec Tryz.prog 116 [.ptr 5 0 20 0 0,rqD q] (pyA e x) (fun d os'=>d = .tup []∧os' = pyB e (broadX e.g x q.a)):=by
 obtain ⟨kd,qa,v⟩:=q
 dsimp only at hq hz hn hll
 obtain ⟨a,rfl⟩:∃ a:Nat,qa = (a:Int):=⟨qa.toNat,by omega⟩
 obtain ⟨m,hme,hml,hmg⟩:=co_at h (a:=a) (by omega)
 have hcm:(e.g.co.map (D.int .i64)).length = e.g.co.length:=List.length_map ..
 rw [Int.toNat_natCast,hme,Int.toNat_natCast] at hz hn hll
 have hs:=broad189 (P:=py e x) h.L h.N a m (by omega) hml
 unfold broadX
 dsimp only
 rw [Int.toNat_natCast,hme,Int.toNat_natCast]
 obtain ⟨⟨S',l,got⟩,hT⟩:∃ r,broadS x.C.L a m = r:=⟨_,rfl⟩
 rw [hT] at hs hz hn hll ⊢
 dsimp only at hs hz hn hll ⊢
 have hnw:=h.nw
 have hs2:=upKA (e:=e) (x:=x) (y:=inL x S') (qK ⟨kd,a,v⟩) (xs:=[.int .i64 a,.int .i64 m]) (d:=.tup [ints l,.int .i64 got]) hs rfl rfl
 have hlm:(l.map (D.int .i64)).length = l.length:=List.length_map ..
 obtain ⟨R,hR⟩:∃ R,l.foldl (movedL m got) (inL x S') = R:=⟨_,rfl⟩
 rw [hR]
 refine Spec.by Tryz.func116 rfl (by decide) (by decide +kernel) rfl ?_
 refine goA ?_
 refine Opt.of hmg ?_
 refine goA ?_
 refine Call.mk hs2 ?_
 rintro d os' ⟨rfl,rfl⟩
 refine goA ?_
 refine Loop.inv (A:=Nat × Xs) (List.range 42) (fun c=>[(0,.ptr 5 0 20 0 0),(4,.int .i64 m),(6,.int .i64 got),(28,ints l),(29,.int .i64 (l.map (D.int .i64)).length),(30,.int .i64 (c.1:Int))]) (fun c=>pyB e c.2) (fun c=>c.1≤l.length∧(l.drop c.1).foldl (movedL m got) c.2 = R∧XB 100 (1000+c.1) (1000+c.1) c.2∧c.2.C = { x.C with L:=S',th:=c.2.C.th }∧c.2.C.th.length = x.C.th.length) (fun c=>l.length - c.1) (0,inL x S') ⟨Nat.zero_le _,hR,xb_inL h.xb S',rfl,rfl⟩ ?_ ?_
 ·refine Weak.trans (Weak.fin (sl:=[(0,.ptr 5 0 20 0 0),(4,.int .i64 m),(6,.int .i64 got),(28,ints l),(29,.int .i64 (l.map (D.int .i64)).length),(30,.int .i64 0)]) (os:=pyA e (inL x S')) 12) ?_
  refine Weak.trans (liftAB _ rfl rfl) ?_
  exact Weak.start' rfl rfl tld
 rintro ⟨i,y⟩ ⟨hi,hy,hyb,hyC,hyl⟩
 dsimp only at hi hy hyb hyC hyl ⊢
 have hzy:LkZ e.nm e.nw e.ns y.C.L:=by rw [hyC]; exact hz
 refine goA ?_
 refine Br.dec (fun h0=>?_) (fun h0=>?_)
 ·have hil:i < l.length:=by omega
  have hget:l[i]? = some l[i]:=List.getElem?_eq_getElem hil
  have hk:=hn _ (List.getElem_mem hil)
  obtain ⟨k,hke⟩:∃ k,l[i] = k:=⟨_,rfl⟩
  rw [List.drop_eq_getElem_cons hil,List.foldl_cons,hke] at hy
  rw [hke] at hget hk
  have hb:=moved_xb hyb (t:=k) (by rw [hyl]; exact hk.2) m (decide (k = got))
  have hC:=moved_rest y k m (decide (k = got))
  have hL:=moved_len y k m (decide (k = got))
  refine goA ?_
  refine Opt.of (get_map hget) ?_
  refine goA ?_
  refine Call.mk (up1 (moved188 hyb (by omega) hk.1 (by rw [hyl]; exact hk.2) hzy m (decide (k = got))) rfl rfl) ?_
  rintro d os' ⟨rfl,rfl⟩
  refine goA ?_
  refine ⟨_,_,_,?_,⟨(i+1,movedX y k m (decide (k = got))),?_,rfl,rfl,rfl⟩,?_⟩
  ·show l.length - (i+1) < l.length - i; omega
  ·exact ⟨hil,hy,hb,by rw [hC,hyC],by rw [hL,hyl]⟩
  ·refine Weak.trans (Weak.shift 14 12 (by decide) (by simp) (bl rfl) (bl rfl) (fun j=>by cases j <;> rfl) rfl) ?_
   refine Weak.trans (Weak.shift 15 13 (by decide) (by simp) (bl rfl) (bl rfl) (fun j=>by cases j <;> rfl) rfl) ?_
   refine Weak.backT 14 (by simp) (by first | rfl | kernel_rfl) (by kernel_rfl) (bl rfl) tld (by kernel_rfl) (by kernel_rfl)
 ·have hie:i = l.length:=by omega
  have hyR:y = R:=by rw [hie,List.drop_length] at hy; exact hy
  refine goA ?_
  exact Ret.mk [] rfl ⟨rfl,by rw [hyR]⟩
theorem sleep110 {e:En} {x:Xs} (h:EO e x) (q:Rq) (hv:kept2 q.v) (hnow:kept2 x.C.now):Spec Tryz.prog 110 [.ptr 5 0 20 0 0,rqD q] (pyA e x) (fun d os'=>d = .tup []∧os' = pyB e (sleepX x e.t q.v)):=by
 obtain ⟨h1,h2⟩:=hv
 obtain ⟨h3,h4⟩:=hnow
 unfold sleepX
 by_cases hc:x.C.now < keep (x.C.now+q.v)
 ·rw [if_pos hc]
  refine Spec.by Tryz.func110 rfl (by decide) (by decide +kernel) rfl ?_
  refine goA ?_
  refine Call.mk ((keep35 (x.C.now+q.v) []).only _ rfl (by rintro d rfl; rfl)) ?_; rintro d os' ⟨rfl,rfl⟩
  refine goA ?_
  refine Call.mk (restG (e:=e) (x:=x) h.tl 1 (keep (x.C.now+q.v)) 10 11 [rowE x.ev,rowI x.wp,qK q]) ?_
  rintro d os' ⟨rfl,rfl⟩
  refine goA ?_
  refine Ret.weak (Weak.on [] (pyK e (restX x e.t 1 (keep (x.C.now+q.v))) (qK q))) ?_
  refine Ret.weak lowA ?_
  exact Ret.mk [] rfl ⟨rfl,rfl⟩
 ·rw [if_neg hc]
  refine Spec.by Tryz.func110 rfl (by decide) (by decide +kernel) rfl ?_
  refine goA ?_
  refine Call.mk ((keep35 (x.C.now+q.v) []).only _ rfl (by rintro d rfl; rfl)) ?_; rintro d os' ⟨rfl,rfl⟩
  refine goA ?_
  refine Ret.weak (Weak.on [] (pyK e x (qK q))) ?_
  refine Ret.weak lowA ?_
  exact Ret.mk [] rfl ⟨rfl,rfl⟩
theorem tellF181 {e:En} {b w:Nat} {x:Xs} (hx:XB 100 b w x) (hb:b≤40000) {t:Nat} (ht:t < x.C.th.length) (hz:LkZ e.nm e.nw e.ns x.C.L) (l:List Int) (hl:l.length≤1000) :
  Spec Tryz.prog 181 [.ptr 5 0 20 0 0,.int .i64 t,ints l] (pyA e x) (fun d os'=>d = .bool (tellE endF x t l).2∧os' = pyB e (tellF x t l)):=tell181 (end_all e 100) hx (by omega) ht hz l hl
theorem join111 {e:En} {x:Xs} (h:EO e x) (q:Rq):Spec Tryz.prog 111 [.ptr 5 0 20 0 0,rqD q] (pyA e x) (fun d os'=>d = .tup []∧os' = pyB e (joinX x e.t q.v)):=by
 have hm:(x.C.th.map thD).length = x.C.th.length:=List.length_map ..
 have htl:=h.xb.tl
 unfold joinX
 by_cases hc:q.v < 0∨(x.C.th.length:Int)≤q.v∨q.v = (e.t:Int)
 ·rw [if_pos hc]
  refine Spec.by Tryz.func111 rfl (by decide) (by decide +kernel) rfl ?_
  refine goA ?_
  refine Br.dec (fun h1=>?_) (fun h1=>?_)
  ·refine goA ?_
   refine Call.mk (up_end h 5) ?_
   rintro d os' ⟨rfl,rfl⟩
   refine goA ?_
   refine Ret.weak (Weak.on [] (pyKB e (endF x e.t 5) (qK q))) ?_
   refine Ret.weak (lowK [] (.inl rfl)) ?_
   exact Ret.mk [] rfl ⟨rfl,rfl⟩
  ·refine goA ?_
   refine Br.dec (fun h2=>?_) (fun h2=>?_)
   ·refine goA ?_
    refine Call.mk (up_end h 5) ?_
    rintro d os' ⟨rfl,rfl⟩
    refine goA ?_
    refine Ret.weak (Weak.on [] (pyKB e (endF x e.t 5) (qK q))) ?_
    refine Ret.weak (lowK [] (.inl rfl)) ?_
    exact Ret.mk [] rfl ⟨rfl,rfl⟩
   ·have h3:q.v = (e.t:Int):=by omega
    refine goA ?_
    refine Call.mk (up_end h 5) ?_
    rintro d os' ⟨rfl,rfl⟩
    refine goA ?_
    refine Ret.weak (Weak.on [] (pyKB e (endF x e.t 5) (qK q))) ?_
    refine Ret.weak (lowK [] (.inl rfl)) ?_
    exact Ret.mk [] rfl ⟨rfl,rfl⟩
 ·rw [if_neg hc]
  have c1:¬ q.v < 0:=fun h=>hc (.inl h)
  have c2:¬ (x.C.th.length:Int)≤q.v:=fun h=>hc (.inr (.inl h))
  have c3:¬ q.v = (e.t:Int):=fun h=>hc (.inr (.inr h))
  have hgk:=th_at (C:=x.C) (t:=q.v.toNat) (by omega)
  by_cases h9:(thAt x.C q.v.toNat).st = 9
  ·rw [if_pos h9]
   refine Spec.by Tryz.func111 rfl (by decide) (by decide +kernel) rfl ?_
   refine goA ?_
   refine Opt.of hgk ?_
   refine goA ?_
   refine Opt.of hgk ?_
   refine goA ?_
   refine App.only false rfl rfl ?_
   refine goA ?_
   refine Call.mk (upK (qK q) (tellF181 h.xb (by omega) h.tl h.L.z [(thAt x.C q.v.toNat).code] (by simp)) rfl rfl) ?_
   rintro d os' ⟨rfl,rfl⟩
   refine goA ?_
   refine Ret.weak (Weak.on [] (pyKB e (tellF x e.t [(thAt x.C q.v.toNat).code]) (qK q))) ?_
   refine Ret.weak (lowK [] (.inl rfl)) ?_
   exact Ret.mk [] rfl ⟨rfl,rfl⟩
  ·rw [if_neg h9]
   refine Spec.by Tryz.func111 rfl (by decide) (by decide +kernel) rfl ?_
   refine goA ?_
   refine Opt.of hgk ?_
   refine goA ?_
   refine Call.mk (restG (e:=e) (x:=x) h.tl 2 q.v 10 11 [rowE x.ev,rowI x.wp,qK q]) ?_
   rintro d os' ⟨rfl,rfl⟩
   refine goA ?_
   refine Ret.weak (Weak.on [] (pyK e (restX x e.t 2 q.v) (qK q))) ?_
   refine Ret.weak lowA ?_
   exact Ret.mk [] rfl ⟨rfl,rfl⟩
def TestC (g:Nat) (a b:List D) (q:Int→Bool) (l:List Int) (r:Objs):Prop:=∀ (W:List Int) (x:Int),x ∈ l→Spec Tryz.prog g (a ++ ([.int .i64 x] ++ b)) (rowI W :: r) (fun d os'=>d = .bool (q x)∧os' = rowI W :: r)
theorem row_get0 {W:List Int} {i:Nat} {v:Int} (h:W[i]? = some v):(W.map (D.int .i64))[0+i]? = some (.int .i64 v):=by rw [Nat.zero_add]; exact get_map h
theorem idx122r {g:Nat} {a b:List D} {q:Int→Bool} {l:List Int} {r:Objs} (hq:TestC g a b q l r) (hl:l.length≤1000000):Spec Tryz.prog 122 [.sl 0 0 1 0 l.length none,.fn (.func g) a b] (rowI l :: r) (fun d os'=>d = idxD (l.findIdx? q)∧os' = rowI l :: r):=by
 have hlm:(l.map (D.int .i64)).length = l.length:=List.length_map ..
 refine Spec.by Tryz.func122 rfl (by decide) (by decide +kernel) rfl ?_
 refine goA ?_
 refine Loop.inv (A:=Nat) (List.range 19) (fun i=>[(0,.sl 0 0 1 0 l.length none),(1,.fn (.func g) a b),(7,.int .i64 l.length),(8,.int .i64 (i:Int))]) (fun _=>rowI l :: r) (fun i=>i≤l.length∧∀ x ∈ l.take i,q x = false) (fun i=>l.length - i) 0 ⟨Nat.zero_le _,by simp⟩ ?_ ?_
 ·exact Weak.start' rfl rfl tld
 rintro i ⟨hi,hf⟩
 dsimp only at hi hf ⊢
 refine goA ?_
 refine Br.dec (fun h=>?_) (fun h=>?_)
 ·have hil:i < l.length:=by omega
  have hg:=row_get0 (List.getElem?_eq_getElem hil)
  refine goA ?_
  refine Opt.of hg ?_
  refine goA ?_
  rw [forceL_eq]
  refine Call.mk (hq l l[i] (List.getElem_mem _)) ?_
  rintro d os' ⟨rfl,rfl⟩
  refine goA ?_
  refine Br.cs (fun hb=>?_) (fun hb=>?_)
  ·refine goA ?_
   refine Ret.mk [.tmp _] rfl ⟨?_,rfl⟩
   rw [find_at (by omega) hb hf]
  ·refine goA ?_
   refine ⟨_,_,_,?_,⟨i+1,?_,rfl,rfl,rfl⟩,?_⟩
   ·show l.length - (i+1) < l.length - i; omega
   ·exact ⟨by omega,take_more (by omega) hb hf⟩
   ·exact Weak.back rfl tld (by kernel_rfl) (by kernel_rfl)
 ·refine goA ?_
  refine Ret.mk [.tmp _] rfl ⟨?_,rfl⟩
  rw [find_none (by simpa using h) hf]
def delL (q:Int→Bool) (l:List Int):List Int:=l.filter (fun x=>!q x)
def zeros (n:Nat):List Int:=List.replicate n 0
structure DelI (q:Int→Bool) (l:List Int) (i j:Nat) (W:List Int):Prop where
 ij:i < j
 jl:j≤l.length
 wl:W.length = l.length
 wt:W.take i = delL q (l.take j)
 wd:W.drop j = l.drop j
 il:i = (delL q (l.take j)).length
theorem DelI.start {q:Int→Bool} {l:List Int} {i:Nat} (hi:i < l.length) (hq:q l[i] = true) (hf:∀ (j:Nat) (h:j < i),¬ q (l[j]'(by omega)) = true):DelI q l i (i+1) l:=by
 have e:delL q (l.take (i+1)) = l.take i:=by
  unfold delL
  rw [List.take_add_one,List.getElem?_eq_getElem hi,List.filter_append]
  have h1:(l.take i).filter (fun x=>!q x) = l.take i:=by
   rw [List.filter_eq_self]
   intro x hx
   obtain ⟨k,hk,rfl⟩:=List.mem_iff_getElem.1 hx
   rw [List.length_take] at hk
   rw [List.getElem_take]
   have:=hf k (by omega)
   simpa using this
  rw [h1]
  simp [hq]
 exact ⟨by omega,hi,rfl,e.symm,rfl,by rw [e,List.length_take]; omega⟩
theorem DelI.at {q:Int→Bool} {l:List Int} {i j:Nat} {W:List Int} (h:DelI q l i j W) (hj:j < l.length):W[j]? = some l[j]:=by
 have e:(W.drop j)[0]? = (l.drop j)[0]?:=by rw [h.wd]
 rw [List.getElem?_drop,List.getElem?_drop,Nat.add_zero] at e
 rw [e,List.getElem?_eq_getElem hj]
theorem DelI.skip {q:Int→Bool} {l:List Int} {i j:Nat} {W:List Int} (h:DelI q l i j W) (hj:j < l.length) (hq:q l[j] = true):DelI q l i (j+1) W:=by
 have e:delL q (l.take (j+1)) = delL q (l.take j):=by
  unfold delL
  rw [List.take_add_one,List.getElem?_eq_getElem hj,List.filter_append]
  simp [hq]
 refine ⟨by have:=h.ij; omega,hj,h.wl,by rw [e]; exact h.wt,?_,by rw [e]; exact h.il⟩
 rw [← List.drop_drop,h.wd,List.drop_drop]
theorem DelI.put {q:Int→Bool} {l:List Int} {i j:Nat} {W:List Int} (h:DelI q l i j W) (hj:j < l.length) (hq:q l[j] = false):DelI q l (i+1) (j+1) (W.set i l[j]):=by
 have hij:=h.ij
 have e:delL q (l.take (j+1)) = delL q (l.take j) ++ [l[j]]:=by
  unfold delL
  rw [List.take_add_one,List.getElem?_eq_getElem hj,List.filter_append]
  simp [hq]
 have hiW:i < W.length:=by rw [h.wl]; omega
 refine ⟨by omega,hj,by rw [List.length_set]; exact h.wl,?_,?_,by rw [e,List.length_append,← h.il]; rfl⟩
 ·rw [e,← h.wt,List.take_add_one,List.getElem?_set_self hiW,List.take_set_of_le (Nat.le_refl _)]
  rfl
 ·rw [List.drop_set_of_lt (by omega),← List.drop_drop,h.wd,List.drop_drop]
theorem del67 {g:Nat} {a b:List D} {q:Int→Bool} {l:List Int} {r:Objs} (hq:TestC g a b q l r) (hl:l.length≤1000000):Spec Tryz.prog 67 [.sl 0 0 1 0 l.length none,.fn (.func g) a b] (rowI l :: r) (fun d os'=>d = .sl 0 0 1 0 (delL q l).length none∧os' = rowI (delL q l ++ zeros (l.length - (delL q l).length)) :: r):=by
 have hlm:(l.map (D.int .i64)).length = l.length:=List.length_map ..
 have hs:=idx122r hq hl
 cases hx:l.findIdx? q with
 | none =>
  have hd:delL q l = l:=by
   unfold delL
   rw [List.filter_eq_self]
   intro x hxm
   rw [List.findIdx?_eq_none_iff] at hx
   have:=hx x hxm
   simpa using this
  rw [hx] at hs
  rw [hd,Nat.sub_self,show zeros 0 = [] from rfl,List.append_nil]
  refine Spec.by Tryz.func67 rfl (by decide) (by decide +kernel) rfl ?_
  refine goA ?_
  refine Call.mk hs ?_
  rintro d os' ⟨rfl,rfl⟩
  refine goA ?_
  exact Ret.mk [.tmp _] rfl ⟨rfl,rfl⟩
 | some i0 =>
  rw [hx] at hs
  rw [List.findIdx?_eq_some_iff_getElem] at hx
  obtain ⟨hi0,hqi,hqf⟩:=hx
  refine Spec.by Tryz.func67 rfl (by decide) (by decide +kernel) rfl ?_
  refine goA ?_
  refine Call.mk hs ?_
  rintro d os' ⟨rfl,rfl⟩
  refine goA ?_
  refine Loop.inv (A:=Nat × Nat × List Int) (List.range 42) (fun c=>[(0,.sl 0 0 1 0 l.length none),(1,.fn (.func g) a b),(5,.int .i64 (c.1:Int)),(6,.int .i64 (c.2.1:Int))]) (fun c=>rowI c.2.2 :: r) (fun c=>DelI q l c.1 c.2.1 c.2.2) (fun c=>l.length - c.2.1) (i0,i0+1,l) (DelI.start hi0 hqi hqf) ?_ ?_
  ·exact Weak.start' rfl rfl tld
  rintro ⟨i,j,W⟩ hI
  dsimp only at hI ⊢
  obtain ⟨h1,h2,h3,h4,h5,h6⟩:=id hI
  have hWm:(W.map (D.int .i64)).length = W.length:=List.length_map ..
  refine goA ?_
  refine Br.dec (fun h=>?_) (fun h=>?_)
  ·have hj:j < l.length:=by omega
   have hWj:W[j]? = some l[j]:=hI.at hj
   have hg:=row_get0 hWj
   refine goA ?_
   refine Opt.of hg ?_
   refine goA ?_
   rw [forceL_eq]
   refine Call.mk (hq W l[j] (List.getElem_mem _)) ?_
   rintro d os' ⟨rfl,rfl⟩
   refine goA ?_
   refine Br.cs (fun hb=>?_) (fun hb=>?_)
   ·have hqf':q l[j] = false:=by cases hx:q l[j] with | true=>rw [hx] at hb; cases hb | false=>rfl
    have hWi:W[i]? = some (W[i]'(by omega)):=List.getElem?_eq_getElem (by omega)
    have hgi:=row_get0 hWi
    refine goA ?_
    refine Opt.of hgi ?_
    refine goA ?_
    refine ⟨_,_,_,?_,⟨(i+1,j+1,W.set i l[j]),?_,rfl,rfl,rfl⟩,?_⟩
    ·show l.length - (j+1) < l.length - j; omega
    ·exact hI.put hj hqf'
    ·refine Weak.back ?_ tld (by kernel_rfl) (by kernel_rfl)
     show one (.row 3 1 true ((W.map (D.int .i64)).set (0+(i:Int).toNat) (.int .i64 l[j]))) :: r = one (.row 3 1 true ((W.set i l[j]).map (D.int .i64))) :: r
     rw [Int.toNat_natCast,Nat.zero_add,List.map_set]
   ·have hqt:q l[j] = true:=by cases hx:q l[j] with | true=>rfl | false=>rw [hx] at hb; cases hb
    refine goA ?_
    refine ⟨_,_,_,?_,⟨(i,j+1,W),?_,rfl,rfl,rfl⟩,?_⟩
    ·show l.length - (j+1) < l.length - j; omega
    ·exact hI.skip hj hqt
    ·exact Weak.back rfl tld (by kernel_rfl) (by kernel_rfl)
  ·have hjl:j = l.length:=by omega
   have hil:(delL q l).length = i:=by rw [hjl,List.take_length] at h6; exact h6.symm
   have hWt:W.take i = delL q l:=by rw [hjl,List.take_length] at h4; exact h4
   refine goA ?_
   intro hpos
   refine goA ?_
   refine Ret.mk [.tmp _] rfl ⟨by rw [hil]; rfl,?_⟩
   rw [hil]
   show one (.row 3 1 true (splice (W.map (D.int .i64)) (0+(i:Int).toNat) (List.replicate ((l.length:Int).toNat - (i:Int).toNat) (.int .i64 0)))) :: r = one (.row 3 1 true ((delL q l ++ zeros (l.length - i)).map (D.int .i64))) :: r
   unfold splice zeros
   rw [Int.toNat_natCast,Int.toNat_natCast,Nat.zero_add,← List.map_take,hWt,List.length_replicate,List.drop_eq_nil_of_le (by rw [hWm]; omega),List.append_nil,List.map_append,List.map_replicate]
theorem is238 (t v:Int) (W:List Int):Spec Tryz.prog 238 [.int .i64 v,.ptr 1 0 1 0 0] [rowI W,one (.row 3 1 false [.int .i64 t])] (fun d os'=>d = .bool (decide (v = t))∧os' = [rowI W,one (.row 3 1 false [.int .i64 t])]):=by
 refine Spec.by Tryz.func238 rfl (by decide) (by decide +kernel) rfl ?_
 refine goA ?_
 exact Ret.mk [.tmp _] rfl ⟨rfl,rfl⟩
theorem waits237 (t:Int) (os:Objs):Spec Tryz.prog 237 [lkP,.int .i64 t] os (fun d os'=>d = .fn (.func 242) [] [.ptr os.length 0 1 0 0,.ptr (os.length+1) 0 1 0 0]∧os' = os ++ [one (.row 191 1 false [lkP]),one (.row 3 1 false [.int .i64 t])]):=by
 refine Spec.by Tryz.func237 rfl (by decide) (by decide +kernel) rfl ?_
 refine goA ?_
 refine Ret.mk [.tmp 4] rfl ⟨?_,?_⟩
 ·show D.fn (.func 242) [] [.ptr os.length 0 1 0 0,.ptr (os ++ [_]).length 0 1 0 0] = _
  rw [List.length_append]; rfl
 ·show (os ++ [_]) ++ [_] = _
  rw [List.append_assoc]; rfl
theorem Weak.pured {n0:Nat} {m:List (Nat × D)} {os:Objs} (k:Nat) {ty:TypeId} {sz:Nat} {es:List D} (hk:os.at k 0 = .row ty sz false es) (hp:D.pureL es = true):Weak n0 { m:=m,objs:=os } { m:=m,objs:=os.put k 0 (.row ty sz true es) }:=by
 intro ρ I w tm h1 h2 h3
 have h3':n0≤os.length:=h3
 have hs:=h1.retell (k:=k) (by rw [hk]; simp) (.row ty sz true es) (fun p hp' hok=>by
  rw [hk] at hok
  obtain ⟨c1,c2,c3⟩:=hok
  refine ⟨c1,c2,fun hpos=>?_⟩
  obtain ⟨arr,us,g1,g2,g3,g4,g5⟩:=c3 hpos
  exact ⟨arr,us,g1,g2,repL_pure es us hp g3,g4,g5⟩)
 exact ⟨ρ,I,hs.1,h2,Im.le_refl _,by show n0≤(os.put k 0 _).length; rw [length_put]; exact h3',fun _ _ _=>rfl,fun _ h=>.inl h,hs.2⟩
theorem outQ_del (t:Int) (q:List Int):delL (fun v=>decide (v = t)) q = outQ t q:=by
 unfold delL outQ
 refine List.filter_congr (fun v _=>?_)
 simp
@[reducible] def pyN (e:En) (x:Xs) (t:Int) (R:List (List Int)) (b:Bool) (r:Objs):Objs:=lkO (e.A x 10 11) e.nm e.nw e.ns x.C.L (rowT x.C.th :: rowC x.C.bu :: rowC x.C.sq :: one (.row 23 1 false (R.map ints)) :: rowE x.ev :: rowI x.wp :: one (.row 191 1 false [lkP]) :: one (.row 3 1 false [.int .i64 t]) :: one (.row 4 1 false [.bool b]) :: one (.row 191 1 false [lkP]) :: one (.row 3 1 false [.int .i64 t]) :: r)
theorem list_set_same' {α:Type} {l:List α} {k:Nat} {x:α} (h:l[k]? = some x):l.set k x = l:=by
 apply List.ext_getElem?
 intro i
 by_cases hi:k = i
 ·subst hi
  rw [List.getElem?_set_self (List.getElem?_eq_some_iff.1 h).1,h]
 ·rw [List.getElem?_set_ne hi]
theorem ViewL.setv {F:Nat→Bool} {os:Objs} {es:List D} {i:Nat} {d d':D} (hd:View F os d d'):ViewL F os (es.set i d) (es.set i d'):=by
 refine ViewL.of (by simp) (fun j a b ha hb=>?_)
 rw [List.getElem?_set] at ha hb
 by_cases hij:i = j
 ·rw [if_pos hij] at ha hb
  split at ha
  ·rename_i hl
   rw [if_pos hl] at hb
   cases ha; cases hb; exact hd
  ·cases ha
 ·rw [if_neg hij] at ha hb
  rw [ha] at hb
  cases hb; exact View.same _
theorem take_front {F:Nat→Bool} {os:Objs} {a b:List Int} {n:Nat} (h:((a ++ b).map (D.int .i64)).length = n):ViewL F os ((((a ++ b).map (D.int .i64)).drop 0).take a.length) (a.map (D.int .i64)):=by
 have e:(((a ++ b).map (D.int .i64)).drop 0).take a.length = a.map (D.int .i64):=by
  rw [List.drop_zero,List.map_append,List.take_left' (by rw [List.length_map])]
 rw [e]
 exact ViewL.same _
theorem pyN_lt (e:En) (x:Xs) (t:Int) (R:List (List Int)) (b:Bool) (r:Go.Loop):((pyN e x t R b [one (.loop r .ready none [(2,.ptr 12 0 1 0 0),(3,.ptr 13 0 1 0 0),(5,.ptr 14 0 1 0 0),(9,.fn (.func 242) [] [.ptr 15 0 1 0 0,.ptr 16 0 1 0 0])]),one .gone]).take 18).all (fun F=>F.lt 18) = true:=by
 have h:=ltL_pure 18 (R.map ints) (pureL_rows _)
 simp [Fam.lt,O.lt,D.lt,D.ltL,h]
 try decide
theorem cancel224 {e:En} {x:Xs} (t:Int) (hR:x.C.rq.length≤1000) (hl:∀ q ∈ x.C.rq,q.length≤1000):Spec Tryz.prog 224 [lkP,.int .i64 t] (pyA e x) (fun d os'=>(∃ b,d = .bool b)∧os' = pyA e { x with C:={ x.C with rq:=cancelR x.C.rq t } }):=by
 have hrm:(x.C.rq.map ints).length = x.C.rq.length:=List.length_map ..
 refine Spec.by Tryz.func224 rfl (by decide) (by decide +kernel) rfl ?_
 refine goA ?_
 refine Call.mk (waits237 t _) ?_
 rintro d os' ⟨rfl,rfl⟩
 refine goA ?_
 refine Rng.mk (f:=242) (fn:=Tryz.f242) [(2,.ptr 12 0 1 0 0),(3,.ptr 13 0 1 0 0),(5,.ptr 14 0 1 0 0),(9,.fn (.func 242) [] [.ptr 15 0 1 0 0,.ptr 16 0 1 0 0])] (pyN e x t x.C.rq false []) ?_ tld rfl Tryz.func242 rfl rfl (by decide +kernel) rfl rfl (by decide) ?_
 ·refine Weak.trans (Weak.unpure 9 (ty:=23) (sz:=1) (es:=x.C.rq.map ints) rfl) ?_
  exact Weak.only _ _ (by kernel_rfl) tld
 intro gf tm df
 generalize hr:(⟨.ready,none,gf,tm,#[10],_,_,df⟩:Go.Loop) = r
 refine goA ?_
 refine Loop.inv (A:=Nat × Bool) (List.range 33) (fun c=>[(0,.yl 17 0),(1,.ptr 15 0 1 0 0),(2,.ptr 16 0 1 0 0),(11,.sl 9 0 1 0 x.C.rq.length none),(12,.int .i64 x.C.rq.length),(13,.int .i64 (c.1:Int))]) (fun c=>pyN e x t (outI t x.C.rq c.1) c.2 [one (.loop r .ready none [(2,.ptr 12 0 1 0 0),(3,.ptr 13 0 1 0 0),(5,.ptr 14 0 1 0 0),(9,.fn (.func 242) [] [.ptr 15 0 1 0 0,.ptr 16 0 1 0 0])])]) (fun c=>c.1≤x.C.rq.length) (fun c=>x.C.rq.length - c.1) (0,false) (Nat.zero_le _) ?_ ?_
 ·exact Weak.start' rfl rfl tld
 rintro ⟨i,b⟩ hi
 dsimp only at hi ⊢
 have hom:((outI t x.C.rq i).map ints).length = x.C.rq.length:=by rw [List.length_map,outI_len]
 refine goA ?_
 refine Br.dec (fun h0=>?_) (fun h0=>?_)
 ·have hil:i < x.C.rq.length:=by omega
  have hg:((outI t x.C.rq i).map ints)[0+i]? = some (ints x.C.rq[i]):=by rw [Nat.zero_add]; exact get_map (outI_get t x.C.rq i hil)
  have hs:=outI_s t x.C.rq i hil
  obtain ⟨q,hq⟩:∃ q,x.C.rq[i] = q:=⟨_,rfl⟩
  have hql:q.length≤1000:=by rw [← hq]; exact hl _ (List.getElem_mem _)
  have hqm:(q.map (D.int .i64)).length = q.length:=List.length_map ..
  rw [hq] at hg hs
  refine goA ?_
  refine Opt.of hg ?_
  refine goA ?_
  refine Loop.inv (A:=Nat) (List.range 33) (fun k=>[(0,.yl 17 0),(1,.ptr 15 0 1 0 0),(2,.ptr 16 0 1 0 0),(11,.sl 9 0 1 0 x.C.rq.length none),(12,.int .i64 x.C.rq.length),(13,.int .i64 (i:Int)),(4,.int .i64 (i:Int)),(18,ints q),(19,.int .i64 q.length),(20,.int .i64 (k:Int))]) (fun _=>pyN e x t (outI t x.C.rq i) b [one (.loop r .ready none [(2,.ptr 12 0 1 0 0),(3,.ptr 13 0 1 0 0),(5,.ptr 14 0 1 0 0),(9,.fn (.func 242) [] [.ptr 15 0 1 0 0,.ptr 16 0 1 0 0])])]) (fun k=>k≤q.length∧∀ v ∈ q.take k,decide (v ≠ t) = true) (fun k=>q.length - k) 0 ⟨Nat.zero_le _,by simp⟩ ?_ ?_
  ·rw [show (.int .i64 q.length:D) = .int .i64 (q.map (D.int .i64)).length by rw [hqm]]
   exact Weak.start' rfl rfl tld
  rintro k ⟨hk,hf⟩
  dsimp only at hk hf ⊢
  refine goA ?_
  refine Br.dec (fun h1=>?_) (fun h1=>?_)
  ·have hkl:k < q.length:=by omega
   have hgk:q[k]? = some q[k]:=List.getElem?_eq_getElem hkl
   by_cases h2:q[k] = t
   ·refine goA ?_
    refine Opt.of (get_map hgk) ?_
    refine goA ?_
    subst hr
    refine Yld.mk [(2,.ptr 12 0 1 0 0),(3,.ptr 13 0 1 0 0),(5,.ptr 14 0 1 0 0),(9,.fn (.func 242) [] [.ptr 15 0 1 0 0,.ptr 16 0 1 0 0])] rfl rfl ?_
    refine goA ?_
    refine ⟨_,rfl,?_⟩
    refine goA ?_
    refine Opt.of hg ?_
    refine goA ?_
    refine Call.mk ((clone130w q (by omega)).onto _ rfl) ?_
    rintro d os' ⟨d0,os0,⟨rfl,rfl⟩,rfl,rfl⟩
    refine goA ?_
    have hdel:=del67 (g:=238) (a:=[]) (b:=[.ptr 1 0 1 0 0]) (q:=fun v=>decide (v = t)) (l:=q) (r:=[one (.row 3 1 false [.int .i64 t])]) (fun W v _=>is238 t v W) (by omega)
    rw [outQ_del] at hdel
    refine Call.mk (hdel.frame _ [(18,0),(13,0)] rfl (by decide) (allQ_get0 (Q:=fun k p=>_) ⟨⟨bl rfl,rfl,rfl,fun j hj=>one_pos _ hj⟩,⟨bl rfl,rfl,rfl,fun j hj=>one_pos _ hj⟩,trivial⟩) rfl) ?_
    rintro d os' ⟨d1,os1,⟨rfl,rfl⟩,rfl,rfl⟩
    refine goA ?_
    refine Opt.of hg ?_
    refine goA ?_
    refine ⟨_,rfl,?_⟩
    generalize hr:(⟨.ready,none,gf,tm,#[10],_,_,df⟩:Go.Loop) = r
    refine goA ?_
    refine ⟨_,_,_,?_,⟨(i+1,true),?_,rfl,rfl,rfl⟩,?_⟩
    ·show x.C.rq.length - (i+1) < x.C.rq.length - i; omega
    ·exact hil
    ·rw [hs]
     refine Weak.trans (Weak.on [(0,.yl 17 0),(1,.ptr 15 0 1 0 0),(2,.ptr 16 0 1 0 0),(11,.sl 9 0 1 0 x.C.rq.length none),(12,.int .i64 x.C.rq.length),(13,.int .i64 ((i:Int)+1))] (lkO (e.A x 10 11) e.nm e.nw e.ns x.C.L (rowT x.C.th :: rowC x.C.bu :: rowC x.C.sq :: one (.row 23 1 false (((outI t x.C.rq i).map ints).set (0+i) (.sl 18 0 1 0 (outQ t q).length none))) :: rowE x.ev :: rowI x.wp :: one (.row 191 1 false [lkP]) :: one (.row 3 1 false [.int .i64 t]) :: one (.row 4 1 false [.bool true]) :: one (.row 191 1 false [lkP]) :: one (.row 3 1 false [.int .i64 t]) :: [one (.loop r .ready none [(2,.ptr 12 0 1 0 0),(3,.ptr 13 0 1 0 0),(5,.ptr 14 0 1 0 0),(9,.fn (.func 242) [] [.ptr 15 0 1 0 0,.ptr 16 0 1 0 0])]),rowI (outQ t q ++ zeros (q.length - (outQ t q).length))]))) ?_
     have hz:((outQ t q ++ zeros (q.length - (outQ t q).length)).map (D.int .i64)).length = (outQ t q).length+(q.length - (outQ t q).length):=by rw [List.length_map,List.length_append,zeros,List.length_replicate]
     refine Weak.trans (Weak.frzO (fun i=>Nat.beq i 18) [] 9 (ty:=23) (sz:=1) (es:=((outI t x.C.rq i).map ints).set (0+i) (.sl 18 0 1 0 (outQ t q).length none)) rfl rfl (((outI t x.C.rq i).map ints).set (0+i) (ints (outQ t q))) (by simp) (ViewL.setv (View.sl (t:=3) (pr:=true) (es:=(outQ t q ++ zeros (q.length - (outQ t q).length)).map (D.int .i64)) rfl rfl (by rw [hz]; omega) (by simp) (take_front hz) (pureL_map (fun _=>rfl) _))) trivial) ?_
     refine Weak.trans (Weak.objs (os':=pyN e x t ((outI t x.C.rq i).set i (outQ t q)) true [one (.loop r .ready none [(2,.ptr 12 0 1 0 0),(3,.ptr 13 0 1 0 0),(5,.ptr 14 0 1 0 0),(9,.fn (.func 242) [] [.ptr 15 0 1 0 0,.ptr 16 0 1 0 0])]),one .gone]) ?_) ?_
     ·rw [Nat.zero_add,set_ints]; rfl
     exact Weak.backT 18 (by simp) (by first | rfl | kernel_rfl) (pyN_lt _ _ _ _ _ _) (bl rfl) tld (by kernel_rfl) (by kernel_rfl)
   ·refine goA ?_
    refine Opt.of (get_map hgk) ?_
    refine goA ?_
    refine ⟨_,_,_,?_,⟨k+1,?_,rfl,rfl,rfl⟩,?_⟩
    ·show q.length - (k+1) < q.length - k; omega
    ·exact ⟨hkl,fun v hv=>by
      rw [List.take_add_one,hgk] at hv
      rcases List.mem_append.1 hv with hv | hv
      ·exact hf v hv
      ·simp at hv; subst hv; exact decide_eq_true h2⟩
    ·exact Weak.back rfl tld (by kernel_rfl) (by kernel_rfl)
  ·have hkl:q.take k = q:=List.take_of_length_le (by omega)
   rw [hkl] at hf
   have hs2:outI t x.C.rq (i+1) = outI t x.C.rq i:=by
    rw [hs,outQ_none hf]
    exact list_set_same' (by rw [outI_get t x.C.rq i hil,hq])
   refine goA ?_
   refine ⟨_,_,_,?_,⟨(i+1,b),?_,rfl,rfl,rfl⟩,?_⟩
   ·show x.C.rq.length - (i+1) < x.C.rq.length - i; omega
   ·exact hil
   ·rw [hs2]
    exact Weak.back rfl tld (by kernel_rfl) (by kernel_rfl)
 ·have hie:i = x.C.rq.length:=by omega
  refine goA ?_
  refine After.mk 17 .ready none _ rfl (by decide) ?_
  refine goA ?_
  refine Ret.weak (Weak.on [(4,.bool b)] (pyN e x t (outI t x.C.rq i) b [one .gone])) ?_
  rw [hie,outI_end]
  refine Ret.weak (Weak.pured 9 (ty:=23) (sz:=1) (es:=(cancelR x.C.rq t).map ints) rfl (pureL_rows _)) ?_
  have hA:e.A x 10 11 = e.A { x with C:={ x.C with rq:=cancelR x.C.rq t } } 10 11:=by
   show Pyl.mk _ _ _ _ _ _ _ _ _ = Pyl.mk _ _ _ _ _ _ _ _ _
   simp [cancelR]
  refine Ret.weak (Weak.objs (os':=pyA e { x with C:={ x.C with rq:=cancelR x.C.rq t } } ++ [one (.row 191 1 false [lkP]),one (.row 3 1 false [.int .i64 t]),one (.row 4 1 false [.bool b]),one (.row 191 1 false [lkP]),one (.row 3 1 false [.int .i64 t]),one .gone]) ?_) ?_
  ·show lkO (e.A x 10 11) _ _ _ _ _ = lkO (e.A { x with C:={ x.C with rq:=cancelR x.C.rq t } } 10 11) _ _ _ _ _
   rw [hA]
   rfl
  refine Ret.weak (Weak.fin (sl:=[(4,.bool b)]) (os:=pyA e { x with C:={ x.C with rq:=cancelR x.C.rq t } }) 12) ?_
  exact Ret.mk [.tmp 4] rfl ⟨⟨b,rfl⟩,rfl⟩
structure ChX (nc:Nat) (x:Xs):Prop where
 bu:x.C.bu.length = nc
 sq:x.C.sq.length = nc
 rq:x.C.rq.length = nc
 nc:nc≤1000
 lb:∀ L ∈ x.C.bu,L.length≤900
 ls:∀ L ∈ x.C.sq,L.length≤900∧L.length ≠ 1
 lr:∀ L ∈ x.C.rq,L.length≤900
theorem ChX.p {nc:Nat} {e:En} {x:Xs} (h:ChX nc x):ChL nc (py e x):=⟨h.bu,h.sq,h.rq,h.lb,h.ls,h.lr⟩
theorem pyA_bu {e:En} {x:Xs} {X:List (List Int)} (hX:X.length = x.C.bu.length):(pyA e x).put 7 0 (.row 23 1 true (X.map ints)) = pyA e { x with C:={ x.C with bu:=X } }:=pyO_bu (P:=py e x) (r:=[]) hX
theorem pyA_sq {e:En} {x:Xs} {X:List (List Int)} (hX:X.length = x.C.sq.length):(pyA e x).put 8 0 (.row 23 1 true (X.map ints)) = pyA e { x with C:={ x.C with sq:=X } }:=pyO_sq (P:=py e x) (r:=[]) hX
theorem send192 {e:En} {x:Xs} {nc:Nat} (h:ChX nc x) (c:Nat) (hc:c < nc) (room t v:Int):Spec Tryz.prog 192 [lkP,.int .i64 c,.int .i64 room,.int .i64 t,.int .i64 v] (pyA e x) (fun d os'=>d = .tup [.int .i64 (sendC x.C c room t v).2.1,.bool (sendC x.C c room t v).2.2]∧os' = pyA e (inC x (sendC x.C c room t v).1)):=by
 have hb:=h.bu
 have hs:=h.sq
 have hr:=h.rq
 have hnc:=h.nc
 have hbm:(x.C.bu.map ints).length = x.C.bu.length:=List.length_map ..
 have hsm:(x.C.sq.map ints).length = x.C.sq.length:=List.length_map ..
 have hrm:(x.C.rq.map ints).length = x.C.rq.length:=List.length_map ..
 have hgr:=rowC_at x.C.rq c (by omega)
 have hgb:=rowC_at x.C.bu c (by omega)
 have hbl:=h.lb _ (qAt_mem (l:=x.C.bu) (m:=c) (by omega))
 have hblm:((qAt x.C.bu c).map (D.int .i64)).length = (qAt x.C.bu c).length:=List.length_map ..
 cases hq:qAt x.C.rq c with
 | cons f q =>
  have hR:sendC x.C c room t v = ({ x.C with rq:=cancelR x.C.rq f },f,true):=by unfold sendC; rw [hq]
  rw [hR]
  rw [hq] at hgr
  have hqm:((f :: q).map (D.int .i64)).length = q.length+1:=by rw [List.length_map]; rfl
  refine Spec.by Tryz.func192 rfl (by decide) (by decide +kernel) rfl ?_
  refine goA ?_
  refine Opt.of hgr ?_
  refine goA ?_
  refine Opt.of hgr ?_
  refine goA ?_
  refine Call.mk (cancel224 f (by omega) (fun q hq=>by have:=h.lr q hq; omega)) ?_
  rintro d os' ⟨⟨b,rfl⟩,rfl⟩
  refine goA ?_
  exact Ret.mk [.tmp 10,.tmp 11] rfl ⟨rfl,rfl⟩
 | nil =>
  rw [hq] at hgr
  by_cases hc2:((qAt x.C.bu c).length:Int) < room
  ·have hR:sendC x.C c room t v = ({ x.C with bu:=x.C.bu.set c (qAt x.C.bu c ++ [v]) },-1,true):=by unfold sendC; rw [hq]; exact if_pos hc2
   rw [hR]
   refine Spec.by Tryz.func192 rfl (by decide) (by decide +kernel) rfl ?_
   refine goA ?_
   refine Opt.of hgr ?_
   refine goA ?_
   refine Opt.of hgb ?_
   refine goA ?_
   refine App.only false rfl rfl ?_
   refine goA ?_
   refine Call.mk (pushJ _ 7 x.C.bu c (by omega) (fun L hL=>by have:=h.lb L hL; omega) [v] (by simp) (by simp) rfl (by simp)) ?_
   rintro d os' ⟨rfl,ho⟩
   rw [pyA_bu (X:=x.C.bu.set c (qAt x.C.bu c ++ [v])) (List.length_set ..)] at ho
   subst ho
   refine goA ?_
   exact Ret.mk [.tmp 10,.tmp 11] rfl ⟨rfl,rfl⟩
  ·have hR:sendC x.C c room t v = ({ x.C with sq:=x.C.sq.set c (qAt x.C.sq c ++ [t,v]) },-1,false):=by unfold sendC; rw [hq]; exact if_neg hc2
   rw [hR]
   refine Spec.by Tryz.func192 rfl (by decide) (by decide +kernel) rfl ?_
   refine goA ?_
   refine Opt.of hgr ?_
   refine goA ?_
   refine Opt.of hgb ?_
   refine goA ?_
   refine App.only false rfl rfl ?_
   refine goA ?_
   refine Call.mk (pushJ _ 8 x.C.sq c (by omega) (fun L hL=>by have:=(h.ls L hL).1; omega) [t,v] (by simp) (by simp) rfl (by simp)) ?_
   rintro d os' ⟨rfl,ho⟩
   rw [pyA_sq (X:=x.C.sq.set c (qAt x.C.sq c ++ [t,v])) (List.length_set ..)] at ho
   subst ho
   refine goA ?_
   exact Ret.mk [.tmp 10,.tmp 11] rfl ⟨rfl,rfl⟩
theorem selP_sel (e:En) (x:Xs) (l:List Int) (t:Int):(selP (py e x) l t).2 = (selC x.C l t).2∧(selP (py e x) l t).1 = py e (inC x (selC x.C l t).1):=by
 cases hp:pickB x.C.bu x.C.sq l with
 | none =>
  have h1:selP (py e x) l t = ({ (py e x) with rq:=pushAll t l (py e x).rq },-1,0,-1,false):=by
   unfold selP
   rw [show pickB (py e x).bu (py e x).sq l = none from hp]
  have h2:selC x.C l t = ({ x.C with rq:=pushAll t l x.C.rq },-1,0,-1,false):=by
   unfold selC
   rw [hp]
  rw [h1,h2]
  exact ⟨rfl,rfl⟩
 | some i =>
  have h1:selP (py e x) l t = ({ (py e x) with bu:=(takeB x.C.bu x.C.sq (l.getD i 0).toNat).1,sq:=(takeB x.C.bu x.C.sq (l.getD i 0).toNat).2.1 },(i:Int),(takeB x.C.bu x.C.sq (l.getD i 0).toNat).2.2.1,(takeB x.C.bu x.C.sq (l.getD i 0).toNat).2.2.2,true):=by
   unfold selP
   rw [show pickB (py e x).bu (py e x).sq l = some i from hp]
   rfl
  have h2:selC x.C l t = ({ x.C with bu:=(takeB x.C.bu x.C.sq (l.getD i 0).toNat).1,sq:=(takeB x.C.bu x.C.sq (l.getD i 0).toNat).2.1 },(i:Int),(takeB x.C.bu x.C.sq (l.getD i 0).toNat).2.2.1,(takeB x.C.bu x.C.sq (l.getD i 0).toNat).2.2.2,true):=by
   unfold selC
   rw [hp]
  rw [h1,h2]
  exact ⟨rfl,rfl⟩
theorem sel196X {e:En} {x:Xs} {nc:Nat} (hl:LkL e.nm e.nw e.ns x.C.L) (h:ChX nc x) (l:List Int) (hll:l.length≤10) (hc:∀ c ∈ l,∃ k:Nat,c = k∧k < nc) (t:Int):Spec Tryz.prog 196 [lkP,ints l,.int .i64 t] (pyA e x) (fun d os'=>d = .tup [.int .i64 (selC x.C l t).2.1,.int .i64 (selC x.C l t).2.2.1,.int .i64 (selC x.C l t).2.2.2.1,.bool (selC x.C l t).2.2.2.2]∧os' = pyA e (inC x (selC x.C l t).1)):=by
 have hs:=sel196 (S:=x.C.L) hl (h.p (e:=e)) l hll hc t
 obtain ⟨h1,h2⟩:=selP_sel e x l t
 rw [h1,h2] at hs
 refine hs.mono ?_
 rintro d os' ⟨rfl,rfl⟩
 refine ⟨rfl,?_⟩
 have hL:(selC x.C l t).1.L = x.C.L:=by unfold selC; split <;> rfl
 show lkO (e.A (inC x (selC x.C l t).1) 10 11) e.nm e.nw e.ns x.C.L _ = lkO (e.A (inC x (selC x.C l t).1) 10 11) e.nm e.nw e.ns (selC x.C l t).1.L _
 rw [hL]
 rfl
theorem recv195X {e:En} {x:Xs} {nc:Nat} (hl:LkL e.nm e.nw e.ns x.C.L) (h:ChX nc x) (c:Nat) (hc:c < nc) (t:Int):Spec Tryz.prog 195 [lkP,.int .i64 c,.int .i64 t] (pyA e x) (fun d os'=>d = .tup [.int .i64 (selC x.C [(c:Int)] t).2.2.1,.int .i64 (selC x.C [(c:Int)] t).2.2.2.1,.bool (selC x.C [(c:Int)] t).2.2.2.2]∧os' = pyA e (inC x (selC x.C [(c:Int)] t).1)):=by
 have hs:=recv195 (S:=x.C.L) hl (h.p (e:=e)) c hc t
 obtain ⟨h1,h2⟩:=selP_sel e x [(c:Int)] t
 rw [h1,h2] at hs
 refine hs.mono ?_
 rintro d os' ⟨rfl,rfl⟩
 refine ⟨rfl,?_⟩
 have hL:(selC x.C [(c:Int)] t).1.L = x.C.L:=by unfold selC; split <;> rfl
 show lkO (e.A (inC x (selC x.C [(c:Int)] t).1) 10 11) e.nm e.nw e.ns x.C.L _ = lkO (e.A (inC x (selC x.C [(c:Int)] t).1) 10 11) e.nm e.nw e.ns (selC x.C [(c:Int)] t).1.L _
 rw [hL]
 rfl
theorem sent194 {e:En} {b w:Nat} {x:Xs} (hx:XB 100 b w x) (hb:b≤40000) {t:Int} (ht:0≤t→t.toNat < x.C.th.length) (hz:LkZ e.nm e.nw e.ns x.C.L) (v:Int) :
  Spec Tryz.prog 194 [.ptr 5 0 20 0 0,.int .i64 t,.int .i64 v] (pyA e x) (fun d os'=>d = .tup []∧os' = pyB e (wakeF x t [v])):=by
 by_cases h0:0≤t
 ·refine Spec.by Tryz.func194 rfl (by decide) (by decide +kernel) rfl ?_
  refine goA ?_
  refine App.only false rfl rfl ?_
  refine goA ?_
  refine Call.mk (wakeF185 hx hb ht hz [v] (by simp)) ?_
  rintro d os' ⟨rfl,rfl⟩
  refine goA ?_
  exact Ret.mk [] rfl ⟨rfl,rfl⟩
 ·rw [show wakeF x t [v] = x from if_pos (by omega)]
  refine Spec.by Tryz.func194 rfl (by decide) (by decide +kernel) rfl ?_
  refine goA ?_
  refine Ret.weak (Weak.on [] (pyA e x)) ?_
  refine Ret.weak (liftAB [] rfl rfl) ?_
  exact Ret.mk [] rfl ⟨rfl,rfl⟩
theorem xb_inC {b w:Nat} {x:Xs} (h:XB 100 b w x) {C:Cr} (hC:C.th = x.C.th):XB 100 b w (inC x C) :=
 ⟨by show nj C≤100; unfold nj; rw [hC]; exact h.jn,by show C.th.length≤100; rw [hC]; exact h.tl,by show ∀ f ∈ C.th,okT f; rw [hC]; exact h.th,by show x.ev.length+nj C≤b; unfold nj; rw [hC]; exact h.ev,by show x.wp.length+nj C≤b; unfold nj; rw [hC]; exact h.wp,by show x.wk.length+nj C≤w; unfold nj; rw [hC]; exact h.wk⟩
theorem sendC_th (C:Cr) (c:Nat) (room t v:Int):(sendC C c room t v).1.th = C.th∧(sendC C c room t v).1.L = C.L:=by
 unfold sendC
 split
 ·exact ⟨rfl,rfl⟩
 ·split <;> exact ⟨rfl,rfl⟩
theorem selC_th (C:Cr) (l:List Int) (t:Int):(selC C l t).1.th = C.th∧(selC C l t).1.L = C.L:=by
 unfold selC
 split <;> exact ⟨rfl,rfl⟩
structure GC (e:En) (nc:Nat) (x:Xs):Prop where
 ch:e.g.ch.length = nc
 cs:∀ l ∈ e.g.cs,l.length≤10∧∀ v ∈ l,∃ k:Nat,v = k∧k < nc
theorem send119 {e:En} {x:Xs} {nc:Nat} (h:EO e x) (hc:ChX nc x) (hg:GC e nc x) (q:Rq) (hq:0≤q.a∧q.a < nc)
  (hn:0≤(sendC x.C q.a.toNat (e.g.ch.getD q.a.toNat 0) e.t q.v).2.1→(sendC x.C q.a.toNat (e.g.ch.getD q.a.toNat 0) e.t q.v).2.1.toNat < x.C.th.length ∧
   ((thAt x.C (sendC x.C q.a.toNat (e.g.ch.getD q.a.toNat 0) e.t q.v).2.1.toNat).st = 8→0≤(thAt x.C (sendC x.C q.a.toNat (e.g.ch.getD q.a.toNat 0) e.t q.v).2.1.toNat).on∧(thAt x.C (sendC x.C q.a.toNat (e.g.ch.getD q.a.toNat 0) e.t q.v).2.1.toNat).on < e.g.cs.length)) :
  Spec Tryz.prog 119 [.ptr 5 0 20 0 0,rqD q] (pyA e x) (fun d os'=>d = .tup []∧os' = pyB e (sendX e.g x e.t q.a q.v)):=by
 obtain ⟨kd,qa,v⟩:=q
 dsimp only at hq hn
 obtain ⟨a,rfl⟩:∃ a:Nat,qa = (a:Int):=⟨qa.toNat,by omega⟩
 rw [Int.toNat_natCast] at hn
 have hchl:=hg.ch
 have hcm:(e.g.ch.map (D.int .i64)).length = e.g.ch.length:=List.length_map ..
 have hcsm:(e.g.cs.map ints).length = e.g.cs.length:=List.length_map ..
 have hgc:(e.g.ch.map (D.int .i64))[a]? = some (.int .i64 (e.g.ch.getD a 0)):=by
  rw [List.getElem?_map,List.getD_eq_getElem?_getD,List.getElem?_eq_getElem (by omega)]; rfl
 obtain ⟨room,hroom⟩:∃ r,e.g.ch.getD a 0 = r:=⟨_,rfl⟩
 have hs:=upKA (qK ⟨kd,a,v⟩) (send192 (e:=e) hc a (by omega) room e.t v) rfl rfl
 obtain ⟨hth,hLL⟩:=sendC_th x.C a room e.t v
 unfold sendX
 dsimp only
 rw [Int.toNat_natCast]
 rw [hroom] at hgc hn ⊢
 obtain ⟨⟨C',f,b⟩,hT⟩:∃ r,sendC x.C a room e.t v = r:=⟨_,rfl⟩
 rw [hT] at hs hn hth hLL ⊢
 dsimp only at hs hn hth hLL ⊢
 have hxb:=xb_inC h.xb hth
 have hz:LkZ e.nm e.nw e.ns (inC x C').C.L:=by show LkZ _ _ _ C'.L; rw [hLL]; exact h.L.z
 have htl:e.t < (inC x C').C.th.length:=by show e.t < C'.th.length; rw [hth]; exact h.tl
 have hlen:(inC x C').C.th.length = x.C.th.length:=by show C'.th.length = _; rw [hth]
 have hat:∀ k,thAt C' k = thAt x.C k:=fun k=>by unfold thAt; rw [hth]
 have hm:((inC x C').C.th.map thD).length = (inC x C').C.th.length:=List.length_map ..
 cases b with
 | false =>
  rw [if_pos rfl]
  refine Spec.by Tryz.func119 rfl (by decide) (by decide +kernel) rfl ?_
  refine goA ?_
  refine Opt.of hgc ?_
  refine goA ?_
  refine Call.mk hs ?_
  rintro d os' ⟨rfl,rfl⟩
  refine goA ?_
  refine Call.mk (restG (e:=e) (x:=inC x C') htl 6 a 10 11 [rowE x.ev,rowI x.wp,qK ⟨kd,a,v⟩]) ?_
  rintro d os' ⟨rfl,rfl⟩
  refine goA ?_
  refine Ret.weak (Weak.on [] (pyK e (restX (inC x C') e.t 6 a) (qK ⟨kd,a,v⟩))) ?_
  refine Ret.weak lowA ?_
  exact Ret.mk [] rfl ⟨rfl,rfl⟩
 | true =>
  rw [if_neg (by simp)]
  by_cases hf:f < 0
  ·rw [if_pos hf]
   have hw:=upK (qK ⟨kd,a,v⟩) (sent194 (e:=e) hxb (by omega) (t:=f) (fun h=>by omega) hz v) rfl rfl
   rw [show wakeF (inC x C') f [v] = inC x C' from if_pos hf] at hw
   refine Spec.by Tryz.func119 rfl (by decide) (by decide +kernel) rfl ?_
   refine goA ?_
   refine Opt.of hgc ?_
   refine goA ?_
   refine Call.mk hs ?_
   rintro d os' ⟨rfl,rfl⟩
   refine goA ?_
   refine Call.mk hw ?_
   rintro d os' ⟨rfl,rfl⟩
   refine goA ?_
   refine Ret.weak (Weak.on [] (pyKB e (inC x C') (qK ⟨kd,a,v⟩))) ?_
   refine Ret.weak (lowK [] (.inl rfl)) ?_
   exact Ret.mk [] rfl ⟨rfl,rfl⟩
  ·rw [if_neg hf]
   obtain ⟨k,rfl⟩:∃ k:Nat,f = (k:Int):=⟨f.toNat,by omega⟩
   rw [Int.toNat_natCast] at hn ⊢
   obtain ⟨hn1,hn2⟩:=hn (by omega)
   have hgk:=th_at (C:=(inC x C').C) (t:=k) (by rw [hlen]; exact hn1)
   rw [show thAt (inC x C').C k = thAt x.C k from hat k] at hgk
   rw [hat k]
   by_cases h8:(thAt x.C k).st = 8
   ·rw [if_pos h8]
    obtain ⟨ho0,ho1⟩:=hn2 h8
    obtain ⟨on,hon⟩:∃ on:Nat,(thAt x.C k).on = (on:Int):=⟨(thAt x.C k).on.toNat,by omega⟩
    have hon2:(thAt x.C k).on.toNat = on:=by omega
    rw [hon2]
    have hgo:(e.g.cs.map ints)[(thAt x.C k).on.toNat]? = some (ints (qAt e.g.cs on)):=by rw [hon2]; exact get_map (qAt_get _ _ (by omega))
    have hcl:=(hg.cs _ (qAt_mem (l:=e.g.cs) (m:=on) (by omega))).1
    have hi:=index193 (qAt e.g.cs on) a (by omega)
    have hidx:idxD ((qAt e.g.cs on).findIdx? (fun x=>decide ((a:Int) = x))) = .int .i64 (idxI (qAt e.g.cs on) a):=by unfold idxI; rfl
    rw [hidx] at hi
    refine Spec.by Tryz.func119 rfl (by decide) (by decide +kernel) rfl ?_
    refine goA ?_
    refine Opt.of hgc ?_
    refine goA ?_
    refine Call.mk hs ?_
    rintro d os' ⟨rfl,rfl⟩
    refine goA ?_
    refine Opt.of hgk ?_
    refine goA ?_
    refine Opt.of hgk ?_
    refine goA ?_
    refine Opt.of hgo ?_
    refine goA ?_
    refine Call.mk ((hi).only _ rfl (by rintro d rfl; rfl)) ?_; rintro d os' ⟨rfl,rfl⟩
    refine goA ?_
    refine App.only false rfl rfl ?_
    refine goA ?_
    refine Call.mk (upK (qK ⟨kd,a,v⟩) (wakeF185 (e:=e) hxb (by omega) (t:=(k:Int)) (fun _=>by rw [hlen]; exact hn1) hz [v,idxI (qAt e.g.cs on) a] (by simp)) rfl rfl) ?_
    rintro d os' ⟨rfl,rfl⟩
    refine goA ?_
    refine Ret.weak (Weak.on [] (pyKB e (wakeF (inC x C') k [v,idxI (qAt e.g.cs on) a]) (qK ⟨kd,a,v⟩))) ?_
    refine Ret.weak (lowK [] (.inl rfl)) ?_
    exact Ret.mk [] rfl ⟨rfl,rfl⟩
   ·rw [if_neg h8]
    refine Spec.by Tryz.func119 rfl (by decide) (by decide +kernel) rfl ?_
    refine goA ?_
    refine Opt.of hgc ?_
    refine goA ?_
    refine Call.mk hs ?_
    rintro d os' ⟨rfl,rfl⟩
    refine goA ?_
    refine Opt.of hgk ?_
    refine goA ?_
    refine Call.mk (upK (qK ⟨kd,a,v⟩) (sent194 (e:=e) hxb (by omega) (t:=(k:Int)) (fun _=>by rw [hlen]; exact hn1) hz v) rfl rfl) ?_
    rintro d os' ⟨rfl,rfl⟩
    refine goA ?_
    refine Ret.weak (Weak.on [] (pyKB e (wakeF (inC x C') k [v]) (qK ⟨kd,a,v⟩))) ?_
    refine Ret.weak (lowK [] (.inl rfl)) ?_
    exact Ret.mk [] rfl ⟨rfl,rfl⟩
theorem lowKs {e:En} {x:Xs} {o:O} (k:Int):Weak 12 { m:=[(0,.ptr 5 0 20 0 0),(5,.int .i64 k)],objs:=pyKB e x (one o) } { m:=[(0,.ptr 5 0 20 0 0),(5,.int .i64 k)],objs:=pyB e x }:=by
 refine Weak.trans (Weak.dropAt 12 (bl rfl)) ?_
 refine Weak.shf 13 12 (Weak.shf 14 13 ?_)
 exact Weak.fin 14
theorem lowKs6 {e:En} {x:Xs} {o:O} (k:Int):Weak 12 { m:=[(0,.ptr 5 0 20 0 0),(6,.int .i64 k)],objs:=pyKB e x (one o) } { m:=[(0,.ptr 5 0 20 0 0),(6,.int .i64 k)],objs:=pyB e x }:=by
 refine Weak.trans (Weak.dropAt 12 (bl rfl)) ?_
 refine Weak.shf 13 12 (Weak.shf 14 13 ?_)
 exact Weak.fin 14
theorem tellF_len (x:Xs) {t:Nat} (l:List Int) (h0:t < x.C.th.length→(thAt x.C t).st = 0):(tellF x t l).C.th.length = x.C.th.length:=(tell_tame (end_tame 100) x t l h0).len
theorem recv120 {e:En} {x:Xs} {nc:Nat} (h:EO e x) (hc:ChX nc x) (h0:(thAt x.C e.t).st = 0) (q:Rq) (hq:0≤q.a∧q.a < nc)
  (hn:0≤(selC x.C [q.a] e.t).2.2.2.1→(selC x.C [q.a] e.t).2.2.2.1.toNat < x.C.th.length) :
  Spec Tryz.prog 120 [.ptr 5 0 20 0 0,rqD q] (pyA e x) (fun d os'=>d = .tup []∧os' = pyB e (recvX x e.t q.a)):=by
 obtain ⟨kd,qa,v⟩:=q
 dsimp only at hq hn
 obtain ⟨a,rfl⟩:∃ a:Nat,qa = (a:Int):=⟨qa.toNat,by omega⟩
 have hs:=upKA (qK ⟨kd,a,v⟩) (recv195X (e:=e) h.L hc a (by omega) e.t) rfl rfl
 obtain ⟨hth,hLL⟩:=selC_th x.C [(a:Int)] e.t
 unfold recvX
 dsimp only
 obtain ⟨⟨C',i,w,s,b⟩,hT⟩:∃ r,selC x.C [(a:Int)] e.t = r:=⟨_,rfl⟩
 rw [hT] at hs hn hth hLL ⊢
 dsimp only at hs hn hth hLL ⊢
 have hxb:=xb_inC h.xb hth
 have hz:LkZ e.nm e.nw e.ns (inC x C').C.L:=by show LkZ _ _ _ C'.L; rw [hLL]; exact h.L.z
 have hlen:(inC x C').C.th.length = x.C.th.length:=by show C'.th.length = _; rw [hth]
 have htl:e.t < (inC x C').C.th.length:=by rw [hlen]; exact h.tl
 have hat:thAt (inC x C').C e.t = thAt x.C e.t:=by show thAt C' e.t = _; unfold thAt; rw [hth]
 cases b with
 | false =>
  rw [if_pos rfl]
  refine Spec.by Tryz.func120 rfl (by decide) (by decide +kernel) rfl ?_
  refine goA ?_
  refine Call.mk hs ?_
  rintro d os' ⟨rfl,rfl⟩
  refine goA ?_
  refine Call.mk (restG (e:=e) (x:=inC x C') htl 7 a 10 11 [rowE x.ev,rowI x.wp,qK ⟨kd,a,v⟩]) ?_
  rintro d os' ⟨rfl,rfl⟩
  refine goA ?_
  refine Ret.weak (Weak.on [] (pyK e (restX (inC x C') e.t 7 a) (qK ⟨kd,a,v⟩))) ?_
  refine Ret.weak lowA ?_
  exact Ret.mk [] rfl ⟨rfl,rfl⟩
 | true =>
  rw [if_neg (by simp)]
  have htame:=tell_tame (end_tame 100) (inC x C') e.t [w] (fun _=>by rw [hat]; exact h0)
  have hxb2:=(tell_xb (end_xb 100) hxb htl [w]).1
  have hl2:(tellF (inC x C') e.t [w]).C.th.length = x.C.th.length:=by rw [← hlen]; exact htame.len
  have hz2:LkZ e.nm e.nw e.ns (tellF (inC x C') e.t [w]).C.L:=by
   have:(tellF (inC x C') e.t [w]).C.L = (inC x C').C.L:=by show (tellE (endX 100) (inC x C') e.t [w]).1.C.L = _; rw [htame.rest]
   rw [this]; exact hz
  refine Spec.by Tryz.func120 rfl (by decide) (by decide +kernel) rfl ?_
  refine goA ?_
  refine Call.mk hs ?_
  rintro d os' ⟨rfl,rfl⟩
  refine goA ?_
  refine App.only false rfl rfl ?_
  refine goA ?_
  refine Call.mk (upK (qK ⟨kd,a,v⟩) (tellF181 (e:=e) hxb (by omega) htl hz [w] (by simp)) rfl rfl) ?_
  rintro d os' ⟨rfl,rfl⟩
  refine goR ?_
  refine Pt.weak (Weak.on [(0,.ptr 5 0 20 0 0),(5,.int .i64 s)] (pyKB e (tellF (inC x C') e.t [w]) (qK ⟨kd,a,v⟩))) ?_
  refine Pt.weak (lowKs s) ?_
  refine goA ?_
  refine Call.mk (up1 (wakeN185 (e:=e) hxb2 (by omega) (t:=s) (fun hh=>by show s.toNat < (tellF (inC x C') e.t [w]).C.th.length; rw [hl2]; exact hn hh) hz2) rfl rfl) ?_
  rintro d os' ⟨rfl,rfl⟩
  refine goA ?_
  refine Ret.weak (Weak.on [] (pyC e (wakeF (tellF (inC x C') e.t [w]) s []))) ?_
  refine Ret.weak (lowCB [] (.inl rfl)) ?_
  exact Ret.mk [] rfl ⟨rfl,rfl⟩
theorem choose121 {e:En} {x:Xs} {nc:Nat} (h:EO e x) (hc:ChX nc x) (hg:GC e nc x) (h0:(thAt x.C e.t).st = 0) (q:Rq) (hq:0≤q.a∧q.a < e.g.cs.length)
  (hn:0≤(selC x.C (qAt e.g.cs q.a.toNat) e.t).2.2.2.1→(selC x.C (qAt e.g.cs q.a.toNat) e.t).2.2.2.1.toNat < x.C.th.length) :
  Spec Tryz.prog 121 [.ptr 5 0 20 0 0,rqD q] (pyA e x) (fun d os'=>d = .tup []∧os' = pyB e (chooseX e.g x e.t q.a)):=by
 obtain ⟨kd,qa,v⟩:=q
 dsimp only at hq hn
 obtain ⟨a,rfl⟩:∃ a:Nat,qa = (a:Int):=⟨qa.toNat,by omega⟩
 rw [Int.toNat_natCast] at hn
 have hcsm:(e.g.cs.map ints).length = e.g.cs.length:=List.length_map ..
 have hgo:(e.g.cs.map ints)[a]? = some (ints (qAt e.g.cs a)):=get_map (qAt_get _ _ (by omega))
 obtain ⟨hcl,hcv⟩:=hg.cs _ (qAt_mem (l:=e.g.cs) (m:=a) (by omega))
 have hs:=upKA (qK ⟨kd,a,v⟩) (sel196X (e:=e) h.L hc (qAt e.g.cs a) hcl hcv e.t) rfl rfl
 obtain ⟨hth,hLL⟩:=selC_th x.C (qAt e.g.cs a) e.t
 unfold chooseX
 dsimp only
 rw [Int.toNat_natCast]
 obtain ⟨⟨C',i,w,s,b⟩,hT⟩:∃ r,selC x.C (qAt e.g.cs a) e.t = r:=⟨_,rfl⟩
 rw [hT] at hs hn hth hLL ⊢
 dsimp only at hs hn hth hLL ⊢
 have hxb:=xb_inC h.xb hth
 have hz:LkZ e.nm e.nw e.ns (inC x C').C.L:=by show LkZ _ _ _ C'.L; rw [hLL]; exact h.L.z
 have hlen:(inC x C').C.th.length = x.C.th.length:=by show C'.th.length = _; rw [hth]
 have htl:e.t < (inC x C').C.th.length:=by rw [hlen]; exact h.tl
 have hat:thAt (inC x C').C e.t = thAt x.C e.t:=by show thAt C' e.t = _; unfold thAt; rw [hth]
 cases b with
 | false =>
  rw [if_pos rfl]
  refine Spec.by Tryz.func121 rfl (by decide) (by decide +kernel) rfl ?_
  refine goA ?_
  refine Opt.of hgo ?_
  refine goA ?_
  refine Call.mk hs ?_
  rintro d os' ⟨rfl,rfl⟩
  refine goA ?_
  refine Call.mk (restG (e:=e) (x:=inC x C') htl 8 a 10 11 [rowE x.ev,rowI x.wp,qK ⟨kd,a,v⟩]) ?_
  rintro d os' ⟨rfl,rfl⟩
  refine goA ?_
  refine Ret.weak (Weak.on [] (pyK e (restX (inC x C') e.t 8 a) (qK ⟨kd,a,v⟩))) ?_
  refine Ret.weak lowA ?_
  exact Ret.mk [] rfl ⟨rfl,rfl⟩
 | true =>
  rw [if_neg (by simp)]
  have htame:=tell_tame (end_tame 100) (inC x C') e.t [w,i] (fun _=>by rw [hat]; exact h0)
  have hxb2:=(tell_xb (end_xb 100) hxb htl [w,i]).1
  have hl2:(tellF (inC x C') e.t [w,i]).C.th.length = x.C.th.length:=by rw [← hlen]; exact htame.len
  have hz2:LkZ e.nm e.nw e.ns (tellF (inC x C') e.t [w,i]).C.L:=by
   have:(tellF (inC x C') e.t [w,i]).C.L = (inC x C').C.L:=by show (tellE (endX 100) (inC x C') e.t [w,i]).1.C.L = _; rw [htame.rest]
   rw [this]; exact hz
  refine Spec.by Tryz.func121 rfl (by decide) (by decide +kernel) rfl ?_
  refine goA ?_
  refine Opt.of hgo ?_
  refine goA ?_
  refine Call.mk hs ?_
  rintro d os' ⟨rfl,rfl⟩
  refine goA ?_
  refine App.only false rfl rfl ?_
  refine goA ?_
  refine Call.mk (upK (qK ⟨kd,a,v⟩) (tellF181 (e:=e) hxb (by omega) htl hz [w,i] (by simp)) rfl rfl) ?_
  rintro d os' ⟨rfl,rfl⟩
  refine goR ?_
  refine Pt.weak (Weak.on [(0,.ptr 5 0 20 0 0),(6,.int .i64 s)] (pyKB e (tellF (inC x C') e.t [w,i]) (qK ⟨kd,a,v⟩))) ?_
  refine Pt.weak (lowKs6 s) ?_
  refine goA ?_
  refine Call.mk (up1 (wakeN185 (e:=e) hxb2 (by omega) (t:=s) (fun hh=>by show s.toNat < (tellF (inC x C') e.t [w,i]).C.th.length; rw [hl2]; exact hn hh) hz2) rfl rfl) ?_
  rintro d os' ⟨rfl,rfl⟩
  refine goA ?_
  refine Ret.weak (Weak.on [] (pyC e (wakeF (tellF (inC x C') e.t [w,i]) s []))) ?_
  refine Ret.weak (lowCB [] (.inl rfl)) ?_
  exact Ret.mk [] rfl ⟨rfl,rfl⟩
@[reducible] def En.AT (e:En) (x:Xs) (k i j:Nat):Pyl:=⟨e.g,x.C.now,(e.t:Int),.sl k 0 5 0 x.C.th.length none,.sl 7 0 1 0 x.C.bu.length none,.sl 8 0 1 0 x.C.sq.length none,.sl 9 0 1 0 x.C.rq.length none,.sl i 0 3 0 x.ev.length none,.sl j 0 1 0 x.wp.length none⟩
@[reducible] def pyT (e:En) (x:Xs) (k i j:Nat) (r:Objs):Objs:=lkO (e.AT x k i j) e.nm e.nw e.ns x.C.L (one .gone :: rowC x.C.bu :: rowC x.C.sq :: rowC x.C.rq :: r)
@[reducible] def pyL (e:En) (x:Xs):Objs:=pyT e x 12 10 11 [rowE x.ev,rowI x.wp,rowT x.C.th]
@[reducible] def pyZ (e:En) (x:Xs):Objs:=pyT e x 12 13 14 [one .gone,one .gone,rowT x.C.th,rowE x.ev,rowI x.wp]
@[reducible] def pyZ2 (e:En) (x:Xs):Objs:=pyT e x 12 15 16 [one .gone,one .gone,rowT x.C.th,one .gone,one .gone,rowE x.ev,rowI x.wp]
@[reducible] def sgL:List (Nat × Nat):=[(0,0),(1,0),(2,0),(3,0),(4,0),(5,0),(12,0),(7,0),(8,0),(9,0),(10,0),(11,0)]
@[reducible] def sgZ:List (Nat × Nat):=[(0,0),(1,0),(2,0),(3,0),(4,0),(5,0),(12,0),(7,0),(8,0),(9,0),(13,0),(14,0)]
theorem upL {e:En} {x y:Xs} {f:FuncId} {xs:List D} {d:D} (h:Spec Tryz.prog f (.ptr 5 0 20 0 0 :: xs) (pyA e x) (fun d' os'=>d' = d∧os' = pyB e y)) (hp:D.pureL xs = true) (hd:d.pure = true):Spec Tryz.prog f (.ptr 5 0 20 0 0 :: xs) (pyL e x) (fun d' os'=>d' = d∧os' = pyZ e y):=by
 obtain ⟨a1,a2⟩:=args_up sgL 13 rfl (by decide) hp
 have:=h.frame (pyL e x) sgL rfl (by decide) (allQ_get0 (Q:=FrQ (pyL e x) (pyA e x) sgL) ⟨⟨bl rfl,rfl,rfl,fun j hj=>one_pos _ hj⟩,⟨bl rfl,rfl,rfl,fun j hj=>one_pos _ hj⟩,⟨bl rfl,rfl,rfl,fun j hj=>one_pos _ hj⟩,⟨bl rfl,rfl,rfl,fun j hj=>one_pos _ hj⟩,⟨bl rfl,rfl,rfl,fun j hj=>one_pos _ hj⟩,⟨bl rfl,rfl,rfl,fun j hj=>one_pos _ hj⟩,⟨bl rfl,rfl,rfl,fun j hj=>one_pos _ hj⟩,⟨bl rfl,rfl,rfl,fun j hj=>one_pos _ hj⟩,⟨bl rfl,rfl,rfl,fun j hj=>one_pos _ hj⟩,⟨bl rfl,rfl,rfl,fun j hj=>one_pos _ hj⟩,⟨bl rfl,rfl,rfl,fun j hj=>one_pos _ hj⟩,⟨bl rfl,rfl,rfl,fun j hj=>one_pos _ hj⟩,trivial⟩) a2
 rw [show (pyL e x).length = 13 from rfl,a1] at this
 refine this.mono ?_
 rintro d' os' ⟨d1,os1,⟨rfl,rfl⟩,rfl,rfl⟩
 refine ⟨mapId_pure _ _ hd,?_⟩
 kernel_rfl
theorem upZ {e:En} {x y:Xs} {f:FuncId} {xs:List D} {d:D} (h:Spec Tryz.prog f (.ptr 5 0 20 0 0 :: xs) (pyA e x) (fun d' os'=>d' = d∧os' = pyB e y)) (hp:D.pureL xs = true) (hd:d.pure = true):Spec Tryz.prog f (.ptr 5 0 20 0 0 :: xs) (pyZ e x) (fun d' os'=>d' = d∧os' = pyZ2 e y):=by
 obtain ⟨a1,a2⟩:=args_up sgZ 15 rfl (by decide) hp
 have:=h.frame (pyZ e x) sgZ rfl (by decide) (allQ_get0 (Q:=FrQ (pyZ e x) (pyA e x) sgZ) ⟨⟨bl rfl,rfl,rfl,fun j hj=>one_pos _ hj⟩,⟨bl rfl,rfl,rfl,fun j hj=>one_pos _ hj⟩,⟨bl rfl,rfl,rfl,fun j hj=>one_pos _ hj⟩,⟨bl rfl,rfl,rfl,fun j hj=>one_pos _ hj⟩,⟨bl rfl,rfl,rfl,fun j hj=>one_pos _ hj⟩,⟨bl rfl,rfl,rfl,fun j hj=>one_pos _ hj⟩,⟨bl rfl,rfl,rfl,fun j hj=>one_pos _ hj⟩,⟨bl rfl,rfl,rfl,fun j hj=>one_pos _ hj⟩,⟨bl rfl,rfl,rfl,fun j hj=>one_pos _ hj⟩,⟨bl rfl,rfl,rfl,fun j hj=>one_pos _ hj⟩,⟨bl rfl,rfl,rfl,fun j hj=>one_pos _ hj⟩,⟨bl rfl,rfl,rfl,fun j hj=>one_pos _ hj⟩,trivial⟩) a2
 rw [show (pyZ e x).length = 15 from rfl,a1] at this
 refine this.mono ?_
 rintro d' os' ⟨d1,os1,⟨rfl,rfl⟩,rfl,rfl⟩
 refine ⟨mapId_pure _ _ hd,?_⟩
 kernel_rfl
theorem lowZ2 {e:En} {x:Xs}:Weak 12 { m:=[],objs:=pyZ2 e x } { m:=[],objs:=pyZ e x }:=by
 refine Weak.shf 15 13 (Weak.shf 16 14 ?_)
 exact Weak.fin 15
theorem Spec.toZ {e:En} {x y:Xs} {f:FuncId} {args:List D} (h:Spec Tryz.prog f args (pyA e x) (fun d os'=>d = .tup []∧os' = pyB e y)):Spec Tryz.prog f args (pyA e x) (fun d os'=>d = .tup []∧os' = pyZ e y):=by
 refine Spec.weak h ?_
 rintro d os' ⟨rfl,rfl⟩
 refine ⟨[(0,.tup [])],pyZ e y,?_,rfl,rfl⟩
 refine Weak.trans Weak.gone ?_
 refine Weak.trans (Weak.move 13 14 (by decide) (bl rfl) (bl rfl) (bl rfl) (fun j=>by cases j <;> rfl) rfl rfl) ?_
 refine Weak.trans (Weak.move 12 13 (by decide) (bl rfl) (bl rfl) (bl rfl) (fun j=>by cases j <;> rfl) rfl rfl) ?_
 refine Weak.trans (Weak.move 6 12 (by decide) (bl rfl) (bl rfl) (bl rfl) (fun j=>by cases j <;> rfl) rfl rfl) ?_
 exact Weak.on [(0,.tup [])] (pyZ e y)
end Go.Proofs.YtkceciebmkklpaaGreat.V
