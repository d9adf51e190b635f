/- C3: a text of a symbolic executor that is proved sound, and contracts that are proved with it. -/
import Derived.Test.YtkceciebmkklpaaGreatVA
import Derived.Test.YtkceciebmkklpaaGreatVB
import Derived.Test.YtkceciebmkklpaaGreatVT
import Derived.Test.YtkceciebmkklpaaGreatVC
import Derived.Test.YtkceciebmkklpaaGreatC0
import Derived.Test.YtkceciebmkklpaaGreatC1
import Derived.Test.YtkceciebmkklpaaGreatC2
set_option linter.unusedVariables false
set_option linter.unusedSimpArgs false
namespace Go.Proofs.YtkceciebmkklpaaGreat.V
open Go Go.Proofs
set_option maxRecDepth 100000
set_option maxHeartbeats 40000000
theorem seeX_xb {b w:Nat} {x:Xs} (h:XB 100 b w x) (k n:Int) (t:Nat):XB 100 (b+1) w (seeX x k t n) :=
 ⟨h.jn,h.tl,h.th,by show (x.ev ++ [_]).length+nj x.C≤b+1; rw [List.length_append,List.length_singleton]; have:=h.ev; omega,by have:=h.wp; show x.wp.length+nj x.C≤b+1; omega,h.wk⟩
theorem newT_okT (g:Pg) (f:Nat) (u:Fu) (hu:g.fu[f]? = some u) (h0:0≤u.loc∧u.loc≤3):newT g f = ⟨0,0,[⟨f,0,List.replicate u.loc.toNat 0⟩],[],0⟩∧okT (newT g f):=by
 have e:newT g f = ⟨0,0,[⟨f,0,List.replicate u.loc.toNat 0⟩],[],0⟩:=by
  unfold newT newFm
  rw [Int.toNat_natCast,hu]; rfl
 refine ⟨e,?_⟩
 rw [e]
 refine ⟨by show (0:Nat)≤16; omega,⟨by show (1:Nat) * _≤_; omega,by show (0:Nat)≤_; omega,fun f hf=>?_⟩⟩
 simp only [List.mem_singleton] at hf
 subst hf
 show (List.replicate u.loc.toNat (0:Int)).length * 8≤_
 rw [List.length_replicate]; omega
theorem nj_app (C:Cr) (f:Th) (hf:f.st ≠ 2):nj { C with th:=C.th ++ [f] } = nj C:=by
 unfold nj
 simp [hf]
theorem lowKp {e:En} {x:Xs} {o:O}:Weak 12 { m:=[(0,.ptr 5 0 20 0 0),(5,.ptr 5 0 20 0 0)],objs:=pyKB e x (one o) } { m:=[(0,.ptr 5 0 20 0 0)],objs:=pyB e x }:=by
 refine Weak.trans (Weak.dropAt 12 (bl rfl)) ?_
 refine Weak.shf 13 12 (Weak.shf 14 13 ?_)
 exact Weak.fin 14
theorem spawn109 {e:En} {x:Xs} (h:EO e x) (hth:(x.C.th.length:Int)≤e.g.th) (h99:x.C.th.length≤99) (h0:(thAt x.C e.t).st = 0) (q:Rq) {u:Fu} (hq:0≤q.a) (hu:e.g.fu[q.a.toNat]? = some u) (hl:0≤u.loc∧u.loc≤3) :
  Spec Tryz.prog 109 [.ptr 5 0 20 0 0,rqD q] (pyA e x) (fun d os'=>d = .tup []∧os' = pyZ e (spawnX e.g x e.t q.a)):=by
 obtain ⟨kd,qa,v⟩:=q
 dsimp only at hq hu
 obtain ⟨a,rfl⟩:∃ a:Nat,qa = (a:Int):=⟨qa.toNat,by omega⟩
 rw [Int.toNat_natCast] at hu
 have hm:(x.C.th.map thD).length = x.C.th.length:=List.length_map ..
 have hxe:=h.xb.ev
 have hxw:=h.xb.wp
 unfold spawnX
 dsimp only
 by_cases hc:e.g.th≤(x.C.th.length:Int)
 ·rw [if_pos hc]
  have hx1:=seeX_xb h.xb 1 (-1) e.t
  have hgt:(x.C.th.length:Int) = e.g.th:=by omega
  refine Spec.toZ ?_
  refine Spec.by Tryz.func109 rfl (by decide) (by decide +kernel) rfl ?_
  refine goA ?_
  refine Call.mk (upK (qK ⟨kd,a,v⟩) (seeA e x 1 (-1) e.t (by omega)) rfl rfl) ?_
  rintro d os' ⟨rfl,rfl⟩
  refine goR ?_
  refine Pt.weak (Weak.on [(0,.ptr 5 0 20 0 0),(5,.ptr 5 0 20 0 0)] (pyKB e (seeX x 1 e.t (-1)) (qK ⟨kd,a,v⟩))) ?_
  refine Pt.weak lowKp ?_
  refine goA ?_
  refine App.only false rfl rfl ?_
  refine goA ?_
  refine Call.mk (up1 (tellF181 (e:=e) hx1 (by omega) h.tl h.L.z [-1] (by simp)) rfl rfl) ?_
  rintro d os' ⟨rfl,rfl⟩
  refine goA ?_
  refine Ret.weak (Weak.on [] (pyC e (tellF (seeX x 1 e.t (-1)) e.t [-1]))) ?_
  refine Ret.weak (lowCB [] (.inl rfl)) ?_
  exact Ret.mk [] rfl ⟨rfl,rfl⟩
 ·rw [if_neg hc]
  have hgt:¬ (x.C.th.length:Int) = e.g.th:=by omega
  obtain ⟨hnt,hnk⟩:=newT_okT e.g a u hu hl
  have hn38:=new38 e.g a u hu ⟨by omega,by omega⟩
  rw [← hnt] at hn38
  obtain ⟨n,hn⟩:∃ n,x.C.th.length = n:=⟨_,rfl⟩
  obtain ⟨x1,hx1⟩:∃ x1:Xs,x1 = { x with C:={ x.C with th:=x.C.th ++ [newT e.g a] } }:=⟨_,rfl⟩
  have hst:(newT e.g a).st ≠ 2:=by rw [hnt]; show (0:Int) ≠ 2; decide
  have hx1n:nj x1.C = nj x.C:=by rw [hx1]; exact nj_app x.C _ hst
  have hx1l:x1.C.th.length = n+1:=by rw [hx1]; show (x.C.th ++ [_]).length = _; rw [List.length_append,hn]; rfl
  have hxj:=h.xb.jn
  have hxk:=h.xb.wk
  have hb1:XB 100 1000 1000 x1:=by
   refine ⟨by rw [hx1n]; exact hxj,by omega,fun f hf=>?_,by rw [hx1n,hx1]; exact hxe,by rw [hx1n,hx1]; exact hxw,by rw [hx1n,hx1]; exact hxk⟩
   rw [hx1] at hf
   rcases List.mem_append.1 hf with hf | hf
   ·exact h.xb.th f hf
   ·simp only [List.mem_singleton] at hf; subst hf; exact hnk
  have hrow:O.row 42 5 true (x.C.th.map thD ++ [thD (newT e.g a)]) = O.row 42 5 true (x1.C.th.map thD):=by rw [hx1,List.map_append]; rfl
  obtain ⟨x2,hx2⟩:∃ x2:Xs,x2 = seeX x1 1 e.t n:=⟨_,rfl⟩
  have hb2:XB 100 1001 1000 x2:=by rw [hx2]; exact seeX_xb hb1 1 n e.t
  have hsee:=seeA e x1 1 n e.t (by rw [hx1]; show x.ev.length≤_; omega)
  rw [← hx2] at hsee
  obtain ⟨x3,hx3⟩:∃ x3:Xs,x3 = { x2 with wk:=x.wk ++ [(n:Int)],wp:=x2.wp ++ [(n:Int)] }:=⟨_,rfl⟩
  have hb3:XB 100 1002 1001 x3:=by
   have g1:=hb2.wp
   have g2:nj x2.C = nj x.C:=by rw [hx2]; exact hx1n
   rw [hx3]
   exact ⟨hb2.jn,hb2.tl,hb2.th,by have:=hb2.ev; show x2.ev.length+nj x2.C≤1002; omega,by show (x2.wp ++ [_]).length+nj x2.C≤1002; rw [List.length_append,List.length_singleton]; omega,by show (x.wk ++ [_]).length+nj x2.C≤1001; rw [List.length_append,List.length_singleton]; omega⟩
  have hx2w:x2.wp = x.wp:=by rw [hx2,hx1]; rfl
  have hwl2:x2.wp.length≤1000:=by rw [hx2w]; omega
  have hR:tellF { seeX { x with C:={ x.C with th:=x.C.th ++ [newT e.g a] } } 1 e.t x.C.th.length with wk:=x.wk ++ [(x.C.th.length:Int)],wp:=x.wp ++ [(x.C.th.length:Int)] } e.t [(x.C.th.length:Int)] = tellF x3 e.t [(n:Int)]:=by
   rw [hx3,hx2w,hx2,hx1,hn]
  rw [hR]
  have hz3:LkZ e.nm e.nw e.ns x3.C.L:=by rw [hx3,hx2,hx1]; exact h.L.z
  have ht3:e.t < x3.C.th.length:=by
   have:x3.C.th.length = n+1:=by rw [hx3,hx2]; exact hx1l
   have:=h.tl
   omega
  have hA:lkO (e.AT x 13 10 11) e.nm e.nw e.ns x.C.L [] = lkO (e.AT x 13 10 11) e.nm e.nw e.ns x.C.L []:=rfl
  have hwm:(x2.wp.map (D.int .i64)).length = x2.wp.length:=List.length_map ..
  refine Spec.by Tryz.func109 rfl (by decide) (by decide +kernel) rfl ?_
  refine goA ?_
  refine Call.mk ((hn38).only _ rfl (by rintro d rfl; rfl)) ?_; rintro d os' ⟨rfl,rfl⟩
  refine goA ?_
  refine App.only false rfl rfl ?_
  refine goR ?_
  refine Pt.weak (Weak.on [(0,.ptr 5 0 20 0 0),(4,.int .i64 x.C.th.length)] (lkO { e.A x 10 11 with th:=.sl 13 0 5 0 (x.C.th.length+1) none } e.nm e.nw e.ns x.C.L [one .gone,rowC x.C.bu,rowC x.C.sq,rowC x.C.rq,rowE x.ev,rowI x.wp,qK ⟨kd,a,v⟩,one (.row 42 5 true (x.C.th.map thD ++ [thD (newT e.g a)]))])) ?_
  have e2:({ e.A x 10 11 with th:=.sl 13 0 5 0 (x.C.th.length+1) none }:Pyl) = e.AT x1 13 10 11:=by
   rw [hx1]
   show Pyl.mk _ _ _ _ _ _ _ _ _ = Pyl.mk _ _ _ _ _ _ _ _ _
   simp
  rw [e2,hrow,hn]
  refine Pt.weak (Weak.objs (os':=pyT e x1 13 10 11 [rowE x1.ev,rowI x1.wp,qK ⟨kd,a,v⟩,rowT x1.C.th]) (by rw [hx1])) ?_
  refine Pt.weak (Weak.trans (Weak.dropAt 12 (bl rfl)) (Weak.shf 13 12 (Weak.fin (sl:=[(0,.ptr 5 0 20 0 0),(4,.int .i64 n)]) (os:=pyL e x1) 13))) ?_
  refine goA ?_
  refine Call.mk (upL hsee rfl rfl) ?_
  rintro d os' ⟨rfl,rfl⟩
  refine goA ?_
  refine App.only false rfl rfl ?_
  refine goR ?_
  refine Pt.weak (Weak.on [(0,.ptr 5 0 20 0 0),(4,.int .i64 n)] (lkO { e.AT x2 12 13 14 with wk:=.sl 15 0 1 0 (x2.wp.length+1) none } e.nm e.nw e.ns x2.C.L [one .gone,rowC x2.C.bu,rowC x2.C.sq,rowC x2.C.rq,one .gone,one .gone,rowT x2.C.th,rowE x2.ev,one .gone,one (.row 3 1 true (x2.wp.map (D.int .i64) ++ [.int .i64 n]))])) ?_
  have e3:({ e.AT x2 12 13 14 with wk:=.sl 15 0 1 0 (x2.wp.length+1) none }:Pyl) = e.AT x3 12 13 15:=by
   rw [hx3]
   show Pyl.mk _ _ _ _ _ _ _ _ _ = Pyl.mk _ _ _ _ _ _ _ _ _
   simp
  rw [e3,map_snoc]
  refine Pt.weak (Weak.objs (os':=pyT e x3 12 13 15 [one .gone,one .gone,rowT x3.C.th,rowE x3.ev,one .gone,rowI x3.wp]) (by rw [hx3])) ?_
  refine Pt.weak (Weak.shf 15 14 (Weak.fin (sl:=[(0,.ptr 5 0 20 0 0),(4,.int .i64 n)]) (os:=pyZ e x3) 15)) ?_
  refine goA ?_
  refine App.only false rfl rfl ?_
  refine goA ?_
  refine Call.mk (upZ (tellF181 (e:=e) hb3 (by omega) ht3 hz3 [(n:Int)] (by simp)) rfl rfl) ?_
  rintro d os' ⟨rfl,rfl⟩
  refine goA ?_
  refine Ret.weak (Weak.on [] (pyZ2 e (tellF x3 e.t [(n:Int)]))) ?_
  refine Ret.weak lowZ2 ?_
  exact Ret.mk [] rfl ⟨rfl,rfl⟩
def evens:List Int→List Int
 | []=>[]
 | [a]=>[a]
 | a :: _ :: l=>a :: evens l
theorem evens_push:∀ (l:List Int) (a b:Int),l.length % 2 = 0→evens (l ++ [a,b]) = evens l ++ [a]
 | [],a,b,_=>rfl
 | [x],a,b,h=>by simp at h
 | x :: y :: l,a,b,h=>by
  have:=evens_push l a b (by simp only [List.length_cons] at h; omega)
  show x :: evens (l ++ [a,b]) = x :: (evens l ++ [a])
  rw [this]
theorem evens_len:∀ (l:List Int),l.length≤2 * (evens l).length
 | []=>by simp [evens]
 | [x]=>by simp [evens]
 | x :: y :: l=>by
  have:=evens_len l
  simp only [evens,List.length_cons]
  omega
def cntL (R:List (List Int)) (t:Int):Nat:=(R.map (List.count t)).sum
theorem cntL_set:∀ (R:List (List Int)) (e:Nat) (x:List Int) (t:Int),e < R.length→cntL (R.set e x) t+(qAt R e).count t = cntL R t+x.count t
 | [],e,x,t,h=>by simp at h
 | y :: R,0,x,t,_=>by simp [cntL,qAt]; omega
 | y :: R,e+1,x,t,h=>by
  have:=cntL_set R e x t (by simpa using h)
  simp [cntL,qAt] at this ⊢
  omega
theorem cntL_zero {t:Int}:∀ {R:List (List Int)},cntL R t = 0→∀ q ∈ R,t ∉ q
 | [],_,q,hq=>by simp at hq
 | x :: R,h,q,hq=>by
  simp only [cntL,List.map_cons,List.sum_cons] at h
  rcases List.mem_cons.1 hq with rfl | hq
  ·exact List.count_eq_zero.1 (by omega)
  ·exact cntL_zero (R:=R) (by unfold cntL; omega) q hq
theorem cntL_none {t:Int}:∀ {R:List (List Int)},(∀ q ∈ R,t ∉ q)→cntL R t = 0
 | [],_=>rfl
 | x :: R,h=>by
  have h1:=cntL_none (R:=R) (fun q hq=>h q (List.mem_cons_of_mem _ hq))
  have h2:x.count t = 0:=List.count_eq_zero.2 (h x List.mem_cons_self)
  unfold cntL at h1 ⊢
  rw [List.map_cons,List.sum_cons,h1,h2]
theorem cntL_pos {t:Int}:∀ {R:List (List Int)} {q:List Int},q ∈ R→q.count t≤cntL R t
 | x :: R,q,hq=>by
  simp only [cntL,List.map_cons,List.sum_cons]
  rcases List.mem_cons.1 hq with rfl | hq
  ·omega
  ·have:=cntL_pos (t:=t) hq
   unfold cntL at this
   omega
def rws (C:Cr):Nat→List (List Int)
 | 0=>C.L.lk
 | 1=>C.L.wq
 | 2=>C.L.dq
 | 3=>C.sq.map evens
 | _=>C.rq
def cnt (C:Cr) (t:Int):Nat:=cntL (rws C 0) t+cntL (rws C 1) t+cntL (rws C 2) t+cntL (rws C 3) t+cntL (rws C 4) t
theorem qAt_mem' {R:List (List Int)} {k:Nat} {v:Int} (h:v ∈ qAt R k):k < R.length:=by
 rcases Nat.lt_or_ge k R.length with h1 | h1
 ·exact h1
 ·unfold qAt at h
  rw [List.getD_eq_getElem?_getD,List.getElem?_eq_none h1] at h
  simp at h
theorem cnt_zero {C:Cr} {t:Int} (h:cnt C t = 0):∀ r k,r < 5→t ∉ qAt (rws C r) k:=by
 intro r k hr hm
 have hk:=qAt_mem' hm
 have key:cntL (rws C r) t = 0:=by
  unfold cnt at h
  have hc:r = 0∨r = 1∨r = 2∨r = 3∨r = 4:=by omega
  rcases hc with rfl | rfl | rfl | rfl | rfl <;> omega
 exact cntL_zero key _ (qAt_mem hk) hm
def standB (g:Pg) (f:Th) (r k:Nat):Prop:=(f.st = (r:Int)+3∧f.on = (k:Int))∨(r = 4∧f.st = 8∧(k:Int) ∈ qAt g.cs f.on.toNat)
def need (g:Pg) (f:Th):Nat:=if 3≤f.st∧f.st≤7 then 1 else if f.st = 8 then (qAt g.cs f.on.toNat).length else 0
theorem need0 {g:Pg} {f:Th} (h:f.st = 0∨f.st = 1∨f.st = 2∨f.st = 9):need g f = 0:=by
 unfold need
 rw [if_neg (by omega),if_neg (by omega)]
structure Rk (g:Pg) (X:Option Nat) (C:Cr):Prop where
 std:∀ r k v,r < 5→v ∈ qAt (rws C r) k→∃ t:Nat,v = (t:Int)∧t < C.th.length∧standB g (thAt C t) r k
 cnt:∀ t:Nat,t < C.th.length→cnt C t = if X = some t then 0 else need g (thAt C t)
theorem Rk.upd {g:Pg} {X X':Option Nat} {C C':Cr} (h:Rk g X C) (s:Nat) (hs:s < C.th.length) (hl:C'.th.length = C.th.length) (hth:∀ t:Nat,t ≠ s→thAt C' t = thAt C t) (hX:∀ t:Nat,t ≠ s→(X' = some t ↔ X = some t))
  (hc:∀ t:Nat,t ≠ s→V.cnt C' t = V.cnt C t) (hcs:V.cnt C' s = if X' = some s then 0 else need g (thAt C' s))
  (hr:∀ r k v,r < 5→v ∈ qAt (rws C' r) k→v ≠ (s:Int)→v ∈ qAt (rws C r) k) (hrs:∀ r k,r < 5→(s:Int) ∈ qAt (rws C' r) k→standB g (thAt C' s) r k):Rk g X' C':=by
 refine ⟨fun r k v hr5 hv=>?_,fun t ht=>?_⟩
 ·by_cases hvs:v = (s:Int)
  ·subst hvs
   exact ⟨s,rfl,by rw [hl]; exact hs,hrs r k hr5 hv⟩
  ·obtain ⟨t,rfl,ht,hst⟩:=h.std r k v hr5 (hr r k v hr5 hv hvs)
   exact ⟨t,rfl,by rw [hl]; exact ht,by rw [hth t (fun e=>hvs (by rw [e]))]; exact hst⟩
 ·by_cases hts:t = s
  ·subst hts; exact hcs
  ·rw [hc t hts,h.cnt t (by rw [hl] at ht; exact ht),hth t hts]
   by_cases hx:X = some t
   ·rw [if_pos hx,if_pos ((hX t hts).2 hx)]
   ·rw [if_neg hx,if_neg (fun hx'=>hx ((hX t hts).1 hx'))]
theorem Rk.same {g:Pg} {X:Option Nat} {C C':Cr} (h:Rk g X C) (hl:C.th.length≤C'.th.length) (hr:∀ r,r < 5→rws C' r = rws C r) (hth:∀ t:Nat,t < C.th.length→thAt C' t = thAt C t∨(need g (thAt C t) = 0∧need g (thAt C' t) = 0)) (hnew:∀ t:Nat,C.th.length≤t→t < C'.th.length→need g (thAt C' t) = 0)
  (hX:∀ t,X = some t→t < C.th.length):Rk g X C':=by
 have hc:∀ t:Int,V.cnt C' t = V.cnt C t:=fun t=>by unfold V.cnt; rw [hr 0 (by omega),hr 1 (by omega),hr 2 (by omega),hr 3 (by omega),hr 4 (by omega)]
 refine ⟨fun r k v hr5 hv=>?_,fun t ht=>?_⟩
 ·rw [hr r hr5] at hv
  obtain ⟨t,rfl,ht,hst⟩:=h.std r k v hr5 hv
  refine ⟨t,rfl,by omega,?_⟩
  rcases hth t ht with e | ⟨e,_⟩
  ·rw [e]; exact hst
  ·have h0:V.cnt C t = 0:=by rw [h.cnt t ht,e]; split <;> rfl
   exact absurd hv (cnt_zero h0 r k hr5)
 ·rw [hc]
  rcases Nat.lt_or_ge t C.th.length with h1 | h1
  ·rw [h.cnt t h1]
   rcases hth t h1 with e | ⟨e1,e2⟩
   ·rw [e]
   ·rw [e1,e2]
  ·rw [hnew t h1 ht]
   have h0:V.cnt C t = 0:=by
    rcases Nat.eq_zero_or_pos (V.cnt C t) with h0 | h0
    ·exact h0
    ·exfalso
     have hex:∃ r,r < 5∧0 < cntL (rws C r) t:=by
      unfold V.cnt at h0
      rcases Nat.eq_zero_or_pos (cntL (rws C 0) t) with q0 | q0
      ·rcases Nat.eq_zero_or_pos (cntL (rws C 1) t) with q1 | q1
       ·rcases Nat.eq_zero_or_pos (cntL (rws C 2) t) with q2 | q2
        ·rcases Nat.eq_zero_or_pos (cntL (rws C 3) t) with q3 | q3
         ·exact ⟨4,by omega,by omega⟩
         ·exact ⟨3,by omega,q3⟩
        ·exact ⟨2,by omega,q2⟩
       ·exact ⟨1,by omega,q1⟩
      ·exact ⟨0,by omega,q0⟩
     obtain ⟨r,hr5,hp⟩:=hex
     have hne:∃ k,(t:Int) ∈ qAt (rws C r) k:=by
      apply Classical.byContradiction
      intro hn
      have:cntL (rws C r) t = 0:=by
       refine cntL_none (fun q hq hm=>?_)
       obtain ⟨k,hk,rfl⟩:=List.mem_iff_getElem.1 hq
       refine hn ⟨k,?_⟩
       rw [qAt,List.getD_eq_getElem?_getD,List.getElem?_eq_getElem hk]
       exact hm
      omega
     obtain ⟨k,hk⟩:=hne
     obtain ⟨u,hu,hul,_⟩:=h.std r k _ hr5 hk
     have:t = u:=by omega
     omega
   rw [h0]; split <;> rfl
def sumN (f:Nat→Nat):Nat→Nat
 | 0=>0
 | n+1=>sumN f n+f n
theorem sumN_add (f h:Nat→Nat):∀ n,sumN (fun t=>f t+h t) n = sumN f n+sumN h n
 | 0=>rfl
 | n+1=>by simp only [sumN]; rw [sumN_add f h n]; omega
theorem sumN_le {f:Nat→Nat} {b:Nat}:∀ {n:Nat},(∀ t < n,f t≤b)→sumN f n≤n * b
 | 0,_=>by simp [sumN]
 | n+1,h=>by
  have h1:=sumN_le (n:=n) (fun t ht=>h t (by omega))
  have h2:=h n (by omega)
  simp only [sumN]
  rw [Nat.succ_mul]
  omega
theorem sumN_pos {f:Nat→Nat}:∀ {n t:Nat},t < n→f t≤sumN f n
 | n+1,t,h=>by
  simp only [sumN]
  rcases Nat.lt_or_ge t n with h1 | h1
  ·have:=sumN_pos (f:=f) h1; omega
  ·have:t = n:=by omega
   subst this; omega
theorem len_count {n:Nat}:∀ {q:List Int},(∀ v ∈ q,∃ t:Nat,v = (t:Int)∧t < n)→q.length≤sumN (fun t=>q.count (t:Int)) n
 | [],_=>by simp
 | v :: q,h=>by
  have h1:=len_count (q:=q) (fun v hv=>h v (List.mem_cons_of_mem _ hv))
  obtain ⟨t,rfl,ht⟩:=h v List.mem_cons_self
  have h2:=sumN_pos (f:=fun u=>if ((t:Int) == (u:Int)) = true then 1 else 0) ht
  have e:sumN (fun u=>((t:Int) :: q).count (u:Int)) n = sumN (fun u=>q.count (u:Int)) n+sumN (fun u=>if ((t:Int) == (u:Int)) = true then 1 else 0) n:=by
   rw [← sumN_add]
   congr 1
   funext u
   rw [List.count_cons]
  rw [e,List.length_cons]
  simp only [beq_self_eq_true,if_true] at h2
  omega
theorem sum_count {n:Nat}:∀ {R:List (List Int)},(∀ q ∈ R,∀ v ∈ q,∃ t:Nat,v = (t:Int)∧t < n)→sumL R≤sumN (fun t=>cntL R (t:Int)) n
 | [],_=>by simp [sumL]
 | q :: R,h=>by
  have h1:=sum_count (R:=R) (fun q hq=>h q (List.mem_cons_of_mem _ hq))
  have h2:=len_count (n:=n) (h q List.mem_cons_self)
  have e:sumN (fun t=>cntL (q :: R) (t:Int)) n = sumN (fun t=>q.count (t:Int)) n+sumN (fun t=>cntL R (t:Int)) n:=by
   rw [← sumN_add]
   rfl
  rw [e]
  show q.length+sumL R≤_
  omega
theorem qAt_of_mem {R:List (List Int)} {q:List Int} (h:q ∈ R):∃ k,q = qAt R k∧k < R.length:=by
 obtain ⟨k,hk,rfl⟩:=List.mem_iff_getElem.1 h
 exact ⟨k,by rw [qAt,List.getD_eq_getElem?_getD,List.getElem?_eq_getElem hk]; rfl,hk⟩
theorem Rk.tot {g:Pg} {X:Option Nat} {C:Cr} (h:Rk g X C) (hg:∀ l ∈ g.cs,l.length≤4) (hn:C.th.length≤8):sumL C.L.lk+sumL C.L.wq+sumL C.L.dq+sumL (C.sq.map evens)+sumL C.rq≤32:=by
 have hq:∀ r,r < 5→∀ q ∈ rws C r,∀ v ∈ q,∃ t:Nat,v = (t:Int)∧t < C.th.length:=by
  intro r hr q hq v hv
  obtain ⟨k,rfl,_⟩:=qAt_of_mem hq
  obtain ⟨t,h1,h2,_⟩:=h.std r k v hr hv
  exact ⟨t,h1,h2⟩
 have h0:=sum_count (hq 0 (by omega))
 have h1:=sum_count (hq 1 (by omega))
 have h2:=sum_count (hq 2 (by omega))
 have h3:=sum_count (hq 3 (by omega))
 have h4:=sum_count (hq 4 (by omega))
 have e:sumN (fun t=>V.cnt C (t:Int)) C.th.length = sumN (fun t=>cntL (rws C 0) (t:Int)) C.th.length+sumN (fun t=>cntL (rws C 1) (t:Int)) C.th.length+sumN (fun t=>cntL (rws C 2) (t:Int)) C.th.length+sumN (fun t=>cntL (rws C 3) (t:Int)) C.th.length+sumN (fun t=>cntL (rws C 4) (t:Int)) C.th.length:=by
  rw [← sumN_add,← sumN_add,← sumN_add,← sumN_add]
  rfl
 have hb:sumN (fun t=>V.cnt C (t:Int)) C.th.length≤C.th.length * 4:=by
  refine sumN_le (fun t ht=>?_)
  show V.cnt C t≤4
  rw [h.cnt t ht]
  split
  ·omega
  ·unfold need
   split
   ·omega
   ·split
    ·unfold qAt
     rw [List.getD_eq_getElem?_getD]
     cases hc:g.cs[(thAt C t).on.toNat]? with
     | none=>simp
     | some l=>exact hg l (List.mem_of_getElem? hc)
    ·omega
 show sumL (rws C 0)+sumL (rws C 1)+sumL (rws C 2)+sumL (rws C 3)+sumL (rws C 4)≤32
 omega
def ThI (g:Pg) (f:Th):Prop:=(f = endT f.code∧0≤f.code∧f.code≤6)∨(GoodT g { f with st:=0,on:=0 }∧(0≤f.st∧f.st≤8)∧(f.st = 0→f.on = 0)∧keep f.on = f.on∧(f.st = 8→0≤f.on∧f.on < g.cs.length))
theorem thI_end {g:Pg} {c:Int} (h:0≤c∧c≤6):ThI g (endT c):=.inl ⟨rfl,h.1,h.2⟩
theorem thI_good {g:Pg} {f:Th} (h:GoodT g f):ThI g f:=by
 have e:({ f with st:=0,on:=0 }:Th) = f:=by cases f; have h1:=h.st; have h2:=h.on; dsimp only at h1 h2; subst h1; subst h2; rfl
 exact .inr ⟨by rw [e]; exact h,by rw [h.st]; omega,fun _=>h.on,by rw [h.on]; rfl,fun h8=>by rw [h.st] at h8; omega⟩
theorem thI_live {g:Pg} {f:Th} (h:ThI g f) (h9:f.st ≠ 9):GoodT g { f with st:=0,on:=0 }:=by
 rcases h with ⟨h1,_⟩ | h
 ·rw [h1] at h9; exact absurd rfl h9
 ·exact h.1
theorem thI_ready {g:Pg} {f:Th} (h:ThI g f) (h0:f.st = 0):GoodT g f:=by
 rcases h with ⟨h1,_⟩ | h
 ·rw [h1] at h0; exact absurd h0 (show ¬ (9:Int) = 0 by decide)
 ·have e:({ f with st:=0,on:=0 }:Th) = f:=by cases f; have h2:=h.2.2.1 h0; dsimp only at h0 h2; subst h0; subst h2; rfl
  rw [← e]; exact h.1
theorem thI_rest0 {g:Pg} {f:Th} (h:ThI g f) (h9:f.st ≠ 9):ThI g { f with st:=0,on:=0 }:=thI_good (thI_live h h9)
theorem thI_rest {g:Pg} {f:Th} (h:ThI g f) (h9:f.st ≠ 9) {st on:Int} (h1:1≤st∧st≤8) (h2:keep on = on) (h3:st = 8→0≤on∧on < g.cs.length):ThI g { f with st:=st,on:=on } :=
 .inr ⟨show GoodT g { f with st:=0,on:=0 } from thI_live h h9,⟨by show 0≤st; omega,by show st≤8; omega⟩,fun h=>by have h':st = 0:=h; omega,h2,h3⟩
theorem goodT_push {g:Pg}:∀ (l:List Int) (f:Th),GoodT g f→(pushL f (-1) l).2 = -1→GoodT g (pushL f (-1) l).1
 | [],f,h,_=>h
 | v :: l,f,h,h2=>by
  simp only [pushL] at h2 ⊢
  rcases Bool.eq_false_or_eq_true (pushT f v).2 with hb | hb
  ·rw [hb,under_t] at h2 ⊢
   refine goodT_push l _ ?_ h2
   rcases gPush h v with ⟨_,h3⟩ | h3
   ·exact h3
   ·rw [Prod.mk.injEq] at h3
    rw [hb] at h3
    exact absurd h3.2 (by decide)
  ·rw [hb,under_f,pushL_2] at h2
   exact absurd h2 (by decide)
theorem goodT_tell {g:Pg} {f:Th} {l:List Int} (h:GoodT g f) (h2:(tellT f l).2 = true):GoodT g (tellT f l).1:=by
 unfold tellT at h2 ⊢
 rcases pushL_e l f with he | he
 ·rw [he,if_neg (by decide)]
  exact goodT_push l f h he
 ·rw [he,if_pos (by decide)] at h2
  cases h2
structure EI (g:Pg) (S:Nat→Prop) (x:Xs):Prop where
 th:∀ f ∈ x.C.th,ThI g f
 jn:∀ k:Nat,(thAt x.C k).st = 2→∃ u:Nat,(thAt x.C k).on = (u:Int)∧u < x.C.th.length∧u ≠ k∧((thAt x.C u).st ≠ 9∨S u)
theorem EI.at {g:Pg} {S:Nat→Prop} {x:Xs} (h:EI g S x) (k:Nat):ThI g (thAt x.C k):=by
 rcases Nat.lt_or_ge k x.C.th.length with h1 | h1
 ·rw [thAt_lt h1]; exact h.th _ (List.getElem_mem h1)
 ·rw [thAt_ge h1]; exact thI_end ⟨by omega,by omega⟩
theorem no_join {C:Cr} (h:nj C≤0) (k:Nat):(thAt C k).st ≠ 2:=by
 intro h2
 have hk:=lt_of_st (C:=C) (t:=k) (by omega)
 have:0 < nj C:=List.countP_pos_iff.2 ⟨C.th[k],List.getElem_mem hk,by rw [thAt_lt hk] at h2; exact decide_eq_true h2⟩
 omega
theorem EI.put {g:Pg} {S S':Nat→Prop} {x:Xs} (h:EI g S x) {t:Nat} (ht:t < x.C.th.length) {f:Th} (hf:ThI g f) (h2:f.st ≠ 2) (hS:∀ u,S u→S' u) (h9:f.st = 9→S' t) (ev:List Ev) (wk wp:List Int):EI g S' ⟨putT x.C t f,ev,wk,wp⟩:=by
 refine ⟨fun f' hf'=>?_,fun k hk=>?_⟩
 ·rcases mem_put hf' with hf' | rfl
  ·exact h.th _ hf'
  ·exact hf
 ·have hk2:(thAt (putT x.C t f) k).st = 2:=hk
  have hkt:t ≠ k:=by
   rintro rfl
   rw [thAt_put,if_pos ⟨rfl,ht⟩] at hk2
   exact h2 hk2
  have e:thAt (putT x.C t f) k = thAt x.C k:=by rw [thAt_put,if_neg (fun h=>hkt h.1)]
  rw [e] at hk2
  obtain ⟨u,h3,h4,h5,h6⟩:=h.jn k hk2
  refine ⟨u,by show (thAt (putT x.C t f) k).on = _; rw [e]; exact h3,by simpa [putT] using h4,h5,?_⟩
  show (thAt (putT x.C t f) u).st ≠ 9∨S' u
  rw [thAt_put]
  by_cases hut:t = u
  ·subst hut
   rw [if_pos ⟨rfl,ht⟩]
   by_cases h9':f.st = 9
   ·exact .inr (h9 h9')
   ·exact .inl h9'
  ·rw [if_neg (fun h=>hut h.1)]
   rcases h6 with h6 | h6
   ·exact .inl h6
   ·exact .inr (hS u h6)
def EIk (g:Pg) (n:Nat) (E:Xs→Nat→Int→Xs):Prop:=∀ (S:Nat→Prop) (b w:Nat) (x:Xs) (t:Nat) (c:Int),XB n b w x→EI g S x→t < x.C.th.length→0≤c∧c≤6→EI g S (E x t c)
theorem tell_ei {g:Pg} {n:Nat} {E:Xs→Nat→Int→Xs} (hE:EIk g n E) {S:Nat→Prop} {b w:Nat} {x:Xs} (hx:XB n b w x) (h:EI g S x) {t:Nat} (ht:t < x.C.th.length) (h0:(thAt x.C t).st = 0) (l:List Int):EI g S (tellE E x t l).1:=by
 unfold tellE
 split
 ·rename_i hb
  have hst:=(tellT_st hb).1
  exact h.put ht (thI_good (goodT_tell (thI_ready (h.at t) h0) hb)) (by rw [hst]; omega) (fun _ h=>h) (fun h9=>by rw [hst] at h9; omega) _ _ _
 ·exact hE _ _ _ _ _ _ hx h ht ⟨by omega,by omega⟩
theorem wake_ei {g:Pg} {n:Nat} {E:Xs→Nat→Int→Xs} (hE:EIk g n E) {S:Nat→Prop} {b w:Nat} {x:Xs} {t:Nat} (hx:XB n b w (restX { x with wk:=x.wk ++ [(t:Int)] } t 0 0)) (h:EI g S x) (ht:t < x.C.th.length) (h9:(thAt x.C t).st ≠ 9) (l:List Int):EI g S (wakeE E x t l):=by
 have h1:EI g S (restX { x with wk:=x.wk ++ [(t:Int)] } t 0 0):=h.put ht (thI_rest0 (h.at t) h9) (by show (0:Int) ≠ 2; decide) (fun _ h=>h) (fun h=>by have h':(0:Int) = 9:=h; omega) _ _ _
 have h2:=tell_ei hE hx h1 (t:=t) (by rw [rest_len]; exact ht) (rest_st0 { x with wk:=x.wk ++ [(t:Int)] } t ht) l
 unfold wakeE
 split
 ·exact ⟨h2.th,h2.jn⟩
 ·exact h2
theorem fold_ei {g:Pg} {n:Nat} {E:Xs→Nat→Int→Xs} (hE:EIk g n E) (hX:XBk E) {S:Nat→Prop} {b w:Nat} (t:Nat) {c:Int}:∀ (l:List Nat) (y:Xs),XB (n+1) b w y→EI g S y→EI g S (l.foldl (endR E t c) y)
 | [],y,_,h=>h
 | k :: l,y,hx,h=>by
  have key:XB (n+1) b w (endR E t c y k)∧EI g S (endR E t c y k):=by
   unfold endR
   split
   ·rename_i hj
    obtain ⟨hk,h2⟩:=joins_lt hj
    obtain ⟨m',b',e1,rfl,hr⟩:=(rest_xb hx hk (k:Int) 0 0 (by decide)).2 h2
    have:n = m':=by omega
    subst this
    exact ⟨(wake_xb hX hx hk [c]).2 h2,wake_ei hE hr h hk (by omega) [c]⟩
   ·exact ⟨hx,h⟩
  exact fold_ei hE hX t l _ key.1 key.2
theorem fold_nojoin {E:Xs→Nat→Int→Xs} (hE:∀ x t c,Tame t x (E x t c)) (t:Nat) (c:Int):∀ (l:List Nat) (y:Xs) (k:Nat),k ∈ l→joins (l.foldl (endR E t c) y) t k = false
 | [],y,k,h=>by simp at h
 | k0 :: l,y,k,h=>by
  rcases List.mem_cons.1 h with rfl | h
  ·have h1:joins (endR E t c y k) t k = false:=by
    unfold endR
    split
    ·rename_i hj
     obtain ⟨hk,h2⟩:=joins_lt hj
     have ht1:=tell_tame hE (restX { y with wk:=y.wk ++ [(k:Int)] } k 0 0) k [c] (fun _=>rest_st0 { y with wk:=y.wk ++ [(k:Int)] } k hk)
     have h3:(thAt (wakeE E y k [c]).C k).st ≠ 2:=by
      have e:(wakeE E y k [c]).C = (tellE E (restX { y with wk:=y.wk ++ [(k:Int)] } k 0 0) k [c]).1.C:=by unfold wakeE; split <;> rfl
      rw [e]
      intro h2
      rw [ht1.join k h2,rest_st0 { y with wk:=y.wk ++ [(k:Int)] } k hk] at h2
      omega
     exact decide_eq_false (fun h=>h3 h.1)
    ·rename_i hj
     exact Bool.eq_false_iff.2 hj
   have h2:=fold_tame hE (endR E t c y k) t c l _ (Tame.refl t _)
   rw [List.foldl_cons]
   refine Bool.eq_false_iff.2 (fun hj=>?_)
   have hj2:=(joins_lt hj).2
   have e:=h2.join k hj2
   unfold joins at hj h1
   rw [e] at hj
   rw [hj] at h1
   cases h1
  ·exact fold_nojoin hE t c l _ k h
theorem end_ei (g:Pg):∀ (n:Nat),EIk g n (endX n)
 | 0=>fun S b w x t c hx h ht hc=>by
  have h1:=h.put (S':=fun u=>S u∨u = t) ht (thI_end hc) (by show (9:Int) ≠ 2; decide) (fun u h=>.inl h) (fun _=>.inr rfl) (x.ev ++ [(2,(t:Int),c)]) x.wk x.wp
  refine ⟨h1.th,fun k hk=>absurd hk (no_join ?_ k)⟩
  have:=(dead_xb hx ht c).jn
  exact this
 | n+1=>fun S b w x t c hx h ht hc=>by
  have h1:=h.put (S':=fun u=>S u∨u = t) ht (thI_end hc) (by show (9:Int) ≠ 2; decide) (fun u h=>.inl h) (fun _=>.inr rfl) (x.ev ++ [(2,(t:Int),c)]) x.wk x.wp
  have h2:=fold_ei (c:=c) (end_ei g n) (end_xb n) t (List.range x.C.th.length) (deadX x t c) (dead_xb hx ht c) h1
  have ht1:=fold_tame (end_tame n) (deadX x t c) t c (List.range x.C.th.length) _ (Tame.refl t _)
  have hlen:(deadX x t c).C.th.length = x.C.th.length:=by simp [deadX,seeX,putT]
  rw [endX]
  refine ⟨h2.th,fun k hk=>?_⟩
  obtain ⟨u,h3,h4,h5,h6⟩:=h2.jn k hk
  refine ⟨u,h3,h4,h5,?_⟩
  rcases h6 with h6 | h6 | rfl
  ·exact .inl h6
  ·exact .inr h6
  ·exfalso
   have hkl:k < x.C.th.length:=by rw [← hlen,← ht1.len]; exact lt_of_st (by omega)
   have:=fold_nojoin (end_tame n) u c (List.range x.C.th.length) (deadX x u c) k (List.mem_range.2 hkl)
   unfold joins at this
   exact absurd ⟨hk,h3⟩ (of_decide_eq_false this)
theorem tame_rk {g:Pg} {X:Option Nat} {t:Nat} {x y:Xs} (h:Rk g X x.C) (ht:Tame t x y) (h0:need g (thAt x.C t) = 0) (hX:∀ s,X = some s→s < x.C.th.length):Rk g X y.C:=by
 refine h.same (by rw [ht.len]; exact Nat.le_refl _) (fun r hr=>?_) (fun k hk=>?_) (fun k h1 h2=>by rw [ht.len] at h2; omega) hX
 ·have e:=ht.rest
  have hc:r = 0∨r = 1∨r = 2∨r = 3∨r = 4:=by omega
  rcases hc with rfl | rfl | rfl | rfl | rfl <;> (rw [e]; rfl)
 ·by_cases hkt:k = t
  ·subst hkt
   rcases ht.chg k with e | e | e
   ·exact .inl e
   ·exact .inr ⟨h0,need0 (.inl e)⟩
   ·exact .inr ⟨h0,need0 (.inr (.inr (.inr e)))⟩
  ·by_cases h2:(thAt x.C k).st = 2
   ·rcases ht.chg k with e | e | e
    ·exact .inl e
    ·exact .inr ⟨need0 (.inr (.inr (.inl h2))),need0 (.inl e)⟩
    ·exact .inr ⟨need0 (.inr (.inr (.inl h2))),need0 (.inr (.inr (.inr e)))⟩
   ·exact .inl (ht.stay k hkt h2)
structure SzC (g:Pg) (C:Cr):Prop where
 t1:1≤C.th.length
 tl:(C.th.length:Int)≤g.th
 now:0≤C.now∧C.now≤1073741824
 L:LkZ g.mu.toNat g.co.length g.se.length C.L
 ow:∀ v ∈ C.L.ow,-1≤v
 co:∀ v ∈ C.L.co,0≤v∧v≤1073741824
 bu:C.bu.length = g.ch.length
 sq:C.sq.length = g.ch.length
 rq:C.rq.length = g.ch.length
 ev:∀ q ∈ C.sq,q.length % 2 = 0
 bc:∀ q ∈ C.bu,q.length≤3
def JnI (C:Cr):Prop:=∀ k:Nat,(thAt C k).st = 2→∃ u:Nat,(thAt C k).on = (u:Int)∧u < C.th.length∧u ≠ k∧(thAt C u).st ≠ 9
structure CI (g:Pg) (C:Cr):Prop where
 z:SzC g C
 rk:Rk g none C
 th:∀ f ∈ C.th,ThI g f
 jn:JnI C
def en (g:Pg) (t:Nat):En:=⟨g,t,g.mu.toNat,g.co.length,g.se.length⟩
theorem thI_ok {g:Pg} (hg:GoodP g) {f:Th} (h:ThI g f):okT f:=by
 rcases h with ⟨h1,_⟩ | h
 ·rw [h1]; exact okT_end _
 ·have h1:=h.1
  have h2:Th.okB { f with st:=0,on:=0 }:=good_okB hg h1
  exact ⟨h1.sk,h2⟩
theorem sumL_evens:∀ (R:List (List Int)),sumL R≤2 * sumL (R.map evens)
 | []=>by simp [sumL]
 | q :: R=>by
  have h1:=sumL_evens R
  have h2:=evens_len q
  simp only [sumL,List.map_cons,List.sum_cons] at h1 ⊢
  omega
theorem g_th8 {g:Pg} (hg:GoodP g) {C:Cr} (h:SzC g C):C.th.length≤8:=by have:=h.tl; have:=hg.th; omega
theorem g_cs4 {g:Pg} (hg:GoodP g):∀ l ∈ g.cs,l.length≤4:=fun l hl=>(hg.cs l hl).2.1
structure MI (g:Pg) (t:Nat) (x:Xs):Prop where
 z:SzC g x.C
 rk:Rk g none x.C
 th:∀ f ∈ x.C.th,ThI g f
 tl:t < x.C.th.length
 ev:x.ev = []
 wk:x.wk = []
 wp:x.wp = []
theorem MI.tot {g:Pg} (hg:GoodP g) {t:Nat} {x:Xs} (h:MI g t x):sumL x.C.L.lk+sumL x.C.L.wq+sumL x.C.L.dq+sumL (x.C.sq.map evens)+sumL x.C.rq≤32:=h.rk.tot (g_cs4 hg) (g_th8 hg h.z)
theorem MI.std {g:Pg} {t:Nat} {x:Xs} (h:MI g t x) {r k:Nat} {v:Int} (hr:r < 5) (hv:v ∈ qAt (rws x.C r) k):0≤v∧v.toNat < x.C.th.length:=by
 obtain ⟨u,rfl,hu,_⟩:=h.rk.std r k v hr hv
 omega
theorem row_ge {g:Pg} {C:Cr} (h:Rk g none C) {r:Nat} (hr:r < 5):∀ q ∈ rws C r,∀ v ∈ q,0≤v:=by
 intro q hq v hv
 obtain ⟨k,rfl,_⟩:=qAt_of_mem hq
 obtain ⟨u,rfl,_⟩:=h.std r k v hr hv
 omega
theorem MI.xb {g:Pg} (hg:GoodP g) {t:Nat} {x:Xs} (h:MI g t x):XB 100 1000 1000 x:=by
 have h8:=g_th8 hg h.z
 have hn:nj x.C≤x.C.th.length:=List.countP_le_length
 refine ⟨by omega,by omega,fun f hf=>thI_ok hg (h.th f hf),?_,?_,?_⟩
 ·rw [h.ev]; show (0:Nat) + _≤_; omega
 ·rw [h.wp]; show (0:Nat) + _≤_; omega
 ·rw [h.wk]; show (0:Nat) + _≤_; omega
theorem MI.eo {g:Pg} (hg:GoodP g) {t:Nat} {x:Xs} (h:MI g t x):EO (en g t) x:=by
 have ht:=h.tot hg
 refine ⟨h.xb hg,⟨h.z.L.ow,h.z.L.co,h.z.L.lk,h.z.L.wq,h.z.L.dq,by omega⟩,⟨h.z.ow,h.z.co,row_ge (r:=0) h.rk (by omega),row_ge (r:=1) h.rk (by omega),row_ge (r:=2) h.rk (by omega)⟩,h.tl,rfl,fun v hv=>?_⟩
 have:=hg.co v hv
 show 0≤v∧v < ((g.mu.toNat:Nat):Int)
 omega
theorem eb_en {g:Pg} (hg:GoodP g) (t:Nat):EB (en g t):=by
 have h:=hg.sz
 have:=h.mu
 have:=h.co
 have:=h.se
 exact ⟨by show g.mu.toNat≤1000; omega,by show g.co.length≤1000; omega,by show g.se.length≤1000; omega⟩
theorem MI.lens {g:Pg} (hg:GoodP g) {t:Nat} {x:Xs} (h:MI g t x):(∀ q ∈ x.C.sq,q.length≤64∧q.length ≠ 1)∧(∀ q ∈ x.C.rq,q.length≤32):=by
 have ht:=h.tot hg
 have he:=sumL_evens x.C.sq
 refine ⟨fun q hq=>⟨?_,?_⟩,fun q hq=>?_⟩
 ·have:=sumL_mem hq; omega
 ·have:=h.z.ev q hq; omega
 ·have:=sumL_mem hq; omega
theorem MI.chx {g:Pg} (hg:GoodP g) {t:Nat} {x:Xs} (h:MI g t x):ChX g.ch.length x:=by
 obtain ⟨h1,h2⟩:=h.lens hg
 have hc:=hg.sz.ch
 exact ⟨h.z.bu,h.z.sq,h.z.rq,by omega,fun q hq=>by have:=h.z.bc q hq; omega,fun q hq=>by have:=h1 q hq; omega,fun q hq=>by have:=h2 q hq; omega⟩
theorem MI.chb {g:Pg} (hg:GoodP g) {t:Nat} {x:Xs} (h:MI g t x):ChB x.C:=by
 have hc:=h.chx hg
 exact ⟨by have:=hc.bu; have:=hc.nc; omega,by have:=hc.sq; have:=hc.nc; omega,by have:=hc.rq; have:=hc.nc; omega,hc.lb,fun q hq=>(hc.ls q hq).1,hc.lr⟩
theorem gc_en {g:Pg} (hg:GoodP g) (t:Nat) (x:Xs):GC (en g t) g.ch.length x:=by
 refine ⟨rfl,fun l hl=>?_⟩
 obtain ⟨_,h2,h3⟩:=hg.cs l hl
 refine ⟨by omega,fun v hv=>?_⟩
 obtain ⟨h4,h5⟩:=h3 v hv
 exact ⟨v.toNat,by omega,by omega⟩
theorem MI.at {g:Pg} {t:Nat} {x:Xs} (h:MI g t x) (k:Nat):ThI g (thAt x.C k):=by
 rcases Nat.lt_or_ge k x.C.th.length with h1 | h1
 ·rw [thAt_lt h1]; exact h.th _ (List.getElem_mem h1)
 ·rw [thAt_ge h1]; exact thI_end ⟨by omega,by omega⟩
theorem thI_on8 {g:Pg} {f:Th} (h:ThI g f) (h8:f.st = 8):0≤f.on∧f.on < g.cs.length:=by
 rcases h with ⟨h1,_⟩ | h
 ·rw [h1] at h8; exact absurd h8 (show ¬ (9:Int) = 8 by decide)
 ·exact h.2.2.2.2 h8
theorem qAt_evens (R:List (List Int)) (k:Nat):qAt (R.map evens) k = evens (qAt R k):=by
 unfold qAt
 rw [List.getD_eq_getElem?_getD,List.getD_eq_getElem?_getD,List.getElem?_map]
 cases R[k]? <;> rfl
def TIx (x:Xs) (v:Int):Prop:=0≤v→v.toNat < x.C.th.length
theorem head_ix {g:Pg} {t:Nat} {x:Xs} (h:MI g t x) {r k:Nat} (hr:r < 5):TIx x (headQ (qAt (rws x.C r) k)):=by
 intro h0
 cases hq:qAt (rws x.C r) k with
 | nil=>rw [hq] at h0; exact absurd (show (0:Int)≤-1 from h0) (by decide)
 | cons a q =>
  show a.toNat < _
  exact (h.std hr (v:=a) (k:=k) (by rw [hq]; simp)).2
theorem unlock_ix {g:Pg} {t:Nat} {x:Xs} (h:MI g t x) (a:Nat) (u:Int):TIx x (unlockS x.C.L a u).2.1:=by
 unfold unlockS
 split
 ·intro h0; exact absurd (show (0:Int)≤-1 from h0) (by decide)
 ·exact head_ix h (r:=0) (by omega)
theorem unlock_z {nm nw ns:Nat} {S:Lk} (h:LkZ nm nw ns S) (a:Nat) (u:Int):LkZ nm nw ns (unlockS S a u).1:=by
 unfold unlockS
 split
 ·exact h
 ·exact ⟨by simp [handS,h.ow],h.co,by simp [handS,h.lk],h.wq,h.dq⟩
theorem wait_ix {g:Pg} {t:Nat} {x:Xs} (h:MI g t x) (c a:Nat) (u:Int):TIx x (waitS x.C.L c a u).2.1:=by
 unfold waitS
 split
 ·intro h0; exact absurd (show (0:Int)≤-1 from h0) (by decide)
 ·exact head_ix h (r:=0) (by omega)
theorem wait_z {nm nw ns:Nat} {S:Lk} (h:LkZ nm nw ns S) (c a:Nat) (u:Int):LkZ nm nw ns (waitS S c a u).1:=by
 unfold waitS
 split
 ·exact h
 ·exact ⟨by simp [handS,h.ow],h.co,by simp [handS,h.lk],by simp [handS,h.wq],h.dq⟩
theorem lock_z {nm nw ns:Nat} {S:Lk} (h:LkZ nm nw ns S) (a:Nat) (u:Int):LkZ nm nw ns (lockS S a u).1:=by
 unfold lockS
 split
 ·exact ⟨h.ow,h.co,by simp [h.lk],h.wq,h.dq⟩
 ·exact ⟨by simp [h.ow],h.co,h.lk,h.wq,h.dq⟩
theorem signal_z {nm nw ns:Nat} {S:Lk} (h:LkZ nm nw ns S) (c a:Nat):LkZ nm nw ns (signalS S c a).1:=by
 unfold signalS
 split
 ·exact h
 ·exact lock_z (S:={ S with wq:=S.wq.set c _ }) ⟨h.ow,h.co,h.lk,by simp [h.wq],h.dq⟩ a _
theorem signal_ix {g:Pg} {t:Nat} {x:Xs} (h:MI g t x) (c a:Nat):TIx x (signalS x.C.L c a).2.1:=by
 unfold signalS
 split
 ·intro h0; exact absurd (show (0:Int)≤-1 from h0) (by decide)
 ·rename_i u q hq
  intro h0
  exact (h.std (r:=1) (by omega) (k:=c) (v:=u) (by show u ∈ qAt x.C.L.wq c; rw [hq]; simp)).2
theorem bcast_z {nm nw ns:Nat} (c m:Nat):∀ (n:Nat) (S:Lk) (all:List Int) (got:Int),LkZ nm nw ns S→LkZ nm nw ns (bcast c m n S all got).1
 | 0,S,all,got,h=>h
 | n+1,S,all,got,h=>by
  simp only [bcast]
  split
  ·exact h
  ·exact bcast_z c m n _ _ _ (signal_z h c m)
theorem bcast_all {nm nw ns:Nat} {c m:Nat} (hc:c < nw) (hm:m < nm):∀ (n:Nat) (S:Lk) (all:List Int) (got:Int),LkL nm nw ns S→LkN S→n = (qAt S.wq c).length→(bcast c m n S all got).2.1 = all ++ qAt S.wq c
 | 0,S,all,got,h,hn,hl=>by
  have:qAt S.wq c = []:=List.eq_nil_of_length_eq_zero hl.symm
  rw [this,List.append_nil]; rfl
 | n+1,S,all,got,h,hn,hl=>by
  cases hq:qAt S.wq c with
  | nil=>rw [hq] at hl; simp at hl
  | cons t q =>
   obtain ⟨k1,k2⟩:=signal_wq h hn hc hm hq
   obtain ⟨k3,k4⟩:=signal_ok h hn hc hm
   rw [bcast_cons hq,bcast_all hc hm n _ _ _ k3 k4 (by rw [k1]; rw [hq] at hl; simpa using hl),k1]
   simp
theorem broad_all {nm nw ns:Nat} {S:Lk} (h:LkL nm nw ns S) (hn:LkN S) {c m:Nat} (hc:c < nw) (hm:m < nm):(broadS S c m).2.1 = qAt S.wq c:=bcast_all hc hm _ S [] (-1) h hn rfl
theorem up_ix {g:Pg} {t:Nat} {x:Xs} (h:MI g t x) (a:Nat):TIx x (upS x.C.L a).2:=by
 unfold upS
 split
 ·intro h0; exact absurd (show (0:Int)≤-1 from h0) (by decide)
 ·rename_i u q hq
  intro h0
  exact (h.std (r:=2) (by omega) (k:=a) (v:=u) (by show u ∈ qAt x.C.L.dq a; rw [hq]; simp)).2
theorem up_z {nm nw ns:Nat} {S:Lk} (h:LkZ nm nw ns S) (a:Nat):LkZ nm nw ns (upS S a).1:=by
 unfold upS
 split
 ·show LkZ nm nw ns (if _ then _ else _)
  split
  ·exact ⟨h.ow,by simp [h.co],h.lk,h.wq,h.dq⟩
  ·exact h
 ·exact ⟨h.ow,h.co,h.lk,h.wq,by simp [h.dq]⟩
theorem send_ix {g:Pg} {t:Nat} {x:Xs} (h:MI g t x) (c:Nat) (room u v:Int):0≤(sendC x.C c room u v).2.1→(sendC x.C c room u v).2.1.toNat < x.C.th.length∧((thAt x.C (sendC x.C c room u v).2.1.toNat).st = 8→0≤(thAt x.C (sendC x.C c room u v).2.1.toNat).on∧(thAt x.C (sendC x.C c room u v).2.1.toNat).on < g.cs.length):=by
 intro h0
 refine ⟨?_,fun h8=>thI_on8 (h.at _) h8⟩
 unfold sendC at h0 ⊢
 split at h0
 ·rename_i f q hq
  exact (h.std (r:=4) (by omega) (k:=c) (v:=f) (by show f ∈ qAt x.C.rq c; rw [hq]; simp)).2
 ·exfalso
  split at h0 <;> exact absurd (show (0:Int)≤-1 from h0) (by decide)
theorem headS_ix {g:Pg} {t:Nat} {x:Xs} (h:MI g t x) (c:Nat):TIx x (headS (qAt x.C.sq c)).1:=by
 intro h0
 cases hq:qAt x.C.sq c with
 | nil=>rw [hq] at h0; exact absurd (show (0:Int)≤-1 from h0) (by decide)
 | cons s q =>
  cases q with
  | nil=>rw [hq] at h0; exact absurd (show (0:Int)≤-1 from h0) (by decide)
  | cons w q =>
   show s.toNat < _
   refine (h.std (r:=3) (by omega) (k:=c) (v:=s) ?_).2
   show s ∈ qAt (x.C.sq.map evens) c
   rw [qAt_evens,hq]
   simp [evens]
theorem takeB_s (bu sq:List (List Int)) (c:Nat):(takeB bu sq c).2.2.2 = (headS (qAt sq c)).1:=by
 unfold takeB
 split <;> rfl
theorem sel_ix {g:Pg} {t:Nat} {x:Xs} (h:MI g t x) (l:List Int) (u:Int):TIx x (selC x.C l u).2.2.2.1:=by
 unfold selC
 split
 ·show TIx x (takeB _ _ _).2.2.2
  rw [takeB_s]
  exact headS_ix h _
 ·intro h0; exact absurd (show (0:Int)≤-1 from h0) (by decide)
theorem clone128w (A:List (List Int)) (hl:A.length≤1000):Spec Tryz.prog 128 [lists A] [] (fun d os'=>d = .sl 0 0 1 0 A.length none∧os' = [rowC A]):=by
 have hAm:(A.map ints).length = A.length:=List.length_map ..
 by_cases hx:A = []
 ·subst hx
  refine Spec.by Tryz.func128 rfl (by decide) (by decide +kernel) rfl ?_
  refine goA ?_
  refine fun _=>And.intro ?_ ?_
  ·refine goA ?_
   refine Ret.weak (Weak.nilrow 2 rfl 23 1 true) ?_
   exact Ret.mk [.tmp _] rfl (And.intro rfl rfl)
  ·refine goA ?_
   refine App.own ?_
   refine goA ?_
   refine Ret.weak (Weak.shift 1 0 (by decide) (by simp) (bl rfl) (bl rfl) (fun j=>by cases j <;> rfl) rfl) ?_
   refine Ret.trim 1 (by simp) rfl (bl rfl) ?_
   exact Ret.mk [.tmp _] rfl (And.intro rfl rfl)
 ·have hm:(A.map ints) ≠ []:=fun e=>hx (List.map_eq_nil_iff.1 e)
  refine Spec.by Tryz.func128 rfl (by decide) (by decide +kernel) rfl ?_
  refine goA ?_
  refine And.intro (fun hn=>?_) (fun hn=>absurd hn hm)
  refine goA ?_
  refine App.own ?_
  refine goA ?_
  refine Ret.weak (Weak.shift 1 0 (by decide) (by simp) (bl rfl) (bl rfl) (fun j=>by cases j <;> rfl) rfl) ?_
  refine Ret.trim 1 (by simp) rfl (bl rfl) ?_
  refine Ret.mk [.tmp _] rfl (And.intro ?_ rfl)
  show D.sl 0 0 1 0 (0+(A.map ints).length) none = _
  rw [hAm,Nat.zero_add]
theorem clone79w (l:List Th) (hl:l.length≤1000):Spec Tryz.prog 79 [ths l] [] (fun d os'=>d = .sl 0 0 5 0 l.length none∧os' = [rowT l]):=by
 have hAm:(l.map thD).length = l.length:=List.length_map ..
 by_cases hx:l = []
 ·subst hx
  refine Spec.by Tryz.func79 rfl (by decide) (by decide +kernel) rfl ?_
  refine goA ?_
  refine fun _=>And.intro ?_ ?_
  ·refine goA ?_
   refine Ret.weak (Weak.nilrow 2 rfl 42 5 true) ?_
   exact Ret.mk [.tmp _] rfl (And.intro rfl rfl)
  ·refine goA ?_
   refine App.own ?_
   refine goA ?_
   refine Ret.weak (Weak.shift 1 0 (by decide) (by simp) (bl rfl) (bl rfl) (fun j=>by cases j <;> rfl) rfl) ?_
   refine Ret.trim 1 (by simp) rfl (bl rfl) ?_
   exact Ret.mk [.tmp _] rfl (And.intro rfl rfl)
 ·have hm:(l.map thD) ≠ []:=fun e=>hx (List.map_eq_nil_iff.1 e)
  refine Spec.by Tryz.func79 rfl (by decide) (by decide +kernel) rfl ?_
  refine goA ?_
  refine And.intro (fun hn=>?_) (fun hn=>absurd hn hm)
  refine goA ?_
  refine App.own ?_
  refine goA ?_
  refine Ret.weak (Weak.shift 1 0 (by decide) (by simp) (bl rfl) (bl rfl) (fun j=>by cases j <;> rfl) rfl) ?_
  refine Ret.trim 1 (by simp) rfl (bl rfl) ?_
  refine Ret.mk [.tmp _] rfl (And.intro ?_ rfl)
  show D.sl 0 0 5 0 (0+(l.map thD).length) none = _
  rw [hAm,Nat.zero_add]
theorem lists82 (A:List (List Int)) (hl:A.length≤1000) (hq:∀ q ∈ A,q.length≤1000):Spec Tryz.prog 82 [lists A] [] (fun d os'=>d = .sl 0 0 1 0 A.length none∧os' = [rowC A]):=by
 have hAm:(A.map ints).length = A.length:=List.length_map ..
 refine Spec.by Tryz.func82 rfl (by decide) (by decide +kernel) rfl ?_
 refine goA ?_
 refine Call.mk (clone128w A hl) ?_
 rintro d os' ⟨rfl,rfl⟩
 refine goA ?_
 refine Loop.inv (A:=Nat) (List.range 22) (fun i=>[(3,.sl 0 0 1 0 A.length none),(8,.int .i64 A.length),(9,.int .i64 (i:Int))]) (fun _=>[rowC A]) (fun i=>i≤A.length) (fun i=>A.length - i) 0 (Nat.zero_le _) ?_ ?_
 ·exact Weak.start' rfl rfl tld
 rintro i hi
 dsimp only at hi ⊢
 refine goA ?_
 refine Br.dec (fun h0=>?_) (fun h0=>?_)
 ·have hil:i < A.length:=by omega
  have hg:(A.map ints)[0+i]? = some (ints (qAt A i)):=rowC_at A i hil
  have hql:=hq _ (qAt_mem hil)
  have hset:(A.map ints).set (0+i) (ints (qAt A i)) = A.map ints:=by rw [Nat.zero_add,set_ints,set_qAt A i hil]
  refine goA ?_
  refine Opt.of hg ?_
  refine goA ?_
  refine Call.mk ((clone130 (qAt A i) (by omega)).only _ rfl (by rintro d rfl; rfl)) ?_; rintro d os' ⟨rfl,rfl⟩
  refine goA ?_
  refine Opt.of hg ?_
  refine goA ?_
  refine ⟨_,_,_,?_,⟨i+1,?_,rfl,rfl,rfl⟩,?_⟩
  ·show A.length - (i+1) < A.length - i; omega
  ·exact hil
  ·refine Weak.trans (Weak.on [(3,.sl 0 0 1 0 A.length none),(8,.int .i64 A.length),(9,.int .i64 ((i:Int)+1))] [one (.row 23 1 true ((A.map ints).set (0+i) (ints (qAt A i))))]) ?_
   rw [hset]
   refine Weak.backT 1 (by simp) (by first | rfl | kernel_rfl) (by kernel_rfl) (bl rfl) tld (by kernel_rfl) (by kernel_rfl)
 ·refine goA ?_
  exact Ret.mk [.tmp _] rfl ⟨rfl,rfl⟩
@[reducible] def z30:D:=.agg [.int .i64 0,.nils,.nils,.nils,.nils,.nils,.nils,.nils,.nils,.nils]
@[reducible] def clD (C:Cr) (bu lk wq dq sq rq:D):D:=.agg [.int .i64 C.now,.sl 2 0 5 0 C.th.length none,.sl 3 0 1 0 C.L.ow.length none,.sl 4 0 1 0 C.L.co.length none,bu,lk,wq,dq,sq,rq]
@[reducible] def clB (C:Cr) (d:D) (r:Objs):Objs:=one (.row 30 10 false [d]) :: one (.row 30 10 false [z30]) :: rowT C.th :: rowI C.L.ow :: rowI C.L.co :: one (.row 127 1 false [.ptr 0 0 10 0 4,.ptr 0 0 10 0 5,.ptr 0 0 10 0 6,.ptr 0 0 10 0 7,.ptr 0 0 10 0 8,.ptr 0 0 10 0 9]) :: r
@[reducible] def slR (k:Nat) (A:List (List Int)):D:=.sl k 0 1 0 A.length none
@[reducible] def clO (C:Cr):Nat→Objs
 | 0=>clB C (clD C (lists C.bu) (lists C.L.lk) (lists C.L.wq) (lists C.L.dq) (lists C.sq) (lists C.rq)) []
 | 1=>clB C (clD C (slR 6 C.bu) (lists C.L.lk) (lists C.L.wq) (lists C.L.dq) (lists C.sq) (lists C.rq)) [rowC C.bu]
 | 2=>clB C (clD C (slR 6 C.bu) (slR 7 C.L.lk) (lists C.L.wq) (lists C.L.dq) (lists C.sq) (lists C.rq)) [rowC C.bu,rowC C.L.lk]
 | 3=>clB C (clD C (slR 6 C.bu) (slR 7 C.L.lk) (slR 8 C.L.wq) (lists C.L.dq) (lists C.sq) (lists C.rq)) [rowC C.bu,rowC C.L.lk,rowC C.L.wq]
 | 4=>clB C (clD C (slR 6 C.bu) (slR 7 C.L.lk) (slR 8 C.L.wq) (slR 9 C.L.dq) (lists C.sq) (lists C.rq)) [rowC C.bu,rowC C.L.lk,rowC C.L.wq,rowC C.L.dq]
 | 5=>clB C (clD C (slR 6 C.bu) (slR 7 C.L.lk) (slR 8 C.L.wq) (slR 9 C.L.dq) (slR 10 C.sq) (lists C.rq)) [rowC C.bu,rowC C.L.lk,rowC C.L.wq,rowC C.L.dq,rowC C.sq]
 | _=>clB C (clD C (slR 6 C.bu) (slR 7 C.L.lk) (slR 8 C.L.wq) (slR 9 C.L.dq) (slR 10 C.sq) (slR 11 C.rq)) [rowC C.bu,rowC C.L.lk,rowC C.L.wq,rowC C.L.dq,rowC C.sq,rowC C.rq]
structure ClB (C:Cr):Prop where
 th:C.th.length≤100
 ok:∀ f ∈ C.th,okT f
 ow:C.L.ow.length≤1000
 co:C.L.co.length≤1000
 l0:C.bu.length≤1000∧∀ q ∈ C.bu,q.length≤1000
 l1:C.L.lk.length≤1000∧∀ q ∈ C.L.lk,q.length≤1000
 l2:C.L.wq.length≤1000∧∀ q ∈ C.L.wq,q.length≤1000
 l3:C.L.dq.length≤1000∧∀ q ∈ C.L.dq,q.length≤1000
 l4:C.sq.length≤1000∧∀ q ∈ C.sq,q.length≤1000
 l5:C.rq.length≤1000∧∀ q ∈ C.rq,q.length≤1000
theorem clone28a {C:Cr} (h:ClB C):Spec Tryz.prog 28 [coreV C] [] (fun d os'=>d = clD C (slR 6 C.bu) (slR 7 C.L.lk) (slR 8 C.L.wq) (slR 9 C.L.dq) (slR 10 C.sq) (slR 11 C.rq)∧∃ a b c:O,os' = one a :: one b :: rowT C.th :: rowI C.L.ow :: rowI C.L.co :: one c :: [rowC C.bu,rowC C.L.lk,rowC C.L.wq,rowC C.L.dq,rowC C.sq,rowC C.rq]):=by
 have htl:=h.th
 have how:=h.ow
 have hco:=h.co
 have htm:(C.th.map thD).length = C.th.length:=List.length_map ..
 have hom:(C.L.ow.map (D.int .i64)).length = C.L.ow.length:=List.length_map ..
 have hcm:(C.L.co.map (D.int .i64)).length = C.L.co.length:=List.length_map ..
 refine Spec.by Tryz.func28 rfl (by decide) (by decide +kernel) rfl ?_
 refine goA ?_
 refine Call.mk ((clone79w C.th (by omega)).onto _ rfl) ?_
 rintro d os' ⟨d0,os0,⟨rfl,rfl⟩,rfl,rfl⟩
 refine goA ?_
 refine Call.mk ((clone130w C.L.ow (by omega)).onto _ rfl) ?_
 rintro d os' ⟨d0,os0,⟨rfl,rfl⟩,rfl,rfl⟩
 refine goA ?_
 refine Call.mk ((clone130w C.L.co (by omega)).onto _ rfl) ?_
 rintro d os' ⟨d0,os0,⟨rfl,rfl⟩,rfl,rfl⟩
 refine goA ?_
 refine Loop.inv (A:=Nat) (List.range 54) (fun i=>[(1,.ptr 0 0 10 0 0),(2,.ptr 1 0 10 0 0),(20,.sl 2 0 5 0 C.th.length none),(21,.int .i64 C.th.length),(22,.int .i64 (i:Int))]) (fun _=>[one (.row 30 10 false [clD C (lists C.bu) (lists C.L.lk) (lists C.L.wq) (lists C.L.dq) (lists C.sq) (lists C.rq)]),one (.row 30 10 false [z30]),rowT C.th,rowI C.L.ow,rowI C.L.co]) (fun i=>i≤C.th.length) (fun i=>C.th.length - i) 0 (Nat.zero_le _) ?_ ?_
 ·exact Weak.start' rfl rfl tld
 rintro i hi
 dsimp only at hi ⊢
 refine goA ?_
 refine Br.dec (fun h0=>?_) (fun h0=>?_)
 ·have hil:i < C.th.length:=by omega
  have hg:(C.th.map thD)[0+i]? = some (thD (thAt C i)):=th_at hil
  have hok:okT (thAt C i):=by rw [thAt_lt hil]; exact h.ok _ (List.getElem_mem hil)
  have hset:(C.th.map thD).set (0+i) (thD (thAt C i)) = C.th.map thD:=by
   rw [Nat.zero_add]
   exact list_set_same' (by rw [thAt_lt hil]; exact get_map (List.getElem?_eq_getElem hil))
  refine goA ?_
  refine Opt.of hg ?_
  refine goA ?_
  refine Call.mk ((clone61 (thAt C i) hok.2).only _ rfl (by rintro d rfl; rfl)) ?_; rintro d os' ⟨rfl,rfl⟩
  refine goA ?_
  refine Opt.of hg ?_
  refine goA ?_
  refine ⟨_,_,_,?_,⟨i+1,?_,rfl,rfl,rfl⟩,?_⟩
  ·show C.th.length - (i+1) < C.th.length - i; omega
  ·exact hil
  ·refine Weak.trans (Weak.fin (sl:=[(1,.ptr 0 0 10 0 0),(2,.ptr 1 0 10 0 0),(20,.sl 2 0 5 0 C.th.length none),(21,.int .i64 C.th.length),(22,.int .i64 ((i:Int)+1))]) (os:=[one (.row 30 10 false [clD C (lists C.bu) (lists C.L.lk) (lists C.L.wq) (lists C.L.dq) (lists C.sq) (lists C.rq)]),one (.row 30 10 false [z30]),one (.row 42 5 true ((C.th.map thD).set (0+i) (thD (thAt C i)))),rowI C.L.ow,rowI C.L.co]) 5) ?_
   rw [hset]
   refine Weak.backT 5 (by simp) (by first | rfl | kernel_rfl) (by kernel_rfl) (bl rfl) tld (by kernel_rfl) (by kernel_rfl)
 ·refine goA ?_
  refine App.own ?_
  refine goA ?_
  refine Loop.inv (A:=Nat) (List.range 54) (fun i=>[(1,.ptr 0 0 10 0 0),(2,.ptr 1 0 10 0 0),(40,.sl 5 0 1 0 6 none),(41,.int .i64 6),(42,.int .i64 (i:Int))]) (fun i=>clO C i) (fun i=>i≤6) (fun i=>6 - i) 0 (Nat.zero_le _) ?_ ?_
  ·exact Weak.start' rfl rfl tld
  rintro j hj
  dsimp only at hj ⊢
  have hc:j = 0∨j = 1∨j = 2∨j = 3∨j = 4∨j = 5∨j = 6:=by omega
  rcases hc with rfl | rfl | rfl | rfl | rfl | rfl | rfl
  ·refine goA ?_
   refine Call.mk ((lists82 C.bu h.l0.1 h.l0.2).onto _ rfl) ?_
   rintro d os' ⟨d0,os0,⟨rfl,rfl⟩,rfl,rfl⟩
   refine goA ?_
   refine ⟨_,_,_,?_,⟨1,?_,rfl,rfl,rfl⟩,?_⟩
   ·decide
   ·decide
   ·exact Weak.back rfl tld (by kernel_rfl) (by kernel_rfl)
  ·refine goA ?_
   refine Call.mk ((lists82 C.L.lk h.l1.1 h.l1.2).onto _ rfl) ?_
   rintro d os' ⟨d0,os0,⟨rfl,rfl⟩,rfl,rfl⟩
   refine goA ?_
   refine ⟨_,_,_,?_,⟨2,?_,rfl,rfl,rfl⟩,?_⟩
   ·decide
   ·decide
   ·exact Weak.back rfl tld (by kernel_rfl) (by kernel_rfl)
  ·refine goA ?_
   refine Call.mk ((lists82 C.L.wq h.l2.1 h.l2.2).onto _ rfl) ?_
   rintro d os' ⟨d0,os0,⟨rfl,rfl⟩,rfl,rfl⟩
   refine goA ?_
   refine ⟨_,_,_,?_,⟨3,?_,rfl,rfl,rfl⟩,?_⟩
   ·decide
   ·decide
   ·exact Weak.back rfl tld (by kernel_rfl) (by kernel_rfl)
  ·refine goA ?_
   refine Call.mk ((lists82 C.L.dq h.l3.1 h.l3.2).onto _ rfl) ?_
   rintro d os' ⟨d0,os0,⟨rfl,rfl⟩,rfl,rfl⟩
   refine goA ?_
   refine ⟨_,_,_,?_,⟨4,?_,rfl,rfl,rfl⟩,?_⟩
   ·decide
   ·decide
   ·exact Weak.back rfl tld (by kernel_rfl) (by kernel_rfl)
  ·refine goA ?_
   refine Call.mk ((lists82 C.sq h.l4.1 h.l4.2).onto _ rfl) ?_
   rintro d os' ⟨d0,os0,⟨rfl,rfl⟩,rfl,rfl⟩
   refine goA ?_
   refine ⟨_,_,_,?_,⟨5,?_,rfl,rfl,rfl⟩,?_⟩
   ·decide
   ·decide
   ·exact Weak.back rfl tld (by kernel_rfl) (by kernel_rfl)
  ·refine goA ?_
   refine Call.mk ((lists82 C.rq h.l5.1 h.l5.2).onto _ rfl) ?_
   rintro d os' ⟨d0,os0,⟨rfl,rfl⟩,rfl,rfl⟩
   refine goA ?_
   refine ⟨_,_,_,?_,⟨6,?_,rfl,rfl,rfl⟩,?_⟩
   ·decide
   ·decide
   ·exact Weak.back rfl tld (by kernel_rfl) (by kernel_rfl)
  ·refine goA ?_
   exact Ret.mk [.cell 2 30] rfl ⟨rfl,_,_,_,rfl⟩
@[reducible] def cpO (C:Cr):Objs:=one .gone :: one .gone :: rowT C.th :: rowI C.L.ow :: rowI C.L.co :: one .gone :: [rowC C.bu,rowC C.L.lk,rowC C.L.wq,rowC C.L.dq,rowC C.sq,rowC C.rq]
theorem clone28 {C:Cr} (h:ClB C):Spec Tryz.prog 28 [coreV C] [] (fun d os'=>d = clD C (slR 6 C.bu) (slR 7 C.L.lk) (slR 8 C.L.wq) (slR 9 C.L.dq) (slR 10 C.sq) (slR 11 C.rq)∧os' = cpO C):=by
 refine Spec.weak (clone28a h) ?_
 rintro d os' ⟨rfl,a,b,c,rfl⟩
 refine ⟨[(0,clD C (slR 6 C.bu) (slR 7 C.L.lk) (slR 8 C.L.wq) (slR 9 C.L.dq) (slR 10 C.sq) (slR 11 C.rq))],cpO C,?_,rfl,rfl⟩
 refine Weak.trans (Weak.dropAt 0 (bl rfl)) (Weak.trans (Weak.dropAt 1 (bl rfl)) (Weak.trans (Weak.dropAt 5 (bl rfl)) ?_))
 exact Weak.objs rfl
def meetsM:List (Int × D):=[(1,fnD 107),(16,fnD 108),(3,fnD 109),(4,fnD 110),(5,fnD 111),(6,fnD 112),(7,fnD 113),(8,fnD 114),(9,fnD 115),(10,fnD 116),(11,fnD 117),(12,fnD 118),(13,fnD 119),(14,fnD 120),(15,fnD 121)]
theorem meets65:Spec Tryz.prog 65 [] [] (fun d os'=>d = .mp 0 0∧os' = [one (.map meetsM)]):=by
 refine Spec.by Tryz.func65 rfl (by decide) (by decide +kernel) rfl ?_
 refine goA ?_
 refine Ret.trim 1 (by simp) rfl (bl rfl) ?_
 refine Ret.mk [.tmp _] rfl ?_
 (conv=>whnf)
 exact ⟨rfl,rfl⟩
theorem meets65' (os:Objs):Spec Tryz.prog 65 [] os (fun d os'=>d = .mp os.length 0∧os' = os ++ [one (.map meetsM)]):=by
 refine (meets65.onto os rfl).mono ?_
 rintro d os' ⟨d1,os1,⟨rfl,rfl⟩,rfl,rfl⟩
 exact ⟨rfl,rfl⟩
structure RqOk (g:Pg) (q:Rq):Prop where
 kd:1≤q.kd∧q.kd≤16∨q.kd = 0
 v:kept2 q.v
 sp:q.kd = 3→0≤q.a∧q.a < g.fu.length
 mu:q.kd = 6∨q.kd = 7→0≤q.a∧q.a < g.mu
 co:q.kd = 8∨q.kd = 9∨q.kd = 10→0≤q.a∧q.a < g.co.length
 se:q.kd = 11∨q.kd = 12→0≤q.a∧q.a < g.se.length
 ch:q.kd = 13∨q.kd = 14→0≤q.a∧q.a < g.ch.length
 cs:q.kd = 15→0≤q.a∧q.a < g.cs.length
theorem xle {g:Pg} {t:Nat} {x:Xs} (h:MI g t x):kept2 x.C.now:=⟨by have:=h.z.now; omega,by have:=h.z.now; omega⟩
theorem meet_fn {g:Pg} (hg:GoodP g) {t:Nat} {x:Xs} (h:MI g t x) {q:Rq} (hq:RqOk g q) (h0:q.kd ≠ 1→(thAt x.C t).st = 0) :
  (∃ n,lookM meetsM q.kd = some (fnD n)∧Spec Tryz.prog n [.ptr 5 0 20 0 0,rqD q] (pyA (en g t) x) (fun d os'=>d = .tup []∧os' = pyZ (en g t) (meetX g x t q)))∨((q.kd = 0∨q.kd = 2)∧lookM meetsM q.kd = none∧meetX g x t q = x):=by
 have he:=h.eo hg
 have hch:=h.chx hg
 have hgc:=gc_en hg t x
 have hz:=h.z.L
 have hmu:=hg.sz.mu
 obtain ⟨kd,a,v⟩:=q
 obtain ⟨q1,q2,q3,q4,q5,q6,q7,q8⟩:=hq
 dsimp only at q1 q2 q3 q4 q5 q6 q7 q8 h0 ⊢
 have hc:kd = 0∨kd = 1∨kd = 2∨kd = 3∨kd = 4∨kd = 5∨kd = 6∨kd = 7∨kd = 8∨kd = 9∨kd = 10∨kd = 11∨kd = 12∨kd = 13∨kd = 14∨kd = 15∨kd = 16:=by omega
 rcases hc with rfl | rfl | rfl | rfl | rfl | rfl | rfl | rfl | rfl | rfl | rfl | rfl | rfl | rfl | rfl | rfl | rfl
 ·exact .inr ⟨.inl rfl,rfl,by unfold meetX; simp⟩
 ·exact .inl ⟨107,rfl,(ends107 he _).toZ⟩
 ·exact .inr ⟨.inr rfl,rfl,by unfold meetX; simp⟩
 ·obtain ⟨a0,a1⟩:=q3 rfl
  obtain ⟨u,hu⟩:∃ u,g.fu[a.toNat]? = some u:=⟨_,List.getElem?_eq_getElem (by omega)⟩
  exact .inl ⟨109,rfl,spawn109 he h.z.tl (by have:=g_th8 hg h.z; omega) (h0 (by decide)) ⟨3,a,v⟩ a0 hu (hg.fu u (List.mem_of_getElem? hu)).1⟩
 ·exact .inl ⟨110,rfl,(sleep110 he ⟨4,a,v⟩ q2 (xle h)).toZ⟩
 ·exact .inl ⟨111,rfl,(join111 he ⟨5,a,v⟩).toZ⟩
 ·have:=q4 (.inl rfl)
  exact .inl ⟨112,rfl,(lock112 he ⟨6,a,v⟩ ⟨this.1,by show a < ((g.mu.toNat:Nat):Int); omega⟩).toZ⟩
 ·have:=q4 (.inr rfl)
  exact .inl ⟨113,rfl,(unlock113 he ⟨7,a,v⟩ ⟨this.1,by show a < ((g.mu.toNat:Nat):Int); omega⟩ (unlock_z hz _ _) (unlock_ix h _ _)).toZ⟩
 ·have:=q5 (.inl rfl)
  exact .inl ⟨114,rfl,(wait114 he ⟨8,a,v⟩ this (wait_z hz _ _ _) (wait_ix h _ _ _)).toZ⟩
 ·have:=q5 (.inr (.inl rfl))
  exact .inl ⟨115,rfl,(signal115 he ⟨9,a,v⟩ this (signal_z hz _ _) (signal_ix h _ _)).toZ⟩
 ·have:=q5 (.inr (.inr rfl))
  have hm:=g.co
  have hco:=hg.co _ (getD_mem (l:=g.co) (e:=a.toNat) (by omega))
  have hall:=broad_all he.L he.N (c:=a.toNat) (m:=(g.co.getD a.toNat 0).toNat) (by show a.toNat < g.co.length; omega) (by show (g.co.getD a.toNat 0).toNat < g.mu.toNat; omega)
  have hql:(qAt x.C.L.wq a.toNat).length≤1000:=he.L.l2 _ (qAt_mem (by have:=hz.wq; omega))
  exact .inl ⟨116,rfl,(broadcast116 he ⟨10,a,v⟩ this (bcast_z _ _ _ _ _ _ hz) (by show (broadS _ _ _).2.1.length≤1000; rw [show (broadS x.C.L a.toNat ((en g t).g.co.getD a.toNat 0).toNat).2.1 = _ from hall]; exact hql) (by
   intro v hv
   rw [show (broadS x.C.L a.toNat ((en g t).g.co.getD a.toNat 0).toNat).2.1 = _ from hall] at hv
   exact h.std (r:=1) (by omega) hv)).toZ⟩
 ·have:=q6 (.inl rfl)
  exact .inl ⟨117,rfl,(down117 he ⟨11,a,v⟩ this).toZ⟩
 ·have:=q6 (.inr rfl)
  exact .inl ⟨118,rfl,(up118 he ⟨12,a,v⟩ this (up_z hz _) (up_ix h _)).toZ⟩
 ·have:=q7 (.inl rfl)
  exact .inl ⟨119,rfl,(send119 he hch hgc ⟨13,a,v⟩ this (send_ix h _ _ _ _)).toZ⟩
 ·have:=q7 (.inr rfl)
  exact .inl ⟨120,rfl,(recv120 he hch (h0 (by decide)) ⟨14,a,v⟩ this (sel_ix h _ _)).toZ⟩
 ·have:=q8 rfl
  exact .inl ⟨121,rfl,(choose121 he hch hgc (h0 (by decide)) ⟨15,a,v⟩ this (sel_ix h _ _)).toZ⟩
 ·exact .inl ⟨108,rfl,(print108 he _).toZ⟩
def rdyB (C:Cr) (v:Int):Bool:=decide ((thAt C v.toNat).st = 0)
structure WQ (t0:Nat) (p:Option Nat) (x:Xs):Prop where
 wp:x.wp = x.wk.filter (fun v=>rdyB x.C v && !decide (p = some v.toNat))
 wk:∀ v ∈ x.wk,0≤v∧v.toNat < x.C.th.length∧v.toNat ≠ t0∧((thAt x.C v.toNat).st = 0∨(thAt x.C v.toNat).st = 9)
 t0s:(thAt x.C t0).st = 0∨(thAt x.C t0).st = 9
structure WF (t0:Nat) (x:Xs):Prop where
 wp:x.wp = x.wk.filter (rdyB x.C)
 wk:∀ v ∈ x.wk,0≤v∧v.toNat < x.C.th.length∧v.toNat ≠ t0
theorem WQ.fin {t0:Nat} {x:Xs} (h:WQ t0 none x):WF t0 x:=by
 refine ⟨?_,fun v hv=>⟨(h.wk v hv).1,(h.wk v hv).2.1,(h.wk v hv).2.2.1⟩⟩
 rw [h.wp]
 exact List.filter_congr (fun v _=>by simp)
theorem WQ.inC {t0:Nat} {p:Option Nat} {x:Xs} (h:WQ t0 p x) {C':Cr} (hC:C'.th = x.C.th):WQ t0 p (V.inC x C'):=by
 have e:∀ k,thAt C' k = thAt x.C k:=fun k=>by unfold thAt; rw [hC]
 refine ⟨?_,fun v hv=>?_,?_⟩
 ·rw [show (V.inC x C').wp = x.wp from rfl,h.wp]
  exact List.filter_congr (fun v _=>by unfold rdyB; rw [show (V.inC x C').C = C' from rfl,e])
 ·have:=h.wk v hv
  rw [show (V.inC x C').C = C' from rfl,e,hC]
  exact this
 ·rw [show (V.inC x C').C = C' from rfl,e]; exact h.t0s
theorem putT_len (C:Cr) (t:Nat) (f:Th):(putT C t f).th.length = C.th.length:=by simp [putT]
theorem thAt_ne {C:Cr} {t k:Nat} {f:Th} (h:k ≠ t):thAt (putT C t f) k = thAt C k:=by rw [thAt_put,if_neg (fun e=>h e.1.symm)]
theorem thAt_eq {C:Cr} {t:Nat} {f:Th} (h:t < C.th.length):thAt (putT C t f) t = f:=by rw [thAt_put,if_pos ⟨rfl,h⟩]
theorem WQ.no {t0:Nat} {p:Option Nat} {x:Xs} (h:WQ t0 p x) {t:Nat} (hs:(thAt x.C t).st ≠ 0) (h9:(thAt x.C t).st ≠ 9):(∀ v ∈ x.wk,v.toNat ≠ t)∧t ≠ t0:=by
 refine ⟨fun v hv e=>?_,fun e=>?_⟩
 ·have:=(h.wk v hv).2.2.2
  rw [e] at this; omega
 ·have:=h.t0s
  rw [← e] at this; omega
theorem WQ.put {t0:Nat} {p:Option Nat} {x:Xs} (h:WQ t0 p x) {t:Nat} (hn:∀ v ∈ x.wk,v.toNat ≠ t) {f:Th} (h0:t = t0→f.st = 0∨f.st = 9) (ev:List Ev):WQ t0 p ⟨putT x.C t f,ev,x.wk,x.wp⟩:=by
 refine ⟨?_,fun v hv=>?_,?_⟩
 ·show x.wp = x.wk.filter _
  rw [h.wp]
  exact List.filter_congr (fun v hv=>by unfold rdyB; rw [show (⟨putT x.C t f,ev,x.wk,x.wp⟩:Xs).C = putT x.C t f from rfl,thAt_ne (hn v hv)])
 ·have:=h.wk v hv
  show 0≤v∧v.toNat < (putT x.C t f).th.length∧v.toNat ≠ t0∧((thAt (putT x.C t f) v.toNat).st = 0∨(thAt (putT x.C t f) v.toNat).st = 9)
  rw [thAt_ne (hn v hv),putT_len]
  exact this
 ·show (thAt (putT x.C t f) t0).st = 0∨(thAt (putT x.C t f) t0).st = 9
  rw [thAt_put]
  split
  ·rename_i e; exact h0 e.1
  ·exact h.t0s
theorem WQ.rest {t0:Nat} {x:Xs} (h:WQ t0 none x) {st on:Int}:WF t0 (restX x t0 st on):=by
 refine ⟨?_,fun v hv=>?_⟩
 ·show x.wp = x.wk.filter _
  rw [h.wp]
  exact List.filter_congr (fun v hv=>by
   have:=(h.wk v hv).2.2.1
   unfold rdyB; rw [show (restX x t0 st on).C = putT x.C t0 _ from rfl,thAt_ne this]; simp)
 ·have:=h.wk v hv
  refine ⟨this.1,?_,this.2.2.1⟩
  show v.toNat < (putT x.C t0 _).th.length
  rw [putT_len]; exact this.2.1
theorem WQ.dead {t0 t:Nat} {x:Xs} {p:Option Nat} (h:WQ t0 p x) (ht:t < x.C.th.length) (hp:p = some t∨(p = none∧t = t0)) (c:Int):WQ t0 none (deadX x t c):=by
 have e9:(thAt (putT x.C t (endT c)) t).st = 9:=by rw [thAt_eq ht]
 refine ⟨?_,fun v hv=>?_,?_⟩
 ·show x.wp = x.wk.filter (fun v=>rdyB (putT x.C t (endT c)) v && !decide (none = some v.toNat))
  rw [h.wp]
  refine List.filter_congr (fun v hv=>?_)
  by_cases hvt:v.toNat = t
  ·have hr:rdyB (putT x.C t (endT c)) v = false:=by unfold rdyB; rw [hvt,e9]; decide
   rw [hr]
   rcases hp with rfl | ⟨_,rfl⟩
   ·rw [hvt]; simp
   ·exact absurd hvt (h.wk v hv).2.2.1
  ·have hr:rdyB (putT x.C t (endT c)) v = rdyB x.C v:=by unfold rdyB; rw [thAt_ne hvt]
   rw [hr]
   have h1:decide (p = some v.toNat) = false:=by
    refine decide_eq_false (fun e=>?_)
    rcases hp with rfl | ⟨rfl,_⟩
    ·exact hvt (Option.some.inj e).symm
    ·cases e
   rw [h1]
   simp
 ·have:=h.wk v hv
  show 0≤v∧v.toNat < (putT x.C t (endT c)).th.length∧v.toNat ≠ t0∧((thAt (putT x.C t (endT c)) v.toNat).st = 0∨(thAt (putT x.C t (endT c)) v.toNat).st = 9)
  rw [putT_len]
  refine ⟨this.1,this.2.1,this.2.2.1,?_⟩
  by_cases hvt:v.toNat = t
  ·rw [hvt]; exact .inr e9
  ·rw [thAt_ne hvt]; exact this.2.2.2
 ·show (thAt (putT x.C t (endT c)) t0).st = 0∨(thAt (putT x.C t (endT c)) t0).st = 9
  by_cases hvt:t0 = t
  ·subst hvt; exact .inr e9
  ·rw [thAt_ne hvt]; exact h.t0s
def EWA (t0:Nat) (E:Xs→Nat→Int→Xs):Prop:=∀ (p:Option Nat) (x:Xs) (t:Nat) (c:Int),t < x.C.th.length→WQ t0 p x→(p = some t∨(p = none∧t = t0))→WQ t0 none (E x t c)
theorem wake_wq {t0:Nat} {E:Xs→Nat→Int→Xs} (hE:EWA t0 E) {x:Xs} (h:WQ t0 none x) {t:Nat} (hs:(thAt x.C t).st ≠ 0) (h9:(thAt x.C t).st ≠ 9) (l:List Int):WQ t0 none (wakeE E x t l):=by
 have ht:=lt_of_st h9
 obtain ⟨hn,hn0⟩:=h.no hs h9
 have hlen:(restX { x with wk:=x.wk ++ [(t:Int)] } t 0 0).C.th.length = x.C.th.length:=rest_len _ _ _ _
 have hst:=rest_st0 { x with wk:=x.wk ++ [(t:Int)] } t ht
 have h1:WQ t0 (some t) (restX { x with wk:=x.wk ++ [(t:Int)] } t 0 0):=by
  refine ⟨?_,fun v hv=>?_,?_⟩
  ·show x.wp = (x.wk ++ [(t:Int)]).filter (fun v=>rdyB (putT x.C t _) v && !decide (some t = some v.toNat))
   rw [List.filter_append,h.wp]
   have e2:[(t:Int)].filter (fun v=>rdyB (putT x.C t { thAt x.C t with st:=0,on:=0 }) v && !decide (some t = some v.toNat)) = []:=by simp
   rw [e2,List.append_nil]
   refine List.filter_congr (fun v hv=>?_)
   have hr:rdyB (putT x.C t { thAt x.C t with st:=0,on:=0 }) v = rdyB x.C v:=by unfold rdyB; rw [thAt_ne (hn v hv)]
   rw [hr,decide_eq_false (fun e:some t = some v.toNat=>hn v hv (Option.some.inj e).symm)]
   simp
  ·rw [hlen]
   have hv':v ∈ x.wk ++ [(t:Int)]:=hv
   rcases List.mem_append.1 hv' with hv' | hv'
   ·have:=h.wk v hv'
    refine ⟨this.1,this.2.1,this.2.2.1,?_⟩
    rw [show (restX { x with wk:=x.wk ++ [(t:Int)] } t 0 0).C = putT x.C t { thAt x.C t with st:=0,on:=0 } from rfl,thAt_ne (hn v hv')]
    exact this.2.2.2
   ·rw [List.mem_singleton] at hv'
    subst hv'
    refine ⟨by omega,by simpa using ht,by simpa using hn0,.inl ?_⟩
    simpa using hst
  ·rw [show (restX { x with wk:=x.wk ++ [(t:Int)] } t 0 0).C = putT x.C t { thAt x.C t with st:=0,on:=0 } from rfl,thAt_ne hn0.symm]
   exact h.t0s
 unfold wakeE
 unfold tellE
 by_cases hb:(tellT (thAt (restX { x with wk:=x.wk ++ [(t:Int)] } t 0 0).C t) l).2 = true
 ·rw [if_pos hb]
  rw [if_pos rfl]
  have hts:=(tellT_st hb).1
  rw [hst] at hts
  generalize hC1:(restX { x with wk:=x.wk ++ [(t:Int)] } t 0 0) = y at h1 hlen hst hts hb ⊢
  have hyw:y.wk = x.wk ++ [(t:Int)]:=by rw [← hC1]; rfl
  have hyp:y.wp = x.wp:=by rw [← hC1]; rfl
  have e0:(thAt (putT y.C t (tellT (thAt y.C t) l).1) t).st = 0:=by rw [thAt_eq (by omega)]; exact hts
  have hk:∀ v:Int,v.toNat ≠ t→rdyB (putT y.C t (tellT (thAt y.C t) l).1) v = rdyB x.C v:=fun v hv=>by
   unfold rdyB
   rw [thAt_ne hv,← hC1,show (restX { x with wk:=x.wk ++ [(t:Int)] } t 0 0).C = putT x.C t { thAt x.C t with st:=0,on:=0 } from rfl,thAt_ne hv]
  refine ⟨?_,fun v hv=>?_,?_⟩
  ·show y.wp ++ [(t:Int)] = y.wk.filter (fun v=>rdyB (putT y.C t (tellT (thAt y.C t) l).1) v && !decide (none = some v.toNat))
   rw [hyw,hyp,List.filter_append,h.wp]
   have e2:[(t:Int)].filter (fun v=>rdyB (putT y.C t (tellT (thAt y.C t) l).1) v && !decide (none = some v.toNat)) = [(t:Int)]:=by
    rw [List.filter_cons,if_pos]
    ·rfl
    ·have:rdyB (putT y.C t (tellT (thAt y.C t) l).1) (t:Int) = true:=by
      unfold rdyB
      rw [show ((t:Int).toNat) = t from by omega,e0]; decide
     rw [this]; rfl
   rw [e2]
   congr 1
   exact List.filter_congr (fun v hv=>by rw [hk v (hn v hv)])
  ·have hv':v ∈ y.wk:=hv
   have:=h1.wk v hv'
   show 0≤v∧v.toNat < (putT y.C t _).th.length∧v.toNat ≠ t0∧((thAt (putT y.C t _) v.toNat).st = 0∨(thAt (putT y.C t _) v.toNat).st = 9)
   rw [putT_len]
   refine ⟨this.1,this.2.1,this.2.2.1,?_⟩
   by_cases hvt:v.toNat = t
   ·rw [hvt]; exact .inl e0
   ·rw [thAt_ne hvt]; exact this.2.2.2
  ·show (thAt (putT y.C t _) t0).st = 0∨(thAt (putT y.C t _) t0).st = 9
   rw [thAt_ne hn0.symm]
   exact h1.t0s
 ·rw [if_neg hb]
  dsimp only
  rw [if_neg Bool.false_ne_true]
  exact hE _ _ t 2 (by rw [hlen]; exact ht) h1 (.inl rfl)
theorem endR_wq {t0:Nat} {E:Xs→Nat→Int→Xs} (hE:EWA t0 E) (t:Nat) (c:Int):∀ (l:List Nat) (y:Xs),WQ t0 none y→WQ t0 none (l.foldl (endR E t c) y)
 | [],y,h=>h
 | k :: l,y,h=>by
  refine endR_wq hE t c l _ ?_
  unfold endR
  split
  ·rename_i hj
   have h2:=(joins_lt hj).2
   exact wake_wq hE h (by omega) (by omega) [c]
  ·exact h
theorem end_wq (t0:Nat):∀ n,EWA t0 (endX n)
 | 0=>fun p x t c ht h hp=>h.dead ht hp c
 | n+1=>fun p x t c ht h hp=>endR_wq (end_wq t0 n) t c _ _ (h.dead ht hp c)
theorem wakeF_wq {t0:Nat} {x:Xs} (h:WQ t0 none x) {u:Int} (hs:0≤u→(thAt x.C u.toNat).st ≠ 0∧(thAt x.C u.toNat).st ≠ 9) (l:List Int):WQ t0 none (wakeF x u l):=by
 unfold wakeF
 split
 ·exact h
 ·have:=hs (by omega)
  exact wake_wq (end_wq t0 FU) h this.1 this.2 l
theorem tellF_wq {t0:Nat} {x:Xs} (h:WQ t0 none x) (ht:t0 < x.C.th.length) (l:List Int):WQ t0 none (tellF x t0 l):=by
 unfold tellF tellE
 split
 ·rename_i hb
  have hts:=(tellT_st hb).1
  exact h.put (fun v hv=>(h.wk v hv).2.2.1) (fun _=>by rw [hts]; exact h.t0s) x.ev
 ·exact end_wq t0 FU none x t0 2 ht h (.inr ⟨rfl,rfl⟩)
theorem endF_wq {t0:Nat} {x:Xs} (h:WQ t0 none x) (ht:t0 < x.C.th.length) (c:Int):WQ t0 none (endF x t0 c):=end_wq t0 FU none x t0 c ht h (.inr ⟨rfl,rfl⟩)
theorem WQ.ev {t0:Nat} {p:Option Nat} {x:Xs} (h:WQ t0 p x) (ev:List Ev):WQ t0 p { x with ev:=ev }:=⟨h.wp,h.wk,h.t0s⟩
theorem WQ.inL {t0:Nat} {p:Option Nat} {x:Xs} (h:WQ t0 p x) (S:Lk):WQ t0 p (V.inL x S):=h.inC (C':={ x.C with L:=S }) rfl
theorem movedX_wq {t0:Nat} {x:Xs} (h:WQ t0 none x) {u:Int} (hu:0≤u) (hs:(thAt x.C u.toNat).st ≠ 0) (h9:(thAt x.C u.toNat).st ≠ 9) (m:Int) (b:Bool):WQ t0 none (movedX x u m b):=by
 unfold movedX
 split
 ·exact wakeF_wq h (fun _=>⟨hs,h9⟩) []
 ·obtain ⟨hn,hn0⟩:=h.no hs h9
  exact h.put hn (fun e=>absurd e hn0) x.ev
theorem wakeF_stay {x:Xs} {u:Int} {l:List Int} {k:Nat} (hk:(k:Int) ≠ u) (h2:(thAt x.C k).st ≠ 2):thAt (wakeF x u l).C k = thAt x.C k:=by
 unfold wakeF
 split
 ·rfl
 ·exact (wake_tame (end_tame FU) x u.toNat l).stay k (by omega) h2
theorem movedX_stay {x:Xs} {u m:Int} {b:Bool} {k:Nat} (hk:(k:Int) ≠ u) (hu:0≤u) (h2:(thAt x.C k).st ≠ 2):thAt (movedX x u m b).C k = thAt x.C k:=by
 unfold movedX
 split
 ·exact wakeF_stay hk h2
 ·exact thAt_ne (by omega)
theorem moved_wq {t0:Nat} (m got:Int):∀ (l:List Int) (x:Xs),WQ t0 none x→l.Nodup→(∀ v ∈ l,0≤v∧(thAt x.C v.toNat).st = 4)→WQ t0 none (l.foldl (movedL m got) x)
 | [],x,h,_,_=>h
 | v :: l,x,h,hd,hs=>by
  obtain ⟨hv,hv4⟩:=hs v List.mem_cons_self
  rw [List.foldl_cons]
  have hd':=List.nodup_cons.1 hd
  refine moved_wq m got l _ (movedX_wq h hv (by omega) (by omega) m _) hd'.2 (fun w hw=>?_)
  obtain ⟨hw0,hw4⟩:=hs w (List.mem_cons_of_mem _ hw)
  refine ⟨hw0,?_⟩
  have hne:((w.toNat:Nat):Int) ≠ v:=by
   intro e
   have:w = v:=by omega
   exact hd'.1 (this ▸ hw)
  rw [show movedL m got x v = movedX x v m (decide (v = got)) from rfl,movedX_stay hne hv (by omega)]
  exact hw4
def TSt (x:Xs) (v:Int):Prop:=0≤v→3≤(thAt x.C v.toNat).st∧(thAt x.C v.toNat).st≤8
theorem TSt.wk {x:Xs} {v:Int} (h:TSt x v):0≤v→(thAt x.C v.toNat).st ≠ 0∧(thAt x.C v.toNat).st ≠ 9:=fun h0=>by have:=h h0; omega
theorem row_st {g:Pg} {t:Nat} {x:Xs} (h:MI g t x) {r k:Nat} {v:Int} (hr:r < 5) (hv:v ∈ qAt (rws x.C r) k):0≤v∧((thAt x.C v.toNat).st = (r:Int)+3∨(r = 4∧(thAt x.C v.toNat).st = 8)):=by
 obtain ⟨u,rfl,hu,hs⟩:=h.rk.std r k v hr hv
 rw [show ((u:Int).toNat) = u from by omega]
 refine ⟨by omega,?_⟩
 rcases hs with hs | hs
 ·exact .inl hs.1
 ·exact .inr ⟨hs.1,hs.2.1⟩
theorem row_ts {g:Pg} {t:Nat} {x:Xs} (h:MI g t x) {r k:Nat} {v:Int} (hr:r < 5) (hv:v ∈ qAt (rws x.C r) k):TSt x v:=fun _=>by
 have:=(row_st h hr hv).2
 omega
theorem neg_ts {x:Xs}:TSt x (-1):=fun h=>absurd h (by decide)
theorem head_ts {g:Pg} {t:Nat} {x:Xs} (h:MI g t x) {r k:Nat} (hr:r < 5):TSt x (headQ (qAt (rws x.C r) k)):=by
 cases hq:qAt (rws x.C r) k with
 | nil=>exact neg_ts
 | cons a q=>exact row_ts h hr (v:=a) (k:=k) (by rw [hq]; simp)
theorem unlock_ts {g:Pg} {t:Nat} {x:Xs} (h:MI g t x) (a:Nat) (u:Int):TSt x (unlockS x.C.L a u).2.1:=by
 unfold unlockS
 split
 ·exact neg_ts
 ·exact head_ts h (r:=0) (by omega)
theorem wait_ts {g:Pg} {t:Nat} {x:Xs} (h:MI g t x) (c a:Nat) (u:Int):TSt x (waitS x.C.L c a u).2.1:=by
 unfold waitS
 split
 ·exact neg_ts
 ·exact head_ts h (r:=0) (by omega)
theorem signal_ts {g:Pg} {t:Nat} {x:Xs} (h:MI g t x) (c a:Nat):TSt x (signalS x.C.L c a).2.1:=by
 unfold signalS
 split
 ·exact neg_ts
 ·rename_i u q hq
  exact row_ts h (r:=1) (by omega) (k:=c) (v:=u) (by show u ∈ qAt x.C.L.wq c; rw [hq]; simp)
theorem up_ts {g:Pg} {t:Nat} {x:Xs} (h:MI g t x) (a:Nat):TSt x (upS x.C.L a).2:=by
 unfold upS
 split
 ·exact neg_ts
 ·rename_i u q hq
  exact row_ts h (r:=2) (by omega) (k:=a) (v:=u) (by show u ∈ qAt x.C.L.dq a; rw [hq]; simp)
theorem send_ts {g:Pg} {t:Nat} {x:Xs} (h:MI g t x) (c:Nat) (room u v:Int):TSt x (sendC x.C c room u v).2.1:=by
 unfold sendC
 split
 ·rename_i f q hq
  exact row_ts h (r:=4) (by omega) (k:=c) (v:=f) (by show f ∈ qAt x.C.rq c; rw [hq]; simp)
 ·split <;> exact neg_ts
theorem headS_ts {g:Pg} {t:Nat} {x:Xs} (h:MI g t x) (c:Nat):TSt x (headS (qAt x.C.sq c)).1:=by
 cases hq:qAt x.C.sq c with
 | nil=>exact neg_ts
 | cons s q =>
  cases q with
  | nil=>exact neg_ts
  | cons w q =>
   show TSt x s
   refine row_ts h (r:=3) (by omega) (k:=c) (v:=s) ?_
   show s ∈ qAt (x.C.sq.map evens) c
   rw [qAt_evens,hq]
   simp [evens]
theorem sel_ts {g:Pg} {t:Nat} {x:Xs} (h:MI g t x) (l:List Int) (u:Int):TSt x (selC x.C l u).2.2.2.1:=by
 unfold selC
 split
 ·show TSt x (takeB _ _ _).2.2.2
  rw [takeB_s]
  exact headS_ts h _
 ·exact neg_ts
theorem TSt.inL {x:Xs} {v:Int} (h:TSt x v) (S:Lk):TSt (V.inL x S) v:=h
theorem TSt.inC {x:Xs} {v:Int} (h:TSt x v) {C':Cr} (hC:C'.th = x.C.th):TSt (V.inC x C') v:=fun h0=>by
 have:=h h0
 unfold thAt at this ⊢
 rw [show (V.inC x C').C = C' from rfl,hC]
 exact this
theorem tellF_stay {x:Xs} {t k:Nat} {l:List Int} (h0:(thAt x.C t).st = 0) (hk:k ≠ t) (h2:(thAt x.C k).st ≠ 2):thAt (tellF x t l).C k = thAt x.C k:=(tell_tame (end_tame FU) x t l (fun _=>h0)).stay k hk h2
theorem nodup_wq {g:Pg} {t:Nat} {x:Xs} (h:MI g t x) (k:Nat):(qAt x.C.L.wq k).Nodup:=by
 rw [List.nodup_iff_count]
 intro v
 by_cases hv:v ∈ qAt (rws x.C 1) k
 ·obtain ⟨u,rfl,hu,hs⟩:=h.rk.std 1 k v (by omega) hv
  have hc:=h.rk.cnt u hu
  rw [if_neg (by simp)] at hc
  have h4:(thAt x.C u).st = 4:=by
   rcases hs with hs | hs
   ·have:=hs.1; omega
   ·omega
  have hn:need g (thAt x.C u) = 1:=by unfold need; rw [if_pos (by omega)]
  have hk:=qAt_mem' hv
  have h1:=cntL_pos (t:=(u:Int)) (qAt_mem hk)
  unfold cnt at hc
  show List.count (u:Int) (qAt (rws x.C 1) k)≤1
  omega
 ·have:List.count v (qAt x.C.L.wq k) = 0:=List.count_eq_zero.2 hv
  omega
theorem wq0 {t:Nat} {x:Xs} (hp:x.wp = []) (hw:x.wk = []) (ht:(thAt x.C t).st = 0∨(thAt x.C t).st = 9):WQ t none x:=by
 refine ⟨by rw [hp,hw]; rfl,fun v hv=>?_,ht⟩
 rw [hw] at hv
 simp at hv
theorem after_wq {t:Nat} {x y:Xs} {l:List Int} (h:WQ t none x) (ht:t < x.C.th.length) (h0:(thAt x.C t).st = 0) {v:Int} (hv:TSt x v) (l':List Int):WQ t none (wakeF (tellF x t l) v l'):=by
 refine wakeF_wq (tellF_wq h ht l) (fun hv0=>?_) l'
 have h1:=hv hv0
 have hne:v.toNat ≠ t:=by intro e; rw [e] at h1; omega
 rw [tellF_stay h0 hne (by omega)]
 omega
theorem meet_wf {g:Pg} (hg:GoodP g) {t:Nat} {x:Xs} (h:MI g t x) {q:Rq} (hq:RqOk g q) (h0:q.kd ≠ 1→(thAt x.C t).st = 0) (h09:(thAt x.C t).st = 0∨(thAt x.C t).st = 9):WF t (meetX g x t q):=by
 have hw:=wq0 h.wp h.wk h09
 have ht:=h.tl
 have he:=h.eo hg
 have hz:=h.z.L
 obtain ⟨kd,a,v⟩:=q
 obtain ⟨q1,q2,q3,q4,q5,q6,q7,q8⟩:=hq
 dsimp only at q1 q2 q3 q4 q5 q6 q7 q8 h0
 have hc:kd = 0∨kd = 1∨kd = 2∨kd = 3∨kd = 4∨kd = 5∨kd = 6∨kd = 7∨kd = 8∨kd = 9∨kd = 10∨kd = 11∨kd = 12∨kd = 13∨kd = 14∨kd = 15∨kd = 16:=by omega
 rcases hc with rfl | rfl | rfl | rfl | rfl | rfl | rfl | rfl | rfl | rfl | rfl | rfl | rfl | rfl | rfl | rfl | rfl
 ·exact hw.fin
 ·exact (endF_wq hw ht v).fin
 ·exact hw.fin
 ·show WF t (spawnX g x t a)
  unfold spawnX
  split
  ·exact (tellF_wq (x:=seeX x 1 t (-1)) (hw.ev _) ht _).fin
  ·refine (tellF_wq (t0:=t) ?_ (by show t < (x.C.th ++ [newT g a]).length; rw [List.length_append]; omega) _).fin
   have hn:∀ C:Cr,C.th = x.C.th ++ [newT g a]→thAt C x.C.th.length = newT g a:=fun C hC=>by unfold thAt; rw [hC,List.getD_eq_getElem?_getD]; simp
   have ho:∀ C:Cr,C.th = x.C.th ++ [newT g a]→∀ k < x.C.th.length,thAt C k = thAt x.C k:=fun C hC k hk=>by unfold thAt; rw [hC,List.getD_eq_getElem?_getD,List.getD_eq_getElem?_getD,List.getElem?_append_left hk]
   refine ⟨?_,fun v hv=>?_,?_⟩
   ·show x.wp ++ [_] = (x.wk ++ [_]).filter _
    rw [h.wp,h.wk]
    have:rdyB { x.C with th:=x.C.th ++ [newT g a] } (x.C.th.length:Int) = true:=by
     unfold rdyB
     rw [show ((x.C.th.length:Int).toNat) = x.C.th.length from by omega,hn _ rfl]
     rfl
    rw [List.nil_append,List.filter_cons,if_pos]
    ·rfl
    ·show (rdyB { x.C with th:=x.C.th ++ [newT g a] } (x.C.th.length:Int) && _) = true
     rw [this]; rfl
   ·have hv':v ∈ x.wk ++ [(x.C.th.length:Int)]:=hv
    rw [h.wk,List.nil_append,List.mem_singleton] at hv'
    subst hv'
    rw [show ((x.C.th.length:Int).toNat) = x.C.th.length from by omega]
    refine ⟨by omega,?_,by omega,.inl ?_⟩
    ·show _ < (x.C.th ++ [newT g a]).length
     rw [List.length_append]
     show _ < _+1
     omega
    ·rw [hn _ rfl]; rfl
   ·rw [ho _ rfl t ht]; exact h09
 ·show WF t (sleepX x t v)
  unfold sleepX
  split
  ·exact hw.rest
  ·exact hw.fin
 ·show WF t (joinX x t v)
  unfold joinX
  split
  ·exact (endF_wq hw ht 5).fin
  ·split
   ·exact (tellF_wq hw ht _).fin
   ·exact hw.rest
 ·show WF t (lockX x t a)
  unfold lockX
  dsimp only
  split
  ·exact (hw.inL _).fin
  ·exact (hw.inL _).rest
 ·show WF t (unlockX x t a)
  unfold unlockX
  dsimp only
  split
  ·exact (wakeF_wq (hw.inL (unlockS x.C.L a.toNat t).1) ((unlock_ts h a.toNat t).inL (unlockS x.C.L a.toNat t).1).wk []).fin
  ·exact (endF_wq hw ht 4).fin
 ·show WF t (waitX g x t a)
  unfold waitX
  dsimp only
  split
  ·exact (wakeF_wq (hw.inL (waitS x.C.L a.toNat (g.co.getD a.toNat 0).toNat t).1) ((wait_ts h a.toNat (g.co.getD a.toNat 0).toNat t).inL (waitS x.C.L a.toNat (g.co.getD a.toNat 0).toNat t).1).wk []).rest
  ·exact (endF_wq hw ht 4).fin
 ·show WF t (signalX g x a)
  unfold signalX
  dsimp only
  split
  ·exact hw.fin
  ·rename_i hn
   have hs:=(signal_ts h a.toNat (g.co.getD a.toNat 0).toNat).inC (C':={ x.C with L:=(signalS x.C.L a.toNat (g.co.getD a.toNat 0).toNat).1 }) rfl
   have h2:=hs (by omega)
   exact (movedX_wq (hw.inL _) (by omega) (by show (thAt (V.inC x _).C _).st ≠ 0; omega) (by show (thAt (V.inC x _).C _).st ≠ 9; omega) _ _).fin
 ·have:=q5 (.inr (.inr rfl))
  have hco:=hg.co _ (getD_mem (l:=g.co) (e:=a.toNat) (by omega))
  have hall:=broad_all he.L he.N (c:=a.toNat) (m:=(g.co.getD a.toNat 0).toNat) (by show a.toNat < g.co.length; omega) (by show (g.co.getD a.toNat 0).toNat < g.mu.toNat; omega)
  show WF t (broadX g x a)
  unfold broadX
  dsimp only
  rw [hall]
  refine (moved_wq _ _ _ _ (hw.inL _) (nodup_wq h _) (fun v hv=>?_)).fin
  obtain ⟨h1,h2⟩:=row_st h (r:=1) (by omega) (k:=a.toNat) (v:=v) hv
  refine ⟨h1,?_⟩
  show (thAt x.C v.toNat).st = 4
  omega
 ·show WF t (downX x t a)
  unfold downX
  dsimp only
  split
  ·exact (hw.inL _).fin
  ·exact (hw.inL _).rest
 ·show WF t (upX x a)
  unfold upX
  dsimp only
  exact (wakeF_wq (hw.inL (upS x.C.L a.toNat).1) ((up_ts h a.toNat).inL (upS x.C.L a.toNat).1).wk []).fin
 ·show WF t (sendX g x t a v)
  have hs:=(send_ts h a.toNat (g.ch.getD a.toNat 0) (t:Int) v).inC (sendC_th x.C a.toNat (g.ch.getD a.toNat 0) (t:Int) v).1
  have hi:=hw.inC (sendC_th x.C a.toNat (g.ch.getD a.toNat 0) (t:Int) v).1
  unfold sendX
  dsimp only
  split
  ·exact hi.rest
  ·split
   ·exact hi.fin
   ·split
    ·exact (wakeF_wq hi hs.wk _).fin
    ·exact (wakeF_wq hi hs.wk _).fin
 ·show WF t (recvX x t a)
  have hs:=(sel_ts h [a] (t:Int)).inC (selC_th x.C [a] (t:Int)).1
  have hi:=hw.inC (selC_th x.C [a] (t:Int)).1
  have e:∀ k,thAt (V.inC x (selC x.C [a] (t:Int)).1).C k = thAt x.C k:=fun k=>by unfold thAt; rw [show (V.inC x (selC x.C [a] (t:Int)).1).C = (selC x.C [a] (t:Int)).1 from rfl,(selC_th _ _ _).1]
  unfold recvX
  dsimp only
  split
  ·exact hi.rest
  ·exact (after_wq (y:=x) hi (by show t < (selC x.C [a] (t:Int)).1.th.length; rw [(selC_th _ _ _).1]; exact ht) (by rw [e]; exact h0 (by decide)) hs []).fin
 ·show WF t (chooseX g x t a)
  have hs:=(sel_ts h (qAt g.cs a.toNat) (t:Int)).inC (selC_th x.C (qAt g.cs a.toNat) (t:Int)).1
  have hi:=hw.inC (selC_th x.C (qAt g.cs a.toNat) (t:Int)).1
  have e:∀ k,thAt (V.inC x (selC x.C (qAt g.cs a.toNat) (t:Int)).1).C k = thAt x.C k:=fun k=>by unfold thAt; rw [show (V.inC x (selC x.C (qAt g.cs a.toNat) (t:Int)).1).C = (selC x.C (qAt g.cs a.toNat) (t:Int)).1 from rfl,(selC_th _ _ _).1]
  unfold chooseX
  dsimp only
  split
  ·exact hi.rest
  ·exact (after_wq (y:=x) hi (by show t < (selC x.C (qAt g.cs a.toNat) (t:Int)).1.th.length; rw [(selC_th _ _ _).1]; exact ht) (by rw [e]; exact h0 (by decide)) hs []).fin
 ·exact (hw.ev _).fin
theorem qAt_set3 (R:List (List Int)) (e k:Nat) (x:List Int):qAt (R.set e x) k = if e = k∧e < R.length then x else qAt R k:=getD_set' R e k x []
theorem cnt_one {C C1:Cr} {r:Nat} (hr:r < 5) (hro:∀ r',r' < 5→r' ≠ r→rws C1 r' = rws C r') (t:Int):V.cnt C1 t+cntL (rws C r) t = V.cnt C t+cntL (rws C1 r) t:=by
 unfold V.cnt
 have hc:r = 0∨r = 1∨r = 2∨r = 3∨r = 4:=by omega
 rcases hc with rfl | rfl | rfl | rfl | rfl
 ·rw [hro 1 (by omega) (by omega),hro 2 (by omega) (by omega),hro 3 (by omega) (by omega),hro 4 (by omega) (by omega)]; omega
 ·rw [hro 0 (by omega) (by omega),hro 2 (by omega) (by omega),hro 3 (by omega) (by omega),hro 4 (by omega) (by omega)]; omega
 ·rw [hro 1 (by omega) (by omega),hro 0 (by omega) (by omega),hro 3 (by omega) (by omega),hro 4 (by omega) (by omega)]; omega
 ·rw [hro 1 (by omega) (by omega),hro 2 (by omega) (by omega),hro 0 (by omega) (by omega),hro 4 (by omega) (by omega)]; omega
 ·rw [hro 1 (by omega) (by omega),hro 2 (by omega) (by omega),hro 3 (by omega) (by omega),hro 0 (by omega) (by omega)]; omega
theorem rws_put (C:Cr) (t:Nat) (f:Th) (r:Nat):rws (putT C t f) r = rws C r:=by
 rcases r with _ | _ | _ | _ | _ <;> rfl
theorem cnt_put (C:Cr) (t:Nat) (f:Th) (u:Int):V.cnt (putT C t f) u = V.cnt C u:=rfl
theorem thAt_th {C C':Cr} (h:C'.th = C.th) (k:Nat):thAt C' k = thAt C k:=by unfold thAt; rw [h]
theorem rk_pop {g:Pg} {C C1:Cr} (h:Rk g none C) {r k:Nat} (hr:r < 5) (hth:C1.th = C.th) (hro:∀ r',r' < 5→r' ≠ r→rws C1 r' = rws C r') {u:Nat} {q:List Int} (hq:qAt (rws C r) k = (u:Int) :: q) (hrr:rws C1 r = (rws C r).set k q) (h1:need g (thAt C u) = 1) {f:Th} (hf:need g f = 0):Rk g none (putT C1 u f):=by
 have hm:(u:Int) ∈ qAt (rws C r) k:=by rw [hq]; simp
 have hk:=qAt_mem' hm
 obtain ⟨u',hu',hul,hus⟩:=h.std r k _ hr hm
 have:u' = u:=by omega
 subst this
 have hset:∀ t:Int,cntL (rws C1 r) t+(qAt (rws C r) k).count t = cntL (rws C r) t+q.count t:=fun t=>by rw [hrr]; exact cntL_set _ _ _ _ hk
 have hc0:V.cnt C1 u' = 0:=by
  have e1:=cnt_one hr hro (u':Int)
  have e2:=hset (u':Int)
  have e3:=h.cnt u' hul
  rw [if_neg (by simp),h1] at e3
  rw [hq,List.count_cons] at e2
  simp only [beq_self_eq_true,if_true] at e2
  omega
 refine h.upd u' hul (by rw [putT_len,hth]) (fun t ht=>by rw [thAt_ne ht,thAt_th hth]) (fun _ _=>Iff.rfl) (fun t ht=>?_) ?_ (fun r' k' v hr' hv hvu=>?_) (fun r' k' hr' hv=>?_)
 ·rw [cnt_put]
  have e1:=cnt_one hr hro (t:Int)
  have e2:=hset (t:Int)
  rw [hq,List.count_cons,if_neg (by simp; omega)] at e2
  omega
 ·rw [cnt_put,hc0,if_neg (by simp),thAt_eq (by rw [hth]; exact hul),hf]
 ·rw [rws_put] at hv
  by_cases e:r' = r
  ·subst e
   rw [hrr,qAt_set3] at hv
   split at hv
   ·rename_i e2
    rw [← e2.1,hq]
    exact List.mem_cons_of_mem _ hv
   ·exact hv
  ·rw [hro r' hr' e] at hv; exact hv
 ·rw [rws_put] at hv
  exact absurd hv (cnt_zero hc0 r' k' hr')
theorem cntL_push {t u:Int}:∀ (l:List Int) (R:List (List Int)),(∀ c ∈ l,c.toNat < R.length)→cntL (pushAll t l R) u = cntL R u+(if u = t then l.length else 0)
 | [],R,_=>by simp [pushAll]
 | c :: l,R,h=>by
  have hc:=h c List.mem_cons_self
  rw [pushAll,cntL_push l _ (fun c hc=>by rw [List.length_set]; exact h c (List.mem_cons_of_mem _ hc))]
  have:=cntL_set R c.toNat (qAt R c.toNat ++ [t]) u hc
  rw [List.count_append,List.count_singleton] at this
  by_cases e:u = t
  ·subst e
   simp only [beq_self_eq_true,if_true] at this ⊢
   rw [List.length_cons]
   omega
  ·have e2:¬ ((t == u) = true):=by simpa using fun e':t = u=>e e'.symm
   rw [if_neg e2] at this
   rw [if_neg e,if_neg e]
   omega
theorem mem_push {t v:Int}:∀ (l:List Int) (R:List (List Int)) (k:Nat),(∀ c ∈ l,0≤c)→v ∈ qAt (pushAll t l R) k→v ∈ qAt R k∨(v = t∧(k:Int) ∈ l)
 | [],R,k,_,h=>.inl h
 | c :: l,R,k,hl,h=>by
  have h0:=hl c List.mem_cons_self
  rcases mem_push l _ k (fun c hc=>hl c (List.mem_cons_of_mem _ hc)) h with h | ⟨h1,h2⟩
  ·rw [qAt_set3] at h
   split at h
   ·rename_i e
    rcases List.mem_append.1 h with h | h
    ·rw [e.1] at h; exact .inl h
    ·rw [List.mem_singleton] at h
     refine .inr ⟨h,?_⟩
     have:(k:Int) = c:=by omega
     rw [this]; exact List.mem_cons_self
   ·exact .inl h
  ·exact .inr ⟨h1,List.mem_cons_of_mem _ h2⟩
theorem rk_push {g:Pg} {C C1:Cr} (h:Rk g none C) {r:Nat} (hr:r < 5) (hth:C1.th = C.th) (hro:∀ r',r' < 5→r' ≠ r→rws C1 r' = rws C r') {t:Nat} (ht:t < C.th.length) {l:List Int} (hl:∀ c ∈ l,0≤c∧c.toNat < (rws C r).length) (hrr:rws C1 r = pushAll t l (rws C r)) (h0:need g (thAt C t) = 0) {f:Th} (hf:need g f = l.length) (hs:∀ k:Nat,(k:Int) ∈ l→standB g f r k):Rk g none (putT C1 t f):=by
 have hc0:V.cnt C t = 0:=by rw [h.cnt t ht,if_neg (by simp),h0]
 have hp:∀ u:Int,cntL (rws C1 r) u = cntL (rws C r) u+(if u = (t:Int) then l.length else 0):=fun u=>by rw [hrr]; exact cntL_push l _ (fun c hc=>(hl c hc).2)
 refine h.upd t ht (by rw [putT_len,hth]) (fun t' ht=>by rw [thAt_ne ht,thAt_th hth]) (fun _ _=>Iff.rfl) (fun t' ht'=>?_) ?_ (fun r' k' v hr' hv hvu=>?_) (fun r' k' hr' hv=>?_)
 ·rw [cnt_put]
  have e1:=cnt_one hr hro (t':Int)
  have e2:=hp (t':Int)
  rw [if_neg (by omega)] at e2
  omega
 ·rw [cnt_put,if_neg (by simp),thAt_eq (by rw [hth]; exact ht),hf]
  have e1:=cnt_one hr hro (t:Int)
  have e2:=hp (t:Int)
  rw [if_pos rfl] at e2
  omega
 ·rw [rws_put] at hv
  by_cases e:r' = r
  ·subst e
   rw [hrr] at hv
   rcases mem_push l _ k' (fun c hc=>(hl c hc).1) hv with hv | ⟨hv,_⟩
   ·exact hv
   ·exact absurd hv hvu
  ·rw [hro r' hr' e] at hv; exact hv
 ·rw [rws_put] at hv
  rw [thAt_eq (by rw [hth]; exact ht)]
  by_cases e:r' = r
  ·subst e
   rw [hrr] at hv
   rcases mem_push l _ k' (fun c hc=>(hl c hc).1) hv with hv | ⟨_,hv⟩
   ·exact absurd hv (cnt_zero hc0 r' k' hr')
   ·exact hs k' hv
  ·rw [hro r' hr' e] at hv
   exact absurd hv (cnt_zero hc0 r' k' hr')
theorem qAt_cancel (R:List (List Int)) (u:Int) (k:Nat):qAt (cancelR R u) k = (qAt R k).filter (fun v=>decide (v ≠ u)):=by
 unfold qAt cancelR
 rw [List.getD_eq_getElem?_getD,List.getD_eq_getElem?_getD,List.getElem?_map]
 cases R[k]? <;> rfl
theorem cntL_cancel {u t:Int}:∀ (R:List (List Int)),cntL (cancelR R u) t = if t = u then 0 else cntL R t
 | []=>by simp [cancelR,cntL]
 | q :: R=>by
  have h:=cntL_cancel (u:=u) (t:=t) R
  have hq:(q.filter (fun v=>decide (v ≠ u))).count t = if t = u then 0 else q.count t:=by
   by_cases e:t = u
   ·rw [if_pos e]
    refine List.count_eq_zero.2 (fun hm=>?_)
    have:=(List.mem_filter.1 hm).2
    exact (of_decide_eq_true this) e
   ·rw [if_neg e]
    exact List.count_filter (by simpa using e)
  unfold cntL cancelR at h ⊢
  rw [List.map_cons,List.map_cons,List.sum_cons,h,hq,List.map_cons,List.sum_cons]
  split <;> rfl
theorem rk_cancel {g:Pg} {C C1:Cr} (h:Rk g none C) (hth:C1.th = C.th) (hro:∀ r',r' < 5→r' ≠ 4→rws C1 r' = rws C r') {u:Nat} (hu:u < C.th.length) (hrr:rws C1 4 = cancelR (rws C 4) u) (h7:(thAt C u).st = 7∨(thAt C u).st = 8) {f:Th} (hf:need g f = 0):Rk g none (putT C1 u f):=by
 have hz:∀ r,r < 4→cntL (rws C r) (u:Int) = 0:=fun r hr=>by
  refine cntL_none (fun q hq hm=>?_)
  obtain ⟨k,rfl,hk⟩:=qAt_of_mem hq
  obtain ⟨u',hu',_,hs⟩:=h.std r k _ (by omega) hm
  have:u' = u:=by omega
  subst this
  rcases hs with hs | hs
  ·have:=hs.1; omega
  ·omega
 have hp:∀ t:Int,cntL (rws C1 4) t = if t = (u:Int) then 0 else cntL (rws C 4) t:=fun t=>by rw [hrr]; exact cntL_cancel _
 have hc0:V.cnt C1 u = 0:=by
  have e2:=hp (u:Int)
  rw [if_pos rfl] at e2
  unfold V.cnt
  rw [e2,hro 0 (by omega) (by omega),hro 1 (by omega) (by omega),hro 2 (by omega) (by omega),hro 3 (by omega) (by omega),hz 0 (by omega),hz 1 (by omega),hz 2 (by omega),hz 3 (by omega)]
 refine h.upd u hu (by rw [putT_len,hth]) (fun t' ht=>by rw [thAt_ne ht,thAt_th hth]) (fun _ _=>Iff.rfl) (fun t' ht'=>?_) ?_ (fun r' k' v hr' hv hvu=>?_) (fun r' k' hr' hv=>?_)
 ·rw [cnt_put]
  have e1:=cnt_one (by omega:4 < 5) hro (t':Int)
  have e2:=hp (t':Int)
  rw [if_neg (by omega)] at e2
  omega
 ·rw [cnt_put,hc0,if_neg (by simp),thAt_eq (by rw [hth]; exact hu),hf]
 ·rw [rws_put] at hv
  by_cases e:r' = 4
  ·subst e
   rw [hrr,qAt_cancel] at hv
   exact (List.mem_filter.1 hv).1
  ·rw [hro r' hr' e] at hv; exact hv
 ·rw [rws_put] at hv
  exact absurd hv (cnt_zero hc0 r' k' hr')
theorem rk_same {g:Pg} {C C1:Cr} (h:Rk g none C) (hth:C1.th = C.th) (hro:∀ r',r' < 5→rws C1 r' = rws C r'):Rk g none C1 :=
 h.same (by rw [hth]; exact Nat.le_refl _) hro (fun t _=>.inl (thAt_th hth t)) (fun t h1 h2=>by rw [hth] at h2; omega) (fun s hs=>by cases hs)
theorem rk_put {g:Pg} {C:Cr} (h:Rk g none C) {t:Nat} {f:Th} (h0:need g (thAt C t) = 0) (hf:need g f = 0):Rk g none (putT C t f) :=
 h.same (by rw [putT_len]; exact Nat.le_refl _) (fun r _=>rws_put C t f r) (fun k hk=>by
  by_cases e:k = t
  ·subst e; exact .inr ⟨h0,by rw [thAt_eq hk]; exact hf⟩
  ·exact .inl (thAt_ne e)) (fun k h1 h2=>by rw [putT_len] at h2; omega) (fun s hs=>by cases hs)
abbrev noS:Nat→Prop:=fun _=>False
structure KE (g:Pg) (b w:Nat) (x:Xs):Prop where
 ei:EI g noS x
 xb:XB 100 b w x
structure KI (g:Pg) (b w:Nat) (x:Xs):Prop where
 z:SzC g x.C
 rk:Rk g none x.C
 ei:EI g noS x
 xb:XB 100 b w x
theorem KI.ke {g:Pg} {b w:Nat} {x:Xs} (h:KI g b w x):KE g b w x:=⟨h.ei,h.xb⟩
theorem KI.ci {g:Pg} {b w:Nat} {x:Xs} (h:KI g b w x):CI g x.C:=⟨h.z,h.rk,h.ei.th,fun k hk=>by
 obtain ⟨u,h1,h2,h3,h4⟩:=h.ei.jn k hk
 exact ⟨u,h1,h2,h3,h4.resolve_right id⟩⟩
theorem KI.le {g:Pg} {b w b' w':Nat} {x:Xs} (h:KI g b w x) (hb:b≤b') (hw:w≤w'):KI g b' w' x:=⟨h.z,h.rk,h.ei,h.xb.le hb hw⟩
theorem SzC.th {g:Pg} {C C':Cr} (h:SzC g C) (e:C' = { C with th:=C'.th }) (hl:C'.th.length = C.th.length):SzC g C':=by
 rw [e]
 exact ⟨by rw [hl]; exact h.t1,by rw [hl]; exact h.tl,h.now,h.L,h.ow,h.co,h.bu,h.sq,h.rq,h.ev,h.bc⟩
theorem EI.inC {g:Pg} {x:Xs} (h:EI g noS x) {C':Cr} (hC:C'.th = x.C.th):EI g noS (V.inC x C') :=
 ⟨by rw [show (V.inC x C').C = C' from rfl,hC]; exact h.th,fun k hk=>by
  rw [show (V.inC x C').C = C' from rfl,thAt_th hC] at hk
  obtain ⟨u,h1,h2,h3,h4⟩:=h.jn k hk
  exact ⟨u,by rw [show (V.inC x C').C = C' from rfl,thAt_th hC]; exact h1,by rw [show (V.inC x C').C = C' from rfl,hC]; exact h2,h3,by rw [show (V.inC x C').C = C' from rfl,thAt_th hC]; exact h4⟩⟩
theorem XB.inC {m b w:Nat} {x:Xs} (h:XB m b w x) {C':Cr} (hC:C'.th = x.C.th):XB m b w (V.inC x C'):=by
 have e:nj C' = nj x.C:=by unfold nj; rw [hC]
 exact ⟨by show nj C'≤m; rw [e]; exact h.jn,by show C'.th.length≤100; rw [hC]; exact h.tl,by show ∀ f ∈ C'.th,okT f; rw [hC]; exact h.th,by show x.ev.length+nj C'≤b; rw [e]; exact h.ev,by show x.wp.length+nj C'≤b; rw [e]; exact h.wp,by show x.wk.length+nj C'≤w; rw [e]; exact h.wk⟩
theorem KE.inC {g:Pg} {b w:Nat} {x:Xs} (h:KE g b w x) {C':Cr} (hC:C'.th = x.C.th):KE g b w (V.inC x C'):=⟨h.ei.inC hC,h.xb.inC hC⟩
theorem KI.inC {g:Pg} {b w:Nat} {x:Xs} (h:KI g b w x) {C':Cr} (hC:C'.th = x.C.th) (hz:SzC g C') (hr:∀ r,r < 5→rws C' r = rws x.C r):KI g b w (V.inC x C'):=⟨hz,rk_same h.rk hC hr,h.ei.inC hC,h.xb.inC hC⟩
theorem KI.ev {g:Pg} {b w:Nat} {x:Xs} (h:KI g b w x) (e:Ev):KI g (b+1) w { x with ev:=x.ev ++ [e] }:=by
 refine ⟨h.z,h.rk,⟨h.ei.th,h.ei.jn⟩,h.xb.jn,h.xb.tl,h.xb.th,?_,?_,h.xb.wk⟩
 ·have:=h.xb.ev
  show (x.ev ++ [e]).length+nj x.C≤_
  rw [List.length_append,List.length_singleton]; omega
 ·have:=h.xb.wp
  show x.wp.length+nj x.C≤_
  omega
theorem KI.end {g:Pg} {b w:Nat} {x:Xs} (h:KI g b w x) {t:Nat} (ht:t < x.C.th.length) (h0:need g (thAt x.C t) = 0) {c:Int} (hc:0≤c∧c≤6):KI g (b+1) w (endF x t c):=by
 have ht1:=end_tame FU x t c
 exact ⟨h.z.th ht1.rest ht1.len,tame_rk h.rk ht1 h0 (fun s hs=>by cases hs),end_ei g FU _ _ _ _ _ _ h.xb h.ei ht hc,end_xb FU _ _ _ _ _ _ h.xb ht⟩
theorem KI.tell {g:Pg} {b w:Nat} {x:Xs} (h:KI g b w x) {t:Nat} (ht:t < x.C.th.length) (h0:(thAt x.C t).st = 0) (l:List Int):KI g (b+1) w (tellE endF x t l).1:=by
 have ht1:=tell_tame (end_tame FU) x t l (fun _=>h0)
 exact ⟨h.z.th ht1.rest ht1.len,tame_rk h.rk ht1 (need0 (.inl h0)) (fun s hs=>by cases hs),tell_ei (end_ei g FU) h.xb h.ei ht h0 l,(tell_xb (end_xb FU) h.xb ht l).1⟩
theorem KI.wp {g:Pg} {b w:Nat} {x:Xs} (h:KI g b w x) (v:Int):KI g (b+1) w { x with wp:=x.wp ++ [v] }:=by
 refine ⟨h.z,h.rk,⟨h.ei.th,h.ei.jn⟩,h.xb.jn,h.xb.tl,h.xb.th,?_,?_,h.xb.wk⟩
 ·have:=h.xb.ev
  show x.ev.length+nj x.C≤_
  omega
 ·have:=h.xb.wp
  show (x.wp ++ [v]).length+nj x.C≤_
  rw [List.length_append,List.length_singleton]; omega
theorem KI.wake' {g:Pg} {b w:Nat} {x:Xs} {u:Nat} (h:KI g b w (restX { x with wk:=x.wk ++ [(u:Int)] } u 0 0)) (hu:u < x.C.th.length) (l:List Int):KI g (b+2) w (wakeE endF x u l):=by
 have h1:=h.tell (t:=u) (by rw [rest_len]; exact hu) (rest_st0 { x with wk:=x.wk ++ [(u:Int)] } u hu) l
 unfold wakeE
 split
 ·exact h1.wp _
 ·exact h1.le (by omega) (by omega)
theorem KE.wake {g:Pg} {b w:Nat} {x:Xs} (h:KE g b w x) {C1:Cr} (hz:SzC g C1) (hC:C1.th = x.C.th) {u:Int} (hu:0≤u→(thAt x.C u.toNat).st ≠ 9∧Rk g none (putT C1 u.toNat { thAt x.C u.toNat with st:=0,on:=0 })) (hn:u < 0→Rk g none C1) (l:List Int):KI g (b+2) (w+1) (wakeF (V.inC x C1) u l):=by
 have h1:=h.inC hC
 unfold wakeF
 split
 ·rename_i hlt
  exact ⟨hz,hn hlt,h1.ei,h1.xb.le (by omega) (by omega)⟩
 ·obtain ⟨h9,hr⟩:=hu (by omega)
  have hul:=lt_of_st h9
  have hul1:u.toNat < (V.inC x C1).C.th.length:=by show _ < C1.th.length; rw [hC]; exact hul
  have e9:thAt (V.inC x C1).C u.toNat = thAt x.C u.toNat:=thAt_th hC _
  refine KI.wake' (b:=b) ?_ hul1 l
  refine ⟨?_,?_,h1.ei.put hul1 (thI_rest0 (h1.ei.at _) (by rw [e9]; exact h9)) (by show (0:Int) ≠ 2; decide) (fun _ h=>h) (fun h=>by have h':(0:Int) = 9:=h; omega) _ _ _,(rest_xb h1.xb hul1 _ 0 0 (by decide)).1⟩
  ·exact hz.th rfl (by rw [rest_len]; rfl)
  ·show Rk g none (putT C1 u.toNat { thAt C1 u.toNat with st:=0,on:=0 })
   rw [thAt_th hC]; exact hr
theorem KE.rest {g:Pg} {b w:Nat} {x:Xs} (h:KE g b w x) {C1:Cr} (hz:SzC g C1) (hC:C1.th = x.C.th) {t:Nat} (h9:(thAt x.C t).st ≠ 9) {st on:Int} (hst:1≤st∧st≤8) (h2:st ≠ 2) (hon:keep on = on) (h8:st = 8→0≤on∧on < g.cs.length) (hr:Rk g none (putT C1 t { thAt x.C t with st:=st,on:=on })):KI g b w (restX (V.inC x C1) t st on):=by
 have h1:=h.inC hC
 have ht:=lt_of_st h9
 have ht1:t < (V.inC x C1).C.th.length:=by show _ < C1.th.length; rw [hC]; exact ht
 have e9:thAt (V.inC x C1).C t = thAt x.C t:=thAt_th hC _
 refine ⟨hz.th rfl (by rw [rest_len]; rfl),?_,h1.ei.put ht1 (thI_rest (h1.ei.at _) (by rw [e9]; exact h9) hst hon h8) h2 (fun _ h=>h) (fun h=>by have h':st = 9:=h; omega) _ _ _,restX_xb h1.xb ht1 h2⟩
 show Rk g none (putT C1 t { thAt C1 t with st:=st,on:=on })
 rw [thAt_th hC]; exact hr
theorem keep_small {v:Int} (h:0≤v∧v≤1000000):keep v = v:=((keep_id v).2 (by omega)).symm
theorem need1 {g:Pg} {f:Th} (h:3≤f.st∧f.st≤7):need g f = 1:=by unfold need; rw [if_pos h]
theorem SzC.inL {g:Pg} {C:Cr} (h:SzC g C) {S:Lk} (hL:LkZ g.mu.toNat g.co.length g.se.length S) (how:∀ v ∈ S.ow,-1≤v) (hco:∀ v ∈ S.co,0≤v∧v≤1073741824):SzC g { C with L:=S }:=⟨h.t1,h.tl,h.now,hL,how,hco,h.bu,h.sq,h.rq,h.ev,h.bc⟩
theorem SzC.inQ {g:Pg} {C:Cr} (h:SzC g C) {bu sq rq:List (List Int)} (h1:bu.length = g.ch.length) (h2:sq.length = g.ch.length) (h3:rq.length = g.ch.length) (h4:∀ q ∈ sq,q.length % 2 = 0) (h5:∀ q ∈ bu,q.length≤3):SzC g { C with bu:=bu,sq:=sq,rq:=rq }:=⟨h.t1,h.tl,h.now,h.L,h.ow,h.co,h1,h2,h3,h4,h5⟩
theorem rk_at {g:Pg} {C:Cr} (h:Rk g none C) {r k:Nat} {v:Int} (hr:r < 5) (hv:v ∈ qAt (rws C r) k):0≤v∧v.toNat < C.th.length∧standB g (thAt C v.toNat) r k:=by
 obtain ⟨u,rfl,hu,hs⟩:=h.std r k v hr hv
 rw [show ((u:Int).toNat) = u from by omega]
 exact ⟨by omega,hu,hs⟩
theorem rk_st3 {g:Pg} {C:Cr} (h:Rk g none C) {r k:Nat} {v:Int} (hr:r < 4) (hv:v ∈ qAt (rws C r) k):0≤v∧v.toNat < C.th.length∧(thAt C v.toNat).st = (r:Int)+3∧(thAt C v.toNat).on = (k:Int)∧need g (thAt C v.toNat) = 1:=by
 obtain ⟨h1,h2,h3⟩:=rk_at h (by omega) hv
 rcases h3 with h3 | h3
 ·exact ⟨h1,h2,h3.1,h3.2,need1 (by omega)⟩
 ·omega
theorem tame_rk_put {g:Pg} {B y:Xs} {s u:Nat} {f:Th} (h:Rk g none (putT B.C s f)) (hs:s < B.C.th.length) (ht:Tame u B y) (hsu:s ≠ u) (h0:need g (thAt B.C u) = 0):Rk g none (putT y.C s f):=by
 refine h.same (by rw [putT_len,putT_len,ht.len]; exact Nat.le_refl _) (fun r hr=>?_) (fun k hk=>?_) (fun k h1 h2=>by rw [putT_len] at h1 h2; rw [ht.len] at h2; omega) (fun s hs=>by cases hs)
 ·rw [rws_put,rws_put]
  have e:=ht.rest
  have hc:r = 0∨r = 1∨r = 2∨r = 3∨r = 4:=by omega
  rcases hc with rfl | rfl | rfl | rfl | rfl <;> (rw [e]; rfl)
 ·rw [putT_len] at hk
  by_cases hks:k = s
  ·subst hks
   rw [thAt_eq hk,thAt_eq (by rw [ht.len]; exact hk)]
   exact .inl rfl
  ·rw [thAt_ne hks,thAt_ne hks]
   by_cases hku:k = u
   ·subst hku
    rcases ht.chg k with e | e | e
    ·exact .inl e
    ·exact .inr ⟨h0,need0 (.inl e)⟩
    ·exact .inr ⟨h0,need0 (.inr (.inr (.inr e)))⟩
   ·by_cases h2:(thAt B.C k).st = 2
    ·rcases ht.chg k with e | e | e
     ·exact .inl e
     ·exact .inr ⟨need0 (.inr (.inr (.inl h2))),need0 (.inl e)⟩
     ·exact .inr ⟨need0 (.inr (.inr (.inl h2))),need0 (.inr (.inr (.inr e)))⟩
    ·exact .inl (ht.stay k hku h2)
theorem getD_mem0 {l:List Int} {P:Int→Prop} (h:∀ v ∈ l,P v) (h0:P 0) (k:Nat):P (l.getD k 0):=by
 rw [List.getD_eq_getElem?_getD]
 cases e:l[k]? with
 | none=>exact h0
 | some v=>exact h v (List.mem_of_getElem? e)
theorem mem_set' {l:List Int} {P:Int→Prop} (h:∀ v ∈ l,P v) {k:Nat} {x:Int} (hx:P x):∀ v ∈ l.set k x,P v:=fun v hv=>by
 rcases List.mem_or_eq_of_mem_set hv with hv | rfl
 ·exact h v hv
 ·exact hx
theorem mem_setL {l:List (List Int)} {P:List Int→Prop} (h:∀ v ∈ l,P v) {k:Nat} {x:List Int} (hx:P x):∀ v ∈ l.set k x,P v:=fun v hv=>by
 rcases List.mem_or_eq_of_mem_set hv with hv | rfl
 ·exact h v hv
 ·exact hx
theorem set_qAt' (R:List (List Int)) (k:Nat):R.set k (qAt R k) = R:=by
 apply List.ext_getElem?
 intro i
 rw [List.getElem?_set]
 split
 ·rename_i e
  subst e
  split
  ·rename_i h2
   rw [qAt,List.getD_eq_getElem?_getD,List.getElem?_eq_getElem h2]; rfl
  ·rename_i h2
   rw [List.getElem?_eq_none (by omega)]
 ·rfl
theorem lock_sz {g:Pg} {C:Cr} (h:SzC g C) (m:Nat) {t:Int} (ht:0≤t):SzC g { C with L:=(lockS C.L m t).1 }:=by
 refine h.inL (lock_z h.L _ _) ?_ ?_
 ·unfold lockS
  split
  ·exact h.ow
  ·exact mem_set' h.ow (by omega)
 ·unfold lockS
  split
  ·exact h.co
  ·exact h.co
theorem lock_ki {g:Pg} (hg:GoodP g) {b w:Nat} {x:Xs} (h:KI g b w x) {t:Nat} (ht:t < x.C.th.length) (h0:(thAt x.C t).st = 0) {a:Int} (ha:0≤a∧a < g.mu):KI g b w (lockX x t a):=by
 have hz:=lock_sz h.z a.toNat (t:=(t:Int)) (by omega)
 have hml:=h.z.L.lk
 have hmu:=hg.sz.mu
 unfold lockX
 dsimp only
 unfold lockS at hz ⊢
 split
 ·rename_i hne
  rw [if_pos hne] at hz
  refine h.ke.rest (st:=3) (on:=a) hz rfl (by omega) (by omega) (by decide) (keep_small (by omega)) (fun h=>by omega) ?_
  refine rk_push (C1:={ x.C with L:={ x.C.L with lk:=x.C.L.lk.set a.toNat (qAt x.C.L.lk a.toNat ++ [(t:Int)]) } }) (f:={ thAt x.C t with st:=3,on:=a }) h.rk (r:=0) (by omega) rfl (fun r' h1 h2=>?_) ht (l:=[a]) (fun c hc=>?_) rfl (need0 (.inl h0)) (need1 ⟨by show (3:Int)≤3; decide,by show (3:Int)≤7; decide⟩) (fun k hk=>?_)
  ·have hc:r' = 1∨r' = 2∨r' = 3∨r' = 4:=by omega
   rcases hc with rfl | rfl | rfl | rfl <;> rfl
  ·rw [List.mem_singleton] at hc
   subst hc
   refine ⟨ha.1,?_⟩
   show c.toNat < x.C.L.lk.length
   omega
  ·rw [List.mem_singleton] at hk
   exact .inl ⟨rfl,hk.symm⟩
 ·rename_i hne
  rw [if_neg hne] at hz
  exact h.inC rfl hz (fun r hr=>by
   have hc:r = 0∨r = 1∨r = 2∨r = 3∨r = 4:=by omega
   rcases hc with rfl | rfl | rfl | rfl | rfl <;> rfl)
theorem down_ki {g:Pg} (hg:GoodP g) {b w:Nat} {x:Xs} (h:KI g b w x) {t:Nat} (ht:t < x.C.th.length) (h0:(thAt x.C t).st = 0) {a:Int} (ha:0≤a∧a < g.se.length):KI g b w (downX x t a):=by
 have hml:=h.z.L.dq
 have hse:=hg.sz.se
 unfold downX
 dsimp only
 unfold downS
 split
 ·refine h.ke.rest (st:=5) (on:=a) (h.z.inL (S:={ x.C.L with dq:=x.C.L.dq.set a.toNat (qAt x.C.L.dq a.toNat ++ [(t:Int)]) }) ⟨h.z.L.ow,h.z.L.co,h.z.L.lk,h.z.L.wq,by simp [h.z.L.dq]⟩ h.z.ow h.z.co) rfl (by omega) (by omega) (by decide) (keep_small (by omega)) (fun h=>by omega) ?_
  refine rk_push (C1:={ x.C with L:={ x.C.L with dq:=x.C.L.dq.set a.toNat (qAt x.C.L.dq a.toNat ++ [(t:Int)]) } }) (f:={ thAt x.C t with st:=5,on:=a }) h.rk (r:=2) (by omega) rfl (fun r' h1 h2=>?_) ht (l:=[a]) (fun c hc=>?_) rfl (need0 (.inl h0)) (need1 ⟨by show (3:Int)≤5; decide,by show (5:Int)≤7; decide⟩) (fun k hk=>?_)
  ·have hc:r' = 0∨r' = 1∨r' = 3∨r' = 4:=by omega
   rcases hc with rfl | rfl | rfl | rfl <;> rfl
  ·rw [List.mem_singleton] at hc
   subst hc
   refine ⟨ha.1,?_⟩
   show c.toNat < x.C.L.dq.length
   omega
  ·rw [List.mem_singleton] at hk
   exact .inl ⟨rfl,hk.symm⟩
 ·rename_i hne
  have h1:=getD_mem0 (P:=fun v=>0≤v∧v≤1073741824) h.z.co (by omega) a.toNat
  refine h.inC rfl (h.z.inL ⟨h.z.L.ow,by simp [h.z.L.co],h.z.L.lk,h.z.L.wq,h.z.L.dq⟩ h.z.ow (mem_set' h.z.co (by omega))) (fun r hr=>by
   have hc:r = 0∨r = 1∨r = 2∨r = 3∨r = 4:=by omega
   rcases hc with rfl | rfl | rfl | rfl | rfl <;> rfl)
theorem up_ki {g:Pg} {b w:Nat} {x:Xs} (h:KI g b w x) (a:Int):KI g (b+2) (w+1) (upX x a):=by
 unfold upX
 dsimp only
 have hz:SzC g { x.C with L:=(upS x.C.L a.toNat).1 }:=by
  refine h.z.inL (up_z h.z.L _) ?_ ?_
  ·unfold upS
   split
   ·dsimp only; split <;> exact h.z.ow
   ·exact h.z.ow
  ·have h1:=getD_mem0 (P:=fun v=>0≤v∧v≤1073741824) h.z.co (by omega) a.toNat
   unfold upS
   split
   ·dsimp only
    split
    ·exact mem_set' h.z.co (by omega)
    ·exact h.z.co
   ·exact h.z.co
 refine h.ke.wake hz rfl (fun hu=>?_) (fun hu=>?_) []
 ·unfold upS at hu ⊢
  cases hq:qAt x.C.L.dq a.toNat with
  | nil=>rw [hq] at hu; exact absurd (show (0:Int)≤-1 from hu) (by decide)
  | cons u q =>
   have hm:u ∈ qAt (rws x.C 2) a.toNat:=by show u ∈ qAt x.C.L.dq a.toNat; rw [hq]; simp
   obtain ⟨h1,h2,h3,h4,h5⟩:=rk_st3 h.rk (by omega) hm
   dsimp only
   refine ⟨by omega,?_⟩
   refine rk_pop (C1:={ x.C with L:={ x.C.L with dq:=x.C.L.dq.set a.toNat q } }) (f:={ thAt x.C u.toNat with st:=0,on:=0 }) h.rk (r:=2) (k:=a.toNat) (by omega) rfl (fun r' h1 h2=>?_) (q:=q) ?_ rfl h5 (need0 (.inl rfl))
   ·have hc:r' = 0∨r' = 1∨r' = 3∨r' = 4:=by omega
    rcases hc with rfl | rfl | rfl | rfl <;> rfl
   ·rw [show ((u.toNat:Nat):Int) = u from by omega]; exact hq
 ·unfold upS at hu ⊢
  cases hq:qAt x.C.L.dq a.toNat with
  | nil =>
   refine rk_same h.rk rfl (fun r hr=>?_)
   dsimp only
   have hc:r = 0∨r = 1∨r = 2∨r = 3∨r = 4:=by omega
   split <;> rcases hc with rfl | rfl | rfl | rfl | rfl <;> rfl
  | cons u q =>
   have hm:u ∈ qAt (rws x.C 2) a.toNat:=by show u ∈ qAt x.C.L.dq a.toNat; rw [hq]; simp
   have:=(rk_st3 h.rk (by omega) hm).1
   rw [hq] at hu
   have hu':u < 0:=hu
   omega
theorem hand_sz {g:Pg} {C:Cr} (h:SzC g C) (hr:Rk g none C) (m:Nat):SzC g { C with L:=handS C.L m }:=by
 refine h.inL ⟨by simp [handS,h.L.ow],h.L.co,by simp [handS,h.L.lk],h.L.wq,h.L.dq⟩ ?_ h.co
 refine mem_set' h.ow ?_
 cases hq:qAt C.L.lk m with
 | nil=>decide
 | cons u q =>
  have:=(rk_at hr (r:=0) (k:=m) (v:=u) (by omega) (by show u ∈ qAt C.L.lk m; rw [hq]; simp)).1
  show -1≤u
  omega
theorem hand_rk {g:Pg} {C:Cr} (h:Rk g none C) (m:Nat):(0≤headQ (qAt C.L.lk m)→(thAt C (headQ (qAt C.L.lk m)).toNat).st = 3∧Rk g none (putT { C with L:=handS C.L m } (headQ (qAt C.L.lk m)).toNat { thAt C (headQ (qAt C.L.lk m)).toNat with st:=0,on:=0 }))∧(headQ (qAt C.L.lk m) < 0→Rk g none { C with L:=handS C.L m }):=by
 unfold handS
 refine ⟨fun hu=>?_,fun hu=>?_⟩
 ·cases hq:qAt C.L.lk m with
  | nil=>rw [hq] at hu; exact absurd (show (0:Int)≤-1 from hu) (by decide)
  | cons u q =>
   have hm:u ∈ qAt (rws C 0) m:=by show u ∈ qAt C.L.lk m; rw [hq]; simp
   obtain ⟨h1,h2,h3,h4,h5⟩:=rk_st3 h (by omega) hm
   show (thAt C u.toNat).st = 3∧Rk g none (putT { C with L:={ C.L with ow:=C.L.ow.set m u,lk:=C.L.lk.set m q } } u.toNat { thAt C u.toNat with st:=0,on:=0 })
   refine ⟨by omega,?_⟩
   refine rk_pop (C1:={ C with L:={ C.L with ow:=C.L.ow.set m u,lk:=C.L.lk.set m q } }) (f:={ thAt C u.toNat with st:=0,on:=0 }) h (r:=0) (k:=m) (by omega) rfl (fun r' h1 h2=>?_) (q:=q) ?_ rfl h5 (need0 (.inl rfl))
   ·have hc:r' = 1∨r' = 2∨r' = 3∨r' = 4:=by omega
    rcases hc with rfl | rfl | rfl | rfl <;> rfl
   ·rw [show ((u.toNat:Nat):Int) = u from by omega]; exact hq
 ·cases hq:qAt C.L.lk m with
  | nil =>
   refine rk_same h rfl (fun r hr=>?_)
   have hc:r = 0∨r = 1∨r = 2∨r = 3∨r = 4:=by omega
   rcases hc with rfl | rfl | rfl | rfl | rfl
   ·show C.L.lk.set m [] = C.L.lk
    rw [← hq,set_qAt']
   all_goals rfl
  | cons u q =>
   have hm:u ∈ qAt (rws C 0) m:=by show u ∈ qAt C.L.lk m; rw [hq]; simp
   have:=(rk_st3 h (by omega) hm).1
   rw [hq] at hu
   have hu':u < 0:=hu
   omega
theorem unlock_ki {g:Pg} {b w:Nat} {x:Xs} (h:KI g b w x) {t:Nat} (ht:t < x.C.th.length) (h0:(thAt x.C t).st = 0) (a:Int):KI g (b+2) (w+1) (unlockX x t a):=by
 unfold unlockX
 dsimp only
 unfold unlockS
 split
 ·rename_i hne
  split
  ·rename_i h10; exact absurd (show (10:Int) = 0 from h10) (by decide)
  ·exact (h.end ht (need0 (.inl h0)) (by omega)).le (by omega) (by omega)
 ·rw [if_pos rfl]
  obtain ⟨h1,h2⟩:=hand_rk h.rk a.toNat
  exact h.ke.wake (hand_sz h.z h.rk a.toNat) rfl (fun hu=>⟨by rw [(h1 hu).1]; decide,(h1 hu).2⟩) h2 []
theorem KE.wakeF {g:Pg} {b w:Nat} {x:Xs} (h:KE g b w x) {u:Int} (hu:0≤u→(thAt x.C u.toNat).st ≠ 9) (l:List Int):KE g (b+1) (w+1) (V.wakeF x u l):=by
 unfold V.wakeF
 split
 ·exact ⟨h.ei,h.xb.le (by omega) (by omega)⟩
 ·have h9:=hu (by omega)
  have hul:=lt_of_st h9
  exact ⟨wake_ei (end_ei g FU) (rest_xb h.xb hul _ 0 0 (by decide)).1 h.ei hul h9 l,(wake_xb (end_xb FU) h.xb hul l).1⟩
theorem wakeF_chain {x:Xs} {u:Int} (hu:0≤u) (hul:u.toNat < x.C.th.length) (l:List Int):Tame u.toNat (restX { x with wk:=x.wk ++ [(u.toNat:Int)] } u.toNat 0 0) (wakeF x u l):=by
 have h2:=tell_tame (end_tame FU) (restX { x with wk:=x.wk ++ [(u.toNat:Int)] } u.toNat 0 0) u.toNat l (fun h=>rest_st0 { x with wk:=x.wk ++ [(u.toNat:Int)] } u.toNat hul)
 unfold wakeF wakeE
 rw [if_neg (by omega)]
 split
 ·exact ⟨h2.len,h2.rest,h2.join,h2.stay,h2.chg⟩
 ·exact h2
theorem wait_ki {g:Pg} (hg:GoodP g) {b w:Nat} {x:Xs} (h:KI g b w x) {t:Nat} (ht:t < x.C.th.length) (h0:(thAt x.C t).st = 0) {a:Int} (ha:0≤a∧a < g.co.length):KI g (b+2) (w+1) (waitX g x t a):=by
 have hco:=hg.sz.co
 have hwl:=h.z.L.wq
 unfold waitX
 dsimp only
 unfold waitS
 obtain ⟨m,hm⟩:∃ m,(g.co.getD a.toNat 0).toNat = m:=⟨_,rfl⟩
 rw [hm]
 split
 ·rename_i hne
  split
  ·rename_i h10; exact absurd (show (10:Int) = 0 from h10) (by decide)
  ·exact (h.end ht (need0 (.inl h0)) (by omega)).le (by omega) (by omega)
 ·rw [if_pos rfl]
  dsimp only
  obtain ⟨h1,h2⟩:=hand_rk h.rk m
  have hz1:=hand_sz h.z h.rk m
  obtain ⟨S2,hS2⟩:∃ S2,({ handS x.C.L m with wq:=x.C.L.wq.set a.toNat (qAt x.C.L.wq a.toNat ++ [(t:Int)]) }:Lk) = S2:=⟨_,rfl⟩
  have hz2:SzC g { x.C with L:=S2 }:=by
   rw [← hS2]
   exact h.z.inL ⟨hz1.L.ow,hz1.L.co,hz1.L.lk,by simp [hwl],hz1.L.dq⟩ hz1.ow hz1.co
  rw [hS2]
  obtain ⟨u,hu⟩:∃ u,headQ (qAt x.C.L.lk m) = u:=⟨_,rfl⟩
  rw [hu] at h1 h2 ⊢
  have key:∀ C1:Cr,C1.L = handS x.C.L m→C1.bu = x.C.bu→C1.sq = x.C.sq→C1.rq = x.C.rq→C1.th.length = x.C.th.length→Rk g none C1→thAt C1 t = thAt x.C t→Rk g none (putT { C1 with L:=S2 } t { thAt x.C t with st:=4,on:=a }):=by
   intro C1 e1 e2 e3 e4 e5 hr et
   refine rk_push (C1:={ C1 with L:=S2 }) (f:={ thAt x.C t with st:=4,on:=a }) hr (r:=1) (by omega) rfl (fun r' h1 h2=>?_) (by rw [e5]; exact ht) (l:=[a]) (fun c hc=>?_) ?_ (by rw [et]; exact need0 (.inl h0)) (need1 ⟨by show (3:Int)≤4; decide,by show (4:Int)≤7; decide⟩) (fun k hk=>?_)
   ·have hc:r' = 0∨r' = 2∨r' = 3∨r' = 4:=by omega
    rcases hc with rfl | rfl | rfl | rfl
    ·show S2.lk = C1.L.lk; rw [e1,← hS2]
    ·show S2.dq = C1.L.dq; rw [e1,← hS2]
    ·rfl
    ·rfl
   ·rw [List.mem_singleton] at hc
    subst hc
    refine ⟨ha.1,?_⟩
    show c.toNat < C1.L.wq.length
    rw [e1]
    show c.toNat < x.C.L.wq.length
    omega
   ·show S2.wq = C1.L.wq.set a.toNat (qAt C1.L.wq a.toNat ++ [(t:Int)])
    rw [e1,← hS2]; rfl
   ·rw [List.mem_singleton] at hk
    exact .inl ⟨rfl,hk.symm⟩
  have hke:KE g b w (V.inL x S2):=h.ke.inC (C':={ x.C with L:=S2 }) rfl
  have hst:0≤u→(thAt (V.inL x S2).C u.toNat).st ≠ 9:=fun h0=>by
   have:=(h1 h0).1
   show (thAt x.C u.toNat).st ≠ 9
   omega
  have hkw:=hke.wakeF hst []
  obtain ⟨y,hy⟩:∃ y,wakeF (V.inL x S2) u [] = y:=⟨_,rfl⟩
  rw [hy] at hkw ⊢
  have hlen:y.C.th.length = x.C.th.length:=by rw [← hy,wakeF_len]; rfl
  have hrest:y.C = { (V.inL x S2).C with th:=y.C.th }:=by rw [← hy]; exact wakeF_rest _ _ _
  have hzy:SzC g y.C:=by
   rw [hrest]
   exact hz2.th (C':={ x.C with L:=S2,th:=y.C.th }) rfl hlen
  have hty:thAt y.C t = thAt x.C t:=by
   by_cases hneg:0≤u
   ·have h3:=(h1 hneg).1
    rw [← hy]
    refine (wakeF_stay (x:=V.inL x S2) (k:=t) (fun e=>?_) (by show (thAt x.C t).st ≠ 2; omega))
    rw [← e,show (((t:Nat):Int).toNat) = t from by omega] at h3
    omega
   ·rw [← hy]
    unfold wakeF
    rw [if_pos (by omega)]
    rfl
  have hR:Rk g none (putT y.C t { thAt y.C t with st:=4,on:=a }):=by
   rw [hty]
   by_cases hneg:0≤u
   ·obtain ⟨h3,h4⟩:=h1 hneg
    have hul:u.toNat < x.C.th.length:=lt_of_st (by omega)
    have htu:t ≠ u.toNat:=by intro e; rw [← e] at h3; omega
    have hk:=key (putT { x.C with L:=handS x.C.L m } u.toNat { thAt x.C u.toNat with st:=0,on:=0 }) rfl rfl rfl rfl (by rw [putT_len]) h4 (thAt_ne htu)
    have hc:=wakeF_chain (x:=V.inL x S2) hneg hul []
    rw [hy] at hc
    exact tame_rk_put (B:=restX { V.inL x S2 with wk:=(V.inL x S2).wk ++ [(u.toNat:Int)] } u.toNat 0 0) hk (by rw [rest_len]; exact ht) hc htu (need0 (.inl (rest_st0 { V.inL x S2 with wk:=(V.inL x S2).wk ++ [(u.toNat:Int)] } u.toNat hul)))
   ·have hk:=key { x.C with L:=handS x.C.L m } rfl rfl rfl rfl rfl (h2 (by omega)) rfl
    have e:y = V.inL x S2:=by
     rw [← hy]
     unfold wakeF
     rw [if_pos (by omega)]
    rw [e]
    exact hk
  have:=hkw.rest (C1:=y.C) (t:=t) (st:=4) (on:=a) hzy rfl (by rw [hty]; omega) (by omega) (by decide) (keep_small (by omega)) (fun h=>by omega) hR
  exact KI.le (x:=restX y t 4 a) this (by omega) (by omega)
theorem co_m {g:Pg} (hg:GoodP g) {a:Int} (ha:0≤a∧a < g.co.length):0≤g.co.getD a.toNat 0∧g.co.getD a.toNat 0 < g.mu:=hg.co _ (getD_mem (l:=g.co) (e:=a.toNat) (by omega))
theorem putT_put {C:Cr} {t:Nat} {f f':Th}:putT (putT C t f) t f' = putT C t f':=by unfold putT; dsimp only; rw [List.set_set]
theorem signal_ki {g:Pg} (hg:GoodP g) {b w:Nat} {x:Xs} (h:KI g b w x) {a:Int} (ha:0≤a∧a < g.co.length):KI g (b+2) (w+1) (signalX g x a):=by
 obtain ⟨hm0,hm1⟩:=co_m hg ha
 have hmu:=hg.sz.mu
 have hlk:=h.z.L.lk
 unfold signalX
 dsimp only
 obtain ⟨m,hm⟩:∃ m,g.co.getD a.toNat 0 = m:=⟨_,rfl⟩
 rw [hm] at hm0 hm1 ⊢
 unfold signalS
 cases hq:qAt x.C.L.wq a.toNat with
 | nil=>dsimp only; rw [if_pos (by decide)]; exact h.le (by omega) (by omega)
 | cons u q =>
  dsimp only
  have hmem:u ∈ qAt (rws x.C 1) a.toNat:=by show u ∈ qAt x.C.L.wq a.toNat; rw [hq]; simp
  obtain ⟨h1,h2,h3,h4,h5⟩:=rk_st3 h.rk (by omega) hmem
  rw [if_neg (by omega)]
  obtain ⟨S1,hS1⟩:∃ S1,({ x.C.L with wq:=x.C.L.wq.set a.toNat q }:Lk) = S1:=⟨_,rfl⟩
  have hz1:SzC g { x.C with L:=S1 }:=by rw [← hS1]; exact h.z.inL ⟨h.z.L.ow,h.z.L.co,h.z.L.lk,by simp [h.z.L.wq],h.z.L.dq⟩ h.z.ow h.z.co
  have hr1:Rk g none (putT { x.C with L:=S1 } u.toNat { thAt x.C u.toNat with st:=0,on:=0 }):=by
   refine rk_pop (C1:={ x.C with L:=S1 }) (f:={ thAt x.C u.toNat with st:=0,on:=0 }) h.rk (r:=1) (k:=a.toNat) (by omega) rfl (fun r' h1 h2=>?_) (q:=q) ?_ ?_ h5 (need0 (.inl rfl))
   ·have hc:r' = 0∨r' = 2∨r' = 3∨r' = 4:=by omega
    rw [← hS1]
    rcases hc with rfl | rfl | rfl | rfl <;> rfl
   ·rw [show ((u.toNat:Nat):Int) = u from by omega]; exact hq
   ·rw [← hS1]; rfl
  have hz2:=lock_sz hz1 m.toNat (t:=u) h1
  rw [hS1]
  dsimp only at hz2
  unfold lockS at hz2 ⊢
  by_cases hf:S1.ow.getD m.toNat 0 ≠ -1
  ·rw [if_pos hf] at hz2 ⊢
   unfold movedX
   dsimp only
   rw [if_neg Bool.false_ne_true]
   have hr2:Rk g none (putT { x.C with L:={ S1 with lk:=S1.lk.set m.toNat (qAt S1.lk m.toNat ++ [u]) } } u.toNat { thAt x.C u.toNat with st:=3,on:=m }):=by
    have e:putT { x.C with L:={ S1 with lk:=S1.lk.set m.toNat (qAt S1.lk m.toNat ++ [u]) } } u.toNat { thAt x.C u.toNat with st:=3,on:=m } = putT { putT { x.C with L:=S1 } u.toNat { thAt x.C u.toNat with st:=0,on:=0 } with L:={ S1 with lk:=S1.lk.set m.toNat (qAt S1.lk m.toNat ++ [u]) } } u.toNat { thAt x.C u.toNat with st:=3,on:=m }:=by
     unfold putT; dsimp only; rw [List.set_set]
    rw [e]
    refine rk_push (f:={ thAt x.C u.toNat with st:=3,on:=m }) (C1:={ putT { x.C with L:=S1 } u.toNat { thAt x.C u.toNat with st:=0,on:=0 } with L:={ S1 with lk:=S1.lk.set m.toNat (qAt S1.lk m.toNat ++ [u]) } }) hr1 (r:=0) (by omega) rfl (fun r' h1 h2=>?_) (by rw [putT_len]; exact h2) (l:=[m]) (fun c hc=>?_) ?_ (need0 (.inl (by rw [thAt_eq (C:={ x.C with L:=S1 }) h2]))) (need1 ⟨by show (3:Int)≤3; decide,by show (3:Int)≤7; decide⟩) (fun k hk=>?_)
    ·have hc:r' = 1∨r' = 2∨r' = 3∨r' = 4:=by omega
     rcases hc with rfl | rfl | rfl | rfl <;> rfl
    ·rw [List.mem_singleton] at hc
     subst hc
     refine ⟨hm0,?_⟩
     show c.toNat < S1.lk.length
     rw [← hS1]
     show c.toNat < x.C.L.lk.length
     omega
    ·show S1.lk.set m.toNat (qAt S1.lk m.toNat ++ [u]) = S1.lk.set m.toNat (qAt S1.lk m.toNat ++ [((u.toNat:Nat):Int)])
     rw [show ((u.toNat:Nat):Int) = u from by omega]
    ·rw [List.mem_singleton] at hk
     exact .inl ⟨rfl,hk.symm⟩
   exact (h.ke.rest (st:=3) (on:=m) hz2 rfl (by omega) (by omega) (by decide) (keep_small (by omega)) (fun h=>by omega) hr2).le (by omega) (by omega)
  ·rw [if_neg hf] at hz2 ⊢
   unfold movedX
   rw [if_pos rfl]
   refine h.ke.wake hz2 rfl (fun _=>⟨by omega,?_⟩) (fun hn=>by omega) []
   exact rk_same (C1:=putT { x.C with L:={ S1 with ow:=S1.ow.set m.toNat u } } u.toNat { thAt x.C u.toNat with st:=0,on:=0 }) hr1 rfl (fun r hr=>by
    have hc:r = 0∨r = 1∨r = 2∨r = 3∨r = 4:=by omega
    rcases hc with rfl | rfl | rfl | rfl | rfl <;> rfl)
theorem broadI_ki {g:Pg} (hg:GoodP g) {a:Int} (ha:0≤a∧a < g.co.length):∀ (n:Nat) {b w:Nat} {x:Xs},KI g b w x→∃ b' w',b' = b+2 * n∧w' = w+n∧KI g b' w' (broadI g a.toNat n x)
 | 0,b,w,x,h=>⟨b,w,by omega,by omega,h⟩
 | n+1,b,w,x,h=>by
  have h1:=signal_ki hg h ha
  obtain ⟨b',w',e1,e2,h2⟩:=broadI_ki hg ha n h1
  refine ⟨b',w',by omega,by omega,?_⟩
  rw [broadI]
  rw [show ((a.toNat:Nat):Int) = a from by omega]
  exact h2
def Lc (E:Xs→Nat→Int→Xs):Prop:=∀ (x:Xs) (S:Lk) (t:Nat) (c:Int),E (inL x S) t c = inL (E x t c) S
theorem tell_lc {E:Xs→Nat→Int→Xs} (hE:Lc E) (x:Xs) (S:Lk) (t:Nat) (l:List Int):tellE E (inL x S) t l = (inL (tellE E x t l).1 S,(tellE E x t l).2):=by
 unfold tellE
 rw [show thAt (inL x S).C t = thAt x.C t from rfl]
 split
 ·rfl
 ·dsimp only; rw [hE]
theorem wake_lc {E:Xs→Nat→Int→Xs} (hE:Lc E) (x:Xs) (S:Lk) (t:Nat) (l:List Int):wakeE E (inL x S) t l = inL (wakeE E x t l) S:=by
 unfold wakeE
 have e:restX { inL x S with wk:=(inL x S).wk ++ [(t:Int)] } t 0 0 = inL (restX { x with wk:=x.wk ++ [(t:Int)] } t 0 0) S:=rfl
 rw [e,tell_lc hE]
 dsimp only
 split <;> rfl
theorem fold_lc {E:Xs→Nat→Int→Xs} (hE:Lc E) (S:Lk) (t:Nat) (c:Int):∀ (l:List Nat) (y:Xs),l.foldl (endR E t c) (inL y S) = inL (l.foldl (endR E t c) y) S
 | [],y=>rfl
 | k :: l,y=>by
  rw [List.foldl_cons,List.foldl_cons]
  have e:endR E t c (inL y S) k = inL (endR E t c y k) S:=by
   unfold endR
   rw [show joins (inL y S) t k = joins y t k from rfl]
   split
   ·exact wake_lc hE y S k [c]
   ·rfl
  rw [e]
  exact fold_lc hE S t c l _
theorem end_lc:∀ n,Lc (endX n)
 | 0=>fun x S t c=>rfl
 | n+1=>fun x S t c=>by
  rw [endX,endX]
  exact fold_lc (end_lc n) S t c _ (deadX x t c)
theorem wakeF_lc (x:Xs) (S:Lk) (u:Int) (l:List Int):wakeF (inL x S) u l = inL (wakeF x u l) S:=by
 unfold wakeF
 split
 ·rfl
 ·exact wake_lc (end_lc FU) x S u.toNat l
theorem moved_lc (x:Xs) (S:Lk) (u m:Int) (has:Bool):movedX (inL x S) u m has = inL (movedX x u m has) S:=by
 unfold movedX
 split
 ·exact wakeF_lc x S u []
 ·rfl
theorem bcast_got {c m:Nat}:∀ (n:Nat) (S:Lk) (all:List Int) (got:Int),S.ow.getD m 0 ≠ -1→(bcast c m n S all got).2.2 = got
 | 0,S,all,got,h=>rfl
 | n+1,S,all,got,h=>by
  simp only [bcast]
  split
  ·rfl
  ·rename_i t q hq
   have e:signalS S c m = ({ S with wq:=S.wq.set c q,lk:=S.lk.set m (qAt S.lk m ++ [t]) },t,false):=by
    unfold signalS
    rw [hq]
    dsimp only
    unfold lockS
    rw [if_pos (show ({ S with wq:=S.wq.set c q }:Lk).ow.getD m 0 ≠ -1 from h)]
   rw [e]
   dsimp only
   rw [if_neg Bool.false_ne_true]
   exact bcast_got n _ _ got h
theorem bcast_moves {g:Pg} {a m:Nat} {mv:Int} (hmv:g.co.getD a 0 = mv) (hm:mv.toNat = m):∀ (n:Nat) (x:Xs) (all:List Int) (got:Int),n = (qAt x.C.L.wq a).length→(qAt x.C.L.wq a).Nodup→(∀ v ∈ qAt x.C.L.wq a,0≤v)→a < x.C.L.wq.length→m < x.C.L.ow.length→(∀ v ∈ qAt x.C.L.wq a,v ≠ got)→(x.C.L.ow.getD m 0 = -1∨True) →
  (qAt x.C.L.wq a).foldl (movedL mv (bcast a m n x.C.L all got).2.2) (inL x (bcast a m n x.C.L all got).1) = broadI g a n x
 | 0,x,all,got,hn,hd,hp,ha,hmo,hgt,_=>by
  have:qAt x.C.L.wq a = []:=List.eq_nil_of_length_eq_zero hn.symm
  rw [this]
  rfl
 | n+1,x,all,got,hn,hd,hp,ha,hmo,hgt,_=>by
  cases hq:qAt x.C.L.wq a with
  | nil=>rw [hq] at hn; simp at hn
  | cons t q =>
   rw [hq] at hd hp hgt hn
   have hd':=List.nodup_cons.1 hd
   have ht0:=hp t List.mem_cons_self
   rw [bcast_cons hq,broadI]
   have hsx:signalX g x a = movedX (inL x (signalS x.C.L a m).1) t mv (signalS x.C.L a m).2.2:=by
    unfold signalX
    dsimp only
    rw [show ((a:Int).toNat) = a from by omega,hmv,hm]
    have e:(signalS x.C.L a m).2.1 = t:=by unfold signalS; rw [hq]
    rw [e,if_neg (by omega)]
   rw [hsx]
   obtain ⟨S',t',has,hS⟩:∃ S' t' has,signalS x.C.L a m = (S',t',has):=⟨_,_,_,rfl⟩
   have hS2:S' = (lockS { x.C.L with wq:=x.C.L.wq.set a q } m t).1∧has = (lockS { x.C.L with wq:=x.C.L.wq.set a q } m t).2:=by
    have:=hS
    unfold signalS at this
    rw [hq] at this
    dsimp only at this
    rw [Prod.mk.injEq,Prod.mk.injEq] at this
    exact ⟨this.1.symm,this.2.2.symm⟩
   rw [hS]
   dsimp only
   have hwq:S'.wq = x.C.L.wq.set a q:=by rw [hS2.1]; unfold lockS; split <;> rfl
   have hqS:qAt S'.wq a = q:=by rw [hwq,qAt_set3,if_pos ⟨rfl,ha⟩]
   have hol:S'.ow.length = x.C.L.ow.length:=by rw [hS2.1]; unfold lockS; split <;> simp
   obtain ⟨y,hy⟩:∃ y,movedX (inL x S') t mv has = y:=⟨_,rfl⟩
   have hyL:y.C.L = S':=by rw [← hy,moved_rest]; rfl
   have ih:=bcast_moves hmv hm n y (all ++ [t]) (if has then t else got) (by rw [hyL,hqS]; simp at hn; omega) (by rw [hyL,hqS]; exact hd'.2) (by rw [hyL,hqS]; exact fun v hv=>hp v (List.mem_cons_of_mem _ hv)) (by rw [hyL,hwq,List.length_set]; exact ha) (by rw [hyL,hol]; exact hmo) (by
    rw [hyL,hqS]
    intro v hv
    split
    ·rintro rfl; exact hd'.1 hv
    ·exact hgt v (List.mem_cons_of_mem _ hv)) (.inr trivial)
   rw [hyL,hqS] at ih
   rw [hy,← ih,List.foldl_cons]
   congr 1
   obtain ⟨R,hR⟩:∃ R,bcast a m n S' (all ++ [t]) (if has then t else got) = R:=⟨_,rfl⟩
   have hgR:decide (t = R.2.2) = has:=by
    cases hh:has with
    | true =>
     have hne:S'.ow.getD m 0 ≠ -1:=by
      rw [hh] at hS2
      have h2:=hS2.2
      rw [hS2.1]
      unfold lockS at h2 ⊢
      split
      ·rename_i hf; rw [if_pos hf] at h2; cases h2
      ·show (x.C.L.ow.set m t).getD m 0 ≠ -1
       rw [getD_set',if_pos ⟨rfl,hmo⟩]; omega
     have:=bcast_got (c:=a) n S' (all ++ [t]) (if has then t else got) hne
     rw [hR,hh,if_pos rfl] at this
     rw [this]
     exact decide_eq_true rfl
    | false =>
     have hne:S'.ow.getD m 0 ≠ -1:=by
      rw [hh] at hS2
      have h2:=hS2.2
      rw [hS2.1]
      unfold lockS at h2 ⊢
      split
      ·rename_i hf; exact hf
      ·rename_i hf; rw [if_neg hf] at h2; cases h2
     have:=bcast_got (c:=a) n S' (all ++ [t]) (if has then t else got) hne
     rw [hR,hh,if_neg (by decide)] at this
     rw [this]
     exact decide_eq_false (hgt t List.mem_cons_self)
   rw [hR]
   show movedX (inL x R.1) t mv (decide (t = R.2.2)) = inL y R.1
   rw [hgR,← hy,show inL x R.1 = inL (inL x S') R.1 from rfl,moved_lc]
theorem broad_eq {g:Pg} (hg:GoodP g) {x:Xs} (hz:SzC g x.C) (hL:LkL g.mu.toNat g.co.length g.se.length x.C.L) (hN:LkN x.C.L) (hd:∀ k,(qAt x.C.L.wq k).Nodup) {a:Int} (ha:0≤a∧a < g.co.length) (hp:∀ v ∈ qAt x.C.L.wq a.toNat,0≤v):broadX g x a = broadI g a.toNat (qAt x.C.L.wq a.toNat).length x:=by
 obtain ⟨hm0,hm1⟩:=co_m hg ha
 have hall:=broad_all hL hN (c:=a.toNat) (m:=(g.co.getD a.toNat 0).toNat) (by omega) (by omega)
 unfold broadX
 dsimp only
 rw [hall]
 exact bcast_moves rfl rfl _ x [] (-1) rfl (hd _) hp (by have:=hz.L.wq; omega) (by have:=hz.L.ow; omega) (fun v hv=>by have:=hp v hv; omega) (.inr trivial)
theorem rws_rq (C:Cr) {r':Nat} (h1:r' < 5) (h2:r' ≠ 4) (rq:List (List Int)):rws { C with rq:=rq } r' = rws C r':=by
 have hc:r' = 0∨r' = 1∨r' = 2∨r' = 3:=by omega
 rcases hc with rfl | rfl | rfl | rfl <;> rfl
theorem rws_sq (C:Cr) {r':Nat} (h1:r' < 5) (h2:r' ≠ 3) (bu sq:List (List Int)):rws { C with bu:=bu,sq:=sq } r' = rws C r':=by
 have hc:r' = 0∨r' = 1∨r' = 2∨r' = 4:=by omega
 rcases hc with rfl | rfl | rfl | rfl <;> rfl
theorem sq_even {g:Pg} {C:Cr} (h:SzC g C) (c:Nat):(qAt C.sq c).length % 2 = 0:=by
 rcases Nat.lt_or_ge c C.sq.length with h1 | h1
 ·exact h.ev _ (qAt_mem h1)
 ·unfold qAt; rw [List.getD_eq_getElem?_getD,List.getElem?_eq_none h1]; rfl
theorem bu_3 {g:Pg} {C:Cr} (h:SzC g C) (c:Nat):(qAt C.bu c).length≤3:=by
 rcases Nat.lt_or_ge c C.bu.length with h1 | h1
 ·exact h.bc _ (qAt_mem h1)
 ·unfold qAt; rw [List.getD_eq_getElem?_getD,List.getElem?_eq_none h1]; exact Nat.zero_le _
theorem send_ki {g:Pg} (hg:GoodP g) {b w:Nat} {x:Xs} (h:KI g b w x) {t:Nat} (ht:t < x.C.th.length) (h0:(thAt x.C t).st = 0) {c:Int} (hc:0≤c∧c < g.ch.length) (v:Int):KI g (b+2) (w+1) (sendX g x t c v):=by
 have hch:=hg.sz.ch
 have hsq:=h.z.sq
 have hroom:=hg.ch _ (getD_mem (l:=g.ch) (e:=c.toNat) (by omega))
 unfold sendX
 dsimp only
 unfold sendC
 cases hq:qAt x.C.rq c.toNat with
 | cons f q =>
  dsimp only
  obtain ⟨h1,h2,h3⟩:=rk_at h.rk (r:=4) (k:=c.toNat) (v:=f) (by omega) (by show f ∈ qAt x.C.rq c.toNat; rw [hq]; simp)
  have h78:(thAt x.C f.toNat).st = 7∨(thAt x.C f.toNat).st = 8:=by
   rcases h3 with h3 | h3
   ·exact .inl (by have:=h3.1; omega)
   ·exact .inr h3.2.1
  have hz:SzC g { x.C with rq:=cancelR x.C.rq f }:=h.z.inQ h.z.bu h.z.sq (by rw [cancelR,List.length_map]; exact h.z.rq) h.z.ev h.z.bc
  have hr:Rk g none (putT { x.C with rq:=cancelR x.C.rq f } f.toNat { thAt x.C f.toNat with st:=0,on:=0 }):=by
   refine rk_cancel (C1:={ x.C with rq:=cancelR x.C.rq f }) (f:={ thAt x.C f.toNat with st:=0,on:=0 }) h.rk rfl (fun r' h1 h2=>rws_rq x.C h1 h2 _) h2 ?_ h78 (need0 (.inl rfl))
   rw [show ((f.toNat:Nat):Int) = f from by omega]
   rfl
  rw [if_neg (by decide),if_neg (by omega)]
  split
  ·exact h.ke.wake hz rfl (fun _=>⟨by omega,hr⟩) (fun hn=>by omega) _
  ·exact h.ke.wake hz rfl (fun _=>⟨by omega,hr⟩) (fun hn=>by omega) _
 | nil =>
  dsimp only
  by_cases hb:((qAt x.C.bu c.toNat).length:Int) < g.ch.getD c.toNat 0
  ·rw [if_pos hb]
   dsimp only
   rw [if_neg (show ¬ (true = false) by decide),if_pos (by decide)]
   have hz:SzC g { x.C with bu:=x.C.bu.set c.toNat (qAt x.C.bu c.toNat ++ [v]) }:=by
    refine h.z.inQ (sq:=x.C.sq) (rq:=x.C.rq) (by rw [List.length_set]; exact h.z.bu) h.z.sq h.z.rq h.z.ev (mem_setL h.z.bc ?_)
    rw [List.length_append,List.length_singleton]
    omega
   exact (h.inC (C':={ x.C with bu:=x.C.bu.set c.toNat (qAt x.C.bu c.toNat ++ [v]) }) rfl hz (fun r hr=>by
    have hc:r = 0∨r = 1∨r = 2∨r = 3∨r = 4:=by omega
    rcases hc with rfl | rfl | rfl | rfl | rfl <;> rfl)).le (by omega) (by omega)
  ·rw [if_neg hb]
   dsimp only
   rw [if_pos rfl]
   have hz:SzC g { x.C with sq:=x.C.sq.set c.toNat (qAt x.C.sq c.toNat ++ [(t:Int),v]) }:=by
    refine h.z.inQ (bu:=x.C.bu) (rq:=x.C.rq) h.z.bu (by rw [List.length_set]; exact h.z.sq) h.z.rq (mem_setL h.z.ev ?_) h.z.bc
    have:=sq_even h.z c.toNat
    rw [List.length_append]
    show (_+2) % 2 = 0
    omega
   refine (h.ke.rest (C1:={ x.C with sq:=x.C.sq.set c.toNat (qAt x.C.sq c.toNat ++ [(t:Int),v]) }) (st:=6) (on:=c) hz rfl (by omega) (by omega) (by decide) (keep_small (by omega)) (fun h=>by omega) ?_).le (by omega) (by omega)
   refine rk_push (C1:={ x.C with sq:=x.C.sq.set c.toNat (qAt x.C.sq c.toNat ++ [(t:Int),v]) }) (f:={ thAt x.C t with st:=6,on:=c }) h.rk (r:=3) (by omega) rfl (fun r' h1 h2=>rws_sq x.C h1 h2 _ _) ht (l:=[c]) (fun c' hc'=>?_) ?_ (need0 (.inl h0)) (need1 ⟨by show (3:Int)≤6; decide,by show (6:Int)≤7; decide⟩) (fun k hk=>?_)
   ·rw [List.mem_singleton] at hc'
    subst hc'
    refine ⟨hc.1,?_⟩
    show c'.toNat < (x.C.sq.map evens).length
    rw [List.length_map]
    omega
   ·show (x.C.sq.set c.toNat _).map evens = (x.C.sq.map evens).set c.toNat (qAt (x.C.sq.map evens) c.toNat ++ [(t:Int)])
    rw [List.map_set,evens_push _ _ _ (sq_even h.z c.toNat),qAt_evens]
   ·rw [List.mem_singleton] at hk
    exact .inl ⟨rfl,hk.symm⟩
theorem KE.tell {g:Pg} {b w:Nat} {x:Xs} (h:KE g b w x) {t:Nat} (ht:t < x.C.th.length) (h0:(thAt x.C t).st = 0) (l:List Int):KE g (b+1) w (tellF x t l):=⟨tell_ei (end_ei g FU) h.xb h.ei ht h0 l,(tell_xb (end_xb FU) h.xb ht l).1⟩
theorem take_sz {g:Pg} {C:Cr} (h:SzC g C) (c:Nat):SzC g { C with bu:=(takeB C.bu C.sq c).1,sq:=(takeB C.bu C.sq c).2.1 }:=by
 have h3:=bu_3 h c
 have hev:=sq_even h c
 unfold takeB
 split
 ·exact h.inQ (rq:=C.rq) h.bu (by rw [List.length_set]; exact h.sq) h.rq (mem_setL h.ev (by rw [List.length_drop]; omega)) h.bc
 ·rename_i v bb hb
  rw [hb,List.length_cons] at h3
  refine h.inQ (rq:=C.rq) (by rw [List.length_set]; exact h.bu) (by rw [List.length_set]; exact h.sq) h.rq (mem_setL h.ev (by rw [List.length_drop]; omega)) (mem_setL h.bc ?_)
  split
  ·rw [List.length_append,List.length_singleton]; omega
  ·omega
theorem takeB_sq (bu sq:List (List Int)) (c:Nat):(takeB bu sq c).2.1 = sq.set c ((qAt sq c).drop 2):=by
 unfold takeB
 split <;> rfl
theorem take_rk {g:Pg} {C:Cr} (hz:SzC g C) (h:Rk g none C) (c:Nat):(0≤(headS (qAt C.sq c)).1→(thAt C (headS (qAt C.sq c)).1.toNat).st = 6∧Rk g none (putT { C with bu:=(takeB C.bu C.sq c).1,sq:=(takeB C.bu C.sq c).2.1 } (headS (qAt C.sq c)).1.toNat { thAt C (headS (qAt C.sq c)).1.toNat with st:=0,on:=0 }))∧((headS (qAt C.sq c)).1 < 0→Rk g none { C with bu:=(takeB C.bu C.sq c).1,sq:=(takeB C.bu C.sq c).2.1 }):=by
 have hev:=sq_even hz c
 have hs:=takeB_sq C.bu C.sq c
 obtain ⟨B,hB⟩:∃ B,(takeB C.bu C.sq c).1 = B:=⟨_,rfl⟩
 rw [hs,hB]
 cases hq:qAt C.sq c with
 | nil =>
  refine ⟨fun hu=>absurd (show (0:Int)≤-1 from hu) (by decide),fun _=>?_⟩
  refine rk_same h rfl (fun r hr=>?_)
  by_cases h3:r = 3
  ·subst h3
   show (C.sq.set c []).map evens = C.sq.map evens
   rw [← hq,set_qAt']
  ·exact rws_sq C hr h3 _ _
 | cons s q =>
  cases q with
  | nil=>rw [hq] at hev; exact absurd (show 1 % 2 = 0 from hev) (by decide)
  | cons w q =>
   have hm:s ∈ qAt (rws C 3) c:=by
    show s ∈ qAt (C.sq.map evens) c
    rw [qAt_evens,hq]
    simp [evens]
   obtain ⟨h1,h2,h3,h4,h5⟩:=rk_st3 h (by omega) hm
   show (0≤s→(thAt C s.toNat).st = 6∧Rk g none (putT { C with bu:=B,sq:=C.sq.set c q } s.toNat { thAt C s.toNat with st:=0,on:=0 }))∧(s < 0→_)
   refine ⟨fun _=>⟨by omega,?_⟩,fun hn=>by omega⟩
   refine rk_pop (C1:={ C with bu:=B,sq:=C.sq.set c q }) (f:={ thAt C s.toNat with st:=0,on:=0 }) h (r:=3) (k:=c) (by omega) rfl (fun r' h1 h2=>rws_sq C h1 h2 _ _) (q:=evens q) ?_ ?_ h5 (need0 (.inl rfl))
   ·rw [show ((s.toNat:Nat):Int) = s from by omega]
    show qAt (C.sq.map evens) c = _
    rw [qAt_evens,hq]; rfl
   ·show (C.sq.set c q).map evens = (C.sq.map evens).set c (evens q)
    rw [List.map_set]
theorem taken_ki {g:Pg} {b w:Nat} {x:Xs} (h:KI g b w x) {t:Nat} (ht:t < x.C.th.length) (h0:(thAt x.C t).st = 0) (c:Nat) (l:List Int):KI g (b+4) (w+1) (wakeF (tellF (inC x { x.C with bu:=(takeB x.C.bu x.C.sq c).1,sq:=(takeB x.C.bu x.C.sq c).2.1 }) t l) (headS (qAt x.C.sq c)).1 []):=by
 obtain ⟨h1,h2⟩:=take_rk h.z h.rk c
 have hz:=take_sz h.z c
 obtain ⟨C1,hC1⟩:∃ C1,({ x.C with bu:=(takeB x.C.bu x.C.sq c).1,sq:=(takeB x.C.bu x.C.sq c).2.1 }:Cr) = C1:=⟨_,rfl⟩
 have hC:C1.th = x.C.th:=by rw [← hC1]
 rw [hC1] at h1 h2 hz ⊢
 obtain ⟨s,hs⟩:∃ s,(headS (qAt x.C.sq c)).1 = s:=⟨_,rfl⟩
 rw [hs] at h1 h2 ⊢
 have ht1:t < (inC x C1).C.th.length:=by show t < C1.th.length; rw [hC]; exact ht
 have h01:(thAt (inC x C1).C t).st = 0:=by rw [show thAt (inC x C1).C t = thAt x.C t from thAt_th hC t]; exact h0
 by_cases hneg:0≤s
 ·obtain ⟨h3,h4⟩:=h1 hneg
  have hsl:s.toNat < x.C.th.length:=lt_of_st (by omega)
  have hst:s.toNat ≠ t:=by intro e; rw [e] at h3; omega
  have hke:=(h.ke.inC hC).tell ht1 h01 l
  have htm:=tell_tame (end_tame FU) (inC x C1) t l (fun _=>h01)
  have e1:thAt (inC x C1).C s.toNat = thAt x.C s.toNat:=thAt_th hC _
  have e2:=htm.stay s.toNat hst (by rw [e1]; omega)
  have hR:=tame_rk_put (B:=inC x C1) h4 (by show s.toNat < C1.th.length; rw [hC]; exact hsl) htm hst (need0 (.inl h01))
  have hzy:SzC g (tellF (inC x C1) t l).C:=SzC.th (C:=C1) hz htm.rest htm.len
  have e3:thAt (tellF (inC x C1) t l).C s.toNat = thAt x.C s.toNat:=e2.trans e1
  exact (hke.wake (C1:=(tellF (inC x C1) t l).C) hzy rfl (u:=s) (fun _=>⟨by rw [e3]; omega,by rw [e3]; exact hR⟩) (fun hn=>by omega) []).le (by omega) (by omega)
 ·have hk:=h.inC hC hz (fun r hr=>?_)
  rotate_left
  ·rw [← hC1]
   by_cases h3:r = 3
   ·subst h3
    have hev:=sq_even h.z c
    show (takeB x.C.bu x.C.sq c).2.1.map evens = x.C.sq.map evens
    rw [takeB_sq]
    cases hq:qAt x.C.sq c with
    | nil =>
     show (x.C.sq.set c []).map evens = _
     rw [← hq,set_qAt']
    | cons s' q =>
     cases q with
     | nil=>rw [hq] at hev; exact absurd (show 1 % 2 = 0 from hev) (by decide)
     | cons w q =>
      exfalso
      have hm:s' ∈ qAt (rws x.C 3) c:=by
       show s' ∈ qAt (x.C.sq.map evens) c
       rw [qAt_evens,hq]
       simp [evens]
      have:=(rk_st3 h.rk (by omega) hm).1
      rw [hq] at hs
      have:s' = s:=hs
      omega
   ·exact rws_sq x.C hr h3 _ _
  ·have hk2:=hk.tell ht1 h01 l
   unfold wakeF
   rw [if_pos (by omega)]
   exact hk2.le (by omega) (by omega)
theorem sel_some {C:Cr} {l:List Int} {t:Int} {i:Nat} (h:pickB C.bu C.sq l = some i):selC C l t = ({ C with bu:=(takeB C.bu C.sq (l.getD i 0).toNat).1,sq:=(takeB C.bu C.sq (l.getD i 0).toNat).2.1 },(i:Int),(takeB C.bu C.sq (l.getD i 0).toNat).2.2.1,(takeB C.bu C.sq (l.getD i 0).toNat).2.2.2,true):=by unfold selC; rw [h]
theorem sel_none {C:Cr} {l:List Int} {t:Int} (h:pickB C.bu C.sq l = none):selC C l t = ({ C with rq:=pushAll t l C.rq },-1,0,-1,false):=by unfold selC; rw [h]
theorem recv_ki {g:Pg} (hg:GoodP g) {b w:Nat} {x:Xs} (h:KI g b w x) {t:Nat} (ht:t < x.C.th.length) (h0:(thAt x.C t).st = 0) {c:Int} (hc:0≤c∧c < g.ch.length):KI g (b+4) (w+1) (recvX x t c):=by
 have hch:=hg.sz.ch
 have hrq:=h.z.rq
 unfold recvX
 dsimp only
 cases hp:pickB x.C.bu x.C.sq [c] with
 | some i =>
  rw [sel_some hp]
  dsimp only
  rw [if_neg (by decide),takeB_s]
  exact taken_ki h ht h0 _ _
 | none =>
  rw [sel_none hp]
  dsimp only
  rw [if_pos rfl]
  have hz:SzC g { x.C with rq:=pushAll (t:Int) [c] x.C.rq }:=h.z.inQ h.z.bu h.z.sq (by rw [pushAll_len]; exact h.z.rq) h.z.ev h.z.bc
  refine (h.ke.rest (C1:={ x.C with rq:=pushAll (t:Int) [c] x.C.rq }) (st:=7) (on:=c) hz rfl (by omega) (by omega) (by decide) (keep_small (by omega)) (fun h=>by omega) ?_).le (by omega) (by omega)
  refine rk_push (C1:={ x.C with rq:=pushAll (t:Int) [c] x.C.rq }) (f:={ thAt x.C t with st:=7,on:=c }) h.rk (r:=4) (by omega) rfl (fun r' h1 h2=>rws_rq x.C h1 h2 _) ht (l:=[c]) (fun c' hc'=>?_) rfl (need0 (.inl h0)) (need1 ⟨by show (3:Int)≤7; decide,by show (7:Int)≤7; decide⟩) (fun k hk=>?_)
  ·rw [List.mem_singleton] at hc'
   subst hc'
   refine ⟨hc.1,?_⟩
   show c'.toNat < x.C.rq.length
   omega
  ·rw [List.mem_singleton] at hk
   exact .inl ⟨rfl,hk.symm⟩
theorem choose_ki {g:Pg} (hg:GoodP g) {b w:Nat} {x:Xs} (h:KI g b w x) {t:Nat} (ht:t < x.C.th.length) (h0:(thAt x.C t).st = 0) {a:Int} (ha:0≤a∧a < g.cs.length):KI g (b+4) (w+1) (chooseX g x t a):=by
 have hcs:=hg.sz.cs
 have hrq:=h.z.rq
 unfold chooseX
 dsimp only
 cases hp:pickB x.C.bu x.C.sq (qAt g.cs a.toNat) with
 | some i =>
  rw [sel_some hp]
  dsimp only
  rw [if_neg (by decide),takeB_s]
  exact taken_ki h ht h0 _ _
 | none =>
  rw [sel_none hp]
  dsimp only
  rw [if_pos rfl]
  obtain ⟨hne,_,hl⟩:=hg.cs _ (qAt_mem (l:=g.cs) (m:=a.toNat) (by omega))
  have hz:SzC g { x.C with rq:=pushAll (t:Int) (qAt g.cs a.toNat) x.C.rq }:=h.z.inQ h.z.bu h.z.sq (by rw [pushAll_len]; exact h.z.rq) h.z.ev h.z.bc
  refine (h.ke.rest (C1:={ x.C with rq:=pushAll (t:Int) (qAt g.cs a.toNat) x.C.rq }) (st:=8) (on:=a) hz rfl (by omega) (by omega) (by decide) (keep_small (by omega)) (fun h=>ha) ?_).le (by omega) (by omega)
  refine rk_push (C1:={ x.C with rq:=pushAll (t:Int) (qAt g.cs a.toNat) x.C.rq }) (f:={ thAt x.C t with st:=8,on:=a }) h.rk (r:=4) (by omega) rfl (fun r' h1 h2=>rws_rq x.C h1 h2 _) ht (l:=qAt g.cs a.toNat) (fun c' hc'=>?_) rfl (need0 (.inl h0)) rfl (fun k hk=>.inr ⟨rfl,rfl,hk⟩)
  have:=hl c' hc'
  refine ⟨this.1,?_⟩
  show c'.toNat < x.C.rq.length
  have h1:(qAt g.cs a.toNat) ≠ []:=hne
  omega
theorem sleep_ki {g:Pg} {b w:Nat} {x:Xs} (h:KI g b w x) {t:Nat} (ht:t < x.C.th.length) (h0:(thAt x.C t).st = 0) (v:Int):KI g b w (sleepX x t v):=by
 unfold sleepX
 split
 ·exact h.ke.rest (C1:=x.C) h.z rfl (by omega) (by omega) (by decide) ((keep_id _).2 (keep_range _)).symm (fun h=>by omega) (rk_put h.rk (need0 (.inl h0)) (need0 (.inr (.inl rfl))))
 ·exact h
theorem join_ki {g:Pg} (hg:GoodP g) {b w:Nat} {x:Xs} (h:KI g b w x) {t:Nat} (ht:t < x.C.th.length) (h0:(thAt x.C t).st = 0) (v:Int):KI g (b+1) (w+1) (joinX x t v):=by
 unfold joinX
 split
 ·exact (h.end ht (need0 (.inl h0)) (by omega)).le (by omega) (by omega)
 ·rename_i hv
  split
  ·exact (h.tell ht h0 _).le (by omega) (by omega)
  ·rename_i h9
   have h8:=g_th8 hg h.z
   have hthI:ThI g { thAt x.C t with st:=2,on:=v }:=thI_rest (h.ei.at t) (by omega) (by omega) (keep_small (by omega)) (fun h=>by omega)
   have hn:=nj_put x.C t { thAt x.C t with st:=2,on:=v } ht
   rw [if_neg (by omega),if_pos rfl] at hn
   have hnl:nj (putT x.C t { thAt x.C t with st:=2,on:=v })≤8:=by
    have:=List.countP_le_length (p:=fun f:Th=>decide (f.st = 2)) (l:=(putT x.C t { thAt x.C t with st:=2,on:=v }).th)
    rw [putT_len] at this
    unfold nj
    omega
   refine ⟨h.z.th rfl (by rw [rest_len]),rk_put h.rk (need0 (.inl h0)) (need0 (.inr (.inr (.inl rfl)))),⟨fun f hf=>?_,fun k hk=>?_⟩,?_⟩
   ·rcases mem_put hf with hf | rfl
    ·exact h.ei.th _ hf
    ·exact hthI
   ·have hk2:(thAt (putT x.C t { thAt x.C t with st:=2,on:=v }) k).st = 2:=hk
    have hst:∀ u,(thAt x.C u).st ≠ 9→(thAt (putT x.C t { thAt x.C t with st:=2,on:=v }) u).st ≠ 9:=fun u hu=>by
     rw [thAt_put]
     split
     ·show (2:Int) ≠ 9; decide
     ·exact hu
    by_cases hkt:k = t
    ·subst hkt
     refine ⟨v.toNat,?_,by rw [rest_len]; omega,by omega,.inl (hst _ h9)⟩
     show (thAt (putT x.C k _) k).on = _
     rw [thAt_eq ht]
     show v = _
     omega
    ·rw [thAt_ne hkt] at hk2
     obtain ⟨u,e1,e2,e3,e4⟩:=h.ei.jn k hk2
     refine ⟨u,?_,by rw [rest_len]; exact e2,e3,.inl (hst u (e4.resolve_right id))⟩
     show (thAt (putT x.C t _) k).on = _
     rw [thAt_ne hkt]; exact e1
   ·have x1:=h.xb.ev
    have x2:=h.xb.wp
    have x3:=h.xb.wk
    refine ⟨?_,?_,fun f hf=>?_,?_,?_,?_⟩
    ·show nj (putT x.C t _)≤100; omega
    ·rw [rest_len]; exact h.xb.tl
    ·rcases mem_put hf with hf | rfl
     ·exact h.xb.th _ hf
     ·exact h.xb.at t
    ·show x.ev.length+nj (putT x.C t _)≤_; omega
    ·show x.wp.length+nj (putT x.C t _)≤_; omega
    ·show x.wk.length+nj (putT x.C t _)≤_; omega
theorem rqPlain (g:Pg):RqOk g nq:=⟨.inr rfl,⟨by show (-1073741824:Int)≤0; decide,by show (0:Int)≤1073741824; decide⟩,fun h=>absurd h (by decide),fun h=>absurd h (by decide),fun h=>absurd h (by decide),fun h=>absurd h (by decide),fun h=>absurd h (by decide),fun h=>absurd h (by decide)⟩
theorem rqEnd (g:Pg) (c:Int) (hc:0≤c∧c≤6):RqOk g ⟨1,0,c⟩:=⟨.inl ⟨by show (1:Int)≤1; decide,by show (1:Int)≤16; decide⟩,⟨by show -1073741824≤c; omega,by show c≤1073741824; omega⟩,fun h=>absurd h (show ¬ (1:Int) = 3 by decide),fun h=>absurd h (show ¬ ((1:Int) = 6∨(1:Int) = 7) by decide),fun h=>absurd h (show ¬ ((1:Int) = 8∨(1:Int) = 9∨(1:Int) = 10) by decide),fun h=>absurd h (show ¬ ((1:Int) = 11∨(1:Int) = 12) by decide),fun h=>absurd h (show ¬ ((1:Int) = 13∨(1:Int) = 14) by decide),fun h=>absurd h (show ¬ (1:Int) = 15 by decide)⟩
theorem rqPush {g:Pg} {t:Th} (ht:GoodT g t) (v:Int):RqOk g (pushX t v).2:=by
 rcases gPush ht v with ⟨h1,_⟩ | h
 ·rw [h1]; exact rqPlain g
 ·rw [h]; exact rqEnd g 2 (by omega)
theorem rqAsk {g:Pg} {k a v:Int} (hk:1≤k∧k≤16) (hv:kept2 v) (h3:k = 3→0≤a∧a < g.fu.length) (h6:k = 6∨k = 7→0≤a∧a < g.mu) (h8:k = 8∨k = 9∨k = 10→0≤a∧a < g.co.length) (h11:k = 11∨k = 12→0≤a∧a < g.se.length) (h13:k = 13∨k = 14→0≤a∧a < g.ch.length) (h15:k = 15→0≤a∧a < g.cs.length):RqOk g ⟨k,a,v⟩:=⟨.inl hk,hv,h3,h6,h8,h11,h13,h15⟩
theorem rq_ok {g:Pg} (hg:GoodP g) {t:Th} (ht:GoodT g t):RqOk g (stepT g t).2:=by
 obtain ⟨s,k,pc,ls,u,h⟩:=ST.of ht
 obtain ⟨⟨op,a⟩,b,hx⟩:∃ x b,fetchI g ⟨k,pc,ls⟩ = (x,b):=⟨_,_,rfl⟩
 cases b with
 | false=>rw [stepT_off h.fr hx]; exact rqEnd g 6 (by omega)
 | true =>
  rw [stepT_go h.fr hx]
  dsimp only
  have hxt:=xt_of hg h hx
  have hpl:=(fetch_in h.hu hx).2
  have hgu:=hg.fu u (List.mem_of_getElem? h.hu)
  have hin:=hgu.2.2 _ (fetch_in h.hu hx).1
  obtain ⟨i1,i2,i3,i4,i5,i6,i7,i8,i9,i10,_⟩:=hin
  have hlsl:=h.lsl
  have hloc:=hgu.1
  have odd:∀ (q:Int) (l:List Int),0≤q→q≤u.code.length→l.length = ls.length→kept l = true→oddF g ⟨k,q,l⟩ = false:=fun q l h0 h1 h2 h3=>odd_not h.hu ⟨h0,h1⟩ (by omega) hloc.1 h3
  obtain ⟨t1,ht1⟩:∃ t1:Th,t1 = { t with fr:=s ++ [⟨k,(pc:Int)+1,ls⟩] }:=⟨_,rfl⟩
  have hG:GoodT g t1:=by rw [ht1]; exact gTop ht h.fr (odd _ ls (by omega) (by omega) rfl h.kl)
  have hfr1:t1.fr = s ++ [⟨k,(pc:Int)+1,ls⟩]:=by rw [ht1]
  rw [← ht1] at hxt ⊢
  by_cases hu:(t1.sk.length:Int) < needsI op
  ·rw [ex_under g s _ t1 a hu]; exact rqEnd g 1 (by omega)
  have hpG:=gPop hG
  have hppG:=gPop hpG
  have hpf:(popM t1).1.fr = s ++ [⟨k,(pc:Int)+1,ls⟩]:=by rw [popM_fr]; exact hfr1
  have hc:op = 0∨op = 1∨op = 2∨op = 3∨op = 4∨op = 5∨op = 6∨op = 7∨op = 8∨op = 9∨op = 10∨op = 11∨op = 12∨op = 13∨op = 14∨op = 15∨op = 16∨op = 17∨op = 18∨op = 19∨op = 20∨op = 21∨op = 22∨op = 23∨op = 24∨op = 25∨op = 26:=by have:=hxt.opr; omega
  have n1:needsI op = 1→0 < t1.sk.length:=fun e=>by omega
  have n2:needsI op = 2→1 < t1.sk.length:=fun e=>by omega
  dsimp only at i3 i4 i5 i6 i7 i8 i9 i10
  have hpv:=(popM_v ((kept_iff _).1 hG.kp)).1
  rcases hc with rfl | rfl | rfl | rfl | rfl | rfl | rfl | rfl | rfl | rfl | rfl | rfl | rfl | rfl | rfl | rfl | rfl | rfl | rfl | rfl | rfl | rfl | rfl | rfl | rfl | rfl | rfl
  ·rw [ex0]; exact rqPush hG _
  ·rw [ex1 g s _ t1 a (n1 rfl)]; exact rqPlain g
  ·rw [ex2 g s _ t1 a (n1 rfl) hG.sk]
   rcases gPush hpG (popM t1).2.1 with ⟨_,h2⟩ | h2
   ·exact rqPush h2 _
   ·exfalso
    have htt:=(popM_tt (n1 rfl)).2
    have h16:=hG.sk
    have hne:¬ (popM t1).1.sk.length = 16:=by omega
    unfold pushX pushT at h2
    simp [hne] at h2
  ·rw [ex3 g s _ t1 a (n2 rfl)]; exact rqPush hppG _
  ·rw [ex4 g s _ t1 a (n2 rfl)]; exact rqPush hppG _
  ·obtain ⟨a0,a1⟩:=hxt.lo (.inl rfl)
   dsimp only at a1
   rw [ex5 g s _ t1 a (List.getElem?_eq_getElem (l:=ls) (i:=a.toNat) (by omega))]; exact rqPush hG _
  ·rw [ex6 g s _ t1 a (n1 rfl)]; exact rqPlain g
  ·rw [ex7]; exact rqPlain g
  ·rw [ex8 g s _ t1 a (n1 rfl)]
   split
   ·exact rqPlain g
   ·exact rqPlain g
  ·obtain ⟨a0,a1⟩:=hxt.fu rfl
   obtain ⟨v,hv⟩:∃ v,g.fu[a.toNat]? = some v:=⟨_,List.getElem?_eq_getElem (by omega)⟩
   rw [ex9 g s _ t1 a hv]
   unfold enterT
   by_cases h8:t1.fr.length = 8
   ·rw [if_pos h8]; exact rqEnd g 3 (by omega)
   ·rw [if_neg h8]; exact rqPlain g
  ·rw [ex10]
   by_cases hz:s = []
   ·rw [if_pos hz,if_pos hz]; exact rqEnd g 0 (by omega)
   ·rw [if_neg hz,if_neg hz]; exact rqPlain g
  ·rw [exR g s _ t1 a (op:=11) (k:=3) rfl]; exact rqAsk (k:=3) (by decide) ⟨by show (-1073741824:Int)≤0; decide,by show (0:Int)≤1073741824; decide⟩ (fun _=>i5 (.inr rfl)) (fun h=>absurd h (by decide)) (fun h=>absurd h (by decide)) (fun h=>absurd h (by decide)) (fun h=>absurd h (by decide)) (fun h=>absurd h (by decide))
  ·rw [exR g s _ t1 a (op:=12) (k:=2) rfl]; exact rqAsk (k:=2) (by decide) ⟨by show (-1073741824:Int)≤0; decide,by show (0:Int)≤1073741824; decide⟩ (fun h=>absurd h (by decide)) (fun h=>absurd h (by decide)) (fun h=>absurd h (by decide)) (fun h=>absurd h (by decide)) (fun h=>absurd h (by decide)) (fun h=>absurd h (by decide))
  ·rw [exQ g s _ t1 a (op:=13) (k:=4) (n1 rfl) rfl]; exact rqAsk (k:=4) (by decide) hpv (fun h=>absurd h (by decide)) (fun h=>absurd h (by decide)) (fun h=>absurd h (by decide)) (fun h=>absurd h (by decide)) (fun h=>absurd h (by decide)) (fun h=>absurd h (by decide))
  ·rw [exQ g s _ t1 a (op:=14) (k:=5) (n1 rfl) rfl]; exact rqAsk (k:=5) (by decide) hpv (fun h=>absurd h (by decide)) (fun h=>absurd h (by decide)) (fun h=>absurd h (by decide)) (fun h=>absurd h (by decide)) (fun h=>absurd h (by decide)) (fun h=>absurd h (by decide))
  ·rw [exR g s _ t1 a (op:=15) (k:=6) rfl]; exact rqAsk (k:=6) (by decide) ⟨by show (-1073741824:Int)≤0; decide,by show (0:Int)≤1073741824; decide⟩ (fun h=>absurd h (by decide)) (fun _=>i6 (.inl rfl)) (fun h=>absurd h (by decide)) (fun h=>absurd h (by decide)) (fun h=>absurd h (by decide)) (fun h=>absurd h (by decide))
  ·rw [exR g s _ t1 a (op:=16) (k:=7) rfl]; exact rqAsk (k:=7) (by decide) ⟨by show (-1073741824:Int)≤0; decide,by show (0:Int)≤1073741824; decide⟩ (fun h=>absurd h (by decide)) (fun _=>i6 (.inr rfl)) (fun h=>absurd h (by decide)) (fun h=>absurd h (by decide)) (fun h=>absurd h (by decide)) (fun h=>absurd h (by decide))
  ·rw [exR g s _ t1 a (op:=17) (k:=8) rfl]; exact rqAsk (k:=8) (by decide) ⟨by show (-1073741824:Int)≤0; decide,by show (0:Int)≤1073741824; decide⟩ (fun h=>absurd h (by decide)) (fun h=>absurd h (by decide)) (fun _=>i7 (.inl rfl)) (fun h=>absurd h (by decide)) (fun h=>absurd h (by decide)) (fun h=>absurd h (by decide))
  ·rw [exR g s _ t1 a (op:=18) (k:=9) rfl]; exact rqAsk (k:=9) (by decide) ⟨by show (-1073741824:Int)≤0; decide,by show (0:Int)≤1073741824; decide⟩ (fun h=>absurd h (by decide)) (fun h=>absurd h (by decide)) (fun _=>i7 (.inr (.inl rfl))) (fun h=>absurd h (by decide)) (fun h=>absurd h (by decide)) (fun h=>absurd h (by decide))
  ·rw [exR g s _ t1 a (op:=19) (k:=10) rfl]; exact rqAsk (k:=10) (by decide) ⟨by show (-1073741824:Int)≤0; decide,by show (0:Int)≤1073741824; decide⟩ (fun h=>absurd h (by decide)) (fun h=>absurd h (by decide)) (fun _=>i7 (.inr (.inr rfl))) (fun h=>absurd h (by decide)) (fun h=>absurd h (by decide)) (fun h=>absurd h (by decide))
  ·rw [exR g s _ t1 a (op:=20) (k:=11) rfl]; exact rqAsk (k:=11) (by decide) ⟨by show (-1073741824:Int)≤0; decide,by show (0:Int)≤1073741824; decide⟩ (fun h=>absurd h (by decide)) (fun h=>absurd h (by decide)) (fun h=>absurd h (by decide)) (fun _=>i8 (.inl rfl)) (fun h=>absurd h (by decide)) (fun h=>absurd h (by decide))
  ·rw [exR g s _ t1 a (op:=21) (k:=12) rfl]; exact rqAsk (k:=12) (by decide) ⟨by show (-1073741824:Int)≤0; decide,by show (0:Int)≤1073741824; decide⟩ (fun h=>absurd h (by decide)) (fun h=>absurd h (by decide)) (fun h=>absurd h (by decide)) (fun _=>i8 (.inr rfl)) (fun h=>absurd h (by decide)) (fun h=>absurd h (by decide))
  ·rw [exQ g s _ t1 a (op:=22) (k:=13) (n1 rfl) rfl]; exact rqAsk (k:=13) (by decide) hpv (fun h=>absurd h (by decide)) (fun h=>absurd h (by decide)) (fun h=>absurd h (by decide)) (fun h=>absurd h (by decide)) (fun _=>i9 (.inl rfl)) (fun h=>absurd h (by decide))
  ·rw [exR g s _ t1 a (op:=23) (k:=14) rfl]; exact rqAsk (k:=14) (by decide) ⟨by show (-1073741824:Int)≤0; decide,by show (0:Int)≤1073741824; decide⟩ (fun h=>absurd h (by decide)) (fun h=>absurd h (by decide)) (fun h=>absurd h (by decide)) (fun h=>absurd h (by decide)) (fun _=>i9 (.inr rfl)) (fun h=>absurd h (by decide))
  ·rw [exR g s _ t1 a (op:=24) (k:=15) rfl]; exact rqAsk (k:=15) (by decide) ⟨by show (-1073741824:Int)≤0; decide,by show (0:Int)≤1073741824; decide⟩ (fun h=>absurd h (by decide)) (fun h=>absurd h (by decide)) (fun h=>absurd h (by decide)) (fun h=>absurd h (by decide)) (fun h=>absurd h (by decide)) (fun _=>i10 rfl)
  ·rw [exQ g s _ t1 a (op:=25) (k:=16) (n1 rfl) rfl]; exact rqAsk (k:=16) (by decide) hpv (fun h=>absurd h (by decide)) (fun h=>absurd h (by decide)) (fun h=>absurd h (by decide)) (fun h=>absurd h (by decide)) (fun h=>absurd h (by decide)) (fun h=>absurd h (by decide))
  ·rw [ex26]; exact rqEnd g 0 (by omega)
theorem CI.ki {g:Pg} (hg:GoodP g) {C:Cr} (h:CI g C):KI g 8 8 ⟨C,[],[],[]⟩:=by
 have h8:=g_th8 hg h.z
 have hn:nj C≤C.th.length:=List.countP_le_length
 refine ⟨h.z,h.rk,⟨h.th,fun k hk=>?_⟩,⟨by show nj C≤100; omega,by show C.th.length≤100; omega,fun f hf=>thI_ok hg (h.th f hf),by show 0+nj C≤8; omega,by show 0+nj C≤8; omega,by show 0+nj C≤8; omega⟩⟩
 obtain ⟨u,h1,h2,h3,h4⟩:=h.jn k hk
 exact ⟨u,h1,h2,h3,.inl h4⟩
theorem CI.at {g:Pg} {C:Cr} (h:CI g C) (k:Nat):ThI g (thAt C k):=by
 rcases Nat.lt_or_ge k C.th.length with h1 | h1
 ·rw [thAt_lt h1]; exact h.th _ (List.getElem_mem h1)
 ·rw [thAt_ge h1]; exact thI_end ⟨by omega,by omega⟩
theorem KI.put {g:Pg} (hg:GoodP g) {b w:Nat} {x:Xs} (h:KI g b w x) {t:Nat} (ht:t < x.C.th.length) (h0:need g (thAt x.C t) = 0) {f:Th} (hf:GoodT g f):KI g b w ⟨putT x.C t f,x.ev,x.wk,x.wp⟩:=by
 have hs:=hf.st
 refine ⟨h.z.th rfl (putT_len _ _ _),rk_put h.rk h0 (need0 (.inl hs)),h.ei.put ht (thI_good hf) (by omega) (fun _ h=>h) (fun h=>by omega) _ _ _,?_⟩
 have hok:okT f:=thI_ok hg (thI_good hf)
 have:=(put_xb h.xb ht hok (by omega) x.ev x.wk x.wp).1
 exact this.le (by omega) (by omega)
theorem newT_good {g:Pg} (hg:GoodP g) {a:Int} (ha:0≤a∧a < g.fu.length):GoodT g (newT g a):=by
 obtain ⟨u,hu⟩:∃ u,g.fu[a.toNat]? = some u:=⟨_,List.getElem?_eq_getElem (by omega)⟩
 have hgu:=hg.fu u (List.mem_of_getElem? hu)
 have e:=(newT_okT g a.toNat u hu hgu.1).1
 rw [show ((a.toNat:Nat):Int) = a from by omega] at e
 rw [e]
 refine ⟨rfl,rfl,rfl,by show (0:Nat)≤16; omega,rfl,⟨by show (1:Nat)≤1; omega,by show (1:Nat)≤8; omega⟩,fun f hf=>?_⟩
 simp only [List.mem_singleton] at hf
 subst hf
 have:=odd_not (g:=g) (k:=a.toNat) (u:=u) (pc:=0) (l:=List.replicate u.loc.toNat 0) hu ⟨by omega,by omega⟩ (by simp) hgu.1.1 (kept_of (fun y hy=>by rw [List.eq_of_mem_replicate hy]; exact ⟨by decide,by decide⟩))
 rwa [show ((a.toNat:Nat):Int) = a by omega] at this
theorem thAt_app {C:Cr} {f:Th} (k:Nat):thAt { C with th:=C.th ++ [f] } k = if k = C.th.length then f else thAt C k:=by
 unfold thAt
 dsimp only
 rw [List.getD_eq_getElem?_getD,List.getD_eq_getElem?_getD]
 by_cases h:k = C.th.length
 ·subst h; simp
 ·rw [if_neg h]
  rcases Nat.lt_or_ge k C.th.length with h1 | h1
  ·rw [List.getElem?_append_left h1]
  ·rw [List.getElem?_eq_none (by rw [List.length_append,List.length_singleton]; omega),List.getElem?_eq_none h1]
theorem spawn_ki {g:Pg} (hg:GoodP g) {b w:Nat} {x:Xs} (h:KI g b w x) {t:Nat} (ht:t < x.C.th.length) (h0:(thAt x.C t).st = 0) {a:Int} (ha:0≤a∧a < g.fu.length):KI g (b+2) (w+1) (spawnX g x t a):=by
 have hgt:=newT_good hg ha
 unfold spawnX
 split
 ·exact ((h.ev (1,(t:Int),-1)).tell (x:=seeX x 1 t (-1)) ht h0 [-1]).le (by omega) (by omega)
 ·rename_i hl
  have htt:thAt { x.C with th:=x.C.th ++ [newT g a] } t = thAt x.C t:=by rw [thAt_app,if_neg (by omega)]
  have hnj:nj { x.C with th:=x.C.th ++ [newT g a] } = nj x.C:=by
   unfold nj
   dsimp only
   rw [List.countP_append]
   have:List.countP (fun f=>decide (f.st = 2)) [newT g a] = 0:=by
    have hs:(newT g a).st = 0:=rfl
    simp [hs]
   omega
  have hk:KI g (b+1) (w+1) { seeX { x with C:={ x.C with th:=x.C.th ++ [newT g a] } } 1 t x.C.th.length with wk:=x.wk ++ [(x.C.th.length:Int)],wp:=x.wp ++ [(x.C.th.length:Int)] }:=by
   refine ⟨?_,?_,⟨fun f hf=>?_,fun k hk=>?_⟩,?_⟩
   ·exact ⟨by show 1≤(x.C.th ++ [newT g a]).length; rw [List.length_append]; show 1≤_+1; omega,by show ((x.C.th ++ [newT g a]).length:Int)≤g.th; rw [List.length_append,List.length_singleton]; omega,h.z.now,h.z.L,h.z.ow,h.z.co,h.z.bu,h.z.sq,h.z.rq,h.z.ev,h.z.bc⟩
   ·refine h.rk.same (by show _≤(x.C.th ++ [newT g a]).length; rw [List.length_append]; omega) (fun r hr=>?_) (fun k hk=>?_) (fun k h1 h2=>?_) (fun s hs=>by cases hs)
    ·have hc:r = 0∨r = 1∨r = 2∨r = 3∨r = 4:=by omega
     rcases hc with rfl | rfl | rfl | rfl | rfl <;> rfl
    ·left
     show thAt { x.C with th:=x.C.th ++ [newT g a] } k = _
     rw [thAt_app,if_neg (by omega)]
    ·have h2':k < (x.C.th ++ [newT g a]).length:=h2
     rw [List.length_append,List.length_singleton] at h2'
     show need g (thAt { x.C with th:=x.C.th ++ [newT g a] } k) = 0
     rw [thAt_app,if_pos (by omega)]
     exact need0 (.inl rfl)
   ·have hf':f ∈ x.C.th ++ [newT g a]:=hf
    rcases List.mem_append.1 hf' with hf' | hf'
    ·exact h.ei.th _ hf'
    ·rw [List.mem_singleton] at hf'; subst hf'; exact thI_good hgt
   ·have hk2:(thAt { x.C with th:=x.C.th ++ [newT g a] } k).st = 2:=hk
    show ∃ u:Nat,(thAt { x.C with th:=x.C.th ++ [newT g a] } k).on = _∧u < (x.C.th ++ [newT g a]).length∧u ≠ k∧((thAt { x.C with th:=x.C.th ++ [newT g a] } u).st ≠ 9∨_)
    rw [thAt_app] at hk2 ⊢
    by_cases e:k = x.C.th.length
    ·rw [if_pos e] at hk2
     have hs:(0:Int) = 2:=hk2
     omega
    ·rw [if_neg e] at hk2 ⊢
     obtain ⟨u,e1,e2,e3,e4⟩:=h.ei.jn k hk2
     refine ⟨u,e1,by rw [List.length_append]; omega,e3,?_⟩
     rw [thAt_app,if_neg (by omega)]
     exact e4
   ·have x1:=h.xb.ev
    have x2:=h.xb.wp
    have x3:=h.xb.wk
    have x4:=h.xb.jn
    have x5:=h.z.tl
    have x6:=hg.th
    refine ⟨?_,?_,fun f hf=>?_,?_,?_,?_⟩
    ·show nj { x.C with th:=x.C.th ++ [newT g a] }≤100; omega
    ·show (x.C.th ++ [newT g a]).length≤100
     rw [List.length_append,List.length_singleton]
     omega
    ·have hf':f ∈ x.C.th ++ [newT g a]:=hf
     rcases List.mem_append.1 hf' with hf' | hf'
     ·exact h.xb.th _ hf'
     ·rw [List.mem_singleton] at hf'; subst hf'; exact thI_ok hg (thI_good hgt)
    ·show (x.ev ++ [_]).length+nj { x.C with th:=x.C.th ++ [newT g a] }≤_
     rw [hnj,List.length_append,List.length_singleton]; omega
    ·show (x.wp ++ [_]).length+nj { x.C with th:=x.C.th ++ [newT g a] }≤_
     rw [hnj,List.length_append,List.length_singleton]; omega
    ·show (x.wk ++ [_]).length+nj { x.C with th:=x.C.th ++ [newT g a] }≤_
     rw [hnj,List.length_append,List.length_singleton]; omega
  exact (hk.tell (by show t < (x.C.th ++ [newT g a]).length; rw [List.length_append]; omega) (by show (thAt { x.C with th:=x.C.th ++ [newT g a] } t).st = 0; rw [htt]; exact h0) _).le (by omega) (by omega)
theorem meet_ki {g:Pg} (hg:GoodP g) {b w:Nat} {t:Nat} {x:Xs} (h:KI g b w x) (hm:MI g t x) {q:Rq} (hq:RqOk g q) (h1:q.kd ≠ 1) (h0:(thAt x.C t).st = 0):KI g (b+100) (w+100) (meetX g x t q):=by
 have ht:=hm.tl
 obtain ⟨kd,a,v⟩:=q
 obtain ⟨q1,q2,q3,q4,q5,q6,q7,q8⟩:=hq
 dsimp only at q1 q2 q3 q4 q5 q6 q7 q8 h1
 have hc:kd = 0∨kd = 2∨kd = 3∨kd = 4∨kd = 5∨kd = 6∨kd = 7∨kd = 8∨kd = 9∨kd = 10∨kd = 11∨kd = 12∨kd = 13∨kd = 14∨kd = 15∨kd = 16:=by omega
 rcases hc with rfl | rfl | rfl | rfl | rfl | rfl | rfl | rfl | rfl | rfl | rfl | rfl | rfl | rfl | rfl | rfl
 ·exact KI.le (x:=x) h (by omega) (by omega)
 ·exact KI.le (x:=x) h (by omega) (by omega)
 ·exact (spawn_ki hg h ht h0 (q3 rfl)).le (by omega) (by omega)
 ·exact (sleep_ki h ht h0 v).le (by omega) (by omega)
 ·exact (join_ki hg h ht h0 v).le (by omega) (by omega)
 ·exact (lock_ki hg h ht h0 (q4 (.inl rfl))).le (by omega) (by omega)
 ·exact (unlock_ki h ht h0 a).le (by omega) (by omega)
 ·exact (wait_ki hg h ht h0 (q5 (.inl rfl))).le (by omega) (by omega)
 ·exact (signal_ki hg h (q5 (.inr (.inl rfl)))).le (by omega) (by omega)
 ·have ha:=q5 (.inr (.inr rfl))
  have he:=hm.eo hg
  have htot:=hm.tot hg
  show KI g _ _ (broadX g x a)
  rw [broad_eq hg h.z he.L he.N (nodup_wq hm) ha (fun v hv=>(hm.std (r:=1) (by omega) (k:=a.toNat) hv).1)]
  obtain ⟨b',w',e1,e2,hk⟩:=broadI_ki hg ha (qAt x.C.L.wq a.toNat).length h
  have hl:(qAt x.C.L.wq a.toNat).length≤32:=by
   have:=sumL_mem (qAt_mem (l:=x.C.L.wq) (m:=a.toNat) (by have:=h.z.L.wq; omega))
   omega
  exact hk.le (by omega) (by omega)
 ·exact (down_ki hg h ht h0 (q6 (.inl rfl))).le (by omega) (by omega)
 ·exact (up_ki h a).le (by omega) (by omega)
 ·exact (send_ki hg h ht h0 (q7 (.inl rfl)) v).le (by omega) (by omega)
 ·exact (recv_ki hg h ht h0 (q7 (.inr rfl))).le (by omega) (by omega)
 ·exact (choose_ki hg h ht h0 (q8 rfl)).le (by omega) (by omega)
 ·exact KI.le (x:=seeX x 0 t v) (h.ev (0,(t:Int),v)) (by omega) (by omega)
theorem beg_all {g:Pg} (hg:GoodP g) {C:Cr} (h:CI g C) {t:Nat} (ht:t < C.th.length) (h0:(thAt C t).st = 0) :
  MI g t (begX g C t)∧((stepT g (thAt C t)).2.kd ≠ 1→(thAt (begX g C t).C t).st = 0)∧((thAt (begX g C t).C t).st = 0∨(thAt (begX g C t).C t).st = 9)∧KI g 108 108 (meetX g (begX g C t) t (stepT g (thAt C t)).2):=by
 have hgt:=thI_ready (h.at t) h0
 have hq:=rq_ok hg hgt
 have hki:=h.ki hg
 unfold begX
 rcases step_ok hg hgt with ⟨h1,h2,_⟩ | ⟨c,hc,hr⟩
 ·obtain ⟨f,hf⟩:∃ f,(stepT g (thAt C t)).1 = f:=⟨_,rfl⟩
  rw [hf] at h2 ⊢
  have hk:=hki.put hg ht (need0 (.inl h0)) h2
  have hst:(thAt (putT C t f) t).st = 0:=by rw [thAt_eq ht]; exact h2.st
  have hm:MI g t ⟨putT C t f,[],[],[]⟩:=⟨hk.z,hk.rk,hk.ei.th,by show t < (putT C t f).th.length; rw [putT_len]; exact ht,rfl,rfl,rfl⟩
  exact ⟨hm,fun _=>hst,.inl hst,meet_ki hg hk hm hq h1 hst⟩
 ·rw [hr]
  have hst:(thAt (putT C t (endT c)) t).st = 9:=by rw [thAt_eq ht]
  have hth:∀ f ∈ (putT C t (endT c)).th,ThI g f:=fun f hf=>by
   rcases mem_put hf with hf | rfl
   ·exact h.th _ hf
   ·exact thI_end (by omega)
  refine ⟨⟨h.z.th rfl (putT_len _ _ _),rk_put h.rk (need0 (.inl h0)) (need0 (.inr (.inr (.inr rfl)))),hth,by show t < (putT C t (endT c)).th.length; rw [putT_len]; exact ht,rfl,rfl,rfl⟩,fun hne=>absurd rfl hne,.inr hst,?_⟩
  have e:meetX g ⟨putT C t (endT c),[],[],[]⟩ t ⟨1,0,c⟩ = endF ⟨C,[],[],[]⟩ t c:=by
   show endX 100 ⟨putT C t (endT c),[],[],[]⟩ t c = endX 100 ⟨C,[],[],[]⟩ t c
   have ed:deadX ⟨putT C t (endT c),[],[],[]⟩ t c = deadX ⟨C,[],[],[]⟩ t c:=by
    unfold deadX
    dsimp only
    rw [putT_put]
   rw [endX,endX,ed]
   show (List.range (putT C t (endT c)).th.length).foldl _ _ = _
   rw [putT_len]
  rw [e]
  exact (hki.end ht (need0 (.inl h0)) (by omega)).le (by omega) (by omega)
theorem stepC_ci {g:Pg} (hg:GoodP g) {C:Cr} (h:CI g C) (t:Int):CI g (stepC g C t).1:=by
 unfold stepC
 split
 ·exact h
 ·rename_i ht
  split
  ·exact h
  ·rename_i h0
   exact (beg_all hg h (by omega) (by omega)).2.2.2.ci
def stil (f:Th):Prop:=f.st = 0∨f.st = 1∨f.st = 9
structure Sti (t:Nat) (x y:Xs):Prop where
 now:y.C.now = x.C.now
 len:y.C.th.length = x.C.th.length
 stay:∀ k,k ≠ t→stil (thAt x.C k)→thAt y.C k = thAt x.C k
theorem Sti.trans {t:Nat} {x y z:Xs} (h:Sti t x y) (h2:Sti t y z):Sti t x z :=
 ⟨h2.now.trans h.now,h2.len.trans h.len,fun k hk hs=>by rw [h2.stay k hk (by rw [h.stay k hk hs]; exact hs),h.stay k hk hs]⟩
theorem Sti.tame {t u:Nat} {x y:Xs} (h:Tame u x y) (hu:u = t∨¬ stil (thAt x.C u)):Sti t x y :=
 ⟨by rw [h.rest],h.len,fun k hk hs=>h.stay k (by
  rintro rfl
  rcases hu with hu | hu
  ·exact hk hu
  ·exact hu hs) (by rcases hs with hs | hs | hs <;> omega)⟩
theorem sti_inC {t:Nat} {x:Xs} {C':Cr} (h:C'.th = x.C.th) (hn:C'.now = x.C.now):Sti t x (inC x C'):=⟨hn,by show C'.th.length = _; rw [h],fun k _ _=>thAt_th h k⟩
theorem sti_rest {t u:Nat} {x:Xs} {st on:Int} (hu:u = t∨¬ stil (thAt x.C u)):Sti t x (restX x u st on):=⟨rfl,rest_len _ _ _ _,fun k hk hs=>thAt_ne (by
  rintro rfl
  rcases hu with hu | hu
  ·exact hk hu
  ·exact hu hs)⟩
theorem not_stil {f:Th} (h:3≤f.st∧f.st≤8):¬ stil f:=fun hs=>by rcases hs with hs | hs | hs <;> omega
theorem sti_wake {t:Nat} {x:Xs} {u:Int} (hu:TSt x u) (l:List Int):Sti t x (wakeF x u l):=by
 unfold wakeF
 split
 ·exact ⟨rfl,rfl,fun _ _ _=>rfl⟩
 ·exact Sti.tame (wake_tame (end_tame FU) x u.toNat l) (.inr (not_stil (hu (by omega))))
theorem sti_end {t:Nat} {x:Xs} (c:Int):Sti t x (endF x t c):=Sti.tame (end_tame FU x t c) (.inl rfl)
theorem sti_tell {t:Nat} {x:Xs} (h0:(thAt x.C t).st = 0) (l:List Int):Sti t x (tellF x t l):=Sti.tame (tell_tame (end_tame FU) x t l (fun _=>h0)) (.inl rfl)
theorem sti_moved {t:Nat} {x:Xs} {u m:Int} {has:Bool} (hu:TSt x u) (h0:0≤u):Sti t x (movedX x u m has):=by
 unfold movedX
 split
 ·exact sti_wake hu []
 ·exact sti_rest (.inr (not_stil (hu h0)))
theorem sti_moves {t:Nat} (m got:Int):∀ (l:List Int) (x:Xs),l.Nodup→(∀ v ∈ l,0≤v∧(thAt x.C v.toNat).st = 4)→Sti t x (l.foldl (movedL m got) x)
 | [],x,_,_=>⟨rfl,rfl,fun _ _ _=>rfl⟩
 | v :: l,x,hd,hs=>by
  obtain ⟨hv,hv4⟩:=hs v List.mem_cons_self
  have hd':=List.nodup_cons.1 hd
  rw [List.foldl_cons]
  refine Sti.trans (sti_moved (u:=v) (m:=m) (has:=decide (v = got)) (fun _=>by omega) hv) (sti_moves m got l _ hd'.2 (fun w hw=>?_))
  obtain ⟨hw0,hw4⟩:=hs w (List.mem_cons_of_mem _ hw)
  refine ⟨hw0,?_⟩
  have hne:((w.toNat:Nat):Int) ≠ v:=by
   intro e
   have:w = v:=by omega
   exact hd'.1 (this ▸ hw)
  rw [movedX_stay hne hv (by omega)]
  exact hw4
theorem sendC_now (C:Cr) (c:Nat) (room t v:Int):(sendC C c room t v).1.now = C.now:=by
 unfold sendC
 split
 ·rfl
 ·split <;> rfl
theorem selC_now (C:Cr) (l:List Int) (t:Int):(selC C l t).1.now = C.now:=by
 unfold selC
 split <;> rfl
theorem taken_sti {t:Nat} {x:Xs} {C':Cr} (h:C'.th = x.C.th) (hn:C'.now = x.C.now) (h0:(thAt x.C t).st = 0) {v:Int} (hv:TSt x v) (l l':List Int):Sti t x (wakeF (tellF (inC x C') t l) v l'):=by
 have e:∀ k,thAt (inC x C').C k = thAt x.C k:=fun k=>thAt_th h k
 refine (sti_inC (t:=t) h hn).trans ((sti_tell (by rw [e]; exact h0) l).trans (sti_wake (fun hv0=>?_) l'))
 have h1:=hv hv0
 have hne:v.toNat ≠ t:=by intro e; rw [e] at h1; omega
 rw [tellF_stay (by rw [e]; exact h0) hne (by rw [e]; omega),e]
 exact h1
structure StiS (t:Nat) (x y:Xs):Prop where
 now:y.C.now = x.C.now
 len:x.C.th.length≤y.C.th.length∧y.C.th.length≤x.C.th.length+1
 stay:∀ k,k < x.C.th.length→k ≠ t→stil (thAt x.C k)→thAt y.C k = thAt x.C k
theorem Sti.s {t:Nat} {x y:Xs} (h:Sti t x y):StiS t x y:=⟨h.now,by rw [h.len]; omega,fun k _ h1 h2=>h.stay k h1 h2⟩
theorem meet_sti {g:Pg} (hg:GoodP g) {t:Nat} {x:Xs} (h:MI g t x) {q:Rq} (hq:RqOk g q) (h0:q.kd ≠ 1→(thAt x.C t).st = 0):StiS t x (meetX g x t q):=by
 have ht:=h.tl
 have he:=h.eo hg
 have hz:=h.z.L
 obtain ⟨kd,a,v⟩:=q
 obtain ⟨q1,q2,q3,q4,q5,q6,q7,q8⟩:=hq
 dsimp only at q1 q2 q3 q4 q5 q6 q7 q8 h0
 have hid:Sti t x x:=⟨rfl,rfl,fun _ _ _=>rfl⟩
 have hL:∀ S:Lk,Sti t x (inL x S):=fun S=>sti_inC (C':={ x.C with L:=S }) rfl rfl
 have hc:kd = 0∨kd = 1∨kd = 2∨kd = 3∨kd = 4∨kd = 5∨kd = 6∨kd = 7∨kd = 8∨kd = 9∨kd = 10∨kd = 11∨kd = 12∨kd = 13∨kd = 14∨kd = 15∨kd = 16:=by omega
 rcases hc with rfl | rfl | rfl | rfl | rfl | rfl | rfl | rfl | rfl | rfl | rfl | rfl | rfl | rfl | rfl | rfl | rfl
 ·exact hid.s
 ·exact (sti_end v).s
 ·exact hid.s
 ·show StiS t x (spawnX g x t a)
  have h00:=h0 (by decide)
  unfold spawnX
  split
  ·have hh:=sti_tell (x:=seeX x 1 t (-1)) (t:=t) h00 [-1]
   exact Sti.s (x:=x) ⟨hh.now,hh.len,hh.stay⟩
  ·have htt:thAt { x.C with th:=x.C.th ++ [newT g a] } t = thAt x.C t:=by rw [thAt_app,if_neg (by omega)]
   obtain ⟨y,hy⟩:∃ y:Xs,{ seeX { x with C:={ x.C with th:=x.C.th ++ [newT g a] } } 1 t x.C.th.length with wk:=x.wk ++ [(x.C.th.length:Int)],wp:=x.wp ++ [(x.C.th.length:Int)] } = y:=⟨_,rfl⟩
   have hyC:y.C = { x.C with th:=x.C.th ++ [newT g a] }:=by rw [← hy]; rfl
   rw [hy]
   have hs:=sti_tell (x:=y) (t:=t) (by rw [hyC,htt]; exact h00) [(x.C.th.length:Int)]
   have hl:y.C.th.length = x.C.th.length+1:=by rw [hyC]; show (x.C.th ++ [_]).length = _; rw [List.length_append]; rfl
   refine ⟨by rw [hs.now,hyC],by rw [hs.len,hl]; omega,fun k hk hkt hst=>?_⟩
   have ek:thAt y.C k = thAt x.C k:=by rw [hyC,thAt_app,if_neg (by omega)]
   rw [hs.stay k hkt (by rw [ek]; exact hst),ek]
 ·show StiS t x (sleepX x t v)
  unfold sleepX
  split
  ·exact (sti_rest (.inl rfl)).s
  ·exact hid.s
 ·show StiS t x (joinX x t v)
  unfold joinX
  split
  ·exact (sti_end 5).s
  ·split
   ·exact (sti_tell (h0 (by decide)) _).s
   ·exact (sti_rest (.inl rfl)).s
 ·show StiS t x (lockX x t a)
  unfold lockX
  dsimp only
  split
  ·exact (hL _).s
  ·exact ((hL _).trans (sti_rest (.inl rfl))).s
 ·show StiS t x (unlockX x t a)
  unfold unlockX
  dsimp only
  split
  ·exact ((hL _).trans (sti_wake ((unlock_ts h a.toNat t).inL (unlockS x.C.L a.toNat t).1) [])).s
  ·exact (sti_end 4).s
 ·show StiS t x (waitX g x t a)
  unfold waitX
  dsimp only
  split
  ·exact ((hL _).trans ((sti_wake ((wait_ts h a.toNat (g.co.getD a.toNat 0).toNat t).inL (waitS x.C.L a.toNat (g.co.getD a.toNat 0).toNat t).1) []).trans (sti_rest (.inl rfl)))).s
  ·exact (sti_end 4).s
 ·show StiS t x (signalX g x a)
  unfold signalX
  dsimp only
  split
  ·exact hid.s
  ·rename_i hn
   exact ((hL _).trans (sti_moved ((signal_ts h a.toNat (g.co.getD a.toNat 0).toNat).inL (signalS x.C.L a.toNat (g.co.getD a.toNat 0).toNat).1) (by omega))).s
 ·have:=q5 (.inr (.inr rfl))
  have hco:=hg.co _ (getD_mem (l:=g.co) (e:=a.toNat) (by omega))
  have hall:=broad_all he.L he.N (c:=a.toNat) (m:=(g.co.getD a.toNat 0).toNat) (by show a.toNat < g.co.length; omega) (by show (g.co.getD a.toNat 0).toNat < g.mu.toNat; omega)
  show StiS t x (broadX g x a)
  unfold broadX
  dsimp only
  rw [hall]
  refine ((hL _).trans (sti_moves _ _ _ _ (nodup_wq h _) (fun v hv=>?_))).s
  obtain ⟨h1,h2⟩:=row_st h (r:=1) (by omega) (k:=a.toNat) (v:=v) hv
  refine ⟨h1,?_⟩
  show (thAt x.C v.toNat).st = 4
  omega
 ·show StiS t x (downX x t a)
  unfold downX
  dsimp only
  split
  ·exact (hL _).s
  ·exact ((hL _).trans (sti_rest (.inl rfl))).s
 ·show StiS t x (upX x a)
  unfold upX
  dsimp only
  exact ((hL _).trans (sti_wake ((up_ts h a.toNat).inL (upS x.C.L a.toNat).1) [])).s
 ·show StiS t x (sendX g x t a v)
  have hs:=(send_ts h a.toNat (g.ch.getD a.toNat 0) (t:Int) v).inC (sendC_th x.C a.toNat (g.ch.getD a.toNat 0) (t:Int) v).1
  have hi:Sti t x (inC x (sendC x.C a.toNat (g.ch.getD a.toNat 0) (t:Int) v).1):=sti_inC (sendC_th x.C a.toNat (g.ch.getD a.toNat 0) (t:Int) v).1 (sendC_now ..)
  unfold sendX
  dsimp only
  split
  ·exact (hi.trans (sti_rest (.inl rfl))).s
  ·split
   ·exact hi.s
   ·split
    ·exact (hi.trans (sti_wake hs _)).s
    ·exact (hi.trans (sti_wake hs _)).s
 ·show StiS t x (recvX x t a)
  unfold recvX
  dsimp only
  split
  ·exact ((sti_inC (selC_th x.C [a] (t:Int)).1 (selC_now ..)).trans (sti_rest (.inl rfl))).s
  ·exact (taken_sti (selC_th x.C [a] (t:Int)).1 (selC_now ..) (h0 (by decide)) (sel_ts h [a] (t:Int)) _ _).s
 ·show StiS t x (chooseX g x t a)
  unfold chooseX
  dsimp only
  split
  ·exact ((sti_inC (selC_th x.C (qAt g.cs a.toNat) (t:Int)).1 (selC_now ..)).trans (sti_rest (.inl rfl))).s
  ·exact (taken_sti (selC_th x.C (qAt g.cs a.toNat) (t:Int)).1 (selC_now ..) (h0 (by decide)) (sel_ts h (qAt g.cs a.toNat) (t:Int)) _ _).s
 ·exact (show Sti t x (seeX x 0 t v) from ⟨rfl,rfl,fun _ _ _=>rfl⟩).s
theorem step_sti {g:Pg} (hg:GoodP g) {C:Cr} (h:CI g C) {t:Nat} (ht:t < C.th.length) (h0:(thAt C t).st = 0):(stepC g C t).2.2.2 = 0∧(stepC g C t).1.now = C.now∧(C.th.length≤(stepC g C t).1.th.length∧(stepC g C t).1.th.length≤C.th.length+1)∧∀ k,k < C.th.length→k ≠ t→stil (thAt C k)→thAt (stepC g C t).1 k = thAt C k:=by
 obtain ⟨b1,b2,b3,b4⟩:=beg_all hg h ht h0
 have hs:=meet_sti hg b1 (rq_ok hg (thI_ready (h.at t) h0)) b2
 unfold stepC
 rw [if_neg (by omega),Int.toNat_natCast,if_neg (fun hn=>hn h0)]
 dsimp only
 have hl:(begX g C t).C.th.length = C.th.length:=putT_len _ _ _
 have hk:∀ k,k ≠ t→thAt (begX g C t).C k = thAt C k:=fun k hk=>thAt_ne hk
 refine ⟨rfl,hs.now,by have:=hs.len; rw [hl] at this; exact this,fun k h1 h2 h3=>?_⟩
 rw [hs.stay k (by rw [hl]; exact h1) h2 (by rw [hk k h2]; exact h3),hk k h2]
end Go.Proofs.YtkceciebmkklpaaGreat.V
