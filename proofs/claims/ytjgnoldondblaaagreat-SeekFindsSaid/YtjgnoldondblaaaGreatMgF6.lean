/-
  SymTrB, SymMap1, SymMap2, PlTree, PlDir, PlEnds, PlSeekEnd, PlFin, PlFinish, PlMean, PlMk, PlItems, PlTe, PlBld, PlBld2, PlBld3, PlCo, PlCost, PlFinds, PlBegun, SymBgn: put together by a program of mine (a claim may have 60 files at most). Conditions: none.
-/
import Derived.WalkKit
import Derived.WalkLawsBesides
import Derived.WalkSpells
import Derived.Lib.Hide
import Derived.Deep.QuietTactic
import Derived.BigQuiet
import Derived.Deep.LoopGhost
import Derived.Deep.DeepCutAuto
import Derived.Deep.RegionLaw
import Derived.Lib.Overlaps
import Derived.Laws.CopyOwn
import Derived.IntWalk
import Derived.ProofKit
import Derived.OpenShut
import Derived.ShutString
import Derived.ChangeOld
import Derived.Deep.Slices
import Derived.Test.YtjgnoldondblaaaGreatProg
import Derived.Orders
import Derived.OrdersHeld
import Derived.Defers
import Derived.Recover
import Derived.Lib.BitFns
import Derived.ChangeKeysEq
import Derived.Test.YtjgnoldondblaaaGreatChecked
import Derived.Lib.BufferWrite
import Derived.Maps.OwnSet
import Derived.Maps.RangeWalk
import Derived.Maps.Ext
import Derived.DeepKeys4
import Derived.LoopN
import Derived.Shelf.SlSortCmp.WholeK
import Derived.Shelf.SlSortCmp.NoneTotal
import Derived.Deep.RegionHeld3
import Derived.Ground.SlsfProg
import Derived.Shelf.SlGeneric
import Derived.RangeFuncLeaves
import Derived.RangeFuncCalls
import Derived.OrdersIn
import Derived.Test.YtjgnoldondblaaaGreatMgF1
import Derived.Test.YtjgnoldondblaaaGreatMgF2
import Derived.Test.YtjgnoldondblaaaGreatMgF3
import Derived.Test.YtjgnoldondblaaaGreatMgF4
import Derived.Test.YtjgnoldondblaaaGreatMgF5
set_option linter.unusedVariables false
set_option linter.unusedSimpArgs false
set_option maxRecDepth 100000
set_option maxHeartbeats 1600000
namespace Go.Proofs.YtjgnoldondblaaaGreat.Sym
open Go Go.RowKit
theorem noAts:∀ k,¬ ats ([]:List (Nat × Blk)) k:=fun k ⟨e,he,_⟩ => by cases he
theorem seg_K {m0:Nat → Nat → Prop} {mem:List (Nat × Blk)} {gr:List (Nat × Gr)} {nt:Nat} {tm:List (Nat × AV)} {w w1:World} {S:Nat → Prop} {ds:List Deferred} {K K':Kn} (h:K.p (mT m0 mem gr) w):K.p (St.m ⟨nt,tm,[],[],[]⟩ ⟨mT m0 mem gr,w1,S,ds,K'⟩) w:=
 K.st ⟨fun b o u h1 h2 => ⟨h1,fun h => by
  rcases h with h | ⟨k,e,he,_⟩ | ⟨k,t,ht,_⟩
  ·exact h2 h
  ·cases he
  cases ht⟩,fun _ _ h _ => h⟩ h
theorem grow_len {b:Int}:∀ (n:Nat) (l:List Itm) (q:Lab) (T:List (Lab × Rec)),T.length ≤ 2000 → (growP b n l q T).2.length ≤ 2000
 | 0,l,q,T,h => h
 | n + 1,l,q,T,h => by
  by_cases h1:2000 ≤ T.length
  ·rw [grow_full h1]; exact h
  have hs:∀ r,(setA q r T).length ≤ 2000:=fun r => by rw [set_len]; split<;>omega
  by_cases h2:(l.length:Int) ≤ b ∨ q.len=64
  ·rw [grow_leaf h1 h2]; exact hs _
  by_cases hc:chE q 0=0
  ·have e1:(gT b n l q T 1).length ≤ 2000:=grow_len n _ _ _ (hs innR)
   have e2:(gT b n l q T 2).length ≤ 2000:=grow_len n _ _ _ e1
   rw [grow_in h1 h2 hc]
   split
   ·exact e2
   exact e1
  rw [grow_none h1 h2 hc]; exact hs innR
theorem old_ok2 {m0:Nat → Nat → Prop} {w0 w w':World} {S:Nat → Prop} {ds:List Deferred} {K:Kn} {nt key:Nat} {t:Gr} {l:List (Nat × AV)} {mem:List (Nat × Blk)} {a:Act} (h:Fits ⟨m0,w0,S,ds,K⟩ ⟨nt,l,[],mem,[(key,t)]⟩ a w) (hS:∀ k,¬ S k) (hc:Chg (fun x => ownB t.v=some x) w w') {v:AV} (hv:Ok m0 w0 v):Ok (mG m0 mem [(key,t)]) w' v:=by
 refine hv.mono fun b o u hcell hn => ?_
 have hlt:=World.block_lt_of_cell? w0 _ hcell
 have hown:ownB t.v ≠ some b:=by
  intro hb
  obtain ⟨_,xs,ho⟩:=h.gr key t (by simp [lookM])
  exact absurd hlt (Nat.not_lt.2 (ho.lt b hb).1)
 refine ⟨?_,?_⟩
 ·have e1:=h.chg.block b hlt (hS b)
  have e2:=hc.block b (Nat.lt_of_lt_of_le hlt h.chg.size) hown
  unfold World.cell? at hcell ⊢
  rw [e2,e1]; exact hcell
 rintro (h1 | ⟨k,e,he,h1⟩ | ⟨k,t',ht,hb,_⟩)
 ·exact hn h1
 ·subst h1
  rcases (h.mem k e he).2.2 with h2 | h2
  ·exact absurd hlt (Nat.not_lt.2 h2)
  exact hS _ h2
 obtain ⟨_,xs,ho⟩:=h.gr k t' ht
 exact absurd hlt (Nat.not_lt.2 (ho.lt b hb).1)
theorem lmL_chg {bN:Nat} {NX:List (Lab × Lab)} {m m':Nat → Nat → Prop} {w w':World} (h:(lmK labAV bN NX).p m w) (he:w'.heap[bN]? = w.heap[bN]?):(lmK labAV bN NX).p m' w':=by
 obtain ⟨D,hD⟩:=h
 exact ⟨D,mapW_heap hD.map he,hD.nd,hD.labs,hD.has,hD.size,hD.at_,fun p hp => zLab_ok _ _ _⟩
theorem recV_cells {m:Nat → Nat → Prop} {w:World} {x:RA} (h:Ok m w (recV x)) (l:Lab) (v:Int):∀ u ∈ rowC ⟨l,v,x⟩,u.one=true ∧ Ok m w u:=by
 cases h with
 | agg _ h1 h2 =>
  intro u hu
  simp only [rowC,List.mem_cons,List.not_mem_nil,or_false] at hu
  rcases hu with rfl | rfl | rfl | rfl | rfl | rfl | rfl | rfl
  ·exact ⟨rfl,.int _ _⟩
  ·exact ⟨rfl,.int _ _⟩
  ·exact ⟨rfl,.int _ _⟩
  ·exact ⟨rfl,.int _ _⟩
  ·exact ⟨h1 _ (by simp [recC]),h2 _ (by simp [recC])⟩
  ·exact ⟨rfl,.int _ _⟩
  ·exact ⟨rfl,.int _ _⟩
  exact ⟨rfl,.int _ _⟩
def fixA (NX:Lab → Lab) (r:RowA):RowA:=if r.x.r.kd=1 then ⟨r.lab,r.ver,⟨r.x.A,r.x.c,{ r.x.r with nx:=NX r.lab }⟩⟩ else r
theorem fixA_abs (NX:Lab → Lab) (r:RowA):(fixA NX r).abs=fixN NX r.abs:=by
 unfold fixA fixN
 by_cases h:r.x.r.kd=1
 ·rw [if_pos h,if_pos (show r.abs.r.kind=1 from h)]; rfl
 rw [if_neg h,if_neg (show ¬ r.abs.r.kind=1 from h)]
theorem build_s (A:Option Addr) (n c:Nat) (f:Nat → Itm) (hn:n ≤ 1000000) (hki:∀ i,i < n → U64 (f i).key) (b:Int):Spec Tryz.prog 6 [rowI A n c f,.int .i64 b] (fun y => .tup [rowsV (y.A 0) (bldR n f b).length (y.c 0) (rwAt y (bldR n f b)),.int .i64 (bldE n f b)]):=by
 intro m w hm hargs
 have hmx:maxLen=9223372036854775807:=rfl
 have hok:=hargs (rowI A n c f) (by simp)
 have hvs:∀ i,i < n → (f i).val.size ≤ maxLen:=fun i hi => by
  have:=ok_cell hok hi (.str (f i).val) (by simp [itC])
  cases this; assumption
 have SO:=conO_s A n c f hn
 have SS:=srtI_s A n c f hn
 obtain ⟨od,hod⟩:=eqv (oddB n f)
 obtain ⟨sr,hsr⟩:=eqv (srtB n f)
 obtain ⟨du,hdu⟩:=eqv (dupB n f)
 rw [← hod] at SO
 rw [← hsr] at SS
 unfold rowI at hargs SO SS
 refine en 95 hm hargs Tryz.func6 fun B hB a0 hF => ?_
 refine wp_seq (rg hB TA_ok [0,1] [] [] hF fun X0 a0 w1 hF => ?_)
 refine wp_seq (rg hB TA_ok [6,0,1] [] [] hF fun X1 a0 w1 hF => ?_)
 refine wp_seq (rg hB TA_ok [7,6,0,1] [] [] hF fun X2 a0 w1 hF => ?_)
 refine wp_seq (wp_region_lit ?_)
 refine lpr 0 1 hB TA_ok [16,7,6,0,1] [] [] hF (fun X3 a0 w1 hF => ?_)
 refine man_raw rfl rfl rfl rfl rfl hF rfl rfl (fun _ _ => by kernel_rfl) _ (clone_own A n c f hn (hF.slot 16 rfl).2) ?_
 rintro v w2 ⟨A2,c2,rfl,hO2,hb2⟩
 have hF2:=(hF.below hb2).put (some 17) (fun t ht => by injection ht with ht; subst ht; exact Nat.le_of_ble_eq_true rfl) (.raw (.slice A2 n c2)) (fun _ => .raw _) _ fun _ => rfl
 have hcc:=compact_c hO2 hb2.size hn hvs
 refine man_raw (R:=fun v w' => ∃ A m c,v = .slice A m c ∧ decide (m < n)=du ∧ OldB w1.heap.size w2 w') rfl rfl rfl rfl rfl hF2 rfl rfl (fun _ _ => by kernel_rfl) (hcc.mono ?_) ?_
 ·rintro e w' ⟨A3,m3,c3,rfl,h1,h2,h3⟩
  exact ⟨_,rfl,A3,m3,c3,rfl,by rw [hdu]; exact h1,h3⟩
 rintro v w3 ⟨A3,m3,c3,rfl,hm3,hold⟩
 have hb3:Below w1.heap.size w1 w3:=⟨hold.os.trans hb2.os,hold.tape.trans hb2.tape,hold.output.trans hb2.output,hold.size,fun k hk => (hold.block k hk).trans (hb2.block k hk)⟩
 have hF3:=(hF.below hb3).put (some 17) (fun t ht => by injection ht with ht; subst ht; exact Nat.le_of_ble_eq_true rfl) (.raw (.slice A2 n c2)) (fun _ => .raw _) (.slice A2 n c2) fun _ => rfl
 have hF3:=hF3.put (some 18) (fun t ht => by injection ht with ht; subst ht; exact Nat.le_of_ble_eq_true rfl) (.raw (.slice A3 m3 c3)) (fun _ => .raw _) (.slice A3 m3 c3) fun _ => rfl
 refine man_val (v:=.int .i64 (m3:Int)) rfl rfl rfl hF3 (Nat.le_of_ble_eq_true rfl) ?_ (.int _ _) fun a0 hF => ?_
 ·have h18:=(hF3.slot 18 rfl).1
  have hu:Tryz.prog.underlying 22=some (.slice 63):=by kernel_rfl
  have h18':=(val_ok hF3 (q:=[]) (fun _ h => by cases h) (x:=.tmp 18) rfl).1
  have h18'':Act.eval ((a0.put (some 17) (.slice A2 n c2)).put (some 18) (.slice A3 m3 c3)) (.tmp 18) = .slice A3 m3 c3:=h18'
  simp [execOp,resolve,invoke,builtin,Builtin.len_,h18'',AV.den,run_underlying hu,goInt]
 refine lnd 4 hB TA_ok [8,7,6,0,1] [] [] hF (fun X4 a0 w1 hF => ?_)
 have hF:=hF.headS (v':=.bool (.v du)) (by subst hB; exact Sim.bool (by rw [← hm3]; show decide ((m3:Int) < (n:Int))=decide (m3 < n); rw [decide_eq_decide]; omega)) rfl
 have O1:=SO
 have O2:=SS
 refine wp_seq (wp_block (wp_seq (rg hB TA_ok [23,0,1] [] [(9,.r fun _ => .bool (.v od)),(14,.r fun _ => .bool (.v sr))] hF (fun X5 a0 w1 hF => ?_) (hob:=?hob))))
 case hob =>
  intro X; subst hB
  repeat (first | exact trivial | refine ⟨rfl,?_⟩ | refine ⟨fun _ => rfl,?_⟩ | refine ⟨fun _ => ⟨fun _ _ => by kernel_rfl,SO⟩,?_⟩ | refine ⟨fun _ => ⟨fun _ _ => by kernel_rfl,SS⟩,?_⟩)
 refine test_ok hF rfl (fun hbA hF => ?_) (fun hbA hF => ?_)
 ·have h9:(if (if (if (if decide (b < 1)=true then true else decide (b > 16))=true then true else od)=true then true else !sr)=true then true else du)=true:=by subst hB; exact hbA
  have hE:bldE n f b=1:=by
   unfold bldE
   rw [if_pos]
   rw [← hod,← hsr,← hdu]
   by_cases g1:b < 1
   ·exact .inl g1
   by_cases g2:b > 16
   ·exact .inr (.inl g2)
   cases od
   ·cases sr
    ·exact .inr (.inr (.inr (.inl rfl)))
    cases du
    ·simp [g1,g2] at h9
    exact .inr (.inr (.inr (.inr rfl)))
   exact .inr (.inr (.inl rfl))
  refine wp_seq (rg hB TA_ok [4,5] [4] [] hF fun X6 a0 w1 hF => ?_)
  refine wp_ret (rsi hB TA_ok hF ⟨0,fun _ => none,fun _ => 0,fun _ => .empty⟩ (he:=?_))
  subst hB
  rw [show bldR n f b=[] by unfold bldR; rw [hE]; rfl,hE]
  exact Sim.tup ⟨sim_nils,zr,trivial⟩
 have hE0:bldE n f b=if 500 < n then 2 else if (growT n f b).1=true then 0 else 2:=by
  have h9:(if (if (if (if decide (b < 1)=true then true else decide (b > 16))=true then true else od)=true then true else !sr)=true then true else du)=false:=by subst hB; exact hbA
  unfold bldE
  rw [if_neg]
  rw [← hod,← hsr,← hdu]
  rintro (g | g | g | g | g)<;>simp [g] at h9
 refine wp_seq (rg hB TA_ok [44,0,1] [] [] hF fun X6 a0 w1 hF => ?_)
 refine test_ok hF rfl (fun hbB hF => ?_) (fun hbB hF => ?_)
 ·have hbig:500 < n:=by
   have:(500:Int) < (n:Int):=by subst hB; simpa [std,sC] using hbB
   omega
  rw [if_pos hbig] at hE0
  refine wp_seq (rg hB TA_ok [4,5] [4] [] hF fun X7 a0 w1 hF => ?_)
  refine wp_ret (rsi hB TA_ok hF ⟨0,fun _ => none,fun _ => 0,fun _ => .empty⟩ (he:=?_))
  subst hB
  rw [show bldR n f b=[] by unfold bldR; rw [hE0]; rfl,hE0]
  exact Sim.tup ⟨sim_nils,zr,trivial⟩
 have hsml:¬ 500 < n:=by
  have:¬ (500:Int) < (n:Int):=by subst hB; simpa [std,sC] using hbB
  omega
 rw [if_neg hsml] at hE0
 refine wp_skip (wp_seq (wp_region_lit ?_))
 refine man_makeMap (k:=37) (e:=0) rfl rfl rfl rfl hF (Nat.le_of_ble_eq_true rfl) (lmR w1.heap.size []) (fun m w' _ _ hM => ⟨[],rfl,_,LmD.empty hM⟩) ?_
 obtain ⟨bT,hbT⟩:=eqv (w1.heap.size)
 rw [← hbT]
 intro a0 w1 hfresh hF
 have hbfr:w.heap.size ≤ bT:=hfresh
 refine lnd 1 hB TA_ok [9,0,1] [] [] hF (fun X7 a0 w1 hF => ?_)
 refine wp_seq (wp_seq (wp_region_lit ?_))
 refine lpr 0 4 hB TA_ok [49,50,51,52,9] [] [] hF (fun X8 a0 w1 hF => ?_)
 have hGM:=grow_m bT b 65 A n c f ⟨0,0⟩ [] hn hki ⟨by decide,by decide⟩ (by decide) (by decide)
 obtain ⟨gp,hgp⟩:=eqv (growT n f b)
 rw [show growP b 65 (firsts f n) ⟨0,0⟩ []=gp from hgp.symm] at hGM
 simp only [rowI,labAV] at hGM
 refine man_callM rfl rfl rfl rfl hF rfl rfl (fun _ _ => by kernel_rfl) hGM (fun _ _ h => h) (fun b' hb' => by cases hb'; exact fun h => absurd h (Nat.not_lt.2 hbfr)) (zl) (fun e he => by cases he) rfl rfl (fun _ => lmR bT gp.2) (fun _ _ _ _ _ _ _ _ _ h => h) ?_
 intro y a0 w1 hF
 obtain ⟨gb,hgb⟩:=eqv (gp.1)
 rw [← hgb] at hF
 refine lnd 5 hB TA_ok [54,9] [] [] hF (fun X9 a0 w1 hF => ?_)
 refine test_ok hF rfl (fun hbC hF => ?_) (fun hbC hF => ?_)
 ·have hgf:gb=false:=by subst hB; cases gb<;>first | rfl | cases hbC
  have hE:bldE n f b=2:=by rw [hE0,← hgp,← hgb,hgf]; rfl
  refine wp_seq (rg hB TA_ok [4,5] [4] [] hF fun X10 a0 w1 hF => ?_)
  refine wp_ret (rsi hB TA_ok hF ⟨0,fun _ => none,fun _ => 0,fun _ => .empty⟩ (he:=?_))
  subst hB
  rw [show bldR n f b=[] by unfold bldR; rw [hE]; rfl,hE]
  exact Sim.tup ⟨sim_nils,zr,trivial⟩
 have hgt:gb=true:=by subst hB; cases gb<;>first | rfl | cases hbC
 have hE:bldE n f b=0:=by rw [hE0,← hgp,← hgb,hgt]; rfl
 have hR:bldR n f b=(bld0 n f b).map (fixN (nxP (leavesP (bld0 n f b)))):=by unfold bldR; rw [if_pos hE]
 have h0:bld0 n f b=(sortE gp.2).map rwOf:=by unfold bld0; rw [← hgp]
 rw [hE,hR]
 refine wp_skip ?_
 -- from here on: a stretch of its own
 obtain ⟨wi,hwi⟩:=eqv (w1)
 have hMi:Mem m w (fun _ => False) noK [] [] wi:=by rw [hwi]; exact (hF.withK (K':=noK) trivial).bare
 obtain ⟨TA,hTA,D,hD⟩:=hF.kept
 have hFs:=(seg_of hF).withK (K':=ldK recV D bT TA) (seg_K (K:=ldK recV D bT TA) hD)
 rw [← hwi] at hFs hD ⊢
 obtain ⟨mS,hmS⟩:=eqv (mT m [] [])
 have hokT:∀ p ∈ TA,Ok mS wi (recV p.2):=fun p hp => by rw [hmS]; exact hD.ok p hp
 have hrets:∀ {fn:Func} {nt0:Nat} {tm0:List (Nat × AV)} {R:Ending → World → Prop},True:=fun {_ _ _ _} => trivial
 replace hF:=hFs
 rw [← hmS] at hF
 have hlabs:∀ p ∈ TA,LabOk p.1:=hD.labs
 have hnd:=hD.nd
 have hmapT:∃ es cl,wi.heap[bT]? = some (.map es cl):=by obtain ⟨es,cl,h,_⟩:=hD.map; exact ⟨es,cl,h⟩
 refine wp_seq (rg hB TA_ok [10,9] [10] [] hF fun X10 a0 w1 hF => ?_)
 refine wp_seq (wp_seq (wp_region_lit ?_))
 refine lpr 0 1 hB TA_ok [55,10] [10] [] hF (fun X11 a0 w1 hF => ?_)
 obtain ⟨rr,hrr⟩:=eqv (w1.heap.size)
 refine man_range rfl rfl rfl rfl hF (Nat.le_of_ble_eq_true rfl) rfl labK mapr_und hF.kept.map (rgK recV D bT rr TA (Maps.has D) (Maps.size D)) (fun m w' h1 h2 h3 => ⟨h1.keep h2,by rw [hrr]; exact h3⟩) ?_
 rw [← hrr]
 intro a0 w1 hfr hF
 refine wpList_nil ?_
 replace hF:=hF.keep [10,56] [10]
 have hbTr:bT ≠ rr:=by
  obtain ⟨es,cl,h⟩:=hmapT
  have:=lt_heap h
  omega
 have hF:=hF.headS (v':=.sl (some 10) none 0 0 8 (fun t => rowC zRow)) (zq0) rfl
 refine wp_block (loop_any (ι:=Nat × (Nat → RowA) × Option Addr × Nat × (Lit → Bool) × Nat) (fun p a w1 => Fits ⟨mS,wi,ats [],[],rgK recV D bT rr TA p.2.2.2.2.1 p.2.2.2.2.2⟩ ⟨95,[(10,.sl (some 10) p.2.2.1 p.1 p.2.2.2.1 8 (fun t => rowC (p.2.1 t))),(56,.raw (.pointer (some ⟨rr,0,none⟩)))],[],[],[(10,⟨p.2.2.1,p.1,p.2.2.2.1,8,78⟩)]⟩ a w1) (fun p => (∀ kl,p.2.2.2.2.1 kl=true → Maps.has D kl=true) ∧ (rwsA p.2.1 p.1 ++ (TA.filter fun q => p.2.2.2.2.1 (keyL q.1)).map fun q => (rwA q).abs).Perm (TA.map fun q => (rwA q).abs) ∧ ∀ t,t < p.1 → ∃ q ∈ TA,p.2.1 t=rwA q) (fun p => p.2.2.2.2.2) (0,fun _ => zRow,none,0,Maps.has D,Maps.size D) ⟨fun _ h => h,by
  have:TA.filter (fun q => Maps.has D (keyL q.1))=TA:=List.filter_eq_self.2 fun q hq => (hD.has _).2 ⟨q,hq,rfl⟩
  simp only [this]
  exact List.Perm.refl _,fun t ht => absurd ht (Nat.not_lt_zero _)⟩ hF ?_)
 rintro ⟨k1,h,A1,c1,left,cnt⟩ ⟨hlft,hprm,hels⟩ a0 w1 hF
 dsimp only at hlft hprm hels hF
 have hTl:TA.length ≤ 2000:=by
  have:=grow_len (b:=b) 65 (firsts f n) ⟨0,0⟩ [] (Nat.zero_le _)
  have e:gp.2=(growP b 65 (firsts f n) ⟨0,0⟩ []).2:=by rw [hgp]; rfl
  rw [← e,← hTA,absT_len] at this
  exact this
 have hk1:k1 ≤ TA.length:=by
  have h9:=hprm.length_eq
  simp only [List.length_append,listA_len,List.length_map] at h9
  omega
 refine wp_seq (wp_region_lit ?_)
 refine man_next1 rfl rfl rfl rfl hF (Nat.le_of_ble_eq_true rfl) rfl labK hF.kept.2 (fun h => absurd h (Nat.not_lt.2 hfr)) (spK recV D bT rr TA left) (fun m h _ => ⟨h.1,fun h => by cases h⟩) (fun key v kl cnt' m w' h1 h2 h3 h4 => ⟨h1.1.keepB h2 (fun e => hbTr (by injection e with e; exact e.symm)),fun _ => ⟨h3,h4⟩⟩) ?_
 intro a0 w1 bb rest' key v kl cnt' hn0 hn1 hF
 refine lnd 1 hB TA_ok [58,10,56] [10] [] hF (fun X12 a0 w1 hF => ?_)
 refine wp_seq (test_ok hF rfl (fun hbD hF => ?_) (fun hbD hF => ?_))
 ·have hbb:bb=true:=by subst hB; exact hbD
  obtain ⟨hnx1,hnx2,hnx3,hnx4⟩:=hn1 hbb
  replace hF:=hF.withK (K':=etK recV D bT rr TA (fun x => left x && !x.sameKey kl) key v cnt') ⟨hF.kept.1,hF.kept.2 hbb⟩
  refine wp_skip (wp_block (wp_seq (wp_region_lit ?_)))
  obtain ⟨⟨q,el⟩,hp,hpk,hpkey,hpv⟩:=hF.kept.1.entry hnx1 (hlft _ hnx2) hnx3
  dsimp only at hpk hpkey hpv
  have hent:=hF.kept.2.2
  rw [hpkey,hpv] at hent
  have hok:=hF.kept.1.ok _ hp
  refine man_entry rfl rfl rfl rfl hF (Nat.le_of_ble_eq_true rfl) rfl hent (zLab_ok _ _ q) hok ?_
  intro a0 hF
  simp only [labAV] at hF
  replace hF:=hF.withK (K':=rgK recV D bT rr TA (fun x => left x && !x.sameKey kl) cnt') ⟨hF.kept.1,hF.kept.2.1⟩
  refine lnd 1 hB TA_ok [11,12,10,56] [11,12,10] [] hF (fun X13 a0 w1 hF => ?_)
  refine rg hB TA_ok [10,56] [10] [] hF (fun X14 a0 w1 hF => ?_) (hob:=?hob2)
  case hob2 =>
   intro X; subst hB
   repeat (first | exact trivial | refine ⟨⟨rfl,rfl,rfl⟩,?_⟩ | refine ⟨rfl,?_⟩ | refine ⟨⟨show k1 + 1 ≤ maxLen by omega,show (k1 + 1) * _ ≤ _ by omega⟩,?_⟩)
  obtain ⟨h2,hh2⟩:∃ x:Nat → RowA,x=fun t => if t=k1 then rwA (q,el) else h t:=⟨_,rfl⟩
  have hF:=hF.headS (v':=.sl (some 10) ((X14 5).A 0) (B.nadd k1 1) ((X14 5).c 0) 8 (fun t => rowC (h2 t))) (Sim.resl rfl (fun t ht => by
   subst hB
   have ht2:t < k1 + 1:=ht
   show appC k1 (fun t => rowC (h t)) (chunk 8 (rowC (rwA (q,el)))) t=_
   rw [hh2]
   unfold appC
   dsimp only
   split
   ·rw [if_neg (by omega)]
   have:t=k1:=by omega
   subst this
   rw [if_pos rfl]
   simp [chunk])) rfl
  refine ⟨(k1 + 1,h2,_,_,(fun x => left x && !x.sameKey kl),cnt'),⟨fun x hx => ?_,?_,fun t ht => ?_⟩,hnx4,by rw [show k1 + 1=B.nadd k1 1 by subst hB; rfl]; exact hF⟩
  ·simp only [Bool.and_eq_true] at hx
   exact hlft _ hx.1
  ·have h9:=(fresh_left (left:=left) hnd hlabs hp (by rw [hpk]; exact hnx2)).map fun q => (rwA q).abs
   rw [hpk] at h9
   have e9:rwsA h2 (k1 + 1)=rwsA h k1 ++ [(rwA (q,el)).abs]:=by
    show listA RowA.abs _ (k1 + 1)=listA RowA.abs h k1 ++ _
    rw [listA_succ,hh2]
    simp only [if_true]
    congr 1
    unfold listA
    apply List.map_congr_left
    intro t ht
    have h5:=List.mem_range.1 ht
    show RowA.abs (if t=k1 then rwA (q,el) else h t)=_
    rw [if_neg (by omega)]
   simp only
   rw [e9,List.append_assoc]
   refine List.Perm.trans (List.Perm.append_left _ ?_) hprm
   rw [List.map_cons] at h9
   exact h9.symm
  simp only at ht ⊢
  rw [hh2]
  by_cases he:t=k1
  ·exact ⟨_,hp,by simp [he]⟩
  simp only [if_neg he]; exact hels t (by omega)
 have hbb:bb=false:=by subst hB; exact hbD
 have hall:=hn0 hbb
 have hprm2:(rwsA h k1).Perm (TA.map fun q => (rwA q).abs):=by
  have e9:(TA.filter fun q => left (keyL q.1))=[]:=List.filter_eq_nil_iff.2 fun q _ => by rw [hall]; simp
  rw [e9] at hprm
  simpa using hprm
 replace hF:=hF.withK (K':=noK) trivial
 refine wp_exit (wp_seq (wp_region_lit ?_))
 refine lpr 0 1 hB TA_ok [68,10] [10] [] hF (fun X13 a0 w1 hF => ?_)
 have hO:=gr_own hF (hF.slot 10 rfl).2
 refine man_sorted rfl rfl rfl rfl rfl hF rfl rfl (fun _ _ => by kernel_rfl) (fun w' => ∃ h':Nat → RowA,((List.range k1).map h').Perm ((List.range k1).map h) ∧ (∀ i j,i < j → j < k1 → labLt (h' j).lab (h' i).lab=false) ∧ Own w' wi.heap.size 78 8 (.slice A1 k1 c1) k1 (rowFlat (fun t => rowC (h' t)) k1)) ((sortRowO_c hO (by omega)).mono ?_) ?_
 ·rintro e w2 ⟨he,h',g1,g2,g3,g4⟩
  exact ⟨he,⟨h',g1,g2,g3⟩,g4⟩
 rintro w2 ⟨h',g1,g2,g3⟩ g4
 have hfin:=build_fin hnd hprm2 g1 g2
 have hels':∀ i,i < k1 → ∃ q ∈ TA,h' i=rwA q:=by
  intro i hi
  have hmem:=g1.mem_iff.1 (List.mem_map.2 ⟨i,List.mem_range.2 hi,rfl⟩)
  obtain ⟨j,hj,hje⟩:=List.mem_map.1 hmem
  obtain ⟨q,hq,hqe⟩:=hels j (List.mem_range.1 hj)
  exact ⟨q,hq,by rw [← hje,hqe]⟩
 have hgrm:∀ b',ownB (.slice A1 k1 c1)=some b' → ∀ o,o < k1 * 8 → ¬ mG mS [] [(10,⟨A1,k1,c1,8,78⟩)] b' o:=grown_free hF
 have hrow2:Ok (mG mS [] [(10,⟨A1,k1,c1,8,78⟩)]) w2 (.sl (some 10) A1 k1 c1 8 (fun t => rowC (h' t))):=own_known2 g3 (fun _ _ => rfl) hgrm (fun i hi => by
  obtain ⟨q,hq,e⟩:=hels' i hi
  rw [e]
  exact recV_cells (old_ok2 hF noAts g4 (hokT q hq)) _ _) _
 have hF:=Fits.rowset (K':=noK) (l':=[(10,.sl (some 10) A1 k1 c1 8 (fun t => rowC (h' t)))]) hF g4 g3 (hl_cons ⟨(hF.slot 10 rfl).1,hrow2⟩ hl_nil) (fun k e he => by cases he) trivial
 have hF:=(hF.put (some 69) (fun t ht => by injection ht with ht; subst ht; exact Nat.le_of_ble_eq_true rfl) (.tup []) (fun _ => .tup _ fun u hu => by cases hu) (.tuple #[]) fun _ => rfl)
 refine wpList_nil ?_
 replace hF:=hF.keep [10] [10]
 have hk2000:k1 ≤ 2000:=by omega
 obtain ⟨lv,hlv⟩:=eqv (leavesP (rwsA h' k1))
 have hlvl:lv.length ≤ k1:=by
  have:=leaves_len (rwsA h' k1)
  rw [listA_len,← hlv] at this
  exact this
 have hlvo:=leaves_mem (l:=rwsA h' k1) (p:=LabOk) (fun x hx => by
  simp only [rwsA,listA,List.mem_map,List.mem_range] at hx
  obtain ⟨i,hi,rfl⟩:=hx
  obtain ⟨q,hq,e⟩:=hels' i hi
  rw [e]
  exact hlabs q hq)
 have SL:=(leaves_s A1 k1 c1 h' (by omega)).args' (args:=[.sl (some 10) A1 k1 c1 8 (fun t => rowC (h' t))]) ⟨Sim.resl rfl (fun t ht => rfl),trivial⟩
 rw [← hlv] at SL hlvo
 obtain ⟨lf,hlf⟩:=eqv (labF lv)
 obtain ⟨ln,hln⟩:=eqv (lv.length)
 rw [← hlf,← hln] at SL hlvo
 rw [← hln] at hlvl
 obtain ⟨NX,hNX⟩:=eqv (nexA lf ln ln)
 have O1:=SL
 refine wp_seq (wp_region_lit ?_)
 refine lpr 0 2 hB TA_ok [71,10] [10] [(1,.r fun y => labsV (y.A 0) ln (y.c 0) lf)] hF (fun X15 a0 w1 hF => ?_)
 refine man_callM rfl rfl rfl rfl hF rfl rfl (fun _ _ => by kernel_rfl) (nexts_m ((X15 1).A 0) ln ((X15 1).c 0) lf (by omega) hlvo) (fun _ _ h => h) (fun b hb => by cases hb) (zl) (fun e he => by cases he) rfl rfl (fun y => lmK labAV (y.c 0) NX) (fun _ _ _ _ _ _ _ _ _ h => by rw [hNX]; exact h.2) ?_
 intro y2 a0 w1 hF
 obtain ⟨bN,hbN⟩:=eqv (y2.c 0)
 rw [← hbN] at hF
 refine lnd 3 hB TA_ok [13,10] [10] [] hF (fun X16 a0 w1 hF => ?_)
 obtain ⟨nx,hnx⟩:∃ x:Lab → Lab,x=fun q => (getA q NX).getD ⟨0,0⟩:=⟨_,rfl⟩
 have hnxP:nx=nxP lv:=by
  funext q
  rw [hnx,hNX,hlf,hln]
  rfl
 refine wp_seq (wp_seq (rg hB TA_ok [75,10,73,74,13] [10] [] hF fun X17 a0 w1 hF => ?_))
 have hF0:=hF
 refine wp_block (loop_any (ι:=Nat) (fun i a w1 => Fits ⟨mS,wi,ats [],[],lmK labAV bN NX⟩ ⟨95,[(75,.int .i64 (i:Int)),(10,.sl (some 10) A1 k1 c1 8 (fun t => rowC (if t < i then fixA nx (h' t) else h' t))),(73,.sl (some 10) A1 k1 c1 8 (fun t => rowC (if t < i then fixA nx (h' t) else h' t))),(74,.int .i64 (k1:Int)),(13,.raw (.map (some bN)))],[],[],[(10,⟨A1,k1,c1,8,78⟩)]⟩ a w1) (fun i => i ≤ k1) (fun i => k1 - i) 0 (Nat.zero_le _) (by subst hB; exact hF0) ?_)
 intro i hi a0 w1 hF
 obtain ⟨hc,hhc⟩:∃ x:Nat → RowA,x=fun t => if t < i then fixA nx (h' t) else h' t:=⟨_,rfl⟩
 have ehc:(fun t => rowC (if t < i then fixA nx (h' t) else h' t))=fun t => rowC (hc t):=by rw [hhc]
 rw [ehc] at hF
 have hci:hc i=h' i:=by rw [hhc]; simp
 refine wp_seq (rg hB TA_ok [76,75,10,73,74,13] [10] [] hF fun X18 a0 w1 hF => ?_)
 refine wp_seq (test_ok hF rfl (fun hbE hF => ?_) (fun hbE hF => ?_))
 ·have hin:i < k1:=by
   have:(i:Int) < (k1:Int):=by subst hB; simpa [std,sC] using hbE
   omega
  have eI:B.arith .add .i64 (i:Int) 1=((i + 1:Nat):Int):=by subst hB; exact wrap_succ (n:=k1) hin (by omega)
  refine wp_skip (wp_seq (wp_block (wp_seq (rg hB TA_ok [14,15,75,10,73,74,13] [15,10] [] hF (fun X19 a0 w1 hF => ?_) (hob:=?hob3)))))
  case hob3 =>
   intro X; subst hB
   repeat (first | exact trivial | refine ⟨rfl,?_⟩ | refine ⟨(show (0:Int) ≤ (i:Int) ∧ (i:Int) < (k1:Int) by omega),?_⟩)
  have hF:=hF.memS (cells':=rowC (hc i)) (by subst hB; exact zl)
  refine wp_seq (rg hB TA_ok [83,14,15,75,10,73,74,13] [15,10] [] hF fun X20 a0 w1 hF => ?_)
  refine test_ok hF rfl (fun hbF hF => ?_) (fun hbF hF => ?_)
  ·have hk1':(h' i).x.r.kd=1:=by rw [← hci]; subst hB; simpa [std,sC] using hbF
   obtain ⟨nq,hnq⟩:=eqv (nx (hc i).lab)
   have hlq:LabOk (hc i).lab:=by
    rw [hci]
    obtain ⟨q,hq,e⟩:=hels' i hin
    rw [e]
    exact hlabs q hq
   have ON:=look_ff (K:=lmK labAV bN NX) (el:=labAV) (l:=(hc i).lab) (fun m w h => h) hlq mapl_und zLab_run (fun m w => zLab_ok m w _) (v:=labAV nq) (by rw [hnq,hnx])
   simp only [labAV] at ON
   refine wp_region_lit ?_
   refine lpr 0 9 hB TA_ok [92,89,75,10,73,74,13] [10] [(5,.r fun _ => .agg [.int .i64 nq.len,.int .u64 nq.bits])] hF (fun X21 a0 w1 hF => ?_) (hob:=?hob4)
   case hob4 =>
    intro X; subst hB
    repeat (first | exact trivial | refine ⟨rfl,?_⟩ | refine ⟨ON,?_⟩ | refine ⟨(show (0:Int) ≤ (i:Int) ∧ (i:Int) < (k1:Int) by omega),?_⟩)
   have hF:=hF.headS (v':=.ep A1 i 8 5 (rowC (hc i))) (by subst hB; exact zr) rfl
   have hrowk:Ok _ w1 (.sl (some 10) A1 k1 c1 8 (fun t => rowC (hc t))):=(hF.slot 10 rfl).2
   have hbNr:ownB (.slice A1 k1 c1) ≠ some bN:=by
    intro e
    obtain ⟨_,xs,ho⟩:=hF.gr 10 ⟨A1,k1,c1,8,78⟩ rfl
    obtain ⟨c',t',f',hcl⟩:=ho.isCells e
    obtain ⟨es,cl,hm⟩:=lmK_map hF.kept
    rw [hm] at hcl; cases hcl
   have hKl:=hF.kept
   refine man_rstore rfl rfl rfl rfl hF rfl rfl (.inr rfl) TA_ok rfl rfl hrowk (fun _ _ => rfl) hin (show 5 + 2 ≤ 8 from by decide) (fun w2 hO2 hc2 _ => ?_)
   obtain ⟨h2,hh2⟩:∃ x:Nat → RowA,x=fun t => if t < i + 1 then fixA nx (h' t) else h' t:=⟨_,rfl⟩
   have efl:wrC (fun t => rowC (hc t)) i 5 [.int .i64 nq.len,.int .u64 nq.bits]=fun t => rowC (h2 t):=by
    funext t
    rw [hh2]
    unfold wrC
    by_cases hti:t=i
    ·subst hti
     rw [if_pos rfl]
     show List.take 5 (rowC (hc t)) ++ [.int .i64 nq.len,.int .u64 nq.bits] ++ List.drop (5 + 2) (rowC (hc t))=rowC (if t < t + 1 then fixA nx (h' t) else h' t)
     rw [if_pos (Nat.lt_succ_self t),hnq,hci]
     unfold fixA
     rw [if_pos hk1']
     rfl
    rw [if_neg hti,hhc]
    dsimp only
    by_cases ht2:t < i
    ·rw [if_pos ht2,if_pos (by omega)]
    rw [if_neg ht2,if_neg (by omega)]
   have hO2:Own w2 wi.heap.size 78 8 (.slice A1 k1 c1) k1 (rowFlat (fun t => rowC (h2 t)) k1):=by rw [← efl]; exact hO2
   have hgrm2:=grown_free hF
   have hrow2:Ok (mG mS [] [(10,⟨A1,k1,c1,8,78⟩)]) w2 (.sl (some 10) A1 k1 c1 8 (fun t => rowC (h2 t))):=own_known2 hO2 (fun _ _ => rfl) hgrm2 (fun j hj => by
    obtain ⟨q,hq,e⟩:=hels' j hj
    have h5:=old_ok2 hF noAts hc2 (hokT q hq)
    rw [hh2]
    dsimp only
    split
    ·rw [e]
     unfold fixA
     split
     ·have:=recV_cells h5 (rwA q).lab (rwA q).ver
      intro u hu
      simp only [rowC,List.mem_cons,List.not_mem_nil,or_false] at hu
      rcases hu with rfl | rfl | rfl | rfl | rfl | rfl | rfl | rfl
      ·exact ⟨rfl,.int _ _⟩
      ·exact ⟨rfl,.int _ _⟩
      ·exact ⟨rfl,.int _ _⟩
      ·exact ⟨rfl,.int _ _⟩
      ·exact this _ (by simp [rowC,rwA])
      ·exact ⟨rfl,.int _ _⟩
      ·exact ⟨rfl,.int _ _⟩
      exact ⟨rfl,.int _ _⟩
     exact recV_cells h5 _ _
    rw [e]; exact recV_cells h5 _ _) _
   have hF:=Fits.rowset (K':=lmK labAV bN NX) (l':=[(75,.int .i64 (i:Int)),(10,.sl (some 10) A1 k1 c1 8 (fun t => rowC (h2 t))),(73,.sl (some 10) A1 k1 c1 8 (fun t => rowC (h2 t))),(74,.int .i64 (k1:Int)),(13,.raw (.map (some bN)))]) hF hc2 hO2 (hl_cons ⟨(hF.slot 75 rfl).1,.int _ _⟩ (hl_cons ⟨(hF.slot 10 rfl).1,hrow2⟩ (hl_cons ⟨(hF.slot 73 rfl).1,hrow2⟩ (hl_cons ⟨(hF.slot 74 rfl).1,.int _ _⟩ (hl_cons ⟨(hF.slot 13 rfl).1,.raw _⟩ hl_nil))))) (fun k e he => by cases he) (lmL_chg hKl (hc2.block bN (lmK_lt hKl) hbNr))
   refine wpList_nil ?_
   refine rg hB TA_ok [75,10,73,74,13] [10] [] hF fun X22 a0 w1 hF => ?_
   exact ⟨i + 1,by omega,by omega,by rw [← eI]; rw [hh2] at hF; exact hF⟩
  have hk1':¬ (h' i).x.r.kd=1:=by rw [← hci]; subst hB; simpa [std,sC] using hbF
  refine wp_skip (rg hB TA_ok [75,10,73,74,13] [10] [] hF fun X21 a0 w1 hF => ?_)
  have e2:hc=fun t => if t < i + 1 then fixA nx (h' t) else h' t:=by
   funext t
   rw [hhc]
   dsimp only
   by_cases ht2:t < i
   ·rw [if_pos ht2,if_pos (by omega)]
   rw [if_neg ht2]
   by_cases hti:t=i
   ·subst hti
    rw [if_pos (by omega)]
    unfold fixA
    rw [if_neg hk1']
   rw [if_neg (by omega)]
  exact ⟨i + 1,by omega,by omega,by rw [← eI]; rw [e2] at hF; exact hF⟩
 have hik:i=k1:=by
  have:¬ (i:Int) < (k1:Int):=by subst hB; simpa [std,sC] using hbE
  omega
 refine wp_exit (wp_seq (rg hB TA_ok [4,5] [10] [] hF fun X19 a0 w1 hF => ?_))
 have hFf:=seg_end hMi (by rw [← hmS]; exact hF.withK (K':=noK) trivial)
 have hRf:rwsA hc k1=(bld0 n f b).map (fixN (nxP (leavesP (bld0 n f b)))):=by
  rw [h0,← hTA,← hfin,← hlv,← hnxP]
  show listA RowA.abs hc k1=(listA RowA.abs h' k1).map (fixN nx)
  unfold listA
  rw [List.map_map]
  apply List.map_congr_left
  intro t ht
  have h5:=List.mem_range.1 ht
  rw [hhc]
  simp only [Function.comp]
  rw [if_pos (by omega),fixA_abs]
 refine wp_ret (rsi hB TA_ok hFf (rwY A1 c1 hc 0) (he:=?_))
 subst hB
 exact Sim.tup ⟨rws_sim hRf,zr,trivial⟩
theorem drop_step (f:Nat → Itm) (i:Nat) (key:Int):dropL (firsts f (i + 1)) key=dropL (firsts f i) key ++ if (f i).key=key then [] else [f i]:=by
 have:firsts f (i + 1)=firsts f i ++ [f i]:=by simp [firsts,List.range_succ]
 rw [this]
 unfold dropL
 rw [List.filter_append]
 congr 1
 by_cases h:(f i).key=key<;>simp [isK,h]
theorem enters17:Enters Tryz.prog 17:=fun _ _ => by kernel_rfl
theorem mget_m0 (b:Nat) (A:Option Addr) (n c:Nat) (f:Nat → Itm) (hn:n ≤ 1000000) (key:Int):SpecX Tryz.prog 17 [.ptr 0 b 0,.int .u64 key] [(0,⟨b,105,[rowI A n c f]⟩)] (fun _ => ⟨.tup [.str (findS (firsts f n) key),.bool (.v (findB (firsts f n) key))],[(0,[rowI A n c f])],[]⟩):=by
 intro m w hm hargs hpre
 have hmx:maxLen=9223372036854775807:=rfl
 unfold rowI at hpre ⊢
 refine enX 34 hm hpre hargs Tryz.func17 fun B hB a0 hF => ?_
 refine wp_seq (rg hB TA_ok [0,1] [0] [] hF fun X0 a0 w1 hF => ?_)
 refine wp_seq (wp_seq (rg hB TA_ok [6,0,1] [0] [] hF fun X1 a0 w1 hF => ?_))
 refine wp_block (loop_pre (ι:=Nat) (fun p => [(6,.int .i64 (p:Int))]) (fun p => []) (fun p => []) (fun p => p ≤ n ∧ ∀ t,t < p → (f t).key ≠ key) (fun p => n - p) 0 ⟨Nat.zero_le _,fun t ht => absurd ht (Nat.not_lt_zero _)⟩ hF ?_)
 rintro i ⟨hi,hlt⟩ a0 w1 hF
 try dsimp only at hi
 try dsimp only at hlt
 refine wp_seq (wp_seq (rg hB TA_ok [13,6,0,1] [0] [] hF (hob:=?hob) fun X2 a0 w1 hF => ?_))
 case hob =>
  intro X
  subst hB
  repeat (first | exact trivial | refine ⟨rfl,?_⟩ | refine ⟨⟨show (0:Int) ≤ (i:Int) by omega,show (i:Int) < (n:Int) by omega⟩,?_⟩)
 apply test_ok hF rfl<;>intro hb hF
 ·have hin:i < n:=by
   have:(i:Int) < (n:Int):=by subst hB; simpa [std,sC] using hb
   omega
  refine wp_skip (wp_seq (wp_block (wp_seq (rg hB TA_ok [25,6,0,1] [0] [] hF (hob:=?hob) fun X4 a0 w1 hF => ?_))))
  case hob =>
   intro X
   subst hB
   repeat (first | exact trivial | refine ⟨rfl,?_⟩ | refine ⟨⟨show (0:Int) ≤ (i:Int) by omega,show (i:Int) < (n:Int) by omega⟩,?_⟩)
  apply test_ok hF rfl<;>intro hb hF
  ·have hk:(f i).key=key:=by subst hB; simpa [std,sC] using hb
   have hfd:=find_hit hin hlt hk
   have hV:findS (firsts f n) key=(f i).val:=by simp only [findS,hfd]
   have hE:findB (firsts f n) key=true:=by simp only [findB,hfd]; rfl
   refine wp_seq (rg hB TA_ok [4,5] [0] [] hF (hob:=?hob) fun X5 a0 w1 hF => ?_)
   case hob =>
    intro X
    subst hB
    repeat (first | exact trivial | refine ⟨rfl,?_⟩ | refine ⟨⟨show (0:Int) ≤ (i:Int) by omega,show (i:Int) < (n:Int) by omega⟩,?_⟩)
   refine wp_ret ((rx hB TA_ok hF nAt [] (he:=?_) (hs:=?_)).1)
   ·subst hB; rw [hV,hE]
    exact Sim.tup ⟨zr,Sim.bool rfl,trivial⟩
   subst hB; exact ⟨rfl,⟨_,rfl,zl⟩,trivial⟩
  have hk:¬ (f i).key=key:=by subst hB; simpa [std,sC] using hb
  refine wp_skip (rg hB TA_ok [6,0,1] [0] [] hF fun X3 a0 w1 hF => ?_)
  have e:B.arith .add .i64 (i:Int) 1=((i + 1:Nat):Int):=by subst hB; exact wrap_succ (n:=n) hin (by omega)
  refine ⟨i + 1,⟨by omega,fun t ht => by
  by_cases h:t=i
  ·rw [h]; exact hk
  exact hlt t (by omega)⟩,by omega,by rw [← e]; exact hF⟩
 have hout:i=n:=by
  have:¬ (i:Int) < (n:Int):=by subst hB; simpa [std,sC] using hb
  omega
 rw [hout] at hlt
 have hfd:=find_miss hlt
 have hV:findS (firsts f n) key=⟨#[]⟩:=by simp only [findS,hfd]
 have hE:findB (firsts f n) key=false:=by simp only [findB,hfd]; rfl
 refine wp_exit (wp_seq (rg hB TA_ok [4,5] [0] [] hF fun X6 a0 w1 hF => ?_))
 refine wp_ret ((rx hB TA_ok hF nAt [] (he:=?_) (hs:=?_)).1)
 ·subst hB; rw [hV,hE]
  exact Sim.tup ⟨zr,Sim.bool rfl,trivial⟩
 subst hB; exact ⟨rfl,⟨_,rfl,zl⟩,trivial⟩
theorem mget_m (k0:Nat) (b:Nat) (A:Option Addr) (n c:Nat) (f:Nat → Itm) (hn:n ≤ 1000000) (key:Int):SpecX Tryz.prog 17 [.ptr k0 b 0,.int .u64 key] [(k0,⟨b,105,[rowI A n c f]⟩)] (fun _ => ⟨.tup [.str (findS (firsts f n) key),.bool (.v (findB (firsts f n) key))],[(k0,[rowI A n c f])],[]⟩):=
 (mget_m0 b A n c f hn key).re (by repeat (first | exact trivial | refine ⟨Sim.ptr,?_⟩ | refine ⟨Sim.fn ⟨Sim.ptr,trivial⟩ trivial,?_⟩ | refine ⟨Sim.fn trivial ⟨Sim.ptr,trivial⟩,?_⟩ | refine ⟨zr,?_⟩)) rfl (fun x => ⟨rfl,rfl,zr,rfl⟩)
theorem enters60:Enters Tryz.prog 60:=fun _ _ => by kernel_rfl
theorem mwo_m0 (b:Nat) (A:Option Addr) (n c:Nat) (f:Nat → Itm) (hn:n ≤ 1000000) (key:Int):SpecX Tryz.prog 60 [.ptr 0 b 0,.int .u64 key] [(0,⟨b,105,[rowI A n c f]⟩)] (fun x => ⟨rowI (x.A 0) (dropL (firsts f n) key).length (x.c 0) (itF (dropL (firsts f n) key)),[(0,[rowI A n c f])],[]⟩):=by
 intro m w hm hargs hpre
 have hmx:maxLen=9223372036854775807:=rfl
 unfold rowI at hpre ⊢
 refine enX 37 hm hpre hargs Tryz.func60 fun B hB a0 hF => ?_
 refine wp_seq (rg hB TA_ok [0,1] [0] [] hF fun X0 a0 w1 hF => ?_)
 refine wp_seq (rg hB TA_ok [5,0,1] [0,5,35] [] hF fun X1 a0 w1 hF => ?_)
 refine wp_seq (wp_seq (rg hB TA_ok [5,6,0,1] [0,5,35] [] hF fun X2 a0 w1 hF => ?_))
 replace hF:=hF.headS (v':=.sl (some 5) none 0 0 2 (fun t => itC zeroItm)) (zq0) rfl
 refine wp_block (loop_pre (ι:=Nat × Nat × (Nat → Itm) × Option Addr × Nat) (fun p => [(5,.sl (some 5) p.2.2.2.1 p.2.1 p.2.2.2.2 2 (fun t => itC (p.2.2.1 t))),(6,.int .i64 (p.1:Int))]) (fun p => []) (fun p => [(5,⟨p.2.2.2.1,p.2.1,p.2.2.2.2,2,63⟩)]) (fun p => p.1 ≤ n ∧ p.2.1 ≤ p.1 ∧ firsts p.2.2.1 p.2.1=dropL (firsts f p.1) key) (fun p => n - p.1) (0,0,fun _ => zeroItm,none,0) ⟨Nat.zero_le _,Nat.le_refl _,rfl⟩ hF ?_)
 rintro ⟨i,q,g,A1,c1⟩ ⟨hi,hq,hg⟩ a0 w1 hF
 try dsimp only at hi
 try dsimp only at hq
 try dsimp only at hg
 refine wp_seq (wp_seq (rg hB TA_ok [13,5,6,0,1] [0,5,35] [] hF (hob:=?hob) fun X3 a0 w1 hF => ?_))
 case hob =>
  intro X
  subst hB
  repeat (first | exact trivial | refine ⟨rfl,?_⟩ | refine ⟨⟨show (0:Int) ≤ (i:Int) by omega,show (i:Int) < (n:Int) by omega⟩,?_⟩)
 apply test_ok hF rfl<;>intro hb hF
 ·have hin:i < n:=by
   have:(i:Int) < (n:Int):=by subst hB; simpa [std,sC] using hb
   omega
  refine wp_skip (wp_seq (wp_block (wp_seq (rg hB TA_ok [25,5,6,0,1] [0,5,35] [] hF (hob:=?hob) fun X5 a0 w1 hF => ?_))))
  case hob =>
   intro X
   subst hB
   repeat (first | exact trivial | refine ⟨rfl,?_⟩ | refine ⟨⟨show (0:Int) ≤ (i:Int) by omega,show (i:Int) < (n:Int) by omega⟩,?_⟩)
  apply test_ok hF rfl<;>intro hb hF
  ·have hk:(f i).key ≠ key:=by subst hB; simpa [std,sC] using hb
   refine rg hB TA_ok [5,6,0,1] [0,5,35] [] hF (hob:=?hob) fun X6 a0 w1 hF => ?_
   case hob =>
    intro X
    subst hB
    repeat (first | exact trivial | refine ⟨⟨rfl,rfl,rfl⟩,?_⟩ | refine ⟨rfl,?_⟩ | refine ⟨⟨show (0:Int) ≤ (i:Int) by omega,show (i:Int) < (n:Int) by omega⟩,?_⟩ | refine ⟨⟨show q + 1 ≤ maxLen by omega,show (q + 1) * _ ≤ _ by omega⟩,?_⟩)
   replace hF:=hF.headS (v':=.sl (some 5) ((X6 9).A 0) (B.nadd q 1) ((X6 9).c 0) 2 (fun t => itC (fSet g q (f i) t))) (Sim.resl rfl (fun t ht => by
    subst hB
    have ht2:t < q + 1:=ht
    show appC q (fun t => itC (g t)) (chunk 2 [.int .u64 (f i).key,.str (f i).val]) t=_
    unfold appC fSet
    split
    ·rw [if_neg (by omega)]
    have:t=q:=by omega
    subst this
    simp [chunk,itC])) rfl
   refine rg hB TA_ok [5,6,0,1] [0,5,35] [] hF fun X4 a0 w1 hF => ?_
   have e:B.arith .add .i64 (i:Int) 1=((i + 1:Nat):Int):=by subst hB; exact wrap_succ (n:=n) hin (by omega)
   refine ⟨(i + 1,q + 1,fSet g q (f i),_,_),⟨by simp only; omega,by simp only; omega,?_⟩,by simp only; omega,by rw [← e,show q + 1=B.nadd q 1 by subst hB; rfl]; exact hF⟩
   simp only
   rw [firsts_set,hg,drop_step,if_neg hk]
  have hk:(f i).key=key:=by subst hB; simpa [std,sC] using hb
  refine wp_skip (rg hB TA_ok [5,6,0,1] [0,5,35] [] hF fun X4 a0 w1 hF => ?_)
  have e:B.arith .add .i64 (i:Int) 1=((i + 1:Nat):Int):=by subst hB; exact wrap_succ (n:=n) hin (by omega)
  refine ⟨(i + 1,q,g,_,_),⟨by simp only; omega,by simp only; omega,?_⟩,by simp only; omega,by rw [← e]; exact hF⟩
  simp only
  rw [hg,drop_step,if_pos hk,List.append_nil]
 have hout:i=n:=by
  have:¬ (i:Int) < (n:Int):=by subst hB; simpa [std,sC] using hb
  omega
 rw [hout] at hg
 refine wp_exit (wp_seq (rg hB TA_ok [4] [0,4,5,35] [] hF fun X7 a0 w1 hF => ?_))
 refine wp_ret ((rx hB TA_ok hF (⟨0,fun _ => A1,fun _ => c1,fun _ => ⟨#[]⟩⟩) [] (he:=?_) (hs:=?_)).1)
 ·subst hB; exact Sim.resl (by rw [← hg,firsts_len]) (fun t ht => by rw [← hg,firsts_len] at ht; rw [← hg,firsts_get _ _ t ht])
 subst hB; exact ⟨rfl,⟨_,rfl,zl⟩,trivial⟩
def pS (l:List Itm) (key:Int) (val:ByteArray):ByteArray:=if 64 < val.size then ⟨#[]⟩ else findS l key
def pB (l:List Itm) (key:Int) (val:ByteArray):Bool:=if 64 < val.size then false else findB l key
def pE (val:ByteArray):Int:=if 64 < val.size then 2 else 0
def insF (f:Nat → Itm) (i:Nat) (x:Itm):Nat → Itm:=fun t => if t < i then f t else if t=i then x else f (t - 1)
theorem ins_firsts (f:Nat → Itm) (n i:Nat) (x:Itm) (h:i ≤ n):firsts (insF f i x) (n + 1)=firsts f i ++ x :: (firsts f n).drop i:=by
 apply List.ext_getElem
 ·simp [firsts]; omega
 intro t h1 h2
 have ht:t < n + 1:=by simpa [firsts] using h1
 simp only [firsts,List.getElem_map,List.getElem_range,insF]
 by_cases hi:t < i
 ·rw [List.getElem_append_left (by simpa using hi)]
  simp [hi]
 rw [List.getElem_append_right (by simp; omega)]
 obtain ⟨q,rfl⟩:∃ q,t=i + q:=⟨t - i,by omega⟩
 cases q with
 | zero => simp
 | succ q =>
  simp only [List.length_map,List.length_range,show i + (q + 1) - i=q + 1 by omega,List.getElem_cons_succ,List.getElem_drop,List.getElem_map,List.getElem_range]
  rw [if_neg (by omega),if_neg (by omega)]
  congr 1
theorem put_low {l:List Itm} {f1:Nat → Itm} {n1 i:Nat} {key:Int} {val:ByteArray} (hl:firsts f1 n1=l) (hi:i ≤ n1) (hlt:∀ t,t < i → (f1 t).key < key) (hend:i < n1 → ¬ (f1 i).key < key) :
  lowL l key ++ ⟨key,val⟩ :: l.drop (lowL l key).length=firsts (insF f1 i ⟨key,val⟩) (n1 + 1):=by
 have hlow:lowL l key=firsts f1 i:=by
  rw [← hl]
  unfold lowL
  by_cases h:i=n1
  ·rw [h] at hlt ⊢
   have:=List.takeWhile_append_of_pos (p:=fun x:Itm => decide (x.key < key)) (l₁:=firsts f1 n1) (l₂:=[]) (fun a ha => by
    obtain ⟨t,ht,rfl⟩:=firsts_mem ha
    simpa using hlt t ht)
   simpa using this
  rw [firsts_split f1 n1 i (by omega),List.takeWhile_append_of_pos (fun a ha => by
   obtain ⟨t,ht,rfl⟩:=firsts_mem ha
   simpa using hlt t ht),List.takeWhile_cons_of_neg (by simpa using hend (by omega))]
  simp
 rw [hlow,firsts_len,ins_firsts f1 n1 i _ hi,hl]
theorem putM_len (l:List Itm) (key:Int) (val:ByteArray):(putM l key val).length ≤ l.length + 1:=by
 unfold putM
 split
 ·omega
 have h1:=List.length_filter_le (fun x => !isK key x) l
 have h2:(dropL l key).length ≤ l.length:=h1
 have h3:(lowL (dropL l key) key).length ≤ (dropL l key).length:=(List.takeWhile_sublist _).length_le
 unfold putI
 simp only [List.length_append,List.length_cons,List.length_drop]
 omega
theorem ofL_len (f:Nat → Itm):∀ i,(ofL (firsts f i)).length ≤ i
 | 0 => Nat.le_refl _
 | i + 1 => by
  rw [ofL_firsts_succ]
  have:=putM_len (ofL (firsts f i)) (f i).key (f i).val
  have:=ofL_len f i
  omega
theorem enters41:Enters Tryz.prog 41:=fun _ _ => by kernel_rfl
theorem mput_m0 (b:Nat) (A:Option Addr) (n c:Nat) (f:Nat → Itm) (hn:n ≤ 1000000) (key:Int) (val:ByteArray):SpecX Tryz.prog 41 [.ptr 0 b 0,.int .u64 key,.str val] [(0,⟨b,105,[rowI A n c f]⟩)] (fun x => ⟨.tup [.str (pS (firsts f n) key val),.bool (.v (pB (firsts f n) key val)),.int .i64 (pE val)],[(0,[rowI (x.A 0) (putM (firsts f n) key val).length (x.c 0) (itF (putM (firsts f n) key val))])],[]⟩):=by
 intro m w hm hargs hpre
 have hmx:maxLen=9223372036854775807:=rfl
 have SG:=mget_m0 b A n c f hn key
 have SW:=mwo_m0 b A n c f hn key
 unfold rowI at hpre SG SW
 obtain ⟨l,hl⟩:=eqv (dropL (firsts f n) key)
 have hln:l.length ≤ n:=by rw [hl]; have:=List.length_filter_le (fun x => !isK key x) (firsts f n); rw [firsts_len] at this; exact this
 rw [← hl] at SW
 obtain ⟨n1,hn1⟩:=eqv (l.length)
 obtain ⟨f1,hf1⟩:=eqv (itF l)
 rw [← hn1,← hf1] at SW
 have hl1:firsts f1 n1=l:=by rw [hf1,hn1]; exact firsts_itF l
 obtain ⟨fs,hfs⟩:=eqv (findS (firsts f n) key)
 obtain ⟨fb,hfb⟩:=eqv (findB (firsts f n) key)
 rw [← hfs,← hfb] at SG
 refine enX 65 hm hpre hargs Tryz.func41 fun B hB a0 hF => ?_
 refine wp_seq (rg hB TA_ok [0,1,2] [0] [] hF fun X0 a0 w1 hF => ?_)
 refine wp_seq (wp_seq (rg hB TA_ok [16,0,1,2] [0] [] hF fun X1 a0 w1 hF => ?_))
 apply test_ok hF rfl<;>intro hb hF
 ·have hlong:64 < val.size:=by
   have:(64:Int) < (val.size:Int):=by subst hB; simpa [std,sC] using hb
   omega
  refine wp_seq (rg hB TA_ok [6,7,8] [0] [] hF fun X2 a0 w1 hF => ?_)
  refine wp_ret ((rx hB TA_ok hF (⟨0,fun _ => A,fun _ => c,fun _ => ⟨#[]⟩⟩) [] (he:=?_) (hs:=?_)).1)
  ·subst hB; simp only [pS,pB,pE,hlong,if_true]
   exact Sim.tup ⟨zr,Sim.bool rfl,zr,trivial⟩
  subst hB
  exact ⟨rfl,⟨_,rfl,⟨by unfold putM; rw [if_pos hlong]; exact Sim.resl (firsts_len f n).symm (fun t ht => by rw [firsts_len] at ht; rw [firsts_get f n t ht]),trivial⟩⟩,trivial⟩
 have hlong:¬ 64 < val.size:=by
  have:¬ (64:Int) < (val.size:Int):=by subst hB; simpa [std,sC] using hb
  omega
 refine wp_skip (wp_seq (rg hB TA_ok [0,1,2,9,10] [0] [(2,.x fun _ => ⟨.tup [.str fs,.bool (.v fb)],[(0,[.sl none A n c 2 (fun i => itC (f i))])],[]⟩)] hF (hob:=?hob) fun X3 a0 w1 hF => ?_))
 case hob =>
  intro X
  subst hB; exact ⟨⟨enters17,SG⟩,trivial⟩
 refine wp_seq (rg hB TA_ok [11,0,1,2,9,10] [0] [(2,.x fun x => ⟨.sl none (x.A 0) n1 (x.c 0) 2 (fun i => itC (f1 i)),[(0,[.sl none A n c 2 (fun i => itC (f i))])],[]⟩)] hF (hob:=?hob) fun X4 a0 w1 hF => ?_)
 case hob =>
  intro X
  subst hB; exact ⟨⟨enters60,SW⟩,trivial⟩
 refine wp_seq (rg hB TA_ok [12,0,1,2,9,10,11] [0,12,45,53,58] [] hF fun X5 a0 w1 hF => ?_)
 refine wp_seq (rg hB TA_ok [12,13,0,1,2,9,10,11] [0,12,45,53,58] [] hF fun X6 a0 w1 hF => ?_)
 replace hF:=hF.headS (v':=.sl (some 12) none 0 0 2 (fun t => itC (f1 t))) (zq0) rfl
 refine wp_seq (wp_block (loop_pre (ι:=Nat × Option Addr × Nat) (fun p => [(12,.sl (some 12) p.2.1 p.1 p.2.2 2 (fun t => itC (f1 t))),(13,.int .i64 (p.1:Int))]) (fun p => []) (fun p => [(12,⟨p.2.1,p.1,p.2.2,2,63⟩)]) (fun p => p.1 ≤ n1 ∧ ∀ t,t < p.1 → (f1 t).key < key) (fun p => n1 - p.1) (0,none,0) ⟨Nat.zero_le _,fun t ht => absurd ht (Nat.not_lt_zero _)⟩ hF ?_))
 rintro ⟨i,A1,c1⟩ ⟨hi,hlt⟩ a0 w1 hF
 try dsimp only at hi
 try dsimp only at hlt
 refine wp_seq (wp_seq (rg hB TA_ok [38,12,13,0,1,2,9,10,11] [0,12,45,53,58] [] hF (hob:=?hob) fun X7 a0 w1 hF => ?_))
 case hob =>
  intro X
  subst hB
  simp only [AO,Ob.holds,BE.den,List.mem_cons,List.not_mem_nil,or_false,forall_eq_or_imp,forall_eq]
  and_intros<;>first | trivial | (intro h; first | trivial | exact ⟨Int.natCast_nonneg _,(of_decide_eq_true h:(i:Int) < (n1:Int))⟩)
 apply test_ok hF rfl<;>intro hb hF
 ·have h9:(if decide ((i:Int) < (n1:Int))=true then decide ((f1 i).key < key) else false)=true:=by subst hB; exact hb
  rw [ite_and,Bool.and_eq_true,decide_eq_true_eq,decide_eq_true_eq] at h9
  have hin:i < n1:=by omega
  have hk:=h9.2
  refine wp_skip (wp_block (wp_seq (rg hB TA_ok [12,13,0,1,2,9,10,11] [0,12,45,53,58] [] hF (hob:=?hob) fun X8 a0 w1 hF => ?_)))
  case hob =>
   intro X
   subst hB
   repeat (first | exact trivial | refine ⟨⟨rfl,rfl,rfl⟩,?_⟩ | refine ⟨rfl,?_⟩ | refine ⟨⟨show (0:Int) ≤ (i:Int) by omega,show (i:Int) < (n1:Int) by omega⟩,?_⟩ | refine ⟨⟨show i + 1 ≤ maxLen by omega,show (i + 1) * _ ≤ _ by omega⟩,?_⟩)
  replace hF:=hF.headS (v':=.sl (some 12) ((X8 6).A 0) (B.nadd i 1) ((X8 6).c 0) 2 (fun t => itC (f1 t))) (Sim.resl rfl (fun t ht => by
   subst hB
   have ht2:t < i + 1:=ht
   show appC i (fun t => itC (f1 t)) (chunk 2 [.int .u64 (f1 i).key,.str (f1 i).val]) t=_
   unfold appC
   split
   ·rfl
   ·have:t=i:=by omega
    subst this
    simp [chunk,itC]
   )) rfl
  refine rg hB TA_ok [12,13,0,1,2,9,10,11] [0,12,45,53,58] [] hF fun X9 a0 w1 hF => ?_
  have e:B.arith .add .i64 (i:Int) 1=((i + 1:Nat):Int):=by subst hB; exact wrap_succ (n:=n1) hin (by omega)
  refine ⟨(i + 1,_,_),⟨by simp only; omega,fun t ht => ?_⟩,by simp only; omega,by rw [← e,show i + 1=B.nadd i 1 by subst hB; rfl]; exact hF⟩
  by_cases h:t=i
  ·rw [h]; exact hk
  exact hlt t (by simp only at ht; omega)
 have h9:(if decide ((i:Int) < (n1:Int))=true then decide ((f1 i).key < key) else false)=false:=by subst hB; exact hb
 rw [ite_and] at h9
 have hend:i < n1 → ¬ (f1 i).key < key:=fun h hk => by
  rw [decide_eq_true (show (i:Int) < (n1:Int) by omega),decide_eq_true hk] at h9
  cases h9
 have hPL:=put_low (val:=val) hl1 hi hlt hend
 have hPM:putM (firsts f n) key val=firsts (insF f1 i ⟨key,val⟩) (n1 + 1):=by unfold putM putI; rw [if_neg hlong,← hl]; exact hPL
 refine wp_exit (wp_seq (rg hB TA_ok [12,13,0,1,2,9,10,11] [0,12,45,53,58] [] hF (hob:=?hob) fun X10 a0 w1 hF => ?_))
 case hob =>
  intro X
  subst hB
  repeat (first | exact trivial | refine ⟨⟨rfl,rfl,rfl⟩,?_⟩ | refine ⟨rfl,?_⟩ | refine ⟨⟨show i + 1 ≤ maxLen by omega,show (i + 1) * _ ≤ _ by omega⟩,?_⟩)
 replace hF:=hF.headS (v':=.sl (some 12) ((X10 5).A 0) (B.nadd i 1) ((X10 5).c 0) 2 (fun t => itC ((fSet f1 i ⟨key,val⟩) t))) (Sim.resl rfl (fun t ht => by
  subst hB
  have ht2:t < i + 1:=ht
  show appC i (fun t => itC (f1 t)) (chunk 2 [.int .u64 key,.str val]) t=_
  unfold appC fSet
  split
  ·rw [if_neg (by omega)]
  ·have:t=i:=by omega
   subst this
   simp [chunk,itC]
  )) rfl
 refine wp_seq (rg hB TA_ok [12,0,9,10] [0,12,45,53,58] [] hF (hob:=?hob) fun X11 a0 w1 hF => ?_)
 case hob =>
  intro X
  subst hB
  repeat (first | exact trivial | refine ⟨⟨rfl,rfl,rfl⟩,?_⟩ | refine ⟨⟨show (0:Int) ≤ (i:Int) by omega,show (i:Int) ≤ (n1:Int) by omega,Int.le_refl _⟩,?_⟩ | refine ⟨⟨show i + 1 + (n1 - i) ≤ maxLen by omega,show (i + 1 + (n1 - i)) * _ ≤ _ by omega⟩,?_⟩ | refine ⟨rfl,?_⟩)
 replace hF:=hF.headS (v':=.sl (some 12) ((X11 4).A 0) (B.nadd (B.nadd i 1) (B.nsub (B.toNat (B.ofNat n1)) (B.toNat (i:Int)))) ((X11 4).c 0) 2 (fun t => itC (insF f1 i ⟨key,val⟩ t))) (Sim.resl rfl (fun t ht => by
  subst hB
  have ht2:t < i + 1 + ((n1:Int).toNat - (i:Int).toNat):=ht
  show appC (i + 1) (fun t => itC (fSet f1 i ⟨key,val⟩ t)) (fromC i (fun t => itC (f1 t))) t=_
  unfold appC fSet insF fromC
  by_cases h1:t < i
  ·simp [h1,show t < i + 1 by omega,show ¬ t=i by omega]
  by_cases h2:t=i
  ·simp [h2]
  simp [h1,h2,show ¬ t < i + 1 by omega,show i + (t - (i + 1))=t - 1 by omega])) rfl
 refine wp_seq (rg hB TA_ok [9,10] [0] [] hF (hob:=?hob) fun X12 a0 w1 hF => ?_)
 case hob =>
  intro X
  subst hB
  repeat (first | exact trivial | refine ⟨rfl,?_⟩ | refine ⟨⟨show (0:Int) ≤ (i:Int) by omega,show (i:Int) < (n:Int) by omega⟩,?_⟩)
 refine wp_seq (rg hB TA_ok [6,7,8] [0] [] hF fun X13 a0 w1 hF => ?_)
 refine wp_ret ((rx hB TA_ok hF (⟨0,fun _ => (X11 4).A 0,fun _ => (X11 4).c 0,fun _ => ⟨#[]⟩⟩) [] (he:=?_) (hs:=?_)).1)
 ·subst hB; simp only [pS,pB,pE,hlong,if_false,← hfs,← hfb]
  exact zr
 subst hB
 exact ⟨rfl,⟨_,rfl,⟨by rw [hPM]; exact Sim.resl (by rw [firsts_len]; show i + 1 + ((n1:Int).toNat - (i:Int).toNat)=n1 + 1; omega) (fun t ht => by rw [firsts_len] at ht; rw [firsts_get _ _ t ht]),trivial⟩⟩,trivial⟩
theorem mput_m (k0:Nat) (b:Nat) (A:Option Addr) (n c:Nat) (f:Nat → Itm) (hn:n ≤ 1000000) (key:Int) (val:ByteArray):SpecX Tryz.prog 41 [.ptr k0 b 0,.int .u64 key,.str val] [(k0,⟨b,105,[rowI A n c f]⟩)] (fun x => ⟨.tup [.str (pS (firsts f n) key val),.bool (.v (pB (firsts f n) key val)),.int .i64 (pE val)],[(k0,[rowI (x.A 0) (putM (firsts f n) key val).length (x.c 0) (itF (putM (firsts f n) key val))])],[]⟩):=
 (mput_m0 b A n c f hn key val).re (by repeat (first | exact trivial | refine ⟨Sim.ptr,?_⟩ | refine ⟨Sim.fn ⟨Sim.ptr,trivial⟩ trivial,?_⟩ | refine ⟨Sim.fn trivial ⟨Sim.ptr,trivial⟩,?_⟩ | refine ⟨zr,?_⟩)) rfl (fun x => ⟨rfl,rfl,zr,rfl⟩)
theorem mof_x (A:Option Addr) (n c:Nat) (f:Nat → Itm) (hn:n ≤ 1000000):SpecX Tryz.prog 16 [rowI A n c f] [] (fun x => ⟨.ptr 6 x.b 0,[],[(6,⟨x.b,105,[rowI (x.A 0) (ofL (firsts f n)).length (x.c 0) (itF (ofL (firsts f n)))]⟩)]⟩):=by
 intro m w hm hargs hpre
 have hmx:maxLen=9223372036854775807:=rfl
 unfold rowI at hargs
 refine enX 26 hm hpre hargs Tryz.func16 fun B hB a0 hF => ?_
 refine wp_seq (rg hB TA_ok [0] [] [] hF fun X0 a0 w1 hF => ?_)
 refine wp_seq (rg hB TA_ok [3,0] [6] [] hF fun X1 a0 w1 hF => ?_)
 replace hF:=hF.memS (cells':=[.sl none none 0 0 2 (fun t => itC (itF [] t))]) ⟨zq0,trivial⟩
 refine wp_seq (wp_seq (rg hB TA_ok [4,0,3] [6] [] hF fun X2 a0 w1 hF => ?_))
 refine wp_block (loop_pre (ι:=Nat × Nat × (Nat → Itm) × Option Addr × Nat) (fun p => [(4,.int .i64 (p.1:Int))]) (fun p => [(6,⟨(X1 1).b,105,[.sl none p.2.2.2.1 p.2.1 p.2.2.2.2 2 (fun t => itC (p.2.2.1 t))]⟩)]) (fun p => []) (fun p => p.1 ≤ n ∧ p.2.1=(ofL (firsts f p.1)).length ∧ p.2.2.1=itF (ofL (firsts f p.1))) (fun p => n - p.1) (0,0,itF [],none,0) ⟨Nat.zero_le _,rfl,rfl⟩ hF ?_)
 rintro ⟨i,m1,g,A1,c1⟩ ⟨hi,hm1,hg⟩ a0 w1 hF
 try dsimp only at hi
 try dsimp only at hm1
 try dsimp only at hg
 refine wp_seq (wp_seq (rg hB TA_ok [10,4,0,3] [6] [] hF fun X3 a0 w1 hF => ?_))
 apply test_ok hF rfl<;>intro hb hF
 ·have hin:i < n:=by
   have:(i:Int) < (n:Int):=by subst hB; simpa [std,sC] using hb
   omega
  have hml:m1 ≤ 1000000:=by rw [hm1]; have:=ofL_len f i; omega
  have hfm:firsts g m1=ofL (firsts f i):=by rw [hg,hm1]; exact firsts_itF _
  have SP:=mput_m 6 (X1 1).b A1 m1 c1 g hml (f i).key (f i).val
  unfold rowI at SP
  obtain ⟨l2,hl2⟩:=eqv (putM (firsts g m1) (f i).key (f i).val)
  rw [← hl2] at SP
  obtain ⟨n2,hn2⟩:=eqv (l2.length)
  obtain ⟨g2,hg2⟩:=eqv (itF l2)
  rw [← hn2,← hg2] at SP
  generalize pS (firsts g m1) (f i).key (f i).val=ps at SP
  generalize pB (firsts g m1) (f i).key (f i).val=pb at SP
  generalize pE (f i).val=pe at SP
  refine wp_skip (wp_seq (wp_block (drg hB TA_ok [4,0,3] [6] [(11,.x fun x => ⟨.tup [.str ps,.bool (.v pb),.int .i64 pe],[(6,[.sl none (x.A 0) n2 (x.c 0) 2 (fun t => itC (g2 t))])],[]⟩)] hF (hob:=?hob) fun X5 a0 w1 hF => ?_)))
  case hob =>
   intro X
   subst hB
   repeat (first | exact trivial | refine ⟨rfl,?_⟩ | refine ⟨⟨show (0:Int) ≤ (i:Int) by omega,show (i:Int) < (n:Int) by omega⟩,?_⟩ | refine ⟨⟨enters41,SP⟩,?_⟩)
  refine rg hB TA_ok [4,0,3] [6] [] hF fun X4 a0 w1 hF => ?_
  have e:B.arith .add .i64 (i:Int) 1=((i + 1:Nat):Int):=by subst hB; exact wrap_succ (n:=n) hin (by omega)
  refine ⟨(i + 1,n2,g2,(X5 11).A 0,(X5 11).c 0),⟨by simp only; omega,?_,?_⟩,by simp only; omega,by rw [← e]; exact hF⟩
  ·simp only; rw [ofL_firsts_succ,hn2,hl2,hfm]
  simp only; rw [ofL_firsts_succ,hg2,hl2,hfm]
 have hout:i=n:=by
  have:¬ (i:Int) < (n:Int):=by subst hB; simpa [std,sC] using hb
  omega
 rw [hout] at hm1 hg
 refine wp_exit (wp_seq (rg hB TA_ok [2] [6] [] hF fun X6 a0 w1 hF => ?_))
 refine wp_ret ((rx hB TA_ok hF (⟨(X1 1).b,fun _ => A1,fun _ => c1,fun _ => ⟨#[]⟩⟩) [6] (he:=?_) (hs:=?_) (hn:=?_)).1)
 ·subst hB; exact zr
 ·exact trivial
 exact ⟨⟨_,rfl,⟨by rw [hg,hm1]; exact zr,trivial⟩⟩,fun e he => (by cases he),(by simp),trivial⟩
inductive Tr (α : Type) where
 | ret (a:α)
 | dead
 | note (x:Nt) (t:Tr α)
 | ask (w:Wq) (f:GotA → Tr α)
def Tr.bind {α β : Type}:Tr α → (α → Tr β) → Tr β
 | .ret a,f => f a
 | .dead,_ => .dead
 | .note x t,f => .note x (t.bind f)
 | .ask w g,f => .ask w fun a => (g a).bind f
def Tr.run {α : Type} (k:Int):Tr α → Pst → Rs α
 | .ret a,p => .ok a p
 | .dead,p => .stop zWq p
 | .note x t,p => t.run k ⟨p.n,p.g,x⟩
 | .ask w f,p => (askM k w p).bind fun g p => (f g).run k p
theorem Rs.assoc {α β γ : Type} (m:Rs α) (f:α → Pst → Rs β) (g:β → Pst → Rs γ):(m.bind f).bind g=m.bind fun a p => (f a p).bind g:=by cases m<;>rfl
theorem run_bind {α β : Type} {k:Int}:∀ (t:Tr α) (f:α → Tr β) (p:Pst),(t.bind f).run k p=(t.run k p).bind fun a q => (f a).run k q
 | .ret a,f,p => rfl
 | .dead,f,p => rfl
 | .note x t,f,p => run_bind t f _
 | .ask w g,f,p => by
  show (askM k w p).bind (fun a q => ((g a).bind f).run k q)=((askM k w p).bind fun a q => (g a).run k q).bind _
  rw [Rs.assoc]
  congr 1
  funext a q
  exact run_bind (g a) f q
section
variable {α β : Type} {k:Int} {p:Pst}
theorem rb {t:Tr α} {m:Rs α} {f:α → Tr β} {f':α → Pst → Rs β} (h:t.run k p=m) (hf:∀ a q,(f a).run k q=f' a q):(t.bind f).run k p=m.bind f':=by
 subst h
 rw [run_bind]
 congr 1
 funext a q
 exact hf a q
theorem ri {c:Prop} [Decidable c] {x y:Tr α} {x' y':Rs α} (hx:x.run k p=x') (hy:y.run k p=y'):(if c then x else y).run k p=if c then x' else y':=by
 by_cases h:c
 ·rw [if_pos h,if_pos h]; exact hx
 rw [if_neg h,if_neg h]; exact hy
end
def askT (w:Wq):Tr GotA:=.ask w .ret
def getT (l:Lab):Tr GotA:=askT ⟨1,l,0,zeroRec,zRsl⟩
def casT (l:Lab) (v:Int) (r:Rec):Tr Bool:=(askT ⟨2,l,v,r,zRsl⟩).bind fun g => .ret (decide (g.code=0))
def drpT (l:Lab) (v:Int):Tr Bool:=(askT ⟨3,l,v,zeroRec,zRsl⟩).bind fun g => .ret (decide (g.code=0))
def splCT (l:Lab) (v:Int) (c:Lab) (x:Rec):Nat → Tr Bool
 | 0 => .dead
 | n + 1 => (getT c).bind fun g => if (g.has && !decide (g.x.r.kd=5))=true then .ret true else (getT l).bind fun q => if q.ver=v then (casT c g.ver x).bind fun d => if d=true then .ret true else splCT l v c x n else .ret false
def splitT (n:Nat) (l:Lab) (v:Int) (x:RA):Tr Unit:=
 if (halvA x l).2.2=0 then
  (splCT l v (chV l 0) (halvA x l).1 n).bind fun go => if go=true then (splCT l v (chV l 1) (halvA x l).2.1 n).bind fun go => if go=true then (casT l v innerR).bind fun _ => .ret () else .ret () else .ret ()
 else .ret ()
def frzT (l:Lab) (v:Int) (c:Lab):Nat → Tr Fz
 | 0 => .dead
 | n + 1 => (getT c).bind fun g => if (gk g 1 || gk g 5)=true then (if (gk g 5 && decide (g.x.r.mrk=v))=true then .ret (.fr g.x) else (getT l).bind fun q => if q.ver=v then (casT c g.ver (asR 5 g.x v).r.abs).bind fun d => if d=true then .ret (.fr (asR 5 g.x v)) else frzT l v c n else .ret .over) else .ret .unfit
def clnCT (l:Lab) (cl:Lab → Tr Unit) (c:Lab):Tr Bool:=
 (getT c).bind fun g => if gk g 5=true then (cl c).bind fun _ => (getT l).bind fun q => if (gk q 1 || gk q 5)=true then (drpT c g.ver).bind fun _ => .ret true else .ret false else .ret true
def clnT:Nat → Lab → Tr Unit
 | 0,_ => .dead
 | n + 1,l => if l.len=64 then .ret () else (clnCT l (clnT n) (chV l 0)).bind fun go => if go=true then (clnCT l (clnT n) (chV l 1)).bind fun _ => .ret () else .ret ()
def bckT (th:Lab → Tr Unit) (l:Lab) (v:Int):Tr Unit:=(casT l v innerR).bind fun d => if d=true then (th (chV l 0)).bind fun _ => th (chV l 1) else .ret ()
def mrgT (bk:Int) (n:Nat) (th:Lab → Tr Unit) (l:Lab) (v:Int):Tr Unit:=
 (frzT l v (chV l 0) n).bind fun a => match a with
  | .over => .ret ()
  | .unfit => bckT th l v
  | .fr a => (frzT l v (chV l 1) n).bind fun b => match b with
   | .over => .ret ()
   | .unfit => bckT th l v
   | .fr b => if (uniA a b).2=0 ∧ ((uniA a b).1.items.length:Int) ≤ bk then (casT l v (uniA a b).1).bind fun d => if d=true then clnT n l else .ret () else bckT th l v
def finT (bk:Int) (n:Nat) (th:Lab → Tr Unit) (l:Lab) (g:GotA):Tr Unit:=
 if gk g 3=true then splitT n l g.ver g.x else if l.len < 64 then mrgT bk n th l g.ver else .ret ()
def thwLT (bk:Int):Nat → Lab → Lab → Tr Unit
 | 0,_,_ => .dead
 | n + 1,l,up => (getT l).bind fun g => if gk g 5=true then (getT up).bind fun q =>
   (if (gk q 3 || gk q 4)=true then finT bk n (fun c => if parE c=0 then thwLT bk n c (parV c) else .ret ()) up q else .ret ()).bind fun _ =>
    if gk q 2=true then (casT l g.ver (asR 1 g.x 0).r.abs).bind fun d => if d=true then .ret () else thwLT bk n l up else .ret () else .ret ()
def thwT (bk:Int) (n:Nat) (l:Lab):Tr Unit:=if parE l=0 then thwLT bk n l (parV l) else .ret ()
def fnsT (bk:Int) (n:Nat) (l:Lab) (g:GotA):Tr Unit:=finT bk n (thwT bk n) l g
def linT (bk key:Int):Nat → Lab → Tr Spt
 | 0,_ => .dead
 | n + 1,l => (getT l).bind fun g =>
   if gk g 1=true then .ret ⟨l,g⟩
   else if (gk g 3 || gk g 4)=true then (fnsT bk n l g).bind fun _ => linT bk key n l
   else if (gk g 2 && decide (l.len < 64))=true then linT bk key n (ofV key (l.len + 1))
   else if gk g 5=true then (thwT bk n l).bind fun _ => linT bk key n rootL
   else if (!g.has && decide (l=rootL))=true then (casT rootL g.ver leafR).bind fun _ => linT bk key n rootL
   else linT bk key n rootL
def lftT (bk:Int) (n:Nat) (l:Lab):Tr Bool:=
 if parE l=0 then (getT (parV l)).bind fun q => if (gk q 2 || gk q 3 || gk q 4)=true then (thwT bk n l).bind fun _ => .ret false else .ret true else .ret true
def binT (bk key:Int):Nat → Int → Int → Tr Spt
 | 0,_,_ => .dead
 | n + 1,lo,hi =>
   if lo ≤ hi then (getT (ofV key ((lo + hi) / 2))).bind fun g =>
    if gk g 1=true then .ret ⟨ofV key ((lo + hi) / 2),g⟩
    else if gk g 2=true then binT bk key n ((lo + hi) / 2 + 1) hi
    else if (gk g 3 || gk g 4)=true then (fnsT bk n (ofV key ((lo + hi) / 2)) g).bind fun _ => binT bk key n lo hi
    else if gk g 5=true then (lftT bk n (ofV key ((lo + hi) / 2))).bind fun b => if b=true then binT bk key n lo ((lo + hi) / 2 - 1) else binT bk key n lo hi
    else binT bk key n lo ((lo + hi) / 2 - 1)
   else linT bk key (n + 1) rootL
def sekT (bk how key:Int) (n:Nat):Tr Spt:=if how=1 then linT bk key n rootL else binT bk key n 0 64
def lokT (bk how key:Int) (n:Nat):Tr Rsl:=(sekT bk how key n).bind fun s => .ret ⟨0,finB s.g.x key,finV s.g.x key,[],0,false⟩
section
variable {k bk key:Int}
theorem run_ask (w:Wq) (p:Pst):(askT w).run k p=askM k w p:=by
 show (askM k w p).bind (fun g p => .ok g p)=_
 cases askM k w p<;>rfl
theorem run_get (l:Lab) (p:Pst):(getT l).run k p=getM k l p:=run_ask _ _
theorem run_cas (l:Lab) (v:Int) (r:Rec) (p:Pst):(casT l v r).run k p=casM k l v r p:=rb (run_ask _ _) fun _ _ => rfl
theorem run_drp (l:Lab) (v:Int) (p:Pst):(drpT l v).run k p=drpM k l v p:=rb (run_ask _ _) fun _ _ => rfl
theorem run_splC (l:Lab) (v:Int) (c:Lab) (x:Rec):∀ n p,(splCT l v c x n).run k p=splC k l v c x n p
 | 0,p => rfl
 | n + 1,p => rb (run_get _ _) fun _ _ => ri rfl (rb (run_get _ _) fun _ _ => ri (rb (run_cas _ _ _ _) fun _ _ => ri rfl (run_splC l v c x n _)) rfl)
theorem run_split (n:Nat) (l:Lab) (v:Int) (x:RA) (p:Pst):(splitT n l v x).run k p=splitM k n l v x p:=
 ri (rb (run_splC _ _ _ _ _ _) fun _ _ => ri (rb (run_splC _ _ _ _ _ _) fun _ _ => ri (rb (run_cas _ _ _ _) fun _ _ => rfl) rfl) rfl) rfl
theorem run_frz (l:Lab) (v:Int) (c:Lab):∀ n p,(frzT l v c n).run k p=frzM k l v c n p
 | 0,p => rfl
 | n + 1,p => rb (run_get _ _) fun _ _ => ri (ri rfl (rb (run_get _ _) fun _ _ => ri (rb (run_cas _ _ _ _) fun _ _ => ri rfl (run_frz l v c n _)) rfl)) rfl
theorem run_clnC (l:Lab) {cl:Lab → Tr Unit} {cl':Lab → Pst → Rs Unit} (h:∀ c p,(cl c).run k p=cl' c p) (c:Lab) (p:Pst):(clnCT l cl c).run k p=clnC k l cl' c p:=
 rb (run_get _ _) fun _ _ => ri (rb (h _ _) fun _ _ => rb (run_get _ _) fun _ _ => ri (rb (run_drp _ _ _) fun _ _ => rfl) rfl) rfl
theorem run_cln:∀ n l p,(clnT n l).run k p=clnM k n l p
 | 0,l,p => rfl
 | n + 1,l,p => ri rfl (rb (run_clnC _ (run_cln n) _ _) fun _ _ => ri (rb (run_clnC _ (run_cln n) _ _) fun _ _ => rfl) rfl)
theorem run_bck {th:Lab → Tr Unit} {th':Lab → Pst → Rs Unit} (h:∀ c p,(th c).run k p=th' c p) (l:Lab) (v:Int) (p:Pst):(bckT th l v).run k p=bckM k th' l v p:=
 rb (run_cas _ _ _ _) fun _ _ => ri (rb (h _ _) fun _ _ => h _ _) rfl
theorem run_mrg (n:Nat) {th:Lab → Tr Unit} {th':Lab → Pst → Rs Unit} (h:∀ c p,(th c).run k p=th' c p) (l:Lab) (v:Int) (p:Pst):(mrgT bk n th l v).run k p=mrgM bk k n th' l v p:=
 rb (run_frz _ _ _ _ _) fun a _ => match a with
  | .over => rfl
  | .unfit => run_bck h _ _ _
  | .fr a => rb (run_frz _ _ _ _ _) fun b _ => match b with
   | .over => rfl
   | .unfit => run_bck h _ _ _
   | .fr b => ri (rb (run_cas _ _ _ _) fun _ _ => ri (run_cln _ _ _) rfl) (run_bck h _ _ _)
theorem run_fin (n:Nat) {th:Lab → Tr Unit} {th':Lab → Pst → Rs Unit} (h:∀ c p,(th c).run k p=th' c p) (l:Lab) (g:GotA) (p:Pst):(finT bk n th l g).run k p=finM bk k n th' l g p:=
 ri (run_split _ _ _ _ _) (ri (run_mrg _ h _ _ _) rfl)
theorem run_thwL:∀ n l up p,(thwLT bk n l up).run k p=thwL bk k n l up p
 | 0,l,up,p => rfl
 | n + 1,l,up,p => rb (run_get _ _) fun _ _ => ri (rb (run_get _ _) fun _ _ => rb (ri (run_fin _ (fun c p => ri (run_thwL n _ _ _) rfl) _ _ _) rfl) fun _ _ => ri (rb (run_cas _ _ _ _) fun _ _ => ri rfl (run_thwL n _ _ _)) rfl) rfl
theorem run_thw (n:Nat) (l:Lab) (p:Pst):(thwT bk n l).run k p=thwM bk k n l p:=ri (run_thwL _ _ _ _) rfl
theorem run_fns (n:Nat) (l:Lab) (g:GotA) (p:Pst):(fnsT bk n l g).run k p=fnsM bk k n l g p:=run_fin _ (run_thw n) _ _ _
theorem run_lin:∀ n l p,(linT bk key n l).run k p=linM bk k key n l p
 | 0,l,p => rfl
 | n + 1,l,p => rb (run_get _ _) fun _ _ => ri rfl (ri (rb (run_fns _ _ _ _) fun _ _ => run_lin n _ _) (ri (run_lin n _ _) (ri (rb (run_thw _ _ _) fun _ _ => run_lin n _ _) (ri (rb (run_cas _ _ _ _) fun _ _ => run_lin n _ _) (run_lin n _ _)))))
theorem run_lft (n:Nat) (l:Lab) (p:Pst):(lftT bk n l).run k p=lftM bk k n l p:=
 ri (rb (run_get _ _) fun _ _ => ri (rb (run_thw _ _ _) fun _ _ => rfl) rfl) rfl
theorem run_bin:∀ n lo hi p,(binT bk key n lo hi).run k p=binM bk k key n lo hi p
 | 0,lo,hi,p => rfl
 | n + 1,lo,hi,p => ri (rb (run_get _ _) fun _ _ => ri rfl (ri (run_bin n _ _ _) (ri (rb (run_fns _ _ _ _) fun _ _ => run_bin n _ _ _) (ri (rb (run_lft _ _ _) fun _ _ => ri (run_bin n _ _ _) (run_bin n _ _ _)) (run_bin n _ _ _))))) (run_lin _ _ _)
theorem run_sek (how:Int) (n:Nat) (p:Pst):(sekT bk how key n).run k p=sekM bk k how key n p:=ri (run_lin _ _ _) (run_bin _ _ _ _)
theorem run_lok (how:Int) (n:Nat) (p:Pst):(lokT bk how key n).run k p=lokM bk k how key n p:=rb (run_sek _ _ _) fun _ _ => rfl
end
inductive App {α : Type}:Nat → Tr α → Tr α → Prop
 | zero {t t':Tr α}:App 0 t t'
 | ret {d:Nat} (a:α):App d (.ret a) (.ret a)
 | note {d:Nat} {x:Nt} {t t':Tr α} (h:App d t t'):App d (.note x t) (.note x t')
 | ask {d:Nat} {w:Wq} {f f':GotA → Tr α} (h:∀ g,App d (f g) (f' g)):App (d + 1) (.ask w f) (.ask w f')
section
variable {α β : Type} {d e:Nat}
theorem App.mono {t t':Tr α} (h:App d t t'):∀ {e:Nat},e ≤ d → App e t t':=by
  induction h with
  | zero => intro e he; have:e=0:=by omega
            subst this; exact .zero
  | ret a => intro e he; exact .ret a
  | note h ih => intro e he; exact .note (ih he)
  | ask h ih =>
    intro e he
    cases e with
    | zero => exact .zero
    | succ e => exact .ask fun g => ih g (by omega)
theorem App.bind {t t':Tr α} (h:App d t t'):∀ {f f':α → Tr β},(∀ a,App d (f a) (f' a)) → App d (t.bind f) (t'.bind f'):=by
 induction h with
 | zero => intro f f' hf; exact .zero
 | ret a => intro f f' hf; exact hf a
 | note h ih => intro f f' hf; exact .note (ih hf)
 | ask h ih => intro f f' hf; exact .ask fun g => ih g fun a => (hf a).mono (by omega)
theorem app_ite {c:Prop} [Decidable c] {x y x' y':Tr α} (hx:App d x x') (hy:App d y y'):App d (if c then x else y) (if c then x' else y'):=by split<;>assumption
theorem run_app {k:Int} {t t':Tr α} (h:App d t t'):∀ {p:Pst},p.n < d → t.run k p=t'.run k p:=by
 induction h with
 | zero => intro p hp; omega
 | ret a => intro p _; rfl
 | note h ih => intro p hp; exact ih hp
 | @ask d w f f' h ih =>
  intro p hp
  show (askM k w p).bind _=(askM k w p).bind _
  unfold askM
  split
  ·rename_i h0
   refine ih _ ?_
   show p.n - 1 < d
   omega
  rfl
end
theorem app_ask {d:Nat} (w:Wq):App d (askT w) (askT w):=by
 cases d with
 | zero => exact .zero
 | succ d => exact .ask fun g => .ret g
theorem app_get {d:Nat} (l:Lab):App d (getT l) (getT l):=app_ask _
theorem app_cas {d:Nat} (l:Lab) (v:Int) (r:Rec):App d (casT l v r) (casT l v r):=(app_ask _).bind fun _ => .ret _
theorem app_drp {d:Nat} (l:Lab) (v:Int):App d (drpT l v) (drpT l v):=(app_ask _).bind fun _ => .ret _
theorem app_get1 {α : Type} {d:Nat} {l:Lab} {f f':GotA → Tr α} (h:∀ g,App d (f g) (f' g)):App (d + 1) ((getT l).bind f) ((getT l).bind f'):=.ask h
section
variable {bk key:Int}
theorem app_splC (l:Lab) (v:Int) (c:Lab) (x:Rec):∀ {d n n':Nat},d ≤ n → d ≤ n' → App d (splCT l v c x n) (splCT l v c x n')
 | 0,_,_,_,_ => .zero
 | d + 1,n + 1,n' + 1,h,h' => app_get1 fun _ => app_ite (.ret _) ((app_get _).bind fun _ => app_ite ((app_cas _ _ _).bind fun _ => app_ite (.ret _) (app_splC l v c x (by omega) (by omega))) (.ret _))
theorem app_split {d n n':Nat} (l:Lab) (v:Int) (x:RA) (h:d ≤ n) (h':d ≤ n'):App d (splitT n l v x) (splitT n' l v x):=
 app_ite ((app_splC _ _ _ _ h h').bind fun _ => app_ite ((app_splC _ _ _ _ h h').bind fun _ => app_ite ((app_cas _ _ _).bind fun _ => .ret _) (.ret _)) (.ret _)) (.ret _)
theorem app_frz (l:Lab) (v:Int) (c:Lab):∀ {d n n':Nat},d ≤ n → d ≤ n' → App d (frzT l v c n) (frzT l v c n')
 | 0,_,_,_,_ => .zero
 | d + 1,n + 1,n' + 1,h,h' => app_get1 fun _ => app_ite (app_ite (.ret _) ((app_get _).bind fun _ => app_ite ((app_cas _ _ _).bind fun _ => app_ite (.ret _) (app_frz l v c (by omega) (by omega))) (.ret _))) (.ret _)
theorem app_clnC (l:Lab) {d:Nat} {cl cl':Lab → Tr Unit} (h:∀ c,App d (cl c) (cl' c)) (c:Lab):App (d + 1) (clnCT l cl c) (clnCT l cl' c):=
 app_get1 fun _ => app_ite ((h _).bind fun _ => (app_get _).bind fun _ => app_ite ((app_drp _ _).bind fun _ => .ret _) (.ret _)) (.ret _)
theorem app_cln:∀ {d n n':Nat} (l:Lab),d ≤ n → d ≤ n' → App d (clnT n l) (clnT n' l)
 | 0,_,_,_,_,_ => .zero
 | d + 1,n + 1,n' + 1,l,h,h' => app_ite (.ret _) ((app_clnC _ (fun c => app_cln c (by omega) (by omega)) _).bind fun _ => app_ite ((app_clnC _ (fun c => app_cln c (by omega) (by omega)) _).bind fun _ => .ret _) (.ret _))
theorem app_bck {d:Nat} {th th':Lab → Tr Unit} (h:∀ c,App d (th c) (th' c)) (l:Lab) (v:Int):App d (bckT th l v) (bckT th' l v):=
 (app_cas _ _ _).bind fun _ => app_ite ((h _).bind fun _ => h _) (.ret _)
theorem app_mrg {d n n':Nat} {th th':Lab → Tr Unit} (hn:d ≤ n) (hn':d ≤ n') (h:∀ c,App d (th c) (th' c)) (l:Lab) (v:Int):App d (mrgT bk n th l v) (mrgT bk n' th' l v):=
 (app_frz _ _ _ hn hn').bind fun a => match a with
  | .over => .ret _
  | .unfit => app_bck h _ _
  | .fr a => (app_frz _ _ _ hn hn').bind fun b => match b with
   | .over => .ret _
   | .unfit => app_bck h _ _
   | .fr b => app_ite ((app_cas _ _ _).bind fun _ => app_ite (app_cln _ hn hn') (.ret _)) (app_bck h _ _)
theorem app_fin {d n n':Nat} {th th':Lab → Tr Unit} (hn:d ≤ n) (hn':d ≤ n') (h:∀ c,App d (th c) (th' c)) (l:Lab) (g:GotA):App d (finT bk n th l g) (finT bk n' th' l g):=
 app_ite (app_split _ _ _ hn hn') (app_ite (app_mrg hn hn' h _ _) (.ret _))
theorem app_thwL:∀ {d n n':Nat} (l up:Lab),d ≤ n → d ≤ n' → App d (thwLT bk n l up) (thwLT bk n' l up)
 | 0,_,_,_,_,_,_ => .zero
 | d + 1,n + 1,n' + 1,l,up,h,h' => app_get1 fun _ => app_ite ((app_get _).bind fun _ => (app_ite (app_fin (by omega) (by omega) (fun c => app_ite (app_thwL _ _ (by omega) (by omega)) (.ret _)) _ _) (.ret _)).bind fun _ => app_ite ((app_cas _ _ _).bind fun _ => app_ite (.ret _) (app_thwL _ _ (by omega) (by omega))) (.ret _)) (.ret _)
theorem app_thw {d n n':Nat} (l:Lab) (h:d ≤ n) (h':d ≤ n'):App d (thwT bk n l) (thwT bk n' l):=app_ite (app_thwL _ _ h h') (.ret _)
theorem app_fns {d n n':Nat} (l:Lab) (g:GotA) (h:d ≤ n) (h':d ≤ n'):App d (fnsT bk n l g) (fnsT bk n' l g):=app_fin h h' (fun c => app_thw c h h') _ _
theorem app_lin:∀ {d n n':Nat} (l:Lab),d ≤ n → d ≤ n' → App d (linT bk key n l) (linT bk key n' l)
 | 0,_,_,_,_,_ => .zero
 | d + 1,n + 1,n' + 1,l,h,h' => by
  have H:∀ l,App d (linT bk key n l) (linT bk key n' l):=fun l => app_lin l (by omega) (by omega)
  exact app_get1 fun _ => app_ite (.ret _) (app_ite ((app_fns _ _ (by omega) (by omega)).bind fun _ => H _) (app_ite (H _) (app_ite ((app_thw _ (by omega) (by omega)).bind fun _ => H _) (app_ite ((app_cas _ _ _).bind fun _ => H _) (H _)))))
theorem app_lft {d n n':Nat} (l:Lab) (h:d ≤ n) (h':d ≤ n'):App d (lftT bk n l) (lftT bk n' l):=
 app_ite ((app_get _).bind fun _ => app_ite ((app_thw _ h h').bind fun _ => .ret _) (.ret _)) (.ret _)
theorem app_bin:∀ {d n n':Nat} (lo hi:Int),d ≤ n → d ≤ n' → App d (binT bk key n lo hi) (binT bk key n' lo hi)
 | 0,_,_,_,_,_,_ => .zero
 | d + 1,n + 1,n' + 1,lo,hi,h,h' => by
  have H:∀ lo hi,App d (binT bk key n lo hi) (binT bk key n' lo hi):=fun lo hi => app_bin lo hi (by omega) (by omega)
  exact app_ite (app_get1 fun _ => app_ite (.ret _) (app_ite (H _ _) (app_ite ((app_fns _ _ (by omega) (by omega)).bind fun _ => H _ _) (app_ite ((app_lft _ (by omega) (by omega)).bind fun _ => app_ite (H _ _) (H _ _)) (H _ _))))) (app_lin _ h h')
theorem app_sek {d n n':Nat} (how:Int) (h:d ≤ n) (h':d ≤ n'):App d (sekT bk how key n) (sekT bk how key n'):=app_ite (app_lin _ h h') (app_bin _ _ h h')
theorem app_lok {d n n':Nat} (how:Int) (h:d ≤ n) (h':d ≤ n'):App d (lokT bk how key n) (lokT bk how key n'):=(app_sek _ h h').bind fun _ => .ret _
end
def Tr.All {α : Type} (A:GotA → Prop) (W:Wq → Prop) (X:Nt → Prop) (Q:α → Prop):Tr α → Prop
 | .ret a => Q a
 | .dead => True
 | .note x t => X x ∧ t.All A W X Q
 | .ask w f => W w ∧ ∀ g,A g → (f g).All A W X Q
section
variable {α β : Type} {A:GotA → Prop} {W:Wq → Prop} {X:Nt → Prop}
theorem all_bind {Q:α → Prop} {R:β → Prop}:∀ {t:Tr α} {f:α → Tr β},t.All A W X Q → (∀ a,Q a → (f a).All A W X R) → (t.bind f).All A W X R
 | .ret a,f,h,hf => hf a h
 | .dead,f,h,hf => trivial
 | .note x t,f,h,hf => ⟨h.1,all_bind (t:=t) h.2 hf⟩
 | .ask w g,f,h,hf => ⟨h.1,fun a ha => all_bind (t:=g a) (h.2 a ha) hf⟩
theorem all_ite {Q:α → Prop} {c:Prop} [Decidable c] {x y:Tr α} (hx:c → x.All A W X Q) (hy:¬ c → y.All A W X Q):(if c then x else y).All A W X Q:=by
 by_cases h:c
 ·rw [if_pos h]; exact hx h
 rw [if_neg h]; exact hy h
theorem all_ask {w:Wq} (h:W w):(askT w).All A W X A:=⟨h,fun _ h => h⟩
theorem Tr.All.mono {Q R:α → Prop}:∀ {t:Tr α},t.All A W X Q → (∀ a,Q a → R a) → t.All A W X R
 | .ret a,h,hq => hq a h
 | .dead,h,hq => trivial
 | .note x t,h,hq => ⟨h.1,Tr.All.mono (t:=t) h.2 hq⟩
 | .ask w g,h,hq => ⟨h.1,fun a ha => Tr.All.mono (t:=g a) (h.2 a ha) hq⟩
end
def ntR (x:Nt):Rsl:=⟨x.code,x.had,x.val,[],0,false⟩
def Tr.dir (most b:Int):Tr Rsl → Nt → Nat → Shf → Int → RunR
 | .ret a,x,n,L,k => ⟨2,a,n,0,L,k⟩
 | .dead,x,n,L,k => ⟨5,zRsl,n,0,L,k⟩
 | .note y t,x,n,L,k => t.dir most b y n L k
 | .ask w f,x,n,L,k =>
  if b ≤ n then ⟨2,ntR x,n,0,L,k⟩
  else if most ≤ n then ⟨3,zRsl,n,0,L,k⟩
  else if (doL L (wntOf w)).err ≠ 0 then ⟨4,zRsl,n,(doL L (wntOf w)).err,(doL L (wntOf w)).L,if (doL L (wntOf w)).wrote then IntKind.i64.wrap (k + 1) else k⟩
  else (f (gotOf (doL L (wntOf w)).got)).dir most b x (n + 1) (doL L (wntOf w)).L (if (doL L (wntOf w)).wrote then IntKind.i64.wrap (k + 1) else k)
def Tr.feed {α : Type}:Tr α → Nt → List Got → Option (Tr α × Nt)
 | .note y t,_,gs => t.feed y gs
 | .ret a,x,[] => some (.ret a,x)
 | .ret _,_,_ :: _ => none
 | .dead,x,[] => some (.dead,x)
 | .dead,_,_ :: _ => none
 | .ask w f,x,[] => some (.ask w f,x)
 | .ask w f,x,g :: gs => (f (gotOf g)).feed x gs
def Tr.noNote {α : Type}:Tr α → Prop
 | .note _ _ => False
 | _ => True
theorem feed_add {α : Type} {w:Wq} {f:GotA → Tr α} {y:Nt} {g:Got}:∀ (t:Tr α) (x:Nt) (gs:List Got),t.feed x gs=some (.ask w f,y) → t.feed x (gs ++ [g])=(f (gotOf g)).feed y []
 | .note z t,x,gs,h => by
  show t.feed z (gs ++ [g])=_
  exact feed_add t z gs (by simpa [Tr.feed] using h)
 | .ret a,x,[],h => by simp [Tr.feed] at h
 | .ret a,x,_ :: _,h => by simp [Tr.feed] at h
 | .dead,x,[],h => by simp [Tr.feed] at h
 | .dead,x,_ :: _,h => by simp [Tr.feed] at h
 | .ask w' f',x,[],h => by
  simp only [Tr.feed,Option.some.injEq,Prod.mk.injEq,Tr.ask.injEq] at h
  obtain ⟨⟨h1,h2⟩,h3⟩:=h
  subst h1; subst h2; subst h3
  rfl
 | .ask w' f',x,g' :: gs,h => by
  show (f' (gotOf g')).feed x (gs ++ [g])=_
  exact feed_add _ x gs (by simpa [Tr.feed] using h)
theorem feed_nil {α : Type} {A:GotA → Prop} {W:Wq → Prop} {X:Nt → Prop} {Q:α → Prop}:∀ (t:Tr α) (x:Nt),∃ t' x',t.feed x []=some (t',x') ∧ t'.noNote ∧ (∀ d,App d t t → App d t' t') ∧ (t.All A W X Q → t'.All A W X Q)
 | .note z t,x => by
  obtain ⟨t',x',h1,h2,h3,h4⟩:=feed_nil t z
  refine ⟨t',x',by simpa [Tr.feed] using h1,h2,fun d hd => h3 d ?_,fun h => h4 h.2⟩
  cases hd with
  | zero => exact .zero
  | note h => exact h
 | .ret a,x => ⟨.ret a,x,by simp [Tr.feed],trivial,fun _ h => h,fun h => h⟩
 | .dead,x => ⟨.dead,x,by simp [Tr.feed],trivial,fun _ h => h,fun h => h⟩
 | .ask w f,x => ⟨.ask w f,x,by simp [Tr.feed],trivial,fun _ h => h,fun h => h⟩
theorem feed_dir {most b:Int}:∀ (t:Tr Rsl) (x:Nt) {t':Tr Rsl} {x':Nt} (n:Nat) (L:Shf) (k:Int),t.feed x []=some (t',x') → t'.dir most b x' n L k=t.dir most b x n L k
 | .note z t,x,t',x',n,L,k,h => feed_dir t z n L k (by simpa [Tr.feed] using h)
 | .ret a,x,t',x',n,L,k,h => by simp [Tr.feed] at h; obtain ⟨rfl,rfl⟩:=h; rfl
 | .dead,x,t',x',n,L,k,h => by simp [Tr.feed] at h; obtain ⟨rfl,rfl⟩:=h; rfl
 | .ask w f,x,t',x',n,L,k,h => by simp [Tr.feed] at h; obtain ⟨rfl,rfl⟩:=h; rfl
theorem run_feed {α : Type} {k:Int} (hk:0 ≤ k) {t':Tr α} {x':Nt}:∀ (t:Tr α) (x:Nt) (gs:List Got),t.feed x gs=some (t',x') → ∀ p:Pst,p.n=gs.length → (∀ j,j < gs.length → p.g j=gotOf (gs.getD j zeroGot)) → p.note=x → ∃ q:Pst,q.n=0 ∧ q.note=x' ∧ t.run k p=t'.run k q
 | .note z t,x,gs,h,p,hn,hg,hx => run_feed hk t z gs (by simpa [Tr.feed] using h) ⟨p.n,p.g,z⟩ hn hg rfl
 | .ret a,x,[],h,p,hn,hg,hx => by simp [Tr.feed] at h; obtain ⟨rfl,rfl⟩:=h; exact ⟨p,hn,hx,rfl⟩
 | .ret a,x,_ :: _,h,p,hn,hg,hx => by simp [Tr.feed] at h
 | .dead,x,[],h,p,hn,hg,hx => by simp [Tr.feed] at h; obtain ⟨rfl,rfl⟩:=h; exact ⟨p,hn,hx,rfl⟩
 | .dead,x,_ :: _,h,p,hn,hg,hx => by simp [Tr.feed] at h
 | .ask w f,x,[],h,p,hn,hg,hx => by simp [Tr.feed] at h; obtain ⟨rfl,rfl⟩:=h; exact ⟨p,hn,hx,rfl⟩
 | .ask w f,x,g :: gs,h,p,hn,hg,hx => by
  have hn2:p.n=gs.length + 1:=hn
  have h0:p.g 0=gotOf g:=hg 0 (by simp)
  obtain ⟨q,h1,h2,h3⟩:=run_feed hk (f (gotOf g)) x gs (by simpa [Tr.feed] using h) p.tl (by show p.n - 1=_; omega) (fun j hj => by show p.g (j + 1)=_; rw [hg (j + 1) (by simp; omega)]; rfl) hx
  refine ⟨q,h1,h2,?_⟩
  rw [← h3]
  show (askM k w p).bind _=_
  unfold askM
  rw [if_pos ⟨by omega,by omega⟩]
  show (f (p.g 0)).run k p.tl=_
  rw [h0]
structure TrN (N:NextF) (b:Int) (T:Nat → Tr Rsl):Prop where
 nxt:∀ n f,allGot n f=true → N n f=toldM ((T (n + 1)).run (b - n) (pst0 n f))
 app:∀ {d n n':Nat},d ≤ n → d ≤ n' → App d (T n) (T n')
section
variable {N:NextF} {b:Int} {T:Nat → Tr Rsl} {most:Int} {A:GotA → Prop} {W:Wq → Prop} {X:Nt → Prop} {Q:Rsl → Prop} {R:Shf → Prop}
theorem next_at (hN:TrN N b T) {m:Nat} {gs:List Got} {t:Tr Rsl} {x:Nt} (hf:(T m).feed nt0 gs=some (t,x)) (hg:∀ j,j < gs.length → isGotB (gotOf (gs.getD j zeroGot))=true) (hb:(gs.length:Int) ≤ b) (hm:gs.length < m):∃ q:Pst,q.n=0 ∧ q.note=x ∧ N gs.length (ansF gs)=toldM (t.run (b - gs.length) q):=by
 have h1:=hN.nxt gs.length (ansF gs) (allGot_yes hg)
 obtain ⟨q,h2,h3,h4⟩:=run_feed (k:=b - gs.length) (by omega) (T m) nt0 gs hf (pst0 gs.length (ansF gs)) rfl (fun j hj => rfl) rfl
 refine ⟨q,h2,h3,?_⟩
 rw [h1,← h4]
 congr 1
 exact run_app (hN.app (d:=gs.length + 1) (Nat.le_refl _) (by omega)) (by show gs.length < _; omega)
theorem told_ret {a:Rsl} {q:Pst} (h:q.n=0):toldM (.ok a q)=(⟨4,⟨0,0⟩,0,zeroRec,a⟩,0):=by
 unfold toldM; dsimp only; rw [if_neg (by omega)]
theorem told_stop {w:Wq} {q:Pst} (h:q.n=0):toldM (.stop w q)=(w,0):=by
 unfold toldM; dsimp only; rw [if_neg (by omega)]
theorem ask_none {k:Int} {w:Wq} {q:Pst} {f:GotA → Tr Rsl} (h:q.n=0):(Tr.ask w f).run k q = .stop (if k ≤ 0 then overW q else w) q:=by
 show (askM k w q).bind _=_
 unfold askM
 rw [if_neg (by omega),h]
 simp only [Int.natCast_zero,Int.zero_add]
 rfl
theorem dir_go (hN:TrN N b T) {m:Nat} (hm:b < m) (hWk:∀ w,W w → w.kind ≠ 4) (hR:∀ L w,R L → W w → (doL L (wntOf w)).err=0 → R (doL L (wntOf w)).L ∧ isGotB (gotOf (doL L (wntOf w)).got)=true ∧ A (gotOf (doL L (wntOf w)).got)) :
  ∀ (fuel:Nat) (t:Tr Rsl) (x:Nt) (gs:List Got) (L:Shf) (k:Int) (d:Nat),(T m).feed nt0 gs=some (t,x) → t.noNote → App d t t → t.All A W X Q → R L → (∀ j,j < gs.length → isGotB (gotOf (gs.getD j zeroGot))=true) → (gs.length:Int) ≤ b → b - gs.length < d → b - gs.length < fuel →
   runQ N most fuel gs L k=t.dir most b x gs.length L k
 | 0,t,x,gs,L,k,d,hf,hnn,ha,hall,hL,hg,hb,hd,hfu => by omega
 | fuel + 1,t,x,gs,L,k,d,hf,hnn,ha,hall,hL,hg,hb,hd,hfu => by
  obtain ⟨q,h1,h2,h3⟩:=next_at hN hf hg hb (by omega)
  cases t with
  | note y t => exact absurd hnn (fun h => h)
  | ret a => exact run_end (h3.trans (told_ret h1)) rfl
  | dead =>
   cases ha with
   | zero => omega
  | ask w f =>
   rw [ask_none h1] at h3
   have h4:=h3.trans (told_stop h1)
   by_cases hov:b ≤ (gs.length:Int)
   ·rw [if_pos (by omega)] at h4
    rw [run_end h4 rfl]
    unfold Tr.dir
    rw [if_pos hov]
    unfold overW ntR
    rw [h2]
   rw [if_neg (by omega)] at h4
   have hk:=hWk w hall.1
   unfold Tr.dir
   rw [if_neg hov]
   by_cases hmo:most ≤ (gs.length:Int)
   ·rw [if_pos hmo,run_cut h4 hk hmo]
   rw [if_neg hmo]
   by_cases he:(doL L (wntOf w)).err=0
   ·rw [if_neg (fun h => h he),run_go h4 hk hmo rfl he]
    obtain ⟨r1,r2,r3⟩:=hR L w hL hall.1 he
    cases ha with
    | zero => omega
    | @ask d' _ _ _ ha =>
     obtain ⟨t',x',f1,f2,f3,f4⟩:=feed_nil (A:=A) (W:=W) (X:=X) (Q:=Q) (f (gotOf (doL L (wntOf w)).got)) x
     have hfe:(T m).feed nt0 (gs ++ [(doL L (wntOf w)).got])=some (t',x'):=by rw [feed_add _ _ _ hf,f1]
     have hlen:(gs ++ [(doL L (wntOf w)).got]).length=gs.length + 1:=by simp
     rw [dir_go hN hm hWk hR fuel t' x' _ _ _ d' hfe f2 (f3 _ (ha _)) (f4 (hall.2 _ r3)) r1 ?_ (by rw [hlen]; omega) (by rw [hlen]; omega) (by rw [hlen]; omega),hlen]
     ·exact feed_dir _ _ _ _ _ f1
     intro j hj
     rw [hlen] at hj
     by_cases hjl:j < gs.length
     ·have:=hg j hjl
      rw [List.getD_eq_getElem?_getD,List.getElem?_append_left hjl,← List.getD_eq_getElem?_getD]
      exact this
     have:j=gs.length:=by omega
     subst this
     simpa [List.getD] using r2
   rw [if_pos he,run_err h4 hk hmo rfl he]
theorem dir_run (hN:TrN N b T) {m:Nat} (hm:b < m) (h0:0 ≤ b) (hWk:∀ w,W w → w.kind ≠ 4) (hR:∀ L w,R L → W w → (doL L (wntOf w)).err=0 → R (doL L (wntOf w)).L ∧ isGotB (gotOf (doL L (wntOf w)).got)=true ∧ A (gotOf (doL L (wntOf w)).got))
  (hall:(T m).All A W X Q) {fuel:Nat} (hfu:b < fuel) {L:Shf} (hL:R L) (k:Int):runQ N most fuel [] L k=(T m).dir most b nt0 0 L k:=by
 obtain ⟨t',x',f1,f2,f3,f4⟩:=feed_nil (A:=A) (W:=W) (X:=X) (Q:=Q) (T m) nt0
 rw [dir_go hN hm hWk hR fuel t' x' [] L k m f1 f2 (f3 _ (hN.app (Nat.le_refl _) (Nat.le_refl _))) (f4 hall) hL (fun j hj => absurd hj (Nat.not_lt_zero _)) (by simpa using h0) (by simp; omega) (by simp; omega)]
 exact feed_dir _ _ _ _ _ f1
end
theorem rises_ok {l:List Itm} (hs:Srt l) (hv:∀ x ∈ l,x.val.size ≤ 64):okF (itF l) l.length=true:=by
 unfold okF
 rw [List.all_eq_true]
 intro i hi
 have hi:=List.mem_range.1 hi
 have e:∀ t (h:t < l.length),itF l t=l[t]:=fun t h => by simp [itF,List.getD,h]
 unfold okAt
 rw [e i hi]
 cases i with
 | zero => simpa using hv _ (List.getElem_mem hi)
 | succ i =>
  have h2:l[i].key < l[i + 1].key:=(List.pairwise_iff_getElem.1 hs) i (i + 1) (by omega) hi (by omega)
  simp
  refine ⟨hv _ (List.getElem_mem hi),?_⟩
  rw [e i (by omega)]
  exact h2
theorem rf_of {kd:Int} {n:Nat} {f:Nat → Itm} {nx:Lab} {mk:Int} (hok:okF f n=true) (hn:n ≤ 16) (hx:nx=noneL ∨ isL nx=true) (hk:(kd=1 ∧ mk=0) ∨ kd=5):isRF kd n f nx mk=true:=by
 unfold isRF rowF bareK
 rcases hk with ⟨rfl,rfl⟩ | rfl
 ·rcases hx with hx | hx<;>simp [hok,hn,hx]
 rcases hx with hx | hx<;>simp [hok,hn,hx]
theorem short_items {f:Nat → Itm} {n:Nat} (h:okF f n=true):∀ x ∈ firsts f n,x.val.size ≤ 64:=by
 intro x hx
 obtain ⟨i,hi,rfl⟩:=List.mem_map.1 hx
 have:=okF_at (List.mem_range.1 hi) h
 unfold okAt at this
 simp only [Bool.and_eq_true,decide_eq_true_eq] at this
 exact this.1
theorem r_inner:isR innerR=true:=by decide
theorem r_leaf:isR leafR=true:=by decide
theorem gk_at {g:GotA} {k:Int} (h:gk g k=true):g.has=true ∧ g.x.r.kd=k:=by
 unfold gk at h
 simp only [Bool.and_eq_true,decide_eq_true_eq] at h
 exact h
theorem r_as {g:GotA} (h:GotR g) {kd mk k:Int} (hg:gk g k=true) (hk:(kd=1 ∧ mk=0) ∨ kd=5):isR (asR kd g.x mk).r.abs=true:=by
 rw [isR_abs]
 obtain ⟨_,_,h3,h4,h5⟩:=isRF_kind (h.rf (gk_at hg).1)
 exact rf_of h5 h3 h4 hk
theorem halv_r {x:RA} {l:Lab} (hl:LOk l) (h:(halvA x l).2.2=0):isR (halvA x l).1=true ∧ isR (halvA x l).2.1=true:=by
 unfold halvA halvR at h ⊢
 split at h
 ·cases h
 rename_i h1
 rw [if_neg h1]
 split at h
 ·cases h
 rename_i h2
 rw [if_neg h2]
 split at h
 ·cases h
 rename_i h3
 rw [if_neg h3]
 have h4:isRF x.r.kd x.r.n x.r.f x.r.nx x.r.mrk=true:=by
  simp only [Bool.not_eq_false,Bool.and_eq_true] at h1
  exact h1.1.1
 obtain ⟨_,_,k3,k4,k5⟩:=isRF_kind h4
 have hc:∀ c,okF (itF (covL c (firsts x.r.f x.r.n))) (covL c (firsts x.r.f x.r.n)).length=true ∧ (covL c (firsts x.r.f x.r.n)).length ≤ 16:=fun c => by
  refine ⟨rises_ok (List.Pairwise.filter _ (okF_Srt k5)) fun y hy => short_items k5 y (cov_sub hy),Nat.le_trans (cov_le _ _) ?_⟩
  rw [firsts_len]; exact k3
 exact ⟨rf_of (hc _).1 (hc _).2 (.inr (child_isL hl.isl hl.u h3 1)) (.inl ⟨rfl,rfl⟩),rf_of (hc _).1 (hc _).2 k4 (.inl ⟨rfl,rfl⟩)⟩
theorem uni_r {x y:RA} (h:(uniA x y).2=0):isR (uniA x y).1=true:=by
 unfold uniA uniR at h ⊢
 split at h
 ·cases h
 rename_i h1
 rw [if_neg h1]
 split at h
 ·cases h
 rename_i h2
 rw [if_neg h2]
 split at h
 ·cases h
 rename_i h3
 rw [if_neg h3]
 split at h
 ·cases h
 rename_i h4
 rw [if_neg h4]
 simp only [Bool.not_eq_false,Bool.and_eq_true] at h1
 obtain ⟨_,_,a3,a4,a5⟩:=isRF_kind h1.1
 obtain ⟨_,_,b3,b4,b5⟩:=isRF_kind h1.2
 refine rf_of (rises_ok ?_ fun z hz => ?_) ?_ b4 (.inl ⟨rfl,rfl⟩)
 ·refine List.pairwise_append.2 ⟨okF_Srt a5,okF_Srt b5,fun u hu v hv => ?_⟩
  obtain ⟨i,hi,rfl⟩:=List.mem_map.1 hu
  obtain ⟨j,hj,rfl⟩:=List.mem_map.1 hv
  have hi:=List.mem_range.1 hi
  have hj:=List.mem_range.1 hj
  have h5:(x.r.f (x.r.n - 1)).key < (y.r.f 0).key:=by
   unfold ovl at h2
   simp only [Bool.and_eq_true,decide_eq_true_eq,not_and] at h2
   have:=h2 (by omega) (by omega)
   omega
  have h6:(x.r.f i).key ≤ (x.r.f (x.r.n - 1)).key:=by
   by_cases he:i=x.r.n - 1
   ·rw [he]; exact Int.le_refl _
   exact Int.le_of_lt (okF_srt a5 _ _ (by omega) (by omega))
  have h7:(y.r.f 0).key ≤ (y.r.f j).key:=by
   by_cases he:j=0
   ·rw [he]; exact Int.le_refl _
   exact Int.le_of_lt (okF_srt b5 _ _ (by omega) (by omega))
  omega
 ·rcases List.mem_append.1 hz with hz | hz
  ·exact short_items a5 z hz
  exact short_items b5 z hz
 show (firsts x.r.f x.r.n ++ firsts y.r.f y.r.n).length ≤ 16
 rw [List.length_append,firsts_len,firsts_len]; omega
structure WqR (w:Wq):Prop where
 ok:WqOk w
 kd:w.kind=1 ∨ w.kind=2 ∨ w.kind=3
 put:w.kind=2 → isR w.r=true
def GA (g:GotA):Prop:=GotOk g ∧ GotR g
section
variable {X:Nt → Prop} {bk key:Int}
abbrev AllA {α : Type} (X:Nt → Prop) (Q:α → Prop) (t:Tr α):Prop:=t.All GA WqR X Q
abbrev Any {α : Type}:α → Prop:=fun _ => True
theorem all_get {l:Lab} (h:LOk l):AllA X GA (getT l):=all_ask ⟨⟨h,rec_z⟩,.inl rfl,fun h => absurd h (by show ¬ (1:Int)=2; decide)⟩
theorem all_cas {l:Lab} {v:Int} {r:Rec} (h:LOk l) (hr:RecOk r) (h2:isR r=true):AllA X Any (casT l v r):=all_bind (all_ask (w:=⟨2,l,v,r,zRsl⟩) ⟨⟨h,hr⟩,.inr (.inl rfl),fun _ => h2⟩) fun _ _ => trivial
theorem all_drp {l:Lab} {v:Int} (h:LOk l):AllA X Any (drpT l v):=all_bind (all_ask (w:=⟨3,l,v,zeroRec,zRsl⟩) ⟨⟨h,rec_z⟩,.inr (.inr rfl),fun h => absurd h (by show ¬ (3:Int)=2; decide)⟩) fun _ _ => trivial
theorem all_splC {l:Lab} {v:Int} {c:Lab} {x:Rec} (hl:LOk l) (hc:LOk c) (hx:RecOk x) (hr:isR x=true):∀ n,AllA X Any (splCT l v c x n)
 | 0 => trivial
 | n + 1 => all_bind (all_get hc) fun _ _ => all_ite (fun _ => trivial) fun _ => all_bind (all_get hl) fun _ _ => all_ite (fun _ => all_bind (all_cas hc hx hr) fun _ _ => all_ite (fun _ => trivial) fun _ => all_splC hl hc hx hr n) fun _ => trivial
theorem all_split {n:Nat} {l:Lab} {v:Int} {x:RA} (hl:LOk l) (hx:RaOk x):AllA X Any (splitT n l v x):=
 all_ite (fun h => all_bind (all_splC hl (hl.ch 0) (halv_ok hx hl).1 (halv_r hl h).1 n) fun _ _ => all_ite (fun _ => all_bind (all_splC hl (hl.ch 1) (halv_ok hx hl).2 (halv_r hl h).2 n) fun _ _ => all_ite (fun _ => all_bind (all_cas hl rec_in r_inner) fun _ _ => trivial) fun _ => trivial) fun _ => trivial) fun _ => trivial
def FzOk:Fz → Prop
 | .fr x => RaOk x
 | _ => True
theorem all_frz {l:Lab} {v:Int} {c:Lab} (hl:LOk l) (hc:LOk c):∀ n,AllA X FzOk (frzT l v c n)
 | 0 => trivial
 | n + 1 => all_bind (all_get hc) fun g hg => all_ite (fun hk => all_ite (fun _ => hg.1.ra) fun _ => all_bind (all_get hl) fun _ _ => all_ite (fun _ => all_bind (all_cas hc (hg.1.ra.as 5 v).ro (by
   rcases Bool.or_eq_true _ _ ▸ hk with h | h
   ·exact r_as hg.2 h (.inr rfl)
   exact r_as hg.2 h (.inr rfl))) fun _ _ => all_ite (fun _ => hg.1.ra.as 5 v) fun _ => all_frz hl hc n) fun _ => trivial) fun _ => trivial
theorem all_clnC {l:Lab} {cl:Lab → Tr Unit} {c:Lab} (hl:LOk l) (hc:LOk c) (h:∀ c,LOk c → AllA X Any (cl c)):AllA X Any (clnCT l cl c):=
 all_bind (all_get hc) fun _ _ => all_ite (fun _ => all_bind (h c hc) fun _ _ => all_bind (all_get hl) fun _ _ => all_ite (fun _ => all_bind (all_drp hc) fun _ _ => trivial) fun _ => trivial) fun _ => trivial
theorem all_cln:∀ (n:Nat) (l:Lab),LOk l → AllA X Any (clnT n l)
 | 0,l,_ => trivial
 | n + 1,l,hl => all_ite (fun _ => trivial) fun _ => all_bind (all_clnC hl (hl.ch 0) fun c hc => all_cln n c hc) fun _ _ => all_ite (fun _ => all_bind (all_clnC hl (hl.ch 1) fun c hc => all_cln n c hc) fun _ _ => trivial) fun _ => trivial
theorem all_bck {th:Lab → Tr Unit} {l:Lab} {v:Int} (hl:LOk l) (h:∀ c,LOk c → AllA X Any (th c)):AllA X Any (bckT th l v):=
 all_bind (all_cas hl rec_in r_inner) fun _ _ => all_ite (fun _ => all_bind (h _ (hl.ch 0)) fun _ _ => h _ (hl.ch 1)) fun _ => trivial
theorem all_mrg {n:Nat} {th:Lab → Tr Unit} {l:Lab} {v:Int} (hl:LOk l) (h:∀ c,LOk c → AllA X Any (th c)):AllA X Any (mrgT bk n th l v):=
 all_bind (all_frz hl (hl.ch 0) n) fun a ha => match a,ha with
  | .over,_ => trivial
  | .unfit,_ => all_bck hl h
  | .fr a,ha => all_bind (all_frz hl (hl.ch 1) n) fun b hb => match b,hb with
   | .over,_ => trivial
   | .unfit,_ => all_bck hl h
   | .fr b,hb => all_ite (fun hu => all_bind (all_cas hl (uni_ok ha hb) (uni_r hu.1)) fun _ _ => all_ite (fun _ => all_cln n l hl) fun _ => trivial) fun _ => all_bck hl h
theorem all_fin {n:Nat} {th:Lab → Tr Unit} {l:Lab} {g:GotA} (hl:LOk l) (hg:GA g) (h:∀ c,LOk c → AllA X Any (th c)):AllA X Any (finT bk n th l g):=
 all_ite (fun _ => all_split hl hg.1.ra) fun _ => all_ite (fun _ => all_mrg hl h) fun _ => trivial
theorem all_thwL:∀ (n:Nat) (l up:Lab),LOk l → LOk up → AllA X Any (thwLT bk n l up)
 | 0,l,up,_,_ => trivial
 | n + 1,l,up,hl,hu => all_bind (all_get hl) fun g hg => all_ite (fun hk => all_bind (all_get hu) fun q hq => all_bind (Q:=Any) (all_ite (fun _ => all_fin hu hq fun c hc => all_ite (fun _ => all_thwL n c (parV c) hc hc.par) fun _ => trivial) fun _ => trivial) fun _ _ => all_ite (fun _ => all_bind (all_cas hl (hg.1.ra.as 1 0).ro (r_as hg.2 hk (.inl ⟨rfl,rfl⟩))) fun _ _ => all_ite (fun _ => trivial) fun _ => all_thwL n l up hl hu) fun _ => trivial) fun _ => trivial
theorem all_thw {n:Nat} {l:Lab} (hl:LOk l):AllA X Any (thwT bk n l):=all_ite (fun _ => all_thwL n l _ hl hl.par) fun _ => trivial
theorem all_fns {n:Nat} {l:Lab} {g:GotA} (hl:LOk l) (hg:GA g):AllA X Any (fnsT bk n l g):=all_fin hl hg fun _ hc => all_thw hc
theorem lok_of {key:Int} (hk:U64 key) (n:Int):LOk (ofV key n):=⟨ofV_isL _,ofV_u hk _⟩
theorem all_lin (hk:U64 key):∀ (n:Nat) (l:Lab),LOk l → AllA X SptOk (linT bk key n l)
 | 0,l,_ => trivial
 | n + 1,l,hl => all_bind (all_get hl) fun g hg => all_ite (fun h => ⟨hg.1,hg.2,h,hl.isl,hl.u⟩) fun _ => all_ite (fun _ => all_bind (all_fns hl hg) fun _ _ => all_lin hk n l hl) fun _ => all_ite (fun _ => all_lin hk n _ (lok_of hk _)) fun _ => all_ite (fun _ => all_bind (all_thw hl) fun _ _ => all_lin hk n _ lok_z) fun _ => all_ite (fun _ => all_bind (all_cas lok_z ⟨⟨by decide,by decide⟩,by decide,fun x hx => by cases hx⟩ r_leaf) fun _ _ => all_lin hk n _ lok_z) fun _ => all_lin hk n _ lok_z
theorem all_lft {n:Nat} {l:Lab} (hl:LOk l):AllA X Any (lftT bk n l):=
 all_ite (fun _ => all_bind (all_get hl.par) fun _ _ => all_ite (fun _ => all_bind (all_thw hl) fun _ _ => trivial) fun _ => trivial) fun _ => trivial
theorem all_bin (hk:U64 key):∀ (n:Nat) (lo hi:Int),AllA X SptOk (binT bk key n lo hi)
 | 0,lo,hi => trivial
 | n + 1,lo,hi => all_ite (fun _ => all_bind (all_get (lok_of hk _)) fun g hg => all_ite (fun h => ⟨hg.1,hg.2,h,ofV_isL _,ofV_u hk _⟩) fun _ => all_ite (fun _ => all_bin hk n _ _) fun _ => all_ite (fun _ => all_bind (all_fns (lok_of hk _) hg) fun _ _ => all_bin hk n _ _) fun _ => all_ite (fun _ => all_bind (all_lft (lok_of hk _)) fun _ _ => all_ite (fun _ => all_bin hk n _ _) fun _ => all_bin hk n _ _) fun _ => all_bin hk n _ _) fun _ => all_lin hk _ _ lok_z
theorem all_sek (hk:U64 key) {how:Int} {n:Nat}:AllA X SptOk (sekT bk how key n):=all_ite (fun _ => all_lin hk _ _ lok_z) fun _ => all_bin hk _ _ _
theorem all_lok (hk:U64 key) {how:Int} {n:Nat}:AllA X (fun a => a.code=0) (lokT bk how key n):=all_bind (all_sek hk) fun _ _ => rfl
end
def SpoR (p:Lab × Spo):Prop:=(p.2.has=true → isR p.2.r=true) ∧ (p.2.has=false → p.2.r=zeroRec)
structure ShfR (L:Shf):Prop where
 good:ShfG L
 sp:∀ p ∈ L,SpoR p
theorem find_spo {L:Shf} (h:∀ p ∈ L,SpoR p) (l:Lab):((spotOf L l).has=true → isR (spotOf L l).r=true) ∧ ((spotOf L l).has=false → (spotOf L l).r=zeroRec):=by
 unfold spotOf
 cases e:findL l L with
 | none => exact ⟨fun h => (by cases h),fun _ => rfl⟩
 | some x =>
  obtain ⟨p,hp,rfl⟩:=find_memL e
  exact h p hp
theorem newL_right:∀ {l:List Rw} {L L':Shf},(∀ p ∈ L,SpoR p) → newL l L=some L' → ∀ p ∈ L',SpoR p
 | [],L,L',h2,h => by
  simp only [newL,Option.some.injEq] at h
  subst h; exact h2
 | r :: l,L,L',h2,h => by
  unfold newL at h
  split at h
  ·cases h
  rename_i hc
  have hc2:isR r.r=true:=by
   simp only [Bool.or_eq_true,Bool.not_eq_true',not_or] at hc
   simpa using hc.2
  refine newL_right (fun p hp => ?_) h
  rcases put_mem hp with rfl | hp
  ·exact ⟨fun _ => hc2,fun h => (by cases h)⟩
  exact h2 p hp
theorem newS_right {l:List Rw} {L:Shf} (hr:∀ r ∈ l,RwG r) (h:newS l=some L):ShfR L:=by
 refine ⟨newS_good hr h,?_⟩
 unfold newS at h
 split at h
 ·cases h
 exact newL_right (fun p hp => by cases hp) h
theorem gotB_of {G:Got} (hc:G.code=0 ∨ G.code=8) (h:(G.has=true → isR G.r=true) ∧ (G.has=false → G.r=zeroRec)):isGotB (gotOf G)=true:=by
 unfold isGotB gotOf
 simp only [Bool.and_eq_true,Bool.or_eq_true,decide_eq_true_eq]
 refine ⟨hc,?_⟩
 by_cases hh:G.has=true
 ·rw [if_pos hh]
  have:=h.1 hh
  rw [← rn_abs G.r,isR_abs] at this
  exact this
 rw [if_neg hh,h.2 (by simpa using hh)]
 rfl
theorem do_right {L:Shf} (hL:ShfR L) {w:Wq} (hw:WqR w) :
  ((L.length:Int) < 2000 → (doL L (wntOf w)).err=0) ∧ (doL L (wntOf w)).L.length ≤ L.length + 1 ∧ ShfR (doL L (wntOf w)).L ∧ isGotB (gotOf (doL L (wntOf w)).got)=true ∧ GA (gotOf (doL L (wntOf w)).got):=by
 obtain ⟨hgd,hv,hr⟩:=doL_good hL.good (w:=wntOf w) ⟨hw.ok.lab.wf,hw.ok.r.nx,hw.ok.r.key⟩
 have hs:=find_spo hL.sp w.lab
 have hcond:((wntOf w).kind=1 ∨ (wntOf w).kind=2 ∨ (wntOf w).kind=3) ∧ isL (wntOf w).lab=true ∧ ((wntOf w).kind=2 → isR (wntOf w).r=true):=⟨hw.kd,hw.ok.lab.isl,hw.put⟩
 have H:((L.length:Int) < 2000 → (doL L (wntOf w)).err=0) ∧ (doL L (wntOf w)).L.length ≤ L.length + 1 ∧ (∀ p ∈ (doL L (wntOf w)).L,SpoR p) ∧ isGotB (gotOf (doL L (wntOf w)).got)=true:=by
  unfold doL
  rw [if_pos hcond]
  split
  ·exact ⟨fun _ => rfl,Nat.le_succ _,hL.sp,gotB_of (.inl rfl) hs⟩
  split
  ·exact ⟨fun _ => rfl,Nat.le_succ _,hL.sp,gotB_of (.inr rfl) ⟨fun h => (by cases h),fun _ => rfl⟩⟩
  split
  ·rename_i hfull
   exact ⟨fun h => by omega,Nat.le_succ _,hL.sp,gotB_of (.inl rfl) ⟨fun h => (by cases h),fun _ => rfl⟩⟩
  refine ⟨fun _ => rfl,?_,fun p hp => ?_,gotB_of (.inl rfl) ⟨fun h => (by cases h),fun _ => rfl⟩⟩
  ·show (putL _ _ L).length ≤ _
   rw [put_len _ _ hL.good.ok.ris]
   split<;>omega
  rcases put_mem hp with rfl | hp
  ·refine ⟨fun h => ?_,fun h => ?_⟩
   ·have h2:(wntOf w).kind=2:=of_decide_eq_true h
    show isR (if (wntOf w).kind=2 then (wntOf w).r else zeroRec)=true
    rw [if_pos h2]; exact hw.put h2
   have h2:¬ (wntOf w).kind=2:=of_decide_eq_false h
   show (if (wntOf w).kind=2 then (wntOf w).r else zeroRec)=zeroRec
   rw [if_neg h2]
  exact hL.sp p hp
 obtain ⟨h1,h2,h3,h4⟩:=H
 have hi:InG (gotOf (doL L (wntOf w)).got):=by
  refine got_in (G:=(doL L (wntOf w)).got) ?_ hv hr
  unfold gotOf GotA.abs
  simp only [rn_abs]
 exact ⟨h1,h2,⟨hgd,h3⟩,h4,got_ok hi h4,got_r h4⟩
theorem seek_tr {J:JobA} (hj:isJobB J=true) (hk:J.kind=3):TrN (seekN J) J.budget (lokT J.bucket J.how J.key) where
 nxt:=fun n f hg => by
  unfold seekN nextR
  rw [if_pos (by simp [hj,hk,hg]),run_lok]
 app:=fun h h' => app_lok _ h h'
theorem budget_in {J:JobA} (hj:isJobB J=true):0 ≤ J.budget ∧ J.budget ≤ 2000:=by
 unfold isJobB btw at hj
 simp only [Bool.and_eq_true,decide_eq_true_eq] at hj
 omega
theorem seek_dir {J:JobA} (hJ:JobIn J) (hj:isJobB J=true) (hk:J.kind=3) {L:Shf} (hL:ShfR L) (k:Int):runQ (seekN J) 3000 2001 [] L k=(lokT J.bucket J.how J.key 2001).dir 3000 J.budget nt0 0 L k:=by
 have hb:=budget_in hj
 exact dir_run (A:=GA) (W:=WqR) (X:=fun _ => True) (Q:=fun a => a.code=0) (R:=ShfR) (seek_tr hj hk) (m:=2001) (by omega) hb.1 (fun w hw => by rcases hw.kd with h | h | h<;>omega) (fun L w hL hw he => by
  obtain ⟨_,_,h3,h4,h5⟩:=do_right hL hw
  exact ⟨h3,h4,h5⟩) (all_lok hJ.key) (by omega) hL k
def JobA.cut (J:JobA) (b:Int):JobA:={ J with budget:=b }
abbrev TQ (α : Type):=α → Nt → Nat → Shf → Int → Prop
def Tr.wp {α : Type} (most b:Int) (Q:TQ α) (E:RunR → Prop):Tr α → Nt → Nat → Shf → Int → Prop
 | .ret a,x,n,L,k => Q a x n L k
 | .dead,x,n,L,k => E ⟨5,zRsl,n,0,L,k⟩
 | .note y t,x,n,L,k => t.wp most b Q E y n L k
 | .ask w f,x,n,L,k =>
  if b ≤ n then E ⟨2,ntR x,n,0,L,k⟩
  else if most ≤ n then E ⟨3,zRsl,n,0,L,k⟩
  else if (doL L (wntOf w)).err ≠ 0 then E ⟨4,zRsl,n,(doL L (wntOf w)).err,(doL L (wntOf w)).L,if (doL L (wntOf w)).wrote then IntKind.i64.wrap (k + 1) else k⟩
  else (f (gotOf (doL L (wntOf w)).got)).wp most b Q E x (n + 1) (doL L (wntOf w)).L (if (doL L (wntOf w)).wrote then IntKind.i64.wrap (k + 1) else k)
section
variable {α β : Type} {most b:Int} {E:RunR → Prop}
theorem wp_bind {Q:TQ β}:∀ {t:Tr α} {f:α → Tr β} {x:Nt} {n:Nat} {L:Shf} {k:Int},t.wp most b (fun a x n L k => (f a).wp most b Q E x n L k) E x n L k → (t.bind f).wp most b Q E x n L k
 | .ret a,f,x,n,L,k,h => h
 | .dead,f,x,n,L,k,h => h
 | .note y t,f,x,n,L,k,h => wp_bind (t:=t) h
 | .ask w g,f,x,n,L,k,h => by
  unfold Tr.wp at h
  show (Tr.ask w fun a => (g a).bind f).wp most b Q E x n L k
  unfold Tr.wp
  by_cases h1:b ≤ n
  ·rw [if_pos h1] at h ⊢; exact h
  rw [if_neg h1] at h ⊢
  by_cases h2:most ≤ n
  ·rw [if_pos h2] at h ⊢; exact h
  rw [if_neg h2] at h ⊢
  by_cases h3:(doL L (wntOf w)).err ≠ 0
  ·rw [if_pos h3] at h ⊢; exact h
  rw [if_neg h3] at h ⊢; exact wp_bind (t:=g _) h
theorem wp_mono {Q R:TQ α} {F:RunR → Prop} (hE:∀ r,E r → F r):∀ {t:Tr α} {x:Nt} {n:Nat} {L:Shf} {k:Int},t.wp most b Q E x n L k → (∀ a x n L k,Q a x n L k → R a x n L k) → t.wp most b R F x n L k
 | .ret a,x,n,L,k,h,hq => hq _ _ _ _ _ h
 | .dead,x,n,L,k,h,hq => hE _ h
 | .note y t,x,n,L,k,h,hq => wp_mono hE (t:=t) h hq
 | .ask w g,x,n,L,k,h,hq => by
  unfold Tr.wp at h ⊢
  by_cases h1:b ≤ n
  ·rw [if_pos h1] at h ⊢; exact hE _ h
  rw [if_neg h1] at h ⊢
  by_cases h2:most ≤ n
  ·rw [if_pos h2] at h ⊢; exact hE _ h
  rw [if_neg h2] at h ⊢
  by_cases h3:(doL L (wntOf w)).err ≠ 0
  ·rw [if_pos h3] at h ⊢; exact hE _ h
  rw [if_neg h3] at h ⊢; exact wp_mono hE (t:=g _) h hq
theorem wp_ite {Q:TQ α} {c:Prop} [Decidable c] {t u:Tr α} {x:Nt} {n:Nat} {L:Shf} {k:Int} (ht:c → t.wp most b Q E x n L k) (hu:¬ c → u.wp most b Q E x n L k):(if c then t else u).wp most b Q E x n L k:=by
 by_cases h:c
 ·rw [if_pos h]; exact ht h
 rw [if_neg h]; exact hu h
end
theorem wp_dir {most b:Int} {P:RunR → Prop}:∀ {t:Tr Rsl} {x:Nt} {n:Nat} {L:Shf} {k:Int},t.wp most b (fun a x n L k => P ⟨2,a,n,0,L,k⟩) P x n L k → P (t.dir most b x n L k)
 | .ret a,x,n,L,k,h => h
 | .dead,x,n,L,k,h => h
 | .note y t,x,n,L,k,h => wp_dir (t:=t) h
 | .ask w g,x,n,L,k,h => by
  unfold Tr.wp at h
  unfold Tr.dir
  by_cases h1:b ≤ n
  ·rw [if_pos h1] at h ⊢; exact h
  rw [if_neg h1] at h ⊢
  by_cases h2:most ≤ n
  ·rw [if_pos h2] at h ⊢; exact h
  rw [if_neg h2] at h ⊢
  by_cases h3:(doL L (wntOf w)).err ≠ 0
  ·rw [if_pos h3] at h ⊢; exact h
  rw [if_neg h3] at h ⊢; exact wp_dir (t:=g _) h
abbrev gotAtL (L:Shf) (l:Lab):GotA:=gotOf ⟨0,(spotOf L l).ver,(spotOf L l).has,(spotOf L l).r⟩
theorem doL_get {L:Shf} {l:Lab} (hl:isL l=true):doL L (wntOf ⟨1,l,0,zeroRec,zRsl⟩)=⟨L,false,⟨0,(spotOf L l).ver,(spotOf L l).has,(spotOf L l).r⟩,0⟩:=by
 unfold doL wntOf
 rw [if_pos ⟨.inl rfl,hl,fun h => absurd h (by show ¬ (1:Int)=2; decide)⟩,if_pos rfl]
theorem doL_cas {L:Shf} {l:Lab} {r:Rec} (hl:isL l=true) (hr:isR r=true) (hf:L.length < 2000):doL L (wntOf ⟨2,l,(spotOf L l).ver,r,zRsl⟩)=⟨putL l ⟨inc (spotOf L l).ver,true,r⟩ L,true,⟨0,inc (spotOf L l).ver,false,zeroRec⟩,0⟩:=by
 unfold doL wntOf
 rw [if_pos ⟨.inr (.inl rfl),hl,fun _ => hr⟩,if_neg (by show ¬ (2:Int)=1; decide),if_neg (fun h => h rfl),if_neg (by omega)]
 rfl
theorem spot_put' (L:Shf) (l:Lab) (x:Spo) (l':Lab):spotOf (putL l x L) l'=if l=l' then x else spotOf L l':=by
 unfold spotOf
 rw [find_put]
 split<;>rfl
section
variable {α : Type} {most b:Int} {E:RunR → Prop} {x:Nt} {n:Nat} {L:Shf} {k:Int}
theorem wp_get {Q:TQ GotA} {l:Lab} (hl:LOk l) (h1:(n:Int) < b) (h2:b ≤ most) (h:Q (gotAtL L l) x (n + 1) L k):(getT l).wp most b Q E x n L k:=by
 unfold getT askT Tr.wp
 rw [if_neg (by omega),if_neg (by omega),doL_get hl.isl,if_neg (fun h => h rfl)]
 exact h
theorem wp_cas {Q:TQ Bool} {l:Lab} {r:Rec} {v:Int} (hl:LOk l) (hr:isR r=true) (hv:v=(spotOf L l).ver) (hf:L.length < 2000) (h1:(n:Int) < b) (h2:b ≤ most) (h:Q true x (n + 1) (putL l ⟨inc v,true,r⟩ L) (IntKind.i64.wrap (k + 1))):(casT l v r).wp most b Q E x n L k:=by
 subst hv
 refine wp_bind ?_
 unfold askT Tr.wp
 rw [if_neg (by omega),if_neg (by omega),doL_cas hl.isl hr hf,if_neg (fun h => h rfl)]
 exact h
end
theorem ch_val {l:Lab} (hl:LOk l) (h64:l.len ≠ 64) (b:Int):chV l b=childL l b:=by
 unfold chV chE
 rw [hl.isl]
 simp [h64]
theorem ch_len {l:Lab} (hl:LOk l) (h64:l.len ≠ 64) (b:Int):(chV l b).len=l.len + 1:=by rw [ch_val hl h64]; rfl
theorem ch_ne {l:Lab} (hl:LOk l) (h64:l.len ≠ 64) (b:Int):chV l b ≠ l:=fun h => by
 have:=ch_len hl h64 b
 rw [h] at this; omega
theorem ch_two {l:Lab} (hl:LOk l) (h64:l.len ≠ 64):chV l 0 ≠ chV l 1:=by
 rw [ch_val hl h64,ch_val hl h64]
 intro h
 have h2:l.bits=l.bits + ((2 ^ (63 - l.len.toNat):Nat):Int):=by
  have:=congrArg Lab.bits h
  simpa [childL] using this
 have:0 < 2 ^ (63 - l.len.toNat):=Nat.pow_pos (by decide)
 omega
theorem ch_par {l:Lab} (hl:LOk l) (h64:l.len ≠ 64) (b:Int):parE (chV l b)=0 ∧ parV (chV l b)=l:=by
 have hlen:=ch_len hl h64 b
 obtain ⟨h0,h1,h2⟩:=lab_parts hl.isl
 have hE:parE (chV l b)=0:=by
  unfold parE
  rw [(hl.ch b).isl,if_neg (by decide),if_neg (by omega)]
 refine ⟨hE,?_⟩
 unfold parV
 rw [if_pos hE,ch_val hl h64]
 obtain ⟨q,hq,hq2⟩:=lab_mul hl.isl hl.u h64
 have hpos:0 < 2 ^ (63 - l.len.toNat):=Nat.pow_pos (by decide)
 unfold parL
 refine lab_ext (by show l.len + 1 - 1=l.len; omega) ?_
 show ((headN (childL l b).bits.toNat ((l.len + 1).toNat - 1):Nat):Int)=l.bits
 have hn:(l.len + 1).toNat - 1=l.len.toNat:=by omega
 rw [hn]
 have hb:(childL l b).bits.toNat=(if b=1 then 2 ^ (63 - l.len.toNat) else 0) + (2 * 2 ^ (63 - l.len.toNat)) * q:=by
  unfold childL
  simp only
  split
  ·rw [hq,Nat.mul_comm q]; omega
  rw [hq,Nat.mul_comm q]; omega
 unfold headN
 have hn64:l.len.toNat < 64:=by omega
 rw [half_pow hn64,hb,Nat.add_mul_div_left _ _ (Nat.mul_pos (by decide) hpos),hq]
 have hz:(if b=1 then 2 ^ (63 - l.len.toNat) else 0) / (2 * 2 ^ (63 - l.len.toNat))=0:=by
  apply Nat.div_eq_of_lt
  split<;>omega
 rw [hz,Nat.zero_add]
theorem gotAt_ga {L:Shf} (hR:ShfR L) {l:Lab} (hl:LOk l):GA (gotAtL L l):=by
 have h:=(do_right hR (w:=⟨1,l,0,zeroRec,zRsl⟩) ⟨⟨hl,rec_z⟩,.inl rfl,fun h => absurd h (by show ¬ (1:Int)=2; decide)⟩).2.2.2.2
 rw [doL_get hl.isl] at h
 exact h
theorem put_right {L:Shf} (hR:ShfR L) (hf:L.length < 2000) {l:Lab} {r:Rec} (hl:LOk l) (hro:RecOk r) (hr:isR r=true):ShfR (putL l ⟨inc (spotOf L l).ver,true,r⟩ L) ∧ (putL l ⟨inc (spotOf L l).ver,true,r⟩ L).length ≤ L.length + 1:=by
 have h:=do_right hR (w:=⟨2,l,(spotOf L l).ver,r,zRsl⟩) ⟨⟨hl,hro⟩,.inr (.inl rfl),fun _ => hr⟩
 rw [doL_cas hl.isl hr hf] at h
 exact ⟨h.2.2.1,h.2.1⟩
theorem gk_iff (L:Shf) (l:Lab) (kd:Int):gk (gotAtL L l) kd=true ↔ (spotOf L l).has=true ∧ (spotOf L l).r.kind=kd:=by
 unfold gk gotAtL gotOf
 simp only [Bool.and_eq_true,decide_eq_true_eq]
 rfl
structure Beh (c:Lab) (d:Nat) (L L':Shf):Prop where
 right:ShfR L'
 len:L'.length ≤ L.length + d
 else_:∀ l,l ≠ c → spotOf L' l=spotOf L l
theorem Beh.refl {c:Lab} {L:Shf} (h:ShfR L) (d:Nat):Beh c d L L:=⟨h,by omega,fun _ _ => rfl⟩
theorem beh_put {L:Shf} (hR:ShfR L) (hf:L.length < 2000) {l:Lab} {r:Rec} (hl:LOk l) (hro:RecOk r) (hr:isR r=true):Beh l 1 L (putL l ⟨inc (spotOf L l).ver,true,r⟩ L):=by
 obtain ⟨h1,h2⟩:=put_right hR hf hl hro hr
 exact ⟨h1,h2,fun l' h => by rw [spot_put',if_neg (fun e => h e.symm)]⟩
section
variable {most b:Int} {E:RunR → Prop} {x:Nt} {n:Nat} {L:Shf} {k:Int} {bk:Int}
end
section
variable {X:Nt → Prop} {l:Lab}
end
section
variable {most b:Int} {x:Nt} {n:Nat} {L:Shf} {k:Int} {bk:Int}
theorem uni_kind {y z:RA} (h:(uniA y z).2=0):(uniA y z).1.kind=1:=by
 unfold uniA uniR at h ⊢
 split at h
 ·cases h
 rename_i h1
 rw [if_neg h1]
 split at h
 ·cases h
 rename_i h2
 rw [if_neg h2]
 split at h
 ·cases h
 rename_i h3
 rw [if_neg h3]
 split at h
 ·cases h
 rename_i h4
 rw [if_neg h4]
theorem halv_kind {y:RA} {l:Lab} (h:(halvA y l).2.2=0):(halvA y l).1.kind=1 ∧ (halvA y l).2.1.kind=1:=by
 unfold halvA halvR at h ⊢
 split at h
 ·cases h
 rename_i h1
 rw [if_neg h1]
 split at h
 ·cases h
 rename_i h2
 rw [if_neg h2]
 split at h
 ·cases h
 rename_i h3
 rw [if_neg h3]
 exact ⟨rfl,rfl⟩
end
def TL (L:Shf):Tre:=fun q => if (spotOf L q).has=true then some (spotOf L q).r else none
def Mean (L:Shf):List Itm:=meansP (TL L) 65 ⟨0,0⟩
theorem TL_put (L:Shf) (l:Lab) (x:Spo) (q:Lab):TL (putL l x L) q=if l=q then (if x.has=true then some x.r else none) else TL L q:=by
 unfold TL
 rw [spot_put']
 split<;>rfl
theorem kidP_congr {T T':Tre} {F F':Lab → List Itm} {r:Rec} {c:Lab} (h1:frozP T' c=frozP T c) (h2:F' c=F c):kidP T' F' r c=kidP T F r c:=by
 unfold kidP
 rw [h1,h2]
theorem frozP_congr {T T':Tre} {c:Lab} (h:T' c=T c):frozP T' c=frozP T c:=by unfold frozP; rw [h]
theorem means_deep {T T':Tre} {c:Lab} (hT:∀ q,q ≠ c → T' q=T q):∀ (f:Nat) (q:Lab),LOk q → c.len < q.len → meansP T' f q=meansP T f q
 | 0,q,_,_ => rfl
 | f + 1,q,hq,hl => by
  unfold meansP
  rw [hT q (fun e => by rw [e] at hl; omega)]
  cases hr:T q with
  | none => rfl
  | some r =>
   simp only
   split
   ·rfl
   split
   ·rename_i hce
    obtain ⟨h1,h2,h3⟩:=ch_okT hce
    have hlen:∀ b,(chV q b).len=q.len + 1:=fun b => by rw [h3]; rfl
    have k:∀ b,kidP T' (meansP T' f) r (chV q b)=kidP T (meansP T f) r (chV q b):=fun b =>
     kidP_congr (frozP_congr (hT _ fun e => by have:=hlen b; rw [e] at this; omega)) (means_deep hT f _ (hq.ch b) (by rw [hlen]; omega))
    rw [k,k]
   rfl
theorem means_chg {T T':Tre} {c:Lab} (hT:∀ q,q ≠ c → T' q=T q) (hk:∀ q r,LOk q → T q=some r → ¬ (r.kind=1 ∨ r.kind=5) → chE q 0=0 → (c=chV q 0 ∨ c=chV q 1) → ∀ f:Nat,65 ≤ f + c.len → kidP T' (meansP T' f) r c=kidP T (meansP T f) r c) :
  ∀ (f:Nat) (q:Lab),LOk q → q ≠ c → 65 ≤ f + q.len → meansP T' f q=meansP T f q
 | 0,q,hq,_,h65 => by have:=(lab_parts hq.isl).2.1; omega
 | f + 1,q,hq,hne,h65 => by
  unfold meansP
  rw [hT q hne]
  cases hr:T q with
  | none => rfl
  | some r =>
   simp only
   split
   ·rfl
   rename_i hkd
   split
   ·rename_i hce
    obtain ⟨h1,h2,h3⟩:=ch_okT hce
    have hlen:∀ b,(chV q b).len=q.len + 1:=fun b => by rw [h3]; rfl
    have k:∀ b,(b=0 ∨ b=1) → kidP T' (meansP T' f) r (chV q b)=kidP T (meansP T f) r (chV q b):=fun b hb => by
     by_cases e:chV q b=c
     ·rw [e]
      refine hk q r hq hr hkd hce ?_ f (by rw [← e,hlen]; omega)
      rcases hb with rfl | rfl
      ·exact .inl e.symm
      exact .inr e.symm
     exact kidP_congr (frozP_congr (hT _ e)) (means_chg hT hk f _ (hq.ch b) e (by rw [hlen]; omega))
    rw [k 0 (.inl rfl),k 1 (.inr rfl)]
   rfl
theorem lok_root:LOk ⟨0,0⟩:=⟨by decide,⟨by decide,by decide⟩⟩
theorem ch_inj {q q':Lab} (hq:LOk q) (hq':LOk q') (h:chE q 0=0) (h':chE q' 0=0) {b b':Int} (e:chV q b=chV q' b'):q=q':=by
 have h1:=(ch_par hq (ch_okT h).2.1 b).2
 have h2:=(ch_par hq' (ch_okT h').2.1 b').2
 rw [← h1,← h2,e]
theorem mean_kid {L:Shf} {l:Lab} {i:Int} {x:Spo} {r:Rec} (hl:LOk l) (h64:l.len ≠ 64) (hr:TL L l=some r)
  (hk:¬ (r.kind=1 ∨ r.kind=5) → ∀ f:Nat,65 ≤ f + (chV l i).len → kidP (TL (putL (chV l i) x L)) (meansP (TL (putL (chV l i) x L)) f) r (chV l i)=kidP (TL L) (meansP (TL L) f) r (chV l i)):Mean (putL (chV l i) x L)=Mean L:=by
 have hlen:=ch_len hl h64 i
 have h0:=(lab_parts hl.isl).1
 refine means_chg (c:=chV l i) (fun q hq => by rw [TL_put,if_neg fun e => hq e.symm]) (fun q r' hq hr' hkd hce hc f hf => ?_) 65 ⟨0,0⟩ lok_root (fun e => by have:=congrArg Lab.len e; rw [hlen] at this; have:(0:Int)=l.len + 1:=this; omega) (by decide)
 have hce':chE l 0=0:=by unfold chE; rw [hl.isl]; simp [h64]
 have e:q=l:=by
  rcases hc with hc | hc
  ·exact (ch_inj hl hq hce' hce hc).symm
  exact (ch_inj hl hq hce' hce hc).symm
 subst e
 rw [hr] at hr'
 injection hr' with hr'
 subst hr'
 exact hk hkd f hf
theorem mean_self {L:Shf} {l:Lab} {x:Spo} (hl:LOk l) (h1:frozP (TL (putL l x L)) l=frozP (TL L) l) (h2:∀ f:Nat,65 ≤ f + l.len → meansP (TL (putL l x L)) f l=meansP (TL L) f l):Mean (putL l x L)=Mean L:=by
 by_cases e:l=⟨0,0⟩
 ·subst e
  exact h2 65 (by decide)
 refine means_chg (c:=l) (fun q hq => by rw [TL_put,if_neg fun e => hq e.symm]) (fun q r' hq hr' hkd hce hc f hf => ?_) 65 ⟨0,0⟩ lok_root (fun e' => e e'.symm) (by decide)
 exact kidP_congr h1 (h2 f hf)
theorem TL_some {L:Shf} {l:Lab} (h:(spotOf L l).has=true):TL L l=some (spotOf L l).r:=by unfold TL; rw [if_pos h]
theorem froz_of {L:Shf} {l:Lab} (h:(spotOf L l).has=true):frozP (TL L) l=decide ((spotOf L l).r.kind=5):=by unfold frozP; rw [TL_some h]
theorem means_leafK {T:Tre} {l:Lab} {r:Rec} (h:T l=some r) (hk:r.kind=1 ∨ r.kind=5) {f:Nat} (hf:0 < f):meansP T f l=r.items:=by
 obtain ⟨f,rfl⟩:∃ g,f=g + 1:=⟨f - 1,by omega⟩
 unfold meansP
 rw [h]
 exact if_pos hk
theorem means_inK {T:Tre} {l:Lab} {r:Rec} (hl:LOk l) (h64:l.len ≠ 64) (h:T l=some r) (hk:¬ (r.kind=1 ∨ r.kind=5)) (f:Nat):meansP T (f + 1) l=kidP T (meansP T f) r (chV l 0) ++ kidP T (meansP T f) r (chV l 1):=by
 have hce:chE l 0=0:=by unfold chE; rw [hl.isl]; simp [h64]
 unfold meansP
 rw [h]
 simp only [if_neg hk,if_pos hce]
theorem kid_not3 {T:Tre} {F:Lab → List Itm} {r:Rec} {c:Lab} (h:r.kind ≠ 3):kidP T F r c=F c:=by
 unfold kidP; rw [if_neg fun h' => h h'.1]
theorem kid_notF {T:Tre} {F:Lab → List Itm} {r:Rec} {c:Lab} (h:frozP T c=false):kidP T F r c=F c:=by
 unfold kidP; rw [if_neg fun h' => by rw [h] at h'; cases h'.2]
theorem fuel_pos {f:Nat} {l:Lab} (hl:LOk l) (h:65 ≤ f + l.len):0 < f:=by have:=(lab_parts hl.isl).2.1; omega
theorem mean_thaw {L:Shf} {l:Lab} {i:Int} {v:Int} {y:Rec} (hl:LOk l) (h64:l.len ≠ 64) (hp:(spotOf L l).has=true) (hp3:(spotOf L l).r.kind ≠ 3) (hc:(spotOf L (chV l i)).has=true) (hck:(spotOf L (chV l i)).r.kind=1 ∨ (spotOf L (chV l i)).r.kind=5) (hy:y.kind=1 ∨ y.kind=5) (hi:y.items=(spotOf L (chV l i)).r.items):Mean (putL (chV l i) ⟨v,true,y⟩ L)=Mean L:=by
 refine mean_kid hl h64 (TL_some hp) fun _ f hf => ?_
 have hfp:=fuel_pos (hl.ch i) hf
 rw [kid_not3 hp3,kid_not3 hp3,means_leafK (r:=y) (by rw [TL_put,if_pos rfl]; rfl) hy hfp,means_leafK (TL_some hc) hck hfp,hi]
theorem mean_half {L:Shf} {l:Lab} {i:Int} {v:Int} {y:Rec} (hl:LOk l) (h64:l.len ≠ 64) (hp:(spotOf L l).has=true) (hp3:(spotOf L l).r.kind=3) (hc:(spotOf L (chV l i)).has=true → (spotOf L (chV l i)).r.kind=5) (hy:y.kind=1) (hi:y.items=covL (chV l i) (spotOf L l).r.items):Mean (putL (chV l i) ⟨v,true,y⟩ L)=Mean L:=by
 refine mean_kid hl h64 (TL_some hp) fun _ f hf => ?_
 have hfp:=fuel_pos (hl.ch i) hf
 have hT':TL (putL (chV l i) ⟨v,true,y⟩ L) (chV l i)=some y:=by rw [TL_put,if_pos rfl]; rfl
 have f1:frozP (TL (putL (chV l i) ⟨v,true,y⟩ L)) (chV l i)=false:=by
  unfold frozP; rw [hT']; simp [hy]
 have f0:frozP (TL L) (chV l i)=true:=by
  cases hh:(spotOf L (chV l i)).has with
  | true => rw [froz_of hh,hc hh]; rfl
  | false => unfold frozP TL; rw [hh]; rfl
 rw [kid_notF f1,means_leafK hT' (.inl hy) hfp,hi]
 unfold kidP
 rw [if_pos ⟨hp3,f0⟩]
theorem mean_inner {L:Shf} {l:Lab} {v:Int} (hl:LOk l) (h64:l.len ≠ 64) (hp:(spotOf L l).has=true) (hk:(spotOf L l).r.kind ≠ 1 ∧ (spotOf L l).r.kind ≠ 5) (h3:(spotOf L l).r.kind=3 → frozP (TL L) (chV l 0)=false ∧ frozP (TL L) (chV l 1)=false):Mean (putL l ⟨v,true,innerR⟩ L)=Mean L:=by
 have hT':TL (putL l ⟨v,true,innerR⟩ L) l=some innerR:=by rw [TL_put,if_pos rfl]; rfl
 refine mean_self hl ?_ fun f hf => ?_
 ·rw [froz_of hp,decide_eq_false hk.2]
  unfold frozP; rw [hT']; rfl
 obtain ⟨f,rfl⟩:∃ g,f=g + 1:=⟨f - 1,by have:=fuel_pos hl hf; omega⟩
 rw [means_inK hl h64 hT' (by show ¬ ((2:Int)=1 ∨ (2:Int)=5); decide),means_inK hl h64 (TL_some hp) (fun h => by rcases h with h | h; exact hk.1 h; exact hk.2 h)]
 have hd:∀ i,meansP (TL (putL l ⟨v,true,innerR⟩ L)) f (chV l i)=meansP (TL L) f (chV l i):=fun i => means_deep (c:=l) (fun q hq => by rw [TL_put,if_neg fun e => hq e.symm]) f _ (hl.ch i) (by rw [ch_len hl h64]; omega)
 rw [kid_not3 (by decide),kid_not3 (by decide),hd,hd]
 by_cases e:(spotOf L l).r.kind=3
 ·rw [kid_notF (h3 e).1,kid_notF (h3 e).2]
 rw [kid_not3 e,kid_not3 e]
theorem mean_union {L:Shf} {l:Lab} {v:Int} {y:Rec} (hl:LOk l) (h64:l.len ≠ 64) (hp:(spotOf L l).has=true) (hk:(spotOf L l).r.kind=2 ∨ (spotOf L l).r.kind=4) (h0:(spotOf L (chV l 0)).has=true ∧ (spotOf L (chV l 0)).r.kind=5) (h1:(spotOf L (chV l 1)).has=true ∧ (spotOf L (chV l 1)).r.kind=5) (hy:y.kind=1) (hi:y.items=(spotOf L (chV l 0)).r.items ++ (spotOf L (chV l 1)).r.items):Mean (putL l ⟨v,true,y⟩ L)=Mean L:=by
 have hT':TL (putL l ⟨v,true,y⟩ L) l=some y:=by rw [TL_put,if_pos rfl]; rfl
 refine mean_self hl ?_ fun f hf => ?_
 ·rw [froz_of hp,decide_eq_false (by rcases hk with h | h<;>rw [h]<;>decide)]
  unfold frozP; rw [hT']; simp [hy]
 have h64':=(lab_parts hl.isl).2.1
 obtain ⟨f,rfl⟩:∃ g,f=g + 2:=⟨f - 2,by omega⟩
 rw [means_leafK hT' (.inl hy) (by omega),means_inK hl h64 (TL_some hp) (by rcases hk with h | h<;>rw [h]<;>decide) (f + 1)]
 have h3:(spotOf L l).r.kind ≠ 3:=by rcases hk with h | h<;>rw [h]<;>decide
 rw [kid_not3 h3,kid_not3 h3,means_leafK (TL_some h0.1) (.inr h0.2) (by omega),means_leafK (TL_some h1.1) (.inr h1.2) (by omega),hi]
theorem mean_drop {L:Shf} {l:Lab} {i:Int} {x:Spo} (hl:LOk l) (h64:l.len ≠ 64) (hp:(spotOf L l).has=true) (hk:(spotOf L l).r.kind=1 ∨ (spotOf L l).r.kind=5):Mean (putL (chV l i) x L)=Mean L:=
 mean_kid hl h64 (TL_some hp) fun h => absurd hk h
def isFz (s:Spo):Bool:=s.has && decide (s.r.kind=5)
def fzN (L:Shf):Nat:=L.countP fun p => isFz p.2
theorem spot_cons {p:Lab × Spo} {L:Shf} {l:Lab} (h:p.1 ≠ l):spotOf (p :: L) l=spotOf L l:=by
 unfold spotOf
 rw [show findL l (p :: L)=findL l L from if_neg h]
theorem spot_head {p:Lab × Spo} {L:Shf} {l:Lab} (h:p.1=l):spotOf (p :: L) l=p.2:=by
 unfold spotOf
 rw [show findL l (p :: L)=some p.2 from if_pos h]
 rfl
theorem spot_none {L:Shf} {l:Lab} (h:findL l L=none):spotOf L l=zeroSpo:=by
 unfold spotOf; rw [h]; rfl
theorem fz_cons (p:Lab × Spo) (L:Shf):fzN (p :: L)=fzN L + (isFz p.2).toNat:=by
 unfold fzN
 rw [List.countP_cons]
 cases isFz p.2<;>rfl
theorem fz_put {l:Lab} {x:Spo}:∀ {L:Shf},Rises L → fzN (putL l x L) + (isFz (spotOf L l)).toNat=fzN L + (isFz x).toNat
 | [],_ => by
  show fzN [(l,x)] + 0=_
  rw [fz_cons]
  show 0 + (isFz x).toNat + 0=0 + _
  omega
 | p :: L,h => by
  have h':=List.pairwise_cons.1 h
  unfold putL
  by_cases hp:lessL p.1 l=true
  ·rw [if_pos hp,fz_cons,fz_cons,spot_cons (less_ne hp)]
   have:=fz_put (l:=l) (x:=x) h'.2
   omega
  rw [if_neg hp]
  by_cases he:p.1=l
  ·rw [if_pos he,fz_cons,fz_cons,spot_head he]
   show fzN L + (isFz x).toNat + _=_
   omega
  rw [if_neg he,fz_cons]
  have hn:findL l (p :: L)=none:=by
   unfold findL
   rw [if_neg he]
   refine find_of_less fun q hq => ?_
   rcases less_total p.1 l with h1 | h1 | h1
   ·exact absurd h1 hp
   ·exact absurd h1 he
   exact less_trans h1 (h'.1 q hq)
  rw [spot_none hn]
  show fzN (p :: L) + (isFz x).toNat + 0=_
  omega
theorem spot_mem:∀ {L:Shf} {p:Lab × Spo},Rises L → p ∈ L → spotOf L p.1=p.2
 | q :: L,p,h,hp => by
  have h':=List.pairwise_cons.1 h
  rcases List.mem_cons.1 hp with rfl | hp
  ·exact spot_head rfl
  rw [spot_cons (less_ne (h'.1 p hp))]
  exact spot_mem h'.2 hp
theorem fz_zero {L:Shf} (hr:Rises L) (h:∀ q,isFz (spotOf L q)=false):fzN L=0:=by
 unfold fzN
 rw [List.countP_eq_zero]
 intro p hp
 rw [← spot_mem hr hp,h]
 decide
theorem ShfR.ris {L:Shf} (h:ShfR L):Rises L:=h.good.ok.ris
theorem fz_pos {L:Shf} (hr:Rises L) {l:Lab} (h:isFz (spotOf L l)=true):1 ≤ fzN L:=by
 have:=fz_put (l:=l) (x:=zeroSpo) hr
 rw [h] at this
 have e:(isFz zeroSpo).toNat=0:=rfl
 rw [e] at this
 have e2:true.toNat=1:=rfl
 omega
theorem gk5 (L:Shf) (l:Lab):gk (gotAtL L l) 5=isFz (spotOf L l):=rfl
theorem isFz_iff {s:Spo}:isFz s=true ↔ s.has=true ∧ s.r.kind=5:=by
 unfold isFz
 simp only [Bool.and_eq_true,decide_eq_true_eq]
theorem uni_items {y z:RA} (h:(uniA y z).2=0):(uniA y z).1.items=y.r.abs.items ++ z.r.abs.items:=by
 unfold uniA uniR at h ⊢
 split at h
 ·cases h
 rename_i h1
 rw [if_neg h1]
 split at h
 ·cases h
 rename_i h2
 rw [if_neg h2]
 split at h
 ·cases h
 rename_i h3
 rw [if_neg h3]
 split at h
 ·cases h
 rename_i h4
 rw [if_neg h4]
 rfl
theorem halv_is {y:RA} {l:Lab} (h:(halvA y l).2.2=0):l.len ≠ 64 ∧ (halvA y l).1.items=covL (childL l 0) y.r.abs.items ∧ (halvA y l).2.1.items=covL (childL l 1) y.r.abs.items:=by
 unfold halvA halvR at h ⊢
 split at h
 ·cases h
 rename_i h1
 rw [if_neg h1]
 split at h
 ·cases h
 rename_i h2
 rw [if_neg h2]
 split at h
 ·cases h
 rename_i h3
 rw [if_neg h3]
 exact ⟨h3,rfl,rfl⟩
theorem doL_drp {L:Shf} {l:Lab} (hl:isL l=true) (hs:(spotOf L l).has=true):doL L (wntOf ⟨3,l,(spotOf L l).ver,zeroRec,zRsl⟩)=⟨putL l ⟨inc (spotOf L l).ver,false,zeroRec⟩ L,true,⟨0,inc (spotOf L l).ver,false,zeroRec⟩,0⟩:=by
 have hn:(findL l L).isNone=false:=by
  cases e:findL l L with
  | none => rw [spot_none e] at hs; cases hs
  | some y => rfl
 unfold doL wntOf
 rw [if_pos ⟨.inr (.inr rfl),hl,fun h => absurd h (by show ¬ (3:Int)=2; decide)⟩,if_neg (by show ¬ (3:Int)=1; decide),if_neg (fun h => h rfl),if_neg (by show ¬ ((findL l L).isNone=true ∧ _); rw [hn]; rintro ⟨h,_⟩; cases h)]
 rfl
section
variable {most b:Int} {E:RunR → Prop} {x:Nt} {n:Nat} {L:Shf} {k:Int} {bk:Int}
theorem wp_drp {Q:TQ Bool} {l:Lab} {v:Int} (hl:LOk l) (hv:v=(spotOf L l).ver) (hs:(spotOf L l).has=true) (h1:(n:Int) < b) (h2:b ≤ most) (h:Q true x (n + 1) (putL l ⟨inc v,false,zeroRec⟩ L) (IntKind.i64.wrap (k + 1))):(drpT l v).wp most b Q E x n L k:=by
 subst hv
 refine wp_bind ?_
 unfold askT Tr.wp
 rw [if_neg (by omega),if_neg (by omega),doL_drp hl.isl hs,if_neg (fun h => h rfl)]
 exact h
theorem drp_right (hR:ShfR L) {l:Lab} (hl:LOk l) (hs:(spotOf L l).has=true):ShfR (putL l ⟨inc (spotOf L l).ver,false,zeroRec⟩ L) ∧ (putL l ⟨inc (spotOf L l).ver,false,zeroRec⟩ L).length ≤ L.length:=by
 have h:=do_right hR (w:=⟨3,l,(spotOf L l).ver,zeroRec,zRsl⟩) ⟨⟨hl,rec_z⟩,.inr (.inr rfl),fun h => absurd h (by show ¬ (3:Int)=2; decide)⟩
 rw [doL_drp hl.isl hs] at h
 refine ⟨h.2.2.1,?_⟩
 rw [put_len _ _ hR.ris]
 have hn:(findL l L).isSome=true:=by
  cases e:findL l L with
  | none => rw [spot_none e] at hs; cases hs
  | some y => rfl
 rw [if_pos hn]
 exact Nat.le_refl _
structure Cl (l:Lab) (L L':Shf):Prop where
 right:ShfR L'
 len:L'.length ≤ L.length
 mean:Mean L'=Mean L
 drp:∀ q,spotOf L' q=spotOf L q ∨ (l.len < q.len ∧ isFz (spotOf L q)=true ∧ (spotOf L' q).has=false)
theorem Cl.refl {l:Lab} (h:ShfR L):Cl l L L:=⟨h,Nat.le_refl _,rfl,fun _ => .inl rfl⟩
theorem Cl.trans {l l':Lab} {L' L'':Shf} (h:Cl l L L') (h':Cl l' L' L'') (hl:l.len ≤ l'.len):Cl l L L'':=by
 refine ⟨h'.right,Nat.le_trans h'.len h.len,h'.mean.trans h.mean,fun q => ?_⟩
 rcases h'.drp q with e | ⟨a1,a2,a3⟩
 ·rcases h.drp q with e2 | ⟨c1,c2,c3⟩
  ·exact .inl (e.trans e2)
  exact .inr ⟨c1,c2,by rw [e]; exact c3⟩
 rcases h.drp q with e2 | ⟨c1,c2,c3⟩
 ·exact .inr ⟨by omega,by rw [← e2]; exact a2,a3⟩
 rw [isFz_iff] at a2
 rw [c3] at a2
 cases a2.1
theorem Cl.same {l:Lab} {L':Shf} (h:Cl l L L') {q:Lab} (hq:q.len ≤ l.len):spotOf L' q=spotOf L q:=by
 rcases h.drp q with e | ⟨h1,_⟩
 ·exact e
 omega
theorem Cl.fz {l:Lab} {L':Shf} (h:Cl l L L') {q:Lab} (hq:isFz (spotOf L q)=false):spotOf L' q=spotOf L q:=by
 rcases h.drp q with e | ⟨_,h1,_⟩
 ·exact e
 rw [hq] at h1; cases h1
abbrev Lfy (s:Spo):Prop:=s.has=true ∧ (s.r.kind=1 ∨ s.r.kind=5)
theorem gk15 (l:Lab):(gk (gotAtL L l) 1 || gk (gotAtL L l) 5)=true ↔ Lfy (spotOf L l):=by
 rw [Bool.or_eq_true,gk_iff,gk_iff]
 constructor
 ·rintro (⟨a,c⟩ | ⟨a,c⟩)
  ·exact ⟨a,.inl c⟩
  exact ⟨a,.inr c⟩
 rintro ⟨a,c | c⟩
 ·exact .inl ⟨a,c⟩
 exact .inr ⟨a,c⟩
theorem wp_clnC2 {Q:TQ Bool} {l:Lab} {i:Int} {m:Nat} (hl:LOk l) (h64:l.len ≠ 64) (hR:ShfR L) (hk:Lfy (spotOf L l)) (h1:(n:Int) + 3 * (65 - l.len) + 4 * (fzN L:Int) ≤ b + 1) (h2:b ≤ most)
  (ih:∀ {Q:TQ Unit} {n:Nat} {L:Shf} {k:Int},ShfR L → Lfy (spotOf L (chV l i)) → (n:Int) + 3 * (65 - (chV l i).len) + 4 * (fzN L:Int) ≤ b → (∀ n' L' k',Cl (chV l i) L L' → n' + 4 * fzN L' ≤ n + 2 + 4 * fzN L → Q () x n' L' k') → (clnT m (chV l i)).wp most b Q E x n L k)
  (h:∀ n' L' k',Cl l L L' → n' + 4 * fzN L' ≤ n + 1 + 4 * fzN L → isFz (spotOf L' (chV l i))=false → Q true x n' L' k'):(clnCT l (clnT m) (chV l i)).wp most b Q E x n L k:=by
 have hc:=hl.ch i
 have hlen:=ch_len hl h64 i
 have hl64:=(lab_parts hl.isl).2.1
 unfold clnCT
 refine wp_bind (wp_get hc (by omega) h2 (wp_ite (fun hg => ?_) fun hg => ?_))
 ·rw [gk5] at hg
  have hf0:=fz_pos hR.ris hg
  refine wp_bind (ih hR ⟨(isFz_iff.1 hg).1,.inr (isFz_iff.1 hg).2⟩ (by omega) fun n1 L1 k1 hc1 hn1 => ?_)
  have e1:spotOf L1 (chV l i)=spotOf L (chV l i):=hc1.same (Int.le_refl _)
  have e2:spotOf L1 l=spotOf L l:=hc1.same (by omega)
  have hf1:=fz_pos hc1.right.ris (l:=chV l i) (by rw [e1]; exact hg)
  refine wp_bind (wp_get hl (by omega) h2 (wp_ite (fun _ => ?_) fun hn => absurd ((gk15 l).2 (by rw [e2]; exact hk)) hn))
  have hs1:(spotOf L1 (chV l i)).has=true:=by rw [e1]; exact (isFz_iff.1 hg).1
  have hv:(gotAtL L (chV l i)).ver=(spotOf L1 (chV l i)).ver:=by rw [e1]; rfl
  refine wp_bind (wp_drp hc hv hs1 (by omega) h2 ?_)
  rw [hv]
  obtain ⟨r1,r2⟩:=drp_right hc1.right hc hs1
  have hp:=fz_put (l:=chV l i) (x:=⟨inc (spotOf L1 (chV l i)).ver,false,zeroRec⟩) hc1.right.ris
  have t1:(isFz (spotOf L1 (chV l i))).toNat=1:=by rw [e1,hg]; rfl
  have t2:(isFz ⟨inc (spotOf L1 (chV l i)).ver,false,zeroRec⟩).toNat=0:=rfl
  rw [t1,t2] at hp
  refine h _ _ _ ⟨r1,Nat.le_trans r2 hc1.len,(mean_drop hl h64 (by rw [e2]; exact hk.1) (by rw [e2]; exact hk.2)).trans hc1.mean,fun q => ?_⟩ (by omega) (by rw [spot_put',if_pos rfl]; rfl)
  rw [spot_put']
  split
  ·rename_i e
   subst e
   exact .inr ⟨by omega,hg,rfl⟩
  rcases hc1.drp q with e | ⟨a1,a2,a3⟩
  ·exact .inl e
  exact .inr ⟨by omega,a2,a3⟩
 rw [gk5,Bool.not_eq_true] at hg
 exact h _ _ _ (Cl.refl hR) (by omega) hg
end
theorem wp_cln2 {most b:Int} {E:RunR → Prop} {x:Nt} (h2:b ≤ most):∀ {Q:TQ Unit} {m:Nat} {l:Lab} {n:Nat} {L:Shf} {k:Int},LOk l → 65 ≤ m + l.len → ShfR L → Lfy (spotOf L l) → (n:Int) + 3 * (65 - l.len) + 4 * (fzN L:Int) ≤ b →
  (∀ n' L' k',Cl l L L' → n' + 4 * fzN L' ≤ n + 2 + 4 * fzN L → (l.len ≠ 64 → isFz (spotOf L' (chV l 0))=false ∧ isFz (spotOf L' (chV l 1))=false) → Q () x n' L' k') → (clnT m l).wp most b Q E x n L k
 | Q,0,l,n,L,k,hl,hm,hR,hk,h1,h => by have:=(lab_parts hl.isl).2.1; omega
 | Q,m + 1,l,n,L,k,hl,hm,hR,hk,h1,h => by
  unfold clnT
  refine wp_ite (fun h64 => h _ _ _ (Cl.refl hR) (by omega) fun hn => absurd h64 hn) fun h64 => ?_
  have hlen:=ch_len hl h64
  have hl64:=(lab_parts hl.isl).2.1
  refine wp_bind (wp_clnC2 hl h64 hR hk (by omega) h2 (fun hR' hk' h1' h' => wp_cln2 h2 (hl.ch 0) (by rw [hlen]; omega) hR' hk' h1' fun n' L' k' a c _ => h' n' L' k' a c) fun n1 L1 k1 hc1 hn1 hz1 => wp_ite (fun _ => ?_) fun hf => absurd rfl hf)
  have e1:spotOf L1 l=spotOf L l:=hc1.same (Int.le_refl _)
  refine wp_bind (wp_clnC2 hl h64 hc1.right (by rw [e1]; exact hk) (by omega) h2 (fun hR' hk' h1' h' => wp_cln2 h2 (hl.ch 1) (by rw [hlen]; omega) hR' hk' h1' fun n' L' k' a c _ => h' n' L' k' a c) fun n2 L2 k2 hc2 hn2 hz2 => ?_)
  exact h _ _ _ (hc1.trans hc2 (Int.le_refl _)) (by omega) fun _ => ⟨by rw [hc2.fz hz1]; exact hz1,hz2⟩
section
variable {most b:Int} {E:RunR → Prop} {x:Nt} {n:Nat} {L:Shf} {k:Int} {bk:Int}
theorem got_items (L:Shf) (l:Lab):(gotAtL L l).x.r.abs.items=(spotOf L l).r.items:=firsts_itF' _
structure Stp (c:Lab) (d:Nat) (L L':Shf):Prop where
 beh:Beh c d L L'
 mean:Mean L'=Mean L
theorem wp_frz2 {Q:TQ Fz} {l:Lab} {i v:Int} {m:Nat} (hl:LOk l) (h64:l.len ≠ 64) (hR:ShfR L) (hf:L.length < 2000) (hv:(spotOf L l).ver=v) (hk:(spotOf L l).has=true ∧ (spotOf L l).r.kind=4) (h1:(n:Int) + 3 ≤ b) (h2:b ≤ most)
  (hu:¬ Lfy (spotOf L (chV l i)) → Q .unfit x (n + 1) L k)
  (h:∀ y n' L' k',n' ≤ n + 3 → Stp (chV l i) 1 L L' → fzN L' ≤ fzN L + 1 → RaOk y → Lfy (spotOf L (chV l i)) → isFz (spotOf L' (chV l i))=true → (spotOf L' (chV l i)).r.items=y.r.abs.items → y.r.abs.items=(spotOf L (chV l i)).r.items → Q (.fr y) x n' L' k'):(frzT l v (chV l i) (m + 1)).wp most b Q E x n L k:=by
 have hc:=hl.ch i
 have hga:=gotAt_ga hR hc
 unfold frzT
 refine wp_bind (wp_get hc (by omega) h2 (wp_ite (fun hg => wp_ite (fun h5 => ?_) fun _ => wp_bind (wp_get hl (by omega) h2 (wp_ite (fun _ => ?_) fun hne => absurd hv hne))) fun hg => ?_))
 ·simp only [Bool.and_eq_true] at h5
  exact h _ _ _ _ (by omega) ⟨Beh.refl hR 1,rfl⟩ (by omega) hga.1.ra ((gk15 _).1 hg) h5.1 (got_items L _).symm (got_items L _)
 ·have hr:isR (asR 5 (gotAtL L (chV l i)).x v).r.abs=true:=by
   rcases Bool.or_eq_true _ _ ▸ hg with h | h
   ·exact r_as hga.2 h (.inr rfl)
   exact r_as hga.2 h (.inr rfl)
  have hy:=(gk15 _).1 hg
  refine wp_bind (wp_cas hc hr rfl hf (by omega) h2 (wp_ite (fun _ => ?_) fun hf => absurd rfl hf))
  have hp:=fz_put (l:=chV l i) (x:=⟨inc (spotOf L (chV l i)).ver,true,(asR 5 (gotAtL L (chV l i)).x v).r.abs⟩) hR.ris
  have hz:(isFz ⟨inc (spotOf L (chV l i)).ver,true,(asR 5 (gotAtL L (chV l i)).x v).r.abs⟩).toNat=1:=rfl
  rw [hz] at hp
  refine h _ _ _ _ (by omega) ⟨beh_put hR hf hc (hga.1.ra.as 5 v).ro hr,?_⟩ (by show fzN (putL _ ⟨inc (spotOf L (chV l i)).ver,true,_⟩ L) ≤ _; omega) (hga.1.ra.as 5 v) hy (by rw [spot_put',if_pos rfl]; rfl) (by rw [spot_put',if_pos rfl]) (got_items L _)
  exact mean_thaw hl h64 hk.1 (by rw [hk.2]; decide) hy.1 hy.2 (.inr rfl) (got_items L _)
 exact hu fun h' => hg ((gk15 _).2 h')
structure Thd (s s':Spo):Prop where
 yes:isFz s=true → s'.has=true ∧ s'.r.kind=1 ∧ s'.r.items=s.r.items
 no:isFz s=false → s'=s
theorem Thd.fz {s s':Spo} (h:Thd s s'):isFz s'=false:=by
 cases e:isFz s with
 | true =>
  obtain ⟨a,c,d⟩:=h.yes e
  cases e2:isFz s' with
  | false => rfl
  | true => rw [isFz_iff] at e2; rw [c] at e2; exact absurd e2.2 (by decide)
 | false => rw [h.no e]; exact e
theorem wp_thw2 {Q:TQ Unit} {l:Lab} {i:Int} {m:Nat} (hl:LOk l) (h64:l.len ≠ 64) (hR:ShfR L) (hf:L.length < 2000) (hin:(spotOf L l).has=true ∧ (spotOf L l).r.kind=2) (h1:(n:Int) + 3 ≤ b) (h2:b ≤ most)
  (h:∀ n' L' k',n' ≤ n + 3 → Stp (chV l i) 1 L L' → fzN L' ≤ fzN L → Thd (spotOf L (chV l i)) (spotOf L' (chV l i)) → Q () x n' L' k'):(thwT bk (m + 1) (chV l i)).wp most b Q E x n L k:=by
 have hc:=hl.ch i
 have hp:=ch_par hl h64 i
 have hga:=gotAt_ga hR hc
 unfold thwT
 rw [if_pos hp.1,hp.2]
 unfold thwLT
 have hk:∀ kd,kd ≠ 2 → gk (gotAtL L l) kd=false:=fun kd hkd => by
  cases hh:gk (gotAtL L l) kd with
  | false => rfl
  | true => rw [gk_iff] at hh; exact absurd (hh.2.symm.trans hin.2) hkd
 refine wp_bind (wp_get hc (by omega) h2 (wp_ite (fun hg => wp_bind (wp_get hl (by omega) h2 (wp_bind (wp_ite (fun h34 => ?_) fun _ => ?_)))) fun hg => ?_))
 ·rw [hk 3 (by decide),hk 4 (by decide)] at h34; cases h34
 ·refine wp_ite (fun _ => ?_) fun hn => absurd ((gk_iff L l 2).2 hin) hn
  have hr:isR (asR 1 (gotAtL L (chV l i)).x 0).r.abs=true:=r_as hga.2 hg (.inl ⟨rfl,rfl⟩)
  rw [gk5] at hg
  have h5:=isFz_iff.1 hg
  refine wp_bind (wp_cas hc hr rfl hf (by omega) h2 (wp_ite (fun _ => ?_) fun hf => absurd rfl hf))
  have hpz:=fz_put (l:=chV l i) (x:=⟨inc (spotOf L (chV l i)).ver,true,(asR 1 (gotAtL L (chV l i)).x 0).r.abs⟩) hR.ris
  have hz:(isFz ⟨inc (spotOf L (chV l i)).ver,true,(asR 1 (gotAtL L (chV l i)).x 0).r.abs⟩).toNat=0:=rfl
  rw [hz] at hpz
  refine h _ _ _ (by omega) ⟨beh_put hR hf hc (hga.1.ra.as 1 0).ro hr,?_⟩ (by show fzN (putL _ ⟨inc (spotOf L (chV l i)).ver,true,_⟩ L) ≤ _; omega) ⟨fun _ => ?_,fun h => by rw [hg] at h; cases h⟩
  ·exact mean_thaw hl h64 hin.1 (by rw [hin.2]; decide) h5.1 (.inr h5.2) (.inl rfl) (got_items L _)
  rw [spot_put',if_pos rfl]
  exact ⟨rfl,rfl,got_items L _⟩
 rw [gk5,Bool.not_eq_true] at hg
 exact h _ _ _ (by omega) ⟨Beh.refl hR 1,rfl⟩ (Nat.le_refl _) ⟨fun h => (by rw [hg] at h; cases h),fun _ => rfl⟩
structure Lfd (s s':Spo):Prop where
 yes:Lfy s → s'.has=true ∧ s'.r.kind=1 ∧ s'.r.items=s.r.items
 no:¬ Lfy s → s'=s
theorem Lfd.of {s s':Spo} (h:Thd s s'):Lfd s s':=by
 refine ⟨fun hy => ?_,fun hn => h.no ?_⟩
 ·rcases hy.2 with h1 | h5
  ·rw [h.no (by unfold isFz; rw [h1]; simp)]; exact ⟨hy.1,h1,rfl⟩
  exact h.yes (isFz_iff.2 ⟨hy.1,h5⟩)
 cases e:isFz s with
 | false => rfl
 | true => rw [isFz_iff] at e; exact absurd ⟨e.1,.inr e.2⟩ hn
theorem Lfd.frz {s s1 s':Spo} (hs:Lfy s) (h1:isFz s1=true) (hi:s1.r.items=s.r.items) (h:Thd s1 s'):Lfd s s':=by
 obtain ⟨a,c,d⟩:=h.yes h1
 exact ⟨fun _ => ⟨a,c,d.trans hi⟩,fun hn => absurd hs hn⟩
structure MkI (l:Lab) (L L':Shf):Prop where
 inn:(spotOf L' l).has=true ∧ (spotOf L' l).r.kind=2
 k0:Lfd (spotOf L (chV l 0)) (spotOf L' (chV l 0))
 k1:Lfd (spotOf L (chV l 1)) (spotOf L' (chV l 1))
 else_:∀ q,q ≠ l → q ≠ chV l 0 → q ≠ chV l 1 → spotOf L' q=spotOf L q
structure MkL (bk:Int) (l:Lab) (L L':Shf):Prop where
 lf:(spotOf L' l).has=true ∧ (spotOf L' l).r.kind=1
 its:(spotOf L' l).r.items=(spotOf L (chV l 0)).r.items ++ (spotOf L (chV l 1)).r.items
 few:((spotOf L' l).r.items.length:Int) ≤ bk
 k0:Lfy (spotOf L (chV l 0)) ∧ (spotOf L' (chV l 0)).has=false
 k1:Lfy (spotOf L (chV l 1)) ∧ (spotOf L' (chV l 1)).has=false
 else_:∀ q,q ≠ l → q ≠ chV l 0 → q ≠ chV l 1 → spotOf L' q=spotOf L q ∨ (l.len < q.len ∧ isFz (spotOf L q)=true ∧ (spotOf L' q).has=false)
structure MkS (l:Lab) (L L':Shf):Prop where
 inn:(spotOf L' l).has=true ∧ (spotOf L' l).r.kind=2
 kid:∀ i,i=0 ∨ i=1 → (((spotOf L (chV l i)).has=true ∧ (spotOf L (chV l i)).r.kind ≠ 5) ∧ spotOf L' (chV l i)=spotOf L (chV l i)) ∨ ((spotOf L' (chV l i)).has=true ∧ (spotOf L' (chV l i)).r.kind=1 ∧ (spotOf L' (chV l i)).r.items=covL (chV l i) (spotOf L l).r.items)
 else_:∀ q,q ≠ l → q ≠ chV l 0 → q ≠ chV l 1 → spotOf L' q=spotOf L q
structure Kp (d:Nat) (L L':Shf):Prop where
 right:ShfR L'
 len:L'.length ≤ L.length + d
 mean:Mean L'=Mean L
theorem Kp.refl (h:ShfR L) (d:Nat):Kp d L L:=⟨h,by omega,rfl⟩
theorem Kp.trans {d e:Nat} {L' L'':Shf} (h:Kp d L L') (h':Kp e L' L''):Kp (d + e) L L'':=⟨h'.right,by have:=h.len; have:=h'.len; omega,h'.mean.trans h.mean⟩
theorem Stp.kp {c:Lab} {d:Nat} {L':Shf} (h:Stp c d L L'):Kp d L L':=⟨h.beh.right,h.beh.len,h.mean⟩
theorem fz_put_no {l:Lab} {y:Spo} (hR:ShfR L) (hy:isFz y=false):fzN (putL l y L) ≤ fzN L:=by
 have h:=fz_put (l:=l) (x:=y) hR.ris
 rw [hy] at h
 have e:false.toNat=0:=rfl
 omega
theorem wp_bck2 {Q:TQ Unit} {l:Lab} {v:Int} {m:Nat} (hl:LOk l) (h64:l.len ≠ 64) (hR:ShfR L) (hf:L.length + 4 ≤ 2000) (hv:(spotOf L l).ver=v) (hk:(spotOf L l).has=true ∧ (spotOf L l).r.kind=4) (h1:(n:Int) + 7 ≤ b) (h2:b ≤ most)
  (h:∀ n' L' k',n' ≤ n + 7 → Kp 3 L L' → (spotOf L' l).has=true ∧ (spotOf L' l).r.kind=2 → (∀ i,i=0 ∨ i=1 → Thd (spotOf L (chV l i)) (spotOf L' (chV l i))) → (∀ q,q ≠ l → q ≠ chV l 0 → q ≠ chV l 1 → spotOf L' q=spotOf L q) → Q () x n' L' k'):(bckT (thwT bk (m + 1)) l v).wp most b Q E x n L k:=by
 unfold bckT
 refine wp_bind (wp_cas hl r_inner hv.symm (by omega) (by omega) h2 (wp_ite (fun _ => ?_) fun hf => absurd rfl hf))
 have hb:=beh_put hR (by omega) hl rec_in r_inner
 rw [hv] at hb
 have hi:spotOf (putL l ⟨inc v,true,innerR⟩ L) l=⟨inc v,true,innerR⟩:=by rw [spot_put',if_pos rfl]
 have hm:Mean (putL l ⟨inc v,true,innerR⟩ L)=Mean L:=mean_inner hl h64 hk.1 (by rw [hk.2]; decide) fun h3 => by rw [hk.2] at h3; exact absurd h3 (by decide)
 have n0:=ch_ne hl h64 0
 have n1:=ch_ne hl h64 1
 have n2:=ch_two hl h64
 refine wp_bind (wp_thw2 hl h64 hb.right (by have:=hb.len; omega) (by rw [hi]; exact ⟨rfl,rfl⟩) (by omega) h2 fun na La ka hna ha hfa hta => ?_)
 have hia:=(ha.beh.else_ l n0.symm).trans hi
 refine wp_thw2 hl h64 ha.beh.right (by have:=hb.len; have:=ha.beh.len; omega) (by rw [hia]; exact ⟨rfl,rfl⟩) (by omega) h2 fun nb Lb kb hnb hbb hfb htb => ?_
 have hib:=(hbb.beh.else_ l n1.symm).trans hia
 refine h _ _ _ (by omega) ⟨hbb.beh.right,by have:=hb.len; have:=ha.beh.len; have:=hbb.beh.len; omega,hbb.mean.trans (ha.mean.trans hm)⟩ (by rw [hib]; exact ⟨rfl,rfl⟩) (fun i hi' => ?_) fun q q0 q1 q2 => ?_
 ·rcases hi' with rfl | rfl
  ·rw [hbb.beh.else_ _ n2,← hb.else_ _ n0]; exact hta
  rw [← hb.else_ _ n1,← ha.beh.else_ _ n2.symm]; exact htb
 rw [hbb.beh.else_ _ q2,ha.beh.else_ _ q1,hb.else_ _ q0]
theorem wp_mrg2 {Q:TQ Unit} {l:Lab} {v:Int} {m:Nat} (hl:LOk l) (h64:l.len ≠ 64) (hR:ShfR L) (hf:L.length + 8 ≤ 2000) (hv:(spotOf L l).ver=v) (hk:(spotOf L l).has=true ∧ (spotOf L l).r.kind=4) (hm:64 ≤ m) (h1:(n:Int) + 230 + 4 * (fzN L:Int) ≤ b) (h2:b ≤ most)
  (hI:∀ n' L' k',n' ≤ n + 13 → Kp 6 L L' → MkI l L L' → Q () x n' L' k')
  (hL:∀ n' L' k',n' + 4 * fzN L' ≤ n + 17 + 4 * fzN L → Kp 6 L L' → MkL bk l L L' → Q () x n' L' k'):(mrgT bk (m + 1) (thwT bk (m + 1)) l v).wp most b Q E x n L k:=by
 have n0:=ch_ne hl h64 0
 have n1:=ch_ne hl h64 1
 have n2:=ch_two hl h64
 unfold mrgT
 refine wp_bind (wp_frz2 hl h64 hR (by omega) hv hk (by omega) h2 (fun hu => ?_) fun y n1' L1 k1 hn1 hb1 hf1 hy hs1 hz1 hi1 hj1 => ?_)
 ·refine wp_bck2 hl h64 hR (by omega) hv hk (by omega) h2 fun n' L' k' a1 a2 a3 a4 a5 => hI _ _ _ (by omega) ⟨a2.right,by have:=a2.len; omega,a2.mean⟩ ⟨a3,.of (a4 0 (.inl rfl)),.of (a4 1 (.inr rfl)),a5⟩
 have e1:=hb1.beh.else_ l n0.symm
 have l1:=hb1.beh.len
 have f1:=hb1.beh.else_ _ n2.symm
 refine wp_bind (wp_frz2 hl h64 hb1.beh.right (by omega) (by rw [e1]; exact hv) (by rw [e1]; exact hk) (by omega) h2 (fun hu => ?_) fun y2 n2' L2 k2 hn2 hb2 hf2 hy2 hs2 hz2 hi2 hj2 => ?_)
 ·refine wp_bck2 hl h64 hb1.beh.right (by omega) (by rw [e1]; exact hv) (by rw [e1]; exact hk) (by omega) h2 fun n' L' k' a1 a2 a3 a4 a5 => hI _ _ _ (by omega) ⟨a2.right,by have:=a2.len; omega,a2.mean.trans hb1.mean⟩ ⟨a3,.frz hs1 hz1 (hi1.trans hj1) (a4 0 (.inl rfl)),?_,fun q q0 q1 q2 => (a5 q q0 q1 q2).trans (hb1.beh.else_ _ q1)⟩
  have:=a4 1 (.inr rfl)
  rw [f1] at this
  exact .of this
 have e2:=(hb2.beh.else_ l n1.symm).trans e1
 have l2:=hb2.beh.len
 have f2:=hb2.beh.else_ _ n2
 rw [f1] at hs2 hj2
 refine wp_ite (fun hu => ?_) fun _ => ?_
 ·refine wp_bind (wp_cas hl (uni_r hu.1) (by rw [e2]; exact hv.symm) (by omega) (by omega) h2 (wp_ite (fun _ => ?_) fun hf => absurd rfl hf))
  have hro:RecOk (uniA y y2).1:=uni_ok hy hy2
  have hb3:=beh_put hb2.beh.right (by omega) hl hro (uni_r hu.1)
  rw [e2,hv] at hb3
  have hkd:=uni_kind hu.1
  have hits:(uniA y y2).1.items=y.r.abs.items ++ y2.r.abs.items:=uni_items hu.1
  have i1:(spotOf L2 (chV l 0)).r.items=y.r.abs.items:=by rw [f2]; exact hi1
  have hm3:Mean (putL l ⟨inc v,true,(uniA y y2).1⟩ L2)=Mean L2:=by
   refine mean_union hl h64 (by rw [e2]; exact hk.1) (by rw [e2]; exact .inr hk.2) (isFz_iff.1 (by rw [f2]; exact hz1)) (isFz_iff.1 hz2) hkd ?_
   rw [i1,hi2]; exact hits
  have s3:spotOf (putL l ⟨inc v,true,(uniA y y2).1⟩ L2) l=⟨inc v,true,(uniA y y2).1⟩:=by rw [spot_put',if_pos rfl]
  have hfz3:fzN (putL l ⟨inc v,true,(uniA y y2).1⟩ L2) ≤ fzN L2:=fz_put_no hb2.beh.right (by unfold isFz; rw [hkd]; rfl)
  have g0:=hb3.else_ _ n0
  have g1:=hb3.else_ _ n1
  have:=(lab_parts hl.isl).1
  refine wp_cln2 h2 hl (by omega) hb3.right (by rw [s3]; exact ⟨rfl,.inl hkd⟩) (by omega) fun n' L' k' hc hn' hzk => ?_
  have hzk:=hzk h64
  have sl:spotOf L' l=⟨inc v,true,(uniA y y2).1⟩:=(hc.same (Int.le_refl _)).trans s3
  refine hL _ _ _ (by omega) ⟨hc.right,by have:=hc.len; have:=hb3.len; omega,hc.mean.trans (hm3.trans (hb2.mean.trans hb1.mean))⟩ ⟨by rw [sl]; exact ⟨rfl,hkd⟩,by rw [sl]; show (uniA y y2).1.items=_; rw [hits,hj1,hj2],by rw [sl]; exact hu.2,⟨hs1,?_⟩,⟨hs2,?_⟩,fun q q0 q1 q2 => ?_⟩
  ·rcases hc.drp (chV l 0) with h | ⟨_,_,h⟩
   ·rw [h,g0,f2,hz1] at hzk; cases hzk.1
   exact h
  ·rcases hc.drp (chV l 1) with h | ⟨_,_,h⟩
   ·rw [h,g1,hz2] at hzk; cases hzk.2
   exact h
  have hq:spotOf (putL l ⟨inc v,true,(uniA y y2).1⟩ L2) q=spotOf L q:=by rw [hb3.else_ _ q0,hb2.beh.else_ _ q2,hb1.beh.else_ _ q1]
  have:=hc.drp q
  rw [hq] at this
  exact this
 refine wp_bck2 hl h64 hb2.beh.right (by omega) (by rw [e2]; exact hv) (by rw [e2]; exact hk) (by omega) h2 fun n' L' k' a1 a2 a3 a4 a5 => hI _ _ _ (by omega) ⟨a2.right,by have:=a2.len; omega,a2.mean.trans (hb2.mean.trans hb1.mean)⟩ ⟨a3,.frz hs1 (by rw [f2]; exact hz1) (by rw [f2]; exact hi1.trans hj1) (a4 0 (.inl rfl)),.frz hs2 hz2 (hi2.trans hj2) (a4 1 (.inr rfl)),fun q q0 q1 q2 => by rw [a5 q q0 q1 q2,hb2.beh.else_ _ q2,hb1.beh.else_ _ q1]⟩
theorem wp_splC2 {Q:TQ Bool} {l:Lab} {i v:Int} {r:Rec} {m:Nat} (hl:LOk l) (h64:l.len ≠ 64) (hro:RecOk r) (hr:isR r=true) (hrk:r.kind=1) (hri:r.items=covL (chV l i) (spotOf L l).r.items) (hR:ShfR L) (hf:L.length < 2000) (hv:(spotOf L l).ver=v) (hk:(spotOf L l).has=true ∧ (spotOf L l).r.kind=3) (h1:(n:Int) + 3 ≤ b) (h2:b ≤ most)
  (h:∀ n' L' k',n' ≤ n + 3 → Stp (chV l i) 1 L L' → (((spotOf L (chV l i)).has=true ∧ (spotOf L (chV l i)).r.kind ≠ 5) ∧ spotOf L' (chV l i)=spotOf L (chV l i)) ∨ ((spotOf L' (chV l i)).has=true ∧ (spotOf L' (chV l i)).r.kind=1 ∧ (spotOf L' (chV l i)).r.items=covL (chV l i) (spotOf L l).r.items) → Q true x n' L' k'):(splCT l v (chV l i) r (m + 1)).wp most b Q E x n L k:=by
 have hc:=hl.ch i
 unfold splCT
 refine wp_bind (wp_get hc (by omega) h2 (wp_ite (fun hg => ?_) fun hg => wp_bind (wp_get hl (by omega) h2 (wp_ite (fun _ => ?_) fun hne => absurd hv hne))))
 ·simp only [Bool.and_eq_true,Bool.not_eq_true',decide_eq_false_iff_not] at hg
  exact h _ _ _ (by omega) ⟨Beh.refl hR 1,rfl⟩ (.inl ⟨hg,rfl⟩)
 refine wp_bind (wp_cas hc hr rfl hf (by omega) h2 (wp_ite (fun _ => ?_) fun hf => absurd rfl hf))
 refine h _ _ _ (by omega) ⟨beh_put hR hf hc hro hr,mean_half hl h64 hk.1 hk.2 (fun hh => ?_) hrk hri⟩ (.inr (by rw [spot_put',if_pos rfl]; exact ⟨rfl,hrk,hri⟩))
 have hg':¬ ((spotOf L (chV l i)).has && !decide ((spotOf L (chV l i)).r.kind=5))=true:=hg
 rw [hh] at hg'
 simpa using hg'
theorem wp_split2 {Q:TQ Unit} {l:Lab} {m:Nat} (hl:LOk l) (hR:ShfR L) (hf:L.length + 8 ≤ 2000) (hk:(spotOf L l).has=true ∧ (spotOf L l).r.kind=3) (h1:(n:Int) + 7 ≤ b) (h2:b ≤ most) (hh:(halvA (gotAtL L l).x l).2.2=0)
  (h:∀ n' L' k',n' ≤ n + 7 → Kp 6 L L' → MkS l L L' → Q () x n' L' k'):(splitT (m + 1) l (gotAtL L l).ver (gotAtL L l).x).wp most b Q E x n L k:=by
 have hga:=gotAt_ga hR hl
 obtain ⟨h64,i0,i1⟩:=halv_is hh
 rw [got_items,← ch_val hl h64] at i0 i1
 have n0:=ch_ne hl h64 0
 have n1:=ch_ne hl h64 1
 have n2:=ch_two hl h64
 unfold splitT
 rw [if_pos hh]
 refine wp_bind (wp_splC2 hl h64 (halv_ok hga.1.ra hl).1 (halv_r hl hh).1 (halv_kind hh).1 i0 hR (by omega) rfl hk (by omega) h2 fun n1' L1 k1 hn1 hb1 p1 => ?_)
 have e1:=hb1.beh.else_ l n0.symm
 have l1:=hb1.beh.len
 refine wp_ite (fun _ => ?_) fun hf => absurd rfl hf
 refine wp_bind (wp_splC2 hl h64 (halv_ok hga.1.ra hl).2 (halv_r hl hh).2 (halv_kind hh).2 (by rw [e1]; exact i1) hb1.beh.right (by omega) (by rw [e1]; rfl) (by rw [e1]; exact hk) (by omega) h2 fun n2' L2 k2 hn2 hb2 q1 => ?_)
 have e2:=(hb2.beh.else_ l n1.symm).trans e1
 have l2:=hb2.beh.len
 have e3:=hb2.beh.else_ _ n2
 have e4:=hb1.beh.else_ _ n2.symm
 rw [e1,e4] at q1
 refine wp_ite (fun _ => ?_) fun hf => absurd rfl hf
 have hv:(gotAtL L l).ver=(spotOf L2 l).ver:=by rw [e2]; rfl
 refine wp_bind (wp_cas hl r_inner hv (by omega) (by omega) h2 ?_)
 have hb3:=beh_put hb2.beh.right (by omega) hl rec_in r_inner
 rw [← hv] at hb3
 have K:∀ i,i=0 ∨ i=1 → (((spotOf L (chV l i)).has=true ∧ (spotOf L (chV l i)).r.kind ≠ 5) ∧ spotOf L2 (chV l i)=spotOf L (chV l i)) ∨ ((spotOf L2 (chV l i)).has=true ∧ (spotOf L2 (chV l i)).r.kind=1 ∧ (spotOf L2 (chV l i)).r.items=covL (chV l i) (spotOf L l).r.items):=fun i hi => by
  rcases hi with rfl | rfl
  ·rw [e3]; exact p1
  exact q1
 have F:∀ i,i=0 ∨ i=1 → frozP (TL L2) (chV l i)=false:=fun i hi => by
  rcases K i hi with ⟨⟨a,c⟩,e⟩ | ⟨a,c,_⟩
  ·rw [froz_of (by rw [e]; exact a),e]; exact decide_eq_false c
  rw [froz_of a,c]; rfl
 have hm3:Mean (putL l ⟨inc (gotAtL L l).ver,true,innerR⟩ L2)=Mean L2:=mean_inner hl h64 (by rw [e2]; exact hk.1) (by rw [e2,hk.2]; decide) fun _ => ⟨F 0 (.inl rfl),F 1 (.inr rfl)⟩
 refine h _ _ _ (by omega) ⟨hb3.right,by have:=hb3.len; omega,hm3.trans (hb2.mean.trans hb1.mean)⟩ ⟨by rw [spot_put',if_pos rfl]; exact ⟨rfl,rfl⟩,fun i hi => ?_,fun q q0 q1 q2 => by rw [hb3.else_ _ q0,hb2.beh.else_ _ q2,hb1.beh.else_ _ q1]⟩
 have hne:chV l i ≠ l:=ch_ne hl h64 i
 rw [hb3.else_ _ hne]
 exact K i hi
theorem wp_fin2 {Q:TQ Unit} {l:Lab} {m:Nat} (hl:LOk l) (hR:ShfR L) (hf:L.length + 8 ≤ 2000) (hk:(spotOf L l).has=true ∧ ((spotOf L l).r.kind=3 ∨ (spotOf L l).r.kind=4)) (hm:64 ≤ m) (h1:(n:Int) + 230 + 4 * (fzN L:Int) ≤ b) (h2:b ≤ most)
  (h0:(l.len=64 ∨ ((spotOf L l).r.kind=3 ∧ (halvA (gotAtL L l).x l).2.2 ≠ 0)) → Q () x n L k)
  (hS:∀ n' L' k',(spotOf L l).r.kind=3 → n' ≤ n + 7 → Kp 6 L L' → MkS l L L' → Q () x n' L' k')
  (hI:∀ n' L' k',(spotOf L l).r.kind=4 → n' ≤ n + 13 → Kp 6 L L' → MkI l L L' → Q () x n' L' k')
  (hL:∀ n' L' k',(spotOf L l).r.kind=4 → n' + 4 * fzN L' ≤ n + 17 + 4 * fzN L → Kp 6 L L' → MkL bk l L L' → Q () x n' L' k'):(finT bk (m + 1) (thwT bk (m + 1)) l (gotAtL L l)).wp most b Q E x n L k:=by
 unfold finT
 refine wp_ite (fun h3 => ?_) fun h3 => wp_ite (fun hlt => ?_) fun hge => ?_
 ·rw [gk_iff] at h3
  by_cases hh:(halvA (gotAtL L l).x l).2.2=0
  ·exact wp_split2 hl hR hf h3 (by omega) h2 hh fun n' L' k' => hS n' L' k' h3.2
  unfold splitT
  rw [if_neg hh]
  exact h0 (.inr ⟨h3.2,hh⟩)
 ·rw [gk_iff] at h3
  have hk4:(spotOf L l).r.kind=4:=by
   rcases hk.2 with h | h
   ·exact absurd ⟨hk.1,h⟩ h3
   exact h
  exact wp_mrg2 hl (by omega) hR hf rfl ⟨hk.1,hk4⟩ hm h1 h2 (fun n' L' k' => hI n' L' k' hk4) fun n' L' k' => hL n' L' k' hk4
 exact h0 (.inl (by have:=(lab_parts hl.isl).2.1; omega))
theorem par_ch {c:Lab} (hc:LOk c) (h:parE c=0):(parV c).len ≠ 64 ∧ ∃ i,(i=0 ∨ i=1) ∧ chV (parV c) i=c:=by
 have hE:=h
 unfold parE at h
 rw [hc.isl,if_neg (by decide)] at h
 have h0:c.len ≠ 0:=fun e => by rw [if_pos e] at h; exact absurd h (by decide)
 obtain ⟨p0,p1,p2⟩:=lab_parts hc.isl
 have hp:=hc.par
 have e:parV c=parL c:=by unfold parV; rw [if_pos hE]
 have hl:(parV c).len=c.len - 1:=by rw [e]; rfl
 have h64:(parV c).len ≠ 64:=by omega
 refine ⟨h64,?_⟩
 have hcov:coverB (parV c) c.bits=true:=by
  unfold coverB
  rw [hp.isl,Bool.true_and,e]
  refine decide_eq_true ?_
  show ((headN c.bits.toNat (c.len - 1).toNat:Nat):Int)=((headN c.bits.toNat (c.len.toNat - 1):Nat):Int)
  rw [show (c.len - 1).toNat=c.len.toNat - 1 by omega]
 obtain ⟨a0,a1⟩:=child_cov hp.isl hp.u h64 hc.u hcov
 have fin:∀ i,coverB (childL (parV c) i) c.bits=true → childL (parV c) i=c:=fun i hi => by
  have hlen:(childL (parV c) i).len=c.len:=by show (parV c).len + 1=_; omega
  refine lab_ext hlen ?_
  unfold coverB at hi
  simp only [Bool.and_eq_true,decide_eq_true_eq] at hi
  rw [← hi.2,hlen]
  exact p2
 by_cases hz:c.bits < (childL (parV c) 1).bits
 ·exact ⟨0,.inl rfl,by rw [ch_val hp h64]; exact fin 0 (by rw [a0]; exact decide_eq_true hz)⟩
 exact ⟨1,.inr rfl,by rw [ch_val hp h64]; exact fin 1 (by rw [a1]; exact decide_eq_true (by omega))⟩
end
theorem labU (l:Lab) (h:LabOk l):U64 l.bits:=by
 have h:=h.2
 simp [Lit.wf,IntKind.min,IntKind.max,IntKind.signed,IntKind.bits] at h
 exact ⟨by omega,by omega⟩
theorem treP_of {l:List Rw} {T:Tre} (h1:∀ w ∈ l,T w.lab=some w.r) (h2:∀ q r,T q=some r → ∃ w ∈ l,w.lab=q):treP l=T:=by
 funext q
 unfold treP
 cases hf:l.reverse.find? (fun w => decide (w.lab=q)) with
 | some w =>
  have e:=List.find?_some hf
  have hm:=List.mem_reverse.1 (List.mem_of_find?_eq_some hf)
  rw [← of_decide_eq_true e,h1 w hm]
  rfl
 | none =>
  cases ht:T q with
  | none => rfl
  | some r =>
   obtain ⟨w,hw,he⟩:=h2 q r ht
   have:=List.find?_eq_none.1 hf w (List.mem_reverse.2 hw)
   exact absurd (decide_eq_true he) this
def spW (w:Rw):Lab × Spo:=(w.lab,⟨w.ver,true,w.r⟩)
theorem putL_last {l:Lab} {x:Spo}:∀ {M:Shf},(∀ p ∈ M,lessL p.1 l=true) → putL l x M=M ++ [(l,x)]
 | [],_ => rfl
 | p :: M,h => by
  unfold putL
  rw [if_pos (h p (by simp)),putL_last fun q hq => h q (by simp [hq])]; rfl
theorem findL_last {l:Lab}:∀ {M:Shf},(∀ p ∈ M,lessL p.1 l=true) → findL l M=none
 | [],_ => rfl
 | p :: M,h => by
  unfold findL
  rw [if_neg (less_ne (h p (by simp))),findL_last fun q hq => h q (by simp [hq])]
theorem newL_sorted:∀ {l:List Rw} {M:Shf},l.Pairwise (fun x y => lessL x.lab y.lab=true) → (∀ p ∈ M,∀ w ∈ l,lessL p.1 w.lab=true) → (∀ w ∈ l,isL w.lab=true ∧ isR w.r=true) → newL l M=some (M ++ l.map spW)
 | [],M,_,_,_ => by simp [newL]
 | v :: l,M,hs,hm,hr => by
  have hs':=List.pairwise_cons.1 hs
  have hM:∀ p ∈ M,lessL p.1 v.lab=true:=fun p hp => hm p hp v (by simp)
  unfold newL
  rw [findL_last hM,(hr v (by simp)).1,(hr v (by simp)).2]
  simp only [Option.isSome_none,Bool.not_true,Bool.or_self,Bool.false_eq_true,if_false]
  rw [putL_last hM,newL_sorted hs'.2 (fun p hp w hw => ?_) fun w hw => hr w (by simp [hw])]
  ·simp [spW]
  rcases List.mem_append.1 hp with hp | hp
  ·exact hm p hp w (by simp [hw])
  simp at hp; subst hp; exact hs'.1 w hw
theorem rowsL_memI {L:Shf} {w:Rw}:w ∈ rowsL L ↔ ∃ p ∈ L,p.2.has=true ∧ w=⟨p.1,p.2.ver,p.2.r⟩:=by
 unfold rowsL
 rw [List.mem_map]
 constructor
 ·rintro ⟨p,hp,rfl⟩
  obtain ⟨h1,h2⟩:=List.mem_filter.1 hp
  exact ⟨p,h1,h2,rfl⟩
 rintro ⟨p,h1,h2,rfl⟩
 exact ⟨p,List.mem_filter.2 ⟨h1,h2⟩,rfl⟩
theorem rowsL_le (L:Shf):(rowsL L).length ≤ L.length:=by
 unfold rowsL
 rw [List.length_map]
 exact List.length_filter_le _ _
theorem find_memP {l:Lab} {x:Spo}:∀ {L:Shf},findL l L=some x → (l,x) ∈ L
 | p :: L,h => by
  unfold findL at h
  split at h
  ·rename_i e
   injection h with h
   subst h; subst e
   simp
  exact List.mem_cons_of_mem _ (find_memP h)
section
variable {L:Shf}
theorem tre_rows (hR:ShfR L):treP (rowsL L)=TL L:=by
 refine treP_of (fun w hw => ?_) fun q r hr => ?_
 ·obtain ⟨p,hp,hh,rfl⟩:=rowsL_memI.1 hw
  have:=spot_mem hR.ris hp
  rw [TL_some (by rw [this]; exact hh),this]
 unfold TL at hr
 split at hr
 ·rename_i hh
  unfold spotOf at hh
  cases hf:findL q L with
  | none => rw [hf] at hh; cases hh
  | some x =>
   rw [hf] at hh
   exact ⟨_,rowsL_memI.2 ⟨_,find_memP hf,hh,rfl⟩,rfl⟩
 cases hr
def LblI (L:Shf):Prop:=∀ p ∈ L,isL p.1=true
theorem lbl_put {l:Lab} {x:Spo} (hl:isL l=true) (h:LblI L):LblI (putL l x L):=fun p hp => by
 rcases put_mem hp with rfl | hp
 ·exact hl
 exact h p hp
theorem lbl_do (h:LblI L) (w:Wnt):LblI (doL L w).L:=by
 unfold doL
 split
 ·rename_i hg
  split
  ·exact h
  split
  ·exact h
  split
  ·exact h
  exact lbl_put hg.2.1 h
 exact h
theorem lbl_newL:∀ {l:List Rw} {M L':Shf},LblI M → newL l M=some L' → LblI L'
 | [],M,L',hM,h => by
  simp only [newL,Option.some.injEq] at h
  subst h; exact hM
 | v :: l,M,L',hM,h => by
  unfold newL at h
  split at h
  ·cases h
  rename_i hn
  simp only [Bool.or_eq_true,Bool.not_eq_true',not_or,Bool.not_eq_false,Bool.not_eq_true] at hn
  exact lbl_newL (lbl_put hn.1.2 hM) h
theorem lbl_new {l:List Rw} (h:newS l=some L):LblI L:=by
 unfold newS at h
 split at h
 ·cases h
 exact lbl_newL (fun p hp => by cases hp) h
theorem lbl_run {N:NextF} {most:Int}:∀ (fu:Nat) {gs:List Got} {L:Shf} {k:Int},LblI L → LblI (runQ N most fu gs L k).L
 | 0,gs,L,k,h => h
 | fu + 1,gs,L,k,h => by
  unfold runQ
  split
  ·exact h
  split
  ·exact h
  split
  ·exact h
  split
  ·exact lbl_do h _
  exact lbl_run fu (lbl_do h _)
theorem rows_new (hR:ShfR L) (hl:LblI L):newS (rowsL L)=some ((rowsL L).map spW):=by
 unfold newS
 have h1:=rowsL_le L
 have h2:=hR.good.ok.len
 rw [if_neg (by omega),newL_sorted ?_ (fun p hp => by cases hp) fun w hw => ?_]
 ·rfl
 ·unfold rowsL
  rw [List.pairwise_map]
  exact List.Pairwise.filter _ hR.ris
 obtain ⟨p,hp,hh,rfl⟩:=rowsL_memI.1 hw
 exact ⟨hl p hp,(hR.sp p hp).1 hh⟩
theorem items_rows (hR:ShfR L) (hl:LblI L):itemsP (rowsL L)=Mean L ∧ itemsE (rowsL L)=0:=by
 have hr:isRw (rowsL L)=true:=by unfold isRw; rw [rows_new hR hl]; rfl
 unfold itemsP itemsE Mean
 rw [if_pos hr,if_pos hr,tre_rows hR]
 exact ⟨rfl,rfl⟩
theorem rowsL_get {i:Nat} (hi:i < (rowsL L).length):∃ p ∈ L,p.2.has=true ∧ (rowsL L).getD i zeroRw=⟨p.1,p.2.ver,p.2.r⟩:=by
 have e:(rowsL L).getD i zeroRw=(rowsL L)[i]:=by simp [List.getD,hi]
 rw [e]
 exact rowsL_memI.1 (List.getElem_mem hi)
theorem rows_n (hR:ShfR L) (y:Atom):RwN (rowsL L).length (rwAt y (rowsL L)):=fun i hi => by
 obtain ⟨p,hp,hh,e⟩:=rowsL_get hi
 unfold rwAt
 rw [e]
 have h1:=hR.good.ok.lab p hp
 have h2:=(hR.good.sp p hp).r
 exact ⟨Nat.le_trans h2.few (by decide),h1,labU _ h1,h2.nx⟩
theorem rows_k (hR:ShfR L) (y:Atom):RwK (rowsL L).length (rwAt y (rowsL L)):=fun i hi t ht => by
 obtain ⟨p,hp,hh,e⟩:=rowsL_get hi
 unfold rwAt at ht ⊢
 rw [e] at ht ⊢
 have h2:=(hR.good.sp p hp).r
 have ht':t < p.2.r.items.length:=ht
 show U64 (itF p.2.r.items t).key
 refine h2.key _ ?_
 have:itF p.2.r.items t=p.2.r.items[t]:=by simp [itF,List.getD,ht']
 rw [this]
 exact List.getElem_mem ht'
end
theorem find_rev {l:List Rw} (h:(l.map (·.lab)).Nodup) (q:Lab):l.reverse.find? (fun w => decide (w.lab=q))=l.find? fun w => decide (w.lab=q):=by
 induction l with
 | nil => rfl
 | cons v l ih =>
  rw [List.map_cons,List.nodup_cons] at h
  rw [List.reverse_cons,List.find?_append,ih h.2,List.find?_cons]
  by_cases hv:v.lab=q
  ·subst hv
   rw [show l.find? (fun w => decide (w.lab=v.lab))=none from by
    rw [List.find?_eq_none]
    intro w hw he
    exact h.1 (List.mem_map.2 ⟨w,hw,of_decide_eq_true he⟩)]
   simp
  simp [hv]
theorem treP_at {l:List Rw} (h:(l.map (·.lab)).Nodup) {w:Rw} (hw:w ∈ l):treP l w.lab=some w.r:=by
 unfold treP
 rw [find_rev h]
 induction l with
 | nil => cases hw
 | cons v l ih =>
  rw [List.map_cons,List.nodup_cons] at h
  rw [List.find?_cons]
  rcases List.mem_cons.1 hw with rfl | hw
  ·simp
  have hne:¬ v.lab=w.lab:=fun he => h.1 (List.mem_map.2 ⟨w,hw,he.symm⟩)
  simp only [decide_eq_false hne]
  exact ih h.2 hw
theorem nexA_get (g:Nat → Lab) (n:Nat) (hd:∀ i j,i < n → j < n → g i=g j → i=j):∀ k,k ≤ n → ∀ i,i < k → getA (g i) (nexA g n k)=some (if i + 1 < n then g (i + 1) else noneL)
 | 0,_,i,hi => absurd hi (Nat.not_lt_zero _)
 | k + 1,hk,i,hi => by
  unfold nexA
  rw [getA_set]
  by_cases h:i=k
  ·subst h; rw [if_pos rfl]
  rw [if_neg (fun e => h (hd k i (by omega) (by omega) e).symm)]
  exact nexA_get g n hd k (by omega) i (by omega)
theorem labF_mem {l:List Lab} {q:Lab} (h:q ∈ l):∃ i,i < l.length ∧ labF l i=q:=by
 obtain ⟨i,hi,he⟩:=List.mem_iff_getElem.1 h
 exact ⟨i,hi,by unfold labF; rw [List.getD_eq_getElem?_getD,List.getElem?_eq_getElem hi]; exact he⟩
theorem labF_inj {l:List Lab} (h:l.Nodup):∀ i j,i < l.length → j < l.length → labF l i=labF l j → i=j:=by
 intro i j hi hj he
 unfold labF at he
 rw [List.getD_eq_getElem?_getD,List.getD_eq_getElem?_getD,List.getElem?_eq_getElem hi,List.getElem?_eq_getElem hj] at he
 have hp:=List.pairwise_iff_getElem.1 h
 rcases Nat.lt_trichotomy i j with hij | hij | hij
 ·exact absurd he (hp i j hi hj hij)
 ·exact hij
 exact absurd he.symm (hp j i hj hi hij)
structure Und (q k:Lab):Prop where
 is:isL k=true
 u:U64 k.bits
 len:q.len ≤ k.len
 cov:coverB q k.bits=true
theorem und_self {q:Lab} (hl:isL q=true) (hb:U64 q.bits):Und q q:=⟨hl,hb,Int.le_refl _,cov_self hl hb⟩
theorem headN_le2 {v n m:Nat} (hnm:n ≤ m):headN (headN v m) n=headN v n:=by
 apply Nat.eq_of_testBit_eq
 intro i
 rw [testBit_head,testBit_head,testBit_head]
 by_cases h:64 - n ≤ i
 ·rw [decide_eq_true h,decide_eq_true (show 64 - m ≤ i by omega)]; simp
 rw [decide_eq_false h]; simp
theorem cov_in {q k:Lab} (h:Und q k) (hq:isL q=true) {key:Int} (hc:coverB k key=true):coverB q key=true:=by
 obtain ⟨h0,h1,h2⟩:=lab_parts hq
 obtain ⟨g0,g1,g2⟩:=lab_parts h.is
 have hcv:=h.cov
 unfold coverB at hc hcv ⊢
 simp only [Bool.and_eq_true,decide_eq_true_eq] at hc hcv ⊢
 refine ⟨hq,?_⟩
 have e1:headN key.toNat k.len.toNat=k.bits.toNat:=by have:=hc.2; omega
 have e2:headN k.bits.toNat q.len.toNat=q.bits.toNat:=by have:=hcv.2; omega
 have e3:headN (headN key.toNat k.len.toNat) q.len.toNat=headN key.toNat q.len.toNat:=headN_le2 (by have:=h.len; omega)
 rw [e1] at e3
 have:=hcv.2
 omega
theorem und_kid {q k:Lab} (hq:isL q=true) (hb:U64 q.bits) (h64:q.len ≠ 64) {b:Int} (h:Und (childL q b) k):Und q k ∧ q.len < k.len:=by
 have hlen:(childL q b).len=q.len + 1:=rfl
 have:=h.len
 exact ⟨⟨h.is,h.u,by omega,cov_up hq hb h64 b h.cov⟩,by omega⟩
theorem und_ge {q k:Lab} (h:Und q k):q.bits ≤ k.bits:=by
 have hc:=h.cov
 unfold coverB at hc
 simp only [Bool.and_eq_true,decide_eq_true_eq] at hc
 have h1:=headN_le k.bits.toNat q.len.toNat
 have h2:=hc.2
 have:=h.u.1
 omega
theorem und_less {q k:Lab} (h:Und q k) (hlt:q.len < k.len):lessL q k=true:=by
 have:=und_ge h
 unfold lessL
 simp only [Bool.or_eq_true,Bool.and_eq_true,decide_eq_true_eq]
 omega
theorem und_mid {q k0 k1:Lab} (hq:isL q=true) (hb:U64 q.bits) (h64:q.len ≠ 64) (h0:Und (childL q 0) k0) (h1:Und (childL q 1) k1):k0.bits < k1.bits:=by
 have c0:=(child_cov hq hb h64 h0.u (und_kid hq hb h64 h0).1.cov).1
 have c1:=(child_cov hq hb h64 h1.u (und_kid hq hb h64 h1).1.cov).2
 rw [h0.cov] at c0
 rw [h1.cov] at c1
 have a0:=of_decide_eq_true c0.symm
 have a1:=of_decide_eq_true c1.symm
 omega
theorem par_child {q:Lab} (hq:isL q=true) (hb:U64 q.bits) (h64:q.len ≠ 64) (b:Int):parV (childL q b)=q ∧ parE (childL q b)=0:=by
 have hc:=child_isL hq hb h64 b
 obtain ⟨h0,h1,h2⟩:=lab_parts hq
 have hlen:(childL q b).len=q.len + 1:=rfl
 have hE:parE (childL q b)=0:=by
  unfold parE
  rw [if_neg (by rw [hc]; decide),if_neg (by omega)]
 refine ⟨?_,hE⟩
 unfold parV
 rw [if_pos hE]
 unfold parL
 have hu:=(und_kid hq hb h64 (und_self hc (child_u hq hb h64 b))).1
 have hcv:=hu.cov
 unfold coverB at hcv
 simp only [Bool.and_eq_true,decide_eq_true_eq] at hcv
 refine lab_ext ?_ ?_
 ·show (childL q b).len - 1=q.len
  omega
 show ((headN (childL q b).bits.toNat ((childL q b).len.toNat - 1):Nat):Int)=q.bits
 rw [show (childL q b).len.toNat - 1=q.len.toNat by omega]
 exact hcv.2
def nodes (b:Int):Nat → List Itm → Lab → List (Lab × Rec)
 | 0,_,_ => []
 | n + 1,l,q => if (l.length:Int) ≤ b ∨ q.len=64 then [(q,leafT l)] else (q,innR) :: (nodes b n (covL (childL q 0) l) (childL q 0) ++ nodes b n (covL (childL q 1) l) (childL q 1))
structure Gro (n:Nat) (q:Lab):Prop where
 is:isL q=true
 u:U64 q.bits
 fu:65 ≤ n + q.len
theorem Gro.child {n:Nat} {q:Lab} (h:Gro (n + 1) q) (h64:q.len ≠ 64) (b:Int):Gro n (childL q b):=
 ⟨child_isL h.is h.u h64 b,child_u h.is h.u h64 b,by have:=h.fu; show 65 ≤ (n:Int) + (q.len + 1); omega⟩
theorem Gro.pos {q:Lab} (h:Gro 0 q):False:=by
 have:=h.fu; have:=(lab_parts h.is).2.1; omega
theorem nodes_und {b:Int}:∀ {n:Nat} {l:List Itm} {q:Lab},Gro n q → ∀ p ∈ nodes b n l q,Und q p.1
 | 0,l,q,h,p,hp => by cases hp
 | n + 1,l,q,h,p,hp => by
  unfold nodes at hp
  split at hp
  ·simp only [List.mem_cons,List.not_mem_nil,or_false] at hp
   subst hp; exact und_self h.is h.u
  rename_i hn
  have h64:q.len ≠ 64:=fun e => hn (.inr e)
  rcases List.mem_cons.1 hp with rfl | hp
  ·exact und_self h.is h.u
  rcases List.mem_append.1 hp with hp | hp
  ·exact (und_kid h.is h.u h64 (nodes_und (h.child h64 0) p hp)).1
  exact (und_kid h.is h.u h64 (nodes_und (h.child h64 1) p hp)).1
theorem nodes_sorted {b:Int}:∀ {n:Nat} {l:List Itm} {q:Lab},Gro n q → (nodes b n l q).Pairwise fun x y => lessL x.1 y.1=true
 | 0,l,q,h => .nil
 | n + 1,l,q,h => by
  unfold nodes
  split
  ·exact List.pairwise_singleton _ _
  rename_i hn
  have h64:q.len ≠ 64:=fun e => hn (.inr e)
  refine List.pairwise_cons.2 ⟨fun p hp => ?_,List.pairwise_append.2 ⟨nodes_sorted (h.child h64 0),nodes_sorted (h.child h64 1),fun x hx y hy => ?_⟩⟩
  ·rcases List.mem_append.1 hp with hp | hp
   ·have:=und_kid h.is h.u h64 (nodes_und (h.child h64 0) p hp)
    exact und_less this.1 this.2
   have:=und_kid h.is h.u h64 (nodes_und (h.child h64 1) p hp)
   exact und_less this.1 this.2
  have:=und_mid h.is h.u h64 (nodes_und (h.child h64 0) x hx) (nodes_und (h.child h64 1) y hy)
  unfold lessL
  rw [decide_eq_true this]; rfl
theorem nodes_dist {b:Int} {n:Nat} {l:List Itm} {q:Lab} (h:Gro n q):((nodes b n l q).map (·.1)).Nodup:=by
 unfold List.Nodup
 rw [List.pairwise_map]
 exact (nodes_sorted h).imp fun h => less_ne h
theorem nodes_head {b:Int} {n:Nat} {l:List Itm} {q:Lab}:∃ r,(q,r) ∈ nodes b (n + 1) l q:=by
 unfold nodes
 split
 ·exact ⟨_,List.mem_singleton.2 rfl⟩
 exact ⟨_,List.mem_cons_self ..⟩
theorem setA_new {α : Type} {q:Lab} {x:α}:∀ {T:List (Lab × α)},q ∉ T.map (·.1) → setA q x T=T ++ [(q,x)]
 | [],_ => rfl
 | p :: T,h => by
  rw [List.map_cons,List.mem_cons,not_or] at h
  unfold setA
  rw [if_neg (fun e => h.1 e.symm),setA_new h.2]; rfl
theorem grow_nodes {b:Int}:∀ {n:Nat} {l:List Itm} {q:Lab} {T:List (Lab × Rec)},Gro n q → (∀ p ∈ nodes b n l q,p.1 ∉ T.map (·.1)) →
  if T.length + (nodes b n l q).length ≤ 2000 then growP b n l q T=(true,T ++ nodes b n l q) else (growP b n l q T).1=false
 | 0,l,q,T,h,_ => h.pos.elim
 | n + 1,l,q,T,h,hT => by
  by_cases hfull:2000 ≤ T.length
  ·obtain ⟨r,hr⟩:=nodes_head (b:=b) (n:=n) (l:=l) (q:=q)
   have:=List.length_pos_of_mem hr
   rw [if_neg (by omega),grow_full hfull]
  by_cases h1:(l.length:Int) ≤ b ∨ q.len=64
  ·have hN:nodes b (n + 1) l q=[(q,leafT l)]:=by unfold nodes; exact if_pos h1
   rw [hN] at hT ⊢
   rw [if_pos (by simp only [List.length_cons,List.length_nil]; omega),grow_leaf hfull h1,setA_new (hT _ (List.mem_singleton.2 rfl))]
  have h64:q.len ≠ 64:=fun e => h1 (.inr e)
  have hce:chE q 0=0:=by unfold chE; rw [h.is]; simp [h64]
  have hcv:∀ i:Nat,chV q (i:Nat)=childL q (i:Nat):=fun i => (ch_okT hce).2.2 _
  have hN:nodes b (n + 1) l q=(q,innR) :: (nodes b n (covL (childL q 0) l) (childL q 0) ++ nodes b n (covL (childL q 1) l) (childL q 1)):=by rw [nodes.eq_2]; exact if_neg h1
  obtain ⟨N0,hN0⟩:=eqv (nodes b n (covL (childL q 0) l) (childL q 0))
  obtain ⟨N1,hN1⟩:=eqv (nodes b n (covL (childL q 1) l) (childL q 1))
  have hsr:=nodes_sorted (b:=b) (l:=l) h
  rw [hN,← hN0,← hN1] at hT hsr
  rw [hN,← hN0,← hN1]
  have hs1:=List.pairwise_cons.1 hsr
  have hs2:=List.pairwise_append.1 hs1.2
  have hT0:gT b n l q T 0=T ++ [(q,innR)]:=setA_new (hT _ (List.mem_cons_self ..))
  have i0:=grow_nodes (b:=b) (l:=covL (childL q 0) l) (T:=T ++ [(q,innR)]) (h.child h64 0) (by
   rw [← hN0]
   intro p hp hm
   rw [List.map_append,List.mem_append] at hm
   rcases hm with hm | hm
   ·exact hT p (List.mem_cons_of_mem _ (List.mem_append_left _ hp)) hm
   simp at hm
   exact less_ne (hs1.1 p (List.mem_append_left _ hp)) hm.symm)
  rw [← hN0] at i0
  rw [grow_in hfull h1 hce]
  have hB0:gB b n l q T 0=(growP b n (covL (childL q 0) l) (childL q 0) (T ++ [(q,innR)])).1:=by unfold gB; rw [hT0,hcv]; rfl
  have hT1:gT b n l q T 1=(growP b n (covL (childL q 0) l) (childL q 0) (T ++ [(q,innR)])).2:=by
   show (growP b n (covL (chV q ((0:Nat):Int)) l) (chV q ((0:Nat):Int)) (gT b n l q T 0)).2=_
   rw [hT0,hcv]; rfl
  have hB1:gB b n l q T 1=(growP b n (covL (childL q 1) l) (childL q 1) (gT b n l q T 1)).1:=by unfold gB; rw [hcv]; rfl
  have hT2:gT b n l q T 2=(growP b n (covL (childL q 1) l) (childL q 1) (gT b n l q T 1)).2:=by
   show (growP b n (covL (chV q ((1:Nat):Int)) l) (chV q ((1:Nat):Int)) (gT b n l q T 1)).2=_
   rw [hcv]; rfl
  simp only [List.length_append,List.length_cons,List.length_nil] at i0 ⊢
  by_cases hl0:T.length + (0 + 1) + N0.length ≤ 2000
  ·rw [if_pos hl0] at i0
   rw [i0] at hB0 hT1
   rw [hB0,if_pos rfl,hB1,hT2,hT1]
   have i1:=grow_nodes (b:=b) (l:=covL (childL q 1) l) (T:=T ++ [(q,innR)] ++ N0) (h.child h64 1) (by
    rw [← hN1]
    intro p hp hm
    rw [List.map_append,List.map_append,List.mem_append,List.mem_append] at hm
    rcases hm with (hm | hm) | hm
    ·exact hT p (List.mem_cons_of_mem _ (List.mem_append_right _ hp)) hm
    ·simp at hm
     exact less_ne (hs1.1 p (List.mem_append_right _ hp)) hm.symm
    obtain ⟨p0,hp0,he⟩:=List.mem_map.1 hm
    exact less_ne (hs2.2.2 p0 hp0 p hp) he)
   rw [← hN1] at i1
   simp only [List.length_append,List.length_cons,List.length_nil] at i1
   by_cases hl1:T.length + (0 + 1) + N0.length + N1.length ≤ 2000
   ·rw [if_pos hl1] at i1
    rw [if_pos (by omega),i1]
    simp
   rw [if_neg hl1] at i1
   rw [if_neg (by omega),i1]
  rw [if_neg hl0] at i0
  rw [i0] at hB0
  rw [hB0,if_neg (by omega)]
  rfl
theorem cov_cov {q k:Lab} (h:Und q k) (hq:isL q=true) (l:List Itm):covL k (covL q l)=covL k l:=by
 unfold covL
 rw [List.filter_filter]
 congr 1
 funext x
 cases hc:coverB k x.key with
 | false => rfl
 | true => rw [cov_in h hq hc]; rfl
structure ItsOk (l:List Itm):Prop where
 keys:∀ x ∈ l,U64 x.key
 rises:l.Pairwise fun x y => x.key < y.key
theorem ItsOk.cov {l:List Itm} (h:ItsOk l) (q:Lab):ItsOk (covL q l):=
 ⟨fun x hx => h.keys x (List.mem_filter.1 hx).1,h.rises.sublist List.filter_sublist⟩
theorem split_rises {l:List Itm} (h:l.Pairwise fun x y => x.key < y.key) (m:Int):(l.filter fun x => decide (x.key < m)) ++ (l.filter fun x => decide (m ≤ x.key))=l:=by
 induction l with
 | nil => rfl
 | cons x l ih =>
  have h':=List.pairwise_cons.1 h
  by_cases hx:x.key < m
  ·rw [List.filter_cons,if_pos (by simpa using hx),List.filter_cons,if_neg (by simp; omega),List.cons_append,ih h'.2]
  have h1:(x :: l).filter (fun x => decide (x.key < m))=[]:=by
   rw [List.filter_eq_nil_iff]
   intro y hy
   rcases List.mem_cons.1 hy with rfl | hy
   ·simpa using hx
   have:=h'.1 y hy; simp; omega
  have h2:(x :: l).filter (fun x => decide (m ≤ x.key))=x :: l:=by
   rw [List.filter_eq_self]
   intro y hy
   rcases List.mem_cons.1 hy with rfl | hy
   ·simp; omega
   have:=h'.1 y hy; simp; omega
  rw [h1,h2]; rfl
theorem cov_two {q:Lab} (hq:isL q=true) (hb:U64 q.bits) (h64:q.len ≠ 64) {l:List Itm} (h:ItsOk l):covL (childL q 0) l ++ covL (childL q 1) l=covL q l:=by
 have e:∀ b,covL (childL q b) l=covL (childL q b) (covL q l):=fun b => (cov_cov (und_kid hq hb h64 (und_self (child_isL hq hb h64 b) (child_u hq hb h64 b))).1 hq l).symm
 have hk:=h.cov q
 have h0:covL (childL q 0) (covL q l)=(covL q l).filter fun x => decide (x.key < (childL q 1).bits):=List.filter_congr fun x hx => (child_cov hq hb h64 (hk.keys x hx) (List.mem_filter.1 hx).2).1
 have h1:covL (childL q 1) (covL q l)=(covL q l).filter fun x => decide ((childL q 1).bits ≤ x.key):=List.filter_congr fun x hx => (child_cov hq hb h64 (hk.keys x hx) (List.mem_filter.1 hx).2).2
 rw [e,e,h0,h1,split_rises hk.rises]
theorem cov_root {l:List Itm} (h:∀ x ∈ l,U64 x.key):covL ⟨0,0⟩ l=l:=by
 unfold covL
 rw [List.filter_eq_self]
 intro x hx
 have:=(h x hx).1
 have hu:=u64_lt (h x hx)
 unfold coverB
 rw [show isL ⟨0,0⟩=true from by decide,Bool.true_and]
 refine decide_eq_true ?_
 show ((headN x.key.toNat 0:Nat):Int)=0
 unfold headN
 rw [Nat.div_eq_of_lt (by simpa using hu)]
 simp
theorem cov_deep {q:Lab} (hq:isL q=true) (h64:q.len=64) {l:List Itm} (h:ItsOk l):(covL q l).length ≤ 1:=by
 have hk:=h.cov q
 have key:∀ x ∈ covL q l,x.key=q.bits:=fun x hx => by
  have hc:=(List.mem_filter.1 hx).2
  have hu:=(hk.keys x hx).1
  unfold coverB at hc
  simp only [Bool.and_eq_true,decide_eq_true_eq] at hc
  have h2:=hc.2
  rw [h64] at h2
  have h3:((headN x.key.toNat 64:Nat):Int)=q.bits:=h2
  unfold headN at h3
  simp at h3
  omega
 match hl:covL q l with
 | [] => simp
 | [x] => simp
 | x :: y :: r =>
  rw [hl] at key hk
  have h1:=(List.pairwise_cons.1 hk.rises).1 y (by simp)
  have:=key x (by simp)
  have:=key y (by simp)
  omega
theorem nodes_row {b:Int} {L:List Itm}:∀ {n:Nat} {l:List Itm} {q:Lab},Gro n q → l=covL q L → ∀ p ∈ nodes b n l q,
  (p.2=leafT (covL p.1 L) ∧ (((covL p.1 L).length:Int) ≤ b ∨ p.1.len=64)) ∨ (p.2=innR ∧ ¬ ((covL p.1 L).length:Int) ≤ b ∧ p.1.len ≠ 64 ∧ (∃ r,(childL p.1 0,r) ∈ nodes b n l q) ∧ ∃ r,(childL p.1 1,r) ∈ nodes b n l q)
 | 0,l,q,h,_,p,hp => by cases hp
 | n + 1,l,q,h,hl,p,hp => by
  have hne:∀ {k:Nat},k + 1 ≤ n + 1 → True:=fun _ => trivial
  unfold nodes at hp ⊢
  split at hp
  ·rename_i h1
   simp only [List.mem_cons,List.not_mem_nil,or_false] at hp
   subst hp
   rw [← hl]
   exact .inl ⟨rfl,h1⟩
  rename_i h1
  rw [if_neg h1]
  have h64:q.len ≠ 64:=fun e => h1 (.inr e)
  have g0:=h.child h64 0
  have g1:=h.child h64 1
  have hcc:∀ b',covL (childL q b') l=covL (childL q b') L:=fun b' => by
   rw [hl]; exact cov_cov (und_kid h.is h.u h64 (und_self (child_isL h.is h.u h64 b') (child_u h.is h.u h64 b'))).1 h.is L
  have hn:∃ m,n=m + 1:=by
   cases n with
   | zero => exact (g0.pos).elim
   | succ m => exact ⟨m,rfl⟩
  obtain ⟨m,rfl⟩:=hn
  rcases List.mem_cons.1 hp with rfl | hp
  ·refine .inr ⟨rfl,?_,h64,?_,?_⟩
   ·show ¬ ((covL q L).length:Int) ≤ b
    rw [← hl]; exact fun h2 => h1 (.inl h2)
   ·obtain ⟨r,hr⟩:=nodes_head (b:=b) (n:=m) (l:=covL (childL q 0) l) (q:=childL q 0)
    exact ⟨r,List.mem_cons_of_mem _ (List.mem_append_left _ hr)⟩
   obtain ⟨r,hr⟩:=nodes_head (b:=b) (n:=m) (l:=covL (childL q 1) l) (q:=childL q 1)
   exact ⟨r,List.mem_cons_of_mem _ (List.mem_append_right _ hr)⟩
  rcases List.mem_append.1 hp with hp | hp
  ·rcases nodes_row g0 (hcc 0) p hp with h2 | ⟨h2,h3,h4,⟨r0,h5⟩,⟨r1,h6⟩⟩
   ·exact .inl h2
   exact .inr ⟨h2,h3,h4,⟨r0,List.mem_cons_of_mem _ (List.mem_append_left _ h5)⟩,⟨r1,List.mem_cons_of_mem _ (List.mem_append_left _ h6)⟩⟩
  rcases nodes_row g1 (hcc 1) p hp with h2 | ⟨h2,h3,h4,⟨r0,h5⟩,⟨r1,h6⟩⟩
  ·exact .inl h2
  exact .inr ⟨h2,h3,h4,⟨r0,List.mem_cons_of_mem _ (List.mem_append_right _ h5)⟩,⟨r1,List.mem_cons_of_mem _ (List.mem_append_right _ h6)⟩⟩
theorem nodes_up {b:Int}:∀ {n:Nat} {l:List Itm} {q:Lab},Gro n q → ∀ p ∈ nodes b n l q,p.1=q ∨ ((parV p.1,innR) ∈ nodes b n l q ∧ parE p.1=0 ∧ q.len < p.1.len ∧ ((p.1=childL (parV p.1) 0 ∨ p.1=childL (parV p.1) 1) ∧ (parV p.1).len ≠ 64))
 | 0,l,q,h,p,hp => by cases hp
 | n + 1,l,q,h,p,hp => by
  unfold nodes at hp ⊢
  split at hp
  ·simp only [List.mem_cons,List.not_mem_nil,or_false] at hp
   subst hp; exact .inl rfl
  rename_i h1
  rw [if_neg h1]
  have h64:q.len ≠ 64:=fun e => h1 (.inr e)
  have hlen:∀ b',(childL q b').len=q.len + 1:=fun _ => rfl
  rcases List.mem_cons.1 hp with rfl | hp
  ·exact .inl rfl
  right
  have kid:∀ b':Int,(b'=0 ∨ b'=1) → (p.1=childL q b' ∨ ((parV p.1,innR) ∈ nodes b n (covL (childL q b') l) (childL q b') ∧ parE p.1=0 ∧ (childL q b').len < p.1.len ∧ ((p.1=childL (parV p.1) 0 ∨ p.1=childL (parV p.1) 1) ∧ (parV p.1).len ≠ 64))) → (∀ x,x ∈ nodes b n (covL (childL q b') l) (childL q b') → x ∈ ((q,innR) :: (nodes b n (covL (childL q 0) l) (childL q 0) ++ nodes b n (covL (childL q 1) l) (childL q 1)))) →
    ((parV p.1,innR) ∈ ((q,innR) :: (nodes b n (covL (childL q 0) l) (childL q 0) ++ nodes b n (covL (childL q 1) l) (childL q 1))) ∧ parE p.1=0 ∧ q.len < p.1.len ∧ ((p.1=childL (parV p.1) 0 ∨ p.1=childL (parV p.1) 1) ∧ (parV p.1).len ≠ 64)):=by
   intro b' hb' hc hsub
   rcases hc with hc | ⟨g1,g2,g3,g4⟩
   ·obtain ⟨e1,e2⟩:=par_child h.is h.u h64 b'
    rw [hc,e1]
    refine ⟨List.mem_cons_self ..,e2,by rw [hlen]; omega,?_,h64⟩
    rcases hb' with rfl | rfl
    ·exact .inl rfl
    exact .inr rfl
   exact ⟨hsub _ g1,g2,by rw [hlen] at g3; omega,g4⟩
  rcases List.mem_append.1 hp with hp | hp
  ·exact kid 0 (.inl rfl) (nodes_up (h.child h64 0) p hp) fun x hx => List.mem_cons_of_mem _ (List.mem_append_left _ hx)
  exact kid 1 (.inr rfl) (nodes_up (h.child h64 1) p hp) fun x hx => List.mem_cons_of_mem _ (List.mem_append_right _ hx)
theorem gro_root:Gro 65 ⟨0,0⟩:=⟨by decide,⟨by decide,by decide⟩,by decide⟩
structure Blt (b:Int) (L:List Itm) (R:List Rw):Prop where
 ok:ItsOk L
 vals:∀ x ∈ L,x.val.size ≤ 64
 b1:1 ≤ b
 b16:b ≤ 16
 len:(nodes b 65 L ⟨0,0⟩).length ≤ 2000
 rows:R=((nodes b 65 L ⟨0,0⟩).map rwOf).map (fixN (nxP (leavesP ((nodes b 65 L ⟨0,0⟩).map rwOf))))
theorem srt_pair {n:Nat} {f:Nat → Itm} (hs:srtB n f=true) (hd:dupB n f=false):(firsts f n).Pairwise fun x y => x.key < y.key:=by
 have step:∀ t,t + 1 < n → (f t).key < (f (t + 1)).key:=fun t ht => by
  have h1:=List.all_eq_true.1 hs t (List.mem_range.2 (by omega))
  have h2:=List.any_eq_false.1 hd t (List.mem_range.2 (by omega))
  have h1:¬ (f (t + 1)).key < (f t).key:=of_decide_eq_true h1
  have h2:¬ (f (t + 1)).key=(f t).key:=by simpa using h2
  omega
 have far:∀ d t,t + d + 1 < n → (f t).key < (f (t + d + 1)).key:=fun d => by
  induction d with
  | zero => exact fun t ht => step t ht
  | succ d ih =>
   intro t ht
   have h1:=ih t (by omega)
   have h2:=step (t + d + 1) (by omega)
   rw [show t + (d + 1) + 1=t + d + 1 + 1 by omega]
   omega
 unfold firsts
 rw [List.pairwise_map]
 refine List.Pairwise.imp_of_mem ?_ (List.pairwise_lt_range (n:=n))
 intro i j hi hj hij
 have hj:=List.mem_range.1 hj
 have:=far (j - i - 1) i (by omega)
 rw [show i + (j - i - 1) + 1=j by omega] at this
 exact this
theorem sortE_id {N:List (Lab × Rec)} (h:N.Pairwise fun x y => lessL x.1 y.1=true):sortE N=N:=by
 refine List.Perm.eq_of_pairwise (le:=leE) (fun a b ha hb h1 h2 => ?_) (sortE_sorted N) (h.imp fun h => less_le h) (sortE_perm N)
 have e:a.1=b.1:=leL_anti h1 h2
 have ha:=(sortE_perm N).mem_iff.1 ha
 have hnd:(N.map (·.1)).Nodup:=by
  unfold List.Nodup
  rw [List.pairwise_map]
  exact h.imp fun h => less_ne h
 have g1:=mem_getA hnd ha
 have g2:=mem_getA hnd hb
 rw [e,g2] at g1
 injection g1 with g1
 exact Prod.ext e g1.symm
theorem bld_yes {n:Nat} {f:Nat → Itm} {b:Int} (hk:∀ i,i < n → U64 (f i).key) (h:bldE n f b=0):Blt b (firsts f n) (bldR n f b):=by
 have hR:bldR n f b=(bld0 n f b).map (fixN (nxP (leavesP (bld0 n f b)))):=by unfold bldR; rw [if_pos h]
 unfold bldE at h
 split at h
 ·cases h
 rename_i h1
 split at h
 ·cases h
 split at h
 ·rename_i hg
  simp only [not_or,Bool.not_eq_true,Bool.not_eq_false] at h1
  obtain ⟨g1,g2,g3,g4,g5⟩:=h1
  have hgn:=grow_nodes (b:=b) (n:=65) (l:=firsts f n) (q:=⟨0,0⟩) (T:=[]) gro_root (by simp)
  have hlen:(nodes b 65 (firsts f n) ⟨0,0⟩).length ≤ 2000:=by
   by_cases hl:([]:List (Lab × Rec)).length + (nodes b 65 (firsts f n) ⟨0,0⟩).length ≤ 2000
   ·simpa using hl
   rw [if_neg hl] at hgn
   unfold growT at hg
   rw [hgn] at hg; cases hg
  rw [if_pos (by simpa using hlen)] at hgn
  have hb0:bld0 n f b=(nodes b 65 (firsts f n) ⟨0,0⟩).map rwOf:=by
   unfold bld0 growT
   rw [hgn,List.nil_append,sortE_id (nodes_sorted gro_root)]
  refine ⟨⟨firsts_all hk,srt_pair g4 g5⟩,?_,by omega,by omega,hlen,by rw [hR,hb0]⟩
  intro x hx
  unfold firsts at hx
  obtain ⟨i,hi,rfl⟩:=List.mem_map.1 hx
  have:=List.any_eq_false.1 g3 i hi
  simpa using this
 cases h
theorem bld_no {n:Nat} {f:Nat → Itm} {b:Int} (h:bldE n f b ≠ 0):bldR n f b=[]:=by unfold bldR; rw [if_neg h]
abbrev nodR (b:Int) (L:List Itm):List (Lab × Rec):=nodes b 65 L ⟨0,0⟩
abbrev lvR (b:Int) (L:List Itm):List Lab:=leavesP ((nodR b L).map rwOf)
def recR (NX:Lab → Lab) (p:Lab × Rec):Rec:=if p.2.kind=1 then { p.2 with next:=NX p.1 } else p.2
def rowR (NX:Lab → Lab) (p:Lab × Rec):Rw:=⟨p.1,1,recR NX p⟩
theorem fix_row (NX:Lab → Lab) (p:Lab × Rec):fixN NX (rwOf p)=rowR NX p:=by
 unfold fixN rowR recR rwOf
 split<;>rfl
theorem recR_kind (NX:Lab → Lab) (p:Lab × Rec):(recR NX p).kind=p.2.kind:=by unfold recR; split<;>rfl
theorem recR_items (NX:Lab → Lab) (p:Lab × Rec):(recR NX p).items=p.2.items:=by unfold recR; split<;>rfl
section
variable {b:Int} {L:List Itm} {R:List Rw}
theorem Blt.rows' (h:Blt b L R):R=(nodR b L).map (rowR (nxP (lvR b L))):=by
 rw [h.rows,List.map_map]
 exact List.map_congr_left fun p _ => fix_row _ p
theorem Blt.labs (h:Blt b L R):R.map (·.lab)=(nodR b L).map (·.1):=by
 rw [h.rows',List.map_map]; rfl
theorem Blt.dist (h:Blt b L R):(R.map (·.lab)).Nodup:=by
 rw [h.labs]; exact nodes_dist gro_root
theorem Blt.mem (h:Blt b L R) {w:Rw}:w ∈ R ↔ ∃ p ∈ nodR b L,w=rowR (nxP (lvR b L)) p:=by
 rw [h.rows',List.mem_map]
 exact ⟨fun ⟨p,h1,h2⟩ => ⟨p,h1,h2.symm⟩,fun ⟨p,h1,h2⟩ => ⟨p,h1,h2.symm⟩⟩
theorem Blt.at_ (h:Blt b L R) {p:Lab × Rec} (hp:p ∈ nodR b L):treP R p.1=some (recR (nxP (lvR b L)) p):=
 treP_at h.dist (h.mem.2 ⟨p,hp,rfl⟩)
theorem lv_sorted:(leafs ((nodR b L).map rwOf)).Pairwise fun x y => lessL x y=true:=by
 unfold leafs
 rw [List.pairwise_map]
 refine List.Pairwise.sublist List.filter_sublist ?_
 rw [List.pairwise_map]
 exact nodes_sorted gro_root
theorem lv_eq:lvR b L=leafs ((nodR b L).map rwOf):=sortL_eq (List.Perm.refl _) (lv_sorted.imp fun h => less_le h)
theorem lv_mem {k:Lab}:k ∈ lvR b L ↔ ∃ p ∈ nodR b L,p.2.kind=1 ∧ p.1=k:=by
 rw [lv_eq]
 unfold leafs
 constructor
 ·intro hm
  obtain ⟨w,hw,rfl⟩:=List.mem_map.1 hm
  obtain ⟨h1,h2⟩:=List.mem_filter.1 hw
  obtain ⟨p,hp,rfl⟩:=List.mem_map.1 h1
  exact ⟨p,hp,of_decide_eq_true h2,rfl⟩
 rintro ⟨p,hp,hk,rfl⟩
 exact List.mem_map.2 ⟨rwOf p,List.mem_filter.2 ⟨List.mem_map.2 ⟨p,hp,rfl⟩,decide_eq_true hk⟩,rfl⟩
theorem lv_dist:(lvR b L).Nodup:=by
 rw [lv_eq]
 exact lv_sorted.imp fun h => less_ne h
theorem nx_is {k:Lab} (hk:k ∈ lvR b L):nxP (lvR b L) k=noneL ∨ nxP (lvR b L) k ∈ lvR b L:=by
 obtain ⟨i,hi,rfl⟩:=labF_mem hk
 have hj:=labF_inj (lv_dist (b:=b) (L:=L))
 unfold nxP
 rw [nexA_get (labF (lvR b L)) (lvR b L).length hj (lvR b L).length (Nat.le_refl _) i hi]
 show (if i + 1 < (lvR b L).length then labF (lvR b L) (i + 1) else noneL)=noneL ∨ (if i + 1 < (lvR b L).length then labF (lvR b L) (i + 1) else noneL) ∈ lvR b L
 by_cases h1:i + 1 < (lvR b L).length
 ·rw [if_pos h1]
  right
  unfold labF
  rw [List.getD_eq_getElem?_getD,List.getElem?_eq_getElem h1]
  exact List.getElem_mem h1
 rw [if_neg h1]; exact .inl rfl
theorem nod_row (hk:∀ x ∈ L,U64 x.key) {p:Lab × Rec} (hp:p ∈ nodR b L) :
  (p.2=leafT (covL p.1 L) ∧ (((covL p.1 L).length:Int) ≤ b ∨ p.1.len=64)) ∨ (p.2=innR ∧ ¬ ((covL p.1 L).length:Int) ≤ b ∧ p.1.len ≠ 64 ∧ (∃ r,(childL p.1 0,r) ∈ nodR b L) ∧ ∃ r,(childL p.1 1,r) ∈ nodR b L):=
 nodes_row (b:=b) (L:=L) gro_root (cov_root hk).symm p hp
theorem nod_und {p:Lab × Rec} (hp:p ∈ nodR b L):Und ⟨0,0⟩ p.1:=nodes_und gro_root p hp
theorem lv_is {k:Lab} (hk:k ∈ lvR b L):isL k=true ∧ U64 k.bits:=by
 obtain ⟨p,hp,_,rfl⟩:=lv_mem.1 hk
 exact ⟨(nod_und hp).is,(nod_und hp).u⟩
theorem newL_some:∀ {l:List Rw} {M:Shf},(l.map (·.lab)).Nodup → (∀ w ∈ l,findL w.lab M=none) → (∀ w ∈ l,isL w.lab=true ∧ isR w.r=true) → (newL l M).isSome=true
 | [],M,_,_,_ => rfl
 | v :: l,M,hd,hn,hr => by
  rw [List.map_cons,List.nodup_cons] at hd
  unfold newL
  rw [hn v (by simp),(hr v (by simp)).1,(hr v (by simp)).2]
  simp only [Option.isSome_none,Bool.not_true,Bool.or_self,Bool.false_eq_true,if_false]
  refine newL_some hd.2 (fun w hw => ?_) fun w hw => hr w (by simp [hw])
  rw [find_put,if_neg (fun e => hd.1 (List.mem_map.2 ⟨w,hw,e.symm⟩))]
  exact hn w (by simp [hw])
theorem okF_its {l:List Itm} (h:ItsOk l) (hv:∀ x ∈ l,x.val.size ≤ 64):okF (itF l) l.length=true:=by
 unfold okF
 rw [List.all_eq_true]
 intro i hi
 have hi:=List.mem_range.1 hi
 have e:∀ j (hj:j < l.length),itF l j=l[j]:=fun j hj => by unfold itF; rw [List.getD_eq_getElem?_getD,List.getElem?_eq_getElem hj]; rfl
 unfold okAt
 rw [e i hi,decide_eq_true (hv _ (List.getElem_mem hi)),Bool.true_and]
 by_cases h0:i=0
 ·subst h0; rfl
 rw [e (i - 1) (by omega),decide_eq_true (List.pairwise_iff_getElem.1 h.rises (i - 1) i (by omega) hi (by omega))]
 simp
theorem leaf_few (h:Blt b L R) {p:Lab × Rec} (hp:p ∈ nodR b L) (hc:((covL p.1 L).length:Int) ≤ b ∨ p.1.len=64):((covL p.1 L).length:Int) ≤ b:=by
 rcases hc with hc | hc
 ·exact hc
 have:=cov_deep (nod_und hp).is hc h.ok
 have:=h.b1
 omega
theorem Blt.right (h:Blt b L R):isRw R=true:=by
 unfold isRw newS
 rw [if_neg (by rw [h.rows',List.length_map]; exact Nat.not_lt.2 h.len)]
 refine newL_some h.dist (fun w _ => rfl) fun w hw => ?_
 obtain ⟨p,hp,rfl⟩:=h.mem.1 hw
 refine ⟨(nod_und hp).is,?_⟩
 show isR (recR _ p)=true
 rcases nod_row h.ok.keys hp with ⟨h1,h2⟩ | ⟨h1,_⟩
 ·have hk:p.2.kind=1:=by rw [h1]; rfl
  have hlv:p.1 ∈ lvR b L:=lv_mem.2 ⟨p,hp,hk,rfl⟩
  have hfew:=leaf_few h hp h2
  have h16:=h.b16
  unfold recR
  rw [if_pos hk,h1]
  show isRF 1 (covL p.1 L).length (itF (covL p.1 L)) (nxP (lvR b L) p.1) 0=true
  unfold isRF rowF bareK
  rw [okF_its (h.ok.cov p.1) fun x hx => h.vals x (List.mem_filter.1 hx).1,decide_eq_true (show (covL p.1 L).length ≤ 16 by omega)]
  rcases nx_is hlv with e | e
  ·rw [e]; simp
  rw [(lv_is e).1]; simp
 unfold recR
 rw [if_neg (by rw [h1]; decide),h1]
 decide
theorem Blt.isR_small (h:Blt b L R) {w:Rw} (hw:w ∈ R):w.r.items.length ≤ 16 ∧ isL w.lab=true ∧ U64 w.lab.bits ∧ U64 w.r.next.bits ∧ ∀ x ∈ w.r.items,U64 x.key:=by
 obtain ⟨p,hp,rfl⟩:=h.mem.1 hw
 have hi:(rowR (nxP (lvR b L)) p).r.items=p.2.items:=recR_items _ p
 refine ⟨?_,(nod_und hp).is,(nod_und hp).u,?_,?_⟩
 ·rw [hi]
  rcases nod_row h.ok.keys hp with ⟨h1,h2⟩ | ⟨h1,_⟩
  ·rw [h1]
   have:=leaf_few h hp h2
   have:=h.b16
   show (covL p.1 L).length ≤ 16
   omega
  rw [h1]; exact Nat.zero_le _
 ·show U64 (recR _ p).next.bits
  rcases nod_row h.ok.keys hp with ⟨h1,h2⟩ | ⟨h1,_⟩
  ·have hk:p.2.kind=1:=by rw [h1]; rfl
   unfold recR
   rw [if_pos hk]
   rcases nx_is (lv_mem.2 ⟨p,hp,hk,rfl⟩) with e | e
   ·show U64 (nxP (lvR b L) p.1).bits
    rw [e]; exact ⟨by decide,by decide⟩
   exact (lv_is e).2
  unfold recR
  rw [if_neg (by rw [h1]; decide),h1]
  exact ⟨by decide,by decide⟩
 rw [hi]
 rcases nod_row h.ok.keys hp with ⟨h1,h2⟩ | ⟨h1,_⟩
 ·rw [h1]
  intro x hx
  exact h.ok.keys x (List.mem_filter.1 hx).1
 rw [h1]; intro x hx; cases hx
theorem ch_yes {q:Lab} (hq:isL q=true) (h64:q.len ≠ 64):chE q 0=0 ∧ ∀ i:Int,chV q i=childL q i:=by
 have hce:chE q 0=0:=by unfold chE; rw [hq]; simp [h64]
 exact ⟨hce,fun i => (ch_okT hce).2.2 i⟩
theorem Blt.root (h:Blt b L R):(treP R ⟨0,0⟩).isSome=true:=by
 obtain ⟨r,hr⟩:=nodes_head (b:=b) (n:=64) (l:=L) (q:=⟨0,0⟩)
 have:=h.at_ hr
 simp only at this
 rw [this]; rfl
theorem Blt.means (h:Blt b L R):∀ (fu:Nat) (p:Lab × Rec),p ∈ nodR b L → 65 ≤ fu + p.1.len → meansP (treP R) fu p.1=covL p.1 L
 | 0,p,hp,h65 => by have:=(lab_parts (nod_und hp).is).2.1; omega
 | fu + 1,p,hp,h65 => by
  unfold meansP
  rw [h.at_ hp]
  simp only
  rw [recR_kind,recR_items]
  have hu:=nod_und hp
  rcases nod_row h.ok.keys hp with ⟨h1,h2⟩ | ⟨h1,h2,h3,⟨r0,h4⟩,⟨r1,h5⟩⟩
  ·have hk:p.2.kind=1:=by rw [h1]; rfl
   rw [if_pos (.inl hk),h1]; rfl
  have hk:p.2.kind=2:=by rw [h1]; rfl
  obtain ⟨hce,hcv⟩:=ch_yes hu.is h3
  rw [if_neg (by rw [hk]; decide),hce,if_pos rfl,hcv,hcv]
  have k:∀ c,kidP (treP R) (meansP (treP R) fu) (recR (nxP (lvR b L)) p) c=meansP (treP R) fu c:=fun c => by
   unfold kidP
   rw [recR_kind,if_neg (fun h => by rw [hk] at h; exact absurd h.1 (by decide))]
  rw [k,k]
  have hl0:(childL p.1 0).len=p.1.len + 1:=rfl
  have hl1:(childL p.1 1).len=p.1.len + 1:=rfl
  rw [h.means fu _ h4 (by show 65 ≤ (fu:Int) + (childL p.1 0).len; rw [hl0]; omega),h.means fu _ h5 (by show 65 ≤ (fu:Int) + (childL p.1 1).len; rw [hl1]; omega)]
  exact cov_two hu.is hu.u h3 h.ok
theorem Blt.items (h:Blt b L R):itemsP R=L ∧ itemsE R=0:=by
 unfold itemsP itemsE
 rw [if_pos h.right,if_pos h.right]
 obtain ⟨r,hr⟩:=nodes_head (b:=b) (n:=64) (l:=L) (q:=⟨0,0⟩)
 have:=h.means 65 _ hr (by show (65:Int) ≤ 65 + 0; decide)
 simp only at this
 rw [this,cov_root h.ok.keys]
 exact ⟨rfl,rfl⟩
theorem Blt.kind (h:Blt b L R) {w:Rw} (hw:w ∈ R):(w.r.kind=2 ↔ b < ((covL w.lab L).length:Int)) ∧ w.ver=1 ∧ (w.r.kind=1 ∨ w.r.kind=2):=by
 obtain ⟨p,hp,rfl⟩:=h.mem.1 hw
 show ((recR _ p).kind=2 ↔ b < ((covL p.1 L).length:Int)) ∧ 1=1 ∧ ((recR _ p).kind=1 ∨ (recR _ p).kind=2)
 rw [recR_kind]
 rcases nod_row h.ok.keys hp with ⟨h1,h2⟩ | ⟨h1,h2,_⟩
 ·have hfew:=leaf_few h hp h2
  have hk:p.2.kind=1:=by rw [h1]; rfl
  rw [hk]
  exact ⟨⟨fun e => absurd e (by decide),fun e => by omega⟩,rfl,.inl rfl⟩
 have hk:p.2.kind=2:=by rw [h1]; rfl
 rw [hk]
 exact ⟨⟨fun _ => by omega,fun _ => rfl⟩,rfl,.inr rfl⟩
end
section
variable {b:Int} {L:List Itm} {R:List Rw}
theorem Blt.own (h:Blt b L R) {w:Rw} (hw:w ∈ R) {x:Itm} (hx:x ∈ L):x ∈ w.r.items ↔ (w.r.kind=1 ∧ coverB w.lab x.key=true):=by
 obtain ⟨p,hp,rfl⟩:=h.mem.1 hw
 show x ∈ (recR _ p).items ↔ ((recR _ p).kind=1 ∧ coverB p.1 x.key=true)
 rw [recR_kind,recR_items]
 rcases nod_row h.ok.keys hp with ⟨h1,_⟩ | ⟨h1,_⟩
 ·rw [h1]
  constructor
  ·intro hm; exact ⟨rfl,(List.mem_filter.1 hm).2⟩
  rintro ⟨_,hc⟩; exact List.mem_filter.2 ⟨hx,hc⟩
 rw [h1]
 constructor
 ·intro hm; cases hm
 rintro ⟨hc,_⟩; exact absurd hc (by show ¬ (2:Int)=1; decide)
end
section
variable {b:Int} {L:List Itm} {R:List Rw}
theorem Blt.lessW (h:Blt b L R):R.Pairwise fun x y => lessL x.lab y.lab=true:=by
 rw [h.rows',List.pairwise_map]
 exact nodes_sorted gro_root
theorem find_spW:∀ {R:List Rw} (q:Lab),(R.map (·.lab)).Nodup → (∀ w ∈ R,w.lab=q → findL q (R.map spW)=some ⟨w.ver,true,w.r⟩) ∧ ((∀ w ∈ R,w.lab ≠ q) → findL q (R.map spW)=none)
 | [],q,_ => ⟨fun w hw => (by cases hw),fun _ => rfl⟩
 | v :: R,q,hd => by
  rw [List.map_cons,List.nodup_cons] at hd
  obtain ⟨h1,h2⟩:=find_spW (R:=R) q hd.2
  constructor
  ·intro w hw he
   rw [List.map_cons]
   unfold findL
   rcases List.mem_cons.1 hw with rfl | hw
   ·rw [if_pos (show (spW w).1=q from he)]; rfl
   rw [if_neg (show ¬ (spW v).1=q from fun e => hd.1 (List.mem_map.2 ⟨w,hw,he.trans e.symm⟩))]
   exact h1 w hw he
  intro hn
  rw [List.map_cons]
  unfold findL
  rw [if_neg (show ¬ (spW v).1=q from hn v (by simp))]
  exact h2 fun w hw => hn w (by simp [hw])
theorem Blt.spot (h:Blt b L R) {p:Lab × Rec} (hp:p ∈ nodR b L):spotOf (R.map spW) p.1=⟨1,true,recR (nxP (lvR b L)) p⟩:=by
 unfold spotOf
 rw [(find_spW p.1 h.dist).1 _ (h.mem.2 ⟨p,hp,rfl⟩) rfl]
 rfl
theorem Blt.spot_no (h:Blt b L R) {q:Lab} (hq:∀ p ∈ nodR b L,p.1 ≠ q):spotOf (R.map spW) q=zeroSpo:=by
 unfold spotOf
 rw [(find_spW q h.dist).2 fun w hw => by
  obtain ⟨p,hp,rfl⟩:=h.mem.1 hw
  exact hq p hp]
 rfl
theorem Blt.gk_no (h:Blt b L R) {q:Lab} (hq:∀ p ∈ nodR b L,p.1 ≠ q) (kd:Int):Sym.gk (gotAtL (R.map spW) q) kd=false:=by
 unfold Sym.gk gotAtL
 rw [h.spot_no hq]
 rfl
theorem cov_ofV {q:Lab} {key:Int} (hc:coverB q key=true):q=ofV key q.len:=by
 unfold coverB at hc
 simp only [Bool.and_eq_true,decide_eq_true_eq] at hc
 obtain ⟨h0,h1,_⟩:=lab_parts hc.1
 unfold ofV
 rw [if_neg (by omega)]
 exact lab_ext rfl hc.2.symm
theorem ofV_cov {key m:Int} (h0:0 ≤ m) (h1:m ≤ 64):coverB (ofV key m) key=true:=by
 unfold coverB
 rw [ofV_isL,Bool.true_and]
 unfold ofV
 rw [if_neg (by omega)]
 exact decide_eq_true rfl
theorem ofV_len {key m:Int} (h0:0 ≤ m) (h1:m ≤ 64):(ofV key m).len=m:=by unfold ofV; rw [if_neg (by omega)]
theorem lok_ofV {key:Int} (hk:U64 key) (m:Int):LOk (ofV key m):=⟨ofV_isL _,ofV_u hk _⟩
end
section
variable {b:Int} {I:List Itm} {R:List Rw} {most bud:Int} {E:RunR → Prop} {x:Nt} {k:Int}
end
theorem ofV_root {key:Int} (hk:U64 key):ofV key 0=rootL:=by
 have hu:=u64_lt hk
 unfold ofV
 rw [if_neg (by omega)]
 refine lab_ext rfl ?_
 show ((headN key.toNat 0:Nat):Int)=0
 unfold headN
 rw [Nat.div_eq_of_lt (by simpa using hu)]
 simp
section
variable {b:Int} {I:List Itm} {R:List Rw}
theorem Blt.rwg (h:Blt b I R):∀ w ∈ R,RwG w:=fun w hw => by
 obtain ⟨_,h2,h3,h4,h5⟩:=h.isR_small hw
 refine ⟨labOk_is h2 h3,?_,h4,h5⟩
 rw [(h.kind hw).2.1]; exact ⟨by decide,by decide⟩
def lokR (L:Shf) (q:Lab) (key:Int):Rsl:=⟨0,finB (gotAtL L q).x key,finV (gotAtL L q).x key,[],0,false⟩
end
abbrev Inr (s:Spo):Prop:=s.has=true ∧ (s.r.kind=2 ∨ s.r.kind=4)
abbrev Lvs (s:Spo):Prop:=s.has=true ∧ (s.r.kind=1 ∨ s.r.kind=3)
structure Trq (L:Shf):Prop where
 kd:∀ q,(spotOf L q).has=true → Inr (spotOf L q) ∨ Lvs (spotOf L q)
 lb:∀ q,(spotOf L q).has=true → LOk q
 own:∀ q,Lvs (spotOf L q) → ∀ x ∈ (spotOf L q).r.items,U64 x.key ∧ coverB q x.key=true
 kids:∀ q,Inr (spotOf L q) → q.len ≠ 64 ∧ (spotOf L (chV q 0)).has=true ∧ (spotOf L (chV q 1)).has=true
 up:∀ q,(spotOf L q).has=true → q ≠ ⟨0,0⟩ → parE q=0 ∧ Inr (spotOf L (parV q))
 sp:∀ q,(spotOf L q).has=true → (spotOf L q).r.kind=3 → q.len ≠ 64
 root:(spotOf L ⟨0,0⟩).has=true
section
variable {L:Shf}
theorem lv_in {s:Spo} (h:Lvs s) (h':Inr s):False:=by
 rcases h.2 with a | a<;>rcases h'.2 with c | c<;>rw [a] at c<;>exact absurd c (by decide)
theorem Trq.noFz (h:Trq L) (q:Lab):isFz (spotOf L q)=false:=by
 cases e:isFz (spotOf L q) with
 | false => rfl
 | true =>
  rw [isFz_iff] at e
  rcases h.kd q e.1 with ⟨_,a | a⟩ | ⟨_,a | a⟩<;>rw [a] at e<;>exact absurd e.2 (by decide)
theorem Trq.fz0 (h:Trq L) (hR:ShfR L):fzN L=0:=fz_zero hR.ris h.noFz
theorem Trq.bare (h:Trq L) {q:Lab} (hq:LOk q) (hl:Lvs (spotOf L q)) (h64:q.len ≠ 64) (i:Int):(spotOf L (chV q i)).has=false:=by
 cases e:(spotOf L (chV q i)).has with
 | false => rfl
 | true =>
  have hp:=ch_par hq h64 i
  have hne:chV q i ≠ ⟨0,0⟩:=fun e => by
   have:=ch_len hq h64 i
   rw [e] at this
   have h0:=(lab_parts hq.isl).1
   have:(0:Int)=q.len + 1:=this
   omega
  have:=(h.up _ e hne).2
  rw [hp.2] at this
  exact (lv_in hl this).elim
theorem cov_par {c:Lab} (hc:LOk c) (h:parE c=0) {key:Int} (hk:coverB c key=true):coverB (parV c) key=true:=by
 obtain ⟨h64,i,hi,e⟩:=par_ch hc h
 rw [← e,ch_val hc.par h64] at hk
 exact cov_up hc.par.isl hc.par.u h64 i hk
theorem mean_cov (h:Trq L):∀ (f:Nat) (q:Lab),LOk q → ∀ x ∈ meansP (TL L) f q,U64 x.key ∧ coverB q x.key=true
 | 0,q,_,x,hx => by cases hx
 | f + 1,q,hq,x,hx => by
  cases hh:(spotOf L q).has with
  | false =>
   have e:TL L q=none:=by unfold TL; rw [hh]; rfl
   unfold meansP at hx
   rw [e] at hx
   cases hx
  | true =>
   have e:=TL_some hh
   rcases h.kd q hh with hi | hl
   ·obtain ⟨h64,k0,k1⟩:=h.kids q hi
    rw [means_inK hq h64 e (by rcases hi.2 with a | a<;>rw [a]<;>decide)] at hx
    have h3:(spotOf L q).r.kind ≠ 3:=by rcases hi.2 with a | a<;>rw [a]<;>decide
    rw [kid_not3 h3,kid_not3 h3] at hx
    have up:∀ i,x ∈ meansP (TL L) f (chV q i) → U64 x.key ∧ coverB q x.key=true:=fun i hx => by
     have:=mean_cov h f _ (hq.ch i) x hx
     rw [ch_val hq h64] at this
     exact ⟨this.1,cov_up hq.isl hq.u h64 i this.2⟩
    rcases List.mem_append.1 hx with hx | hx
    ·exact up 0 hx
    exact up 1 hx
   have ho:=h.own q hl
   rcases hl.2 with a | a
   ·rw [means_leafK e (.inl a) (Nat.succ_pos f)] at hx
    exact ho x hx
   have h64:=h.sp q hh a
   rw [means_inK hq h64 e (by rw [a]; decide)] at hx
   have up:∀ i,x ∈ kidP (TL L) (meansP (TL L) f) (spotOf L q).r (chV q i) → U64 x.key ∧ coverB q x.key=true:=fun i hx => by
    have hno:TL L (chV q i)=none:=by unfold TL; rw [h.bare hq hl h64 i]; rfl
    unfold kidP at hx
    rw [if_pos ⟨a,by unfold frozP; rw [hno]⟩] at hx
    exact ho x (cov_sub hx)
   rcases List.mem_append.1 hx with hx | hx
   ·exact up 0 hx
   exact up 1 hx
def atK (key:Int) (l:List Itm):List Itm:=l.filter fun x => decide (x.key=key)
theorem atK_none {key:Int} {l:List Itm} (h:∀ x ∈ l,x.key ≠ key):atK key l=[]:=by
 unfold atK
 rw [List.filter_eq_nil_iff]
 intro x hx
 simpa using h x hx
theorem Trq.above (h:Trq L) {key:Int} (hk:U64 key):∀ (d:Nat) {q:Lab} {m:Int},(spotOf L q).has=true → coverB q key=true → 0 ≤ m → m + d + 1=q.len → Inr (spotOf L (ofV key m))
 | d,q,m,hq,hc,h0,hd => by
  have hlo:=h.lb q hq
  have hne:q ≠ ⟨0,0⟩:=fun e => by rw [e] at hd; have hd:m + d + 1=0:=hd; omega
  obtain ⟨h1,h2⟩:=h.up q hq hne
  obtain ⟨h64,i,hi,e⟩:=par_ch hlo h1
  have hcp:=cov_par hlo h1 hc
  have hlen:=ch_len hlo.par h64 i
  rw [e] at hlen
  cases d with
  | zero =>
   have em:m=(parV q).len:=by omega
   rw [em,← cov_ofV hcp]
   exact h2
  | succ d => exact Trq.above h hk d h2.1 hcp h0 (by omega)
theorem mean_at (h:Trq L) {key:Int} (hk:U64 key) {l:Lab} (hl:Lvs (spotOf L l)) (h1:(spotOf L l).r.kind=1) (hc:coverB l key=true):∀ (d f:Nat) (m:Int),0 ≤ m → m + d=l.len → 65 ≤ f + m → atK key (meansP (TL L) f (ofV key m))=atK key (spotOf L l).r.items
 | 0,f,m,h0,hd,hf => by
  have hlo:=h.lb l hl.1
  have h64:=(lab_parts hlo.isl).2.1
  have e:ofV key m=l:=by rw [show m=l.len by omega]; exact (cov_ofV hc).symm
  rw [e,means_leafK (TL_some hl.1) (.inl h1) (by omega)]
 | d + 1,f,m,h0,hd,hf => by
  have hlo:=h.lb l hl.1
  have hl64:=(lab_parts hlo.isl).2.1
  obtain ⟨f,rfl⟩:∃ g,f=g + 1:=⟨f - 1,by omega⟩
  have hi:=h.above hk d hl.1 hc h0 (by omega)
  have hq:LOk (ofV key m):=lok_ofV hk m
  obtain ⟨h64,_,_⟩:=h.kids _ hi
  have h3:(spotOf L (ofV key m)).r.kind ≠ 3:=by rcases hi.2 with a | a<;>rw [a]<;>decide
  have ih:=mean_at h hk hl h1 hc d f (m + 1) (by omega) (by omega) (by omega)
  have hcq:coverB (ofV key m) key=true:=ofV_cov h0 (by omega)
  obtain ⟨a0,a1⟩:=child_cov hq.isl hq.u h64 hk hcq
  have kid:∀ i,coverB (childL (ofV key m) i) key=true → chV (ofV key m) i=ofV key (m + 1):=fun i hi => by
   rw [ch_val hq h64]
   have:=cov_ofV hi
   rw [this]
   congr 1
   show (ofV key m).len + 1=_
   rw [ofV_len h0 (by omega)]
  have other:∀ i,coverB (childL (ofV key m) i) key=false → atK key (meansP (TL L) f (chV (ofV key m) i))=[]:=fun i hi => atK_none fun x hx e => by
   have:=(mean_cov h f _ (hq.ch i) x hx).2
   rw [e,ch_val hq h64,hi] at this
   cases this
  rw [means_inK hq h64 (TL_some hi.1) (by rcases hi.2 with a | a<;>rw [a]<;>decide),kid_not3 h3,kid_not3 h3]
  unfold atK at ih other ⊢
  rw [List.filter_append]
  by_cases hz:key < (childL (ofV key m) 1).bits
  ·rw [other 1 (by rw [a1]; exact decide_eq_false (by omega)),List.append_nil,kid 0 (by rw [a0]; exact decide_eq_true hz)]
   exact ih
  rw [other 0 (by rw [a0]; exact decide_eq_false hz),List.nil_append,kid 1 (by rw [a1]; exact decide_eq_true (by omega))]
  exact ih
theorem Trq.at_ (h:Trq L) {key:Int} (hk:U64 key) {l:Lab} (hh:(spotOf L l).has=true) (h1:(spotOf L l).r.kind=1) (hc:coverB l key=true):atK key (Mean L)=atK key (spotOf L l).r.items:=by
 have hlo:=h.lb l hh
 have h0:=(lab_parts hlo.isl).1
 have:=mean_at h hk ⟨hh,.inl h1⟩ h1 hc l.len.toNat 65 0 (Int.le_refl 0) (by omega) (by decide)
 rw [ofV_root hk] at this
 exact this
end
theorem Trq.step {L L':Shf} {l:Lab} (h:Trq L) (hl:LOk l) (h64:l.len ≠ 64) (hhas:(spotOf L l).has=true)
  (hE:∀ q,q ≠ l → q ≠ chV l 0 → q ≠ chV l 1 → spotOf L' q=spotOf L q)
  (hc:(Inr (spotOf L' l) ∧ ∀ i,i=0 ∨ i=1 → (Lvs (spotOf L' (chV l i)) ∧ (spotOf L' (chV l i)).r.kind=1 ∧ (∀ x ∈ (spotOf L' (chV l i)).r.items,U64 x.key ∧ coverB (chV l i) x.key=true) ∧ (Inr (spotOf L (chV l i)) → False)) ∨ (spotOf L' (chV l i)=spotOf L (chV l i) ∧ (spotOf L (chV l i)).has=true))
   ∨ ((Lvs (spotOf L' l) ∧ (spotOf L' l).r.kind=1 ∧ ∀ x ∈ (spotOf L' l).r.items,U64 x.key ∧ coverB l x.key=true) ∧ ∀ i,i=0 ∨ i=1 → (spotOf L' (chV l i)).has=false ∧ Lvs (spotOf L (chV l i)))):Trq L':=by
 have n0:=ch_ne hl h64 0
 have n1:=ch_ne hl h64 1
 have hcl:=hl.ch
 have hkp:∀ i,parE (chV l i)=0 ∧ parV (chV l i)=l:=ch_par hl h64
 have three:∀ q,q=l ∨ (∃ i:Int,(i=0 ∨ i=1) ∧ q=chV l i) ∨ (q ≠ l ∧ q ≠ chV l 0 ∧ q ≠ chV l 1):=fun q => by
  by_cases a:q=l
  ·exact .inl a
  by_cases b0:q=chV l 0
  ·exact .inr (.inl ⟨0,.inl rfl,b0⟩)
  by_cases b1:q=chV l 1
  ·exact .inr (.inl ⟨1,.inr rfl,b1⟩)
  exact .inr (.inr ⟨a,b0,b1⟩)
 -- a label elsewhere whose parent is a child of l: the child is inner still
 have lne:∀ i,chV l i ≠ l:=ch_ne hl h64
 rcases hc with ⟨hi,hk⟩ | ⟨hlf,hk⟩
 ·refine ⟨fun q hq => ?_,fun q hq => ?_,fun q hq => ?_,fun q hq => ?_,fun q hq hne => ?_,fun q hq h3 => ?_,?_⟩
  ·rcases three q with rfl | ⟨i,hi',rfl⟩ | ⟨a,b0,b1⟩
   ·exact .inl hi
   ·rcases hk i hi' with ⟨g,_⟩ | ⟨g,g2⟩
    ·exact .inr g
    rw [g]; exact h.kd _ g2
   rw [hE q a b0 b1] at hq ⊢; exact h.kd q hq
  ·rcases three q with rfl | ⟨i,hi',rfl⟩ | ⟨a,b0,b1⟩
   ·exact hl
   ·exact hcl i
   rw [hE q a b0 b1] at hq; exact h.lb q hq
  ·rcases three q with rfl | ⟨i,hi',rfl⟩ | ⟨a,b0,b1⟩
   ·exact (lv_in hq hi).elim
   ·rcases hk i hi' with ⟨_,_,g,_⟩ | ⟨g,g2⟩
    ·exact g
    rw [g] at hq ⊢; exact h.own _ hq
   rw [hE q a b0 b1] at hq ⊢; exact h.own q hq
  ·rcases three q with rfl | ⟨i,hi',rfl⟩ | ⟨a,b0,b1⟩
   ·refine ⟨h64,?_,?_⟩
    ·rcases hk 0 (.inl rfl) with ⟨g,_⟩ | ⟨g,g2⟩
     ·exact g.1
     rw [g]; exact g2
    rcases hk 1 (.inr rfl) with ⟨g,_⟩ | ⟨g,g2⟩
    ·exact g.1
    rw [g]; exact g2
   ·rcases hk i hi' with ⟨g,_⟩ | ⟨g,g2⟩
    ·exact (lv_in g hq).elim
    rw [g] at hq
    obtain ⟨k1,k2,k3⟩:=h.kids _ hq
    have hx:∀ j,chV (chV l i) j ≠ l ∧ chV (chV l i) j ≠ chV l 0 ∧ chV (chV l i) j ≠ chV l 1:=fun j => by
     have e1:=ch_len (hcl i) k1 j
     have e2:=ch_len hl h64 i
     have e3:=ch_len hl h64
     refine ⟨fun e => ?_,fun e => ?_,fun e => ?_⟩
     ·rw [e] at e1; omega
     ·rw [e,e3] at e1; omega
     rw [e,e3] at e1; omega
    exact ⟨k1,by rw [hE _ (hx 0).1 (hx 0).2.1 (hx 0).2.2]; exact k2,by rw [hE _ (hx 1).1 (hx 1).2.1 (hx 1).2.2]; exact k3⟩
   rw [hE q a b0 b1] at hq
   obtain ⟨k1,k2,k3⟩:=h.kids q hq
   have hqo:=h.lb q hq.1
   have hx:∀ j,(spotOf L (chV q j)).has=true → (spotOf L' (chV q j)).has=true:=fun j hj => by
    rcases three (chV q j) with e | ⟨i,hi',e⟩ | ⟨a',b0',b1'⟩
    ·rw [e]; exact hi.1
    ·have:=(ch_par hqo k1 j).2
     rw [e,(hkp i).2] at this
     exact absurd this.symm a
    rw [hE _ a' b0' b1']; exact hj
   exact ⟨k1,hx 0 k2,hx 1 k3⟩
  ·-- up
   have key:∀ p,Inr (spotOf L p) → p ≠ l → Inr (spotOf L' p):=fun p hp hpl => by
    rcases three p with e | ⟨i,hi',rfl⟩ | ⟨a',b0',b1'⟩
    ·exact absurd e hpl
    ·rcases hk i hi' with ⟨_,_,_,g⟩ | ⟨g,g2⟩
     ·exact (g hp).elim
     rw [g]; exact hp
    rw [hE _ a' b0' b1']; exact hp
   have gen:parE q=0 ∧ Inr (spotOf L (parV q)) → parE q=0 ∧ Inr (spotOf L' (parV q)):=fun hu => by
    by_cases e:parV q=l
    ·exact ⟨hu.1,by rw [e]; exact hi⟩
    exact ⟨hu.1,key _ hu.2 e⟩
   rcases three q with rfl | ⟨i,hi',rfl⟩ | ⟨a,b0,b1⟩
   ·exact gen (h.up q hhas hne)
   ·exact ⟨(hkp i).1,by rw [(hkp i).2]; exact hi⟩
   rw [hE q a b0 b1] at hq
   exact gen (h.up q hq hne)
  ·rcases three q with rfl | ⟨i,hi',rfl⟩ | ⟨a,b0,b1⟩
   ·exact h64
   ·rcases hk i hi' with ⟨_,g,_⟩ | ⟨g,g2⟩
    ·rw [g] at h3; exact absurd h3 (by decide)
    rw [g] at h3; exact h.sp _ g2 h3
   rw [hE q a b0 b1] at hq h3; exact h.sp q hq h3
  rcases three ⟨0,0⟩ with e | ⟨i,hi',e⟩ | ⟨a,b0,b1⟩
  ·rw [e]; exact hi.1
  ·rw [e]
   rcases hk i hi' with ⟨g,_⟩ | ⟨g,g2⟩
   ·exact g.1
   rw [g]; exact g2
  rw [hE _ a b0 b1]; exact h.root
 obtain ⟨hlf,hl1,hli⟩:=hlf
 have noI:∀ p,Inr (spotOf L p) → p ≠ l → Inr (spotOf L' p):=fun p hp hpl => by
  rcases three p with e | ⟨i,hi',rfl⟩ | ⟨a',b0',b1'⟩
  ·exact absurd e hpl
  ·exact (lv_in (hk i hi').2 hp).elim
  rw [hE _ a' b0' b1']; exact hp
 refine ⟨fun q hq => ?_,fun q hq => ?_,fun q hq => ?_,fun q hq => ?_,fun q hq hne => ?_,fun q hq h3 => ?_,?_⟩
 ·rcases three q with rfl | ⟨i,hi',rfl⟩ | ⟨a,b0,b1⟩
  ·exact .inr hlf
  ·rw [(hk i hi').1] at hq; cases hq
  rw [hE q a b0 b1] at hq ⊢; exact h.kd q hq
 ·rcases three q with rfl | ⟨i,hi',rfl⟩ | ⟨a,b0,b1⟩
  ·exact hl
  ·exact hcl i
  rw [hE q a b0 b1] at hq; exact h.lb q hq
 ·rcases three q with rfl | ⟨i,hi',rfl⟩ | ⟨a,b0,b1⟩
  ·exact hli
  ·have:=hq.1; rw [(hk i hi').1] at this; cases this
  rw [hE q a b0 b1] at hq ⊢; exact h.own q hq
 ·rcases three q with rfl | ⟨i,hi',rfl⟩ | ⟨a,b0,b1⟩
  ·exact (lv_in hlf hq).elim
  ·have:=hq.1; rw [(hk i hi').1] at this; cases this
  rw [hE q a b0 b1] at hq
  obtain ⟨k1,k2,k3⟩:=h.kids q hq
  have hqo:=h.lb q hq.1
  have hx:∀ j,(spotOf L (chV q j)).has=true → (spotOf L' (chV q j)).has=true:=fun j hj => by
   rcases three (chV q j) with e | ⟨i,hi',e⟩ | ⟨a',b0',b1'⟩
   ·rw [e]; exact hlf.1
   ·have:=(ch_par hqo k1 j).2
    rw [e,(hkp i).2] at this
    exact absurd this.symm a
   rw [hE _ a' b0' b1']; exact hj
  exact ⟨k1,hx 0 k2,hx 1 k3⟩
 ·rcases three q with rfl | ⟨i,hi',rfl⟩ | ⟨a,b0,b1⟩
  ·have hu:=h.up q hhas hne
   have hpo:=h.lb q hhas
   obtain ⟨p64,j,_,ej⟩:=par_ch hpo hu.1
   have:parV q ≠ q:=fun e => by
    have:=ch_len hpo.par p64 j
    rw [ej,e] at this; omega
   exact ⟨hu.1,noI _ hu.2 this⟩
  ·rw [(hk i hi').1] at hq; cases hq
  rw [hE q a b0 b1] at hq
  have hu:=h.up q hq hne
  refine ⟨hu.1,noI _ hu.2 fun e => ?_⟩
  -- q would be a child of l
  obtain ⟨p64,j,hj,ej⟩:=par_ch (h.lb q hq) hu.1
  rw [e] at ej
  rcases hj with rfl | rfl
  ·exact b0 ej.symm
  exact b1 ej.symm
 ·rcases three q with rfl | ⟨i,hi',rfl⟩ | ⟨a,b0,b1⟩
  ·exact h64
  ·rw [(hk i hi').1] at hq; cases hq
  rw [hE q a b0 b1] at hq h3; exact h.sp q hq h3
 rcases three ⟨0,0⟩ with e | ⟨i,hi',e⟩ | ⟨a,b0,b1⟩
 ·rw [e]; exact hlf.1
 ·exfalso
  have:=ch_len hl h64 i
  have h0:=(lab_parts hl.isl).1
  rw [← e] at this
  have:(0:Int)=l.len + 1:=this
  omega
 rw [hE _ a b0 b1]; exact h.root
section
variable {L L':Shf} {l:Lab} {bk:Int}
theorem Trq.split (h:Trq L) (hl:LOk l) (h64:l.len ≠ 64) (hk:(spotOf L l).has=true ∧ (spotOf L l).r.kind=3) (hs:MkS l L L'):Trq L':=by
 have hlv:Lvs (spotOf L l):=⟨hk.1,.inr hk.2⟩
 refine h.step hl h64 hk.1 hs.else_ (.inl ⟨⟨hs.inn.1,.inl hs.inn.2⟩,fun i hi => ?_⟩)
 rcases hs.kid i hi with ⟨⟨a,_⟩,_⟩ | ⟨a,c,d⟩
 ·rw [h.bare hl hlv h64 i] at a; cases a
 refine .inl ⟨⟨a,.inl c⟩,c,fun x hx => ?_,fun hI => ?_⟩
 ·rw [d] at hx
  exact ⟨(h.own l hlv x (cov_sub hx)).1,(List.mem_filter.1 hx).2⟩
 have:=hI.1
 rw [h.bare hl hlv h64 i] at this; cases this
theorem lfd_lv (h:Trq L) {c:Lab} {s':Spo} (hh:(spotOf L c).has=true) (hd:Lfd (spotOf L c) s'):(Lvs s' ∧ s'.r.kind=1 ∧ (∀ x ∈ s'.r.items,U64 x.key ∧ coverB c x.key=true) ∧ (Inr (spotOf L c) → False)) ∨ (s'=spotOf L c ∧ (spotOf L c).has=true):=by
 by_cases hy:Lfy (spotOf L c)
 ·obtain ⟨a,b,d⟩:=hd.yes hy
  have h1:(spotOf L c).r.kind=1:=by
   rcases hy.2 with e | e
   ·exact e
   have:=h.noFz c
   rw [isFz_iff.2 ⟨hh,e⟩] at this; cases this
  refine .inl ⟨⟨a,.inl b⟩,b,fun x hx => h.own c ⟨hh,.inl h1⟩ x (by rw [← d]; exact hx),fun hI => lv_in ⟨hh,.inl h1⟩ hI⟩
 exact .inr ⟨hd.no hy,hh⟩
theorem Trq.inner (h:Trq L) (hl:LOk l) (h64:l.len ≠ 64) (hk:(spotOf L l).has=true ∧ (spotOf L l).r.kind=4) (hs:MkI l L L'):Trq L':=by
 obtain ⟨_,k0,k1⟩:=h.kids l ⟨hk.1,.inr hk.2⟩
 refine h.step hl h64 hk.1 hs.else_ (.inl ⟨⟨hs.inn.1,.inl hs.inn.2⟩,fun i hi => ?_⟩)
 rcases hi with rfl | rfl
 ·exact lfd_lv h k0 hs.k0
 exact lfd_lv h k1 hs.k1
theorem lfy_lv (h:Trq L) {c:Lab} (hy:Lfy (spotOf L c)):Lvs (spotOf L c):=by
 refine ⟨hy.1,?_⟩
 rcases hy.2 with e | e
 ·exact .inl e
 have:=h.noFz c
 rw [isFz_iff.2 ⟨hy.1,e⟩] at this; cases this
theorem Trq.leaf (h:Trq L) (hl:LOk l) (h64:l.len ≠ 64) (hk:(spotOf L l).has=true ∧ (spotOf L l).r.kind=4) (hs:MkL bk l L L'):Trq L':=by
 have v0:=lfy_lv h hs.k0.1
 have v1:=lfy_lv h hs.k1.1
 refine h.step hl h64 hk.1 (fun q a b c => ?_) (.inr ⟨⟨⟨hs.lf.1,.inl hs.lf.2⟩,hs.lf.2,fun x hx => ?_⟩,fun i hi => ?_⟩)
 ·rcases hs.else_ q a b c with e | ⟨_,e,_⟩
  ·exact e
  rw [h.noFz q] at e; cases e
 ·rw [hs.its] at hx
  have up:∀ i,(U64 x.key ∧ coverB (chV l i) x.key=true) → U64 x.key ∧ coverB l x.key=true:=fun i hx => by
   rw [ch_val hl h64] at hx
   exact ⟨hx.1,cov_up hl.isl hl.u h64 i hx.2⟩
  rcases List.mem_append.1 hx with hx | hx
  ·exact up 0 (h.own _ v0 x hx)
  exact up 1 (h.own _ v1 x hx)
 rcases hi with rfl | rfl
 ·exact ⟨hs.k0.2,v0⟩
 exact ⟨hs.k1.2,v1⟩
end
structure Sk (M:List Itm) (d:Nat) (L:Shf):Prop where
 right:ShfR L
 trq:Trq L
 mean:Mean L=M
 len:L.length + 6 * d ≤ 1990
theorem Sk.next {M:List Itm} {d:Nat} {L L':Shf} (h:Sk M (d + 1) L) (hk:Kp 6 L L') (ht:Trq L'):Sk M d L':=⟨hk.right,ht,hk.mean.trans h.mean,by have:=h.len; have:=hk.len; omega⟩
theorem Sk.less {M:List Itm} {d e:Nat} {L:Shf} (h:Sk M d L) (he:e ≤ d):Sk M e L:=⟨h.right,h.trq,h.mean,by have:=h.len; omega⟩
structure Fnd (M:List Itm) (key:Int) (s:Spt) (L:Shf):Prop where
 right:ShfR L
 trq:Trq L
 mean:Mean L=M
 at_:s.g=gotAtL L s.lab
 leaf:(spotOf L s.lab).has=true ∧ (spotOf L s.lab).r.kind=1
 cov:coverB s.lab key=true
section
variable {M:List Itm} {bk key most b:Int} {E:RunR → Prop} {x:Nt} {k:Int}
theorem wp_fnsK {Q:TQ Unit} {l:Lab} {m n d:Nat} {L:Shf} (hl:LOk l) (h:Sk M (d + 1) L) (hk:(spotOf L l).has=true ∧ ((spotOf L l).r.kind=3 ∨ (spotOf L l).r.kind=4)) (hm:64 ≤ m) (h1:(n:Int) + 230 ≤ b) (h2:b ≤ most)
  (hI:∀ n' L' k',n' ≤ n + 13 → Sk M d L' → (spotOf L' l).has=true ∧ (spotOf L' l).r.kind=2 → (spotOf L' ⟨0,0⟩).has=true → Q () x n' L' k')
  (hL:∀ n' L' k',n' ≤ n + 17 → Sk M d L' → (spotOf L' l).has=true ∧ (spotOf L' l).r.kind=1 → Q () x n' L' k'):(fnsT bk (m + 1) l (gotAtL L l)).wp most b Q E x n L k:=by
 have hz:=h.trq.fz0 h.right
 have hlen:=h.len
 unfold fnsT
 refine wp_fin2 hl h.right (by omega) hk hm (by omega) h2 (fun h0 => ?_) (fun n' L' k' h3 hn hkp hs => ?_) (fun n' L' k' h4 hn hkp hs => ?_) fun n' L' k' h4 hn hkp hs => ?_
 ·exfalso
  rcases h0 with h64 | ⟨h3,ho⟩
  ·rcases hk.2 with h3 | h4
   ·exact h.trq.sp l hk.1 h3 h64
   exact (h.trq.kids l ⟨hk.1,.inr h4⟩).1 h64
  have h64:=h.trq.sp l hk.1 h3
  have hga:=gotAt_ga h.right hl
  have hr:=hga.2.rf hk.1
  have hk3:(gotAtL L l).x.r.kd=3:=h3
  have hcov:(covL l (firsts (gotAtL L l).x.r.f (gotAtL L l).x.r.n)).length=(gotAtL L l).x.r.n:=by
   have e:firsts (gotAtL L l).x.r.f (gotAtL L l).x.r.n=(spotOf L l).r.items:=got_items L l
   have e2:(gotAtL L l).x.r.n=(spotOf L l).r.items.length:=rfl
   rw [e,e2]
   exact cov_all.2 fun y hy => (h.trq.own l ⟨hk.1,.inr h3⟩ y hy).2
  refine ho ?_
  unfold halvA halvR
  rw [if_neg (by rw [hr,hl.isl,decide_eq_true hcov]; decide),if_neg (by rw [hk3]; decide),if_neg h64]
 ·have ht:=h.trq.split hl (h.trq.sp l hk.1 h3) ⟨hk.1,h3⟩ hs
  exact hI _ _ _ (by omega) (h.next hkp ht) hs.inn ht.root
 ·have ht:=h.trq.inner hl (h.trq.kids l ⟨hk.1,.inr h4⟩).1 ⟨hk.1,h4⟩ hs
  exact hI _ _ _ (by omega) (h.next hkp ht) hs.inn ht.root
 have ht:=h.trq.leaf hl (h.trq.kids l ⟨hk.1,.inr h4⟩).1 ⟨hk.1,h4⟩ hs
 exact hL _ _ _ (by omega) (h.next hkp ht) hs.lf
theorem gk34 (L:Shf) (l:Lab):(gk (gotAtL L l) 3 || gk (gotAtL L l) 4)=true ↔ (spotOf L l).has=true ∧ ((spotOf L l).r.kind=3 ∨ (spotOf L l).r.kind=4):=by
 rw [Bool.or_eq_true,gk_iff,gk_iff]
 constructor
 ·rintro (⟨a,c⟩ | ⟨a,c⟩)
  ·exact ⟨a,.inl c⟩
  exact ⟨a,.inr c⟩
 rintro ⟨a,c | c⟩
 ·exact .inl ⟨a,c⟩
 exact .inr ⟨a,c⟩
theorem gk_no (L:Shf) (l:Lab) (kd:Int) (h:(spotOf L l).has=true → (spotOf L l).r.kind ≠ kd):¬ gk (gotAtL L l) kd=true:=fun hg => by
 rw [gk_iff] at hg
 exact h hg.1 hg.2
theorem Trq.below {L:Shf} (h:Trq L) (hk:U64 key) {m:Int} (h0:0 ≤ m) (h64:m ≤ 64) (hi:Inr (spotOf L (ofV key m))):m < 64 ∧ (spotOf L (ofV key (m + 1))).has=true:=by
 have hq:LOk (ofV key m):=lok_ofV hk m
 obtain ⟨hne,k0,k1⟩:=h.kids _ hi
 have hml:(ofV key m).len=m:=ofV_len h0 h64
 have hlt:m < 64:=by rw [hml] at hne; omega
 refine ⟨hlt,?_⟩
 obtain ⟨a0,a1⟩:=child_cov hq.isl hq.u hne hk (ofV_cov h0 h64)
 have kid:∀ i,coverB (childL (ofV key m) i) key=true → chV (ofV key m) i=ofV key (m + 1):=fun i hi => by
  rw [ch_val hq hne,cov_ofV hi]
  congr 1
  show (ofV key m).len + 1=_
  rw [hml]
 by_cases hz:key < (childL (ofV key m) 1).bits
 ·rw [← kid 0 (by rw [a0]; exact decide_eq_true hz)]; exact k0
 rw [← kid 1 (by rw [a1]; exact decide_eq_true (by omega))]; exact k1
theorem wp_linK (hk:U64 key) (h2:b ≤ most) {Q:TQ Spt} (hQ:∀ s n' L' k',Fnd M key s L' → Q s x n' L' k'):∀ (d fu n:Nat) (m:Int) (L:Shf) (k:Int),0 ≤ m → m + d=64 → 2 * d + 70 ≤ fu → (n:Int) + 15 * d + 260 ≤ b → Sk M (d + 1) L → (spotOf L (ofV key m)).has=true → (linT bk key fu (ofV key m)).wp most b Q E x n L k:=by
 -- from an inner label on
 have inner:∀ (d fu n:Nat) (m:Int) (L:Shf) (k:Int),0 ≤ m → m + d=64 → 2 * d + 69 ≤ fu → (n:Int) + 15 * d + 246 ≤ b → Sk M d L → Inr (spotOf L (ofV key m)) → (spotOf L (ofV key m)).r.kind=2 →
   (∀ (e:Nat),d=e + 1 → ∀ (fu n:Nat) (m:Int) (L:Shf) (k:Int),0 ≤ m → m + e=64 → 2 * e + 70 ≤ fu → (n:Int) + 15 * e + 260 ≤ b → Sk M (e + 1) L → (spotOf L (ofV key m)).has=true → (linT bk key fu (ofV key m)).wp most b Q E x n L k) → (linT bk key fu (ofV key m)).wp most b Q E x n L k:=fun d fu n m L k h0 hd hf hb hs hi hkd ih => by
  obtain ⟨fu,rfl⟩:∃ g,fu=g + 1:=⟨fu - 1,by omega⟩
  obtain ⟨hlt,hnx⟩:=hs.trq.below hk h0 (by omega) hi
  obtain ⟨e,rfl⟩:∃ e,d=e + 1:=⟨d - 1,by omega⟩
  unfold linT
  refine wp_bind (wp_get (lok_ofV hk m) (by omega) h2 ?_)
  rw [if_neg (gk_no L _ 1 (fun _ => by rw [hkd]; decide)),if_neg (fun h => by have:=((gk34 L _).1 h).2; rw [hkd] at this; rcases this with h | h<;>exact absurd h (by decide)),if_pos (by rw [(gk_iff L _ 2).2 ⟨hi.1,hkd⟩,ofV_len h0 (by omega),decide_eq_true hlt]; rfl),ofV_len h0 (by omega)]
  exact ih e rfl fu (n + 1) (m + 1) L k (by omega) (by omega) (by omega) (by omega) hs hnx
 have leaf:∀ (fu n:Nat) (m:Int) (L:Shf) (k:Int),0 ≤ m → m ≤ 64 → 1 ≤ fu → (n:Int) + 1 ≤ b → ShfR L → Trq L → Mean L=M → (spotOf L (ofV key m)).has=true → (spotOf L (ofV key m)).r.kind=1 → (linT bk key fu (ofV key m)).wp most b Q E x n L k:=fun fu n m L k h0 hm hf hb hR ht hM hh hk1 => by
  obtain ⟨fu,rfl⟩:∃ g,fu=g + 1:=⟨fu - 1,by omega⟩
  unfold linT
  refine wp_bind (wp_get (lok_ofV hk m) (by omega) h2 (wp_ite (fun _ => ?_) fun hn => absurd ((gk_iff L _ 1).2 ⟨hh,hk1⟩) hn))
  exact hQ _ _ _ _ ⟨hR,ht,hM,rfl,⟨hh,hk1⟩,ofV_cov h0 hm⟩
 have all:∀ (d fu n:Nat) (m:Int) (L:Shf) (k:Int),0 ≤ m → m + d=64 → 2 * d + 70 ≤ fu → (n:Int) + 15 * d + 260 ≤ b → Sk M (d + 1) L → (spotOf L (ofV key m)).has=true →
   (∀ (e:Nat),d=e + 1 → ∀ (fu n:Nat) (m:Int) (L:Shf) (k:Int),0 ≤ m → m + e=64 → 2 * e + 70 ≤ fu → (n:Int) + 15 * e + 260 ≤ b → Sk M (e + 1) L → (spotOf L (ofV key m)).has=true → (linT bk key fu (ofV key m)).wp most b Q E x n L k) → (linT bk key fu (ofV key m)).wp most b Q E x n L k:=fun d fu n m L k h0 hd hf hb hs hh ih => by
  rcases hs.trq.kd _ hh with ⟨_,h2k | h4k⟩ | ⟨_,h1k | h3k⟩
  ·exact inner d fu n m L k h0 hd (by omega) (by omega) (hs.less (by omega)) ⟨hh,.inl h2k⟩ h2k ih
  ·obtain ⟨fu,rfl⟩:∃ g,fu=g + 1:=⟨fu - 1,by omega⟩
   obtain ⟨fv,hfv⟩:∃ g,fu=g + 1:=⟨fu - 1,by omega⟩
   unfold linT
   refine wp_bind (wp_get (lok_ofV hk m) (by omega) h2 (wp_ite (fun h => absurd h (gk_no L _ 1 fun _ => by rw [h4k]; decide)) fun _ => wp_ite (fun h34 => wp_bind ?_) fun h => absurd ((gk34 L _).2 ⟨hh,.inr h4k⟩) h))
   rw [hfv]
   refine wp_fnsK (lok_ofV hk m) hs ⟨hh,.inr h4k⟩ (by omega) (by omega) h2 (fun n' L' k' hn hs' hin _ => ?_) fun n' L' k' hn hs' hlf => ?_
   ·exact inner d (fv + 1) n' m L' k' h0 hd (by omega) (by omega) hs' ⟨hin.1,.inl hin.2⟩ hin.2 ih
   exact leaf (fv + 1) n' m L' k' h0 (by omega) (by omega) (by omega) hs'.right hs'.trq hs'.mean hlf.1 hlf.2
  ·exact leaf fu n m L k h0 (by omega) (by omega) (by omega) hs.right hs.trq hs.mean hh h1k
  obtain ⟨fu,rfl⟩:∃ g,fu=g + 1:=⟨fu - 1,by omega⟩
  obtain ⟨fv,hfv⟩:∃ g,fu=g + 1:=⟨fu - 1,by omega⟩
  unfold linT
  refine wp_bind (wp_get (lok_ofV hk m) (by omega) h2 (wp_ite (fun h => absurd h (gk_no L _ 1 fun _ => by rw [h3k]; decide)) fun _ => wp_ite (fun h34 => wp_bind ?_) fun h => absurd ((gk34 L _).2 ⟨hh,.inl h3k⟩) h))
  rw [hfv]
  refine wp_fnsK (lok_ofV hk m) hs ⟨hh,.inl h3k⟩ (by omega) (by omega) h2 (fun n' L' k' hn hs' hin _ => ?_) fun n' L' k' hn hs' hlf => ?_
  ·exact inner d (fv + 1) n' m L' k' h0 hd (by omega) (by omega) hs' ⟨hin.1,.inl hin.2⟩ hin.2 ih
  exact leaf (fv + 1) n' m L' k' h0 (by omega) (by omega) (by omega) hs'.right hs'.trq hs'.mean hlf.1 hlf.2
 intro d
 induction d with
 | zero => exact fun fu n m L k h0 hd hf hb hs hh => all 0 fu n m L k h0 hd hf hb hs hh fun e he => by omega
 | succ d ih => exact fun fu n m L k h0 hd hf hb hs hh => all (d + 1) fu n m L k h0 hd hf hb hs hh fun e he => by (have h:d=e:=by omega); subst h; exact ih
theorem wp_binK (hk:U64 key) (h2:b ≤ most) {Q:TQ Spt} (hQ:∀ s n' L' k',Fnd M key s L' → Q s x n' L' k'):∀ (c fu n:Nat) (lo hi:Int) (L:Shf) (k:Int),0 ≤ lo → hi ≤ 64 → hi - lo + 2 ≤ 2 ^ c → 2 * c + 200 ≤ fu → (n:Int) + 20 * c + 1225 ≤ b → Sk M (c + 66) L → (binT bk key fu lo hi).wp most b Q E x n L k:=by
 have lin:∀ (c fu n:Nat) (lo hi:Int) (L:Shf) (k:Int),¬ lo ≤ hi → 200 ≤ fu → (n:Int) + 1220 ≤ b → Sk M (c + 65) L → (binT bk key fu lo hi).wp most b Q E x n L k:=fun c fu n lo hi L k hlh hf hb hs => by
  obtain ⟨fu,rfl⟩:∃ g,fu=g + 1:=⟨fu - 1,by omega⟩
  unfold binT
  rw [if_neg hlh,← ofV_root hk]
  refine wp_linK hk h2 hQ 64 (fu + 1) n 0 L k (Int.le_refl 0) (by decide) (by omega) (by omega) (hs.less (by omega)) ?_
  rw [ofV_root hk]; exact hs.trq.root
 intro c
 induction c with
 | zero => exact fun fu n lo hi L k h0 h64 hc hf hb hs => lin 0 fu n lo hi L k (by simp at hc; omega) (by omega) (by omega) (hs.less (by omega))
 | succ c ih =>
  intro fu n lo hi L k h0 h64 hc hf hb hs
  by_cases hlh:lo ≤ hi
  ·have hp2:(2:Int) ^ (c + 1)=2 * 2 ^ c:=by rw [Int.pow_succ]; omega
   rw [hp2] at hc
   obtain ⟨fu,rfl⟩:∃ g,fu=g + 1:=⟨fu - 1,by omega⟩
   obtain ⟨m,hm⟩:=eqv ((lo + hi) / 2)
   have hm0:lo ≤ m ∧ m ≤ hi ∧ 2 * m ≤ lo + hi ∧ lo + hi ≤ 2 * m + 1:=by omega
   -- the second look,behind what was begun
   have again:∀ (fv n':Nat) (L':Shf) (k':Int),2 * c + 201 ≤ fv → (n':Int) + 20 * c + 1226 ≤ b → Sk M (c + 66) L' → (spotOf L' (ofV key m)).has=true → ((spotOf L' (ofV key m)).r.kind=2 ∨ (spotOf L' (ofV key m)).r.kind=1) → (binT bk key fv lo hi).wp most b Q E x n' L' k':=fun fv n' L' k' hfv hb' hs' hh hkd => by
    obtain ⟨fv,rfl⟩:∃ g,fv=g + 1:=⟨fv - 1,by omega⟩
    unfold binT
    rw [if_pos hlh,← hm]
    refine wp_bind (wp_get (lok_ofV hk m) (by omega) h2 (wp_ite (fun h1 => ?_) fun h1 => wp_ite (fun _ => ?_) fun h2' => ?_))
    ·exact hQ _ _ _ _ ⟨hs'.right,hs'.trq,hs'.mean,rfl,(gk_iff _ _ _).1 h1,ofV_cov (by omega) (by omega)⟩
    ·exact ih fv (n' + 1) (m + 1) hi L' k' (by omega) h64 (by omega) (by omega) (by omega) hs'
    rcases hkd with h | h
    ·exact absurd ((gk_iff _ _ _).2 ⟨hh,h⟩) h2'
    exact absurd ((gk_iff _ _ _).2 ⟨hh,h⟩) h1
   unfold binT
   rw [if_pos hlh,← hm]
   refine wp_bind (wp_get (lok_ofV hk m) (by omega) h2 (wp_ite (fun h1 => ?_) fun h1 => wp_ite (fun _ => ?_) fun h2' => wp_ite (fun h34 => wp_bind ?_) fun h34 => wp_ite (fun h5 => ?_) fun h5 => ?_))
   ·exact hQ _ _ _ _ ⟨hs.right,hs.trq,hs.mean,rfl,(gk_iff _ _ _).1 h1,ofV_cov (by omega) (by omega)⟩
   ·exact ih fu (n + 1) (m + 1) hi L k (by omega) h64 (by omega) (by omega) (by omega) (hs.less (by omega))
   ·obtain ⟨fv,hfv⟩:∃ g,fu=g + 1:=⟨fu - 1,by omega⟩
    rw [hfv]
    have hs1:Sk M (c + 66 + 1) L:=hs.less (by omega)
    exact wp_fnsK (lok_ofV hk m) hs1 ((gk34 _ _).1 h34) (by omega) (by omega) h2 (fun n' L' k' hn hs' hin _ => again (fv + 1) n' L' k' (by omega) (by omega) hs' hin.1 (.inl hin.2)) fun n' L' k' hn hs' hlf => again (fv + 1) n' L' k' (by omega) (by omega) hs' hlf.1 (.inr hlf.2)
   ·rw [gk5,hs.trq.noFz] at h5; cases h5
   exact ih fu (n + 1) lo (m - 1) L k h0 (by omega) (by omega) (by omega) (by omega) (hs.less (by omega))
  exact lin (c + 1) fu n lo hi L k hlh (by omega) (by omega) (hs.less (by omega))
end
structure Told (M:List Itm) (key:Int) (r:RunR):Prop where
 st:r.st=2
 right:ShfR r.L
 mean:Mean r.L=M
 res:∃ l,r.res=lokR r.L l key ∧ atK key (spotOf r.L l).r.items=atK key M
theorem seek_finds {J:JobA} (hJ:JobIn J) (hj:isJobB J=true) (hk:J.kind=3) (hb:1500 ≤ J.budget) {L:Shf} (hR:ShfR L) (hT:Trq L) (hn:L.length ≤ 1000) (k:Int):Told (Mean L) J.key (runQ (seekN J) 3000 2001 [] L k):=by
 have hb0:=budget_in hj
 rw [seek_dir hJ hj hk hR k]
 refine wp_dir (P:=Told (Mean L) J.key) ?_
 unfold lokT
 refine wp_bind ?_
 have fin:∀ (s:Spt) (n':Nat) (L':Shf) (k':Int),Fnd (Mean L) J.key s L' → Told (Mean L) J.key ⟨2,⟨0,finB s.g.x J.key,finV s.g.x J.key,[],0,false⟩,n',0,L',k'⟩:=fun s n' L' k' h => by
  refine ⟨rfl,h.right,h.mean,s.lab,?_,?_⟩
  ·show (⟨0,finB s.g.x J.key,finV s.g.x J.key,[],0,false⟩:Rsl)=lokR L' s.lab J.key
   rw [h.at_]; rfl
  have:=h.trq.at_ hJ.key h.leaf.1 h.leaf.2 h.cov
  rw [h.mean] at this
  exact this.symm
 unfold sekT
 refine wp_ite (fun _ => ?_) fun _ => ?_
 ·rw [← ofV_root hJ.key]
  refine wp_linK (M:=Mean L) hJ.key (by omega) (fun s n' L' k' h => fin s n' L' k' h) 64 2001 0 0 L k (Int.le_refl 0) (by decide) (by decide) (by simp; omega) ⟨hR,hT,rfl,by omega⟩ ?_
  rw [ofV_root hJ.key]; exact hT.root
 exact wp_binK (M:=Mean L) hJ.key (by omega) (fun s n' L' k' h => fin s n' L' k' h) 7 2001 0 0 64 L k (Int.le_refl 0) (Int.le_refl 64) (by decide) (by decide) (by simp; omega) ⟨hR,hT,rfl,by omega⟩
def Kd1 (l:Lab) (kd kd':Int):Prop:=kd'=kd ∨ (kd=1 ∧ kd'=3 ∧ l.len ≠ 64) ∨ (kd=2 ∧ kd'=4)
structure Bgt (b:Int) (I:List Itm) (L:Shf):Prop where
 yes:∀ p ∈ nodR b I,(spotOf L p.1).has=true ∧ (spotOf L p.1).r.items=p.2.items ∧ Kd1 p.1 p.2.kind (spotOf L p.1).r.kind
 no:∀ q,(spotOf L q).has=true → ∃ p ∈ nodR b I,p.1=q
section
variable {b:Int} {I:List Itm} {R:List Rw} {L:Shf}
theorem nod_lok {p:Lab × Rec} (hp:p ∈ nodR b I):LOk p.1:=⟨(nod_und hp).is,(nod_und hp).u⟩
theorem Bgt.trq (h:Bgt b I L) (hB:Blt b I R):Trq L:=by
 have nk:=fun {p} (hp:p ∈ nodR b I) => nod_row hB.ok.keys hp
 have lk:∀ {p},p ∈ nodR b I → Lvs (spotOf L p.1) → p.2=leafT (covL p.1 I):=fun {p} hp hl => by
  rcases nk hp with ⟨h1,_⟩ | ⟨h1,_⟩
  ·exact h1
  have hk:p.2.kind=2:=by rw [h1]; rfl
  have:=(h.yes p hp).2.2
  rw [hk] at this
  rcases this with e | ⟨e,_⟩ | ⟨_,e⟩
  ·rcases hl.2 with a | a<;>rw [a] at e<;>exact absurd e (by decide)
  ·exact absurd e (by decide)
  rcases hl.2 with a | a<;>rw [a] at e<;>exact absurd e (by decide)
 have ik:∀ {p},p ∈ nodR b I → Inr (spotOf L p.1) → p.1.len ≠ 64 ∧ (∃ r,(childL p.1 0,r) ∈ nodR b I) ∧ ∃ r,(childL p.1 1,r) ∈ nodR b I:=fun {p} hp hi => by
  rcases nk hp with ⟨h1,_⟩ | ⟨h1,_,h2⟩
  ·have hk:p.2.kind=1:=by rw [h1]; rfl
   have:=(h.yes p hp).2.2
   rw [hk] at this
   rcases this with e | ⟨_,e,_⟩ | ⟨e,_⟩
   ·rcases hi.2 with a | a<;>rw [a] at e<;>exact absurd e (by decide)
   ·rcases hi.2 with a | a<;>rw [a] at e<;>exact absurd e (by decide)
   exact absurd e (by decide)
  exact h2
 have inn:∀ {p},p ∈ nodR b I → p.2.kind=2 → Inr (spotOf L p.1):=fun {p} hp hk => by
  obtain ⟨h1,_,h3⟩:=h.yes p hp
  refine ⟨h1,?_⟩
  rcases h3 with e | ⟨e,_⟩ | ⟨_,e⟩
  ·exact .inl (e.trans hk)
  ·rw [hk] at e; exact absurd e (by decide)
  exact .inr e
 refine ⟨fun q hq => ?_,fun q hq => ?_,fun q hq => ?_,fun q hq => ?_,fun q hq hne => ?_,fun q hq h3 => ?_,?_⟩
 ·obtain ⟨p,hp,rfl⟩:=h.no q hq
  rcases nk hp with ⟨h1,_⟩ | ⟨h1,_⟩
  ·have hk:p.2.kind=1:=by rw [h1]; rfl
   have:=(h.yes p hp).2.2
   rw [hk] at this
   rcases this with e | ⟨_,e,_⟩ | ⟨e,_⟩
   ·exact .inr ⟨hq,.inl e⟩
   ·exact .inr ⟨hq,.inr e⟩
   exact absurd e (by decide)
  exact .inl (inn hp (by rw [h1]; rfl))
 ·obtain ⟨p,hp,rfl⟩:=h.no q hq
  exact nod_lok hp
 ·obtain ⟨p,hp,rfl⟩:=h.no q hq.1
  intro x hx
  rw [(h.yes p hp).2.1,lk hp hq] at hx
  have hx:x ∈ covL p.1 I:=hx
  exact ⟨hB.ok.keys x (cov_sub hx),(List.mem_filter.1 hx).2⟩
 ·obtain ⟨p,hp,rfl⟩:=h.no q hq.1
  obtain ⟨h64,⟨r0,h0⟩,⟨r1,h1⟩⟩:=ik hp hq
  rw [ch_val (nod_lok hp) h64,ch_val (nod_lok hp) h64]
  exact ⟨h64,(h.yes _ h0).1,(h.yes _ h1).1⟩
 ·obtain ⟨p,hp,rfl⟩:=h.no q hq
  rcases nodes_up gro_root p hp with e | ⟨h1,h2,_⟩
  ·exact absurd e hne
  exact ⟨h2,inn h1 rfl⟩
 ·obtain ⟨p,hp,rfl⟩:=h.no q hq
  have:=(h.yes p hp).2.2
  rcases this with e | ⟨_,_,e⟩ | ⟨_,e⟩
  ·rcases nk hp with ⟨h1,_⟩ | ⟨h1,_⟩
   ·rw [h1] at e; rw [h3] at e; exact absurd (show (3:Int)=1 from e) (by decide)
   rw [h1] at e; rw [h3] at e; exact absurd e (by decide)
  ·exact e
  rw [h3] at e; exact absurd e (by decide)
 obtain ⟨r,hr⟩:=nodes_head (b:=b) (n:=64) (l:=I) (q:=⟨0,0⟩)
 exact (h.yes _ hr).1
theorem Bgt.means (h:Bgt b I L) (hB:Blt b I R) (hT:Trq L):∀ (fu:Nat) (p:Lab × Rec),p ∈ nodR b I → 65 ≤ fu + p.1.len → meansP (TL L) fu p.1=covL p.1 I
 | 0,p,hp,h65 => by have:=(lab_parts (nod_und hp).is).2.1; omega
 | fu + 1,p,hp,h65 => by
  obtain ⟨hh,hi,hk⟩:=h.yes p hp
  have hu:=nod_und hp
  have hl:=nod_lok hp
  rcases nod_row hB.ok.keys hp with ⟨h1,h2⟩ | ⟨h1,h2,h3,⟨r0,h4⟩,⟨r1,h5⟩⟩
  ·rw [h1] at hi hk
   have hi:(spotOf L p.1).r.items=covL p.1 I:=hi
   rcases hk with e | ⟨_,e,h64⟩ | ⟨e,_⟩
   ·rw [means_leafK (TL_some hh) (.inl e) (Nat.succ_pos fu),hi]
   ·have hbare:∀ i,TL L (chV p.1 i)=none:=fun i => by unfold TL; rw [hT.bare hl ⟨hh,.inr e⟩ h64 i]; rfl
    have hkid:∀ i,kidP (TL L) (meansP (TL L) fu) (spotOf L p.1).r (chV p.1 i)=covL (chV p.1 i) (spotOf L p.1).r.items:=fun i => by
     unfold kidP
     rw [if_pos ⟨e,by unfold frozP; rw [hbare i]⟩]
    rw [means_inK hl h64 (TL_some hh) (by rw [e]; decide),hkid,hkid,hi,ch_val hl h64,ch_val hl h64,cov_two hu.is hu.u h64 (hB.ok.cov p.1),cov_cov (und_self hu.is hu.u) hu.is]
   exact absurd (show (1:Int)=2 from e) (by decide)
  have hI:Inr (spotOf L p.1):=by
   rw [h1] at hk
   rcases hk with e | ⟨e,_⟩ | ⟨_,e⟩
   ·exact ⟨hh,.inl e⟩
   ·exact absurd (show (2:Int)=1 from e) (by decide)
   exact ⟨hh,.inr e⟩
  have k3:(spotOf L p.1).r.kind ≠ 3:=by rcases hI.2 with a | a<;>rw [a]<;>decide
  have hl0:(childL p.1 0).len=p.1.len + 1:=rfl
  have hl1:(childL p.1 1).len=p.1.len + 1:=rfl
  rw [means_inK hl h3 (TL_some hh) (by rcases hI.2 with a | a<;>rw [a]<;>decide),kid_not3 k3,kid_not3 k3,ch_val hl h3,ch_val hl h3]
  rw [h.means hB hT fu _ h4 (by show 65 ≤ (fu:Int) + (childL p.1 0).len; rw [hl0]; omega),h.means hB hT fu _ h5 (by show 65 ≤ (fu:Int) + (childL p.1 1).len; rw [hl1]; omega)]
  exact cov_two hu.is hu.u h3 hB.ok
theorem Bgt.mean (h:Bgt b I L) (hB:Blt b I R) (hT:Trq L):Mean L=I:=by
 obtain ⟨r,hr⟩:=nodes_head (b:=b) (n:=64) (l:=I) (q:=⟨0,0⟩)
 have:=h.means hB hT 65 _ hr (by show (65:Int) ≤ 65 + 0; decide)
 unfold Mean
 rw [this,cov_root hB.ok.keys]
end
structure Bg1 (w w':Rw):Prop where
 lab:w'.lab=w.lab
 ver:w'.ver=w.ver
 its:w'.r.items=w.r.items
 nx:w'.r.next=w.r.next
 mrk_:w'.r.mark=w.r.mark
 kd:Kd1 w.lab w.r.kind w'.r.kind
section
variable {b:Int} {I:List Itm} {f g:Nat → RowA} {n:Nat}
theorem rws_at {f:Nat → RowA} {n i:Nat} (hi:i < n):(f i).abs ∈ rwsA f n:=List.mem_map.2 ⟨i,List.mem_range.2 hi,rfl⟩
theorem rws_of {f:Nat → RowA} {n:Nat} {w:Rw} (h:w ∈ rwsA f n):∃ i,i < n ∧ w=(f i).abs:=by
 obtain ⟨i,hi,rfl⟩:=List.mem_map.1 h
 exact ⟨i,List.mem_range.1 hi,rfl⟩
theorem bg_sorted (h:Blt b I (rwsA f n)) (hg:∀ i,i < n → Bg1 (f i).abs (g i).abs):(rwsA g n).Pairwise fun x y => lessL x.lab y.lab=true:=by
 have h1:=h.lessW
 unfold rwsA listA at h1 ⊢
 rw [List.pairwise_map] at h1 ⊢
 refine List.Pairwise.imp_of_mem (fun {i j} hi hj hij => ?_) h1
 rw [(hg i (List.mem_range.1 hi)).lab,(hg j (List.mem_range.1 hj)).lab]
 exact hij
theorem bg_right (h:Blt b I (rwsA f n)) (hg:∀ i,i < n → Bg1 (f i).abs (g i).abs):∀ w ∈ rwsA g n,isL w.lab=true ∧ isR w.r=true:=by
 intro w hw
 obtain ⟨i,hi,rfl⟩:=rws_of hw
 have hb:=hg i hi
 have hR:=newS_is h.right
 have h0:=hR.2 _ (rws_at (f:=f) hi)
 refine ⟨by rw [hb.lab]; exact h0.1,?_⟩
 obtain ⟨p,hp,he⟩:=h.mem.1 (rws_at (f:=f) hi)
 have e:((g i).abs).r=⟨((g i).abs).r.kind,((f i).abs).r.items,((f i).abs).r.next,((f i).abs).r.mark⟩:=by
  have a1:=hb.its; have a2:=hb.nx; have a3:=hb.mrk_
  rw [← a1,← a2,← a3]
 have hr0:=h0.2
 rw [e]
 have hkd:=hb.kd
 rw [he] at hkd hr0 ⊢
 have hkd:Kd1 p.1 (recR (nxP (lvR b I)) p).kind ((g i).abs).r.kind:=hkd
 have hr0:isR (recR (nxP (lvR b I)) p)=true:=hr0
 show isR ⟨((g i).abs).r.kind,(recR (nxP (lvR b I)) p).items,(recR (nxP (lvR b I)) p).next,(recR (nxP (lvR b I)) p).mark⟩=true
 rcases hkd with e1 | ⟨e1,e2,_⟩ | ⟨e1,e2⟩
 ·rw [e1]; exact hr0
 ·rw [e2]
  rw [recR_kind] at e1
  unfold recR at hr0 ⊢
  rw [if_pos e1] at hr0 ⊢
  rcases nod_row h.ok.keys hp with ⟨h1,_⟩ | ⟨h1,_⟩
  ·rw [h1] at hr0 ⊢
   have hr1:isRF 1 (covL p.1 I).length (itF (covL p.1 I)) (nxP (lvR b I) p.1) 0=true:=hr0
   show isRF 3 (covL p.1 I).length (itF (covL p.1 I)) (nxP (lvR b I) p.1) 0=true
   unfold isRF rowF bareK at hr1 ⊢
   simpa using hr1
  rw [h1] at e1; exact absurd e1 (by decide)
 rw [e2]
 rw [recR_kind] at e1
 unfold recR
 rw [if_neg (by rw [e1]; decide)]
 rcases nod_row h.ok.keys hp with ⟨h1,_⟩ | ⟨h1,_⟩
 ·rw [h1] at e1; exact absurd (show (1:Int)=2 from e1) (by decide)
 rw [h1]; decide
theorem bg_new (h:Blt b I (rwsA f n)) (hg:∀ i,i < n → Bg1 (f i).abs (g i).abs):newS (rwsA g n)=some ((rwsA g n).map spW):=by
 have hlen:(rwsA g n).length=(rwsA f n).length:=by simp [listA]
 unfold newS
 rw [if_neg (by rw [hlen,h.rows',List.length_map]; exact Nat.not_lt.2 h.len),newL_sorted (bg_sorted h hg) (fun p hp => by cases hp) (bg_right h hg)]
 rfl
theorem bg_rwg (h:Blt b I (rwsA f n)) (hg:∀ i,i < n → Bg1 (f i).abs (g i).abs):∀ w ∈ rwsA g n,RwG w:=fun w hw => by
 obtain ⟨i,hi,rfl⟩:=rws_of hw
 have hb:=hg i hi
 have h0:=h.rwg _ (rws_at (f:=f) hi)
 exact ⟨by rw [hb.lab]; exact h0.lab,by rw [hb.ver]; exact h0.ver,by rw [hb.nx]; exact h0.nx,by rw [hb.its]; exact h0.key⟩
theorem bg_shfR (h:Blt b I (rwsA f n)) (hg:∀ i,i < n → Bg1 (f i).abs (g i).abs):ShfR ((rwsA g n).map spW):=newS_right (bg_rwg h hg) (bg_new h hg)
theorem bg_dist (h:Blt b I (rwsA f n)) (hg:∀ i,i < n → Bg1 (f i).abs (g i).abs):((rwsA g n).map (·.lab)).Nodup:=by
 have h1:=bg_sorted h hg
 unfold List.Nodup
 rw [List.pairwise_map]
 exact h1.imp fun h => less_ne h
theorem bg_bgt (h:Blt b I (rwsA f n)) (hg:∀ i,i < n → Bg1 (f i).abs (g i).abs):Bgt b I ((rwsA g n).map spW):=by
 have hd:=bg_dist h hg
 have hs:∀ i,i < n → spotOf ((rwsA g n).map spW) (g i).abs.lab=⟨(g i).abs.ver,true,(g i).abs.r⟩:=fun i hi => by
  unfold spotOf
  rw [(find_spW _ hd).1 _ (rws_at hi) rfl]
  rfl
 refine ⟨fun p hp => ?_,fun q hq => ?_⟩
 ·obtain ⟨i,hi,he⟩:=rws_of (h.mem.2 ⟨p,hp,rfl⟩)
  have hb:=hg i hi
  have hlab:(g i).abs.lab=p.1:=by rw [hb.lab,← he]; rfl
  rw [← hlab,hs i hi]
  refine ⟨rfl,?_,?_⟩
  ·show (g i).abs.r.items=_
   rw [hb.its,← he]; exact recR_items _ p
  have:=hb.kd
  rw [← he] at this
  have this:Kd1 p.1 (recR (nxP (lvR b I)) p).kind (g i).abs.r.kind:=this
  rw [recR_kind] at this
  rw [hlab]
  exact this
 cases hf:findL q ((rwsA g n).map spW) with
 | none => rw [spot_none hf] at hq; cases hq
 | some x =>
  have hm:=find_memP hf
  obtain ⟨w,hw,he⟩:=List.mem_map.1 hm
  obtain ⟨i,hi,rfl⟩:=rws_of hw
  have hb:=hg i hi
  obtain ⟨p,hp,hpe⟩:=h.mem.1 (rws_at (f:=f) hi)
  have e1:(g i).abs.lab=q:=congrArg Prod.fst he
  refine ⟨p,hp,?_⟩
  rw [← e1,hb.lab,hpe]
  rfl
end
def bgS (l:Lab) (kd:Int):Int:=if kd=1 ∧ l.len < 64 then 3 else if kd=2 then 4 else kd
def bgF (at':Nat → Int) (i:Int) (l:Lab) (kd:Int):Nat → Int
 | 0 => kd
 | k + 1 => if at' k=i then bgS l (bgF at' i l kd k) else bgF at' i l kd k
def kdA (x:RowA) (kd:Int):RowA:=⟨x.lab,x.ver,⟨x.x.A,x.x.c,⟨x.x.r.n,x.x.r.f,kd,x.x.r.nx,x.x.r.mrk⟩⟩⟩
def bgA (f:Nat → RowA) (at':Nat → Int) (m i:Nat):RowA:=kdA (f i) (bgF at' i (f i).lab (f i).x.r.kd m)
theorem bgS_kd {l:Lab} {kd kd':Int} (h:kd=1 ∨ kd=2) (hk:Kd1 l kd kd'):Kd1 l kd (bgS l kd'):=by
 unfold bgS
 rcases hk with e | ⟨e1,e2,e3⟩ | ⟨e1,e2⟩
 ·rw [e]
  rcases h with h | h
  ·rw [h]
   by_cases hl:l.len < 64
   ·rw [if_pos ⟨rfl,hl⟩]; exact .inr (.inl ⟨rfl,rfl,by omega⟩)
   rw [if_neg (fun h => hl h.2),if_neg (by decide)]; exact .inl rfl
  rw [h,if_neg (fun h => absurd h.1 (by decide)),if_pos rfl]; exact .inr (.inr ⟨rfl,rfl⟩)
 ·rw [e2,if_neg (fun h => absurd h.1 (by decide)),if_neg (by decide)]; exact .inr (.inl ⟨e1,rfl,e3⟩)
 rw [e2,if_neg (fun h => absurd h.1 (by decide)),if_neg (by decide)]; exact .inr (.inr ⟨e1,rfl⟩)
theorem bgF_kd {at':Nat → Int} {i:Int} {l:Lab} {kd:Int} (h:kd=1 ∨ kd=2):∀ m,Kd1 l kd (bgF at' i l kd m)
 | 0 => .inl rfl
 | m + 1 => by
  unfold bgF
  split
  ·exact bgS_kd h (bgF_kd h m)
  exact bgF_kd h m
theorem bg_rows {b:Int} {I:List Itm} {f:Nat → RowA} {n:Nat} (h:Blt b I (rwsA f n)) (at':Nat → Int) (m:Nat):∀ i,i < n → Bg1 (f i).abs (bgA f at' m i).abs:=fun i hi => by
 have hk:=(h.kind (rws_at (f:=f) hi)).2.2
 exact ⟨rfl,rfl,rfl,rfl,rfl,bgF_kd hk m⟩
theorem find_atK {l l':List Itm} {key:Int} (h:atK key l=atK key l'):l.find? (isK key)=l'.find? (isK key):=by
 have e:∀ l:List Itm,l.find? (isK key)=(atK key l).head?:=fun l => by
  unfold atK
  rw [List.head?_filter]
  rfl
 rw [e,e,h]
theorem find_idx {f:Nat → Itm} {n:Nat} {key:Int}:(0 ≤ idxF (fun t => decide ((f t).key=key)) n ↔ findB (firsts f n) key=true) ∧ (if 0 ≤ idxF (fun t => decide ((f t).key=key)) n then (f (idxF (fun t => decide ((f t).key=key)) n).toNat).val else ⟨#[]⟩)=findS (firsts f n) key:=by
 have e:(firsts f n).find? (isK key)=((List.range n).find? (fun t => decide ((f t).key=key))).map f:=by
  unfold firsts
  rw [List.find?_map]
  rfl
 unfold findB findS idxF
 rw [e]
 cases (List.range n).find? (fun t => decide ((f t).key=key)) with
 | none => simp
 | some i => simp
theorem fin_find (L:Shf) (l:Lab) (key:Int):finB (gotAtL L l).x key=findB (spotOf L l).r.items key ∧ finV (gotAtL L l).x key=findS (spotOf L l).r.items key:=by
 have key':∀ (its:List Itm),(0 ≤ idxF (fun t => decide ((itF its t).key=key)) its.length ↔ findB its key=true) ∧ (if 0 ≤ idxF (fun t => decide ((itF its t).key=key)) its.length then (itF its (idxF (fun t => decide ((itF its t).key=key)) its.length).toNat).val else ⟨#[]⟩)=findS its key:=fun its => by
  have e:=find_idx (f:=itF its) (n:=its.length) (key:=key)
  rw [firsts_itF'] at e
  exact e
 obtain ⟨h1,h2⟩:=key' (spotOf L l).r.items
 refine ⟨?_,h2⟩
 unfold finB
 rw [Bool.eq_iff_iff,decide_eq_true_iff]
 exact h1
theorem begun_b (A:Option Addr) (n c:Nat) (f:Nat → RowA) (hn:n ≤ 100000) (A2:Option Addr) (mm c2:Nat) (g:Nat → Int) (hm:mm ≤ 100000):Spec Tryz.prog 15 [rowsV A n c f,.sl none A2 mm c2 1 (fun i => [.int .i64 (g i)])] (fun y => rowsV (y.A 0) n (y.c 0) (bgA f g mm)):=by
 intro m w hm hargs
 have hmx:maxLen=9223372036854775807:=rfl
 refine en 54 hm hargs Tryz.func15 fun B hB a0 hF => ?_
 refine wp_seq (rg hB TA_ok [0,1] [] [] hF fun X0 a0 w1 hF => ?_)
 refine wp_seq (rg hB TA_ok [0,1,5] [5,52] [] hF fun X1 a0 w1 hF => ?_)
 refine wp_seq (wp_seq (rg hB TA_ok [5,6,0,1] [5,52] [] hF fun X2 a0 w1 hF => ?_))
 replace hF:=hF.headS (v':=.sl (some 5) none 0 0 8 (fun t => rowC zRow)) (zq0) rfl
 refine wp_block (loop_pre (ι:=Nat × (Nat → RowA) × Option Addr × Nat) (fun p => [(5,.sl (some 5) p.2.2.1 p.1 p.2.2.2 8 (fun t => rowC (p.2.1 t))),(6,.int .i64 (p.1:Int))]) (fun p => []) (fun p => [(5,⟨p.2.2.1,p.1,p.2.2.2,8,78⟩)]) (fun p => p.1 ≤ n ∧ ∀ t,t < p.1 → p.2.1 t=bgA f g mm t) (fun p => n - p.1) (0,fun _ => zRow,none,0) ⟨Nat.zero_le _,fun t ht => absurd ht (Nat.not_lt_zero _)⟩ hF ?_)
 rintro ⟨i,h,A1,c1⟩ ⟨hi,hh⟩ a0 w1 hF
 try dsimp only at hi
 try dsimp only at hh
 refine wp_seq (wp_seq (rg hB TA_ok [12,0,1,5,6] [5,52] [] hF fun X3 a0 w1 hF => ?_))
 apply test_ok hF rfl<;>intro hb hF
 ·have hin:i < n:=by
   have:(i:Int) < (n:Int):=by subst hB; simpa [std,sC] using hb
   omega
  obtain ⟨x,hx⟩:=eqv (f i)
  refine wp_skip (wp_seq (wp_block (wp_seq ?_)))
  refine rg hB TA_ok [0,1,5,6,7] [7,5] [] hF (hob:=by intro X; subst hB; simp only [AO,Ob.holds,BE.den]<;>and_intros<;>repeat first | trivial | rfl | exact (show (0:Int) ≤ (i:Int) by omega) | exact (show (i:Int) < (n:Int) by omega) | exact (fun _ _ => by kernel_rfl) | refine ⟨?_,?_⟩ | intro h | exact Int.le_refl _ | decide | omega) fun X5 a0 w1 hF => ?_
  replace hF:=hF.memS (cells':=[.int .i64 x.lab.len,.int .u64 x.lab.bits,.int .u64 x.ver,.int .i64 x.x.r.kd,.sl none x.x.A x.x.r.n x.x.c 2 (fun t => itC (x.x.r.f t)),.int .i64 x.x.r.nx.len,.int .u64 x.x.r.nx.bits,.int .u64 x.x.r.mrk]) (by subst hB; rw [hx]; exact zl)
  refine wp_seq (wp_seq (rg hB TA_ok [8,0,1,5,6,7] [7,5] [] hF fun X6 a0 w1 hF => ?_))
  refine wp_block (loop_pre (ι:=Nat × Int) (fun q => [(8,.int .i64 (q.1:Int))]) (fun q => [(7,⟨(X5 4).b,78,[.int .i64 x.lab.len,.int .u64 x.lab.bits,.int .u64 x.ver,.int .i64 q.2,.sl none x.x.A x.x.r.n x.x.c 2 (fun t => itC (x.x.r.f t)),.int .i64 x.x.r.nx.len,.int .u64 x.x.r.nx.bits,.int .u64 x.x.r.mrk]⟩)]) (fun q => []) (fun q => q.1 ≤ mm ∧ q.2=bgF g i x.lab x.x.r.kd q.1) (fun q => mm - q.1) (0,x.x.r.kd) ⟨Nat.zero_le _,rfl⟩ hF ?_)
  rintro ⟨k,kd⟩ ⟨hk,hkd⟩ a0 w1 hF
  try dsimp only at hk
  try dsimp only at hkd
  refine wp_seq (wp_seq (rg hB TA_ok [22,0,1,5,6,7,8] [7,5] [] hF fun X7 a0 w1 hF => ?_))
  apply test_ok hF rfl<;>intro hb hF
  ·have hkn:k < mm:=by
    have:(k:Int) < (mm:Int):=by subst hB; simpa [std,sC] using hb
    omega
   refine wp_skip (wp_seq (wp_block (wp_seq (wp_seq ?_))))
   refine rg hB TA_ok [30,0,1,5,6,7,8] [7,5] [] hF (hob:=by intro X; subst hB; simp only [AO,Ob.holds,BE.den]<;>and_intros<;>repeat first | trivial | rfl | exact (show (0:Int) ≤ (k:Int) by omega) | exact (show (k:Int) < (mm:Int) by omega) | exact (fun _ _ => by kernel_rfl) | refine ⟨?_,?_⟩ | intro h | exact Int.le_refl _ | decide | omega) fun X9 a0 w1 hF => ?_
   apply test_ok hF rfl<;>intro hb hF
   ·have hne:g k ≠ (i:Int):=by subst hB; simpa [std,sC] using hb
    refine wp_exit (rg hB TA_ok [8,0,1,5,6,7] [7,5] [] hF fun X8 a0 w1 hF => ?_)
    have e:B.arith .add .i64 (k:Int) 1=((k + 1:Nat):Int):=by subst hB; exact wrap_succ (n:=mm) hkn (by omega)
    refine ⟨(k + 1,kd),⟨by simp only; omega,?_⟩,by simp only; omega,by rw [← e]; exact hF⟩
    show kd=bgF g i x.lab x.x.r.kd (k + 1)
    unfold bgF
    rw [if_neg hne,← hkd]
   have heq:g k=(i:Int):=by subst hB; simpa [std,sC] using hb
   refine wp_skip (wp_seq (wp_seq (rg hB TA_ok [40,0,1,5,6,7,8] [7,5] [] hF fun X10 a0 w1 hF => ?_)))
   apply test_ok hF rfl<;>intro hb hF
   ·have h40:kd=1 ∧ x.lab.len < 64:=by subst hB; simpa [std,sC] using hb
    refine rg hB TA_ok [0,1,5,6,7,8] [7,5] [] hF fun X11 a0 w1 hF => ?_
    refine wp_seq (rg hB TA_ok [46,0,1,5,6,7,8] [7,5] [] hF fun X12 a0 w1 hF => ?_)
    apply test_ok hF rfl<;>intro hb hF
    ·exfalso
     subst hB; simp [std,sC] at hb
    refine wp_skip (rg hB TA_ok [8,0,1,5,6,7] [7,5] [] hF fun X8 a0 w1 hF => ?_)
    have e:B.arith .add .i64 (k:Int) 1=((k + 1:Nat):Int):=by subst hB; exact wrap_succ (n:=mm) hkn (by omega)
    refine ⟨(k + 1,3),⟨by simp only; omega,?_⟩,by simp only; omega,by rw [← e]; exact hF⟩
    show 3=bgF g i x.lab x.x.r.kd (k + 1)
    unfold bgF
    rw [if_pos heq,← hkd]
    unfold bgS
    rw [if_pos h40]
   have h40:¬ (kd=1 ∧ x.lab.len < 64):=by subst hB; simpa [std,sC] using hb
   refine wp_skip (wp_seq (rg hB TA_ok [46,0,1,5,6,7,8] [7,5] [] hF fun X12 a0 w1 hF => ?_))
   apply test_ok hF rfl<;>intro hb hF
   ·have h46:kd=2:=by subst hB; simpa [std,sC] using hb
    refine rg hB TA_ok [0,1,5,6,7,8] [7,5] [] hF fun X13 a0 w1 hF => ?_
    refine rg hB TA_ok [8,0,1,5,6,7] [7,5] [] hF fun X8 a0 w1 hF => ?_
    have e:B.arith .add .i64 (k:Int) 1=((k + 1:Nat):Int):=by subst hB; exact wrap_succ (n:=mm) hkn (by omega)
    refine ⟨(k + 1,4),⟨by simp only; omega,?_⟩,by simp only; omega,by rw [← e]; exact hF⟩
    show 4=bgF g i x.lab x.x.r.kd (k + 1)
    unfold bgF
    rw [if_pos heq,← hkd]
    unfold bgS
    rw [if_neg h40,if_pos h46]
   have h46:¬ kd=2:=by subst hB; simpa [std,sC] using hb
   refine wp_skip (rg hB TA_ok [8,0,1,5,6,7] [7,5] [] hF fun X8 a0 w1 hF => ?_)
   have e:B.arith .add .i64 (k:Int) 1=((k + 1:Nat):Int):=by subst hB; exact wrap_succ (n:=mm) hkn (by omega)
   refine ⟨(k + 1,kd),⟨by simp only; omega,?_⟩,by simp only; omega,by rw [← e]; exact hF⟩
   show kd=bgF g i x.lab x.x.r.kd (k + 1)
   unfold bgF
   rw [if_pos heq,← hkd]
   unfold bgS
   rw [if_neg h40,if_neg h46]
  have hko:k=mm:=by
   have:¬ (k:Int) < (mm:Int):=by subst hB; simpa [std,sC] using hb
   omega
  rw [hko] at hkd
  refine wp_exit ?_
  refine rg hB TA_ok [5,6,0,1] [5,52] [] hF (hob:=by intro X; subst hB; simp only [AO,Ob.holds,BE.den]<;>and_intros<;>repeat first | trivial | rfl | exact (show i + 1 ≤ maxLen by omega) | exact (show (i + 1) * _ ≤ 140737488355328 by omega) | exact (fun _ _ => by kernel_rfl) | refine ⟨?_,?_⟩ | intro h | exact Int.le_refl _ | decide | omega) fun X14 a0 w1 hF => ?_
  replace hF:=hF.headS (v':=.sl (some 5) ((X14 3).A 0) (B.nadd i 1) ((X14 3).c 0) 8 (fun t => rowC (if t=i then bgA f g mm i else h t))) (Sim.resl rfl (fun t ht => by
   subst hB
   have ht2:t < i + 1:=ht
   show appC i (fun t => rowC (h t)) (chunk 8 [.int .i64 x.lab.len,.int .u64 x.lab.bits,.int .u64 x.ver,.int .i64 kd,.sl none x.x.A x.x.r.n x.x.c 2 (fun t => itC (x.x.r.f t)),.int .i64 x.x.r.nx.len,.int .u64 x.x.r.nx.bits,.int .u64 x.x.r.mrk]) t=_
   unfold appC
   split
   ·rw [if_neg (by omega)]
   have:t=i:=by omega
   subst this
   rw [if_pos rfl]
   unfold bgA kdA
   rw [hkd,hx]
   simp [chunk,rowC,recC])) rfl
  refine rg hB TA_ok [5,6,0,1] [5,52] [] hF fun X4 a0 w1 hF => ?_
  have e:B.arith .add .i64 (i:Int) 1=((i + 1:Nat):Int):=by subst hB; exact wrap_succ (n:=n) hin (by omega)
  refine ⟨(i + 1,fun t => if t=i then bgA f g mm i else h t,_,_),⟨by simp only; omega,fun t ht => ?_⟩,by simp only; omega,by rw [← e,show i + 1=B.nadd i 1 by subst hB; rfl]; exact hF⟩
  by_cases ht3:t=i
  ·show (if t=i then bgA f g mm i else h t)=bgA f g mm t
   rw [if_pos ht3,ht3]
  simp only [if_neg ht3]; exact hh t (by have h9:t < i + 1:=ht; omega)
 have hout:i=n:=by
  have:¬ (i:Int) < (n:Int):=by subst hB; simpa [std,sC] using hb
  omega
 have hh2:∀ t,t < n → h t=bgA f g mm t:=by rw [hout] at hh; exact hh
 refine wp_exit (wp_seq (rg hB TA_ok [4] [4,5,52] [] hF fun X15 a0 w1 hF => ?_))
 refine wp_ret ((rsi hB TA_ok hF (⟨0,fun _ => A1,fun _ => c1,fun _ => ⟨#[]⟩⟩) (he:=?_)))
 subst hB
 exact Sim.resl hout (fun t ht => by show rowC (h t)=rowC (bgA f g mm t); rw [hh2 t (by omega)])
end Go.Proofs.YtjgnoldondblaaaGreat.Sym
