/-
  SymL26D, WalkSeekFinds: put together by a program of mine (a claim may have 60 files at most). Conditions: none.
-/
import Derived.WalkKit
import Derived.WalkLawsBesides
import Derived.WalkSpells
import Derived.Lib.Hide
import Derived.Deep.QuietTactic
import Derived.BigQuiet
import Derived.Deep.LoopGhost
import Derived.Deep.DeepCutAuto
import Derived.Deep.RegionLaw
import Derived.Lib.Overlaps
import Derived.Laws.CopyOwn
import Derived.IntWalk
import Derived.ProofKit
import Derived.OpenShut
import Derived.ShutString
import Derived.ChangeOld
import Derived.Deep.Slices
import Derived.Test.YtjgnoldondblaaaGreatProg
import Derived.Orders
import Derived.OrdersHeld
import Derived.Defers
import Derived.Recover
import Derived.Lib.BitFns
import Derived.ChangeKeysEq
import Derived.Test.YtjgnoldondblaaaGreatChecked
import Derived.Lib.BufferWrite
import Derived.Maps.OwnSet
import Derived.Maps.RangeWalk
import Derived.Maps.Ext
import Derived.DeepKeys4
import Derived.LoopN
import Derived.Shelf.SlSortCmp.WholeK
import Derived.Shelf.SlSortCmp.NoneTotal
import Derived.Deep.RegionHeld3
import Derived.Ground.SlsfProg
import Derived.Shelf.SlGeneric
import Derived.RangeFuncLeaves
import Derived.RangeFuncCalls
import Derived.OrdersIn
import Derived.Test.YtjgnoldondblaaaGreatMgF1
import Derived.Test.YtjgnoldondblaaaGreatMgF2
import Derived.Test.YtjgnoldondblaaaGreatMgF3
import Derived.Test.YtjgnoldondblaaaGreatMgF4
import Derived.Test.YtjgnoldondblaaaGreatMgF5
import Derived.Test.YtjgnoldondblaaaGreatMgF6
set_option linter.unusedVariables false
set_option linter.unusedSimpArgs false
set_option maxRecDepth 100000
set_option maxHeartbeats 1600000
namespace Go.Proofs.YtjgnoldondblaaaGreat.Sym
open Go Go.RowKit
theorem rw_in {l:List Rw} (h:∀ w ∈ l,w.r.items.length ≤ 1000000 ∧ LabOk w.lab ∧ U64 w.lab.bits ∧ U64 w.r.next.bits) (y:Atom):RwN l.length (rwAt y l):=by
 intro i hi
 unfold rwAt
 rw [List.getD_eq_getElem?_getD,List.getElem?_eq_getElem hi]
 exact h _ (List.getElem_mem hi)
theorem rw_inK {l:List Rw} (h:∀ w ∈ l,∀ x ∈ w.r.items,U64 x.key) (y:Atom):RwK l.length (rwAt y l):=by
 intro i hi t ht
 unfold rwAt at ht ⊢
 rw [List.getD_eq_getElem?_getD,List.getElem?_eq_getElem hi] at ht ⊢
 have ht:t < (l[i].r.items).length:=ht
 show U64 ((l[i].r.items).getD t zeroItm).key
 rw [List.getD_eq_getElem?_getD,List.getElem?_eq_getElem ht]
 exact h _ (List.getElem_mem hi) _ (List.getElem_mem ht)
theorem bld_n {n:Nat} {f:Nat → Itm} {b:Int} (hk:∀ i,i < n → U64 (f i).key) (y:Atom):RwN (bldR n f b).length (rwAt y (bldR n f b)):=by
 refine rw_in (fun w hw => ?_) y
 by_cases he:bldE n f b=0
 ·obtain ⟨h1,h2,h3,h4,_⟩:=(bld_yes hk he).isR_small hw
  exact ⟨by omega,labOk_is h2 h3,h3,h4⟩
 rw [bld_no he] at hw; cases hw
theorem bld_k {n:Nat} {f:Nat → Itm} {b:Int} (hk:∀ i,i < n → U64 (f i).key) (y:Atom):RwK (bldR n f b).length (rwAt y (bldR n f b)):=by
 refine rw_inK (fun w hw => ?_) y
 by_cases he:bldE n f b=0
 ·exact ((bld_yes hk he).isR_small hw).2.2.2.2
 rw [bld_no he] at hw; cases hw
theorem bld_len {n:Nat} {f:Nat → Itm} {b:Int} (hk:∀ i,i < n → U64 (f i).key):(bldR n f b).length ≤ 2000:=by
 by_cases he:bldE n f b=0
 ·have h:=bld_yes hk he
  rw [h.rows',List.length_map]; exact h.len
 rw [bld_no he]; exact Nat.zero_le _
theorem skJ_job (key:Int) {how b:Int} (hh:how=1 ∨ how=2) (h1:1 ≤ b) (h2:b ≤ 16):isJobB (skJ key how b)=true:=by
 unfold isJobB btw skJ
 rcases hh with rfl | rfl<;>simp [h1,h2]<;>decide
theorem okF_of {f:Nat → Itm} {n:Nat} {b:Int} {R:List Rw} (h:Blt b (firsts f n) R):okF f n=true:=by
 have h1:=okF_its h.ok h.vals
 rw [firsts_len] at h1
 rw [← h1]
 exact okF_congr' fun t ht => (firsts_get f n t ht).symm
theorem lawFnd_s (A:Option Addr) (n c:Nat) (f:Nat → Itm) (hn:n ≤ maxLen) (hki:∀ i,i < n → U64 (f i).key) (b how:Int) (A2:Option Addr) (mm c2:Nat) (g:Nat → Int) (key:Int) (hkey:U64 key):Spec Tryz.prog 4 [rowI A n c f,.int .i64 b,.int .i64 how,.sl none A2 mm c2 1 (fun i => [.int .i64 (g i)]),.int .u64 key] (fun _ => .bool .tt):=by
 intro m w hm hargs
 have hmx:maxLen=9223372036854775807:=rfl
 have SF:=few_s A n c f hn
 obtain ⟨fb,hfb⟩:=eqv (fewB n f)
 rw [← hfb] at SF
 unfold rowI at hargs SF
 refine en 119 hm hargs Tryz.func4 fun B hB a0 hF => ?_
 refine wp_seq (rg hB TA_ok [0,1,2,3,4] [] [] hF fun X0 a0 w1 hF => ?_)
 have O1:=SF
 refine wp_seq (wp_seq (rg hB TA_ok [37,0,1,2,3,4] [] [(1,.r fun _ => .bool (.v fb))] hF fun X1 a0 w1 hF => ?_))
 apply test_ok hF rfl<;>intro hb hF
 ·skip
  have O1:=sought_s
  refine wp_seq (rg hB TA_ok [10] [] [(0,.r fun _ => .bool .tt)] hF fun X2 a0 w1 hF => ?_)
  refine wp_ret ((rsi hB TA_ok hF nAt (he:=?_)))
  subst hB
  exact Sim.bool rfl
 have hb0:fb=true ∧ mm ≤ 20 ∧ (how=1 ∨ how=2):=by
  subst hB
  revert hb
  cases fb<;>by_cases h1:how=1<;>by_cases h2:how=2<;>by_cases h3:(20:Int) < (mm:Int)<;>simp [std,sC,h1,h2,h3]<;>omega
 obtain ⟨hf1,hm20,hhow⟩:=hb0
 rw [hf1] at hfb
 have hn6:=few_le hfb.symm
 have SB:=build_s A n c f (by omega) hki b
 have hbn:=bld_n (b:=b) hki
 have hbk:=bld_k (b:=b) hki
 have hbl:=bld_len (b:=b) hki
 have hby:=bld_yes (b:=b) hki
 have hbno:=bld_no (n:=n) (f:=f) (b:=b)
 obtain ⟨R,hR⟩:=eqv (bldR n f b)
 obtain ⟨be,hbe⟩:=eqv (bldE n f b)
 rw [← hR,← hbe] at SB hbno
 rw [← hR] at hbl
 simp only [← hR] at hbn hbk
 rw [← hR,← hbe] at hby
 have hRR:∀ y,rwsA (rwAt y R) R.length=R:=fun y => rwsA_rwAt y R
 obtain ⟨rn,hrn⟩:=eqv (R.length)
 obtain ⟨RF,hRF⟩:∃ RF:Atom → Nat → RowA,RF=fun y => rwAt y R:=⟨_,rfl⟩
 have hRy:∀ y,rwAt y R=RF y:=fun y => by rw [hRF]
 simp only [← hrn,hRy] at SB hbn hbk hRR
 rw [← hrn] at hbl
 simp only [rowI] at SB
 have O1:=SB
 refine wp_skip (wp_seq (rg hB TA_ok [0,1,2,3,4,11,12] [] [(2,.r fun y => .tup [.sl none (y.A 0) rn (y.c 0) 8 (fun i => rowC (RF y i)),.int .i64 be])] hF fun X3 a0 w1 hF => ?_))
 refine wp_seq (wp_seq (rg hB TA_ok [51,0,1,2,3,4,11] [] [] hF fun X4 a0 w1 hF => ?_))
 apply test_ok hF rfl<;>intro hb hF
 ·skip
  have O1:=sought_s
  refine wp_seq (rg hB TA_ok [10] [] [(0,.r fun _ => .bool .tt)] hF fun X5 a0 w1 hF => ?_)
  refine wp_ret ((rsi hB TA_ok hF nAt (he:=?_)))
  subst hB
  exact Sim.bool rfl
 have hbr:be=0 ∧ rn ≤ 300:=by
  subst hB
  revert hb
  by_cases g1:be=0
  ·by_cases g2:(300:Int) < (rn:Int)
   ·simp [std,sC,g1,g2]
   intro _; exact ⟨g1,by omega⟩
  simp [std,sC,g1]
 obtain ⟨heq,hr3⟩:=hbr
 have hT:=hby heq
 have hT1:Blt b (firsts f n) (rwsA (RF (X3 2)) rn):=by rw [hRR]; exact hT
 have hbg:=bg_rows hT1 g mm
 have hnew:=bg_new hT1 hbg
 have hSR:=bg_shfR hT1 hbg
 have hBt:=bg_bgt hT1 hbg
 have hTq:=hBt.trq hT1
 have hMe:=hBt.mean hT1 hTq
 have hNB:RwN rn (bgA (RF (X3 2)) g mm):=fun i hi => hbn (X3 2) i hi
 have SB2:=begun_b ((X3 2).A 0) rn ((X3 2).c 0) (RF (X3 2)) (by omega) A2 mm c2 g (by omega)
 obtain ⟨BG,hBG⟩:=eqv (bgA (RF (X3 2)) g mm)
 simp only [← hBG] at hnew hSR hTq hMe hNB SB2
 have hlL:((rwsA BG rn).map spW).length ≤ 1000:=by rw [List.length_map]; show ((List.range rn).map _).length ≤ _; rw [List.length_map,List.length_range]; omega
 obtain ⟨L0,hL0⟩:=eqv ((rwsA BG rn).map spW)
 rw [← hL0] at hnew hSR hTq hMe hlL
 have hlb0:LblI L0:=lbl_new hnew
 have hlb1:LblI (runQ (seekN (skJ key how b)) 3000 2001 [] L0 0).L:=lbl_run _ hlb0
 have hto:=seek_finds (J:=skJ key how b) (skJ_in hkey how b) (skJ_job key hhow hT.b1 hT.b16) rfl (by show (1500:Int) ≤ 1500; omega) hSR hTq hlL 0
 have hlen1:(runQ (seekN (skJ key how b)) 3000 2001 [] L0 0).L.length ≤ 2000:=hto.right.good.ok.len
 rw [hMe] at hto
 obtain ⟨RQ,hRQ⟩:=eqv (runQ (seekN (skJ key how b)) 3000 2001 [] L0 0)
 rw [← hRQ] at hto hlb1 hlen1
 obtain ⟨hst,hR1,hmean,lq,hres,hat⟩:=hto
 have hff:=fin_find RQ.L lq key
 have hfa:=find_atK hat
 have hres2:RQ.res=⟨0,findB (firsts f n) key,findS (firsts f n) key,[],0,false⟩:=by
  rw [hres]
  show (⟨0,finB (gotAtL RQ.L lq).x key,finV (gotAtL RQ.L lq).x key,[],0,false⟩:Rsl)=_
  rw [hff.1,hff.2]
  unfold findB findS
  have hfa:(spotOf RQ.L lq).r.items.find? (isK key)=(firsts f n).find? (isK key):=hfa
  rw [hfa]
 have hok:=okF_of hT
 have SO:=(mof_x A n c f (by omega)).re (args':=[rowI A n c f]) (pre':=[]) (res':=fun x => ⟨.ptr 200 x.b 0,[],[(200,⟨x.b,105,[rowI (x.A 0) (ofL (firsts f n)).length (x.c 0) (itF (ofL (firsts f n)))]⟩)]⟩) (zl) rfl (fun x => ⟨rfl,rfl,Sim.ptr,rfl⟩)
 rw [ofL_srt hok n (Nat.le_refl _)] at SO
 unfold rowI at SO
 have SG0:=fun (bb:Nat) (Ab:Option Addr) (cb:Nat) => mget_m 200 bb Ab (firsts f n).length cb (itF (firsts f n)) (by rw [firsts_len]; omega) key
 simp only [firsts_itF',rowI] at SG0
 obtain ⟨fb1,hfb1⟩:=eqv (findB (firsts f n) key)
 rw [← hfb1] at hres2
 obtain ⟨fs1,hfs1⟩:=eqv (findS (firsts f n) key)
 rw [← hfs1] at hres2
 simp only [← hfb1,← hfs1] at SG0
 obtain ⟨n0,hn0⟩:=eqv ((firsts f n).length)
 rw [← hn0] at SO
 have hn0n:n0=n:=by rw [hn0,firsts_len]
 obtain ⟨g0,hg0⟩:=eqv (itF (firsts f n))
 rw [← hg0] at SO
 simp only [← hn0,← hg0] at SG0
 have SG:=fun (I:Kn) (bb:Nat) (Ab:Option Addr) (cb:Nat) => SpecR.of (I:=I) (fun m w a1 a2 a3 _ => SG0 bb Ab cb m w a1 a2 a3)
 have SS:=fun (A2 A3:Option Addr) (c2 c3:Nat) => same7_s A2 n c2 g0 (by omega) A3 n c3 f
 rw [show sameF n g0 n f=true from sameF_yes rfl fun i hi => by rw [hg0]; exact firsts_get _ _ i hi] at SS
 simp only [rowI] at SS
 have O1:=SB2
 refine wp_skip (wp_seq (wp_region_lit (lpr 0 3 hB TA_ok [56,0,1,2,4] [] [(2,.r fun y => .sl none (y.A 0) rn (y.c 0) 8 (fun i => rowC (BG i)))] hF fun X6_0 a0 w1 hF => ?_)))
 have SN:=new_yes ((X6_0 2).A 0) rn ((X6_0 2).c 0) BG (by omega) hNB 900 (L:=L0) hnew
 refine man_callM rfl rfl rfl rfl hF rfl rfl enters8 (SN) (fun _ _ _ => trivial) (fun b hb => by cases hb) (zl) (by intro e he; cases he) rfl rfl (fun y => shF w.heap.size (y.c 0) L0) (fun n x m w m' w' hn _ _ h => ⟨Nat.le_trans hn h.1,h.2⟩) ?_
 intro y a0 w1 hF
 obtain ⟨sb,hsb⟩:=eqv (y.b)
 obtain ⟨bM,hbM⟩:=eqv (y.c 0)
 rw [← hsb,← hbM] at hF
 have hbfr:w.heap.size ≤ bM:=hF.kept.1
 replace hF:=hF.withK (K':=shK bM L0) hF.kept.2
 have SD:=run26_m 900 sb bM (skJ key how b) (skJ_in hkey how b) L0 hSR.good 0
 rw [← hRQ,hst,hres2] at SD
 have SJ:Spec Tryz.prog 12 [.int .u64 key,.int .i64 how,.int .i64 b] (fun _ => jobV (skJ key how b)):=lkp_s key how b
 obtain ⟨RL,hRL⟩:=eqv (RQ.L)
 rw [← hRL] at SD hR1 hmean hlen1 hlb1
 obtain ⟨RK,hRK⟩:=eqv (RQ.k)
 rw [← hRK] at SD
 obtain ⟨rq,hrq⟩:=eqv (RQ.n)
 rw [← hrq] at SD
 have SE:SpecM Tryz.prog 11 [.ptr 900 sb 0,jobV (skJ key how b)] [(900,⟨sb,90,[.raw (.map (some bM)),.int .i64 0]⟩)] (some bM) (shK bM L0) (fun y => ⟨.tup [.agg [.int .i64 0,.bool (.v fb1),.str fs1,.sl none (y.A 2) 0 (y.c 2) 2 (fun i => itC (itF [] i)),.int .u64 0,.bool (.v false)],.int .i64 (rq:Int),.bool (.v true)],[(900,[.raw (.map (some bM)),.int .i64 RK])],[]⟩) (fun _ _ => shK bM RL):=SD
 refine lnd 4 hB TA_ok [0,1,2,4,13,14] [900] [(2,.r fun y => .sl none (y.A 0) rn (y.c 0) 8 (fun i => rowC (BG i)))] hF fun X6 a0 w1 hF => ?_
 refine wp_seq (wp_seq (rg hB TA_ok [65,0,1,2,4,13] [900] [] hF fun X7 a0 w1 hF => ?_))
 apply test_ok hF rfl<;>intro hb hF
 ·exfalso
  subst hB; simp [std,sC,BE.den] at hb
 skip
 have O1:=SJ
 refine wp_skip (wp_seq (wp_region_lit (lpr 0 5 hB TA_ok [67,71,0,4,13] [900] [(4,.r fun _ => jobV (skJ key how b))] hF fun X9_0 a0 w1 hF => ?_)))
 refine man_callM rfl rfl rfl rfl hF rfl rfl enters11 SE (fun _ _ h => h) (fun b hb => by cases hb; exact fun h => absurd h (Nat.not_lt.2 hbfr)) ⟨zr,zr,trivial⟩ (by intro e he; simp only [List.mem_singleton] at he; subst he; rfl) rfl rfl (fun _ => shK bM RL) (fun _ _ _ _ _ _ _ _ _ h => h) ?_
 intro y a0 w1 hF
 replace hF:=hF.withK (K':=shK bM RL) hF.kept
 refine lnd 6 hB TA_ok [0,4,13,15,17] [900,15] [(4,.r fun _ => jobV (skJ key how b))] hF fun X9 a0 w1 hF => ?_
 have SR:=rows_r 900 sb bM RL (by have:=hlen1; omega) RK
 have hnR0:(rowsL RL).length ≤ 100000:=Nat.le_trans (rowsL_le RL) (by have:=hlen1; omega)
 have SI2:=fun (y:Atom) (A2:Option Addr) (c2:Nat) => items_s A2 (rowsL RL).length c2 (rwAt y (rowsL RL)) hnR0 (rows_n hR1 y) (rows_k hR1 y)
 simp only [rwsA_rwAt,(items_rows hR1 hlb1).1,(items_rows hR1 hlb1).2,hmean,firsts_len,← hg0,rowI] at SI2
 obtain ⟨RR,hRS⟩:=eqv (rowsL RL)
 simp only [← hRS] at SR SI2 hnR0
 obtain ⟨nR,hnR⟩:=eqv (RR.length)
 simp only [← hnR] at SR SI2 hnR0
 apply wp_seq
 refine rg hB TA_ok [0,13,15,17,18,19] [900,15] [(1,.x fun x => ⟨.ptr 200 x.b 0,[],[(200,⟨x.b,105,[.sl none (x.A 0) n0 (x.c 0) 2 (fun i => itC (g0 i))]⟩)]⟩),(3,.g [200] fun _ => .tup [.str fs1,.bool (.v fb1)])] hF (hob:=by intro X; subst hB; simp only [AO,Ob.holds,BE.den]<;>and_intros<;>repeat first | trivial | rfl | exact SO | exact SG _ _ _ _ | exact (fun _ _ => by kernel_rfl) | refine ⟨?_,?_⟩ | intro h | exact Int.le_refl _ | decide | omega) fun X10 a0 w1 hF => ?_
 apply wp_seq
 refine rg hB TA_ok [0,15,17,18,19,20,21] [900,15] [(1,.g [900] fun y => .sl none (y.A 0) nR (y.c 0) 8 (fun i => rowC (rwAt y RR i))),(2,.r fun y => .tup [.sl none (y.A 0) n (y.c 0) 2 (fun t => itC (g0 t)),.int .i64 0])] hF (hob:=by intro X; subst hB; simp only [AO,Ob.holds,BE.den]<;>and_intros<;>repeat first | trivial | rfl | exact SR | exact SI2 _ _ _ | exact (fun _ _ => by kernel_rfl) | refine ⟨?_,?_⟩ | intro h | exact Int.le_refl _ | decide | omega) fun X11 a0 w1 hF => ?_
 apply wp_seq
 refine rg hB TA_ok [10] [] [(0,.r fun _ => .bool .tt),(28,.r fun _ => .bool (.v true))] hF (hob:=by intro X; subst hB; simp only [AO,Ob.holds,BE.den]<;>and_intros<;>repeat first | trivial | rfl | exact sought_s | exact SS _ _ _ _ | exact (fun _ _ => by kernel_rfl) | refine ⟨?_,?_⟩ | intro h | exact Int.le_refl _ | decide | omega) fun X12 a0 w1 hF => ?_
 refine wp_ret ((rsi hB TA_ok hF nAt (he:=?_)))
 subst hB
 refine Sim.bool ?_
 simp [std,sC,stdScmp,BE.den,canB]
 try exact String.beq_self _
end Go.Proofs.YtjgnoldondblaaaGreat.Sym
namespace Go.Proofs.YtjgnoldondblaaaGreat
open Go Go.RowKit
theorem walkSeekFinds (W:World) (v0 v1 v2 v3 v4:Value) (i0:Sym.InIts W v0) (i1:Sym.InI W v1) (i2:Sym.InI W v2) (i3:Sym.InInts W v3) (i4:Sym.InU W v4):Calls Tryz.prog 4 #[v0,v1,v2,v3,v4] W fun e w' => e = .returned (.bool true) ∧ Below W.heap.size W w':=by
 obtain ⟨A,n,c,f,rfl,h0,hn,hf⟩:=i0
 obtain ⟨b,rfl,_⟩:=i1
 obtain ⟨how,rfl,_⟩:=i2
 obtain ⟨A2,m,c2,g,rfl,h3⟩:=i3
 obtain ⟨k,rfl,hk⟩:=i4
 have S:=Sym.lawFnd_s A n c f hn hf b how A2 m c2 g k hk
 refine (S (fun _ _ => False) W (fun _ _ h => h.elim) (fun v hv => ?_)).mono ?_
 ·simp only [List.mem_cons,List.not_mem_nil,or_false] at hv
  rcases hv with rfl | rfl | rfl | rfl | rfl
  ·exact h0
  ·exact .int _ _
  ·exact .int _ _
  ·exact h3
  exact .int _ _
 rintro e w' ⟨x,rfl,_,hb⟩
 exact ⟨rfl,hb⟩
end Go.Proofs.YtjgnoldondblaaaGreat
