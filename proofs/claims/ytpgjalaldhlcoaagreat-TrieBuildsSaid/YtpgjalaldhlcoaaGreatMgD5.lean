/-
  SymTrB, OpenS24, SymRSh, SymRSh3, SymTd1, PlTe, PlBld, PlBld2, PlBld3, PlCo, PlDoc, SymTb1, SymTd2, SymTb2, SymTg, SymL24F, SymRSh2, SymTb3, SymL24D, WalkTrieBuilds: put together by a program of mine (a claim may have 60 files at most). Conditions: none.
-/
import Derived.WalkKit
import Derived.WalkLawsBesides
import Derived.WalkSpells
import Derived.Lib.Hide
import Derived.Deep.QuietTactic
import Derived.BigQuiet
import Derived.Deep.LoopGhost
import Derived.Deep.DeepCutAuto
import Derived.Deep.RegionLaw
import Derived.Lib.Overlaps
import Derived.Laws.CopyOwn
import Derived.IntWalk
import Derived.ProofKit
import Derived.OpenShut
import Derived.ShutString
import Derived.ChangeOld
import Derived.Deep.Slices
import Derived.Orders
import Derived.OrdersHeld
import Derived.Defers
import Derived.Recover
import Derived.Lib.BitFns
import Derived.ChangeKeysEq
import Derived.Test.YtpgjalaldhlcoaaGreatProg
import Derived.Lib.BufferWrite
import Derived.Maps.OwnSet
import Derived.Maps.RangeWalk
import Derived.Maps.Ext
import Derived.DeepKeys4
import Derived.RangeFuncLeaves
import Derived.RangeFuncCalls
import Derived.OrdersIn
import Derived.Shelf.SlSortCmp.WholeK
import Derived.Shelf.SlSortCmp.NoneTotal
import Derived.Deep.RegionHeld3
import Derived.Ground.SlsfProg
import Derived.Shelf.SlGeneric
import Derived.Test.YtpgjalaldhlcoaaGreatChecked
import Derived.Test.YtpgjalaldhlcoaaGreatMgD1
import Derived.Test.YtpgjalaldhlcoaaGreatMgD2
import Derived.Test.YtpgjalaldhlcoaaGreatMgD3
import Derived.Test.YtpgjalaldhlcoaaGreatMgD4
set_option linter.unusedVariables false
set_option linter.unusedSimpArgs false
set_option maxRecDepth 100000
set_option maxHeartbeats 1600000
namespace Go.Proofs.YtpgjalaldhlcoaaGreat.Sym
open Go Go.RowKit
theorem noAts : ∀ k, ¬ ats ([] : List (Nat × Blk)) k := fun k ⟨e, he, _⟩ => by cases he
theorem seg_K {m0 : Nat → Nat → Prop} {mem : List (Nat × Blk)} {gr : List (Nat × Gr)} {nt : Nat} {tm : List (Nat × AV)} {w w1 : World} {S : Nat → Prop} {ds : List Deferred} {K K' : Kn} (h : K.p (mT m0 mem gr) w) : K.p (St.m ⟨nt, tm, [], [], []⟩ ⟨mT m0 mem gr, w1, S, ds, K'⟩) w :=
 K.st ⟨fun b o u h1 h2 => ⟨h1, fun h => by
  rcases h with h | ⟨k, e, he, _⟩ | ⟨k, t, ht, _⟩
  ·exact h2 h
  ·cases he
  cases ht⟩, fun _ _ h _ => h⟩ h
theorem grow_len {b : Int} : ∀ (n : Nat) (l : List Itm) (q : Lab) (T : List (Lab × Rec)), T.length ≤ 2000 → (growP b n l q T).2.length ≤ 2000
 | 0, l, q, T, h => h
 | n + 1, l, q, T, h => by
  by_cases h1 : 2000 ≤ T.length
  ·rw [grow_full h1]; exact h
  have hs : ∀ r, (setA q r T).length ≤ 2000 := fun r => by rw [set_len]; split <;> omega
  by_cases h2 : (l.length : Int) ≤ b ∨ q.len = 64
  ·rw [grow_leaf h1 h2]; exact hs _
  by_cases hc : chE q 0 = 0
  ·have e1 : (gT b n l q T 1).length ≤ 2000 := grow_len n _ _ _ (hs innR)
   have e2 : (gT b n l q T 2).length ≤ 2000 := grow_len n _ _ _ e1
   rw [grow_in h1 h2 hc]
   split
   ·exact e2
   exact e1
  rw [grow_none h1 h2 hc]; exact hs innR
theorem old_ok2 {m0 : Nat → Nat → Prop} {w0 w w' : World} {S : Nat → Prop} {ds : List Deferred} {K : Kn} {nt key : Nat} {t : Gr} {l : List (Nat × AV)} {mem : List (Nat × Blk)} {a : Act} (h : Fits ⟨m0, w0, S, ds, K⟩ ⟨nt, l, [], mem, [(key, t)]⟩ a w) (hS : ∀ k, ¬ S k) (hc : Chg (fun x => ownB t.v = some x) w w') {v : AV} (hv : Ok m0 w0 v) : Ok (mG m0 mem [(key, t)]) w' v := by
 refine hv.mono fun b o u hcell hn => ?_
 have hlt := World.block_lt_of_cell? w0 _ hcell
 have hown : ownB t.v ≠ some b := by
  intro hb
  obtain ⟨_, xs, ho⟩ := h.gr key t (by simp [lookM])
  exact absurd hlt (Nat.not_lt.2 (ho.lt b hb).1)
 refine ⟨?_, ?_⟩
 ·have e1 := h.chg.block b hlt (hS b)
  have e2 := hc.block b (Nat.lt_of_lt_of_le hlt h.chg.size) hown
  unfold World.cell? at hcell ⊢
  rw [e2, e1]; exact hcell
 rintro (h1 | ⟨k, e, he, h1⟩ | ⟨k, t', ht, hb, _⟩)
 ·exact hn h1
 ·subst h1
  rcases (h.mem k e he).2.2 with h2 | h2
  ·exact absurd hlt (Nat.not_lt.2 h2)
  exact hS _ h2
 obtain ⟨_, xs, ho⟩ := h.gr k t' ht
 exact absurd hlt (Nat.not_lt.2 (ho.lt b hb).1)
theorem lmL_chg {bN : Nat} {NX : List (Lab × Lab)} {m m' : Nat → Nat → Prop} {w w' : World} (h : (lmK labAV bN NX).p m w) (he : w'.heap[bN]? = w.heap[bN]?) : (lmK labAV bN NX).p m' w' := by
 obtain ⟨D, hD⟩ := h
 exact ⟨D, mapW_heap hD.map he, hD.nd, hD.labs, hD.has, hD.size, hD.at_, fun p hp => zLab_ok _ _ _⟩
theorem recV_cells {m : Nat → Nat → Prop} {w : World} {x : RA} (h : Ok m w (recV x)) (l : Lab) (v : Int) : ∀ u ∈ rowC ⟨l, v, x⟩, u.one = true ∧ Ok m w u := by
 cases h with
 | agg _ h1 h2 =>
  intro u hu
  simp only [rowC, List.mem_cons, List.not_mem_nil, or_false] at hu
  rcases hu with rfl | rfl | rfl | rfl | rfl | rfl | rfl | rfl
  ·exact ⟨rfl, .int _ _⟩
  ·exact ⟨rfl, .int _ _⟩
  ·exact ⟨rfl, .int _ _⟩
  ·exact ⟨rfl, .int _ _⟩
  ·exact ⟨h1 _ (by simp [recC]), h2 _ (by simp [recC])⟩
  ·exact ⟨rfl, .int _ _⟩
  ·exact ⟨rfl, .int _ _⟩
  exact ⟨rfl, .int _ _⟩
def fixA (NX : Lab → Lab) (r : RowA) : RowA := if r.x.r.kd = 1 then ⟨r.lab, r.ver, ⟨r.x.A, r.x.c, { r.x.r with nx := NX r.lab }⟩⟩ else r
theorem fixA_abs (NX : Lab → Lab) (r : RowA) : (fixA NX r).abs = fixN NX r.abs := by
 unfold fixA fixN
 by_cases h : r.x.r.kd = 1
 ·rw [if_pos h, if_pos (show r.abs.r.kind = 1 from h)]; rfl
 rw [if_neg h, if_neg (show ¬ r.abs.r.kind = 1 from h)]
theorem build_s (A : Option Addr) (n c : Nat) (f : Nat → Itm) (hn : n ≤ 1000000) (hki : ∀ i, i < n → U64 (f i).key) (b : Int) : Spec Tryz.prog 18 [rowI A n c f, .int .i64 b] (fun y => .tup [rowsV (y.A 0) (bldR n f b).length (y.c 0) (rwAt y (bldR n f b)), .int .i64 (bldE n f b)]) := by
 intro m w hm hargs
 have hmx : maxLen = 9223372036854775807 := rfl
 have hok := hargs (rowI A n c f) (by simp)
 have hvs : ∀ i, i < n → (f i).val.size ≤ maxLen := fun i hi => by
  have := ok_cell hok hi (.str (f i).val) (by simp [itC])
  cases this; assumption
 have SO := conO_s A n c f hn
 have SS := srtI_s A n c f hn
 obtain ⟨od, hod⟩ := eqv (oddB n f)
 obtain ⟨sr, hsr⟩ := eqv (srtB n f)
 obtain ⟨du, hdu⟩ := eqv (dupB n f)
 rw [← hod] at SO
 rw [← hsr] at SS
 unfold rowI at hargs SO SS
 refine en 95 hm hargs Tryz.func18 fun B hB a0 hF => ?_
 refine wp_seq (rg hB TA_ok [0, 1] [] [] hF fun X0 a0 w1 hF => ?_)
 refine wp_seq (rg hB TA_ok [6, 0, 1] [] [] hF fun X1 a0 w1 hF => ?_)
 refine wp_seq (rg hB TA_ok [7, 6, 0, 1] [] [] hF fun X2 a0 w1 hF => ?_)
 refine wp_seq (wp_region_lit ?_)
 refine lpr 0 1 hB TA_ok [16, 7, 6, 0, 1] [] [] hF (fun X3 a0 w1 hF => ?_)
 refine man_raw rfl rfl rfl rfl rfl hF rfl rfl (fun _ _ => by kernel_rfl) _ (clone_own A n c f hn (hF.slot 16 rfl).2) ?_
 rintro v w2 ⟨A2, c2, rfl, hO2, hb2⟩
 have hF2 := (hF.below hb2).put (some 17) (fun t ht => by injection ht with ht; subst ht; exact Nat.le_of_ble_eq_true rfl) (.raw (.slice A2 n c2)) (fun _ => .raw _) _ fun _ => rfl
 have hcc := compact_c hO2 hb2.size hn hvs
 refine man_raw (R := fun v w' => ∃ A m c, v = .slice A m c ∧ decide (m < n) = du ∧ OldB w1.heap.size w2 w') rfl rfl rfl rfl rfl hF2 rfl rfl (fun _ _ => by kernel_rfl) (hcc.mono ?_) ?_
 ·rintro e w' ⟨A3, m3, c3, rfl, h1, h2, h3⟩
  exact ⟨_, rfl, A3, m3, c3, rfl, by rw [hdu]; exact h1, h3⟩
 rintro v w3 ⟨A3, m3, c3, rfl, hm3, hold⟩
 have hb3 : Below w1.heap.size w1 w3 := ⟨hold.os.trans hb2.os, hold.tape.trans hb2.tape, hold.output.trans hb2.output, hold.size, fun k hk => (hold.block k hk).trans (hb2.block k hk)⟩
 have hF3 := (hF.below hb3).put (some 17) (fun t ht => by injection ht with ht; subst ht; exact Nat.le_of_ble_eq_true rfl) (.raw (.slice A2 n c2)) (fun _ => .raw _) (.slice A2 n c2) fun _ => rfl
 have hF3 := hF3.put (some 18) (fun t ht => by injection ht with ht; subst ht; exact Nat.le_of_ble_eq_true rfl) (.raw (.slice A3 m3 c3)) (fun _ => .raw _) (.slice A3 m3 c3) fun _ => rfl
 refine man_val (v := .int .i64 (m3 : Int)) rfl rfl rfl hF3 (Nat.le_of_ble_eq_true rfl) ?_ (.int _ _) fun a0 hF => ?_
 ·have h18 := (hF3.slot 18 rfl).1
  have hu : Tryz.prog.underlying 24 = some (.slice 58) := by kernel_rfl
  have h18' := (val_ok hF3 (q := []) (fun _ h => by cases h) (x := .tmp 18) rfl).1
  have h18'' : Act.eval ((a0.put (some 17) (.slice A2 n c2)).put (some 18) (.slice A3 m3 c3)) (.tmp 18) = .slice A3 m3 c3 := h18'
  simp [execOp, resolve, invoke, builtin, Builtin.len_, h18'', AV.den, run_underlying hu, goInt]
 refine lnd 4 hB TA_ok [8, 7, 6, 0, 1] [] [] hF (fun X4 a0 w1 hF => ?_)
 have hF := hF.headS (v' := .bool (.v du)) (by subst hB; exact Sim.bool (by rw [← hm3]; show decide ((m3 : Int) < (n : Int)) = decide (m3 < n); rw [decide_eq_decide]; omega)) rfl
 have O1 := SO
 have O2 := SS
 refine wp_seq (wp_block (wp_seq (rg hB TA_ok [23, 0, 1] [] [(9, .r fun _ => .bool (.v od)), (14, .r fun _ => .bool (.v sr))] hF (fun X5 a0 w1 hF => ?_) (hob := ?hob))))
 case hob =>
  intro X; subst hB
  repeat (first | exact trivial | refine ⟨rfl, ?_⟩ | refine ⟨fun _ => rfl, ?_⟩ | refine ⟨fun _ => ⟨fun _ _ => by kernel_rfl, SO⟩, ?_⟩ | refine ⟨fun _ => ⟨fun _ _ => by kernel_rfl, SS⟩, ?_⟩)
 refine test_ok hF rfl (fun hbA hF => ?_) (fun hbA hF => ?_)
 ·have h9 : (if (if (if (if decide (b < 1) = true then true else decide (b > 16)) = true then true else od) = true then true else !sr) = true then true else du) = true := by subst hB; exact hbA
  have hE : bldE n f b = 1 := by
   unfold bldE
   rw [if_pos]
   rw [← hod, ← hsr, ← hdu]
   by_cases g1 : b < 1
   ·exact .inl g1
   by_cases g2 : b > 16
   ·exact .inr (.inl g2)
   cases od
   ·cases sr
    ·exact .inr (.inr (.inr (.inl rfl)))
    cases du
    ·simp [g1, g2] at h9
    exact .inr (.inr (.inr (.inr rfl)))
   exact .inr (.inr (.inl rfl))
  refine wp_seq (rg hB TA_ok [4, 5] [4] [] hF fun X6 a0 w1 hF => ?_)
  refine wp_ret (rsi hB TA_ok hF ⟨0, fun _ => none, fun _ => 0, fun _ => .empty⟩ (he := ?_))
  subst hB
  rw [show bldR n f b = [] by unfold bldR; rw [hE]; rfl, hE]
  exact Sim.tup ⟨sim_nils, zr, trivial⟩
 have hE0 : bldE n f b = if 500 < n then 2 else if (growT n f b).1 = true then 0 else 2 := by
  have h9 : (if (if (if (if decide (b < 1) = true then true else decide (b > 16)) = true then true else od) = true then true else !sr) = true then true else du) = false := by subst hB; exact hbA
  unfold bldE
  rw [if_neg]
  rw [← hod, ← hsr, ← hdu]
  rintro (g | g | g | g | g) <;> simp [g] at h9
 refine wp_seq (rg hB TA_ok [44, 0, 1] [] [] hF fun X6 a0 w1 hF => ?_)
 refine test_ok hF rfl (fun hbB hF => ?_) (fun hbB hF => ?_)
 ·have hbig : 500 < n := by
   have : (500 : Int) < (n : Int) := by subst hB; simpa [std, sC] using hbB
   omega
  rw [if_pos hbig] at hE0
  refine wp_seq (rg hB TA_ok [4, 5] [4] [] hF fun X7 a0 w1 hF => ?_)
  refine wp_ret (rsi hB TA_ok hF ⟨0, fun _ => none, fun _ => 0, fun _ => .empty⟩ (he := ?_))
  subst hB
  rw [show bldR n f b = [] by unfold bldR; rw [hE0]; rfl, hE0]
  exact Sim.tup ⟨sim_nils, zr, trivial⟩
 have hsml : ¬ 500 < n := by
  have : ¬ (500 : Int) < (n : Int) := by subst hB; simpa [std, sC] using hbB
  omega
 rw [if_neg hsml] at hE0
 refine wp_skip (wp_seq (wp_region_lit ?_))
 refine man_makeMap (k := 42) (e := 0) rfl rfl rfl rfl hF (Nat.le_of_ble_eq_true rfl) (lmR w1.heap.size []) (fun m w' _ _ hM => ⟨[], rfl, _, LmD.empty hM⟩) ?_
 obtain ⟨bT, hbT⟩ := eqv (w1.heap.size)
 rw [← hbT]
 intro a0 w1 hfresh hF
 have hbfr : w.heap.size ≤ bT := hfresh
 refine lnd 1 hB TA_ok [9, 0, 1] [] [] hF (fun X7 a0 w1 hF => ?_)
 refine wp_seq (wp_seq (wp_region_lit ?_))
 refine lpr 0 4 hB TA_ok [49, 50, 51, 52, 9] [] [] hF (fun X8 a0 w1 hF => ?_)
 have hGM := grow_m bT b 65 A n c f ⟨0, 0⟩ [] hn hki ⟨by decide, by decide⟩ (by decide) (by decide)
 obtain ⟨gp, hgp⟩ := eqv (growT n f b)
 rw [show growP b 65 (firsts f n) ⟨0, 0⟩ [] = gp from hgp.symm] at hGM
 simp only [rowI, labAV] at hGM
 refine man_callM rfl rfl rfl rfl hF rfl rfl (fun _ _ => by kernel_rfl) hGM (fun _ _ h => h) (fun b' hb' => by cases hb'; exact fun h => absurd h (Nat.not_lt.2 hbfr)) (zl) (fun e he => by cases he) rfl rfl (fun _ => lmR bT gp.2) (fun _ _ _ _ _ _ _ _ _ h => h) ?_
 intro y a0 w1 hF
 obtain ⟨gb, hgb⟩ := eqv (gp.1)
 rw [← hgb] at hF
 refine lnd 5 hB TA_ok [54, 9] [] [] hF (fun X9 a0 w1 hF => ?_)
 refine test_ok hF rfl (fun hbC hF => ?_) (fun hbC hF => ?_)
 ·have hgf : gb = false := by subst hB; cases gb <;> first | rfl | cases hbC
  have hE : bldE n f b = 2 := by rw [hE0, ← hgp, ← hgb, hgf]; rfl
  refine wp_seq (rg hB TA_ok [4, 5] [4] [] hF fun X10 a0 w1 hF => ?_)
  refine wp_ret (rsi hB TA_ok hF ⟨0, fun _ => none, fun _ => 0, fun _ => .empty⟩ (he := ?_))
  subst hB
  rw [show bldR n f b = [] by unfold bldR; rw [hE]; rfl, hE]
  exact Sim.tup ⟨sim_nils, zr, trivial⟩
 have hgt : gb = true := by subst hB; cases gb <;> first | rfl | cases hbC
 have hE : bldE n f b = 0 := by rw [hE0, ← hgp, ← hgb, hgt]; rfl
 have hR : bldR n f b = (bld0 n f b).map (fixN (nxP (leavesP (bld0 n f b)))) := by unfold bldR; rw [if_pos hE]
 have h0 : bld0 n f b = (sortE gp.2).map rwOf := by unfold bld0; rw [← hgp]
 rw [hE, hR]
 refine wp_skip ?_
 -- from here on: a stretch of its own
 obtain ⟨wi, hwi⟩ := eqv (w1)
 have hMi : Mem m w (fun _ => False) noK [] [] wi := by rw [hwi]; exact (hF.withK (K' := noK) trivial).bare
 obtain ⟨TA, hTA, D, hD⟩ := hF.kept
 have hFs := (seg_of hF).withK (K' := ldK recV D bT TA) (seg_K (K := ldK recV D bT TA) hD)
 rw [← hwi] at hFs hD ⊢
 obtain ⟨mS, hmS⟩ := eqv (mT m [] [])
 have hokT : ∀ p ∈ TA, Ok mS wi (recV p.2) := fun p hp => by rw [hmS]; exact hD.ok p hp
 have hrets : ∀ {fn : Func} {nt0 : Nat} {tm0 : List (Nat × AV)} {R : Ending → World → Prop}, True := fun {_ _ _ _} => trivial
 replace hF := hFs
 rw [← hmS] at hF
 have hlabs : ∀ p ∈ TA, LabOk p.1 := hD.labs
 have hnd := hD.nd
 have hmapT : ∃ es cl, wi.heap[bT]? = some (.map es cl) := by obtain ⟨es, cl, h, _⟩ := hD.map; exact ⟨es, cl, h⟩
 refine wp_seq (rg hB TA_ok [10, 9] [10] [] hF fun X10 a0 w1 hF => ?_)
 refine wp_seq (wp_seq (wp_region_lit ?_))
 refine lpr 0 1 hB TA_ok [55, 10] [10] [] hF (fun X11 a0 w1 hF => ?_)
 obtain ⟨rr, hrr⟩ := eqv (w1.heap.size)
 refine man_range rfl rfl rfl rfl hF (Nat.le_of_ble_eq_true rfl) rfl labK mapr_und hF.kept.map (rgK recV D bT rr TA (Maps.has D) (Maps.size D)) (fun m w' h1 h2 h3 => ⟨h1.keep h2, by rw [hrr]; exact h3⟩) ?_
 rw [← hrr]
 intro a0 w1 hfr hF
 refine wpList_nil ?_
 replace hF := hF.keep [10, 56] [10]
 have hbTr : bT ≠ rr := by
  obtain ⟨es, cl, h⟩ := hmapT
  have := lt_heap h
  omega
 have hF := hF.headS (v' := .sl (some 10) none 0 0 8 (fun t => rowC zRow)) (zq0) rfl
 refine wp_block (loop_any (ι := Nat × (Nat → RowA) × Option Addr × Nat × (Lit → Bool) × Nat) (fun p a w1 => Fits ⟨mS, wi, ats [], [], rgK recV D bT rr TA p.2.2.2.2.1 p.2.2.2.2.2⟩ ⟨95, [(10, .sl (some 10) p.2.2.1 p.1 p.2.2.2.1 8 (fun t => rowC (p.2.1 t))), (56, .raw (.pointer (some ⟨rr, 0, none⟩)))], [], [], [(10, ⟨p.2.2.1, p.1, p.2.2.2.1, 8, 46⟩)]⟩ a w1) (fun p => (∀ kl, p.2.2.2.2.1 kl = true → Maps.has D kl = true) ∧ (rwsA p.2.1 p.1 ++ (TA.filter fun q => p.2.2.2.2.1 (keyL q.1)).map fun q => (rwA q).abs).Perm (TA.map fun q => (rwA q).abs) ∧ ∀ t, t < p.1 → ∃ q ∈ TA, p.2.1 t = rwA q) (fun p => p.2.2.2.2.2) (0, fun _ => zRow, none, 0, Maps.has D, Maps.size D) ⟨fun _ h => h, by
  have : TA.filter (fun q => Maps.has D (keyL q.1)) = TA := List.filter_eq_self.2 fun q hq => (hD.has _).2 ⟨q, hq, rfl⟩
  simp only [this]
  exact List.Perm.refl _, fun t ht => absurd ht (Nat.not_lt_zero _)⟩ hF ?_)
 rintro ⟨k1, h, A1, c1, left, cnt⟩ ⟨hlft, hprm, hels⟩ a0 w1 hF
 dsimp only at hlft hprm hels hF
 have hTl : TA.length ≤ 2000 := by
  have := grow_len (b := b) 65 (firsts f n) ⟨0, 0⟩ [] (Nat.zero_le _)
  have e : gp.2 = (growP b 65 (firsts f n) ⟨0, 0⟩ []).2 := by rw [hgp]; rfl
  rw [← e, ← hTA, absT_len] at this
  exact this
 have hk1 : k1 ≤ TA.length := by
  have h9 := hprm.length_eq
  simp only [List.length_append, listA_len, List.length_map] at h9
  omega
 refine wp_seq (wp_region_lit ?_)
 refine man_next1 rfl rfl rfl rfl hF (Nat.le_of_ble_eq_true rfl) rfl labK hF.kept.2 (fun h => absurd h (Nat.not_lt.2 hfr)) (spK recV D bT rr TA left) (fun m h _ => ⟨h.1, fun h => by cases h⟩) (fun key v kl cnt' m w' h1 h2 h3 h4 => ⟨h1.1.keepB h2 (fun e => hbTr (by injection e with e; exact e.symm)), fun _ => ⟨h3, h4⟩⟩) ?_
 intro a0 w1 bb rest' key v kl cnt' hn0 hn1 hF
 refine lnd 1 hB TA_ok [58, 10, 56] [10] [] hF (fun X12 a0 w1 hF => ?_)
 refine wp_seq (test_ok hF rfl (fun hbD hF => ?_) (fun hbD hF => ?_))
 ·have hbb : bb = true := by subst hB; exact hbD
  obtain ⟨hnx1, hnx2, hnx3, hnx4⟩ := hn1 hbb
  replace hF := hF.withK (K' := etK recV D bT rr TA (fun x => left x && !x.sameKey kl) key v cnt') ⟨hF.kept.1, hF.kept.2 hbb⟩
  refine wp_skip (wp_block (wp_seq (wp_region_lit ?_)))
  obtain ⟨⟨q, el⟩, hp, hpk, hpkey, hpv⟩ := hF.kept.1.entry hnx1 (hlft _ hnx2) hnx3
  dsimp only at hpk hpkey hpv
  have hent := hF.kept.2.2
  rw [hpkey, hpv] at hent
  have hok := hF.kept.1.ok _ hp
  refine man_entry rfl rfl rfl rfl hF (Nat.le_of_ble_eq_true rfl) rfl hent (zLab_ok _ _ q) hok ?_
  intro a0 hF
  simp only [labAV] at hF
  replace hF := hF.withK (K' := rgK recV D bT rr TA (fun x => left x && !x.sameKey kl) cnt') ⟨hF.kept.1, hF.kept.2.1⟩
  refine lnd 1 hB TA_ok [11, 12, 10, 56] [11, 12, 10] [] hF (fun X13 a0 w1 hF => ?_)
  refine rg hB TA_ok [10, 56] [10] [] hF (fun X14 a0 w1 hF => ?_) (hob := ?hob2)
  case hob2 =>
   intro X; subst hB
   repeat (first | exact trivial | refine ⟨⟨rfl, rfl, rfl⟩, ?_⟩ | refine ⟨rfl, ?_⟩ | refine ⟨⟨show k1 + 1 ≤ maxLen by omega, show (k1 + 1) * _ ≤ _ by omega⟩, ?_⟩)
  obtain ⟨h2, hh2⟩ : ∃ x : Nat → RowA, x = fun t => if t = k1 then rwA (q, el) else h t := ⟨_, rfl⟩
  have hF := hF.headS (v' := .sl (some 10) ((X14 5).A 0) (B.nadd k1 1) ((X14 5).c 0) 8 (fun t => rowC (h2 t))) (Sim.resl rfl (fun t ht => by
   subst hB
   have ht2 : t < k1 + 1 := ht
   show appC k1 (fun t => rowC (h t)) (chunk 8 (rowC (rwA (q, el)))) t = _
   rw [hh2]
   unfold appC
   dsimp only
   split
   ·rw [if_neg (by omega)]
   have : t = k1 := by omega
   subst this
   rw [if_pos rfl]
   simp [chunk])) rfl
  refine ⟨(k1 + 1, h2, _, _, (fun x => left x && !x.sameKey kl), cnt'), ⟨fun x hx => ?_, ?_, fun t ht => ?_⟩, hnx4, by rw [show k1 + 1 = B.nadd k1 1 by subst hB; rfl]; exact hF⟩
  ·simp only [Bool.and_eq_true] at hx
   exact hlft _ hx.1
  ·have h9 := (fresh_left (left := left) hnd hlabs hp (by rw [hpk]; exact hnx2)).map fun q => (rwA q).abs
   rw [hpk] at h9
   have e9 : rwsA h2 (k1 + 1) = rwsA h k1 ++ [(rwA (q, el)).abs] := by
    show listA RowA.abs _ (k1 + 1) = listA RowA.abs h k1 ++ _
    rw [listA_succ, hh2]
    simp only [if_true]
    congr 1
    unfold listA
    apply List.map_congr_left
    intro t ht
    have h5 := List.mem_range.1 ht
    show RowA.abs (if t = k1 then rwA (q, el) else h t) = _
    rw [if_neg (by omega)]
   simp only
   rw [e9, List.append_assoc]
   refine List.Perm.trans (List.Perm.append_left _ ?_) hprm
   rw [List.map_cons] at h9
   exact h9.symm
  simp only at ht ⊢
  rw [hh2]
  by_cases he : t = k1
  ·exact ⟨_, hp, by simp [he]⟩
  simp only [if_neg he]; exact hels t (by omega)
 have hbb : bb = false := by subst hB; exact hbD
 have hall := hn0 hbb
 have hprm2 : (rwsA h k1).Perm (TA.map fun q => (rwA q).abs) := by
  have e9 : (TA.filter fun q => left (keyL q.1)) = [] := List.filter_eq_nil_iff.2 fun q _ => by rw [hall]; simp
  rw [e9] at hprm
  simpa using hprm
 replace hF := hF.withK (K' := noK) trivial
 refine wp_exit (wp_seq (wp_region_lit ?_))
 refine lpr 0 1 hB TA_ok [68, 10] [10] [] hF (fun X13 a0 w1 hF => ?_)
 have hO := gr_own hF (hF.slot 10 rfl).2
 refine man_sorted rfl rfl rfl rfl rfl hF rfl rfl (fun _ _ => by kernel_rfl) (fun w' => ∃ h' : Nat → RowA, ((List.range k1).map h').Perm ((List.range k1).map h) ∧ (∀ i j, i < j → j < k1 → labLt (h' j).lab (h' i).lab = false) ∧ Own w' wi.heap.size 46 8 (.slice A1 k1 c1) k1 (rowFlat (fun t => rowC (h' t)) k1)) ((sortRow_c hO (by omega)).mono ?_) ?_
 ·rintro e w2 ⟨he, h', g1, g2, g3, g4⟩
  exact ⟨he, ⟨h', g1, g2, g3⟩, g4⟩
 rintro w2 ⟨h', g1, g2, g3⟩ g4
 have hfin := build_fin hnd hprm2 g1 g2
 have hels' : ∀ i, i < k1 → ∃ q ∈ TA, h' i = rwA q := by
  intro i hi
  have hmem := g1.mem_iff.1 (List.mem_map.2 ⟨i, List.mem_range.2 hi, rfl⟩)
  obtain ⟨j, hj, hje⟩ := List.mem_map.1 hmem
  obtain ⟨q, hq, hqe⟩ := hels j (List.mem_range.1 hj)
  exact ⟨q, hq, by rw [← hje, hqe]⟩
 have hgrm : ∀ b', ownB (.slice A1 k1 c1) = some b' → ∀ o, o < k1 * 8 → ¬ mG mS [] [(10, ⟨A1, k1, c1, 8, 46⟩)] b' o := grown_free hF
 have hrow2 : Ok (mG mS [] [(10, ⟨A1, k1, c1, 8, 46⟩)]) w2 (.sl (some 10) A1 k1 c1 8 (fun t => rowC (h' t))) := own_known2 g3 (fun _ _ => rfl) hgrm (fun i hi => by
  obtain ⟨q, hq, e⟩ := hels' i hi
  rw [e]
  exact recV_cells (old_ok2 hF noAts g4 (hokT q hq)) _ _) _
 have hF := Fits.rowset (K' := noK) (l' := [(10, .sl (some 10) A1 k1 c1 8 (fun t => rowC (h' t)))]) hF g4 g3 (hl_cons ⟨(hF.slot 10 rfl).1, hrow2⟩ hl_nil) (fun k e he => by cases he) trivial
 have hF := (hF.put (some 69) (fun t ht => by injection ht with ht; subst ht; exact Nat.le_of_ble_eq_true rfl) (.tup []) (fun _ => .tup _ fun u hu => by cases hu) (.tuple #[]) fun _ => rfl)
 refine wpList_nil ?_
 replace hF := hF.keep [10] [10]
 have hk2000 : k1 ≤ 2000 := by omega
 obtain ⟨lv, hlv⟩ := eqv (leavesP (rwsA h' k1))
 have hlvl : lv.length ≤ k1 := by
  have := leaves_len (rwsA h' k1)
  rw [listA_len, ← hlv] at this
  exact this
 have hlvo := leaves_mem (l := rwsA h' k1) (p := LabOk) (fun x hx => by
  simp only [rwsA, listA, List.mem_map, List.mem_range] at hx
  obtain ⟨i, hi, rfl⟩ := hx
  obtain ⟨q, hq, e⟩ := hels' i hi
  rw [e]
  exact hlabs q hq)
 have SL := (leaves_s A1 k1 c1 h' (by omega)).args' (args := [.sl (some 10) A1 k1 c1 8 (fun t => rowC (h' t))]) ⟨Sim.resl rfl (fun t ht => rfl), trivial⟩
 rw [← hlv] at SL hlvo
 obtain ⟨lf, hlf⟩ := eqv (labF lv)
 obtain ⟨ln, hln⟩ := eqv (lv.length)
 rw [← hlf, ← hln] at SL hlvo
 rw [← hln] at hlvl
 obtain ⟨NX, hNX⟩ := eqv (nexA lf ln ln)
 have O1 := SL
 refine wp_seq (wp_region_lit ?_)
 refine lpr 0 2 hB TA_ok [71, 10] [10] [(1, .r fun y => labsV (y.A 0) ln (y.c 0) lf)] hF (fun X15 a0 w1 hF => ?_)
 refine man_callM rfl rfl rfl rfl hF rfl rfl (fun _ _ => by kernel_rfl) (nexts_m ((X15 1).A 0) ln ((X15 1).c 0) lf (by omega) hlvo) (fun _ _ h => h) (fun b hb => by cases hb) (zl) (fun e he => by cases he) rfl rfl (fun y => lmK labAV (y.c 0) NX) (fun _ _ _ _ _ _ _ _ _ h => by rw [hNX]; exact h.2) ?_
 intro y2 a0 w1 hF
 obtain ⟨bN, hbN⟩ := eqv (y2.c 0)
 rw [← hbN] at hF
 refine lnd 3 hB TA_ok [13, 10] [10] [] hF (fun X16 a0 w1 hF => ?_)
 obtain ⟨nx, hnx⟩ : ∃ x : Lab → Lab, x = fun q => (getA q NX).getD ⟨0, 0⟩ := ⟨_, rfl⟩
 have hnxP : nx = nxP lv := by
  funext q
  rw [hnx, hNX, hlf, hln]
  rfl
 refine wp_seq (wp_seq (rg hB TA_ok [75, 10, 73, 74, 13] [10] [] hF fun X17 a0 w1 hF => ?_))
 have hF0 := hF
 refine wp_block (loop_any (ι := Nat) (fun i a w1 => Fits ⟨mS, wi, ats [], [], lmK labAV bN NX⟩ ⟨95, [(75, .int .i64 (i : Int)), (10, .sl (some 10) A1 k1 c1 8 (fun t => rowC (if t < i then fixA nx (h' t) else h' t))), (73, .sl (some 10) A1 k1 c1 8 (fun t => rowC (if t < i then fixA nx (h' t) else h' t))), (74, .int .i64 (k1 : Int)), (13, .raw (.map (some bN)))], [], [], [(10, ⟨A1, k1, c1, 8, 46⟩)]⟩ a w1) (fun i => i ≤ k1) (fun i => k1 - i) 0 (Nat.zero_le _) (by subst hB; exact hF0) ?_)
 intro i hi a0 w1 hF
 obtain ⟨hc, hhc⟩ : ∃ x : Nat → RowA, x = fun t => if t < i then fixA nx (h' t) else h' t := ⟨_, rfl⟩
 have ehc : (fun t => rowC (if t < i then fixA nx (h' t) else h' t)) = fun t => rowC (hc t) := by rw [hhc]
 rw [ehc] at hF
 have hci : hc i = h' i := by rw [hhc]; simp
 refine wp_seq (rg hB TA_ok [76, 75, 10, 73, 74, 13] [10] [] hF fun X18 a0 w1 hF => ?_)
 refine wp_seq (test_ok hF rfl (fun hbE hF => ?_) (fun hbE hF => ?_))
 ·have hin : i < k1 := by
   have : (i : Int) < (k1 : Int) := by subst hB; simpa [std, sC] using hbE
   omega
  have eI : B.arith .add .i64 (i : Int) 1 = ((i + 1 : Nat) : Int) := by subst hB; exact wrap_succ (n := k1) hin (by omega)
  refine wp_skip (wp_seq (wp_block (wp_seq (rg hB TA_ok [14, 15, 75, 10, 73, 74, 13] [15, 10] [] hF (fun X19 a0 w1 hF => ?_) (hob := ?hob3)))))
  case hob3 =>
   intro X; subst hB
   repeat (first | exact trivial | refine ⟨rfl, ?_⟩ | refine ⟨(show (0 : Int) ≤ (i : Int) ∧ (i : Int) < (k1 : Int) by omega), ?_⟩)
  have hF := hF.memS (cells' := rowC (hc i)) (by subst hB; exact zl)
  refine wp_seq (rg hB TA_ok [83, 14, 15, 75, 10, 73, 74, 13] [15, 10] [] hF fun X20 a0 w1 hF => ?_)
  refine test_ok hF rfl (fun hbF hF => ?_) (fun hbF hF => ?_)
  ·have hk1' : (h' i).x.r.kd = 1 := by rw [← hci]; subst hB; simpa [std, sC] using hbF
   obtain ⟨nq, hnq⟩ := eqv (nx (hc i).lab)
   have hlq : LabOk (hc i).lab := by
    rw [hci]
    obtain ⟨q, hq, e⟩ := hels' i hin
    rw [e]
    exact hlabs q hq
   have ON := look_ff (K := lmK labAV bN NX) (el := labAV) (l := (hc i).lab) (fun m w h => h) hlq mapl_und zLab_run (fun m w => zLab_ok m w _) (v := labAV nq) (by rw [hnq, hnx])
   simp only [labAV] at ON
   refine wp_region_lit ?_
   refine lpr 0 9 hB TA_ok [92, 89, 75, 10, 73, 74, 13] [10] [(5, .r fun _ => .agg [.int .i64 nq.len, .int .u64 nq.bits])] hF (fun X21 a0 w1 hF => ?_) (hob := ?hob4)
   case hob4 =>
    intro X; subst hB
    repeat (first | exact trivial | refine ⟨rfl, ?_⟩ | refine ⟨ON, ?_⟩ | refine ⟨(show (0 : Int) ≤ (i : Int) ∧ (i : Int) < (k1 : Int) by omega), ?_⟩)
   have hF := hF.headS (v' := .ep A1 i 8 5 (rowC (hc i))) (by subst hB; exact zr) rfl
   have hrowk : Ok _ w1 (.sl (some 10) A1 k1 c1 8 (fun t => rowC (hc t))) := (hF.slot 10 rfl).2
   have hbNr : ownB (.slice A1 k1 c1) ≠ some bN := by
    intro e
    obtain ⟨_, xs, ho⟩ := hF.gr 10 ⟨A1, k1, c1, 8, 46⟩ rfl
    obtain ⟨c', t', f', hcl⟩ := ho.isCells e
    obtain ⟨es, cl, hm⟩ := lmK_map hF.kept
    rw [hm] at hcl; cases hcl
   have hKl := hF.kept
   refine man_rstore rfl rfl rfl rfl hF rfl rfl (.inr rfl) TA_ok rfl rfl hrowk (fun _ _ => rfl) hin (show 5 + 2 ≤ 8 from by decide) (fun w2 hO2 hc2 _ => ?_)
   obtain ⟨h2, hh2⟩ : ∃ x : Nat → RowA, x = fun t => if t < i + 1 then fixA nx (h' t) else h' t := ⟨_, rfl⟩
   have efl : wrC (fun t => rowC (hc t)) i 5 [.int .i64 nq.len, .int .u64 nq.bits] = fun t => rowC (h2 t) := by
    funext t
    rw [hh2]
    unfold wrC
    by_cases hti : t = i
    ·subst hti
     rw [if_pos rfl]
     show List.take 5 (rowC (hc t)) ++ [.int .i64 nq.len, .int .u64 nq.bits] ++ List.drop (5 + 2) (rowC (hc t)) = rowC (if t < t + 1 then fixA nx (h' t) else h' t)
     rw [if_pos (Nat.lt_succ_self t), hnq, hci]
     unfold fixA
     rw [if_pos hk1']
     rfl
    rw [if_neg hti, hhc]
    dsimp only
    by_cases ht2 : t < i
    ·rw [if_pos ht2, if_pos (by omega)]
    rw [if_neg ht2, if_neg (by omega)]
   have hO2 : Own w2 wi.heap.size 46 8 (.slice A1 k1 c1) k1 (rowFlat (fun t => rowC (h2 t)) k1) := by rw [← efl]; exact hO2
   have hgrm2 := grown_free hF
   have hrow2 : Ok (mG mS [] [(10, ⟨A1, k1, c1, 8, 46⟩)]) w2 (.sl (some 10) A1 k1 c1 8 (fun t => rowC (h2 t))) := own_known2 hO2 (fun _ _ => rfl) hgrm2 (fun j hj => by
    obtain ⟨q, hq, e⟩ := hels' j hj
    have h5 := old_ok2 hF noAts hc2 (hokT q hq)
    rw [hh2]
    dsimp only
    split
    ·rw [e]
     unfold fixA
     split
     ·have := recV_cells h5 (rwA q).lab (rwA q).ver
      intro u hu
      simp only [rowC, List.mem_cons, List.not_mem_nil, or_false] at hu
      rcases hu with rfl | rfl | rfl | rfl | rfl | rfl | rfl | rfl
      ·exact ⟨rfl, .int _ _⟩
      ·exact ⟨rfl, .int _ _⟩
      ·exact ⟨rfl, .int _ _⟩
      ·exact ⟨rfl, .int _ _⟩
      ·exact this _ (by simp [rowC, rwA])
      ·exact ⟨rfl, .int _ _⟩
      ·exact ⟨rfl, .int _ _⟩
      exact ⟨rfl, .int _ _⟩
     exact recV_cells h5 _ _
    rw [e]; exact recV_cells h5 _ _) _
   have hF := Fits.rowset (K' := lmK labAV bN NX) (l' := [(75, .int .i64 (i : Int)), (10, .sl (some 10) A1 k1 c1 8 (fun t => rowC (h2 t))), (73, .sl (some 10) A1 k1 c1 8 (fun t => rowC (h2 t))), (74, .int .i64 (k1 : Int)), (13, .raw (.map (some bN)))]) hF hc2 hO2 (hl_cons ⟨(hF.slot 75 rfl).1, .int _ _⟩ (hl_cons ⟨(hF.slot 10 rfl).1, hrow2⟩ (hl_cons ⟨(hF.slot 73 rfl).1, hrow2⟩ (hl_cons ⟨(hF.slot 74 rfl).1, .int _ _⟩ (hl_cons ⟨(hF.slot 13 rfl).1, .raw _⟩ hl_nil))))) (fun k e he => by cases he) (lmL_chg hKl (hc2.block bN (lmK_lt hKl) hbNr))
   refine wpList_nil ?_
   refine rg hB TA_ok [75, 10, 73, 74, 13] [10] [] hF fun X22 a0 w1 hF => ?_
   exact ⟨i + 1, by omega, by omega, by rw [← eI]; rw [hh2] at hF; exact hF⟩
  have hk1' : ¬ (h' i).x.r.kd = 1 := by rw [← hci]; subst hB; simpa [std, sC] using hbF
  refine wp_skip (rg hB TA_ok [75, 10, 73, 74, 13] [10] [] hF fun X21 a0 w1 hF => ?_)
  have e2 : hc = fun t => if t < i + 1 then fixA nx (h' t) else h' t := by
   funext t
   rw [hhc]
   dsimp only
   by_cases ht2 : t < i
   ·rw [if_pos ht2, if_pos (by omega)]
   rw [if_neg ht2]
   by_cases hti : t = i
   ·subst hti
    rw [if_pos (by omega)]
    unfold fixA
    rw [if_neg hk1']
   rw [if_neg (by omega)]
  exact ⟨i + 1, by omega, by omega, by rw [← eI]; rw [e2] at hF; exact hF⟩
 have hik : i = k1 := by
  have : ¬ (i : Int) < (k1 : Int) := by subst hB; simpa [std, sC] using hbE
  omega
 refine wp_exit (wp_seq (rg hB TA_ok [4, 5] [10] [] hF fun X19 a0 w1 hF => ?_))
 have hFf := seg_end hMi (by rw [← hmS]; exact hF.withK (K' := noK) trivial)
 have hRf : rwsA hc k1 = (bld0 n f b).map (fixN (nxP (leavesP (bld0 n f b)))) := by
  rw [h0, ← hTA, ← hfin, ← hlv, ← hnxP]
  show listA RowA.abs hc k1 = (listA RowA.abs h' k1).map (fixN nx)
  unfold listA
  rw [List.map_map]
  apply List.map_congr_left
  intro t ht
  have h5 := List.mem_range.1 ht
  rw [hhc]
  simp only [Function.comp]
  rw [if_pos (by omega), fixA_abs]
 refine wp_ret (rsi hB TA_ok hFf (rwY A1 c1 hc 0) (he := ?_))
 subst hB
 exact Sim.tup ⟨rws_sim hRf, zr, trivial⟩
end Go.Proofs.YtpgjalaldhlcoaaGreat.Sym
namespace Go.Proofs.YtpgjalaldhlcoaaGreat.Sym
open Go Go.ChangeShapes Go.WideShapes Go.ChangeAt Go.RowKit Go.Deep Cl
abbrev m0 : Nat → Nat → Prop := fun _ _ => False
theorem u64_wf {n : Int} (h : (Lit.int .u64 n).wf = true) : U64 n := by
 simp [Lit.wf, IntKind.min, IntKind.max, IntKind.signed, IntKind.bits] at h
 exact ⟨by omega, by omega⟩
def OkL (w : World) (l : List AV) : Prop := ∀ v ∈ l, v.one = true ∧ Ok m0 w v
theorem OkL.nil {w : World} : OkL w [] := fun v hv => by cases hv
theorem OkL.cons {w : World} {v : AV} {l : List AV} (h1 : v.one = true) (h2 : Ok m0 w v) (h : OkL w l) : OkL w (v :: l) := by
 intro u hu
 rcases List.mem_cons.1 hu with rfl | hu
 ·exact ⟨h1, h2⟩
 exact h u hu
theorem OkL.int {w : World} {k : IntKind} {x : Int} {l : List AV} (h : OkL w l) : OkL w (.int k x :: l) := .cons rfl (.int _ _) h
theorem OkL.bool {w : World} {b : BE} {l : List AV} (h : OkL w l) : OkL w (.bool b :: l) := .cons rfl (.bool _) h
theorem OkL.append {w : World} {l l' : List AV} (h : OkL w l) (h' : OkL w l') : OkL w (l ++ l') := by
 intro u hu
 rcases List.mem_append.1 hu with hu | hu
 ·exact h u hu
 exact h' u hu
theorem OkL.agg {w : World} {l : List AV} (h : OkL w l) : Ok m0 w (.agg l) := .agg _ (fun v hv => (h v hv).1) fun v hv => (h v hv).2
theorem LabOk.u64 {l : Lab} (h : LabOk l) : U64 l.bits := u64_wf h.2
section
variable {H : Type} {enc : TypeId × Value → H} {w : World} {base : Nat} {spare : Nat → Bool} {held : Bool}
theorem dec_itm (n : Nat) (cs : List Value) (y : DataW H × List MemPlace) (h : DataW.trod enc Tryz.prog w base spare held n 58 cs = some y) : ∃ x : Itm, cs = itmE x ∧ (x.val.size ≤ maxLen ∧ U64 x.key) := by
 obtain ⟨xs, m, rfl, rfl, hlen, hxl, hf⟩ := DataW.trod_struct Tryz.underlying58 h
 have hC : Tryz.prog.cellsOf 58 = 2 := by kernel_rfl
 have h0 : DataW.trod enc Tryz.prog w base spare held m 40 ((cs.drop 0).take (Tryz.prog.cellsOf 40)) = xs[0]? := hf 0 _ rfl
 have h1 : DataW.trod enc Tryz.prog w base spare held m 9 ((cs.drop 1).take (Tryz.prog.cellsOf 9)) = xs[1]? := hf 1 _ rfl
 rw [hC] at hlen
 rw [show Tryz.prog.cellsOf 40 = 1 by kernel_rfl] at h0
 rw [show Tryz.prog.cellsOf 9 = 1 by kernel_rfl] at h1
 match cs, hlen with
 | [c0, c1], _ =>
  match xs, hxl with
  | [y0, y1], _ =>
   obtain ⟨a, e0, _, wa⟩ := DataW.trod_int Tryz.underlying40 h0
   obtain ⟨s, e1, _, ws⟩ := DataW.trod_string Tryz.underlying9 h1
   simp at e0 e1
   subst e0; subst e1
   exact ⟨⟨a, s⟩, rfl, ws, u64_wf wa⟩
theorem dec_its (n : Nat) (cs : List Value) (y : DataW H × List MemPlace) (h : DataW.trod enc Tryz.prog w base spare held n 24 cs = some y) : ∃ (A : Option Addr) (c k : Nat) (f : Nat → Itm), cs = [(AV.sl none A k c 2 (fun i => itC (f i))).den] ∧ Ok m0 w (.sl none A k c 2 (fun i => itC (f i))) ∧ k ≤ maxLen ∧ ∀ t, t < k → U64 (f t).key := by
 obtain ⟨A, c, l, e1, hr, hl, hm, hwf⟩ := trod_list (en := itmE) Tryz.underlying24 (k := 2) (by kernel_rfl) itmE_len (by decide) dec_itm h
 have hrow : Ok m0 w (rowI A l.length c (itF l)) := rows_ok hl hm (fun x hx => (hwf x hx).1) fun hp => by
  obtain ⟨b, off, hA, _, hc⟩ := hr hp
  exact ⟨b, off, hA, fun j u hu => ⟨hc j u hu, id⟩⟩
 exact ⟨A, c, l.length, itF l, e1, hrow, by omega, fun t ht => by unfold itF; rw [List.getD_eq_getElem?_getD, List.getElem?_eq_getElem ht]; exact (hwf _ (List.getElem_mem ht)).2⟩
variable {r : Reach} {b0 : Nat} {v : Value} {d : DataW H} {p : List MemPlace}
def InIts (w : World) (v : Value) : Prop := ∃ (A : Option Addr) (n c : Nat) (f : Nat → Itm), v = (rowI A n c f).den ∧ Ok m0 w (rowI A n c f) ∧ n ≤ maxLen ∧ ∀ i, i < n → U64 (f i).key
def InI (v : Value) : Prop := ∃ n : Int, v = .int .i64 n ∧ (Lit.int .i64 n).wf = true
instance : Inhabited RowA := ⟨⟨⟨0, 0⟩, 0, zRA⟩⟩
theorem in_its (hv : Value.okWide Tryz.prog w r b0 24 v) (h : DataW.Trod enc Tryz.prog w base spare held 24 v d p) : InIts w v := by
 obtain ⟨a, len, cap, rfl⟩ := okWide_slice Tryz.underlying24 hv
 obtain ⟨fuel, hf⟩ := h
 obtain ⟨A, c, k, f, e1, hr, hm, hk⟩ := dec_its _ _ _ hf
 simp only [Value.cells, List.cons.injEq, and_true] at e1
 rw [e1]
 exact ⟨A, k, c, f, rfl, hr, hm, hk⟩
theorem in_i (hv : Value.okWide Tryz.prog w r b0 3 v) (h : DataW.Trod enc Tryz.prog w base spare held 3 v d p) : InI v := in_int Tryz.underlying3 hv h
end
end Go.Proofs.YtpgjalaldhlcoaaGreat.Sym
namespace Go.Proofs.YtpgjalaldhlcoaaGreat.Sym
open Go Go.RowKit
theorem less_s (a b : Lab) : Spec Tryz.prog 35 [labAV a, labAV b] (fun _ => .bool (.v (lessL a b))) := by
 intro m w hm hargs
 refine en 24 hm hargs Tryz.func35 fun B hB a0 hF => ?_
 refine wp_seq (rg hB TA_ok [2, 3] [2, 3] [] hF fun X0 a0 w1 hF => ?_)
 refine wp_seq (rg hB TA_ok [4] [] [] hF fun X1 a0 w1 hF => ?_)
 refine wp_ret ((rsi hB TA_ok hF nAt (he := ?_)))
 subst hB
 exact Sim.bool (by show (if decide (a.bits < b.bits) = true then true else (if (a.bits == b.bits) = true then decide (a.len < b.len) else false)) = lessL a b; rw [ite_or, ite_and]; rfl)
theorem rown_s (x : RA) (hn : x.r.n ≤ 1000000) : Spec Tryz.prog 65 [recV x] (fun y => recV ⟨y.A 0, y.c 0, x.r⟩) := by
 intro m w hm hargs
 have hmx : maxLen = 9223372036854775807 := rfl
 refine en 11 hm hargs Tryz.func65 fun B hB a0 hF => ?_
 refine wp_seq (rg hB TA_ok [1, 2] [1, 2] [] hF fun X0 a0 w1 hF => ?_)
 refine wp_seq (rg hB TA_ok [3, 1, 2] [1, 2, 3, 7] [] hF fun X1 a0 w1 hF => ?_)
 refine wp_seq (rg hB TA_ok [3, 1, 2] [1, 2, 3, 7] [] hF (hob := ?hob) fun X2 a0 w1 hF => ?_)
 case hob =>
  intro X
  subst hB
  repeat (first | exact trivial | refine ⟨⟨rfl, rfl, rfl⟩, ?_⟩ | refine ⟨rfl, ?_⟩ | refine ⟨⟨show 0 + x.r.n ≤ maxLen by omega, show (0 + x.r.n) * _ ≤ _ by omega⟩, ?_⟩)
 refine wp_seq (rg hB TA_ok [1, 2] [1, 2] [] hF fun X3 a0 w1 hF => ?_)
 refine wp_seq (rg hB TA_ok [2] [2] [] hF fun X4 a0 w1 hF => ?_)
 refine wp_ret ((rsi hB TA_ok hF (⟨0, fun _ => (X2 3).A 0, fun _ => (X2 3).c 0, fun _ => ⟨#[]⟩⟩) (he := ?_)))
 subst hB
 exact Sim.agg ⟨zr, Sim.resl (Nat.zero_add _) (fun t ht => by show appC 0 _ (fun t => itC (x.r.f t)) t = _; unfold appC; rw [if_neg (Nat.not_lt_zero _)]; rfl), zr, zr, zr, trivial⟩
theorem enters61 : Enters Tryz.prog 61 := fun _ _ => by kernel_rfl
theorem rat_x0 (b : Nat) (A : Option Addr) (n c : Nat) (g : Nat → SpA) (hn : n ≤ 100000) (wr : Int) (l : Lab) : SpecX Tryz.prog 61 [.ptr 0 b 0, labAV l] [(0, ⟨b, 90, [spsV A n c g, .int .i64 wr]⟩)] (fun _ => ⟨.tup [.int .i64 (posL l (shfA g n) : Nat), .bool (.v (hitL l (shfA g n)))], [(0, [spsV A n c g, .int .i64 wr])], []⟩) := by
 intro m w hm hargs hpre
 have hmx : maxLen = 9223372036854775807 := rfl
 have S := fun i => less_s (g i).w.lab l
 obtain ⟨ls, hls⟩ : ∃ h : Nat → Bool, ∀ i, h i = lessL (g i).w.lab l := ⟨_, fun _ => rfl⟩
 simp only [← hls, labAV] at S
 refine enX 50 hm hpre hargs Tryz.func61 fun B hB a0 hF => ?_
 refine wp_seq (rg hB TA_ok [3, 0] [0, 3] [] hF fun X0 a0 w1 hF => ?_)
 refine wp_seq (rg hB TA_ok [6, 0, 3] [0, 3] [] hF fun X1 a0 w1 hF => ?_)
 refine wp_seq (wp_block (loop_pre (ι := Nat) (fun p => [(6, .int .i64 (p : Int))]) (fun p => []) (fun p => []) (fun p => p ≤ n ∧ ∀ i, i < p → ls i = true) (fun p => n - p) 0 ⟨Nat.zero_le _, fun i hi => absurd hi (Nat.not_lt_zero _)⟩ hF ?_))
 rintro i ⟨hi, hlt⟩ a0 w1 hF
 try dsimp only at hi
 try dsimp only at hlt
 refine wp_seq (wp_seq ?_)
 refine drg hB TA_ok [26, 6, 0, 3] [0, 3] [(18, .r fun _ => .bool (.v (ls i)))] hF (hob := by intro X; subst hB; simp only [AO, Ob.holds, BE.den, List.mem_cons, List.not_mem_nil, or_false, forall_eq_or_imp, forall_eq] <;> and_intros <;> repeat first | trivial | rfl | exact ⟨Int.natCast_nonneg _, (of_decide_eq_true h)⟩ | exact S i | exact (fun _ _ => by kernel_rfl) | refine ⟨?_, ?_⟩ | intro h | exact Int.le_refl _ | decide | omega) fun X2 a0 w1 hF => ?_
 apply test_ok hF rfl <;> intro hb hF
 ·have h9 : (if decide ((i : Int) < (n : Int)) = true then ls i else false) = true := by subst hB; exact hb
  rw [ite_and, Bool.and_eq_true, decide_eq_true_eq] at h9
  have hin : i < n := by omega
  have hk := h9.2
  refine wp_skip (wp_block (rg hB TA_ok [6, 0, 3] [0, 3] [] hF fun X3 a0 w1 hF => ?_))
  have e : B.arith .add .i64 (i : Int) 1 = ((i + 1 : Nat) : Int) := by subst hB; exact wrap_succ (n := n) hin (by omega)
  refine ⟨i + 1, ⟨by omega, fun j hj => ?_⟩, by omega, by rw [← e]; exact hF⟩
  by_cases hij : j = i
  ·rw [hij]; exact hk
  exact hlt j (by omega)
 have h9 : (if decide ((i : Int) < (n : Int)) = true then ls i else false) = false := by subst hB; exact hb
 have hend : i < n → ls i = false := fun h => by
  rw [if_pos (by simpa using h)] at h9; exact h9
 have hpos : posL l (shfA g n) = i := posL_of (by rw [listA_len]; exact hi) (fun j q hj hq => by rw [listA_get _ _ (by omega)] at hq; injection hq with hq; subst hq; exact (hls j).symm.trans (hlt j hj)) (fun q hq => by have hlt2 := (List.getElem?_eq_some_iff.1 hq).1; rw [listA_len] at hlt2; rw [listA_get _ _ hlt2] at hq; injection hq with hq; subst hq; exact (hls i).symm.trans (hend hlt2))
 have hhit : hitL l (shfA g n) = (decide (i < n) && decide ((g i).w.lab = l)) := by
  unfold hitL; rw [hpos]
  by_cases h : i < n
  ·rw [listA_get _ _ h]; simp [h]; rfl
  rw [List.getElem?_eq_none (by rw [listA_len]; omega)]; simp [h]
 rw [hpos, hhit]
 refine wp_exit (wp_seq ?_)
 refine drg hB TA_ok [4, 5, 0] [0] [] hF (hob := by intro X; subst hB; simp only [AO, Ob.holds, BE.den, List.mem_cons, List.not_mem_nil, or_false, forall_eq_or_imp, forall_eq] <;> and_intros <;> repeat first | trivial | rfl | exact ⟨Int.natCast_nonneg _, (of_decide_eq_true h)⟩ | exact ob_lab (Kk := noK) _ _ _ _ | exact (fun _ _ => by kernel_rfl) | refine ⟨?_, ?_⟩ | intro h | exact Int.le_refl _ | decide | omega) fun X4 a0 w1 hF => ?_
 refine wp_ret ((rx hB TA_ok hF nAt [] (he := ?_) (hs := ?_)).1)
 ·subst hB; refine Sim.tup ⟨zr, Sim.bool ?_, trivial⟩
  show (if decide ((i : Int) < (n : Int)) = true then eqL [.int .i64 (g i).w.lab.len, .int .u64 (g i).w.lab.bits] [.int .i64 l.len, .int .u64 l.bits] else false) = _
  rw [ite_and, eqL_lab]
  by_cases h : i < n
  ·simp [h, canB, BE.den]
  simp [h, canB, BE.den]
 subst hB; exact ⟨rfl, ⟨_, rfl, zl⟩, trivial⟩
theorem rput_x0 (b : Nat) (A : Option Addr) (n c : Nat) (g : Nat → SpA) (hn : n ≤ 100000) (wr : Int) (x : SpA) : SpecX Tryz.prog 64 [.ptr 0 b 0, .agg (spC x)] [(0, ⟨b, 90, [spsV A n c g, .int .i64 wr]⟩)] (fun y => ⟨.tup [], [(0, [spsV (y.A 0) (putL x.w.lab ⟨x.w.ver, x.has, x.w.x.r.abs⟩ (shfA g n)).length (y.c 0) (spAt y (putL x.w.lab ⟨x.w.ver, x.has, x.w.x.r.abs⟩ (shfA g n))), .int .i64 wr])], []⟩) := by
 intro m w hm hargs hpre
 have hmx : maxLen = 9223372036854775807 := rfl
 have S := rat_x0 b A n c g hn wr x.w.lab
 simp only [labAV] at S
 have hpn : posL x.w.lab (shfA g n) ≤ n := by have := posL_le x.w.lab (shfA g n); rwa [listA_len] at this
 have hph : hitL x.w.lab (shfA g n) = true → posL x.w.lab (shfA g n) < n := fun h => by
  unfold hitL at h
  cases hg : (shfA g n)[posL x.w.lab (shfA g n)]? with
  | none => rw [hg] at h; cases h
  | some q => have := (List.getElem?_eq_some_iff.1 hg).1; rwa [listA_len] at this
 have hput := putG_put (g := g) (n := n) x rfl
 generalize posL x.w.lab (shfA g n) = p at S hpn hph hput
 generalize hitL x.w.lab (shfA g n) = hh at S hph hput
 obtain ⟨M, hM⟩ := eqv ((putL x.w.lab ⟨x.w.ver, x.has, x.w.x.r.abs⟩ (shfA g n)))
 rw [← hM] at hput ⊢
 obtain ⟨N, hN⟩ := eqv (n + 1 - (if hh then 1 else 0))
 obtain ⟨G, hG⟩ := eqv (putG g p x (if hh then 1 else 0))
 rw [← hN, ← hG] at hput
 refine enX 42 hm hpre hargs Tryz.func64 fun B hB a0 hF => ?_
 refine wp_seq (rg hB TA_ok [0, 3] [0, 3] [] hF fun X0 a0 w1 hF => ?_)
 refine wp_seq (rg hB TA_ok [4, 5, 0, 3] [0, 3] [(4, .x fun _ => ⟨.tup [.int .i64 (p : Int), .bool (.v hh)], [(0, [.sl none A n c 9 (fun i => spC (g i)), .int .i64 wr])], []⟩)] hF (hob := ?hob) fun X1 a0 w1 hF => ?_)
 case hob =>
  intro X
  subst hB; exact ⟨rfl, ⟨enters61, S⟩, trivial⟩
 refine wp_seq (rg hB TA_ok [6, 4, 5, 0, 3] [0, 3, 6] [] hF fun X2 a0 w1 hF => ?_)
 refine wp_seq (rg hB TA_ok [6, 4, 5, 0, 3] [0, 3, 6] [] hF (hob := ?hob) fun X3 a0 w1 hF => ?_)
 case hob =>
  intro X
  subst hB
  repeat (first | exact trivial | refine ⟨⟨rfl, rfl, rfl⟩, ?_⟩ | refine ⟨rfl, ?_⟩ | refine ⟨⟨show (0 : Int) ≤ 0 by omega, show (0 : Int) ≤ (p : Int) by omega, show (p : Int) ≤ (n : Int) by omega⟩, ?_⟩ | refine ⟨⟨show 0 + ((p : Int).toNat - (0 : Int).toNat) ≤ maxLen by omega, show (0 + ((p : Int).toNat - (0 : Int).toNat)) * _ ≤ _ by omega⟩, ?_⟩)
 replace hF := hF.headS (v' := .sl (some 6) ((X3 7).A 0) p ((X3 7).c 0) 9 (fun t => spC (g t))) (Sim.resl (by subst hB; show 0 + ((p : Int).toNat - (0 : Int).toNat) = p; omega) (fun t ht => by subst hB; show appC 0 _ (fromC 0 (fun t => spC (g t))) t = _; unfold appC fromC; rw [if_neg (Nat.not_lt_zero _), Nat.sub_zero, Nat.zero_add])) rfl
 replace hF := hF.regr (by subst hB; show 0 + ((p : Int).toNat - (0 : Int).toNat) = p; omega)
 refine wp_seq (rg hB TA_ok [6, 4, 5, 0] [0, 6] [] hF (hob := ?hob) fun X4 a0 w1 hF => ?_)
 case hob =>
  intro X
  subst hB
  repeat (first | exact trivial | refine ⟨⟨rfl, rfl, rfl⟩, ?_⟩ | refine ⟨rfl, ?_⟩ | refine ⟨⟨show p + 1 ≤ maxLen by omega, show (p + 1) * _ ≤ _ by omega⟩, ?_⟩)
 replace hF := hF.headS (v' := .sl (some 6) ((X4 3).A 0) (B.nadd p 1) ((X4 3).c 0) 9 (fun t => spC (putG g p x 0 t))) (Sim.resl rfl (fun t ht => by
  subst hB
  have ht2 : t < p + 1 := ht
  show appC p (fun t => spC (g t)) (chunk 9 (spC x)) t = _
  unfold appC putG
  split
  ·rfl
  have : t = p := by omega
  subst this
  simp [chunk])) rfl
 refine wp_seq (wp_seq (rg hB TA_ok [27, 4, 6, 0] [0, 6] [] hF fun X5 a0 w1 hF => ?_))
 refine cut_one (ι := Nat) (S0 := [(27, _), (4, _)]) (M0 := []) (G0 := []) (fun q => [(4, .int .i64 (q : Int))]) (fun q => []) (fun q => []) (fun q => q = p + (if hh then 1 else 0) ∧ q ≤ n) hF ?_ ?_
 ·apply test_ok hF rfl <;> intro hb hF
  ·have hh1 : hh = true := by simpa using hb
   have hpl := hph hh1
   refine rg hB TA_ok [4, 6, 0] [0, 6] [] hF fun X6 a0 w1 hF => ?_
   have e : B.arith .add .i64 (p : Int) 1 = ((p + 1 : Nat) : Int) := by subst hB; exact wrap_succ (n := n) hpl (by omega)
   exact ⟨p + 1, ⟨by rw [hh1]; rfl, by omega⟩, by rw [← e]; exact hF⟩
  have hh0 : hh = false := by simpa using hb
  exact wp_skip (⟨p, ⟨by rw [hh0]; rfl, hpn⟩, hF⟩)
 rintro q ⟨hq, hqn⟩ a0 w1 hF
 try dsimp only at hq
 try dsimp only at hqn
 refine wp_seq (rg hB TA_ok [6, 0] [0, 6] [] hF (hob := ?hob) fun X7 a0 w1 hF => ?_)
 case hob =>
  intro X
  subst hB
  repeat (first | exact trivial | refine ⟨⟨rfl, rfl, rfl⟩, ?_⟩ | refine ⟨rfl, ?_⟩ | refine ⟨⟨show (0 : Int) ≤ (q : Int) by omega, show (q : Int) ≤ (n : Int) by omega, Int.le_refl _⟩, ?_⟩ | refine ⟨⟨show p + 1 + (n - q) ≤ maxLen by omega, show (p + 1 + (n - q)) * _ ≤ _ by omega⟩, ?_⟩)
 replace hF := hF.headS (v' := .sl (some 6) ((X7 7).A 0) N ((X7 7).c 0) 9 (fun t => spC (G t))) (Sim.resl (by subst hB; show p + 1 + (n - q) = _; rw [hN]; subst hq; split <;> rename_i h5 <;> (try have := hph h5) <;> omega) (fun t ht => by
  subst hB
  rw [hG]
  show appC (p + 1) (fun t => spC (putG g p x 0 t)) (fromC q (fun t => spC (g t))) t = _
  unfold appC putG fromC
  by_cases h1 : t < p
  ·simp [h1, show t < p + 1 by omega]
  by_cases h2 : t = p
  ·simp [h2]
  rw [if_neg (show ¬ t < p + 1 by omega), if_neg h1, if_neg h2]
  show spC (g (q + (t - (p + 1)))) = _
  rw [show q + (t - (p + 1)) = t - 1 + (if hh then 1 else 0) by rw [hq]; omega])) rfl
 refine rg hB TA_ok [] [0] [] hF fun X8 a0 w1 hF => ?_
 refine (rx hB TA_ok hF (spY ((X7 7).A 0) ((X7 7).c 0) G none 0 0) [] (he := ?_) (hs := ?_)).2
 ·subst hB; exact zr
 subst hB; exact ⟨rfl, ⟨_, rfl, ⟨sps_sim hput, zr, trivial⟩⟩, trivial⟩
theorem Fits.swap {C : Cx} {nt i j : Nat} {u v : AV} {l : List (Nat × AV)} {mem : List (Nat × Blk)} {gr : List (Nat × Gr)} {a : Act} {w : World} (h : Fits C ⟨nt, (i, u) :: (j, v) :: l, [], mem, gr⟩ a w) (hne : i ≠ j := by decide) : Fits C ⟨nt, (j, v) :: (i, u) :: l, [], mem, gr⟩ a w :=
 h.alike ⟨rfl, fun k => by
  simp only [look_cons]
  by_cases h1 : i = k
  ·by_cases h2 : j = k
   ·exact absurd (h1.trans h2.symm) hne
   simp [h1, h2]
  simp [h1], fun _ => rfl, fun _ => rfl, fun _ => rfl⟩
theorem rrows_x0 (b : Nat) (A : Option Addr) (n c : Nat) (g : Nat → SpA) (hn : n ≤ 100000) (wr : Int) : SpecX Tryz.prog 51 [.ptr 0 b 0] [(0, ⟨b, 90, [spsV A n c g, .int .i64 wr]⟩)] (fun y => ⟨rowsV (y.A 0) (rowsL (shfA g n)).length (y.c 0) (rwAt y (rowsL (shfA g n))), [(0, [spsV A n c g, .int .i64 wr])], []⟩) := by
 intro m w hm hargs hpre
 have hmx : maxLen = 9223372036854775807 := rfl
 refine enX 34 hm hpre hargs Tryz.func51 fun B hB a0 hF => ?_
 refine wp_seq (rg hB TA_ok [0] [0] [] hF fun X0 a0 w1 hF => ?_)
 refine wp_seq (rg hB TA_ok [3, 0] [0, 3] [] hF fun X1 a0 w1 hF => ?_)
 refine wp_seq (wp_seq (rg hB TA_ok [3, 4, 0] [0, 3] [] hF fun X2 a0 w1 hF => ?_))
 replace hF := hF.headS (v' := .sl (some 3) none 0 0 8 (fun t => rowC zRow)) (zq0) rfl
 refine wp_block (loop_pre (ι := Nat × Nat × (Nat → RowA) × Option Addr × Nat) (fun p => [(3, .sl (some 3) p.2.2.2.1 p.2.1 p.2.2.2.2 8 (fun t => rowC (p.2.2.1 t))), (4, .int .i64 (p.1 : Int))]) (fun p => []) (fun p => [(3, ⟨p.2.2.2.1, p.2.1, p.2.2.2.2, 8, 46⟩)]) (fun p => p.1 ≤ n ∧ p.2.1 ≤ p.1 ∧ rwsA p.2.2.1 p.2.1 = rowsL (shfA g p.1)) (fun p => n - p.1) (0, 0, fun _ => zRow, none, 0) ⟨Nat.zero_le _, Nat.le_refl _, rfl⟩ hF ?_)
 rintro ⟨i, k, h, A1, c1⟩ ⟨hi, hk, hrw⟩ a0 w1 hF
 try dsimp only at hi
 try dsimp only at hk
 try dsimp only at hrw
 refine wp_seq (wp_seq (rg hB TA_ok [11, 3, 4, 0] [0, 3] [] hF fun X3 a0 w1 hF => ?_))
 apply test_ok hF rfl <;> intro hb hF
 ·have hin : i < n := by
   have : (i : Int) < (n : Int) := by subst hB; simpa [std, sC] using hb
   omega
  refine wp_skip (wp_seq (wp_block (wp_seq ?_)))
  refine rg hB TA_ok [21, 3, 4, 0] [0, 3] [] hF (hob := by intro X; subst hB; simp only [AO, Ob.holds, BE.den] <;> and_intros <;> repeat first | trivial | rfl | exact (show (0 : Int) ≤ (i : Int) by omega) | exact (show (i : Int) < (n : Int) by omega) | exact (fun _ _ => by kernel_rfl) | refine ⟨?_, ?_⟩ | intro h | exact Int.le_refl _ | decide | omega) fun X5 a0 w1 hF => ?_
  apply test_ok hF rfl <;> intro hb hF
  ·have hhas : (g i).has = true := by subst hB; exact hb
   refine rg hB TA_ok [3, 4, 0] [0, 3] [] hF (hob := ?hob) fun X6 a0 w1 hF => ?_
   case hob =>
    intro X
    subst hB
    repeat (first | exact trivial | refine ⟨⟨rfl, rfl, rfl⟩, ?_⟩ | refine ⟨rfl, ?_⟩ | refine ⟨⟨show (0 : Int) ≤ (i : Int) by omega, show (i : Int) < (n : Int) by omega⟩, ?_⟩ | refine ⟨⟨show k + 1 ≤ maxLen by omega, show (k + 1) * _ ≤ _ by omega⟩, ?_⟩)
   replace hF := hF.headS (v' := .sl (some 3) ((X6 10).A 0) (B.nadd k 1) ((X6 10).c 0) 8 (fun t => rowC (if t = k then (g i).w else h t))) (Sim.resl rfl (fun t ht => by
    subst hB
    have ht2 : t < k + 1 := ht
    show appC k (fun t => rowC (h t)) (chunk 8 (rowC (g i).w)) t = _
    unfold appC
    split
    ·rw [if_neg (by omega)]
    have : t = k := by omega
    subst this
    rw [if_pos rfl]
    simp [chunk])) rfl
   refine rg hB TA_ok [4, 3, 0] [0, 3] [] hF fun X4 a0 w1 hF => ?_
   have e : B.arith .add .i64 (i : Int) 1 = ((i + 1 : Nat) : Int) := by subst hB; exact wrap_succ (n := n) hin (by omega)
   refine ⟨(i + 1, k + 1, fun t => if t = k then (g i).w else h t, _, _), ⟨by simp only; omega, by simp only; omega, ?_⟩, by simp only; omega, by rw [← e, show k + 1 = B.nadd k 1 by subst hB; rfl]; exact hF.swap⟩
   simp only
   rw [rowsL_succ, if_pos hhas, ← hrw]
   show listA RowA.abs _ (k + 1) = listA RowA.abs h k ++ _
   rw [listA_succ]
   simp only [if_true]
   congr 1
   unfold listA
   apply List.map_congr_left
   intro t ht
   have h5 := List.mem_range.1 ht
   show RowA.abs (if t = k then (g i).w else h t) = _
   rw [if_neg (by omega)]
  have hhas : ¬ (g i).has = true := by subst hB; rw [show (g i).has = false from hb]; simp
  refine wp_skip (rg hB TA_ok [4, 3, 0] [0, 3] [] hF fun X4 a0 w1 hF => ?_)
  have e : B.arith .add .i64 (i : Int) 1 = ((i + 1 : Nat) : Int) := by subst hB; exact wrap_succ (n := n) hin (by omega)
  refine ⟨(i + 1, k, h, A1, c1), ⟨by simp only; omega, by simp only; omega, ?_⟩, by simp only; omega, by rw [← e]; exact hF.swap⟩
  simp only
  rw [rowsL_succ, if_neg hhas, List.append_nil]; exact hrw
 have hout : i = n := by
  have : ¬ (i : Int) < (n : Int) := by subst hB; simpa [std, sC] using hb
  omega
 refine wp_exit (wp_seq (rg hB TA_ok [2, 0] [0] [] hF fun X7 a0 w1 hF => ?_))
 refine wp_ret ((rx hB TA_ok hF (rwY A1 c1 h 0) [] (he := ?_) (hs := ?_)).1)
 ·subst hB; rw [hout] at hrw; exact rws_sim hrw
 exact ⟨rfl, ⟨_, rfl, zl⟩, trivial⟩
theorem rrows_x (k0 : Nat) (b : Nat) (A : Option Addr) (n c : Nat) (g : Nat → SpA) (hn : n ≤ 100000) (wr : Int) : SpecX Tryz.prog 51 [.ptr k0 b 0] [(k0, ⟨b, 90, [spsV A n c g, .int .i64 wr]⟩)] (fun y => ⟨rowsV (y.A 0) (rowsL (shfA g n)).length (y.c 0) (rwAt y (rowsL (shfA g n))), [(k0, [spsV A n c g, .int .i64 wr])], []⟩) :=
 (rrows_x0 b A n c g hn wr).re (by repeat (first | exact trivial | refine ⟨Sim.ptr, ?_⟩ | refine ⟨Sim.fn ⟨Sim.ptr, trivial⟩ trivial, ?_⟩ | refine ⟨Sim.fn trivial ⟨Sim.ptr, trivial⟩, ?_⟩ | refine ⟨zr, ?_⟩)) rfl (fun x => ⟨rfl, rfl, zr, rfl⟩)
theorem samerw_s (A : Option Addr) (n c : Nat) (f : Nat → RowA) (A2 : Option Addr) (n2 c2 : Nat) (f2 : Nat → RowA) (hn : n ≤ maxLen) : Spec Tryz.prog 20 [rowsV A n c f, rowsV A2 n2 c2 f2] (fun _ => .bool (.v (decide (rwsA f n = rwsA f2 n2)))) := by
 intro m w hm hargs
 have hmx : maxLen = 9223372036854775807 := rfl
 have hln := rows_len (hargs (rowsV A n c f) (by simp))
 refine en 55 hm hargs Tryz.func20 fun B hB a0 hF => ?_
 refine wp_seq (rg hB TA_ok [0, 1] [] [] hF fun X0 a0 w1 hF => ?_)
 refine wp_seq (wp_seq (rg hB TA_ok [10, 0, 1] [] [] hF fun X1 a0 w1 hF => ?_))
 apply test_ok hF rfl <;> intro hb hF
 ·have hne : n ≠ n2 := by
   have : ¬ (n : Int) = (n2 : Int) := by subst hB; simpa [std, sC] using hb
   omega
  refine wp_seq (rg hB TA_ok [4] [] [] hF fun X2 a0 w1 hF => ?_)
  refine wp_ret ((rsi hB TA_ok hF nAt (he := ?_)))
  subst hB
  refine Sim.bool ?_
  show false = decide _
  refine (decide_eq_false ?_).symm
  intro h
  have := congrArg List.length h
  rw [listA_len, listA_len] at this
  exact hne this
 have hnn : n = n2 := by
  have : (n : Int) = (n2 : Int) := by subst hB; simpa [std, sC] using hb
  omega
 refine wp_skip (wp_seq (wp_seq (rg hB TA_ok [5, 0, 1] [] [] hF fun X3 a0 w1 hF => ?_)))
 refine wp_block (loop_pre (ι := Nat) (fun p => [(5, .int .i64 (p : Int))]) (fun p => []) (fun p => []) (fun p => p ≤ n ∧ rwsA f p = rwsA f2 p) (fun p => n - p) 0 ⟨Nat.zero_le _, rfl⟩ hF ?_)
 rintro i ⟨hi, hall⟩ a0 w1 hF
 try dsimp only at hi
 try dsimp only at hall
 refine wp_seq (wp_seq (rg hB TA_ok [14, 5, 0, 1] [] [] hF fun X4 a0 w1 hF => ?_))
 apply test_ok hF rfl <;> intro hb hF
 ·have hin : i < n := by
   have : (i : Int) < (n : Int) := by subst hB; simpa [std, sC] using hb
   omega
  obtain ⟨q, hq⟩ := eqv (decide ((f i).x.r.abs = (f2 i).x.r.abs))
  have S := same_s (f i).x.A (f i).x.r.n (f i).x.c (f i).x.r.f (hln i hin) (f i).x.r.kd (f i).x.r.nx (f i).x.r.mrk (f2 i).x.A (f2 i).x.r.n (f2 i).x.c (f2 i).x.r.f (f2 i).x.r.kd (f2 i).x.r.nx (f2 i).x.r.mrk
  rw [sameR_abs, ← hq] at S
  simp only [recI, rowI] at S
  refine wp_skip (wp_seq (wp_block (wp_seq ?_)))
  refine drg hB TA_ok [54, 5, 0, 1] [] [(35, .r fun _ => .bool (.v q))] hF (hob := by intro X; subst hB; simp only [AO, Ob.holds, BE.den] <;> and_intros <;> repeat first | trivial | rfl | exact ob_lab (Kk := noK) _ _ _ _ | exact (show (0 : Int) ≤ (i : Int) by omega) | exact (show (i : Int) < (n : Int) by omega) | exact (show (i : Int) < (n2 : Int) by omega) | exact ⟨show (0 : Int) ≤ (i : Int) by omega, show (i : Int) < (n : Int) by omega⟩ | exact ⟨show (0 : Int) ≤ (i : Int) by omega, show (i : Int) < (n2 : Int) by omega⟩ | exact S | exact (fun _ _ => by kernel_rfl) | refine ⟨?_, ?_⟩ | intro h | exact Int.le_refl _ | decide | omega) fun X6 a0 w1 hF => ?_
  apply test_ok hF rfl <;> intro hb hF
  ·have h9 : (if (if (!eqL [.int .i64 (f i).lab.len, .int .u64 (f i).lab.bits] [.int .i64 (f2 i).lab.len, .int .u64 (f2 i).lab.bits]) = true then true else ((f i).ver != (f2 i).ver)) = true then true else !q) = true := by subst hB; exact hb
   rw [eqL_lab, ite_or, ite_or] at h9
   have hne : ¬ (f i).abs = (f2 i).abs := fun h => by
    have h1 : (f i).lab = (f2 i).lab := congrArg Rw.lab h
    have h2 : (f i).ver = (f2 i).ver := congrArg Rw.ver h
    have h3 : (f i).x.r.abs = (f2 i).x.r.abs := congrArg Rw.r h
    rw [hq, decide_eq_true h3, decide_eq_true h1, h2] at h9
    simp at h9
   refine wp_seq (rg hB TA_ok [4] [] [] hF fun X7 a0 w1 hF => ?_)
   refine wp_ret ((rsi hB TA_ok hF nAt (he := ?_)))
   subst hB
   refine Sim.bool ?_
   show false = decide _
   refine (decide_eq_false ?_).symm
   intro h
   have h1 := congrArg (fun l => l[i]?) h
   simp only [listA_get RowA.abs f hin, listA_get RowA.abs f2 (show i < n2 by omega)] at h1
   exact hne (Option.some.inj h1)
  have h9 : (if (if (!eqL [.int .i64 (f i).lab.len, .int .u64 (f i).lab.bits] [.int .i64 (f2 i).lab.len, .int .u64 (f2 i).lab.bits]) = true then true else ((f i).ver != (f2 i).ver)) = true then true else !q) = false := by subst hB; exact hb
  rw [eqL_lab, ite_or, ite_or, hq] at h9
  have heq : (f i).abs = (f2 i).abs := by
   simp only [Bool.or_eq_false_iff, Bool.not_eq_false', decide_eq_true_eq] at h9
   unfold RowA.abs
   rw [h9.1.1, h9.2, (by simpa using h9.1.2 : (f i).ver = (f2 i).ver)]
  refine wp_skip (rg hB TA_ok [5, 0, 1] [] [] hF fun X5 a0 w1 hF => ?_)
  have e : B.arith .add .i64 (i : Int) 1 = ((i + 1 : Nat) : Int) := by subst hB; exact wrap_succ (n := n) hin (by omega)
  refine ⟨i + 1, ⟨by omega, ?_⟩, by omega, by rw [← e]; exact hF⟩
  show listA RowA.abs f (i + 1) = listA RowA.abs f2 (i + 1)
  rw [listA_succ, listA_succ, heq]
  exact congrArg (· ++ _) hall
 have hout : i = n := by
  have : ¬ (i : Int) < (n : Int) := by subst hB; simpa [std, sC] using hb
  omega
 refine wp_exit (wp_seq (rg hB TA_ok [4] [] [] hF fun X8 a0 w1 hF => ?_))
 refine wp_ret ((rsi hB TA_ok hF nAt (he := ?_)))
 subst hB
 refine Sim.bool ?_
 show true = decide _
 refine (decide_eq_true ?_).symm
 rw [← hnn, ← hout]; exact hall
theorem rcov4_s (A : Option Addr) (n c : Nat) (f : Nat → Itm) (hn : n ≤ 1000000) (l : Lab) (hb0 : U64 l.bits) (hki : ∀ i, i < n → U64 (f i).key) : Spec Tryz.prog 57 [rowI A n c f, labAV l] (fun x => rowI (x.A 0) (covL l (firsts f n)).length (x.c 0) (itF (covL l (firsts f n)))) := by
 intro m w hm hargs
 have hmx : maxLen = 9223372036854775807 := rfl
 unfold rowI at hargs ⊢
 simp only [labAV] at hargs ⊢
 refine en 28 hm hargs Tryz.func57 fun B hB a0 hF => ?_
 refine wp_seq (rg hB TA_ok [3, 0] [3] [] hF fun X0 a0 w1 hF => ?_)
 refine wp_seq (rg hB TA_ok [5, 3, 0] [3, 5] [] hF fun X1 a0 w1 hF => ?_)
 refine wp_seq (wp_seq (rg hB TA_ok [5, 6, 0, 3] [3, 5] [] hF fun X2 a0 w1 hF => ?_))
 replace hF := hF.headS (v' := .sl (some 5) none 0 0 2 (fun t => itC zeroItm)) (zq0) rfl
 refine wp_block (loop_pre (ι := Nat × Nat × (Nat → Itm) × Option Addr × Nat) (fun p => [(5, .sl (some 5) p.2.2.2.1 p.2.1 p.2.2.2.2 2 (fun t => itC (p.2.2.1 t))), (6, .int .i64 (p.1 : Int))]) (fun p => []) (fun p => [(5, ⟨p.2.2.2.1, p.2.1, p.2.2.2.2, 2, 58⟩)]) (fun p => p.1 ≤ n ∧ p.2.1 ≤ p.1 ∧ firsts p.2.2.1 p.2.1 = covL l (firsts f p.1)) (fun p => n - p.1) (0, 0, fun _ => zeroItm, none, 0) ⟨Nat.zero_le _, Nat.le_refl _, rfl⟩ hF ?_)
 rintro ⟨i, q, g, A1, c1⟩ ⟨hi, hq, hg⟩ a0 w1 hF
 try dsimp only at hi
 try dsimp only at hq
 try dsimp only at hg
 refine wp_seq (wp_seq (rg hB TA_ok [10, 5, 6, 0, 3] [3, 5] [] hF fun X3 a0 w1 hF => ?_))
 apply test_ok hF rfl <;> intro hb hF
 ·have hin : i < n := by
   have : (i : Int) < (n : Int) := by subst hB; simpa [std, sC] using hb
   omega
  have S := rcov_s l hb0 (f i).key (hki i hin)
  simp only [labAV] at S
  obtain ⟨cq, hcq⟩ := eqv (coverB l (f i).key)
  rw [← hcq] at S
  refine wp_skip (wp_seq (wp_block (wp_seq (drg hB TA_ok [19, 5, 6, 0, 3] [3, 5] [(6, .r fun _ => .bool (.v cq))] hF (hob := ?hob) fun X5 a0 w1 hF => ?_))))
  case hob =>
   intro X
   subst hB
   repeat (first | exact trivial | refine ⟨rfl, ?_⟩ | refine ⟨(show (0 : Int) ≤ (i : Int) ∧ (i : Int) < (n : Int) by omega), ?_⟩ | refine ⟨⟨fun _ _ => by kernel_rfl, S⟩, ?_⟩)
  apply test_ok hF rfl <;> intro hb hF
  ·have hct : cq = true := hb
   rw [hct] at hcq
   refine rg hB TA_ok [5, 6, 0, 3] [3, 5] [] hF (hob := ?hob) fun X6 a0 w1 hF => ?_
   case hob =>
    intro X
    subst hB
    repeat (first | exact trivial | refine ⟨⟨rfl, rfl, rfl⟩, ?_⟩ | refine ⟨rfl, ?_⟩ | refine ⟨(show (0 : Int) ≤ (i : Int) ∧ (i : Int) < (n : Int) by omega), ?_⟩ | refine ⟨⟨show q + 1 ≤ maxLen by omega, show (q + 1) * _ ≤ _ by omega⟩, ?_⟩)
   replace hF := hF.headS (v' := .sl (some 5) ((X6 6).A 0) (B.nadd q 1) ((X6 6).c 0) 2 (fun t => itC (fSet g q (f i) t))) (Sim.resl rfl (fun t ht => by
    subst hB
    have ht2 : t < q + 1 := ht
    show appC q (fun t => itC (g t)) (chunk 2 [.int .u64 (f i).key, .str (f i).val]) t = _
    unfold appC fSet
    split
    ·rw [if_neg (by omega)]
    have : t = q := by omega
    subst this
    simp [chunk, itC])) rfl
   refine rg hB TA_ok [5, 6, 0, 3] [3, 5] [] hF fun X4 a0 w1 hF => ?_
   have e : B.arith .add .i64 (i : Int) 1 = ((i + 1 : Nat) : Int) := by subst hB; exact wrap_succ (n := n) hin (by omega)
   refine ⟨(i + 1, q + 1, fSet g q (f i), _, _), ⟨by simp only; omega, by simp only; omega, ?_⟩, by simp only; omega, by rw [← e, show q + 1 = B.nadd q 1 by subst hB; rfl]; exact hF⟩
   simp only
   rw [firsts_set, hg, cov_stp, if_pos hcq.symm]
  have hcf : cq = false := hb
  rw [hcf] at hcq
  refine wp_skip (rg hB TA_ok [5, 6, 0, 3] [3, 5] [] hF fun X4 a0 w1 hF => ?_)
  have e : B.arith .add .i64 (i : Int) 1 = ((i + 1 : Nat) : Int) := by subst hB; exact wrap_succ (n := n) hin (by omega)
  refine ⟨(i + 1, q, g, _, _), ⟨by simp only; omega, by simp only; omega, ?_⟩, by simp only; omega, by rw [← e]; exact hF⟩
  simp only
  rw [hg, cov_stp, if_neg (by rw [← hcq]; decide), List.append_nil]
 have hout : i = n := by
  have : ¬ (i : Int) < (n : Int) := by subst hB; simpa [std, sC] using hb
  omega
 rw [hout] at hg
 refine wp_exit (wp_seq (rg hB TA_ok [4] [5] [] hF fun X7 a0 w1 hF => ?_))
 refine wp_ret ((rsi hB TA_ok hF (⟨0, fun _ => A1, fun _ => c1, fun _ => ⟨#[]⟩⟩) (he := ?_)))
 subst hB
 exact Sim.resl (by rw [← hg, firsts_len]) (fun t ht => by rw [← hg, firsts_len] at ht; rw [← hg, firsts_get _ _ t ht])
theorem find_rev {l : List Rw} (h : (l.map (·.lab)).Nodup) (q : Lab) : l.reverse.find? (fun w => decide (w.lab = q)) = l.find? fun w => decide (w.lab = q) := by
 induction l with
 | nil => rfl
 | cons v l ih =>
  rw [List.map_cons, List.nodup_cons] at h
  rw [List.reverse_cons, List.find?_append, ih h.2, List.find?_cons]
  by_cases hv : v.lab = q
  ·subst hv
   rw [show l.find? (fun w => decide (w.lab = v.lab)) = none from by
    rw [List.find?_eq_none]
    intro w hw he
    exact h.1 (List.mem_map.2 ⟨w, hw, of_decide_eq_true he⟩)]
   simp
  simp [hv]
theorem treP_at {l : List Rw} (h : (l.map (·.lab)).Nodup) {w : Rw} (hw : w ∈ l) : treP l w.lab = some w.r := by
 unfold treP
 rw [find_rev h]
 induction l with
 | nil => cases hw
 | cons v l ih =>
  rw [List.map_cons, List.nodup_cons] at h
  rw [List.find?_cons]
  rcases List.mem_cons.1 hw with rfl | hw
  ·simp
  have hne : ¬ v.lab = w.lab := fun he => h.1 (List.mem_map.2 ⟨w, hw, he.symm⟩)
  simp only [decide_eq_false hne]
  exact ih h.2 hw
theorem nexA_get (g : Nat → Lab) (n : Nat) (hd : ∀ i j, i < n → j < n → g i = g j → i = j) : ∀ k, k ≤ n → ∀ i, i < k → getA (g i) (nexA g n k) = some (if i + 1 < n then g (i + 1) else noneL)
 | 0, _, i, hi => absurd hi (Nat.not_lt_zero _)
 | k + 1, hk, i, hi => by
  unfold nexA
  rw [getA_set]
  by_cases h : i = k
  ·subst h; rw [if_pos rfl]
  rw [if_neg (fun e => h (hd k i (by omega) (by omega) e).symm)]
  exact nexA_get g n hd k (by omega) i (by omega)
theorem labF_mem {l : List Lab} {q : Lab} (h : q ∈ l) : ∃ i, i < l.length ∧ labF l i = q := by
 obtain ⟨i, hi, he⟩ := List.mem_iff_getElem.1 h
 exact ⟨i, hi, by unfold labF; rw [List.getD_eq_getElem?_getD, List.getElem?_eq_getElem hi]; exact he⟩
theorem labF_inj {l : List Lab} (h : l.Nodup) : ∀ i j, i < l.length → j < l.length → labF l i = labF l j → i = j := by
 intro i j hi hj he
 unfold labF at he
 rw [List.getD_eq_getElem?_getD, List.getD_eq_getElem?_getD, List.getElem?_eq_getElem hi, List.getElem?_eq_getElem hj] at he
 have hp := List.pairwise_iff_getElem.1 h
 rcases Nat.lt_trichotomy i j with hij | hij | hij
 ·exact absurd he (hp i j hi hj hij)
 ·exact hij
 exact absurd he.symm (hp j i hj hi hij)
structure Und (q k : Lab) : Prop where
 is : isL k = true
 u : U64 k.bits
 len : q.len ≤ k.len
 cov : coverB q k.bits = true
theorem und_self {q : Lab} (hl : isL q = true) (hb : U64 q.bits) : Und q q := ⟨hl, hb, Int.le_refl _, cov_self hl hb⟩
theorem headN_le2 {v n m : Nat} (hnm : n ≤ m) : headN (headN v m) n = headN v n := by
 apply Nat.eq_of_testBit_eq
 intro i
 rw [testBit_head, testBit_head, testBit_head]
 by_cases h : 64 - n ≤ i
 ·rw [decide_eq_true h, decide_eq_true (show 64 - m ≤ i by omega)]; simp
 rw [decide_eq_false h]; simp
theorem cov_in {q k : Lab} (h : Und q k) (hq : isL q = true) {key : Int} (hc : coverB k key = true) : coverB q key = true := by
 obtain ⟨h0, h1, h2⟩ := lab_parts hq
 obtain ⟨g0, g1, g2⟩ := lab_parts h.is
 have hcv := h.cov
 unfold coverB at hc hcv ⊢
 simp only [Bool.and_eq_true, decide_eq_true_eq] at hc hcv ⊢
 refine ⟨hq, ?_⟩
 have e1 : headN key.toNat k.len.toNat = k.bits.toNat := by have := hc.2; omega
 have e2 : headN k.bits.toNat q.len.toNat = q.bits.toNat := by have := hcv.2; omega
 have e3 : headN (headN key.toNat k.len.toNat) q.len.toNat = headN key.toNat q.len.toNat := headN_le2 (by have := h.len; omega)
 rw [e1] at e3
 have := hcv.2
 omega
theorem und_kid {q k : Lab} (hq : isL q = true) (hb : U64 q.bits) (h64 : q.len ≠ 64) {b : Int} (h : Und (childL q b) k) : Und q k ∧ q.len < k.len := by
 have hlen : (childL q b).len = q.len + 1 := rfl
 have := h.len
 exact ⟨⟨h.is, h.u, by omega, cov_up hq hb h64 b h.cov⟩, by omega⟩
theorem und_ge {q k : Lab} (h : Und q k) : q.bits ≤ k.bits := by
 have hc := h.cov
 unfold coverB at hc
 simp only [Bool.and_eq_true, decide_eq_true_eq] at hc
 have h1 := headN_le k.bits.toNat q.len.toNat
 have h2 := hc.2
 have := h.u.1
 omega
theorem und_less {q k : Lab} (h : Und q k) (hlt : q.len < k.len) : lessL q k = true := by
 have := und_ge h
 unfold lessL
 simp only [Bool.or_eq_true, Bool.and_eq_true, decide_eq_true_eq]
 omega
theorem und_mid {q k0 k1 : Lab} (hq : isL q = true) (hb : U64 q.bits) (h64 : q.len ≠ 64) (h0 : Und (childL q 0) k0) (h1 : Und (childL q 1) k1) : k0.bits < k1.bits := by
 have c0 := (child_cov hq hb h64 h0.u (und_kid hq hb h64 h0).1.cov).1
 have c1 := (child_cov hq hb h64 h1.u (und_kid hq hb h64 h1).1.cov).2
 rw [h0.cov] at c0
 rw [h1.cov] at c1
 have a0 := of_decide_eq_true c0.symm
 have a1 := of_decide_eq_true c1.symm
 omega
def nodes (b : Int) : Nat → List Itm → Lab → List (Lab × Rec)
 | 0, _, _ => []
 | n + 1, l, q => if (l.length : Int) ≤ b ∨ q.len = 64 then [(q, leafR l)] else (q, innR) :: (nodes b n (covL (childL q 0) l) (childL q 0) ++ nodes b n (covL (childL q 1) l) (childL q 1))
structure Gro (n : Nat) (q : Lab) : Prop where
 is : isL q = true
 u : U64 q.bits
 fu : 65 ≤ n + q.len
theorem Gro.child {n : Nat} {q : Lab} (h : Gro (n + 1) q) (h64 : q.len ≠ 64) (b : Int) : Gro n (childL q b) :=
 ⟨child_isL h.is h.u h64 b, child_u h.is h.u h64 b, by have := h.fu; show 65 ≤ (n : Int) + (q.len + 1); omega⟩
theorem Gro.pos {q : Lab} (h : Gro 0 q) : False := by
 have := h.fu; have := (lab_parts h.is).2.1; omega
theorem nodes_und {b : Int} : ∀ {n : Nat} {l : List Itm} {q : Lab}, Gro n q → ∀ p ∈ nodes b n l q, Und q p.1
 | 0, l, q, h, p, hp => by cases hp
 | n + 1, l, q, h, p, hp => by
  unfold nodes at hp
  split at hp
  ·simp only [List.mem_cons, List.not_mem_nil, or_false] at hp
   subst hp; exact und_self h.is h.u
  rename_i hn
  have h64 : q.len ≠ 64 := fun e => hn (.inr e)
  rcases List.mem_cons.1 hp with rfl | hp
  ·exact und_self h.is h.u
  rcases List.mem_append.1 hp with hp | hp
  ·exact (und_kid h.is h.u h64 (nodes_und (h.child h64 0) p hp)).1
  exact (und_kid h.is h.u h64 (nodes_und (h.child h64 1) p hp)).1
theorem nodes_sorted {b : Int} : ∀ {n : Nat} {l : List Itm} {q : Lab}, Gro n q → (nodes b n l q).Pairwise fun x y => lessL x.1 y.1 = true
 | 0, l, q, h => .nil
 | n + 1, l, q, h => by
  unfold nodes
  split
  ·exact List.pairwise_singleton _ _
  rename_i hn
  have h64 : q.len ≠ 64 := fun e => hn (.inr e)
  refine List.pairwise_cons.2 ⟨fun p hp => ?_, List.pairwise_append.2 ⟨nodes_sorted (h.child h64 0), nodes_sorted (h.child h64 1), fun x hx y hy => ?_⟩⟩
  ·rcases List.mem_append.1 hp with hp | hp
   ·have := und_kid h.is h.u h64 (nodes_und (h.child h64 0) p hp)
    exact und_less this.1 this.2
   have := und_kid h.is h.u h64 (nodes_und (h.child h64 1) p hp)
   exact und_less this.1 this.2
  have := und_mid h.is h.u h64 (nodes_und (h.child h64 0) x hx) (nodes_und (h.child h64 1) y hy)
  unfold lessL
  rw [decide_eq_true this]; rfl
theorem nodes_dist {b : Int} {n : Nat} {l : List Itm} {q : Lab} (h : Gro n q) : ((nodes b n l q).map (·.1)).Nodup := by
 unfold List.Nodup
 rw [List.pairwise_map]
 exact (nodes_sorted h).imp fun h => less_ne h
theorem nodes_head {b : Int} {n : Nat} {l : List Itm} {q : Lab} : ∃ r, (q, r) ∈ nodes b (n + 1) l q := by
 unfold nodes
 split
 ·exact ⟨_, List.mem_singleton.2 rfl⟩
 exact ⟨_, List.mem_cons_self ..⟩
theorem setA_new {α : Type} {q : Lab} {x : α} : ∀ {T : List (Lab × α)}, q ∉ T.map (·.1) → setA q x T = T ++ [(q, x)]
 | [], _ => rfl
 | p :: T, h => by
  rw [List.map_cons, List.mem_cons, not_or] at h
  unfold setA
  rw [if_neg (fun e => h.1 e.symm), setA_new h.2]; rfl
theorem grow_nodes {b : Int} : ∀ {n : Nat} {l : List Itm} {q : Lab} {T : List (Lab × Rec)}, Gro n q → (∀ p ∈ nodes b n l q, p.1 ∉ T.map (·.1)) →
  if T.length + (nodes b n l q).length ≤ 2000 then growP b n l q T = (true, T ++ nodes b n l q) else (growP b n l q T).1 = false
 | 0, l, q, T, h, _ => h.pos.elim
 | n + 1, l, q, T, h, hT => by
  by_cases hfull : 2000 ≤ T.length
  ·obtain ⟨r, hr⟩ := nodes_head (b := b) (n := n) (l := l) (q := q)
   have := List.length_pos_of_mem hr
   rw [if_neg (by omega), grow_full hfull]
  by_cases h1 : (l.length : Int) ≤ b ∨ q.len = 64
  ·have hN : nodes b (n + 1) l q = [(q, leafR l)] := by unfold nodes; exact if_pos h1
   rw [hN] at hT ⊢
   rw [if_pos (by simp only [List.length_cons, List.length_nil]; omega), grow_leaf hfull h1, setA_new (hT _ (List.mem_singleton.2 rfl))]
  have h64 : q.len ≠ 64 := fun e => h1 (.inr e)
  have hce : chE q 0 = 0 := by unfold chE; rw [h.is]; simp [h64]
  have hcv : ∀ i : Nat, chV q (i : Nat) = childL q (i : Nat) := fun i => (ch_ok hce).2.2 _
  have hN : nodes b (n + 1) l q = (q, innR) :: (nodes b n (covL (childL q 0) l) (childL q 0) ++ nodes b n (covL (childL q 1) l) (childL q 1)) := by rw [nodes.eq_2]; exact if_neg h1
  obtain ⟨N0, hN0⟩ := eqv (nodes b n (covL (childL q 0) l) (childL q 0))
  obtain ⟨N1, hN1⟩ := eqv (nodes b n (covL (childL q 1) l) (childL q 1))
  have hsr := nodes_sorted (b := b) (l := l) h
  rw [hN, ← hN0, ← hN1] at hT hsr
  rw [hN, ← hN0, ← hN1]
  have hs1 := List.pairwise_cons.1 hsr
  have hs2 := List.pairwise_append.1 hs1.2
  have hT0 : gT b n l q T 0 = T ++ [(q, innR)] := setA_new (hT _ (List.mem_cons_self ..))
  have i0 := grow_nodes (b := b) (l := covL (childL q 0) l) (T := T ++ [(q, innR)]) (h.child h64 0) (by
   rw [← hN0]
   intro p hp hm
   rw [List.map_append, List.mem_append] at hm
   rcases hm with hm | hm
   ·exact hT p (List.mem_cons_of_mem _ (List.mem_append_left _ hp)) hm
   simp at hm
   exact less_ne (hs1.1 p (List.mem_append_left _ hp)) hm.symm)
  rw [← hN0] at i0
  rw [grow_in hfull h1 hce]
  have hB0 : gB b n l q T 0 = (growP b n (covL (childL q 0) l) (childL q 0) (T ++ [(q, innR)])).1 := by unfold gB; rw [hT0, hcv]; rfl
  have hT1 : gT b n l q T 1 = (growP b n (covL (childL q 0) l) (childL q 0) (T ++ [(q, innR)])).2 := by
   show (growP b n (covL (chV q ((0 : Nat) : Int)) l) (chV q ((0 : Nat) : Int)) (gT b n l q T 0)).2 = _
   rw [hT0, hcv]; rfl
  have hB1 : gB b n l q T 1 = (growP b n (covL (childL q 1) l) (childL q 1) (gT b n l q T 1)).1 := by unfold gB; rw [hcv]; rfl
  have hT2 : gT b n l q T 2 = (growP b n (covL (childL q 1) l) (childL q 1) (gT b n l q T 1)).2 := by
   show (growP b n (covL (chV q ((1 : Nat) : Int)) l) (chV q ((1 : Nat) : Int)) (gT b n l q T 1)).2 = _
   rw [hcv]; rfl
  simp only [List.length_append, List.length_cons, List.length_nil] at i0 ⊢
  by_cases hl0 : T.length + (0 + 1) + N0.length ≤ 2000
  ·rw [if_pos hl0] at i0
   rw [i0] at hB0 hT1
   rw [hB0, if_pos rfl, hB1, hT2, hT1]
   have i1 := grow_nodes (b := b) (l := covL (childL q 1) l) (T := T ++ [(q, innR)] ++ N0) (h.child h64 1) (by
    rw [← hN1]
    intro p hp hm
    rw [List.map_append, List.map_append, List.mem_append, List.mem_append] at hm
    rcases hm with (hm | hm) | hm
    ·exact hT p (List.mem_cons_of_mem _ (List.mem_append_right _ hp)) hm
    ·simp at hm
     exact less_ne (hs1.1 p (List.mem_append_right _ hp)) hm.symm
    obtain ⟨p0, hp0, he⟩ := List.mem_map.1 hm
    exact less_ne (hs2.2.2 p0 hp0 p hp) he)
   rw [← hN1] at i1
   simp only [List.length_append, List.length_cons, List.length_nil] at i1
   by_cases hl1 : T.length + (0 + 1) + N0.length + N1.length ≤ 2000
   ·rw [if_pos hl1] at i1
    rw [if_pos (by omega), i1]
    simp
   rw [if_neg hl1] at i1
   rw [if_neg (by omega), i1]
  rw [if_neg hl0] at i0
  rw [i0] at hB0
  rw [hB0, if_neg (by omega)]
  rfl
theorem cov_cov {q k : Lab} (h : Und q k) (hq : isL q = true) (l : List Itm) : covL k (covL q l) = covL k l := by
 unfold covL
 rw [List.filter_filter]
 congr 1
 funext x
 cases hc : coverB k x.key with
 | false => rfl
 | true => rw [cov_in h hq hc]; rfl
structure ItsOk (l : List Itm) : Prop where
 keys : ∀ x ∈ l, U64 x.key
 rises : l.Pairwise fun x y => x.key < y.key
theorem ItsOk.cov {l : List Itm} (h : ItsOk l) (q : Lab) : ItsOk (covL q l) :=
 ⟨fun x hx => h.keys x (List.mem_filter.1 hx).1, h.rises.sublist List.filter_sublist⟩
theorem split_rises {l : List Itm} (h : l.Pairwise fun x y => x.key < y.key) (m : Int) : (l.filter fun x => decide (x.key < m)) ++ (l.filter fun x => decide (m ≤ x.key)) = l := by
 induction l with
 | nil => rfl
 | cons x l ih =>
  have h' := List.pairwise_cons.1 h
  by_cases hx : x.key < m
  ·rw [List.filter_cons, if_pos (by simpa using hx), List.filter_cons, if_neg (by simp; omega), List.cons_append, ih h'.2]
  have h1 : (x :: l).filter (fun x => decide (x.key < m)) = [] := by
   rw [List.filter_eq_nil_iff]
   intro y hy
   rcases List.mem_cons.1 hy with rfl | hy
   ·simpa using hx
   have := h'.1 y hy; simp; omega
  have h2 : (x :: l).filter (fun x => decide (m ≤ x.key)) = x :: l := by
   rw [List.filter_eq_self]
   intro y hy
   rcases List.mem_cons.1 hy with rfl | hy
   ·simp; omega
   have := h'.1 y hy; simp; omega
  rw [h1, h2]; rfl
theorem cov_two {q : Lab} (hq : isL q = true) (hb : U64 q.bits) (h64 : q.len ≠ 64) {l : List Itm} (h : ItsOk l) : covL (childL q 0) l ++ covL (childL q 1) l = covL q l := by
 have e : ∀ b, covL (childL q b) l = covL (childL q b) (covL q l) := fun b => (cov_cov (und_kid hq hb h64 (und_self (child_isL hq hb h64 b) (child_u hq hb h64 b))).1 hq l).symm
 have hk := h.cov q
 have h0 : covL (childL q 0) (covL q l) = (covL q l).filter fun x => decide (x.key < (childL q 1).bits) := List.filter_congr fun x hx => (child_cov hq hb h64 (hk.keys x hx) (List.mem_filter.1 hx).2).1
 have h1 : covL (childL q 1) (covL q l) = (covL q l).filter fun x => decide ((childL q 1).bits ≤ x.key) := List.filter_congr fun x hx => (child_cov hq hb h64 (hk.keys x hx) (List.mem_filter.1 hx).2).2
 rw [e, e, h0, h1, split_rises hk.rises]
theorem cov_root {l : List Itm} (h : ∀ x ∈ l, U64 x.key) : covL ⟨0, 0⟩ l = l := by
 unfold covL
 rw [List.filter_eq_self]
 intro x hx
 have := (h x hx).1
 have hu := u64_lt (h x hx)
 unfold coverB
 rw [show isL ⟨0, 0⟩ = true from by decide, Bool.true_and]
 refine decide_eq_true ?_
 show ((headN x.key.toNat 0 : Nat) : Int) = 0
 unfold headN
 rw [Nat.div_eq_of_lt (by simpa using hu)]
 simp
theorem cov_deep {q : Lab} (hq : isL q = true) (h64 : q.len = 64) {l : List Itm} (h : ItsOk l) : (covL q l).length ≤ 1 := by
 have hk := h.cov q
 have key : ∀ x ∈ covL q l, x.key = q.bits := fun x hx => by
  have hc := (List.mem_filter.1 hx).2
  have hu := (hk.keys x hx).1
  unfold coverB at hc
  simp only [Bool.and_eq_true, decide_eq_true_eq] at hc
  have h2 := hc.2
  rw [h64] at h2
  have h3 : ((headN x.key.toNat 64 : Nat) : Int) = q.bits := h2
  unfold headN at h3
  simp at h3
  omega
 match hl : covL q l with
 | [] => simp
 | [x] => simp
 | x :: y :: r =>
  rw [hl] at key hk
  have h1 := (List.pairwise_cons.1 hk.rises).1 y (by simp)
  have := key x (by simp)
  have := key y (by simp)
  omega
theorem nodes_row {b : Int} {L : List Itm} : ∀ {n : Nat} {l : List Itm} {q : Lab}, Gro n q → l = covL q L → ∀ p ∈ nodes b n l q,
  (p.2 = leafR (covL p.1 L) ∧ (((covL p.1 L).length : Int) ≤ b ∨ p.1.len = 64)) ∨ (p.2 = innR ∧ ¬ ((covL p.1 L).length : Int) ≤ b ∧ p.1.len ≠ 64 ∧ (∃ r, (childL p.1 0, r) ∈ nodes b n l q) ∧ ∃ r, (childL p.1 1, r) ∈ nodes b n l q)
 | 0, l, q, h, _, p, hp => by cases hp
 | n + 1, l, q, h, hl, p, hp => by
  have hne : ∀ {k : Nat}, k + 1 ≤ n + 1 → True := fun _ => trivial
  unfold nodes at hp ⊢
  split at hp
  ·rename_i h1
   simp only [List.mem_cons, List.not_mem_nil, or_false] at hp
   subst hp
   rw [← hl]
   exact .inl ⟨rfl, h1⟩
  rename_i h1
  rw [if_neg h1]
  have h64 : q.len ≠ 64 := fun e => h1 (.inr e)
  have g0 := h.child h64 0
  have g1 := h.child h64 1
  have hcc : ∀ b', covL (childL q b') l = covL (childL q b') L := fun b' => by
   rw [hl]; exact cov_cov (und_kid h.is h.u h64 (und_self (child_isL h.is h.u h64 b') (child_u h.is h.u h64 b'))).1 h.is L
  have hn : ∃ m, n = m + 1 := by
   cases n with
   | zero => exact (g0.pos).elim
   | succ m => exact ⟨m, rfl⟩
  obtain ⟨m, rfl⟩ := hn
  rcases List.mem_cons.1 hp with rfl | hp
  ·refine .inr ⟨rfl, ?_, h64, ?_, ?_⟩
   ·show ¬ ((covL q L).length : Int) ≤ b
    rw [← hl]; exact fun h2 => h1 (.inl h2)
   ·obtain ⟨r, hr⟩ := nodes_head (b := b) (n := m) (l := covL (childL q 0) l) (q := childL q 0)
    exact ⟨r, List.mem_cons_of_mem _ (List.mem_append_left _ hr)⟩
   obtain ⟨r, hr⟩ := nodes_head (b := b) (n := m) (l := covL (childL q 1) l) (q := childL q 1)
   exact ⟨r, List.mem_cons_of_mem _ (List.mem_append_right _ hr)⟩
  rcases List.mem_append.1 hp with hp | hp
  ·rcases nodes_row g0 (hcc 0) p hp with h2 | ⟨h2, h3, h4, ⟨r0, h5⟩, ⟨r1, h6⟩⟩
   ·exact .inl h2
   exact .inr ⟨h2, h3, h4, ⟨r0, List.mem_cons_of_mem _ (List.mem_append_left _ h5)⟩, ⟨r1, List.mem_cons_of_mem _ (List.mem_append_left _ h6)⟩⟩
  rcases nodes_row g1 (hcc 1) p hp with h2 | ⟨h2, h3, h4, ⟨r0, h5⟩, ⟨r1, h6⟩⟩
  ·exact .inl h2
  exact .inr ⟨h2, h3, h4, ⟨r0, List.mem_cons_of_mem _ (List.mem_append_right _ h5)⟩, ⟨r1, List.mem_cons_of_mem _ (List.mem_append_right _ h6)⟩⟩
theorem gro_root : Gro 65 ⟨0, 0⟩ := ⟨by decide, ⟨by decide, by decide⟩, by decide⟩
structure Blt (b : Int) (L : List Itm) (R : List Rw) : Prop where
 ok : ItsOk L
 vals : ∀ x ∈ L, x.val.size ≤ 64
 b1 : 1 ≤ b
 b16 : b ≤ 16
 len : (nodes b 65 L ⟨0, 0⟩).length ≤ 2000
 rows : R = ((nodes b 65 L ⟨0, 0⟩).map rwOf).map (fixN (nxP (leavesP ((nodes b 65 L ⟨0, 0⟩).map rwOf))))
theorem srt_pair {n : Nat} {f : Nat → Itm} (hs : srtB n f = true) (hd : dupB n f = false) : (firsts f n).Pairwise fun x y => x.key < y.key := by
 have step : ∀ t, t + 1 < n → (f t).key < (f (t + 1)).key := fun t ht => by
  have h1 := List.all_eq_true.1 hs t (List.mem_range.2 (by omega))
  have h2 := List.any_eq_false.1 hd t (List.mem_range.2 (by omega))
  have h1 : ¬ (f (t + 1)).key < (f t).key := of_decide_eq_true h1
  have h2 : ¬ (f (t + 1)).key = (f t).key := by simpa using h2
  omega
 have far : ∀ d t, t + d + 1 < n → (f t).key < (f (t + d + 1)).key := fun d => by
  induction d with
  | zero => exact fun t ht => step t ht
  | succ d ih =>
   intro t ht
   have h1 := ih t (by omega)
   have h2 := step (t + d + 1) (by omega)
   rw [show t + (d + 1) + 1 = t + d + 1 + 1 by omega]
   omega
 unfold firsts
 rw [List.pairwise_map]
 refine List.Pairwise.imp_of_mem ?_ (List.pairwise_lt_range (n := n))
 intro i j hi hj hij
 have hj := List.mem_range.1 hj
 have := far (j - i - 1) i (by omega)
 rw [show i + (j - i - 1) + 1 = j by omega] at this
 exact this
theorem sortE_id {N : List (Lab × Rec)} (h : N.Pairwise fun x y => lessL x.1 y.1 = true) : sortE N = N := by
 refine List.Perm.eq_of_pairwise (le := leE) (fun a b ha hb h1 h2 => ?_) (sortE_sorted N) (h.imp fun h => less_le h) (sortE_perm N)
 have e : a.1 = b.1 := leL_anti h1 h2
 have ha := (sortE_perm N).mem_iff.1 ha
 have hnd : (N.map (·.1)).Nodup := by
  unfold List.Nodup
  rw [List.pairwise_map]
  exact h.imp fun h => less_ne h
 have g1 := mem_getA hnd ha
 have g2 := mem_getA hnd hb
 rw [e, g2] at g1
 injection g1 with g1
 exact Prod.ext e g1.symm
theorem bld_yes {n : Nat} {f : Nat → Itm} {b : Int} (hk : ∀ i, i < n → U64 (f i).key) (h : bldE n f b = 0) : Blt b (firsts f n) (bldR n f b) := by
 have hR : bldR n f b = (bld0 n f b).map (fixN (nxP (leavesP (bld0 n f b)))) := by unfold bldR; rw [if_pos h]
 unfold bldE at h
 split at h
 ·cases h
 rename_i h1
 split at h
 ·cases h
 split at h
 ·rename_i hg
  simp only [not_or, Bool.not_eq_true, Bool.not_eq_false] at h1
  obtain ⟨g1, g2, g3, g4, g5⟩ := h1
  have hgn := grow_nodes (b := b) (n := 65) (l := firsts f n) (q := ⟨0, 0⟩) (T := []) gro_root (by simp)
  have hlen : (nodes b 65 (firsts f n) ⟨0, 0⟩).length ≤ 2000 := by
   by_cases hl : ([] : List (Lab × Rec)).length + (nodes b 65 (firsts f n) ⟨0, 0⟩).length ≤ 2000
   ·simpa using hl
   rw [if_neg hl] at hgn
   unfold growT at hg
   rw [hgn] at hg; cases hg
  rw [if_pos (by simpa using hlen)] at hgn
  have hb0 : bld0 n f b = (nodes b 65 (firsts f n) ⟨0, 0⟩).map rwOf := by
   unfold bld0 growT
   rw [hgn, List.nil_append, sortE_id (nodes_sorted gro_root)]
  refine ⟨⟨firsts_mem hk, srt_pair g4 g5⟩, ?_, by omega, by omega, hlen, by rw [hR, hb0]⟩
  intro x hx
  unfold firsts at hx
  obtain ⟨i, hi, rfl⟩ := List.mem_map.1 hx
  have := List.any_eq_false.1 g3 i hi
  simpa using this
 cases h
theorem bld_no {n : Nat} {f : Nat → Itm} {b : Int} (h : bldE n f b ≠ 0) : bldR n f b = [] := by unfold bldR; rw [if_neg h]
abbrev nodR (b : Int) (L : List Itm) : List (Lab × Rec) := nodes b 65 L ⟨0, 0⟩
abbrev lvR (b : Int) (L : List Itm) : List Lab := leavesP ((nodR b L).map rwOf)
def recR (NX : Lab → Lab) (p : Lab × Rec) : Rec := if p.2.kind = 1 then { p.2 with next := NX p.1 } else p.2
def rowR (NX : Lab → Lab) (p : Lab × Rec) : Rw := ⟨p.1, 1, recR NX p⟩
theorem fix_row (NX : Lab → Lab) (p : Lab × Rec) : fixN NX (rwOf p) = rowR NX p := by
 unfold fixN rowR recR rwOf
 split <;> rfl
theorem recR_kind (NX : Lab → Lab) (p : Lab × Rec) : (recR NX p).kind = p.2.kind := by unfold recR; split <;> rfl
theorem recR_items (NX : Lab → Lab) (p : Lab × Rec) : (recR NX p).items = p.2.items := by unfold recR; split <;> rfl
section
variable {b : Int} {L : List Itm} {R : List Rw}
theorem Blt.rows' (h : Blt b L R) : R = (nodR b L).map (rowR (nxP (lvR b L))) := by
 rw [h.rows, List.map_map]
 exact List.map_congr_left fun p _ => fix_row _ p
theorem Blt.labs (h : Blt b L R) : R.map (·.lab) = (nodR b L).map (·.1) := by
 rw [h.rows', List.map_map]; rfl
theorem Blt.dist (h : Blt b L R) : (R.map (·.lab)).Nodup := by
 rw [h.labs]; exact nodes_dist gro_root
theorem Blt.mem (h : Blt b L R) {w : Rw} : w ∈ R ↔ ∃ p ∈ nodR b L, w = rowR (nxP (lvR b L)) p := by
 rw [h.rows', List.mem_map]
 exact ⟨fun ⟨p, h1, h2⟩ => ⟨p, h1, h2.symm⟩, fun ⟨p, h1, h2⟩ => ⟨p, h1, h2.symm⟩⟩
theorem Blt.at_ (h : Blt b L R) {p : Lab × Rec} (hp : p ∈ nodR b L) : treP R p.1 = some (recR (nxP (lvR b L)) p) :=
 treP_at h.dist (h.mem.2 ⟨p, hp, rfl⟩)
theorem lv_sorted : (leafs ((nodR b L).map rwOf)).Pairwise fun x y => lessL x y = true := by
 unfold leafs
 rw [List.pairwise_map]
 refine List.Pairwise.sublist List.filter_sublist ?_
 rw [List.pairwise_map]
 exact nodes_sorted gro_root
theorem lv_eq : lvR b L = leafs ((nodR b L).map rwOf) := sortL_eq (List.Perm.refl _) (lv_sorted.imp fun h => less_le h)
theorem lv_mem {k : Lab} : k ∈ lvR b L ↔ ∃ p ∈ nodR b L, p.2.kind = 1 ∧ p.1 = k := by
 rw [lv_eq]
 unfold leafs
 constructor
 ·intro hm
  obtain ⟨w, hw, rfl⟩ := List.mem_map.1 hm
  obtain ⟨h1, h2⟩ := List.mem_filter.1 hw
  obtain ⟨p, hp, rfl⟩ := List.mem_map.1 h1
  exact ⟨p, hp, of_decide_eq_true h2, rfl⟩
 rintro ⟨p, hp, hk, rfl⟩
 exact List.mem_map.2 ⟨rwOf p, List.mem_filter.2 ⟨List.mem_map.2 ⟨p, hp, rfl⟩, decide_eq_true hk⟩, rfl⟩
theorem lv_dist : (lvR b L).Nodup := by
 rw [lv_eq]
 exact lv_sorted.imp fun h => less_ne h
theorem nx_is {k : Lab} (hk : k ∈ lvR b L) : nxP (lvR b L) k = noneL ∨ nxP (lvR b L) k ∈ lvR b L := by
 obtain ⟨i, hi, rfl⟩ := labF_mem hk
 have hj := labF_inj (lv_dist (b := b) (L := L))
 unfold nxP
 rw [nexA_get (labF (lvR b L)) (lvR b L).length hj (lvR b L).length (Nat.le_refl _) i hi]
 show (if i + 1 < (lvR b L).length then labF (lvR b L) (i + 1) else noneL) = noneL ∨ (if i + 1 < (lvR b L).length then labF (lvR b L) (i + 1) else noneL) ∈ lvR b L
 by_cases h1 : i + 1 < (lvR b L).length
 ·rw [if_pos h1]
  right
  unfold labF
  rw [List.getD_eq_getElem?_getD, List.getElem?_eq_getElem h1]
  exact List.getElem_mem h1
 rw [if_neg h1]; exact .inl rfl
theorem nod_row (hk : ∀ x ∈ L, U64 x.key) {p : Lab × Rec} (hp : p ∈ nodR b L) :
  (p.2 = leafR (covL p.1 L) ∧ (((covL p.1 L).length : Int) ≤ b ∨ p.1.len = 64)) ∨ (p.2 = innR ∧ ¬ ((covL p.1 L).length : Int) ≤ b ∧ p.1.len ≠ 64 ∧ (∃ r, (childL p.1 0, r) ∈ nodR b L) ∧ ∃ r, (childL p.1 1, r) ∈ nodR b L) :=
 nodes_row (b := b) (L := L) gro_root (cov_root hk).symm p hp
theorem nod_und {p : Lab × Rec} (hp : p ∈ nodR b L) : Und ⟨0, 0⟩ p.1 := nodes_und gro_root p hp
theorem lv_is {k : Lab} (hk : k ∈ lvR b L) : isL k = true ∧ U64 k.bits := by
 obtain ⟨p, hp, _, rfl⟩ := lv_mem.1 hk
 exact ⟨(nod_und hp).is, (nod_und hp).u⟩
theorem newL_some : ∀ {l : List Rw} {M : Shf}, (l.map (·.lab)).Nodup → (∀ w ∈ l, findL w.lab M = none) → (∀ w ∈ l, isL w.lab = true ∧ isR w.r = true) → (newL l M).isSome = true
 | [], M, _, _, _ => rfl
 | v :: l, M, hd, hn, hr => by
  rw [List.map_cons, List.nodup_cons] at hd
  unfold newL
  rw [hn v (by simp), (hr v (by simp)).1, (hr v (by simp)).2]
  simp only [Option.isSome_none, Bool.not_true, Bool.or_self, Bool.false_eq_true, if_false]
  refine newL_some hd.2 (fun w hw => ?_) fun w hw => hr w (by simp [hw])
  rw [find_put, if_neg (fun e => hd.1 (List.mem_map.2 ⟨w, hw, e.symm⟩))]
  exact hn w (by simp [hw])
theorem okF_its {l : List Itm} (h : ItsOk l) (hv : ∀ x ∈ l, x.val.size ≤ 64) : okF (itF l) l.length = true := by
 unfold okF
 rw [List.all_eq_true]
 intro i hi
 have hi := List.mem_range.1 hi
 have e : ∀ j (hj : j < l.length), itF l j = l[j] := fun j hj => by unfold itF; rw [List.getD_eq_getElem?_getD, List.getElem?_eq_getElem hj]; rfl
 unfold okAt
 rw [e i hi, decide_eq_true (hv _ (List.getElem_mem hi)), Bool.true_and]
 by_cases h0 : i = 0
 ·subst h0; rfl
 rw [e (i - 1) (by omega), decide_eq_true (List.pairwise_iff_getElem.1 h.rises (i - 1) i (by omega) hi (by omega))]
 simp
theorem leaf_few (h : Blt b L R) {p : Lab × Rec} (hp : p ∈ nodR b L) (hc : ((covL p.1 L).length : Int) ≤ b ∨ p.1.len = 64) : ((covL p.1 L).length : Int) ≤ b := by
 rcases hc with hc | hc
 ·exact hc
 have := cov_deep (nod_und hp).is hc h.ok
 have := h.b1
 omega
theorem Blt.right (h : Blt b L R) : isRw R = true := by
 unfold isRw newS
 rw [if_neg (by rw [h.rows', List.length_map]; exact Nat.not_lt.2 h.len)]
 refine newL_some h.dist (fun w _ => rfl) fun w hw => ?_
 obtain ⟨p, hp, rfl⟩ := h.mem.1 hw
 refine ⟨(nod_und hp).is, ?_⟩
 show isR (recR _ p) = true
 rcases nod_row h.ok.keys hp with ⟨h1, h2⟩ | ⟨h1, _⟩
 ·have hk : p.2.kind = 1 := by rw [h1]; rfl
  have hlv : p.1 ∈ lvR b L := lv_mem.2 ⟨p, hp, hk, rfl⟩
  have hfew := leaf_few h hp h2
  have h16 := h.b16
  unfold recR
  rw [if_pos hk, h1]
  show isRF 1 (covL p.1 L).length (itF (covL p.1 L)) (nxP (lvR b L) p.1) 0 = true
  unfold isRF rowF bareK
  rw [okF_its (h.ok.cov p.1) fun x hx => h.vals x (List.mem_filter.1 hx).1, decide_eq_true (show (covL p.1 L).length ≤ 16 by omega)]
  rcases nx_is hlv with e | e
  ·rw [e]; simp
  rw [(lv_is e).1]; simp
 unfold recR
 rw [if_neg (by rw [h1]; decide), h1]
 decide
theorem Blt.isR_small (h : Blt b L R) {w : Rw} (hw : w ∈ R) : w.r.items.length ≤ 16 ∧ isL w.lab = true ∧ U64 w.lab.bits ∧ U64 w.r.next.bits ∧ ∀ x ∈ w.r.items, U64 x.key := by
 obtain ⟨p, hp, rfl⟩ := h.mem.1 hw
 have hi : (rowR (nxP (lvR b L)) p).r.items = p.2.items := recR_items _ p
 refine ⟨?_, (nod_und hp).is, (nod_und hp).u, ?_, ?_⟩
 ·rw [hi]
  rcases nod_row h.ok.keys hp with ⟨h1, h2⟩ | ⟨h1, _⟩
  ·rw [h1]
   have := leaf_few h hp h2
   have := h.b16
   show (covL p.1 L).length ≤ 16
   omega
  rw [h1]; exact Nat.zero_le _
 ·show U64 (recR _ p).next.bits
  rcases nod_row h.ok.keys hp with ⟨h1, h2⟩ | ⟨h1, _⟩
  ·have hk : p.2.kind = 1 := by rw [h1]; rfl
   unfold recR
   rw [if_pos hk]
   rcases nx_is (lv_mem.2 ⟨p, hp, hk, rfl⟩) with e | e
   ·show U64 (nxP (lvR b L) p.1).bits
    rw [e]; exact ⟨by decide, by decide⟩
   exact (lv_is e).2
  unfold recR
  rw [if_neg (by rw [h1]; decide), h1]
  exact ⟨by decide, by decide⟩
 rw [hi]
 rcases nod_row h.ok.keys hp with ⟨h1, h2⟩ | ⟨h1, _⟩
 ·rw [h1]
  intro x hx
  exact h.ok.keys x (List.mem_filter.1 hx).1
 rw [h1]; intro x hx; cases hx
theorem ch_yes {q : Lab} (hq : isL q = true) (h64 : q.len ≠ 64) : chE q 0 = 0 ∧ ∀ i : Int, chV q i = childL q i := by
 have hce : chE q 0 = 0 := by unfold chE; rw [hq]; simp [h64]
 exact ⟨hce, fun i => (ch_ok hce).2.2 i⟩
theorem Blt.means (h : Blt b L R) : ∀ (fu : Nat) (p : Lab × Rec), p ∈ nodR b L → 65 ≤ fu + p.1.len → meansP (treP R) fu p.1 = covL p.1 L
 | 0, p, hp, h65 => by have := (lab_parts (nod_und hp).is).2.1; omega
 | fu + 1, p, hp, h65 => by
  unfold meansP
  rw [h.at_ hp]
  simp only
  rw [recR_kind, recR_items]
  have hu := nod_und hp
  rcases nod_row h.ok.keys hp with ⟨h1, h2⟩ | ⟨h1, h2, h3, ⟨r0, h4⟩, ⟨r1, h5⟩⟩
  ·have hk : p.2.kind = 1 := by rw [h1]; rfl
   rw [if_pos (.inl hk), h1]; rfl
  have hk : p.2.kind = 2 := by rw [h1]; rfl
  obtain ⟨hce, hcv⟩ := ch_yes hu.is h3
  rw [if_neg (by rw [hk]; decide), hce, if_pos rfl, hcv, hcv]
  have k : ∀ c, kidP (treP R) (meansP (treP R) fu) (recR (nxP (lvR b L)) p) c = meansP (treP R) fu c := fun c => by
   unfold kidP
   rw [recR_kind, if_neg (fun h => by rw [hk] at h; exact absurd h.1 (by decide))]
  rw [k, k]
  have hl0 : (childL p.1 0).len = p.1.len + 1 := rfl
  have hl1 : (childL p.1 1).len = p.1.len + 1 := rfl
  rw [h.means fu _ h4 (by show 65 ≤ (fu : Int) + (childL p.1 0).len; rw [hl0]; omega), h.means fu _ h5 (by show 65 ≤ (fu : Int) + (childL p.1 1).len; rw [hl1]; omega)]
  exact cov_two hu.is hu.u h3 h.ok
theorem Blt.items (h : Blt b L R) : itemsP R = L ∧ itemsE R = 0 := by
 unfold itemsP itemsE
 rw [if_pos h.right, if_pos h.right]
 obtain ⟨r, hr⟩ := nodes_head (b := b) (n := 64) (l := L) (q := ⟨0, 0⟩)
 have := h.means 65 _ hr (by show (65 : Int) ≤ 65 + 0; decide)
 simp only at this
 rw [this, cov_root h.ok.keys]
 exact ⟨rfl, rfl⟩
theorem Blt.kind (h : Blt b L R) {w : Rw} (hw : w ∈ R) : (w.r.kind = 2 ↔ b < ((covL w.lab L).length : Int)) ∧ w.ver = 1 ∧ (w.r.kind = 1 ∨ w.r.kind = 2) := by
 obtain ⟨p, hp, rfl⟩ := h.mem.1 hw
 show ((recR _ p).kind = 2 ↔ b < ((covL p.1 L).length : Int)) ∧ 1 = 1 ∧ ((recR _ p).kind = 1 ∨ (recR _ p).kind = 2)
 rw [recR_kind]
 rcases nod_row h.ok.keys hp with ⟨h1, h2⟩ | ⟨h1, h2, _⟩
 ·have hfew := leaf_few h hp h2
  have hk : p.2.kind = 1 := by rw [h1]; rfl
  rw [hk]
  exact ⟨⟨fun e => absurd e (by decide), fun e => by omega⟩, rfl, .inl rfl⟩
 have hk : p.2.kind = 2 := by rw [h1]; rfl
 rw [hk]
 exact ⟨⟨fun _ => by omega, fun _ => rfl⟩, rfl, .inr rfl⟩
end
def szL (l : Lab) : Int := ((2 ^ (64 - l.len.toNat) : Nat) : Int)
theorem sz_child {q : Lab} (hq : isL q = true) (h64 : q.len ≠ 64) (b : Int) : szL q = szL (childL q b) + szL (childL q b) := by
 obtain ⟨h0, h1, _⟩ := lab_parts hq
 have hn : q.len.toNat < 64 := by omega
 have hl : (childL q b).len.toNat = q.len.toNat + 1 := by show (q.len + 1).toNat = _; omega
 unfold szL
 rw [hl, half_pow hn, show 64 - (q.len.toNat + 1) = 63 - q.len.toNat by omega]
 omega
theorem child_bits {q : Lab} (hq : isL q = true) (h64 : q.len ≠ 64) : (childL q 0).bits = q.bits ∧ (childL q 1).bits = q.bits + szL (childL q 0) := by
 obtain ⟨h0, h1, _⟩ := lab_parts hq
 have hl : (childL q 0).len.toNat = q.len.toNat + 1 := by show (q.len + 1).toNat = _; omega
 refine ⟨rfl, ?_⟩
 unfold szL
 rw [hl, show 64 - (q.len.toNat + 1) = 63 - q.len.toNat by omega]
 rfl
def Tile : Int → Int → List Lab → Prop
 | lo, hi, [] => lo = hi
 | lo, hi, k :: r => k.bits = lo ∧ Tile (lo + szL k) hi r
theorem tile_app : ∀ {a b : List Lab} {lo mid hi : Int}, Tile lo mid a → Tile mid hi b → Tile lo hi (a ++ b)
 | [], b, lo, mid, hi, h1, h2 => by have : lo = mid := h1; subst this; exact h2
 | k :: a, b, lo, mid, hi, h1, h2 => ⟨h1.1, tile_app h1.2 h2⟩
def lfs (N : List (Lab × Rec)) : List Lab := leafs (N.map rwOf)
theorem lfs_app (a b : List (Lab × Rec)) : lfs (a ++ b) = lfs a ++ lfs b := by unfold lfs leafs; simp
theorem lfs_inner (q : Lab) (N : List (Lab × Rec)) : lfs ((q, innR) :: N) = lfs N := by
 unfold lfs leafs
 rw [List.map_cons, List.filter_cons, if_neg (by show ¬ decide ((2 : Int) = 1) = true; decide)]
theorem lfs_leaf (q : Lab) (l : List Itm) : lfs [(q, leafR l)] = [q] := by
 unfold lfs leafs
 rw [List.map_cons, List.filter_cons, if_pos (by show decide ((1 : Int) = 1) = true; decide)]
 rfl
theorem nodes_tile {b : Int} : ∀ {n : Nat} {l : List Itm} {q : Lab}, Gro n q → Tile q.bits (q.bits + szL q) (lfs (nodes b n l q))
 | 0, l, q, h => h.pos.elim
 | n + 1, l, q, h => by
  unfold nodes
  split
  ·rw [lfs_leaf]; exact ⟨rfl, rfl⟩
  rename_i hn
  have h64 : q.len ≠ 64 := fun e => hn (.inr e)
  rw [lfs_inner, lfs_app]
  obtain ⟨b0, b1⟩ := child_bits h.is h64
  have t0 := nodes_tile (b := b) (l := covL (childL q 0) l) (h.child h64 0)
  have t1 := nodes_tile (b := b) (l := covL (childL q 1) l) (h.child h64 1)
  rw [b0] at t0
  have hs : szL (childL q 1) = szL (childL q 0) := rfl
  have h2 := sz_child h.is h64 0
  rw [b1, hs] at t1
  rw [h2, ← Int.add_assoc]
  exact tile_app t0 t1
section
variable {b : Int} {L : List Itm} {R : List Rw}
theorem Blt.own (h : Blt b L R) {w : Rw} (hw : w ∈ R) {x : Itm} (hx : x ∈ L) : x ∈ w.r.items ↔ (w.r.kind = 1 ∧ coverB w.lab x.key = true) := by
 obtain ⟨p, hp, rfl⟩ := h.mem.1 hw
 show x ∈ (recR _ p).items ↔ ((recR _ p).kind = 1 ∧ coverB p.1 x.key = true)
 rw [recR_kind, recR_items]
 rcases nod_row h.ok.keys hp with ⟨h1, _⟩ | ⟨h1, _⟩
 ·rw [h1]
  constructor
  ·intro hm; exact ⟨rfl, (List.mem_filter.1 hm).2⟩
  rintro ⟨_, hc⟩; exact List.mem_filter.2 ⟨hx, hc⟩
 rw [h1]
 constructor
 ·intro hm; cases hm
 rintro ⟨hc, _⟩; exact absurd hc (by show ¬ (2 : Int) = 1; decide)
end
def manP (b : Int) : Nat → List Itm → Lab → Int → Int
 | 0, _, _, _ => 1
 | n + 1, l, q, m => if (l.length : Int) ≤ b ∨ m < 0 then 1 else
  (1 + manP b n (covL (childL q 0) l) (childL q 0) (m - 1)) + manP b n (covL (childL q 1) l) (childL q 1) (m - (1 + manP b n (covL (childL q 0) l) (childL q 0) (m - 1)))
theorem man_bnd (b : Int) : ∀ (n : Nat) (l : List Itm) (q : Lab) (m : Int), 1 ≤ manP b n l q m ∧ (m < 0 → manP b n l q m = 1) ∧ (0 ≤ m → manP b n l q m ≤ m + 2 * n + 1)
 | 0, l, q, m => by unfold manP; omega
 | n + 1, l, q, m => by
  by_cases h : (l.length : Int) ≤ b ∨ m < 0
  ·have e : manP b (n + 1) l q m = 1 := by unfold manP; rw [if_pos h]
   rw [e]
   omega
  have e : manP b (n + 1) l q m = (1 + manP b n (covL (childL q 0) l) (childL q 0) (m - 1)) + manP b n (covL (childL q 1) l) (childL q 1) (m - (1 + manP b n (covL (childL q 0) l) (childL q 0) (m - 1))) := by
   rw [manP.eq_2]; exact if_neg h
  rw [e]
  have h0 := man_bnd b n (covL (childL q 0) l) (childL q 0) (m - 1)
  have h1 := man_bnd b n (covL (childL q 1) l) (childL q 1) (m - (1 + manP b n (covL (childL q 0) l) (childL q 0) (m - 1)))
  omega
structure Blo (b : Int) (n : Nat) (l : List Itm) (q : Lab) : Prop where
 gro : Gro n q
 ok : ItsOk l
 all : covL q l = l
 b1 : 1 ≤ b
theorem Blo.deep {b : Int} {n : Nat} {l : List Itm} {q : Lab} (h : Blo b n l q) (hb : ¬ (l.length : Int) ≤ b) : q.len ≠ 64 := fun h64 => by
 have := cov_deep h.gro.is h64 h.ok
 rw [h.all] at this
 have := h.b1
 omega
theorem Blo.child {b : Int} {n : Nat} {l : List Itm} {q : Lab} (h : Blo b (n + 1) l q) (h64 : q.len ≠ 64) (i : Int) : Blo b n (covL (childL q i) l) (childL q i) := by
 have g := h.gro.child h64 i
 exact ⟨g, h.ok.cov _, cov_cov (und_self g.is g.u) g.is l, h.b1⟩
theorem Blo.nodes {b : Int} {n : Nat} {l : List Itm} {q : Lab} (h : Blo b (n + 1) l q) (hb : ¬ (l.length : Int) ≤ b) : nodes b (n + 1) l q = (q, innR) :: (nodes b n (covL (childL q 0) l) (childL q 0) ++ nodes b n (covL (childL q 1) l) (childL q 1)) := by
 rw [nodes.eq_2]
 exact if_neg fun h1 => by rcases h1 with h1 | h1; exact hb h1; exact h.deep hb h1
theorem man_nodes {b : Int} : ∀ {n : Nat} {l : List Itm} {q : Lab} {m : Int}, Blo b n l q → manP b n l q m ≤ (nodes b n l q).length ∧ (manP b n l q m ≤ m → manP b n l q m = (nodes b n l q).length)
 | 0, l, q, m, h => h.gro.pos.elim
 | n + 1, l, q, m, h => by
  by_cases hb : (l.length : Int) ≤ b
  ·have e1 : manP b (n + 1) l q m = 1 := by unfold manP; rw [if_pos (.inl hb)]
   have e2 : nodes b (n + 1) l q = [(q, leafR l)] := by unfold nodes; rw [if_pos (.inl hb)]
   rw [e1, e2]
   exact ⟨by simp, fun _ => rfl⟩
  rw [h.nodes hb]
  have h64 := h.deep hb
  by_cases hm : m < 0
  ·have e1 : manP b (n + 1) l q m = 1 := by unfold manP; rw [if_pos (.inr hm)]
   rw [e1]
   simp only [List.length_cons, List.length_append]
   exact ⟨by omega, fun h => by omega⟩
  have e1 : manP b (n + 1) l q m = (1 + manP b n (covL (childL q 0) l) (childL q 0) (m - 1)) + manP b n (covL (childL q 1) l) (childL q 1) (m - (1 + manP b n (covL (childL q 0) l) (childL q 0) (m - 1))) := by
   rw [manP.eq_2]; exact if_neg (by omega)
  rw [e1]
  have i0 := man_nodes (m := m - 1) (h.child h64 0)
  have i1 := man_nodes (m := m - (1 + manP b n (covL (childL q 0) l) (childL q 0) (m - 1))) (h.child h64 1)
  have p1 := (man_bnd b n (covL (childL q 1) l) (childL q 1) (m - (1 + manP b n (covL (childL q 0) l) (childL q 0) (m - 1)))).1
  simp only [List.length_cons, List.length_append]
  refine ⟨by omega, fun hle => ?_⟩
  have a0 := i0.2 (by omega)
  have a1 := i1.2 (by omega)
  omega
theorem man_few {b : Int} {n : Nat} {l : List Itm} {q : Lab} (h : Blo b n l q) : 2000 < manP b n l q 2000 ↔ ¬ (nodes b n l q).length ≤ 2000 := by
 have := man_nodes (m := 2000) h
 constructor
 ·intro h1; omega
 intro h1
 by_cases h2 : manP b n l q 2000 ≤ 2000
 ·have := this.2 h2; omega
 omega
def hdL (N : List (Lab × Rec)) (nx : Lab) : Lab := (lfs N).headD nx
def chainR : List (Lab × Rec) → Lab → List Rw
 | [], _ => []
 | p :: N, nx => ⟨p.1, 1, if p.2.kind = 1 then { p.2 with next := hdL N nx } else p.2⟩ :: chainR N nx
theorem lfs_cons (p : Lab × Rec) (N : List (Lab × Rec)) : lfs (p :: N) = if p.2.kind = 1 then p.1 :: lfs N else lfs N := by
 unfold lfs leafs
 rw [List.map_cons, List.filter_cons]
 show (if decide (p.2.kind = 1) = true then _ else _ : List Rw).map _ = _
 by_cases h : p.2.kind = 1
 ·rw [if_pos (by simpa using h), if_pos h]; rfl
 rw [if_neg (by simpa using h), if_neg h]
theorem hd_app (A B : List (Lab × Rec)) (nx : Lab) : hdL (A ++ B) nx = hdL A (hdL B nx) := by
 unfold hdL
 rw [lfs_app]
 cases lfs A <;> rfl
theorem chain_app : ∀ (A B : List (Lab × Rec)) (nx : Lab), chainR (A ++ B) nx = chainR A (hdL B nx) ++ chainR B nx
 | [], B, nx => rfl
 | p :: A, B, nx => by
  rw [List.cons_append, chainR, chainR, chain_app A B nx, hd_app]; rfl
theorem chain_len : ∀ (N : List (Lab × Rec)) (nx : Lab), (chainR N nx).length = N.length
 | [], _ => rfl
 | p :: N, nx => by rw [chainR, List.length_cons, List.length_cons, chain_len N nx]
theorem chain_leafs : ∀ (N : List (Lab × Rec)) (nx : Lab), leafs (chainR N nx) = lfs N
 | [], _ => rfl
 | p :: N, nx => by
  have ih := chain_leafs N nx
  rw [lfs_cons, chainR]
  unfold leafs at ih ⊢
  rw [List.filter_cons]
  by_cases h : p.2.kind = 1
  ·rw [if_pos h, if_pos h, if_pos (by show decide (p.2.kind = 1) = true; simpa using h), List.map_cons, ih]
  rw [if_neg h, if_neg h, if_neg (by simpa using h), ih]
theorem lfs_sorted {b : Int} {n : Nat} {l : List Itm} {q : Lab} (h : Gro n q) : (lfs (nodes b n l q)).Pairwise fun x y => lessL x y = true := by
 unfold lfs leafs
 rw [List.pairwise_map]
 refine List.Pairwise.sublist List.filter_sublist ?_
 rw [List.pairwise_map]
 exact nodes_sorted h
theorem chain_leaves {b : Int} {n : Nat} {l : List Itm} {q : Lab} (h : Gro n q) (nx : Lab) : leavesP (chainR (nodes b n l q) nx) = lfs (nodes b n l q) := by
 unfold leavesP
 rw [chain_leafs]
 exact sortL_eq (List.Perm.refl _) ((lfs_sorted h).imp fun h => less_le h)
theorem lfs_pos {b : Int} {n : Nat} {l : List Itm} {q : Lab} (h : Gro n q) : 0 < (lfs (nodes b n l q)).length := by
 have ht := nodes_tile (b := b) (l := l) h
 cases hl : lfs (nodes b n l q) with
 | nil =>
  rw [hl] at ht
  have e : q.bits = q.bits + szL q := ht
  have : 0 < szL q := by
   unfold szL
   have : 0 < 2 ^ (64 - q.len.toNat) := Nat.pow_pos (by decide)
   omega
  omega
 | cons x r => simp
theorem hd_first {b : Int} {n : Nat} {l : List Itm} {q : Lab} (h : Gro n q) (nx : Lab) : labF (lfs (nodes b n l q)) 0 = hdL (nodes b n l q) nx := by
 have hp := lfs_pos (b := b) (l := l) h
 unfold hdL labF
 cases hl : lfs (nodes b n l q) with
 | nil => rw [hl] at hp; exact absurd hp (by simp)
 | cons x r => rfl
theorem nx_split {LV P S : List Lab} {k : Lab} (hd : LV.Nodup) (h : LV = P ++ k :: S) : nxP LV k = S.headD noneL := by
 have hi : P.length < LV.length := by rw [h]; simp
 have hk : labF LV P.length = k := by unfold labF; rw [h]; simp [List.getD_eq_getElem?_getD]
 unfold nxP
 rw [← hk, nexA_get (labF LV) LV.length (labF_inj hd) LV.length (Nat.le_refl _) P.length hi]
 show (if P.length + 1 < LV.length then labF LV (P.length + 1) else noneL) = _
 have hlen : LV.length = P.length + (S.length + 1) := by rw [h]; simp
 cases S with
 | nil => rw [if_neg (by rw [hlen]; simp)]; rfl
 | cons x S =>
  rw [if_pos (by rw [hlen]; simp)]
  unfold labF
  rw [h]
  simp [List.getD_eq_getElem?_getD]
theorem chain_map {LV : List Lab} (hd : LV.Nodup) : ∀ (N : List (Lab × Rec)) (P : List Lab), LV = P ++ lfs N → chainR N noneL = N.map (rowR (nxP LV))
 | [], _, _ => rfl
 | p :: N, P, h => by
  rw [lfs_cons] at h
  rw [chainR, List.map_cons]
  by_cases hk : p.2.kind = 1
  ·rw [if_pos hk] at h
   rw [chain_map hd N (P ++ [p.1]) (by rw [h]; simp)]
   congr 1
   unfold rowR recR
   rw [if_pos hk, if_pos hk, nx_split hd h]
   rfl
  rw [if_neg hk] at h
  rw [chain_map hd N P h]
  congr 1
  unfold rowR recR
  rw [if_neg hk, if_neg hk]
theorem chain_bld {b : Int} {L : List Itm} {R : List Rw} (h : Blt b L R) : chainR (nodR b L) noneL = R := by
 rw [h.rows']
 exact chain_map lv_dist _ [] (by rw [lv_eq]; rfl)
def spR (w : Rw) : Lab × Spo := (w.lab, ⟨1, true, w.r⟩)
def casW (w : Rw) : Wnt := ⟨2, w.lab, 0, w.r⟩
theorem putL_end {l : Lab} {x : Spo} : ∀ {M : Shf}, (∀ p ∈ M, lessL p.1 l = true) → putL l x M = M ++ [(l, x)]
 | [], _ => rfl
 | p :: M, h => by
  unfold putL
  rw [if_pos (h p (by simp)), putL_end fun q hq => h q (by simp [hq])]; rfl
theorem findL_end {l : Lab} : ∀ {M : Shf}, (∀ p ∈ M, lessL p.1 l = true) → findL l M = none
 | [], _ => rfl
 | p :: M, h => by
  unfold findL
  rw [if_neg (less_ne (h p (by simp))), findL_end fun q hq => h q (by simp [hq])]
section
variable {b : Int} {L : List Itm} {R : List Rw}
theorem Blt.less (h : Blt b L R) : R.Pairwise fun x y => lessL x.lab y.lab = true := by
 rw [h.rows', List.pairwise_map]
 exact nodes_sorted gro_root
theorem Blt.does (h : Blt b L R) {i : Nat} (hi : i < R.length) : (doL ((R.take i).map spR) (casW R[i])).L = (R.take (i + 1)).map spR := by
 have hm := List.getElem_mem hi
 have hr := (newS_is h.right)
 have hlt : ∀ p ∈ (R.take i).map spR, lessL p.1 R[i].lab = true := by
  intro p hp
  obtain ⟨w, hw, rfl⟩ := List.mem_map.1 hp
  obtain ⟨k, hk, rfl⟩ := List.mem_iff_getElem.1 hw
  have hki : k < i := by simp at hk; omega
  rw [List.getElem_take]
  exact List.pairwise_iff_getElem.1 h.less k i (by omega) hi hki
 have hf := findL_end hlt
 have hs : spotOf ((R.take i).map spR) R[i].lab = zeroSpo := by unfold spotOf; rw [hf]; rfl
 unfold doL
 rw [if_pos ⟨.inr (.inl rfl), (hr.2 _ hm).1, fun _ => (hr.2 _ hm).2⟩]
 rw [if_neg (by show ¬ (2 : Int) = 1; decide)]
 rw [show spotOf ((R.take i).map spR) (casW R[i]).lab = zeroSpo from hs, if_neg (by show ¬ (0 : Int) ≠ 0; decide), if_neg (by
  rintro ⟨_, h2⟩
  rw [List.length_map, List.length_take] at h2
  have := hr.1
  omega)]
 show putL R[i].lab (nextSpo (casW R[i])) ((R.take i).map spR) = _
 rw [putL_end hlt, List.take_succ_eq_append_getElem hi, List.map_append]
 rfl
theorem rows_back (R : List Rw) (h : ∀ w ∈ R, w.ver = 1) : rowsL (R.map spR) = R := by
 unfold rowsL
 rw [List.filter_eq_self.2 (by intro p hp; obtain ⟨w, _, rfl⟩ := List.mem_map.1 hp; rfl), List.map_map]
 conv => rhs; rw [← List.map_id R]
 refine List.map_congr_left fun w hw => ?_
 show (⟨w.lab, 1, w.r⟩ : Rw) = w
 rw [← h w hw]
theorem Blt.sp_rises (h : Blt b L R) (i : Nat) : Rises ((R.take i).map spR) := by
 unfold Rises
 rw [List.pairwise_map]
 exact (h.less.sublist (List.take_sublist i R))
end
def badI (f : Nat → Itm) (i : Nat) : Prop := 64 < (f i).val.size ∨ (0 < i ∧ (f i).key ≤ (f (i - 1)).key)
theorem bad_err {n : Nat} {f : Nat → Itm} {b : Int} {i : Nat} (hi : i < n) (h : badI f i) : bldE n f b = 1 := by
 unfold bldE
 refine if_pos ?_
 rcases h with h | ⟨h0, h⟩
 ·refine .inr (.inr (.inl ?_))
  exact List.any_eq_true.2 ⟨i, List.mem_range.2 hi, decide_eq_true h⟩
 by_cases he : (f i).key = (f (i - 1)).key
 ·refine .inr (.inr (.inr (.inr ?_)))
  refine List.any_eq_true.2 ⟨i - 1, List.mem_range.2 (by omega), decide_eq_true ?_⟩
  rw [show i - 1 + 1 = i by omega]; exact he
 refine .inr (.inr (.inr (.inl ?_)))
 refine List.all_eq_false.2 ⟨i - 1, List.mem_range.2 (by omega), ?_⟩
 rw [show i - 1 + 1 = i by omega]
 simp
 omega
theorem good_err {n : Nat} {f : Nat → Itm} {b : Int} (hb1 : 1 ≤ b) (hb2 : b ≤ 16) (h : ∀ t, t < n → ¬ badI f t) : bldE n f b = (if 500 < n then 2 else if (growT n f b).1 = true then 0 else 2) := by
 unfold bldE
 refine if_neg ?_
 rintro (g | g | g | g | g)
 ·omega
 ·omega
 ·obtain ⟨t, ht, g⟩ := List.any_eq_true.1 g
  exact h t (List.mem_range.1 ht) (.inl (of_decide_eq_true g))
 ·obtain ⟨t, ht, g⟩ := List.all_eq_false.1 g
  have ht := List.mem_range.1 ht
  refine h (t + 1) (by omega) (.inr ⟨by omega, ?_⟩)
  rw [show t + 1 - 1 = t by omega]
  simp at g
  omega
 obtain ⟨t, ht, g⟩ := List.any_eq_true.1 g
 have ht := List.mem_range.1 ht
 refine h (t + 1) (by omega) (.inr ⟨by omega, ?_⟩)
 rw [show t + 1 - 1 = t by omega]
 have := of_decide_eq_true g
 omega
theorem good_its {n : Nat} {f : Nat → Itm} (hk : ∀ i, i < n → U64 (f i).key) (h : ∀ t, t < n → ¬ badI f t) : ItsOk (firsts f n) := by
 have step : ∀ t, t + 1 < n → (f t).key < (f (t + 1)).key := fun t ht => by
  have := h (t + 1) ht
  unfold badI at this
  rw [show t + 1 - 1 = t by omega] at this
  omega
 have far : ∀ d t, t + d + 1 < n → (f t).key < (f (t + d + 1)).key := fun d => by
  induction d with
  | zero => exact fun t ht => step t ht
  | succ d ih =>
   intro t ht
   have h1 := ih t (by omega)
   have h2 := step (t + d + 1) (by omega)
   rw [show t + (d + 1) + 1 = t + d + 1 + 1 by omega]
   omega
 refine ⟨firsts_mem hk, ?_⟩
 unfold firsts
 rw [List.pairwise_map]
 refine List.Pairwise.imp_of_mem ?_ (List.pairwise_lt_range (n := n))
 intro i j hi hj hij
 have hj := List.mem_range.1 hj
 have := far (j - i - 1) i (by omega)
 rw [show i + (j - i - 1) + 1 = j by omega] at this
 exact this
theorem grow_err {n : Nat} {f : Nat → Itm} {b : Int} : (growT n f b).1 = true ↔ (nodR b (firsts f n)).length ≤ 2000 := by
 have hgn := grow_nodes (b := b) (n := 65) (l := firsts f n) (q := ⟨0, 0⟩) (T := []) gro_root (by simp)
 unfold growT
 by_cases hl : (nodR b (firsts f n)).length ≤ 2000
 ·rw [if_pos (by simpa using hl)] at hgn
  rw [hgn]
  exact ⟨fun _ => hl, fun _ => rfl⟩
 rw [if_neg (by simpa using hl)] at hgn
 rw [hgn]
 exact ⟨fun h => absurd h (by decide), fun h => absurd h hl⟩
theorem root_blo {n : Nat} {f : Nat → Itm} {b : Int} (hk : ∀ i, i < n → U64 (f i).key) (h : ∀ t, t < n → ¬ badI f t) (hb1 : 1 ≤ b) : Blo b 65 (firsts f n) ⟨0, 0⟩ :=
 ⟨gro_root, good_its hk h, cov_root (firsts_mem hk), hb1⟩
theorem many_step (A : Option Addr) (n c : Nat) (f : Nat → Itm) (q : Lab) (b : Int) (mo : Int) (fu : Nat) (IH : ∀ (A : Option Addr) (n c : Nat) (f : Nat → Itm) (q : Lab) (mo : Int), n ≤ 1000000 → fu ≤ 65 → -5000 ≤ mo → mo ≤ 2000 → Blo b fu (firsts f n) q → Spec Tryz.prog 47 [rowI A n c f, labAV q, .int .i64 b, .int .i64 mo] (fun _ => .int .i64 (manP b fu (firsts f n) q mo))) (hn : n ≤ 1000000) (hfu : fu + 1 ≤ 65) (hm0 : -5000 ≤ mo) (hm1 : mo ≤ 2000) (hBl : Blo b (fu + 1) (firsts f n) q) : Spec Tryz.prog 47 [rowI A n c f, labAV q, .int .i64 b, .int .i64 mo] (fun _ => .int .i64 (manP b (fu + 1) (firsts f n) q mo)) := by
 intro m w hm hargs
 have hmx : maxLen = 9223372036854775807 := rfl
 obtain ⟨W, hWt⟩ := eqv (manP b (fu + 1) (firsts f n) q mo)
 rw [← hWt]
 simp only [labAV, rowI] at hargs
 refine en 52 hm hargs Tryz.func47 fun B hB a0 hF => ?_
 refine wp_seq (rg hB TA_ok [0, 2, 3, 5] [5] [] hF fun X0 a0 w1 hF => ?_)
 refine wp_seq (wp_seq (rg hB TA_ok [21, 0, 2, 3, 5] [5] [] hF (hob := ?hob) fun X1 a0 w1 hF => ?_))
 case hob =>
  intro X
  subst hB
  repeat (first | exact trivial | refine ⟨rfl, ?_⟩ | refine ⟨fun _ => rfl, ?_⟩)
 apply test_ok hF rfl <;> intro hb hF
 ·have h9 : (n : Int) ≤ b ∨ mo < 0 := by subst hB; revert hb; by_cases g : (n : Int) ≤ b <;> simp [std, sC, g]
  have hW : W = 1 := by rw [hWt]; unfold manP; rw [if_pos (by rw [firsts_len]; exact h9)]
  refine wp_seq (rg hB TA_ok [8] [] [] hF fun X2 a0 w1 hF => ?_)
  refine wp_ret ((rsi hB TA_ok hF nAt (he := ?_)))
  subst hB
  rw [hW]
  exact zr
 have h9 : ¬ ((n : Int) ≤ b ∨ mo < 0) := by subst hB; revert hb; by_cases g : (n : Int) ≤ b <;> simp [std, sC, g]
 have hlb : ¬ ((firsts f n).length : Int) ≤ b := by rw [firsts_len]; exact fun h => h9 (.inl h)
 have h64 := hBl.deep hlb
 have SZ := rchild_s q hBl.gro.u 0 (.inl rfl)
 have SO := rchild_s q hBl.gro.u 1 (.inr rfl)
 obtain ⟨hce, hcv⟩ := ch_yes hBl.gro.is h64
 rw [hcv] at SZ SO
 have B0 := hBl.child h64 0
 have B1 := hBl.child h64 1
 obtain ⟨cz, hcz⟩ := eqv (childL q 0)
 obtain ⟨co, hco⟩ := eqv (childL q 1)
 obtain ⟨ez, hez⟩ := eqv (chE q 0)
 obtain ⟨eo, heo⟩ := eqv (chE q 1)
 rw [← hcz, ← hez] at SZ
 rw [← hco, ← heo] at SO
 rw [← hcz] at B0
 rw [← hco] at B1
 have hki : ∀ i, i < n → U64 (f i).key := fun i hi => hBl.ok.keys _ (List.mem_map.2 ⟨i, List.mem_range.2 hi, rfl⟩)
 have SCz := rcov4_s A n c f hn cz B0.gro.u hki
 have SCo := rcov4_s A n c f hn co B1.gro.u hki
 have hl0 := cov_len cz (firsts f n)
 have hl1 := cov_len co (firsts f n)
 rw [firsts_len] at hl0 hl1
 obtain ⟨C0, hC0⟩ := eqv (covL cz (firsts f n))
 obtain ⟨C1, hC1⟩ := eqv (covL co (firsts f n))
 rw [← hC0] at SCz B0 hl0
 rw [← hC1] at SCo B1 hl1
 obtain ⟨f0, hf0⟩ := eqv (itF C0)
 obtain ⟨f1, hf1⟩ := eqv (itF C1)
 obtain ⟨n0, hn0⟩ := eqv (C0.length)
 obtain ⟨n1, hn1⟩ := eqv (C1.length)
 have e0 : C0 = firsts f0 n0 := by rw [hf0, hn0]; exact (firsts_itF' C0).symm
 have e1 : C1 = firsts f1 n1 := by rw [hf1, hn1]; exact (firsts_itF' C1).symm
 rw [← hf0, ← hn0] at SCz
 rw [← hf1, ← hn1] at SCo
 rw [← hn0] at hl0
 rw [← hn1] at hl1
 rw [e0] at B0
 rw [e1] at B1
 have S0 := fun (A2 : Option Addr) (c2 : Nat) => IH A2 n0 c2 f0 cz (mo - 1) (by omega) (by omega) (by omega) (by omega) B0
 obtain ⟨r0, hr0⟩ := eqv (manP b fu (firsts f0 n0) cz (mo - 1))
 have hb0 := man_bnd b fu (firsts f0 n0) cz (mo - 1)
 simp only [← hr0] at S0
 rw [← hr0] at hb0
 have S1 := fun (A2 : Option Addr) (c2 : Nat) => IH A2 n1 c2 f1 co (mo - (1 + r0)) (by omega) (by omega) (by omega) (by omega) B1
 obtain ⟨r1, hr1⟩ := eqv (manP b fu (firsts f1 n1) co (mo - (1 + r0)))
 have hb1 := man_bnd b fu (firsts f1 n1) co (mo - (1 + r0))
 simp only [← hr1] at S1
 rw [← hr1] at hb1
 have hW : W = (1 + r0) + r1 := by rw [hWt, manP.eq_2, if_neg (by rw [firsts_len]; exact h9), ← hcz, ← hco, ← hC0, ← hC1, e0, e1, ← hr0, ← hr1]
 simp only [labAV, rowI] at SZ SO SCz SCo S0 S1
 obtain ⟨n2, hn2⟩ := eqv (1 + r0)
 rw [← hn2] at hW
 simp only [← hn2] at S1
 have S0 : ∀ (A2 : Option Addr) (c2 : Nat), Spec Tryz.prog 47 [.sl none A2 n0 c2 2 (fun i => itC (f0 i)), .agg [.int .i64 cz.len, .int .u64 cz.bits], .int .i64 b, .int .i64 (std.arith .sub .i64 mo 1)] (fun _ => .int .i64 r0) := fun A2 c2 => by rw [show std.arith .sub .i64 mo 1 = mo - 1 by show IntKind.i64.wrap (mo - 1) = _; exact wrap_in (by omega) (by omega)]; exact S0 A2 c2
 have S1 : ∀ (A2 : Option Addr) (c2 : Nat), Spec Tryz.prog 47 [.sl none A2 n1 c2 2 (fun i => itC (f1 i)), .agg [.int .i64 co.len, .int .u64 co.bits], .int .i64 b, .int .i64 (std.arith .sub .i64 mo n2)] (fun _ => .int .i64 r1) := fun A2 c2 => by rw [show std.arith .sub .i64 mo n2 = mo - n2 by show IntKind.i64.wrap (mo - n2) = _; exact wrap_in (by omega) (by omega)]; exact S1 A2 c2
 refine wp_skip (wp_seq (rg hB TA_ok [0, 2, 3, 5, 9] [5, 9] [(1, .r fun _ => .tup [.agg [.int .i64 cz.len, .int .u64 cz.bits], .int .i64 ez])] hF (hob := ?hob) fun X3 a0 w1 hF => ?_))
 case hob =>
  intro X
  subst hB
  repeat (first | exact trivial | refine ⟨rfl, ?_⟩ | refine ⟨fun _ => rfl, ?_⟩ | refine ⟨⟨fun _ _ => by kernel_rfl, SZ⟩, ?_⟩ | refine ⟨fun _ => ⟨fun _ _ => by kernel_rfl, SZ⟩, ?_⟩)
 refine wp_seq (rg hB TA_ok [0, 2, 3, 9, 11] [9, 11] [(1, .r fun _ => .tup [.agg [.int .i64 co.len, .int .u64 co.bits], .int .i64 eo])] hF (hob := ?hob) fun X4 a0 w1 hF => ?_)
 case hob =>
  intro X
  subst hB
  repeat (first | exact trivial | refine ⟨rfl, ?_⟩ | refine ⟨fun _ => rfl, ?_⟩ | refine ⟨⟨fun _ _ => by kernel_rfl, SO⟩, ?_⟩ | refine ⟨fun _ => ⟨fun _ _ => by kernel_rfl, SO⟩, ?_⟩)
 refine wp_seq (drg hB TA_ok [13, 0, 2, 3, 11] [11] [(2, .r fun y => .sl none (y.A 0) n0 (y.c 0) 2 (fun t => itC (f0 t))), (7, .r fun _ => .int .i64 r0)] hF (hob := ?hob) fun X5 a0 w1 hF => ?_)
 case hob =>
  intro X
  subst hB
  repeat (first | exact trivial | refine ⟨rfl, ?_⟩ | refine ⟨fun _ => rfl, ?_⟩ | refine ⟨⟨fun _ _ => by kernel_rfl, SCz⟩, ?_⟩ | refine ⟨fun _ => ⟨fun _ _ => by kernel_rfl, SCz⟩, ?_⟩ | refine ⟨⟨fun _ _ => by kernel_rfl, S0 _ _⟩, ?_⟩ | refine ⟨fun _ => ⟨fun _ _ => by kernel_rfl, S0 _ _⟩, ?_⟩)
 replace hF := hF.headS (v' := .int .i64 n2) (by rw [show n2 = B.arith .add .i64 1 r0 by subst hB; rw [hn2]; exact (wrap_in (by omega) (by omega)).symm]; exact zr) rfl
 refine wp_seq (drg hB TA_ok [8] [] [(3, .r fun y => .sl none (y.A 0) n1 (y.c 0) 2 (fun t => itC (f1 t))), (9, .r fun _ => .int .i64 r1)] hF (hob := ?hob) fun X6 a0 w1 hF => ?_)
 case hob =>
  intro X
  subst hB
  repeat (first | exact trivial | refine ⟨rfl, ?_⟩ | refine ⟨fun _ => rfl, ?_⟩ | refine ⟨⟨fun _ _ => by kernel_rfl, SCo⟩, ?_⟩ | refine ⟨fun _ => ⟨fun _ _ => by kernel_rfl, SCo⟩, ?_⟩ | refine ⟨⟨fun _ _ => by kernel_rfl, S1 _ _⟩, ?_⟩ | refine ⟨fun _ => ⟨fun _ _ => by kernel_rfl, S1 _ _⟩, ?_⟩)
 refine wp_ret ((rsi hB TA_ok hF nAt (he := ?_)))
 subst hB
 rw [hW, show n2 + r1 = std.arith .add .i64 n2 r1 from (wrap_in (by omega) (by omega)).symm]
 exact zr
theorem many_s (b : Int) : ∀ (fu : Nat) (A : Option Addr) (n c : Nat) (f : Nat → Itm) (q : Lab) (m : Int), n ≤ 1000000 → fu ≤ 65 → -5000 ≤ m → m ≤ 2000 → Blo b fu (firsts f n) q → Spec Tryz.prog 47 [rowI A n c f, labAV q, .int .i64 b, .int .i64 m] (fun _ => .int .i64 (manP b fu (firsts f n) q m))
 | 0, A, n, c, f, q, m, _, _, _, _, h => h.gro.pos.elim
 | fu + 1, A, n, c, f, q, m, h1, h2, h3, h4, h5 => many_step A n c f q b m fu (many_s b fu) h1 h2 h3 h4 h5
theorem insL_split (x : Lab) : ∀ (l : List Lab) (p : Nat), p ≤ l.length → (∀ t, t < p → lessL x (l.getD t ⟨0, 0⟩) = false) → (p < l.length → lessL x (l.getD p ⟨0, 0⟩) = true) → insL x l = l.take p ++ x :: l.drop p
 | [], p, h1, _, _ => by
  have : p = 0 := by simpa using h1
  subst this; rfl
 | y :: l, 0, _, _, h3 => by
  have := h3 (by simp)
  unfold insL
  rw [if_pos (by simpa using this)]
  rfl
 | y :: l, p + 1, h1, h2, h3 => by
  have h0 := h2 0 (by omega)
  unfold insL
  rw [if_neg (by simpa using h0)]
  rw [insL_split x l p (by simpa using h1) (fun t ht => by have := h2 (t + 1) (by omega); simpa using this) (fun h => by have := h3 (by simpa using h); simpa using this)]
  rfl
def catF (g : Nat → Lab) (p : Nat) (x : Lab) : Nat → Lab := fun t => if t < p then g t else if t = p then x else g (t - 1)
theorem map_cat {g : Nat → Lab} {q p : Nat} (x : Lab) (hp : p ≤ q) : (List.range (q + 1)).map (catF g p x) = ((List.range q).map g).take p ++ x :: ((List.range q).map g).drop p := by
 apply List.ext_getElem?
 intro t
 by_cases h1 : t < p
 ·rw [List.getElem?_append_left (by simp; omega)]
  simp [List.getElem?_take, h1, show t < q + 1 by omega, show t < q by omega, catF]
 rw [List.getElem?_append_right (by simp; omega)]
 by_cases h2 : t = p
 ·subst h2
  simp [catF, Nat.min_eq_left hp, show t < q + 1 by omega]
 have hm : t - min p q = (t - p - 1) + 1 := by rw [Nat.min_eq_left hp]; omega
 simp only [List.length_take, List.length_map, List.length_range]
 rw [hm, List.getElem?_cons_succ, List.getElem?_drop, show p + (t - p - 1) = t - 1 by omega]
 by_cases h3 : t < q + 1
 ·simp [h3, show t - 1 < q by omega, catF, h1, h2]
 simp [h3, show ¬ t - 1 < q by omega]
theorem sortL_snoc (l : List Lab) (x : Lab) : sortL (l ++ [x]) = insL x (sortL l) := by unfold sortL; rw [List.foldl_append]; rfl
theorem ins_cat {g : Nat → Lab} {q p : Nat} {x : Lab} (hp : p ≤ q) (h1 : ∀ t, t < p → lessL x (g t) = false) (h2 : p < q → lessL x (g p) = true) : insL x ((List.range q).map g) = (List.range (q + 1)).map (catF g p x) := by
 rw [map_cat x hp]
 refine insL_split x _ p (by simpa using hp) (fun t ht => ?_) (fun h => ?_)
 ·rw [show ((List.range q).map g).getD t ⟨0, 0⟩ = g t by simp [List.getD_eq_getElem?_getD, show t < q by omega]]
  exact h1 t ht
 have h : p < q := by simpa using h
 rw [show ((List.range q).map g).getD p ⟨0, 0⟩ = g p by simp [List.getD_eq_getElem?_getD, h]]
 exact h2 h
theorem rleaves_s (A : Option Addr) (n c : Nat) (f : Nat → RowA) (hn : n ≤ 100000) : Spec Tryz.prog 16 [rowsV A n c f] (fun y => labsV (y.A 0) (leavesP (rwsA f n)).length (y.c 0) (labF (leavesP (rwsA f n)))) := by
 intro m w hm hargs
 have hmx : maxLen = 9223372036854775807 := rfl
 refine en 59 hm hargs Tryz.func16 fun B hB a0 hF => ?_
 refine wp_seq (rg hB TA_ok [0] [] [] hF fun X0 a0 w1 hF => ?_)
 refine wp_seq (rg hB TA_ok [3, 0] [3, 5, 43, 51, 56] [] hF fun X1 a0 w1 hF => ?_)
 refine wp_seq (wp_seq (rg hB TA_ok [3, 4, 0] [3, 5, 43, 51, 56] [] hF fun X2 a0 w1 hF => ?_))
 replace hF := hF.headS (v' := .sl none none 0 0 2 (fun t => labC ⟨0, 0⟩)) sim_nils rfl
 replace hF := hF.keep [3,4,0] []
 refine wp_block (loop_pre (ι := Nat × Nat × (Nat → Lab) × Option Addr × Nat) (fun p => [(3, .sl none p.2.2.2.1 p.2.1 p.2.2.2.2 2 (fun t => labC (p.2.2.1 t))), (4, .int .i64 (p.1 : Int))]) (fun p => []) (fun p => []) (fun p => p.1 ≤ n ∧ p.2.1 ≤ p.1 ∧ (List.range p.2.1).map p.2.2.1 = sortL (leafs (rwsA f p.1))) (fun p => n - p.1) (0, 0, fun _ => ⟨0, 0⟩, none, 0) ⟨Nat.zero_le _, Nat.le_refl _, rfl⟩ hF ?_)
 rintro ⟨i, q, g, A1, c1⟩ ⟨hi, hq, hg⟩ a0 w1 hF
 try dsimp only at hi
 try dsimp only at hq
 try dsimp only at hg
 refine wp_seq (wp_seq (rg hB TA_ok [10, 3, 4, 0] [3, 5, 43, 51, 56] [] hF fun X3 a0 w1 hF => ?_))
 apply test_ok hF rfl <;> intro hb hF
 ·have hin : i < n := by
   have : (i : Int) < (n : Int) := by subst hB; simpa [std, sC] using hb
   omega
  refine wp_skip (wp_seq (wp_block (wp_seq (wp_seq (rg hB TA_ok [19, 3, 4, 0] [3, 5, 43, 51, 56] [] hF (hob := ?hob) fun X5 a0 w1 hF => ?_)))))
  case hob =>
   intro X
   subst hB
   repeat (first | exact trivial | refine ⟨rfl, ?_⟩ | refine ⟨(show (0 : Int) ≤ (i : Int) ∧ (i : Int) < (n : Int) by omega), ?_⟩)
  apply test_ok hF rfl <;> intro hb hF
  ·have hk : ¬ (f i).x.r.kd = 1 := by subst hB; simpa [std, sC] using hb
   refine wp_exit (rg hB TA_ok [3, 4, 0] [3, 5, 43, 51, 56] [] hF fun X4 a0 w1 hF => ?_)
   have e : B.arith .add .i64 (i : Int) 1 = ((i + 1 : Nat) : Int) := by subst hB; exact wrap_succ (n := n) hin (by omega)
   refine ⟨(i + 1, q, g, _, _), ⟨by simp only; omega, by simp only; omega, ?_⟩, by simp only; omega, by rw [← e]; exact hF⟩
   simp only
   rw [hg, leafs_step, if_neg hk, List.append_nil]
  have hk : (f i).x.r.kd = 1 := by subst hB; simpa [std, sC] using hb
  obtain ⟨x, hx⟩ := eqv ((f i).lab)
  refine wp_skip (wp_seq (rg hB TA_ok [5, 3, 4, 0] [3, 5, 43, 51, 56] [] hF fun X6 a0 w1 hF => ?_))
  refine wp_seq (rg hB TA_ok [6, 5, 3, 4, 0] [3, 5, 43, 51, 56] [] hF fun X7 a0 w1 hF => ?_)
  refine wp_seq (wp_block (loop_pre (ι := Nat) (fun p => [(6, .int .i64 (p : Int))]) (fun p => []) (fun p => []) (fun p => p ≤ q ∧ ∀ t, t < p → lessL (f i).lab (g t) = false) (fun p => q - p) 0 ⟨Nat.zero_le _, fun t ht => absurd ht (Nat.not_lt_zero _)⟩ hF ?_))
  rintro j ⟨hj, hjl⟩ a0 w1 hF
  try dsimp only at hj
  try dsimp only at hjl
  obtain ⟨ls, hlsE⟩ := eqv (lessL (f i).lab (g j))
  have SL := less_s (f i).lab (g j)
  rw [← hlsE] at SL
  simp only [labAV] at SL
  refine wp_seq (wp_seq ?_)
  refine drg hB TA_ok [36, 6, 5, 3, 4, 0] [3, 5, 43, 51, 56] [(14, .r fun _ =>   .bool (.v ls))] hF (hob := by intro X; subst hB; simp only [AO, Ob.holds, BE.den, List.mem_cons, List.not_mem_nil, or_false, forall_eq_or_imp, forall_eq] <;> and_intros <;> repeat first | trivial | rfl | exact ⟨show (0 : Int) ≤ (i : Int) by omega, show (i : Int) < (n : Int) by omega⟩ | exact ⟨Int.natCast_nonneg _, (of_decide_eq_true h)⟩ | exact SL | exact (fun _ _ => by kernel_rfl) | refine ⟨?_, ?_⟩ | intro h | exact Int.le_refl _ | decide | omega) fun X8 a0 w1 hF => ?_
  apply test_ok hF rfl <;> intro hb hF
  ·have h9 : (j : Int) < (q : Int) ∧ ls = false := by subst hB; simpa [std, sC] using hb
   have hjq : j < q := by omega
   have hls : lessL (f i).lab (g j) = false := by rw [← hlsE]; exact h9.2
   refine wp_skip (wp_block (rg hB TA_ok [6, 5, 3, 4, 0] [3, 5, 43, 51, 56] [] hF fun X9 a0 w1 hF => ?_))
   have e : B.arith .add .i64 (j : Int) 1 = ((j + 1 : Nat) : Int) := by subst hB; exact wrap_succ (n := q) hjq (by omega)
   refine ⟨j + 1, ⟨by omega, fun t ht => ?_⟩, by omega, by rw [← e]; exact hF⟩
   by_cases h : t = j
   ·rw [h]; exact hls
   exact hjl t (by omega)
  have h9 : (j : Int) < (q : Int) → ls = true := by subst hB; simpa [std, sC] using hb
  have hst : j < q → lessL (f i).lab (g j) = true := fun h => by rw [← hlsE]; exact h9 (by omega)
  have hins := ins_cat hj hjl hst
  refine wp_exit (wp_seq (rg hB TA_ok [5, 6, 3, 4, 0] [3, 5, 43, 51, 56] [] hF fun X10 a0 w1 hF => ?_))
  replace hF := hF.headS (v' := .sl (some 5) ((X10 4).A 0) j ((X10 4).c 0) 2 (fun t => labC (g t))) (Sim.resl (by subst hB; show 0 + (Int.toNat (j : Int) - Int.toNat 0) = j; simp) (fun t ht => by
   subst hB
   show appC 0 _ (fromC 0 (fun t => labC (g t))) t = _
   unfold appC fromC
   simp)) rfl
  refine wp_seq (rg hB TA_ok [5, 6, 3, 4, 0] [3, 5, 43, 51, 56] [] hF fun X11 a0 w1 hF => ?_)
  replace hF := hF.headS (v' := .sl (some 5) ((X11 7).A 0) (j + 1) ((X11 7).c 0) 2 (fun t => labC (lSet g j (f i).lab t))) (Sim.resl (by subst hB; rfl) (fun t ht => by
   subst hB
   show appC j (fun t => labC (g t)) (chunk 2 [.int .i64 (f i).lab.len, .int .u64 (f i).lab.bits]) t = _
   unfold appC lSet
   split
   ·rw [if_neg (by omega)]
   have : t = j := by omega
   subst this
   simp [chunk, labC])) rfl
  refine wp_seq (rg hB TA_ok [5, 4, 0] [5, 43, 51, 56] [] hF fun X12 a0 w1 hF => ?_)
  replace hF := hF.headS (v' := .sl (some 5) ((X12 4).A 0) (q + 1) ((X12 4).c 0) 2 (fun t => labC (catF g j (f i).lab t))) (Sim.resl (by subst hB; show j + 1 + (q - Int.toNat (j : Int)) = q + 1; simp; omega) (fun t ht => by
   subst hB
   show appC (j + 1) (fun t => labC (lSet g j (f i).lab t)) (fromC j (fun t => labC (g t))) t = _
   unfold appC fromC lSet catF
   by_cases h1 : t < j
   ·simp [h1, show t < j + 1 by omega, show ¬ t = j by omega]
   by_cases h2 : t = j
   ·simp [h2]
   rw [if_neg (show ¬ t < j + 1 by omega), if_neg h1, if_neg h2]
   show labC (g (j + (t - (j + 1)))) = _
   congr 2
   omega)) rfl
  refine rg hB TA_ok [3, 4, 0] [3, 5, 43, 51, 56] [] hF fun X13 a0 w1 hF => ?_
  replace hF := hF.headS (v' := .sl none ((X12 4).A 0) (q + 1) ((X12 4).c 0) 2 (fun t => labC (catF g j (f i).lab t))) (Sim.recell (fun i hi => rfl)) rfl
  replace hF := hF.keep [3,4,0] []
  refine rg hB TA_ok [3, 4, 0] [3, 5, 43, 51, 56] [] hF fun X4 a0 w1 hF => ?_
  have e : B.arith .add .i64 (i : Int) 1 = ((i + 1 : Nat) : Int) := by subst hB; exact wrap_succ (n := n) hin (by omega)
  refine ⟨(i + 1, q + 1, catF g j (f i).lab, _, _), ⟨by simp only; omega, by simp only; omega, ?_⟩, by simp only; omega, by rw [← e]; exact hF⟩
  simp only
  rw [leafs_step, if_pos hk, sortL_snoc, ← hg, hins]
 have hout : i = n := by
  have : ¬ (i : Int) < (n : Int) := by subst hB; simpa [std, sC] using hb
  omega
 rw [hout] at hg
 refine wp_exit (wp_seq (rg hB TA_ok [2] [2, 3, 5, 43, 51, 56] [] hF fun X14 a0 w1 hF => ?_))
 refine wp_ret ((rsi hB TA_ok hF (⟨0, fun _ => A1, fun _ => c1, fun _ => ⟨#[]⟩⟩) (he := ?_)))
 subst hB
 have hlv : leavesP (rwsA f n) = (List.range q).map g := hg.symm
 rw [hlv, List.length_map, List.length_range]
 exact Sim.resl rfl (fun t ht => by rw [labF_map ht])
def triF (x : RowA) (k : Nat) (f g : Nat → RowA) : Nat → RowA := fun t => if t < 1 then x else if t < 1 + k then f (t - 1) else g (t - (1 + k))
theorem tri_rows {x : RowA} {k k2 : Nat} {f g : Nat → RowA} {R R2 : List Rw} (h : rwsA f k = R) (h2 : rwsA g k2 = R2) : rwsA (triF x k f g) (1 + k + k2) = x.abs :: (R ++ R2) := by
 subst h; subst h2
 apply List.ext_getElem?
 intro t
 match t with
 | 0 => simp [rwsA, listA, triF, show 0 < 1 + k + k2 by omega]
 | t + 1 =>
  rw [List.getElem?_cons_succ]
  by_cases h1 : t < k
  ·rw [List.getElem?_append_left (by simpa [listA] using h1)]
   simp [rwsA, listA, triF, h1, show t + 1 < 1 + k + k2 by omega, show ¬ t + 1 < 1 by omega, show t + 1 < 1 + k by omega]
  rw [List.getElem?_append_right (by simp [listA]; omega)]
  by_cases h3 : t - k < k2
  ·simp [rwsA, listA, triF, h3, show t + 1 < 1 + k + k2 by omega, show ¬ t + 1 < 1 + k by omega]
   congr 2
   omega
  rw [List.getElem?_eq_none (by simp [listA]; omega), List.getElem?_eq_none (by simp [listA]; omega)]
theorem rgrow_step (A : Option Addr) (n c : Nat) (f : Nat → Itm) (q : Lab) (b : Int) (nx : Lab) (fu : Nat) (IH : ∀ (A : Option Addr) (n c : Nat) (f : Nat → Itm) (q nx : Lab), n ≤ 1000000 → (nodes b fu (firsts f n) q).length ≤ 2000 → Blo b fu (firsts f n) q → Spec Tryz.prog 48 [rowI A n c f, labAV q, .int .i64 b, labAV nx] (fun y => rowsV (y.A 0) (chainR (nodes b fu (firsts f n) q) nx).length (y.c 0) (rwAt y (chainR (nodes b fu (firsts f n) q) nx)))) (hn : n ≤ 1000000) (hlen : (nodes b (fu + 1) (firsts f n) q).length ≤ 2000) (hBl : Blo b (fu + 1) (firsts f n) q) : Spec Tryz.prog 48 [rowI A n c f, labAV q, .int .i64 b, labAV nx] (fun y => rowsV (y.A 0) (chainR (nodes b (fu + 1) (firsts f n) q) nx).length (y.c 0) (rwAt y (chainR (nodes b (fu + 1) (firsts f n) q) nx))) := by
 intro m w hm hargs
 have hmx : maxLen = 9223372036854775807 := rfl
 obtain ⟨W, hWt⟩ := eqv (chainR (nodes b (fu + 1) (firsts f n) q) nx)
 rw [← hWt]
 simp only [labAV, rowI] at hargs
 refine en 64 hm hargs Tryz.func48 fun B hB a0 hF => ?_
 refine wp_seq (rg hB TA_ok [0, 2, 5, 7] [5, 7] [] hF fun X0 a0 w1 hF => ?_)
 refine wp_seq (wp_seq (rg hB TA_ok [19, 0, 2, 5, 7] [5, 7] [] hF (hob := ?hob) fun X1 a0 w1 hF => ?_))
 case hob =>
  intro X
  subst hB
  repeat (first | exact trivial | refine ⟨rfl, ?_⟩)
 apply test_ok hF rfl <;> intro hb hF
 ·have h9 : (n : Int) ≤ b := by subst hB; simpa [std, sC] using hb
  have hW : W = [⟨q, 1, ⟨1, firsts f n, nx, 0⟩⟩] := by rw [hWt]; unfold nodes; rw [if_pos (.inl (by rw [firsts_len]; exact h9))]; rfl
  refine wp_seq (rg hB TA_ok [8] [8, 25, 57, 60, 63] [] hF (hob := ?hob) fun X2 a0 w1 hF => ?_)
  case hob =>
   intro X
   subst hB
   repeat (first | exact trivial | refine ⟨rfl, ?_⟩)
  replace hF := hF.headS (v' := .sl none (some ⟨(X2 5).b, 0, none⟩) 1 1 8 (fun t => rowC ((fun _ => (⟨q, 1, ⟨A, c, ⟨n, f, 1, nx, 0⟩⟩⟩ : RowA)) t))) (Sim.recell (fun t ht => by
   have : t = 0 := by omega
   subst this
   subst hB
   rfl)) rfl
  refine wp_ret ((rsi hB TA_ok hF (rwY (some ⟨(X2 5).b, 0, none⟩) 1 (fun _ => (⟨q, 1, ⟨A, c, ⟨n, f, 1, nx, 0⟩⟩⟩ : RowA)) 0) (he := ?_)))
  subst hB
  rw [hW]
  exact rws_sim (f := fun _ => (⟨q, 1, ⟨A, c, ⟨n, f, 1, nx, 0⟩⟩⟩ : RowA)) rfl
 have h9 : ¬ (n : Int) ≤ b := by subst hB; simpa [std, sC] using hb
 have hlb : ¬ ((firsts f n).length : Int) ≤ b := by rw [firsts_len]; exact h9
 have hND := hBl.nodes hlb
 have h64 := hBl.deep hlb
 have SZ := rchild_s q hBl.gro.u 0 (.inl rfl)
 have SO := rchild_s q hBl.gro.u 1 (.inr rfl)
 obtain ⟨hce, hcv⟩ := ch_yes hBl.gro.is h64
 rw [hcv] at SZ SO
 have B0 := hBl.child h64 0
 have B1 := hBl.child h64 1
 obtain ⟨cz, hcz⟩ := eqv (childL q 0)
 obtain ⟨co, hco⟩ := eqv (childL q 1)
 obtain ⟨ez, hez⟩ := eqv (chE q 0)
 obtain ⟨eo, heo⟩ := eqv (chE q 1)
 rw [← hcz, ← hez] at SZ
 rw [← hco, ← heo] at SO
 rw [← hcz] at B0
 rw [← hco] at B1
 have hki : ∀ i, i < n → U64 (f i).key := fun i hi => hBl.ok.keys _ (List.mem_map.2 ⟨i, List.mem_range.2 hi, rfl⟩)
 have SCz := rcov4_s A n c f hn cz B0.gro.u hki
 have SCo := rcov4_s A n c f hn co B1.gro.u hki
 have hl0 := cov_len cz (firsts f n)
 have hl1 := cov_len co (firsts f n)
 rw [firsts_len] at hl0 hl1
 obtain ⟨C0, hC0⟩ := eqv (covL cz (firsts f n))
 obtain ⟨C1, hC1⟩ := eqv (covL co (firsts f n))
 rw [← hC0] at SCz B0 hl0
 rw [← hC1] at SCo B1 hl1
 obtain ⟨f0, hf0⟩ := eqv (itF C0)
 obtain ⟨f1, hf1⟩ := eqv (itF C1)
 obtain ⟨n0, hn0⟩ := eqv (C0.length)
 obtain ⟨n1, hn1⟩ := eqv (C1.length)
 have e0 : C0 = firsts f0 n0 := by rw [hf0, hn0]; exact (firsts_itF' C0).symm
 have e1 : C1 = firsts f1 n1 := by rw [hf1, hn1]; exact (firsts_itF' C1).symm
 rw [← hf0, ← hn0] at SCz
 rw [← hf1, ← hn1] at SCo
 rw [← hn0] at hl0
 rw [← hn1] at hl1
 rw [e0] at B0
 rw [e1] at B1
 rw [← hcz, ← hco, ← hC0, ← hC1, e0, e1] at hND
 rw [hND] at hlen hWt
 simp only [List.length_cons, List.length_append] at hlen
 have S1 := fun (A2 : Option Addr) (c2 : Nat) => IH A2 n1 c2 f1 co nx (by omega) (by omega) B1
 have hlv := chain_leaves (b := b) (l := firsts f1 n1) B1.gro nx
 have hhd := hd_first (b := b) (l := firsts f1 n1) B1.gro nx
 have hlp := lfs_pos (b := b) (l := firsts f1 n1) B1.gro
 have S0 := fun (A2 : Option Addr) (c2 : Nat) => IH A2 n0 c2 f0 cz (hdL (nodes b fu (firsts f1 n1) co) nx) (by omega) (by omega) B0
 have hW : W = ⟨q, 1, innR⟩ :: (chainR (nodes b fu (firsts f0 n0) cz) (hdL (nodes b fu (firsts f1 n1) co) nx) ++ chainR (nodes b fu (firsts f1 n1) co) nx) := by rw [hWt, chainR, chain_app]; rfl
 have hc0 := chain_len (nodes b fu (firsts f0 n0) cz) (hdL (nodes b fu (firsts f1 n1) co) nx)
 have hc1 := chain_len (nodes b fu (firsts f1 n1) co) nx
 obtain ⟨R1, hR1⟩ := eqv (chainR (nodes b fu (firsts f1 n1) co) nx)
 obtain ⟨R0, hR0⟩ := eqv (chainR (nodes b fu (firsts f0 n0) cz) (hdL (nodes b fu (firsts f1 n1) co) nx))
 rw [← hR0, ← hR1] at hW
 rw [← hR0] at hc0
 rw [← hR1] at hc1 hlv
 simp only [← hR1] at S1
 simp only [← hR0] at S0
 obtain ⟨k1, hk1⟩ := eqv (R1.length)
 obtain ⟨k0, hk0⟩ := eqv (R0.length)
 obtain ⟨G1, hG1⟩ : ∃ G : Atom → Nat → RowA, G = fun y => rwAt y R1 := ⟨_, rfl⟩
 obtain ⟨G0, hG0⟩ : ∃ G : Atom → Nat → RowA, G = fun y => rwAt y R0 := ⟨_, rfl⟩
 have g1 : ∀ y, rwAt y R1 = G1 y := fun y => by rw [hG1]
 have g0 : ∀ y, rwAt y R0 = G0 y := fun y => by rw [hG0]
 have w1r : ∀ y, rwsA (G1 y) k1 = R1 := fun y => by rw [← g1, hk1]; exact rwsA_rwAt y R1
 have w0r : ∀ y, rwsA (G0 y) k0 = R0 := fun y => by rw [← g0, hk0]; exact rwsA_rwAt y R0
 simp only [← hk1, g1] at S1
 simp only [← hk0, g0] at S0
 rw [← hk0] at hc0
 rw [← hk1] at hc1
 have SL := fun (y : Atom) (A2 : Option Addr) (c2 : Nat) => rleaves_s A2 k1 c2 (G1 y) (by omega)
 simp only [w1r, hlv] at SL
 obtain ⟨lf, hlf⟩ := eqv (labF (lfs (nodes b fu (firsts f1 n1) co)))
 obtain ⟨ln, hln⟩ := eqv ((lfs (nodes b fu (firsts f1 n1) co)).length)
 simp only [← hlf, ← hln] at SL
 rw [← hln] at hlp
 rw [← hlf] at hhd
 simp only [← hhd] at S0
 have SNo := rnone_s
 simp only [labAV, rowI] at SZ SO SCz SCo S0 S1 SNo
 refine wp_skip (wp_seq (rg hB TA_ok [0, 2, 5, 7, 9] [5, 7, 9] [(1, .r fun _ => .tup [.agg [.int .i64 cz.len, .int .u64 cz.bits], .int .i64 ez])] hF (hob := ?hob) fun X3 a0 w1 hF => ?_))
 case hob =>
  intro X
  subst hB
  repeat (first | exact trivial | refine ⟨rfl, ?_⟩ | refine ⟨fun _ => rfl, ?_⟩ | refine ⟨⟨fun _ _ => by kernel_rfl, SZ⟩, ?_⟩ | refine ⟨fun _ => ⟨fun _ _ => by kernel_rfl, SZ⟩, ?_⟩)
 refine wp_seq (rg hB TA_ok [0, 2, 5, 7, 9, 11] [5, 7, 9, 11] [(1, .r fun _ => .tup [.agg [.int .i64 co.len, .int .u64 co.bits], .int .i64 eo])] hF (hob := ?hob) fun X4 a0 w1 hF => ?_)
 case hob =>
  intro X
  subst hB
  repeat (first | exact trivial | refine ⟨rfl, ?_⟩ | refine ⟨fun _ => rfl, ?_⟩ | refine ⟨⟨fun _ _ => by kernel_rfl, SO⟩, ?_⟩ | refine ⟨fun _ => ⟨fun _ _ => by kernel_rfl, SO⟩, ?_⟩)
 refine wp_seq (drg hB TA_ok [13, 0, 2, 5, 9] [5, 9] [(2, .r fun y => .sl none (y.A 0) n1 (y.c 0) 2 (fun t => itC (f1 t))), (6, .r fun y => .sl none (y.A 0) k1 (y.c 0) 8 (fun t => rowC (G1 y t)))] hF (hob := ?hob) fun X5 a0 w1 hF => ?_)
 case hob =>
  intro X
  subst hB
  repeat (first | exact trivial | refine ⟨rfl, ?_⟩ | refine ⟨fun _ => rfl, ?_⟩ | refine ⟨⟨fun _ _ => by kernel_rfl, SCo⟩, ?_⟩ | refine ⟨fun _ => ⟨fun _ _ => by kernel_rfl, SCo⟩, ?_⟩ | refine ⟨⟨fun _ _ => by kernel_rfl, S1 _ _⟩, ?_⟩ | refine ⟨fun _ => ⟨fun _ _ => by kernel_rfl, S1 _ _⟩, ?_⟩)
 refine wp_seq (drg hB TA_ok [14, 13, 5] [5] [(2, .r fun y => .sl none (y.A 0) n0 (y.c 0) 2 (fun t => itC (f0 t))), (6, .r fun y => .sl none (y.A 0) ln (y.c 0) 2 (fun t => labC (lf t))), (9, .r fun y => .sl none (y.A 0) k0 (y.c 0) 8 (fun t => rowC (G0 y t)))] hF (hob := ?hob) fun X6 a0 w1 hF => ?_)
 case hob =>
  intro X
  subst hB
  repeat (first | exact trivial | refine ⟨rfl, ?_⟩ | refine ⟨fun _ => rfl, ?_⟩ | refine ⟨⟨Int.le_refl _, (show (0 : Int) < (ln : Int) by omega)⟩, ?_⟩ | refine ⟨⟨fun _ _ => by kernel_rfl, SCz⟩, ?_⟩ | refine ⟨fun _ => ⟨fun _ _ => by kernel_rfl, SCz⟩, ?_⟩ | refine ⟨⟨fun _ _ => by kernel_rfl, SL _ _ _⟩, ?_⟩ | refine ⟨fun _ => ⟨fun _ _ => by kernel_rfl, SL _ _ _⟩, ?_⟩ | refine ⟨⟨fun _ _ => by kernel_rfl, S0 _ _⟩, ?_⟩ | refine ⟨fun _ => ⟨fun _ _ => by kernel_rfl, S0 _ _⟩, ?_⟩)
 refine wp_seq (drg hB TA_ok [15, 14, 13] [57] [(1, .r fun _ => .agg [.int .i64 noneL.len, .int .u64 noneL.bits])] hF (hob := ?hob) fun X7 a0 w1 hF => ?_)
 case hob =>
  intro X
  subst hB
  repeat (first | exact trivial | refine ⟨rfl, ?_⟩ | refine ⟨fun _ => rfl, ?_⟩ | refine ⟨⟨fun _ _ => by kernel_rfl, SNo⟩, ?_⟩ | refine ⟨fun _ => ⟨fun _ _ => by kernel_rfl, SNo⟩, ?_⟩)
 refine wp_seq (rg hB TA_ok [15, 13] [57] [] hF (hob := ?hob) fun X8 a0 w1 hF => ?_)
 case hob =>
  intro X
  subst hB
  repeat (first | exact trivial | refine ⟨rfl, ?_⟩ | refine ⟨⟨rfl, rfl, rfl⟩, ?_⟩ | refine ⟨⟨show 1 + k0 ≤ maxLen by omega, show (1 + k0) * _ ≤ _ by omega⟩, ?_⟩)
 refine wp_seq (rg hB TA_ok [8] [57] [] hF (hob := ?hob) fun X9 a0 w1 hF => ?_)
 case hob =>
  intro X
  subst hB
  repeat (first | exact trivial | refine ⟨rfl, ?_⟩ | refine ⟨⟨rfl, rfl, rfl⟩, ?_⟩ | refine ⟨⟨show 1 + k0 + k1 ≤ maxLen by omega, show (1 + k0 + k1) * _ ≤ _ by omega⟩, ?_⟩)
 replace hF := hF.headS (v' := .sl none ((X9 2).A 0) (1 + k0 + k1) ((X9 2).c 0) 8 (fun t => rowC (triF (⟨q, 1, ⟨none, 0, ⟨0, fun _ => zeroItm, 2, noneL, 0⟩⟩⟩ : RowA) k0 (G0 (X6 9)) (G1 (X5 6)) t))) (Sim.rows (by subst hB; rfl) (fun t ht => by
  subst hB
  show SimL (appC (1 + k0) (appC 1 (chunk 8 [.int .i64 q.len, .int .u64 q.bits, .int .u64 1, .int .i64 2, .sl none none 0 0 2 (fun _ => []), .int .i64 noneL.len, .int .u64 noneL.bits, .int .u64 0]) (fun t => rowC (G0 (X6 9) t))) (fun t => rowC (G1 (X5 6) t)) t) _
  unfold appC triF
  by_cases h1 : t < 1
  ·rw [if_pos (show t < 1 + k0 by omega), if_pos h1, if_pos h1]
   have : t = 0 := by omega
   subst this
   exact ⟨zr, zr, zr, zr, sim_nils, zr, zr, zr, trivial⟩
  by_cases h2 : t < 1 + k0
  ·rw [if_pos h2, if_neg h1, if_neg h1, if_pos h2]; exact zl
  rw [if_neg h2, if_neg h1, if_neg h2]; exact zl)) rfl
 refine wp_ret ((rsi hB TA_ok hF (rwY ((X9 2).A 0) ((X9 2).c 0) (triF (⟨q, 1, ⟨none, 0, ⟨0, fun _ => zeroItm, 2, noneL, 0⟩⟩⟩ : RowA) k0 (G0 (X6 9)) (G1 (X5 6))) 0) (he := ?_)))
 subst hB
 rw [hW]
 exact rws_sim (tri_rows (w0r _) (w1r _))
theorem rgrow_s (b : Int) : ∀ (fu : Nat) (A : Option Addr) (n c : Nat) (f : Nat → Itm) (q nx : Lab), n ≤ 1000000 → (nodes b fu (firsts f n) q).length ≤ 2000 → Blo b fu (firsts f n) q → Spec Tryz.prog 48 [rowI A n c f, labAV q, .int .i64 b, labAV nx] (fun y => rowsV (y.A 0) (chainR (nodes b fu (firsts f n) q) nx).length (y.c 0) (rwAt y (chainR (nodes b fu (firsts f n) q) nx)))
 | 0, A, n, c, f, q, nx, _, _, h => h.gro.pos.elim
 | fu + 1, A, n, c, f, q, nx, h1, h2, h3 => rgrow_step A n c f q b nx fu (rgrow_s b fu) h1 h2 h3
def g3F : Nat → Itm := fun t => match t with | 0 => ⟨1, ⟨#[]⟩⟩ | 1 => ⟨2, ⟨#[]⟩⟩ | _ => ⟨9223372036854775808, ⟨#[]⟩⟩
def g2F : Nat → Itm := fun _ => ⟨1, ⟨#[]⟩⟩
def g3R : List Rw := [⟨⟨0, 0⟩, 1, ⟨2, [], noneL, 0⟩⟩, ⟨⟨1, 0⟩, 1, ⟨1, [⟨1, ⟨#[]⟩⟩, ⟨2, ⟨#[]⟩⟩], ⟨1, 9223372036854775808⟩, 0⟩⟩, ⟨⟨1, 9223372036854775808⟩, 1, ⟨1, [⟨9223372036854775808, ⟨#[]⟩⟩], noneL, 0⟩⟩]
theorem g3_rows : bldR 3 g3F 2 = g3R := by kernel_rfl
theorem g3_err : bldE 3 g3F 2 = 0 := by kernel_rfl
theorem g2_err : bldE 2 g2F 2 = 1 := by kernel_rfl
theorem g3_items : itemsP g3R = firsts g3F 3 := by kernel_rfl
theorem g3_itemsE : itemsE g3R = 0 := by kernel_rfl
theorem g3_well : wellP g3R 2 = true := by kernel_rfl
theorem g3_well1 : wellP g3R 1 = false := by kernel_rfl
theorem g3_is : isRw g3R = true := by kernel_rfl
theorem g3_lv : (leavesP g3R).length = 2 := by kernel_rfl
theorem rw_in {l : List Rw} (h : ∀ w ∈ l, w.r.items.length ≤ 1000000 ∧ LabOk w.lab ∧ U64 w.lab.bits ∧ U64 w.r.next.bits) (y : Atom) : RwN l.length (rwAt y l) := by
 intro i hi
 unfold rwAt
 rw [List.getD_eq_getElem?_getD, List.getElem?_eq_getElem hi]
 exact h _ (List.getElem_mem hi)
theorem rw_inK {l : List Rw} (h : ∀ w ∈ l, ∀ x ∈ w.r.items, U64 x.key) (y : Atom) : RwK l.length (rwAt y l) := by
 intro i hi t ht
 unfold rwAt at ht ⊢
 rw [List.getD_eq_getElem?_getD, List.getElem?_eq_getElem hi] at ht ⊢
 have ht : t < (l[i].r.items).length := ht
 show U64 ((l[i].r.items).getD t zeroItm).key
 rw [List.getD_eq_getElem?_getD, List.getElem?_eq_getElem ht]
 exact h _ (List.getElem_mem hi) _ (List.getElem_mem ht)
theorem g3_n (y : Atom) : RwN 3 (rwAt y g3R) := rw_in (l := g3R) (by
 intro w hw
 simp only [g3R, List.mem_cons, List.not_mem_nil, or_false] at hw
 rcases hw with rfl | rfl | rfl <;> exact ⟨by decide, labOk_is (by decide) ⟨by decide, by decide⟩, ⟨by decide, by decide⟩, ⟨by decide, by decide⟩⟩) y
theorem g3_k (y : Atom) : RwK 3 (rwAt y g3R) := rw_inK (l := g3R) (by
 intro w hw
 simp only [g3R, List.mem_cons, List.not_mem_nil, or_false] at hw
 rcases hw with rfl | rfl | rfl
 ·intro x hx; cases hx
 ·intro x hx
  simp only [List.mem_cons, List.not_mem_nil, or_false] at hx
  rcases hx with rfl | rfl <;> exact ⟨by decide, by decide⟩
 intro x hx
 simp only [List.mem_cons, List.not_mem_nil, or_false] at hx
 rcases hx with rfl; exact ⟨by decide, by decide⟩) y
theorem g3_same {IP : List Itm} (h : IP = firsts g3F 3) : sameF IP.length (itF IP) 3 g3F = true := by
 subst h
 refine sameF_yes (by rw [firsts_len]) fun i hi => ?_
 rw [firsts_len] at hi
 exact firsts_get _ _ i hi
theorem grown_s : Spec Tryz.prog 8 [] (fun _ => .bool (.v true)) := by
 intro m w hm hargs
 have hmx : maxLen = 9223372036854775807 := rfl
 obtain ⟨f3, hf3⟩ := eqv (g3F)
 obtain ⟨f2, hf2⟩ := eqv (g2F)
 obtain ⟨RF, hRF⟩ : ∃ RF : Atom → Nat → RowA, RF = fun y => rwAt y g3R := ⟨_, rfl⟩
 have hRy : ∀ y, rwAt y g3R = RF y := fun y => by rw [hRF]
 have hRR : ∀ y, rwsA (RF y) 3 = g3R := fun y => by rw [hRF]; exact rwsA_rwAt y g3R
 have SB := fun (A : Option Addr) (c : Nat) => build_s A 3 c g3F (by decide) (fun i hi => by match i, hi with | 0, _ => exact ⟨by decide, by decide⟩ | 1, _ => exact ⟨by decide, by decide⟩ | 2, _ => exact ⟨by decide, by decide⟩) 2
 simp only [g3_rows, g3_err, show g3R.length = 3 from rfl, hRy] at SB
 simp only [← hf3] at SB
 have SB2 := fun (A : Option Addr) (c : Nat) => build_s A 2 c g2F (by decide) (fun i hi => ⟨by show (0 : Int) ≤ 1; decide, by show (1 : Int) < _; decide⟩) 2
 obtain ⟨R2, hR2⟩ := eqv (bldR 2 g2F 2)
 obtain ⟨n2, hn2⟩ := eqv (R2.length)
 obtain ⟨RG, hRG⟩ : ∃ RG : Atom → Nat → RowA, RG = fun y => rwAt y R2 := ⟨_, rfl⟩
 have hRz : ∀ y, rwAt y R2 = RG y := fun y => by rw [hRG]
 simp only [g2_err] at SB2
 simp only [← hR2] at SB2
 simp only [← hn2, hRz] at SB2
 simp only [← hf2] at SB2
 have hN : ∀ y, RwN 3 (RF y) := fun y => by rw [← hRy]; exact g3_n y
 have hK : ∀ y, RwK 3 (RF y) := fun y => by rw [← hRy]; exact g3_k y
 obtain ⟨IP, hIP⟩ := eqv (itemsP g3R)
 obtain ⟨kf, hkf⟩ := eqv (itF IP)
 obtain ⟨kn, hkn⟩ := eqv (IP.length)
 have SI := fun (y : Atom) (A : Option Addr) (c : Nat) => items_s A 3 c (RF y) (by decide) (hN y) (hK y)
 simp only [hRR, ← hIP, g3_itemsE, ← hkf, ← hkn] at SI
 have SW2 := fun (y : Atom) (A : Option Addr) (c : Nat) => well_s A 3 c (RF y) (by decide) (hN y) (hK y) 2
 simp only [hRR, g3_well] at SW2
 have SW1 := fun (y : Atom) (A : Option Addr) (c : Nat) => well_s A 3 c (RF y) (by decide) (hN y) (hK y) 1
 simp only [hRR, g3_well1] at SW1
 have ST := fun (y : Atom) (A : Option Addr) (c : Nat) => tis_s A 3 c (RF y) (by decide) (hN y)
 simp only [hRR, g3_is] at ST
 obtain ⟨lf, hlf⟩ := eqv (labF (leavesP g3R))
 have SL := fun (y : Atom) (A : Option Addr) (c : Nat) => leaves_s A 3 c (RF y) (by decide)
 simp only [hRR, g3_lv, ← hlf] at SL
 have h16 : 16 ≤ maxLen := by decide
 have hkn3 : kn = 3 := by rw [hkn, hIP, g3_items, firsts_len]
 have SS := fun (A A2 : Option Addr) (c c2 : Nat) => same7_s A kn c kf (by omega) A2 3 c2 g3F
 rw [hkn, hkf, g3_same (by rw [hIP, g3_items]), ← hkn, ← hkf] at SS
 simp only [← hf3] at SS
 simp only [rowI] at SB SB2 SI SS
 have v0 : ∀ y, (RF y 0).x.r.kd = 2 := fun y => by rw [← hRy]; rfl
 have v1 : ∀ y, (RF y 1).x.r.n = 2 := fun y => by rw [← hRy]; rfl
 have v2 : ∀ y, (RF y 1).x.r.nx = (RF y 2).lab := fun y => by rw [← hRy]; rfl
 refine en 95 hm hargs Tryz.func8 fun B hB a0 hF => ?_
 refine wp_seq (rg hB TA_ok [] [] [] hF fun X0 a0 w1 hF => ?_)
 refine wp_seq (rg hB TA_ok [1] [11] [] hF fun X1 a0 w1 hF => ?_)
 replace hF := hF.headS (v' := .sl none _ 3 _ 2 (fun t => itC (f3 t))) (Sim.recell (fun i hi => by subst hB; rw [hf3]; match i, hi with | 0, _ => rfl | 1, _ => rfl | 2, _ => rfl)) rfl
 refine wp_seq (rg hB TA_ok [2, 3, 1] [11] [(1, .r fun y => .tup [.sl none (y.A 0) 3 (y.c 0) 8 (fun i => rowC (RF y i)), .int .i64 0])] hF (hob := ?hob) fun X2 a0 w1 hF => ?_)
 case hob =>
  intro X
  subst hB
  repeat (first | exact trivial | refine ⟨rfl, ?_⟩ | refine ⟨fun _ => rfl, ?_⟩ | refine ⟨⟨fun _ _ => by kernel_rfl, SB _ _⟩, ?_⟩ | refine ⟨fun _ => ⟨fun _ _ => by kernel_rfl, SB _ _⟩, ?_⟩ | refine ⟨fun _ => ob_lab (Kk := noK) _ _ _ _, ?_⟩ | refine ⟨fun _ => ⟨by decide, by decide⟩, ?_⟩)
 refine wp_seq (rg hB TA_ok [5, 2, 3, 1] [11, 20] [(3, .r fun y => .tup [.sl none (y.A 0) n2 (y.c 0) 8 (fun i => rowC (RG y i)), .int .i64 1])] hF (hob := ?hob) fun X3 a0 w1 hF => ?_)
 case hob =>
  intro X
  subst hB
  repeat (first | exact trivial | refine ⟨rfl, ?_⟩ | refine ⟨fun _ => rfl, ?_⟩ | refine ⟨⟨fun _ _ => by kernel_rfl, ((SB2 _ _).args' ⟨Sim.recell (fun i hi => by rw [hf2]; match i, hi with | 0, _ => rfl | 1, _ => rfl), zr, trivial⟩)⟩, ?_⟩ | refine ⟨fun _ => ⟨fun _ _ => by kernel_rfl, ((SB2 _ _).args' ⟨Sim.recell (fun i hi => by rw [hf2]; match i, hi with | 0, _ => rfl | 1, _ => rfl), zr, trivial⟩)⟩, ?_⟩ | refine ⟨fun _ => ob_lab (Kk := noK) _ _ _ _, ?_⟩ | refine ⟨fun _ => ⟨by decide, by decide⟩, ?_⟩)
 refine wp_seq (wp_seq (rg hB TA_ok [42, 2, 1] [11] [] hF (hob := ?hob) fun X4 a0 w1 hF => ?_))
 case hob =>
  intro X
  subst hB
  repeat (first | exact trivial | refine ⟨rfl, ?_⟩ | refine ⟨fun _ => ⟨by decide, by decide⟩, ?_⟩)
 apply test_ok hF rfl <;> intro hb hF
 ·have h9 : (RF (X2 1) 0).x.r.kd ≠ 2 := by subst hB; revert hb; simp [std, sC]
  have hfl : False := h9 (v0 _)
  refine wp_seq (rg hB TA_ok [0] [] [] hF fun X5 a0 w1 hF => ?_)
  refine wp_ret ((rsi hB TA_ok hF nAt (he := ?_)))
  exact hfl.elim
 refine wp_skip (wp_seq (rg hB TA_ok [6, 7, 2, 1] [11] [(1, .r fun y => .tup [.sl none (y.A 0) kn (y.c 0) 2 (fun t => itC (kf t)), .int .i64 0])] hF (hob := ?hob) fun X6 a0 w1 hF => ?_))
 case hob =>
  intro X
  subst hB
  repeat (first | exact trivial | refine ⟨rfl, ?_⟩ | refine ⟨fun _ => rfl, ?_⟩ | refine ⟨⟨fun _ _ => by kernel_rfl, SI _ _ _⟩, ?_⟩ | refine ⟨fun _ => ⟨fun _ _ => by kernel_rfl, SI _ _ _⟩, ?_⟩ | refine ⟨fun _ => ob_lab (Kk := noK) _ _ _ _, ?_⟩ | refine ⟨fun _ => ⟨by decide, by decide⟩, ?_⟩)
 refine wp_seq (drg hB TA_ok [0] [] [(5, .r fun _ => .bool (.v true)), (9, .r fun _ => .bool (.v true)), (13, .r fun _ => .bool (.v false)), (18, .r fun _ => .bool (.v true)), (22, .r fun y => .sl none (y.A 0) 2 (y.c 0) 2 (fun t => labC (lf t)))] hF (hob := ?hob) fun X7 a0 w1 hF => ?_)
 case hob =>
  intro X
  subst hB
  repeat (first | exact trivial | refine ⟨rfl, ?_⟩ | refine ⟨fun _ => rfl, ?_⟩ | refine ⟨⟨fun _ _ => by kernel_rfl, SS _ _ _ _⟩, ?_⟩ | refine ⟨fun _ => ⟨fun _ _ => by kernel_rfl, SS _ _ _ _⟩, ?_⟩ | refine ⟨⟨fun _ _ => by kernel_rfl, SW2 _ _ _⟩, ?_⟩ | refine ⟨fun _ => ⟨fun _ _ => by kernel_rfl, SW2 _ _ _⟩, ?_⟩ | refine ⟨⟨fun _ _ => by kernel_rfl, SW1 _ _ _⟩, ?_⟩ | refine ⟨fun _ => ⟨fun _ _ => by kernel_rfl, SW1 _ _ _⟩, ?_⟩ | refine ⟨⟨fun _ _ => by kernel_rfl, ST _ _ _⟩, ?_⟩ | refine ⟨fun _ => ⟨fun _ _ => by kernel_rfl, ST _ _ _⟩, ?_⟩ | refine ⟨⟨fun _ _ => by kernel_rfl, SL _ _ _⟩, ?_⟩ | refine ⟨fun _ => ⟨fun _ _ => by kernel_rfl, SL _ _ _⟩, ?_⟩ | refine ⟨fun _ => ob_lab (Kk := noK) _ _ _ _, ?_⟩ | refine ⟨fun _ => ⟨by decide, by decide⟩, ?_⟩)
 refine wp_ret ((rsi hB TA_ok hF nAt (he := ?_)))
 subst hB
 refine Sim.bool ?_
 simp [std, sC, v1, v2, eqL_lab, BE.den]
def sumV (f : Nat → Itm) : Nat → Int
 | 0 => 0
 | i + 1 => IntKind.i64.wrap (sumV f i + ((f i).val.size : Int))
def fewB (n : Nat) (f : Nat → Itm) : Bool := if n ≤ 60 then decide (sumV f n ≤ 5000) else false
theorem few_le {n : Nat} {f : Nat → Itm} (h : fewB n f = true) : n ≤ 60 := by
 unfold fewB at h
 split at h
 ·assumption
 cases h
theorem few_s (A : Option Addr) (n c : Nat) (f : Nat → Itm) (hn : n ≤ maxLen) : Spec Tryz.prog 17 [rowI A n c f] (fun _ => .bool (.v (fewB n f))) := by
 intro m w hm hargs
 have hmx : maxLen = 9223372036854775807 := rfl
 unfold rowI at hargs
 refine en 31 hm hargs Tryz.func17 fun B hB a0 hF => ?_
 refine wp_seq (rg hB TA_ok [0] [] [] hF fun X0 a0 w1 hF => ?_)
 refine wp_seq (rg hB TA_ok [3, 0] [] [] hF fun X1 a0 w1 hF => ?_)
 refine wp_seq (wp_seq (rg hB TA_ok [3, 4, 0] [] [] hF fun X2 a0 w1 hF => ?_))
 refine wp_block (loop_pre (ι := Nat) (fun p => [(3, .int .i64 (sumV f p)), (4, .int .i64 (p : Int))]) (fun p => []) (fun p => []) (fun p => p ≤ n) (fun p => n - p) 0 (Nat.zero_le _) hF ?_)
 rintro i hi a0 w1 hF
 try dsimp only at hi
 obtain ⟨sv, hsv⟩ := eqv (sumV f i)
 rw [← hsv] at hF
 refine wp_seq (wp_seq (rg hB TA_ok [13, 3, 4, 0] [] [] hF (hob := ?hob) fun X3 a0 w1 hF => ?_))
 case hob =>
  intro X
  subst hB
  repeat (first | exact trivial | refine ⟨rfl, ?_⟩ | refine ⟨fun _ => rfl, ?_⟩)
 apply test_ok hF rfl <;> intro hb hF
 ·have h9 : (i : Int) < (n : Int) ∧ (n : Int) ≤ 60 := by subst hB; simpa [std, sC] using hb
  have hin : i < n := by omega
  refine wp_skip (wp_seq (wp_block ?_))
  refine rg hB TA_ok [3, 4, 0] [] [] hF (hob := by intro X; subst hB; simp only [AO, Ob.holds, BE.den] <;> and_intros <;> repeat first | trivial | rfl | exact (show (0 : Int) ≤ (i : Int) by omega) | exact (show (i : Int) < (n : Int) by omega) | exact (fun _ _ => by kernel_rfl) | refine ⟨?_, ?_⟩ | intro h | exact Int.le_refl _ | decide | omega) fun X5 a0 w1 hF => ?_
  refine rg hB TA_ok [3, 4, 0] [] [] hF fun X4 a0 w1 hF => ?_
  have e : B.arith .add .i64 (i : Int) 1 = ((i + 1 : Nat) : Int) := by subst hB; exact wrap_succ (n := n) hin (by omega)
  have e2 : B.arith .add .i64 sv (B.ofNat (B.slen (f (B.toNat (i : Int))).val)) = sumV f (i + 1) := by subst hB; rw [hsv]; rfl
  refine ⟨i + 1, by omega, by omega, by rw [← e, ← e2]; exact hF⟩
 have h9 : (i : Int) < (n : Int) → ¬ (n : Int) ≤ 60 := by subst hB; simpa [std, sC] using hb
 have hW : fewB n f = (if decide ((n : Int) ≤ 60) = true then decide (sv ≤ 5000) else false) := by
  unfold fewB
  by_cases h : n ≤ 60
  ·have : i = n := by by_cases g : i < n; (· exact absurd (show (n : Int) ≤ 60 by omega) (h9 (by omega))); (· omega)
   subst this
   rw [if_pos h, decide_eq_true (show (i : Int) ≤ 60 by omega), if_pos rfl, hsv]
  rw [if_neg h, decide_eq_false (show ¬ (n : Int) ≤ 60 by omega)]; rfl
 refine wp_exit (wp_seq (rg hB TA_ok [2] [] [] hF (hob := ?hob) fun X6 a0 w1 hF => ?_))
 case hob =>
  intro X
  subst hB
  repeat (first | exact trivial | refine ⟨rfl, ?_⟩ | refine ⟨fun _ => rfl, ?_⟩)
 refine wp_ret ((rsi hB TA_ok hF nAt (he := ?_)))
 subst hB
 rw [hW]
 exact Sim.bool rfl
theorem bld_n {n : Nat} {f : Nat → Itm} {b : Int} (hk : ∀ i, i < n → U64 (f i).key) (y : Atom) : RwN (bldR n f b).length (rwAt y (bldR n f b)) := by
 refine rw_in (fun w hw => ?_) y
 by_cases he : bldE n f b = 0
 ·obtain ⟨h1, h2, h3, h4, _⟩ := (bld_yes hk he).isR_small hw
  exact ⟨by omega, labOk_is h2 h3, h3, h4⟩
 rw [bld_no he] at hw; cases hw
theorem bld_k {n : Nat} {f : Nat → Itm} {b : Int} (hk : ∀ i, i < n → U64 (f i).key) (y : Atom) : RwK (bldR n f b).length (rwAt y (bldR n f b)) := by
 refine rw_inK (fun w hw => ?_) y
 by_cases he : bldE n f b = 0
 ·exact ((bld_yes hk he).isR_small hw).2.2.2.2
 rw [bld_no he] at hw; cases hw
theorem bld_len {n : Nat} {f : Nat → Itm} {b : Int} (hk : ∀ i, i < n → U64 (f i).key) : (bldR n f b).length ≤ 2000 := by
 by_cases he : bldE n f b = 0
 ·have h := bld_yes hk he
  rw [h.rows', List.length_map]; exact h.len
 rw [bld_no he]; exact Nat.zero_le _
theorem rdo_x0 (b : Nat) (A : Option Addr) (n c : Nat) (g : Nat → SpA) (hn : n ≤ 100000) (wr : Int) (hris : Rises (shfA g n)) (q : WntA) (hwn : q.x.r.n ≤ 1000000) (hwb : U64 q.lab.bits) (hwx : U64 q.x.r.nx.bits) : SpecX Tryz.prog 50 [.ptr 0 b 0, wntV q] [(0, ⟨b, 90, [spsV A n c g, .int .i64 wr]⟩)] (fun y => ⟨.tup [gotV (gotA y (doL (shfA g n) q.abs).got), .int .i64 (doL (shfA g n) q.abs).err], [(0, [spsV (y.A 0) (doL (shfA g n) q.abs).L.length (y.c 0) (spAt y (doL (shfA g n) q.abs).L), .int .i64 (if (doL (shfA g n) q.abs).wrote then IntKind.i64.wrap (wr + 1) else wr)])], []⟩) := by
 intro m w hm hargs hpre
 have hmx : maxLen = 9223372036854775807 := rfl
 have S1 := risL_s q.lab hwb
 have S2 := risR_s q.x.A q.x.r.n q.x.c q.x.r.f (by omega) q.x.r.kd q.x.r.nx q.x.r.mrk hwx
 rw [← isR_abs] at S2
 have S3 := rat_x0 b A n c g hn wr q.lab
 simp only [labAV, recI, rowI] at S1 S2 S3
 obtain ⟨il, hil⟩ := eqv (isL q.lab)
 obtain ⟨ir, hir⟩ := eqv (isR q.x.r.abs)
 rw [← hil] at S1
 rw [← hir] at S2
 have hfi := hit_find (l := q.lab) hris
 have hpt := pos_hit (l := q.lab) hris
 obtain ⟨hh, hhh⟩ := eqv (hitL q.lab (shfA g n))
 obtain ⟨p, hp⟩ := eqv (posL q.lab (shfA g n))
 rw [← hhh, ← hp] at S3
 rw [← hhh] at hfi
 obtain ⟨D, hD⟩ := eqv ((doL (shfA g n) q.abs))
 rw [← hD]
 have hat : hh = true → p < n ∧ findL q.lab (shfA g n) = some ⟨(g p).w.ver, (g p).has, (g p).w.x.r.abs⟩ := fun h1 => by
  rw [h1] at hhh
  have hx := hhh.symm
  unfold hitL at hx
  rw [← hp] at hx
  cases hg : (shfA g n)[p]? with
  | none => rw [hg] at hx; cases hx
  | some qq =>
   have hlt := (List.getElem?_eq_some_iff.1 hg).1
   rw [listA_len] at hlt
   have h2 := hpt.1 qq (by rw [← hp]; exact hg)
   rw [hg] at hx
   have h3 : qq.1 = q.lab := by simpa using hx
   rw [if_pos h3] at h2
   rw [listA_get _ _ hlt] at hg
   injection hg with hg
   refine ⟨hlt, ?_⟩
   rw [h2, ← hg]; rfl
 refine enX 115 hm hpre hargs Tryz.func50 fun B hB a0 hF => ?_
 refine wp_seq (rg hB TA_ok [0, 3, 4] [0, 3, 4] [] hF fun X0 a0 w1 hF => ?_)
 have O1 := S1
 have O2 := S2
 refine wp_seq (wp_seq (rg hB TA_ok [34, 0, 3, 4] [0, 3, 4] [(11, .r fun _ => .bool (.v il)), (21, .r fun _ => .bool (.v ir))] hF fun X1 a0 w1 hF => ?_))
 apply test_ok hF rfl <;> intro hb hF
 ·have h9 : (if (if (if decide (q.kind < 1) = true then true else decide (3 < q.kind)) = true then true else !il) = true then true else (if (q.kind == 2) = true then !ir else false)) = true := by subst hB; exact hb
  have hbad : ¬ ((q.kind = 1 ∨ q.kind = 2 ∨ q.kind = 3) ∧ isL q.lab = true ∧ (q.kind = 2 → isR q.x.r.abs = true)) := by rw [← hil, ← hir]; clear S1 S2 S3; grind
  have hW : D = ⟨shfA g n, false, zeroGot, 1⟩ := by rw [hD]; exact if_neg hbad
  refine wp_seq (rg hB TA_ok [5, 4] [4, 0] [] hF fun X2 a0 w1 hF => ?_)
  refine wp_ret ((rx hB TA_ok hF (spY A c g none 0 0) [] (he := ?_) (hs := ?_)).1)
  ·subst hB; simp only [hW]
   refine Sim.tup ⟨Sim.agg ?_, zr, trivial⟩
   exact ⟨zr, zr, zr, zr, zq0, zr, zr, zr, trivial⟩
  subst hB; simp only [hW]; exact ⟨rfl, ⟨_, rfl, ⟨sps_sim rfl, zr, trivial⟩⟩, trivial⟩
 have h9 : (if (if (if decide (q.kind < 1) = true then true else decide (3 < q.kind)) = true then true else !il) = true then true else (if (q.kind == 2) = true then !ir else false)) = false := by subst hB; exact hb
 have hgd : ((q.kind = 1 ∨ q.kind = 2 ∨ q.kind = 3) ∧ isL q.lab = true ∧ (q.kind = 2 → isR q.x.r.abs = true)) := by rw [← hil, ← hir]; clear S1 S2 S3; grind
 have O1 := S3
 refine wp_skip (wp_seq (rg hB TA_ok [7, 6, 0, 3, 4] [0, 3, 4] [(3, .x fun _ => ⟨.tup [.int .i64 (p : Int), .bool (.v hh)], [(0, [.sl none A n c 9 (fun i => spC (g i)), .int .i64 wr])], []⟩)] hF fun X3 a0 w1 hF => ?_))
 refine wp_seq (rg hB TA_ok [7, 8, 6, 0, 3, 4] [8, 0, 3, 4] [] hF fun X4 a0 w1 hF => ?_)
 refine wp_seq (wp_seq (rg hB TA_ok [43, 7, 8, 6, 0, 3, 4] [8, 0, 3, 4] [] hF fun X5 a0 w1 hF => ?_))
 refine cut_one (ι := SpA) (S0 := [(43, _)]) (M0 := [(8, _)]) (G0 := []) (fun x => []) (fun x => [(8, ⟨(X4 0).b, 115, spC x⟩)]) (fun x => []) (fun x => (spotOf (shfA g n) q.lab) = ⟨x.w.ver, x.has, x.w.x.r.abs⟩) hF ?_ ?_
 ·apply test_ok hF rfl <;> intro hb hF
  ·have hh1 : hh = true := hb
   obtain ⟨hpn, hfd⟩ := hat hh1
   have hspo : (spotOf (shfA g n) q.lab) = ⟨(g p).w.ver, (g p).has, (g p).w.x.r.abs⟩ := by unfold spotOf; rw [hfd]; rfl
   refine rg hB TA_ok [7, 8, 6, 0, 3, 4] [8, 0, 3, 4] [] hF (hob := by intro X; subst hB; simp only [AO, Ob.holds, BE.den] <;> and_intros <;> repeat first | trivial | rfl | exact Int.natCast_nonneg _ | exact (show (p : Int) < (n : Int) by omega) | exact (fun _ _ => by kernel_rfl) | refine ⟨?_, ?_⟩ | intro h | exact Int.le_refl _ | decide | omega) fun X6 a0 w1 hF => ?_
   exact ⟨g (B.toNat (p : Int)), (by subst hB; exact hspo), hF⟩
  have hh0 : hh = false := hb
  have hspo : (spotOf (shfA g n) q.lab) = zeroSpo := by
   unfold spotOf
   rw [hh0] at hfi
   cases hf : findL q.lab (shfA g n) with
   | none => rfl
   | some x => rw [hf] at hfi; cases hfi
  exact wp_skip (⟨zSp, hspo, hF.memS ⟨zr, zr, zr, zr, zq0, zr, zr, zr, Sim.ff, trivial⟩⟩)
 rintro x hx a0 w1 hF
 try dsimp only at hx
 refine wp_seq (wp_seq (rg hB TA_ok [53, 7, 8, 0, 3, 4] [8, 0, 3, 4] [] hF fun X7 a0 w1 hF => ?_))
 apply test_ok hF rfl <;> intro hb hF
 ·have hk : q.kind = 1 := by subst hB; simpa [std, sC] using hb
  have hW : D = ⟨shfA g n, false, ⟨0, x.w.ver, x.has, x.w.x.r.abs⟩, 0⟩ := by rw [hD]; refine (if_pos hgd).trans ?_; show (if q.kind = 1 then _ else _) = _; rw [if_pos hk]; show Did.mk _ _ ⟨0, (spotOf (shfA g n) q.lab).ver, (spotOf (shfA g n) q.lab).has, (spotOf (shfA g n) q.lab).r⟩ 0 = _; rw [hx]
  refine wp_seq (rg hB TA_ok [4, 5] [4, 0] [] hF fun X8 a0 w1 hF => ?_)
  refine wp_ret ((rx hB TA_ok hF (spY A c g x.w.x.A x.w.x.c 0) [] (he := ?_) (hs := ?_)).1)
  ·subst hB; simp only [hW]
   refine Sim.tup ⟨Sim.agg ?_, zr, trivial⟩
   exact (got_sim (v := ⟨0, x.w.ver, x.has, x.w.x⟩) rfl rfl rfl)
  subst hB; simp only [hW]; exact ⟨rfl, ⟨_, rfl, ⟨sps_sim rfl, zr, trivial⟩⟩, trivial⟩
 have hk1 : ¬ q.kind = 1 := by subst hB; simpa [std, sC] using hb
 refine wp_skip (wp_seq (wp_seq (rg hB TA_ok [68, 7, 8, 0, 3, 4] [8, 0, 3, 4] [] hF fun X9 a0 w1 hF => ?_)))
 apply test_ok hF rfl <;> intro hb hF
 ·have hv : q.ver ≠ x.w.ver := by subst hB; simpa [std, sC] using hb
  have hW : D = ⟨shfA g n, false, ⟨8, x.w.ver, false, zeroRec⟩, 0⟩ := by rw [hD]; refine (if_pos hgd).trans ?_; refine (if_neg hk1).trans ?_; refine (if_pos (show q.ver ≠ (spotOf (shfA g n) q.lab).ver by rw [hx]; exact hv)).trans ?_; show Did.mk _ _ ⟨8, (spotOf (shfA g n) q.lab).ver, _, _⟩ 0 = _; rw [hx]
  refine wp_seq (rg hB TA_ok [4, 5] [4, 0] [] hF fun X10 a0 w1 hF => ?_)
  refine wp_ret ((rx hB TA_ok hF (spY A c g none 0 0) [] (he := ?_) (hs := ?_)).1)
  ·subst hB; simp only [hW]
   refine Sim.tup ⟨Sim.agg ?_, zr, trivial⟩
   exact ⟨zr, zr, zr, zr, zq0, zr, zr, zr, trivial⟩
  subst hB; simp only [hW]; exact ⟨rfl, ⟨_, rfl, ⟨sps_sim rfl, zr, trivial⟩⟩, trivial⟩
 have hv : ¬ q.ver ≠ x.w.ver := by subst hB; simpa [std, sC] using hb
 refine wp_skip (wp_seq (wp_seq (rg hB TA_ok [82, 0, 3, 4] [0, 3, 4] [] hF fun X11 a0 w1 hF => ?_)))
 apply test_ok hF rfl <;> intro hb hF
 ·have h8 : (if (!hh) = true then decide ((2000 : Int) ≤ (n : Int)) else false) = true := by subst hB; exact hb
  have hfu : (findL q.lab (shfA g n)).isNone ∧ 2000 ≤ (shfA g n).length := by
   rw [ite_and, Bool.and_eq_true, decide_eq_true_eq] at h8
   rw [listA_len]
   refine ⟨?_, by omega⟩
   have h7 : hh = false := by simpa using h8.1
   rw [h7] at hfi
   cases hf : findL q.lab (shfA g n) with
   | none => rfl
   | some x => rw [hf] at hfi; cases hfi
  have hW : D = ⟨shfA g n, false, zeroGot, 12⟩ := by rw [hD]; refine (if_pos hgd).trans ?_; refine (if_neg hk1).trans ?_; refine (if_neg (show ¬ q.ver ≠ (spotOf (shfA g n) q.lab).ver by rw [hx]; exact hv)).trans ?_; exact if_pos hfu
  refine wp_seq (rg hB TA_ok [4, 5] [4, 0] [] hF fun X12 a0 w1 hF => ?_)
  refine wp_ret ((rx hB TA_ok hF (spY A c g none 0 0) [] (he := ?_) (hs := ?_)).1)
  ·subst hB; simp only [hW]
   refine Sim.tup ⟨Sim.agg ?_, zr, trivial⟩
   exact ⟨zr, zr, zr, zr, zq0, zr, zr, zr, trivial⟩
  subst hB; simp only [hW]; exact ⟨rfl, ⟨_, rfl, ⟨sps_sim rfl, zr, trivial⟩⟩, trivial⟩
 have h8 : (if (!hh) = true then decide ((2000 : Int) ≤ (n : Int)) else false) = false := by subst hB; exact hb
 have hfu : ¬ ((findL q.lab (shfA g n)).isNone ∧ 2000 ≤ (shfA g n).length) := by
  rintro ⟨h1, h2⟩
  rw [listA_len] at h2
  have h7 : hh = false := by rw [hfi]; cases hf : findL q.lab (shfA g n) with
   | none => rfl
   | some x => rw [hf] at h1; cases h1
  rw [h7] at h8
  simp at h8
  omega
 obtain ⟨L2, hL2⟩ := eqv (putL q.lab (nextSpo q.abs) (shfA g n))
 have hW : D = ⟨L2, true, ⟨0, inc q.ver, false, zeroRec⟩, 0⟩ := by rw [hD, hL2]; refine (if_pos hgd).trans ?_; refine (if_neg hk1).trans ?_; refine (if_neg (show ¬ q.ver ≠ (spotOf (shfA g n) q.lab).ver by rw [hx]; exact hv)).trans ?_; exact if_neg hfu
 have SO := rown_s q.x hwn
 obtain ⟨k2, hk2⟩ := eqv (L2.length)
 obtain ⟨G2, hG2⟩ : ∃ G : Atom → Nat → SpA, G = fun y => spAt y L2 := ⟨_, rfl⟩
 have hGG : ∀ y, spAt y L2 = G2 y := fun y => by rw [hG2]
 obtain ⟨vi, hvi⟩ := eqv (inc q.ver)
 refine wp_skip (wp_seq (rg hB TA_ok [9, 0, 3, 4] [9, 0, 3, 4] [] hF fun X13 a0 w1 hF => ?_))
 replace hF := hF.memS (cells' := [.int .i64 q.lab.len, .int .u64 q.lab.bits, .int .u64 vi, .int .i64 0, .sl none none 0 0 2 (fun _ => []), .int .i64 0, .int .u64 0, .int .u64 0, .bool .ff]) ⟨zr, zr, (by subst hB; rw [hvi]; exact zr), zr, zr, zr, zr, zr, zr, trivial⟩
 refine wp_seq (wp_seq (rg hB TA_ok [93, 9, 0, 3, 4] [9, 0, 3, 4] [] hF fun X14 a0 w1 hF => ?_))
 refine cut_one (ι := SpA) (S0 := [(93, _)]) (M0 := [(9, _)]) (G0 := []) (fun z => []) (fun z => [(9, ⟨(X13 7).b, 115, spC z⟩)]) (fun z => []) (fun z => z.w.lab = q.lab ∧ Spo.mk z.w.ver z.has z.w.x.r.abs = nextSpo q.abs) hF ?_ ?_
 ·apply test_ok hF rfl <;> intro hb hF
  ·have hk2 : q.kind = 2 := by subst hB; simpa [std, sC] using hb
   have O1 := SO
   refine wp_seq (rg hB TA_ok [9, 0, 3, 4] [9, 0, 3, 4] [(2, .r fun x => .agg [.int .i64 q.x.r.kd, .sl none (x.A 0) q.x.r.n (x.c 0) 2 (fun t => itC (q.x.r.f t)), .int .i64 q.x.r.nx.len, .int .u64 q.x.r.nx.bits, .int .u64 q.x.r.mrk])] hF fun X15 a0 w1 hF => ?_)
   refine rg hB TA_ok [9, 0, 3, 4] [9, 0, 3, 4] [] hF fun X16 a0 w1 hF => ?_
   refine ⟨⟨⟨q.lab, vi, ⟨(X15 2).A 0, (X15 2).c 0, q.x.r⟩⟩, true⟩, ⟨rfl, ?_⟩, hF.memS (cells' := spC ⟨⟨q.lab, vi, ⟨(X15 2).A 0, (X15 2).c 0, q.x.r⟩⟩, true⟩) ⟨zr, zr, zr, zr, zr, zr, zr, zr, Sim.tt, trivial⟩⟩
   rw [hvi]; unfold nextSpo; show _ = Spo.mk (inc q.ver) (decide (q.kind = 2)) (if q.kind = 2 then q.x.r.abs else zeroRec)
   rw [decide_eq_true hk2, if_pos hk2]
  have hk2 : ¬ q.kind = 2 := by subst hB; simpa [std, sC] using hb
  refine wp_skip (⟨⟨⟨q.lab, vi, zRA⟩, false⟩, ⟨rfl, ?_⟩, hF.memS (cells' := spC ⟨⟨q.lab, vi, zRA⟩, false⟩) ⟨zr, zr, zr, zr, zq0, zr, zr, zr, Sim.ff, trivial⟩⟩)
  rw [hvi]; unfold nextSpo; show _ = Spo.mk (inc q.ver) (decide (q.kind = 2)) (if q.kind = 2 then q.x.r.abs else zeroRec)
  rw [decide_eq_false hk2, if_neg hk2]; rfl
 rintro z ⟨hz1, hz2⟩ a0 w1 hF
 try dsimp only at hz1
 try dsimp only at hz2
 have SP := rput_x0 b A n c g hn wr z
 rw [hz2, hz1, ← hL2] at SP
 simp only [← hk2, hGG] at SP
 have hzv : z.w.ver = vi := by have := congrArg Spo.ver hz2; rw [hvi]; exact this
 have O1 := SP
 refine wp_seq (rg hB TA_ok [9, 0, 4] [9, 0, 4] [(2, .x fun x => ⟨.tup [], [(0, [.sl none (x.A 0) k2 (x.c 0) 9 (fun t => spC (G2 x t)), .int .i64 wr])], []⟩)] hF fun X17 a0 w1 hF => ?_)
 refine wp_seq (rg hB TA_ok [9, 4, 0] [9, 0, 4] [] hF fun X18 a0 w1 hF => ?_)
 refine wp_seq (rg hB TA_ok [4, 5] [4, 0] [] hF fun X19 a0 w1 hF => ?_)
 refine wp_ret ((rx hB TA_ok hF (spY ((X17 2).A 0) ((X17 2).c 0) (G2 (X17 2)) none 0 0) [] (he := ?_) (hs := ?_)).1)
 ·have hev2 : vi = inc q.ver := hvi
  subst hB; simp only [hW]
  refine Sim.tup ⟨Sim.agg ?_, zr, trivial⟩
  exact ⟨zr, by rw [← hvi, ← hzv]; exact zr, zr, zr, zq0, zr, zr, zr, trivial⟩
 subst hB; simp only [hW]; exact ⟨rfl, ⟨_, rfl, ⟨sps_sim (by rw [hG2, hk2, shfA_spAt]), zr, trivial⟩⟩, trivial⟩
theorem rdo_x (k0 : Nat) (b : Nat) (A : Option Addr) (n c : Nat) (g : Nat → SpA) (hn : n ≤ 100000) (wr : Int) (hris : Rises (shfA g n)) (q : WntA) (hwn : q.x.r.n ≤ 1000000) (hwb : U64 q.lab.bits) (hwx : U64 q.x.r.nx.bits) : SpecX Tryz.prog 50 [.ptr k0 b 0, wntV q] [(k0, ⟨b, 90, [spsV A n c g, .int .i64 wr]⟩)] (fun y => ⟨.tup [gotV (gotA y (doL (shfA g n) q.abs).got), .int .i64 (doL (shfA g n) q.abs).err], [(k0, [spsV (y.A 0) (doL (shfA g n) q.abs).L.length (y.c 0) (spAt y (doL (shfA g n) q.abs).L), .int .i64 (if (doL (shfA g n) q.abs).wrote then IntKind.i64.wrap (wr + 1) else wr)])], []⟩) :=
 (rdo_x0 b A n c g hn wr hris q hwn hwb hwx).re (by repeat (first | exact trivial | refine ⟨Sim.ptr, ?_⟩ | refine ⟨Sim.fn ⟨Sim.ptr, trivial⟩ trivial, ?_⟩ | refine ⟨Sim.fn trivial ⟨Sim.ptr, trivial⟩, ?_⟩ | refine ⟨zr, ?_⟩)) rfl (fun x => ⟨rfl, rfl, zr, rfl⟩)
def bt (f : Nat → Itm) (i : Nat) : Bool := if decide (((f i).val.size : Int) > 64) = true then true else if decide ((i : Int) > 0) = true then decide ((f i).key ≤ (f (std.toNat (std.arith .sub .i64 (i : Int) 1))).key) else false
theorem bt_iff {f : Nat → Itm} {i : Nat} (hi : i ≤ 100000) : bt f i = true ↔ badI f i := by
 unfold bt badI
 by_cases g2 : 64 < (f i).val.size
 ·rw [decide_eq_true (show ((f i).val.size : Int) > 64 by omega), if_pos rfl]
  exact ⟨fun _ => .inl g2, fun _ => rfl⟩
 rw [decide_eq_false (show ¬ ((f i).val.size : Int) > 64 by omega), if_neg (by decide)]
 by_cases g : i = 0
 ·subst g
  rw [if_neg (by decide)]
  exact ⟨fun h => absurd h (by decide), fun h => by rcases h with h | h; exact absurd h g2; exact absurd h.1 (by decide)⟩
 have e2 : std.toNat (std.arith .sub .i64 (i : Int) 1) = i - 1 := by
  show (IntKind.i64.wrap ((i : Int) - 1)).toNat = i - 1
  rw [wrap_in (by omega) (by omega)]; omega
 rw [decide_eq_true (show (i : Int) > 0 by omega), if_pos rfl, e2, decide_eq_true_eq]
 exact ⟨fun h => .inr ⟨by omega, h⟩, fun h => by rcases h with h | h; exact absurd h g2; exact h.2⟩
theorem idx_prev {i n : Nat} (h0 : 0 < i) (hi : i < n) (hn : n ≤ 100000) : (0 : Int) ≤ std.arith .sub .i64 (i : Int) 1 ∧ std.arith .sub .i64 (i : Int) 1 < (n : Int) := by
 rw [show std.arith .sub .i64 (i : Int) 1 = (i : Int) - 1 from wrap_in (by omega) (by omega)]
 omega
theorem rbuild_s (A : Option Addr) (n c : Nat) (f : Nat → Itm) (hn : n ≤ 60) (hki : ∀ i, i < n → U64 (f i).key) (b : Int) : Spec Tryz.prog 19 [rowI A n c f, .int .i64 b] (fun y => .tup [rowsV (y.A 0) (bldR n f b).length (y.c 0) (rwAt y (bldR n f b)), .int .i64 (bldE n f b)]) := by
 intro m w hm hargs
 have hmx : maxLen = 9223372036854775807 := rfl
 have hbn := bld_n (b := b) hki
 have hbk := bld_k (b := b) hki
 have hbl := bld_len (b := b) hki
 have hby := bld_yes (b := b) hki
 have hbno := bld_no (n := n) (f := f) (b := b)
 obtain ⟨R, hR⟩ := eqv (bldR n f b)
 obtain ⟨be, hbe⟩ := eqv (bldE n f b)
 rw [← hR, ← hbe] at hbno
 rw [← hR] at hbl
 simp only [← hR] at hbn hbk
 rw [← hR, ← hbe] at hby
 have hRR : ∀ y, rwsA (rwAt y R) R.length = R := fun y => rwsA_rwAt y R
 obtain ⟨rn, hrn⟩ := eqv (R.length)
 obtain ⟨RF, hRF⟩ : ∃ RF : Atom → Nat → RowA, RF = fun y => rwAt y R := ⟨_, rfl⟩
 have hRy : ∀ y, rwAt y R = RF y := fun y => by rw [hRF]
 simp only [← hrn, hRy] at hbn hbk hRR
 rw [← hrn] at hbl
 rw [← hR, ← hbe, ← hrn]
 simp only [hRy]
 unfold rowI at hargs
 refine en 85 hm hargs Tryz.func19 fun B hB a0 hF => ?_
 refine wp_seq (rg hB TA_ok [0, 1] [] [] hF fun X0 a0 w1 hF => ?_)
 refine wp_seq (wp_seq (rg hB TA_ok [15, 0, 1] [] [] hF (hob := ?hob) fun X1 a0 w1 hF => ?_))
 case hob =>
  intro X
  subst hB
  repeat (first | exact trivial | refine ⟨rfl, ?_⟩ | refine ⟨fun _ => rfl, ?_⟩)
 apply test_ok hF rfl <;> intro hb hF
 ·have h9 : b < 1 ∨ 16 < b := by subst hB; revert hb; by_cases g : b < 1 <;> simp [std, sC, g]
  have hE : be = 1 := by rw [hbe]; unfold bldE; refine if_pos ?_; rcases h9 with h | h; exact .inl h; exact .inr (.inl h)
  have hr0 : rn = 0 := by rw [hrn, hbno (by rw [hE]; decide)]; rfl
  refine wp_seq (rg hB TA_ok [4, 5] [4, 63] [] hF fun X2 a0 w1 hF => ?_)
  refine wp_ret ((rsi hB TA_ok hF (⟨0, fun _ => none, fun _ => 0, fun _ => ⟨#[]⟩⟩) (he := ?_)))
  subst hB
  rw [hE, hr0]
  exact Sim.tup ⟨sim_nils, zr, trivial⟩
 have h9 : 1 ≤ b ∧ b ≤ 16 := by subst hB; revert hb; by_cases g : b < 1 <;> simp [std, sC, g]; omega
 refine wp_skip (wp_seq (wp_seq (rg hB TA_ok [6, 0, 1] [] [] hF fun X3 a0 w1 hF => ?_)))
 refine wp_block (loop_pre (ι := Nat) (fun p => [(6, .int .i64 (p : Int))]) (fun p => []) (fun p => []) (fun p => p ≤ n ∧ ∀ t, t < p → ¬ badI f t) (fun p => n - p) 0 ⟨Nat.zero_le _, fun t ht => absurd ht (Nat.not_lt_zero _)⟩ hF ?_)
 rintro i ⟨hi, hgd⟩ a0 w1 hF
 try dsimp only at hi
 try dsimp only at hgd
 refine wp_seq (wp_seq (rg hB TA_ok [19, 6, 0, 1] [] [] hF fun X4 a0 w1 hF => ?_))
 apply test_ok hF rfl <;> intro hb hF
 ·have hin : i < n := by
   have : (i : Int) < (n : Int) := by subst hB; simpa [std, sC] using hb
   omega
  refine wp_skip (wp_seq (wp_block (wp_seq ?_)))
  refine drg hB TA_ok [46, 6, 0, 1] [] [] hF (hob := by intro X; subst hB; simp only [AO, Ob.holds, BE.den, List.mem_cons, List.not_mem_nil, or_false, forall_eq_or_imp, forall_eq] <;> and_intros <;> repeat first | trivial | rfl | exact (show (0 : Int) ≤ (i : Int) by omega) | exact (show (i : Int) < (n : Int) by omega) | exact ⟨show (0 : Int) ≤ (i : Int) by omega, show (i : Int) < (n : Int) by omega⟩ | exact idx_prev (by (simp [std, sC, BE.den] at h; omega)) hin (by omega) | exact (fun _ _ => by kernel_rfl) | refine ⟨?_, ?_⟩ | intro h | exact Int.le_refl _ | decide | omega) fun X6 a0 w1 hF => ?_
  apply test_ok hF rfl <;> intro hb hF
  ·have hbd : badI f i := (bt_iff (by omega)).1 (by subst hB; exact hb)
   have hE : be = 1 := by rw [hbe]; exact bad_err hin hbd
   have hr0 : rn = 0 := by rw [hrn, hbno (by rw [hE]; decide)]; rfl
   refine wp_seq (rg hB TA_ok [4, 5] [4, 63] [] hF fun X7 a0 w1 hF => ?_)
   refine wp_ret ((rsi hB TA_ok hF (⟨0, fun _ => none, fun _ => 0, fun _ => ⟨#[]⟩⟩) (he := ?_)))
   subst hB
   rw [hE, hr0]
   exact Sim.tup ⟨sim_nils, zr, trivial⟩
  have hnb : ¬ badI f i := fun h => by
   have h1 := (bt_iff (f := f) (i := i) (by omega)).2 h
   have h2 : bt f i = false := by subst hB; exact hb
   rw [h1] at h2; cases h2
  refine wp_skip (rg hB TA_ok [6, 0, 1] [] [] hF fun X5 a0 w1 hF => ?_)
  have e : B.arith .add .i64 (i : Int) 1 = ((i + 1 : Nat) : Int) := by subst hB; exact wrap_succ (n := n) hin (by omega)
  refine ⟨i + 1, ⟨by omega, fun t ht => ?_⟩, by omega, by rw [← e]; exact hF⟩
  by_cases h : t = i
  ·rw [h]; exact hnb
  exact hgd t (by omega)
 have hout : i = n := by
  have : ¬ (i : Int) < (n : Int) := by subst hB; simpa [std, sC] using hb
  omega
 have hgn : ∀ t, t < n → ¬ badI f t := fun t ht => hgd t (by omega)
 have hBl := root_blo hki hgn h9.1
 have hge := good_err (b := b) h9.1 h9.2 hgn
 rw [← hbe, if_neg (by omega)] at hge
 have SM := many_s b 65 A n c f ⟨0, 0⟩ 2000 (by omega) (by omega) (by omega) (by omega) hBl
 have hmf := man_few hBl
 obtain ⟨mr, hmr⟩ := eqv (manP b 65 (firsts f n) ⟨0, 0⟩ 2000)
 rw [← hmr] at SM hmf
 have hgr := grow_err (n := n) (f := f) (b := b)
 simp only [labAV, rowI] at SM
 refine wp_exit (wp_seq (wp_seq (rg hB TA_ok [56, 0, 1] [] [(7, .r fun _ => .int .i64 mr)] hF (hob := ?hob) fun X8 a0 w1 hF => ?_)))
 case hob =>
  intro X
  subst hB
  repeat (first | exact trivial | refine ⟨rfl, ?_⟩ | refine ⟨fun _ => rfl, ?_⟩ | refine ⟨⟨fun _ _ => by kernel_rfl, SM⟩, ?_⟩ | refine ⟨fun _ => ⟨fun _ _ => by kernel_rfl, SM⟩, ?_⟩)
 apply test_ok hF rfl <;> intro hb hF
 ·have hE : be = 2 := by
   rw [hge]
   refine if_neg fun h => ?_
   have h2 := hgr.1 h
   have h3 : 2000 < mr := by subst hB; revert hb; simp [std, sC, show ¬ (500 : Int) < (n : Int) by omega]
   exact (hmf.1 h3) h2
  have hr0 : rn = 0 := by rw [hrn, hbno (by rw [hE]; decide)]; rfl
  refine wp_seq (rg hB TA_ok [4, 5] [4, 63] [] hF fun X9 a0 w1 hF => ?_)
  refine wp_ret ((rsi hB TA_ok hF (⟨0, fun _ => none, fun _ => 0, fun _ => ⟨#[]⟩⟩) (he := ?_)))
  subst hB
  rw [hE, hr0]
  exact Sim.tup ⟨sim_nils, zr, trivial⟩
 have h3 : ¬ 2000 < mr := by subst hB; revert hb; simp [std, sC, show ¬ (500 : Int) < (n : Int) by omega]
 have hnl : (nodes b 65 (firsts f n) ⟨0, 0⟩).length ≤ 2000 := Decidable.not_not.1 fun h => h3 (hmf.2 h)
 have hE : be = 0 := by rw [hge]; exact if_pos (hgr.2 hnl)
 have hT := hby hE
 have SR := rgrow_s b 65 A n c f ⟨0, 0⟩ noneL (by omega) hnl hBl
 rw [show chainR (nodes b 65 (firsts f n) ⟨0, 0⟩) noneL = R from chain_bld hT, ← hrn] at SR
 simp only [hRy] at SR
 have SNo := rnone_s
 simp only [labAV, rowI] at SR SNo
 refine wp_skip (wp_seq (rg hB TA_ok [7] [] [(3, .r fun _ => .agg [.int .i64 noneL.len, .int .u64 noneL.bits]), (4, .r fun y => .sl none (y.A 0) rn (y.c 0) 8 (fun i => rowC (RF y i)))] hF (hob := ?hob) fun X10 a0 w1 hF => ?_))
 case hob =>
  intro X
  subst hB
  repeat (first | exact trivial | refine ⟨rfl, ?_⟩ | refine ⟨fun _ => rfl, ?_⟩ | refine ⟨⟨fun _ _ => by kernel_rfl, SNo⟩, ?_⟩ | refine ⟨fun _ => ⟨fun _ _ => by kernel_rfl, SNo⟩, ?_⟩ | refine ⟨⟨fun _ _ => by kernel_rfl, SR⟩, ?_⟩ | refine ⟨fun _ => ⟨fun _ _ => by kernel_rfl, SR⟩, ?_⟩)
 refine wp_seq (rg hB TA_ok [7, 8] [63] [] hF fun X11 a0 w1 hF => ?_)
 refine wp_seq (wp_seq (rg hB TA_ok [9, 7, 8] [63] [] hF fun X12 a0 w1 hF => ?_))
 replace hF := hF.memS (cells' := [.sl none none 0 0 9 (fun t => spC zSp), .int .i64 0]) ⟨sim_nils, zr, trivial⟩
 refine wp_block (loop_pre (ι := Nat × Nat × (Nat → SpA) × Option Addr × Nat × Int) (fun p => [(9, .int .i64 (p.1 : Int))]) (fun p => [(63, ⟨(X11 1).b, 90, [.sl none p.2.2.2.1 p.2.1 p.2.2.2.2.1 9 (fun t => spC (p.2.2.1 t)), .int .i64 p.2.2.2.2.2]⟩)]) (fun p => []) (fun p => p.1 ≤ rn ∧ shfA p.2.2.1 p.2.1 = (R.take p.1).map spR) (fun p => rn - p.1) (0, 0, fun _ => zSp, none, 0, 0) ⟨Nat.zero_le _, rfl⟩ hF ?_)
 rintro ⟨i, k1, g, A1, c1, wr⟩ ⟨hi, hsh⟩ a0 w1 hF
 try dsimp only at hi
 try dsimp only at hsh
 have hk1 : k1 ≤ i := by have := congrArg List.length hsh; rw [listA_len, List.length_map, List.length_take] at this; omega
 refine wp_seq (wp_seq (rg hB TA_ok [67, 9, 7, 8] [63] [] hF fun X13 a0 w1 hF => ?_))
 apply test_ok hF rfl <;> intro hb hF
 ·have hin : i < rn := by
   have : (i : Int) < (rn : Int) := by subst hB; simpa [std, sC] using hb
   omega
  have hris : Rises (shfA g k1) := by rw [hsh]; exact hT.sp_rises i
  have hNi := hbn (X10 4) i hin
  have SD := rdo_x 63 (X11 1).b A1 k1 c1 g (by omega) wr hris ⟨2, (RF (X10 4) i).lab, 0, (RF (X10 4) i).x, ⟨0, false, ⟨#[]⟩, none, 0, 0, fun _ => zeroItm, 0, false⟩⟩ hNi.1 hNi.2.2.1 hNi.2.2.2
  have hiR : i < R.length := by omega
  have hq : WntA.abs ⟨2, (RF (X10 4) i).lab, 0, (RF (X10 4) i).x, ⟨0, false, ⟨#[]⟩, none, 0, 0, fun _ => zeroItm, 0, false⟩⟩ = casW R[i] := by
   have h2 : R[i]? = some ((RF (X10 4) i).abs) := by
    have := listA_get RowA.abs (RF (X10 4)) hin
    rw [show listA RowA.abs (RF (X10 4)) rn = R from hRR _] at this
    exact this
   rw [List.getElem?_eq_getElem hiR] at h2
   injection h2 with h2
   rw [h2]; rfl
  rw [hq, hsh] at SD
  have hL2 := hT.does hiR
  obtain ⟨D, hD⟩ := eqv (doL ((R.take i).map spR) (casW R[i]))
  rw [← hD] at SD hL2
  obtain ⟨L2, hLL⟩ := eqv (D.L)
  rw [← hLL] at SD hL2
  obtain ⟨k2, hk2⟩ := eqv (L2.length)
  obtain ⟨G2, hG2⟩ : ∃ G : Atom → Nat → SpA, G = fun y => spAt y L2 := ⟨_, rfl⟩
  have hGG : ∀ y, spAt y L2 = G2 y := fun y => by rw [hG2]
  obtain ⟨GA, hGA⟩ : ∃ G : Atom → GotA, G = fun y => gotA y D.got := ⟨_, rfl⟩
  have hGA2 : ∀ y, gotA y D.got = GA y := fun y => by rw [hGA]
  obtain ⟨er, her⟩ := eqv (D.err)
  obtain ⟨w2, hw2⟩ := eqv ((if D.wrote = true then IntKind.i64.wrap (wr + 1) else wr))
  simp only [← hk2, hGG, hGA2, ← her, ← hw2] at SD
  refine wp_skip (wp_seq (wp_block (drg hB TA_ok [9, 7, 8] [63] [(12, .x fun y => ⟨.tup [gotV (GA y), .int .i64 er], [(63, [.sl none (y.A 0) k2 (y.c 0) 9 (fun t => spC (G2 y t)), .int .i64 w2])], []⟩)] hF (hob := ?hob) fun X15 a0 w1 hF => ?_)))
  case hob =>
   intro X
   subst hB
   repeat (first | exact trivial | refine ⟨rfl, ?_⟩ | refine ⟨(show (0 : Int) ≤ (i : Int) ∧ (i : Int) < (rn : Int) by omega), ?_⟩ | refine ⟨⟨fun _ _ => by kernel_rfl, (SD.re ⟨zr, Sim.agg ⟨zr, zr, zr, zr, zr, zr, zr, zr, zr, zr, Sim.ff, zr, sim_nils, zr, Sim.ff, trivial⟩, trivial⟩ rfl (fun x => ⟨rfl, rfl, zr, rfl⟩))⟩, ?_⟩)
  refine rg hB TA_ok [9, 7, 8] [63] [] hF fun X14 a0 w1 hF => ?_
  have e : B.arith .add .i64 (i : Int) 1 = ((i + 1 : Nat) : Int) := by subst hB; exact wrap_succ (n := rn) hin (by omega)
  refine ⟨(i + 1, k2, G2 (X15 12), (X15 12).A 0, (X15 12).c 0, w2), ⟨by simp only; omega, ?_⟩, by simp only; omega, by rw [← e]; exact hF⟩
  simp only
  rw [hk2, hG2]
  rw [shfA_spAt, hL2]
 have hout : i = rn := by
  have : ¬ (i : Int) < (rn : Int) := by subst hB; simpa [std, sC] using hb
  omega
 have SW := rrows_x 63 (X11 1).b A1 k1 c1 g (by omega) wr
 rw [hsh, show R.take i = R from List.take_of_length_le (by omega), rows_back R (fun w hw => (hT.kind hw).2.1), ← hrn] at SW
 simp only [hRy] at SW
 refine wp_exit (wp_seq (rg hB TA_ok [4, 5] [4, 63] [(1, .x fun y => ⟨.sl none (y.A 0) rn (y.c 0) 8 (fun i => rowC (RF y i)), [(63, [.sl none A1 k1 c1 9 (fun t => spC (g t)), .int .i64 wr])], []⟩)] hF (hob := ?hob) fun X16 a0 w1 hF => ?_))
 case hob =>
  intro X
  subst hB
  repeat (first | exact trivial | refine ⟨rfl, ?_⟩ | refine ⟨fun _ => rfl, ?_⟩ | refine ⟨⟨fun _ _ => by kernel_rfl, SW⟩, ?_⟩ | refine ⟨fun _ => ⟨fun _ _ => by kernel_rfl, SW⟩, ?_⟩)
 refine wp_ret ((rsi hB TA_ok hF ((X16 1)) (he := ?_)))
 subst hB
 rw [hE]
 exact zr
theorem lawBlds_s (A : Option Addr) (n c : Nat) (f : Nat → Itm) (hn : n ≤ maxLen) (hki : ∀ i, i < n → U64 (f i).key) (b : Int) : Spec Tryz.prog 4 [rowI A n c f, .int .i64 b] (fun _ => .bool .tt) := by
 intro m w hm hargs
 have hmx : maxLen = 9223372036854775807 := rfl
 have SF := few_s A n c f hn
 obtain ⟨fb, hfb⟩ := eqv (fewB n f)
 rw [← hfb] at SF
 have SG := grown_s
 unfold rowI at hargs SF
 refine en 35 hm hargs Tryz.func4 fun B hB a0 hF => ?_
 refine wp_seq (rg hB TA_ok [0, 1] [] [] hF fun X0 a0 w1 hF => ?_)
 refine wp_seq (wp_seq (rg hB TA_ok [11, 0, 1] [] [(1, .r fun _ => .bool (.v fb))] hF (hob := ?hob) fun X1 a0 w1 hF => ?_))
 case hob =>
  intro X
  subst hB
  repeat (first | exact trivial | refine ⟨rfl, ?_⟩ | refine ⟨fun _ => rfl, ?_⟩ | refine ⟨⟨fun _ _ => by kernel_rfl, SF⟩, ?_⟩ | refine ⟨fun _ => ⟨fun _ _ => by kernel_rfl, SF⟩, ?_⟩)
 apply test_ok hF rfl <;> intro hb hF
 ·refine wp_seq (rg hB TA_ok [4] [] [] hF fun X2 a0 w1 hF => ?_)
  refine wp_ret ((rsi hB TA_ok hF nAt (he := ?_)))
  subst hB
  exact zr
 have hb0 : fb = true := by subst hB; cases fb <;> first | rfl | cases hb
 rw [hb0] at hfb
 have hn6 := few_le hfb.symm
 have SB := build_s A n c f (by omega) hki b
 have SC := rbuild_s A n c f hn6 hki b
 have hbn := bld_n (b := b) hki
 have hbk := bld_k (b := b) hki
 have hbl := bld_len (b := b) hki
 have hby := bld_yes (b := b) hki
 have hbno := bld_no (n := n) (f := f) (b := b)
 obtain ⟨R, hR⟩ := eqv (bldR n f b)
 obtain ⟨be, hbe⟩ := eqv (bldE n f b)
 rw [← hR, ← hbe] at hbno
 rw [← hR] at hbl
 simp only [← hR] at hbn hbk
 rw [← hR, ← hbe] at hby
 have hRR : ∀ y, rwsA (rwAt y R) R.length = R := fun y => rwsA_rwAt y R
 obtain ⟨rn, hrn⟩ := eqv (R.length)
 obtain ⟨RF, hRF⟩ : ∃ RF : Atom → Nat → RowA, RF = fun y => rwAt y R := ⟨_, rfl⟩
 have hRy : ∀ y, rwAt y R = RF y := fun y => by rw [hRF]
 simp only [← hrn, hRy] at hbn hbk hRR
 rw [← hrn] at hbl
 rw [← hR, ← hbe, ← hrn] at SB SC
 simp only [hRy, rowI] at SB SC
 have SM := fun (y z : Atom) (A2 A3 : Option Addr) (c2 c3 : Nat) => samerw_s A2 rn c2 (RF y) A3 rn c3 (RF z) (by omega)
 simp only [hRR, decide_true] at SM
 refine wp_skip (wp_seq (rg hB TA_ok [5, 6, 0, 1] [] [(2, .r fun y => .tup [.sl none (y.A 0) rn (y.c 0) 8 (fun i => rowC (RF y i)), .int .i64 be])] hF (hob := ?hob) fun X3 a0 w1 hF => ?_))
 case hob =>
  intro X
  subst hB
  repeat (first | exact trivial | refine ⟨rfl, ?_⟩ | refine ⟨fun _ => rfl, ?_⟩ | refine ⟨⟨fun _ _ => by kernel_rfl, SB⟩, ?_⟩ | refine ⟨fun _ => ⟨fun _ _ => by kernel_rfl, SB⟩, ?_⟩)
 refine wp_seq (rg hB TA_ok [7, 8, 5, 6] [] [(2, .r fun y => .tup [.sl none (y.A 0) rn (y.c 0) 8 (fun i => rowC (RF y i)), .int .i64 be])] hF (hob := ?hob) fun X4 a0 w1 hF => ?_)
 case hob =>
  intro X
  subst hB
  repeat (first | exact trivial | refine ⟨rfl, ?_⟩ | refine ⟨fun _ => rfl, ?_⟩ | refine ⟨⟨fun _ _ => by kernel_rfl, SC⟩, ?_⟩ | refine ⟨fun _ => ⟨fun _ _ => by kernel_rfl, SC⟩, ?_⟩)
 refine wp_seq (rg hB TA_ok [4] [] [(0, .r fun _ => .bool (.v true)), (4, .r fun _ => .bool (.v true))] hF (hob := ?hob) fun X5 a0 w1 hF => ?_)
 case hob =>
  intro X
  subst hB
  repeat (first | exact trivial | refine ⟨rfl, ?_⟩ | refine ⟨fun _ => rfl, ?_⟩ | refine ⟨⟨fun _ _ => by kernel_rfl, SG⟩, ?_⟩ | refine ⟨fun _ => ⟨fun _ _ => by kernel_rfl, SG⟩, ?_⟩ | refine ⟨⟨fun _ _ => by kernel_rfl, SM _ _ _ _ _ _⟩, ?_⟩ | refine ⟨fun _ => ⟨fun _ _ => by kernel_rfl, SM _ _ _ _ _ _⟩, ?_⟩)
 refine wp_ret ((rsi hB TA_ok hF nAt (he := ?_)))
 subst hB
 refine Sim.bool ?_
 simp [std, sC, BE.den] <;> rfl
end Go.Proofs.YtpgjalaldhlcoaaGreat.Sym
namespace Go.Proofs.YtpgjalaldhlcoaaGreat
open Go Go.RowKit
theorem walkTrieBuilds (W : World) (v0 v1 : Value) (i0 : Sym.InIts W v0) (i1 : Sym.InI v1) : Calls Tryz.prog 4 #[v0, v1] W fun e w' => e = .returned (.bool true) ∧ Below W.heap.size W w' := by
 obtain ⟨A, n, c, f, rfl, h0, hn, hf⟩ := i0
 obtain ⟨b, rfl, _⟩ := i1
 have S := Sym.lawBlds_s A n c f hn hf b
 refine (S (fun _ _ => False) W (fun _ _ h => h.elim) (fun v hv => ?_)).mono ?_
 ·simp only [List.mem_cons, List.not_mem_nil, or_false] at hv
  rcases hv with rfl | rfl
  ·exact h0
  exact .int _ _
 rintro e w' ⟨x, rfl, _, hb⟩
 exact ⟨rfl, hb⟩
end Go.Proofs.YtpgjalaldhlcoaaGreat
