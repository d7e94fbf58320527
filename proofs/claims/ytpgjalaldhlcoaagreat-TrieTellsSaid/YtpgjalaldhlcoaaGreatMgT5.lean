/-
  SymTrB, OpenS24, SymTg, SymRSh, SymRSh3, SymTd1, SymTd2, SymTd3, SymTd4, PlTd, SymTd5, SymL24T, WalkTrieTells: put together by a program of mine (a claim may have 60 files at most). Conditions: none.
-/
import Derived.WalkKit
import Derived.WalkLawsBesides
import Derived.WalkSpells
import Derived.Lib.Hide
import Derived.Deep.QuietTactic
import Derived.BigQuiet
import Derived.Deep.LoopGhost
import Derived.Deep.DeepCutAuto
import Derived.Deep.RegionLaw
import Derived.Lib.Overlaps
import Derived.Laws.CopyOwn
import Derived.IntWalk
import Derived.ProofKit
import Derived.OpenShut
import Derived.ShutString
import Derived.ChangeOld
import Derived.Deep.Slices
import Derived.Orders
import Derived.OrdersHeld
import Derived.Defers
import Derived.Recover
import Derived.Lib.BitFns
import Derived.ChangeKeysEq
import Derived.Test.YtpgjalaldhlcoaaGreatProg
import Derived.Lib.BufferWrite
import Derived.Maps.OwnSet
import Derived.Maps.RangeWalk
import Derived.Maps.Ext
import Derived.DeepKeys4
import Derived.RangeFuncLeaves
import Derived.RangeFuncCalls
import Derived.OrdersIn
import Derived.Shelf.SlSortCmp.WholeK
import Derived.Shelf.SlSortCmp.NoneTotal
import Derived.Deep.RegionHeld3
import Derived.Ground.SlsfProg
import Derived.Shelf.SlGeneric
import Derived.Test.YtpgjalaldhlcoaaGreatChecked
import Derived.Test.YtpgjalaldhlcoaaGreatMgT1
import Derived.Test.YtpgjalaldhlcoaaGreatMgT2
import Derived.Test.YtpgjalaldhlcoaaGreatMgT3
import Derived.Test.YtpgjalaldhlcoaaGreatMgT4
set_option linter.unusedVariables false
set_option linter.unusedSimpArgs false
set_option maxRecDepth 100000
set_option maxHeartbeats 1600000
namespace Go.Proofs.YtpgjalaldhlcoaaGreat.Sym
open Go Go.RowKit
theorem noAts : ∀ k, ¬ ats ([] : List (Nat × Blk)) k := fun k ⟨e, he, _⟩ => by cases he
theorem seg_K {m0 : Nat → Nat → Prop} {mem : List (Nat × Blk)} {gr : List (Nat × Gr)} {nt : Nat} {tm : List (Nat × AV)} {w w1 : World} {S : Nat → Prop} {ds : List Deferred} {K K' : Kn} (h : K.p (mT m0 mem gr) w) : K.p (St.m ⟨nt, tm, [], [], []⟩ ⟨mT m0 mem gr, w1, S, ds, K'⟩) w :=
 K.st ⟨fun b o u h1 h2 => ⟨h1, fun h => by
  rcases h with h | ⟨k, e, he, _⟩ | ⟨k, t, ht, _⟩
  ·exact h2 h
  ·cases he
  cases ht⟩, fun _ _ h _ => h⟩ h
theorem grow_len {b : Int} : ∀ (n : Nat) (l : List Itm) (q : Lab) (T : List (Lab × Rec)), T.length ≤ 2000 → (growP b n l q T).2.length ≤ 2000
 | 0, l, q, T, h => h
 | n + 1, l, q, T, h => by
  by_cases h1 : 2000 ≤ T.length
  ·rw [grow_full h1]; exact h
  have hs : ∀ r, (setA q r T).length ≤ 2000 := fun r => by rw [set_len]; split <;> omega
  by_cases h2 : (l.length : Int) ≤ b ∨ q.len = 64
  ·rw [grow_leaf h1 h2]; exact hs _
  by_cases hc : chE q 0 = 0
  ·have e1 : (gT b n l q T 1).length ≤ 2000 := grow_len n _ _ _ (hs innR)
   have e2 : (gT b n l q T 2).length ≤ 2000 := grow_len n _ _ _ e1
   rw [grow_in h1 h2 hc]
   split
   ·exact e2
   exact e1
  rw [grow_none h1 h2 hc]; exact hs innR
theorem old_ok2 {m0 : Nat → Nat → Prop} {w0 w w' : World} {S : Nat → Prop} {ds : List Deferred} {K : Kn} {nt key : Nat} {t : Gr} {l : List (Nat × AV)} {mem : List (Nat × Blk)} {a : Act} (h : Fits ⟨m0, w0, S, ds, K⟩ ⟨nt, l, [], mem, [(key, t)]⟩ a w) (hS : ∀ k, ¬ S k) (hc : Chg (fun x => ownB t.v = some x) w w') {v : AV} (hv : Ok m0 w0 v) : Ok (mG m0 mem [(key, t)]) w' v := by
 refine hv.mono fun b o u hcell hn => ?_
 have hlt := World.block_lt_of_cell? w0 _ hcell
 have hown : ownB t.v ≠ some b := by
  intro hb
  obtain ⟨_, xs, ho⟩ := h.gr key t (by simp [lookM])
  exact absurd hlt (Nat.not_lt.2 (ho.lt b hb).1)
 refine ⟨?_, ?_⟩
 ·have e1 := h.chg.block b hlt (hS b)
  have e2 := hc.block b (Nat.lt_of_lt_of_le hlt h.chg.size) hown
  unfold World.cell? at hcell ⊢
  rw [e2, e1]; exact hcell
 rintro (h1 | ⟨k, e, he, h1⟩ | ⟨k, t', ht, hb, _⟩)
 ·exact hn h1
 ·subst h1
  rcases (h.mem k e he).2.2 with h2 | h2
  ·exact absurd hlt (Nat.not_lt.2 h2)
  exact hS _ h2
 obtain ⟨_, xs, ho⟩ := h.gr k t' ht
 exact absurd hlt (Nat.not_lt.2 (ho.lt b hb).1)
theorem lmL_chg {bN : Nat} {NX : List (Lab × Lab)} {m m' : Nat → Nat → Prop} {w w' : World} (h : (lmK labAV bN NX).p m w) (he : w'.heap[bN]? = w.heap[bN]?) : (lmK labAV bN NX).p m' w' := by
 obtain ⟨D, hD⟩ := h
 exact ⟨D, mapW_heap hD.map he, hD.nd, hD.labs, hD.has, hD.size, hD.at_, fun p hp => zLab_ok _ _ _⟩
theorem recV_cells {m : Nat → Nat → Prop} {w : World} {x : RA} (h : Ok m w (recV x)) (l : Lab) (v : Int) : ∀ u ∈ rowC ⟨l, v, x⟩, u.one = true ∧ Ok m w u := by
 cases h with
 | agg _ h1 h2 =>
  intro u hu
  simp only [rowC, List.mem_cons, List.not_mem_nil, or_false] at hu
  rcases hu with rfl | rfl | rfl | rfl | rfl | rfl | rfl | rfl
  ·exact ⟨rfl, .int _ _⟩
  ·exact ⟨rfl, .int _ _⟩
  ·exact ⟨rfl, .int _ _⟩
  ·exact ⟨rfl, .int _ _⟩
  ·exact ⟨h1 _ (by simp [recC]), h2 _ (by simp [recC])⟩
  ·exact ⟨rfl, .int _ _⟩
  ·exact ⟨rfl, .int _ _⟩
  exact ⟨rfl, .int _ _⟩
def fixA (NX : Lab → Lab) (r : RowA) : RowA := if r.x.r.kd = 1 then ⟨r.lab, r.ver, ⟨r.x.A, r.x.c, { r.x.r with nx := NX r.lab }⟩⟩ else r
theorem fixA_abs (NX : Lab → Lab) (r : RowA) : (fixA NX r).abs = fixN NX r.abs := by
 unfold fixA fixN
 by_cases h : r.x.r.kd = 1
 ·rw [if_pos h, if_pos (show r.abs.r.kind = 1 from h)]; rfl
 rw [if_neg h, if_neg (show ¬ r.abs.r.kind = 1 from h)]
theorem build_s (A : Option Addr) (n c : Nat) (f : Nat → Itm) (hn : n ≤ 1000000) (hki : ∀ i, i < n → U64 (f i).key) (b : Int) : Spec Tryz.prog 18 [rowI A n c f, .int .i64 b] (fun y => .tup [rowsV (y.A 0) (bldR n f b).length (y.c 0) (rwAt y (bldR n f b)), .int .i64 (bldE n f b)]) := by
 intro m w hm hargs
 have hmx : maxLen = 9223372036854775807 := rfl
 have hok := hargs (rowI A n c f) (by simp)
 have hvs : ∀ i, i < n → (f i).val.size ≤ maxLen := fun i hi => by
  have := ok_cell hok hi (.str (f i).val) (by simp [itC])
  cases this; assumption
 have SO := conO_s A n c f hn
 have SS := srtI_s A n c f hn
 obtain ⟨od, hod⟩ := eqv (oddB n f)
 obtain ⟨sr, hsr⟩ := eqv (srtB n f)
 obtain ⟨du, hdu⟩ := eqv (dupB n f)
 rw [← hod] at SO
 rw [← hsr] at SS
 unfold rowI at hargs SO SS
 refine en 95 hm hargs Tryz.func18 fun B hB a0 hF => ?_
 refine wp_seq (rg hB TA_ok [0, 1] [] [] hF fun X0 a0 w1 hF => ?_)
 refine wp_seq (rg hB TA_ok [6, 0, 1] [] [] hF fun X1 a0 w1 hF => ?_)
 refine wp_seq (rg hB TA_ok [7, 6, 0, 1] [] [] hF fun X2 a0 w1 hF => ?_)
 refine wp_seq (wp_region_lit ?_)
 refine lpr 0 1 hB TA_ok [16, 7, 6, 0, 1] [] [] hF (fun X3 a0 w1 hF => ?_)
 refine man_raw rfl rfl rfl rfl rfl hF rfl rfl (fun _ _ => by kernel_rfl) _ (clone_own A n c f hn (hF.slot 16 rfl).2) ?_
 rintro v w2 ⟨A2, c2, rfl, hO2, hb2⟩
 have hF2 := (hF.below hb2).put (some 17) (fun t ht => by injection ht with ht; subst ht; exact Nat.le_of_ble_eq_true rfl) (.raw (.slice A2 n c2)) (fun _ => .raw _) _ fun _ => rfl
 have hcc := compact_c hO2 hb2.size hn hvs
 refine man_raw (R := fun v w' => ∃ A m c, v = .slice A m c ∧ decide (m < n) = du ∧ OldB w1.heap.size w2 w') rfl rfl rfl rfl rfl hF2 rfl rfl (fun _ _ => by kernel_rfl) (hcc.mono ?_) ?_
 ·rintro e w' ⟨A3, m3, c3, rfl, h1, h2, h3⟩
  exact ⟨_, rfl, A3, m3, c3, rfl, by rw [hdu]; exact h1, h3⟩
 rintro v w3 ⟨A3, m3, c3, rfl, hm3, hold⟩
 have hb3 : Below w1.heap.size w1 w3 := ⟨hold.os.trans hb2.os, hold.tape.trans hb2.tape, hold.output.trans hb2.output, hold.size, fun k hk => (hold.block k hk).trans (hb2.block k hk)⟩
 have hF3 := (hF.below hb3).put (some 17) (fun t ht => by injection ht with ht; subst ht; exact Nat.le_of_ble_eq_true rfl) (.raw (.slice A2 n c2)) (fun _ => .raw _) (.slice A2 n c2) fun _ => rfl
 have hF3 := hF3.put (some 18) (fun t ht => by injection ht with ht; subst ht; exact Nat.le_of_ble_eq_true rfl) (.raw (.slice A3 m3 c3)) (fun _ => .raw _) (.slice A3 m3 c3) fun _ => rfl
 refine man_val (v := .int .i64 (m3 : Int)) rfl rfl rfl hF3 (Nat.le_of_ble_eq_true rfl) ?_ (.int _ _) fun a0 hF => ?_
 ·have h18 := (hF3.slot 18 rfl).1
  have hu : Tryz.prog.underlying 24 = some (.slice 58) := by kernel_rfl
  have h18' := (val_ok hF3 (q := []) (fun _ h => by cases h) (x := .tmp 18) rfl).1
  have h18'' : Act.eval ((a0.put (some 17) (.slice A2 n c2)).put (some 18) (.slice A3 m3 c3)) (.tmp 18) = .slice A3 m3 c3 := h18'
  simp [execOp, resolve, invoke, builtin, Builtin.len_, h18'', AV.den, run_underlying hu, goInt]
 refine lnd 4 hB TA_ok [8, 7, 6, 0, 1] [] [] hF (fun X4 a0 w1 hF => ?_)
 have hF := hF.headS (v' := .bool (.v du)) (by subst hB; exact Sim.bool (by rw [← hm3]; show decide ((m3 : Int) < (n : Int)) = decide (m3 < n); rw [decide_eq_decide]; omega)) rfl
 have O1 := SO
 have O2 := SS
 refine wp_seq (wp_block (wp_seq (rg hB TA_ok [23, 0, 1] [] [(9, .r fun _ => .bool (.v od)), (14, .r fun _ => .bool (.v sr))] hF (fun X5 a0 w1 hF => ?_) (hob := ?hob))))
 case hob =>
  intro X; subst hB
  repeat (first | exact trivial | refine ⟨rfl, ?_⟩ | refine ⟨fun _ => rfl, ?_⟩ | refine ⟨fun _ => ⟨fun _ _ => by kernel_rfl, SO⟩, ?_⟩ | refine ⟨fun _ => ⟨fun _ _ => by kernel_rfl, SS⟩, ?_⟩)
 refine test_ok hF rfl (fun hbA hF => ?_) (fun hbA hF => ?_)
 ·have h9 : (if (if (if (if decide (b < 1) = true then true else decide (b > 16)) = true then true else od) = true then true else !sr) = true then true else du) = true := by subst hB; exact hbA
  have hE : bldE n f b = 1 := by
   unfold bldE
   rw [if_pos]
   rw [← hod, ← hsr, ← hdu]
   by_cases g1 : b < 1
   ·exact .inl g1
   by_cases g2 : b > 16
   ·exact .inr (.inl g2)
   cases od
   ·cases sr
    ·exact .inr (.inr (.inr (.inl rfl)))
    cases du
    ·simp [g1, g2] at h9
    exact .inr (.inr (.inr (.inr rfl)))
   exact .inr (.inr (.inl rfl))
  refine wp_seq (rg hB TA_ok [4, 5] [4] [] hF fun X6 a0 w1 hF => ?_)
  refine wp_ret (rsi hB TA_ok hF ⟨0, fun _ => none, fun _ => 0, fun _ => .empty⟩ (he := ?_))
  subst hB
  rw [show bldR n f b = [] by unfold bldR; rw [hE]; rfl, hE]
  exact Sim.tup ⟨sim_nils, zr, trivial⟩
 have hE0 : bldE n f b = if 500 < n then 2 else if (growT n f b).1 = true then 0 else 2 := by
  have h9 : (if (if (if (if decide (b < 1) = true then true else decide (b > 16)) = true then true else od) = true then true else !sr) = true then true else du) = false := by subst hB; exact hbA
  unfold bldE
  rw [if_neg]
  rw [← hod, ← hsr, ← hdu]
  rintro (g | g | g | g | g) <;> simp [g] at h9
 refine wp_seq (rg hB TA_ok [44, 0, 1] [] [] hF fun X6 a0 w1 hF => ?_)
 refine test_ok hF rfl (fun hbB hF => ?_) (fun hbB hF => ?_)
 ·have hbig : 500 < n := by
   have : (500 : Int) < (n : Int) := by subst hB; simpa [std, sC] using hbB
   omega
  rw [if_pos hbig] at hE0
  refine wp_seq (rg hB TA_ok [4, 5] [4] [] hF fun X7 a0 w1 hF => ?_)
  refine wp_ret (rsi hB TA_ok hF ⟨0, fun _ => none, fun _ => 0, fun _ => .empty⟩ (he := ?_))
  subst hB
  rw [show bldR n f b = [] by unfold bldR; rw [hE0]; rfl, hE0]
  exact Sim.tup ⟨sim_nils, zr, trivial⟩
 have hsml : ¬ 500 < n := by
  have : ¬ (500 : Int) < (n : Int) := by subst hB; simpa [std, sC] using hbB
  omega
 rw [if_neg hsml] at hE0
 refine wp_skip (wp_seq (wp_region_lit ?_))
 refine man_makeMap (k := 42) (e := 0) rfl rfl rfl rfl hF (Nat.le_of_ble_eq_true rfl) (lmR w1.heap.size []) (fun m w' _ _ hM => ⟨[], rfl, _, LmD.empty hM⟩) ?_
 obtain ⟨bT, hbT⟩ := eqv (w1.heap.size)
 rw [← hbT]
 intro a0 w1 hfresh hF
 have hbfr : w.heap.size ≤ bT := hfresh
 refine lnd 1 hB TA_ok [9, 0, 1] [] [] hF (fun X7 a0 w1 hF => ?_)
 refine wp_seq (wp_seq (wp_region_lit ?_))
 refine lpr 0 4 hB TA_ok [49, 50, 51, 52, 9] [] [] hF (fun X8 a0 w1 hF => ?_)
 have hGM := grow_m bT b 65 A n c f ⟨0, 0⟩ [] hn hki ⟨by decide, by decide⟩ (by decide) (by decide)
 obtain ⟨gp, hgp⟩ := eqv (growT n f b)
 rw [show growP b 65 (firsts f n) ⟨0, 0⟩ [] = gp from hgp.symm] at hGM
 simp only [rowI, labAV] at hGM
 refine man_callM rfl rfl rfl rfl hF rfl rfl (fun _ _ => by kernel_rfl) hGM (fun _ _ h => h) (fun b' hb' => by cases hb'; exact fun h => absurd h (Nat.not_lt.2 hbfr)) (zl) (fun e he => by cases he) rfl rfl (fun _ => lmR bT gp.2) (fun _ _ _ _ _ _ _ _ _ h => h) ?_
 intro y a0 w1 hF
 obtain ⟨gb, hgb⟩ := eqv (gp.1)
 rw [← hgb] at hF
 refine lnd 5 hB TA_ok [54, 9] [] [] hF (fun X9 a0 w1 hF => ?_)
 refine test_ok hF rfl (fun hbC hF => ?_) (fun hbC hF => ?_)
 ·have hgf : gb = false := by subst hB; cases gb <;> first | rfl | cases hbC
  have hE : bldE n f b = 2 := by rw [hE0, ← hgp, ← hgb, hgf]; rfl
  refine wp_seq (rg hB TA_ok [4, 5] [4] [] hF fun X10 a0 w1 hF => ?_)
  refine wp_ret (rsi hB TA_ok hF ⟨0, fun _ => none, fun _ => 0, fun _ => .empty⟩ (he := ?_))
  subst hB
  rw [show bldR n f b = [] by unfold bldR; rw [hE]; rfl, hE]
  exact Sim.tup ⟨sim_nils, zr, trivial⟩
 have hgt : gb = true := by subst hB; cases gb <;> first | rfl | cases hbC
 have hE : bldE n f b = 0 := by rw [hE0, ← hgp, ← hgb, hgt]; rfl
 have hR : bldR n f b = (bld0 n f b).map (fixN (nxP (leavesP (bld0 n f b)))) := by unfold bldR; rw [if_pos hE]
 have h0 : bld0 n f b = (sortE gp.2).map rwOf := by unfold bld0; rw [← hgp]
 rw [hE, hR]
 refine wp_skip ?_
 -- from here on: a stretch of its own
 obtain ⟨wi, hwi⟩ := eqv (w1)
 have hMi : Mem m w (fun _ => False) noK [] [] wi := by rw [hwi]; exact (hF.withK (K' := noK) trivial).bare
 obtain ⟨TA, hTA, D, hD⟩ := hF.kept
 have hFs := (seg_of hF).withK (K' := ldK recV D bT TA) (seg_K (K := ldK recV D bT TA) hD)
 rw [← hwi] at hFs hD ⊢
 obtain ⟨mS, hmS⟩ := eqv (mT m [] [])
 have hokT : ∀ p ∈ TA, Ok mS wi (recV p.2) := fun p hp => by rw [hmS]; exact hD.ok p hp
 have hrets : ∀ {fn : Func} {nt0 : Nat} {tm0 : List (Nat × AV)} {R : Ending → World → Prop}, True := fun {_ _ _ _} => trivial
 replace hF := hFs
 rw [← hmS] at hF
 have hlabs : ∀ p ∈ TA, LabOk p.1 := hD.labs
 have hnd := hD.nd
 have hmapT : ∃ es cl, wi.heap[bT]? = some (.map es cl) := by obtain ⟨es, cl, h, _⟩ := hD.map; exact ⟨es, cl, h⟩
 refine wp_seq (rg hB TA_ok [10, 9] [10] [] hF fun X10 a0 w1 hF => ?_)
 refine wp_seq (wp_seq (wp_region_lit ?_))
 refine lpr 0 1 hB TA_ok [55, 10] [10] [] hF (fun X11 a0 w1 hF => ?_)
 obtain ⟨rr, hrr⟩ := eqv (w1.heap.size)
 refine man_range rfl rfl rfl rfl hF (Nat.le_of_ble_eq_true rfl) rfl labK mapr_und hF.kept.map (rgK recV D bT rr TA (Maps.has D) (Maps.size D)) (fun m w' h1 h2 h3 => ⟨h1.keep h2, by rw [hrr]; exact h3⟩) ?_
 rw [← hrr]
 intro a0 w1 hfr hF
 refine wpList_nil ?_
 replace hF := hF.keep [10, 56] [10]
 have hbTr : bT ≠ rr := by
  obtain ⟨es, cl, h⟩ := hmapT
  have := lt_heap h
  omega
 have hF := hF.headS (v' := .sl (some 10) none 0 0 8 (fun t => rowC zRow)) (zq0) rfl
 refine wp_block (loop_any (ι := Nat × (Nat → RowA) × Option Addr × Nat × (Lit → Bool) × Nat) (fun p a w1 => Fits ⟨mS, wi, ats [], [], rgK recV D bT rr TA p.2.2.2.2.1 p.2.2.2.2.2⟩ ⟨95, [(10, .sl (some 10) p.2.2.1 p.1 p.2.2.2.1 8 (fun t => rowC (p.2.1 t))), (56, .raw (.pointer (some ⟨rr, 0, none⟩)))], [], [], [(10, ⟨p.2.2.1, p.1, p.2.2.2.1, 8, 46⟩)]⟩ a w1) (fun p => (∀ kl, p.2.2.2.2.1 kl = true → Maps.has D kl = true) ∧ (rwsA p.2.1 p.1 ++ (TA.filter fun q => p.2.2.2.2.1 (keyL q.1)).map fun q => (rwA q).abs).Perm (TA.map fun q => (rwA q).abs) ∧ ∀ t, t < p.1 → ∃ q ∈ TA, p.2.1 t = rwA q) (fun p => p.2.2.2.2.2) (0, fun _ => zRow, none, 0, Maps.has D, Maps.size D) ⟨fun _ h => h, by
  have : TA.filter (fun q => Maps.has D (keyL q.1)) = TA := List.filter_eq_self.2 fun q hq => (hD.has _).2 ⟨q, hq, rfl⟩
  simp only [this]
  exact List.Perm.refl _, fun t ht => absurd ht (Nat.not_lt_zero _)⟩ hF ?_)
 rintro ⟨k1, h, A1, c1, left, cnt⟩ ⟨hlft, hprm, hels⟩ a0 w1 hF
 dsimp only at hlft hprm hels hF
 have hTl : TA.length ≤ 2000 := by
  have := grow_len (b := b) 65 (firsts f n) ⟨0, 0⟩ [] (Nat.zero_le _)
  have e : gp.2 = (growP b 65 (firsts f n) ⟨0, 0⟩ []).2 := by rw [hgp]; rfl
  rw [← e, ← hTA, absT_len] at this
  exact this
 have hk1 : k1 ≤ TA.length := by
  have h9 := hprm.length_eq
  simp only [List.length_append, listA_len, List.length_map] at h9
  omega
 refine wp_seq (wp_region_lit ?_)
 refine man_next1 rfl rfl rfl rfl hF (Nat.le_of_ble_eq_true rfl) rfl labK hF.kept.2 (fun h => absurd h (Nat.not_lt.2 hfr)) (spK recV D bT rr TA left) (fun m h _ => ⟨h.1, fun h => by cases h⟩) (fun key v kl cnt' m w' h1 h2 h3 h4 => ⟨h1.1.keepB h2 (fun e => hbTr (by injection e with e; exact e.symm)), fun _ => ⟨h3, h4⟩⟩) ?_
 intro a0 w1 bb rest' key v kl cnt' hn0 hn1 hF
 refine lnd 1 hB TA_ok [58, 10, 56] [10] [] hF (fun X12 a0 w1 hF => ?_)
 refine wp_seq (test_ok hF rfl (fun hbD hF => ?_) (fun hbD hF => ?_))
 ·have hbb : bb = true := by subst hB; exact hbD
  obtain ⟨hnx1, hnx2, hnx3, hnx4⟩ := hn1 hbb
  replace hF := hF.withK (K' := etK recV D bT rr TA (fun x => left x && !x.sameKey kl) key v cnt') ⟨hF.kept.1, hF.kept.2 hbb⟩
  refine wp_skip (wp_block (wp_seq (wp_region_lit ?_)))
  obtain ⟨⟨q, el⟩, hp, hpk, hpkey, hpv⟩ := hF.kept.1.entry hnx1 (hlft _ hnx2) hnx3
  dsimp only at hpk hpkey hpv
  have hent := hF.kept.2.2
  rw [hpkey, hpv] at hent
  have hok := hF.kept.1.ok _ hp
  refine man_entry rfl rfl rfl rfl hF (Nat.le_of_ble_eq_true rfl) rfl hent (zLab_ok _ _ q) hok ?_
  intro a0 hF
  simp only [labAV] at hF
  replace hF := hF.withK (K' := rgK recV D bT rr TA (fun x => left x && !x.sameKey kl) cnt') ⟨hF.kept.1, hF.kept.2.1⟩
  refine lnd 1 hB TA_ok [11, 12, 10, 56] [11, 12, 10] [] hF (fun X13 a0 w1 hF => ?_)
  refine rg hB TA_ok [10, 56] [10] [] hF (fun X14 a0 w1 hF => ?_) (hob := ?hob2)
  case hob2 =>
   intro X; subst hB
   repeat (first | exact trivial | refine ⟨⟨rfl, rfl, rfl⟩, ?_⟩ | refine ⟨rfl, ?_⟩ | refine ⟨⟨show k1 + 1 ≤ maxLen by omega, show (k1 + 1) * _ ≤ _ by omega⟩, ?_⟩)
  obtain ⟨h2, hh2⟩ : ∃ x : Nat → RowA, x = fun t => if t = k1 then rwA (q, el) else h t := ⟨_, rfl⟩
  have hF := hF.headS (v' := .sl (some 10) ((X14 5).A 0) (B.nadd k1 1) ((X14 5).c 0) 8 (fun t => rowC (h2 t))) (Sim.resl rfl (fun t ht => by
   subst hB
   have ht2 : t < k1 + 1 := ht
   show appC k1 (fun t => rowC (h t)) (chunk 8 (rowC (rwA (q, el)))) t = _
   rw [hh2]
   unfold appC
   dsimp only
   split
   ·rw [if_neg (by omega)]
   have : t = k1 := by omega
   subst this
   rw [if_pos rfl]
   simp [chunk])) rfl
  refine ⟨(k1 + 1, h2, _, _, (fun x => left x && !x.sameKey kl), cnt'), ⟨fun x hx => ?_, ?_, fun t ht => ?_⟩, hnx4, by rw [show k1 + 1 = B.nadd k1 1 by subst hB; rfl]; exact hF⟩
  ·simp only [Bool.and_eq_true] at hx
   exact hlft _ hx.1
  ·have h9 := (fresh_left (left := left) hnd hlabs hp (by rw [hpk]; exact hnx2)).map fun q => (rwA q).abs
   rw [hpk] at h9
   have e9 : rwsA h2 (k1 + 1) = rwsA h k1 ++ [(rwA (q, el)).abs] := by
    show listA RowA.abs _ (k1 + 1) = listA RowA.abs h k1 ++ _
    rw [listA_succ, hh2]
    simp only [if_true]
    congr 1
    unfold listA
    apply List.map_congr_left
    intro t ht
    have h5 := List.mem_range.1 ht
    show RowA.abs (if t = k1 then rwA (q, el) else h t) = _
    rw [if_neg (by omega)]
   simp only
   rw [e9, List.append_assoc]
   refine List.Perm.trans (List.Perm.append_left _ ?_) hprm
   rw [List.map_cons] at h9
   exact h9.symm
  simp only at ht ⊢
  rw [hh2]
  by_cases he : t = k1
  ·exact ⟨_, hp, by simp [he]⟩
  simp only [if_neg he]; exact hels t (by omega)
 have hbb : bb = false := by subst hB; exact hbD
 have hall := hn0 hbb
 have hprm2 : (rwsA h k1).Perm (TA.map fun q => (rwA q).abs) := by
  have e9 : (TA.filter fun q => left (keyL q.1)) = [] := List.filter_eq_nil_iff.2 fun q _ => by rw [hall]; simp
  rw [e9] at hprm
  simpa using hprm
 replace hF := hF.withK (K' := noK) trivial
 refine wp_exit (wp_seq (wp_region_lit ?_))
 refine lpr 0 1 hB TA_ok [68, 10] [10] [] hF (fun X13 a0 w1 hF => ?_)
 have hO := gr_own hF (hF.slot 10 rfl).2
 refine man_sorted rfl rfl rfl rfl rfl hF rfl rfl (fun _ _ => by kernel_rfl) (fun w' => ∃ h' : Nat → RowA, ((List.range k1).map h').Perm ((List.range k1).map h) ∧ (∀ i j, i < j → j < k1 → labLt (h' j).lab (h' i).lab = false) ∧ Own w' wi.heap.size 46 8 (.slice A1 k1 c1) k1 (rowFlat (fun t => rowC (h' t)) k1)) ((sortRow_c hO (by omega)).mono ?_) ?_
 ·rintro e w2 ⟨he, h', g1, g2, g3, g4⟩
  exact ⟨he, ⟨h', g1, g2, g3⟩, g4⟩
 rintro w2 ⟨h', g1, g2, g3⟩ g4
 have hfin := build_fin hnd hprm2 g1 g2
 have hels' : ∀ i, i < k1 → ∃ q ∈ TA, h' i = rwA q := by
  intro i hi
  have hmem := g1.mem_iff.1 (List.mem_map.2 ⟨i, List.mem_range.2 hi, rfl⟩)
  obtain ⟨j, hj, hje⟩ := List.mem_map.1 hmem
  obtain ⟨q, hq, hqe⟩ := hels j (List.mem_range.1 hj)
  exact ⟨q, hq, by rw [← hje, hqe]⟩
 have hgrm : ∀ b', ownB (.slice A1 k1 c1) = some b' → ∀ o, o < k1 * 8 → ¬ mG mS [] [(10, ⟨A1, k1, c1, 8, 46⟩)] b' o := grown_free hF
 have hrow2 : Ok (mG mS [] [(10, ⟨A1, k1, c1, 8, 46⟩)]) w2 (.sl (some 10) A1 k1 c1 8 (fun t => rowC (h' t))) := own_known2 g3 (fun _ _ => rfl) hgrm (fun i hi => by
  obtain ⟨q, hq, e⟩ := hels' i hi
  rw [e]
  exact recV_cells (old_ok2 hF noAts g4 (hokT q hq)) _ _) _
 have hF := Fits.rowset (K' := noK) (l' := [(10, .sl (some 10) A1 k1 c1 8 (fun t => rowC (h' t)))]) hF g4 g3 (hl_cons ⟨(hF.slot 10 rfl).1, hrow2⟩ hl_nil) (fun k e he => by cases he) trivial
 have hF := (hF.put (some 69) (fun t ht => by injection ht with ht; subst ht; exact Nat.le_of_ble_eq_true rfl) (.tup []) (fun _ => .tup _ fun u hu => by cases hu) (.tuple #[]) fun _ => rfl)
 refine wpList_nil ?_
 replace hF := hF.keep [10] [10]
 have hk2000 : k1 ≤ 2000 := by omega
 obtain ⟨lv, hlv⟩ := eqv (leavesP (rwsA h' k1))
 have hlvl : lv.length ≤ k1 := by
  have := leaves_len (rwsA h' k1)
  rw [listA_len, ← hlv] at this
  exact this
 have hlvo := leaves_mem (l := rwsA h' k1) (p := LabOk) (fun x hx => by
  simp only [rwsA, listA, List.mem_map, List.mem_range] at hx
  obtain ⟨i, hi, rfl⟩ := hx
  obtain ⟨q, hq, e⟩ := hels' i hi
  rw [e]
  exact hlabs q hq)
 have SL := (leaves_s A1 k1 c1 h' (by omega)).args' (args := [.sl (some 10) A1 k1 c1 8 (fun t => rowC (h' t))]) ⟨Sim.resl rfl (fun t ht => rfl), trivial⟩
 rw [← hlv] at SL hlvo
 obtain ⟨lf, hlf⟩ := eqv (labF lv)
 obtain ⟨ln, hln⟩ := eqv (lv.length)
 rw [← hlf, ← hln] at SL hlvo
 rw [← hln] at hlvl
 obtain ⟨NX, hNX⟩ := eqv (nexA lf ln ln)
 have O1 := SL
 refine wp_seq (wp_region_lit ?_)
 refine lpr 0 2 hB TA_ok [71, 10] [10] [(1, .r fun y => labsV (y.A 0) ln (y.c 0) lf)] hF (fun X15 a0 w1 hF => ?_)
 refine man_callM rfl rfl rfl rfl hF rfl rfl (fun _ _ => by kernel_rfl) (nexts_m ((X15 1).A 0) ln ((X15 1).c 0) lf (by omega) hlvo) (fun _ _ h => h) (fun b hb => by cases hb) (zl) (fun e he => by cases he) rfl rfl (fun y => lmK labAV (y.c 0) NX) (fun _ _ _ _ _ _ _ _ _ h => by rw [hNX]; exact h.2) ?_
 intro y2 a0 w1 hF
 obtain ⟨bN, hbN⟩ := eqv (y2.c 0)
 rw [← hbN] at hF
 refine lnd 3 hB TA_ok [13, 10] [10] [] hF (fun X16 a0 w1 hF => ?_)
 obtain ⟨nx, hnx⟩ : ∃ x : Lab → Lab, x = fun q => (getA q NX).getD ⟨0, 0⟩ := ⟨_, rfl⟩
 have hnxP : nx = nxP lv := by
  funext q
  rw [hnx, hNX, hlf, hln]
  rfl
 refine wp_seq (wp_seq (rg hB TA_ok [75, 10, 73, 74, 13] [10] [] hF fun X17 a0 w1 hF => ?_))
 have hF0 := hF
 refine wp_block (loop_any (ι := Nat) (fun i a w1 => Fits ⟨mS, wi, ats [], [], lmK labAV bN NX⟩ ⟨95, [(75, .int .i64 (i : Int)), (10, .sl (some 10) A1 k1 c1 8 (fun t => rowC (if t < i then fixA nx (h' t) else h' t))), (73, .sl (some 10) A1 k1 c1 8 (fun t => rowC (if t < i then fixA nx (h' t) else h' t))), (74, .int .i64 (k1 : Int)), (13, .raw (.map (some bN)))], [], [], [(10, ⟨A1, k1, c1, 8, 46⟩)]⟩ a w1) (fun i => i ≤ k1) (fun i => k1 - i) 0 (Nat.zero_le _) (by subst hB; exact hF0) ?_)
 intro i hi a0 w1 hF
 obtain ⟨hc, hhc⟩ : ∃ x : Nat → RowA, x = fun t => if t < i then fixA nx (h' t) else h' t := ⟨_, rfl⟩
 have ehc : (fun t => rowC (if t < i then fixA nx (h' t) else h' t)) = fun t => rowC (hc t) := by rw [hhc]
 rw [ehc] at hF
 have hci : hc i = h' i := by rw [hhc]; simp
 refine wp_seq (rg hB TA_ok [76, 75, 10, 73, 74, 13] [10] [] hF fun X18 a0 w1 hF => ?_)
 refine wp_seq (test_ok hF rfl (fun hbE hF => ?_) (fun hbE hF => ?_))
 ·have hin : i < k1 := by
   have : (i : Int) < (k1 : Int) := by subst hB; simpa [std, sC] using hbE
   omega
  have eI : B.arith .add .i64 (i : Int) 1 = ((i + 1 : Nat) : Int) := by subst hB; exact wrap_succ (n := k1) hin (by omega)
  refine wp_skip (wp_seq (wp_block (wp_seq (rg hB TA_ok [14, 15, 75, 10, 73, 74, 13] [15, 10] [] hF (fun X19 a0 w1 hF => ?_) (hob := ?hob3)))))
  case hob3 =>
   intro X; subst hB
   repeat (first | exact trivial | refine ⟨rfl, ?_⟩ | refine ⟨(show (0 : Int) ≤ (i : Int) ∧ (i : Int) < (k1 : Int) by omega), ?_⟩)
  have hF := hF.memS (cells' := rowC (hc i)) (by subst hB; exact zl)
  refine wp_seq (rg hB TA_ok [83, 14, 15, 75, 10, 73, 74, 13] [15, 10] [] hF fun X20 a0 w1 hF => ?_)
  refine test_ok hF rfl (fun hbF hF => ?_) (fun hbF hF => ?_)
  ·have hk1' : (h' i).x.r.kd = 1 := by rw [← hci]; subst hB; simpa [std, sC] using hbF
   obtain ⟨nq, hnq⟩ := eqv (nx (hc i).lab)
   have hlq : LabOk (hc i).lab := by
    rw [hci]
    obtain ⟨q, hq, e⟩ := hels' i hin
    rw [e]
    exact hlabs q hq
   have ON := look_ff (K := lmK labAV bN NX) (el := labAV) (l := (hc i).lab) (fun m w h => h) hlq mapl_und zLab_run (fun m w => zLab_ok m w _) (v := labAV nq) (by rw [hnq, hnx])
   simp only [labAV] at ON
   refine wp_region_lit ?_
   refine lpr 0 9 hB TA_ok [92, 89, 75, 10, 73, 74, 13] [10] [(5, .r fun _ => .agg [.int .i64 nq.len, .int .u64 nq.bits])] hF (fun X21 a0 w1 hF => ?_) (hob := ?hob4)
   case hob4 =>
    intro X; subst hB
    repeat (first | exact trivial | refine ⟨rfl, ?_⟩ | refine ⟨ON, ?_⟩ | refine ⟨(show (0 : Int) ≤ (i : Int) ∧ (i : Int) < (k1 : Int) by omega), ?_⟩)
   have hF := hF.headS (v' := .ep A1 i 8 5 (rowC (hc i))) (by subst hB; exact zr) rfl
   have hrowk : Ok _ w1 (.sl (some 10) A1 k1 c1 8 (fun t => rowC (hc t))) := (hF.slot 10 rfl).2
   have hbNr : ownB (.slice A1 k1 c1) ≠ some bN := by
    intro e
    obtain ⟨_, xs, ho⟩ := hF.gr 10 ⟨A1, k1, c1, 8, 46⟩ rfl
    obtain ⟨c', t', f', hcl⟩ := ho.isCells e
    obtain ⟨es, cl, hm⟩ := lmK_map hF.kept
    rw [hm] at hcl; cases hcl
   have hKl := hF.kept
   refine man_rstore rfl rfl rfl rfl hF rfl rfl (.inr rfl) TA_ok rfl rfl hrowk (fun _ _ => rfl) hin (show 5 + 2 ≤ 8 from by decide) (fun w2 hO2 hc2 _ => ?_)
   obtain ⟨h2, hh2⟩ : ∃ x : Nat → RowA, x = fun t => if t < i + 1 then fixA nx (h' t) else h' t := ⟨_, rfl⟩
   have efl : wrC (fun t => rowC (hc t)) i 5 [.int .i64 nq.len, .int .u64 nq.bits] = fun t => rowC (h2 t) := by
    funext t
    rw [hh2]
    unfold wrC
    by_cases hti : t = i
    ·subst hti
     rw [if_pos rfl]
     show List.take 5 (rowC (hc t)) ++ [.int .i64 nq.len, .int .u64 nq.bits] ++ List.drop (5 + 2) (rowC (hc t)) = rowC (if t < t + 1 then fixA nx (h' t) else h' t)
     rw [if_pos (Nat.lt_succ_self t), hnq, hci]
     unfold fixA
     rw [if_pos hk1']
     rfl
    rw [if_neg hti, hhc]
    dsimp only
    by_cases ht2 : t < i
    ·rw [if_pos ht2, if_pos (by omega)]
    rw [if_neg ht2, if_neg (by omega)]
   have hO2 : Own w2 wi.heap.size 46 8 (.slice A1 k1 c1) k1 (rowFlat (fun t => rowC (h2 t)) k1) := by rw [← efl]; exact hO2
   have hgrm2 := grown_free hF
   have hrow2 : Ok (mG mS [] [(10, ⟨A1, k1, c1, 8, 46⟩)]) w2 (.sl (some 10) A1 k1 c1 8 (fun t => rowC (h2 t))) := own_known2 hO2 (fun _ _ => rfl) hgrm2 (fun j hj => by
    obtain ⟨q, hq, e⟩ := hels' j hj
    have h5 := old_ok2 hF noAts hc2 (hokT q hq)
    rw [hh2]
    dsimp only
    split
    ·rw [e]
     unfold fixA
     split
     ·have := recV_cells h5 (rwA q).lab (rwA q).ver
      intro u hu
      simp only [rowC, List.mem_cons, List.not_mem_nil, or_false] at hu
      rcases hu with rfl | rfl | rfl | rfl | rfl | rfl | rfl | rfl
      ·exact ⟨rfl, .int _ _⟩
      ·exact ⟨rfl, .int _ _⟩
      ·exact ⟨rfl, .int _ _⟩
      ·exact ⟨rfl, .int _ _⟩
      ·exact this _ (by simp [rowC, rwA])
      ·exact ⟨rfl, .int _ _⟩
      ·exact ⟨rfl, .int _ _⟩
      exact ⟨rfl, .int _ _⟩
     exact recV_cells h5 _ _
    rw [e]; exact recV_cells h5 _ _) _
   have hF := Fits.rowset (K' := lmK labAV bN NX) (l' := [(75, .int .i64 (i : Int)), (10, .sl (some 10) A1 k1 c1 8 (fun t => rowC (h2 t))), (73, .sl (some 10) A1 k1 c1 8 (fun t => rowC (h2 t))), (74, .int .i64 (k1 : Int)), (13, .raw (.map (some bN)))]) hF hc2 hO2 (hl_cons ⟨(hF.slot 75 rfl).1, .int _ _⟩ (hl_cons ⟨(hF.slot 10 rfl).1, hrow2⟩ (hl_cons ⟨(hF.slot 73 rfl).1, hrow2⟩ (hl_cons ⟨(hF.slot 74 rfl).1, .int _ _⟩ (hl_cons ⟨(hF.slot 13 rfl).1, .raw _⟩ hl_nil))))) (fun k e he => by cases he) (lmL_chg hKl (hc2.block bN (lmK_lt hKl) hbNr))
   refine wpList_nil ?_
   refine rg hB TA_ok [75, 10, 73, 74, 13] [10] [] hF fun X22 a0 w1 hF => ?_
   exact ⟨i + 1, by omega, by omega, by rw [← eI]; rw [hh2] at hF; exact hF⟩
  have hk1' : ¬ (h' i).x.r.kd = 1 := by rw [← hci]; subst hB; simpa [std, sC] using hbF
  refine wp_skip (rg hB TA_ok [75, 10, 73, 74, 13] [10] [] hF fun X21 a0 w1 hF => ?_)
  have e2 : hc = fun t => if t < i + 1 then fixA nx (h' t) else h' t := by
   funext t
   rw [hhc]
   dsimp only
   by_cases ht2 : t < i
   ·rw [if_pos ht2, if_pos (by omega)]
   rw [if_neg ht2]
   by_cases hti : t = i
   ·subst hti
    rw [if_pos (by omega)]
    unfold fixA
    rw [if_neg hk1']
   rw [if_neg (by omega)]
  exact ⟨i + 1, by omega, by omega, by rw [← eI]; rw [e2] at hF; exact hF⟩
 have hik : i = k1 := by
  have : ¬ (i : Int) < (k1 : Int) := by subst hB; simpa [std, sC] using hbE
  omega
 refine wp_exit (wp_seq (rg hB TA_ok [4, 5] [10] [] hF fun X19 a0 w1 hF => ?_))
 have hFf := seg_end hMi (by rw [← hmS]; exact hF.withK (K' := noK) trivial)
 have hRf : rwsA hc k1 = (bld0 n f b).map (fixN (nxP (leavesP (bld0 n f b)))) := by
  rw [h0, ← hTA, ← hfin, ← hlv, ← hnxP]
  show listA RowA.abs hc k1 = (listA RowA.abs h' k1).map (fixN nx)
  unfold listA
  rw [List.map_map]
  apply List.map_congr_left
  intro t ht
  have h5 := List.mem_range.1 ht
  rw [hhc]
  simp only [Function.comp]
  rw [if_pos (by omega), fixA_abs]
 refine wp_ret (rsi hB TA_ok hFf (rwY A1 c1 hc 0) (he := ?_))
 subst hB
 exact Sim.tup ⟨rws_sim hRf, zr, trivial⟩
end Go.Proofs.YtpgjalaldhlcoaaGreat.Sym
namespace Go.Proofs.YtpgjalaldhlcoaaGreat.Sym
open Go Go.ChangeShapes Go.WideShapes Go.ChangeAt Go.RowKit Go.Deep Cl
abbrev m0 : Nat → Nat → Prop := fun _ _ => False
theorem u64_wf {n : Int} (h : (Lit.int .u64 n).wf = true) : U64 n := by
 simp [Lit.wf, IntKind.min, IntKind.max, IntKind.signed, IntKind.bits] at h
 exact ⟨by omega, by omega⟩
def OkL (w : World) (l : List AV) : Prop := ∀ v ∈ l, v.one = true ∧ Ok m0 w v
theorem OkL.nil {w : World} : OkL w [] := fun v hv => by cases hv
theorem OkL.cons {w : World} {v : AV} {l : List AV} (h1 : v.one = true) (h2 : Ok m0 w v) (h : OkL w l) : OkL w (v :: l) := by
 intro u hu
 rcases List.mem_cons.1 hu with rfl | hu
 ·exact ⟨h1, h2⟩
 exact h u hu
theorem OkL.int {w : World} {k : IntKind} {x : Int} {l : List AV} (h : OkL w l) : OkL w (.int k x :: l) := .cons rfl (.int _ _) h
theorem OkL.bool {w : World} {b : BE} {l : List AV} (h : OkL w l) : OkL w (.bool b :: l) := .cons rfl (.bool _) h
theorem OkL.append {w : World} {l l' : List AV} (h : OkL w l) (h' : OkL w l') : OkL w (l ++ l') := by
 intro u hu
 rcases List.mem_append.1 hu with hu | hu
 ·exact h u hu
 exact h' u hu
theorem OkL.agg {w : World} {l : List AV} (h : OkL w l) : Ok m0 w (.agg l) := .agg _ (fun v hv => (h v hv).1) fun v hv => (h v hv).2
def RowWf (w : World) (x : RowA) : Prop := OkL w (rowC x) ∧ x.x.r.n ≤ maxLen ∧ LabOk x.lab ∧ LabOk x.x.r.nx ∧ ∀ t, t < x.x.r.n → U64 (x.x.r.f t).key
theorem LabOk.u64 {l : Lab} (h : LabOk l) : U64 l.bits := u64_wf h.2
theorem rows_okg {α : Type} [Inhabited α] {k : Nat} {cells : α → List AV} {w : World} {A : Option Addr} {c : Nat} {l : List α} (hk : ∀ x, (cells x).length = k) (hl : l.length ≤ c) (hc : c ≤ maxLen) (ho : ∀ x ∈ l, OkL w (cells x))
  (h : 0 < (l.flatMap fun x => (cells x).map AV.den).length → ∃ b off, A = some ⟨b, off, none⟩ ∧ ∀ j u, (l.flatMap fun x => (cells x).map AV.den)[j]? = some u → w.cell? ⟨b, off + j, none⟩ = some u) (hk0 : 0 < k) : Ok m0 w (.sl none A l.length c k (fun i => cells (l.getD i default))) := by
 have hg : ∀ i (hi : i < l.length), l.getD i default = l[i] := fun i hi => by simp [List.getD, hi]
 have hkm : ∀ x, ((cells x).map AV.den).length = k := fun x => by rw [List.length_map, hk]
 have hpos : ∀ i, i < l.length → 0 < (l.flatMap fun x => (cells x).map AV.den).length := fun i hi => by rw [flat_length hkm]; exact Nat.mul_pos (by omega) hk0
 refine .sl _ _ _ _ _ _ hl hc (fun i _ => hk _) (fun i hi => ?_) (fun i hi j u hu => ?_) (fun i hi v hv => ?_) (fun i hi v hv => ?_)
 ·obtain ⟨b, off, hA, _⟩ := h (hpos i hi); exact ⟨b, off, hA⟩
 ·obtain ⟨b, off, hA, hcl⟩ := h (hpos i hi)
  rw [hg i hi] at hu
  exact ⟨b, off, hA, hcl _ u (flat_get hkm (List.getElem?_eq_getElem hi) hu), id⟩
 ·rw [hg i hi] at hv; exact (ho _ (List.getElem_mem hi) v hv).1
 rw [hg i hi] at hv; exact (ho _ (List.getElem_mem hi) v hv).2
section
variable {H : Type} {enc : TypeId × Value → H} {w : World} {base : Nat} {spare : Nat → Bool} {held : Bool}
theorem dec_itm (n : Nat) (cs : List Value) (y : DataW H × List MemPlace) (h : DataW.trod enc Tryz.prog w base spare held n 58 cs = some y) : ∃ x : Itm, cs = itmE x ∧ (x.val.size ≤ maxLen ∧ U64 x.key) := by
 obtain ⟨xs, m, rfl, rfl, hlen, hxl, hf⟩ := DataW.trod_struct Tryz.underlying58 h
 have hC : Tryz.prog.cellsOf 58 = 2 := by kernel_rfl
 have h0 : DataW.trod enc Tryz.prog w base spare held m 40 ((cs.drop 0).take (Tryz.prog.cellsOf 40)) = xs[0]? := hf 0 _ rfl
 have h1 : DataW.trod enc Tryz.prog w base spare held m 9 ((cs.drop 1).take (Tryz.prog.cellsOf 9)) = xs[1]? := hf 1 _ rfl
 rw [hC] at hlen
 rw [show Tryz.prog.cellsOf 40 = 1 by kernel_rfl] at h0
 rw [show Tryz.prog.cellsOf 9 = 1 by kernel_rfl] at h1
 match cs, hlen with
 | [c0, c1], _ =>
  match xs, hxl with
  | [y0, y1], _ =>
   obtain ⟨a, e0, _, wa⟩ := DataW.trod_int Tryz.underlying40 h0
   obtain ⟨s, e1, _, ws⟩ := DataW.trod_string Tryz.underlying9 h1
   simp at e0 e1
   subst e0; subst e1
   exact ⟨⟨a, s⟩, rfl, ws, u64_wf wa⟩
theorem dec_labk (n : Nat) (cs : List Value) (y : DataW H × List MemPlace) (h : DataW.trod enc Tryz.prog w base spare held n 42 cs = some y) : ∃ x : Lab, cs = [.int .i64 x.len, .int .u64 x.bits] ∧ LabOk x := by
 obtain ⟨xs, m, rfl, rfl, hlen, hxl, hf⟩ := DataW.trod_struct Tryz.underlying42 h
 have hC : Tryz.prog.cellsOf 42 = 2 := by kernel_rfl
 have h0 : DataW.trod enc Tryz.prog w base spare held m 3 ((cs.drop 0).take (Tryz.prog.cellsOf 3)) = xs[0]? := hf 0 _ rfl
 have h1 : DataW.trod enc Tryz.prog w base spare held m 40 ((cs.drop 1).take (Tryz.prog.cellsOf 40)) = xs[1]? := hf 1 _ rfl
 rw [hC] at hlen
 rw [show Tryz.prog.cellsOf 3 = 1 by kernel_rfl] at h0
 rw [show Tryz.prog.cellsOf 40 = 1 by kernel_rfl] at h1
 match cs, hlen with
 | [c0, c1], _ =>
  match xs, hxl with
  | [y0, y1], _ =>
   obtain ⟨a, e0, _, wa⟩ := DataW.trod_int Tryz.underlying3 h0
   obtain ⟨b, e1, _, wb⟩ := DataW.trod_int Tryz.underlying40 h1
   simp at e0 e1
   subst e0; subst e1
   exact ⟨⟨a, b⟩, rfl, wa, wb⟩
theorem dec_its (n : Nat) (cs : List Value) (y : DataW H × List MemPlace) (h : DataW.trod enc Tryz.prog w base spare held n 24 cs = some y) : ∃ (A : Option Addr) (c k : Nat) (f : Nat → Itm), cs = [(AV.sl none A k c 2 (fun i => itC (f i))).den] ∧ Ok m0 w (.sl none A k c 2 (fun i => itC (f i))) ∧ k ≤ maxLen ∧ ∀ t, t < k → U64 (f t).key := by
 obtain ⟨A, c, l, e1, hr, hl, hm, hwf⟩ := trod_list (en := itmE) Tryz.underlying24 (k := 2) (by kernel_rfl) itmE_len (by decide) dec_itm h
 have hrow : Ok m0 w (rowI A l.length c (itF l)) := rows_ok hl hm (fun x hx => (hwf x hx).1) fun hp => by
  obtain ⟨b, off, hA, _, hc⟩ := hr hp
  exact ⟨b, off, hA, fun j u hu => ⟨hc j u hu, id⟩⟩
 exact ⟨A, c, l.length, itF l, e1, hrow, by omega, fun t ht => by unfold itF; rw [List.getD_eq_getElem?_getD, List.getElem?_eq_getElem ht]; exact (hwf _ (List.getElem_mem ht)).2⟩
theorem dec_recx (n : Nat) (cs : List Value) (y : DataW H × List MemPlace) (h : DataW.trod enc Tryz.prog w base spare held n 44 cs = some y) : ∃ x : RA, cs = (recC x).map AV.den ∧ OkL w (recC x) ∧ x.r.n ≤ maxLen ∧ LabOk x.r.nx ∧ ∀ t, t < x.r.n → U64 (x.r.f t).key := by
 obtain ⟨xs, m, rfl, rfl, hlen, hxl, hf⟩ := DataW.trod_struct Tryz.underlying44 h
 have hC : Tryz.prog.cellsOf 44 = 5 := by kernel_rfl
 have h0 : DataW.trod enc Tryz.prog w base spare held m 3 ((cs.drop 0).take (Tryz.prog.cellsOf 3)) = xs[0]? := hf 0 _ rfl
 have h1 : DataW.trod enc Tryz.prog w base spare held m 24 ((cs.drop 1).take (Tryz.prog.cellsOf 24)) = xs[1]? := hf 1 _ rfl
 have h2 : DataW.trod enc Tryz.prog w base spare held m 42 ((cs.drop 2).take (Tryz.prog.cellsOf 42)) = xs[2]? := hf 2 _ rfl
 have h3 : DataW.trod enc Tryz.prog w base spare held m 40 ((cs.drop 4).take (Tryz.prog.cellsOf 40)) = xs[3]? := hf 3 _ rfl
 rw [hC] at hlen
 rw [show Tryz.prog.cellsOf 3 = 1 by kernel_rfl] at h0
 rw [show Tryz.prog.cellsOf 24 = 1 by kernel_rfl] at h1
 rw [show Tryz.prog.cellsOf 42 = 2 by kernel_rfl] at h2
 rw [show Tryz.prog.cellsOf 40 = 1 by kernel_rfl] at h3
 match cs, hlen with
 | [c0, c1, c2, c3, c4], _ =>
  match xs, hxl with
  | [y0, y1, y2, y3], _ =>
   obtain ⟨kd, e0, _, _⟩ := DataW.trod_int Tryz.underlying3 h0
   obtain ⟨A, c, k, f, e1, hrow, hk, hku⟩ := dec_its _ _ _ h1
   obtain ⟨nx, e2, hb⟩ := dec_labk _ _ _ h2
   obtain ⟨mk, e3, _, wm⟩ := DataW.trod_int Tryz.underlying40 h3
   simp only [List.drop_zero, List.drop_succ_cons, List.take_succ_cons, List.take_zero, List.cons.injEq, and_true] at e0 e1 e2 e3
   obtain ⟨e2, e4⟩ := e2
   subst e0; subst e1; subst e2; subst e3; subst e4
   exact ⟨⟨A, c, ⟨k, f, kd, nx, mk⟩⟩, rfl, .int (.cons rfl hrow (.int (.int (.int .nil)))), hk, hb, hku⟩
theorem dec_row (n : Nat) (cs : List Value) (y : DataW H × List MemPlace) (h : DataW.trod enc Tryz.prog w base spare held n 46 cs = some y) : ∃ x : RowA, cs = (rowC x).map AV.den ∧ RowWf w x := by
 obtain ⟨xs, m, rfl, rfl, hlen, hxl, hf⟩ := DataW.trod_struct Tryz.underlying46 h
 have hC : Tryz.prog.cellsOf 46 = 8 := by kernel_rfl
 have h0 : DataW.trod enc Tryz.prog w base spare held m 42 ((cs.drop 0).take (Tryz.prog.cellsOf 42)) = xs[0]? := hf 0 _ rfl
 have h1 : DataW.trod enc Tryz.prog w base spare held m 40 ((cs.drop 2).take (Tryz.prog.cellsOf 40)) = xs[1]? := hf 1 _ rfl
 have h2 : DataW.trod enc Tryz.prog w base spare held m 44 ((cs.drop 3).take (Tryz.prog.cellsOf 44)) = xs[2]? := hf 2 _ rfl
 rw [hC] at hlen
 rw [show Tryz.prog.cellsOf 42 = 2 by kernel_rfl] at h0
 rw [show Tryz.prog.cellsOf 40 = 1 by kernel_rfl] at h1
 rw [show Tryz.prog.cellsOf 44 = 5 by kernel_rfl] at h2
 match cs, hlen with
 | [c0, c1, c2, c3, c4, c5, c6, c7], _ =>
  match xs, hxl with
  | [y0, y1, y2], _ =>
   obtain ⟨l, e0, hl⟩ := dec_labk _ _ _ h0
   obtain ⟨v, e1, _, wv⟩ := DataW.trod_int Tryz.underlying40 h1
   obtain ⟨x, e2, hx, hn, hnx, hku⟩ := dec_recx _ _ _ h2
   simp only [List.drop_zero, List.drop_succ_cons, List.take_succ_cons, List.take_zero, List.cons.injEq, and_true, recC, List.map_cons, List.map_nil] at e0 e1 e2
   obtain ⟨e0, e3⟩ := e0
   obtain ⟨e4, e5, e6, e7, e8⟩ := e2
   subst e0; subst e1; subst e3; subst e4; subst e5; subst e6; subst e7; subst e8
   exact ⟨⟨l, v, x⟩, rfl, .int (.int (.int hx)), hn, hl, hnx, hku⟩
variable {r : Reach} {b0 : Nat} {v : Value} {d : DataW H} {p : List MemPlace}
def InRow (w : World) (v : Value) : Prop := ∃ (A : Option Addr) (n c : Nat) (f : Nat → RowA), v = (rowsV A n c f).den ∧ Ok m0 w (rowsV A n c f) ∧ n ≤ maxLen ∧ ∀ i, i < n → RowWf w (f i)
def InI (v : Value) : Prop := ∃ n : Int, v = .int .i64 n ∧ (Lit.int .i64 n).wf = true
instance : Inhabited RowA := ⟨⟨⟨0, 0⟩, 0, zRA⟩⟩
theorem in_rows (hv : Value.okWide Tryz.prog w r b0 22 v) (h : DataW.Trod enc Tryz.prog w base spare held 22 v d p) : InRow w v := by
 obtain ⟨a, len, cap, rfl⟩ := okWide_slice Tryz.underlying22 hv
 obtain ⟨fuel, hf⟩ := h
 obtain ⟨A, c, l, e1, hr, hl, hm, hwf⟩ := trod_list (en := fun x => (rowC x).map AV.den) (wf := RowWf w) Tryz.underlying22 (k := 8) (by kernel_rfl) (fun _ => rfl) (by decide) dec_row hf
 simp only [Value.cells, List.cons.injEq, and_true] at e1
 rw [e1]
 refine ⟨A, l.length, c, fun i => l.getD i default, rfl, rows_okg (fun _ => rfl) hl hm (fun x hx => (hwf x hx).1) (fun hp => ?_) (by decide), by omega, fun i hi => ?_⟩
 ·obtain ⟨b, off, hA, _, hc⟩ := hr hp
  exact ⟨b, off, hA, fun j u hu => hc j u hu⟩
 have : l.getD i default = l[i] := by simp [List.getD, hi]
 simp only [this]; exact hwf _ (List.getElem_mem hi)
theorem in_i (hv : Value.okWide Tryz.prog w r b0 3 v) (h : DataW.Trod enc Tryz.prog w base spare held 3 v d p) : InI v := in_int Tryz.underlying3 hv h
end
end Go.Proofs.YtpgjalaldhlcoaaGreat.Sym
namespace Go.Proofs.YtpgjalaldhlcoaaGreat.Sym
open Go Go.RowKit
def g3F : Nat → Itm := fun t => match t with | 0 => ⟨1, ⟨#[]⟩⟩ | 1 => ⟨2, ⟨#[]⟩⟩ | _ => ⟨9223372036854775808, ⟨#[]⟩⟩
def g2F : Nat → Itm := fun _ => ⟨1, ⟨#[]⟩⟩
def g3R : List Rw := [⟨⟨0, 0⟩, 1, ⟨2, [], noneL, 0⟩⟩, ⟨⟨1, 0⟩, 1, ⟨1, [⟨1, ⟨#[]⟩⟩, ⟨2, ⟨#[]⟩⟩], ⟨1, 9223372036854775808⟩, 0⟩⟩, ⟨⟨1, 9223372036854775808⟩, 1, ⟨1, [⟨9223372036854775808, ⟨#[]⟩⟩], noneL, 0⟩⟩]
theorem g3_rows : bldR 3 g3F 2 = g3R := by kernel_rfl
theorem g3_err : bldE 3 g3F 2 = 0 := by kernel_rfl
theorem g2_err : bldE 2 g2F 2 = 1 := by kernel_rfl
theorem g3_items : itemsP g3R = firsts g3F 3 := by kernel_rfl
theorem g3_itemsE : itemsE g3R = 0 := by kernel_rfl
theorem g3_well : wellP g3R 2 = true := by kernel_rfl
theorem g3_well1 : wellP g3R 1 = false := by kernel_rfl
theorem g3_is : isRw g3R = true := by kernel_rfl
theorem g3_lv : (leavesP g3R).length = 2 := by kernel_rfl
theorem rw_in {l : List Rw} (h : ∀ w ∈ l, w.r.items.length ≤ 1000000 ∧ LabOk w.lab ∧ U64 w.lab.bits ∧ U64 w.r.next.bits) (y : Atom) : RwN l.length (rwAt y l) := by
 intro i hi
 unfold rwAt
 rw [List.getD_eq_getElem?_getD, List.getElem?_eq_getElem hi]
 exact h _ (List.getElem_mem hi)
theorem rw_inK {l : List Rw} (h : ∀ w ∈ l, ∀ x ∈ w.r.items, U64 x.key) (y : Atom) : RwK l.length (rwAt y l) := by
 intro i hi t ht
 unfold rwAt at ht ⊢
 rw [List.getD_eq_getElem?_getD, List.getElem?_eq_getElem hi] at ht ⊢
 have ht : t < (l[i].r.items).length := ht
 show U64 ((l[i].r.items).getD t zeroItm).key
 rw [List.getD_eq_getElem?_getD, List.getElem?_eq_getElem ht]
 exact h _ (List.getElem_mem hi) _ (List.getElem_mem ht)
theorem g3_n (y : Atom) : RwN 3 (rwAt y g3R) := rw_in (l := g3R) (by
 intro w hw
 simp only [g3R, List.mem_cons, List.not_mem_nil, or_false] at hw
 rcases hw with rfl | rfl | rfl <;> exact ⟨by decide, labOk_is (by decide) ⟨by decide, by decide⟩, ⟨by decide, by decide⟩, ⟨by decide, by decide⟩⟩) y
theorem g3_k (y : Atom) : RwK 3 (rwAt y g3R) := rw_inK (l := g3R) (by
 intro w hw
 simp only [g3R, List.mem_cons, List.not_mem_nil, or_false] at hw
 rcases hw with rfl | rfl | rfl
 ·intro x hx; cases hx
 ·intro x hx
  simp only [List.mem_cons, List.not_mem_nil, or_false] at hx
  rcases hx with rfl | rfl <;> exact ⟨by decide, by decide⟩
 intro x hx
 simp only [List.mem_cons, List.not_mem_nil, or_false] at hx
 rcases hx with rfl; exact ⟨by decide, by decide⟩) y
theorem g3_same {IP : List Itm} (h : IP = firsts g3F 3) : sameF IP.length (itF IP) 3 g3F = true := by
 subst h
 refine sameF_yes (by rw [firsts_len]) fun i hi => ?_
 rw [firsts_len] at hi
 exact firsts_get _ _ i hi
theorem grown_s : Spec Tryz.prog 8 [] (fun _ => .bool (.v true)) := by
 intro m w hm hargs
 have hmx : maxLen = 9223372036854775807 := rfl
 obtain ⟨f3, hf3⟩ := eqv (g3F)
 obtain ⟨f2, hf2⟩ := eqv (g2F)
 obtain ⟨RF, hRF⟩ : ∃ RF : Atom → Nat → RowA, RF = fun y => rwAt y g3R := ⟨_, rfl⟩
 have hRy : ∀ y, rwAt y g3R = RF y := fun y => by rw [hRF]
 have hRR : ∀ y, rwsA (RF y) 3 = g3R := fun y => by rw [hRF]; exact rwsA_rwAt y g3R
 have SB := fun (A : Option Addr) (c : Nat) => build_s A 3 c g3F (by decide) (fun i hi => by match i, hi with | 0, _ => exact ⟨by decide, by decide⟩ | 1, _ => exact ⟨by decide, by decide⟩ | 2, _ => exact ⟨by decide, by decide⟩) 2
 simp only [g3_rows, g3_err, show g3R.length = 3 from rfl, hRy] at SB
 simp only [← hf3] at SB
 have SB2 := fun (A : Option Addr) (c : Nat) => build_s A 2 c g2F (by decide) (fun i hi => ⟨by show (0 : Int) ≤ 1; decide, by show (1 : Int) < _; decide⟩) 2
 obtain ⟨R2, hR2⟩ := eqv (bldR 2 g2F 2)
 obtain ⟨n2, hn2⟩ := eqv (R2.length)
 obtain ⟨RG, hRG⟩ : ∃ RG : Atom → Nat → RowA, RG = fun y => rwAt y R2 := ⟨_, rfl⟩
 have hRz : ∀ y, rwAt y R2 = RG y := fun y => by rw [hRG]
 simp only [g2_err] at SB2
 simp only [← hR2] at SB2
 simp only [← hn2, hRz] at SB2
 simp only [← hf2] at SB2
 have hN : ∀ y, RwN 3 (RF y) := fun y => by rw [← hRy]; exact g3_n y
 have hK : ∀ y, RwK 3 (RF y) := fun y => by rw [← hRy]; exact g3_k y
 obtain ⟨IP, hIP⟩ := eqv (itemsP g3R)
 obtain ⟨kf, hkf⟩ := eqv (itF IP)
 obtain ⟨kn, hkn⟩ := eqv (IP.length)
 have SI := fun (y : Atom) (A : Option Addr) (c : Nat) => items_s A 3 c (RF y) (by decide) (hN y) (hK y)
 simp only [hRR, ← hIP, g3_itemsE, ← hkf, ← hkn] at SI
 have SW2 := fun (y : Atom) (A : Option Addr) (c : Nat) => well_s A 3 c (RF y) (by decide) (hN y) (hK y) 2
 simp only [hRR, g3_well] at SW2
 have SW1 := fun (y : Atom) (A : Option Addr) (c : Nat) => well_s A 3 c (RF y) (by decide) (hN y) (hK y) 1
 simp only [hRR, g3_well1] at SW1
 have ST := fun (y : Atom) (A : Option Addr) (c : Nat) => tis_s A 3 c (RF y) (by decide) (hN y)
 simp only [hRR, g3_is] at ST
 obtain ⟨lf, hlf⟩ := eqv (labF (leavesP g3R))
 have SL := fun (y : Atom) (A : Option Addr) (c : Nat) => leaves_s A 3 c (RF y) (by decide)
 simp only [hRR, g3_lv, ← hlf] at SL
 have h16 : 16 ≤ maxLen := by decide
 have hkn3 : kn = 3 := by rw [hkn, hIP, g3_items, firsts_len]
 have SS := fun (A A2 : Option Addr) (c c2 : Nat) => same7_s A kn c kf (by omega) A2 3 c2 g3F
 rw [hkn, hkf, g3_same (by rw [hIP, g3_items]), ← hkn, ← hkf] at SS
 simp only [← hf3] at SS
 simp only [rowI] at SB SB2 SI SS
 have v0 : ∀ y, (RF y 0).x.r.kd = 2 := fun y => by rw [← hRy]; rfl
 have v1 : ∀ y, (RF y 1).x.r.n = 2 := fun y => by rw [← hRy]; rfl
 have v2 : ∀ y, (RF y 1).x.r.nx = (RF y 2).lab := fun y => by rw [← hRy]; rfl
 refine en 95 hm hargs Tryz.func8 fun B hB a0 hF => ?_
 refine wp_seq (rg hB TA_ok [] [] [] hF fun X0 a0 w1 hF => ?_)
 refine wp_seq (rg hB TA_ok [1] [11] [] hF fun X1 a0 w1 hF => ?_)
 replace hF := hF.headS (v' := .sl none _ 3 _ 2 (fun t => itC (f3 t))) (Sim.recell (fun i hi => by subst hB; rw [hf3]; match i, hi with | 0, _ => rfl | 1, _ => rfl | 2, _ => rfl)) rfl
 refine wp_seq (rg hB TA_ok [2, 3, 1] [11] [(1, .r fun y => .tup [.sl none (y.A 0) 3 (y.c 0) 8 (fun i => rowC (RF y i)), .int .i64 0])] hF (hob := ?hob) fun X2 a0 w1 hF => ?_)
 case hob =>
  intro X
  subst hB
  repeat (first | exact trivial | refine ⟨rfl, ?_⟩ | refine ⟨fun _ => rfl, ?_⟩ | refine ⟨⟨fun _ _ => by kernel_rfl, SB _ _⟩, ?_⟩ | refine ⟨fun _ => ⟨fun _ _ => by kernel_rfl, SB _ _⟩, ?_⟩ | refine ⟨fun _ => ob_lab (Kk := noK) _ _ _ _, ?_⟩ | refine ⟨fun _ => ⟨by decide, by decide⟩, ?_⟩)
 refine wp_seq (rg hB TA_ok [5, 2, 3, 1] [11, 20] [(3, .r fun y => .tup [.sl none (y.A 0) n2 (y.c 0) 8 (fun i => rowC (RG y i)), .int .i64 1])] hF (hob := ?hob) fun X3 a0 w1 hF => ?_)
 case hob =>
  intro X
  subst hB
  repeat (first | exact trivial | refine ⟨rfl, ?_⟩ | refine ⟨fun _ => rfl, ?_⟩ | refine ⟨⟨fun _ _ => by kernel_rfl, ((SB2 _ _).args' ⟨Sim.recell (fun i hi => by rw [hf2]; match i, hi with | 0, _ => rfl | 1, _ => rfl), zr, trivial⟩)⟩, ?_⟩ | refine ⟨fun _ => ⟨fun _ _ => by kernel_rfl, ((SB2 _ _).args' ⟨Sim.recell (fun i hi => by rw [hf2]; match i, hi with | 0, _ => rfl | 1, _ => rfl), zr, trivial⟩)⟩, ?_⟩ | refine ⟨fun _ => ob_lab (Kk := noK) _ _ _ _, ?_⟩ | refine ⟨fun _ => ⟨by decide, by decide⟩, ?_⟩)
 refine wp_seq (wp_seq (rg hB TA_ok [42, 2, 1] [11] [] hF (hob := ?hob) fun X4 a0 w1 hF => ?_))
 case hob =>
  intro X
  subst hB
  repeat (first | exact trivial | refine ⟨rfl, ?_⟩ | refine ⟨fun _ => ⟨by decide, by decide⟩, ?_⟩)
 apply test_ok hF rfl <;> intro hb hF
 ·have h9 : (RF (X2 1) 0).x.r.kd ≠ 2 := by subst hB; revert hb; simp [std, sC]
  have hfl : False := h9 (v0 _)
  refine wp_seq (rg hB TA_ok [0] [] [] hF fun X5 a0 w1 hF => ?_)
  refine wp_ret ((rsi hB TA_ok hF nAt (he := ?_)))
  exact hfl.elim
 refine wp_skip (wp_seq (rg hB TA_ok [6, 7, 2, 1] [11] [(1, .r fun y => .tup [.sl none (y.A 0) kn (y.c 0) 2 (fun t => itC (kf t)), .int .i64 0])] hF (hob := ?hob) fun X6 a0 w1 hF => ?_))
 case hob =>
  intro X
  subst hB
  repeat (first | exact trivial | refine ⟨rfl, ?_⟩ | refine ⟨fun _ => rfl, ?_⟩ | refine ⟨⟨fun _ _ => by kernel_rfl, SI _ _ _⟩, ?_⟩ | refine ⟨fun _ => ⟨fun _ _ => by kernel_rfl, SI _ _ _⟩, ?_⟩ | refine ⟨fun _ => ob_lab (Kk := noK) _ _ _ _, ?_⟩ | refine ⟨fun _ => ⟨by decide, by decide⟩, ?_⟩)
 refine wp_seq (drg hB TA_ok [0] [] [(5, .r fun _ => .bool (.v true)), (9, .r fun _ => .bool (.v true)), (13, .r fun _ => .bool (.v false)), (18, .r fun _ => .bool (.v true)), (22, .r fun y => .sl none (y.A 0) 2 (y.c 0) 2 (fun t => labC (lf t)))] hF (hob := ?hob) fun X7 a0 w1 hF => ?_)
 case hob =>
  intro X
  subst hB
  repeat (first | exact trivial | refine ⟨rfl, ?_⟩ | refine ⟨fun _ => rfl, ?_⟩ | refine ⟨⟨fun _ _ => by kernel_rfl, SS _ _ _ _⟩, ?_⟩ | refine ⟨fun _ => ⟨fun _ _ => by kernel_rfl, SS _ _ _ _⟩, ?_⟩ | refine ⟨⟨fun _ _ => by kernel_rfl, SW2 _ _ _⟩, ?_⟩ | refine ⟨fun _ => ⟨fun _ _ => by kernel_rfl, SW2 _ _ _⟩, ?_⟩ | refine ⟨⟨fun _ _ => by kernel_rfl, SW1 _ _ _⟩, ?_⟩ | refine ⟨fun _ => ⟨fun _ _ => by kernel_rfl, SW1 _ _ _⟩, ?_⟩ | refine ⟨⟨fun _ _ => by kernel_rfl, ST _ _ _⟩, ?_⟩ | refine ⟨fun _ => ⟨fun _ _ => by kernel_rfl, ST _ _ _⟩, ?_⟩ | refine ⟨⟨fun _ _ => by kernel_rfl, SL _ _ _⟩, ?_⟩ | refine ⟨fun _ => ⟨fun _ _ => by kernel_rfl, SL _ _ _⟩, ?_⟩ | refine ⟨fun _ => ob_lab (Kk := noK) _ _ _ _, ?_⟩ | refine ⟨fun _ => ⟨by decide, by decide⟩, ?_⟩)
 refine wp_ret ((rsi hB TA_ok hF nAt (he := ?_)))
 subst hB
 refine Sim.bool ?_
 simp [std, sC, v1, v2, eqL_lab, BE.den]
theorem less_s (a b : Lab) : Spec Tryz.prog 35 [labAV a, labAV b] (fun _ => .bool (.v (lessL a b))) := by
 intro m w hm hargs
 refine en 24 hm hargs Tryz.func35 fun B hB a0 hF => ?_
 refine wp_seq (rg hB TA_ok [2, 3] [2, 3] [] hF fun X0 a0 w1 hF => ?_)
 refine wp_seq (rg hB TA_ok [4] [] [] hF fun X1 a0 w1 hF => ?_)
 refine wp_ret ((rsi hB TA_ok hF nAt (he := ?_)))
 subst hB
 exact Sim.bool (by show (if decide (a.bits < b.bits) = true then true else (if (a.bits == b.bits) = true then decide (a.len < b.len) else false)) = lessL a b; rw [ite_or, ite_and]; rfl)
theorem rown_s (x : RA) (hn : x.r.n ≤ 1000000) : Spec Tryz.prog 65 [recV x] (fun y => recV ⟨y.A 0, y.c 0, x.r⟩) := by
 intro m w hm hargs
 have hmx : maxLen = 9223372036854775807 := rfl
 refine en 11 hm hargs Tryz.func65 fun B hB a0 hF => ?_
 refine wp_seq (rg hB TA_ok [1, 2] [1, 2] [] hF fun X0 a0 w1 hF => ?_)
 refine wp_seq (rg hB TA_ok [3, 1, 2] [1, 2, 3, 7] [] hF fun X1 a0 w1 hF => ?_)
 refine wp_seq (rg hB TA_ok [3, 1, 2] [1, 2, 3, 7] [] hF (hob := ?hob) fun X2 a0 w1 hF => ?_)
 case hob =>
  intro X
  subst hB
  repeat (first | exact trivial | refine ⟨⟨rfl, rfl, rfl⟩, ?_⟩ | refine ⟨rfl, ?_⟩ | refine ⟨⟨show 0 + x.r.n ≤ maxLen by omega, show (0 + x.r.n) * _ ≤ _ by omega⟩, ?_⟩)
 refine wp_seq (rg hB TA_ok [1, 2] [1, 2] [] hF fun X3 a0 w1 hF => ?_)
 refine wp_seq (rg hB TA_ok [2] [2] [] hF fun X4 a0 w1 hF => ?_)
 refine wp_ret ((rsi hB TA_ok hF (⟨0, fun _ => (X2 3).A 0, fun _ => (X2 3).c 0, fun _ => ⟨#[]⟩⟩) (he := ?_)))
 subst hB
 exact Sim.agg ⟨zr, Sim.resl (Nat.zero_add _) (fun t ht => by show appC 0 _ (fun t => itC (x.r.f t)) t = _; unfold appC; rw [if_neg (Nat.not_lt_zero _)]; rfl), zr, zr, zr, trivial⟩
theorem enters61 : Enters Tryz.prog 61 := fun _ _ => by kernel_rfl
theorem rat_x0 (b : Nat) (A : Option Addr) (n c : Nat) (g : Nat → SpA) (hn : n ≤ 100000) (wr : Int) (l : Lab) : SpecX Tryz.prog 61 [.ptr 0 b 0, labAV l] [(0, ⟨b, 90, [spsV A n c g, .int .i64 wr]⟩)] (fun _ => ⟨.tup [.int .i64 (posL l (shfA g n) : Nat), .bool (.v (hitL l (shfA g n)))], [(0, [spsV A n c g, .int .i64 wr])], []⟩) := by
 intro m w hm hargs hpre
 have hmx : maxLen = 9223372036854775807 := rfl
 have S := fun i => less_s (g i).w.lab l
 obtain ⟨ls, hls⟩ : ∃ h : Nat → Bool, ∀ i, h i = lessL (g i).w.lab l := ⟨_, fun _ => rfl⟩
 simp only [← hls, labAV] at S
 refine enX 50 hm hpre hargs Tryz.func61 fun B hB a0 hF => ?_
 refine wp_seq (rg hB TA_ok [3, 0] [0, 3] [] hF fun X0 a0 w1 hF => ?_)
 refine wp_seq (rg hB TA_ok [6, 0, 3] [0, 3] [] hF fun X1 a0 w1 hF => ?_)
 refine wp_seq (wp_block (loop_pre (ι := Nat) (fun p => [(6, .int .i64 (p : Int))]) (fun p => []) (fun p => []) (fun p => p ≤ n ∧ ∀ i, i < p → ls i = true) (fun p => n - p) 0 ⟨Nat.zero_le _, fun i hi => absurd hi (Nat.not_lt_zero _)⟩ hF ?_))
 rintro i ⟨hi, hlt⟩ a0 w1 hF
 try dsimp only at hi
 try dsimp only at hlt
 refine wp_seq (wp_seq ?_)
 refine drg hB TA_ok [26, 6, 0, 3] [0, 3] [(18, .r fun _ => .bool (.v (ls i)))] hF (hob := by intro X; subst hB; simp only [AO, Ob.holds, BE.den, List.mem_cons, List.not_mem_nil, or_false, forall_eq_or_imp, forall_eq] <;> and_intros <;> repeat first | trivial | rfl | exact ⟨Int.natCast_nonneg _, (of_decide_eq_true h)⟩ | exact S i | exact (fun _ _ => by kernel_rfl) | refine ⟨?_, ?_⟩ | intro h | exact Int.le_refl _ | decide | omega) fun X2 a0 w1 hF => ?_
 apply test_ok hF rfl <;> intro hb hF
 ·have h9 : (if decide ((i : Int) < (n : Int)) = true then ls i else false) = true := by subst hB; exact hb
  rw [ite_and, Bool.and_eq_true, decide_eq_true_eq] at h9
  have hin : i < n := by omega
  have hk := h9.2
  refine wp_skip (wp_block (rg hB TA_ok [6, 0, 3] [0, 3] [] hF fun X3 a0 w1 hF => ?_))
  have e : B.arith .add .i64 (i : Int) 1 = ((i + 1 : Nat) : Int) := by subst hB; exact wrap_succ (n := n) hin (by omega)
  refine ⟨i + 1, ⟨by omega, fun j hj => ?_⟩, by omega, by rw [← e]; exact hF⟩
  by_cases hij : j = i
  ·rw [hij]; exact hk
  exact hlt j (by omega)
 have h9 : (if decide ((i : Int) < (n : Int)) = true then ls i else false) = false := by subst hB; exact hb
 have hend : i < n → ls i = false := fun h => by
  rw [if_pos (by simpa using h)] at h9; exact h9
 have hpos : posL l (shfA g n) = i := posL_of (by rw [listA_len]; exact hi) (fun j q hj hq => by rw [listA_get _ _ (by omega)] at hq; injection hq with hq; subst hq; exact (hls j).symm.trans (hlt j hj)) (fun q hq => by have hlt2 := (List.getElem?_eq_some_iff.1 hq).1; rw [listA_len] at hlt2; rw [listA_get _ _ hlt2] at hq; injection hq with hq; subst hq; exact (hls i).symm.trans (hend hlt2))
 have hhit : hitL l (shfA g n) = (decide (i < n) && decide ((g i).w.lab = l)) := by
  unfold hitL; rw [hpos]
  by_cases h : i < n
  ·rw [listA_get _ _ h]; simp [h]; rfl
  rw [List.getElem?_eq_none (by rw [listA_len]; omega)]; simp [h]
 rw [hpos, hhit]
 refine wp_exit (wp_seq ?_)
 refine drg hB TA_ok [4, 5, 0] [0] [] hF (hob := by intro X; subst hB; simp only [AO, Ob.holds, BE.den, List.mem_cons, List.not_mem_nil, or_false, forall_eq_or_imp, forall_eq] <;> and_intros <;> repeat first | trivial | rfl | exact ⟨Int.natCast_nonneg _, (of_decide_eq_true h)⟩ | exact ob_lab (Kk := noK) _ _ _ _ | exact (fun _ _ => by kernel_rfl) | refine ⟨?_, ?_⟩ | intro h | exact Int.le_refl _ | decide | omega) fun X4 a0 w1 hF => ?_
 refine wp_ret ((rx hB TA_ok hF nAt [] (he := ?_) (hs := ?_)).1)
 ·subst hB; refine Sim.tup ⟨zr, Sim.bool ?_, trivial⟩
  show (if decide ((i : Int) < (n : Int)) = true then eqL [.int .i64 (g i).w.lab.len, .int .u64 (g i).w.lab.bits] [.int .i64 l.len, .int .u64 l.bits] else false) = _
  rw [ite_and, eqL_lab]
  by_cases h : i < n
  ·simp [h, canB, BE.den]
  simp [h, canB, BE.den]
 subst hB; exact ⟨rfl, ⟨_, rfl, zl⟩, trivial⟩
theorem rat_x (k0 : Nat) (b : Nat) (A : Option Addr) (n c : Nat) (g : Nat → SpA) (hn : n ≤ 100000) (wr : Int) (l : Lab) : SpecX Tryz.prog 61 [.ptr k0 b 0, labAV l] [(k0, ⟨b, 90, [spsV A n c g, .int .i64 wr]⟩)] (fun _ => ⟨.tup [.int .i64 (posL l (shfA g n) : Nat), .bool (.v (hitL l (shfA g n)))], [(k0, [spsV A n c g, .int .i64 wr])], []⟩) :=
 (rat_x0 b A n c g hn wr l).re (by repeat (first | exact trivial | refine ⟨Sim.ptr, ?_⟩ | refine ⟨Sim.fn ⟨Sim.ptr, trivial⟩ trivial, ?_⟩ | refine ⟨Sim.fn trivial ⟨Sim.ptr, trivial⟩, ?_⟩ | refine ⟨zr, ?_⟩)) rfl (fun x => ⟨rfl, rfl, zr, rfl⟩)
theorem rput_x0 (b : Nat) (A : Option Addr) (n c : Nat) (g : Nat → SpA) (hn : n ≤ 100000) (wr : Int) (x : SpA) : SpecX Tryz.prog 64 [.ptr 0 b 0, .agg (spC x)] [(0, ⟨b, 90, [spsV A n c g, .int .i64 wr]⟩)] (fun y => ⟨.tup [], [(0, [spsV (y.A 0) (putL x.w.lab ⟨x.w.ver, x.has, x.w.x.r.abs⟩ (shfA g n)).length (y.c 0) (spAt y (putL x.w.lab ⟨x.w.ver, x.has, x.w.x.r.abs⟩ (shfA g n))), .int .i64 wr])], []⟩) := by
 intro m w hm hargs hpre
 have hmx : maxLen = 9223372036854775807 := rfl
 have S := rat_x0 b A n c g hn wr x.w.lab
 simp only [labAV] at S
 have hpn : posL x.w.lab (shfA g n) ≤ n := by have := posL_le x.w.lab (shfA g n); rwa [listA_len] at this
 have hph : hitL x.w.lab (shfA g n) = true → posL x.w.lab (shfA g n) < n := fun h => by
  unfold hitL at h
  cases hg : (shfA g n)[posL x.w.lab (shfA g n)]? with
  | none => rw [hg] at h; cases h
  | some q => have := (List.getElem?_eq_some_iff.1 hg).1; rwa [listA_len] at this
 have hput := putG_put (g := g) (n := n) x rfl
 generalize posL x.w.lab (shfA g n) = p at S hpn hph hput
 generalize hitL x.w.lab (shfA g n) = hh at S hph hput
 obtain ⟨M, hM⟩ := eqv ((putL x.w.lab ⟨x.w.ver, x.has, x.w.x.r.abs⟩ (shfA g n)))
 rw [← hM] at hput ⊢
 obtain ⟨N, hN⟩ := eqv (n + 1 - (if hh then 1 else 0))
 obtain ⟨G, hG⟩ := eqv (putG g p x (if hh then 1 else 0))
 rw [← hN, ← hG] at hput
 refine enX 42 hm hpre hargs Tryz.func64 fun B hB a0 hF => ?_
 refine wp_seq (rg hB TA_ok [0, 3] [0, 3] [] hF fun X0 a0 w1 hF => ?_)
 refine wp_seq (rg hB TA_ok [4, 5, 0, 3] [0, 3] [(4, .x fun _ => ⟨.tup [.int .i64 (p : Int), .bool (.v hh)], [(0, [.sl none A n c 9 (fun i => spC (g i)), .int .i64 wr])], []⟩)] hF (hob := ?hob) fun X1 a0 w1 hF => ?_)
 case hob =>
  intro X
  subst hB; exact ⟨rfl, ⟨enters61, S⟩, trivial⟩
 refine wp_seq (rg hB TA_ok [6, 4, 5, 0, 3] [0, 3, 6] [] hF fun X2 a0 w1 hF => ?_)
 refine wp_seq (rg hB TA_ok [6, 4, 5, 0, 3] [0, 3, 6] [] hF (hob := ?hob) fun X3 a0 w1 hF => ?_)
 case hob =>
  intro X
  subst hB
  repeat (first | exact trivial | refine ⟨⟨rfl, rfl, rfl⟩, ?_⟩ | refine ⟨rfl, ?_⟩ | refine ⟨⟨show (0 : Int) ≤ 0 by omega, show (0 : Int) ≤ (p : Int) by omega, show (p : Int) ≤ (n : Int) by omega⟩, ?_⟩ | refine ⟨⟨show 0 + ((p : Int).toNat - (0 : Int).toNat) ≤ maxLen by omega, show (0 + ((p : Int).toNat - (0 : Int).toNat)) * _ ≤ _ by omega⟩, ?_⟩)
 replace hF := hF.headS (v' := .sl (some 6) ((X3 7).A 0) p ((X3 7).c 0) 9 (fun t => spC (g t))) (Sim.resl (by subst hB; show 0 + ((p : Int).toNat - (0 : Int).toNat) = p; omega) (fun t ht => by subst hB; show appC 0 _ (fromC 0 (fun t => spC (g t))) t = _; unfold appC fromC; rw [if_neg (Nat.not_lt_zero _), Nat.sub_zero, Nat.zero_add])) rfl
 replace hF := hF.regr (by subst hB; show 0 + ((p : Int).toNat - (0 : Int).toNat) = p; omega)
 refine wp_seq (rg hB TA_ok [6, 4, 5, 0] [0, 6] [] hF (hob := ?hob) fun X4 a0 w1 hF => ?_)
 case hob =>
  intro X
  subst hB
  repeat (first | exact trivial | refine ⟨⟨rfl, rfl, rfl⟩, ?_⟩ | refine ⟨rfl, ?_⟩ | refine ⟨⟨show p + 1 ≤ maxLen by omega, show (p + 1) * _ ≤ _ by omega⟩, ?_⟩)
 replace hF := hF.headS (v' := .sl (some 6) ((X4 3).A 0) (B.nadd p 1) ((X4 3).c 0) 9 (fun t => spC (putG g p x 0 t))) (Sim.resl rfl (fun t ht => by
  subst hB
  have ht2 : t < p + 1 := ht
  show appC p (fun t => spC (g t)) (chunk 9 (spC x)) t = _
  unfold appC putG
  split
  ·rfl
  have : t = p := by omega
  subst this
  simp [chunk])) rfl
 refine wp_seq (wp_seq (rg hB TA_ok [27, 4, 6, 0] [0, 6] [] hF fun X5 a0 w1 hF => ?_))
 refine cut_one (ι := Nat) (S0 := [(27, _), (4, _)]) (M0 := []) (G0 := []) (fun q => [(4, .int .i64 (q : Int))]) (fun q => []) (fun q => []) (fun q => q = p + (if hh then 1 else 0) ∧ q ≤ n) hF ?_ ?_
 ·apply test_ok hF rfl <;> intro hb hF
  ·have hh1 : hh = true := by simpa using hb
   have hpl := hph hh1
   refine rg hB TA_ok [4, 6, 0] [0, 6] [] hF fun X6 a0 w1 hF => ?_
   have e : B.arith .add .i64 (p : Int) 1 = ((p + 1 : Nat) : Int) := by subst hB; exact wrap_succ (n := n) hpl (by omega)
   exact ⟨p + 1, ⟨by rw [hh1]; rfl, by omega⟩, by rw [← e]; exact hF⟩
  have hh0 : hh = false := by simpa using hb
  exact wp_skip (⟨p, ⟨by rw [hh0]; rfl, hpn⟩, hF⟩)
 rintro q ⟨hq, hqn⟩ a0 w1 hF
 try dsimp only at hq
 try dsimp only at hqn
 refine wp_seq (rg hB TA_ok [6, 0] [0, 6] [] hF (hob := ?hob) fun X7 a0 w1 hF => ?_)
 case hob =>
  intro X
  subst hB
  repeat (first | exact trivial | refine ⟨⟨rfl, rfl, rfl⟩, ?_⟩ | refine ⟨rfl, ?_⟩ | refine ⟨⟨show (0 : Int) ≤ (q : Int) by omega, show (q : Int) ≤ (n : Int) by omega, Int.le_refl _⟩, ?_⟩ | refine ⟨⟨show p + 1 + (n - q) ≤ maxLen by omega, show (p + 1 + (n - q)) * _ ≤ _ by omega⟩, ?_⟩)
 replace hF := hF.headS (v' := .sl (some 6) ((X7 7).A 0) N ((X7 7).c 0) 9 (fun t => spC (G t))) (Sim.resl (by subst hB; show p + 1 + (n - q) = _; rw [hN]; subst hq; split <;> rename_i h5 <;> (try have := hph h5) <;> omega) (fun t ht => by
  subst hB
  rw [hG]
  show appC (p + 1) (fun t => spC (putG g p x 0 t)) (fromC q (fun t => spC (g t))) t = _
  unfold appC putG fromC
  by_cases h1 : t < p
  ·simp [h1, show t < p + 1 by omega]
  by_cases h2 : t = p
  ·simp [h2]
  rw [if_neg (show ¬ t < p + 1 by omega), if_neg h1, if_neg h2]
  show spC (g (q + (t - (p + 1)))) = _
  rw [show q + (t - (p + 1)) = t - 1 + (if hh then 1 else 0) by rw [hq]; omega])) rfl
 refine rg hB TA_ok [] [0] [] hF fun X8 a0 w1 hF => ?_
 refine (rx hB TA_ok hF (spY ((X7 7).A 0) ((X7 7).c 0) G none 0 0) [] (he := ?_) (hs := ?_)).2
 ·subst hB; exact zr
 subst hB; exact ⟨rfl, ⟨_, rfl, ⟨sps_sim hput, zr, trivial⟩⟩, trivial⟩
theorem rput_x (k0 : Nat) (b : Nat) (A : Option Addr) (n c : Nat) (g : Nat → SpA) (hn : n ≤ 100000) (wr : Int) (x : SpA) : SpecX Tryz.prog 64 [.ptr k0 b 0, .agg (spC x)] [(k0, ⟨b, 90, [spsV A n c g, .int .i64 wr]⟩)] (fun y => ⟨.tup [], [(k0, [spsV (y.A 0) (putL x.w.lab ⟨x.w.ver, x.has, x.w.x.r.abs⟩ (shfA g n)).length (y.c 0) (spAt y (putL x.w.lab ⟨x.w.ver, x.has, x.w.x.r.abs⟩ (shfA g n))), .int .i64 wr])], []⟩) :=
 (rput_x0 b A n c g hn wr x).re (by repeat (first | exact trivial | refine ⟨Sim.ptr, ?_⟩ | refine ⟨Sim.fn ⟨Sim.ptr, trivial⟩ trivial, ?_⟩ | refine ⟨Sim.fn trivial ⟨Sim.ptr, trivial⟩, ?_⟩ | refine ⟨zr, ?_⟩)) rfl (fun x => ⟨rfl, rfl, zr, rfl⟩)
theorem rnew_x (A : Option Addr) (n c : Nat) (f : Nat → RowA) (hn : n ≤ maxLen) (hN : ∀ i, i < n → (f i).x.r.n ≤ 1000000 ∧ U64 (f i).lab.bits ∧ U64 (f i).x.r.nx.bits) : SpecX Tryz.prog 28 [rowsV A n c f] [] (fun y => (match newS (rwsA f n) with | none => ⟨.tup [.nilp, .int .i64 1], [], []⟩ | some L => ⟨.tup [.ptr 9 y.b 0, .int .i64 0], [], [(9, ⟨y.b, 90, [spsV (y.A 0) L.length (y.c 0) (spAt y L), .int .i64 0]⟩)]⟩)) := by
 intro m w hm hargs hpre
 have hmx : maxLen = 9223372036854775807 := rfl
 refine enX 69 hm hpre hargs Tryz.func28 fun B hB a0 hF => ?_
 refine wp_seq (rg hB TA_ok [0] [] [] hF fun X0 a0 w1 hF => ?_)
 refine wp_seq (rg hB TA_ok [4, 0] [9] [] hF fun X1 a0 w1 hF => ?_)
 refine wp_seq (wp_seq (rg hB TA_ok [12, 4, 0] [9] [] hF fun X2 a0 w1 hF => ?_))
 apply test_ok hF rfl <;> intro hb hF
 ·have hbig : 2000 < n := by
   have : (2000 : Int) < (n : Int) := by subst hB; simpa [std, sC] using hb
   omega
  have hW : newS (rwsA f n) = none := by unfold newS; rw [if_pos (by rw [listA_len]; exact hbig)]
  refine wp_seq (rg hB TA_ok [2, 3] [9] [] hF fun X3 a0 w1 hF => ?_)
  refine wp_ret ((rx hB TA_ok hF (⟨0, fun _ => none, fun _ => 0, fun _ => ⟨#[]⟩⟩) [] (he := ?_) (hs := ?_) (hn := ?_)).1)
  ·subst hB; simp only [hW]; exact zr
  ·subst hB; simp only [hW]; exact trivial
  subst hB; simp only [hW]; exact trivial
 have hbig : n ≤ 2000 := by
  have : ¬ (2000 : Int) < (n : Int) := by subst hB; simpa [std, sC] using hb
  omega
 have hS : newS (rwsA f n) = newL (rwsA f n) [] := by unfold newS; rw [if_neg (by rw [listA_len]; omega)]
 refine wp_skip (wp_seq (wp_seq (rg hB TA_ok [5, 4, 0] [9] [] hF fun X4 a0 w1 hF => ?_)))
 replace hF := hF.memS (cells' := [.sl none none 0 0 9 (fun t => spC zSp), .int .i64 0]) ⟨zq0, zr, trivial⟩
 refine wp_block (loop_pre (ι := Nat × Nat × (Nat → SpA) × Option Addr × Nat) (fun p => [(5, .int .i64 (p.1 : Int))]) (fun p => [(9, ⟨(X1 1).b, 90, [.sl none p.2.2.2.1 p.2.1 p.2.2.2.2 9 (fun t => spC (p.2.2.1 t)), .int .i64 0]⟩)]) (fun p => []) (fun p => p.1 ≤ n ∧ p.2.1 ≤ p.1 ∧ newL (rwsA f n) [] = newL ((rwsA f n).drop p.1) (shfA p.2.2.1 p.2.1) ∧ Rises (shfA p.2.2.1 p.2.1)) (fun p => n - p.1) (0, 0, fun _ => zSp, none, 0) ⟨Nat.zero_le _, Nat.le_refl _, rfl, .nil⟩ hF ?_)
 rintro ⟨i, k1, g, A1, c1⟩ ⟨hi, hk, hnew, hris⟩ a0 w1 hF
 try dsimp only at hi
 try dsimp only at hk
 try dsimp only at hnew
 try dsimp only at hris
 refine wp_seq (wp_seq (rg hB TA_ok [16, 5, 4, 0] [9] [] hF fun X5 a0 w1 hF => ?_))
 apply test_ok hF rfl <;> intro hb hF
 ·have hin : i < n := by
   have : (i : Int) < (n : Int) := by subst hB; simpa [std, sC] using hb
   omega
  obtain ⟨hN1, hN2, hN3⟩ := hN i hin
  have S1 := rat_x 9 (X1 1).b A1 k1 c1 g (by omega) 0 (f i).lab
  have hstep := newL_step (f := f) (L := shfA g k1) hin
  rw [← hit_find hris] at hstep
  have S2 := risL_s (f i).lab hN2
  have S3 := risR_s (f i).x.A (f i).x.r.n (f i).x.c (f i).x.r.f (by omega) (f i).x.r.kd (f i).x.r.nx (f i).x.r.mrk hN3
  rw [← isR_abs] at S3
  simp only [labAV, recI, rowI] at S1 S2 S3
  obtain ⟨L2, hL2⟩ := eqv (putL (f i).lab ⟨(f i).ver, true, (f i).x.r.abs⟩ (shfA g k1))
  rw [← hL2] at hstep
  generalize posL (f i).lab (shfA g k1) = p at S1
  obtain ⟨hh, hhh⟩ := eqv (hitL (f i).lab (shfA g k1))
  rw [← hhh] at S1 hstep
  generalize isL (f i).lab = il at S2 hstep
  generalize isR (f i).x.r.abs = ir at S3 hstep
  refine wp_skip (wp_seq (wp_block (wp_seq ?_)))
  refine rg hB TA_ok [6, 7, 5, 4, 0] [9] [(6, .x fun _ => ⟨.tup [.int .i64 (p : Int), .bool (.v hh)], [(9, [.sl none A1 k1 c1 9 (fun i => spC (g i)), .int .i64 0])], []⟩)] hF (hob := by intro X; subst hB; simp only [AO, Ob.holds, BE.den] <;> and_intros <;> repeat first | trivial | rfl | exact (show (0 : Int) ≤ (i : Int) by omega) | exact (show (i : Int) < (n : Int) by omega) | exact S1 | exact (fun _ _ => by kernel_rfl) | refine ⟨?_, ?_⟩ | intro h | exact Int.le_refl _ | decide | omega) fun X7 a0 w1 hF => ?_
  refine wp_seq (wp_seq ?_)
  refine rg hB TA_ok [47, 5, 4, 0] [9] [(7, .r fun _ => .bool (.v il)), (16, .r fun _ => .bool (.v ir))] hF (hob := by intro X; subst hB; simp only [AO, Ob.holds, BE.den] <;> and_intros <;> repeat first | trivial | rfl | exact ⟨show (0 : Int) ≤ (i : Int) by omega, show (i : Int) < (n : Int) by omega⟩ | exact S2 | exact S3 | exact (fun _ _ => by kernel_rfl) | refine ⟨?_, ?_⟩ | intro h | exact Int.le_refl _ | decide | omega) fun X8 a0 w1 hF => ?_
  apply test_ok hF rfl <;> intro hb hF
  ·have h9 : (if (if hh = true then true else !il) = true then true else !ir) = true := by subst hB; exact hb
   have hW : newS (rwsA f n) = none := by
    rw [hS, hnew, hstep]
    cases hh <;> cases il <;> cases ir <;> first | rfl | (simp at h9)
   refine wp_seq (rg hB TA_ok [2, 3] [9] [] hF fun X9 a0 w1 hF => ?_)
   refine wp_ret ((rx hB TA_ok hF (⟨0, fun _ => none, fun _ => 0, fun _ => ⟨#[]⟩⟩) [] (he := ?_) (hs := ?_) (hn := ?_)).1)
   ·subst hB; simp only [hW]; exact zr
   ·subst hB; simp only [hW]; exact trivial
   subst hB; simp only [hW]; exact trivial
  have h9 : (if (if hh = true then true else !il) = true then true else !ir) = false := by subst hB; exact hb
  have h10 : (hh || !il || !ir) = false := by cases hh <;> cases il <;> cases ir <;> first | rfl | (simp at h9)
  rw [h10] at hstep
  have hh0 : hh = false := by cases hh <;> first | rfl | (simp at h10)
  have hstep : newL ((rwsA f n).drop i) (shfA g k1) = newL ((rwsA f n).drop (i + 1)) L2 := hstep
  have SO := rown_s (f i).x hN1
  have SP := fun (Az : Option Addr) (cz : Nat) => rput_x 9 (X1 1).b A1 k1 c1 g (by omega) 0 ⟨⟨(f i).lab, (f i).ver, ⟨Az, cz, (f i).x.r⟩⟩, true⟩
  simp only [← hL2] at SP
  obtain ⟨k2, hk2⟩ := eqv (L2.length)
  obtain ⟨G2, hG2⟩ : ∃ G : Atom → Nat → SpA, G = fun y => spAt y L2 := ⟨_, rfl⟩
  have hGG : ∀ y, spAt y L2 = G2 y := fun y => by rw [hG2]
  simp only [← hk2, hGG] at SP
  have hk2n : k2 ≤ i + 1 := by
   rw [hk2, hL2, put_len _ _ hris, listA_len]
   split <;> omega
  refine wp_skip ?_
  refine drg hB TA_ok [5, 4, 0] [9] [(16, .r fun x => .agg [.int .i64 (f i).x.r.kd, .sl none (x.A 0) (f i).x.r.n (x.c 0) 2 (fun t => itC ((f i).x.r.f t)), .int .i64 (f i).x.r.nx.len, .int .u64 (f i).x.r.nx.bits, .int .u64 (f i).x.r.mrk]), (19, .x fun x => ⟨.tup [], [(9, [.sl none (x.A 0) k2 (x.c 0) 9 (fun t => spC (G2 x t)), .int .i64 0])], []⟩)] hF (hob := by intro X; subst hB; simp only [AO, Ob.holds, BE.den] <;> and_intros <;> repeat first | trivial | rfl | exact (show (0 : Int) ≤ (i : Int) by omega) | exact (show (i : Int) < (n : Int) by omega) | exact SO | exact (SP _ _).re ⟨zr, Sim.agg ⟨zr, zr, zr, zr, zr, zr, zr, zr, Sim.tt, trivial⟩, trivial⟩ rfl (fun x => ⟨rfl, rfl, zr, rfl⟩) | exact (fun _ _ => by kernel_rfl) | refine ⟨?_, ?_⟩ | intro h | exact Int.le_refl _ | decide | omega) fun X10 a0 w1 hF => ?_
  refine rg hB TA_ok [5, 4, 0] [9] [] hF fun X6 a0 w1 hF => ?_
  have e : B.arith .add .i64 (i : Int) 1 = ((i + 1 : Nat) : Int) := by subst hB; exact wrap_succ (n := n) hin (by omega)
  refine ⟨(i + 1, k2, G2 (X10 19), (X10 19).A 0, (X10 19).c 0), ⟨by simp only; omega, hk2n, ?_, ?_⟩, by simp only; omega, by rw [← e]; exact hF⟩
  ·simp only
   rw [hk2, hG2, shfA_spAt, ← hstep]; exact hnew
  simp only
  rw [hk2, hG2, shfA_spAt, hL2]; exact put_rises hris
 have hout : i = n := by
  have : ¬ (i : Int) < (n : Int) := by subst hB; simpa [std, sC] using hb
  omega
 have hW : newS (rwsA f n) = some (shfA g k1) := by rw [hS, hnew, List.drop_eq_nil_of_le (by rw [listA_len]; omega)]; rfl
 refine wp_exit (wp_seq (rg hB TA_ok [2, 3] [9] [] hF fun X11 a0 w1 hF => ?_))
 refine wp_ret ((rx hB TA_ok hF (spY A1 c1 g none 0 (X1 1).b) [9] (he := ?_) (hs := ?_) (hn := ?_)).1)
 ·subst hB; simp only [hW]; exact zr
 ·simp only [hW]; exact trivial
 simp only [hW]
 exact ⟨⟨_, rfl, ⟨sps_sim (b := (X1 1).b) rfl, zr, trivial⟩⟩, fun e he => (by cases he), (by simp), trivial⟩
theorem Fits.swap {C : Cx} {nt i j : Nat} {u v : AV} {l : List (Nat × AV)} {mem : List (Nat × Blk)} {gr : List (Nat × Gr)} {a : Act} {w : World} (h : Fits C ⟨nt, (i, u) :: (j, v) :: l, [], mem, gr⟩ a w) (hne : i ≠ j := by decide) : Fits C ⟨nt, (j, v) :: (i, u) :: l, [], mem, gr⟩ a w :=
 h.alike ⟨rfl, fun k => by
  simp only [look_cons]
  by_cases h1 : i = k
  ·by_cases h2 : j = k
   ·exact absurd (h1.trans h2.symm) hne
   simp [h1, h2]
  simp [h1], fun _ => rfl, fun _ => rfl, fun _ => rfl⟩
theorem bigs_s (A : Option Addr) (n c : Nat) (f : Nat → RowA) (hn : n ≤ maxLen) : Spec Tryz.prog 5 [rowsV A n c f] (fun _ => .bool (.v (if n ≤ 300 then bigS n f else true))) := by
 intro m w hm hargs
 have hmx : maxLen = 9223372036854775807 := rfl
 have hln := rows_len (hargs (rowsV A n c f) (by simp))
 refine en 38 hm hargs Tryz.func5 fun B hB a0 hF => ?_
 refine wp_seq (rg hB TA_ok [0] [] [] hF fun X0 a0 w1 hF => ?_)
 refine wp_seq (rg hB TA_ok [3, 0] [] [] hF fun X1 a0 w1 hF => ?_)
 refine wp_seq (wp_seq (rg hB TA_ok [3, 4, 0] [] [] hF fun X2 a0 w1 hF => ?_))
 refine wp_block (loop_pre (ι := Nat × Int) (fun p => [(3, .int .i64 p.2), (4, .int .i64 (p.1 : Int))]) (fun p => []) (fun p => []) (fun p => p.1 ≤ n ∧ p.2 = sumW f p.1 ∧ ∀ i, i < p.1 → bigF (f i).x.r.n (f i).x.r.f = false) (fun p => n - p.1) (0, 0) ⟨Nat.zero_le _, rfl, fun i hi => absurd hi (Nat.not_lt_zero _)⟩ hF ?_)
 rintro ⟨i, s⟩ ⟨hi, hs, hal⟩ a0 w1 hF
 try dsimp only at hi
 try dsimp only at hs
 try dsimp only at hal
 refine wp_seq (wp_seq (rg hB TA_ok [13, 3, 4, 0] [] [] hF fun X3 a0 w1 hF => ?_))
 apply test_ok hF rfl <;> intro hb hF
 ·have h9 : (if decide ((i : Int) < (n : Int)) = true then decide ((n : Int) ≤ 300) else false) = true := by subst hB; exact hb
  rw [ite_and, Bool.and_eq_true, decide_eq_true_eq, decide_eq_true_eq] at h9
  have hin : i < n := by omega
  have hsm : n ≤ 300 := by omega
  have S := big_s (f i).x.A (f i).x.r.n (f i).x.c (f i).x.r.f (hln i hin) (f i).x.r.kd (f i).x.r.nx (f i).x.r.mrk
  simp only [recI, rowI] at S
  obtain ⟨q, hq⟩ := eqv (bigF (f i).x.r.n (f i).x.r.f)
  rw [← hq] at S
  refine wp_skip (wp_seq (wp_block (wp_seq (wp_seq ?_))))
  refine rg hB TA_ok [21, 3, 4, 0] [] [(5, .r fun _ => .bool (.v q))] hF (hob := by intro X; subst hB; simp only [AO, Ob.holds, BE.den] <;> and_intros <;> repeat first | trivial | rfl | exact (show (0 : Int) ≤ (i : Int) by omega) | exact (show (i : Int) < (n : Int) by omega) | exact S | exact (fun _ _ => by kernel_rfl) | refine ⟨?_, ?_⟩ | intro h | exact Int.le_refl _ | decide | omega) fun X5 a0 w1 hF => ?_
  apply test_ok hF rfl <;> intro hb hF
  ·have hbt : bigF (f i).x.r.n (f i).x.r.f = true := by rw [← hq]; exact hb
   refine wp_seq (rg hB TA_ok [2] [] [] hF fun X6 a0 w1 hF => ?_)
   refine wp_ret ((rsi hB TA_ok hF nAt (he := ?_)))
   subst hB
   refine Sim.bool ?_
   show true = (if n ≤ 300 then bigS n f else true)
   rw [if_pos hsm]
   unfold bigS
   rw [anyB_true hin hbt]; simp
  have hbf : bigF (f i).x.r.n (f i).x.r.f = false := by rw [← hq]; exact hb
  refine wp_skip ?_
  refine rg hB TA_ok [3, 4, 0] [] [] hF (hob := by intro X; subst hB; simp only [AO, Ob.holds, BE.den] <;> and_intros <;> repeat first | trivial | rfl | exact (show (0 : Int) ≤ (i : Int) by omega) | exact (show (i : Int) < (n : Int) by omega) | exact (fun _ _ => by kernel_rfl) | refine ⟨?_, ?_⟩ | intro h | exact Int.le_refl _ | decide | omega) fun X7 a0 w1 hF => ?_
  refine rg hB TA_ok [4, 3, 0] [] [] hF fun X4 a0 w1 hF => ?_
  have e : B.arith .add .i64 (i : Int) 1 = ((i + 1 : Nat) : Int) := by subst hB; exact wrap_succ (n := n) hin (by omega)
  refine ⟨(i + 1, B.arith .add .i64 s (B.ofNat (f (B.toNat (i : Int))).x.r.n)), ⟨by simp only; omega, by subst hB; rw [hs]; rfl, fun j hj => ?_⟩, by simp only; omega, by rw [← e]; exact hF.swap⟩
  by_cases hij : j = i
  ·rw [hij]; exact hbf
  exact hal j (by simp only at hj; omega)
 have h9 : (if decide ((i : Int) < (n : Int)) = true then decide ((n : Int) ≤ 300) else false) = false := by subst hB; exact hb
 rw [ite_and] at h9
 have hend : n ≤ 300 → i = n := fun h3 => by
  rw [decide_eq_true (show (n : Int) ≤ 300 by omega), Bool.and_true] at h9
  have := of_decide_eq_false h9
  omega
 refine wp_exit (wp_seq (rg hB TA_ok [2] [] [] hF fun X8 a0 w1 hF => ?_))
 refine wp_ret ((rsi hB TA_ok hF nAt (he := ?_)))
 subst hB
 refine Sim.bool ?_
 show (if decide ((300 : Int) < (n : Int)) = true then true else decide (3000 < s)) = _
 rw [ite_or]
 by_cases h3 : n ≤ 300
 ·rw [if_pos h3]
  unfold bigS
  rw [hend h3] at hs hal
  rw [anyB_none hal, hs, decide_eq_false (show ¬ (300 : Int) < (n : Int) by omega), decide_eq_false (show ¬ 300 < n by omega)]; rfl
 rw [if_neg h3, decide_eq_true (show (300 : Int) < (n : Int) by omega)]; rfl
def firA (f : Nat → RowA) (n : Nat) (q : Lab) : Option Nat := (List.range n).find? fun i => decide ((f i).lab = q)
def getF (f : Nat → RowA) (n : Nat) (q : Lab) : Option RA := (firA f n q).map fun i => (f i).x
theorem fir_hit {f : Nat → RowA} {n i : Nat} {q : Lab} (hi : i < n) (hm : ∀ t, t < i → ¬ (f t).lab = q) (h : (f i).lab = q) : firA f n q = some i := by
 unfold firA
 rw [List.find?_range_eq_some]
 exact ⟨by simpa using h, List.mem_range.2 hi, fun t ht => by simpa using hm t ht⟩
theorem fir_miss {f : Nat → RowA} {n : Nat} {q : Lab} (hm : ∀ t, t < n → ¬ (f t).lab = q) : firA f n q = none := by
 unfold firA
 rw [List.find?_eq_none]
 intro t ht
 simpa using hm t (List.mem_range.1 ht)
def sameB (n : Nat) (f : Nat → Lab) (n2 : Nat) (f2 : Nat → Lab) : Bool := decide (n = n2) && (List.range n).all fun i => decide (f i = f2 i)
theorem rat4_s (A : Option Addr) (n c : Nat) (f : Nat → RowA) (hn : n ≤ 100000) (q : Lab) : Spec Tryz.prog 31 [rowsV A n c f, labAV q] (fun _ => .tup [recV ((getF f n q).getD zRA), .bool (.v (getF f n q).isSome)]) := by
 intro m w hm hargs
 have hmx : maxLen = 9223372036854775807 := rfl
 simp only [labAV] at hargs
 refine en 26 hm hargs Tryz.func31 fun B hB a0 hF => ?_
 refine wp_seq (rg hB TA_ok [3, 4, 0] [3, 4] [] hF fun X0 a0 w1 hF => ?_)
 refine wp_seq (wp_seq (rg hB TA_ok [6, 0, 3, 4] [3, 4] [] hF fun X1 a0 w1 hF => ?_))
 refine wp_block (loop_pre (ι := Nat) (fun p => [(6, .int .i64 (p : Int))]) (fun p => []) (fun p => []) (fun p => p ≤ n ∧ ∀ t, t < p → ¬ (f t).lab = q) (fun p => n - p) 0 ⟨Nat.zero_le _, fun t ht => absurd ht (Nat.not_lt_zero _)⟩ hF ?_)
 rintro i ⟨hi, hlt⟩ a0 w1 hF
 try dsimp only at hi
 try dsimp only at hlt
 refine wp_seq (wp_seq (rg hB TA_ok [10, 6, 0, 3, 4] [3, 4] [] hF fun X2 a0 w1 hF => ?_))
 apply test_ok hF rfl <;> intro hb hF
 ·have hin : i < n := by
   have : (i : Int) < (n : Int) := by subst hB; simpa [std, sC] using hb
   omega
  refine wp_skip (wp_seq (wp_block (wp_seq (drg hB TA_ok [19, 6, 0, 3, 4] [3, 4] [] hF (hob := ?hob) fun X4 a0 w1 hF => ?_))))
  case hob =>
   intro X
   subst hB
   repeat (first | exact trivial | refine ⟨rfl, ?_⟩ | refine ⟨(show (0 : Int) ≤ (i : Int) ∧ (i : Int) < (n : Int) by omega), ?_⟩ | refine ⟨ob_lab (Kk := noK) _ _ _ _, ?_⟩)
  apply test_ok hF rfl <;> intro hb hF
  ·have heq : (f i).lab = q := by
    have h5 : eqL [.int .i64 (f i).lab.len, .int .u64 (f i).lab.bits] [.int .i64 q.len, .int .u64 q.bits] = true := by subst hB; exact hb
    rw [eqL_lab, decide_eq_true_eq] at h5; exact h5
   have hW : getF f n q = some (f i).x := by unfold getF; rw [fir_hit hin hlt heq]; rfl
   refine wp_seq (rg hB TA_ok [4, 5] [3, 4] [] hF (hob := ?hob) fun X5 a0 w1 hF => ?_)
   case hob =>
    intro X
    subst hB
    repeat (first | exact trivial | refine ⟨rfl, ?_⟩ | refine ⟨(show (0 : Int) ≤ (i : Int) ∧ (i : Int) < (n : Int) by omega), ?_⟩)
   refine wp_ret ((rsi hB TA_ok hF nAt (he := ?_)))
   subst hB
   rw [hW]
   exact zr
  have hne : ¬ (f i).lab = q := by
   have h5 : eqL [.int .i64 (f i).lab.len, .int .u64 (f i).lab.bits] [.int .i64 q.len, .int .u64 q.bits] = false := by subst hB; exact hb
   rw [eqL_lab, decide_eq_false_iff_not] at h5; exact h5
  refine wp_skip (rg hB TA_ok [6, 0, 3, 4] [3, 4] [] hF fun X3 a0 w1 hF => ?_)
  have e : B.arith .add .i64 (i : Int) 1 = ((i + 1 : Nat) : Int) := by subst hB; exact wrap_succ (n := n) hin (by omega)
  refine ⟨i + 1, ⟨by omega, fun t ht => ?_⟩, by omega, by rw [← e]; exact hF⟩
  by_cases h : t = i
  ·rw [h]; exact hne
  exact hlt t (by omega)
 have hout : i = n := by
  have : ¬ (i : Int) < (n : Int) := by subst hB; simpa [std, sC] using hb
  omega
 rw [hout] at hlt
 have hW : getF f n q = none := by unfold getF; rw [fir_miss hlt]; rfl
 refine wp_exit (wp_seq (rg hB TA_ok [4, 5] [3, 4] [] hF fun X6 a0 w1 hF => ?_))
 refine wp_ret ((rsi hB TA_ok hF nAt (he := ?_)))
 subst hB
 rw [hW]
 exact Sim.tup ⟨Sim.agg ⟨zr, sim_nils, zr, zr, zr, trivial⟩, zr, trivial⟩
theorem rcov4_s (A : Option Addr) (n c : Nat) (f : Nat → Itm) (hn : n ≤ 1000000) (l : Lab) (hb0 : U64 l.bits) (hki : ∀ i, i < n → U64 (f i).key) : Spec Tryz.prog 57 [rowI A n c f, labAV l] (fun x => rowI (x.A 0) (covL l (firsts f n)).length (x.c 0) (itF (covL l (firsts f n)))) := by
 intro m w hm hargs
 have hmx : maxLen = 9223372036854775807 := rfl
 unfold rowI at hargs ⊢
 simp only [labAV] at hargs ⊢
 refine en 28 hm hargs Tryz.func57 fun B hB a0 hF => ?_
 refine wp_seq (rg hB TA_ok [3, 0] [3] [] hF fun X0 a0 w1 hF => ?_)
 refine wp_seq (rg hB TA_ok [5, 3, 0] [3, 5] [] hF fun X1 a0 w1 hF => ?_)
 refine wp_seq (wp_seq (rg hB TA_ok [5, 6, 0, 3] [3, 5] [] hF fun X2 a0 w1 hF => ?_))
 replace hF := hF.headS (v' := .sl (some 5) none 0 0 2 (fun t => itC zeroItm)) (zq0) rfl
 refine wp_block (loop_pre (ι := Nat × Nat × (Nat → Itm) × Option Addr × Nat) (fun p => [(5, .sl (some 5) p.2.2.2.1 p.2.1 p.2.2.2.2 2 (fun t => itC (p.2.2.1 t))), (6, .int .i64 (p.1 : Int))]) (fun p => []) (fun p => [(5, ⟨p.2.2.2.1, p.2.1, p.2.2.2.2, 2, 58⟩)]) (fun p => p.1 ≤ n ∧ p.2.1 ≤ p.1 ∧ firsts p.2.2.1 p.2.1 = covL l (firsts f p.1)) (fun p => n - p.1) (0, 0, fun _ => zeroItm, none, 0) ⟨Nat.zero_le _, Nat.le_refl _, rfl⟩ hF ?_)
 rintro ⟨i, q, g, A1, c1⟩ ⟨hi, hq, hg⟩ a0 w1 hF
 try dsimp only at hi
 try dsimp only at hq
 try dsimp only at hg
 refine wp_seq (wp_seq (rg hB TA_ok [10, 5, 6, 0, 3] [3, 5] [] hF fun X3 a0 w1 hF => ?_))
 apply test_ok hF rfl <;> intro hb hF
 ·have hin : i < n := by
   have : (i : Int) < (n : Int) := by subst hB; simpa [std, sC] using hb
   omega
  have S := rcov_s l hb0 (f i).key (hki i hin)
  simp only [labAV] at S
  obtain ⟨cq, hcq⟩ := eqv (coverB l (f i).key)
  rw [← hcq] at S
  refine wp_skip (wp_seq (wp_block (wp_seq (drg hB TA_ok [19, 5, 6, 0, 3] [3, 5] [(6, .r fun _ => .bool (.v cq))] hF (hob := ?hob) fun X5 a0 w1 hF => ?_))))
  case hob =>
   intro X
   subst hB
   repeat (first | exact trivial | refine ⟨rfl, ?_⟩ | refine ⟨(show (0 : Int) ≤ (i : Int) ∧ (i : Int) < (n : Int) by omega), ?_⟩ | refine ⟨⟨fun _ _ => by kernel_rfl, S⟩, ?_⟩)
  apply test_ok hF rfl <;> intro hb hF
  ·have hct : cq = true := hb
   rw [hct] at hcq
   refine rg hB TA_ok [5, 6, 0, 3] [3, 5] [] hF (hob := ?hob) fun X6 a0 w1 hF => ?_
   case hob =>
    intro X
    subst hB
    repeat (first | exact trivial | refine ⟨⟨rfl, rfl, rfl⟩, ?_⟩ | refine ⟨rfl, ?_⟩ | refine ⟨(show (0 : Int) ≤ (i : Int) ∧ (i : Int) < (n : Int) by omega), ?_⟩ | refine ⟨⟨show q + 1 ≤ maxLen by omega, show (q + 1) * _ ≤ _ by omega⟩, ?_⟩)
   replace hF := hF.headS (v' := .sl (some 5) ((X6 6).A 0) (B.nadd q 1) ((X6 6).c 0) 2 (fun t => itC (fSet g q (f i) t))) (Sim.resl rfl (fun t ht => by
    subst hB
    have ht2 : t < q + 1 := ht
    show appC q (fun t => itC (g t)) (chunk 2 [.int .u64 (f i).key, .str (f i).val]) t = _
    unfold appC fSet
    split
    ·rw [if_neg (by omega)]
    have : t = q := by omega
    subst this
    simp [chunk, itC])) rfl
   refine rg hB TA_ok [5, 6, 0, 3] [3, 5] [] hF fun X4 a0 w1 hF => ?_
   have e : B.arith .add .i64 (i : Int) 1 = ((i + 1 : Nat) : Int) := by subst hB; exact wrap_succ (n := n) hin (by omega)
   refine ⟨(i + 1, q + 1, fSet g q (f i), _, _), ⟨by simp only; omega, by simp only; omega, ?_⟩, by simp only; omega, by rw [← e, show q + 1 = B.nadd q 1 by subst hB; rfl]; exact hF⟩
   simp only
   rw [firsts_set, hg, cov_stp, if_pos hcq.symm]
  have hcf : cq = false := hb
  rw [hcf] at hcq
  refine wp_skip (rg hB TA_ok [5, 6, 0, 3] [3, 5] [] hF fun X4 a0 w1 hF => ?_)
  have e : B.arith .add .i64 (i : Int) 1 = ((i + 1 : Nat) : Int) := by subst hB; exact wrap_succ (n := n) hin (by omega)
  refine ⟨(i + 1, q, g, _, _), ⟨by simp only; omega, by simp only; omega, ?_⟩, by simp only; omega, by rw [← e]; exact hF⟩
  simp only
  rw [hg, cov_stp, if_neg (by rw [← hcq]; decide), List.append_nil]
 have hout : i = n := by
  have : ¬ (i : Int) < (n : Int) := by subst hB; simpa [std, sC] using hb
  omega
 rw [hout] at hg
 refine wp_exit (wp_seq (rg hB TA_ok [4] [5] [] hF fun X7 a0 w1 hF => ?_))
 refine wp_ret ((rsi hB TA_ok hF (⟨0, fun _ => A1, fun _ => c1, fun _ => ⟨#[]⟩⟩) (he := ?_)))
 subst hB
 exact Sim.resl (by rw [← hg, firsts_len]) (fun t ht => by rw [← hg, firsts_len] at ht; rw [← hg, firsts_get _ _ t ht])
theorem lbs4_s (A : Option Addr) (n c : Nat) (f : Nat → Lab) (A2 : Option Addr) (n2 c2 : Nat) (f2 : Nat → Lab) (hn : n ≤ 1000000) : Spec Tryz.prog 14 [labsV A n c f, labsV A2 n2 c2 f2] (fun _ => .bool (.v (sameB n f n2 f2))) := by
 intro m w hm hargs
 have hmx : maxLen = 9223372036854775807 := rfl
 refine en 26 hm hargs Tryz.func14 fun B hB a0 hF => ?_
 refine wp_seq (rg hB TA_ok [0, 1] [] [] hF fun X0 a0 w1 hF => ?_)
 refine wp_seq (wp_seq (rg hB TA_ok [10, 0, 1] [] [] hF fun X1 a0 w1 hF => ?_))
 apply test_ok hF rfl <;> intro hb hF
 ·have hne : ¬ n = n2 := by
   have : ¬ (n : Int) = (n2 : Int) := by subst hB; simpa [std, sC] using hb
   omega
  have hW : sameB n f n2 f2 = false := by unfold sameB; rw [decide_eq_false hne]; rfl
  refine wp_seq (rg hB TA_ok [4] [] [] hF fun X2 a0 w1 hF => ?_)
  refine wp_ret ((rsi hB TA_ok hF nAt (he := ?_)))
  subst hB
  rw [hW]
  exact zr
 have hne : n = n2 := by
  have : (n : Int) = (n2 : Int) := by subst hB; simpa [std, sC] using hb
  omega
 refine wp_skip (wp_seq (wp_seq (rg hB TA_ok [5, 0, 1] [] [] hF fun X3 a0 w1 hF => ?_)))
 refine wp_block (loop_pre (ι := Nat) (fun p => [(5, .int .i64 (p : Int))]) (fun p => []) (fun p => []) (fun p => p ≤ n ∧ ∀ t, t < p → f t = f2 t) (fun p => n - p) 0 ⟨Nat.zero_le _, fun t ht => absurd ht (Nat.not_lt_zero _)⟩ hF ?_)
 rintro i ⟨hi, hlt⟩ a0 w1 hF
 try dsimp only at hi
 try dsimp only at hlt
 refine wp_seq (wp_seq (rg hB TA_ok [14, 5, 0, 1] [] [] hF fun X4 a0 w1 hF => ?_))
 apply test_ok hF rfl <;> intro hb hF
 ·have hin : i < n := by
   have : (i : Int) < (n : Int) := by subst hB; simpa [std, sC] using hb
   omega
  refine wp_skip (wp_seq (wp_block (wp_seq (drg hB TA_ok [25, 5, 0, 1] [] [] hF (hob := ?hob) fun X6 a0 w1 hF => ?_))))
  case hob =>
   intro X
   subst hB
   repeat (first | exact trivial | refine ⟨rfl, ?_⟩ | refine ⟨(show (0 : Int) ≤ (i : Int) ∧ (i : Int) < (n : Int) by omega), ?_⟩ | refine ⟨(show (0 : Int) ≤ (i : Int) ∧ (i : Int) < (n2 : Int) by omega), ?_⟩ | refine ⟨ob_lab (Kk := noK) _ _ _ _, ?_⟩)
  apply test_ok hF rfl <;> intro hb hF
  ·have heq : ¬ f i = f2 i := by
    have h5 : (!eqL [.int .i64 (f i).len, .int .u64 (f i).bits] [.int .i64 (f2 i).len, .int .u64 (f2 i).bits]) = true := by subst hB; exact hb
    rw [eqL_lab] at h5; simpa using h5
   have hW : sameB n f n2 f2 = false := by unfold sameB; rw [decide_eq_true hne, Bool.true_and, List.all_eq_false]; exact ⟨i, List.mem_range.2 hin, by simpa using heq⟩
   refine wp_seq (rg hB TA_ok [4] [] [] hF fun X7 a0 w1 hF => ?_)
   refine wp_ret ((rsi hB TA_ok hF nAt (he := ?_)))
   subst hB
   rw [hW]
   exact zr
  have heq : f i = f2 i := by
   have h5 : (!eqL [.int .i64 (f i).len, .int .u64 (f i).bits] [.int .i64 (f2 i).len, .int .u64 (f2 i).bits]) = false := by subst hB; exact hb
   rw [eqL_lab] at h5; simpa using h5
  refine wp_skip (rg hB TA_ok [5, 0, 1] [] [] hF fun X5 a0 w1 hF => ?_)
  have e : B.arith .add .i64 (i : Int) 1 = ((i + 1 : Nat) : Int) := by subst hB; exact wrap_succ (n := n) hin (by omega)
  refine ⟨i + 1, ⟨by omega, fun t ht => ?_⟩, by omega, by rw [← e]; exact hF⟩
  by_cases h : t = i
  ·rw [h]; exact heq
  exact hlt t (by omega)
 have hout : i = n := by
  have : ¬ (i : Int) < (n : Int) := by subst hB; simpa [std, sC] using hb
  omega
 have hW : sameB n f n2 f2 = true := by unfold sameB; rw [decide_eq_true hne, Bool.true_and, List.all_eq_true]; intro t ht; have h5 := List.mem_range.1 ht; exact decide_eq_true (hlt t (by omega))
 refine wp_exit (wp_seq (rg hB TA_ok [4] [] [] hF fun X8 a0 w1 hF => ?_))
 refine wp_ret ((rsi hB TA_ok hF nAt (he := ?_)))
 subst hB
 rw [hW]
 exact zr
theorem insL_split (x : Lab) : ∀ (l : List Lab) (p : Nat), p ≤ l.length → (∀ t, t < p → lessL x (l.getD t ⟨0, 0⟩) = false) → (p < l.length → lessL x (l.getD p ⟨0, 0⟩) = true) → insL x l = l.take p ++ x :: l.drop p
 | [], p, h1, _, _ => by
  have : p = 0 := by simpa using h1
  subst this; rfl
 | y :: l, 0, _, _, h3 => by
  have := h3 (by simp)
  unfold insL
  rw [if_pos (by simpa using this)]
  rfl
 | y :: l, p + 1, h1, h2, h3 => by
  have h0 := h2 0 (by omega)
  unfold insL
  rw [if_neg (by simpa using h0)]
  rw [insL_split x l p (by simpa using h1) (fun t ht => by have := h2 (t + 1) (by omega); simpa using this) (fun h => by have := h3 (by simpa using h); simpa using this)]
  rfl
def catF (g : Nat → Lab) (p : Nat) (x : Lab) : Nat → Lab := fun t => if t < p then g t else if t = p then x else g (t - 1)
theorem map_cat {g : Nat → Lab} {q p : Nat} (x : Lab) (hp : p ≤ q) : (List.range (q + 1)).map (catF g p x) = ((List.range q).map g).take p ++ x :: ((List.range q).map g).drop p := by
 apply List.ext_getElem?
 intro t
 by_cases h1 : t < p
 ·rw [List.getElem?_append_left (by simp; omega)]
  simp [List.getElem?_take, h1, show t < q + 1 by omega, show t < q by omega, catF]
 rw [List.getElem?_append_right (by simp; omega)]
 by_cases h2 : t = p
 ·subst h2
  simp [catF, Nat.min_eq_left hp, show t < q + 1 by omega]
 have hm : t - min p q = (t - p - 1) + 1 := by rw [Nat.min_eq_left hp]; omega
 simp only [List.length_take, List.length_map, List.length_range]
 rw [hm, List.getElem?_cons_succ, List.getElem?_drop, show p + (t - p - 1) = t - 1 by omega]
 by_cases h3 : t < q + 1
 ·simp [h3, show t - 1 < q by omega, catF, h1, h2]
 simp [h3, show ¬ t - 1 < q by omega]
theorem sortL_snoc (l : List Lab) (x : Lab) : sortL (l ++ [x]) = insL x (sortL l) := by unfold sortL; rw [List.foldl_append]; rfl
theorem ins_cat {g : Nat → Lab} {q p : Nat} {x : Lab} (hp : p ≤ q) (h1 : ∀ t, t < p → lessL x (g t) = false) (h2 : p < q → lessL x (g p) = true) : insL x ((List.range q).map g) = (List.range (q + 1)).map (catF g p x) := by
 rw [map_cat x hp]
 refine insL_split x _ p (by simpa using hp) (fun t ht => ?_) (fun h => ?_)
 ·rw [show ((List.range q).map g).getD t ⟨0, 0⟩ = g t by simp [List.getD_eq_getElem?_getD, show t < q by omega]]
  exact h1 t ht
 have h : p < q := by simpa using h
 rw [show ((List.range q).map g).getD p ⟨0, 0⟩ = g p by simp [List.getD_eq_getElem?_getD, h]]
 exact h2 h
theorem rleaves_s (A : Option Addr) (n c : Nat) (f : Nat → RowA) (hn : n ≤ 100000) : Spec Tryz.prog 16 [rowsV A n c f] (fun y => labsV (y.A 0) (leavesP (rwsA f n)).length (y.c 0) (labF (leavesP (rwsA f n)))) := by
 intro m w hm hargs
 have hmx : maxLen = 9223372036854775807 := rfl
 refine en 59 hm hargs Tryz.func16 fun B hB a0 hF => ?_
 refine wp_seq (rg hB TA_ok [0] [] [] hF fun X0 a0 w1 hF => ?_)
 refine wp_seq (rg hB TA_ok [3, 0] [3, 5, 43, 51, 56] [] hF fun X1 a0 w1 hF => ?_)
 refine wp_seq (wp_seq (rg hB TA_ok [3, 4, 0] [3, 5, 43, 51, 56] [] hF fun X2 a0 w1 hF => ?_))
 replace hF := hF.headS (v' := .sl none none 0 0 2 (fun t => labC ⟨0, 0⟩)) sim_nils rfl
 replace hF := hF.keep [3,4,0] []
 refine wp_block (loop_pre (ι := Nat × Nat × (Nat → Lab) × Option Addr × Nat) (fun p => [(3, .sl none p.2.2.2.1 p.2.1 p.2.2.2.2 2 (fun t => labC (p.2.2.1 t))), (4, .int .i64 (p.1 : Int))]) (fun p => []) (fun p => []) (fun p => p.1 ≤ n ∧ p.2.1 ≤ p.1 ∧ (List.range p.2.1).map p.2.2.1 = sortL (leafs (rwsA f p.1))) (fun p => n - p.1) (0, 0, fun _ => ⟨0, 0⟩, none, 0) ⟨Nat.zero_le _, Nat.le_refl _, rfl⟩ hF ?_)
 rintro ⟨i, q, g, A1, c1⟩ ⟨hi, hq, hg⟩ a0 w1 hF
 try dsimp only at hi
 try dsimp only at hq
 try dsimp only at hg
 refine wp_seq (wp_seq (rg hB TA_ok [10, 3, 4, 0] [3, 5, 43, 51, 56] [] hF fun X3 a0 w1 hF => ?_))
 apply test_ok hF rfl <;> intro hb hF
 ·have hin : i < n := by
   have : (i : Int) < (n : Int) := by subst hB; simpa [std, sC] using hb
   omega
  refine wp_skip (wp_seq (wp_block (wp_seq (wp_seq (rg hB TA_ok [19, 3, 4, 0] [3, 5, 43, 51, 56] [] hF (hob := ?hob) fun X5 a0 w1 hF => ?_)))))
  case hob =>
   intro X
   subst hB
   repeat (first | exact trivial | refine ⟨rfl, ?_⟩ | refine ⟨(show (0 : Int) ≤ (i : Int) ∧ (i : Int) < (n : Int) by omega), ?_⟩)
  apply test_ok hF rfl <;> intro hb hF
  ·have hk : ¬ (f i).x.r.kd = 1 := by subst hB; simpa [std, sC] using hb
   refine wp_exit (rg hB TA_ok [3, 4, 0] [3, 5, 43, 51, 56] [] hF fun X4 a0 w1 hF => ?_)
   have e : B.arith .add .i64 (i : Int) 1 = ((i + 1 : Nat) : Int) := by subst hB; exact wrap_succ (n := n) hin (by omega)
   refine ⟨(i + 1, q, g, _, _), ⟨by simp only; omega, by simp only; omega, ?_⟩, by simp only; omega, by rw [← e]; exact hF⟩
   simp only
   rw [hg, leafs_step, if_neg hk, List.append_nil]
  have hk : (f i).x.r.kd = 1 := by subst hB; simpa [std, sC] using hb
  obtain ⟨x, hx⟩ := eqv ((f i).lab)
  refine wp_skip (wp_seq (rg hB TA_ok [5, 3, 4, 0] [3, 5, 43, 51, 56] [] hF fun X6 a0 w1 hF => ?_))
  refine wp_seq (rg hB TA_ok [6, 5, 3, 4, 0] [3, 5, 43, 51, 56] [] hF fun X7 a0 w1 hF => ?_)
  refine wp_seq (wp_block (loop_pre (ι := Nat) (fun p => [(6, .int .i64 (p : Int))]) (fun p => []) (fun p => []) (fun p => p ≤ q ∧ ∀ t, t < p → lessL (f i).lab (g t) = false) (fun p => q - p) 0 ⟨Nat.zero_le _, fun t ht => absurd ht (Nat.not_lt_zero _)⟩ hF ?_))
  rintro j ⟨hj, hjl⟩ a0 w1 hF
  try dsimp only at hj
  try dsimp only at hjl
  obtain ⟨ls, hlsE⟩ := eqv (lessL (f i).lab (g j))
  have SL := less_s (f i).lab (g j)
  rw [← hlsE] at SL
  simp only [labAV] at SL
  refine wp_seq (wp_seq ?_)
  refine drg hB TA_ok [36, 6, 5, 3, 4, 0] [3, 5, 43, 51, 56] [(14, .r fun _ =>   .bool (.v ls))] hF (hob := by intro X; subst hB; simp only [AO, Ob.holds, BE.den, List.mem_cons, List.not_mem_nil, or_false, forall_eq_or_imp, forall_eq] <;> and_intros <;> repeat first | trivial | rfl | exact ⟨show (0 : Int) ≤ (i : Int) by omega, show (i : Int) < (n : Int) by omega⟩ | exact ⟨Int.natCast_nonneg _, (of_decide_eq_true h)⟩ | exact SL | exact (fun _ _ => by kernel_rfl) | refine ⟨?_, ?_⟩ | intro h | exact Int.le_refl _ | decide | omega) fun X8 a0 w1 hF => ?_
  apply test_ok hF rfl <;> intro hb hF
  ·have h9 : (j : Int) < (q : Int) ∧ ls = false := by subst hB; simpa [std, sC] using hb
   have hjq : j < q := by omega
   have hls : lessL (f i).lab (g j) = false := by rw [← hlsE]; exact h9.2
   refine wp_skip (wp_block (rg hB TA_ok [6, 5, 3, 4, 0] [3, 5, 43, 51, 56] [] hF fun X9 a0 w1 hF => ?_))
   have e : B.arith .add .i64 (j : Int) 1 = ((j + 1 : Nat) : Int) := by subst hB; exact wrap_succ (n := q) hjq (by omega)
   refine ⟨j + 1, ⟨by omega, fun t ht => ?_⟩, by omega, by rw [← e]; exact hF⟩
   by_cases h : t = j
   ·rw [h]; exact hls
   exact hjl t (by omega)
  have h9 : (j : Int) < (q : Int) → ls = true := by subst hB; simpa [std, sC] using hb
  have hst : j < q → lessL (f i).lab (g j) = true := fun h => by rw [← hlsE]; exact h9 (by omega)
  have hins := ins_cat hj hjl hst
  refine wp_exit (wp_seq (rg hB TA_ok [5, 6, 3, 4, 0] [3, 5, 43, 51, 56] [] hF fun X10 a0 w1 hF => ?_))
  replace hF := hF.headS (v' := .sl (some 5) ((X10 4).A 0) j ((X10 4).c 0) 2 (fun t => labC (g t))) (Sim.resl (by subst hB; show 0 + (Int.toNat (j : Int) - Int.toNat 0) = j; simp) (fun t ht => by
   subst hB
   show appC 0 _ (fromC 0 (fun t => labC (g t))) t = _
   unfold appC fromC
   simp)) rfl
  refine wp_seq (rg hB TA_ok [5, 6, 3, 4, 0] [3, 5, 43, 51, 56] [] hF fun X11 a0 w1 hF => ?_)
  replace hF := hF.headS (v' := .sl (some 5) ((X11 7).A 0) (j + 1) ((X11 7).c 0) 2 (fun t => labC (lSet g j (f i).lab t))) (Sim.resl (by subst hB; rfl) (fun t ht => by
   subst hB
   show appC j (fun t => labC (g t)) (chunk 2 [.int .i64 (f i).lab.len, .int .u64 (f i).lab.bits]) t = _
   unfold appC lSet
   split
   ·rw [if_neg (by omega)]
   have : t = j := by omega
   subst this
   simp [chunk, labC])) rfl
  refine wp_seq (rg hB TA_ok [5, 4, 0] [5, 43, 51, 56] [] hF fun X12 a0 w1 hF => ?_)
  replace hF := hF.headS (v' := .sl (some 5) ((X12 4).A 0) (q + 1) ((X12 4).c 0) 2 (fun t => labC (catF g j (f i).lab t))) (Sim.resl (by subst hB; show j + 1 + (q - Int.toNat (j : Int)) = q + 1; simp; omega) (fun t ht => by
   subst hB
   show appC (j + 1) (fun t => labC (lSet g j (f i).lab t)) (fromC j (fun t => labC (g t))) t = _
   unfold appC fromC lSet catF
   by_cases h1 : t < j
   ·simp [h1, show t < j + 1 by omega, show ¬ t = j by omega]
   by_cases h2 : t = j
   ·simp [h2]
   rw [if_neg (show ¬ t < j + 1 by omega), if_neg h1, if_neg h2]
   show labC (g (j + (t - (j + 1)))) = _
   congr 2
   omega)) rfl
  refine rg hB TA_ok [3, 4, 0] [3, 5, 43, 51, 56] [] hF fun X13 a0 w1 hF => ?_
  replace hF := hF.headS (v' := .sl none ((X12 4).A 0) (q + 1) ((X12 4).c 0) 2 (fun t => labC (catF g j (f i).lab t))) (Sim.recell (fun i hi => rfl)) rfl
  replace hF := hF.keep [3,4,0] []
  refine rg hB TA_ok [3, 4, 0] [3, 5, 43, 51, 56] [] hF fun X4 a0 w1 hF => ?_
  have e : B.arith .add .i64 (i : Int) 1 = ((i + 1 : Nat) : Int) := by subst hB; exact wrap_succ (n := n) hin (by omega)
  refine ⟨(i + 1, q + 1, catF g j (f i).lab, _, _), ⟨by simp only; omega, by simp only; omega, ?_⟩, by simp only; omega, by rw [← e]; exact hF⟩
  simp only
  rw [leafs_step, if_pos hk, sortL_snoc, ← hg, hins]
 have hout : i = n := by
  have : ¬ (i : Int) < (n : Int) := by subst hB; simpa [std, sC] using hb
  omega
 rw [hout] at hg
 refine wp_exit (wp_seq (rg hB TA_ok [2] [2, 3, 5, 43, 51, 56] [] hF fun X14 a0 w1 hF => ?_))
 refine wp_ret ((rsi hB TA_ok hF (⟨0, fun _ => A1, fun _ => c1, fun _ => ⟨#[]⟩⟩) (he := ?_)))
 subst hB
 have hlv : leavesP (rwsA f n) = (List.range q).map g := hg.symm
 rw [hlv, List.length_map, List.length_range]
 exact Sim.resl rfl (fun t ht => by rw [labF_map ht])
def behL (g : Nat → Lab) (n : Nat) (q : Lab) : Lab := match (List.range (n - 1)).find? (fun i => decide (g i = q)) with
 | some i => g (i + 1)
 | none => noneL
theorem beh_hit {g : Nat → Lab} {n i : Nat} {q : Lab} (hi : i + 1 < n) (hm : ∀ t, t < i → ¬ g t = q) (h : g i = q) : behL g n q = g (i + 1) := by
 unfold behL
 rw [show (List.range (n - 1)).find? (fun i => decide (g i = q)) = some i from by
  rw [List.find?_range_eq_some]
  exact ⟨by simpa using h, List.mem_range.2 (by omega), fun t ht => by simpa using hm t ht⟩]
theorem beh_miss {g : Nat → Lab} {n : Nat} {q : Lab} (hm : ∀ t, t + 1 < n → ¬ g t = q) : behL g n q = noneL := by
 unfold behL
 rw [show (List.range (n - 1)).find? (fun i => decide (g i = q)) = none from by
  rw [List.find?_eq_none]
  intro t ht
  have := List.mem_range.1 ht
  simpa using hm t (by omega)]
theorem beh_s (A : Option Addr) (n c : Nat) (g : Nat → Lab) (hn : n ≤ 100000) (q : Lab) : Spec Tryz.prog 70 [labsV A n c g, labAV q] (fun _ => labAV (behL g n q)) := by
 intro m w hm hargs
 have hmx : maxLen = 9223372036854775807 := rfl
 simp only [labAV] at hargs
 have SNo := rnone_s
 simp only [labAV] at SNo
 refine en 25 hm hargs Tryz.func70 fun B hB a0 hF => ?_
 refine wp_seq (rg hB TA_ok [3, 4, 0] [3, 4] [] hF fun X0 a0 w1 hF => ?_)
 refine wp_seq (wp_seq (rg hB TA_ok [5, 0, 3, 4] [3, 4] [] hF fun X1 a0 w1 hF => ?_))
 refine wp_block (loop_pre (ι := Nat) (fun p => [(5, .int .i64 (p : Int))]) (fun p => []) (fun p => []) (fun p => p ≤ n ∧ ∀ t, t < p → ¬ g t = q) (fun p => n - p) 0 ⟨Nat.zero_le _, fun t ht => absurd ht (Nat.not_lt_zero _)⟩ hF ?_)
 rintro i ⟨hi, hlt⟩ a0 w1 hF
 try dsimp only at hi
 try dsimp only at hlt
 refine wp_seq (wp_seq (rg hB TA_ok [10, 5, 0, 3, 4] [3, 4] [] hF fun X2 a0 w1 hF => ?_))
 apply test_ok hF rfl <;> intro hb hF
 ·have hin : i + 1 < n := by
   have h9 : (IntKind.i64.wrap ((i : Int) + 1)) < (n : Int) := by subst hB; simpa [std, sC, sAr] using hb
   rw [wrap_in (by omega) (by omega)] at h9; omega
  refine wp_skip (wp_seq (wp_block (wp_seq (drg hB TA_ok [18, 5, 0, 3, 4] [3, 4] [] hF (hob := ?hob) fun X4 a0 w1 hF => ?_))))
  case hob =>
   intro X
   subst hB
   repeat (first | exact trivial | refine ⟨rfl, ?_⟩ | refine ⟨(show (0 : Int) ≤ (i : Int) ∧ (i : Int) < (n : Int) by omega), ?_⟩ | refine ⟨ob_lab (Kk := noK) _ _ _ _, ?_⟩)
  apply test_ok hF rfl <;> intro hb hF
  ·have heq : g i = q := by
    have h5 : eqL [.int .i64 (g i).len, .int .u64 (g i).bits] [.int .i64 q.len, .int .u64 q.bits] = true := by subst hB; exact hb
    rw [eqL_lab, decide_eq_true_eq] at h5; exact h5
   have hW : behL g n q = g (i + 1) := beh_hit hin hlt heq
   refine wp_seq (rg hB TA_ok [4] [4] [] hF (hob := ?hob) fun X5 a0 w1 hF => ?_)
   case hob =>
    intro X
    subst hB
    have e2 : std.arith .add .i64 (i : Int) 1 = ((i + 1 : Nat) : Int) := by show IntKind.i64.wrap ((i : Int) + 1) = _; rw [wrap_in (by omega) (by omega)]; rfl
    have e3 : 0 ≤ std.arith .add .i64 (i : Int) 1 ∧ std.arith .add .i64 (i : Int) 1 < (n : Int) := by rw [e2]; omega
    repeat (first | exact trivial | refine ⟨rfl, ?_⟩ | refine ⟨e3, ?_⟩)
   refine wp_ret ((rsi hB TA_ok hF nAt (he := ?_)))
   subst hB
   rw [hW]
   have e2 : std.toNat (std.arith .add .i64 (i : Int) 1) = i + 1 := by show (IntKind.i64.wrap ((i : Int) + 1)).toNat = i + 1; rw [wrap_in (by omega) (by omega)]; rfl
   show Sim (.agg [.int .i64 (g (std.toNat (std.arith .add .i64 (i : Int) 1))).len, .int .u64 (g (std.toNat (std.arith .add .i64 (i : Int) 1))).bits]) _
   rw [e2]
   exact zr
  have hne : ¬ g i = q := by
   have h5 : eqL [.int .i64 (g i).len, .int .u64 (g i).bits] [.int .i64 q.len, .int .u64 q.bits] = false := by subst hB; exact hb
   rw [eqL_lab, decide_eq_false_iff_not] at h5; exact h5
  refine wp_skip (rg hB TA_ok [5, 0, 3, 4] [3, 4] [] hF fun X3 a0 w1 hF => ?_)
  have e : B.arith .add .i64 (i : Int) 1 = ((i + 1 : Nat) : Int) := by subst hB; exact wrap_succ (n := n) (show i < n by omega) (by omega)
  refine ⟨i + 1, ⟨by omega, fun t ht => ?_⟩, by omega, by rw [← e]; exact hF⟩
  by_cases h : t = i
  ·rw [h]; exact hne
  exact hlt t (by omega)
 have hout : ¬ i + 1 < n := by
  have h9 : ¬ (IntKind.i64.wrap ((i : Int) + 1)) < (n : Int) := by subst hB; simpa [std, sC, sAr] using hb
  rw [wrap_in (by omega) (by omega)] at h9; omega
 have hW : behL g n q = noneL := beh_miss fun t ht => hlt t (by omega)
 have O1 := SNo
 refine wp_exit (wp_seq (rg hB TA_ok [4] [4] [(0, .r fun _ => .agg [.int .i64 noneL.len, .int .u64 noneL.bits])] hF fun X6 a0 w1 hF => ?_))
 refine wp_ret ((rsi hB TA_ok hF nAt (he := ?_)))
 subst hB
 rw [hW]
 exact zr
def kdF (f : Nat → RowA) (n : Nat) (q : Lab) : Int := ((getF f n q).getD zRA).r.kd
def soundD (f : Nat → RowA) (n : Nat) (g : Nat → Lab) (ng : Nat) (b : Int) (x : RowA) : Bool :=
 (if 0 < x.lab.len then decide (kdF f n (parV x.lab) = 2) else true) &&
 (if x.x.r.kd = 1 then decide ((x.x.r.n : Int) ≤ b) && decide ((covL x.lab (firsts x.x.r.f x.x.r.n)).length = x.x.r.n) && decide (x.x.r.nx = behL g ng x.lab)
  else decide (x.x.r.kd = 2) && decide (x.lab.len < 64) && (getF f n (chV x.lab 0)).isSome && (getF f n (chV x.lab 1)).isSome)
theorem kdF_none {f : Nat → RowA} {n : Nat} {q : Lab} (h : (getF f n q).isSome = false) : kdF f n q = 0 := by
 unfold kdF
 cases hg : getF f n q with
 | none => rfl
 | some x => rw [hg] at h; cases h
theorem sound_s (A : Option Addr) (n c : Nat) (f : Nat → RowA) (hn : n ≤ 100000) (A2 : Option Addr) (n2 c2 : Nat) (g : Nat → Lab) (hn2 : n2 ≤ 100000) (x : RowA) (hx : x.x.r.n ≤ 1000000) (hb0 : U64 x.lab.bits) (hki : ∀ t, t < x.x.r.n → U64 (x.x.r.f t).key) (b : Int) : Spec Tryz.prog 32 [rowsV A n c f, labsV A2 n2 c2 g, .agg (rowC x), .int .i64 b] (fun _ => .bool (.v (soundD f n g n2 b x))) := by
 intro m w hm hargs
 have hmx : maxLen = 9223372036854775807 := rfl
 obtain ⟨W, hWt⟩ := eqv (soundD f n g n2 b x)
 rw [← hWt]
 have SP := rpar_s x.lab hb0
 obtain ⟨up, hup⟩ := eqv (parV x.lab)
 obtain ⟨pe, hpe⟩ := eqv (parE x.lab)
 rw [← hup, ← hpe] at SP
 have SU := rat4_s A n c f hn up
 obtain ⟨eu, heu⟩ := eqv ((getF f n up).getD zRA)
 obtain ⟨iu, hiu⟩ := eqv ((getF f n up).isSome)
 rw [← heu, ← hiu] at SU
 have SC := rcov4_s x.x.A x.x.r.n x.x.c x.x.r.f hx x.lab hb0 hki
 obtain ⟨CV, hCV⟩ := eqv (covL x.lab (firsts x.x.r.f x.x.r.n))
 rw [← hCV] at SC
 obtain ⟨cf, hcf⟩ := eqv (itF CV)
 obtain ⟨cn, hcn⟩ := eqv (CV.length)
 rw [← hcf, ← hcn] at SC
 have SB := beh_s A2 n2 c2 g hn2 x.lab
 obtain ⟨bq, hbq⟩ := eqv (behL g n2 x.lab)
 rw [← hbq] at SB
 have SZ := rchild_s x.lab hb0 0 (.inl rfl)
 have SO := rchild_s x.lab hb0 1 (.inr rfl)
 obtain ⟨cz, hcz⟩ := eqv (chV x.lab 0)
 obtain ⟨co, hco⟩ := eqv (chV x.lab 1)
 obtain ⟨ez, hez⟩ := eqv (chE x.lab 0)
 obtain ⟨eo, heo⟩ := eqv (chE x.lab 1)
 rw [← hcz, ← hez] at SZ
 rw [← hco, ← heo] at SO
 have SAz := rat4_s A n c f hn cz
 obtain ⟨rz, hrz⟩ := eqv ((getF f n cz).getD zRA)
 obtain ⟨jz, hjz⟩ := eqv ((getF f n cz).isSome)
 rw [← hrz, ← hjz] at SAz
 have SAo := rat4_s A n c f hn co
 obtain ⟨ro, hro⟩ := eqv ((getF f n co).getD zRA)
 obtain ⟨jo, hjo⟩ := eqv ((getF f n co).isSome)
 rw [← hro, ← hjo] at SAo
 have hWs : W = ((if 0 < x.lab.len then decide (eu.r.kd = 2) else true) && (if x.x.r.kd = 1 then decide ((x.x.r.n : Int) ≤ b) && decide (cn = x.x.r.n) && decide (x.x.r.nx = bq) else decide (x.x.r.kd = 2) && decide (x.lab.len < 64) && jz && jo)) := by rw [hWt]; unfold soundD kdF; rw [← hup, ← heu, ← hCV, ← hcn, ← hbq, ← hcz, ← hco, ← hjz, ← hjo]
 have hu0 : iu = false → eu.r.kd = 0 := fun h => by have := kdF_none (f := f) (n := n) (q := up) (by rw [← hiu]; exact h); unfold kdF at this; rw [← heu] at this; exact this
 simp only [labAV, rowI] at SP SU SC SB SZ SO SAz SAo hargs ⊢
 refine en 116 hm hargs Tryz.func32 fun B hB a0 hF => ?_
 refine wp_seq (rg hB TA_ok [0, 1, 3, 6] [6] [] hF fun X0 a0 w1 hF => ?_)
 refine wp_seq (wp_seq (rg hB TA_ok [24, 0, 1, 3, 6] [6] [] hF fun X1 a0 w1 hF => ?_))
 refine cut_one (ι := Unit) (S0 := [(24, _)]) (M0 := []) (G0 := []) (fun u => []) (fun u => []) (fun u => []) (fun u => (if 0 < x.lab.len then decide (eu.r.kd = 2) else true) = true) hF ?_ ?_
 ·apply test_ok hF rfl <;> intro hb hF
  ·have hl0 : 0 < x.lab.len := by subst hB; simpa [std, sC] using hb
   refine wp_seq (rg hB TA_ok [0, 1, 3, 6, 9] [6, 9] [(2, .r fun _ => .tup [.agg [.int .i64 up.len, .int .u64 up.bits], .int .i64 pe])] hF (hob := ?hob) fun X2 a0 w1 hF => ?_)
   case hob =>
    intro X
    subst hB
    repeat (first | exact trivial | refine ⟨rfl, ?_⟩ | refine ⟨fun _ => rfl, ?_⟩ | refine ⟨⟨fun _ _ => by kernel_rfl, SP⟩, ?_⟩ | refine ⟨fun _ => ⟨fun _ _ => by kernel_rfl, SP⟩, ?_⟩ | refine ⟨fun _ => ob_lab (Kk := noK) _ _ _ _, ?_⟩)
   refine wp_seq (rg hB TA_ok [12, 0, 1, 3, 6, 11] [6, 11] [(2, .r fun _ => .tup [recV eu, .bool (.v iu)])] hF (hob := ?hob) fun X3 a0 w1 hF => ?_)
   case hob =>
    intro X
    subst hB
    repeat (first | exact trivial | refine ⟨rfl, ?_⟩ | refine ⟨fun _ => rfl, ?_⟩ | refine ⟨⟨fun _ _ => by kernel_rfl, SU⟩, ?_⟩ | refine ⟨fun _ => ⟨fun _ _ => by kernel_rfl, SU⟩, ?_⟩ | refine ⟨fun _ => ob_lab (Kk := noK) _ _ _ _, ?_⟩)
   refine wp_seq (rg hB TA_ok [43, 0, 1, 3, 6] [6] [] hF fun X4 a0 w1 hF => ?_)
   apply test_ok hF rfl <;> intro hb hF
   ·have h9 : iu = false ∨ ¬ eu.r.kd = 2 := by subst hB; revert hb; cases iu <;> simp [std, sC]
    have hW : W = false := by rw [hWs, if_pos hl0, decide_eq_false (by rcases h9 with h | h; rw [hu0 h]; decide; exact h)]; rfl
    refine wp_seq (rg hB TA_ok [8] [] [] hF fun X5 a0 w1 hF => ?_)
    refine wp_ret ((rsi hB TA_ok hF nAt (he := ?_)))
    subst hB
    rw [hW]
    exact zr
   have h9 : iu = true ∧ eu.r.kd = 2 := by subst hB; revert hb; cases iu <;> simp [std, sC]
   have hfst : (if 0 < x.lab.len then decide (eu.r.kd = 2) else true) = true := by rw [if_pos hl0, decide_eq_true h9.2]
   exact wp_skip (⟨(), hfst, hF⟩)
  have hl0 : ¬ 0 < x.lab.len := by subst hB; simpa [std, sC] using hb
  have hfst : (if 0 < x.lab.len then decide (eu.r.kd = 2) else true) = true := if_neg hl0
  exact wp_skip (⟨(), hfst, hF⟩)
 rintro u hfst a0 w1 hF
 try dsimp only at hfst
 refine wp_seq (wp_seq (rg hB TA_ok [47, 0, 1, 3, 6] [6] [] hF fun X6 a0 w1 hF => ?_))
 apply test_ok hF rfl <;> intro hb hF
 ·have hk : x.x.r.kd = 1 := by subst hB; simpa [std, sC] using hb
  refine wp_seq (drg hB TA_ok [8] [] [(12, .r fun y => .sl none (y.A 0) cn (y.c 0) 2 (fun i => itC (cf i))), (27, .r fun _ => .agg [.int .i64 bq.len, .int .u64 bq.bits])] hF (hob := ?hob) fun X7 a0 w1 hF => ?_)
  case hob =>
   intro X
   subst hB
   repeat (first | exact trivial | refine ⟨rfl, ?_⟩ | refine ⟨fun _ => rfl, ?_⟩ | refine ⟨⟨fun _ _ => by kernel_rfl, SC⟩, ?_⟩ | refine ⟨fun _ => ⟨fun _ _ => by kernel_rfl, SC⟩, ?_⟩ | refine ⟨⟨fun _ _ => by kernel_rfl, SB⟩, ?_⟩ | refine ⟨fun _ => ⟨fun _ _ => by kernel_rfl, SB⟩, ?_⟩ | refine ⟨fun _ => ob_lab (Kk := noK) _ _ _ _, ?_⟩)
  refine wp_ret ((rsi hB TA_ok hF nAt (he := ?_)))
  subst hB
  have hW : W = (if (if decide ((x.x.r.n : Int) ≤ b) = true then decide ((cn : Int) = (x.x.r.n : Int)) else false) = true then eqL [.int .i64 x.x.r.nx.len, .int .u64 x.x.r.nx.bits] [.int .i64 bq.len, .int .u64 bq.bits] else false) := by
   rw [hWs, hfst, if_pos hk, eqL_lab, show decide ((cn : Int) = (x.x.r.n : Int)) = decide (cn = x.x.r.n) from decide_eq_decide.2 (by omega)]
   cases decide ((x.x.r.n : Int) ≤ b) <;> cases decide (cn = x.x.r.n) <;> rfl
  rw [hW]
  exact Sim.bool rfl
 have hk : ¬ x.x.r.kd = 1 := by subst hB; simpa [std, sC] using hb
 refine wp_skip (wp_seq (wp_seq (rg hB TA_ok [87, 0, 1, 3, 6] [6] [] hF fun X8 a0 w1 hF => ?_)))
 apply test_ok hF rfl <;> intro hb hF
 ·have h9 : x.x.r.kd = 2 → 64 ≤ x.lab.len := by subst hB; revert hb; simp only [std, sC]; intro h1 h2; simpa [h2] using h1
  have hW : W = false := by
   rw [hWs, if_neg hk]
   by_cases h2 : x.x.r.kd = 2
   ·rw [decide_eq_false (show ¬ x.lab.len < 64 by have := h9 h2; omega)]; simp
   rw [decide_eq_false h2]; simp
  refine wp_seq (rg hB TA_ok [8] [] [] hF fun X9 a0 w1 hF => ?_)
  refine wp_ret ((rsi hB TA_ok hF nAt (he := ?_)))
  subst hB
  rw [hW]
  exact zr
 have h9 : x.x.r.kd = 2 ∧ x.lab.len < 64 := by subst hB; revert hb; simp [std, sC]
 have hW : W = (jz && jo) := by rw [hWs, hfst, if_neg hk, decide_eq_true h9.1, decide_eq_true h9.2]; rfl
 refine wp_skip (wp_seq (rg hB TA_ok [0, 6, 13] [6, 13] [(2, .r fun _ => .tup [.agg [.int .i64 cz.len, .int .u64 cz.bits], .int .i64 ez])] hF (hob := ?hob) fun X10 a0 w1 hF => ?_))
 case hob =>
  intro X
  subst hB
  repeat (first | exact trivial | refine ⟨rfl, ?_⟩ | refine ⟨fun _ => rfl, ?_⟩ | refine ⟨⟨fun _ _ => by kernel_rfl, SZ⟩, ?_⟩ | refine ⟨fun _ => ⟨fun _ _ => by kernel_rfl, SZ⟩, ?_⟩ | refine ⟨fun _ => ob_lab (Kk := noK) _ _ _ _, ?_⟩)
 refine wp_seq (rg hB TA_ok [0, 13, 15] [13, 15] [(2, .r fun _ => .tup [.agg [.int .i64 co.len, .int .u64 co.bits], .int .i64 eo])] hF (hob := ?hob) fun X11 a0 w1 hF => ?_)
 case hob =>
  intro X
  subst hB
  repeat (first | exact trivial | refine ⟨rfl, ?_⟩ | refine ⟨fun _ => rfl, ?_⟩ | refine ⟨⟨fun _ _ => by kernel_rfl, SO⟩, ?_⟩ | refine ⟨fun _ => ⟨fun _ _ => by kernel_rfl, SO⟩, ?_⟩ | refine ⟨fun _ => ob_lab (Kk := noK) _ _ _ _, ?_⟩)
 refine wp_seq (rg hB TA_ok [18, 0, 15] [15] [(2, .r fun _ => .tup [recV rz, .bool (.v jz)])] hF (hob := ?hob) fun X12 a0 w1 hF => ?_)
 case hob =>
  intro X
  subst hB
  repeat (first | exact trivial | refine ⟨rfl, ?_⟩ | refine ⟨fun _ => rfl, ?_⟩ | refine ⟨⟨fun _ _ => by kernel_rfl, SAz⟩, ?_⟩ | refine ⟨fun _ => ⟨fun _ _ => by kernel_rfl, SAz⟩, ?_⟩ | refine ⟨fun _ => ob_lab (Kk := noK) _ _ _ _, ?_⟩)
 refine wp_seq (rg hB TA_ok [18, 20] [] [(2, .r fun _ => .tup [recV ro, .bool (.v jo)])] hF (hob := ?hob) fun X13 a0 w1 hF => ?_)
 case hob =>
  intro X
  subst hB
  repeat (first | exact trivial | refine ⟨rfl, ?_⟩ | refine ⟨fun _ => rfl, ?_⟩ | refine ⟨⟨fun _ _ => by kernel_rfl, SAo⟩, ?_⟩ | refine ⟨fun _ => ⟨fun _ _ => by kernel_rfl, SAo⟩, ?_⟩ | refine ⟨fun _ => ob_lab (Kk := noK) _ _ _ _, ?_⟩)
 refine wp_seq (rg hB TA_ok [8] [] [] hF fun X14 a0 w1 hF => ?_)
 refine wp_ret ((rsi hB TA_ok hF nAt (he := ?_)))
 subst hB
 rw [hW]
 exact Sim.bool (by cases jz <;> cases jo <;> rfl)
theorem ris4_s (A : Option Addr) (n c : Nat) (f : Nat → RowA) (hn : n ≤ maxLen) (hN : ∀ i, i < n → (f i).x.r.n ≤ 1000000 ∧ U64 (f i).lab.bits ∧ U64 (f i).x.r.nx.bits) : Spec Tryz.prog 10 [rowsV A n c f] (fun _ => .bool (.v (isRw (rwsA f n)))) := by
 intro m w hm hargs
 have hmx : maxLen = 9223372036854775807 := rfl
 have SN := rnew_x A n c f hn hN
 obtain ⟨ir, hir⟩ := eqv (isRw (rwsA f n))
 rw [← hir]
 refine en 12 hm hargs Tryz.func10 fun B hB a0 hF => ?_
 refine wp_seq (rg hB TA_ok [0] [] [] hF fun X0 a0 w1 hF => ?_)
 unfold isRw at hir
 cases hs : newS (rwsA f n) with
 | none =>
  rw [hs] at SN hir
  have O1 := SN
  refine wp_seq (rg hB TA_ok [4] [] [(1, .x fun y => ⟨.tup [.nilp, .int .i64 1], [], []⟩)] hF fun X1 a0 w1 hF => ?_)
  refine wp_seq (rg hB TA_ok [2] [] [] hF fun X2 a0 w1 hF => ?_)
  exact wp_ret (rsp hB TA_ok hF ⟨0, fun _ => none, fun _ => 0, fun _ => .empty⟩ (he := by subst hB; rw [hir]; rfl)).1
 | some L =>
  rw [hs] at SN hir
  obtain ⟨k, hk⟩ := eqv (L.length)
  obtain ⟨G, hG⟩ : ∃ G : Atom → Nat → SpA, G = fun y => spAt y L := ⟨_, rfl⟩
  have hGG : ∀ y, spAt y L = G y := fun y => by rw [hG]
  simp only [← hk, hGG] at SN
  have O1 := SN
  refine wp_seq (rg hB TA_ok [4] [] [(1, .x fun y => ⟨.tup [.ptr 9 y.b 0, .int .i64 0], [], [(9, ⟨y.b, 90, [spsV (y.A 0) k (y.c 0) (G y), .int .i64 0]⟩)]⟩)] hF fun X1 a0 w1 hF => ?_)
  refine wp_seq (rg hB TA_ok [2] [] [] hF fun X2 a0 w1 hF => ?_)
  exact wp_ret (rsp hB TA_ok hF ⟨0, fun _ => none, fun _ => 0, fun _ => .empty⟩ (he := by subst hB; rw [hir]; rfl)).1
def catI (g : Nat → Itm) (k : Nat) (f : Nat → Itm) : Nat → Itm := fun t => if t < k then g t else f (t - k)
theorem firsts_cat (g : Nat → Itm) (k : Nat) (KL : List Itm) : firsts (catI g k (itF KL)) (k + KL.length) = firsts g k ++ KL := by
 apply List.ext_getElem?
 intro t
 unfold firsts
 by_cases h : t < k
 ·rw [List.getElem?_append_left (by simpa using h)]
  simp [h, catI, show t < k + KL.length by omega]
 rw [List.getElem?_append_right (by simp; omega)]
 simp only [List.length_map, List.length_range]
 by_cases h2 : t < k + KL.length
 ·rw [List.getElem?_map, List.getElem?_range h2, List.getElem?_eq_getElem (by omega)]
  simp [catI, h, itF, List.getD_eq_getElem?_getD, List.getElem?_eq_getElem (show t - k < KL.length by omega)]
 rw [List.getElem?_eq_none (by simp; omega), List.getElem?_eq_none (by omega)]
def mU (T : Tre) (F : Lab → List Itm) (r : Rec) (q : Lab) : Nat → List Itm
 | 0 => []
 | i + 1 => mU T F r q i ++ (if chE q 0 = 0 then kidP T F r (chV q (i : Nat)) else [])
theorem mU_fin (T : Tre) (fu : Nat) (q : Lab) (r : Rec) (h : T q = some r) (hk : ¬ (r.kind = 1 ∨ r.kind = 5)) : meansP T (fu + 1) q = mU T (meansP T fu) r q 2 := by
 unfold meansP
 rw [h]
 simp only [if_neg hk]
 by_cases hc : chE q 0 = 0
 ·simp [mU, hc]
 simp [mU, hc]
theorem mU_len {T : Tre} {ks : List Lab} (h : TreOk T ks) {fu : Nat} {q : Lab} {r : Rec} (hb : U64 q.bits) (hr : T q = some r) (hks : ks.length ≤ 2000) (i : Nat) (hi : i ≤ 2) : (mU T (meansP T fu) r q i).length ≤ i * 64100 := by
 induction i with
 | zero => simp [mU]
 | succ i ih =>
  have ih := ih (by omega)
  unfold mU
  rw [List.length_append]
  by_cases hc : chE q 0 = 0
  ·rw [if_pos hc]
   obtain ⟨h1, h2, _⟩ := ch_is hb hc (i : Nat)
   have h3 := kid_len h hr (means_len h fu (chV q (i : Nat)) h1 h2)
   have h4 := cnt_le ks (chV q (i : Nat))
   omega
  rw [if_neg hc, List.length_nil, Nat.add_zero]; exact Nat.le_trans ih (Nat.mul_le_mul_right _ (Nat.le_succ i))
def tF (f : Nat → RowA) (n : Nat) : Tre := fun q => (getF f n q).map fun x => x.r.abs
theorem rmeans_step (A : Option Addr) (n c : Nat) (f : Nat → RowA) (hn : n ≤ 100000) {ks : List Lab} (hT : TreOk (tF f n) ks) (hks : ks.length ≤ 2000) (hRK : ∀ q x, getF f n q = some x → x.r.n ≤ 16 ∧ ∀ t, t < x.r.n → U64 (x.r.f t).key) (fu : Nat) (IH : ∀ q : Lab, U64 q.bits → isL q = true → 65 ≤ fu + q.len → Spec Tryz.prog 26 [rowsV A n c f, labAV q] (fun y => rowI (y.A 0) (meansP (tF f n) fu q).length (y.c 0) (itF (meansP (tF f n) fu q)))) (q : Lab) (hb0 : U64 q.bits) (hl : isL q = true) (h65 : 65 ≤ fu + 1 + q.len) : Spec Tryz.prog 26 [rowsV A n c f, labAV q] (fun y => rowI (y.A 0) (meansP (tF f n) (fu + 1) q).length (y.c 0) (itF (meansP (tF f n) (fu + 1) q))) := by
 intro m w hm hargs
 have hmx : maxLen = 9223372036854775807 := rfl
 obtain ⟨TF, hTF⟩ := eqv (tF f n)
 rw [← hTF]
 rw [← hTF] at hT
 simp only [← hTF] at IH
 obtain ⟨MM, hMM⟩ := eqv (meansP TF (fu + 1) q)
 rw [← hMM]
 have SQ := rat4_s A n c f hn q
 obtain ⟨el, hel⟩ := eqv ((getF f n q).getD zRA)
 obtain ⟨iq, hiq⟩ := eqv ((getF f n q).isSome)
 rw [← hel, ← hiq] at SQ
 have hTq : TF q = if iq = true then some el.r.abs else none := by
  rw [hTF, hel, hiq]; unfold tF
  cases getF f n q <;> rfl
 have hel16 : el.r.n ≤ 16 ∧ ∀ t, t < el.r.n → U64 (el.r.f t).key := by
  cases hg : getF f n q with
  | none => rw [hg] at hel; rw [hel]; exact ⟨Nat.zero_le _, fun t ht => absurd ht (Nat.not_lt_zero _)⟩
  | some x => rw [hg] at hel; rw [hel]; exact hRK q x hg
 simp only [labAV, rowI] at SQ hargs ⊢
 refine en 73 hm hargs Tryz.func26 fun B hB a0 hF => ?_
 refine wp_seq (rg hB TA_ok [3, 0] [3] [] hF fun X0 a0 w1 hF => ?_)
 refine wp_seq (rg hB TA_ok [6, 0, 3, 5] [3, 5] [(2, .r fun _ => .tup [recV el, .bool (.v iq)])] hF (hob := ?hob) fun X1 a0 w1 hF => ?_)
 case hob =>
  intro X
  subst hB
  repeat (first | exact trivial | refine ⟨rfl, ?_⟩ | refine ⟨fun _ => rfl, ?_⟩ | refine ⟨⟨fun _ _ => by kernel_rfl, SQ⟩, ?_⟩ | refine ⟨fun _ => ⟨fun _ _ => by kernel_rfl, SQ⟩, ?_⟩ | refine ⟨fun _ => ob_lab (Kk := noK) _ _ _ _, ?_⟩)
 refine wp_seq (wp_seq (rg hB TA_ok [20, 0, 3, 5] [3, 5] [] hF fun X2 a0 w1 hF => ?_))
 apply test_ok hF rfl <;> intro hb hF
 ·have hq : iq = false := by subst hB; cases iq <;> first | rfl | cases hb
  have hW : MM = [] := by rw [hMM]; unfold meansP; rw [hTq, hq]; rfl
  refine wp_seq (rg hB TA_ok [4] [4, 7, 66, 71] [] hF fun X3 a0 w1 hF => ?_)
  refine wp_ret ((rsi hB TA_ok hF nAt (he := ?_)))
  subst hB
  rw [hW]
  exact sim_nils
 have hq : iq = true := by subst hB; cases iq <;> first | rfl | cases hb
 rw [if_pos hq] at hTq
 refine wp_skip (wp_seq (wp_seq (rg hB TA_ok [28, 0, 3, 5] [3, 5] [] hF fun X4 a0 w1 hF => ?_)))
 apply test_ok hF rfl <;> intro hb hF
 ·have hk : el.r.kd = 1 ∨ el.r.kd = 5 := by subst hB; revert hb; simp [std, sC]
  have hW : MM = firsts el.r.f el.r.n := by rw [hMM]; unfold meansP; rw [hTq]; exact if_pos hk
  refine wp_seq (rg hB TA_ok [4] [4, 7, 66, 71] [] hF fun X5 a0 w1 hF => ?_)
  refine wp_ret ((rsi hB TA_ok hF (⟨0, fun _ => el.A, fun _ => el.c, fun _ => ⟨#[]⟩⟩) (he := ?_)))
  subst hB
  rw [hW, firsts_len]
  exact Sim.resl rfl (fun t ht => by rw [firsts_get _ _ t ht])
 have hk : ¬ (el.r.kd = 1 ∨ el.r.kd = 5) := by subst hB; revert hb; simp [std, sC]
 have hW : MM = mU TF (meansP TF fu) el.r.abs q 2 := by rw [hMM]; exact mU_fin TF fu q el.r.abs hTq hk
 refine wp_skip (wp_seq (rg hB TA_ok [7, 0, 3, 5] [7, 3, 5] [] hF fun X6 a0 w1 hF => ?_))
 refine wp_seq (wp_seq (rg hB TA_ok [7, 8, 0, 3, 5] [7, 3, 5] [] hF fun X7 a0 w1 hF => ?_))
 replace hF := hF.headS (v' := .sl (some 7) none 0 0 2 (fun t => itC zeroItm)) (zq0) rfl
 refine wp_block (loop_pre (ι := Nat × Nat × (Nat → Itm) × Option Addr × Nat) (fun p => [(7, .sl (some 7) p.2.2.2.1 p.2.1 p.2.2.2.2 2 (fun t => itC (p.2.2.1 t))), (8, .int .i64 (p.1 : Int))]) (fun p => []) (fun p => [(7, ⟨p.2.2.2.1, p.2.1, p.2.2.2.2, 2, 58⟩)]) (fun p => p.1 ≤ 2 ∧ firsts p.2.2.1 p.2.1 = mU TF (meansP TF fu) el.r.abs q p.1) (fun p => 2 - p.1) (0, 0, fun _ => zeroItm, none, 0) ⟨Nat.zero_le _, rfl⟩ hF ?_)
 rintro ⟨i, k, g, A1, c1⟩ ⟨hi, hg⟩ a0 w1 hF
 try dsimp only at hi
 try dsimp only at hg
 have hkl : k ≤ i * 64100 := by have := mU_len (fu := fu) hT hb0 hTq hks i hi; rw [← hg, firsts_len] at this; exact this
 refine wp_seq (wp_seq (rg hB TA_ok [32, 7, 8, 0, 3, 5] [7, 3, 5] [] hF fun X8 a0 w1 hF => ?_))
 apply test_ok hF rfl <;> intro hb hF
 ·have hin : i < 2 := by
   have : (i : Int) < 2 := by subst hB; simpa [std, sC] using hb
   omega
  have SC := rchild_s q hb0 (i : Nat) (by omega)
  obtain ⟨cl, hcl⟩ := eqv (chV q (i : Nat))
  obtain ⟨ec, hec⟩ := eqv (chE q (i : Nat))
  rw [← hcl, ← hec] at SC
  simp only [labAV] at SC
  have SA := rat4_s A n c f hn cl
  obtain ⟨ec2, hec2⟩ := eqv ((getF f n cl).getD zRA)
  obtain ⟨ic, hic⟩ := eqv ((getF f n cl).isSome)
  rw [← hec2, ← hic] at SA
  simp only [labAV] at SA
  refine wp_skip (wp_seq (wp_block (wp_seq (rg hB TA_ok [10, 7, 8, 0, 3, 5, 9] [7, 3, 5, 9] [(2, .r fun _ => .tup [.agg [.int .i64 cl.len, .int .u64 cl.bits], .int .i64 ec])] hF (hob := ?hob) fun X10 a0 w1 hF => ?_))))
  case hob =>
   intro X
   subst hB
   repeat (first | exact trivial | refine ⟨rfl, ?_⟩ | refine ⟨fun _ => rfl, ?_⟩ | refine ⟨⟨fun _ _ => by kernel_rfl, SC⟩, ?_⟩ | refine ⟨fun _ => ⟨fun _ _ => by kernel_rfl, SC⟩, ?_⟩ | refine ⟨fun _ => ob_lab (Kk := noK) _ _ _ _, ?_⟩)
  refine wp_seq (wp_seq (rg hB TA_ok [42, 7, 8, 0, 3, 5, 9] [7, 3, 5, 9] [] hF fun X11 a0 w1 hF => ?_))
  apply test_ok hF rfl <;> intro hb hF
  ·have hce : ¬ chE q 0 = 0 := by
    have : ¬ ec = 0 := by subst hB; simpa [std, sC] using hb
    rw [hec] at this; exact this
   refine wp_exit (rg hB TA_ok [7, 8, 0, 3, 5] [7, 3, 5] [] hF fun X9 a0 w1 hF => ?_)
   have e : B.arith .add .i64 (i : Int) 1 = ((i + 1 : Nat) : Int) := by subst hB; exact wrap_succ (n := 2) hin (by omega)
   refine ⟨(i + 1, k, g, _, _), ⟨by simp only; omega, ?_⟩, by simp only; omega, by rw [← e]; exact hF⟩
   simp only
   unfold mU
   rw [if_neg hce, List.append_nil, hg]
  have hce : chE q 0 = 0 := by
   have : ec = 0 := by subst hB; simpa [std, sC] using hb
   rw [hec] at this; exact this
  obtain ⟨hc1, hc2, hc3⟩ := ch_is hb0 hce (i : Nat)
  rw [← hcl] at hc1 hc2 hc3
  refine wp_skip (wp_seq (rg hB TA_ok [12, 7, 8, 0, 3, 5, 9, 11] [7, 3, 5, 9, 11] [(2, .r fun _ => .tup [recV ec2, .bool (.v ic)])] hF (hob := ?hob) fun X12 a0 w1 hF => ?_))
  case hob =>
   intro X
   subst hB
   repeat (first | exact trivial | refine ⟨rfl, ?_⟩ | refine ⟨fun _ => rfl, ?_⟩ | refine ⟨⟨fun _ _ => by kernel_rfl, SA⟩, ?_⟩ | refine ⟨fun _ => ⟨fun _ _ => by kernel_rfl, SA⟩, ?_⟩ | refine ⟨fun _ => ob_lab (Kk := noK) _ _ _ _, ?_⟩)
  refine wp_seq (rg hB TA_ok [60, 7, 8, 0, 3, 5, 9] [7, 3, 5, 9] [] hF fun X13 a0 w1 hF => ?_)
  apply test_ok hF rfl <;> intro hb hF
  ·have h9 : el.r.kd = 3 ∧ (ic = false ∨ ec2.r.kd = 5) := by subst hB; revert hb; cases ic <;> simp [std, sC]
   have hkid : kidP TF (meansP TF fu) el.r.abs cl = covL cl (firsts el.r.f el.r.n) := by
    unfold kidP
    refine if_pos ⟨h9.1, ?_⟩
    unfold frozP
    rw [hTF]
    show (match Option.map (fun x : RA => x.r.abs) (getF f n cl) with | none => true | some x => decide (x.kind = 5)) = true
    have h8 := h9.2
    rw [hic, hec2] at h8
    cases hgc : getF f n cl with
    | none => rfl
    | some x => rw [hgc] at h8; rcases h8 with h | h; cases h; exact decide_eq_true h
   have SK := rcov4_s el.A el.r.n el.c el.r.f (by omega) cl hc2 hel16.2
   rw [← hkid] at SK
   obtain ⟨KL, hKL⟩ := eqv (kidP TF (meansP TF fu) el.r.abs cl)
   rw [← hKL] at SK
   obtain ⟨kf, hkf⟩ := eqv (itF KL)
   obtain ⟨kn, hkn⟩ := eqv (KL.length)
   rw [← hkf, ← hkn] at SK
   simp only [labAV, rowI] at SK
   have hknl : kn ≤ 64100 := by
    have h3 := kid_len hT hTq (means_len hT fu cl hc1 hc2)
    have h4 := cnt_le ks cl
    rw [← hKL, ← hkn] at h3; omega
   refine rg hB TA_ok [7, 8, 0, 3, 5] [7, 3, 5] [(4, .r fun y => .sl none (y.A 0) kn (y.c 0) 2 (fun t => itC (kf t)))] hF (hob := ?hob) fun X14 a0 w1 hF => ?_
   case hob =>
    intro X
    subst hB
    repeat (first | exact trivial | refine ⟨rfl, ?_⟩ | refine ⟨⟨fun _ _ => by kernel_rfl, SK⟩, ?_⟩ | refine ⟨⟨rfl, rfl, rfl⟩, ?_⟩ | refine ⟨⟨show k + kn ≤ maxLen by omega, show (k + kn) * _ ≤ _ by omega⟩, ?_⟩)
   replace hF := hF.headS (v' := .sl (some 7) ((X14 5).A 0) (B.nadd k kn) ((X14 5).c 0) 2 (fun t => itC (catI g k kf t))) (Sim.resl (by subst hB; rfl) (fun t ht => by
    subst hB
    show appC k (fun t => itC (g t)) (fun t => itC (kf t)) t = _
    unfold appC catI
    split <;> rfl)) rfl
   refine rg hB TA_ok [7, 8, 0, 3, 5] [7, 3, 5] [] hF fun X9 a0 w1 hF => ?_
   have e : B.arith .add .i64 (i : Int) 1 = ((i + 1 : Nat) : Int) := by subst hB; exact wrap_succ (n := 2) hin (by omega)
   refine ⟨(i + 1, k + kn, catI g k kf, _, _), ⟨by simp only; omega, ?_⟩, by simp only; omega, by rw [← e, show k + kn = B.nadd k kn by subst hB; rfl]; exact hF⟩
   simp only
   unfold mU
   rw [if_pos hce, ← hcl, ← hKL, ← hg, hkf, hkn, firsts_cat]
  have h9 : ¬ (el.r.kd = 3 ∧ (ic = false ∨ ec2.r.kd = 5)) := by subst hB; revert hb; cases ic <;> simp [std, sC]
  have hkid : kidP TF (meansP TF fu) el.r.abs cl = meansP TF fu cl := by
   unfold kidP
   refine if_neg fun h => h9 ⟨h.1, ?_⟩
   have h2 := h.2
   unfold frozP at h2
   rw [hTF] at h2
   have h2 : (match Option.map (fun x : RA => x.r.abs) (getF f n cl) with | none => true | some x => decide (x.kind = 5)) = true := h2
   rw [hic, hec2]
   cases hgc : getF f n cl with
   | none => exact .inl rfl
   | some x => rw [hgc] at h2; exact .inr (of_decide_eq_true h2)
  have SK := IH cl hc2 hc1 (by omega)
  rw [← hkid] at SK
  obtain ⟨KL, hKL⟩ := eqv (kidP TF (meansP TF fu) el.r.abs cl)
  rw [← hKL] at SK
  obtain ⟨kf, hkf⟩ := eqv (itF KL)
  obtain ⟨kn, hkn⟩ := eqv (KL.length)
  rw [← hkf, ← hkn] at SK
  simp only [labAV, rowI] at SK
  have hknl : kn ≤ 64100 := by
   have h3 := kid_len hT hTq (means_len hT fu cl hc1 hc2)
   have h4 := cnt_le ks cl
   rw [← hKL, ← hkn] at h3; omega
  refine rg hB TA_ok [7, 8, 0, 3, 5] [7, 3, 5] [(3, .r fun y => .sl none (y.A 0) kn (y.c 0) 2 (fun t => itC (kf t)))] hF (hob := ?hob) fun X15 a0 w1 hF => ?_
  case hob =>
   intro X
   subst hB
   repeat (first | exact trivial | refine ⟨rfl, ?_⟩ | refine ⟨⟨fun _ _ => by kernel_rfl, SK⟩, ?_⟩ | refine ⟨⟨rfl, rfl, rfl⟩, ?_⟩ | refine ⟨⟨show k + kn ≤ maxLen by omega, show (k + kn) * _ ≤ _ by omega⟩, ?_⟩)
  replace hF := hF.headS (v' := .sl (some 7) ((X15 4).A 0) (B.nadd k kn) ((X15 4).c 0) 2 (fun t => itC (catI g k kf t))) (Sim.resl (by subst hB; rfl) (fun t ht => by
   subst hB
   show appC k (fun t => itC (g t)) (fun t => itC (kf t)) t = _
   unfold appC catI
   split <;> rfl)) rfl
  refine rg hB TA_ok [7, 8, 0, 3, 5] [7, 3, 5] [] hF fun X9 a0 w1 hF => ?_
  have e : B.arith .add .i64 (i : Int) 1 = ((i + 1 : Nat) : Int) := by subst hB; exact wrap_succ (n := 2) hin (by omega)
  refine ⟨(i + 1, k + kn, catI g k kf, _, _), ⟨by simp only; omega, ?_⟩, by simp only; omega, by rw [← e, show k + kn = B.nadd k kn by subst hB; rfl]; exact hF⟩
  simp only
  unfold mU
  rw [if_pos hce, ← hcl, ← hKL, ← hg, hkf, hkn, firsts_cat]
 have hout : i = 2 := by
  have : ¬ (i : Int) < 2 := by subst hB; simpa [std, sC] using hb
  omega
 subst hout
 refine wp_exit (wp_seq (rg hB TA_ok [4] [7] [] hF fun X16 a0 w1 hF => ?_))
 refine wp_ret ((rsi hB TA_ok hF (⟨0, fun _ => A1, fun _ => c1, fun _ => ⟨#[]⟩⟩) (he := ?_)))
 subst hB
 rw [hW, ← hg, firsts_len]
 exact Sim.resl rfl (fun t ht => by rw [firsts_get _ _ t ht])
theorem rmeans_s (A : Option Addr) (n c : Nat) (f : Nat → RowA) (hn : n ≤ 100000) {ks : List Lab} (hT : TreOk (tF f n) ks) (hks : ks.length ≤ 2000) (hRK : ∀ q x, getF f n q = some x → x.r.n ≤ 16 ∧ ∀ t, t < x.r.n → U64 (x.r.f t).key) : ∀ (fu : Nat) (q : Lab), U64 q.bits → isL q = true → 65 ≤ fu + q.len → Spec Tryz.prog 26 [rowsV A n c f, labAV q] (fun y => rowI (y.A 0) (meansP (tF f n) fu q).length (y.c 0) (itF (meansP (tF f n) fu q)))
 | 0, q, _, hl, h => by have := (lab_parts hl).2.1; omega
 | fu + 1, q, hb, hl, h => rmeans_step A n c f hn hT hks hRK fu (rmeans_s A n c f hn hT hks hRK fu) q hb hl (by omega)
theorem newL_dist : ∀ {l : List Rw} {L L' : Shf}, newL l L = some L' → (l.map (·.lab)).Nodup ∧ ∀ w ∈ l, findL w.lab L = none
 | [], _, _, _ => ⟨.nil, fun w hw => by cases hw⟩
 | v :: l, L, L', h => by
  unfold newL at h
  split at h
  ·cases h
  rename_i hn
  simp only [Bool.or_eq_true, Bool.not_eq_true', not_or, Bool.not_eq_false, Bool.not_eq_true] at hn
  obtain ⟨h1, h2⟩ := newL_dist h
  have h3 : findL v.lab L = none := by
   cases hf : findL v.lab L with
   | none => rfl
   | some x => have := hn.1.1; rw [hf] at this; cases this
  refine ⟨?_, fun w hw => ?_⟩
  ·rw [List.map_cons, List.nodup_cons]
   refine ⟨fun hm => ?_, h1⟩
   obtain ⟨w, hw, he⟩ := List.mem_map.1 hm
   have := h2 w hw
   rw [find_put, if_pos he.symm] at this
   cases this
  rcases List.mem_cons.1 hw with rfl | hw
  ·exact h3
  have := h2 w hw
  rw [find_put] at this
  split at this
  ·cases this
  exact this
theorem isRw_dist {l : List Rw} (h : isRw l = true) : (l.map (·.lab)).Nodup := by
 unfold isRw newS at h
 split at h
 ·cases h
 obtain ⟨L, hL⟩ := Option.isSome_iff_exists.1 h
 exact (newL_dist hL).1
theorem find_rev {l : List Rw} (h : (l.map (·.lab)).Nodup) (q : Lab) : l.reverse.find? (fun w => decide (w.lab = q)) = l.find? fun w => decide (w.lab = q) := by
 induction l with
 | nil => rfl
 | cons v l ih =>
  rw [List.map_cons, List.nodup_cons] at h
  rw [List.reverse_cons, List.find?_append, ih h.2, List.find?_cons]
  by_cases hv : v.lab = q
  ·subst hv
   rw [show l.find? (fun w => decide (w.lab = v.lab)) = none from by
    rw [List.find?_eq_none]
    intro w hw he
    exact h.1 (List.mem_map.2 ⟨w, hw, of_decide_eq_true he⟩)]
   simp
  simp [hv]
theorem getF_find (f : Nat → RowA) (n : Nat) (q : Lab) : (getF f n q).map (fun x => x.r.abs) = ((rwsA f n).find? fun w => decide (w.lab = q)).map (·.r) := by
 unfold getF firA rwsA listA
 rw [List.find?_map]
 cases h : (List.range n).find? fun i => decide ((f i).lab = q) with
 | none =>
  rw [show (List.range n).find? ((fun w : Rw => decide (w.lab = q)) ∘ fun i => (f i).abs) = none from h]
  rfl
 | some i =>
  rw [show (List.range n).find? ((fun w : Rw => decide (w.lab = q)) ∘ fun i => (f i).abs) = some i from h]
  rfl
theorem tF_eq {f : Nat → RowA} {n : Nat} (h : isRw (rwsA f n) = true) : tF f n = treP (rwsA f n) := by
 funext q
 unfold tF treP
 rw [getF_find, find_rev (isRw_dist h)]
theorem ents_dist {l : List Rw} (h : (l.map (·.lab)).Nodup) : entsP l = l.map fun w => (w.lab, w.r) := by
 have key : ∀ (l : List Rw) (L : List (Lab × Rec)), (l.map (·.lab)).Nodup → (∀ w ∈ l, w.lab ∉ L.map (·.1)) → l.foldl (fun T w => setA w.lab w.r T) L = L ++ l.map fun w => (w.lab, w.r) := by
  intro l
  induction l with
  | nil => intro L _ _; simp
  | cons v l ih =>
   intro L hd hn
   rw [List.map_cons, List.nodup_cons] at hd
   have hs : setA v.lab v.r L = L ++ [(v.lab, v.r)] := by
    have := hn v (by simp)
    clear ih hn hd
    induction L with
    | nil => rfl
    | cons p L ih2 =>
     rw [List.map_cons, List.mem_cons, not_or] at this
     unfold setA
     rw [if_neg (fun e => this.1 e.symm), ih2 this.2]
     rfl
   rw [List.foldl_cons, hs, ih _ hd.2]
   ·simp
   intro w hw hm
   rw [List.map_append, List.mem_append] at hm
   rcases hm with hm | hm
   ·exact hn w (by simp [hw]) hm
   simp at hm
   exact hd.1 (List.mem_map.2 ⟨w, hw, hm⟩)
 have := key l [] h (by simp)
 unfold entsP
 rw [this]; rfl
theorem nexA_get (g : Nat → Lab) (n : Nat) (hd : ∀ i j, i < n → j < n → g i = g j → i = j) : ∀ k, k ≤ n → ∀ i, i < k → getA (g i) (nexA g n k) = some (if i + 1 < n then g (i + 1) else noneL)
 | 0, _, i, hi => absurd hi (Nat.not_lt_zero _)
 | k + 1, hk, i, hi => by
  unfold nexA
  rw [getA_set]
  by_cases h : i = k
  ·subst h; rw [if_pos rfl]
  rw [if_neg (fun e => h (hd k i (by omega) (by omega) e).symm)]
  exact nexA_get g n hd k (by omega) i (by omega)
theorem labF_mem {l : List Lab} {q : Lab} (h : q ∈ l) : ∃ i, i < l.length ∧ labF l i = q := by
 obtain ⟨i, hi, he⟩ := List.mem_iff_getElem.1 h
 exact ⟨i, hi, by unfold labF; rw [List.getD_eq_getElem?_getD, List.getElem?_eq_getElem hi]; exact he⟩
theorem labF_inj {l : List Lab} (h : l.Nodup) : ∀ i j, i < l.length → j < l.length → labF l i = labF l j → i = j := by
 intro i j hi hj he
 unfold labF at he
 rw [List.getD_eq_getElem?_getD, List.getD_eq_getElem?_getD, List.getElem?_eq_getElem hi, List.getElem?_eq_getElem hj] at he
 have hp := List.pairwise_iff_getElem.1 h
 rcases Nat.lt_trichotomy i j with hij | hij | hij
 ·exact absurd he (hp i j hi hj hij)
 ·exact hij
 exact absurd he.symm (hp j i hj hi hij)
theorem nx_beh {l : List Lab} (h : l.Nodup) {q : Lab} (hq : q ∈ l) : nxP l q = behL (labF l) l.length q := by
 obtain ⟨i, hi, rfl⟩ := labF_mem hq
 have hj := labF_inj h
 unfold nxP
 rw [nexA_get (labF l) l.length hj l.length (Nat.le_refl _) i hi]
 show (if i + 1 < l.length then labF l (i + 1) else noneL) = _
 by_cases h1 : i + 1 < l.length
 ·rw [if_pos h1, beh_hit h1 (fun t ht e => by have := hj t i (by omega) hi e; omega) rfl]
 rw [if_neg h1, beh_miss fun t ht e => by have := hj t i (by omega) hi e; omega]
theorem leaves_in {l : List Rw} {w : Rw} (hw : w ∈ l) (hk : w.r.kind = 1) : w.lab ∈ leavesP l :=
 (sortL_perm _).mem_iff.2 (List.mem_map.2 ⟨w, List.mem_filter.2 ⟨hw, decide_eq_true hk⟩, rfl⟩)
theorem leaves_dist {l : List Rw} (h : (l.map (·.lab)).Nodup) : (leavesP l).Nodup :=
 (sortL_perm _).nodup_iff.2 (List.Sublist.nodup (List.Sublist.map _ List.filter_sublist) h)
theorem kids_two (T : Tre) (q : Lab) : decide (2 ≤ kidsT T q 2) = ((T (chV q 0)).isSome && (T (chV q 1)).isSome) := by
 show decide (2 ≤ 0 + hasT T (chV q 0) + hasT T (chV q 1)) = _
 unfold hasT
 cases (T (chV q 0)).isSome <;> cases (T (chV q 1)).isSome <;> rfl
theorem sound_eq {f : Nat → RowA} {n : Nat} {x : RowA} {g : Nat → Lab} {ng : Nat} {NX : Lab → Lab} {b : Int} (hl : isL x.lab = true) (hnx : x.x.r.kd = 1 → NX x.lab = behL g ng x.lab) : soundD f n g ng b x = soundQ (tF f n) NX b x.lab x.x.r.abs := by
 obtain ⟨h3, h4, _⟩ := lab_parts hl
 have hk : ∀ q, kdF f n q = kindT (tF f n) q := fun q => by
  unfold kdF kindT tF
  cases getF f n q <;> rfl
 have hsm : ∀ q, (getF f n q).isSome = (tF f n q).isSome := fun q => by unfold tF; cases getF f n q <;> rfl
 unfold soundD soundQ
 congr 1
 ·rw [hk]
  have hp : parE x.lab = 0 ↔ 0 < x.lab.len := by
   unfold parE
   rw [if_neg (by rw [hl]; decide)]
   split
   ·constructor
    ·intro h; cases h
    intro h; omega
   constructor
   ·intro _; omega
   intro _; rfl
  by_cases h0 : 0 < x.lab.len
  ·rw [if_pos h0, decide_eq_true (hp.2 h0)]
   by_cases h2 : kindT (tF f n) (parV x.lab) = 2
   ·simp [h2]
   simp [h2]
  rw [if_neg h0, decide_eq_false (fun h => h0 (hp.1 h))]; rfl
 by_cases h1 : x.x.r.kd = 1
 ·rw [if_pos h1, if_pos (show x.x.r.abs.kind = 1 from h1), hnx h1]
  have hc := cov_len x.lab (firsts x.x.r.f x.x.r.n)
  show (decide ((x.x.r.n : Int) ≤ b) && decide ((covL x.lab (firsts x.x.r.f x.x.r.n)).length = x.x.r.n) && decide (x.x.r.nx = behL g ng x.lab)) = (decide (((firsts x.x.r.f x.x.r.n).length : Int) ≤ b) && decide ((firsts x.x.r.f x.x.r.n).length ≤ (covL x.lab (firsts x.x.r.f x.x.r.n)).length) && decide (x.x.r.nx = behL g ng x.lab))
  rw [firsts_len] at hc ⊢
  congr 2
  exact decide_eq_decide.2 (by omega)
 rw [if_neg h1, if_neg (show ¬ x.x.r.abs.kind = 1 from h1)]
 by_cases h2 : x.x.r.kd = 2
 ·rw [if_pos (show x.x.r.abs.kind = 2 from h2), decide_eq_true h2, Bool.true_and]
  have hce : chE x.lab 0 = 0 ↔ x.lab.len < 64 := by
   unfold chE
   rw [hl]
   constructor
   ·intro h
    by_cases h64 : x.lab.len = 64
    ·simp [h64] at h
    omega
   intro h
   have h64 : ¬ x.lab.len = 64 := by omega
   simp [h64]
  by_cases h5 : x.lab.len < 64
  ·rw [decide_eq_true h5, if_pos (hce.2 h5), kids_two, hsm, hsm]; rfl
  rw [decide_eq_false h5, if_neg (fun h => h5 (hce.1 h))]; rfl
 rw [if_neg (show ¬ x.x.r.abs.kind = 2 from h2), decide_eq_false h2]; rfl
def wellD (f : Nat → RowA) (n : Nat) (b : Int) : Bool :=
 isRw (rwsA f n) && decide (1 ≤ b) && decide (b ≤ 16) && (getF f n ⟨0, 0⟩).isSome && (List.range n).all fun i => soundD f n (labF (leavesP (rwsA f n))) (leavesP (rwsA f n)).length b (f i)
theorem well_eq (f : Nat → RowA) (n : Nat) (b : Int) : wellD f n b = wellP (rwsA f n) b := by
 unfold wellD wellP
 cases h : isRw (rwsA f n) with
 | false => simp
 | true =>
  have ht := tF_eq h
  have hd := isRw_dist h
  have hroot : (getF f n ⟨0, 0⟩).isSome = (treP (rwsA f n) ⟨0, 0⟩).isSome := by rw [← ht]; unfold tF; cases getF f n ⟨0, 0⟩ <;> rfl
  rw [hroot, ents_dist hd, ← ht]
  have hall : ((List.range n).all fun i => soundD f n (labF (leavesP (rwsA f n))) (leavesP (rwsA f n)).length b (f i)) = (((rwsA f n).map fun w => (w.lab, w.r)).all fun p => soundQ (tF f n) (nxP (leavesP (rwsA f n))) b p.1 p.2) := by
   unfold rwsA listA
   rw [List.all_map, List.all_map]
   rw [Bool.eq_iff_iff, List.all_eq_true, List.all_eq_true]
   have hs : ∀ i ∈ List.range n, soundD f n (labF (leavesP (rwsA f n))) (leavesP (rwsA f n)).length b (f i) = soundQ (tF f n) (nxP (leavesP (rwsA f n))) b (f i).lab (f i).x.r.abs := fun i hi => by
    have hm : RowA.abs (f i) ∈ rwsA f n := List.mem_map.2 ⟨i, hi, rfl⟩
    refine sound_eq ((newS_is h).2 _ hm).1 fun hk => ?_
    exact nx_beh (leaves_dist hd) (leaves_in hm hk)
   constructor
   ·intro hh i hi; exact (hs i hi).symm.trans (hh i hi)
   intro hh i hi; exact (hs i hi).trans (hh i hi)
  rw [hall]
  cases decide (1 ≤ b) <;> cases decide (b ≤ 16) <;> cases (tF f n ⟨0, 0⟩).isSome <;> rfl
theorem getF_ok {f : Nat → RowA} {n : Nat} (hK : RwK n f) (h : isRw (rwsA f n) = true) : ∀ q x, getF f n q = some x → x.r.n ≤ 16 ∧ ∀ t, t < x.r.n → U64 (x.r.f t).key := by
 intro q x hx
 unfold getF at hx
 obtain ⟨i, hi, rfl⟩ := Option.map_eq_some_iff.1 hx
 have hin : i < n := List.mem_range.1 (List.mem_of_find?_eq_some hi)
 refine ⟨?_, hK i hin⟩
 have hm : RowA.abs (f i) ∈ rwsA f n := List.mem_map.2 ⟨i, List.mem_range.2 hin, rfl⟩
 have h4 : isR (f i).x.r.abs = true := ((newS_is h).2 _ hm).2
 rw [isR_abs] at h4
 exact (isRF_kind h4).2.2.1
theorem tF_ok {f : Nat → RowA} {n : Nat} (hN : RwN n f) (hK : RwK n f) (h : isRw (rwsA f n) = true) : TreOk (tF f n) ((List.range n).map fun i => (f i).lab) := by
 refine ⟨fun k hk => ?_, fun l r hr => ?_⟩
 ·obtain ⟨i, hi, rfl⟩ := List.mem_map.1 hk
  exact (hN i (List.mem_range.1 hi)).2.2.1
 unfold tF at hr
 obtain ⟨x, hx, rfl⟩ := Option.map_eq_some_iff.1 hr
 have h16 := (getF_ok hK h l x hx).1
 unfold getF at hx
 obtain ⟨i, hi, rfl⟩ := Option.map_eq_some_iff.1 hx
 have hin := List.mem_of_find?_eq_some hi
 have he := List.find?_some hi
 refine ⟨List.mem_map.2 ⟨i, hin, of_decide_eq_true he⟩, ?_⟩
 show (firsts (f i).x.r.f (f i).x.r.n).length ≤ 16
 rw [firsts_len]; exact h16
theorem ritems_s (A : Option Addr) (n c : Nat) (f : Nat → RowA) (hn : n ≤ 100000) (hN : RwN n f) (hK : RwK n f) : Spec Tryz.prog 7 [rowsV A n c f] (fun y => .tup [rowI (y.A 0) (itemsP (rwsA f n)).length (y.c 0) (itF (itemsP (rwsA f n))), .int .i64 (itemsE (rwsA f n))]) := by
 intro m w hm hargs
 have hmx : maxLen = 9223372036854775807 := rfl
 have SI := ris4_s A n c f (by omega) fun i hi => ⟨(hN i hi).1, (hN i hi).2.2.1, (hN i hi).2.2.2⟩
 obtain ⟨ir, hir⟩ := eqv (isRw (rwsA f n))
 rw [← hir] at SI
 obtain ⟨IP, hIP⟩ := eqv (itemsP (rwsA f n))
 obtain ⟨IE, hIE⟩ := eqv (itemsE (rwsA f n))
 rw [← hIP, ← hIE]
 obtain ⟨kf, hkf⟩ := eqv (itF IP)
 obtain ⟨kn, hkn⟩ := eqv (IP.length)
 refine en 10 hm hargs Tryz.func7 fun B hB a0 hF => ?_
 refine wp_seq (rg hB TA_ok [0] [] [] hF fun X0 a0 w1 hF => ?_)
 refine wp_seq (wp_seq (rg hB TA_ok [6, 0] [] [(1, .r fun _ => .bool (.v ir))] hF (hob := ?hob) fun X1 a0 w1 hF => ?_))
 case hob =>
  intro X
  subst hB
  repeat (first | exact trivial | refine ⟨rfl, ?_⟩ | refine ⟨fun _ => rfl, ?_⟩ | refine ⟨⟨fun _ _ => by kernel_rfl, SI⟩, ?_⟩ | refine ⟨fun _ => ⟨fun _ _ => by kernel_rfl, SI⟩, ?_⟩ | refine ⟨fun _ => ob_lab (Kk := noK) _ _ _ _, ?_⟩)
 apply test_ok hF rfl <;> intro hb hF
 ·have hq : ir = false := by subst hB; cases ir <;> first | rfl | cases hb
  have hI : IP = [] := by rw [hIP]; unfold itemsP; rw [← hir, hq]; rfl
  have hE : IE = 1 := by rw [hIE]; unfold itemsE; rw [← hir, hq]; rfl
  refine wp_seq (rg hB TA_ok [2, 3] [2] [] hF fun X2 a0 w1 hF => ?_)
  refine wp_ret ((rsi hB TA_ok hF nAt (he := ?_)))
  subst hB
  rw [hI, hE]
  exact Sim.tup ⟨sim_nils, zr, trivial⟩
 have hq : ir = true := by subst hB; cases ir <;> first | rfl | cases hb
 have hiy : isRw (rwsA f n) = true := by rw [← hir]; exact hq
 have hE : IE = 0 := by rw [hIE]; unfold itemsE; rw [← hir, hq]; rfl
 have hn2 : n ≤ 2000 := by have := (newS_is hiy).1; rw [listA_len] at this; exact this
 have SM := rmeans_s A n c f hn (tF_ok hN hK hiy) (by simpa using hn2) (getF_ok hK hiy) 65 ⟨0, 0⟩ ⟨by decide, by decide⟩ (by decide) (by decide)
 have hIM : meansP (tF f n) 65 ⟨0, 0⟩ = IP := by rw [hIP, tF_eq hiy]; unfold itemsP; rw [if_pos hiy]
 rw [hIM, ← hkf, ← hkn] at SM
 simp only [labAV, rowI] at SM
 refine wp_skip (wp_seq (rg hB TA_ok [2, 3] [2] [(2, .r fun y => .sl none (y.A 0) kn (y.c 0) 2 (fun t => itC (kf t)))] hF (hob := ?hob) fun X3 a0 w1 hF => ?_))
 case hob =>
  intro X
  subst hB
  repeat (first | exact trivial | refine ⟨rfl, ?_⟩ | refine ⟨fun _ => rfl, ?_⟩ | refine ⟨⟨fun _ _ => by kernel_rfl, SM⟩, ?_⟩ | refine ⟨fun _ => ⟨fun _ _ => by kernel_rfl, SM⟩, ?_⟩ | refine ⟨fun _ => ob_lab (Kk := noK) _ _ _ _, ?_⟩)
 refine wp_ret ((rsi hB TA_ok hF (⟨0, fun _ => (X3 2).A 0, fun _ => (X3 2).c 0, fun _ => ⟨#[]⟩⟩) (he := ?_)))
 subst hB
 rw [hE, ← hkf, ← hkn]
 exact zr
theorem rwell_s (A : Option Addr) (n c : Nat) (f : Nat → RowA) (hn : n ≤ 100000) (hN : RwN n f) (hK : RwK n f) (b : Int) : Spec Tryz.prog 12 [rowsV A n c f, .int .i64 b] (fun _ => .bool (.v (wellP (rwsA f n) b))) := by
 intro m w hm hargs
 have hmx : maxLen = 9223372036854775807 := rfl
 have SI := ris4_s A n c f (by omega) fun i hi => ⟨(hN i hi).1, (hN i hi).2.2.1, (hN i hi).2.2.2⟩
 obtain ⟨ir, hir⟩ := eqv (isRw (rwsA f n))
 rw [← hir] at SI
 rw [← well_eq]
 obtain ⟨W, hWt⟩ := eqv (wellD f n b)
 rw [← hWt]
 unfold wellD at hWt
 have SA := rat4_s A n c f hn ⟨0, 0⟩
 obtain ⟨el, hel⟩ := eqv ((getF f n ⟨0, 0⟩).getD zRA)
 obtain ⟨iq, hiq⟩ := eqv ((getF f n ⟨0, 0⟩).isSome)
 rw [← hel, ← hiq] at SA
 rw [← hir, ← hiq] at hWt
 have SL := rleaves_s A n c f hn
 have hlv := leaves_len (rwsA f n)
 rw [listA_len] at hlv
 obtain ⟨lv, hlvE⟩ := eqv (leavesP (rwsA f n))
 rw [← hlvE] at SL hWt hlv
 obtain ⟨lf, hlf⟩ := eqv (labF lv)
 obtain ⟨ln, hln⟩ := eqv (lv.length)
 rw [← hlf, ← hln] at SL hWt
 rw [← hln] at hlv
 simp only [labAV] at SA SL
 refine en 45 hm hargs Tryz.func12 fun B hB a0 hF => ?_
 refine wp_seq (rg hB TA_ok [0, 1] [] [] hF fun X0 a0 w1 hF => ?_)
 refine wp_seq (wp_seq (rg hB TA_ok [19, 0, 1] [] [(1, .r fun _ => .bool (.v ir))] hF (hob := ?hob) fun X1 a0 w1 hF => ?_))
 case hob =>
  intro X
  subst hB
  repeat (first | exact trivial | refine ⟨rfl, ?_⟩ | refine ⟨fun _ => rfl, ?_⟩ | refine ⟨⟨fun _ _ => by kernel_rfl, SI⟩, ?_⟩ | refine ⟨fun _ => ⟨fun _ _ => by kernel_rfl, SI⟩, ?_⟩ | refine ⟨fun _ => ob_lab (Kk := noK) _ _ _ _, ?_⟩)
 apply test_ok hF rfl <;> intro hb hF
 ·have h9 : ¬ (ir = true ∧ 1 ≤ b ∧ b ≤ 16) := by subst hB; revert hb; cases ir <;> simp [std, sC] <;> omega
  have hW : W = false := by rw [hWt]; by_cases h1 : ir = true; (· by_cases h2 : 1 ≤ b; (· rw [decide_eq_false (show ¬ b ≤ 16 from fun h3 => h9 ⟨h1, h2, h3⟩)]; simp); (· rw [decide_eq_false h2]; simp)); (· simp [h1])
  refine wp_seq (rg hB TA_ok [4] [] [] hF fun X2 a0 w1 hF => ?_)
  refine wp_ret ((rsi hB TA_ok hF nAt (he := ?_)))
  subst hB
  rw [hW]
  exact zr
 have h9 : ir = true ∧ 1 ≤ b ∧ b ≤ 16 := by subst hB; revert hb; cases ir <;> simp [std, sC] <;> omega
 rw [h9.1, decide_eq_true h9.2.1, decide_eq_true h9.2.2, Bool.true_and, Bool.true_and, Bool.true_and] at hWt
 have hiy : isRw (rwsA f n) = true := by rw [← hir]; exact h9.1
 refine wp_skip (wp_seq (rg hB TA_ok [6, 0, 1] [] [(2, .r fun _ => .tup [recV el, .bool (.v iq)])] hF (hob := ?hob) fun X3 a0 w1 hF => ?_))
 case hob =>
  intro X
  subst hB
  repeat (first | exact trivial | refine ⟨rfl, ?_⟩ | refine ⟨fun _ => rfl, ?_⟩ | refine ⟨⟨fun _ _ => by kernel_rfl, SA⟩, ?_⟩ | refine ⟨fun _ => ⟨fun _ _ => by kernel_rfl, SA⟩, ?_⟩ | refine ⟨fun _ => ob_lab (Kk := noK) _ _ _ _, ?_⟩)
 refine wp_seq (wp_seq (rg hB TA_ok [27, 0, 1] [] [] hF fun X4 a0 w1 hF => ?_))
 apply test_ok hF rfl <;> intro hb hF
 ·have hq : iq = false := by subst hB; cases iq <;> first | rfl | cases hb
  have hW : W = false := by rw [hWt, hq]; rfl
  refine wp_seq (rg hB TA_ok [4] [] [] hF fun X5 a0 w1 hF => ?_)
  refine wp_ret ((rsi hB TA_ok hF nAt (he := ?_)))
  subst hB
  rw [hW]
  exact zr
 have hq : iq = true := by subst hB; cases iq <;> first | rfl | cases hb
 rw [hq, Bool.true_and] at hWt
 refine wp_skip (wp_seq (rg hB TA_ok [7, 0, 1] [] [(1, .r fun y => .sl none (y.A 0) ln (y.c 0) 2 (fun t => labC (lf t)))] hF (hob := ?hob) fun X6 a0 w1 hF => ?_))
 case hob =>
  intro X
  subst hB
  repeat (first | exact trivial | refine ⟨rfl, ?_⟩ | refine ⟨fun _ => rfl, ?_⟩ | refine ⟨⟨fun _ _ => by kernel_rfl, SL⟩, ?_⟩ | refine ⟨fun _ => ⟨fun _ _ => by kernel_rfl, SL⟩, ?_⟩ | refine ⟨fun _ => ob_lab (Kk := noK) _ _ _ _, ?_⟩)
 refine wp_seq (wp_seq (rg hB TA_ok [8, 0, 1, 7] [] [] hF fun X7 a0 w1 hF => ?_))
 refine wp_block (loop_pre (ι := Nat) (fun p => [(8, .int .i64 (p : Int))]) (fun p => []) (fun p => []) (fun p => p ≤ n ∧ ∀ t, t < p → soundD f n lf ln b (f t) = true) (fun p => n - p) 0 ⟨Nat.zero_le _, fun t ht => absurd ht (Nat.not_lt_zero _)⟩ hF ?_)
 rintro i ⟨hi, hlt⟩ a0 w1 hF
 try dsimp only at hi
 try dsimp only at hlt
 refine wp_seq (wp_seq (rg hB TA_ok [33, 8, 0, 1, 7] [] [] hF fun X8 a0 w1 hF => ?_))
 apply test_ok hF rfl <;> intro hb hF
 ·have hin : i < n := by
   have : (i : Int) < (n : Int) := by subst hB; simpa [std, sC] using hb
   omega
  have h16 : (f i).x.r.n ≤ 1000000 := (hN i hin).1
  have SS := fun (A2 : Option Addr) (c2 : Nat) => sound_s A n c f hn A2 ln c2 lf (by omega) (f i) h16 (hN i hin).2.2.1 (hK i hin) b
  obtain ⟨sd, hsd⟩ := eqv (soundD f n lf ln b (f i))
  simp only [← hsd] at SS
  simp only [rowC] at SS
  refine wp_skip (wp_seq (wp_block (wp_seq (rg hB TA_ok [44, 8, 0, 1, 7] [] [(7, .r fun _ => .bool (.v sd))] hF (hob := ?hob) fun X10 a0 w1 hF => ?_))))
  case hob =>
   intro X
   subst hB
   repeat (first | exact trivial | refine ⟨rfl, ?_⟩ | refine ⟨(show (0 : Int) ≤ (i : Int) ∧ (i : Int) < (n : Int) by omega), ?_⟩ | refine ⟨⟨fun _ _ => by kernel_rfl, SS _ _⟩, ?_⟩)
  apply test_ok hF rfl <;> intro hb hF
  ·have hsd1 : soundD f n lf ln b (f i) = false := by rw [← hsd]; subst hB; cases sd <;> first | rfl | cases hb
   have hW : W = false := by rw [hWt, List.all_eq_false]; exact ⟨i, List.mem_range.2 hin, by simp [hsd1]⟩
   refine wp_seq (rg hB TA_ok [4] [] [] hF fun X11 a0 w1 hF => ?_)
   refine wp_ret ((rsi hB TA_ok hF nAt (he := ?_)))
   subst hB
   rw [hW]
   exact zr
  have hsd1 : soundD f n lf ln b (f i) = true := by rw [← hsd]; subst hB; cases sd <;> first | rfl | cases hb
  refine wp_skip (rg hB TA_ok [8, 0, 1, 7] [] [] hF fun X9 a0 w1 hF => ?_)
  have e : B.arith .add .i64 (i : Int) 1 = ((i + 1 : Nat) : Int) := by subst hB; exact wrap_succ (n := n) hin (by omega)
  refine ⟨i + 1, ⟨by omega, fun t ht => ?_⟩, by omega, by rw [← e]; exact hF⟩
  by_cases h : t = i
  ·rw [h]; exact hsd1
  exact hlt t (by omega)
 have hout : i = n := by
  have : ¬ (i : Int) < (n : Int) := by subst hB; simpa [std, sC] using hb
  omega
 have hW : W = true := by rw [hWt, List.all_eq_true]; intro t ht; exact hlt t (by have := List.mem_range.1 ht; omega)
 refine wp_exit (wp_seq (rg hB TA_ok [4] [] [] hF fun X12 a0 w1 hF => ?_))
 refine wp_ret ((rsi hB TA_ok hF nAt (he := ?_)))
 subst hB
 rw [hW]
 exact zr
theorem bigs_ff {n : Nat} {f : Nat → RowA} (h : (if n ≤ 300 then bigS n f else true) = false) : n ≤ 300 ∧ ∀ i, i < n → (f i).x.r.n ≤ 40 := by
 by_cases hn : n ≤ 300
 ·rw [if_pos hn] at h
  refine ⟨hn, fun i hi => ?_⟩
  unfold bigS at h
  simp only [Bool.or_eq_false_iff] at h
  exact bigF_len (anyB_false h.1.2 i hi)
 rw [if_neg hn] at h; cases h
theorem itemsP_len {f : Nat → RowA} {n : Nat} (hN : RwN n f) (hK : RwK n f) : (itemsP (rwsA f n)).length ≤ 32 * n := by
 unfold itemsP
 split
 ·rename_i h
  rw [← tF_eq h]
  have h1 := means_len (tF_ok hN hK h) 65 ⟨0, 0⟩ (by decide) ⟨by decide, by decide⟩
  have h2 := cnt_le ((List.range n).map fun i => (f i).lab) ⟨0, 0⟩
  rw [List.length_map, List.length_range] at h2
  omega
 simp
theorem sameB_refl (n : Nat) (f : Nat → Lab) : sameB n f n f = true := by
 unfold sameB
 rw [decide_eq_true rfl, Bool.true_and, List.all_eq_true]
 intro t _
 exact decide_eq_true rfl
theorem lawTells_s (A : Option Addr) (n c : Nat) (f : Nat → RowA) (hn : n ≤ maxLen) (hwf : ∀ i, i < n → LabOk (f i).lab ∧ U64 (f i).lab.bits ∧ U64 (f i).x.r.nx.bits) (hK : RwK n f) (b : Int) : Spec Tryz.prog 3 [rowsV A n c f, .int .i64 b] (fun _ => .bool .tt) := by
 intro m w hm hargs
 have hmx : maxLen = 9223372036854775807 := rfl
 have SB := bigs_s A n c f hn
 obtain ⟨bl, hbl⟩ := eqv ((if n ≤ 300 then bigS n f else true))
 rw [← hbl] at SB
 refine en 55 hm hargs Tryz.func3 fun B hB a0 hF => ?_
 refine wp_seq (rg hB TA_ok [0, 1] [] [] hF fun X0 a0 w1 hF => ?_)
 refine wp_seq (wp_seq (rg hB TA_ok [10, 0, 1] [] [(1, .r fun _ => .bool (.v bl))] hF (hob := ?hob) fun X1 a0 w1 hF => ?_))
 case hob =>
  intro X
  subst hB
  repeat (first | exact trivial | refine ⟨rfl, ?_⟩ | refine ⟨fun _ => rfl, ?_⟩ | refine ⟨⟨fun _ _ => by kernel_rfl, SB⟩, ?_⟩ | refine ⟨fun _ => ⟨fun _ _ => by kernel_rfl, SB⟩, ?_⟩)
 apply test_ok hF rfl <;> intro hb hF
 ·refine wp_seq (rg hB TA_ok [4] [] [] hF fun X2 a0 w1 hF => ?_)
  refine wp_ret ((rsi hB TA_ok hF nAt (he := ?_)))
  subst hB
  exact zr
 have hb0 : bl = false := by subst hB; exact hb
 rw [hb0] at hbl
 have hb1 := bigs_ff hbl.symm
 have hN : RwN n f := fun i hi => ⟨by have := hb1.2 i hi; omega, hwf i hi⟩
 have hn1 : n ≤ 100000 := by have := hb1.1; omega
 have SI := items_s A n c f hn1 hN hK
 have SJ := ritems_s A n c f hn1 hN hK
 have hil := itemsP_len hN hK
 have hn3 := hb1.1
 obtain ⟨IP, hIP⟩ := eqv (itemsP (rwsA f n))
 obtain ⟨ie, hie⟩ := eqv (itemsE (rwsA f n))
 rw [← hIP] at hil
 rw [← hIP, ← hie] at SI SJ
 obtain ⟨kf, hkf⟩ := eqv (itF IP)
 obtain ⟨kn, hkn⟩ := eqv (IP.length)
 rw [← hkn] at hil
 rw [← hkf, ← hkn] at SI SJ
 simp only [rowI] at SI SJ
 have SG := grown_s
 have ST := tis_s A n c f hn hN
 have SR := ris4_s A n c f hn fun i hi => ⟨(hN i hi).1, (hwf i hi).2.1, (hwf i hi).2.2⟩
 obtain ⟨ir, hir⟩ := eqv (isRw (rwsA f n))
 rw [← hir] at ST SR
 have SW := well_s A n c f hn1 hN hK b
 have SV := rwell_s A n c f hn1 hN hK b
 obtain ⟨wl, hwl⟩ := eqv (wellP (rwsA f n) b)
 rw [← hwl] at SW SV
 have SS := fun (A A2 : Option Addr) (c c2 : Nat) => same7_s A kn c kf (by omega) A2 kn c2 kf
 rw [sameF_yes rfl fun _ _ => rfl] at SS
 simp only [rowI] at SS
 have SL := leaves_s A n c f hn1
 have SM := rleaves_s A n c f hn1
 have hll := leaves_len (rwsA f n)
 rw [listA_len] at hll
 obtain ⟨ln, hln⟩ := eqv ((leavesP (rwsA f n)).length)
 obtain ⟨lf, hlf⟩ := eqv (labF (leavesP (rwsA f n)))
 rw [← hln] at hll
 rw [← hln, ← hlf] at SL SM
 have SN := fun (A A2 : Option Addr) (c c2 : Nat) => lbs4_s A ln c lf A2 ln c2 lf (by omega)
 rw [sameB_refl] at SN
 refine wp_skip (wp_seq (rg hB TA_ok [5, 6, 0, 1] [] [(1, .r fun y => .tup [.sl none (y.A 0) kn (y.c 0) 2 (fun t => itC (kf t)), .int .i64 ie])] hF (hob := ?hob) fun X3 a0 w1 hF => ?_))
 case hob =>
  intro X
  subst hB
  repeat (first | exact trivial | refine ⟨rfl, ?_⟩ | refine ⟨fun _ => rfl, ?_⟩ | refine ⟨⟨fun _ _ => by kernel_rfl, SI⟩, ?_⟩ | refine ⟨fun _ => ⟨fun _ _ => by kernel_rfl, SI⟩, ?_⟩)
 refine wp_seq (rg hB TA_ok [7, 8, 5, 6, 0, 1] [] [(1, .r fun y => .tup [.sl none (y.A 0) kn (y.c 0) 2 (fun t => itC (kf t)), .int .i64 ie])] hF (hob := ?hob) fun X4 a0 w1 hF => ?_)
 case hob =>
  intro X
  subst hB
  repeat (first | exact trivial | refine ⟨rfl, ?_⟩ | refine ⟨fun _ => rfl, ?_⟩ | refine ⟨⟨fun _ _ => by kernel_rfl, SJ⟩, ?_⟩ | refine ⟨fun _ => ⟨fun _ _ => by kernel_rfl, SJ⟩, ?_⟩)
 refine wp_seq (rg hB TA_ok [4] [] [(0, .r fun _ => .bool (.v true)), (3, .r fun _ => .bool (.v ir)), (5, .r fun _ => .bool (.v ir)), (11, .r fun _ => .bool (.v wl)), (14, .r fun _ => .bool (.v wl)), (20, .r fun _ => .bool (.v true)), (29, .r fun y => .sl none (y.A 0) ln (y.c 0) 2 (fun t => labC (lf t))), (31, .r fun y => .sl none (y.A 0) ln (y.c 0) 2 (fun t => labC (lf t))), (32, .r fun _ => .bool (.v true))] hF (hob := ?hob) fun X5 a0 w1 hF => ?_)
 case hob =>
  intro X
  subst hB
  repeat (first | exact trivial | refine ⟨rfl, ?_⟩ | refine ⟨fun _ => rfl, ?_⟩ | refine ⟨⟨fun _ _ => by kernel_rfl, SG⟩, ?_⟩ | refine ⟨fun _ => ⟨fun _ _ => by kernel_rfl, SG⟩, ?_⟩ | refine ⟨⟨fun _ _ => by kernel_rfl, ST⟩, ?_⟩ | refine ⟨fun _ => ⟨fun _ _ => by kernel_rfl, ST⟩, ?_⟩ | refine ⟨⟨fun _ _ => by kernel_rfl, SR⟩, ?_⟩ | refine ⟨fun _ => ⟨fun _ _ => by kernel_rfl, SR⟩, ?_⟩ | refine ⟨⟨fun _ _ => by kernel_rfl, SW⟩, ?_⟩ | refine ⟨fun _ => ⟨fun _ _ => by kernel_rfl, SW⟩, ?_⟩ | refine ⟨⟨fun _ _ => by kernel_rfl, SV⟩, ?_⟩ | refine ⟨fun _ => ⟨fun _ _ => by kernel_rfl, SV⟩, ?_⟩ | refine ⟨⟨fun _ _ => by kernel_rfl, SS _ _ _ _⟩, ?_⟩ | refine ⟨fun _ => ⟨fun _ _ => by kernel_rfl, SS _ _ _ _⟩, ?_⟩ | refine ⟨⟨fun _ _ => by kernel_rfl, SL⟩, ?_⟩ | refine ⟨fun _ => ⟨fun _ _ => by kernel_rfl, SL⟩, ?_⟩ | refine ⟨⟨fun _ _ => by kernel_rfl, SM⟩, ?_⟩ | refine ⟨fun _ => ⟨fun _ _ => by kernel_rfl, SM⟩, ?_⟩ | refine ⟨⟨fun _ _ => by kernel_rfl, SN _ _ _ _⟩, ?_⟩ | refine ⟨fun _ => ⟨fun _ _ => by kernel_rfl, SN _ _ _ _⟩, ?_⟩)
 refine wp_ret ((rsi hB TA_ok hF nAt (he := ?_)))
 subst hB
 refine Sim.bool ?_
 cases ir <;> cases wl <;> simp [std, sC, BE.den] <;> rfl
end Go.Proofs.YtpgjalaldhlcoaaGreat.Sym
namespace Go.Proofs.YtpgjalaldhlcoaaGreat
open Go Go.RowKit
theorem walkTrieTells (W : World) (v0 v1 : Value) (i0 : Sym.InRow W v0) (i1 : Sym.InI v1) : Calls Tryz.prog 3 #[v0, v1] W fun e w' => e = .returned (.bool true) ∧ Below W.heap.size W w' := by
 obtain ⟨A, n, c, f, rfl, h0, hn, hf⟩ := i0
 obtain ⟨b, rfl, _⟩ := i1
 have S := Sym.lawTells_s A n c f hn (fun i hi => ⟨(hf i hi).2.2.1, (hf i hi).2.2.1.u64, (hf i hi).2.2.2.1.u64⟩) (fun i hi => (hf i hi).2.2.2.2) b
 refine (S (fun _ _ => False) W (fun _ _ h => h.elim) (fun v hv => ?_)).mono ?_
 ·simp only [List.mem_cons, List.not_mem_nil, or_false] at hv
  rcases hv with rfl | rfl
  ·exact h0
  exact .int _ _
 rintro e w' ⟨x, rfl, _, hb⟩
 exact ⟨rfl, hb⟩
end Go.Proofs.YtpgjalaldhlcoaaGreat
