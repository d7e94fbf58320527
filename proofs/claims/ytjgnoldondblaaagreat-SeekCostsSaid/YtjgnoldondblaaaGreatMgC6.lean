/-
  SymTrA, SymTrB, PlTree, PlDir, PlEnds, PlSeekEnd, PlFin, PlFinish, PlMean, PlMk, PlItems, PlTe, PlBld, PlBld2, PlBld3, PlCo, PlCost, SymL26C, WalkSeekCosts: put together by a program of mine (a claim may have 60 files at most). Conditions: none.
-/
import Derived.WalkKit
import Derived.WalkLawsBesides
import Derived.WalkSpells
import Derived.Lib.Hide
import Derived.Deep.QuietTactic
import Derived.BigQuiet
import Derived.Deep.LoopGhost
import Derived.Deep.DeepCutAuto
import Derived.Deep.RegionLaw
import Derived.Lib.Overlaps
import Derived.Laws.CopyOwn
import Derived.IntWalk
import Derived.ProofKit
import Derived.OpenShut
import Derived.ShutString
import Derived.ChangeOld
import Derived.Deep.Slices
import Derived.Test.YtjgnoldondblaaaGreatProg
import Derived.Orders
import Derived.OrdersHeld
import Derived.Defers
import Derived.Recover
import Derived.Lib.BitFns
import Derived.ChangeKeysEq
import Derived.Test.YtjgnoldondblaaaGreatChecked
import Derived.Lib.BufferWrite
import Derived.Maps.OwnSet
import Derived.Maps.RangeWalk
import Derived.Maps.Ext
import Derived.DeepKeys4
import Derived.LoopN
import Derived.Shelf.SlSortCmp.WholeK
import Derived.Shelf.SlSortCmp.NoneTotal
import Derived.Deep.RegionHeld3
import Derived.Ground.SlsfProg
import Derived.Shelf.SlGeneric
import Derived.RangeFuncLeaves
import Derived.RangeFuncCalls
import Derived.OrdersIn
import Derived.Test.YtjgnoldondblaaaGreatMgC1
import Derived.Test.YtjgnoldondblaaaGreatMgC2
import Derived.Test.YtjgnoldondblaaaGreatMgC3
import Derived.Test.YtjgnoldondblaaaGreatMgC4
import Derived.Test.YtjgnoldondblaaaGreatMgC5
set_option linter.unusedVariables false
set_option linter.unusedSimpArgs false
set_option maxRecDepth 100000
set_option maxHeartbeats 1600000
namespace Go.Proofs.YtjgnoldondblaaaGreat.Sym
open Go Go.RowKit
def rwOf (p : Lab × Rec) : Rw := ⟨p.1, 1, p.2⟩
def insE (p : Lab × Rec) : List (Lab × Rec) → List (Lab × Rec)
 | [] => [p]
 | q :: l => if lessL p.1 q.1 = true then p :: q :: l else q :: insE p l
def sortE (l : List (Lab × Rec)) : List (Lab × Rec) := l.foldl (fun o x => insE x o) []
def leE (a b : Lab × Rec) : Prop := leL a.1 b.1
theorem insE_perm (x : Lab × Rec) : ∀ l : List (Lab × Rec), (insE x l).Perm (x :: l)
 | [] => List.Perm.refl _
 | y :: l => by
  unfold insE
  split
  ·exact List.Perm.refl _
  exact (List.Perm.cons _ (insE_perm x l)).trans (List.Perm.swap _ _ _)
theorem insE_sorted (x : Lab × Rec) : ∀ {l : List (Lab × Rec)}, l.Pairwise leE → (insE x l).Pairwise leE
 | [], _ => List.pairwise_singleton _ _
 | y :: l, h => by
  have h' := List.pairwise_cons.1 h
  unfold insE
  split
  ·rename_i hx
   refine List.pairwise_cons.2 ⟨fun z hz => ?_, h⟩
   rcases List.mem_cons.1 hz with rfl | hz
   ·exact less_le hx
   exact leL_trans (less_le hx) (h'.1 z hz)
  rename_i hx
  refine List.pairwise_cons.2 ⟨fun z hz => ?_, insE_sorted x h'.2⟩
  rcases List.mem_cons.1 ((insE_perm x l).mem_iff.1 hz) with rfl | hz
  ·exact (Bool.not_eq_true _).mp hx
  exact h'.1 z hz
theorem sortE_go (l : List (Lab × Rec)) : ∀ (o : List (Lab × Rec)), (l.foldl (fun o x => insE x o) o).Perm (l ++ o) ∧ (o.Pairwise leE → (l.foldl (fun o x => insE x o) o).Pairwise leE) := by
 induction l with
 | nil => exact fun o => ⟨List.Perm.refl _, id⟩
 | cons x l ih =>
  intro o
  obtain ⟨h1, h2⟩ := ih (insE x o)
  exact ⟨h1.trans (((insE_perm x o).append_left l).trans List.perm_middle), fun ho => h2 (insE_sorted x ho)⟩
theorem sortE_perm (l : List (Lab × Rec)) : (sortE l).Perm l := by
 have := (sortE_go l []).1
 rwa [List.append_nil] at this
theorem sortE_sorted (l : List (Lab × Rec)) : (sortE l).Pairwise leE := (sortE_go l []).2 .nil
def fixN (NX : Lab → Lab) (w : Rw) : Rw := if w.r.kind = 1 then { w with r := { w.r with next := NX w.lab } } else w
def growT (n : Nat) (f : Nat → Itm) (b : Int) : Bool × List (Lab × Rec) := growP b 65 (firsts f n) ⟨0, 0⟩ []
def bldE (n : Nat) (f : Nat → Itm) (b : Int) : Int :=
 if b < 1 ∨ b > 16 ∨ oddB n f = true ∨ srtB n f = false ∨ dupB n f = true then 1 else if 500 < n then 2 else if (growT n f b).1 = true then 0 else 2
def bld0 (n : Nat) (f : Nat → Itm) (b : Int) : List Rw := (sortE (growT n f b).2).map rwOf
def bldR (n : Nat) (f : Nat → Itm) (b : Int) : List Rw := if bldE n f b = 0 then (bld0 n f b).map (fixN (nxP (leavesP (bld0 n f b)))) else []
theorem fresh_left {left : Lit → Bool} {p : Lab × RA} : ∀ {L : List (Lab × RA)}, (L.map (·.1)).Nodup → (∀ q ∈ L, LabOk q.1) → p ∈ L → left (keyL p.1) = true →
  (L.filter fun q => left (keyL q.1)).Perm (p :: L.filter fun q => left (keyL q.1) && !(keyL q.1).sameKey (keyL p.1))
 | q :: L, hr, hl, hp, h1 => by
  have hr' := List.nodup_cons.1 hr
  rcases List.mem_cons.1 hp with rfl | hp
  ·rw [List.filter_cons, if_pos h1, List.filter_cons, keyL_same_refl]
   simp only [Bool.not_true, Bool.and_false, Bool.false_eq_true, if_false]
   refine List.Perm.cons _ ?_
   have : ∀ q ∈ L, (left (keyL q.1)) = (left (keyL q.1) && !(keyL q.1).sameKey (keyL p.1)) := by
    intro q hq
    rw [keyL_same (hl q (by simp [hq])) (hl p (by simp)), decide_eq_false (fun e => hr'.1 (List.mem_map.2 ⟨q, hq, e⟩))]
    simp
   rw [List.filter_congr this]
  have hne : q.1 ≠ p.1 := fun e => hr'.1 (List.mem_map.2 ⟨p, hp, e.symm⟩)
  have ih := fresh_left hr'.2 (fun q hq => hl q (by simp [hq])) hp h1
  rw [List.filter_cons, List.filter_cons, keyL_same (hl q (by simp)) (hl p (by simp [hp])), decide_eq_false hne]
  simp only [Bool.not_false, Bool.and_true]
  split
  ·exact (List.Perm.cons _ ih).trans (List.Perm.swap _ _ _)
  exact ih
def rwA (p : Lab × RA) : RowA := ⟨p.1, 1, p.2⟩
theorem build_fin {TA : List (Lab × RA)} (hnd : (TA.map (·.1)).Nodup) {h h' : Nat → RowA} {k : Nat} (hp : (rwsA h k).Perm (TA.map fun p => (rwA p).abs)) (hp' : ((List.range k).map h').Perm ((List.range k).map h)) (hs : ∀ i j, i < j → j < k → labLt (h' j).lab (h' i).lab = false) : rwsA h' k = (sortE (absT TA)).map rwOf := by
 have e1 : (TA.map fun p => (rwA p).abs) = (absT TA).map rwOf := by unfold absT; rw [List.map_map]; rfl
 have hperm : (rwsA h' k).Perm ((sortE (absT TA)).map rwOf) := by
  refine List.Perm.trans ?_ (hp.trans (by rw [e1]; exact ((sortE_perm (absT TA)).map rwOf).symm))
  have := hp'.map RowA.abs
  simp only [List.map_map] at this
  exact this
 have hlabs : ((absT TA).map rwOf).map (·.lab) = TA.map (·.1) := by unfold absT; rw [List.map_map, List.map_map]; rfl
 have hnd2 : (((sortE (absT TA)).map rwOf).map (·.lab)).Nodup := by
  have := ((sortE_perm (absT TA)).map rwOf).map (·.lab)
  exact this.nodup_iff.2 (by rw [hlabs]; exact hnd)
 refine List.Perm.eq_of_pairwise (le := fun a b : Rw => leL a.lab b.lab) ?_ ?_ ?_ hperm
 ·intro a b ha hb h1 h2
  have hl : a.lab = b.lab := leL_anti h1 h2
  have ha' := hperm.mem_iff.1 ha
  have key : ∀ {l : List Rw}, (l.map (·.lab)).Nodup → ∀ {a b : Rw}, a ∈ l → b ∈ l → a.lab = b.lab → a = b := by
   intro l
   induction l with
   | nil => intro _ a b ha; cases ha
   | cons x l ih =>
    intro hn a b ha hb hab
    have hn' := List.nodup_cons.1 hn
    rcases List.mem_cons.1 ha with hax | hax
    ·rcases List.mem_cons.1 hb with hbx | hbx
     ·rw [hax, hbx]
     exact (hn'.1 (List.mem_map.2 ⟨b, hbx, by rw [← hab, hax]⟩)).elim
    rcases List.mem_cons.1 hb with hbx | hbx
    ·exact (hn'.1 (List.mem_map.2 ⟨a, hax, by rw [hab, hbx]⟩)).elim
    exact ih hn'.2 hax hbx hab
  exact key hnd2 ha' hb hl
 ·rw [List.pairwise_iff_getElem]
  intro i j hi hj hij
  have hj' : j < k := by rw [listA_len] at hj; exact hj
  have hi' : i < k := by omega
  have e : ∀ t (g : t < (rwsA h' k).length), t < k → (rwsA h' k)[t] = (h' t).abs := by
   intro t g ht
   have := listA_get RowA.abs h' ht
   rw [List.getElem?_eq_getElem g] at this
   exact Option.some.inj this
  rw [e i hi hi', e j hj hj']
  show lessL (h' j).lab (h' i).lab = false
  rw [← labLt_le]
  exact hs i j hij hj'
 rw [List.pairwise_map]
 exact sortE_sorted _
theorem man_raw {C : Cx} {P : Program} {Q : Exit → Act → World → Prop} {ops : Array Oper} {s : St} {a : Act} {w : World} {L rest : List Oper} {o : Oper} {cl : Call} {g : Operand} {f : FuncId} {l r args : List AV} {d : Nat} (hL : L = o :: rest) (hg : o.guard = none) (hop : o.op = .call cl) (hcal : cl.callee = .value g) (hdst : o.dst = some d) (h : Fits C s a w) (hgv : val s [] g = .fn f l r) (hl : vals s [] cl.args.toList = some args) (hen : Enters P f)
  (R : Value → World → Prop) (hc : Calls P f ((l ++ args ++ r).map AV.den).toArray w fun e w' => ∃ v, e = .returned v ∧ R v w') (K : ∀ v w', R v w' → wpList P ops Q rest (a.put (some d) v) w') : wpList P ops Q L a w := by
 refine man_op hL hg ?_
 obtain ⟨hrun, _⟩ := call_run hop hcal h hgv hl hen
 unfold Oper.wp
 rw [hrun]
 simp only [Oper.upon]
 refine hc.mono ?_
 rintro e w' ⟨v, rfl, h1⟩
 rw [hdst]
 exact K v w' h1
theorem Spec.args' {P : Program} {f : FuncId} {args args' : List AV} {res : Atom → AV} (h : Spec P f args' res) (hs : SimL args args') : Spec P f args res := by
 intro m w hm ha
 rw [hs.map]
 exact h m w hm (hs.ok ha)
theorem clone_own (A : Option Addr) (n c : Nat) (f : Nat → Itm) (hn : n ≤ 1000000) {m : Nat → Nat → Prop} {w : World} (hok : Ok m w (rowI A n c f)) : Calls Tryz.prog 25 ([rowI A n c f].map AV.den).toArray w fun e w' => ∃ v, e = .returned v ∧ ∃ A' c', v = .slice A' n c' ∧ Own w' w.heap.size 63 2 (.slice A' n c') n (rowFlat (fun t => itC (f t)) n) ∧ Below w.heap.size w w' := by
 have hsim : Sim (rowI A n c f) (rowI A (firsts f n).length c (itF (firsts f n))) := Sim.resl (firsts_len f n).symm fun t ht => by rw [firsts_len] at ht; rw [firsts_get f n t ht]
 have hr := Cl.its_reads (hsim.2.2 _ _ hok)
 have := Cl.clone_c w A c (firsts f n) hr (by rw [firsts_len]; omega)
 rw [firsts_len] at this
 refine this.mono ?_
 rintro e w' ⟨v, rfl, hO, hb⟩
 obtain ⟨A', c', rfl, _, _⟩ := hO.isSlice
 rw [firsts_len] at hO
 refine ⟨_, rfl, A', c', by rw [firsts_len], ?_, hb⟩
 unfold OwnL at hO
 rw [firsts_len] at hO
 have e : rowFlat (fun t => itC (f t)) n = (firsts f n).flatMap Cl.itmE := by
  have := Cl.rowFlat_its (firsts f n)
  rw [firsts_len] at this
  rw [← this]
  unfold rowFlat
  rw [List.flatMap_def, List.flatMap_def]
  congr 1
  apply List.map_congr_left
  intro t ht
  show (itC (f t)).map AV.den = (itC (itF (firsts f n) t)).map AV.den
  rw [firsts_get f n t (List.mem_range.1 ht)]
 rw [e]
 exact hO
theorem noAts : ∀ k, ¬ ats ([] : List (Nat × Blk)) k := fun k ⟨e, he, _⟩ => by cases he
theorem seg_K {m0 : Nat → Nat → Prop} {mem : List (Nat × Blk)} {gr : List (Nat × Gr)} {nt : Nat} {tm : List (Nat × AV)} {w w1 : World} {S : Nat → Prop} {ds : List Deferred} {K K' : Kn} (h : K.p (mT m0 mem gr) w) : K.p (St.m ⟨nt, tm, [], [], []⟩ ⟨mT m0 mem gr, w1, S, ds, K'⟩) w :=
 K.st ⟨fun b o u h1 h2 => ⟨h1, fun h => by
  rcases h with h | ⟨k, e, he, _⟩ | ⟨k, t, ht, _⟩
  ·exact h2 h
  ·cases he
  cases ht⟩, fun _ _ h _ => h⟩ h
theorem grow_len {b : Int} : ∀ (n : Nat) (l : List Itm) (q : Lab) (T : List (Lab × Rec)), T.length ≤ 2000 → (growP b n l q T).2.length ≤ 2000
 | 0, l, q, T, h => h
 | n + 1, l, q, T, h => by
  by_cases h1 : 2000 ≤ T.length
  ·rw [grow_full h1]; exact h
  have hs : ∀ r, (setA q r T).length ≤ 2000 := fun r => by rw [set_len]; split <;> omega
  by_cases h2 : (l.length : Int) ≤ b ∨ q.len = 64
  ·rw [grow_leaf h1 h2]; exact hs _
  by_cases hc : chE q 0 = 0
  ·have e1 : (gT b n l q T 1).length ≤ 2000 := grow_len n _ _ _ (hs innR)
   have e2 : (gT b n l q T 2).length ≤ 2000 := grow_len n _ _ _ e1
   rw [grow_in h1 h2 hc]
   split
   ·exact e2
   exact e1
  rw [grow_none h1 h2 hc]; exact hs innR
theorem old_ok2 {m0 : Nat → Nat → Prop} {w0 w w' : World} {S : Nat → Prop} {ds : List Deferred} {K : Kn} {nt key : Nat} {t : Gr} {l : List (Nat × AV)} {mem : List (Nat × Blk)} {a : Act} (h : Fits ⟨m0, w0, S, ds, K⟩ ⟨nt, l, [], mem, [(key, t)]⟩ a w) (hS : ∀ k, ¬ S k) (hc : Chg (fun x => ownB t.v = some x) w w') {v : AV} (hv : Ok m0 w0 v) : Ok (mG m0 mem [(key, t)]) w' v := by
 refine hv.mono fun b o u hcell hn => ?_
 have hlt := World.block_lt_of_cell? w0 _ hcell
 have hown : ownB t.v ≠ some b := by
  intro hb
  obtain ⟨_, xs, ho⟩ := h.gr key t (by simp [lookM])
  exact absurd hlt (Nat.not_lt.2 (ho.lt b hb).1)
 refine ⟨?_, ?_⟩
 ·have e1 := h.chg.block b hlt (hS b)
  have e2 := hc.block b (Nat.lt_of_lt_of_le hlt h.chg.size) hown
  unfold World.cell? at hcell ⊢
  rw [e2, e1]; exact hcell
 rintro (h1 | ⟨k, e, he, h1⟩ | ⟨k, t', ht, hb, _⟩)
 ·exact hn h1
 ·subst h1
  rcases (h.mem k e he).2.2 with h2 | h2
  ·exact absurd hlt (Nat.not_lt.2 h2)
  exact hS _ h2
 obtain ⟨_, xs, ho⟩ := h.gr k t' ht
 exact absurd hlt (Nat.not_lt.2 (ho.lt b hb).1)
theorem lmL_chg {bN : Nat} {NX : List (Lab × Lab)} {m m' : Nat → Nat → Prop} {w w' : World} (h : (lmK labAV bN NX).p m w) (he : w'.heap[bN]? = w.heap[bN]?) : (lmK labAV bN NX).p m' w' := by
 obtain ⟨D, hD⟩ := h
 exact ⟨D, mapW_heap hD.map he, hD.nd, hD.labs, hD.has, hD.size, hD.at_, fun p hp => zLab_ok _ _ _⟩
theorem recV_cells {m : Nat → Nat → Prop} {w : World} {x : RA} (h : Ok m w (recV x)) (l : Lab) (v : Int) : ∀ u ∈ rowC ⟨l, v, x⟩, u.one = true ∧ Ok m w u := by
 cases h with
 | agg _ h1 h2 =>
  intro u hu
  simp only [rowC, List.mem_cons, List.not_mem_nil, or_false] at hu
  rcases hu with rfl | rfl | rfl | rfl | rfl | rfl | rfl | rfl
  ·exact ⟨rfl, .int _ _⟩
  ·exact ⟨rfl, .int _ _⟩
  ·exact ⟨rfl, .int _ _⟩
  ·exact ⟨rfl, .int _ _⟩
  ·exact ⟨h1 _ (by simp [recC]), h2 _ (by simp [recC])⟩
  ·exact ⟨rfl, .int _ _⟩
  ·exact ⟨rfl, .int _ _⟩
  exact ⟨rfl, .int _ _⟩
def fixA (NX : Lab → Lab) (r : RowA) : RowA := if r.x.r.kd = 1 then ⟨r.lab, r.ver, ⟨r.x.A, r.x.c, { r.x.r with nx := NX r.lab }⟩⟩ else r
theorem fixA_abs (NX : Lab → Lab) (r : RowA) : (fixA NX r).abs = fixN NX r.abs := by
 unfold fixA fixN
 by_cases h : r.x.r.kd = 1
 ·rw [if_pos h, if_pos (show r.abs.r.kind = 1 from h)]; rfl
 rw [if_neg h, if_neg (show ¬ r.abs.r.kind = 1 from h)]
theorem build_s (A : Option Addr) (n c : Nat) (f : Nat → Itm) (hn : n ≤ 1000000) (hki : ∀ i, i < n → U64 (f i).key) (b : Int) : Spec Tryz.prog 6 [rowI A n c f, .int .i64 b] (fun y => .tup [rowsV (y.A 0) (bldR n f b).length (y.c 0) (rwAt y (bldR n f b)), .int .i64 (bldE n f b)]) := by
 intro m w hm hargs
 have hmx : maxLen = 9223372036854775807 := rfl
 have hok := hargs (rowI A n c f) (by simp)
 have hvs : ∀ i, i < n → (f i).val.size ≤ maxLen := fun i hi => by
  have := ok_cell hok hi (.str (f i).val) (by simp [itC])
  cases this; assumption
 have SO := conO_s A n c f hn
 have SS := srtI_s A n c f hn
 obtain ⟨od, hod⟩ := eqv (oddB n f)
 obtain ⟨sr, hsr⟩ := eqv (srtB n f)
 obtain ⟨du, hdu⟩ := eqv (dupB n f)
 rw [← hod] at SO
 rw [← hsr] at SS
 unfold rowI at hargs SO SS
 refine en 95 hm hargs Tryz.func6 fun B hB a0 hF => ?_
 refine wp_seq (rg hB TA_ok [0, 1] [] [] hF fun X0 a0 w1 hF => ?_)
 refine wp_seq (rg hB TA_ok [6, 0, 1] [] [] hF fun X1 a0 w1 hF => ?_)
 refine wp_seq (rg hB TA_ok [7, 6, 0, 1] [] [] hF fun X2 a0 w1 hF => ?_)
 refine wp_seq (wp_region_lit ?_)
 refine lpr 0 1 hB TA_ok [16, 7, 6, 0, 1] [] [] hF (fun X3 a0 w1 hF => ?_)
 refine man_raw rfl rfl rfl rfl rfl hF rfl rfl (fun _ _ => by kernel_rfl) _ (clone_own A n c f hn (hF.slot 16 rfl).2) ?_
 rintro v w2 ⟨A2, c2, rfl, hO2, hb2⟩
 have hF2 := (hF.below hb2).put (some 17) (fun t ht => by injection ht with ht; subst ht; exact Nat.le_of_ble_eq_true rfl) (.raw (.slice A2 n c2)) (fun _ => .raw _) _ fun _ => rfl
 have hcc := compact_c hO2 hb2.size hn hvs
 refine man_raw (R := fun v w' => ∃ A m c, v = .slice A m c ∧ decide (m < n) = du ∧ OldB w1.heap.size w2 w') rfl rfl rfl rfl rfl hF2 rfl rfl (fun _ _ => by kernel_rfl) (hcc.mono ?_) ?_
 ·rintro e w' ⟨A3, m3, c3, rfl, h1, h2, h3⟩
  exact ⟨_, rfl, A3, m3, c3, rfl, by rw [hdu]; exact h1, h3⟩
 rintro v w3 ⟨A3, m3, c3, rfl, hm3, hold⟩
 have hb3 : Below w1.heap.size w1 w3 := ⟨hold.os.trans hb2.os, hold.tape.trans hb2.tape, hold.output.trans hb2.output, hold.size, fun k hk => (hold.block k hk).trans (hb2.block k hk)⟩
 have hF3 := (hF.below hb3).put (some 17) (fun t ht => by injection ht with ht; subst ht; exact Nat.le_of_ble_eq_true rfl) (.raw (.slice A2 n c2)) (fun _ => .raw _) (.slice A2 n c2) fun _ => rfl
 have hF3 := hF3.put (some 18) (fun t ht => by injection ht with ht; subst ht; exact Nat.le_of_ble_eq_true rfl) (.raw (.slice A3 m3 c3)) (fun _ => .raw _) (.slice A3 m3 c3) fun _ => rfl
 refine man_val (v := .int .i64 (m3 : Int)) rfl rfl rfl hF3 (Nat.le_of_ble_eq_true rfl) ?_ (.int _ _) fun a0 hF => ?_
 ·have h18 := (hF3.slot 18 rfl).1
  have hu : Tryz.prog.underlying 22 = some (.slice 63) := by kernel_rfl
  have h18' := (val_ok hF3 (q := []) (fun _ h => by cases h) (x := .tmp 18) rfl).1
  have h18'' : Act.eval ((a0.put (some 17) (.slice A2 n c2)).put (some 18) (.slice A3 m3 c3)) (.tmp 18) = .slice A3 m3 c3 := h18'
  simp [execOp, resolve, invoke, builtin, Builtin.len_, h18'', AV.den, run_underlying hu, goInt]
 refine lnd 4 hB TA_ok [8, 7, 6, 0, 1] [] [] hF (fun X4 a0 w1 hF => ?_)
 have hF := hF.headS (v' := .bool (.v du)) (by subst hB; exact Sim.bool (by rw [← hm3]; show decide ((m3 : Int) < (n : Int)) = decide (m3 < n); rw [decide_eq_decide]; omega)) rfl
 have O1 := SO
 have O2 := SS
 refine wp_seq (wp_block (wp_seq (rg hB TA_ok [23, 0, 1] [] [(9, .r fun _ => .bool (.v od)), (14, .r fun _ => .bool (.v sr))] hF (fun X5 a0 w1 hF => ?_) (hob := ?hob))))
 case hob =>
  intro X; subst hB
  repeat (first | exact trivial | refine ⟨rfl, ?_⟩ | refine ⟨fun _ => rfl, ?_⟩ | refine ⟨fun _ => ⟨fun _ _ => by kernel_rfl, SO⟩, ?_⟩ | refine ⟨fun _ => ⟨fun _ _ => by kernel_rfl, SS⟩, ?_⟩)
 refine test_ok hF rfl (fun hbA hF => ?_) (fun hbA hF => ?_)
 ·have h9 : (if (if (if (if decide (b < 1) = true then true else decide (b > 16)) = true then true else od) = true then true else !sr) = true then true else du) = true := by subst hB; exact hbA
  have hE : bldE n f b = 1 := by
   unfold bldE
   rw [if_pos]
   rw [← hod, ← hsr, ← hdu]
   by_cases g1 : b < 1
   ·exact .inl g1
   by_cases g2 : b > 16
   ·exact .inr (.inl g2)
   cases od
   ·cases sr
    ·exact .inr (.inr (.inr (.inl rfl)))
    cases du
    ·simp [g1, g2] at h9
    exact .inr (.inr (.inr (.inr rfl)))
   exact .inr (.inr (.inl rfl))
  refine wp_seq (rg hB TA_ok [4, 5] [4] [] hF fun X6 a0 w1 hF => ?_)
  refine wp_ret (rsi hB TA_ok hF ⟨0, fun _ => none, fun _ => 0, fun _ => .empty⟩ (he := ?_))
  subst hB
  rw [show bldR n f b = [] by unfold bldR; rw [hE]; rfl, hE]
  exact Sim.tup ⟨sim_nils, zr, trivial⟩
 have hE0 : bldE n f b = if 500 < n then 2 else if (growT n f b).1 = true then 0 else 2 := by
  have h9 : (if (if (if (if decide (b < 1) = true then true else decide (b > 16)) = true then true else od) = true then true else !sr) = true then true else du) = false := by subst hB; exact hbA
  unfold bldE
  rw [if_neg]
  rw [← hod, ← hsr, ← hdu]
  rintro (g | g | g | g | g) <;> simp [g] at h9
 refine wp_seq (rg hB TA_ok [44, 0, 1] [] [] hF fun X6 a0 w1 hF => ?_)
 refine test_ok hF rfl (fun hbB hF => ?_) (fun hbB hF => ?_)
 ·have hbig : 500 < n := by
   have : (500 : Int) < (n : Int) := by subst hB; simpa [std, sC] using hbB
   omega
  rw [if_pos hbig] at hE0
  refine wp_seq (rg hB TA_ok [4, 5] [4] [] hF fun X7 a0 w1 hF => ?_)
  refine wp_ret (rsi hB TA_ok hF ⟨0, fun _ => none, fun _ => 0, fun _ => .empty⟩ (he := ?_))
  subst hB
  rw [show bldR n f b = [] by unfold bldR; rw [hE0]; rfl, hE0]
  exact Sim.tup ⟨sim_nils, zr, trivial⟩
 have hsml : ¬ 500 < n := by
  have : ¬ (500 : Int) < (n : Int) := by subst hB; simpa [std, sC] using hbB
  omega
 rw [if_neg hsml] at hE0
 refine wp_skip (wp_seq (wp_region_lit ?_))
 refine man_makeMap (k := 37) (e := 0) rfl rfl rfl rfl hF (Nat.le_of_ble_eq_true rfl) (lmR w1.heap.size []) (fun m w' _ _ hM => ⟨[], rfl, _, LmD.empty hM⟩) ?_
 obtain ⟨bT, hbT⟩ := eqv (w1.heap.size)
 rw [← hbT]
 intro a0 w1 hfresh hF
 have hbfr : w.heap.size ≤ bT := hfresh
 refine lnd 1 hB TA_ok [9, 0, 1] [] [] hF (fun X7 a0 w1 hF => ?_)
 refine wp_seq (wp_seq (wp_region_lit ?_))
 refine lpr 0 4 hB TA_ok [49, 50, 51, 52, 9] [] [] hF (fun X8 a0 w1 hF => ?_)
 have hGM := grow_m bT b 65 A n c f ⟨0, 0⟩ [] hn hki ⟨by decide, by decide⟩ (by decide) (by decide)
 obtain ⟨gp, hgp⟩ := eqv (growT n f b)
 rw [show growP b 65 (firsts f n) ⟨0, 0⟩ [] = gp from hgp.symm] at hGM
 simp only [rowI, labAV] at hGM
 refine man_callM rfl rfl rfl rfl hF rfl rfl (fun _ _ => by kernel_rfl) hGM (fun _ _ h => h) (fun b' hb' => by cases hb'; exact fun h => absurd h (Nat.not_lt.2 hbfr)) (zl) (fun e he => by cases he) rfl rfl (fun _ => lmR bT gp.2) (fun _ _ _ _ _ _ _ _ _ h => h) ?_
 intro y a0 w1 hF
 obtain ⟨gb, hgb⟩ := eqv (gp.1)
 rw [← hgb] at hF
 refine lnd 5 hB TA_ok [54, 9] [] [] hF (fun X9 a0 w1 hF => ?_)
 refine test_ok hF rfl (fun hbC hF => ?_) (fun hbC hF => ?_)
 ·have hgf : gb = false := by subst hB; cases gb <;> first | rfl | cases hbC
  have hE : bldE n f b = 2 := by rw [hE0, ← hgp, ← hgb, hgf]; rfl
  refine wp_seq (rg hB TA_ok [4, 5] [4] [] hF fun X10 a0 w1 hF => ?_)
  refine wp_ret (rsi hB TA_ok hF ⟨0, fun _ => none, fun _ => 0, fun _ => .empty⟩ (he := ?_))
  subst hB
  rw [show bldR n f b = [] by unfold bldR; rw [hE]; rfl, hE]
  exact Sim.tup ⟨sim_nils, zr, trivial⟩
 have hgt : gb = true := by subst hB; cases gb <;> first | rfl | cases hbC
 have hE : bldE n f b = 0 := by rw [hE0, ← hgp, ← hgb, hgt]; rfl
 have hR : bldR n f b = (bld0 n f b).map (fixN (nxP (leavesP (bld0 n f b)))) := by unfold bldR; rw [if_pos hE]
 have h0 : bld0 n f b = (sortE gp.2).map rwOf := by unfold bld0; rw [← hgp]
 rw [hE, hR]
 refine wp_skip ?_
 -- from here on: a stretch of its own
 obtain ⟨wi, hwi⟩ := eqv (w1)
 have hMi : Mem m w (fun _ => False) noK [] [] wi := by rw [hwi]; exact (hF.withK (K' := noK) trivial).bare
 obtain ⟨TA, hTA, D, hD⟩ := hF.kept
 have hFs := (seg_of hF).withK (K' := ldK recV D bT TA) (seg_K (K := ldK recV D bT TA) hD)
 rw [← hwi] at hFs hD ⊢
 obtain ⟨mS, hmS⟩ := eqv (mT m [] [])
 have hokT : ∀ p ∈ TA, Ok mS wi (recV p.2) := fun p hp => by rw [hmS]; exact hD.ok p hp
 have hrets : ∀ {fn : Func} {nt0 : Nat} {tm0 : List (Nat × AV)} {R : Ending → World → Prop}, True := fun {_ _ _ _} => trivial
 replace hF := hFs
 rw [← hmS] at hF
 have hlabs : ∀ p ∈ TA, LabOk p.1 := hD.labs
 have hnd := hD.nd
 have hmapT : ∃ es cl, wi.heap[bT]? = some (.map es cl) := by obtain ⟨es, cl, h, _⟩ := hD.map; exact ⟨es, cl, h⟩
 refine wp_seq (rg hB TA_ok [10, 9] [10] [] hF fun X10 a0 w1 hF => ?_)
 refine wp_seq (wp_seq (wp_region_lit ?_))
 refine lpr 0 1 hB TA_ok [55, 10] [10] [] hF (fun X11 a0 w1 hF => ?_)
 obtain ⟨rr, hrr⟩ := eqv (w1.heap.size)
 refine man_range rfl rfl rfl rfl hF (Nat.le_of_ble_eq_true rfl) rfl labK mapr_und hF.kept.map (rgK recV D bT rr TA (Maps.has D) (Maps.size D)) (fun m w' h1 h2 h3 => ⟨h1.keep h2, by rw [hrr]; exact h3⟩) ?_
 rw [← hrr]
 intro a0 w1 hfr hF
 refine wpList_nil ?_
 replace hF := hF.keep [10, 56] [10]
 have hbTr : bT ≠ rr := by
  obtain ⟨es, cl, h⟩ := hmapT
  have := lt_heap h
  omega
 have hF := hF.headS (v' := .sl (some 10) none 0 0 8 (fun t => rowC zRow)) (zq0) rfl
 refine wp_block (loop_any (ι := Nat × (Nat → RowA) × Option Addr × Nat × (Lit → Bool) × Nat) (fun p a w1 => Fits ⟨mS, wi, ats [], [], rgK recV D bT rr TA p.2.2.2.2.1 p.2.2.2.2.2⟩ ⟨95, [(10, .sl (some 10) p.2.2.1 p.1 p.2.2.2.1 8 (fun t => rowC (p.2.1 t))), (56, .raw (.pointer (some ⟨rr, 0, none⟩)))], [], [], [(10, ⟨p.2.2.1, p.1, p.2.2.2.1, 8, 78⟩)]⟩ a w1) (fun p => (∀ kl, p.2.2.2.2.1 kl = true → Maps.has D kl = true) ∧ (rwsA p.2.1 p.1 ++ (TA.filter fun q => p.2.2.2.2.1 (keyL q.1)).map fun q => (rwA q).abs).Perm (TA.map fun q => (rwA q).abs) ∧ ∀ t, t < p.1 → ∃ q ∈ TA, p.2.1 t = rwA q) (fun p => p.2.2.2.2.2) (0, fun _ => zRow, none, 0, Maps.has D, Maps.size D) ⟨fun _ h => h, by
  have : TA.filter (fun q => Maps.has D (keyL q.1)) = TA := List.filter_eq_self.2 fun q hq => (hD.has _).2 ⟨q, hq, rfl⟩
  simp only [this]
  exact List.Perm.refl _, fun t ht => absurd ht (Nat.not_lt_zero _)⟩ hF ?_)
 rintro ⟨k1, h, A1, c1, left, cnt⟩ ⟨hlft, hprm, hels⟩ a0 w1 hF
 dsimp only at hlft hprm hels hF
 have hTl : TA.length ≤ 2000 := by
  have := grow_len (b := b) 65 (firsts f n) ⟨0, 0⟩ [] (Nat.zero_le _)
  have e : gp.2 = (growP b 65 (firsts f n) ⟨0, 0⟩ []).2 := by rw [hgp]; rfl
  rw [← e, ← hTA, absT_len] at this
  exact this
 have hk1 : k1 ≤ TA.length := by
  have h9 := hprm.length_eq
  simp only [List.length_append, listA_len, List.length_map] at h9
  omega
 refine wp_seq (wp_region_lit ?_)
 refine man_next1 rfl rfl rfl rfl hF (Nat.le_of_ble_eq_true rfl) rfl labK hF.kept.2 (fun h => absurd h (Nat.not_lt.2 hfr)) (spK recV D bT rr TA left) (fun m h _ => ⟨h.1, fun h => by cases h⟩) (fun key v kl cnt' m w' h1 h2 h3 h4 => ⟨h1.1.keepB h2 (fun e => hbTr (by injection e with e; exact e.symm)), fun _ => ⟨h3, h4⟩⟩) ?_
 intro a0 w1 bb rest' key v kl cnt' hn0 hn1 hF
 refine lnd 1 hB TA_ok [58, 10, 56] [10] [] hF (fun X12 a0 w1 hF => ?_)
 refine wp_seq (test_ok hF rfl (fun hbD hF => ?_) (fun hbD hF => ?_))
 ·have hbb : bb = true := by subst hB; exact hbD
  obtain ⟨hnx1, hnx2, hnx3, hnx4⟩ := hn1 hbb
  replace hF := hF.withK (K' := etK recV D bT rr TA (fun x => left x && !x.sameKey kl) key v cnt') ⟨hF.kept.1, hF.kept.2 hbb⟩
  refine wp_skip (wp_block (wp_seq (wp_region_lit ?_)))
  obtain ⟨⟨q, el⟩, hp, hpk, hpkey, hpv⟩ := hF.kept.1.entry hnx1 (hlft _ hnx2) hnx3
  dsimp only at hpk hpkey hpv
  have hent := hF.kept.2.2
  rw [hpkey, hpv] at hent
  have hok := hF.kept.1.ok _ hp
  refine man_entry rfl rfl rfl rfl hF (Nat.le_of_ble_eq_true rfl) rfl hent (zLab_ok _ _ q) hok ?_
  intro a0 hF
  simp only [labAV] at hF
  replace hF := hF.withK (K' := rgK recV D bT rr TA (fun x => left x && !x.sameKey kl) cnt') ⟨hF.kept.1, hF.kept.2.1⟩
  refine lnd 1 hB TA_ok [11, 12, 10, 56] [11, 12, 10] [] hF (fun X13 a0 w1 hF => ?_)
  refine rg hB TA_ok [10, 56] [10] [] hF (fun X14 a0 w1 hF => ?_) (hob := ?hob2)
  case hob2 =>
   intro X; subst hB
   repeat (first | exact trivial | refine ⟨⟨rfl, rfl, rfl⟩, ?_⟩ | refine ⟨rfl, ?_⟩ | refine ⟨⟨show k1 + 1 ≤ maxLen by omega, show (k1 + 1) * _ ≤ _ by omega⟩, ?_⟩)
  obtain ⟨h2, hh2⟩ : ∃ x : Nat → RowA, x = fun t => if t = k1 then rwA (q, el) else h t := ⟨_, rfl⟩
  have hF := hF.headS (v' := .sl (some 10) ((X14 5).A 0) (B.nadd k1 1) ((X14 5).c 0) 8 (fun t => rowC (h2 t))) (Sim.resl rfl (fun t ht => by
   subst hB
   have ht2 : t < k1 + 1 := ht
   show appC k1 (fun t => rowC (h t)) (chunk 8 (rowC (rwA (q, el)))) t = _
   rw [hh2]
   unfold appC
   dsimp only
   split
   ·rw [if_neg (by omega)]
   have : t = k1 := by omega
   subst this
   rw [if_pos rfl]
   simp [chunk])) rfl
  refine ⟨(k1 + 1, h2, _, _, (fun x => left x && !x.sameKey kl), cnt'), ⟨fun x hx => ?_, ?_, fun t ht => ?_⟩, hnx4, by rw [show k1 + 1 = B.nadd k1 1 by subst hB; rfl]; exact hF⟩
  ·simp only [Bool.and_eq_true] at hx
   exact hlft _ hx.1
  ·have h9 := (fresh_left (left := left) hnd hlabs hp (by rw [hpk]; exact hnx2)).map fun q => (rwA q).abs
   rw [hpk] at h9
   have e9 : rwsA h2 (k1 + 1) = rwsA h k1 ++ [(rwA (q, el)).abs] := by
    show listA RowA.abs _ (k1 + 1) = listA RowA.abs h k1 ++ _
    rw [listA_succ, hh2]
    simp only [if_true]
    congr 1
    unfold listA
    apply List.map_congr_left
    intro t ht
    have h5 := List.mem_range.1 ht
    show RowA.abs (if t = k1 then rwA (q, el) else h t) = _
    rw [if_neg (by omega)]
   simp only
   rw [e9, List.append_assoc]
   refine List.Perm.trans (List.Perm.append_left _ ?_) hprm
   rw [List.map_cons] at h9
   exact h9.symm
  simp only at ht ⊢
  rw [hh2]
  by_cases he : t = k1
  ·exact ⟨_, hp, by simp [he]⟩
  simp only [if_neg he]; exact hels t (by omega)
 have hbb : bb = false := by subst hB; exact hbD
 have hall := hn0 hbb
 have hprm2 : (rwsA h k1).Perm (TA.map fun q => (rwA q).abs) := by
  have e9 : (TA.filter fun q => left (keyL q.1)) = [] := List.filter_eq_nil_iff.2 fun q _ => by rw [hall]; simp
  rw [e9] at hprm
  simpa using hprm
 replace hF := hF.withK (K' := noK) trivial
 refine wp_exit (wp_seq (wp_region_lit ?_))
 refine lpr 0 1 hB TA_ok [68, 10] [10] [] hF (fun X13 a0 w1 hF => ?_)
 have hO := gr_own hF (hF.slot 10 rfl).2
 refine man_sorted rfl rfl rfl rfl rfl hF rfl rfl (fun _ _ => by kernel_rfl) (fun w' => ∃ h' : Nat → RowA, ((List.range k1).map h').Perm ((List.range k1).map h) ∧ (∀ i j, i < j → j < k1 → labLt (h' j).lab (h' i).lab = false) ∧ Own w' wi.heap.size 78 8 (.slice A1 k1 c1) k1 (rowFlat (fun t => rowC (h' t)) k1)) ((sortRowO_c hO (by omega)).mono ?_) ?_
 ·rintro e w2 ⟨he, h', g1, g2, g3, g4⟩
  exact ⟨he, ⟨h', g1, g2, g3⟩, g4⟩
 rintro w2 ⟨h', g1, g2, g3⟩ g4
 have hfin := build_fin hnd hprm2 g1 g2
 have hels' : ∀ i, i < k1 → ∃ q ∈ TA, h' i = rwA q := by
  intro i hi
  have hmem := g1.mem_iff.1 (List.mem_map.2 ⟨i, List.mem_range.2 hi, rfl⟩)
  obtain ⟨j, hj, hje⟩ := List.mem_map.1 hmem
  obtain ⟨q, hq, hqe⟩ := hels j (List.mem_range.1 hj)
  exact ⟨q, hq, by rw [← hje, hqe]⟩
 have hgrm : ∀ b', ownB (.slice A1 k1 c1) = some b' → ∀ o, o < k1 * 8 → ¬ mG mS [] [(10, ⟨A1, k1, c1, 8, 78⟩)] b' o := grown_free hF
 have hrow2 : Ok (mG mS [] [(10, ⟨A1, k1, c1, 8, 78⟩)]) w2 (.sl (some 10) A1 k1 c1 8 (fun t => rowC (h' t))) := own_known2 g3 (fun _ _ => rfl) hgrm (fun i hi => by
  obtain ⟨q, hq, e⟩ := hels' i hi
  rw [e]
  exact recV_cells (old_ok2 hF noAts g4 (hokT q hq)) _ _) _
 have hF := Fits.rowset (K' := noK) (l' := [(10, .sl (some 10) A1 k1 c1 8 (fun t => rowC (h' t)))]) hF g4 g3 (hl_cons ⟨(hF.slot 10 rfl).1, hrow2⟩ hl_nil) (fun k e he => by cases he) trivial
 have hF := (hF.put (some 69) (fun t ht => by injection ht with ht; subst ht; exact Nat.le_of_ble_eq_true rfl) (.tup []) (fun _ => .tup _ fun u hu => by cases hu) (.tuple #[]) fun _ => rfl)
 refine wpList_nil ?_
 replace hF := hF.keep [10] [10]
 have hk2000 : k1 ≤ 2000 := by omega
 obtain ⟨lv, hlv⟩ := eqv (leavesP (rwsA h' k1))
 have hlvl : lv.length ≤ k1 := by
  have := leaves_len (rwsA h' k1)
  rw [listA_len, ← hlv] at this
  exact this
 have hlvo := leaves_mem (l := rwsA h' k1) (p := LabOk) (fun x hx => by
  simp only [rwsA, listA, List.mem_map, List.mem_range] at hx
  obtain ⟨i, hi, rfl⟩ := hx
  obtain ⟨q, hq, e⟩ := hels' i hi
  rw [e]
  exact hlabs q hq)
 have SL := (leaves_s A1 k1 c1 h' (by omega)).args' (args := [.sl (some 10) A1 k1 c1 8 (fun t => rowC (h' t))]) ⟨Sim.resl rfl (fun t ht => rfl), trivial⟩
 rw [← hlv] at SL hlvo
 obtain ⟨lf, hlf⟩ := eqv (labF lv)
 obtain ⟨ln, hln⟩ := eqv (lv.length)
 rw [← hlf, ← hln] at SL hlvo
 rw [← hln] at hlvl
 obtain ⟨NX, hNX⟩ := eqv (nexA lf ln ln)
 have O1 := SL
 refine wp_seq (wp_region_lit ?_)
 refine lpr 0 2 hB TA_ok [71, 10] [10] [(1, .r fun y => labsV (y.A 0) ln (y.c 0) lf)] hF (fun X15 a0 w1 hF => ?_)
 refine man_callM rfl rfl rfl rfl hF rfl rfl (fun _ _ => by kernel_rfl) (nexts_m ((X15 1).A 0) ln ((X15 1).c 0) lf (by omega) hlvo) (fun _ _ h => h) (fun b hb => by cases hb) (zl) (fun e he => by cases he) rfl rfl (fun y => lmK labAV (y.c 0) NX) (fun _ _ _ _ _ _ _ _ _ h => by rw [hNX]; exact h.2) ?_
 intro y2 a0 w1 hF
 obtain ⟨bN, hbN⟩ := eqv (y2.c 0)
 rw [← hbN] at hF
 refine lnd 3 hB TA_ok [13, 10] [10] [] hF (fun X16 a0 w1 hF => ?_)
 obtain ⟨nx, hnx⟩ : ∃ x : Lab → Lab, x = fun q => (getA q NX).getD ⟨0, 0⟩ := ⟨_, rfl⟩
 have hnxP : nx = nxP lv := by
  funext q
  rw [hnx, hNX, hlf, hln]
  rfl
 refine wp_seq (wp_seq (rg hB TA_ok [75, 10, 73, 74, 13] [10] [] hF fun X17 a0 w1 hF => ?_))
 have hF0 := hF
 refine wp_block (loop_any (ι := Nat) (fun i a w1 => Fits ⟨mS, wi, ats [], [], lmK labAV bN NX⟩ ⟨95, [(75, .int .i64 (i : Int)), (10, .sl (some 10) A1 k1 c1 8 (fun t => rowC (if t < i then fixA nx (h' t) else h' t))), (73, .sl (some 10) A1 k1 c1 8 (fun t => rowC (if t < i then fixA nx (h' t) else h' t))), (74, .int .i64 (k1 : Int)), (13, .raw (.map (some bN)))], [], [], [(10, ⟨A1, k1, c1, 8, 78⟩)]⟩ a w1) (fun i => i ≤ k1) (fun i => k1 - i) 0 (Nat.zero_le _) (by subst hB; exact hF0) ?_)
 intro i hi a0 w1 hF
 obtain ⟨hc, hhc⟩ : ∃ x : Nat → RowA, x = fun t => if t < i then fixA nx (h' t) else h' t := ⟨_, rfl⟩
 have ehc : (fun t => rowC (if t < i then fixA nx (h' t) else h' t)) = fun t => rowC (hc t) := by rw [hhc]
 rw [ehc] at hF
 have hci : hc i = h' i := by rw [hhc]; simp
 refine wp_seq (rg hB TA_ok [76, 75, 10, 73, 74, 13] [10] [] hF fun X18 a0 w1 hF => ?_)
 refine wp_seq (test_ok hF rfl (fun hbE hF => ?_) (fun hbE hF => ?_))
 ·have hin : i < k1 := by
   have : (i : Int) < (k1 : Int) := by subst hB; simpa [std, sC] using hbE
   omega
  have eI : B.arith .add .i64 (i : Int) 1 = ((i + 1 : Nat) : Int) := by subst hB; exact wrap_succ (n := k1) hin (by omega)
  refine wp_skip (wp_seq (wp_block (wp_seq (rg hB TA_ok [14, 15, 75, 10, 73, 74, 13] [15, 10] [] hF (fun X19 a0 w1 hF => ?_) (hob := ?hob3)))))
  case hob3 =>
   intro X; subst hB
   repeat (first | exact trivial | refine ⟨rfl, ?_⟩ | refine ⟨(show (0 : Int) ≤ (i : Int) ∧ (i : Int) < (k1 : Int) by omega), ?_⟩)
  have hF := hF.memS (cells' := rowC (hc i)) (by subst hB; exact zl)
  refine wp_seq (rg hB TA_ok [83, 14, 15, 75, 10, 73, 74, 13] [15, 10] [] hF fun X20 a0 w1 hF => ?_)
  refine test_ok hF rfl (fun hbF hF => ?_) (fun hbF hF => ?_)
  ·have hk1' : (h' i).x.r.kd = 1 := by rw [← hci]; subst hB; simpa [std, sC] using hbF
   obtain ⟨nq, hnq⟩ := eqv (nx (hc i).lab)
   have hlq : LabOk (hc i).lab := by
    rw [hci]
    obtain ⟨q, hq, e⟩ := hels' i hin
    rw [e]
    exact hlabs q hq
   have ON := look_ff (K := lmK labAV bN NX) (el := labAV) (l := (hc i).lab) (fun m w h => h) hlq mapl_und zLab_run (fun m w => zLab_ok m w _) (v := labAV nq) (by rw [hnq, hnx])
   simp only [labAV] at ON
   refine wp_region_lit ?_
   refine lpr 0 9 hB TA_ok [92, 89, 75, 10, 73, 74, 13] [10] [(5, .r fun _ => .agg [.int .i64 nq.len, .int .u64 nq.bits])] hF (fun X21 a0 w1 hF => ?_) (hob := ?hob4)
   case hob4 =>
    intro X; subst hB
    repeat (first | exact trivial | refine ⟨rfl, ?_⟩ | refine ⟨ON, ?_⟩ | refine ⟨(show (0 : Int) ≤ (i : Int) ∧ (i : Int) < (k1 : Int) by omega), ?_⟩)
   have hF := hF.headS (v' := .ep A1 i 8 5 (rowC (hc i))) (by subst hB; exact zr) rfl
   have hrowk : Ok _ w1 (.sl (some 10) A1 k1 c1 8 (fun t => rowC (hc t))) := (hF.slot 10 rfl).2
   have hbNr : ownB (.slice A1 k1 c1) ≠ some bN := by
    intro e
    obtain ⟨_, xs, ho⟩ := hF.gr 10 ⟨A1, k1, c1, 8, 78⟩ rfl
    obtain ⟨c', t', f', hcl⟩ := ho.isCells e
    obtain ⟨es, cl, hm⟩ := lmK_map hF.kept
    rw [hm] at hcl; cases hcl
   have hKl := hF.kept
   refine man_rstore rfl rfl rfl rfl hF rfl rfl (.inr rfl) TA_ok rfl rfl hrowk (fun _ _ => rfl) hin (show 5 + 2 ≤ 8 from by decide) (fun w2 hO2 hc2 _ => ?_)
   obtain ⟨h2, hh2⟩ : ∃ x : Nat → RowA, x = fun t => if t < i + 1 then fixA nx (h' t) else h' t := ⟨_, rfl⟩
   have efl : wrC (fun t => rowC (hc t)) i 5 [.int .i64 nq.len, .int .u64 nq.bits] = fun t => rowC (h2 t) := by
    funext t
    rw [hh2]
    unfold wrC
    by_cases hti : t = i
    ·subst hti
     rw [if_pos rfl]
     show List.take 5 (rowC (hc t)) ++ [.int .i64 nq.len, .int .u64 nq.bits] ++ List.drop (5 + 2) (rowC (hc t)) = rowC (if t < t + 1 then fixA nx (h' t) else h' t)
     rw [if_pos (Nat.lt_succ_self t), hnq, hci]
     unfold fixA
     rw [if_pos hk1']
     rfl
    rw [if_neg hti, hhc]
    dsimp only
    by_cases ht2 : t < i
    ·rw [if_pos ht2, if_pos (by omega)]
    rw [if_neg ht2, if_neg (by omega)]
   have hO2 : Own w2 wi.heap.size 78 8 (.slice A1 k1 c1) k1 (rowFlat (fun t => rowC (h2 t)) k1) := by rw [← efl]; exact hO2
   have hgrm2 := grown_free hF
   have hrow2 : Ok (mG mS [] [(10, ⟨A1, k1, c1, 8, 78⟩)]) w2 (.sl (some 10) A1 k1 c1 8 (fun t => rowC (h2 t))) := own_known2 hO2 (fun _ _ => rfl) hgrm2 (fun j hj => by
    obtain ⟨q, hq, e⟩ := hels' j hj
    have h5 := old_ok2 hF noAts hc2 (hokT q hq)
    rw [hh2]
    dsimp only
    split
    ·rw [e]
     unfold fixA
     split
     ·have := recV_cells h5 (rwA q).lab (rwA q).ver
      intro u hu
      simp only [rowC, List.mem_cons, List.not_mem_nil, or_false] at hu
      rcases hu with rfl | rfl | rfl | rfl | rfl | rfl | rfl | rfl
      ·exact ⟨rfl, .int _ _⟩
      ·exact ⟨rfl, .int _ _⟩
      ·exact ⟨rfl, .int _ _⟩
      ·exact ⟨rfl, .int _ _⟩
      ·exact this _ (by simp [rowC, rwA])
      ·exact ⟨rfl, .int _ _⟩
      ·exact ⟨rfl, .int _ _⟩
      exact ⟨rfl, .int _ _⟩
     exact recV_cells h5 _ _
    rw [e]; exact recV_cells h5 _ _) _
   have hF := Fits.rowset (K' := lmK labAV bN NX) (l' := [(75, .int .i64 (i : Int)), (10, .sl (some 10) A1 k1 c1 8 (fun t => rowC (h2 t))), (73, .sl (some 10) A1 k1 c1 8 (fun t => rowC (h2 t))), (74, .int .i64 (k1 : Int)), (13, .raw (.map (some bN)))]) hF hc2 hO2 (hl_cons ⟨(hF.slot 75 rfl).1, .int _ _⟩ (hl_cons ⟨(hF.slot 10 rfl).1, hrow2⟩ (hl_cons ⟨(hF.slot 73 rfl).1, hrow2⟩ (hl_cons ⟨(hF.slot 74 rfl).1, .int _ _⟩ (hl_cons ⟨(hF.slot 13 rfl).1, .raw _⟩ hl_nil))))) (fun k e he => by cases he) (lmL_chg hKl (hc2.block bN (lmK_lt hKl) hbNr))
   refine wpList_nil ?_
   refine rg hB TA_ok [75, 10, 73, 74, 13] [10] [] hF fun X22 a0 w1 hF => ?_
   exact ⟨i + 1, by omega, by omega, by rw [← eI]; rw [hh2] at hF; exact hF⟩
  have hk1' : ¬ (h' i).x.r.kd = 1 := by rw [← hci]; subst hB; simpa [std, sC] using hbF
  refine wp_skip (rg hB TA_ok [75, 10, 73, 74, 13] [10] [] hF fun X21 a0 w1 hF => ?_)
  have e2 : hc = fun t => if t < i + 1 then fixA nx (h' t) else h' t := by
   funext t
   rw [hhc]
   dsimp only
   by_cases ht2 : t < i
   ·rw [if_pos ht2, if_pos (by omega)]
   rw [if_neg ht2]
   by_cases hti : t = i
   ·subst hti
    rw [if_pos (by omega)]
    unfold fixA
    rw [if_neg hk1']
   rw [if_neg (by omega)]
  exact ⟨i + 1, by omega, by omega, by rw [← eI]; rw [e2] at hF; exact hF⟩
 have hik : i = k1 := by
  have : ¬ (i : Int) < (k1 : Int) := by subst hB; simpa [std, sC] using hbE
  omega
 refine wp_exit (wp_seq (rg hB TA_ok [4, 5] [10] [] hF fun X19 a0 w1 hF => ?_))
 have hFf := seg_end hMi (by rw [← hmS]; exact hF.withK (K' := noK) trivial)
 have hRf : rwsA hc k1 = (bld0 n f b).map (fixN (nxP (leavesP (bld0 n f b)))) := by
  rw [h0, ← hTA, ← hfin, ← hlv, ← hnxP]
  show listA RowA.abs hc k1 = (listA RowA.abs h' k1).map (fixN nx)
  unfold listA
  rw [List.map_map]
  apply List.map_congr_left
  intro t ht
  have h5 := List.mem_range.1 ht
  rw [hhc]
  simp only [Function.comp]
  rw [if_pos (by omega), fixA_abs]
 refine wp_ret (rsi hB TA_ok hFf (rwY A1 c1 hc 0) (he := ?_))
 subst hB
 exact Sim.tup ⟨rws_sim hRf, zr, trivial⟩
inductive Tr (α : Type) where
 | ret (a : α)
 | dead
 | note (x : Nt) (t : Tr α)
 | ask (w : Wq) (f : GotA → Tr α)
def Tr.bind {α β : Type} : Tr α → (α → Tr β) → Tr β
 | .ret a, f => f a
 | .dead, _ => .dead
 | .note x t, f => .note x (t.bind f)
 | .ask w g, f => .ask w fun a => (g a).bind f
def Tr.run {α : Type} (k : Int) : Tr α → Pst → Rs α
 | .ret a, p => .ok a p
 | .dead, p => .stop zWq p
 | .note x t, p => t.run k ⟨p.n, p.g, x⟩
 | .ask w f, p => (askM k w p).bind fun g p => (f g).run k p
theorem Rs.assoc {α β γ : Type} (m : Rs α) (f : α → Pst → Rs β) (g : β → Pst → Rs γ) : (m.bind f).bind g = m.bind fun a p => (f a p).bind g := by cases m <;> rfl
theorem run_bind {α β : Type} {k : Int} : ∀ (t : Tr α) (f : α → Tr β) (p : Pst), (t.bind f).run k p = (t.run k p).bind fun a q => (f a).run k q
 | .ret a, f, p => rfl
 | .dead, f, p => rfl
 | .note x t, f, p => run_bind t f _
 | .ask w g, f, p => by
  show (askM k w p).bind (fun a q => ((g a).bind f).run k q) = ((askM k w p).bind fun a q => (g a).run k q).bind _
  rw [Rs.assoc]
  congr 1
  funext a q
  exact run_bind (g a) f q
section
variable {α β : Type} {k : Int} {p : Pst}
theorem rb {t : Tr α} {m : Rs α} {f : α → Tr β} {f' : α → Pst → Rs β} (h : t.run k p = m) (hf : ∀ a q, (f a).run k q = f' a q) : (t.bind f).run k p = m.bind f' := by
 subst h
 rw [run_bind]
 congr 1
 funext a q
 exact hf a q
theorem ri {c : Prop} [Decidable c] {x y : Tr α} {x' y' : Rs α} (hx : x.run k p = x') (hy : y.run k p = y') : (if c then x else y).run k p = if c then x' else y' := by
 by_cases h : c
 ·rw [if_pos h, if_pos h]; exact hx
 rw [if_neg h, if_neg h]; exact hy
end
def askT (w : Wq) : Tr GotA := .ask w .ret
def getT (l : Lab) : Tr GotA := askT ⟨1, l, 0, zeroRec, zRsl⟩
def casT (l : Lab) (v : Int) (r : Rec) : Tr Bool := (askT ⟨2, l, v, r, zRsl⟩).bind fun g => .ret (decide (g.code = 0))
def drpT (l : Lab) (v : Int) : Tr Bool := (askT ⟨3, l, v, zeroRec, zRsl⟩).bind fun g => .ret (decide (g.code = 0))
def splCT (l : Lab) (v : Int) (c : Lab) (x : Rec) : Nat → Tr Bool
 | 0 => .dead
 | n + 1 => (getT c).bind fun g => if (g.has && !decide (g.x.r.kd = 5)) = true then .ret true else (getT l).bind fun q => if q.ver = v then (casT c g.ver x).bind fun d => if d = true then .ret true else splCT l v c x n else .ret false
def splitT (n : Nat) (l : Lab) (v : Int) (x : RA) : Tr Unit :=
 if (halvA x l).2.2 = 0 then
  (splCT l v (chV l 0) (halvA x l).1 n).bind fun go => if go = true then (splCT l v (chV l 1) (halvA x l).2.1 n).bind fun go => if go = true then (casT l v innerR).bind fun _ => .ret () else .ret () else .ret ()
 else .ret ()
def frzT (l : Lab) (v : Int) (c : Lab) : Nat → Tr Fz
 | 0 => .dead
 | n + 1 => (getT c).bind fun g => if (gk g 1 || gk g 5) = true then (if (gk g 5 && decide (g.x.r.mrk = v)) = true then .ret (.fr g.x) else (getT l).bind fun q => if q.ver = v then (casT c g.ver (asR 5 g.x v).r.abs).bind fun d => if d = true then .ret (.fr (asR 5 g.x v)) else frzT l v c n else .ret .over) else .ret .unfit
def clnCT (l : Lab) (cl : Lab → Tr Unit) (c : Lab) : Tr Bool :=
 (getT c).bind fun g => if gk g 5 = true then (cl c).bind fun _ => (getT l).bind fun q => if (gk q 1 || gk q 5) = true then (drpT c g.ver).bind fun _ => .ret true else .ret false else .ret true
def clnT : Nat → Lab → Tr Unit
 | 0, _ => .dead
 | n + 1, l => if l.len = 64 then .ret () else (clnCT l (clnT n) (chV l 0)).bind fun go => if go = true then (clnCT l (clnT n) (chV l 1)).bind fun _ => .ret () else .ret ()
def bckT (th : Lab → Tr Unit) (l : Lab) (v : Int) : Tr Unit := (casT l v innerR).bind fun d => if d = true then (th (chV l 0)).bind fun _ => th (chV l 1) else .ret ()
def mrgT (bk : Int) (n : Nat) (th : Lab → Tr Unit) (l : Lab) (v : Int) : Tr Unit :=
 (frzT l v (chV l 0) n).bind fun a => match a with
  | .over => .ret ()
  | .unfit => bckT th l v
  | .fr a => (frzT l v (chV l 1) n).bind fun b => match b with
   | .over => .ret ()
   | .unfit => bckT th l v
   | .fr b => if (uniA a b).2 = 0 ∧ ((uniA a b).1.items.length : Int) ≤ bk then (casT l v (uniA a b).1).bind fun d => if d = true then clnT n l else .ret () else bckT th l v
def finT (bk : Int) (n : Nat) (th : Lab → Tr Unit) (l : Lab) (g : GotA) : Tr Unit :=
 if gk g 3 = true then splitT n l g.ver g.x else if l.len < 64 then mrgT bk n th l g.ver else .ret ()
def thwLT (bk : Int) : Nat → Lab → Lab → Tr Unit
 | 0, _, _ => .dead
 | n + 1, l, up => (getT l).bind fun g => if gk g 5 = true then (getT up).bind fun q =>
   (if (gk q 3 || gk q 4) = true then finT bk n (fun c => if parE c = 0 then thwLT bk n c (parV c) else .ret ()) up q else .ret ()).bind fun _ =>
    if gk q 2 = true then (casT l g.ver (asR 1 g.x 0).r.abs).bind fun d => if d = true then .ret () else thwLT bk n l up else .ret () else .ret ()
def thwT (bk : Int) (n : Nat) (l : Lab) : Tr Unit := if parE l = 0 then thwLT bk n l (parV l) else .ret ()
def fnsT (bk : Int) (n : Nat) (l : Lab) (g : GotA) : Tr Unit := finT bk n (thwT bk n) l g
def linT (bk key : Int) : Nat → Lab → Tr Spt
 | 0, _ => .dead
 | n + 1, l => (getT l).bind fun g =>
   if gk g 1 = true then .ret ⟨l, g⟩
   else if (gk g 3 || gk g 4) = true then (fnsT bk n l g).bind fun _ => linT bk key n l
   else if (gk g 2 && decide (l.len < 64)) = true then linT bk key n (ofV key (l.len + 1))
   else if gk g 5 = true then (thwT bk n l).bind fun _ => linT bk key n rootL
   else if (!g.has && decide (l = rootL)) = true then (casT rootL g.ver leafR).bind fun _ => linT bk key n rootL
   else linT bk key n rootL
def lftT (bk : Int) (n : Nat) (l : Lab) : Tr Bool :=
 if parE l = 0 then (getT (parV l)).bind fun q => if (gk q 2 || gk q 3 || gk q 4) = true then (thwT bk n l).bind fun _ => .ret false else .ret true else .ret true
def binT (bk key : Int) : Nat → Int → Int → Tr Spt
 | 0, _, _ => .dead
 | n + 1, lo, hi =>
   if lo ≤ hi then (getT (ofV key ((lo + hi) / 2))).bind fun g =>
    if gk g 1 = true then .ret ⟨ofV key ((lo + hi) / 2), g⟩
    else if gk g 2 = true then binT bk key n ((lo + hi) / 2 + 1) hi
    else if (gk g 3 || gk g 4) = true then (fnsT bk n (ofV key ((lo + hi) / 2)) g).bind fun _ => binT bk key n lo hi
    else if gk g 5 = true then (lftT bk n (ofV key ((lo + hi) / 2))).bind fun b => if b = true then binT bk key n lo ((lo + hi) / 2 - 1) else binT bk key n lo hi
    else binT bk key n lo ((lo + hi) / 2 - 1)
   else linT bk key (n + 1) rootL
def sekT (bk how key : Int) (n : Nat) : Tr Spt := if how = 1 then linT bk key n rootL else binT bk key n 0 64
def lokT (bk how key : Int) (n : Nat) : Tr Rsl := (sekT bk how key n).bind fun s => .ret ⟨0, finB s.g.x key, finV s.g.x key, [], 0, false⟩
section
variable {k bk key : Int}
theorem run_ask (w : Wq) (p : Pst) : (askT w).run k p = askM k w p := by
 show (askM k w p).bind (fun g p => .ok g p) = _
 cases askM k w p <;> rfl
theorem run_get (l : Lab) (p : Pst) : (getT l).run k p = getM k l p := run_ask _ _
theorem run_cas (l : Lab) (v : Int) (r : Rec) (p : Pst) : (casT l v r).run k p = casM k l v r p := rb (run_ask _ _) fun _ _ => rfl
theorem run_drp (l : Lab) (v : Int) (p : Pst) : (drpT l v).run k p = drpM k l v p := rb (run_ask _ _) fun _ _ => rfl
theorem run_splC (l : Lab) (v : Int) (c : Lab) (x : Rec) : ∀ n p, (splCT l v c x n).run k p = splC k l v c x n p
 | 0, p => rfl
 | n + 1, p => rb (run_get _ _) fun _ _ => ri rfl (rb (run_get _ _) fun _ _ => ri (rb (run_cas _ _ _ _) fun _ _ => ri rfl (run_splC l v c x n _)) rfl)
theorem run_split (n : Nat) (l : Lab) (v : Int) (x : RA) (p : Pst) : (splitT n l v x).run k p = splitM k n l v x p :=
 ri (rb (run_splC _ _ _ _ _ _) fun _ _ => ri (rb (run_splC _ _ _ _ _ _) fun _ _ => ri (rb (run_cas _ _ _ _) fun _ _ => rfl) rfl) rfl) rfl
theorem run_frz (l : Lab) (v : Int) (c : Lab) : ∀ n p, (frzT l v c n).run k p = frzM k l v c n p
 | 0, p => rfl
 | n + 1, p => rb (run_get _ _) fun _ _ => ri (ri rfl (rb (run_get _ _) fun _ _ => ri (rb (run_cas _ _ _ _) fun _ _ => ri rfl (run_frz l v c n _)) rfl)) rfl
theorem run_clnC (l : Lab) {cl : Lab → Tr Unit} {cl' : Lab → Pst → Rs Unit} (h : ∀ c p, (cl c).run k p = cl' c p) (c : Lab) (p : Pst) : (clnCT l cl c).run k p = clnC k l cl' c p :=
 rb (run_get _ _) fun _ _ => ri (rb (h _ _) fun _ _ => rb (run_get _ _) fun _ _ => ri (rb (run_drp _ _ _) fun _ _ => rfl) rfl) rfl
theorem run_cln : ∀ n l p, (clnT n l).run k p = clnM k n l p
 | 0, l, p => rfl
 | n + 1, l, p => ri rfl (rb (run_clnC _ (run_cln n) _ _) fun _ _ => ri (rb (run_clnC _ (run_cln n) _ _) fun _ _ => rfl) rfl)
theorem run_bck {th : Lab → Tr Unit} {th' : Lab → Pst → Rs Unit} (h : ∀ c p, (th c).run k p = th' c p) (l : Lab) (v : Int) (p : Pst) : (bckT th l v).run k p = bckM k th' l v p :=
 rb (run_cas _ _ _ _) fun _ _ => ri (rb (h _ _) fun _ _ => h _ _) rfl
theorem run_mrg (n : Nat) {th : Lab → Tr Unit} {th' : Lab → Pst → Rs Unit} (h : ∀ c p, (th c).run k p = th' c p) (l : Lab) (v : Int) (p : Pst) : (mrgT bk n th l v).run k p = mrgM bk k n th' l v p :=
 rb (run_frz _ _ _ _ _) fun a _ => match a with
  | .over => rfl
  | .unfit => run_bck h _ _ _
  | .fr a => rb (run_frz _ _ _ _ _) fun b _ => match b with
   | .over => rfl
   | .unfit => run_bck h _ _ _
   | .fr b => ri (rb (run_cas _ _ _ _) fun _ _ => ri (run_cln _ _ _) rfl) (run_bck h _ _ _)
theorem run_fin (n : Nat) {th : Lab → Tr Unit} {th' : Lab → Pst → Rs Unit} (h : ∀ c p, (th c).run k p = th' c p) (l : Lab) (g : GotA) (p : Pst) : (finT bk n th l g).run k p = finM bk k n th' l g p :=
 ri (run_split _ _ _ _ _) (ri (run_mrg _ h _ _ _) rfl)
theorem run_thwL : ∀ n l up p, (thwLT bk n l up).run k p = thwL bk k n l up p
 | 0, l, up, p => rfl
 | n + 1, l, up, p => rb (run_get _ _) fun _ _ => ri (rb (run_get _ _) fun _ _ => rb (ri (run_fin _ (fun c p => ri (run_thwL n _ _ _) rfl) _ _ _) rfl) fun _ _ => ri (rb (run_cas _ _ _ _) fun _ _ => ri rfl (run_thwL n _ _ _)) rfl) rfl
theorem run_thw (n : Nat) (l : Lab) (p : Pst) : (thwT bk n l).run k p = thwM bk k n l p := ri (run_thwL _ _ _ _) rfl
theorem run_fns (n : Nat) (l : Lab) (g : GotA) (p : Pst) : (fnsT bk n l g).run k p = fnsM bk k n l g p := run_fin _ (run_thw n) _ _ _
theorem run_lin : ∀ n l p, (linT bk key n l).run k p = linM bk k key n l p
 | 0, l, p => rfl
 | n + 1, l, p => rb (run_get _ _) fun _ _ => ri rfl (ri (rb (run_fns _ _ _ _) fun _ _ => run_lin n _ _) (ri (run_lin n _ _) (ri (rb (run_thw _ _ _) fun _ _ => run_lin n _ _) (ri (rb (run_cas _ _ _ _) fun _ _ => run_lin n _ _) (run_lin n _ _)))))
theorem run_lft (n : Nat) (l : Lab) (p : Pst) : (lftT bk n l).run k p = lftM bk k n l p :=
 ri (rb (run_get _ _) fun _ _ => ri (rb (run_thw _ _ _) fun _ _ => rfl) rfl) rfl
theorem run_bin : ∀ n lo hi p, (binT bk key n lo hi).run k p = binM bk k key n lo hi p
 | 0, lo, hi, p => rfl
 | n + 1, lo, hi, p => ri (rb (run_get _ _) fun _ _ => ri rfl (ri (run_bin n _ _ _) (ri (rb (run_fns _ _ _ _) fun _ _ => run_bin n _ _ _) (ri (rb (run_lft _ _ _) fun _ _ => ri (run_bin n _ _ _) (run_bin n _ _ _)) (run_bin n _ _ _))))) (run_lin _ _ _)
theorem run_sek (how : Int) (n : Nat) (p : Pst) : (sekT bk how key n).run k p = sekM bk k how key n p := ri (run_lin _ _ _) (run_bin _ _ _ _)
theorem run_lok (how : Int) (n : Nat) (p : Pst) : (lokT bk how key n).run k p = lokM bk k how key n p := rb (run_sek _ _ _) fun _ _ => rfl
end
inductive App {α : Type} : Nat → Tr α → Tr α → Prop
 | zero {t t' : Tr α} : App 0 t t'
 | ret {d : Nat} (a : α) : App d (.ret a) (.ret a)
 | note {d : Nat} {x : Nt} {t t' : Tr α} (h : App d t t') : App d (.note x t) (.note x t')
 | ask {d : Nat} {w : Wq} {f f' : GotA → Tr α} (h : ∀ g, App d (f g) (f' g)) : App (d + 1) (.ask w f) (.ask w f')
section
variable {α β : Type} {d e : Nat}
theorem App.mono {t t' : Tr α} (h : App d t t') : ∀ {e : Nat}, e ≤ d → App e t t' := by
  induction h with
  | zero => intro e he; have : e = 0 := by omega
            subst this; exact .zero
  | ret a => intro e he; exact .ret a
  | note h ih => intro e he; exact .note (ih he)
  | ask h ih =>
    intro e he
    cases e with
    | zero => exact .zero
    | succ e => exact .ask fun g => ih g (by omega)
theorem App.bind {t t' : Tr α} (h : App d t t') : ∀ {f f' : α → Tr β}, (∀ a, App d (f a) (f' a)) → App d (t.bind f) (t'.bind f') := by
 induction h with
 | zero => intro f f' hf; exact .zero
 | ret a => intro f f' hf; exact hf a
 | note h ih => intro f f' hf; exact .note (ih hf)
 | ask h ih => intro f f' hf; exact .ask fun g => ih g fun a => (hf a).mono (by omega)
theorem app_ite {c : Prop} [Decidable c] {x y x' y' : Tr α} (hx : App d x x') (hy : App d y y') : App d (if c then x else y) (if c then x' else y') := by split <;> assumption
theorem run_app {k : Int} {t t' : Tr α} (h : App d t t') : ∀ {p : Pst}, p.n < d → t.run k p = t'.run k p := by
 induction h with
 | zero => intro p hp; omega
 | ret a => intro p _; rfl
 | note h ih => intro p hp; exact ih hp
 | @ask d w f f' h ih =>
  intro p hp
  show (askM k w p).bind _ = (askM k w p).bind _
  unfold askM
  split
  ·rename_i h0
   refine ih _ ?_
   show p.n - 1 < d
   omega
  rfl
end
theorem app_ask {d : Nat} (w : Wq) : App d (askT w) (askT w) := by
 cases d with
 | zero => exact .zero
 | succ d => exact .ask fun g => .ret g
theorem app_get {d : Nat} (l : Lab) : App d (getT l) (getT l) := app_ask _
theorem app_cas {d : Nat} (l : Lab) (v : Int) (r : Rec) : App d (casT l v r) (casT l v r) := (app_ask _).bind fun _ => .ret _
theorem app_drp {d : Nat} (l : Lab) (v : Int) : App d (drpT l v) (drpT l v) := (app_ask _).bind fun _ => .ret _
theorem app_get1 {α : Type} {d : Nat} {l : Lab} {f f' : GotA → Tr α} (h : ∀ g, App d (f g) (f' g)) : App (d + 1) ((getT l).bind f) ((getT l).bind f') := .ask h
section
variable {bk key : Int}
theorem app_splC (l : Lab) (v : Int) (c : Lab) (x : Rec) : ∀ {d n n' : Nat}, d ≤ n → d ≤ n' → App d (splCT l v c x n) (splCT l v c x n')
 | 0, _, _, _, _ => .zero
 | d + 1, n + 1, n' + 1, h, h' => app_get1 fun _ => app_ite (.ret _) ((app_get _).bind fun _ => app_ite ((app_cas _ _ _).bind fun _ => app_ite (.ret _) (app_splC l v c x (by omega) (by omega))) (.ret _))
theorem app_split {d n n' : Nat} (l : Lab) (v : Int) (x : RA) (h : d ≤ n) (h' : d ≤ n') : App d (splitT n l v x) (splitT n' l v x) :=
 app_ite ((app_splC _ _ _ _ h h').bind fun _ => app_ite ((app_splC _ _ _ _ h h').bind fun _ => app_ite ((app_cas _ _ _).bind fun _ => .ret _) (.ret _)) (.ret _)) (.ret _)
theorem app_frz (l : Lab) (v : Int) (c : Lab) : ∀ {d n n' : Nat}, d ≤ n → d ≤ n' → App d (frzT l v c n) (frzT l v c n')
 | 0, _, _, _, _ => .zero
 | d + 1, n + 1, n' + 1, h, h' => app_get1 fun _ => app_ite (app_ite (.ret _) ((app_get _).bind fun _ => app_ite ((app_cas _ _ _).bind fun _ => app_ite (.ret _) (app_frz l v c (by omega) (by omega))) (.ret _))) (.ret _)
theorem app_clnC (l : Lab) {d : Nat} {cl cl' : Lab → Tr Unit} (h : ∀ c, App d (cl c) (cl' c)) (c : Lab) : App (d + 1) (clnCT l cl c) (clnCT l cl' c) :=
 app_get1 fun _ => app_ite ((h _).bind fun _ => (app_get _).bind fun _ => app_ite ((app_drp _ _).bind fun _ => .ret _) (.ret _)) (.ret _)
theorem app_cln : ∀ {d n n' : Nat} (l : Lab), d ≤ n → d ≤ n' → App d (clnT n l) (clnT n' l)
 | 0, _, _, _, _, _ => .zero
 | d + 1, n + 1, n' + 1, l, h, h' => app_ite (.ret _) ((app_clnC _ (fun c => app_cln c (by omega) (by omega)) _).bind fun _ => app_ite ((app_clnC _ (fun c => app_cln c (by omega) (by omega)) _).bind fun _ => .ret _) (.ret _))
theorem app_bck {d : Nat} {th th' : Lab → Tr Unit} (h : ∀ c, App d (th c) (th' c)) (l : Lab) (v : Int) : App d (bckT th l v) (bckT th' l v) :=
 (app_cas _ _ _).bind fun _ => app_ite ((h _).bind fun _ => h _) (.ret _)
theorem app_mrg {d n n' : Nat} {th th' : Lab → Tr Unit} (hn : d ≤ n) (hn' : d ≤ n') (h : ∀ c, App d (th c) (th' c)) (l : Lab) (v : Int) : App d (mrgT bk n th l v) (mrgT bk n' th' l v) :=
 (app_frz _ _ _ hn hn').bind fun a => match a with
  | .over => .ret _
  | .unfit => app_bck h _ _
  | .fr a => (app_frz _ _ _ hn hn').bind fun b => match b with
   | .over => .ret _
   | .unfit => app_bck h _ _
   | .fr b => app_ite ((app_cas _ _ _).bind fun _ => app_ite (app_cln _ hn hn') (.ret _)) (app_bck h _ _)
theorem app_fin {d n n' : Nat} {th th' : Lab → Tr Unit} (hn : d ≤ n) (hn' : d ≤ n') (h : ∀ c, App d (th c) (th' c)) (l : Lab) (g : GotA) : App d (finT bk n th l g) (finT bk n' th' l g) :=
 app_ite (app_split _ _ _ hn hn') (app_ite (app_mrg hn hn' h _ _) (.ret _))
theorem app_thwL : ∀ {d n n' : Nat} (l up : Lab), d ≤ n → d ≤ n' → App d (thwLT bk n l up) (thwLT bk n' l up)
 | 0, _, _, _, _, _, _ => .zero
 | d + 1, n + 1, n' + 1, l, up, h, h' => app_get1 fun _ => app_ite ((app_get _).bind fun _ => (app_ite (app_fin (by omega) (by omega) (fun c => app_ite (app_thwL _ _ (by omega) (by omega)) (.ret _)) _ _) (.ret _)).bind fun _ => app_ite ((app_cas _ _ _).bind fun _ => app_ite (.ret _) (app_thwL _ _ (by omega) (by omega))) (.ret _)) (.ret _)
theorem app_thw {d n n' : Nat} (l : Lab) (h : d ≤ n) (h' : d ≤ n') : App d (thwT bk n l) (thwT bk n' l) := app_ite (app_thwL _ _ h h') (.ret _)
theorem app_fns {d n n' : Nat} (l : Lab) (g : GotA) (h : d ≤ n) (h' : d ≤ n') : App d (fnsT bk n l g) (fnsT bk n' l g) := app_fin h h' (fun c => app_thw c h h') _ _
theorem app_lin : ∀ {d n n' : Nat} (l : Lab), d ≤ n → d ≤ n' → App d (linT bk key n l) (linT bk key n' l)
 | 0, _, _, _, _, _ => .zero
 | d + 1, n + 1, n' + 1, l, h, h' => by
  have H : ∀ l, App d (linT bk key n l) (linT bk key n' l) := fun l => app_lin l (by omega) (by omega)
  exact app_get1 fun _ => app_ite (.ret _) (app_ite ((app_fns _ _ (by omega) (by omega)).bind fun _ => H _) (app_ite (H _) (app_ite ((app_thw _ (by omega) (by omega)).bind fun _ => H _) (app_ite ((app_cas _ _ _).bind fun _ => H _) (H _)))))
theorem app_lft {d n n' : Nat} (l : Lab) (h : d ≤ n) (h' : d ≤ n') : App d (lftT bk n l) (lftT bk n' l) :=
 app_ite ((app_get _).bind fun _ => app_ite ((app_thw _ h h').bind fun _ => .ret _) (.ret _)) (.ret _)
theorem app_bin : ∀ {d n n' : Nat} (lo hi : Int), d ≤ n → d ≤ n' → App d (binT bk key n lo hi) (binT bk key n' lo hi)
 | 0, _, _, _, _, _, _ => .zero
 | d + 1, n + 1, n' + 1, lo, hi, h, h' => by
  have H : ∀ lo hi, App d (binT bk key n lo hi) (binT bk key n' lo hi) := fun lo hi => app_bin lo hi (by omega) (by omega)
  exact app_ite (app_get1 fun _ => app_ite (.ret _) (app_ite (H _ _) (app_ite ((app_fns _ _ (by omega) (by omega)).bind fun _ => H _ _) (app_ite ((app_lft _ (by omega) (by omega)).bind fun _ => app_ite (H _ _) (H _ _)) (H _ _))))) (app_lin _ h h')
theorem app_sek {d n n' : Nat} (how : Int) (h : d ≤ n) (h' : d ≤ n') : App d (sekT bk how key n) (sekT bk how key n') := app_ite (app_lin _ h h') (app_bin _ _ h h')
theorem app_lok {d n n' : Nat} (how : Int) (h : d ≤ n) (h' : d ≤ n') : App d (lokT bk how key n) (lokT bk how key n') := (app_sek _ h h').bind fun _ => .ret _
end
def Tr.All {α : Type} (A : GotA → Prop) (W : Wq → Prop) (X : Nt → Prop) (Q : α → Prop) : Tr α → Prop
 | .ret a => Q a
 | .dead => True
 | .note x t => X x ∧ t.All A W X Q
 | .ask w f => W w ∧ ∀ g, A g → (f g).All A W X Q
section
variable {α β : Type} {A : GotA → Prop} {W : Wq → Prop} {X : Nt → Prop}
theorem all_bind {Q : α → Prop} {R : β → Prop} : ∀ {t : Tr α} {f : α → Tr β}, t.All A W X Q → (∀ a, Q a → (f a).All A W X R) → (t.bind f).All A W X R
 | .ret a, f, h, hf => hf a h
 | .dead, f, h, hf => trivial
 | .note x t, f, h, hf => ⟨h.1, all_bind (t := t) h.2 hf⟩
 | .ask w g, f, h, hf => ⟨h.1, fun a ha => all_bind (t := g a) (h.2 a ha) hf⟩
theorem all_ite {Q : α → Prop} {c : Prop} [Decidable c] {x y : Tr α} (hx : c → x.All A W X Q) (hy : ¬ c → y.All A W X Q) : (if c then x else y).All A W X Q := by
 by_cases h : c
 ·rw [if_pos h]; exact hx h
 rw [if_neg h]; exact hy h
theorem all_ask {w : Wq} (h : W w) : (askT w).All A W X A := ⟨h, fun _ h => h⟩
theorem Tr.All.mono {Q R : α → Prop} : ∀ {t : Tr α}, t.All A W X Q → (∀ a, Q a → R a) → t.All A W X R
 | .ret a, h, hq => hq a h
 | .dead, h, hq => trivial
 | .note x t, h, hq => ⟨h.1, Tr.All.mono (t := t) h.2 hq⟩
 | .ask w g, h, hq => ⟨h.1, fun a ha => Tr.All.mono (t := g a) (h.2 a ha) hq⟩
end
def ntR (x : Nt) : Rsl := ⟨x.code, x.had, x.val, [], 0, false⟩
def Tr.dir (most b : Int) : Tr Rsl → Nt → Nat → Shf → Int → RunR
 | .ret a, x, n, L, k => ⟨2, a, n, 0, L, k⟩
 | .dead, x, n, L, k => ⟨5, zRsl, n, 0, L, k⟩
 | .note y t, x, n, L, k => t.dir most b y n L k
 | .ask w f, x, n, L, k =>
  if b ≤ n then ⟨2, ntR x, n, 0, L, k⟩
  else if most ≤ n then ⟨3, zRsl, n, 0, L, k⟩
  else if (doL L (wntOf w)).err ≠ 0 then ⟨4, zRsl, n, (doL L (wntOf w)).err, (doL L (wntOf w)).L, if (doL L (wntOf w)).wrote then IntKind.i64.wrap (k + 1) else k⟩
  else (f (gotOf (doL L (wntOf w)).got)).dir most b x (n + 1) (doL L (wntOf w)).L (if (doL L (wntOf w)).wrote then IntKind.i64.wrap (k + 1) else k)
def Tr.feed {α : Type} : Tr α → Nt → List Got → Option (Tr α × Nt)
 | .note y t, _, gs => t.feed y gs
 | .ret a, x, [] => some (.ret a, x)
 | .ret _, _, _ :: _ => none
 | .dead, x, [] => some (.dead, x)
 | .dead, _, _ :: _ => none
 | .ask w f, x, [] => some (.ask w f, x)
 | .ask w f, x, g :: gs => (f (gotOf g)).feed x gs
def Tr.noNote {α : Type} : Tr α → Prop
 | .note _ _ => False
 | _ => True
theorem feed_add {α : Type} {w : Wq} {f : GotA → Tr α} {y : Nt} {g : Got} : ∀ (t : Tr α) (x : Nt) (gs : List Got), t.feed x gs = some (.ask w f, y) → t.feed x (gs ++ [g]) = (f (gotOf g)).feed y []
 | .note z t, x, gs, h => by
  show t.feed z (gs ++ [g]) = _
  exact feed_add t z gs (by simpa [Tr.feed] using h)
 | .ret a, x, [], h => by simp [Tr.feed] at h
 | .ret a, x, _ :: _, h => by simp [Tr.feed] at h
 | .dead, x, [], h => by simp [Tr.feed] at h
 | .dead, x, _ :: _, h => by simp [Tr.feed] at h
 | .ask w' f', x, [], h => by
  simp only [Tr.feed, Option.some.injEq, Prod.mk.injEq, Tr.ask.injEq] at h
  obtain ⟨⟨h1, h2⟩, h3⟩ := h
  subst h1; subst h2; subst h3
  rfl
 | .ask w' f', x, g' :: gs, h => by
  show (f' (gotOf g')).feed x (gs ++ [g]) = _
  exact feed_add _ x gs (by simpa [Tr.feed] using h)
theorem feed_nil {α : Type} {A : GotA → Prop} {W : Wq → Prop} {X : Nt → Prop} {Q : α → Prop} : ∀ (t : Tr α) (x : Nt), ∃ t' x', t.feed x [] = some (t', x') ∧ t'.noNote ∧ (∀ d, App d t t → App d t' t') ∧ (t.All A W X Q → t'.All A W X Q)
 | .note z t, x => by
  obtain ⟨t', x', h1, h2, h3, h4⟩ := feed_nil t z
  refine ⟨t', x', by simpa [Tr.feed] using h1, h2, fun d hd => h3 d ?_, fun h => h4 h.2⟩
  cases hd with
  | zero => exact .zero
  | note h => exact h
 | .ret a, x => ⟨.ret a, x, by simp [Tr.feed], trivial, fun _ h => h, fun h => h⟩
 | .dead, x => ⟨.dead, x, by simp [Tr.feed], trivial, fun _ h => h, fun h => h⟩
 | .ask w f, x => ⟨.ask w f, x, by simp [Tr.feed], trivial, fun _ h => h, fun h => h⟩
theorem feed_dir {most b : Int} : ∀ (t : Tr Rsl) (x : Nt) {t' : Tr Rsl} {x' : Nt} (n : Nat) (L : Shf) (k : Int), t.feed x [] = some (t', x') → t'.dir most b x' n L k = t.dir most b x n L k
 | .note z t, x, t', x', n, L, k, h => feed_dir t z n L k (by simpa [Tr.feed] using h)
 | .ret a, x, t', x', n, L, k, h => by simp [Tr.feed] at h; obtain ⟨rfl, rfl⟩ := h; rfl
 | .dead, x, t', x', n, L, k, h => by simp [Tr.feed] at h; obtain ⟨rfl, rfl⟩ := h; rfl
 | .ask w f, x, t', x', n, L, k, h => by simp [Tr.feed] at h; obtain ⟨rfl, rfl⟩ := h; rfl
theorem run_feed {α : Type} {k : Int} (hk : 0 ≤ k) {t' : Tr α} {x' : Nt} : ∀ (t : Tr α) (x : Nt) (gs : List Got), t.feed x gs = some (t', x') → ∀ p : Pst, p.n = gs.length → (∀ j, j < gs.length → p.g j = gotOf (gs.getD j zeroGot)) → p.note = x → ∃ q : Pst, q.n = 0 ∧ q.note = x' ∧ t.run k p = t'.run k q
 | .note z t, x, gs, h, p, hn, hg, hx => run_feed hk t z gs (by simpa [Tr.feed] using h) ⟨p.n, p.g, z⟩ hn hg rfl
 | .ret a, x, [], h, p, hn, hg, hx => by simp [Tr.feed] at h; obtain ⟨rfl, rfl⟩ := h; exact ⟨p, hn, hx, rfl⟩
 | .ret a, x, _ :: _, h, p, hn, hg, hx => by simp [Tr.feed] at h
 | .dead, x, [], h, p, hn, hg, hx => by simp [Tr.feed] at h; obtain ⟨rfl, rfl⟩ := h; exact ⟨p, hn, hx, rfl⟩
 | .dead, x, _ :: _, h, p, hn, hg, hx => by simp [Tr.feed] at h
 | .ask w f, x, [], h, p, hn, hg, hx => by simp [Tr.feed] at h; obtain ⟨rfl, rfl⟩ := h; exact ⟨p, hn, hx, rfl⟩
 | .ask w f, x, g :: gs, h, p, hn, hg, hx => by
  have hn2 : p.n = gs.length + 1 := hn
  have h0 : p.g 0 = gotOf g := hg 0 (by simp)
  obtain ⟨q, h1, h2, h3⟩ := run_feed hk (f (gotOf g)) x gs (by simpa [Tr.feed] using h) p.tl (by show p.n - 1 = _; omega) (fun j hj => by show p.g (j + 1) = _; rw [hg (j + 1) (by simp; omega)]; rfl) hx
  refine ⟨q, h1, h2, ?_⟩
  rw [← h3]
  show (askM k w p).bind _ = _
  unfold askM
  rw [if_pos ⟨by omega, by omega⟩]
  show (f (p.g 0)).run k p.tl = _
  rw [h0]
structure TrN (N : NextF) (b : Int) (T : Nat → Tr Rsl) : Prop where
 nxt : ∀ n f, allGot n f = true → N n f = toldM ((T (n + 1)).run (b - n) (pst0 n f))
 app : ∀ {d n n' : Nat}, d ≤ n → d ≤ n' → App d (T n) (T n')
section
variable {N : NextF} {b : Int} {T : Nat → Tr Rsl} {most : Int} {A : GotA → Prop} {W : Wq → Prop} {X : Nt → Prop} {Q : Rsl → Prop} {R : Shf → Prop}
theorem next_at (hN : TrN N b T) {m : Nat} {gs : List Got} {t : Tr Rsl} {x : Nt} (hf : (T m).feed nt0 gs = some (t, x)) (hg : ∀ j, j < gs.length → isGotB (gotOf (gs.getD j zeroGot)) = true) (hb : (gs.length : Int) ≤ b) (hm : gs.length < m) : ∃ q : Pst, q.n = 0 ∧ q.note = x ∧ N gs.length (ansF gs) = toldM (t.run (b - gs.length) q) := by
 have h1 := hN.nxt gs.length (ansF gs) (allGot_yes hg)
 obtain ⟨q, h2, h3, h4⟩ := run_feed (k := b - gs.length) (by omega) (T m) nt0 gs hf (pst0 gs.length (ansF gs)) rfl (fun j hj => rfl) rfl
 refine ⟨q, h2, h3, ?_⟩
 rw [h1, ← h4]
 congr 1
 exact run_app (hN.app (d := gs.length + 1) (Nat.le_refl _) (by omega)) (by show gs.length < _; omega)
theorem told_ret {a : Rsl} {q : Pst} (h : q.n = 0) : toldM (.ok a q) = (⟨4, ⟨0, 0⟩, 0, zeroRec, a⟩, 0) := by
 unfold toldM; dsimp only; rw [if_neg (by omega)]
theorem told_stop {w : Wq} {q : Pst} (h : q.n = 0) : toldM (.stop w q) = (w, 0) := by
 unfold toldM; dsimp only; rw [if_neg (by omega)]
theorem ask_none {k : Int} {w : Wq} {q : Pst} {f : GotA → Tr Rsl} (h : q.n = 0) : (Tr.ask w f).run k q = .stop (if k ≤ 0 then overW q else w) q := by
 show (askM k w q).bind _ = _
 unfold askM
 rw [if_neg (by omega), h]
 simp only [Int.natCast_zero, Int.zero_add]
 rfl
theorem dir_go (hN : TrN N b T) {m : Nat} (hm : b < m) (hWk : ∀ w, W w → w.kind ≠ 4) (hR : ∀ L w, R L → W w → (doL L (wntOf w)).err = 0 → R (doL L (wntOf w)).L ∧ isGotB (gotOf (doL L (wntOf w)).got) = true ∧ A (gotOf (doL L (wntOf w)).got)) :
  ∀ (fuel : Nat) (t : Tr Rsl) (x : Nt) (gs : List Got) (L : Shf) (k : Int) (d : Nat), (T m).feed nt0 gs = some (t, x) → t.noNote → App d t t → t.All A W X Q → R L → (∀ j, j < gs.length → isGotB (gotOf (gs.getD j zeroGot)) = true) → (gs.length : Int) ≤ b → b - gs.length < d → b - gs.length < fuel →
   runQ N most fuel gs L k = t.dir most b x gs.length L k
 | 0, t, x, gs, L, k, d, hf, hnn, ha, hall, hL, hg, hb, hd, hfu => by omega
 | fuel + 1, t, x, gs, L, k, d, hf, hnn, ha, hall, hL, hg, hb, hd, hfu => by
  obtain ⟨q, h1, h2, h3⟩ := next_at hN hf hg hb (by omega)
  cases t with
  | note y t => exact absurd hnn (fun h => h)
  | ret a => exact run_end (h3.trans (told_ret h1)) rfl
  | dead =>
   cases ha with
   | zero => omega
  | ask w f =>
   rw [ask_none h1] at h3
   have h4 := h3.trans (told_stop h1)
   by_cases hov : b ≤ (gs.length : Int)
   ·rw [if_pos (by omega)] at h4
    rw [run_end h4 rfl]
    unfold Tr.dir
    rw [if_pos hov]
    unfold overW ntR
    rw [h2]
   rw [if_neg (by omega)] at h4
   have hk := hWk w hall.1
   unfold Tr.dir
   rw [if_neg hov]
   by_cases hmo : most ≤ (gs.length : Int)
   ·rw [if_pos hmo, run_cut h4 hk hmo]
   rw [if_neg hmo]
   by_cases he : (doL L (wntOf w)).err = 0
   ·rw [if_neg (fun h => h he), run_go h4 hk hmo rfl he]
    obtain ⟨r1, r2, r3⟩ := hR L w hL hall.1 he
    cases ha with
    | zero => omega
    | @ask d' _ _ _ ha =>
     obtain ⟨t', x', f1, f2, f3, f4⟩ := feed_nil (A := A) (W := W) (X := X) (Q := Q) (f (gotOf (doL L (wntOf w)).got)) x
     have hfe : (T m).feed nt0 (gs ++ [(doL L (wntOf w)).got]) = some (t', x') := by rw [feed_add _ _ _ hf, f1]
     have hlen : (gs ++ [(doL L (wntOf w)).got]).length = gs.length + 1 := by simp
     rw [dir_go hN hm hWk hR fuel t' x' _ _ _ d' hfe f2 (f3 _ (ha _)) (f4 (hall.2 _ r3)) r1 ?_ (by rw [hlen]; omega) (by rw [hlen]; omega) (by rw [hlen]; omega), hlen]
     ·exact feed_dir _ _ _ _ _ f1
     intro j hj
     rw [hlen] at hj
     by_cases hjl : j < gs.length
     ·have := hg j hjl
      rw [List.getD_eq_getElem?_getD, List.getElem?_append_left hjl, ← List.getD_eq_getElem?_getD]
      exact this
     have : j = gs.length := by omega
     subst this
     simpa [List.getD] using r2
   rw [if_pos he, run_err h4 hk hmo rfl he]
theorem dir_run (hN : TrN N b T) {m : Nat} (hm : b < m) (h0 : 0 ≤ b) (hWk : ∀ w, W w → w.kind ≠ 4) (hR : ∀ L w, R L → W w → (doL L (wntOf w)).err = 0 → R (doL L (wntOf w)).L ∧ isGotB (gotOf (doL L (wntOf w)).got) = true ∧ A (gotOf (doL L (wntOf w)).got))
  (hall : (T m).All A W X Q) {fuel : Nat} (hfu : b < fuel) {L : Shf} (hL : R L) (k : Int) : runQ N most fuel [] L k = (T m).dir most b nt0 0 L k := by
 obtain ⟨t', x', f1, f2, f3, f4⟩ := feed_nil (A := A) (W := W) (X := X) (Q := Q) (T m) nt0
 rw [dir_go hN hm hWk hR fuel t' x' [] L k m f1 f2 (f3 _ (hN.app (Nat.le_refl _) (Nat.le_refl _))) (f4 hall) hL (fun j hj => absurd hj (Nat.not_lt_zero _)) (by simpa using h0) (by simp; omega) (by simp; omega)]
 exact feed_dir _ _ _ _ _ f1
end
theorem rises_ok {l : List Itm} (hs : Srt l) (hv : ∀ x ∈ l, x.val.size ≤ 64) : okF (itF l) l.length = true := by
 unfold okF
 rw [List.all_eq_true]
 intro i hi
 have hi := List.mem_range.1 hi
 have e : ∀ t (h : t < l.length), itF l t = l[t] := fun t h => by simp [itF, List.getD, h]
 unfold okAt
 rw [e i hi]
 cases i with
 | zero => simpa using hv _ (List.getElem_mem hi)
 | succ i =>
  have h2 : l[i].key < l[i + 1].key := (List.pairwise_iff_getElem.1 hs) i (i + 1) (by omega) hi (by omega)
  simp
  refine ⟨hv _ (List.getElem_mem hi), ?_⟩
  rw [e i (by omega)]
  exact h2
theorem rf_of {kd : Int} {n : Nat} {f : Nat → Itm} {nx : Lab} {mk : Int} (hok : okF f n = true) (hn : n ≤ 16) (hx : nx = noneL ∨ isL nx = true) (hk : (kd = 1 ∧ mk = 0) ∨ kd = 5) : isRF kd n f nx mk = true := by
 unfold isRF rowF bareK
 rcases hk with ⟨rfl, rfl⟩ | rfl
 ·rcases hx with hx | hx <;> simp [hok, hn, hx]
 rcases hx with hx | hx <;> simp [hok, hn, hx]
theorem short_items {f : Nat → Itm} {n : Nat} (h : okF f n = true) : ∀ x ∈ firsts f n, x.val.size ≤ 64 := by
 intro x hx
 obtain ⟨i, hi, rfl⟩ := List.mem_map.1 hx
 have := okF_at (List.mem_range.1 hi) h
 unfold okAt at this
 simp only [Bool.and_eq_true, decide_eq_true_eq] at this
 exact this.1
theorem r_inner : isR innerR = true := by decide
theorem r_leaf : isR leafR = true := by decide
theorem gk_at {g : GotA} {k : Int} (h : gk g k = true) : g.has = true ∧ g.x.r.kd = k := by
 unfold gk at h
 simp only [Bool.and_eq_true, decide_eq_true_eq] at h
 exact h
theorem r_as {g : GotA} (h : GotR g) {kd mk k : Int} (hg : gk g k = true) (hk : (kd = 1 ∧ mk = 0) ∨ kd = 5) : isR (asR kd g.x mk).r.abs = true := by
 rw [isR_abs]
 obtain ⟨_, _, h3, h4, h5⟩ := isRF_kind (h.rf (gk_at hg).1)
 exact rf_of h5 h3 h4 hk
theorem halv_r {x : RA} {l : Lab} (hl : LOk l) (h : (halvA x l).2.2 = 0) : isR (halvA x l).1 = true ∧ isR (halvA x l).2.1 = true := by
 unfold halvA halvR at h ⊢
 split at h
 ·cases h
 rename_i h1
 rw [if_neg h1]
 split at h
 ·cases h
 rename_i h2
 rw [if_neg h2]
 split at h
 ·cases h
 rename_i h3
 rw [if_neg h3]
 have h4 : isRF x.r.kd x.r.n x.r.f x.r.nx x.r.mrk = true := by
  simp only [Bool.not_eq_false, Bool.and_eq_true] at h1
  exact h1.1.1
 obtain ⟨_, _, k3, k4, k5⟩ := isRF_kind h4
 have hc : ∀ c, okF (itF (covL c (firsts x.r.f x.r.n))) (covL c (firsts x.r.f x.r.n)).length = true ∧ (covL c (firsts x.r.f x.r.n)).length ≤ 16 := fun c => by
  refine ⟨rises_ok (List.Pairwise.filter _ (okF_Srt k5)) fun y hy => short_items k5 y (cov_sub hy), Nat.le_trans (cov_le _ _) ?_⟩
  rw [firsts_len]; exact k3
 exact ⟨rf_of (hc _).1 (hc _).2 (.inr (child_isL hl.isl hl.u h3 1)) (.inl ⟨rfl, rfl⟩), rf_of (hc _).1 (hc _).2 k4 (.inl ⟨rfl, rfl⟩)⟩
theorem uni_r {x y : RA} (h : (uniA x y).2 = 0) : isR (uniA x y).1 = true := by
 unfold uniA uniR at h ⊢
 split at h
 ·cases h
 rename_i h1
 rw [if_neg h1]
 split at h
 ·cases h
 rename_i h2
 rw [if_neg h2]
 split at h
 ·cases h
 rename_i h3
 rw [if_neg h3]
 split at h
 ·cases h
 rename_i h4
 rw [if_neg h4]
 simp only [Bool.not_eq_false, Bool.and_eq_true] at h1
 obtain ⟨_, _, a3, a4, a5⟩ := isRF_kind h1.1
 obtain ⟨_, _, b3, b4, b5⟩ := isRF_kind h1.2
 refine rf_of (rises_ok ?_ fun z hz => ?_) ?_ b4 (.inl ⟨rfl, rfl⟩)
 ·refine List.pairwise_append.2 ⟨okF_Srt a5, okF_Srt b5, fun u hu v hv => ?_⟩
  obtain ⟨i, hi, rfl⟩ := List.mem_map.1 hu
  obtain ⟨j, hj, rfl⟩ := List.mem_map.1 hv
  have hi := List.mem_range.1 hi
  have hj := List.mem_range.1 hj
  have h5 : (x.r.f (x.r.n - 1)).key < (y.r.f 0).key := by
   unfold ovl at h2
   simp only [Bool.and_eq_true, decide_eq_true_eq, not_and] at h2
   have := h2 (by omega) (by omega)
   omega
  have h6 : (x.r.f i).key ≤ (x.r.f (x.r.n - 1)).key := by
   by_cases he : i = x.r.n - 1
   ·rw [he]; exact Int.le_refl _
   exact Int.le_of_lt (okF_srt a5 _ _ (by omega) (by omega))
  have h7 : (y.r.f 0).key ≤ (y.r.f j).key := by
   by_cases he : j = 0
   ·rw [he]; exact Int.le_refl _
   exact Int.le_of_lt (okF_srt b5 _ _ (by omega) (by omega))
  omega
 ·rcases List.mem_append.1 hz with hz | hz
  ·exact short_items a5 z hz
  exact short_items b5 z hz
 show (firsts x.r.f x.r.n ++ firsts y.r.f y.r.n).length ≤ 16
 rw [List.length_append, firsts_len, firsts_len]; omega
structure WqR (w : Wq) : Prop where
 ok : WqOk w
 kd : w.kind = 1 ∨ w.kind = 2 ∨ w.kind = 3
 put : w.kind = 2 → isR w.r = true
def GA (g : GotA) : Prop := GotOk g ∧ GotR g
section
variable {X : Nt → Prop} {bk key : Int}
abbrev AllA {α : Type} (X : Nt → Prop) (Q : α → Prop) (t : Tr α) : Prop := t.All GA WqR X Q
abbrev Any {α : Type} : α → Prop := fun _ => True
theorem all_get {l : Lab} (h : LOk l) : AllA X GA (getT l) := all_ask ⟨⟨h, rec_z⟩, .inl rfl, fun h => absurd h (by show ¬ (1 : Int) = 2; decide)⟩
theorem all_cas {l : Lab} {v : Int} {r : Rec} (h : LOk l) (hr : RecOk r) (h2 : isR r = true) : AllA X Any (casT l v r) := all_bind (all_ask (w := ⟨2, l, v, r, zRsl⟩) ⟨⟨h, hr⟩, .inr (.inl rfl), fun _ => h2⟩) fun _ _ => trivial
theorem all_drp {l : Lab} {v : Int} (h : LOk l) : AllA X Any (drpT l v) := all_bind (all_ask (w := ⟨3, l, v, zeroRec, zRsl⟩) ⟨⟨h, rec_z⟩, .inr (.inr rfl), fun h => absurd h (by show ¬ (3 : Int) = 2; decide)⟩) fun _ _ => trivial
theorem all_splC {l : Lab} {v : Int} {c : Lab} {x : Rec} (hl : LOk l) (hc : LOk c) (hx : RecOk x) (hr : isR x = true) : ∀ n, AllA X Any (splCT l v c x n)
 | 0 => trivial
 | n + 1 => all_bind (all_get hc) fun _ _ => all_ite (fun _ => trivial) fun _ => all_bind (all_get hl) fun _ _ => all_ite (fun _ => all_bind (all_cas hc hx hr) fun _ _ => all_ite (fun _ => trivial) fun _ => all_splC hl hc hx hr n) fun _ => trivial
theorem all_split {n : Nat} {l : Lab} {v : Int} {x : RA} (hl : LOk l) (hx : RaOk x) : AllA X Any (splitT n l v x) :=
 all_ite (fun h => all_bind (all_splC hl (hl.ch 0) (halv_ok hx hl).1 (halv_r hl h).1 n) fun _ _ => all_ite (fun _ => all_bind (all_splC hl (hl.ch 1) (halv_ok hx hl).2 (halv_r hl h).2 n) fun _ _ => all_ite (fun _ => all_bind (all_cas hl rec_in r_inner) fun _ _ => trivial) fun _ => trivial) fun _ => trivial) fun _ => trivial
def FzOk : Fz → Prop
 | .fr x => RaOk x
 | _ => True
theorem all_frz {l : Lab} {v : Int} {c : Lab} (hl : LOk l) (hc : LOk c) : ∀ n, AllA X FzOk (frzT l v c n)
 | 0 => trivial
 | n + 1 => all_bind (all_get hc) fun g hg => all_ite (fun hk => all_ite (fun _ => hg.1.ra) fun _ => all_bind (all_get hl) fun _ _ => all_ite (fun _ => all_bind (all_cas hc (hg.1.ra.as 5 v).ro (by
   rcases Bool.or_eq_true _ _ ▸ hk with h | h
   ·exact r_as hg.2 h (.inr rfl)
   exact r_as hg.2 h (.inr rfl))) fun _ _ => all_ite (fun _ => hg.1.ra.as 5 v) fun _ => all_frz hl hc n) fun _ => trivial) fun _ => trivial
theorem all_clnC {l : Lab} {cl : Lab → Tr Unit} {c : Lab} (hl : LOk l) (hc : LOk c) (h : ∀ c, LOk c → AllA X Any (cl c)) : AllA X Any (clnCT l cl c) :=
 all_bind (all_get hc) fun _ _ => all_ite (fun _ => all_bind (h c hc) fun _ _ => all_bind (all_get hl) fun _ _ => all_ite (fun _ => all_bind (all_drp hc) fun _ _ => trivial) fun _ => trivial) fun _ => trivial
theorem all_cln : ∀ (n : Nat) (l : Lab), LOk l → AllA X Any (clnT n l)
 | 0, l, _ => trivial
 | n + 1, l, hl => all_ite (fun _ => trivial) fun _ => all_bind (all_clnC hl (hl.ch 0) fun c hc => all_cln n c hc) fun _ _ => all_ite (fun _ => all_bind (all_clnC hl (hl.ch 1) fun c hc => all_cln n c hc) fun _ _ => trivial) fun _ => trivial
theorem all_bck {th : Lab → Tr Unit} {l : Lab} {v : Int} (hl : LOk l) (h : ∀ c, LOk c → AllA X Any (th c)) : AllA X Any (bckT th l v) :=
 all_bind (all_cas hl rec_in r_inner) fun _ _ => all_ite (fun _ => all_bind (h _ (hl.ch 0)) fun _ _ => h _ (hl.ch 1)) fun _ => trivial
theorem all_mrg {n : Nat} {th : Lab → Tr Unit} {l : Lab} {v : Int} (hl : LOk l) (h : ∀ c, LOk c → AllA X Any (th c)) : AllA X Any (mrgT bk n th l v) :=
 all_bind (all_frz hl (hl.ch 0) n) fun a ha => match a, ha with
  | .over, _ => trivial
  | .unfit, _ => all_bck hl h
  | .fr a, ha => all_bind (all_frz hl (hl.ch 1) n) fun b hb => match b, hb with
   | .over, _ => trivial
   | .unfit, _ => all_bck hl h
   | .fr b, hb => all_ite (fun hu => all_bind (all_cas hl (uni_ok ha hb) (uni_r hu.1)) fun _ _ => all_ite (fun _ => all_cln n l hl) fun _ => trivial) fun _ => all_bck hl h
theorem all_fin {n : Nat} {th : Lab → Tr Unit} {l : Lab} {g : GotA} (hl : LOk l) (hg : GA g) (h : ∀ c, LOk c → AllA X Any (th c)) : AllA X Any (finT bk n th l g) :=
 all_ite (fun _ => all_split hl hg.1.ra) fun _ => all_ite (fun _ => all_mrg hl h) fun _ => trivial
theorem all_thwL : ∀ (n : Nat) (l up : Lab), LOk l → LOk up → AllA X Any (thwLT bk n l up)
 | 0, l, up, _, _ => trivial
 | n + 1, l, up, hl, hu => all_bind (all_get hl) fun g hg => all_ite (fun hk => all_bind (all_get hu) fun q hq => all_bind (Q := Any) (all_ite (fun _ => all_fin hu hq fun c hc => all_ite (fun _ => all_thwL n c (parV c) hc hc.par) fun _ => trivial) fun _ => trivial) fun _ _ => all_ite (fun _ => all_bind (all_cas hl (hg.1.ra.as 1 0).ro (r_as hg.2 hk (.inl ⟨rfl, rfl⟩))) fun _ _ => all_ite (fun _ => trivial) fun _ => all_thwL n l up hl hu) fun _ => trivial) fun _ => trivial
theorem all_thw {n : Nat} {l : Lab} (hl : LOk l) : AllA X Any (thwT bk n l) := all_ite (fun _ => all_thwL n l _ hl hl.par) fun _ => trivial
theorem all_fns {n : Nat} {l : Lab} {g : GotA} (hl : LOk l) (hg : GA g) : AllA X Any (fnsT bk n l g) := all_fin hl hg fun _ hc => all_thw hc
theorem lok_of {key : Int} (hk : U64 key) (n : Int) : LOk (ofV key n) := ⟨ofV_isL _, ofV_u hk _⟩
theorem all_lin (hk : U64 key) : ∀ (n : Nat) (l : Lab), LOk l → AllA X SptOk (linT bk key n l)
 | 0, l, _ => trivial
 | n + 1, l, hl => all_bind (all_get hl) fun g hg => all_ite (fun h => ⟨hg.1, hg.2, h, hl.isl, hl.u⟩) fun _ => all_ite (fun _ => all_bind (all_fns hl hg) fun _ _ => all_lin hk n l hl) fun _ => all_ite (fun _ => all_lin hk n _ (lok_of hk _)) fun _ => all_ite (fun _ => all_bind (all_thw hl) fun _ _ => all_lin hk n _ lok_z) fun _ => all_ite (fun _ => all_bind (all_cas lok_z ⟨⟨by decide, by decide⟩, by decide, fun x hx => by cases hx⟩ r_leaf) fun _ _ => all_lin hk n _ lok_z) fun _ => all_lin hk n _ lok_z
theorem all_lft {n : Nat} {l : Lab} (hl : LOk l) : AllA X Any (lftT bk n l) :=
 all_ite (fun _ => all_bind (all_get hl.par) fun _ _ => all_ite (fun _ => all_bind (all_thw hl) fun _ _ => trivial) fun _ => trivial) fun _ => trivial
theorem all_bin (hk : U64 key) : ∀ (n : Nat) (lo hi : Int), AllA X SptOk (binT bk key n lo hi)
 | 0, lo, hi => trivial
 | n + 1, lo, hi => all_ite (fun _ => all_bind (all_get (lok_of hk _)) fun g hg => all_ite (fun h => ⟨hg.1, hg.2, h, ofV_isL _, ofV_u hk _⟩) fun _ => all_ite (fun _ => all_bin hk n _ _) fun _ => all_ite (fun _ => all_bind (all_fns (lok_of hk _) hg) fun _ _ => all_bin hk n _ _) fun _ => all_ite (fun _ => all_bind (all_lft (lok_of hk _)) fun _ _ => all_ite (fun _ => all_bin hk n _ _) fun _ => all_bin hk n _ _) fun _ => all_bin hk n _ _) fun _ => all_lin hk _ _ lok_z
theorem all_sek (hk : U64 key) {how : Int} {n : Nat} : AllA X SptOk (sekT bk how key n) := all_ite (fun _ => all_lin hk _ _ lok_z) fun _ => all_bin hk _ _ _
theorem all_lok (hk : U64 key) {how : Int} {n : Nat} : AllA X (fun a => a.code = 0) (lokT bk how key n) := all_bind (all_sek hk) fun _ _ => rfl
end
def SpoR (p : Lab × Spo) : Prop := (p.2.has = true → isR p.2.r = true) ∧ (p.2.has = false → p.2.r = zeroRec)
structure ShfR (L : Shf) : Prop where
 good : ShfG L
 sp : ∀ p ∈ L, SpoR p
theorem find_spo {L : Shf} (h : ∀ p ∈ L, SpoR p) (l : Lab) : ((spotOf L l).has = true → isR (spotOf L l).r = true) ∧ ((spotOf L l).has = false → (spotOf L l).r = zeroRec) := by
 unfold spotOf
 cases e : findL l L with
 | none => exact ⟨fun h => (by cases h), fun _ => rfl⟩
 | some x =>
  obtain ⟨p, hp, rfl⟩ := find_memL e
  exact h p hp
theorem newL_right : ∀ {l : List Rw} {L L' : Shf}, (∀ p ∈ L, SpoR p) → newL l L = some L' → ∀ p ∈ L', SpoR p
 | [], L, L', h2, h => by
  simp only [newL, Option.some.injEq] at h
  subst h; exact h2
 | r :: l, L, L', h2, h => by
  unfold newL at h
  split at h
  ·cases h
  rename_i hc
  have hc2 : isR r.r = true := by
   simp only [Bool.or_eq_true, Bool.not_eq_true', not_or] at hc
   simpa using hc.2
  refine newL_right (fun p hp => ?_) h
  rcases put_mem hp with rfl | hp
  ·exact ⟨fun _ => hc2, fun h => (by cases h)⟩
  exact h2 p hp
theorem newS_right {l : List Rw} {L : Shf} (hr : ∀ r ∈ l, RwG r) (h : newS l = some L) : ShfR L := by
 refine ⟨newS_good hr h, ?_⟩
 unfold newS at h
 split at h
 ·cases h
 exact newL_right (fun p hp => by cases hp) h
theorem gotB_of {G : Got} (hc : G.code = 0 ∨ G.code = 8) (h : (G.has = true → isR G.r = true) ∧ (G.has = false → G.r = zeroRec)) : isGotB (gotOf G) = true := by
 unfold isGotB gotOf
 simp only [Bool.and_eq_true, Bool.or_eq_true, decide_eq_true_eq]
 refine ⟨hc, ?_⟩
 by_cases hh : G.has = true
 ·rw [if_pos hh]
  have := h.1 hh
  rw [← rn_abs G.r, isR_abs] at this
  exact this
 rw [if_neg hh, h.2 (by simpa using hh)]
 rfl
theorem do_right {L : Shf} (hL : ShfR L) {w : Wq} (hw : WqR w) :
  ((L.length : Int) < 2000 → (doL L (wntOf w)).err = 0) ∧ (doL L (wntOf w)).L.length ≤ L.length + 1 ∧ ShfR (doL L (wntOf w)).L ∧ isGotB (gotOf (doL L (wntOf w)).got) = true ∧ GA (gotOf (doL L (wntOf w)).got) := by
 obtain ⟨hgd, hv, hr⟩ := doL_good hL.good (w := wntOf w) ⟨hw.ok.lab.wf, hw.ok.r.nx, hw.ok.r.key⟩
 have hs := find_spo hL.sp w.lab
 have hcond : ((wntOf w).kind = 1 ∨ (wntOf w).kind = 2 ∨ (wntOf w).kind = 3) ∧ isL (wntOf w).lab = true ∧ ((wntOf w).kind = 2 → isR (wntOf w).r = true) := ⟨hw.kd, hw.ok.lab.isl, hw.put⟩
 have H : ((L.length : Int) < 2000 → (doL L (wntOf w)).err = 0) ∧ (doL L (wntOf w)).L.length ≤ L.length + 1 ∧ (∀ p ∈ (doL L (wntOf w)).L, SpoR p) ∧ isGotB (gotOf (doL L (wntOf w)).got) = true := by
  unfold doL
  rw [if_pos hcond]
  split
  ·exact ⟨fun _ => rfl, Nat.le_succ _, hL.sp, gotB_of (.inl rfl) hs⟩
  split
  ·exact ⟨fun _ => rfl, Nat.le_succ _, hL.sp, gotB_of (.inr rfl) ⟨fun h => (by cases h), fun _ => rfl⟩⟩
  split
  ·rename_i hfull
   exact ⟨fun h => by omega, Nat.le_succ _, hL.sp, gotB_of (.inl rfl) ⟨fun h => (by cases h), fun _ => rfl⟩⟩
  refine ⟨fun _ => rfl, ?_, fun p hp => ?_, gotB_of (.inl rfl) ⟨fun h => (by cases h), fun _ => rfl⟩⟩
  ·show (putL _ _ L).length ≤ _
   rw [put_len _ _ hL.good.ok.ris]
   split <;> omega
  rcases put_mem hp with rfl | hp
  ·refine ⟨fun h => ?_, fun h => ?_⟩
   ·have h2 : (wntOf w).kind = 2 := of_decide_eq_true h
    show isR (if (wntOf w).kind = 2 then (wntOf w).r else zeroRec) = true
    rw [if_pos h2]; exact hw.put h2
   have h2 : ¬ (wntOf w).kind = 2 := of_decide_eq_false h
   show (if (wntOf w).kind = 2 then (wntOf w).r else zeroRec) = zeroRec
   rw [if_neg h2]
  exact hL.sp p hp
 obtain ⟨h1, h2, h3, h4⟩ := H
 have hi : InG (gotOf (doL L (wntOf w)).got) := by
  refine got_in (G := (doL L (wntOf w)).got) ?_ hv hr
  unfold gotOf GotA.abs
  simp only [rn_abs]
 exact ⟨h1, h2, ⟨hgd, h3⟩, h4, got_ok hi h4, got_r h4⟩
theorem seek_tr {J : JobA} (hj : isJobB J = true) (hk : J.kind = 3) : TrN (seekN J) J.budget (lokT J.bucket J.how J.key) where
 nxt := fun n f hg => by
  unfold seekN nextR
  rw [if_pos (by simp [hj, hk, hg]), run_lok]
 app := fun h h' => app_lok _ h h'
theorem budget_in {J : JobA} (hj : isJobB J = true) : 0 ≤ J.budget ∧ J.budget ≤ 2000 := by
 unfold isJobB btw at hj
 simp only [Bool.and_eq_true, decide_eq_true_eq] at hj
 omega
theorem seek_dir {J : JobA} (hJ : JobIn J) (hj : isJobB J = true) (hk : J.kind = 3) {L : Shf} (hL : ShfR L) (k : Int) : runQ (seekN J) 3000 2001 [] L k = (lokT J.bucket J.how J.key 2001).dir 3000 J.budget nt0 0 L k := by
 have hb := budget_in hj
 exact dir_run (A := GA) (W := WqR) (X := fun _ => True) (Q := fun a => a.code = 0) (R := ShfR) (seek_tr hj hk) (m := 2001) (by omega) hb.1 (fun w hw => by rcases hw.kd with h | h | h <;> omega) (fun L w hL hw he => by
  obtain ⟨_, _, h3, h4, h5⟩ := do_right hL hw
  exact ⟨h3, h4, h5⟩) (all_lok hJ.key) (by omega) hL k
def JobA.cut (J : JobA) (b : Int) : JobA := { J with budget := b }
abbrev TQ (α : Type) := α → Nt → Nat → Shf → Int → Prop
def Tr.wp {α : Type} (most b : Int) (Q : TQ α) (E : RunR → Prop) : Tr α → Nt → Nat → Shf → Int → Prop
 | .ret a, x, n, L, k => Q a x n L k
 | .dead, x, n, L, k => E ⟨5, zRsl, n, 0, L, k⟩
 | .note y t, x, n, L, k => t.wp most b Q E y n L k
 | .ask w f, x, n, L, k =>
  if b ≤ n then E ⟨2, ntR x, n, 0, L, k⟩
  else if most ≤ n then E ⟨3, zRsl, n, 0, L, k⟩
  else if (doL L (wntOf w)).err ≠ 0 then E ⟨4, zRsl, n, (doL L (wntOf w)).err, (doL L (wntOf w)).L, if (doL L (wntOf w)).wrote then IntKind.i64.wrap (k + 1) else k⟩
  else (f (gotOf (doL L (wntOf w)).got)).wp most b Q E x (n + 1) (doL L (wntOf w)).L (if (doL L (wntOf w)).wrote then IntKind.i64.wrap (k + 1) else k)
section
variable {α β : Type} {most b : Int} {E : RunR → Prop}
theorem wp_bind {Q : TQ β} : ∀ {t : Tr α} {f : α → Tr β} {x : Nt} {n : Nat} {L : Shf} {k : Int}, t.wp most b (fun a x n L k => (f a).wp most b Q E x n L k) E x n L k → (t.bind f).wp most b Q E x n L k
 | .ret a, f, x, n, L, k, h => h
 | .dead, f, x, n, L, k, h => h
 | .note y t, f, x, n, L, k, h => wp_bind (t := t) h
 | .ask w g, f, x, n, L, k, h => by
  unfold Tr.wp at h
  show (Tr.ask w fun a => (g a).bind f).wp most b Q E x n L k
  unfold Tr.wp
  by_cases h1 : b ≤ n
  ·rw [if_pos h1] at h ⊢; exact h
  rw [if_neg h1] at h ⊢
  by_cases h2 : most ≤ n
  ·rw [if_pos h2] at h ⊢; exact h
  rw [if_neg h2] at h ⊢
  by_cases h3 : (doL L (wntOf w)).err ≠ 0
  ·rw [if_pos h3] at h ⊢; exact h
  rw [if_neg h3] at h ⊢; exact wp_bind (t := g _) h
theorem wp_mono {Q R : TQ α} {F : RunR → Prop} (hE : ∀ r, E r → F r) : ∀ {t : Tr α} {x : Nt} {n : Nat} {L : Shf} {k : Int}, t.wp most b Q E x n L k → (∀ a x n L k, Q a x n L k → R a x n L k) → t.wp most b R F x n L k
 | .ret a, x, n, L, k, h, hq => hq _ _ _ _ _ h
 | .dead, x, n, L, k, h, hq => hE _ h
 | .note y t, x, n, L, k, h, hq => wp_mono hE (t := t) h hq
 | .ask w g, x, n, L, k, h, hq => by
  unfold Tr.wp at h ⊢
  by_cases h1 : b ≤ n
  ·rw [if_pos h1] at h ⊢; exact hE _ h
  rw [if_neg h1] at h ⊢
  by_cases h2 : most ≤ n
  ·rw [if_pos h2] at h ⊢; exact hE _ h
  rw [if_neg h2] at h ⊢
  by_cases h3 : (doL L (wntOf w)).err ≠ 0
  ·rw [if_pos h3] at h ⊢; exact hE _ h
  rw [if_neg h3] at h ⊢; exact wp_mono hE (t := g _) h hq
theorem wp_ite {Q : TQ α} {c : Prop} [Decidable c] {t u : Tr α} {x : Nt} {n : Nat} {L : Shf} {k : Int} (ht : c → t.wp most b Q E x n L k) (hu : ¬ c → u.wp most b Q E x n L k) : (if c then t else u).wp most b Q E x n L k := by
 by_cases h : c
 ·rw [if_pos h]; exact ht h
 rw [if_neg h]; exact hu h
end
theorem wp_dir {most b : Int} {P : RunR → Prop} : ∀ {t : Tr Rsl} {x : Nt} {n : Nat} {L : Shf} {k : Int}, t.wp most b (fun a x n L k => P ⟨2, a, n, 0, L, k⟩) P x n L k → P (t.dir most b x n L k)
 | .ret a, x, n, L, k, h => h
 | .dead, x, n, L, k, h => h
 | .note y t, x, n, L, k, h => wp_dir (t := t) h
 | .ask w g, x, n, L, k, h => by
  unfold Tr.wp at h
  unfold Tr.dir
  by_cases h1 : b ≤ n
  ·rw [if_pos h1] at h ⊢; exact h
  rw [if_neg h1] at h ⊢
  by_cases h2 : most ≤ n
  ·rw [if_pos h2] at h ⊢; exact h
  rw [if_neg h2] at h ⊢
  by_cases h3 : (doL L (wntOf w)).err ≠ 0
  ·rw [if_pos h3] at h ⊢; exact h
  rw [if_neg h3] at h ⊢; exact wp_dir (t := g _) h
abbrev gotAtL (L : Shf) (l : Lab) : GotA := gotOf ⟨0, (spotOf L l).ver, (spotOf L l).has, (spotOf L l).r⟩
theorem doL_get {L : Shf} {l : Lab} (hl : isL l = true) : doL L (wntOf ⟨1, l, 0, zeroRec, zRsl⟩) = ⟨L, false, ⟨0, (spotOf L l).ver, (spotOf L l).has, (spotOf L l).r⟩, 0⟩ := by
 unfold doL wntOf
 rw [if_pos ⟨.inl rfl, hl, fun h => absurd h (by show ¬ (1 : Int) = 2; decide)⟩, if_pos rfl]
section
variable {α : Type} {most b : Int} {E : RunR → Prop} {x : Nt} {n : Nat} {L : Shf} {k : Int}
theorem wp_get {Q : TQ GotA} {l : Lab} (hl : LOk l) (h1 : (n : Int) < b) (h2 : b ≤ most) (h : Q (gotAtL L l) x (n + 1) L k) : (getT l).wp most b Q E x n L k := by
 unfold getT askT Tr.wp
 rw [if_neg (by omega), if_neg (by omega), doL_get hl.isl, if_neg (fun h => h rfl)]
 exact h
end
structure Beh (c : Lab) (d : Nat) (L L' : Shf) : Prop where
 right : ShfR L'
 len : L'.length ≤ L.length + d
 else_ : ∀ l, l ≠ c → spotOf L' l = spotOf L l
theorem Beh.refl {c : Lab} {L : Shf} (h : ShfR L) (d : Nat) : Beh c d L L := ⟨h, by omega, fun _ _ => rfl⟩
section
variable {most b : Int} {E : RunR → Prop} {x : Nt} {n : Nat} {L : Shf} {k : Int} {bk : Int}
end
section
variable {X : Nt → Prop} {l : Lab}
end
section
variable {most b : Int} {x : Nt} {n : Nat} {L : Shf} {k : Int} {bk : Int}
end
def TL (L : Shf) : Tre := fun q => if (spotOf L q).has = true then some (spotOf L q).r else none
def Mean (L : Shf) : List Itm := meansP (TL L) 65 ⟨0, 0⟩
def isFz (s : Spo) : Bool := s.has && decide (s.r.kind = 5)
theorem ShfR.ris {L : Shf} (h : ShfR L) : Rises L := h.good.ok.ris
theorem isFz_iff {s : Spo} : isFz s = true ↔ s.has = true ∧ s.r.kind = 5 := by
 unfold isFz
 simp only [Bool.and_eq_true, decide_eq_true_eq]
section
variable {most b : Int} {E : RunR → Prop} {x : Nt} {n : Nat} {L : Shf} {k : Int} {bk : Int}
structure Cl (l : Lab) (L L' : Shf) : Prop where
 right : ShfR L'
 len : L'.length ≤ L.length
 mean : Mean L' = Mean L
 drp : ∀ q, spotOf L' q = spotOf L q ∨ (l.len < q.len ∧ isFz (spotOf L q) = true ∧ (spotOf L' q).has = false)
theorem Cl.refl {l : Lab} (h : ShfR L) : Cl l L L := ⟨h, Nat.le_refl _, rfl, fun _ => .inl rfl⟩
theorem Cl.trans {l l' : Lab} {L' L'' : Shf} (h : Cl l L L') (h' : Cl l' L' L'') (hl : l.len ≤ l'.len) : Cl l L L'' := by
 refine ⟨h'.right, Nat.le_trans h'.len h.len, h'.mean.trans h.mean, fun q => ?_⟩
 rcases h'.drp q with e | ⟨a1, a2, a3⟩
 ·rcases h.drp q with e2 | ⟨c1, c2, c3⟩
  ·exact .inl (e.trans e2)
  exact .inr ⟨c1, c2, by rw [e]; exact c3⟩
 rcases h.drp q with e2 | ⟨c1, c2, c3⟩
 ·exact .inr ⟨by omega, by rw [← e2]; exact a2, a3⟩
 rw [isFz_iff] at a2
 rw [c3] at a2
 cases a2.1
theorem Cl.same {l : Lab} {L' : Shf} (h : Cl l L L') {q : Lab} (hq : q.len ≤ l.len) : spotOf L' q = spotOf L q := by
 rcases h.drp q with e | ⟨h1, _⟩
 ·exact e
 omega
theorem Cl.fz {l : Lab} {L' : Shf} (h : Cl l L L') {q : Lab} (hq : isFz (spotOf L q) = false) : spotOf L' q = spotOf L q := by
 rcases h.drp q with e | ⟨_, h1, _⟩
 ·exact e
 rw [hq] at h1; cases h1
abbrev Lfy (s : Spo) : Prop := s.has = true ∧ (s.r.kind = 1 ∨ s.r.kind = 5)
end
section
variable {most b : Int} {E : RunR → Prop} {x : Nt} {n : Nat} {L : Shf} {k : Int} {bk : Int}
structure Stp (c : Lab) (d : Nat) (L L' : Shf) : Prop where
 beh : Beh c d L L'
 mean : Mean L' = Mean L
structure Thd (s s' : Spo) : Prop where
 yes : isFz s = true → s'.has = true ∧ s'.r.kind = 1 ∧ s'.r.items = s.r.items
 no : isFz s = false → s' = s
theorem Thd.fz {s s' : Spo} (h : Thd s s') : isFz s' = false := by
 cases e : isFz s with
 | true =>
  obtain ⟨a, c, d⟩ := h.yes e
  cases e2 : isFz s' with
  | false => rfl
  | true => rw [isFz_iff] at e2; rw [c] at e2; exact absurd e2.2 (by decide)
 | false => rw [h.no e]; exact e
structure Lfd (s s' : Spo) : Prop where
 yes : Lfy s → s'.has = true ∧ s'.r.kind = 1 ∧ s'.r.items = s.r.items
 no : ¬ Lfy s → s' = s
theorem Lfd.of {s s' : Spo} (h : Thd s s') : Lfd s s' := by
 refine ⟨fun hy => ?_, fun hn => h.no ?_⟩
 ·rcases hy.2 with h1 | h5
  ·rw [h.no (by unfold isFz; rw [h1]; simp)]; exact ⟨hy.1, h1, rfl⟩
  exact h.yes (isFz_iff.2 ⟨hy.1, h5⟩)
 cases e : isFz s with
 | false => rfl
 | true => rw [isFz_iff] at e; exact absurd ⟨e.1, .inr e.2⟩ hn
structure Kp (d : Nat) (L L' : Shf) : Prop where
 right : ShfR L'
 len : L'.length ≤ L.length + d
 mean : Mean L' = Mean L
theorem Kp.refl (h : ShfR L) (d : Nat) : Kp d L L := ⟨h, by omega, rfl⟩
theorem Kp.trans {d e : Nat} {L' L'' : Shf} (h : Kp d L L') (h' : Kp e L' L'') : Kp (d + e) L L'' := ⟨h'.right, by have := h.len; have := h'.len; omega, h'.mean.trans h.mean⟩
theorem Stp.kp {c : Lab} {d : Nat} {L' : Shf} (h : Stp c d L L') : Kp d L L' := ⟨h.beh.right, h.beh.len, h.mean⟩
end
def spW (w : Rw) : Lab × Spo := (w.lab, ⟨w.ver, true, w.r⟩)
theorem putL_last {l : Lab} {x : Spo} : ∀ {M : Shf}, (∀ p ∈ M, lessL p.1 l = true) → putL l x M = M ++ [(l, x)]
 | [], _ => rfl
 | p :: M, h => by
  unfold putL
  rw [if_pos (h p (by simp)), putL_last fun q hq => h q (by simp [hq])]; rfl
theorem findL_last {l : Lab} : ∀ {M : Shf}, (∀ p ∈ M, lessL p.1 l = true) → findL l M = none
 | [], _ => rfl
 | p :: M, h => by
  unfold findL
  rw [if_neg (less_ne (h p (by simp))), findL_last fun q hq => h q (by simp [hq])]
theorem newL_sorted : ∀ {l : List Rw} {M : Shf}, l.Pairwise (fun x y => lessL x.lab y.lab = true) → (∀ p ∈ M, ∀ w ∈ l, lessL p.1 w.lab = true) → (∀ w ∈ l, isL w.lab = true ∧ isR w.r = true) → newL l M = some (M ++ l.map spW)
 | [], M, _, _, _ => by simp [newL]
 | v :: l, M, hs, hm, hr => by
  have hs' := List.pairwise_cons.1 hs
  have hM : ∀ p ∈ M, lessL p.1 v.lab = true := fun p hp => hm p hp v (by simp)
  unfold newL
  rw [findL_last hM, (hr v (by simp)).1, (hr v (by simp)).2]
  simp only [Option.isSome_none, Bool.not_true, Bool.or_self, Bool.false_eq_true, if_false]
  rw [putL_last hM, newL_sorted hs'.2 (fun p hp w hw => ?_) fun w hw => hr w (by simp [hw])]
  ·simp [spW]
  rcases List.mem_append.1 hp with hp | hp
  ·exact hm p hp w (by simp [hw])
  simp at hp; subst hp; exact hs'.1 w hw
section
variable {L : Shf}
end
theorem find_rev {l : List Rw} (h : (l.map (·.lab)).Nodup) (q : Lab) : l.reverse.find? (fun w => decide (w.lab = q)) = l.find? fun w => decide (w.lab = q) := by
 induction l with
 | nil => rfl
 | cons v l ih =>
  rw [List.map_cons, List.nodup_cons] at h
  rw [List.reverse_cons, List.find?_append, ih h.2, List.find?_cons]
  by_cases hv : v.lab = q
  ·subst hv
   rw [show l.find? (fun w => decide (w.lab = v.lab)) = none from by
    rw [List.find?_eq_none]
    intro w hw he
    exact h.1 (List.mem_map.2 ⟨w, hw, of_decide_eq_true he⟩)]
   simp
  simp [hv]
theorem treP_at {l : List Rw} (h : (l.map (·.lab)).Nodup) {w : Rw} (hw : w ∈ l) : treP l w.lab = some w.r := by
 unfold treP
 rw [find_rev h]
 induction l with
 | nil => cases hw
 | cons v l ih =>
  rw [List.map_cons, List.nodup_cons] at h
  rw [List.find?_cons]
  rcases List.mem_cons.1 hw with rfl | hw
  ·simp
  have hne : ¬ v.lab = w.lab := fun he => h.1 (List.mem_map.2 ⟨w, hw, he.symm⟩)
  simp only [decide_eq_false hne]
  exact ih h.2 hw
theorem nexA_get (g : Nat → Lab) (n : Nat) (hd : ∀ i j, i < n → j < n → g i = g j → i = j) : ∀ k, k ≤ n → ∀ i, i < k → getA (g i) (nexA g n k) = some (if i + 1 < n then g (i + 1) else noneL)
 | 0, _, i, hi => absurd hi (Nat.not_lt_zero _)
 | k + 1, hk, i, hi => by
  unfold nexA
  rw [getA_set]
  by_cases h : i = k
  ·subst h; rw [if_pos rfl]
  rw [if_neg (fun e => h (hd k i (by omega) (by omega) e).symm)]
  exact nexA_get g n hd k (by omega) i (by omega)
theorem labF_mem {l : List Lab} {q : Lab} (h : q ∈ l) : ∃ i, i < l.length ∧ labF l i = q := by
 obtain ⟨i, hi, he⟩ := List.mem_iff_getElem.1 h
 exact ⟨i, hi, by unfold labF; rw [List.getD_eq_getElem?_getD, List.getElem?_eq_getElem hi]; exact he⟩
theorem labF_inj {l : List Lab} (h : l.Nodup) : ∀ i j, i < l.length → j < l.length → labF l i = labF l j → i = j := by
 intro i j hi hj he
 unfold labF at he
 rw [List.getD_eq_getElem?_getD, List.getD_eq_getElem?_getD, List.getElem?_eq_getElem hi, List.getElem?_eq_getElem hj] at he
 have hp := List.pairwise_iff_getElem.1 h
 rcases Nat.lt_trichotomy i j with hij | hij | hij
 ·exact absurd he (hp i j hi hj hij)
 ·exact hij
 exact absurd he.symm (hp j i hj hi hij)
structure Und (q k : Lab) : Prop where
 is : isL k = true
 u : U64 k.bits
 len : q.len ≤ k.len
 cov : coverB q k.bits = true
theorem und_self {q : Lab} (hl : isL q = true) (hb : U64 q.bits) : Und q q := ⟨hl, hb, Int.le_refl _, cov_self hl hb⟩
theorem headN_le2 {v n m : Nat} (hnm : n ≤ m) : headN (headN v m) n = headN v n := by
 apply Nat.eq_of_testBit_eq
 intro i
 rw [testBit_head, testBit_head, testBit_head]
 by_cases h : 64 - n ≤ i
 ·rw [decide_eq_true h, decide_eq_true (show 64 - m ≤ i by omega)]; simp
 rw [decide_eq_false h]; simp
theorem cov_in {q k : Lab} (h : Und q k) (hq : isL q = true) {key : Int} (hc : coverB k key = true) : coverB q key = true := by
 obtain ⟨h0, h1, h2⟩ := lab_parts hq
 obtain ⟨g0, g1, g2⟩ := lab_parts h.is
 have hcv := h.cov
 unfold coverB at hc hcv ⊢
 simp only [Bool.and_eq_true, decide_eq_true_eq] at hc hcv ⊢
 refine ⟨hq, ?_⟩
 have e1 : headN key.toNat k.len.toNat = k.bits.toNat := by have := hc.2; omega
 have e2 : headN k.bits.toNat q.len.toNat = q.bits.toNat := by have := hcv.2; omega
 have e3 : headN (headN key.toNat k.len.toNat) q.len.toNat = headN key.toNat q.len.toNat := headN_le2 (by have := h.len; omega)
 rw [e1] at e3
 have := hcv.2
 omega
theorem und_kid {q k : Lab} (hq : isL q = true) (hb : U64 q.bits) (h64 : q.len ≠ 64) {b : Int} (h : Und (childL q b) k) : Und q k ∧ q.len < k.len := by
 have hlen : (childL q b).len = q.len + 1 := rfl
 have := h.len
 exact ⟨⟨h.is, h.u, by omega, cov_up hq hb h64 b h.cov⟩, by omega⟩
theorem und_ge {q k : Lab} (h : Und q k) : q.bits ≤ k.bits := by
 have hc := h.cov
 unfold coverB at hc
 simp only [Bool.and_eq_true, decide_eq_true_eq] at hc
 have h1 := headN_le k.bits.toNat q.len.toNat
 have h2 := hc.2
 have := h.u.1
 omega
theorem und_less {q k : Lab} (h : Und q k) (hlt : q.len < k.len) : lessL q k = true := by
 have := und_ge h
 unfold lessL
 simp only [Bool.or_eq_true, Bool.and_eq_true, decide_eq_true_eq]
 omega
theorem und_mid {q k0 k1 : Lab} (hq : isL q = true) (hb : U64 q.bits) (h64 : q.len ≠ 64) (h0 : Und (childL q 0) k0) (h1 : Und (childL q 1) k1) : k0.bits < k1.bits := by
 have c0 := (child_cov hq hb h64 h0.u (und_kid hq hb h64 h0).1.cov).1
 have c1 := (child_cov hq hb h64 h1.u (und_kid hq hb h64 h1).1.cov).2
 rw [h0.cov] at c0
 rw [h1.cov] at c1
 have a0 := of_decide_eq_true c0.symm
 have a1 := of_decide_eq_true c1.symm
 omega
theorem par_child {q : Lab} (hq : isL q = true) (hb : U64 q.bits) (h64 : q.len ≠ 64) (b : Int) : parV (childL q b) = q ∧ parE (childL q b) = 0 := by
 have hc := child_isL hq hb h64 b
 obtain ⟨h0, h1, h2⟩ := lab_parts hq
 have hlen : (childL q b).len = q.len + 1 := rfl
 have hE : parE (childL q b) = 0 := by
  unfold parE
  rw [if_neg (by rw [hc]; decide), if_neg (by omega)]
 refine ⟨?_, hE⟩
 unfold parV
 rw [if_pos hE]
 unfold parL
 have hu := (und_kid hq hb h64 (und_self hc (child_u hq hb h64 b))).1
 have hcv := hu.cov
 unfold coverB at hcv
 simp only [Bool.and_eq_true, decide_eq_true_eq] at hcv
 refine lab_ext ?_ ?_
 ·show (childL q b).len - 1 = q.len
  omega
 show ((headN (childL q b).bits.toNat ((childL q b).len.toNat - 1) : Nat) : Int) = q.bits
 rw [show (childL q b).len.toNat - 1 = q.len.toNat by omega]
 exact hcv.2
def nodes (b : Int) : Nat → List Itm → Lab → List (Lab × Rec)
 | 0, _, _ => []
 | n + 1, l, q => if (l.length : Int) ≤ b ∨ q.len = 64 then [(q, leafT l)] else (q, innR) :: (nodes b n (covL (childL q 0) l) (childL q 0) ++ nodes b n (covL (childL q 1) l) (childL q 1))
structure Gro (n : Nat) (q : Lab) : Prop where
 is : isL q = true
 u : U64 q.bits
 fu : 65 ≤ n + q.len
theorem Gro.child {n : Nat} {q : Lab} (h : Gro (n + 1) q) (h64 : q.len ≠ 64) (b : Int) : Gro n (childL q b) :=
 ⟨child_isL h.is h.u h64 b, child_u h.is h.u h64 b, by have := h.fu; show 65 ≤ (n : Int) + (q.len + 1); omega⟩
theorem Gro.pos {q : Lab} (h : Gro 0 q) : False := by
 have := h.fu; have := (lab_parts h.is).2.1; omega
theorem nodes_und {b : Int} : ∀ {n : Nat} {l : List Itm} {q : Lab}, Gro n q → ∀ p ∈ nodes b n l q, Und q p.1
 | 0, l, q, h, p, hp => by cases hp
 | n + 1, l, q, h, p, hp => by
  unfold nodes at hp
  split at hp
  ·simp only [List.mem_cons, List.not_mem_nil, or_false] at hp
   subst hp; exact und_self h.is h.u
  rename_i hn
  have h64 : q.len ≠ 64 := fun e => hn (.inr e)
  rcases List.mem_cons.1 hp with rfl | hp
  ·exact und_self h.is h.u
  rcases List.mem_append.1 hp with hp | hp
  ·exact (und_kid h.is h.u h64 (nodes_und (h.child h64 0) p hp)).1
  exact (und_kid h.is h.u h64 (nodes_und (h.child h64 1) p hp)).1
theorem nodes_sorted {b : Int} : ∀ {n : Nat} {l : List Itm} {q : Lab}, Gro n q → (nodes b n l q).Pairwise fun x y => lessL x.1 y.1 = true
 | 0, l, q, h => .nil
 | n + 1, l, q, h => by
  unfold nodes
  split
  ·exact List.pairwise_singleton _ _
  rename_i hn
  have h64 : q.len ≠ 64 := fun e => hn (.inr e)
  refine List.pairwise_cons.2 ⟨fun p hp => ?_, List.pairwise_append.2 ⟨nodes_sorted (h.child h64 0), nodes_sorted (h.child h64 1), fun x hx y hy => ?_⟩⟩
  ·rcases List.mem_append.1 hp with hp | hp
   ·have := und_kid h.is h.u h64 (nodes_und (h.child h64 0) p hp)
    exact und_less this.1 this.2
   have := und_kid h.is h.u h64 (nodes_und (h.child h64 1) p hp)
   exact und_less this.1 this.2
  have := und_mid h.is h.u h64 (nodes_und (h.child h64 0) x hx) (nodes_und (h.child h64 1) y hy)
  unfold lessL
  rw [decide_eq_true this]; rfl
theorem nodes_dist {b : Int} {n : Nat} {l : List Itm} {q : Lab} (h : Gro n q) : ((nodes b n l q).map (·.1)).Nodup := by
 unfold List.Nodup
 rw [List.pairwise_map]
 exact (nodes_sorted h).imp fun h => less_ne h
theorem nodes_head {b : Int} {n : Nat} {l : List Itm} {q : Lab} : ∃ r, (q, r) ∈ nodes b (n + 1) l q := by
 unfold nodes
 split
 ·exact ⟨_, List.mem_singleton.2 rfl⟩
 exact ⟨_, List.mem_cons_self ..⟩
theorem setA_new {α : Type} {q : Lab} {x : α} : ∀ {T : List (Lab × α)}, q ∉ T.map (·.1) → setA q x T = T ++ [(q, x)]
 | [], _ => rfl
 | p :: T, h => by
  rw [List.map_cons, List.mem_cons, not_or] at h
  unfold setA
  rw [if_neg (fun e => h.1 e.symm), setA_new h.2]; rfl
theorem grow_nodes {b : Int} : ∀ {n : Nat} {l : List Itm} {q : Lab} {T : List (Lab × Rec)}, Gro n q → (∀ p ∈ nodes b n l q, p.1 ∉ T.map (·.1)) →
  if T.length + (nodes b n l q).length ≤ 2000 then growP b n l q T = (true, T ++ nodes b n l q) else (growP b n l q T).1 = false
 | 0, l, q, T, h, _ => h.pos.elim
 | n + 1, l, q, T, h, hT => by
  by_cases hfull : 2000 ≤ T.length
  ·obtain ⟨r, hr⟩ := nodes_head (b := b) (n := n) (l := l) (q := q)
   have := List.length_pos_of_mem hr
   rw [if_neg (by omega), grow_full hfull]
  by_cases h1 : (l.length : Int) ≤ b ∨ q.len = 64
  ·have hN : nodes b (n + 1) l q = [(q, leafT l)] := by unfold nodes; exact if_pos h1
   rw [hN] at hT ⊢
   rw [if_pos (by simp only [List.length_cons, List.length_nil]; omega), grow_leaf hfull h1, setA_new (hT _ (List.mem_singleton.2 rfl))]
  have h64 : q.len ≠ 64 := fun e => h1 (.inr e)
  have hce : chE q 0 = 0 := by unfold chE; rw [h.is]; simp [h64]
  have hcv : ∀ i : Nat, chV q (i : Nat) = childL q (i : Nat) := fun i => (ch_okT hce).2.2 _
  have hN : nodes b (n + 1) l q = (q, innR) :: (nodes b n (covL (childL q 0) l) (childL q 0) ++ nodes b n (covL (childL q 1) l) (childL q 1)) := by rw [nodes.eq_2]; exact if_neg h1
  obtain ⟨N0, hN0⟩ := eqv (nodes b n (covL (childL q 0) l) (childL q 0))
  obtain ⟨N1, hN1⟩ := eqv (nodes b n (covL (childL q 1) l) (childL q 1))
  have hsr := nodes_sorted (b := b) (l := l) h
  rw [hN, ← hN0, ← hN1] at hT hsr
  rw [hN, ← hN0, ← hN1]
  have hs1 := List.pairwise_cons.1 hsr
  have hs2 := List.pairwise_append.1 hs1.2
  have hT0 : gT b n l q T 0 = T ++ [(q, innR)] := setA_new (hT _ (List.mem_cons_self ..))
  have i0 := grow_nodes (b := b) (l := covL (childL q 0) l) (T := T ++ [(q, innR)]) (h.child h64 0) (by
   rw [← hN0]
   intro p hp hm
   rw [List.map_append, List.mem_append] at hm
   rcases hm with hm | hm
   ·exact hT p (List.mem_cons_of_mem _ (List.mem_append_left _ hp)) hm
   simp at hm
   exact less_ne (hs1.1 p (List.mem_append_left _ hp)) hm.symm)
  rw [← hN0] at i0
  rw [grow_in hfull h1 hce]
  have hB0 : gB b n l q T 0 = (growP b n (covL (childL q 0) l) (childL q 0) (T ++ [(q, innR)])).1 := by unfold gB; rw [hT0, hcv]; rfl
  have hT1 : gT b n l q T 1 = (growP b n (covL (childL q 0) l) (childL q 0) (T ++ [(q, innR)])).2 := by
   show (growP b n (covL (chV q ((0 : Nat) : Int)) l) (chV q ((0 : Nat) : Int)) (gT b n l q T 0)).2 = _
   rw [hT0, hcv]; rfl
  have hB1 : gB b n l q T 1 = (growP b n (covL (childL q 1) l) (childL q 1) (gT b n l q T 1)).1 := by unfold gB; rw [hcv]; rfl
  have hT2 : gT b n l q T 2 = (growP b n (covL (childL q 1) l) (childL q 1) (gT b n l q T 1)).2 := by
   show (growP b n (covL (chV q ((1 : Nat) : Int)) l) (chV q ((1 : Nat) : Int)) (gT b n l q T 1)).2 = _
   rw [hcv]; rfl
  simp only [List.length_append, List.length_cons, List.length_nil] at i0 ⊢
  by_cases hl0 : T.length + (0 + 1) + N0.length ≤ 2000
  ·rw [if_pos hl0] at i0
   rw [i0] at hB0 hT1
   rw [hB0, if_pos rfl, hB1, hT2, hT1]
   have i1 := grow_nodes (b := b) (l := covL (childL q 1) l) (T := T ++ [(q, innR)] ++ N0) (h.child h64 1) (by
    rw [← hN1]
    intro p hp hm
    rw [List.map_append, List.map_append, List.mem_append, List.mem_append] at hm
    rcases hm with (hm | hm) | hm
    ·exact hT p (List.mem_cons_of_mem _ (List.mem_append_right _ hp)) hm
    ·simp at hm
     exact less_ne (hs1.1 p (List.mem_append_right _ hp)) hm.symm
    obtain ⟨p0, hp0, he⟩ := List.mem_map.1 hm
    exact less_ne (hs2.2.2 p0 hp0 p hp) he)
   rw [← hN1] at i1
   simp only [List.length_append, List.length_cons, List.length_nil] at i1
   by_cases hl1 : T.length + (0 + 1) + N0.length + N1.length ≤ 2000
   ·rw [if_pos hl1] at i1
    rw [if_pos (by omega), i1]
    simp
   rw [if_neg hl1] at i1
   rw [if_neg (by omega), i1]
  rw [if_neg hl0] at i0
  rw [i0] at hB0
  rw [hB0, if_neg (by omega)]
  rfl
theorem cov_cov {q k : Lab} (h : Und q k) (hq : isL q = true) (l : List Itm) : covL k (covL q l) = covL k l := by
 unfold covL
 rw [List.filter_filter]
 congr 1
 funext x
 cases hc : coverB k x.key with
 | false => rfl
 | true => rw [cov_in h hq hc]; rfl
structure ItsOk (l : List Itm) : Prop where
 keys : ∀ x ∈ l, U64 x.key
 rises : l.Pairwise fun x y => x.key < y.key
theorem ItsOk.cov {l : List Itm} (h : ItsOk l) (q : Lab) : ItsOk (covL q l) :=
 ⟨fun x hx => h.keys x (List.mem_filter.1 hx).1, h.rises.sublist List.filter_sublist⟩
theorem split_rises {l : List Itm} (h : l.Pairwise fun x y => x.key < y.key) (m : Int) : (l.filter fun x => decide (x.key < m)) ++ (l.filter fun x => decide (m ≤ x.key)) = l := by
 induction l with
 | nil => rfl
 | cons x l ih =>
  have h' := List.pairwise_cons.1 h
  by_cases hx : x.key < m
  ·rw [List.filter_cons, if_pos (by simpa using hx), List.filter_cons, if_neg (by simp; omega), List.cons_append, ih h'.2]
  have h1 : (x :: l).filter (fun x => decide (x.key < m)) = [] := by
   rw [List.filter_eq_nil_iff]
   intro y hy
   rcases List.mem_cons.1 hy with rfl | hy
   ·simpa using hx
   have := h'.1 y hy; simp; omega
  have h2 : (x :: l).filter (fun x => decide (m ≤ x.key)) = x :: l := by
   rw [List.filter_eq_self]
   intro y hy
   rcases List.mem_cons.1 hy with rfl | hy
   ·simp; omega
   have := h'.1 y hy; simp; omega
  rw [h1, h2]; rfl
theorem cov_two {q : Lab} (hq : isL q = true) (hb : U64 q.bits) (h64 : q.len ≠ 64) {l : List Itm} (h : ItsOk l) : covL (childL q 0) l ++ covL (childL q 1) l = covL q l := by
 have e : ∀ b, covL (childL q b) l = covL (childL q b) (covL q l) := fun b => (cov_cov (und_kid hq hb h64 (und_self (child_isL hq hb h64 b) (child_u hq hb h64 b))).1 hq l).symm
 have hk := h.cov q
 have h0 : covL (childL q 0) (covL q l) = (covL q l).filter fun x => decide (x.key < (childL q 1).bits) := List.filter_congr fun x hx => (child_cov hq hb h64 (hk.keys x hx) (List.mem_filter.1 hx).2).1
 have h1 : covL (childL q 1) (covL q l) = (covL q l).filter fun x => decide ((childL q 1).bits ≤ x.key) := List.filter_congr fun x hx => (child_cov hq hb h64 (hk.keys x hx) (List.mem_filter.1 hx).2).2
 rw [e, e, h0, h1, split_rises hk.rises]
theorem cov_root {l : List Itm} (h : ∀ x ∈ l, U64 x.key) : covL ⟨0, 0⟩ l = l := by
 unfold covL
 rw [List.filter_eq_self]
 intro x hx
 have := (h x hx).1
 have hu := u64_lt (h x hx)
 unfold coverB
 rw [show isL ⟨0, 0⟩ = true from by decide, Bool.true_and]
 refine decide_eq_true ?_
 show ((headN x.key.toNat 0 : Nat) : Int) = 0
 unfold headN
 rw [Nat.div_eq_of_lt (by simpa using hu)]
 simp
theorem cov_deep {q : Lab} (hq : isL q = true) (h64 : q.len = 64) {l : List Itm} (h : ItsOk l) : (covL q l).length ≤ 1 := by
 have hk := h.cov q
 have key : ∀ x ∈ covL q l, x.key = q.bits := fun x hx => by
  have hc := (List.mem_filter.1 hx).2
  have hu := (hk.keys x hx).1
  unfold coverB at hc
  simp only [Bool.and_eq_true, decide_eq_true_eq] at hc
  have h2 := hc.2
  rw [h64] at h2
  have h3 : ((headN x.key.toNat 64 : Nat) : Int) = q.bits := h2
  unfold headN at h3
  simp at h3
  omega
 match hl : covL q l with
 | [] => simp
 | [x] => simp
 | x :: y :: r =>
  rw [hl] at key hk
  have h1 := (List.pairwise_cons.1 hk.rises).1 y (by simp)
  have := key x (by simp)
  have := key y (by simp)
  omega
theorem nodes_row {b : Int} {L : List Itm} : ∀ {n : Nat} {l : List Itm} {q : Lab}, Gro n q → l = covL q L → ∀ p ∈ nodes b n l q,
  (p.2 = leafT (covL p.1 L) ∧ (((covL p.1 L).length : Int) ≤ b ∨ p.1.len = 64)) ∨ (p.2 = innR ∧ ¬ ((covL p.1 L).length : Int) ≤ b ∧ p.1.len ≠ 64 ∧ (∃ r, (childL p.1 0, r) ∈ nodes b n l q) ∧ ∃ r, (childL p.1 1, r) ∈ nodes b n l q)
 | 0, l, q, h, _, p, hp => by cases hp
 | n + 1, l, q, h, hl, p, hp => by
  have hne : ∀ {k : Nat}, k + 1 ≤ n + 1 → True := fun _ => trivial
  unfold nodes at hp ⊢
  split at hp
  ·rename_i h1
   simp only [List.mem_cons, List.not_mem_nil, or_false] at hp
   subst hp
   rw [← hl]
   exact .inl ⟨rfl, h1⟩
  rename_i h1
  rw [if_neg h1]
  have h64 : q.len ≠ 64 := fun e => h1 (.inr e)
  have g0 := h.child h64 0
  have g1 := h.child h64 1
  have hcc : ∀ b', covL (childL q b') l = covL (childL q b') L := fun b' => by
   rw [hl]; exact cov_cov (und_kid h.is h.u h64 (und_self (child_isL h.is h.u h64 b') (child_u h.is h.u h64 b'))).1 h.is L
  have hn : ∃ m, n = m + 1 := by
   cases n with
   | zero => exact (g0.pos).elim
   | succ m => exact ⟨m, rfl⟩
  obtain ⟨m, rfl⟩ := hn
  rcases List.mem_cons.1 hp with rfl | hp
  ·refine .inr ⟨rfl, ?_, h64, ?_, ?_⟩
   ·show ¬ ((covL q L).length : Int) ≤ b
    rw [← hl]; exact fun h2 => h1 (.inl h2)
   ·obtain ⟨r, hr⟩ := nodes_head (b := b) (n := m) (l := covL (childL q 0) l) (q := childL q 0)
    exact ⟨r, List.mem_cons_of_mem _ (List.mem_append_left _ hr)⟩
   obtain ⟨r, hr⟩ := nodes_head (b := b) (n := m) (l := covL (childL q 1) l) (q := childL q 1)
   exact ⟨r, List.mem_cons_of_mem _ (List.mem_append_right _ hr)⟩
  rcases List.mem_append.1 hp with hp | hp
  ·rcases nodes_row g0 (hcc 0) p hp with h2 | ⟨h2, h3, h4, ⟨r0, h5⟩, ⟨r1, h6⟩⟩
   ·exact .inl h2
   exact .inr ⟨h2, h3, h4, ⟨r0, List.mem_cons_of_mem _ (List.mem_append_left _ h5)⟩, ⟨r1, List.mem_cons_of_mem _ (List.mem_append_left _ h6)⟩⟩
  rcases nodes_row g1 (hcc 1) p hp with h2 | ⟨h2, h3, h4, ⟨r0, h5⟩, ⟨r1, h6⟩⟩
  ·exact .inl h2
  exact .inr ⟨h2, h3, h4, ⟨r0, List.mem_cons_of_mem _ (List.mem_append_right _ h5)⟩, ⟨r1, List.mem_cons_of_mem _ (List.mem_append_right _ h6)⟩⟩
theorem nodes_up {b : Int} : ∀ {n : Nat} {l : List Itm} {q : Lab}, Gro n q → ∀ p ∈ nodes b n l q, p.1 = q ∨ ((parV p.1, innR) ∈ nodes b n l q ∧ parE p.1 = 0 ∧ q.len < p.1.len ∧ ((p.1 = childL (parV p.1) 0 ∨ p.1 = childL (parV p.1) 1) ∧ (parV p.1).len ≠ 64))
 | 0, l, q, h, p, hp => by cases hp
 | n + 1, l, q, h, p, hp => by
  unfold nodes at hp ⊢
  split at hp
  ·simp only [List.mem_cons, List.not_mem_nil, or_false] at hp
   subst hp; exact .inl rfl
  rename_i h1
  rw [if_neg h1]
  have h64 : q.len ≠ 64 := fun e => h1 (.inr e)
  have hlen : ∀ b', (childL q b').len = q.len + 1 := fun _ => rfl
  rcases List.mem_cons.1 hp with rfl | hp
  ·exact .inl rfl
  right
  have kid : ∀ b' : Int, (b' = 0 ∨ b' = 1) → (p.1 = childL q b' ∨ ((parV p.1, innR) ∈ nodes b n (covL (childL q b') l) (childL q b') ∧ parE p.1 = 0 ∧ (childL q b').len < p.1.len ∧ ((p.1 = childL (parV p.1) 0 ∨ p.1 = childL (parV p.1) 1) ∧ (parV p.1).len ≠ 64))) → (∀ x, x ∈ nodes b n (covL (childL q b') l) (childL q b') → x ∈ ((q, innR) :: (nodes b n (covL (childL q 0) l) (childL q 0) ++ nodes b n (covL (childL q 1) l) (childL q 1)))) →
    ((parV p.1, innR) ∈ ((q, innR) :: (nodes b n (covL (childL q 0) l) (childL q 0) ++ nodes b n (covL (childL q 1) l) (childL q 1))) ∧ parE p.1 = 0 ∧ q.len < p.1.len ∧ ((p.1 = childL (parV p.1) 0 ∨ p.1 = childL (parV p.1) 1) ∧ (parV p.1).len ≠ 64)) := by
   intro b' hb' hc hsub
   rcases hc with hc | ⟨g1, g2, g3, g4⟩
   ·obtain ⟨e1, e2⟩ := par_child h.is h.u h64 b'
    rw [hc, e1]
    refine ⟨List.mem_cons_self .., e2, by rw [hlen]; omega, ?_, h64⟩
    rcases hb' with rfl | rfl
    ·exact .inl rfl
    exact .inr rfl
   exact ⟨hsub _ g1, g2, by rw [hlen] at g3; omega, g4⟩
  rcases List.mem_append.1 hp with hp | hp
  ·exact kid 0 (.inl rfl) (nodes_up (h.child h64 0) p hp) fun x hx => List.mem_cons_of_mem _ (List.mem_append_left _ hx)
  exact kid 1 (.inr rfl) (nodes_up (h.child h64 1) p hp) fun x hx => List.mem_cons_of_mem _ (List.mem_append_right _ hx)
theorem gro_root : Gro 65 ⟨0, 0⟩ := ⟨by decide, ⟨by decide, by decide⟩, by decide⟩
structure Blt (b : Int) (L : List Itm) (R : List Rw) : Prop where
 ok : ItsOk L
 vals : ∀ x ∈ L, x.val.size ≤ 64
 b1 : 1 ≤ b
 b16 : b ≤ 16
 len : (nodes b 65 L ⟨0, 0⟩).length ≤ 2000
 rows : R = ((nodes b 65 L ⟨0, 0⟩).map rwOf).map (fixN (nxP (leavesP ((nodes b 65 L ⟨0, 0⟩).map rwOf))))
theorem srt_pair {n : Nat} {f : Nat → Itm} (hs : srtB n f = true) (hd : dupB n f = false) : (firsts f n).Pairwise fun x y => x.key < y.key := by
 have step : ∀ t, t + 1 < n → (f t).key < (f (t + 1)).key := fun t ht => by
  have h1 := List.all_eq_true.1 hs t (List.mem_range.2 (by omega))
  have h2 := List.any_eq_false.1 hd t (List.mem_range.2 (by omega))
  have h1 : ¬ (f (t + 1)).key < (f t).key := of_decide_eq_true h1
  have h2 : ¬ (f (t + 1)).key = (f t).key := by simpa using h2
  omega
 have far : ∀ d t, t + d + 1 < n → (f t).key < (f (t + d + 1)).key := fun d => by
  induction d with
  | zero => exact fun t ht => step t ht
  | succ d ih =>
   intro t ht
   have h1 := ih t (by omega)
   have h2 := step (t + d + 1) (by omega)
   rw [show t + (d + 1) + 1 = t + d + 1 + 1 by omega]
   omega
 unfold firsts
 rw [List.pairwise_map]
 refine List.Pairwise.imp_of_mem ?_ (List.pairwise_lt_range (n := n))
 intro i j hi hj hij
 have hj := List.mem_range.1 hj
 have := far (j - i - 1) i (by omega)
 rw [show i + (j - i - 1) + 1 = j by omega] at this
 exact this
theorem sortE_id {N : List (Lab × Rec)} (h : N.Pairwise fun x y => lessL x.1 y.1 = true) : sortE N = N := by
 refine List.Perm.eq_of_pairwise (le := leE) (fun a b ha hb h1 h2 => ?_) (sortE_sorted N) (h.imp fun h => less_le h) (sortE_perm N)
 have e : a.1 = b.1 := leL_anti h1 h2
 have ha := (sortE_perm N).mem_iff.1 ha
 have hnd : (N.map (·.1)).Nodup := by
  unfold List.Nodup
  rw [List.pairwise_map]
  exact h.imp fun h => less_ne h
 have g1 := mem_getA hnd ha
 have g2 := mem_getA hnd hb
 rw [e, g2] at g1
 injection g1 with g1
 exact Prod.ext e g1.symm
theorem bld_yes {n : Nat} {f : Nat → Itm} {b : Int} (hk : ∀ i, i < n → U64 (f i).key) (h : bldE n f b = 0) : Blt b (firsts f n) (bldR n f b) := by
 have hR : bldR n f b = (bld0 n f b).map (fixN (nxP (leavesP (bld0 n f b)))) := by unfold bldR; rw [if_pos h]
 unfold bldE at h
 split at h
 ·cases h
 rename_i h1
 split at h
 ·cases h
 split at h
 ·rename_i hg
  simp only [not_or, Bool.not_eq_true, Bool.not_eq_false] at h1
  obtain ⟨g1, g2, g3, g4, g5⟩ := h1
  have hgn := grow_nodes (b := b) (n := 65) (l := firsts f n) (q := ⟨0, 0⟩) (T := []) gro_root (by simp)
  have hlen : (nodes b 65 (firsts f n) ⟨0, 0⟩).length ≤ 2000 := by
   by_cases hl : ([] : List (Lab × Rec)).length + (nodes b 65 (firsts f n) ⟨0, 0⟩).length ≤ 2000
   ·simpa using hl
   rw [if_neg hl] at hgn
   unfold growT at hg
   rw [hgn] at hg; cases hg
  rw [if_pos (by simpa using hlen)] at hgn
  have hb0 : bld0 n f b = (nodes b 65 (firsts f n) ⟨0, 0⟩).map rwOf := by
   unfold bld0 growT
   rw [hgn, List.nil_append, sortE_id (nodes_sorted gro_root)]
  refine ⟨⟨firsts_mem hk, srt_pair g4 g5⟩, ?_, by omega, by omega, hlen, by rw [hR, hb0]⟩
  intro x hx
  unfold firsts at hx
  obtain ⟨i, hi, rfl⟩ := List.mem_map.1 hx
  have := List.any_eq_false.1 g3 i hi
  simpa using this
 cases h
theorem bld_no {n : Nat} {f : Nat → Itm} {b : Int} (h : bldE n f b ≠ 0) : bldR n f b = [] := by unfold bldR; rw [if_neg h]
abbrev nodR (b : Int) (L : List Itm) : List (Lab × Rec) := nodes b 65 L ⟨0, 0⟩
abbrev lvR (b : Int) (L : List Itm) : List Lab := leavesP ((nodR b L).map rwOf)
def recR (NX : Lab → Lab) (p : Lab × Rec) : Rec := if p.2.kind = 1 then { p.2 with next := NX p.1 } else p.2
def rowR (NX : Lab → Lab) (p : Lab × Rec) : Rw := ⟨p.1, 1, recR NX p⟩
theorem fix_row (NX : Lab → Lab) (p : Lab × Rec) : fixN NX (rwOf p) = rowR NX p := by
 unfold fixN rowR recR rwOf
 split <;> rfl
theorem recR_kind (NX : Lab → Lab) (p : Lab × Rec) : (recR NX p).kind = p.2.kind := by unfold recR; split <;> rfl
theorem recR_items (NX : Lab → Lab) (p : Lab × Rec) : (recR NX p).items = p.2.items := by unfold recR; split <;> rfl
section
variable {b : Int} {L : List Itm} {R : List Rw}
theorem Blt.rows' (h : Blt b L R) : R = (nodR b L).map (rowR (nxP (lvR b L))) := by
 rw [h.rows, List.map_map]
 exact List.map_congr_left fun p _ => fix_row _ p
theorem Blt.labs (h : Blt b L R) : R.map (·.lab) = (nodR b L).map (·.1) := by
 rw [h.rows', List.map_map]; rfl
theorem Blt.dist (h : Blt b L R) : (R.map (·.lab)).Nodup := by
 rw [h.labs]; exact nodes_dist gro_root
theorem Blt.mem (h : Blt b L R) {w : Rw} : w ∈ R ↔ ∃ p ∈ nodR b L, w = rowR (nxP (lvR b L)) p := by
 rw [h.rows', List.mem_map]
 exact ⟨fun ⟨p, h1, h2⟩ => ⟨p, h1, h2.symm⟩, fun ⟨p, h1, h2⟩ => ⟨p, h1, h2.symm⟩⟩
theorem Blt.at_ (h : Blt b L R) {p : Lab × Rec} (hp : p ∈ nodR b L) : treP R p.1 = some (recR (nxP (lvR b L)) p) :=
 treP_at h.dist (h.mem.2 ⟨p, hp, rfl⟩)
theorem leafs_rows (NX : Lab → Lab) (N : List (Lab × Rec)) : leafs (N.map (rowR NX)) = leafs (N.map rwOf) := by
 unfold leafs
 induction N with
 | nil => rfl
 | cons p N ih =>
  rw [List.map_cons, List.map_cons, List.filter_cons, List.filter_cons]
  have e : (rowR NX p).r.kind = p.2.kind := recR_kind NX p
  have e2 : (rwOf p).r.kind = p.2.kind := rfl
  rw [e, e2]
  by_cases hk : p.2.kind = 1
  ·rw [if_pos (by simpa using hk), if_pos (by simpa using hk), List.map_cons, List.map_cons, ih]; rfl
  rw [if_neg (by simpa using hk), if_neg (by simpa using hk), ih]
theorem Blt.leaves (h : Blt b L R) : leavesP R = lvR b L := by
 rw [h.rows']
 show sortL (leafs _) = sortL (leafs _)
 rw [leafs_rows]
theorem lv_sorted : (leafs ((nodR b L).map rwOf)).Pairwise fun x y => lessL x y = true := by
 unfold leafs
 rw [List.pairwise_map]
 refine List.Pairwise.sublist List.filter_sublist ?_
 rw [List.pairwise_map]
 exact nodes_sorted gro_root
theorem lv_eq : lvR b L = leafs ((nodR b L).map rwOf) := sortL_eq (List.Perm.refl _) (lv_sorted.imp fun h => less_le h)
theorem lv_mem {k : Lab} : k ∈ lvR b L ↔ ∃ p ∈ nodR b L, p.2.kind = 1 ∧ p.1 = k := by
 rw [lv_eq]
 unfold leafs
 constructor
 ·intro hm
  obtain ⟨w, hw, rfl⟩ := List.mem_map.1 hm
  obtain ⟨h1, h2⟩ := List.mem_filter.1 hw
  obtain ⟨p, hp, rfl⟩ := List.mem_map.1 h1
  exact ⟨p, hp, of_decide_eq_true h2, rfl⟩
 rintro ⟨p, hp, hk, rfl⟩
 exact List.mem_map.2 ⟨rwOf p, List.mem_filter.2 ⟨List.mem_map.2 ⟨p, hp, rfl⟩, decide_eq_true hk⟩, rfl⟩
theorem lv_dist : (lvR b L).Nodup := by
 rw [lv_eq]
 exact lv_sorted.imp fun h => less_ne h
theorem nx_is {k : Lab} (hk : k ∈ lvR b L) : nxP (lvR b L) k = noneL ∨ nxP (lvR b L) k ∈ lvR b L := by
 obtain ⟨i, hi, rfl⟩ := labF_mem hk
 have hj := labF_inj (lv_dist (b := b) (L := L))
 unfold nxP
 rw [nexA_get (labF (lvR b L)) (lvR b L).length hj (lvR b L).length (Nat.le_refl _) i hi]
 show (if i + 1 < (lvR b L).length then labF (lvR b L) (i + 1) else noneL) = noneL ∨ (if i + 1 < (lvR b L).length then labF (lvR b L) (i + 1) else noneL) ∈ lvR b L
 by_cases h1 : i + 1 < (lvR b L).length
 ·rw [if_pos h1]
  right
  unfold labF
  rw [List.getD_eq_getElem?_getD, List.getElem?_eq_getElem h1]
  exact List.getElem_mem h1
 rw [if_neg h1]; exact .inl rfl
theorem nod_row (hk : ∀ x ∈ L, U64 x.key) {p : Lab × Rec} (hp : p ∈ nodR b L) :
  (p.2 = leafT (covL p.1 L) ∧ (((covL p.1 L).length : Int) ≤ b ∨ p.1.len = 64)) ∨ (p.2 = innR ∧ ¬ ((covL p.1 L).length : Int) ≤ b ∧ p.1.len ≠ 64 ∧ (∃ r, (childL p.1 0, r) ∈ nodR b L) ∧ ∃ r, (childL p.1 1, r) ∈ nodR b L) :=
 nodes_row (b := b) (L := L) gro_root (cov_root hk).symm p hp
theorem nod_und {p : Lab × Rec} (hp : p ∈ nodR b L) : Und ⟨0, 0⟩ p.1 := nodes_und gro_root p hp
theorem lv_is {k : Lab} (hk : k ∈ lvR b L) : isL k = true ∧ U64 k.bits := by
 obtain ⟨p, hp, _, rfl⟩ := lv_mem.1 hk
 exact ⟨(nod_und hp).is, (nod_und hp).u⟩
theorem newL_some : ∀ {l : List Rw} {M : Shf}, (l.map (·.lab)).Nodup → (∀ w ∈ l, findL w.lab M = none) → (∀ w ∈ l, isL w.lab = true ∧ isR w.r = true) → (newL l M).isSome = true
 | [], M, _, _, _ => rfl
 | v :: l, M, hd, hn, hr => by
  rw [List.map_cons, List.nodup_cons] at hd
  unfold newL
  rw [hn v (by simp), (hr v (by simp)).1, (hr v (by simp)).2]
  simp only [Option.isSome_none, Bool.not_true, Bool.or_self, Bool.false_eq_true, if_false]
  refine newL_some hd.2 (fun w hw => ?_) fun w hw => hr w (by simp [hw])
  rw [find_put, if_neg (fun e => hd.1 (List.mem_map.2 ⟨w, hw, e.symm⟩))]
  exact hn w (by simp [hw])
theorem okF_its {l : List Itm} (h : ItsOk l) (hv : ∀ x ∈ l, x.val.size ≤ 64) : okF (itF l) l.length = true := by
 unfold okF
 rw [List.all_eq_true]
 intro i hi
 have hi := List.mem_range.1 hi
 have e : ∀ j (hj : j < l.length), itF l j = l[j] := fun j hj => by unfold itF; rw [List.getD_eq_getElem?_getD, List.getElem?_eq_getElem hj]; rfl
 unfold okAt
 rw [e i hi, decide_eq_true (hv _ (List.getElem_mem hi)), Bool.true_and]
 by_cases h0 : i = 0
 ·subst h0; rfl
 rw [e (i - 1) (by omega), decide_eq_true (List.pairwise_iff_getElem.1 h.rises (i - 1) i (by omega) hi (by omega))]
 simp
theorem leaf_few (h : Blt b L R) {p : Lab × Rec} (hp : p ∈ nodR b L) (hc : ((covL p.1 L).length : Int) ≤ b ∨ p.1.len = 64) : ((covL p.1 L).length : Int) ≤ b := by
 rcases hc with hc | hc
 ·exact hc
 have := cov_deep (nod_und hp).is hc h.ok
 have := h.b1
 omega
theorem Blt.right (h : Blt b L R) : isRw R = true := by
 unfold isRw newS
 rw [if_neg (by rw [h.rows', List.length_map]; exact Nat.not_lt.2 h.len)]
 refine newL_some h.dist (fun w _ => rfl) fun w hw => ?_
 obtain ⟨p, hp, rfl⟩ := h.mem.1 hw
 refine ⟨(nod_und hp).is, ?_⟩
 show isR (recR _ p) = true
 rcases nod_row h.ok.keys hp with ⟨h1, h2⟩ | ⟨h1, _⟩
 ·have hk : p.2.kind = 1 := by rw [h1]; rfl
  have hlv : p.1 ∈ lvR b L := lv_mem.2 ⟨p, hp, hk, rfl⟩
  have hfew := leaf_few h hp h2
  have h16 := h.b16
  unfold recR
  rw [if_pos hk, h1]
  show isRF 1 (covL p.1 L).length (itF (covL p.1 L)) (nxP (lvR b L) p.1) 0 = true
  unfold isRF rowF bareK
  rw [okF_its (h.ok.cov p.1) fun x hx => h.vals x (List.mem_filter.1 hx).1, decide_eq_true (show (covL p.1 L).length ≤ 16 by omega)]
  rcases nx_is hlv with e | e
  ·rw [e]; simp
  rw [(lv_is e).1]; simp
 unfold recR
 rw [if_neg (by rw [h1]; decide), h1]
 decide
theorem Blt.isR_small (h : Blt b L R) {w : Rw} (hw : w ∈ R) : w.r.items.length ≤ 16 ∧ isL w.lab = true ∧ U64 w.lab.bits ∧ U64 w.r.next.bits ∧ ∀ x ∈ w.r.items, U64 x.key := by
 obtain ⟨p, hp, rfl⟩ := h.mem.1 hw
 have hi : (rowR (nxP (lvR b L)) p).r.items = p.2.items := recR_items _ p
 refine ⟨?_, (nod_und hp).is, (nod_und hp).u, ?_, ?_⟩
 ·rw [hi]
  rcases nod_row h.ok.keys hp with ⟨h1, h2⟩ | ⟨h1, _⟩
  ·rw [h1]
   have := leaf_few h hp h2
   have := h.b16
   show (covL p.1 L).length ≤ 16
   omega
  rw [h1]; exact Nat.zero_le _
 ·show U64 (recR _ p).next.bits
  rcases nod_row h.ok.keys hp with ⟨h1, h2⟩ | ⟨h1, _⟩
  ·have hk : p.2.kind = 1 := by rw [h1]; rfl
   unfold recR
   rw [if_pos hk]
   rcases nx_is (lv_mem.2 ⟨p, hp, hk, rfl⟩) with e | e
   ·show U64 (nxP (lvR b L) p.1).bits
    rw [e]; exact ⟨by decide, by decide⟩
   exact (lv_is e).2
  unfold recR
  rw [if_neg (by rw [h1]; decide), h1]
  exact ⟨by decide, by decide⟩
 rw [hi]
 rcases nod_row h.ok.keys hp with ⟨h1, h2⟩ | ⟨h1, _⟩
 ·rw [h1]
  intro x hx
  exact h.ok.keys x (List.mem_filter.1 hx).1
 rw [h1]; intro x hx; cases hx
theorem ch_yes {q : Lab} (hq : isL q = true) (h64 : q.len ≠ 64) : chE q 0 = 0 ∧ ∀ i : Int, chV q i = childL q i := by
 have hce : chE q 0 = 0 := by unfold chE; rw [hq]; simp [h64]
 exact ⟨hce, fun i => (ch_okT hce).2.2 i⟩
theorem Blt.means (h : Blt b L R) : ∀ (fu : Nat) (p : Lab × Rec), p ∈ nodR b L → 65 ≤ fu + p.1.len → meansP (treP R) fu p.1 = covL p.1 L
 | 0, p, hp, h65 => by have := (lab_parts (nod_und hp).is).2.1; omega
 | fu + 1, p, hp, h65 => by
  unfold meansP
  rw [h.at_ hp]
  simp only
  rw [recR_kind, recR_items]
  have hu := nod_und hp
  rcases nod_row h.ok.keys hp with ⟨h1, h2⟩ | ⟨h1, h2, h3, ⟨r0, h4⟩, ⟨r1, h5⟩⟩
  ·have hk : p.2.kind = 1 := by rw [h1]; rfl
   rw [if_pos (.inl hk), h1]; rfl
  have hk : p.2.kind = 2 := by rw [h1]; rfl
  obtain ⟨hce, hcv⟩ := ch_yes hu.is h3
  rw [if_neg (by rw [hk]; decide), hce, if_pos rfl, hcv, hcv]
  have k : ∀ c, kidP (treP R) (meansP (treP R) fu) (recR (nxP (lvR b L)) p) c = meansP (treP R) fu c := fun c => by
   unfold kidP
   rw [recR_kind, if_neg (fun h => by rw [hk] at h; exact absurd h.1 (by decide))]
  rw [k, k]
  have hl0 : (childL p.1 0).len = p.1.len + 1 := rfl
  have hl1 : (childL p.1 1).len = p.1.len + 1 := rfl
  rw [h.means fu _ h4 (by show 65 ≤ (fu : Int) + (childL p.1 0).len; rw [hl0]; omega), h.means fu _ h5 (by show 65 ≤ (fu : Int) + (childL p.1 1).len; rw [hl1]; omega)]
  exact cov_two hu.is hu.u h3 h.ok
theorem Blt.items (h : Blt b L R) : itemsP R = L ∧ itemsE R = 0 := by
 unfold itemsP itemsE
 rw [if_pos h.right, if_pos h.right]
 obtain ⟨r, hr⟩ := nodes_head (b := b) (n := 64) (l := L) (q := ⟨0, 0⟩)
 have := h.means 65 _ hr (by show (65 : Int) ≤ 65 + 0; decide)
 simp only at this
 rw [this, cov_root h.ok.keys]
 exact ⟨rfl, rfl⟩
theorem Blt.kind (h : Blt b L R) {w : Rw} (hw : w ∈ R) : (w.r.kind = 2 ↔ b < ((covL w.lab L).length : Int)) ∧ w.ver = 1 ∧ (w.r.kind = 1 ∨ w.r.kind = 2) := by
 obtain ⟨p, hp, rfl⟩ := h.mem.1 hw
 show ((recR _ p).kind = 2 ↔ b < ((covL p.1 L).length : Int)) ∧ 1 = 1 ∧ ((recR _ p).kind = 1 ∨ (recR _ p).kind = 2)
 rw [recR_kind]
 rcases nod_row h.ok.keys hp with ⟨h1, h2⟩ | ⟨h1, h2, _⟩
 ·have hfew := leaf_few h hp h2
  have hk : p.2.kind = 1 := by rw [h1]; rfl
  rw [hk]
  exact ⟨⟨fun e => absurd e (by decide), fun e => by omega⟩, rfl, .inl rfl⟩
 have hk : p.2.kind = 2 := by rw [h1]; rfl
 rw [hk]
 exact ⟨⟨fun _ => by omega, fun _ => rfl⟩, rfl, .inr rfl⟩
end
def lfs (N : List (Lab × Rec)) : List Lab := leafs (N.map rwOf)
theorem lfs_app (a b : List (Lab × Rec)) : lfs (a ++ b) = lfs a ++ lfs b := by unfold lfs leafs; simp
theorem lfs_inner (q : Lab) (N : List (Lab × Rec)) : lfs ((q, innR) :: N) = lfs N := by
 unfold lfs leafs
 rw [List.map_cons, List.filter_cons, if_neg (by show ¬ decide ((2 : Int) = 1) = true; decide)]
theorem lfs_leaf (q : Lab) (l : List Itm) : lfs [(q, leafT l)] = [q] := by
 unfold lfs leafs
 rw [List.map_cons, List.filter_cons, if_pos (by show decide ((1 : Int) = 1) = true; decide)]
 rfl
theorem nodes_one {b : Int} {key : Int} (hk : U64 key) : ∀ {n : Nat} {l : List Itm} {q : Lab}, Gro n q → (lfs (nodes b n l q)).countP (fun k => coverB k key) = if coverB q key = true then 1 else 0
 | 0, l, q, h => h.pos.elim
 | n + 1, l, q, h => by
  unfold nodes
  split
  ·rw [lfs_leaf]
   by_cases hc : coverB q key = true
   ·simp [hc]
   simp [hc]
  rename_i hn
  have h64 : q.len ≠ 64 := fun e => hn (.inr e)
  rw [lfs_inner, lfs_app, List.countP_append, nodes_one hk (h.child h64 0), nodes_one hk (h.child h64 1)]
  by_cases hc : coverB q key = true
  ·obtain ⟨c0, c1⟩ := child_cov h.is h.u h64 hk hc
   rw [c0, c1, if_pos hc]
   by_cases hm : key < (childL q 1).bits
   ·rw [decide_eq_true hm, decide_eq_false (by omega)]; simp
   rw [decide_eq_false hm, decide_eq_true (by omega)]; simp
  have no : ∀ b', ¬ coverB (childL q b') key = true := fun b' h' => hc (cov_up h.is h.u h64 b' h')
  rw [if_neg (no 0), if_neg (no 1), if_neg hc]
section
variable {b : Int} {L : List Itm} {R : List Rw}
theorem root_cov {key : Int} (hk : U64 key) : coverB ⟨0, 0⟩ key = true := by
 have := cov_root (l := [⟨key, .empty⟩]) (fun x hx => by simp at hx; subst hx; exact hk)
 unfold covL at this
 rw [List.filter_eq_self] at this
 exact this ⟨key, .empty⟩ (by simp)
theorem lv_one {key : Int} (hk : U64 key) : (lvR b L).countP (fun k => coverB k key) = 1 := by
 rw [lv_eq]
 have := nodes_one (b := b) (l := L) hk gro_root
 rw [if_pos (root_cov hk)] at this
 exact this
theorem Blt.own (h : Blt b L R) {w : Rw} (hw : w ∈ R) {x : Itm} (hx : x ∈ L) : x ∈ w.r.items ↔ (w.r.kind = 1 ∧ coverB w.lab x.key = true) := by
 obtain ⟨p, hp, rfl⟩ := h.mem.1 hw
 show x ∈ (recR _ p).items ↔ ((recR _ p).kind = 1 ∧ coverB p.1 x.key = true)
 rw [recR_kind, recR_items]
 rcases nod_row h.ok.keys hp with ⟨h1, _⟩ | ⟨h1, _⟩
 ·rw [h1]
  constructor
  ·intro hm; exact ⟨rfl, (List.mem_filter.1 hm).2⟩
  rintro ⟨_, hc⟩; exact List.mem_filter.2 ⟨hx, hc⟩
 rw [h1]
 constructor
 ·intro hm; cases hm
 rintro ⟨hc, _⟩; exact absurd hc (by show ¬ (2 : Int) = 1; decide)
end
section
variable {b : Int} {L : List Itm} {R : List Rw}
theorem Blt.lessW (h : Blt b L R) : R.Pairwise fun x y => lessL x.lab y.lab = true := by
 rw [h.rows', List.pairwise_map]
 exact nodes_sorted gro_root
theorem Blt.shelf (h : Blt b L R) : newS R = some (R.map spW) := by
 unfold newS
 have hr := newS_is h.right
 rw [if_neg (by have := hr.1; omega), newL_sorted h.lessW (fun p hp => by cases hp) hr.2]
 rfl
theorem find_spW : ∀ {R : List Rw} (q : Lab), (R.map (·.lab)).Nodup → (∀ w ∈ R, w.lab = q → findL q (R.map spW) = some ⟨w.ver, true, w.r⟩) ∧ ((∀ w ∈ R, w.lab ≠ q) → findL q (R.map spW) = none)
 | [], q, _ => ⟨fun w hw => (by cases hw), fun _ => rfl⟩
 | v :: R, q, hd => by
  rw [List.map_cons, List.nodup_cons] at hd
  obtain ⟨h1, h2⟩ := find_spW (R := R) q hd.2
  constructor
  ·intro w hw he
   rw [List.map_cons]
   unfold findL
   rcases List.mem_cons.1 hw with rfl | hw
   ·rw [if_pos (show (spW w).1 = q from he)]; rfl
   rw [if_neg (show ¬ (spW v).1 = q from fun e => hd.1 (List.mem_map.2 ⟨w, hw, he.trans e.symm⟩))]
   exact h1 w hw he
  intro hn
  rw [List.map_cons]
  unfold findL
  rw [if_neg (show ¬ (spW v).1 = q from hn v (by simp))]
  exact h2 fun w hw => hn w (by simp [hw])
theorem Blt.spot (h : Blt b L R) {p : Lab × Rec} (hp : p ∈ nodR b L) : spotOf (R.map spW) p.1 = ⟨1, true, recR (nxP (lvR b L)) p⟩ := by
 unfold spotOf
 rw [(find_spW p.1 h.dist).1 _ (h.mem.2 ⟨p, hp, rfl⟩) rfl]
 rfl
theorem Blt.spot_no (h : Blt b L R) {q : Lab} (hq : ∀ p ∈ nodR b L, p.1 ≠ q) : spotOf (R.map spW) q = zeroSpo := by
 unfold spotOf
 rw [(find_spW q h.dist).2 fun w hw => by
  obtain ⟨p, hp, rfl⟩ := h.mem.1 hw
  exact hq p hp]
 rfl
theorem Blt.gkk (h : Blt b L R) {p : Lab × Rec} (hp : p ∈ nodR b L) (kd : Int) : gk (gotAtL (R.map spW) p.1) kd = decide (p.2.kind = kd) := by
 unfold gk gotAtL
 rw [h.spot hp]
 show (true && decide ((recR (nxP (lvR b L)) p).kind = kd)) = _
 rw [recR_kind, Bool.true_and]
theorem Blt.gk_no (h : Blt b L R) {q : Lab} (hq : ∀ p ∈ nodR b L, p.1 ≠ q) (kd : Int) : Sym.gk (gotAtL (R.map spW) q) kd = false := by
 unfold Sym.gk gotAtL
 rw [h.spot_no hq]
 rfl
theorem cov_ofV {q : Lab} {key : Int} (hc : coverB q key = true) : q = ofV key q.len := by
 unfold coverB at hc
 simp only [Bool.and_eq_true, decide_eq_true_eq] at hc
 obtain ⟨h0, h1, _⟩ := lab_parts hc.1
 unfold ofV
 rw [if_neg (by omega)]
 exact lab_ext rfl hc.2.symm
theorem ofV_cov {key m : Int} (h0 : 0 ≤ m) (h1 : m ≤ 64) : coverB (ofV key m) key = true := by
 unfold coverB
 rw [ofV_isL, Bool.true_and]
 unfold ofV
 rw [if_neg (by omega)]
 exact decide_eq_true rfl
theorem ofV_len {key m : Int} (h0 : 0 ≤ m) (h1 : m ≤ 64) : (ofV key m).len = m := by unfold ofV; rw [if_neg (by omega)]
theorem lok_ofV {key : Int} (hk : U64 key) (m : Int) : LOk (ofV key m) := ⟨ofV_isL _, ofV_u hk _⟩
theorem leaf_at {key : Int} (hk : U64 key) : ∃ p ∈ nodR b L, p.2.kind = 1 ∧ coverB p.1 key = true ∧ ∀ p' ∈ nodR b L, p'.2.kind = 1 → coverB p'.1 key = true → p'.1 = p.1 := by
 have h1 := lv_one (b := b) (L := L) hk
 have hex : 0 < (lvR b L).countP (fun k => coverB k key) := by omega
 obtain ⟨k, hk1, hk2⟩ := List.countP_pos_iff.1 hex
 obtain ⟨p, hp, hkd, rfl⟩ := lv_mem.1 hk1
 refine ⟨p, hp, hkd, hk2, fun p' hp' hkd' hc' => ?_⟩
 have hk3 : p'.1 ∈ lvR b L := lv_mem.2 ⟨p', hp', hkd', rfl⟩
 obtain ⟨A, B, hAB⟩ := List.append_of_mem hk1
 rw [hAB, List.countP_append, List.countP_cons, if_pos hk2] at h1
 rw [hAB] at hk3
 have hA : ∀ x ∈ A, ¬ coverB x key = true := fun x hx hcx => by
  have : 0 < A.countP (fun k => coverB k key) := List.countP_pos_iff.2 ⟨x, hx, hcx⟩
  omega
 have hB : ∀ x ∈ B, ¬ coverB x key = true := fun x hx hcx => by
  have : 0 < B.countP (fun k => coverB k key) := List.countP_pos_iff.2 ⟨x, hx, hcx⟩
  omega
 rcases List.mem_append.1 hk3 with h | h
 ·exact absurd hc' (hA _ h)
 rcases List.mem_cons.1 h with h | h
 ·exact h
 exact absurd hc' (hB _ h)
theorem anc : ∀ (d : Nat) {p : Lab × Rec} {key m : Int}, p ∈ nodR b L → coverB p.1 key = true → 0 ≤ m → m + d + 1 = p.1.len → (ofV key m, innR) ∈ nodR b L
 | d, p, key, m, hp, hc, h0, hd => by
  rcases nodes_up gro_root p hp with e | ⟨h1, h2, h3, h4, h5⟩
  ·rw [e] at hd
   have hd : m + d + 1 = 0 := hd
   omega
  have hu := nod_und h1
  have hlen : p.1.len = (parV p.1).len + 1 := by
   rcases h4 with h4 | h4
   ·have := congrArg Lab.len h4; exact this
   have := congrArg Lab.len h4; exact this
  have hcp : coverB (parV p.1) key = true := by
   rcases h4 with h4 | h4
   ·rw [h4] at hc; exact cov_up hu.is hu.u h5 0 hc
   rw [h4] at hc; exact cov_up hu.is hu.u h5 1 hc
  cases d with
  | zero =>
   have e : m = (parV p.1).len := by omega
   rw [e, ← cov_ofV hcp]
   exact h1
  | succ d => exact anc d h1 hcp h0 (by show m + d + 1 = (parV p.1).len; omega)
end
theorem rdist {b : Int} {L : List Itm} {p p' : Lab × Rec} (h : p ∈ nodR b L) (h' : p' ∈ nodR b L) (e : p.1 = p'.1) : p = p' := by
 have hd := nodes_dist (b := b) (l := L) gro_root
 have g1 := mem_getA hd h
 have g2 := mem_getA hd h'
 rw [e, g2] at g1
 injection g1 with g1
 exact Prod.ext e g1.symm
section
variable {b : Int} {I : List Itm} {R : List Rw} {most bud : Int} {E : RunR → Prop} {x : Nt} {k : Int}
theorem lin_cost (h : Blt b I R) {key bk : Int} (hk : U64 key) {p : Lab × Rec} (hp : p ∈ nodR b I) (hkd : p.2.kind = 1) (hc : coverB p.1 key = true) {Q : TQ Spt} (hbm : bud ≤ most) : ∀ (d : Nat) (fu n : Nat) (m : Int), 0 ≤ m → m + d = p.1.len → d < fu → (n : Int) + d + 1 ≤ bud →
  Q ⟨p.1, gotAtL (R.map spW) p.1⟩ x (n + d + 1) (R.map spW) k → (linT bk key fu (ofV key m)).wp most bud Q E x n (R.map spW) k
 | 0, fu + 1, n, m, h0, hd, hf, hb, hq => by
  have e : ofV key m = p.1 := by rw [show m = p.1.len by omega, ← cov_ofV hc]
  rw [e]
  unfold linT
  refine wp_bind (wp_get ⟨(nod_und hp).is, (nod_und hp).u⟩ (by omega) hbm (wp_ite (fun _ => hq) fun hn => ?_))
  exact absurd (by rw [h.gkk hp, hkd]; rfl) hn
 | d + 1, fu + 1, n, m, h0, hd, hf, hb, hq => by
  have hin := anc d hp hc h0 (by omega)
  have h64 := (lab_parts (nod_und hp).is).2.1
  have hg : ∀ kd, gk (gotAtL (R.map spW) (ofV key m)) kd = decide ((2 : Int) = kd) := fun kd => h.gkk hin kd
  unfold linT
  refine wp_bind (wp_get (lok_ofV hk m) (by omega) hbm ?_)
  rw [hg, hg, hg, hg]
  rw [if_neg (by decide), if_neg (by decide), if_pos (by rw [ofV_len h0 (by omega), decide_eq_true (show m < 64 by omega)]; decide), ofV_len h0 (by omega)]
  exact lin_cost h hk hp hkd hc hbm d fu (n + 1) (m + 1) (by omega) (by omega) (by omega) (by omega) (by rw [show n + 1 + d + 1 = n + (d + 1) + 1 by omega]; exact hq)
theorem bin_cost (h : Blt b I R) {key bk : Int} (hk : U64 key) {p : Lab × Rec} (hp : p ∈ nodR b I) (hkd : p.2.kind = 1) (hc : coverB p.1 key = true) {Q : TQ Spt} (hbm : bud ≤ most) : ∀ (c : Nat) (fu n : Nat) (lo hi : Int), 0 ≤ lo → hi ≤ 64 → lo ≤ p.1.len → p.1.len ≤ hi → hi - lo + 2 ≤ 2 ^ c → c ≤ fu → (n : Int) + c ≤ bud →
  (∀ n', n < n' → n' ≤ n + c → Q ⟨p.1, gotAtL (R.map spW) p.1⟩ x n' (R.map spW) k) → (binT bk key fu lo hi).wp most bud Q E x n (R.map spW) k
 | 0, fu, n, lo, hi, h0, h1, h2, h3, h4, hf, hb, hq => by simp at h4; omega
 | c + 1, fu + 1, n, lo, hi, h0, h1, h2, h3, h4, hf, hb, hq => by
  have hp2 : (2 : Int) ^ (c + 1) = 2 * 2 ^ c := by rw [Int.pow_succ]; omega
  rw [hp2] at h4
  obtain ⟨m, hm⟩ := eqv ((lo + hi) / 2)
  have hm0 : lo ≤ m ∧ m ≤ hi ∧ 2 * m ≤ lo + hi ∧ lo + hi ≤ 2 * m + 1 := by omega
  unfold binT
  rw [if_pos (by omega), ← hm]
  refine wp_bind (wp_get (lok_ofV hk m) (by omega) hbm ?_)
  rcases Int.lt_trichotomy m p.1.len with hlt | heq | hgt
  ·have hin := anc (p.1.len - m - 1).toNat hp hc (m := m) (by omega) (by omega)
   have hg : ∀ kd, gk (gotAtL (R.map spW) (ofV key m)) kd = decide ((2 : Int) = kd) := fun kd => h.gkk hin kd
   rw [hg, hg, hg, hg]
   rw [if_neg (by decide), if_pos (by decide)]
   exact bin_cost h hk hp hkd hc hbm c fu (n + 1) (m + 1) hi (by omega) h1 (by omega) h3 (by omega) (by omega) (by omega) fun n' g1 g2 => hq n' (by omega) (by omega)
  ·have e : ofV key m = p.1 := by rw [heq, ← cov_ofV hc]
   rw [e, if_pos (by rw [h.gkk hp, hkd]; rfl)]
   exact hq (n + 1) (by omega) (by omega)
  have hno : ∀ p' ∈ nodR b I, p'.1 ≠ ofV key m := fun p' hp' he => by
   have hlen : p'.1.len = m := by rw [he]; exact ofV_len (by omega) (by omega)
   have hc' : coverB p'.1 key = true := by rw [he]; exact ofV_cov (by omega) (by omega)
   have hin := anc (m - p.1.len - 1).toNat hp' hc' (m := p.1.len) (by have := (lab_parts (nod_und hp).is).1; omega) (by omega)
   have := rdist hin hp (by show ofV key p.1.len = p.1; exact (cov_ofV hc).symm)
   rw [← this] at hkd
   exact absurd hkd (by show ¬ (2 : Int) = 1; decide)
  have hg : ∀ kd, gk (gotAtL (R.map spW) (ofV key m)) kd = false := fun kd => h.gk_no hno kd
  rw [hg, hg, hg, hg, hg]
  rw [if_neg (by decide), if_neg (by decide), if_neg (by decide), if_neg (by decide)]
  exact bin_cost h hk hp hkd hc hbm c fu (n + 1) lo (m - 1) h0 (by omega) h2 (by omega) (by omega) (by omega) (by omega) fun n' g1 g2 => hq n' (by omega) (by omega)
end
theorem ofV_root {key : Int} (hk : U64 key) : ofV key 0 = rootL := by
 have hu := u64_lt hk
 unfold ofV
 rw [if_neg (by omega)]
 refine lab_ext rfl ?_
 show ((headN key.toNat 0 : Nat) : Int) = 0
 unfold headN
 rw [Nat.div_eq_of_lt (by simpa using hu)]
 simp
section
variable {b : Int} {I : List Itm} {R : List Rw}
theorem Blt.rwg (h : Blt b I R) : ∀ w ∈ R, RwG w := fun w hw => by
 obtain ⟨_, h2, h3, h4, h5⟩ := h.isR_small hw
 refine ⟨labOk_is h2 h3, ?_, h4, h5⟩
 rw [(h.kind hw).2.1]; exact ⟨by decide, by decide⟩
theorem Blt.shfR (h : Blt b I R) : ShfR (R.map spW) := newS_right h.rwg h.shelf
def lokR (L : Shf) (q : Lab) (key : Int) : Rsl := ⟨0, finB (gotAtL L q).x key, finV (gotAtL L q).x key, [], 0, false⟩
theorem cost_lin {J : JobA} (hJ : JobIn J) (hj : isJobB J = true) (hk : J.kind = 3) (hh : J.how = 1) (hb : 100 ≤ J.budget) (h : Blt b I R) {p : Lab × Rec} (hp : p ∈ nodR b I) (hkd : p.2.kind = 1) (hc : coverB p.1 J.key = true) (k : Int) :
  runQ (seekN J) 3000 2001 [] (R.map spW) k = ⟨2, lokR (R.map spW) p.1 J.key, (p.1.len + 1).toNat, 0, R.map spW, k⟩ := by
 have hb0 := budget_in hj
 have hl := lab_parts (nod_und hp).is
 rw [seek_dir hJ hj hk h.shfR k]
 refine wp_dir (P := fun r => r = ⟨2, lokR (R.map spW) p.1 J.key, (p.1.len + 1).toNat, 0, R.map spW, k⟩) ?_
 unfold lokT
 refine wp_bind ?_
 unfold sekT
 rw [if_pos hh, ← ofV_root hJ.key]
 refine lin_cost h hJ.key hp hkd hc (by omega) p.1.len.toNat 2001 0 0 (Int.le_refl 0) (by omega) (by omega) (by simp; omega) ?_
 show (⟨2, _, _, _, _, _⟩ : RunR) = _
 rw [show 0 + p.1.len.toNat + 1 = (p.1.len + 1).toNat by omega]
 rfl
theorem cost_bin {J : JobA} (hJ : JobIn J) (hj : isJobB J = true) (hk : J.kind = 3) (hh : J.how ≠ 1) (hb : 100 ≤ J.budget) (h : Blt b I R) {p : Lab × Rec} (hp : p ∈ nodR b I) (hkd : p.2.kind = 1) (hc : coverB p.1 J.key = true) (k : Int) :
  ∃ n : Nat, 1 ≤ n ∧ n ≤ 7 ∧ runQ (seekN J) 3000 2001 [] (R.map spW) k = ⟨2, lokR (R.map spW) p.1 J.key, n, 0, R.map spW, k⟩ := by
 have hb0 := budget_in hj
 have hl := lab_parts (nod_und hp).is
 rw [seek_dir hJ hj hk h.shfR k]
 refine wp_dir (P := fun r => ∃ n : Nat, 1 ≤ n ∧ n ≤ 7 ∧ r = ⟨2, lokR (R.map spW) p.1 J.key, n, 0, R.map spW, k⟩) ?_
 unfold lokT
 refine wp_bind ?_
 unfold sekT
 rw [if_neg hh]
 exact bin_cost h hJ.key hp hkd hc (by omega) 7 2001 0 0 64 (Int.le_refl 0) (Int.le_refl 64) hl.1 hl.2.1 (by decide) (by decide) (by simp; omega) fun n' g1 g2 => ⟨n', by omega, by omega, rfl⟩
def dptF (f : Nat → Lab) (key : Int) : Nat → Int
 | 0 => -1
 | i + 1 => if coverB (f i) key = true then (f i).len else dptF f key i
theorem dpt_is {f : Nat → Lab} {key : Int} {q : Lab} : ∀ n, (∀ i, i < n → coverB (f i) key = true → f i = q) → (∃ i, i < n ∧ coverB (f i) key = true) → dptF f key n = q.len
 | 0, _, ⟨i, hi, _⟩ => absurd hi (Nat.not_lt_zero _)
 | n + 1, hq, ⟨i, hi, hc⟩ => by
  unfold dptF
  by_cases h : coverB (f n) key = true
  ·rw [if_pos h, hq n (by omega) h]
  rw [if_neg h]
  refine dpt_is n (fun j hj => hq j (by omega)) ⟨i, ?_, hc⟩
  have : i ≠ n := fun e => h (by rw [← e]; exact hc)
  omega
theorem dpt_lv {key : Int} {p : Lab × Rec} (hp : p ∈ nodR b I) (hkd : p.2.kind = 1) (hc : coverB p.1 key = true) (hu : ∀ p' ∈ nodR b I, p'.2.kind = 1 → coverB p'.1 key = true → p'.1 = p.1) : dptF (labF (lvR b I)) key (lvR b I).length = p.1.len := by
 refine dpt_is _ (fun i hi hci => ?_) ?_
 ·have e : labF (lvR b I) i = (lvR b I)[i] := by unfold labF; rw [List.getD_eq_getElem?_getD, List.getElem?_eq_getElem hi]; rfl
  have hm : labF (lvR b I) i ∈ lvR b I := by rw [e]; exact List.getElem_mem hi
  obtain ⟨p', h1, h2, h3⟩ := lv_mem.1 hm
  rw [← h3] at hci ⊢
  exact hu p' h1 h2 hci
 obtain ⟨i, hi, he⟩ := labF_mem (lv_mem.2 ⟨p, hp, hkd, rfl⟩)
 exact ⟨i, hi, by rw [he]; exact hc⟩
end
theorem rw_in {l : List Rw} (h : ∀ w ∈ l, w.r.items.length ≤ 1000000 ∧ LabOk w.lab ∧ U64 w.lab.bits ∧ U64 w.r.next.bits) (y : Atom) : RwN l.length (rwAt y l) := by
 intro i hi
 unfold rwAt
 rw [List.getD_eq_getElem?_getD, List.getElem?_eq_getElem hi]
 exact h _ (List.getElem_mem hi)
theorem rw_inK {l : List Rw} (h : ∀ w ∈ l, ∀ x ∈ w.r.items, U64 x.key) (y : Atom) : RwK l.length (rwAt y l) := by
 intro i hi t ht
 unfold rwAt at ht ⊢
 rw [List.getD_eq_getElem?_getD, List.getElem?_eq_getElem hi] at ht ⊢
 have ht : t < (l[i].r.items).length := ht
 show U64 ((l[i].r.items).getD t zeroItm).key
 rw [List.getD_eq_getElem?_getD, List.getElem?_eq_getElem ht]
 exact h _ (List.getElem_mem hi) _ (List.getElem_mem ht)
theorem bld_n {n : Nat} {f : Nat → Itm} {b : Int} (hk : ∀ i, i < n → U64 (f i).key) (y : Atom) : RwN (bldR n f b).length (rwAt y (bldR n f b)) := by
 refine rw_in (fun w hw => ?_) y
 by_cases he : bldE n f b = 0
 ·obtain ⟨h1, h2, h3, h4, _⟩ := (bld_yes hk he).isR_small hw
  exact ⟨by omega, labOk_is h2 h3, h3, h4⟩
 rw [bld_no he] at hw; cases hw
theorem bld_k {n : Nat} {f : Nat → Itm} {b : Int} (hk : ∀ i, i < n → U64 (f i).key) (y : Atom) : RwK (bldR n f b).length (rwAt y (bldR n f b)) := by
 refine rw_inK (fun w hw => ?_) y
 by_cases he : bldE n f b = 0
 ·exact ((bld_yes hk he).isR_small hw).2.2.2.2
 rw [bld_no he] at hw; cases hw
theorem bld_len {n : Nat} {f : Nat → Itm} {b : Int} (hk : ∀ i, i < n → U64 (f i).key) : (bldR n f b).length ≤ 2000 := by
 by_cases he : bldE n f b = 0
 ·have h := bld_yes hk he
  rw [h.rows', List.length_map]; exact h.len
 rw [bld_no he]; exact Nat.zero_le _
theorem skJ_job (key : Int) {how b : Int} (hh : how = 1 ∨ how = 2) (h1 : 1 ≤ b) (h2 : b ≤ 16) : isJobB (skJ key how b) = true := by
 unfold isJobB btw skJ
 rcases hh with rfl | rfl <;> simp [h1, h2] <;> decide
theorem lawCost_s (A : Option Addr) (n c : Nat) (f : Nat → Itm) (hn : n ≤ maxLen) (hki : ∀ i, i < n → U64 (f i).key) (b key : Int) (hkey : U64 key) : Spec Tryz.prog 3 [rowI A n c f, .int .i64 b, .int .u64 key] (fun _ => .bool .tt) := by
 intro m w hm hargs
 have hmx : maxLen = 9223372036854775807 := rfl
 have SF := few_s A n c f hn
 obtain ⟨fb, hfb⟩ := eqv (fewB n f)
 rw [← hfb] at SF
 unfold rowI at hargs SF
 refine en 116 hm hargs Tryz.func3 fun B hB a0 hF => ?_
 refine wp_seq (rg hB TA_ok [0, 1, 2] [] [] hF fun X0 a0 w1 hF => ?_)
 have O1 := SF
 refine wp_seq (wp_seq (rg hB TA_ok [22, 0, 1, 2] [] [(1, .r fun _ => .bool (.v fb))] hF fun X1 a0 w1 hF => ?_))
 apply test_ok hF rfl <;> intro hb hF
 ·skip
  refine wp_seq (rg hB TA_ok [6] [] [] hF fun X2 a0 w1 hF => ?_)
  refine wp_ret ((rsi hB TA_ok hF nAt (he := ?_)))
  subst hB
  exact Sim.bool rfl
 have hb0 : fb = true := by subst hB; cases fb <;> first | rfl | cases hb
 rw [hb0] at hfb
 have hn6 := few_le hfb.symm
 have SB := build_s A n c f (by omega) hki b
 have hbn := bld_n (b := b) hki
 have hbk := bld_k (b := b) hki
 have hbl := bld_len (b := b) hki
 have hby := bld_yes (b := b) hki
 have hbno := bld_no (n := n) (f := f) (b := b)
 obtain ⟨R, hR⟩ := eqv (bldR n f b)
 obtain ⟨be, hbe⟩ := eqv (bldE n f b)
 rw [← hR, ← hbe] at SB hbno
 rw [← hR] at hbl
 simp only [← hR] at hbn hbk
 rw [← hR, ← hbe] at hby
 have hRR : ∀ y, rwsA (rwAt y R) R.length = R := fun y => rwsA_rwAt y R
 obtain ⟨rn, hrn⟩ := eqv (R.length)
 obtain ⟨RF, hRF⟩ : ∃ RF : Atom → Nat → RowA, RF = fun y => rwAt y R := ⟨_, rfl⟩
 have hRy : ∀ y, rwAt y R = RF y := fun y => by rw [hRF]
 simp only [← hrn, hRy] at SB hbn hbk hRR
 rw [← hrn] at hbl
 simp only [rowI] at SB
 have O1 := SB
 refine wp_skip (wp_seq (rg hB TA_ok [1, 2, 7, 8] [] [(2, .r fun y => .tup [.sl none (y.A 0) rn (y.c 0) 8 (fun i => rowC (RF y i)), .int .i64 be])] hF fun X3 a0 w1 hF => ?_))
 refine wp_seq (wp_seq (rg hB TA_ok [35, 1, 2, 7] [] [] hF fun X4 a0 w1 hF => ?_))
 apply test_ok hF rfl <;> intro hb hF
 ·skip
  have O1 := sought_s
  refine wp_seq (rg hB TA_ok [6] [] [(0, .r fun _ => .bool .tt)] hF fun X5 a0 w1 hF => ?_)
  refine wp_ret ((rsi hB TA_ok hF nAt (he := ?_)))
  subst hB
  exact Sim.bool rfl
 have hbr : be = 0 ∧ rn ≤ 300 := by
  subst hB
  revert hb
  by_cases g1 : be = 0
  ·by_cases g2 : (300 : Int) < (rn : Int)
   ·simp [std, sC, g1, g2]
   intro _; exact ⟨g1, by omega⟩
  simp [std, sC, g1]
 obtain ⟨heq, hr3⟩ := hbr
 have hT := hby heq
 have hSR := hT.shfR
 have hnew := hT.shelf
 have SL := fun (y : Atom) (A2 : Option Addr) (c2 : Nat) => leaves_s A2 rn c2 (RF y) (by omega)
 simp only [hRR, hT.leaves] at SL
 have hll := leaves_len R
 rw [hT.leaves, ← hrn] at hll
 have hli := fun k => lv_is (b := b) (L := firsts f n) (k := k)
 obtain ⟨pl, hpl, hpk, hpc, hpu⟩ := leaf_at (b := b) (L := firsts f n) hkey
 have hdl := dpt_lv hpl hpk hpc hpu
 have CL := cost_lin (J := skJ key 1 b) (skJ_in hkey 1 b) (skJ_job key (.inl rfl) hT.b1 hT.b16) rfl rfl (by show (100 : Int) ≤ 1500; omega) hT hpl hpk hpc 0
 obtain ⟨m2, hm21, hm22, CB⟩ := cost_bin (J := skJ key 2 b) (skJ_in hkey 2 b) (skJ_job key (.inr rfl) hT.b1 hT.b16) rfl (by show ¬ (2 : Int) = 1; omega) (by show (100 : Int) ≤ 1500; omega) hT hpl hpk hpc 0
 have hpb := lab_parts (nod_und hpl).is
 unfold lokR at CL CB
 change runQ _ _ _ _ _ _ = ⟨2, ⟨0, finB (gotAtL (R.map spW) pl.1).x key, finV (gotAtL (R.map spW) pl.1).x key, [], 0, false⟩, _, _, _, _⟩ at CL CB
 obtain ⟨L0, hL0⟩ := eqv (R.map spW)
 rw [← hL0] at CL CB hSR hnew
 obtain ⟨fb1, hfb1⟩ := eqv (finB (gotAtL L0 pl.1).x key)
 rw [← hfb1] at CL CB
 obtain ⟨fv1, hfv1⟩ := eqv (finV (gotAtL L0 pl.1).x key)
 rw [← hfv1] at CL CB
 obtain ⟨pd, hpd⟩ := eqv (pl.1.len)
 rw [← hpd] at CL hdl hpb
 obtain ⟨m1, hm1⟩ := eqv ((pd + 1).toNat)
 rw [← hm1] at CL
 have hm1d : (m1 : Int) = pd + 1 := by omega
 obtain ⟨LV, hLV⟩ := eqv (lvR b (firsts f n))
 simp only [← hLV] at SL hli hdl hll
 obtain ⟨lf, hlf⟩ := eqv (labF LV)
 rw [← hlf] at hdl
 obtain ⟨ln, hln⟩ := eqv (LV.length)
 rw [← hln] at hdl hll
 simp only [← hlf, ← hln] at SL
 have hlg : ∀ t (h : t < LV.length), lf t = LV[t] := fun t h => by rw [hlf]; unfold labF; rw [List.getD_eq_getElem?_getD, List.getElem?_eq_getElem h]; rfl
 have hlis : ∀ t, t < ln → isL (lf t) = true ∧ U64 (lf t).bits := fun t ht => by
  rw [hlg t (by omega)]; exact hli _ (List.getElem_mem _)
 have SSR := fun (A c : _) (A2 c2 : _) => samers_y 0 fb1 fv1 A 0 c A2 c2 (itF []) 0 false
 refine wp_skip (wp_seq (wp_region_lit (lpr 0 1 hB TA_ok [38, 7, 1, 2] [] [] hF fun X6_0 a0 w1 hF => ?_)))
 have SN := new_yes ((X3 2).A 0) rn ((X3 2).c 0) (RF (X3 2)) (by omega) (hbn (X3 2)) 900 (L := L0) (by rw [hRR]; exact hnew)
 refine man_callM rfl rfl rfl rfl hF rfl rfl enters8 (SN) (fun _ _ _ => trivial) (fun b hb => by cases hb) (zl) (by intro e he; cases he) rfl rfl (fun y => shF w.heap.size (y.c 0) L0) (fun n x m w m' w' hn _ _ h => ⟨Nat.le_trans hn h.1, h.2⟩) ?_
 intro y a0 w1 hF
 obtain ⟨sb, hsb⟩ := eqv (y.b)
 obtain ⟨bM, hbM⟩ := eqv (y.c 0)
 rw [← hsb, ← hbM] at hF
 have hbfr : w.heap.size ≤ bM := hF.kept.1
 replace hF := hF.withK (K' := shK bM L0) hF.kept.2
 have SD1 := run26_m 900 sb bM (skJ key 1 b) (skJ_in hkey 1 b) L0 hSR.good 0
 rw [CL] at SD1
 have SJ1 : Spec Tryz.prog 12 [.int .u64 key, .int .i64 1, .int .i64 b] (fun _ => jobV (skJ key 1 b)) := lkp_s key 1 b
 have SE1 : SpecM Tryz.prog 11 [.ptr 900 sb 0, jobV (skJ key 1 b)] [(900, ⟨sb, 90, [.raw (.map (some bM)), .int .i64 0]⟩)] (some bM) (shK bM L0) (fun y => ⟨.tup [.agg [.int .i64 0, .bool (.v fb1), .str fv1, .sl none (y.A 2) 0 (y.c 2) 2 (fun i => itC (itF [] i)), .int .u64 0, .bool (.v false)], .int .i64 (m1 : Int), .bool (.v true)], [(900, [.raw (.map (some bM)), .int .i64 0])], []⟩) (fun _ _ => shK bM L0) := SD1
 have SD2 := run26_m 900 sb bM (skJ key 2 b) (skJ_in hkey 2 b) L0 hSR.good 0
 rw [CB] at SD2
 have SJ2 : Spec Tryz.prog 12 [.int .u64 key, .int .i64 2, .int .i64 b] (fun _ => jobV (skJ key 2 b)) := lkp_s key 2 b
 have SE2 : SpecM Tryz.prog 11 [.ptr 900 sb 0, jobV (skJ key 2 b)] [(900, ⟨sb, 90, [.raw (.map (some bM)), .int .i64 0]⟩)] (some bM) (shK bM L0) (fun y => ⟨.tup [.agg [.int .i64 0, .bool (.v fb1), .str fv1, .sl none (y.A 2) 0 (y.c 2) 2 (fun i => itC (itF [] i)), .int .u64 0, .bool (.v false)], .int .i64 (m2 : Int), .bool (.v true)], [(900, [.raw (.map (some bM)), .int .i64 0])], []⟩) (fun _ _ => shK bM L0) := SD2
 have SW := writes_r (shK bM L0) 900 sb bM 0
 refine lnd 2 hB TA_ok [1, 2, 7, 9, 10] [900] [] hF fun X6 a0 w1 hF => ?_
 refine wp_seq (wp_seq (rg hB TA_ok [47, 1, 2, 7, 9] [900] [] hF fun X7 a0 w1 hF => ?_))
 apply test_ok hF rfl <;> intro hb hF
 ·exfalso
  subst hB; simp [std, sC, BE.den] at hb
 skip
 refine wp_skip (wp_seq ?_)
 refine rg hB TA_ok [1, 2, 9, 11] [900] [(1, .r fun y => .sl none (y.A 0) ln (y.c 0) 2 (fun t => labC (lf t)))] hF (hob := by intro X; subst hB; simp only [AO, Ob.holds, BE.den] <;> and_intros <;> repeat first | trivial | rfl | exact SL _ _ _ | exact (fun _ _ => by kernel_rfl) | refine ⟨?_, ?_⟩ | intro h | exact Int.le_refl _ | decide | omega) fun X9 a0 w1 hF => ?_
 refine wp_seq (rg hB TA_ok [1, 2, 9, 11, 12] [900] [] hF fun X10 a0 w1 hF => ?_)
 refine wp_seq (wp_seq (rg hB TA_ok [12, 13, 1, 2, 9, 11] [900] [] hF fun X11 a0 w1 hF => ?_))
 refine wp_block (loop_preK (ι := Nat × Int) (fun p => shK bM L0) (fun p => [(12, .int .i64 p.2), (13, .int .i64 (p.1 : Int))]) (fun p => [(900, ⟨sb, 90, [.raw (.map (some bM)), .int .i64 0]⟩)]) (fun p => []) (fun p => p.1 ≤ ln ∧ p.2 = dptF lf key p.1) (fun p => ln - p.1) (0, -1) ⟨Nat.zero_le _, rfl⟩ hF ?_)
 rintro ⟨i, dp⟩ ⟨hi, hdp⟩ a0 w1 hF
 try dsimp only at hi
 try dsimp only at hdp
 refine wp_seq (wp_seq (rg hB TA_ok [53, 1, 2, 9, 11, 12, 13] [900] [] hF fun X12 a0 w1 hF => ?_))
 apply test_ok hF rfl <;> intro hb hF
 ·have hin : i < ln := by
   have : (i : Int) < (ln : Int) := by subst hB; simpa [std, sC] using hb
   omega
  have SC := cov_s (lf i) (hlis i hin).2 key hkey
  obtain ⟨cq, hcq⟩ := eqv (coverB (lf i) key)
  rw [← hcq] at SC
  simp only [labAV] at SC
  refine wp_skip (wp_seq (wp_block (wp_seq ?_)))
  refine rg hB TA_ok [61, 1, 2, 9, 11, 12, 13] [900] [(5, .r fun _ => .bool (.v cq))] hF (hob := by intro X; subst hB; simp only [AO, Ob.holds, BE.den] <;> and_intros <;> repeat first | trivial | rfl | exact SC | exact (show (0 : Int) ≤ (i : Int) by omega) | exact (show (i : Int) < (ln : Int) by omega) | exact (fun _ _ => by kernel_rfl) | refine ⟨?_, ?_⟩ | intro h | exact Int.le_refl _ | decide | omega) fun X14 a0 w1 hF => ?_
  apply test_ok hF rfl <;> intro hb hF
  ·have hct : cq = true := hb
   refine rg hB TA_ok [1, 2, 9, 11, 12, 13] [900] [] hF (hob := by intro X; subst hB; simp only [AO, Ob.holds, BE.den] <;> and_intros <;> repeat first | trivial | rfl | exact (show (0 : Int) ≤ (i : Int) by omega) | exact (show (i : Int) < (ln : Int) by omega) | exact (fun _ _ => by kernel_rfl) | refine ⟨?_, ?_⟩ | intro h | exact Int.le_refl _ | decide | omega) fun X15 a0 w1 hF => ?_
   refine rg hB TA_ok [12, 13, 1, 2, 9, 11] [900] [] hF fun X13 a0 w1 hF => ?_
   have e : B.arith .add .i64 (i : Int) 1 = ((i + 1 : Nat) : Int) := by subst hB; exact wrap_succ (n := ln) hin (by omega)
   refine ⟨(i + 1, (lf (B.toNat (i : Int))).len), ⟨by simp only; omega, ?_⟩, by simp only; omega, by rw [← e]; exact hF⟩
   have e3 : B.toNat (i : Int) = i := by subst hB; rfl
   show (lf (B.toNat (i : Int))).len = dptF lf key (i + 1)
   rw [e3]
   unfold dptF
   rw [if_pos (by rw [← hcq]; exact hct)]
  have hcf : cq = false := hb
  refine wp_skip (rg hB TA_ok [12, 13, 1, 2, 9, 11] [900] [] hF fun X13 a0 w1 hF => ?_)
  have e : B.arith .add .i64 (i : Int) 1 = ((i + 1 : Nat) : Int) := by subst hB; exact wrap_succ (n := ln) hin (by omega)
  refine ⟨(i + 1, dp), ⟨by simp only; omega, ?_⟩, by simp only; omega, by rw [← e]; exact hF⟩
  show _ = dptF lf key (i + 1)
  unfold dptF
  rw [if_neg (by rw [← hcq, hcf]; decide), ← hdp]
 have hout : i = ln := by
  have : ¬ (i : Int) < (ln : Int) := by subst hB; simpa [std, sC] using hb
  omega
 have hdp2 : dp = pd := by rw [hdp, hout]; exact hdl
 have O1 := SJ1
 refine wp_exit (wp_seq (wp_region_lit (lpr 0 4 hB TA_ok [68, 71, 1, 2, 9, 12] [900] [(3, .r fun _ => jobV (skJ key 1 b))] hF fun X16_0 a0 w1 hF => ?_)))
 refine man_callM rfl rfl rfl rfl hF rfl rfl enters11 SE1 (fun _ _ h => h) (fun b hb => by cases hb; exact fun h => absurd h (Nat.not_lt.2 hbfr)) ⟨zr, zr, trivial⟩ (by intro e he; simp only [List.mem_singleton] at he; subst he; rfl) rfl rfl (fun _ => shK bM L0) (fun _ _ _ _ _ _ _ _ _ h => h) ?_
 intro y a0 w1 hF
 replace hF := hF.withK (K' := shK bM L0) hF.kept
 refine lnd 5 hB TA_ok [1, 2, 9, 12, 14, 15, 16] [900, 14] [(3, .r fun _ => jobV (skJ key 1 b))] hF fun X16 a0 w1 hF => ?_
 have O1 := SJ2
 refine wp_seq (wp_region_lit (lpr 0 4 hB TA_ok [77, 80, 9, 12, 14, 15, 16] [900, 14] [(3, .r fun _ => jobV (skJ key 2 b))] hF fun X17_0 a0 w1 hF => ?_))
 refine man_callM rfl rfl rfl rfl hF rfl rfl enters11 SE2 (fun _ _ h => h) (fun b hb => by cases hb; exact fun h => absurd h (Nat.not_lt.2 hbfr)) ⟨zr, zr, trivial⟩ (by intro e he; simp only [List.mem_singleton] at he; subst he; rfl) rfl rfl (fun _ => shK bM L0) (fun _ _ _ _ _ _ _ _ _ h => h) ?_
 intro y a0 w1 hF
 replace hF := hF.withK (K' := shK bM L0) hF.kept
 refine lnd 5 hB TA_ok [9, 12, 14, 15, 16, 17, 18, 19] [900, 14, 17] [(3, .r fun _ => jobV (skJ key 2 b))] hF fun X17 a0 w1 hF => ?_
 apply wp_seq
 refine rg hB TA_ok [6] [] [(0, .r fun _ => .bool .tt), (10, .r fun _ => .bool .tt), (28, .g [900] fun _ => .int .i64 0)] hF (hob := by intro X; subst hB; simp only [AO, Ob.holds, BE.den] <;> and_intros <;> repeat first | trivial | rfl | exact sought_s | exact SSR _ _ _ _ | exact SW | exact (fun _ _ => by kernel_rfl) | refine ⟨?_, ?_⟩ | intro h | exact Int.le_refl _ | decide | omega) fun X18 a0 w1 hF => ?_
 refine wp_ret ((rsi hB TA_ok hF nAt (he := ?_)))
 subst hB
 have ea : IntKind.i64.wrap (dp + 1) = (m1 : Int) := by rw [hm1d, hdp2]; exact wrap_in (by omega) (by omega)
 have ea2 : sAr .add .i64 dp 1 = (m1 : Int) := ea
 have g1 : (1 : Int) ≤ (m2 : Int) := by omega
 have g2 : (m2 : Int) ≤ 7 := by omega
 refine Sim.bool ?_
 simp [std, sC, BE.den, canB, ea, ea2, g1, g2, hm21, hm22]
end Go.Proofs.YtjgnoldondblaaaGreat.Sym
namespace Go.Proofs.YtjgnoldondblaaaGreat
open Go Go.RowKit
theorem walkSeekCosts (W : World) (v0 v1 v2 : Value) (i0 : Sym.InIts W v0) (i1 : Sym.InI W v1) (i2 : Sym.InU W v2) : Calls Tryz.prog 3 #[v0, v1, v2] W fun e w' => e = .returned (.bool true) ∧ Below W.heap.size W w' := by
 obtain ⟨A, n, c, f, rfl, h0, hn, hf⟩ := i0
 obtain ⟨b, rfl, _⟩ := i1
 obtain ⟨k, rfl, hk⟩ := i2
 have S := Sym.lawCost_s A n c f hn hf b k hk
 refine (S (fun _ _ => False) W (fun _ _ h => h.elim) (fun v hv => ?_)).mono ?_
 ·simp only [List.mem_cons, List.not_mem_nil, or_false] at hv
  rcases hv with rfl | rfl | rfl
  ·exact h0
  ·exact .int _ _
  exact .int _ _
 rintro e w' ⟨x, rfl, _, hb⟩
 exact ⟨rfl, hb⟩
end Go.Proofs.YtjgnoldondblaaaGreat
