/-
  SymTr3, PlItems, SymL25K, WalkHelpKeeps: put together by a program of mine (a claim may have 60 files at most). Conditions: none.
-/
import Derived.WalkKit
import Derived.WalkLawsBesides
import Derived.WalkSpells
import Derived.Lib.Hide
import Derived.Deep.QuietTactic
import Derived.BigQuiet
import Derived.Deep.LoopGhost
import Derived.Deep.DeepCutAuto
import Derived.Deep.RegionLaw
import Derived.Lib.Overlaps
import Derived.Laws.CopyOwn
import Derived.IntWalk
import Derived.ProofKit
import Derived.OpenShut
import Derived.ShutString
import Derived.ChangeOld
import Derived.Deep.Slices
import Derived.Test.YtjgnoldondblaaaProg
import Derived.Orders
import Derived.OrdersHeld
import Derived.Defers
import Derived.Recover
import Derived.Lib.BitFns
import Derived.ChangeKeysEq
import Derived.Test.YtjgnoldondblaaaChecked
import Derived.Lib.BufferWrite
import Derived.Maps.OwnSet
import Derived.Maps.RangeWalk
import Derived.Maps.Ext
import Derived.DeepKeys4
import Derived.LoopN
import Derived.Shelf.SlSortCmp.WholeK
import Derived.Shelf.SlSortCmp.NoneTotal
import Derived.Deep.RegionHeld3
import Derived.Ground.SlsfProg
import Derived.Shelf.SlGeneric
import Derived.RangeFuncLeaves
import Derived.RangeFuncCalls
import Derived.OrdersIn
import Derived.Test.YtjgnoldondblaaaMgK1
import Derived.Test.YtjgnoldondblaaaMgK2
import Derived.Test.YtjgnoldondblaaaMgK3
import Derived.Test.YtjgnoldondblaaaMgK4
import Derived.Test.YtjgnoldondblaaaMgK5
set_option linter.unusedVariables false
set_option linter.unusedSimpArgs false
set_option maxRecDepth 100000
set_option maxHeartbeats 1600000
namespace Go.Proofs.Ytjgnoldondblaaa.Sym
open Go Go.RowKit
theorem SpecM.x {P : Program} {f : FuncId} {args : List AV} {pre : List (Nat × Blk)} {res : Atom → CR} {J : Nat → Atom → Kn} (h : SpecM P f args pre none noK res J) : SpecX P f args pre res := by
 intro m w h1 h2 h3
 refine (h m w h1 h2 h3 trivial).mono ?_
 rintro e w' ⟨x, rfl, g1, g2, _, _⟩
 exact ⟨x, rfl, g1, g2.plain⟩
theorem sim_nils {g g' : Option Nat} {k k' : Nat} {f f' : Nat → List AV} : Sim (.sl g none 0 0 k f) (.sl g' none 0 0 k' f') :=
 ⟨rfl, fun _ => rfl, fun _ _ _ => .sl _ _ _ _ _ _ (Nat.le_refl _) (Nat.zero_le _) (fun i hi => absurd hi (Nat.not_lt_zero _)) (fun i hi => absurd hi (Nat.not_lt_zero _)) (fun i hi => absurd hi (Nat.not_lt_zero _)) (fun i hi => absurd hi (Nat.not_lt_zero _)) (fun i hi => absurd hi (Nat.not_lt_zero _))⟩
def RwN (n : Nat) (f : Nat → RowA) : Prop := ∀ i, i < n → (f i).x.r.n ≤ 1000000 ∧ LabOk (f i).lab ∧ U64 (f i).lab.bits ∧ U64 (f i).x.r.nx.bits
def RwK (n : Nat) (f : Nat → RowA) : Prop := ∀ i, i < n → ∀ t, t < (f i).x.r.n → U64 ((f i).x.r.f t).key
def isRw (l : List Rw) : Bool := (newS l).isSome
theorem tis_s (A : Option Addr) (n c : Nat) (f : Nat → RowA) (hn : n ≤ maxLen) (hN : RwN n f) : Spec Try.prog 20 [rowsV A n c f] (fun _ => .bool (.v (isRw (rwsA f n)))) := by
 intro m w hm hargs
 have hmx : maxLen = 9223372036854775807 := rfl
 have SN := (new_m A n c f hn hN).x
 obtain ⟨ir, hir⟩ := eqv (isRw (rwsA f n))
 rw [← hir]
 refine en 12 hm hargs Try.func20 fun B hB a0 hF => ?_
 refine wp_seq (rg hB TA_ok [0] [] [] hF fun X0 a0 w1 hF => ?_)
 unfold isRw at hir
 cases hs : newS (rwsA f n) with
 | none =>
  rw [hs] at SN hir
  have O1 := SN
  refine wp_seq (rg hB TA_ok [4] [] [(1, .x fun y => ⟨.tup [.nilp, .int .i64 1], [], []⟩)] hF fun X1 a0 w1 hF => ?_)
  refine wp_seq (rg hB TA_ok [2] [] [] hF fun X2 a0 w1 hF => ?_)
  exact wp_ret (rsp hB TA_ok hF ⟨0, fun _ => none, fun _ => 0, fun _ => .empty⟩ (he := by subst hB; rw [hir]; rfl)).1
 | some L =>
  rw [hs] at SN hir
  have O1 := SN
  refine wp_seq (rg hB TA_ok [4] [] [(1, .x fun y => ⟨.tup [.ptr 14 y.b 0, .int .i64 0], [], [(14, ⟨y.b, 66, [.raw (.map (some (y.c 0))), .int .i64 0]⟩)]⟩)] hF fun X1 a0 w1 hF => ?_)
  refine wp_seq (rg hB TA_ok [2] [] [] hF fun X2 a0 w1 hF => ?_)
  exact wp_ret (rsp hB TA_ok hF ⟨0, fun _ => none, fun _ => 0, fun _ => .empty⟩ (he := by subst hB; rw [hir]; rfl)).1
def treP (l : List Rw) : Tre := fun q => (l.reverse.find? fun w => decide (w.lab = q)).map (·.r)
def itemsP (l : List Rw) : List Itm := if isRw l = true then meansP (treP l) 65 ⟨0, 0⟩ else []
def itemsE (l : List Rw) : Int := if isRw l = true then 0 else 1
theorem set_sub {α : Type} {l : Lab} {x : α} {p : Lab × α} : ∀ {L : List (Lab × α)}, p ∈ setA l x L → p = (l, x) ∨ p ∈ L
 | [], h => by simp [setA] at h; exact .inl h
 | y :: L, h => by
  unfold setA at h
  split at h
  ·rcases List.mem_cons.1 h with h | h
   ·exact .inl h
   exact .inr (List.mem_cons_of_mem _ h)
  rcases List.mem_cons.1 h with h | h
  ·exact .inr (by rw [h]; exact List.mem_cons_self ..)
  exact (set_sub h).imp id (List.mem_cons_of_mem _)
theorem tre_eq (f : Nat → RowA) : ∀ n, treF (treeA f n) = treP (rwsA f n)
 | 0 => rfl
 | n + 1 => by
  funext q
  have ih := congrFun (tre_eq f n) q
  unfold treF treP at ih ⊢
  unfold treeA
  rw [getA_set, show rwsA f (n + 1) = rwsA f n ++ [RowA.abs (f n)] from listA_succ _ _ _, List.reverse_append, List.reverse_singleton, List.singleton_append, List.find?_cons]
  by_cases h : (f n).lab = q
  ·rw [if_pos h]
   simp [RowA.abs, h]
  rw [if_neg h]
  rw [show decide ((RowA.abs (f n)).lab = q) = false from decide_eq_false h]
  exact ih
theorem newL_is : ∀ {l : List Rw} {L L' : Shf}, newL l L = some L' → ∀ w ∈ l, isL w.lab = true ∧ isR w.r = true
 | [], _, _, _, w, hw => by cases hw
 | v :: l, L, L', h, w, hw => by
  unfold newL at h
  split at h
  ·cases h
  rename_i hn
  simp only [Bool.or_eq_true, Bool.not_eq_true', not_or, Bool.not_eq_false] at hn
  rcases List.mem_cons.1 hw with rfl | hw
  ·exact ⟨hn.1.2, hn.2⟩
  exact newL_is h w hw
theorem newS_is {l : List Rw} (h : isRw l = true) : l.length ≤ 2000 ∧ ∀ w ∈ l, isL w.lab = true ∧ isR w.r = true := by
 unfold isRw newS at h
 split at h
 ·cases h
 obtain ⟨L, hL⟩ := Option.isSome_iff_exists.1 h
 exact ⟨by omega, newL_is hL⟩
theorem treeA_mem (f : Nat → RowA) : ∀ (n : Nat) (p : Lab × RA), p ∈ treeA f n → ∃ i, i < n ∧ p = ((f i).lab, (f i).x)
 | 0, p, h => by cases h
 | n + 1, p, h => by
  unfold treeA at h
  have h' := set_sub h
  rcases h' with h' | h'
  ·exact ⟨n, by omega, h'⟩
  obtain ⟨i, hi, e⟩ := treeA_mem f n p h'
  exact ⟨i, by omega, e⟩
theorem treeA_ok {f : Nat → RowA} {n : Nat} (hN : RwN n f) (hK : RwK n f) (h : isRw (rwsA f n) = true) : TreA (treeA f n) := by
 obtain ⟨_, h2⟩ := newS_is h
 refine ⟨fun p hp => ?_, fun p hp => ?_⟩
 ·obtain ⟨i, hi, rfl⟩ := treeA_mem f n p hp
  exact ⟨(hN i hi).2.1, (hN i hi).2.2.1⟩
 obtain ⟨i, hi, rfl⟩ := treeA_mem f n p hp
 have hm : RowA.abs (f i) ∈ rwsA f n := by
  simp only [rwsA, listA, List.mem_map, List.mem_range]
  exact ⟨i, hi, rfl⟩
 have h3 := (h2 _ hm).2
 have h4 : isR (f i).x.r.abs = true := h3
 rw [isR_abs] at h4
 exact ⟨(isRF_kind h4).2.2.1, hK i hi⟩
theorem items_s (A : Option Addr) (n c : Nat) (f : Nat → RowA) (hn : n ≤ 100000) (hN : RwN n f) (hK : RwK n f) : Spec Try.prog 8 [rowsV A n c f] (fun y => .tup [rowI (y.A 0) (itemsP (rwsA f n)).length (y.c 0) (itF (itemsP (rwsA f n))), .int .i64 (itemsE (rwsA f n))]) := by
 intro m w hm hargs
 have hmx : maxLen = 9223372036854775807 := rfl
 have SI := tis_s A n c f (by omega) hN
 obtain ⟨ir, hir⟩ := eqv (isRw (rwsA f n))
 rw [← hir] at SI
 have O1 := SI
 refine en 17 hm hargs Try.func8 fun B hB a0 hF => ?_
 refine wp_seq (rg hB TA_ok [0] [] [] hF fun X0 a0 w1 hF => ?_)
 refine wp_seq (wp_seq (rg hB TA_ok [9, 0] [] [(1, .r fun _ => .bool (.v ir))] hF fun X1 a0 w1 hF => ?_))
 apply test_ok hF rfl <;> intro hb hF
 ·have hif : isRw (rwsA f n) = false := by rw [← hir]; subst hB; cases ir <;> first | rfl | cases hb
  refine wp_seq (rg hB TA_ok [2, 3] [2] [] hF fun X2 a0 w1 hF => ?_)
  refine wp_ret (rsi hB TA_ok hF ⟨0, fun _ => none, fun _ => 0, fun _ => .empty⟩ (he := ?_))
  subst hB
  unfold itemsP itemsE rowI
  rw [hif]
  exact Sim.tup ⟨sim_nils, zr, trivial⟩
 have hit : isRw (rwsA f n) = true := by rw [← hir]; subst hB; cases ir <;> first | rfl | cases hb
 have hTA := treeA_ok hN hK hit
 have hTl : (treeA f n).length ≤ 2000 := by
  have h1 := (newS_is hit).1
  rw [listA_len] at h1
  exact Nat.le_trans (treeA_len f n) h1
 refine wp_skip (wp_seq (wp_region_lit ?_))
 refine lpr 0 1 hB TA_ok [10] [] [] hF (fun X2 a0 w1 hF => ?_)
 refine man_callM rfl rfl rfl rfl hF rfl rfl enters21 (tof_m A n c f hn fun i hi => (hN i hi).2.1) (fun _ _ h => h) (fun b hb => by cases hb) (zl) (fun e he => by cases he) rfl rfl (fun y => lmK recV (y.c 0) (treeA f n)) (fun _ _ _ _ _ _ _ _ _ h => h.2) ?_
 intro y a0 w1 hF
 obtain ⟨bT, hbT⟩ := eqv (y.c 0)
 rw [← hbT] at hF
 refine lnd 2 hB TA_ok [4] [4] [] hF (fun X3 a0 w1 hF => ?_)
 have hF := hF.fz (tm' := [(4, tEp (X3 2).b bT)]) ⟨rfl, fz_ptr, trivial⟩
 refine wp_seq (rg hB TA_ok [5, 4] [5] [] hF fun X4 a0 w1 hF => ?_)
 refine wp_seq (rg hB TA_ok [6, 5, 4] [6, 5] [] hF fun X5 a0 w1 hF => ?_)
 refine wp_seq (rg hB TA_ok [6, 5] [6, 5] [] hF fun X6 a0 w1 hF => ?_)
 obtain ⟨bt, hbt⟩ := eqv ((X3 2).b)
 obtain ⟨bO, hbO⟩ := eqv ((X4 0).b)
 obtain ⟨bM, hbM⟩ := eqv ((X5 0).b)
 have hF := hF.rekey (key' := 900) (tm' := [(6, .ptr 900 (X5 0).b 0), (5, .ptr 5 (X4 0).b 0)]) ⟨rfl, fz_key, rfl, fz_id, trivial⟩
 have hF := hF.memS (cells' := [.fn 22 [] [tEp (X3 2).b bT, .ptr 901 (X4 0).b 0, .ptr 900 (X5 0).b 0]]) ⟨Sim.fn trivial ⟨zr, Sim.ptr, Sim.ptr, trivial⟩, trivial⟩
 have hF := hF.keep [6, 5] [5, 900]
 have hF := hF.rekey (key' := 901) (tm' := [(6, .ptr 900 (X5 0).b 0), (5, .ptr 901 (X4 0).b 0)]) ⟨rfl, fz_id, rfl, fz_key, trivial⟩
 have hF := hF.fresh (Below.refl _ _) 77 (t := ⟨none, 0, 0, 2, 57⟩) (by decide) (Own.nil _ _ _ _ none)
 have hF := Fits.memS (cells' := [.sl (some 77) none 0 0 2 (fun i => itC ((fun _ => zeroItm) i))]) hF ⟨sim_nils, trivial⟩
 refine wp_seq (wp_region_lit ?_)
 refine lpr 0 2 hB TA_ok [13, 14, 5, 6] [901, 900, 77] [] hF (fun X7 a0 w1 hF => ?_)
 refine man_inl rfl rfl rfl rfl hF rfl rfl enters22 (fun t ht => by injection ht with ht; subst ht; decide) (fun hmm haa hargs => ?_)
 have htE := hargs (tEp (X3 2).b bT) (by simp)
 have hself : ∀ tm, ((lmK recV bT (treeA f n)).and (okT tm)).self := fun tm => and_self' lmK_self (okT_self tm)
 refine Calls.mono (means_c (treeA f n) hTA hTl 65 ⟨0, 0⟩ ⟨by decide, by decide⟩ (by decide) (by decide) _ ?hx ?hs w1 [] _ _ ⟨none, 0, 0, fun _ => zeroItm, rfl, rfl, rfl⟩ ?hl hmm htE) ?_
 case hx => exact fun m w h => h.1
 case hs => exact hself _
 case hl =>
  have := cnt_le ((treeA f n).map (·.1)) ⟨0, 0⟩
  rw [List.length_map] at this
  simp only [List.length_nil]
  omega
 rintro e w' ⟨v, rfl, rfl, mem', gr', hO', hm'⟩
 refine ⟨.tup [], rfl, mem', gr', _, .tup _ (fun u hu => by cases hu), hm', fun a' hF => wpList_nil ?_⟩
 obtain ⟨A2, n2, c2, g2, hg2, rfl, rfl⟩ := hO'
 refine wp_seq (rg hB TA_ok [2, 3] [901, 77] [] hF fun X8 a0 w1 hF => ?_)
 refine wp_ret (rsi hB TA_ok hF ⟨0, fun _ => A2, fun _ => c2, fun _ => .empty⟩ (he := ?_))
 subst hB
 have hI : itemsP (rwsA f n) = firsts g2 n2 := by
  unfold itemsP
  rw [if_pos hit, hg2, List.nil_append, tre_eq]
 have hE : itemsE (rwsA f n) = 0 := by unfold itemsE; rw [if_pos hit]
 rw [hI, hE]
 unfold rowI
 exact Sim.tup ⟨Sim.resl (by rw [firsts_len]) (fun t ht => by rw [firsts_len] at ht; rw [firsts_get _ _ t ht]), zr, trivial⟩
theorem labU (l : Lab) (h : LabOk l) : U64 l.bits := by
 have h := h.2
 simp [Lit.wf, IntKind.min, IntKind.max, IntKind.signed, IntKind.bits] at h
 exact ⟨by omega, by omega⟩
theorem treP_of {l : List Rw} {T : Tre} (h1 : ∀ w ∈ l, T w.lab = some w.r) (h2 : ∀ q r, T q = some r → ∃ w ∈ l, w.lab = q) : treP l = T := by
 funext q
 unfold treP
 cases hf : l.reverse.find? (fun w => decide (w.lab = q)) with
 | some w =>
  have e := List.find?_some hf
  have hm := List.mem_reverse.1 (List.mem_of_find?_eq_some hf)
  rw [← of_decide_eq_true e, h1 w hm]
  rfl
 | none =>
  cases ht : T q with
  | none => rfl
  | some r =>
   obtain ⟨w, hw, he⟩ := h2 q r ht
   have := List.find?_eq_none.1 hf w (List.mem_reverse.2 hw)
   exact absurd (decide_eq_true he) this
theorem newL_keeps : ∀ {l : List Rw} {M L' : Shf}, newL l M = some L' → ∀ q, (findL q M).isSome = true → findL q L' = findL q M
 | [], M, L', h, q, hq => by
  simp only [newL, Option.some.injEq] at h
  subst h; rfl
 | v :: l, M, L', h, q, hq => by
  unfold newL at h
  split at h
  ·cases h
  rename_i hn
  simp only [Bool.or_eq_true, Bool.not_eq_true', not_or, Bool.not_eq_false, Bool.not_eq_true] at hn
  have hne : v.lab ≠ q := fun e => by rw [e, hq] at hn; cases hn.1.1
  have e : findL q (putL v.lab ⟨v.ver, true, v.r⟩ M) = findL q M := by rw [find_put, if_neg hne]
  rw [newL_keeps h q (by rw [e]; exact hq), e]
theorem TL_new : ∀ {l : List Rw} {M L' : Shf}, newL l M = some L' → (∀ w ∈ l, TL L' w.lab = some w.r) ∧ ∀ q r, TL L' q = some r → (∃ w ∈ l, w.lab = q) ∨ TL M q = some r
 | [], M, L', h => by
  simp only [newL, Option.some.injEq] at h
  subst h
  exact ⟨fun w hw => (by cases hw), fun q r h => .inr h⟩
 | v :: l, M, L', h => by
  have h0 := h
  unfold newL at h
  split at h
  ·cases h
  obtain ⟨g1, g2⟩ := TL_new h
  constructor
  ·intro w hw
   rcases List.mem_cons.1 hw with rfl | hw
   ·have e : findL w.lab (putL w.lab ⟨w.ver, true, w.r⟩ M) = some ⟨w.ver, true, w.r⟩ := by rw [find_put, if_pos rfl]
    have e2 := newL_keeps h w.lab (by rw [e]; rfl)
    rw [e] at e2
    unfold TL spotOf
    rw [e2]; rfl
   exact g1 w hw
  intro q r hr
  rcases g2 q r hr with ⟨w, hw, he⟩ | h2
  ·exact .inl ⟨w, by simp [hw], he⟩
  rw [TL_put] at h2
  split at h2
  ·rename_i e; exact .inl ⟨v, by simp, e⟩
  exact .inr h2
theorem tre_new {l : List Rw} {L : Shf} (h : newS l = some L) : treP l = TL L := by
 unfold newS at h
 split at h
 ·cases h
 obtain ⟨h1, h2⟩ := TL_new h
 refine treP_of h1 fun q r hr => ?_
 rcases h2 q r hr with h3 | h3
 ·exact h3
 exact absurd h3 (by unfold TL spotOf findL; simp [zeroSpo])
theorem items_new {l : List Rw} {L : Shf} (h : newS l = some L) : itemsP l = Mean L ∧ itemsE l = 0 := by
 have hr : isRw l = true := by unfold isRw; rw [h]; rfl
 unfold itemsP itemsE Mean
 rw [if_pos hr, if_pos hr, tre_new h]
 exact ⟨rfl, rfl⟩
def spW (w : Rw) : Lab × Spo := (w.lab, ⟨w.ver, true, w.r⟩)
theorem putL_last {l : Lab} {x : Spo} : ∀ {M : Shf}, (∀ p ∈ M, lessL p.1 l = true) → putL l x M = M ++ [(l, x)]
 | [], _ => rfl
 | p :: M, h => by
  unfold putL
  rw [if_pos (h p (by simp)), putL_last fun q hq => h q (by simp [hq])]; rfl
theorem findL_last {l : Lab} : ∀ {M : Shf}, (∀ p ∈ M, lessL p.1 l = true) → findL l M = none
 | [], _ => rfl
 | p :: M, h => by
  unfold findL
  rw [if_neg (less_ne (h p (by simp))), findL_last fun q hq => h q (by simp [hq])]
theorem newL_sorted : ∀ {l : List Rw} {M : Shf}, l.Pairwise (fun x y => lessL x.lab y.lab = true) → (∀ p ∈ M, ∀ w ∈ l, lessL p.1 w.lab = true) → (∀ w ∈ l, isL w.lab = true ∧ isR w.r = true) → newL l M = some (M ++ l.map spW)
 | [], M, _, _, _ => by simp [newL]
 | v :: l, M, hs, hm, hr => by
  have hs' := List.pairwise_cons.1 hs
  have hM : ∀ p ∈ M, lessL p.1 v.lab = true := fun p hp => hm p hp v (by simp)
  unfold newL
  rw [findL_last hM, (hr v (by simp)).1, (hr v (by simp)).2]
  simp only [Option.isSome_none, Bool.not_true, Bool.or_self, Bool.false_eq_true, if_false]
  rw [putL_last hM, newL_sorted hs'.2 (fun p hp w hw => ?_) fun w hw => hr w (by simp [hw])]
  ·simp [spW]
  rcases List.mem_append.1 hp with hp | hp
  ·exact hm p hp w (by simp [hw])
  simp at hp; subst hp; exact hs'.1 w hw
theorem rowsL_memI {L : Shf} {w : Rw} : w ∈ rowsL L ↔ ∃ p ∈ L, p.2.has = true ∧ w = ⟨p.1, p.2.ver, p.2.r⟩ := by
 unfold rowsL
 rw [List.mem_map]
 constructor
 ·rintro ⟨p, hp, rfl⟩
  obtain ⟨h1, h2⟩ := List.mem_filter.1 hp
  exact ⟨p, h1, h2, rfl⟩
 rintro ⟨p, h1, h2, rfl⟩
 exact ⟨p, List.mem_filter.2 ⟨h1, h2⟩, rfl⟩
theorem rowsL_le (L : Shf) : (rowsL L).length ≤ L.length := by
 unfold rowsL
 rw [List.length_map]
 exact List.length_filter_le _ _
theorem find_memP {l : Lab} {x : Spo} : ∀ {L : Shf}, findL l L = some x → (l, x) ∈ L
 | p :: L, h => by
  unfold findL at h
  split at h
  ·rename_i e
   injection h with h
   subst h; subst e
   simp
  exact List.mem_cons_of_mem _ (find_memP h)
section
variable {L : Shf}
theorem tre_rows (hR : ShfR L) : treP (rowsL L) = TL L := by
 refine treP_of (fun w hw => ?_) fun q r hr => ?_
 ·obtain ⟨p, hp, hh, rfl⟩ := rowsL_memI.1 hw
  have := spot_mem hR.ris hp
  rw [TL_some (by rw [this]; exact hh), this]
 unfold TL at hr
 split at hr
 ·rename_i hh
  unfold spotOf at hh
  cases hf : findL q L with
  | none => rw [hf] at hh; cases hh
  | some x =>
   rw [hf] at hh
   exact ⟨_, rowsL_memI.2 ⟨_, find_memP hf, hh, rfl⟩, rfl⟩
 cases hr
def LblI (L : Shf) : Prop := ∀ p ∈ L, isL p.1 = true
theorem lbl_put {l : Lab} {x : Spo} (hl : isL l = true) (h : LblI L) : LblI (putL l x L) := fun p hp => by
 rcases put_mem hp with rfl | hp
 ·exact hl
 exact h p hp
theorem lbl_do (h : LblI L) (w : Wnt) : LblI (doL L w).L := by
 unfold doL
 split
 ·rename_i hg
  split
  ·exact h
  split
  ·exact h
  split
  ·exact h
  exact lbl_put hg.2.1 h
 exact h
theorem lbl_newL : ∀ {l : List Rw} {M L' : Shf}, LblI M → newL l M = some L' → LblI L'
 | [], M, L', hM, h => by
  simp only [newL, Option.some.injEq] at h
  subst h; exact hM
 | v :: l, M, L', hM, h => by
  unfold newL at h
  split at h
  ·cases h
  rename_i hn
  simp only [Bool.or_eq_true, Bool.not_eq_true', not_or, Bool.not_eq_false, Bool.not_eq_true] at hn
  exact lbl_newL (lbl_put hn.1.2 hM) h
theorem lbl_new {l : List Rw} (h : newS l = some L) : LblI L := by
 unfold newS at h
 split at h
 ·cases h
 exact lbl_newL (fun p hp => by cases hp) h
theorem lbl_run {N : NextF} {most : Int} : ∀ (fu : Nat) {gs : List Got} {L : Shf} {k : Int}, LblI L → LblI (runQ N most fu gs L k).L
 | 0, gs, L, k, h => h
 | fu + 1, gs, L, k, h => by
  unfold runQ
  split
  ·exact h
  split
  ·exact h
  split
  ·exact h
  split
  ·exact lbl_do h _
  exact lbl_run fu (lbl_do h _)
theorem rows_new (hR : ShfR L) (hl : LblI L) : newS (rowsL L) = some ((rowsL L).map spW) := by
 unfold newS
 have h1 := rowsL_le L
 have h2 := hR.good.ok.len
 rw [if_neg (by omega), newL_sorted ?_ (fun p hp => by cases hp) fun w hw => ?_]
 ·rfl
 ·unfold rowsL
  rw [List.pairwise_map]
  exact List.Pairwise.filter _ hR.ris
 obtain ⟨p, hp, hh, rfl⟩ := rowsL_memI.1 hw
 exact ⟨hl p hp, (hR.sp p hp).1 hh⟩
theorem items_rows (hR : ShfR L) (hl : LblI L) : itemsP (rowsL L) = Mean L ∧ itemsE (rowsL L) = 0 := by
 have hr : isRw (rowsL L) = true := by unfold isRw; rw [rows_new hR hl]; rfl
 unfold itemsP itemsE Mean
 rw [if_pos hr, if_pos hr, tre_rows hR]
 exact ⟨rfl, rfl⟩
theorem mean_len (hR : ShfR L) : (Mean L).length ≤ 32 * L.length := by
 have h : TreOk (TL L) (L.map (·.1)) := by
  refine ⟨fun k hk => ?_, fun l r hr => ?_⟩
  ·obtain ⟨p, hp, rfl⟩ := List.mem_map.1 hk
   exact labU _ (hR.good.ok.lab p hp)
  unfold TL at hr
  split at hr
  ·rename_i hh
   injection hr with hr
   unfold spotOf at hh hr
   cases hf : findL l L with
   | none => rw [hf] at hh; cases hh
   | some x =>
    rw [hf] at hr
    have hm := find_memP hf
    refine ⟨List.mem_map.2 ⟨_, hm, rfl⟩, ?_⟩
    rw [← hr]
    exact (hR.good.sp _ hm).r.few
  cases hr
 have h1 := means_len h 65 ⟨0, 0⟩ (by decide) ⟨by decide, by decide⟩
 have h2 := cnt_le (L.map (·.1)) ⟨0, 0⟩
 rw [List.length_map] at h2
 unfold Mean
 omega
theorem rowsL_get {i : Nat} (hi : i < (rowsL L).length) : ∃ p ∈ L, p.2.has = true ∧ (rowsL L).getD i zeroRw = ⟨p.1, p.2.ver, p.2.r⟩ := by
 have e : (rowsL L).getD i zeroRw = (rowsL L)[i] := by simp [List.getD, hi]
 rw [e]
 exact rowsL_memI.1 (List.getElem_mem hi)
theorem rows_n (hR : ShfR L) (y : Atom) : RwN (rowsL L).length (rwAt y (rowsL L)) := fun i hi => by
 obtain ⟨p, hp, hh, e⟩ := rowsL_get hi
 unfold rwAt
 rw [e]
 have h1 := hR.good.ok.lab p hp
 have h2 := (hR.good.sp p hp).r
 exact ⟨Nat.le_trans h2.few (by decide), h1, labU _ h1, h2.nx⟩
theorem rows_k (hR : ShfR L) (y : Atom) : RwK (rowsL L).length (rwAt y (rowsL L)) := fun i hi t ht => by
 obtain ⟨p, hp, hh, e⟩ := rowsL_get hi
 unfold rwAt at ht ⊢
 rw [e] at ht ⊢
 have h2 := (hR.good.sp p hp).r
 have ht' : t < p.2.r.items.length := ht
 show U64 (itF p.2.r.items t).key
 refine h2.key _ ?_
 have : itF p.2.r.items t = p.2.r.items[t] := by simp [itF, List.getD, ht']
 rw [this]
 exact List.getElem_mem ht'
end
theorem bigs_ff {n : Nat} {f : Nat → RowA} (h : (if n ≤ 300 then bigS n f else true) = false) : n ≤ 300 ∧ ∀ i, i < n → (f i).x.r.n ≤ 40 := by
 by_cases hn : n ≤ 300
 ·rw [if_pos hn] at h
  refine ⟨hn, fun i hi => ?_⟩
  unfold bigS at h
  simp only [Bool.or_eq_false_iff] at h
  exact bigF_len (anyB_false h.1.2 i hi)
 rw [if_neg hn] at h; cases h
theorem new_wf {n : Nat} {f : Nat → RowA} (hb : n ≤ 300 ∧ ∀ i, i < n → (f i).x.r.n ≤ 40) (hwf : ∀ i, i < n → LabOk (f i).lab ∧ U64 (f i).x.r.nx.bits) (hu : ∀ l, LabOk l → U64 l.bits) : ∀ i, i < n → (f i).x.r.n ≤ 1000000 ∧ LabOk (f i).lab ∧ U64 (f i).lab.bits ∧ U64 (f i).x.r.nx.bits := fun i hi => ⟨by have := hb.2 i hi; omega, (hwf i hi).1, hu _ (hwf i hi).1, (hwf i hi).2⟩
theorem lab_u64 (l : Lab) (h : LabOk l) : U64 l.bits := by
 have := h.2
 simp [Lit.wf, IntKind.min, IntKind.max, IntKind.signed, IntKind.bits] at this
 exact ⟨by omega, by omega⟩
theorem rws_good {n : Nat} {f : Nat → RowA} (hr : ∀ i, i < n → LabOk (f i).lab ∧ U64 (f i).ver ∧ U64 (f i).x.r.nx.bits ∧ ∀ t, t < (f i).x.r.n → U64 ((f i).x.r.f t).key) : ∀ r ∈ rwsA f n, RwG r := by
 intro r hr'
 obtain ⟨i, hi, rfl⟩ := List.mem_map.1 hr'
 obtain ⟨h1, h2, h3, h4⟩ := hr i (List.mem_range.1 hi)
 refine ⟨h1, h2, h3, fun x hx => ?_⟩
 obtain ⟨t, ht, rfl⟩ := List.mem_map.1 hx
 exact h4 t (List.mem_range.1 ht)
def bgK (kd : Int) (l : Lab) (b : Int) : JobA := ⟨kd, l, 0, 0, ⟨#[]⟩, 0, none, 0, 0, fun _ => 0, 0, 0, 0, 0, 1, b, 1000⟩
theorem bgK_in {kd : Int} {l : Lab} (hl : U64 l.bits) (b : Int) : JobIn (bgK kd l b) := ⟨hl, u64_0, u64_0⟩
theorem bgK_job {kd : Int} {l : Lab} (hk : kd = 1 ∨ kd = 2) (hl : isL l = true) {b : Int} (h1 : 1 ≤ b) (h2 : b ≤ 16) : isJobB (bgK kd l b) = true := by
 unfold isJobB btw bgK
 rcases hk with rfl | rfl <;> simp [hl, h1, h2]
theorem lawKp_no (A : Option Addr) (n c : Nat) (f : Nat → RowA) (hn : n ≤ maxLen) (hrw : ∀ i, i < n → LabOk (f i).lab ∧ U64 (f i).ver ∧ U64 (f i).x.r.nx.bits ∧ ∀ t, t < (f i).x.r.n → U64 ((f i).x.r.f t).key) (cl : Bool) (l : Lab) (hl : U64 l.bits) (bu : Int) (hnew : newS (rwsA f n) = none) : Spec Try.prog 3 [rowsV A n c f, .bool (.v cl), labAV l, .int .i64 bu] (fun _ => .bool .tt) := by
 intro m w hm hargs
 have hmx : maxLen = 9223372036854775807 := rfl
 have hwf : ∀ i, i < n → LabOk (f i).lab ∧ U64 (f i).x.r.nx.bits := fun i hi => ⟨(hrw i hi).1, (hrw i hi).2.2.1⟩
 have S1 := bigs_s A n c f hn
 obtain ⟨bl, hbl⟩ := eqv (if n ≤ 300 then bigS n f else true)
 rw [← hbl] at S1
 have SI := isL_s l hl
 obtain ⟨li, hli⟩ := eqv (isL l)
 rw [← hli] at SI
 simp only [labAV] at SI hargs ⊢
 refine en 94 hm hargs Try.func3 fun B hB a0 hF => ?_
 refine wp_seq (rg hB TA_ok [0, 1, 3, 6] [6] [] hF fun X0 a0 w1 hF => ?_)
 have O1 := S1
 have O2 := SI
 refine wp_seq (wp_seq (rg hB TA_ok [37, 0, 1, 3, 6] [6] [(1, .r fun _ => .bool (.v bl)), (17, .r fun _ => .bool (.v li))] hF fun X1 a0 w1 hF => ?_))
 apply test_ok hF rfl <;> intro hb hF
 ·skip
  have O1 := helped_s
  refine wp_seq (rg hB TA_ok [8] [] [(0, .r fun _ => .bool .tt)] hF fun X2 a0 w1 hF => ?_)
  refine wp_ret ((rsi hB TA_ok hF nAt (he := ?_)))
  subst hB
  exact Sim.bool rfl
 have hb0 : bl = false ∧ n ≤ 60 ∧ 1 ≤ bu ∧ bu ≤ 16 ∧ li = true := by
  have h9 : (if (if (if (if bl = true then true else decide ((60 : Int) < (n : Int))) = true then true else decide (bu < 1)) = true then true else decide (16 < bu)) = true then true else !li) = false := by subst hB; exact hb
  revert h9
  cases bl <;> cases li <;> simp <;> omega
 obtain ⟨hbl0, hn60, hbu1, hbu2, hli1⟩ := hb0
 have hlo : LOk l := ⟨hli ▸ hli1, hl⟩
 have hb1 := bigs_ff (hbl ▸ hbl0)
 have hN := new_wf hb1 hwf lab_u64
 refine wp_skip (wp_seq (wp_region_lit (lpr 0 1 hB TA_ok [40, 0, 1, 3, 6] [6] [] hF fun X3_0 a0 w1 hF => ?_)))
 have SN := new_no A n c f hn hN hnew
 refine man_callM rfl rfl rfl rfl hF rfl rfl enters7 SN (fun _ _ _ => trivial) (fun b hb => by cases hb) (zl) (by intro e he; cases he) rfl rfl (fun y => noK) (fun _ _ _ _ _ _ _ _ _ _ => trivial) ?_
 intro y a0 w1 hF
 refine lnd 2 hB TA_ok [0, 1, 3, 6, 9, 10] [6] [] hF fun X3 a0 w1 hF => ?_
 refine wp_seq (wp_seq (rg hB TA_ok [45, 0, 1, 3, 6, 9, 10] [6] [] hF fun X4 a0 w1 hF => ?_))
 refine test_tt hF rfl (fun hF => ?_)
 have O1 := helped_s
 refine wp_seq (rg hB TA_ok [8] [] [(0, .r fun _ => .bool .tt)] hF fun X5 a0 w1 hF => ?_)
 refine wp_ret ((rsi hB TA_ok hF nAt (he := ?_)))
 subst hB
 refine Sim.bool ?_
 simp [std, sC, BE.den, canB]
theorem lawKp_yes (A : Option Addr) (n c : Nat) (f : Nat → RowA) (hn : n ≤ maxLen) (hrw : ∀ i, i < n → LabOk (f i).lab ∧ U64 (f i).ver ∧ U64 (f i).x.r.nx.bits ∧ ∀ t, t < (f i).x.r.n → U64 ((f i).x.r.f t).key) (cl : Bool) (l : Lab) (hl : U64 l.bits) (bu : Int) {L : Shf} (hnew : newS (rwsA f n) = some L) : Spec Try.prog 3 [rowsV A n c f, .bool (.v cl), labAV l, .int .i64 bu] (fun _ => .bool .tt) := by
 intro m w hm hargs
 have hmx : maxLen = 9223372036854775807 := rfl
 have hwf : ∀ i, i < n → LabOk (f i).lab ∧ U64 (f i).x.r.nx.bits := fun i hi => ⟨(hrw i hi).1, (hrw i hi).2.2.1⟩
 have S1 := bigs_s A n c f hn
 obtain ⟨bl, hbl⟩ := eqv (if n ≤ 300 then bigS n f else true)
 rw [← hbl] at S1
 have SI := isL_s l hl
 obtain ⟨li, hli⟩ := eqv (isL l)
 rw [← hli] at SI
 simp only [labAV] at SI hargs ⊢
 refine en 94 hm hargs Try.func3 fun B hB a0 hF => ?_
 refine wp_seq (rg hB TA_ok [0, 1, 3, 6] [6] [] hF fun X0 a0 w1 hF => ?_)
 have O1 := S1
 have O2 := SI
 refine wp_seq (wp_seq (rg hB TA_ok [37, 0, 1, 3, 6] [6] [(1, .r fun _ => .bool (.v bl)), (17, .r fun _ => .bool (.v li))] hF fun X1 a0 w1 hF => ?_))
 apply test_ok hF rfl <;> intro hb hF
 ·skip
  have O1 := helped_s
  refine wp_seq (rg hB TA_ok [8] [] [(0, .r fun _ => .bool .tt)] hF fun X2 a0 w1 hF => ?_)
  refine wp_ret ((rsi hB TA_ok hF nAt (he := ?_)))
  subst hB
  exact Sim.bool rfl
 have hb0 : bl = false ∧ n ≤ 60 ∧ 1 ≤ bu ∧ bu ≤ 16 ∧ li = true := by
  have h9 : (if (if (if (if bl = true then true else decide ((60 : Int) < (n : Int))) = true then true else decide (bu < 1)) = true then true else decide (16 < bu)) = true then true else !li) = false := by subst hB; exact hb
  revert h9
  cases bl <;> cases li <;> simp <;> omega
 obtain ⟨hbl0, hn60, hbu1, hbu2, hli1⟩ := hb0
 have hlo : LOk l := ⟨hli ▸ hli1, hl⟩
 have hb1 := bigs_ff (hbl ▸ hbl0)
 have hN := new_wf hb1 hwf lab_u64
 refine wp_skip (wp_seq (wp_region_lit (lpr 0 1 hB TA_ok [40, 0, 1, 3, 6] [6] [] hF fun X3_0 a0 w1 hF => ?_)))
 have SN := new_yes A n c f hn hN 900 hnew
 have hR0 : ShfR L := newS_right (rws_good hrw) hnew
 have hlb0 : LblI L := lbl_new hnew
 have hlen0 : L.length ≤ 60 := by rw [newS_len hnew]; show ((List.range n).map _).length ≤ _; simp; exact hn60
 have hRN : RwN n f := hN
 have hRK : RwK n f := fun i hi => (hrw i hi).2.2.2
 have hkl := mean_len hR0
 have SI1 := items_s A n c f (by omega) hRN hRK
 simp only [(items_new hnew).1, (items_new hnew).2, rowI] at SI1
 obtain ⟨kf, hkf⟩ := eqv (itF (Mean L))
 rw [← hkf] at SI1
 obtain ⟨kn, hkn⟩ := eqv ((Mean L).length)
 rw [← hkn] at SI1 hkl
 have SS := fun (A A2 : Option Addr) (c c2 : Nat) => same7_s A kn c kf (by omega) A2 kn c2 kf
 rw [sameF_yes rfl fun _ _ => rfl] at SS
 simp only [rowI] at SS
 refine man_callM rfl rfl rfl rfl hF rfl rfl enters7 (SN) (fun _ _ _ => trivial) (fun b hb => by cases hb) (zl) (by intro e he; cases he) rfl rfl (fun y => shF w.heap.size (y.c 0) L) (fun n x m w m' w' hn _ _ h => ⟨Nat.le_trans hn h.1, h.2⟩) ?_
 intro y a0 w1 hF
 obtain ⟨sb, hsb⟩ := eqv (y.b)
 obtain ⟨bM, hbM⟩ := eqv (y.c 0)
 rw [← hsb, ← hbM] at hF
 have hbfr : w.heap.size ≤ bM := hF.kept.1
 replace hF := hF.withK (K' := shK bM L) hF.kept.2
 refine lnd 2 hB TA_ok [0, 1, 3, 6, 9, 10] [900, 6] [] hF fun X3 a0 w1 hF => ?_
 refine wp_seq (wp_seq (rg hB TA_ok [45, 0, 1, 3, 6, 9, 10] [900, 6] [] hF fun X4 a0 w1 hF => ?_))
 refine test_ff hF rfl (fun hF => ?_)
 have O1 := SI1
 refine wp_skip (wp_seq (rg hB TA_ok [1, 3, 6, 9, 11, 12] [900, 6] [(1, .r fun y => .tup [.sl none (y.A 0) kn (y.c 0) 2 (fun t => itC (kf t)), .int .i64 0])] hF fun X6 a0 w1 hF => ?_))
 refine wp_seq (rg hB TA_ok [1, 3, 6, 9, 11, 12, 13] [900, 6] [] hF fun X7 a0 w1 hF => ?_)
 refine wp_seq (wp_seq (rg hB TA_ok [56, 13, 3, 6, 9, 11, 12] [900, 6] [] hF fun X8 a0 w1 hF => ?_))
 refine cut_one (ι := Int) (S0 := [(56, _), (13, _)]) (M0 := []) (G0 := []) (fun p => [(13, .int .i64 p)]) (fun p => []) (fun p => []) (fun p => p = 1 ∨ p = 2) hF ?_ ?_
 ·apply test_ok hF rfl <;> intro hb hF
  ·refine rg hB TA_ok [13, 3, 6, 9, 11, 12] [900, 6] [] hF fun X9 a0 w1 hF => ?_
   first | exact ⟨1, .inl rfl, hF⟩ | exact ⟨2, .inr rfl, hF⟩
  refine wp_skip ?_
  first | exact ⟨1, .inl rfl, hF⟩ | exact ⟨2, .inr rfl, hF⟩
 rintro kd hkd a0 w1 hF
 try dsimp only at hkd
 have hkp := help_keeps (J := bgK kd l bu) (bgK_in hl bu) (bgK_job hkd hlo.isl hbu1 hbu2) hkd (Int.le_refl 1000) hR0 hlen0 0
 have hlb1 : LblI (runQ (helpN (bgK kd l bu)) 3000 2001 [] L 0).L := lbl_run _ hlb0
 have SD := run25_m 900 sb bM (bgK kd l bu) (bgK_in hl bu) L hR0.good 0
 obtain ⟨RQ, hRQ⟩ := eqv (runQ (helpN (bgK kd l bu)) 3000 2001 [] L 0)
 rw [← hRQ] at SD hkp hlb1
 obtain ⟨hst, hres, hR1, hmean, hlen1⟩ := hkp
 rw [hst, hres] at SD
 clear hst hres
 obtain ⟨RL, hRL⟩ := eqv (RQ.L)
 rw [← hRL] at SD hR1 hmean hlen1 hlb1
 obtain ⟨RK, hRK⟩ := eqv (RQ.k)
 rw [← hRK] at SD
 have SB : Spec Try.prog 10 [.int .i64 kd, .agg [.int .i64 l.len, .int .u64 l.bits], .int .i64 bu] (fun _ => jobV (bgK kd l bu)) := begun_s kd l bu
 have SE : SpecM Try.prog 9 [.ptr 900 sb 0, jobV (bgK kd l bu)] [(900, ⟨sb, 66, [.raw (.map (some bM)), .int .i64 0]⟩)] (some bM) (shK bM L) (fun y => ⟨.tup [.agg [.int .i64 0, .bool (.v false), .str ⟨#[]⟩, .sl none (y.A 2) 0 (y.c 2) 2 (fun i => itC (itF [] i)), .int .u64 0, .bool (.v false)], .bool (.v true)], [(900, [.raw (.map (some bM)), .int .i64 RK])], []⟩) (fun _ _ => shK bM RL) := SD
 have O1 := SB
 refine wp_seq (wp_region_lit (lpr 0 5 hB TA_ok [58, 62, 11, 12, 9] [900] [(4, .r fun _ => jobV (bgK kd l bu))] hF fun X10_0 a0 w1 hF => ?_))
 refine man_callM rfl rfl rfl rfl hF rfl rfl enters9 SE (fun _ _ h => h) (fun b hb => by cases hb; exact fun h => absurd h (Nat.not_lt.2 hbfr)) ⟨zr, zr, trivial⟩ (by intro e he; simp only [List.mem_singleton] at he; subst he; rfl) rfl rfl (fun _ => shK bM RL) (fun _ _ _ _ _ _ _ _ _ h => h) ?_
 intro y a0 w1 hF
 replace hF := hF.withK (K' := shK bM RL) hF.kept
 refine lnd 6 hB TA_ok [9, 11, 12, 14, 15] [900, 14] [(4, .r fun _ => jobV (bgK kd l bu))] hF fun X10 a0 w1 hF => ?_
 have SR := rows_r 900 sb bM RL (by have := hlen1; omega) RK
 have hnR0 : (rowsL RL).length ≤ 100000 := Nat.le_trans (rowsL_le RL) (by have := hlen1; omega)
 have SI2 := fun (y : Atom) (A2 : Option Addr) (c2 : Nat) => items_s A2 (rowsL RL).length c2 (rwAt y (rowsL RL)) hnR0 (rows_n hR1 y) (rows_k hR1 y)
 simp only [rwsA_rwAt, (items_rows hR1 hlb1).1, (items_rows hR1 hlb1).2, hmean, ← hkn, ← hkf, rowI] at SI2
 obtain ⟨RR, hRR⟩ := eqv (rowsL RL)
 rw [← hRR] at SR SI2 hnR0
 obtain ⟨nR, hnR⟩ := eqv (RR.length)
 rw [← hnR] at SR SI2 hnR0
 apply wp_seq
 refine rg hB TA_ok [11, 12, 14, 15, 16, 17] [900, 14] [(1, .g [900] fun y => .sl none (y.A 0) nR (y.c 0) 8 (fun i => rowC (rwAt y RR i))), (2, .r fun y => .tup [.sl none (y.A 0) kn (y.c 0) 2 (fun t => itC (kf t)), .int .i64 0])] hF (hob := by intro X; subst hB; simp only [AO, Ob.holds, BE.den] <;> and_intros <;> repeat first | trivial | rfl | exact SR | exact SI2 _ _ _ | exact (fun _ _ => by kernel_rfl) | refine ⟨?_, ?_⟩ | intro h | exact Int.le_refl _ | decide | omega) fun X11 a0 w1 hF => ?_
 apply wp_seq
 refine rg hB TA_ok [8] [] [(0, .r fun _ => .bool .tt), (12, .r fun _ => .bool (.v true))] hF (hob := by intro X; subst hB; simp only [AO, Ob.holds, BE.den] <;> and_intros <;> repeat first | trivial | rfl | exact helped_s | exact SS _ _ _ _ | exact (fun _ _ => by kernel_rfl) | refine ⟨?_, ?_⟩ | intro h | exact Int.le_refl _ | decide | omega) fun X12 a0 w1 hF => ?_
 refine wp_ret ((rsi hB TA_ok hF nAt (he := ?_)))
 subst hB
 refine Sim.bool ?_
 simp [std, sC, BE.den, canB]
end Go.Proofs.Ytjgnoldondblaaa.Sym
namespace Go.Proofs.Ytjgnoldondblaaa
open Go Go.RowKit
theorem walkHelpKeeps (W : World) (v0 v1 v2 v3 : Value) (i0 : Sym.InRow W v0) (i1 : Sym.InB W v1) (i2 : Sym.InLb W v2) (i3 : Sym.InI W v3) : Calls Try.prog 3 #[v0, v1, v2, v3] W fun e w' => e = .returned (.bool true) ∧ Below W.heap.size W w' := by
 obtain ⟨A, n, c, f, rfl, h0, hn, hf⟩ := i0
 obtain ⟨cl, rfl⟩ := i1
 obtain ⟨l, rfl, h1, hl⟩ := i2
 obtain ⟨k, rfl, _⟩ := i3
 have hrw : ∀ i, i < n → Sym.LabOk (f i).lab ∧ U64 (f i).ver ∧ U64 (f i).x.r.nx.bits ∧ ∀ t, t < (f i).x.r.n → U64 ((f i).x.r.f t).key := fun i hi => by
  obtain ⟨_, _, a, b, c, d⟩ := hf i hi
  exact ⟨a, c, b.u64, d⟩
 have S : Sym.Spec Try.prog 3 [Sym.rowsV A n c f, .bool (.v cl), Sym.labAV l, .int .i64 k] (fun _ => .bool .tt) := by
  cases hnew : newS (Sym.rwsA f n) with
  | none => exact Sym.lawKp_no A n c f hn hrw cl l hl.u64 k hnew
  | some L => exact Sym.lawKp_yes A n c f hn hrw cl l hl.u64 k hnew
 refine (S (fun _ _ => False) W (fun _ _ h => h.elim) (fun v hv => ?_)).mono ?_
 ·simp only [List.mem_cons, List.not_mem_nil, or_false] at hv
  rcases hv with rfl | rfl | rfl | rfl
  ·exact h0
  ·exact .bool _
  ·exact h1
  exact .int _ _
 rintro e w' ⟨x, rfl, _, hb⟩
 exact ⟨rfl, hb⟩
end Go.Proofs.Ytjgnoldondblaaa
