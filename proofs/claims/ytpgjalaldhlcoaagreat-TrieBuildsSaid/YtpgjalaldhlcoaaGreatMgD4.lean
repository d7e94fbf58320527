/-
  SymInl2, SymKid, PlUp, PlTrie, SymTr2, SymShP, SymTr3, SymTr9, LaySort, SortOrd, PlTrie2, SymTr4, SymHd3, SymTr5, SymInl3, SymTr6, SymInl4, SymUp, SymTr7, SymTrA: put together by a program of mine (a claim may have 60 files at most). Conditions: none.
-/
import Derived.WalkKit
import Derived.WalkLawsBesides
import Derived.WalkSpells
import Derived.Lib.Hide
import Derived.Deep.QuietTactic
import Derived.BigQuiet
import Derived.Deep.LoopGhost
import Derived.Deep.DeepCutAuto
import Derived.Deep.RegionLaw
import Derived.Lib.Overlaps
import Derived.Laws.CopyOwn
import Derived.IntWalk
import Derived.ProofKit
import Derived.OpenShut
import Derived.ShutString
import Derived.ChangeOld
import Derived.Deep.Slices
import Derived.Orders
import Derived.OrdersHeld
import Derived.Defers
import Derived.Recover
import Derived.Lib.BitFns
import Derived.ChangeKeysEq
import Derived.Test.YtpgjalaldhlcoaaGreatProg
import Derived.Lib.BufferWrite
import Derived.Maps.OwnSet
import Derived.Maps.RangeWalk
import Derived.Maps.Ext
import Derived.DeepKeys4
import Derived.RangeFuncLeaves
import Derived.RangeFuncCalls
import Derived.OrdersIn
import Derived.Shelf.SlSortCmp.WholeK
import Derived.Shelf.SlSortCmp.NoneTotal
import Derived.Deep.RegionHeld3
import Derived.Ground.SlsfProg
import Derived.Shelf.SlGeneric
import Derived.Test.YtpgjalaldhlcoaaGreatMgD1
import Derived.Test.YtpgjalaldhlcoaaGreatMgD2
import Derived.Test.YtpgjalaldhlcoaaGreatMgD3
set_option linter.unusedVariables false
set_option linter.unusedSimpArgs false
set_option maxRecDepth 100000
set_option maxHeartbeats 1600000
namespace Go.Proofs.YtpgjalaldhlcoaaGreat.Sym
open Go Go.RowKit
section
variable {m0 : Nat → Nat → Prop} {w0 wi w : World} {S : Nat → Prop} {ds : List Deferred} {K : Kn} {nt : Nat} {tm tm' : List (Nat × AV)} {gs : List (Nat × List (Nat × Bool) × AV)} {mem memi : List (Nat × Blk)} {gr gri : List (Nat × Gr)} {a : Act} {P : Program}
def FzV (b : Nat) (cells : List AV) (v v' : AV) : Prop := v'.den = v.den ∧ (v'.known = true → v.known = true) ∧ (v'.one = v.one) ∧ ∀ m w, Ok m w (.ep (some ⟨b, 0, none⟩) 0 0 0 cells) → Ok m w v → Ok m w v'
theorem fz_id {b : Nat} {cells : List AV} {v : AV} : FzV b cells v v := ⟨rfl, id, rfl, fun _ _ _ h => h⟩
theorem ep_off {m : Nat → Nat → Prop} {w : World} {A : Option Addr} {i k off off' : Nat} {cells : List AV} (h : Ok m w (.ep A i k off cells)) : Ok m w (.ep A i k off' cells) := by
 cases h with | ep _ _ _ _ _ h1 h2 h3 h4 => exact .ep _ _ _ _ _ h1 h2 h3 h4
theorem fz_ptr {b key off : Nat} {cells : List AV} : FzV b cells (.ptr key b off) (.ep (some ⟨b, 0, none⟩) 0 0 off cells) :=
 ⟨by simp [AV.den], fun _ => rfl, rfl, fun _ _ h _ => ep_off h⟩
theorem fz_key {b b' key key' off : Nat} {cells : List AV} : FzV b cells (.ptr key b' off) (.ptr key' b' off) := ⟨rfl, id, rfl, fun _ _ _ _ => .ptr _ _ _⟩
def FzVs (b : Nat) (cells : List AV) : List AV → List AV → Prop
 | [], [] => True
 | v :: l, v' :: l' => FzV b cells v v' ∧ FzVs b cells l l'
 | _, _ => False
theorem fzVs_den {b : Nat} {cells : List AV} : ∀ {l l' : List AV}, FzVs b cells l l' → l'.map AV.den = l.map AV.den ∧ ∀ m w, Ok m w (.ep (some ⟨b, 0, none⟩) 0 0 0 cells) → (∀ v ∈ l, Ok m w v) → ∀ v ∈ l', Ok m w v
 | [], [], _ => ⟨rfl, fun _ _ _ h => h⟩
 | v :: l, v' :: l', ⟨h1, h2⟩ => by
  obtain ⟨g1, g2⟩ := fzVs_den h2
  refine ⟨by simp [h1.1, g1], fun m w he h u hu => ?_⟩
  rcases List.mem_cons.1 hu with rfl | hu
  ·exact h1.2.2.2 m w he (h v (by simp))
  exact g2 m w he (fun x hx => h x (by simp [hx])) u hu
theorem fz_fn {b f : Nat} {cells l l' r r' : List AV} (hl : FzVs b cells l l') (hr : FzVs b cells r r') : FzV b cells (.fn f l r) (.fn f l' r') := by
 refine ⟨by simp [AV.den, denL_map, (fzVs_den hl).1, (fzVs_den hr).1], fun _ => rfl, rfl, fun m w he h => ?_⟩
 cases h with
 | fn _ _ _ h1 h2 => exact .fn _ _ _ ((fzVs_den hl).2 m w he h1) ((fzVs_den hr).2 m w he h2)
def FzT (b : Nat) (cells : List AV) : List (Nat × AV) → List (Nat × AV) → Prop
 | [], [] => True
 | e :: l, e' :: l' => e.1 = e'.1 ∧ FzV b cells e.2 e'.2 ∧ FzT b cells l l'
 | _, _ => False
theorem fzT_look {b : Nat} {cells : List AV} : ∀ {l l' : List (Nat × AV)}, FzT b cells l l' → ∀ t, FzV b cells (look l t) (look l' t)
 | [], [], _, t => fz_id
 | (k, v) :: l, (k', v') :: l', ⟨h1, h2, h3⟩, t => by
  simp only at h1 h2
  subst h1
  simp only [look_cons]
  by_cases h : k = t
  ·rw [if_pos h, if_pos h]; exact h2
  rw [if_neg h, if_neg h]; exact fzT_look h3 t
theorem Fits.fz {key b ty : Nat} {cells : List AV} (h : Fits ⟨m0, w0, S, ds, K⟩ ⟨nt, tm, [], (key, ⟨b, ty, cells⟩) :: mem, gr⟩ a w) (hf : FzT b cells tm tm') (hn : lookM mem key = none := by rfl) (hS : S b → w0.heap.size ≤ b := by first | exact fun h => h.elim | (rintro ⟨_, h, _⟩; cases h)) : Fits ⟨m0, w0, S, ds, K⟩ ⟨nt, tm', [], mem, gr⟩ a w := by
 have hk : lookM ((key, (⟨b, ty, cells⟩ : Blk)) :: mem) key = some ⟨b, ty, cells⟩ := by simp [lookM]
 have hup : ∀ {k e}, lookM mem k = some e → lookM ((key, (⟨b, ty, cells⟩ : Blk)) :: mem) k = some e ∧ k ≠ key := fun {k e} he => by
  have hne : k ≠ key := fun e' => by rw [e', hn] at he; cases he
  exact ⟨by rw [lookM_cons, if_neg (fun e => hne e.symm)]; exact he, hne⟩
 obtain ⟨h1, h2, h3⟩ := h.mem _ _ hk
 have hb0 : w0.heap.size ≤ b := h3.elim id hS
 have hnm : ∀ o, ¬ St.m ⟨nt, tm', [], mem, gr⟩ ⟨m0, w0, S, ds, K⟩ b o := by
  intro o hm
  rcases hm with hm | ⟨k, e, he, hat⟩ | ⟨k, t, ht, hv, _⟩
  ·exact Nat.lt_irrefl _ (Nat.lt_of_lt_of_le (h.m0 _ _ hm) hb0)
  ·exact h.nodup _ _ _ _ (hup he).1 hk (hup he).2 hat
  exact h.sepm _ _ _ _ ht hk hv
 have hle : ∀ b o, St.m ⟨nt, tm', [], mem, gr⟩ ⟨m0, w0, S, ds, K⟩ b o → St.m ⟨nt, tm, [], (key, ⟨b, ty, cells⟩) :: mem, gr⟩ ⟨m0, w0, S, ds, K⟩ b o := by
  intro b o hm
  rcases hm with hm | ⟨k, e, he, hat⟩ | hm
  ·exact .inl hm
  ·rcases Classical.em (k = key) with rfl | hne
   ·rw [hn] at he; cases he
   exact .inr (.inl ⟨k, e, by rw [lookM_cons, if_neg (fun e => hne e.symm)]; exact he, hat⟩)
  exact .inr (.inr hm)
 have hle' : ∀ b' o, St.m ⟨nt, tm', [], mem, gr⟩ ⟨m0, w0, S, ds, K⟩ b' o → St.m ⟨nt, tm, [], (key, ⟨b, ty, cells⟩) :: mem, gr⟩ ⟨m0, w0, S, ds, K⟩ b' o := by
  intro b' o hm
  rcases hm with hm | ⟨k, e, he, hat⟩ | hm
  ·exact .inl hm
  ·exact .inr (.inl ⟨k, e, (hup he).1, hat⟩)
  exact .inr (.inr hm)
 have kp : Keep w (St.m ⟨nt, tm, [], (key, ⟨b, ty, cells⟩) :: mem, gr⟩ ⟨m0, w0, S, ds, K⟩) w (St.m ⟨nt, tm', [], mem, gr⟩ ⟨m0, w0, S, ds, K⟩) := ⟨fun b' o u g1 g2 => ⟨g1, fun hm => g2 (hle' b' o hm)⟩, fun _ _ h _ => h⟩
 have hep : Ok (St.m ⟨nt, tm', [], mem, gr⟩ ⟨m0, w0, S, ds, K⟩) w (.ep (some ⟨b, 0, none⟩) 0 0 0 cells) := by
  refine .ep _ _ _ _ _ ⟨_, _, rfl⟩ (fun j u hj => ⟨b, 0, rfl, ?_, hnm _⟩) (fun v hv => (h2 v hv).1) (fun v hv => kp.ok (h2 v hv).2)
  rw [cell_of_row w _ _ _ _ _ h1, List.getElem?_toArray, Nat.zero_mul, Nat.zero_add, Nat.zero_add]
  exact hj
 refine ⟨h.size, h.defers, fun t ht => ?_, (fun t p v he => by cases he), fun k e he => ⟨(h.mem _ _ (hup he).1).1, fun v hv => ⟨((h.mem _ _ (hup he).1).2.1 v hv).1, kp.ok ((h.mem _ _ (hup he).1).2.1 v hv).2⟩, (h.mem _ _ (hup he).1).2.2⟩, fun k k' e e' he he' hne => h.nodup _ _ _ _ (hup he).1 (hup he').1 hne, h.gr, fun k t k' e ht he => h.sepm _ _ _ _ ht (hup he).1, h.sepg, h.chg, h.m0, K.st kp h.kept⟩
 have hz := fzT_look hf t
 obtain ⟨g1, g2⟩ := h.slot t (hz.2.1 ht)
 exact ⟨by rw [g1]; exact congrArg some hz.1.symm, hz.2.2.2 _ _ hep (kp.ok g2)⟩
theorem Fits.rekey {key key' b ty : Nat} {cells : List AV} (h : Fits ⟨m0, w0, S, ds, K⟩ ⟨nt, tm, [], (key, ⟨b, ty, cells⟩) :: mem, gr⟩ a w) (hf : FzT b [] tm tm') (hn : lookM mem key = none := by rfl) (hn' : lookM mem key' = none := by rfl) : Fits ⟨m0, w0, S, ds, K⟩ ⟨nt, tm', [], (key', ⟨b, ty, cells⟩) :: mem, gr⟩ a w := by
 have hup : ∀ {k e}, lookM ((key', (⟨b, ty, cells⟩ : Blk)) :: mem) k = some e → ∃ k0, lookM ((key, (⟨b, ty, cells⟩ : Blk)) :: mem) k0 = some e ∧ ((k = key' ∧ k0 = key) ∨ (k0 = k ∧ k ≠ key' ∧ k ≠ key)) := fun {k e} he => by
  rw [lookM_cons] at he
  split at he
  ·rename_i hk; injection he with he; subst he
   exact ⟨key, by simp [lookM], .inl ⟨hk.symm, rfl⟩⟩
  rename_i hk
  have hne : k ≠ key := fun e' => by rw [e', hn] at he; cases he
  exact ⟨k, by rw [lookM_cons, if_neg (fun e => hne e.symm)]; exact he, .inr ⟨rfl, fun e => hk e.symm, hne⟩⟩
 have hdn : ∀ {k e}, lookM ((key, (⟨b, ty, cells⟩ : Blk)) :: mem) k = some e → ∃ k0, lookM ((key', (⟨b, ty, cells⟩ : Blk)) :: mem) k0 = some e := fun {k e} he => by
  rw [lookM_cons] at he
  split at he
  ·injection he with he; subst he
   exact ⟨key', by simp [lookM]⟩
  have hne : k ≠ key' := fun e' => by rw [e', hn'] at he; cases he
  exact ⟨k, by rw [lookM_cons, if_neg (fun e => hne e.symm)]; exact he⟩
 have em : St.m ⟨nt, tm', [], (key', ⟨b, ty, cells⟩) :: mem, gr⟩ ⟨m0, w0, S, ds, K⟩ = St.m ⟨nt, tm, [], (key, ⟨b, ty, cells⟩) :: mem, gr⟩ ⟨m0, w0, S, ds, K⟩ := by
  funext b' o
  apply propext
  constructor
  ·rintro (hm | ⟨k, e, he, hat⟩ | hm)
   ·exact .inl hm
   ·obtain ⟨k0, h1, _⟩ := hup he; exact .inr (.inl ⟨k0, e, h1, hat⟩)
   exact .inr (.inr hm)
  rintro (hm | ⟨k, e, he, hat⟩ | hm)
  ·exact .inl hm
  ·obtain ⟨k0, h1⟩ := hdn he; exact .inr (.inl ⟨k0, e, h1, hat⟩)
  exact .inr (.inr hm)
 have hnil : ∀ m w, Ok m w (.ep (some ⟨b, 0, none⟩) 0 0 0 ([] : List AV)) := fun m w => .ep _ _ _ _ _ ⟨_, _, rfl⟩ (fun j u hj => by simp at hj) (fun v hv => by cases hv) (fun v hv => by cases hv)
 refine ⟨h.size, h.defers, fun t ht => ?_, (fun t p v he => by cases he), fun k e he => ?_, fun k k' e e' he he' hne => ?_, h.gr, fun k t k' e ht he => ?_, h.sepg, h.chg, h.m0, ?_⟩
 ·have hz := fzT_look hf t
  obtain ⟨g1, g2⟩ := h.slot t (hz.2.1 ht)
  exact ⟨by rw [g1]; exact congrArg some hz.1.symm, by rw [em]; exact hz.2.2.2 _ _ (hnil _ _) g2⟩
 ·obtain ⟨k0, h1, _⟩ := hup he
  rw [em]; exact h.mem _ _ h1
 ·obtain ⟨k0, h1, g1⟩ := hup he
  obtain ⟨k1, h2, g2⟩ := hup he'
  refine h.nodup _ _ _ _ h1 h2 ?_
  rcases g1 with ⟨rfl, rfl⟩ | ⟨rfl, a1, a2⟩ <;> rcases g2 with ⟨rfl, rfl⟩ | ⟨rfl, b1, b2⟩
  ·exact absurd rfl hne
  ·exact fun e => b2 e.symm
  ·exact a2
  exact hne
 ·obtain ⟨k0, h1, _⟩ := hup he
  exact h.sepm _ _ _ _ ht h1
 rw [em]; exact h.kept
theorem Fits.rem {mem' : List (Nat × Blk)} (h : Fits ⟨m0, w0, S, ds, K⟩ ⟨nt, tm, [], mem, gr⟩ a w) (hl : ∀ k e, lookM mem' k = some e → lookM mem k = some e) : Fits ⟨m0, w0, S, ds, K⟩ ⟨nt, tm, [], mem', gr⟩ a w := by
 have kp : Keep w (St.m ⟨nt, tm, [], mem, gr⟩ ⟨m0, w0, S, ds, K⟩) w (St.m ⟨nt, tm, [], mem', gr⟩ ⟨m0, w0, S, ds, K⟩) := ⟨fun b' o u g1 g2 => ⟨g1, fun hm => by
  rcases hm with hm | ⟨k, e, he, hat⟩ | hm
  ·exact g2 (.inl hm)
  ·exact g2 (.inr (.inl ⟨k, e, hl k e he, hat⟩))
  exact g2 (.inr (.inr hm))⟩, fun _ _ h _ => h⟩
 exact ⟨h.size, h.defers, fun t ht => ⟨(h.slot t ht).1, kp.ok (h.slot t ht).2⟩, (fun t p v he => by cases he), fun k e he => ⟨(h.mem _ _ (hl k e he)).1, fun v hv => ⟨((h.mem _ _ (hl k e he)).2.1 v hv).1, kp.ok ((h.mem _ _ (hl k e he)).2.1 v hv).2⟩, (h.mem _ _ (hl k e he)).2.2⟩, fun k k' e e' he he' hne => h.nodup _ _ _ _ (hl _ _ he) (hl _ _ he') hne, h.gr, fun k t k' e ht he => h.sepm _ _ _ _ ht (hl _ _ he), h.sepg, h.chg, h.m0, K.st kp h.kept⟩
theorem seg_of (h : Fits ⟨m0, w0, S, ds, K⟩ ⟨nt, tm, [], mem, gr⟩ a w) : Fits ⟨mT m0 mem gr, w, ats [], ds, noK⟩ ⟨nt, tm, [], [], []⟩ a w := by
 have mono : ∀ v, Ok (mT m0 mem gr) w v → Ok (St.m ⟨nt, tm, [], [], []⟩ ⟨mT m0 mem gr, w, ats [], ds, noK⟩) w v := fun v hv => hv.mono fun b' o u h1 h2 => ⟨h1, fun h => by
  rcases h with h | ⟨k, e, he, hat⟩ | ⟨k, e, he, _⟩
  ·exact h2 h
  ·cases he
  cases he⟩
 exact ⟨h.size, h.defers, fun t ht => ⟨(h.slot t ht).1, mono _ (h.slot t ht).2⟩, (fun t p v he => by cases he), (fun k e he => by cases he), (fun k k' e e' he => by cases he), (fun k t ht => by cases ht), (fun k t k' e ht => by cases ht), (fun k t k' t' b ht => by cases ht), Chg.refl _ _, fun b o hb => m_lt h b o hb, trivial⟩
theorem seg_end (h : Mem m0 w0 S K mem gr wi) (hi : Fits ⟨mT m0 mem gr, wi, ats [], ds, noK⟩ ⟨nt, tm, gs, memi, gri⟩ a w) : Fits ⟨m0, w0, S, ds, K⟩ ⟨nt, tm, [], mem, gr⟩ a w := by
 have hb : Below wi.heap.size wi w := hi.chg.below (Nat.le_refl _) fun k ⟨e, he, _⟩ => (by cases he)
 exact mem_act (h.below hb) ⟨hi.size, hi.defers, fun t ht => (hi.slot t ht).1⟩ fun t ht => (hi.slot t ht).2.mono fun b o u h1 h2 => ⟨h1, fun hm => h2 (.inl hm)⟩
end
theorem kids_s (q : Lab) : Spec Tryz.prog 24 [labAV q] (fun y => .fn 53 [] [.ep (some ⟨y.b, 0, none⟩) 0 0 0 [.int .i64 q.len, .int .u64 q.bits]]) := by
 intro m w hm hargs
 simp only [labAV] at hargs ⊢
 refine en 4 hm hargs Tryz.func24 fun B hB a0 hF => ?_
 refine wp_seq (rg hB TA_ok [1] [1] [] hF fun X0 a0 w1 hF => ?_)
 refine wp_seq (rg hB TA_ok [2] [1] [] hF fun X1 a0 w1 hF => ?_)
 have hF := hF.fz (tm' := [(2, .fn 53 [] [.ep (some ⟨(X0 0).b, 0, none⟩) 0 0 0 [.int .i64 q.len, .int .u64 q.bits]])]) ⟨rfl, fz_fn trivial ⟨fz_ptr, trivial⟩, trivial⟩
 exact wp_ret (rsp hB TA_ok hF ⟨(X0 0).b, fun _ => none, fun _ => 0, fun _ => .empty⟩).1
theorem enters53 : Enters Tryz.prog 53 := fun _ _ => by kernel_rfl
theorem cast_round {F : Fence} {P : Program} {l : Nat} {f : FuncId} {T T' : Array Value} {c c' : Code} {w : World} {R : Ending → World → Prop} (h : T = T') (h2 : RoundIn F 0 P l f T' c c' w R) : RoundIn F 0 P l f T c c' w R := h ▸ h2
theorem ret_nil {P : Program} {C : Cx} {s : St} {a : Act} {w : World} {fn : Func} {R : Ending → World → Prop} (h : Fits C s a w) (hds : C.ds = []) (hR : R (.returned (.tuple #[])) w) (hfn : fn.results = #[] := by rfl) : bodyPost P fn R .ret a w ∧ bodyPost P fn R .normal a w := by
 have e : (results fn a.tmps).run P w = .ok (.tuple #[]) w := by simp [results, hfn]
 exact ⟨⟨h.defers.trans hds, _, e, hR⟩, ⟨h.defers.trans hds, _, e, hR⟩⟩
def EndsI (m0 : Nat → Nat → Prop) (w0 : World) (S : Nat → Prop) (tmc : List (Nat × AV)) (l : Nat) (rc : Loop) (D : Nat) (N : Kn → List (Nat × Blk) → List (Nat × Gr) → Prop) (X : Code → Kn → List (Nat × Blk) → List (Nat × Gr) → Prop) (e : Ending) (w3 : World) : Prop :=
 ∃ v, e = .returned v ∧ ∃ K' mem' gr', K'.off l ∧ ((Mem m0 w0 S (KL K' tmc l rc D .ready none) mem' gr' w3 ∧ N K' mem' gr') ∨ ∃ c, X c K' mem' gr' ∧ Mem m0 w0 S (KL K' tmc l rc D .done (some c)) mem' gr' w3)
theorem kids_c {m0 : Nat → Nat → Prop} {w0 : World} {S : Nat → Prop} {l D ntc p : Nat} {tmc : List (Nat × AV)} {ac : Act} {rc : Loop} {fd : Func} (hfn : Tryz.prog.funcs[rc.fn]? = some fd) (hl0 : w0.heap.size ≤ l) (hD : D ≠ l) (hst : rc.pending = none) (htm : rc.tmps = ac.tmps) (hps : rc.params = #[p]) (hpn : p < ntc) (hac : ∃ d, SlotsA ntc tmc d ac)
  (q : Lab) (hb0 : U64 q.bits) (J : Nat → Kn → List (Nat × Blk) → List (Nat × Gr) → Prop) (X : Code → Kn → List (Nat × Blk) → List (Nat × Gr) → Prop)
  (hbody : ∀ i : Nat, i < 2 → chE q 0 = 0 → ∀ (E : Kn), E.self → (∀ n, E.off n) → ∀ K mem gr a w, J i K mem gr → K.off l → Fits ⟨m0, w0, S, [], (KL K tmc l rc D .ready none).and E⟩ ⟨ntc, (p, labAV (chV q i)) :: tmc, [], mem, gr⟩ a w → rc.assign.wpIn (rF (some l)) 0 Tryz.prog (Exit.then (fun a₁ w₁ => ∃ nt1 tm1 mem1 gr1, Fits ⟨m0, w0, S, [], (KL K tmc l rc D .ready none).and E⟩ ⟨nt1, tm1, [], mem1, gr1⟩ a₁ w₁ ∧
   ∀ w₂, Fits ⟨m0, w0, S, [], (KL K tmc l rc D .busy none).and E⟩ ⟨nt1, tm1, [], mem1, gr1⟩ a₁ w₂ → rc.body.wpIn (rF (some l)) 0 Tryz.prog (RoundQ m0 w0 S tmc l rc D E (J (i + 1)) X) a₁ w₂) (fun _ _ _ => False)) a w)
  {K : Kn} {mem : List (Nat × Blk)} {gr : List (Nat × Gr)} {w : World} {A : Option Addr} (hJ : J 0 K mem gr) (hK : K.off l) (hm : Mem m0 w0 S (KL K tmc l rc D .ready none) mem gr w) (hA : Ok (mT m0 mem gr) w (.ep A 0 0 0 [.int .i64 q.len, .int .u64 q.bits])) :
  Calls Tryz.prog 53 ([yV l, .ep A 0 0 0 [.int .i64 q.len, .int .u64 q.bits]].map AV.den).toArray w (EndsI m0 w0 S tmc l rc D (J (if chE q 0 = 0 then 2 else 0)) X) := by
 have hargs : ∀ v ∈ [yV l, .ep A 0 0 0 [.int .i64 q.len, .int .u64 q.bits]], Ok (mT m0 mem gr) w v := by
  intro v hv
  simp only [List.mem_cons, List.not_mem_nil, or_false] at hv
  rcases hv with rfl | rfl
  ·exact .raw _
  exact hA
 refine enY 24 (pre := []) (fun b o hb => m_lt hm b o hb) ⟨fun e he => (by cases he), fun e he => (by cases he), fun e he => (by cases he), .nil⟩ hargs Tryz.func53 fun B hB a0 hF => ?_
 refine wpIn_seq (rrg hB TA_ok [6, 0, 1] [] [] hF fun X0 a0 w1 hF => ?_)
 refine wpIn_block (rloop_any (ι := Nat) (fun i a w => ∃ K mem gr wi, J i K mem gr ∧ K.off l ∧ Mem m0 w0 S (KL K tmc l rc D .ready none) mem gr wi ∧ Fits ⟨mT m0 mem gr, wi, ats [], [], noK⟩ ⟨24, [(6, .int .i64 (i : Int)), (0, yV l), (1, .ep A 0 0 0 [.int .i64 q.len, .int .u64 q.bits])], [], [], []⟩ a w) (fun i => i ≤ 2 ∧ (i = 0 ∨ chE q 0 = 0)) (fun i => 2 - i) 0 ⟨by omega, .inl rfl⟩ ⟨K, mem, gr, w, hJ, hK, hm, hF⟩ ?_)
 rintro i ⟨hi2, hi0⟩ a w ⟨K, mem, gr, wi, hJ, hK, hm, hF⟩
 refine wpIn_seq (rrg hB TA_ok [7, 6, 0, 1] [] [] hF fun X1 a0 w1 hF => ?_)
 refine wpIn_seq (rtest_ok hF rfl (fun hb hF => ?_) (fun hb hF => ?_))
 ·have hin : i < 2 := by
   have : (i : Int) < (2 : Int) := by subst hB; simpa [std, sC] using hb
   omega
  refine wpIn_skip (wpIn_seq (wpIn_block (wpIn_seq (rrg hB TA_ok [3, 6, 0, 1] [] [] hF fun X2 a0 w1 hF => ?_))))
  have SC := child_s q hb0 i (by omega)
  have hCE : chE q i = chE q 0 := rfl
  rw [hCE] at SC
  obtain ⟨e, he⟩ := eqv (chE q 0)
  obtain ⟨c, hc⟩ := eqv (chV q i)
  simp only [labAV, ← hc, ← he] at SC
  have O1 := SC
  refine wpIn_seq (rrg hB TA_ok [5, 4, 6, 0, 1] [4] [(2, .r fun _ => .tup [.agg [.int .i64 c.len, .int .u64 c.bits], .int .i64 e])] hF fun X3 a0 w1 hF => ?_)
  have hF := hF.fz (tm' := [(5, .int .i64 e), (4, .ep (some ⟨(X3 6).b, 0, none⟩) 0 0 0 [.int .i64 c.len, .int .u64 c.bits]), (6, .int .i64 (i : Int)), (0, yV l), (1, .ep A 0 0 0 [.int .i64 q.len, .int .u64 q.bits])]) ⟨rfl, fz_id, rfl, fz_ptr, rfl, fz_id, rfl, fz_id, rfl, fz_id, trivial⟩
  refine wpIn_seq (wpIn_region_lit ?_)
  refine rlpr 0 3 hB TA_ok [17, 4, 6, 0, 1] [] [] hF (fun X4 a0 w1 hF => ?_)
  by_cases he0 : e = 0
  ·have hF := hF.headS (v' := .bool .ff) (by subst hB; subst he0; exact Sim.bool rfl) rfl
   refine rlpr 3 2 hB TA_ok [19, 18, 17, 6, 0, 1] [] [] hF (fun X5 a0 w1 hF => ?_)
   have hfit := seg_end hm hF
   refine man_yieldW rfl (wanted_of rfl rfl hfit rfl) rfl rfl hfit rfl rfl (rc := recS rc .ready none) hfit.kept.2.1 (by simp [recS, hps]) (fun _ => ?_)
   refine cast_round (T' := ([(p, labAV c)] : List (Nat × AV)).foldl (fun t e => t.setIfInBounds e.1 e.2.den) rc.tmps) (by simp [recS, hps, labAV]; rfl) ?_
   refine roundI (P := Tryz.prog) hfn hl0 hD hK hst htm hfit hac (by
     intro x hx
     simp only [List.mem_singleton] at hx
     subst hx
     exact ⟨hpn, .agg _ (by intro v hv; simp only [List.mem_cons, List.not_mem_nil, or_false] at hv; rcases hv with rfl | rfl <;> rfl) (by intro v hv; simp only [List.mem_cons, List.not_mem_nil, or_false] at hv; rcases hv with rfl | rfl <;> exact .int _ _)⟩) (J (i + 1)) X ?_ ?_ ?_
   ·intro K' mem' gr' w' hj' ho' hf'
    have hF := seg_of (hf'.put (some 20) (fun t ht => by injection ht with ht; subst ht; exact Nat.le_of_ble_eq_true rfl) (.bool .tt) (fun _ => .bool _) (.bool true) fun _ => rfl)
    refine rlnd 6 hB TA_ok [22, 6, 0, 1] [] [] hF (fun X6 a0 w1 hF => ?_)
    refine rtest_ff hF rfl (fun hF => ?_)
    refine wpIn_skip (rrg hB TA_ok [6, 0, 1] [] [] hF fun X7 a0 w1 hF => ?_)
    have e : B.arith .add .i64 (i : Int) 1 = ((i + 1 : Nat) : Int) := by subst hB; exact wrap_succ (n := 2) hin (by simp only [maxLen]; omega)
    exact ⟨i + 1, ⟨by omega, .inr (he.symm.trans he0)⟩, by omega, K', mem', gr', w', hj', ho', hf'.bare, by rw [← e]; exact hF⟩
   ·intro cc K' mem' gr' w' hx' ho' hf'
    have hF := seg_of (hf'.put (some 20) (fun t ht => by injection ht with ht; subst ht; exact Nat.le_of_ble_eq_true rfl) (.bool .ff) (fun _ => .bool _) (.bool false) fun _ => rfl)
    refine rlnd 6 hB TA_ok [22, 6, 0, 1] [] [] hF (fun X6 a0 w1 hF => ?_)
    refine rtest_tt hF rfl (fun hF => ?_)
    exact wpIn_ret (ret_nil (P := Tryz.prog) (R := EndsI m0 w0 S tmc l rc D (J (if chE q 0 = 0 then 2 else 0)) X) hF rfl (⟨_, rfl, K', mem', gr', ho', .inr ⟨cc, hx', (seg_end hf'.bare hF).bare⟩⟩)).1
   intro a hFa
   have := hbody i hin (he.symm.trans he0) (okT _) (okT_self _) (okT_off _) K mem gr a _ hJ hK (by rw [← hc]; exact hFa)
   exact this
  have hF := hF.headS (v' := .bool .tt) (by subst hB; exact Sim.bool (by simp [std, sC, he0, BE.den])) rfl
  refine rlnd 3 hB TA_ok [22, 6, 0, 1] [] [] hF (fun X5 a0 w1 hF => ?_)
  refine rtest_tt hF rfl (fun hF => ?_)
  have hne : ¬ chE q 0 = 0 := fun h => he0 (he.trans h)
  have hi : i = 0 := hi0.resolve_right hne
  exact wpIn_ret (ret_nil (P := Tryz.prog) (R := EndsI m0 w0 S tmc l rc D (J (if chE q 0 = 0 then 2 else 0)) X) hF rfl (⟨_, rfl, K, mem, gr, hK, .inl ⟨(seg_end hm hF).bare, by rw [if_neg hne, ← hi]; exact hJ⟩⟩)).1
 have hi : i = 2 := by
  have : ¬ (i : Int) < (2 : Int) := by subst hB; simpa [std, sC] using hb
  omega
 refine wpIn_exit ?_
 have h0 : chE q 0 = 0 := hi0.resolve_left (by omega)
 exact (ret_nil (P := Tryz.prog) (R := EndsI m0 w0 S tmc l rc D (J (if chE q 0 = 0 then 2 else 0)) X) hF rfl (⟨_, rfl, K, mem, gr, hK, .inl ⟨(seg_end hm hF).bare, by rw [if_pos h0, ← hi]; exact hJ⟩⟩)).2
end Go.Proofs.YtpgjalaldhlcoaaGreat.Sym
namespace Go.Proofs.YtpgjalaldhlcoaaGreat
open Go.RowKit Sym
def parE (l : Lab) : Int := if isL l = false then 1 else if l.len = 0 then 7 else 0
def parL (l : Lab) : Lab := ⟨l.len - 1, (headN l.bits.toNat (l.len.toNat - 1) : Nat)⟩
def parV (l : Lab) : Lab := if parE l = 0 then parL l else ⟨0, 0⟩
theorem headN_le' (v n : Nat) : headN v n ≤ v := Nat.div_mul_le_self _ _
theorem headN_u {v : Int} (hv : U64 v) (n : Nat) : U64 ((headN v.toNat n : Nat) : Int) := by
 have := headN_le' v.toNat n
 have h1 := hv.1; have h2 := hv.2
 exact ⟨by omega, by omega⟩
theorem par_u {l : Lab} (hb : U64 l.bits) : U64 (parL l).bits := headN_u hb _
theorem headN_head {v n : Nat} : headN (headN v n) n = headN v n := by
 unfold headN
 rw [Nat.mul_div_cancel _ (Nat.pow_pos (by decide))]
theorem par_isL {l : Lab} (hl : isL l = true) (hb : U64 l.bits) (h0 : l.len ≠ 0) : isL (parL l) = true := by
 obtain ⟨h1, h2, _⟩ := lab_parts hl
 unfold isL parL
 simp only [Bool.and_eq_true, decide_eq_true_eq]
 refine ⟨⟨by omega, by omega⟩, ?_⟩
 rw [show (l.len - 1).toNat = l.len.toNat - 1 by omega, Int.toNat_natCast, headN_head]
theorem nat_andNot_bit {n v k : Nat} (hv : v < 2 ^ n) (hm : v % 2 ^ k = 0) : v &&& (2 ^ n - 1 - 2 ^ k) = v / 2 ^ (k + 1) * 2 ^ (k + 1) := by
 apply Nat.eq_of_testBit_eq
 intro i
 rw [Nat.testBit_and, Nat.testBit_mul_two_pow, Nat.testBit_div_two_pow]
 have hvk : ∀ i, i < k → v.testBit i = false := by
  intro i hi
  obtain ⟨q, hq⟩ := Nat.dvd_of_mod_eq_zero hm
  rw [hq, Nat.mul_comm, Nat.testBit_mul_two_pow]
  simp [show ¬ k ≤ i by omega]
 by_cases h1 : i < k
 ·simp [hvk i h1, show ¬ (k + 1 ≤ i) by omega]
 by_cases hin : i < n
 ·by_cases hkn : k < n
  ·rw [show 2 ^ n - 1 - 2 ^ k = 2 ^ n - (2 ^ k + 1) by omega, Nat.testBit_two_pow_sub_succ (Nat.pow_lt_pow_right (by decide) hkn), Nat.testBit_two_pow]
   by_cases h2 : i = k
   ·subst h2; simp; intro h; omega
   simp [hin, show ¬ k = i by omega, show k + 1 ≤ i by omega, show i - (k + 1) + (k + 1) = i by omega]
  exfalso; omega
 have hvi : v.testBit i = false := Nat.testBit_lt_two_pow (Nat.lt_of_lt_of_le hv (Nat.pow_le_pow_right (by decide) (by omega)))
 rw [hvi]
 by_cases h3 : k + 1 ≤ i
 ·simp [show i - (k + 1) + (k + 1) = i by omega, hvi]
 simp [h3]
theorem andNot_bit {l : Lab} (hl : isL l = true) (hb : U64 l.bits) (h0 : l.len ≠ 0) : sAr .andNot .u64 l.bits ((2 ^ (64 - l.len.toNat) : Nat) : Int) = (parL l).bits := by
 obtain ⟨h1, h2, h3⟩ := lab_parts hl
 obtain ⟨n, hn⟩ : ∃ n : Nat, l.len = n := ⟨l.len.toNat, by omega⟩
 have hn0 : 0 < n := by omega
 have hn64 : n ≤ 64 := by omega
 have hlt := u64_lt hb
 have hm : l.bits.toNat % 2 ^ (64 - n) = 0 := by
  have : l.bits.toNat = headN l.bits.toNat n := by rw [hn] at h3; simp at h3; omega
  rw [this]; unfold headN; exact Nat.mul_mod_left _ _
 show IntKind.u64.wrap (BitVec.ofInt 64 l.bits &&& ~~~BitVec.ofInt 64 _).toNat = _
 have hp : 2 ^ (64 - n) < 2 ^ 64 := Nat.pow_lt_pow_right (by decide) (by omega)
 have e1 : (BitVec.ofInt 64 l.bits).toNat = l.bits.toNat := by
  rw [BitVec.toNat_ofInt]
  have h1 := hb.1; have h2 := hb.2
  rw [Int.emod_eq_of_lt h1 (by simpa using h2)]
 have e2 : (BitVec.ofInt 64 ((2 ^ (64 - l.len.toNat) : Nat) : Int)).toNat = 2 ^ (64 - n) := by
  rw [hn, Int.toNat_natCast, BitVec.ofInt_natCast, BitVec.toNat_ofNat, Nat.mod_eq_of_lt hp]
 rw [BitVec.toNat_and, BitVec.toNat_not, e1, e2, show 2 ^ 64 - 1 - 2 ^ (64 - n) = 2 ^ 64 - 1 - 2 ^ (64 - n) from rfl, nat_andNot_bit hlt hm]
 unfold parL headN
 simp only [hn, Int.toNat_natCast]
 rw [show 64 - (n - 1) = 64 - n + 1 by omega, wrap_u64n]
 have := Nat.div_mul_le_self l.bits.toNat (2 ^ (64 - n + 1))
 rw [Nat.mod_eq_of_lt (by omega)]
end Go.Proofs.YtpgjalaldhlcoaaGreat
namespace Go.Proofs.YtpgjalaldhlcoaaGreat.Sym
open Go Go.RowKit
abbrev Tre := Lab → Option Rec
def frozP (T : Tre) (c : Lab) : Bool := match T c with
 | none => true
 | some x => decide (x.kind = 5)
def kidP (T : Tre) (f : Lab → List Itm) (r : Rec) (c : Lab) : List Itm := if r.kind = 3 ∧ frozP T c = true then covL c r.items else f c
def meansP (T : Tre) : Nat → Lab → List Itm
 | 0, _ => []
 | n + 1, l => match T l with
  | none => []
  | some r => if r.kind = 1 ∨ r.kind = 5 then r.items else if chE l 0 = 0 then kidP T (meansP T n) r (chV l 0) ++ kidP T (meansP T n) r (chV l 1) else []
def cntB (ks : List Lab) (l : Lab) : Nat := ks.countP fun k => coverB l k.bits && decide (l.len ≤ k.len)
theorem cov_self {l : Lab} (hl : isL l = true) (hb : U64 l.bits) : coverB l l.bits = true := by
 unfold coverB
 simp only [Bool.and_eq_true, decide_eq_true_eq]
 exact ⟨hl, (lab_parts hl).2.2⟩
theorem headN_down {v n : Nat} (hn : n < 64) : headN (headN v (n + 1)) n = headN v n := by
 apply Nat.eq_of_testBit_eq
 intro i
 rw [testBit_head, testBit_head, testBit_head]
 by_cases h : 64 - n ≤ i
 ·have : 64 - (n + 1) ≤ i := by omega
  rw [decide_eq_true h, decide_eq_true this]; simp
 rw [decide_eq_false h]; simp
theorem cov_up {l : Lab} (hl : isL l = true) (hb : U64 l.bits) (h64 : l.len ≠ 64) (b : Int) {key : Int} (hc : coverB (childL l b) key = true) : coverB l key = true := by
 obtain ⟨q, h1, h2⟩ := lab_mul hl hb h64
 obtain ⟨h3, h4, h5⟩ := lab_parts hl
 unfold coverB at hc ⊢
 simp only [Bool.and_eq_true, decide_eq_true_eq] at hc ⊢
 refine ⟨hl, ?_⟩
 have hlen : (childL l b).len.toNat = l.len.toNat + 1 := by unfold childL; simp only; omega
 have e := hc.2
 rw [hlen] at e
 have hn : l.len.toNat < 64 := by omega
 have e2 : headN (headN key.toNat (l.len.toNat + 1)) l.len.toNat = headN key.toNat l.len.toNat := headN_down hn
 have e3 : headN key.toNat (l.len.toNat + 1) = (childL l b).bits.toNat := by omega
 rw [e3] at e2
 rw [← e2, h1]
 have hp : 0 < 2 ^ (63 - l.len.toNat) := Nat.pow_pos (by decide)
 have hpow := half_pow hn
 have hpp : 0 < 2 * 2 ^ (63 - l.len.toNat) := by omega
 unfold headN childL
 simp only
 rw [hpow]
 congr 1
 split
 ·have : (l.bits + ((2 ^ (63 - l.len.toNat) : Nat) : Int)).toNat = 2 ^ (63 - l.len.toNat) + q * (2 * 2 ^ (63 - l.len.toNat)) := by rw [h1]; omega
  rw [this, Nat.add_mul_div_right _ _ hpp, Nat.div_eq_of_lt (by omega), Nat.zero_add]
 have : l.bits.toNat = q * (2 * 2 ^ (63 - l.len.toNat)) := by rw [h1]; omega
 rw [this, Nat.mul_div_cancel _ hpp]
theorem ch_ok {l : Lab} (h : chE l 0 = 0) : isL l = true ∧ l.len ≠ 64 ∧ ∀ b, chV l b = childL l b := by
 have hc : ∀ b, chE l b = 0 := fun b => h
 refine ⟨?_, ?_, fun b => by unfold chV; rw [if_pos (hc b)]⟩
 ·cases hl : isL l with
  | true => rfl
  | false => unfold chE at h; rw [hl, if_pos rfl] at h; cases h
 intro h64
 unfold chE at h
 simp only [h64, if_true] at h
 split at h <;> simp at h
theorem ch_is {l : Lab} (hb : U64 l.bits) (h : chE l 0 = 0) (b : Int) : isL (chV l b) = true ∧ U64 (chV l b).bits ∧ (chV l b).len = l.len + 1 := by
 obtain ⟨h1, h2, h3⟩ := ch_ok h
 rw [h3]
 exact ⟨child_isL h1 hb h2 b, child_u h1 hb h2 b, rfl⟩
theorem cnt_kids {l : Lab} (hl : isL l = true) (hb : U64 l.bits) (h64 : l.len ≠ 64) : ∀ {ks : List Lab}, (∀ k ∈ ks, U64 k.bits) → cntB ks (childL l 0) + cntB ks (childL l 1) + ks.countP (fun k => decide (k = l)) ≤ cntB ks l
 | [], _ => Nat.le_refl _
 | k :: ks, hk => by
  have ih := cnt_kids hl hb h64 (ks := ks) fun k' h => hk k' (by simp [h])
  unfold cntB at ih ⊢
  simp only [List.countP_cons]
  have hku := hk k (by simp)
  have hlen : ∀ b, (childL l b).len = l.len + 1 := fun b => rfl
  have key : (if (coverB (childL l 0) k.bits && decide ((childL l 0).len ≤ k.len)) = true then 1 else 0) + (if (coverB (childL l 1) k.bits && decide ((childL l 1).len ≤ k.len)) = true then 1 else 0) + (if decide (k = l) = true then 1 else 0) ≤ (if (coverB l k.bits && decide (l.len ≤ k.len)) = true then 1 else 0) := by
   by_cases e : k = l
   ·subst e
    have n0 : ¬ ((coverB (childL k 0) k.bits && decide ((childL k 0).len ≤ k.len)) = true) := by
     simp only [hlen, Bool.and_eq_true, decide_eq_true_eq]
     rintro ⟨_, h⟩
     omega
    have n1 : ¬ ((coverB (childL k 1) k.bits && decide ((childL k 1).len ≤ k.len)) = true) := by
     simp only [hlen, Bool.and_eq_true, decide_eq_true_eq]
     rintro ⟨_, h⟩
     omega
    rw [if_neg n0, if_neg n1, if_pos (by simp), if_pos (by simp [cov_self hl hb])]
    omega
   rw [if_neg (show ¬ decide (k = l) = true by simpa using e)]
   by_cases c : coverB l k.bits = true
   ·obtain ⟨a0, a1⟩ := child_cov hl hb h64 hku c
    rw [a0, a1, c]
    generalize (childL l 1).bits = z
    rw [hlen, hlen]
    by_cases hlt : k.bits < z
    ·rw [decide_eq_true hlt, decide_eq_false (show ¬ z ≤ k.bits by omega)]
     simp only [Bool.true_and, Bool.false_and, decide_eq_true_eq]
     by_cases g1 : l.len ≤ k.len
     ·rw [if_pos g1]; by_cases g2 : l.len + 1 ≤ k.len <;> simp [g2]
     rw [if_neg g1, if_neg (by omega)]; simp
    rw [decide_eq_false hlt, decide_eq_true (show z ≤ k.bits by omega)]
    simp only [Bool.true_and, Bool.false_and, decide_eq_true_eq]
    by_cases g1 : l.len ≤ k.len
    ·rw [if_pos g1]; by_cases g2 : l.len + 1 ≤ k.len <;> simp [g2]
    rw [if_neg g1, if_neg (show ¬ l.len + 1 ≤ k.len by omega)]; simp
   have c0 : coverB (childL l 0) k.bits = false := by
    cases h : coverB (childL l 0) k.bits with
    | false => rfl
    | true => exact absurd (cov_up hl hb h64 0 h) c
   have c1 : coverB (childL l 1) k.bits = false := by
    cases h : coverB (childL l 1) k.bits with
    | false => rfl
    | true => exact absurd (cov_up hl hb h64 1 h) c
   rw [c0, c1]
   simp
  omega
theorem cov_len (l : Lab) (its : List Itm) : (covL l its).length ≤ its.length := List.length_filter_le _ _
structure TreOk (T : Tre) (ks : List Lab) : Prop where
 us : ∀ k ∈ ks, U64 k.bits
 at_ : ∀ l r, T l = some r → l ∈ ks ∧ r.items.length ≤ 16
theorem cnt_pos {T : Tre} {ks : List Lab} (h : TreOk T ks) {l : Lab} {r : Rec} (hb : U64 l.bits) (hr : T l = some r) (hc : chE l 0 = 0) : cntB ks (chV l 0) + cntB ks (chV l 1) + 1 ≤ cntB ks l := by
 obtain ⟨h1, h2, h3⟩ := ch_ok hc
 have := cnt_kids h1 hb h2 h.us
 rw [h3, h3]
 have hp : 0 < ks.countP (fun k => decide (k = l)) := List.countP_pos_iff.2 ⟨l, (h.at_ _ _ hr).1, by simp⟩
 omega
theorem cnt_in {ks : List Lab} {l : Lab} (hl : isL l = true) (hb : U64 l.bits) (h : l ∈ ks) : 1 ≤ cntB ks l :=
 List.countP_pos_iff.2 ⟨l, h, by simp [cov_self hl hb]⟩
theorem kid_len {T : Tre} {ks : List Lab} (h : TreOk T ks) {n : Nat} {l : Lab} {r : Rec} (hr : T l = some r) {c : Lab} (hf : (meansP T n c).length ≤ 32 * cntB ks c) : (kidP T (meansP T n) r c).length ≤ 16 + 32 * cntB ks c := by
 unfold kidP
 split
 ·have := cov_len c r.items
  have := (h.at_ _ _ hr).2
  omega
 omega
theorem means_len {T : Tre} {ks : List Lab} (h : TreOk T ks) : ∀ (n : Nat) (l : Lab), isL l = true → U64 l.bits → (meansP T n l).length ≤ 32 * cntB ks l
 | 0, l, _, _ => by simp [meansP]
 | n + 1, l, hl, hb => by
  unfold meansP
  cases hr : T l with
  | none => simp
  | some r =>
   simp only
   have h1 := cnt_in hl hb (h.at_ _ _ hr).1
   have h2 := (h.at_ _ _ hr).2
   split
   ·omega
   split
   ·rename_i hc
    have h3 := cnt_pos h hb hr hc
    obtain ⟨a1, a2, _⟩ := ch_is hb hc 0
    obtain ⟨b1, b2, _⟩ := ch_is hb hc 1
    have k0 := kid_len h hr (means_len h n (chV l 0) a1 a2)
    have k1 := kid_len h hr (means_len h n (chV l 1) b1 b2)
    rw [List.length_append]
    omega
   simp
theorem cnt_le (ks : List Lab) (l : Lab) : cntB ks l ≤ ks.length := List.countP_le_length
theorem wpN_block {P : Program} {fn : FuncId} {Q : Exit → Act → World → Prop} {a : Act} {w : World} {id : Nat} {c : Code} (h : wpN fn P c (Exit.inBlock id Q) a w) : wpN fn P (Code.block id c) Q a w := by
 intro b k cs hb
 obtain ⟨e, a₁, w₁, hq, harr⟩ := h b (.inBlock id :: k) cs hb
 cases e with
 | normal => exact ⟨.normal, a₁, w₁, hq, .head step_block (Steps.trans harr (.one step_inBlock))⟩
 | exit id' =>
  by_cases hid : id' = id
  ·simp only [Exit.inBlock, hid, if_true] at hq
   exact ⟨.normal, a₁, w₁, hq, .head step_block (harr k (by simp [exitTo, hid]))⟩
  simp only [Exit.inBlock, hid, if_false] at hq
  refine ⟨.exit id', a₁, w₁, hq, fun k' hk => .head step_block (harr k' ?_)⟩
  have : (id == id') = false := by simp; exact fun h => hid h.symm
  simp [exitTo, this, hk]
 | goto l => exact ⟨_, a₁, w₁, hq, fun k' hk => .head step_block (harr k' (by simp [gotoIn, hk]))⟩
 | ret => exact ⟨_, a₁, w₁, hq, .of_steps (.one step_block) harr⟩
 | panic ch => exact ⟨_, a₁, w₁, hq, .of_steps (.one step_block) harr⟩
 | outgrown => exact ⟨_, a₁, w₁, hq, .of_steps (b := b) (k := k) (cs := cs) (e := .outgrown) (.one step_block) harr⟩
theorem enters23 : Enters Tryz.prog 23 := fun _ _ => by kernel_rfl
theorem zRA_run (w : World) : (zeroValue 44).run Tryz.prog w = .ok (recV zRA).den w := by kernel_rfl
theorem zRA_ok (m : Nat → Nat → Prop) (w : World) : Ok m w (recV zRA) := by
 refine .agg _ (fun v hv => ?_) fun v hv => ?_
 ·simp only [recC, List.mem_cons, List.not_mem_nil, or_false] at hv
  rcases hv with rfl | rfl | rfl | rfl | rfl <;> rfl
 simp only [recC, List.mem_cons, List.not_mem_nil, or_false] at hv
 rcases hv with rfl | rfl | rfl | rfl | rfl
 ·exact .int _ _
 ·exact .sl _ _ _ _ _ _ (Nat.le_refl _) (Nat.zero_le _) (fun i hi => absurd hi (Nat.not_lt_zero _)) (fun i hi => absurd hi (Nat.not_lt_zero _)) (fun i hi => absurd hi (Nat.not_lt_zero _)) (fun i hi => absurd hi (Nat.not_lt_zero _)) (fun i hi => absurd hi (Nat.not_lt_zero _))
 ·exact .int _ _
 ·exact .int _ _
 exact .int _ _
theorem labOk_is {q : Lab} (hl : isL q = true) (hb : U64 q.bits) : LabOk q := by
 obtain ⟨h1, h2, _⟩ := lab_parts hl
 obtain ⟨h3, h4⟩ := hb
 constructor
 ·simp [Lit.wf, IntKind.min, IntKind.max, IntKind.signed, IntKind.bits]; omega
 simp [Lit.wf, IntKind.min, IntKind.max, IntKind.signed, IntKind.bits]; omega
def treF (T : List (Lab × RA)) : Tre := fun l => (getA l T).map fun x => x.r.abs
structure TreA (T : List (Lab × RA)) : Prop where
 labs : ∀ p ∈ T, LabOk p.1 ∧ U64 p.1.bits
 recs : ∀ p ∈ T, p.2.r.n ≤ 16 ∧ ∀ i, i < p.2.r.n → U64 (p.2.r.f i).key
theorem TreA.ok {T : List (Lab × RA)} (h : TreA T) : TreOk (treF T) (T.map (·.1)) := by
 refine ⟨fun k hk => ?_, fun l r hr => ?_⟩
 ·obtain ⟨p, hp, rfl⟩ := List.mem_map.1 hk
  exact (h.labs p hp).2
 obtain ⟨x, hx, rfl⟩ := Option.map_eq_some_iff.1 hr
 have hm := getA_mem hx
 refine ⟨List.mem_map.2 ⟨_, hm, rfl⟩, ?_⟩
 have := (h.recs _ hm).1
 unfold RN.abs
 rw [firsts_len]
 exact this
theorem TreA.el {T : List (Lab × RA)} (h : TreA T) (q : Lab) : ((getA q T).getD zRA).r.n ≤ 16 ∧ ∀ i, i < ((getA q T).getD zRA).r.n → U64 (((getA q T).getD zRA).r.f i).key := by
 cases hx : getA q T with
 | none => exact ⟨Nat.zero_le _, fun i hi => absurd hi (Nat.not_lt_zero _)⟩
 | some x => exact h.recs _ (getA_mem hx)
def appG (n : Nat) (g f : Nat → Itm) : Nat → Itm := fun i => if i < n then g i else f (i - n)
theorem firsts_app (g f : Nat → Itm) (n k : Nat) : firsts (appG n g f) (n + k) = firsts g n ++ firsts f k := by
 apply List.ext_getElem?
 intro i
 unfold firsts appG
 by_cases h : i < n
 ·rw [List.getElem?_append_left (by simpa using h)]
  simp [h, show i < n + k by omega]
 rw [List.getElem?_append_right (by simpa using h)]
 by_cases h2 : i < n + k
 ·simp [h, h2, show i - n < k by omega]
 simp [show ¬ i < n + k from h2, show ¬ i - n < k by omega]
abbrev tEp (bt bT : Nat) : AV := .ep (some ⟨bt, 0, none⟩) 0 0 0 [.raw (.map (some bT))]
abbrev outM (bt bT bO bM n c : Nat) (A : Option Addr) (g : Nat → Itm) : List (Nat × Blk) := [(901, ⟨bO, 24, [.sl (some 77) A n c 2 (fun i => itC (g i))]⟩), (900, ⟨bM, 50, [.fn 23 [] [tEp bt bT, .ptr 901 bO 0, .ptr 900 bM 0]]⟩)]
abbrev outG (n c : Nat) (A : Option Addr) : List (Nat × Gr) := [(77, ⟨A, n, c, 2, 58⟩)]
def OutS (bt bT bO bM : Nat) (xs : List Itm) (mem : List (Nat × Blk)) (gr : List (Nat × Gr)) : Prop := ∃ A n c g, firsts g n = xs ∧ mem = outM bt bT bO bM n c A g ∧ gr = outG n c A
def MeansE (m0 : Nat → Nat → Prop) (w0 : World) (K : Kn) (bt bT bO bM : Nat) (xs : List Itm) (e : Ending) (w' : World) : Prop := ∃ v, e = .returned v ∧ v = .tuple #[] ∧ ∃ mem' gr', OutS bt bT bO bM xs mem' gr' ∧ Mem m0 w0 (fun _ => False) K mem' gr' w'
theorem app_sim {A : Option Addr} {n k c : Nat} {g f : Nat → Itm} {d : Option Nat} : Sim (.sl d A (std.nadd n k) c 2 (std.app n (fun i => itC (g i)) (fun i => itC (f i)))) (.sl d A (n + k) c 2 (fun i => itC (appG n g f i))) :=
 Sim.resl rfl fun t ht => by
  show appC n (fun i => itC (g i)) (fun i => itC (f i)) t = itC (appG n g f t)
  unfold appC appG
  split <;> rfl
def partP (T : Tre) (n : Nat) (r : Rec) (q : Lab) : Nat → List Itm
 | 0 => []
 | 1 => kidP T (meansP T n) r (chV q 0)
 | _ => kidP T (meansP T n) r (chV q 0) ++ kidP T (meansP T n) r (chV q 1)
theorem means_leaf {T : Tre} {n : Nat} {r : Rec} {q : Lab} (h : T q = some r) (hk : r.kind = 1 ∨ r.kind = 5) : meansP T (n + 1) q = r.items := by
 unfold meansP
 rw [h]
 exact if_pos hk
theorem means_in {T : Tre} {n : Nat} {r : Rec} {q : Lab} (h : T q = some r) (hk : ¬ (r.kind = 1 ∨ r.kind = 5)) : meansP T (n + 1) q = partP T n r q (if chE q 0 = 0 then 2 else 0) := by
 unfold meansP
 rw [h]
 refine (if_neg hk).trans ?_
 by_cases hc : chE q 0 = 0
 ·rw [if_pos hc, if_pos hc]; rfl
 rw [if_neg hc, if_neg hc]; rfl
theorem part_succ {T : Tre} {n : Nat} {r : Rec} {q : Lab} {i : Nat} (hi : i < 2) : partP T n r q (i + 1) = partP T n r q i ++ kidP T (meansP T n) r (chV q (i : Nat)) := by
 rcases i with _ | _ | i
 ·rfl
 ·rfl
 omega
theorem part_len {T : Tre} {ks : List Lab} (h : TreOk T ks) {n : Nat} {q : Lab} {r : Rec} (hb : U64 q.bits) (hr : T q = some r) (hc : chE q 0 = 0) {i : Nat} (hi : i < 2) : (partP T n r q i).length + 16 + 32 * cntB ks (chV q (i : Nat)) ≤ 32 * cntB ks q := by
 have h3 := cnt_pos h hb hr hc
 rcases i with _ | _ | i
 ·simp only [partP, List.length_nil, Int.ofNat_zero]
  have : ((0 : Nat) : Int) = 0 := rfl
  omega
 ·obtain ⟨a1, a2, _⟩ := ch_is hb hc 0
  have k0 := kid_len h hr (means_len h n (chV q 0) a1 a2)
  simp only [partP]
  have : (((0 + 1 : Nat)) : Int) = 1 := rfl
  rw [this]
  omega
 omega
theorem means_c {m0 : Nat → Nat → Prop} {w0 : World} {bt bT bO bM : Nat} (T : List (Lab × RA)) (hT : TreA T) (hT2 : T.length ≤ 2000) : ∀ (n : Nat) (q : Lab), U64 q.bits → isL q = true → 65 ≤ q.len + n → ∀ (K : Kn), (∀ m w, K.p m w → (lmK recV bT T).p m w) → K.self → ∀ w xs mem gr, OutS bt bT bO bM xs mem gr → xs.length + 32 * cntB (T.map (·.1)) q ≤ 1000000 → Mem m0 w0 (fun _ => False) K mem gr w → Ok (mT m0 mem gr) w (tEp bt bT) →
  Calls Tryz.prog 23 ([labAV q, tEp bt bT, .ptr 901 bO 0, .ptr 900 bM 0].map AV.den).toArray w (MeansE m0 w0 K bt bT bO bM (xs ++ meansP (treF T) n q)) := by
 intro n
 induction n with
 | zero =>
  intro q hb0 hl hn
  have := (lab_parts hl).2.1
  exact absurd hn (by omega)
 | succ n ih =>
  intro q hb0 hl hn K hKT hKs w xs mem gr hO hlen hm htE
  have hmx : maxLen = 9223372036854775807 := rfl
  obtain ⟨Ao, no, co, g, hg, rfl, rfl⟩ := hO
  have hargs : ∀ v ∈ [labAV q, tEp bt bT, .ptr 901 bO 0, .ptr 900 bM 0], Ok (mT m0 (outM bt bT bO bM no co Ao g) (outG no co Ao)) w v := by
   intro v hv
   simp only [List.mem_cons, List.not_mem_nil, or_false] at hv
   rcases hv with rfl | rfl | rfl | rfl
   ·exact .agg _ (by intro v hv; simp only [List.mem_cons, List.not_mem_nil, or_false] at hv; rcases hv with rfl | rfl <;> rfl) (by intro v hv; simp only [List.mem_cons, List.not_mem_nil, or_false] at hv; rcases hv with rfl | rfl <;> exact .int _ _)
   ·exact htE
   ·exact .ptr _ _ _
   exact .ptr _ _ _
  have hlq : LabOk q := labOk_is hl hb0
  obtain ⟨el, hel⟩ := eqv ((getA q T).getD zRA)
  obtain ⟨hh, hhh⟩ := eqv ((getA q T).isSome)
  obtain ⟨he1, he2⟩ := hT.el q
  rw [← hel] at he1 he2
  have O1 := look_tt (el := recV) hKT hlq mapr_und zRA_run zRA_ok (v := recV el) (by rw [← hel]) hhh.symm
  simp only [labAV] at O1
  refine enIN 60 hm hargs Tryz.func23 fun B hB a0 hF => ?_
  refine wpN_seq (wpN_of (rg hB TA_ok [4, 1, 2, 3] [4, 901, 900, 77] [] hF fun X0 a0 w1 hF => ?_))
  refine wpN_seq (wpN_of (rg hB TA_ok [6, 5, 4, 1, 2, 3] [5, 4, 901, 900, 77] [(2, .r fun _ => .tup [recV el, .bool (.v hh)])] hF fun X1 a0 w1 hF => ?_))
  obtain ⟨qE, hqE⟩ := eqv (AV.ep (some ⟨(X0 0).b, 0, none⟩) 0 0 0 [.int .i64 q.len, .int .u64 q.bits])
  have hF := hF.fz (tm' := [(6, .bool (.v hh)), (5, .ep (some ⟨(X1 6).b, 0, none⟩) 0 0 0 (recC el)), (4, .ptr 4 (X0 0).b 0), (1, tEp bt bT), (2, .ptr 901 bO 0), (3, .ptr 900 bM 0)]) ⟨rfl, fz_id, rfl, fz_ptr, rfl, fz_id, rfl, fz_id, rfl, fz_id, rfl, fz_id, trivial⟩
  have hF := hF.fz (tm' := [(6, .bool (.v hh)), (5, .ep (some ⟨(X1 6).b, 0, none⟩) 0 0 0 (recC el)), (4, .ep (some ⟨(X0 0).b, 0, none⟩) 0 0 0 [.int .i64 q.len, .int .u64 q.bits]), (1, tEp bt bT), (2, .ptr 901 bO 0), (3, .ptr 900 bM 0)]) ⟨rfl, fz_id, rfl, fz_id, rfl, fz_ptr, rfl, fz_id, rfl, fz_id, rfl, fz_id, trivial⟩
  refine wpN_seq (wpN_of (wp_seq (rg hB TA_ok [17, 6, 5, 4, 1, 2, 3] [901, 900, 77] [] hF fun X2 a0 w1 hF => ?_)))
  apply test_ok hF rfl <;> intro hb hF
  ·have hno : treF T q = none := by
    have : hh = false := by subst hB; cases hh <;> first | rfl | cases hb
    rw [this] at hhh
    unfold treF
    cases hg2 : getA q T with
    | none => rfl
    | some x => rw [hg2] at hhh; cases hhh
   refine wp_ret (retI0 hB TA_ok hF (fun w' hm' _ => ⟨_, rfl, rfl, _, _, ⟨Ao, no, co, g, ?_, rfl, rfl⟩, hm'⟩)).1
   unfold meansP
   rw [hno, hg, List.append_nil]
  have hso : treF T q = some el.r.abs := by
   have : hh = true := by subst hB; cases hh <;> first | rfl | cases hb
   rw [this] at hhh
   obtain ⟨x, hx⟩ := Option.isSome_iff_exists.1 hhh.symm
   unfold treF
   rw [hx] at hel ⊢
   rw [hel]; rfl
  refine wp_skip ?_
  refine wpN_seq (wpN_of (wp_seq (rg hB TA_ok [25, 5, 4, 1, 2, 3] [901, 900, 77] [] hF fun X3 a0 w1 hF => ?_)))
  apply test_ok hF rfl <;> intro hb hF
  ·have hk : el.r.kd = 1 ∨ el.r.kd = 5 := by
    have h9 : (if decide (el.r.kd = 1) = true then true else decide (el.r.kd = 5)) = true := by subst hB; exact hb
    by_cases h1 : el.r.kd = 1
    ·exact .inl h1
    rw [decide_eq_false h1] at h9; exact .inr (by simpa using h9)
   have hli : no ≤ 1000000 := by rw [← hg, firsts_len] at hlen; omega
   refine wp_seq (rg hB TA_ok [] [901, 900, 77] [] hF (fun X4 a0 w1 hF => ?_) (hob := ?hob))
   case hob =>
    intro X; subst hB
    repeat (first | exact trivial | refine ⟨⟨rfl, rfl, rfl⟩, ?_⟩ | refine ⟨rfl, ?_⟩ | refine ⟨⟨show no + el.r.n ≤ maxLen by omega, show (no + el.r.n) * _ ≤ _ by omega⟩, ?_⟩)
   have hF := hF.memS (cells' := [.sl (some 77) ((X4 3).A 0) (no + el.r.n) ((X4 3).c 0) 2 (fun i => itC (appG no g el.r.f i))]) (by subst hB; exact ⟨app_sim, trivial⟩)
   have hF := hF.regr (n' := no + el.r.n) (by subst hB; rfl)
   refine wp_ret (retI0 hB TA_ok hF (fun w' hm' _ => ⟨_, rfl, rfl, _, _, ⟨_, no + el.r.n, _, appG no g el.r.f, ?_, rfl, rfl⟩, hm'⟩)).1
   rw [means_leaf hso hk, firsts_app, hg]
   rfl
  have hnk : ¬ (el.r.kd = 1 ∨ el.r.kd = 5) := by
   have h9 : (if decide (el.r.kd = 1) = true then true else decide (el.r.kd = 5)) = false := by subst hB; exact hb
   rintro (h1 | h1) <;> simp [h1] at h9
  refine wp_skip ?_
  have SK := kids_s q
  simp only [labAV] at SK
  have O1 := SK
  refine wpN_seq (wpN_of (rg hB TA_ok [31, 5, 1, 2, 3] [901, 900, 77] [(1, .r fun y => .fn 53 [] [.ep (some ⟨y.b, 0, none⟩) 0 0 0 [.int .i64 q.len, .int .u64 q.bits]])] hF fun X5 a0 w1 hF => ?_))
  refine wpN_block ?_
  have hKu := hKs _ _ hF.kept
  have hTk := hT.ok
  refine rangeI hF rfl enters53 hKu (fun l D rc w1 hl hD hrc hD0 hsz ha hm1 hlb => ?_)
  subst hrc
  refine (kids_c (l := l) (D := D) (ntc := 60) (p := 32) Tryz.func23 (by omega) (by omega) rfl rfl rfl (by decide) ⟨_, ha⟩ q hb0 (fun i K' mem gr => K' = K ∧ OutS bt bT bO bM (xs ++ partP (treF T) n el.r.abs q i) mem gr) (fun _ _ _ _ => False) ?_ ⟨rfl, Ao, no, co, g, by rw [hg]; simp [partP], rfl, rfl⟩ (hKu.off (by omega)) hm1 (hlb _ (by simp))).mono ?_
  ·intro i hi hce E hE hE2 K' mem gr a w ⟨hK', hO⟩ hoff hF
   subst hK'
   obtain ⟨A1, n1, c1, g1, hg1, rfl, rfl⟩ := hO
   obtain ⟨hc1, hc2, hc3⟩ := ch_is hb0 hce (i : Nat)
   have hpl := part_len (n := n) hTk hb0 hso hce hi
   obtain ⟨c, hc⟩ := eqv (chV q (i : Nat))
   rw [← hc] at hc1 hc2 hc3 hF hpl
   simp only [labAV] at hF
   have hn1 : n1 ≤ 1000000 := by
    have := congrArg List.length hg1
    rw [firsts_len, List.length_append] at this
    omega
   refine rrg hB TA_ok [7, 5, 1, 2, 3] [7, 901, 900, 77] [] hF fun X6 a0 w1 hF => ?_
   have hF := hF.fz (tm' := [(7, .ep (some ⟨(X6 0).b, 0, none⟩) 0 0 0 [.int .i64 c.len, .int .u64 c.bits]), (5, .ep (some ⟨(X1 6).b, 0, none⟩) 0 0 0 (recC el)), (1, tEp bt bT), (2, .ptr 901 bO 0), (3, .ptr 900 bM 0)]) ⟨rfl, fz_ptr, rfl, fz_id, rfl, fz_id, rfl, fz_id, rfl, fz_id, trivial⟩
   refine ⟨60, _, _, _, hF, fun w2 hF => ?_⟩
   obtain ⟨ei, hei⟩ := eqv ((getA c T).getD zRA)
   obtain ⟨hi2, hhi2⟩ := eqv ((getA c T).isSome)
   have OL := fun (Kx : Kn) (hx : ∀ m w, Kx.p m w → K'.p m w) => look_tt (K := Kx) (el := recV) (b := bT) (L := T) (l := c) (fun m w h => hKT m w (hx m w h)) (labOk_is hc1 hc2) mapr_und zRA_run zRA_ok (v := recV ei) (by rw [← hei]) hhi2.symm
   simp only [labAV] at OL
   refine wpIn_block (wpIn_seq (wpIn_seq (rrg hB TA_ok [9, 8, 7, 5, 1, 2, 3] [8, 901, 900, 77] [(2, .r fun _ => .tup [recV ei, .bool (.v hi2)])] hF (fun X7 a0 w1 hF => ?_) (hob := ?hob7))))
   case hob7 =>
    intro X; subst hB
    repeat (first | exact trivial | refine ⟨rfl, ?_⟩ | refine ⟨OL _ (fun m w h => h.1.1.1), ?_⟩)
   have hF := hF.fz (tm' := [(9, .bool (.v hi2)), (8, .ep (some ⟨(X7 6).b, 0, none⟩) 0 0 0 (recC ei)), (7, .ep (some ⟨(X6 0).b, 0, none⟩) 0 0 0 [.int .i64 c.len, .int .u64 c.bits]), (5, .ep (some ⟨(X1 6).b, 0, none⟩) 0 0 0 (recC el)), (1, tEp bt bT), (2, .ptr 901 bO 0), (3, .ptr 900 bM 0)]) ⟨rfl, fz_id, rfl, fz_ptr, rfl, fz_id, rfl, fz_id, rfl, fz_id, rfl, fz_id, rfl, fz_id, trivial⟩
   have hfz : frozP (treF T) c = (if (!hi2) = true then true else decide (ei.r.kd = 5)) := by
    unfold frozP treF
    cases hg2 : getA c T with
    | none => rw [hg2] at hhi2; rw [hhi2]; rfl
    | some x => rw [hg2] at hhi2 hei; rw [hhi2, hei]; rfl
   refine wpIn_seq (rrg hB TA_ok [50, 7, 5, 1, 2, 3] [901, 900, 77] [] hF fun X8 a0 w1 hF => ?_)
   refine rtest_ok hF rfl (fun hb hF => ?_) (fun hb hF => ?_)
   ·have h9 : (if decide (el.r.kd = 3) = true then (if (!hi2) = true then true else decide (ei.r.kd = 5)) else false) = true := by subst hB; exact hb
    rw [← hfz] at h9
    have hkid : kidP (treF T) (meansP (treF T) n) el.r.abs c = covL c (firsts el.r.f el.r.n) := by
     unfold kidP
     refine if_pos ⟨?_, ?_⟩
     ·show el.r.kd = 3
      by_cases h3 : el.r.kd = 3
      ·exact h3
      rw [decide_eq_false h3] at h9; cases h9
     split at h9
     ·exact h9
     cases h9
    have SCV := tcov_s el.A el.r.n el.c el.r.f (by omega) c hc2 he2
    have hcl := cov_len c (firsts el.r.f el.r.n)
    rw [firsts_len] at hcl
    obtain ⟨CV, hCV⟩ := eqv (covL c (firsts el.r.f el.r.n))
    rw [← hCV] at SCV hkid hcl
    obtain ⟨cf, hcf⟩ := eqv (itF CV)
    obtain ⟨cn, hcn⟩ := eqv (CV.length)
    rw [← hcf, ← hcn] at SCV
    rw [← hcn] at hcl
    simp only [rowI, labAV] at SCV
    refine wpIn_seq (rdrg hB TA_ok [] [901, 900, 77] [(4, .r fun x => .sl none (x.A 0) cn (x.c 0) 2 (fun i => itC (cf i)))] hF (fun X9 a0 w1 hF => ?_) (hob := ?hob))
    case hob =>
     intro X; subst hB
     repeat (first | exact trivial | refine ⟨⟨fun _ _ => by kernel_rfl, SCV⟩, ?_⟩ | refine ⟨⟨rfl, rfl, rfl⟩, ?_⟩ | refine ⟨rfl, ?_⟩ | refine ⟨⟨show n1 + cn ≤ maxLen by omega, show (n1 + cn) * _ ≤ _ by omega⟩, ?_⟩)
    have hF := hF.memS (cells' := [.sl (some 77) ((X9 5).A 0) (n1 + cn) ((X9 5).c 0) 2 (fun i => itC (appG n1 g1 cf i))]) (by subst hB; exact ⟨app_sim, trivial⟩)
    have hF := hF.regr (n' := n1 + cn) (by subst hB; rfl)
    refine wpIn_exit ?_
    refine ⟨K', _, _, ⟨rfl, _, n1 + cn, _, appG n1 g1 cf, ?_, rfl, rfl⟩, hoff, hF.bare⟩
    rw [firsts_app, hg1, part_succ hi, ← hc, hkid, List.append_assoc, hcn, hcf, firsts_itF']
   have h9 : (if decide (el.r.kd = 3) = true then (if (!hi2) = true then true else decide (ei.r.kd = 5)) else false) = false := by subst hB; exact hb
   rw [← hfz] at h9
   have hkid : kidP (treF T) (meansP (treF T) n) el.r.abs c = meansP (treF T) n c := by
    unfold kidP
    refine if_neg ?_
    rintro ⟨h1, h2⟩
    rw [decide_eq_true (show el.r.kd = 3 from h1), h2] at h9
    cases h9
   have hst := hF.slot 1 rfl
   refine wpIn_skip (rreg ?_)
   refine lpr 0 2 hB TA_ok [57, 58, 7, 5, 1, 2, 3] [901, 900, 77] [] hF (fun X10 a0 w1 hF => ?_)
   have hst := hF.slot 1 rfl
   refine man_inl rfl rfl rfl rfl hF rfl rfl enters23 (fun t ht => by injection ht with ht; subst ht; decide) (fun hmm haa hargs => ?_)
   have hself : ∀ tmX rcX tmY, (((KL K' tmX l rcX D .busy none).and E).and (okT tmY)).self := fun tmX rcX tmY => and_self' (and_self' (KL_self hKs tmX l rcX D .busy none) hE) (okT_self tmY)
   refine Calls.mono (ih c hc2 hc1 (by omega) _ ?hx ?hs w1 (xs ++ partP (treF T) n el.r.abs q i) _ _ ⟨A1, n1, c1, g1, hg1, rfl, rfl⟩ (by rw [List.length_append]; omega) hmm hst.2) ?_
   case hx => exact fun m w h => hKT m w h.1.1.1.1
   case hs => exact hself _ _ _
   rintro e w' ⟨v, rfl, rfl, mem', gr', hO', hm'⟩
   refine ⟨.tup [], rfl, mem', gr', _, .tup _ (fun u hu => by cases hu), hm', fun a' hF' => wpList_nil ?_⟩
   obtain ⟨A2, n2, c2, g2, hg2, rfl, rfl⟩ := hO'
   exact ⟨K', _, _, ⟨rfl, A2, n2, c2, g2, by rw [hg2, part_succ hi, ← hc, hkid, List.append_assoc], rfl, rfl⟩, hoff, hF'.bare⟩
  rintro e w3 ⟨v, rfl, K', mem', gr', ho, hh⟩
  rcases hh with ⟨hm', rfl, hO'⟩ | ⟨c, hx, _⟩
  ·refine ⟨v, rfl, K', mem', gr', ho, .inl ⟨hm', fun a' w' hF' => ?_⟩⟩
   obtain ⟨A', n', c', g', hg', rfl, rfl⟩ := hO'
   refine (retIM hB TA_ok [D] hF' (fun D' hD' => ?_) (fun w'' hm'' _ => ⟨_, rfl, rfl, _, _, ⟨A', n', c', g', ?_, rfl, rfl⟩, hm''⟩)).2
   ·simp only [List.mem_singleton] at hD'
    subst hD'
    exact ⟨hKu.off (by omega), hD0⟩
   rw [hg', means_in hso hnk]
  exact hx.elim
theorem enters60 : Enters Tryz.prog 60 := fun _ _ => by kernel_rfl
theorem own_s (x : RA) (hn : x.r.n ≤ 1000000) : Spec Tryz.prog 60 [recV x] (fun y => recV ⟨y.A 0, y.c 0, x.r⟩) := by
 intro m w hm hargs
 have S := Cl.clone_sf x.A x.r.n x.c x.r.f (by omega)
 simp only [rowI] at S
 refine en 8 hm hargs Tryz.func60 fun B hB a0 hF => ?_
 refine wp_seq (rg hB TA_ok [1, 2] [1, 2] [] hF fun X0 a0 w1 hF => ?_)
 have O1 := S
 refine wp_seq (rg hB TA_ok [1, 2] [1, 2] [(2, .r fun y => .sl none (y.A 0) x.r.n (y.c 0) 2 (fun t => itC (x.r.f t)))] hF fun X1 a0 w1 hF => ?_)
 refine wp_seq (rg hB TA_ok [2] [2] [] hF fun X2 a0 w1 hF => ?_)
 refine wp_ret ((rsi hB TA_ok hF (⟨0, fun _ => (X1 2).A 0, fun _ => (X1 2).c 0, fun _ => ⟨#[]⟩⟩) (he := ?_)))
 subst hB
 exact zr
theorem new_m (A : Option Addr) (n c : Nat) (f : Nat → RowA) (hn : n ≤ maxLen) (hN : ∀ i, i < n → (f i).x.r.n ≤ 1000000 ∧ LabOk (f i).lab ∧ U64 (f i).lab.bits ∧ U64 (f i).x.r.nx.bits) : SpecM Tryz.prog 27 [rowsV A n c f] [] none noK (fun y => (match newS (rwsA f n) with | none => ⟨.tup [.nilp, .int .i64 1], [], []⟩ | some L => ⟨.tup [.ptr 14 y.b 0, .int .i64 0], [], [(14, ⟨y.b, 106, [.raw (.map (some (y.c 0))), .int .i64 0]⟩)]⟩)) (fun N y => (match newS (rwsA f n) with | none => noK | some L => shF N (y.c 0) L)) := by
 intro m w hm hargs hpre hI
 have hmx : maxLen = 9223372036854775807 := rfl
 refine enM (bo := none) 58 hm hpre hI hargs Tryz.func27 fun B hB a0 hF => ?_
 refine wp_seq (rg hB TA_ok [0] [] [] hF fun X0 a0 w1 hF => ?_)
 refine wp_seq (wp_seq (rg hB TA_ok [11, 0] [] [] hF fun X1 a0 w1 hF => ?_))
 apply test_ok hF rfl <;> intro hb hF
 ·have hbig : 2000 < n := by
   have : (2000 : Int) < (n : Int) := by subst hB; simpa [std, sC] using hb
   omega
  have hW : newS (rwsA f n) = none := by unfold newS; rw [if_pos (by rw [listA_len]; exact hbig)]
  refine wp_seq (rg hB TA_ok [2, 3] [14] [] hF fun X2 a0 w1 hF => ?_)
  refine wp_ret ((rm hB TA_ok hF (⟨0, fun _ => none, fun _ => 0, fun _ => ⟨#[]⟩⟩) [] (he := ?_) (hs := ?_) (hn := ?_) (hJ := ?_)).1)
  ·subst hB; simp only [hW]; exact zr
  ·simp only [hW]; exact trivial
  ·simp only [hW]; exact trivial
  simp only [hW]; exact fun _ _ _ => trivial
 have hbig : n ≤ 2000 := by
  have : ¬ (2000 : Int) < (n : Int) := by subst hB; simpa [std, sC] using hb
  omega
 have hS : newS (rwsA f n) = newL (rwsA f n) [] := by unfold newS; rw [if_neg (by rw [listA_len]; omega)]
 refine wp_skip (wp_seq (wp_region_lit (man_makeMap (k := 42) (e := 0) rfl rfl rfl rfl hF (Nat.le_of_ble_eq_true rfl) (shK w1.heap.size []) (fun m w' _ _ hM => ⟨_, fun _ => (none, 0), ShD.empty hM _⟩) ?_)))
 obtain ⟨bM, hbM⟩ := eqv (w1.heap.size)
 rw [← hbM]
 intro a0 w1 hfresh hF
 have hbfr : w.heap.size ≤ bM := hfresh
 refine lnd 1 hB TA_ok [4, 0] [14] [] hF fun X3 a0 w1 hF => ?_
 refine wp_seq (wp_seq (rg hB TA_ok [17, 16, 15, 4] [14] [] hF fun X4 a0 w1 hF => ?_))
 refine wp_block (loop_preK (ι := Nat × Shf) (fun p => shK bM p.2) (fun p => [(17, .int .i64 (p.1 : Int))]) (fun p => []) (fun p => []) (fun p => p.1 ≤ n ∧ p.2.length ≤ p.1 ∧ newL (rwsA f n) [] = newL ((rwsA f n).drop p.1) p.2) (fun p => n - p.1) (0, []) ⟨Nat.zero_le _, Nat.le_refl _, rfl⟩ hF ?_)
 rintro ⟨i, L⟩ ⟨hi, hk, hnew⟩ a0 w1 hF
 try dsimp only at hi
 try dsimp only at hk
 try dsimp only at hnew
 replace hF := hF.withK (K' := shK bM L) hF.kept
 refine wp_seq (rg hB TA_ok [18, 17, 16, 15, 4] [14] [] hF fun X5 a0 w1 hF => ?_)
 refine wp_seq (test_ok hF rfl (fun hb hF => ?_) (fun hb hF => ?_))
 ·have hin : i < n := by
   have : (i : Int) < (n : Int) := by subst hB; simpa [std, sC] using hb
   omega
  obtain ⟨hN1, hN2, hN3, hN4⟩ := hN i hin
  have S2 := isL_s (f i).lab hN3
  have S3 := isR_s (f i).x.A (f i).x.r.n (f i).x.c (f i).x.r.f (by omega) (f i).x.r.kd (f i).x.r.nx (f i).x.r.mrk hN4
  rw [← isR_abs] at S3
  simp only [labAV, recI, rowI] at S2 S3
  obtain ⟨il, hil⟩ := eqv (isL (f i).lab)
  obtain ⟨ir, hir⟩ := eqv (isR (f i).x.r.abs)
  rw [← hil] at S2
  rw [← hir] at S3
  have hstep := newL_step (f := f) (L := L) hin
  rw [← hil, ← hir] at hstep
  refine wp_skip (wp_seq (wp_block (wp_seq ?_)))
  refine rg hB TA_ok [6, 17, 16, 15, 4] [6, 14] [] hF (hob := by intro X; subst hB; simp only [AO, Ob.holds, BE.den] <;> and_intros <;> repeat first | trivial | rfl | exact (show (0 : Int) ≤ (i : Int) by omega) | exact (show (i : Int) < (n : Int) by omega) | exact (fun _ _ => by kernel_rfl) | refine ⟨?_, ?_⟩ | intro h | exact Int.le_refl _ | decide | omega) fun X6 a0 w1 hF => ?_
  replace hF := hF.memS (cells' := rowC (f i)) (by subst hB; exact zl)
  obtain ⟨D, E, hSh⟩ := hF.kept
  replace hF := hF.withK (K' := shD D E bM L) hSh
  have hlab : LabOk (f i).lab := hN2
  obtain ⟨el, hel⟩ := eqv (elA (adr E L) (f i).lab (spotOf L (f i).lab))
  obtain ⟨hh, hhh⟩ := eqv ((findL (f i).lab L).isSome)
  refine wp_seq (wp_seq ?_)
  apply drawn2_okB hB 13 (some (6, [.tmp 25, .tmp 27], [.raw (.map (some bM)), .agg [.int .i64 (f i).lab.len, .int .u64 (f i).lab.bits]], .tup [.agg [.int .u64 el.w.ver, .bool (.v el.has), .int .i64 el.w.x.r.kd, .sl none el.w.x.A el.w.x.r.n el.w.x.c 2 (fun i => itC (el.w.x.r.f i)), .int .i64 el.w.x.r.nx.len, .int .u64 el.w.x.r.nx.bits, .int .u64 el.w.x.r.mrk], .bool (.v hh)])) ?hH (by kernel_rfl) TA_ok [8, 6, 17, 16, 15, 4] [6, 14] [] hF rfl
  case hH => exact hand_look hlab hel hhh (fun o h => by cases h; rfl)
  case hex => intro A X; conv => lhs; cbv
  case hD => kernel_rfl
  case hZ => kernel_rfl
  case hlen => rfl
  case hob =>
   intro X
   subst hB
   simp only [AO, Ob.holds, BE.den] <;> and_intros <;> intros <;> trivial
  case hQ =>
  intro X7 a0 w1 hF
  replace hF := hF.withK (K' := shK bM L) ⟨D, E, hF.kept⟩
  have O1 := S2
  have O2 := S3
  refine wpList_nil (wp_seq (rg hB TA_ok [43, 6, 17, 16, 15, 4] [6, 14] [(4, .r fun _ => .bool (.v il)), (10, .r fun _ => .bool (.v ir))] hF fun X8 a0 w1 hF => ?_))
  apply test_ok hF rfl <;> intro hb hF
  ·have h9 : (if (if hh = true then true else !il) = true then true else !ir) = true := by subst hB; exact hb
   have hW : newS (rwsA f n) = none := by
    rw [hS, hnew, hstep, ← hhh]
    cases hh <;> cases il <;> cases ir <;> first | rfl | (simp at h9)
   refine wp_seq (rg hB TA_ok [2, 3] [14] [] hF fun X9 a0 w1 hF => ?_)
   refine wp_ret ((rm hB TA_ok hF (⟨0, fun _ => none, fun _ => 0, fun _ => ⟨#[]⟩⟩) [] (he := ?_) (hs := ?_) (hn := ?_) (hJ := ?_)).1)
   ·subst hB; simp only [hW]; exact zr
   ·simp only [hW]; exact trivial
   ·simp only [hW]; exact trivial
   simp only [hW]; exact fun _ _ _ => trivial
  have h9 : (if (if hh = true then true else !il) = true then true else !ir) = false := by subst hB; exact hb
  have h10 : (hh || !il || !ir) = false := by cases hh <;> cases il <;> cases ir <;> first | rfl | (simp at h9)
  rw [← hhh, h10] at hstep
  obtain ⟨L2, hL2⟩ := eqv (putL (f i).lab ⟨(f i).ver, true, (f i).x.r.abs⟩ L)
  have hstep : newL ((rwsA f n).drop i) L = newL ((rwsA f n).drop (i + 1)) L2 := by rw [hL2]; exact hstep
  have SO := own_s (f i).x hN1
  have hL2n : L2.length ≤ i + 1 := by rw [hL2, put_len _ _ hSh.ris]; split <;> omega
  refine wp_skip ?_
  apply drawn2_okB hB 12 none ?hH (by kernel_rfl) TA_ok [47, 49, 55, 17, 16, 15, 4] [14] [(10, .r fun y => .agg [.int .i64 (f i).x.r.kd, .sl none (y.A 0) (f i).x.r.n (y.c 0) 2 (fun t => itC ((f i).x.r.f t)), .int .i64 (f i).x.r.nx.len, .int .u64 (f i).x.r.nx.bits, .int .u64 (f i).x.r.mrk])] hF rfl
  case hH => exact handOK_none
  case hex => intro A X; conv => lhs; cbv
  case hD => kernel_rfl
  case hZ => kernel_rfl
  case hlen => rfl
  case hob =>
   intro X
   subst hB
   simp only [AO, Ob.holds, BE.den] <;> (and_intros <;> repeat first | trivial | rfl | exact enters60 | exact SO | refine ⟨?_, ?_⟩ | intro h)
  case hQ =>
  intro X10 a0 w1 hF
  obtain ⟨D2, E2, hSh2⟩ := hF.kept
  refine man_mapUpdate (k := 42) (e := 108) rfl rfl rfl rfl hF rfl rfl rfl rfl rfl labK map_und' hSh2.map (by omega) (key_lab hlab) (fun h => absurd h (by omega)) (shK bM L2) (fun m w' hk hkb hv hM => ?_) ?_
  ·rw [hL2]
   refine shK_put hSh2.map hlab hk hkb (x := ⟨⟨(f i).lab, (f i).ver, ⟨(X10 10).A 0, (X10 10).c 0, (f i).x.r⟩⟩, true⟩) ?_ hv hM
   exact Sim.agg ⟨zr, Sim.tt, zr, zr, zr, zr, zr, trivial⟩
  intro w1 hF
  replace hF := hF.keep [17,16,15,4] [14]
  refine wpList_nil (rg hB TA_ok [17, 16, 15, 4] [14] [] hF fun X11 a0 w1 hF => ?_)
  have e : B.arith .add .i64 (i : Int) 1 = ((i + 1 : Nat) : Int) := by subst hB; exact wrap_succ (n := n) hin (by omega)
  refine ⟨(i + 1, L2), ⟨by simp only; omega, hL2n, hnew.trans hstep⟩, by simp only; omega, by rw [← e]; exact hF⟩
 have hout : i = n := by
  have : ¬ (i : Int) < (n : Int) := by subst hB; simpa [std, sC] using hb
  omega
 have hW : newS (rwsA f n) = some L := by rw [hS, hnew, List.drop_eq_nil_of_le (by rw [listA_len]; omega)]; rfl
 refine wp_exit (wp_seq (rg hB TA_ok [2, 3] [14] [] hF fun X12 a0 w1 hF => ?_))
 refine wp_ret ((rm hB TA_ok hF (⟨(X3 2).b, fun _ => none, fun _ => bM, fun _ => ⟨#[]⟩⟩) [14] (he := ?_) (hs := ?_) (hn := ?_) (hJ := ?_)).1)
 ·subst hB; simp only [hW]; exact zr
 ·simp only [hW]; exact trivial
 ·simp only [hW]
  exact ⟨⟨_, rfl, zl⟩, fun e he => (by cases he), (by simp), trivial⟩
 simp only [hW]; exact fun _ _ h => ⟨hbfr, h⟩
theorem SpecM.x {P : Program} {f : FuncId} {args : List AV} {pre : List (Nat × Blk)} {res : Atom → CR} {J : Nat → Atom → Kn} (h : SpecM P f args pre none noK res J) : SpecX P f args pre res := by
 intro m w h1 h2 h3
 refine (h m w h1 h2 h3 trivial).mono ?_
 rintro e w' ⟨x, rfl, g1, g2, _, _⟩
 exact ⟨x, rfl, g1, g2.plain⟩
theorem sim_nils {g g' : Option Nat} {k k' : Nat} {f f' : Nat → List AV} : Sim (.sl g none 0 0 k f) (.sl g' none 0 0 k' f') :=
 ⟨rfl, fun _ => rfl, fun _ _ _ => .sl _ _ _ _ _ _ (Nat.le_refl _) (Nat.zero_le _) (fun i hi => absurd hi (Nat.not_lt_zero _)) (fun i hi => absurd hi (Nat.not_lt_zero _)) (fun i hi => absurd hi (Nat.not_lt_zero _)) (fun i hi => absurd hi (Nat.not_lt_zero _)) (fun i hi => absurd hi (Nat.not_lt_zero _))⟩
def RwN (n : Nat) (f : Nat → RowA) : Prop := ∀ i, i < n → (f i).x.r.n ≤ 1000000 ∧ LabOk (f i).lab ∧ U64 (f i).lab.bits ∧ U64 (f i).x.r.nx.bits
def RwK (n : Nat) (f : Nat → RowA) : Prop := ∀ i, i < n → ∀ t, t < (f i).x.r.n → U64 ((f i).x.r.f t).key
def isRw (l : List Rw) : Bool := (newS l).isSome
theorem tis_s (A : Option Addr) (n c : Nat) (f : Nat → RowA) (hn : n ≤ maxLen) (hN : RwN n f) : Spec Tryz.prog 9 [rowsV A n c f] (fun _ => .bool (.v (isRw (rwsA f n)))) := by
 intro m w hm hargs
 have hmx : maxLen = 9223372036854775807 := rfl
 have SN := (new_m A n c f hn hN).x
 obtain ⟨ir, hir⟩ := eqv (isRw (rwsA f n))
 rw [← hir]
 refine en 12 hm hargs Tryz.func9 fun B hB a0 hF => ?_
 refine wp_seq (rg hB TA_ok [0] [] [] hF fun X0 a0 w1 hF => ?_)
 unfold isRw at hir
 cases hs : newS (rwsA f n) with
 | none =>
  rw [hs] at SN hir
  have O1 := SN
  refine wp_seq (rg hB TA_ok [4] [] [(1, .x fun y => ⟨.tup [.nilp, .int .i64 1], [], []⟩)] hF fun X1 a0 w1 hF => ?_)
  refine wp_seq (rg hB TA_ok [2] [] [] hF fun X2 a0 w1 hF => ?_)
  exact wp_ret (rsp hB TA_ok hF ⟨0, fun _ => none, fun _ => 0, fun _ => .empty⟩ (he := by subst hB; rw [hir]; rfl)).1
 | some L =>
  rw [hs] at SN hir
  have O1 := SN
  refine wp_seq (rg hB TA_ok [4] [] [(1, .x fun y => ⟨.tup [.ptr 14 y.b 0, .int .i64 0], [], [(14, ⟨y.b, 106, [.raw (.map (some (y.c 0))), .int .i64 0]⟩)]⟩)] hF fun X1 a0 w1 hF => ?_)
  refine wp_seq (rg hB TA_ok [2] [] [] hF fun X2 a0 w1 hF => ?_)
  exact wp_ret (rsp hB TA_ok hF ⟨0, fun _ => none, fun _ => 0, fun _ => .empty⟩ (he := by subst hB; rw [hir]; rfl)).1
def treP (l : List Rw) : Tre := fun q => (l.reverse.find? fun w => decide (w.lab = q)).map (·.r)
def itemsP (l : List Rw) : List Itm := if isRw l = true then meansP (treP l) 65 ⟨0, 0⟩ else []
def itemsE (l : List Rw) : Int := if isRw l = true then 0 else 1
theorem set_sub {α : Type} {l : Lab} {x : α} {p : Lab × α} : ∀ {L : List (Lab × α)}, p ∈ setA l x L → p = (l, x) ∨ p ∈ L
 | [], h => by simp [setA] at h; exact .inl h
 | y :: L, h => by
  unfold setA at h
  split at h
  ·rcases List.mem_cons.1 h with h | h
   ·exact .inl h
   exact .inr (List.mem_cons_of_mem _ h)
  rcases List.mem_cons.1 h with h | h
  ·exact .inr (by rw [h]; exact List.mem_cons_self ..)
  exact (set_sub h).imp id (List.mem_cons_of_mem _)
theorem tre_eq (f : Nat → RowA) : ∀ n, treF (treeA f n) = treP (rwsA f n)
 | 0 => rfl
 | n + 1 => by
  funext q
  have ih := congrFun (tre_eq f n) q
  unfold treF treP at ih ⊢
  unfold treeA
  rw [getA_set, show rwsA f (n + 1) = rwsA f n ++ [RowA.abs (f n)] from listA_succ _ _ _, List.reverse_append, List.reverse_singleton, List.singleton_append, List.find?_cons]
  by_cases h : (f n).lab = q
  ·rw [if_pos h]
   simp [RowA.abs, h]
  rw [if_neg h]
  rw [show decide ((RowA.abs (f n)).lab = q) = false from decide_eq_false h]
  exact ih
theorem newL_is : ∀ {l : List Rw} {L L' : Shf}, newL l L = some L' → ∀ w ∈ l, isL w.lab = true ∧ isR w.r = true
 | [], _, _, _, w, hw => by cases hw
 | v :: l, L, L', h, w, hw => by
  unfold newL at h
  split at h
  ·cases h
  rename_i hn
  simp only [Bool.or_eq_true, Bool.not_eq_true', not_or, Bool.not_eq_false] at hn
  rcases List.mem_cons.1 hw with rfl | hw
  ·exact ⟨hn.1.2, hn.2⟩
  exact newL_is h w hw
theorem newS_is {l : List Rw} (h : isRw l = true) : l.length ≤ 2000 ∧ ∀ w ∈ l, isL w.lab = true ∧ isR w.r = true := by
 unfold isRw newS at h
 split at h
 ·cases h
 obtain ⟨L, hL⟩ := Option.isSome_iff_exists.1 h
 exact ⟨by omega, newL_is hL⟩
theorem treeA_mem (f : Nat → RowA) : ∀ (n : Nat) (p : Lab × RA), p ∈ treeA f n → ∃ i, i < n ∧ p = ((f i).lab, (f i).x)
 | 0, p, h => by cases h
 | n + 1, p, h => by
  unfold treeA at h
  have h' := set_sub h
  rcases h' with h' | h'
  ·exact ⟨n, by omega, h'⟩
  obtain ⟨i, hi, e⟩ := treeA_mem f n p h'
  exact ⟨i, by omega, e⟩
theorem treeA_ok {f : Nat → RowA} {n : Nat} (hN : RwN n f) (hK : RwK n f) (h : isRw (rwsA f n) = true) : TreA (treeA f n) := by
 obtain ⟨_, h2⟩ := newS_is h
 refine ⟨fun p hp => ?_, fun p hp => ?_⟩
 ·obtain ⟨i, hi, rfl⟩ := treeA_mem f n p hp
  exact ⟨(hN i hi).2.1, (hN i hi).2.2.1⟩
 obtain ⟨i, hi, rfl⟩ := treeA_mem f n p hp
 have hm : RowA.abs (f i) ∈ rwsA f n := by
  simp only [rwsA, listA, List.mem_map, List.mem_range]
  exact ⟨i, hi, rfl⟩
 have h3 := (h2 _ hm).2
 have h4 : isR (f i).x.r.abs = true := h3
 rw [isR_abs] at h4
 exact ⟨(isRF_kind h4).2.2.1, hK i hi⟩
theorem items_s (A : Option Addr) (n c : Nat) (f : Nat → RowA) (hn : n ≤ 100000) (hN : RwN n f) (hK : RwK n f) : Spec Tryz.prog 6 [rowsV A n c f] (fun y => .tup [rowI (y.A 0) (itemsP (rwsA f n)).length (y.c 0) (itF (itemsP (rwsA f n))), .int .i64 (itemsE (rwsA f n))]) := by
 intro m w hm hargs
 have hmx : maxLen = 9223372036854775807 := rfl
 have SI := tis_s A n c f (by omega) hN
 obtain ⟨ir, hir⟩ := eqv (isRw (rwsA f n))
 rw [← hir] at SI
 have O1 := SI
 refine en 17 hm hargs Tryz.func6 fun B hB a0 hF => ?_
 refine wp_seq (rg hB TA_ok [0] [] [] hF fun X0 a0 w1 hF => ?_)
 refine wp_seq (wp_seq (rg hB TA_ok [9, 0] [] [(1, .r fun _ => .bool (.v ir))] hF fun X1 a0 w1 hF => ?_))
 apply test_ok hF rfl <;> intro hb hF
 ·have hif : isRw (rwsA f n) = false := by rw [← hir]; subst hB; cases ir <;> first | rfl | cases hb
  refine wp_seq (rg hB TA_ok [2, 3] [2] [] hF fun X2 a0 w1 hF => ?_)
  refine wp_ret (rsi hB TA_ok hF ⟨0, fun _ => none, fun _ => 0, fun _ => .empty⟩ (he := ?_))
  subst hB
  unfold itemsP itemsE rowI
  rw [hif]
  exact Sim.tup ⟨sim_nils, zr, trivial⟩
 have hit : isRw (rwsA f n) = true := by rw [← hir]; subst hB; cases ir <;> first | rfl | cases hb
 have hTA := treeA_ok hN hK hit
 have hTl : (treeA f n).length ≤ 2000 := by
  have h1 := (newS_is hit).1
  rw [listA_len] at h1
  exact Nat.le_trans (treeA_len f n) h1
 refine wp_skip (wp_seq (wp_region_lit ?_))
 refine lpr 0 1 hB TA_ok [10] [] [] hF (fun X2 a0 w1 hF => ?_)
 refine man_callM rfl rfl rfl rfl hF rfl rfl enters22 (tof_m A n c f hn fun i hi => (hN i hi).2.1) (fun _ _ h => h) (fun b hb => by cases hb) (zl) (fun e he => by cases he) rfl rfl (fun y => lmK recV (y.c 0) (treeA f n)) (fun _ _ _ _ _ _ _ _ _ h => h.2) ?_
 intro y a0 w1 hF
 obtain ⟨bT, hbT⟩ := eqv (y.c 0)
 rw [← hbT] at hF
 refine lnd 2 hB TA_ok [4] [4] [] hF (fun X3 a0 w1 hF => ?_)
 have hF := hF.fz (tm' := [(4, tEp (X3 2).b bT)]) ⟨rfl, fz_ptr, trivial⟩
 refine wp_seq (rg hB TA_ok [5, 4] [5] [] hF fun X4 a0 w1 hF => ?_)
 refine wp_seq (rg hB TA_ok [6, 5, 4] [6, 5] [] hF fun X5 a0 w1 hF => ?_)
 refine wp_seq (rg hB TA_ok [6, 5] [6, 5] [] hF fun X6 a0 w1 hF => ?_)
 obtain ⟨bt, hbt⟩ := eqv ((X3 2).b)
 obtain ⟨bO, hbO⟩ := eqv ((X4 0).b)
 obtain ⟨bM, hbM⟩ := eqv ((X5 0).b)
 have hF := hF.rekey (key' := 900) (tm' := [(6, .ptr 900 (X5 0).b 0), (5, .ptr 5 (X4 0).b 0)]) ⟨rfl, fz_key, rfl, fz_id, trivial⟩
 have hF := hF.memS (cells' := [.fn 23 [] [tEp (X3 2).b bT, .ptr 901 (X4 0).b 0, .ptr 900 (X5 0).b 0]]) ⟨Sim.fn trivial ⟨zr, Sim.ptr, Sim.ptr, trivial⟩, trivial⟩
 have hF := hF.keep [6, 5] [5, 900]
 have hF := hF.rekey (key' := 901) (tm' := [(6, .ptr 900 (X5 0).b 0), (5, .ptr 901 (X4 0).b 0)]) ⟨rfl, fz_id, rfl, fz_key, trivial⟩
 have hF := hF.fresh (Below.refl _ _) 77 (t := ⟨none, 0, 0, 2, 58⟩) (by decide) (Own.nil _ _ _ _ none)
 have hF := Fits.memS (cells' := [.sl (some 77) none 0 0 2 (fun i => itC ((fun _ => zeroItm) i))]) hF ⟨sim_nils, trivial⟩
 refine wp_seq (wp_region_lit ?_)
 refine lpr 0 2 hB TA_ok [13, 14, 5, 6] [901, 900, 77] [] hF (fun X7 a0 w1 hF => ?_)
 refine man_inl rfl rfl rfl rfl hF rfl rfl enters23 (fun t ht => by injection ht with ht; subst ht; decide) (fun hmm haa hargs => ?_)
 have htE := hargs (tEp (X3 2).b bT) (by simp)
 have hself : ∀ tm, ((lmK recV bT (treeA f n)).and (okT tm)).self := fun tm => and_self' lmK_self (okT_self tm)
 refine Calls.mono (means_c (treeA f n) hTA hTl 65 ⟨0, 0⟩ ⟨by decide, by decide⟩ (by decide) (by decide) _ ?hx ?hs w1 [] _ _ ⟨none, 0, 0, fun _ => zeroItm, rfl, rfl, rfl⟩ ?hl hmm htE) ?_
 case hx => exact fun m w h => h.1
 case hs => exact hself _
 case hl =>
  have := cnt_le ((treeA f n).map (·.1)) ⟨0, 0⟩
  rw [List.length_map] at this
  simp only [List.length_nil]
  omega
 rintro e w' ⟨v, rfl, rfl, mem', gr', hO', hm'⟩
 refine ⟨.tup [], rfl, mem', gr', _, .tup _ (fun u hu => by cases hu), hm', fun a' hF => wpList_nil ?_⟩
 obtain ⟨A2, n2, c2, g2, hg2, rfl, rfl⟩ := hO'
 refine wp_seq (rg hB TA_ok [2, 3] [901, 77] [] hF fun X8 a0 w1 hF => ?_)
 refine wp_ret (rsi hB TA_ok hF ⟨0, fun _ => A2, fun _ => c2, fun _ => .empty⟩ (he := ?_))
 subst hB
 have hI : itemsP (rwsA f n) = firsts g2 n2 := by
  unfold itemsP
  rw [if_pos hit, hg2, List.nil_append, tre_eq]
 have hE : itemsE (rwsA f n) = 0 := by unfold itemsE; rw [if_pos hit]
 rw [hI, hE]
 unfold rowI
 exact Sim.tup ⟨Sim.resl (by rw [firsts_len]) (fun t ht => by rw [firsts_len] at ht; rw [firsts_get _ _ t ht]), zr, trivial⟩
structure OldB (B : Nat) (w w' : World) : Prop where
 os : w'.os = w.os
 tape : w'.tape = w.tape
 output : w'.output = w.output
 size : B ≤ w'.heap.size
 block : ∀ k, k < B → w'.heap[k]? = w.heap[k]?
def CompE (B n : Nat) (f : Nat → Itm) (w : World) (e : Ending) (w' : World) : Prop := ∃ A m c, e = .returned (.slice A m c) ∧ decide (m < n) = dupB n f ∧ m ≤ n ∧ OldB B w w'
def cutW (w : World) (B : Nat) : World := { w with heap := w.heap.extract 0 B }
theorem cut_size {w : World} {B : Nat} (h : B ≤ w.heap.size) : (cutW w B).heap.size = B := by
 simp [cutW]; omega
theorem cut_at {w : World} {B k : Nat} (hk : k < B) : (cutW w B).heap[k]? = w.heap[k]? := by
 simp [cutW, Array.getElem?_extract]
 intro h; omega
theorem old_of {w w' : World} {B : Nat} (hB : B ≤ w.heap.size) {S : Nat → Prop} (hS : ∀ k, ¬ S k) (h : Chg S (cutW w B) w') : OldB B w w' :=
 ⟨h.os, h.tape, h.output, by have := h.size; rwa [cut_size hB] at this, fun k hk => by
  have := h.block k (by rw [cut_size hB]; exact hk) (hS k)
  rw [this, cut_at hk]⟩
abbrev eqF : AV := .fn 41 [] []
theorem item_cells (x : Itm) : ∀ v ∈ itC x, v.one = true := by
 intro v hv
 simp only [itC, List.mem_cons, List.not_mem_nil, or_false] at hv
 rcases hv with rfl | rfl <;> rfl
theorem sub_ok {m : Nat → Nat → Prop} {w : World} {g : Option Nat} {A : Option Addr} {n c k i : Nat} {f : Nat → List AV} (h : Ok m w (.sl g A n c k f)) (hi : i ≤ n) : Ok m w (.sl none (adrOf A c i k) (n - i) (c - i) k (fun t => f (i + t))) := by
 cases h with
 | sl _ _ _ _ _ _ h1 h2 h3 h4 h5 h6 h7 =>
  have hA : ∀ t, t < n - i → ∃ b off, A = some ⟨b, off, none⟩ ∧ adrOf A c i k = some ⟨b, off + i * k, none⟩ := by
   intro t ht
   obtain ⟨b, off, hA⟩ := h4 (i + t) (by omega)
   refine ⟨b, off, hA, ?_⟩
   unfold adrOf
   rw [if_neg (by omega), hA]
   simp [Addr.add]
  refine .sl _ _ _ _ _ _ (by omega) (by omega) (fun t ht => h3 _ (by omega)) (fun t ht => ?_) (fun t ht j u hu => ?_) (fun t ht => h6 _ (by omega)) (fun t ht => h7 _ (by omega))
  ·obtain ⟨b, off, _, h⟩ := hA t ht
   exact ⟨b, _, h⟩
  obtain ⟨b, off, hA1, hA2⟩ := hA t ht
  obtain ⟨b', off', e1, e2, e3⟩ := h5 (i + t) (by omega) j u hu
  rw [hA1] at e1
  injection e1 with e1; injection e1 with e4 e5
  subst e4; subst e5
  have : off + i * k + (t * k + j) = off + ((i + t) * k + j) := by rw [Nat.add_mul]; omega
  exact ⟨b, _, hA2, by rw [this]; exact e2, by rw [this]; exact e3⟩
section
variable {a : Act} {m : Nat → Nat → Prop} {w : World}
theorem hl_nil : ∀ x, (look ([] : List (Nat × AV)) x).known = true → a.tmps[x]? = some (look ([] : List (Nat × AV)) x).den ∧ Ok m w (look ([] : List (Nat × AV)) x) := fun x h => by cases h
theorem hl_cons {k : Nat} {v : AV} {l : List (Nat × AV)} (h1 : a.tmps[k]? = some v.den ∧ Ok m w v) (h2 : ∀ x, (look l x).known = true → a.tmps[x]? = some (look l x).den ∧ Ok m w (look l x)) : ∀ x, (look ((k, v) :: l) x).known = true → a.tmps[x]? = some (look ((k, v) :: l) x).den ∧ Ok m w (look ((k, v) :: l) x) := by
 intro x hx
 rw [look_cons] at hx ⊢
 by_cases h : k = x
 ·subst h; rw [if_pos rfl]; exact h1
 rw [if_neg h] at hx ⊢; exact h2 x hx
end
theorem zeroCells_flat {cs : Array Value} {zc : List AV} (h : cs.toList = zc.map AV.den) : ∀ m, (Builtin.zeroCells cs m).toList = rowFlat (fun _ => zc) m
 | 0 => by simp [Builtin.zeroCells, rowFlat]
 | m + 1 => by
  have ih := zeroCells_flat h m
  have hs : cs.size = zc.length := by rw [← Array.length_toList, h, List.length_map]
  rw [rowFlat_succ, ← ih, ← h]
  unfold Builtin.zeroCells
  rw [Array.toList_map, Array.toList_map, Array.toList_range, Array.toList_range, Nat.add_mul, Nat.one_mul, List.range_add, List.map_append]
  congr 1
  apply List.ext_getElem
  ·simp
  intro i h1 h2
  have hi : i < cs.size := by simpa using h2
  simp [Nat.mod_eq_of_lt hi, hi]
theorem man_rclear {m0 : Nat → Nat → Prop} {w0 w : World} {S : Nat → Prop} {ds : List Deferred} {K : Kn} {nt key : Nat} {l : List (Nat × AV)} {mem : List (Nat × Blk)} {a : Act} {P : Program} {Q : Exit → Act → World → Prop} {ops : Array Oper} {L rest : List Oper} {o : Oper} {cl : Call} {x : Operand} {A : Option Addr} {n c k e t bytes lo : Nat} {f : Nat → List AV} {g : Option Nat} {cells : Nat → List AV} {z : Value} {zc : List AV} (hL : L = o :: rest) (hg : o.guard = none) (hop : o.op = .call cl) (hc1 : cl.callee = .builtin .clear) (hc2 : cl.args = #[x]) (hc3 : cl.argTypes = #[t]) (hdst : o.dst = none)
  (h : Fits ⟨m0, w0, S, ds, K⟩ ⟨nt, l, [], mem, [(key, ⟨A, n, c, k, e⟩)]⟩ a w) (hx : val ⟨nt, l, [], mem, [(key, ⟨A, n, c, k, e⟩)]⟩ [] x = .sl none (adrOf A c lo k) (n - lo) (c - lo) k cells) (E : ElemTy P t e k bytes z) (hz : z.cells.toList = zc.map AV.den) (hz1 : ∀ v ∈ zc, v.one = true) (hzl : zc.length = k) {m : Nat → Nat → Prop} (hrow : Ok m w (.sl g A n c k f)) (hk : ∀ j, j < n → (f j).length = k) (hlo : lo < n)
  (Kc : ∀ w', Own w' w0.heap.size e k (.slice A n c) n (rowFlat (appC lo f (fun _ => zc)) n) → Chg (fun b => ownB (.slice A n c) = some b) w w' → wpList P ops Q rest a w') : wpList P ops Q L a w := by
 have hO := gr_own h hrow
 have hflen := rowFlat_len hk
 have hzf := zeroCells_flat hz (n - lo)
 have hzfl : (rowFlat (fun _ => zc) (n - lo)).length = (n - lo) * k := rowFlat_len (fun _ _ => hzl)
 have hmul : lo * k + (n - lo) * k = n * k := by rw [← Nat.add_mul]; congr 1; omega
 obtain ⟨b, cur, hA, hb, hcs, hnc, hob, hO2, hchg⟩ := own_set hO (o := lo * k) (vs := rowFlat (fun _ => zc) (n - lo)) (by rw [hzfl]; omega) (by omega)
 have hxv := (val_ok h (q := []) (fun _ h => by cases h) (x := x) (by rw [hx]; rfl)).1
 rw [hx] at hxv
 have hcn : n ≤ c := by cases hrow with | sl _ _ _ _ _ _ h1 => exact h1
 have hden : a.eval x = .slice (some ⟨b, lo * k, none⟩) (n - lo) (c - lo) := by
  rw [hxv]
  simp only [AV.den]
  unfold adrOf
  rw [if_neg (by omega), hA]
  simp [Addr.add]
  try exact fun h => h.symm
 have hrun := run_clear_in (P := P) (w := w) E o.type hb (o := lo * k) (len := n - lo) (cap := c - lo) (by rw [hcs]; omega) (fun v hv => by
  rw [hz] at hv
  obtain ⟨y, hy, rfl⟩ := List.mem_map.1 hv
  exact one_of (hz1 y hy))
 rw [hzf] at hrun
 refine man_op hL hg ?_
 unfold Oper.wp
 have e1 : (execOp a.eval o).run P w = .ok (.value (.tuple #[])) (w.setRow b (cur.toList.take (lo * k) ++ rowFlat (fun _ => zc) (n - lo) ++ cur.toList.drop (lo * k + (n - lo) * k)).toArray) := by
  simp [execOp, hop, hc1, hc2, hc3, resolve, invoke, builtin, hden, hrun, Result.andThen]
 rw [e1]
 simp only [Oper.upon]
 rw [hdst]
 rw [hzfl] at hO2 hchg
 refine Kc _ ?_ hchg
 have hfl : rowFlat (appC lo f (fun _ => zc)) n = (rowFlat f n).take (lo * k) ++ rowFlat (fun _ => zc) (n - lo) ++ (rowFlat f n).drop (lo * k + (n - lo) * k) := by
  rw [show rowFlat (appC lo f (fun _ => zc)) n = rowFlat (appC lo f (fun _ => zc)) (lo + (n - lo)) by congr 1; omega, rowFlat_app, List.drop_eq_nil_of_le (by rw [hflen]; omega), List.append_nil]
  congr 1
  have := rowFlat_app f (fun i => f (lo + i)) lo (n - lo)
  have e2 : appC lo f (fun i => f (lo + i)) = f := by
   funext i
   unfold appC
   split
   ·rfl
   show f (lo + (i - lo)) = f i
   rw [show lo + (i - lo) = i by omega]
  rw [e2, show lo + (n - lo) = n by omega] at this
  rw [this, List.take_append_of_le_length (by rw [rowFlat_len (fun i hi => hk i (by omega))]; omega), List.take_of_length_le (by rw [rowFlat_len (fun i hi => hk i (by omega))]; omega)]
 rw [hfl]
 exact hO2
theorem compact_c {B n c : Nat} {A : Option Addr} {f : Nat → Itm} {w : World} (hO : Own w B 58 2 (.slice A n c) n (rowFlat (fun t => itC (f t)) n)) (hBw : B ≤ w.heap.size) (hn : n ≤ 1000000) (hs : ∀ i, i < n → (f i).val.size ≤ maxLen) :
  Calls Tryz.prog 39 ([.sl (some 77) A n c 2 (fun t => itC (f t)), eqF].map AV.den).toArray w (CompE B n f w) := by
 have hmx : maxLen = 9223372036854775807 := rfl
 obtain ⟨wB, hwB⟩ := eqv (cutW w B)
 have hsz : wB.heap.size = B := by rw [hwB]; exact cut_size hBw
 have hitok : ∀ (m : Nat → Nat → Prop) (w : World) (x : Itm), x.val.size ≤ maxLen → ∀ v ∈ itC x, v.one = true ∧ Ok m w v := fun m w x hx v hv => by
  simp only [itC, List.mem_cons, List.not_mem_nil, or_false] at hv
  rcases hv with rfl | rfl
  ·exact ⟨rfl, .int _ _⟩
  exact ⟨rfl, .str _ hx⟩
 have hgrm : ∀ b, ownB (.slice A n c) = some b → ∀ o, o < n * 2 → ¬ mG (fun _ _ => False) [] [(77, ⟨A, n, c, 2, 58⟩)] b o := by
  intro b hb o ho hm
  rcases hm with hm | ⟨k, e, he, _⟩ | ⟨k, t', ht, _, hle⟩
  ·exact hm
  ·cases he
  simp only [lookM] at ht
  split at ht
  ·injection ht with ht; subst ht; simp only at hle; omega
  cases ht
 have hrow : Ok (mG (fun _ _ => False) [] [(77, ⟨A, n, c, 2, 58⟩)]) w (.sl (some 77) A n c 2 (fun t => itC (f t))) :=
  own_known2 hO (fun _ _ => rfl) hgrm (fun i hi => hitok _ _ _ (hs i hi)) _
 have hmem : Mem (fun _ _ => False) wB (fun _ => False) noK [] [(77, ⟨A, n, c, 2, 58⟩)] w := by
  refine ⟨rfl, rfl, (fun t ht => by cases ht), (fun t p v he => by cases he), (fun k e he => by cases he), (fun k k' e e' he => by cases he), fun k t ht => ?_, (fun k t k' e _ he => by cases he), fun k t k' t' b ht ht' hne => ?_, ?_, fun b o h => h.elim, trivial⟩
  ·simp only [lookM] at ht
   split at ht
   ·injection ht with ht; subst ht
    exact ⟨Nat.succ_pos 1, _, by show Own w wB.heap.size _ _ _ _ _; rw [hsz]; exact hO⟩
   cases ht
  ·simp only [lookM] at ht ht'
   split at ht
   ·split at ht'
    ·rename_i h1 h2
     exact absurd (by simp at h1 h2; omega) hne
    cases ht'
   cases ht
  rw [hwB]
  exact ⟨rfl, rfl, rfl, by show (cutW w B).heap.size ≤ _; rw [cut_size hBw]; exact hBw, fun k hk _ => by rw [cut_at (by rw [cut_size hBw] at hk; exact hk)]⟩
 have hargs : ∀ v ∈ [AV.sl (some 77) A n c 2 (fun t => itC (f t)), eqF], Ok (mT (fun _ _ => False) [] [(77, ⟨A, n, c, 2, 58⟩)]) w v := by
  intro v hv
  simp only [List.mem_cons, List.not_mem_nil, or_false] at hv
  rcases hv with rfl | rfl
  ·exact hrow
  exact .fn _ _ _ (fun v hv => by cases hv) (fun v hv => by cases hv)
 refine enI 66 hmem hargs Tryz.func39 fun B' hB a0 hF => ?_
 refine wp_seq (rg hB TA_ok [0, 1] [77] [] hF fun X0 a0 w1 hF => ?_)
 refine wp_seq (wp_seq (rg hB TA_ok [10, 0, 1] [77] [] hF fun X1 a0 w1 hF => ?_))
 apply test_ok hF rfl <;> intro hb hF
 ·have hn2 : n < 2 := by
   have : (n : Int) < 2 := by subst hB; simpa [std, sC] using hb
   omega
  refine wp_seq (rg hB TA_ok [4] [77] [] hF fun X2 a0 w1 hF => ?_)
  refine wp_ret (retI (R := CompE B n f w) hB TA_ok hF (fun hm' _ => ⟨A, n, c, rfl, ?_, Nat.le_refl _, old_of hBw (fun _ h => h) (by rw [← hwB]; exact hm'.chg)⟩)).1
  rw [decide_eq_false (Nat.lt_irrefl _)]
  unfold dupB
  rw [show n - 1 = 0 by omega]
  rfl
 have hn2 : ¬ n < 2 := by
  have : ¬ (n : Int) < 2 := by subst hB; simpa [std, sC] using hb
  omega
 refine wp_skip (wp_seq (wp_seq (rg hB TA_ok [5, 0, 1] [77] [] hF fun X2 a0 w1 hF => ?_)))
 refine (wp_block (loop_pre (ι := Nat) (fun p => [(5, .int .i64 (p : Int))]) (fun p => []) (fun p => []) (fun p => 1 ≤ p ∧ p ≤ n ∧ ∀ t, t + 1 < p → ¬ (f (t + 1)).key = (f t).key) (fun p => n - p) 1 ⟨Nat.le_refl _, by omega, fun t ht => absurd ht (by omega)⟩ hF ?_))
 rintro i ⟨hi1, hi, hlt⟩ a0 w1 hF
 refine wp_seq (wp_seq (rg hB TA_ok [15, 5, 0, 1] [77] [] hF fun X3 a0 w1 hF => ?_))
 refine test_ok hF rfl (fun hb2 hF => ?_) (fun hb2 hF => ?_)
 ·have hin : i < n := by
   have : (i : Int) < (n : Int) := by subst hB; simpa [std, sC] using hb2
   omega
  have e2 : std.arith .sub .i64 (i : Int) 1 = ((i - 1 : Nat) : Int) := by show IntKind.i64.wrap ((i : Int) - 1) = _; rw [wrap_in (by omega) (by omega)]; omega
  have e3 : std.toNat (std.arith .sub .i64 (i : Int) 1) = i - 1 := by rw [e2]; rfl
  have S := eqkI_s (f i) (f (std.toNat (std.arith .sub .i64 (i : Int) 1)))
  obtain ⟨q, hq⟩ := eqv (decide ((f i).key = (f (i - 1)).key))
  have hq2 : decide ((f i).key = (f (std.toNat (std.arith .sub .i64 (i : Int) 1))).key) = q := by rw [hq, e3]
  rw [hq2] at S
  refine wp_skip (wp_seq (wp_block (wp_seq (drg hB TA_ok [28, 5, 0, 1] [77] [(10, .r fun _ => .bool (.v q))] hF (fun X4 a0 w1 hF => ?_) (hob := ?hob)))))
  case hob =>
   intro X; subst hB
   repeat (first | exact trivial | refine ⟨rfl, ?_⟩ | refine ⟨(show (0 : Int) ≤ (i : Int) ∧ (i : Int) < (n : Int) by omega), ?_⟩ | refine ⟨(show (0 : Int) ≤ std.arith .sub .i64 (i : Int) 1 ∧ std.arith .sub .i64 (i : Int) 1 < (n : Int) by rw [e2]; omega), ?_⟩ | refine ⟨⟨fun _ _ => by kernel_rfl, S⟩, ?_⟩)
  refine test_ok hF rfl (fun hb3 hF => ?_) (fun hb3 hF => ?_)
  ·have hdup : dupB n f = true := by
    have h5 : q = true := by subst hB; exact hb3
    rw [hq, decide_eq_true_eq] at h5
    unfold dupB
    rw [List.any_eq_true]
    exact ⟨i - 1, List.mem_range.2 (by omega), by rw [show i - 1 + 1 = i by omega, decide_eq_true_eq]; exact h5⟩
   refine wp_seq (rg hB TA_ok [6, 5, 0, 1] [77] [] hF (fun X5 a0 w1 hF => ?_))
   obtain ⟨A6, hA6⟩ := eqv (adrOf A c i 2)
   obtain ⟨n6, hn6⟩ := eqv (n - i)
   obtain ⟨c6, hc6⟩ := eqv (c - i)
   have hF := hF.headS (v' := .sl none A6 n6 c6 2 (fun t => itC (f (i + t)))) (by subst hB; rw [hA6, hn6, hc6]; exact zr) rfl
   refine wp_seq (wp_seq (rg hB TA_ok [7, 5, 0, 6, 1] [77] [] hF fun X6 a0 w1 hF => ?_))
   refine wp_block (loop_any (ι := Nat × Nat × (Nat → Itm)) (fun p a w1 => Fits ⟨fun _ _ => False, wB, fun _ => False, [], noK⟩ ⟨66, [(7, .int .i64 (p.1 : Int)), (5, .int .i64 (p.2.1 : Int)), (0, .sl (some 77) A n c 2 (fun t => itC (p.2.2 t))), (6, .sl none A6 n6 c6 2 (fun t => itC (p.2.2 (i + t)))), (1, eqF)], [], [], [(77, ⟨A, n, c, 2, 58⟩)]⟩ a w1) (fun p => 1 ≤ p.1 ∧ p.1 ≤ n6 ∧ i ≤ p.2.1 ∧ p.2.1 + 1 ≤ i + p.1 ∧ ∀ t, t < n → (p.2.2 t).val.size ≤ maxLen) (fun p => n6 - p.1) (1, i, f) ⟨Nat.le_refl _, by omega, Nat.le_refl _, Nat.le_refl _, hs⟩ hF ?_)
   rintro ⟨j, k, g⟩ ⟨hj1, hj, hk0, hk1, hsg⟩ a0 w1 hF
   dsimp only at hj1 hj hk0 hk1 hsg hF
   obtain ⟨gs, hgs⟩ : ∃ x : Nat → Itm, x = fun t => g (i + t) := ⟨_, rfl⟩
   have egs : (fun t => itC (g (i + t))) = fun t => itC (gs t) := by rw [hgs]
   rw [egs] at hF
   refine wp_seq (wp_seq (rg hB TA_ok [35, 7, 5, 0, 6, 1] [77] [] hF fun X7 a0 w1 hF => ?_))
   refine test_ok hF rfl (fun hb4 hF => ?_) (fun hb4 hF => ?_)
   ·have hjn : j < n6 := by
     have : (j : Int) < (n6 : Int) := by subst hB; simpa [std, sC] using hb4
     omega
    have ej2 : std.arith .sub .i64 (j : Int) 1 = ((j - 1 : Nat) : Int) := by show IntKind.i64.wrap ((j : Int) - 1) = _; rw [wrap_in (by omega) (by omega)]; omega
    have ej3 : std.toNat (std.arith .sub .i64 (j : Int) 1) = j - 1 := by rw [ej2]; rfl
    have S2 := eqkI_s (gs j) (gs (std.toNat (std.arith .sub .i64 (j : Int) 1)))
    obtain ⟨q2, hq2⟩ := eqv (decide ((gs j).key = (gs (std.toNat (std.arith .sub .i64 (j : Int) 1))).key))
    rw [← hq2] at S2
    refine wp_skip (wp_seq (wp_block (wp_seq (drg hB TA_ok [49, 7, 5, 0, 6, 1] [77] [(10, .r fun _ => .bool (.v q2))] hF (fun X8 a0 w1 hF => ?_) (hob := ?hob3)))))
    case hob3 =>
     intro X; subst hB
     repeat (first | exact trivial | refine ⟨rfl, ?_⟩ | refine ⟨(show (0 : Int) ≤ (j : Int) ∧ (j : Int) < (n6 : Int) by omega), ?_⟩ | refine ⟨(show (0 : Int) ≤ std.arith .sub .i64 (j : Int) 1 ∧ std.arith .sub .i64 (j : Int) 1 < (n6 : Int) by rw [ej2]; omega), ?_⟩ | refine ⟨⟨fun _ _ => by kernel_rfl, S2⟩, ?_⟩)
    have eJ : B'.arith .add .i64 (j : Int) 1 = ((j + 1 : Nat) : Int) := by subst hB; exact wrap_succ (n := n6) hjn (by omega)
    refine test_ok hF rfl (fun hb5 hF => ?_) (fun hb5 hF => ?_)
    ·refine wp_seq (wp_region_lit ?_)
     refine lpr 0 7 hB TA_ok [56, 55, 7, 5, 0, 6, 1] [77] [] hF (fun X9 a0 w1 hF => ?_) (hob := ?hob4)
     case hob4 =>
      intro X; subst hB
      repeat (first | exact trivial | refine ⟨rfl, ?_⟩ | refine ⟨(show (0 : Int) ≤ (j : Int) ∧ (j : Int) < (n6 : Int) by omega), ?_⟩ | refine ⟨(show (0 : Int) ≤ (k : Int) ∧ (k : Int) < (n : Int) by omega), ?_⟩)
     have hj6 : j < n6 := hjn
     have hF := hF.headS (v' := .ep A k 2 0 (itC (g k))) (by subst hB; exact zr) rfl
     have hrowk : Ok _ w1 (.sl (some 77) A n c 2 (fun t => itC (g t))) := (hF.slot 0 rfl).2
     have hF := hF.reslot 55 (.agg (itC (gs j))) rfl (by subst hB; rfl) (.agg _ (fun v hv => (hitok (fun _ _ => False) w1 (gs j) (by rw [hgs]; exact hsg _ (by omega)) v hv).1) (fun v hv => (hitok _ w1 (gs j) (by rw [hgs]; exact hsg _ (by omega)) v hv).2))
     refine man_rstore rfl rfl rfl rfl hF rfl rfl (.inr rfl) TA_ok rfl rfl hrowk (fun _ _ => rfl) (show k < n by omega) (Nat.le_refl 2) (fun w2 hO2 hc2 _ => ?_)
     obtain ⟨g2, hg2⟩ : ∃ x : Nat → Itm, x = fun t => if t = k then gs j else g t := ⟨_, rfl⟩
     have efl : wrC (fun t => itC (g t)) k 0 (itC (gs j)) = fun t => itC (g2 t) := by
      funext t
      rw [hg2]
      unfold wrC
      by_cases h : t = k
      ·simp [h, itC]
      simp [h]
     have hO2 : Own w2 wB.heap.size 58 2 (.slice A n c) n (rowFlat (fun t => itC (g2 t)) n) := by rw [← efl]; exact hO2
     have hsg2 : ∀ t, t < n → (g2 t).val.size ≤ maxLen := fun t ht => by
      rw [hg2]
      dsimp only
      split
      ·rw [hgs]; exact hsg _ (by omega)
      exact hsg t ht
     have hrow2 : Ok (mG (fun _ _ => False) [] [(77, ⟨A, n, c, 2, 58⟩)]) w2 (.sl (some 77) A n c 2 (fun t => itC (g2 t))) := own_known2 hO2 (fun _ _ => rfl) hgrm (fun i hi => hitok _ _ _ (hsg2 i hi)) _
     have hsub2 : Ok (mG (fun _ _ => False) [] [(77, ⟨A, n, c, 2, 58⟩)]) w2 (.sl none A6 n6 c6 2 (fun t => itC (g2 (i + t)))) := by
      rw [hA6, hn6, hc6]
      exact sub_ok hrow2 (by omega)
     have hF := Fits.rowset (K' := noK) (l' := [(7, .int .i64 (j : Int)), (5, .int .i64 (k : Int)), (0, .sl (some 77) A n c 2 (fun t => itC (g2 t))), (6, .sl none A6 n6 c6 2 (fun t => itC (g2 (i + t)))), (1, eqF)]) hF hc2 hO2 (hl_cons ⟨(hF.slot 7 rfl).1, .int _ _⟩ (hl_cons ⟨(hF.slot 5 rfl).1, .int _ _⟩ (hl_cons ⟨(hF.slot 0 rfl).1, hrow2⟩ (hl_cons ⟨(hF.slot 6 rfl).1, hsub2⟩ (hl_cons ⟨(hF.slot 1 rfl).1, .fn _ _ _ (fun v hv => by cases hv) (fun v hv => by cases hv)⟩ hl_nil))))) (fun k e he => by cases he) trivial
     refine wpList_nil ?_
     refine rg hB TA_ok [5, 7, 0, 6, 1] [77] [] hF fun X10 a0 w1 hF => ?_
     have eK : B'.arith .add .i64 (k : Int) 1 = ((k + 1 : Nat) : Int) := by subst hB; exact wrap_succ (n := n) (by omega) (by omega)
     refine rg hB TA_ok [7, 5, 0, 6, 1] [77] [] hF fun X11 a0 w1 hF => ?_
     exact ⟨(j + 1, k + 1, g2), ⟨by simp only; omega, by simp only; omega, by simp only; omega, by simp only; omega, hsg2⟩, by simp only; omega, by simp only; rw [← eJ, ← eK]; exact hF⟩
    refine wp_skip (rg hB TA_ok [7, 5, 0, 6, 1] [77] [] hF fun X9 a0 w1 hF => ?_)
    exact ⟨(j + 1, k, g), ⟨by simp only; omega, by simp only; omega, hk0, by simp only; omega, hsg⟩, by simp only; omega, by simp only; rw [egs, ← eJ]; exact hF⟩
   have hjn : j = n6 := by
    have : ¬ (j : Int) < (n6 : Int) := by subst hB; simpa [std, sC] using hb4
    omega
   refine wp_exit (wp_seq (wp_region_lit ?_))
   refine lpr 0 3 hB TA_ok [61, 5, 0, 1] [77] [] hF (fun X8 a0 w1 hF => ?_)
   have hrowk : Ok _ w1 (.sl (some 77) A n c 2 (fun t => itC (g t))) := (hF.slot 0 rfl).2
   have hkn : k < n := by omega
   have hF := hF.headS (v' := .sl none (adrOf A c k 2) (n - k) (c - k) 2 (fun t => itC (g (k + t)))) (by subst hB; exact zr) rfl
   refine man_rclear (zc := itC zeroItm) rfl rfl rfl rfl rfl rfl rfl hF rfl Cl.etyI rfl (item_cells _) rfl hrowk (fun _ _ => rfl) hkn (fun w2 hO2 hc2 => ?_)
   have hrow2 : Ok (mG (fun _ _ => False) [] [(77, ⟨A, n, c, 2, 58⟩)]) w2 (.sl (some 77) A n c 2 (appC k (fun t => itC (g t)) (fun _ => itC zeroItm))) := own_known2 (by rw [← hsz] at *; exact hO2) (fun j hj => by unfold appC; split <;> rfl) hgrm (fun j hj => by
    unfold appC
    split
    ·exact hitok _ _ _ (hsg j hj)
    exact hitok _ _ _ (Nat.zero_le _)) _
   have hF := Fits.rowset (K' := noK) (l' := [(0, .sl (some 77) A n c 2 (appC k (fun t => itC (g t)) (fun _ => itC zeroItm))), (5, .int .i64 (k : Int))]) hF hc2 hO2 (hl_cons ⟨(hF.slot 0 rfl).1, hrow2⟩ (hl_cons ⟨(hF.slot 5 rfl).1, .int _ _⟩ hl_nil)) (fun k e he => by cases he) trivial
   refine wpList_nil ?_
   obtain ⟨fz, hfz⟩ := eqv (appC k (fun t => itC (g t)) (fun _ => itC zeroItm))
   rw [← hfz] at hF
   refine wp_seq (rg hB TA_ok [4] [77] [] hF fun X9 a0 w1 hF => ?_)
   subst hB
   refine wp_ret (retI (B := std) (R := CompE B n f w) rfl TA_ok hF (fun hm' _ => ⟨_, k, _, rfl, ?_, by omega, old_of hBw (fun _ h => h) (by rw [← hwB]; exact hm'.chg)⟩)).1
   rw [hdup, decide_eq_true (by omega)]
  have hbq : q = false := by subst hB; exact hb3
  have eI : B'.arith .add .i64 (i : Int) 1 = ((i + 1 : Nat) : Int) := by subst hB; exact wrap_succ (n := n) hin (by omega)
  refine wp_skip (rg hB TA_ok [5, 0, 1] [77] [] hF fun X5 a0 w1 hF => ?_)
  refine ⟨i + 1, ⟨by omega, by omega, fun t ht => ?_⟩, by omega, by rw [← eI]; exact hF⟩
  rcases Nat.lt_or_ge (t + 1) i with h5 | h5
  ·exact hlt t h5
  have : t = i - 1 := by omega
  subst this
  rw [show i - 1 + 1 = i by omega]
  rw [hq] at hbq
  exact of_decide_eq_false hbq
 have hin : i = n := by
  have : ¬ (i : Int) < (n : Int) := by subst hB; simpa [std, sC] using hb2
  omega
 refine wp_exit (wp_seq (rg hB TA_ok [4] [77] [] hF fun X4 a0 w1 hF => ?_))
 refine wp_ret (retI (R := CompE B n f w) hB TA_ok hF (fun hm' _ => ⟨A, n, c, rfl, ?_, Nat.le_refl _, old_of hBw (fun _ h => h) (by rw [← hwB]; exact hm'.chg)⟩)).1
 rw [decide_eq_false (Nat.lt_irrefl _)]
 symm
 unfold dupB
 rw [List.any_eq_false]
 intro t ht
 have h5 := List.mem_range.1 ht
 rw [decide_eq_true_eq]
 exact hlt t (by omega)
end Go.Proofs.YtpgjalaldhlcoaaGreat.Sym
namespace Go.Proofs
open Go.Shelf
def Tryz.sortRow_ren : Go.Shelf.Ren := ⟨fun | 6 => 45 | 15 => 72 | 14 => 77 | 28 => 94 | 29 => 95 | 20 => 97 | 21 => 98 | 22 => 99 | 23 => 100 | 24 => 101 | 25 => 102 | 26 => 103 | 27 => 104 | 46 => 112 | 47 => 108 | 48 => 109 | 49 => 113 | 50 => 114 | 57 => 116 | n => n, fun | 22 => 22 | 24 => 46 | 25 => 84 | 3 => 3 | 39 => 121 | 0 => 0 | 53 => 141 | 55 => 40 | 4 => 4 | 46 => 135 | 45 => 134 | 50 => 111 | 5 => 5 | 9 => 9 | 66 => 151 | 70 => 155 | 76 => 159 | 77 => 160 | n => n, fun | n => n⟩
theorem Tryz.sortRow : Go.Proofs.SlLaysF0.n6 Tryz.prog Tryz.sortRow_ren := {
 mixed := by kernel_rfl
 f6 := ⟨Tryz.f45.name, by decide, Tryz.func45.trans (congrArg some (by kernel_rfl))⟩
 f14 := ⟨Tryz.f77.name, by decide, Tryz.func77.trans (congrArg some (by kernel_rfl))⟩
 f15 := Tryz.func72.trans (congrArg some (by kernel_rfl))
 f20 := ⟨Tryz.f97.name, by decide, Tryz.func97.trans (congrArg some (by kernel_rfl))⟩
 f21 := ⟨Tryz.f98.name, by decide, Tryz.func98.trans (congrArg some (by kernel_rfl))⟩
 f22 := ⟨Tryz.f99.name, by decide, Tryz.func99.trans (congrArg some (by kernel_rfl))⟩
 f23 := ⟨Tryz.f100.name, by decide, Tryz.func100.trans (congrArg some (by kernel_rfl))⟩
 f24 := ⟨Tryz.f101.name, by decide, Tryz.func101.trans (congrArg some (by kernel_rfl))⟩
 f25 := ⟨Tryz.f102.name, by decide, Tryz.func102.trans (congrArg some (by kernel_rfl))⟩
 f26 := ⟨Tryz.f103.name, by decide, Tryz.func103.trans (congrArg some (by kernel_rfl))⟩
 f27 := ⟨Tryz.f104.name, by decide, Tryz.func104.trans (congrArg some (by kernel_rfl))⟩
 f28 := Tryz.func94.trans (congrArg some (by kernel_rfl))
 f29 := Tryz.func95.trans (congrArg some (by kernel_rfl))
 f46 := ⟨Tryz.f112.name, by decide, Tryz.func112.trans (congrArg some (by kernel_rfl))⟩
 f47 := Tryz.func108.trans (congrArg some (by kernel_rfl))
 f48 := Tryz.func109.trans (congrArg some (by kernel_rfl))
 f49 := ⟨Tryz.f113.name, by decide, Tryz.func113.trans (congrArg some (by kernel_rfl))⟩
 f50 := ⟨Tryz.f114.name, by decide, Tryz.func114.trans (congrArg some (by kernel_rfl))⟩
 f57 := ⟨Tryz.f116.name, by decide, Tryz.func116.trans (congrArg some (by kernel_rfl))⟩
 t0 := Tryz.underlying0
 a0 := Tryz.isAgg0
 z0 := Tryz.sizeOf0
 v0 := Tryz.zeroValue0
 t3 := Tryz.underlying3
 a3 := Tryz.isAgg3
 z3 := Tryz.sizeOf3
 v3 := Tryz.zeroValue3
 t4 := Tryz.underlying4
 a4 := Tryz.isAgg4
 z4 := Tryz.sizeOf4
 v4 := Tryz.zeroValue4
 t5 := Tryz.underlying5
 a5 := Tryz.isAgg5
 z5 := Tryz.sizeOf5
 v5 := Tryz.zeroValue5
 t9 := Tryz.underlying9
 a9 := Tryz.isAgg9
 z9 := Tryz.sizeOf9
 v9 := Tryz.zeroValue9
 t22 := Tryz.underlying22
 a22 := Tryz.isAgg22
 z22 := Tryz.sizeOf22
 v22 := Tryz.zeroValue22
 t25 := Tryz.underlying84
 a25 := Tryz.isAgg84
 z25 := Tryz.sizeOf84
 v25 := Tryz.zeroValue84
 t39 := Tryz.underlying121
 a39 := Tryz.isAgg121
 z39 := Tryz.sizeOf121
 v39 := Tryz.zeroValue121
 t45 := Tryz.underlying134
 a45 := Tryz.isAgg134
 z45 := Tryz.sizeOf134
 v45 := Tryz.zeroValue134
 t46 := Tryz.underlying135
 a46 := Tryz.isAgg135
 z46 := Tryz.sizeOf135
 v46 := Tryz.zeroValue135
 t50 := Tryz.underlying111
 a50 := Tryz.isAgg111
 z50 := Tryz.sizeOf111
 v50 := Tryz.zeroValue111
 t53 := Tryz.underlying141
 a53 := Tryz.isAgg141
 z53 := Tryz.sizeOf141
 v53 := Tryz.zeroValue141
 t55 := Tryz.underlying40
 a55 := Tryz.isAgg40
 z55 := Tryz.sizeOf40
 v55 := Tryz.zeroValue40
 t66 := Tryz.underlying151
 a66 := Tryz.isAgg151
 z66 := Tryz.sizeOf151
 v66 := Tryz.zeroValue151
 t70 := Tryz.underlying155
 a70 := Tryz.isAgg155
 z70 := Tryz.sizeOf155
 v70 := Tryz.zeroValue155
 t76 := Tryz.underlying159
 a76 := Tryz.isAgg159
 z76 := Tryz.sizeOf159
 v76 := Tryz.zeroValue159
 t77 := Tryz.underlying160
 a77 := Tryz.isAgg160
 z77 := Tryz.sizeOf160
 v77 := Tryz.zeroValue160 }
def Tryz.sortLab_ren : Go.Shelf.Ren := ⟨fun | 6 => 33 | 15 => 72 | 14 => 71 | 28 => 94 | 29 => 95 | 20 => 86 | 21 => 87 | 22 => 88 | 23 => 89 | 24 => 90 | 25 => 91 | 26 => 92 | 27 => 93 | 46 => 107 | 47 => 108 | 48 => 109 | 49 => 110 | 50 => 111 | 57 => 115 | n => n, fun | 22 => 32 | 24 => 42 | 25 => 72 | 3 => 3 | 39 => 121 | 0 => 0 | 53 => 141 | 55 => 40 | 4 => 4 | 46 => 135 | 45 => 134 | 50 => 111 | 5 => 5 | 9 => 9 | 66 => 151 | 70 => 155 | 76 => 159 | 77 => 160 | n => n, fun | n => n⟩
theorem Tryz.sortLab : Go.Proofs.SlLaysF0.n6 Tryz.prog Tryz.sortLab_ren := {
 mixed := by kernel_rfl
 f6 := ⟨Tryz.f33.name, by decide, Tryz.func33.trans (congrArg some (by kernel_rfl))⟩
 f14 := ⟨Tryz.f71.name, by decide, Tryz.func71.trans (congrArg some (by kernel_rfl))⟩
 f15 := Tryz.func72.trans (congrArg some (by kernel_rfl))
 f20 := ⟨Tryz.f86.name, by decide, Tryz.func86.trans (congrArg some (by kernel_rfl))⟩
 f21 := ⟨Tryz.f87.name, by decide, Tryz.func87.trans (congrArg some (by kernel_rfl))⟩
 f22 := ⟨Tryz.f88.name, by decide, Tryz.func88.trans (congrArg some (by kernel_rfl))⟩
 f23 := ⟨Tryz.f89.name, by decide, Tryz.func89.trans (congrArg some (by kernel_rfl))⟩
 f24 := ⟨Tryz.f90.name, by decide, Tryz.func90.trans (congrArg some (by kernel_rfl))⟩
 f25 := ⟨Tryz.f91.name, by decide, Tryz.func91.trans (congrArg some (by kernel_rfl))⟩
 f26 := ⟨Tryz.f92.name, by decide, Tryz.func92.trans (congrArg some (by kernel_rfl))⟩
 f27 := ⟨Tryz.f93.name, by decide, Tryz.func93.trans (congrArg some (by kernel_rfl))⟩
 f28 := Tryz.func94.trans (congrArg some (by kernel_rfl))
 f29 := Tryz.func95.trans (congrArg some (by kernel_rfl))
 f46 := ⟨Tryz.f107.name, by decide, Tryz.func107.trans (congrArg some (by kernel_rfl))⟩
 f47 := Tryz.func108.trans (congrArg some (by kernel_rfl))
 f48 := Tryz.func109.trans (congrArg some (by kernel_rfl))
 f49 := ⟨Tryz.f110.name, by decide, Tryz.func110.trans (congrArg some (by kernel_rfl))⟩
 f50 := ⟨Tryz.f111.name, by decide, Tryz.func111.trans (congrArg some (by kernel_rfl))⟩
 f57 := ⟨Tryz.f115.name, by decide, Tryz.func115.trans (congrArg some (by kernel_rfl))⟩
 t0 := Tryz.underlying0
 a0 := Tryz.isAgg0
 z0 := Tryz.sizeOf0
 v0 := Tryz.zeroValue0
 t3 := Tryz.underlying3
 a3 := Tryz.isAgg3
 z3 := Tryz.sizeOf3
 v3 := Tryz.zeroValue3
 t4 := Tryz.underlying4
 a4 := Tryz.isAgg4
 z4 := Tryz.sizeOf4
 v4 := Tryz.zeroValue4
 t5 := Tryz.underlying5
 a5 := Tryz.isAgg5
 z5 := Tryz.sizeOf5
 v5 := Tryz.zeroValue5
 t9 := Tryz.underlying9
 a9 := Tryz.isAgg9
 z9 := Tryz.sizeOf9
 v9 := Tryz.zeroValue9
 t22 := Tryz.underlying32
 a22 := Tryz.isAgg32
 z22 := Tryz.sizeOf32
 v22 := Tryz.zeroValue32
 t25 := Tryz.underlying72
 a25 := Tryz.isAgg72
 z25 := Tryz.sizeOf72
 v25 := Tryz.zeroValue72
 t39 := Tryz.underlying121
 a39 := Tryz.isAgg121
 z39 := Tryz.sizeOf121
 v39 := Tryz.zeroValue121
 t45 := Tryz.underlying134
 a45 := Tryz.isAgg134
 z45 := Tryz.sizeOf134
 v45 := Tryz.zeroValue134
 t46 := Tryz.underlying135
 a46 := Tryz.isAgg135
 z46 := Tryz.sizeOf135
 v46 := Tryz.zeroValue135
 t50 := Tryz.underlying111
 a50 := Tryz.isAgg111
 z50 := Tryz.sizeOf111
 v50 := Tryz.zeroValue111
 t53 := Tryz.underlying141
 a53 := Tryz.isAgg141
 z53 := Tryz.sizeOf141
 v53 := Tryz.zeroValue141
 t55 := Tryz.underlying40
 a55 := Tryz.isAgg40
 z55 := Tryz.sizeOf40
 v55 := Tryz.zeroValue40
 t66 := Tryz.underlying151
 a66 := Tryz.isAgg151
 z66 := Tryz.sizeOf151
 v66 := Tryz.zeroValue151
 t70 := Tryz.underlying155
 a70 := Tryz.isAgg155
 z70 := Tryz.sizeOf155
 v70 := Tryz.zeroValue155
 t76 := Tryz.underlying159
 a76 := Tryz.isAgg159
 z76 := Tryz.sizeOf159
 v76 := Tryz.zeroValue159
 t77 := Tryz.underlying160
 a77 := Tryz.isAgg160
 z77 := Tryz.sizeOf160
 v77 := Tryz.zeroValue160 }
end Go.Proofs
namespace Go.Proofs.YtpgjalaldhlcoaaGreat.Sym
open Go Go.RowKit Go.Sort
instance : Inhabited RowA := ⟨zRow⟩
def labLt (a b : Lab) : Bool := decide (cmpLab a b < 0)
theorem labLt_iff (a b : Lab) : labLt a b = true ↔ a.bits < b.bits ∨ (a.bits = b.bits ∧ a.len < b.len) := by
 unfold labLt cmpLab cmpI
 rw [decide_eq_true_iff]
 split <;> rename_i h <;> (repeat' split at h) <;> (repeat' split) <;> omega
theorem labLt_not (a b : Lab) : labLt a b = false ↔ ¬ (a.bits < b.bits ∨ (a.bits = b.bits ∧ a.len < b.len)) := by
 rw [← labLt_iff]; simp
def cfRow (x y : RowA) : Int := cmpLab x.lab y.lab
theorem cfRow_lt (x y : RowA) : ltOf cfRow x y = labLt x.lab y.lab := rfl
theorem swoRow : SWO (ltOf cfRow) := by
 refine ⟨fun x => ?_, fun x y z h1 h2 => ?_, fun x y z h1 h2 => ?_⟩
 ·rw [cfRow_lt, labLt_not]; omega
 ·rw [cfRow_lt, labLt_iff] at *; omega
 rw [cfRow_lt, labLt_not] at *; omega
theorem sortRow_c {n B e : Nat} {A : Option Addr} {c : Nat} {h : Nat → RowA} {w : World} (hO : Own w B e 8 (.slice A n c) n (rowFlat (fun t => rowC (h t)) n)) (hn : n < 4611686018427387904) :
  Calls Tryz.prog 45 #[.slice A n c, .func (.func 46) #[] #[]] w fun e' w' => e' = .returned (.tuple #[]) ∧ ∃ h' : Nat → RowA, ((List.range n).map h').Perm ((List.range n).map h) ∧ (∀ i j, i < j → j < n → labLt (h' j).lab (h' i).lab = false) ∧ Own w' B e 8 (.slice A n c) n (rowFlat (fun t => rowC (h' t)) n) ∧ Chg (fun x => ownB (.slice A n c) = some x) w w' := by
 refine sorted_c (cells := rowC) (lt := ltOf cfRow) (k := 8) (fun _ => rfl) hO (fun b d hd hH hb => ?_) (fun h0 => ?_)
 ·have eg : ∀ args w, (callFunc 46 args).run Tryz.prog w = .ok (.enter 46 args) w := enters_of Tryz.func46 (by kernel_rfl) rfl
  have hcmp : CmpLays Tryz.prog 46 #[] (encV rowC) 8 cfRow b 0 d.size w := by
   intro m os dk hdk x y
   refine (bord_c x y _).mono ?_
   rintro e w' ⟨rfl, q, os', rfl⟩
   exact ⟨rfl, q, os', rfl⟩
  have := AnyQ.slices_SortFunc Tryz.sortRow 8 (fun _ => by kernel_rfl) (fun _ => by kernel_rfl) (encV rowC) (fun _ => rfl) (fun x v hv => by
   simp only [encV, rowC, List.map_cons, List.map_nil, AV.den, List.mem_cons, List.not_mem_nil, or_false] at hv
   rcases hv with rfl | rfl | rfl | rfl | rfl | rfl | rfl | rfl <;> rfl) cfRow swoRow 46 #[] b 0 c d w eg hcmp hH hb (by omega)
  exact this
 exact AnyF.slices_SortFunc_none (P := Tryz.prog) (ρ := Tryz.sortRow_ren) { Tryz.sortRow with } A c _ w
instance : Inhabited Lab := ⟨⟨0, 0⟩⟩
abbrev labC (x : Lab) : List AV := [.int .i64 x.len, .int .u64 x.bits]
def cfLab (x y : Lab) : Int := cmpLab x y
theorem cfLab_lt (x y : Lab) : ltOf cfLab x y = labLt x y := rfl
theorem swoLab : SWO (ltOf cfLab) := by
 refine ⟨fun x => ?_, fun x y z h1 h2 => ?_, fun x y z h1 h2 => ?_⟩
 ·rw [cfLab_lt, labLt_not]; omega
 ·rw [cfLab_lt, labLt_iff] at *; omega
 rw [cfLab_lt, labLt_not] at *; omega
theorem sortLab_c {n B e : Nat} {A : Option Addr} {c : Nat} {h : Nat → Lab} {w : World} (hO : Own w B e 2 (.slice A n c) n (rowFlat (fun t => labC (h t)) n)) (hn : n < 4611686018427387904) :
  Calls Tryz.prog 33 #[.slice A n c, .func (.func 34) #[] #[]] w fun e' w' => e' = .returned (.tuple #[]) ∧ ∃ h' : Nat → Lab, ((List.range n).map h').Perm ((List.range n).map h) ∧ (∀ i j, i < j → j < n → labLt (h' j) (h' i) = false) ∧ Own w' B e 2 (.slice A n c) n (rowFlat (fun t => labC (h' t)) n) ∧ Chg (fun x => ownB (.slice A n c) = some x) w w' := by
 refine sorted_c (cells := labC) (lt := ltOf cfLab) (k := 2) (fun _ => rfl) hO (fun b d hd hH hb => ?_) (fun h0 => ?_)
 ·have eg : ∀ args w, (callFunc 34 args).run Tryz.prog w = .ok (.enter 34 args) w := enters_of Tryz.func34 (by kernel_rfl) rfl
  have hcmp : CmpLays Tryz.prog 34 #[] (encV labC) 2 cfLab b 0 d.size w := by
   intro m os dk hdk x y
   refine (order_c x y _).mono ?_
   rintro e w' ⟨rfl, q, os', rfl⟩
   exact ⟨rfl, q, os', rfl⟩
  have := AnyQ.slices_SortFunc Tryz.sortLab 2 (fun _ => by kernel_rfl) (fun _ => by kernel_rfl) (encV labC) (fun _ => rfl) (fun x v hv => by
   simp only [encV, labC, List.map_cons, List.map_nil, AV.den, List.mem_cons, List.not_mem_nil, or_false] at hv
   rcases hv with rfl | rfl <;> rfl) cfLab swoLab 34 #[] b 0 c d w eg hcmp hH hb (by omega)
  exact this
 exact AnyF.slices_SortFunc_none (P := Tryz.prog) (ρ := Tryz.sortLab_ren) { Tryz.sortLab with } A c _ w
end Go.Proofs.YtpgjalaldhlcoaaGreat.Sym
namespace Go.Proofs.YtpgjalaldhlcoaaGreat.Sym
open Go Go.RowKit
def insL (x : Lab) : List Lab → List Lab
 | [] => [x]
 | y :: l => if lessL x y = true then x :: y :: l else y :: insL x l
def sortL (l : List Lab) : List Lab := l.foldl (fun o x => insL x o) []
def leafs (l : List Rw) : List Lab := (l.filter fun w => decide (w.r.kind = 1)).map (·.lab)
def leavesP (l : List Rw) : List Lab := sortL (leafs l)
def leL (a b : Lab) : Prop := lessL b a = false
theorem leL_trans {a b c : Lab} (h : leL a b) (h' : leL b c) : leL a c := by
 unfold leL at *
 cases hx : lessL c a with
 | false => rfl
 | true =>
  rcases less_total a b with h1 | h1 | h1
  ·have := less_trans hx h1
   rw [h'] at this; cases this
  ·subst h1
   rw [h'] at hx; cases hx
  rw [h] at h1; cases h1
theorem less_le {a b : Lab} (h : lessL a b = true) : leL a b := by
 unfold leL
 cases hx : lessL b a with
 | false => rfl
 | true => have := less_trans h hx; rw [less_irr] at this; cases this
theorem leL_anti {a b : Lab} (h : leL a b) (h' : leL b a) : a = b := by
 unfold leL at *
 rcases less_total a b with h1 | h1 | h1
 ·rw [h'] at h1; cases h1
 ·exact h1
 rw [h] at h1; cases h1
theorem insL_perm (x : Lab) : ∀ l : List Lab, (insL x l).Perm (x :: l)
 | [] => List.Perm.refl _
 | y :: l => by
  unfold insL
  split
  ·exact List.Perm.refl _
  exact (List.Perm.cons _ (insL_perm x l)).trans (List.Perm.swap _ _ _)
theorem insL_sorted (x : Lab) : ∀ {l : List Lab}, l.Pairwise leL → (insL x l).Pairwise leL
 | [], _ => List.pairwise_singleton _ _
 | y :: l, h => by
  have h' := List.pairwise_cons.1 h
  unfold insL
  split
  ·rename_i hx
   refine List.pairwise_cons.2 ⟨fun z hz => ?_, h⟩
   rcases List.mem_cons.1 hz with rfl | hz
   ·exact less_le hx
   exact leL_trans (less_le hx) (h'.1 z hz)
  rename_i hx
  refine List.pairwise_cons.2 ⟨fun z hz => ?_, insL_sorted x h'.2⟩
  rcases List.mem_cons.1 ((insL_perm x l).mem_iff.1 hz) with rfl | hz
  ·exact (Bool.not_eq_true _).mp hx
  exact h'.1 z hz
theorem sortL_go (l : List Lab) : ∀ (o : List Lab), (l.foldl (fun o x => insL x o) o).Perm (l ++ o) ∧ (o.Pairwise leL → (l.foldl (fun o x => insL x o) o).Pairwise leL) := by
 induction l with
 | nil => exact fun o => ⟨List.Perm.refl _, id⟩
 | cons x l ih =>
  intro o
  obtain ⟨h1, h2⟩ := ih (insL x o)
  refine ⟨?_, fun ho => h2 (insL_sorted x ho)⟩
  refine h1.trans ?_
  have := (insL_perm x o).append_left l
  exact this.trans List.perm_middle
theorem sortL_perm (l : List Lab) : (sortL l).Perm l := by
 have := (sortL_go l []).1
 rwa [List.append_nil] at this
theorem sortL_sorted (l : List Lab) : (sortL l).Pairwise leL := (sortL_go l []).2 .nil
theorem sorted_uniq {l l' : List Lab} (hp : l.Perm l') (h : l.Pairwise leL) (h' : l'.Pairwise leL) : l = l' :=
 List.Perm.eq_of_pairwise (le := leL) (fun a b _ _ h1 h2 => leL_anti h1 h2) h h' hp
theorem sortL_eq {l l' : List Lab} (hp : l.Perm l') (h : l.Pairwise leL) : sortL l' = l := (sorted_uniq (hp.trans (sortL_perm l').symm) h (sortL_sorted l')).symm
theorem sortL_len (l : List Lab) : (sortL l).length = l.length := (sortL_perm l).length_eq
theorem leafs_len (l : List Rw) : (leafs l).length ≤ l.length := by
 unfold leafs
 rw [List.length_map]
 exact List.length_filter_le _ _
theorem leaves_len (l : List Rw) : (leavesP l).length ≤ l.length := by
 unfold leavesP
 rw [sortL_len]
 exact leafs_len l
abbrev labsV (A : Option Addr) (n c : Nat) (g : Nat → Lab) : AV := .sl none A n c 2 (fun t => labC (g t))
def labF (l : List Lab) : Nat → Lab := fun t => l.getD t ⟨0, 0⟩
def lSet (g : Nat → Lab) (p : Nat) (x : Lab) : Nat → Lab := fun i => if i = p then x else g i
theorem leafs_step (f : Nat → RowA) (i : Nat) : leafs (rwsA f (i + 1)) = leafs (rwsA f i) ++ (if (f i).x.r.kd = 1 then [(f i).lab] else []) := by
 show leafs (listA RowA.abs f (i + 1)) = leafs (listA RowA.abs f i) ++ _
 rw [listA_succ]
 unfold leafs
 rw [List.filter_append, List.map_append]
 congr 1
 by_cases h : (f i).x.r.kd = 1
 ·simp [RowA.abs, RN.abs, h]
 simp [RowA.abs, RN.abs, h]
theorem map_lSet (g : Nat → Lab) (q : Nat) (x : Lab) : (List.range (q + 1)).map (lSet g q x) = (List.range q).map g ++ [x] := by
 rw [List.range_succ, List.map_append]
 congr 1
 ·apply List.map_congr_left
  intro t ht
  have := List.mem_range.1 ht
  unfold lSet
  rw [if_neg (by omega)]
 simp [lSet]
theorem labLt_le (a b : Lab) : labLt a b = lessL a b := by
 rw [Bool.eq_iff_iff, labLt_iff]
 simp [lessL]
theorem leaves_fin {l : List Rw} {h h' : Nat → Lab} {k : Nat} (hl : (List.range k).map h = leafs l) (hp : ((List.range k).map h').Perm ((List.range k).map h)) (hs : ∀ i j, i < j → j < k → labLt (h' j) (h' i) = false) : leavesP l = (List.range k).map h' := by
 unfold leavesP
 rw [← hl]
 refine sortL_eq hp ?_
 rw [List.pairwise_map]
 refine List.Pairwise.imp_of_mem ?_ (List.pairwise_lt_range (n := k))
 intro a b ha hb hab
 unfold leL
 rw [← labLt_le]
 exact hs a b hab (List.mem_range.1 hb)
theorem labF_map {h : Nat → Lab} {k t : Nat} (ht : t < k) : labF ((List.range k).map h) t = h t := by
 unfold labF
 simp [List.getD_eq_getElem?_getD, ht]
theorem enters33 : Enters Tryz.prog 33 := fun _ _ => by kernel_rfl
theorem leaves_s (A : Option Addr) (n c : Nat) (f : Nat → RowA) (hn : n ≤ 100000) : Spec Tryz.prog 15 [rowsV A n c f] (fun y => labsV (y.A 0) (leavesP (rwsA f n)).length (y.c 0) (labF (leavesP (rwsA f n)))) := by
 intro m w hm hargs
 have hmx : maxLen = 9223372036854775807 := rfl
 refine en 25 hm hargs Tryz.func15 fun B hB a0 hF => ?_
 refine wp_seq (rg hB TA_ok [0] [] [] hF fun X0 a0 w1 hF => ?_)
 refine wp_seq (rg hB TA_ok [3, 0] [3] [] hF fun X1 a0 w1 hF => ?_)
 refine wp_seq (wp_seq (rg hB TA_ok [3, 8, 6, 7] [3] [] hF fun X2 a0 w1 hF => ?_))
 replace hF := hF.headS (v' := .sl (some 3) none 0 0 2 (fun t => labC ⟨0, 0⟩)) (zq0) rfl
 refine wp_block (loop_pre (ι := Nat × Nat × (Nat → Lab) × Option Addr × Nat) (fun p => [(3, .sl (some 3) p.2.2.2.1 p.2.1 p.2.2.2.2 2 (fun t => labC (p.2.2.1 t))), (8, .int .i64 (p.1 : Int))]) (fun p => []) (fun p => [(3, ⟨p.2.2.2.1, p.2.1, p.2.2.2.2, 2, 42⟩)]) (fun p => p.1 ≤ n ∧ p.2.1 ≤ p.1 ∧ (List.range p.2.1).map p.2.2.1 = leafs (rwsA f p.1)) (fun p => n - p.1) (0, 0, fun _ => ⟨0, 0⟩, none, 0) ⟨Nat.zero_le _, Nat.le_refl _, rfl⟩ hF ?_)
 rintro ⟨i, q, g, A1, c1⟩ ⟨hi, hq, hg⟩ a0 w1 hF
 try dsimp only at hi
 try dsimp only at hq
 try dsimp only at hg
 refine wp_seq (rg hB TA_ok [9, 3, 8, 6, 7] [3] [] hF fun X3 a0 w1 hF => ?_)
 refine wp_seq (test_ok hF rfl (fun hb hF => ?_) (fun hb hF => ?_))
 ·have hin : i < n := by
   have : (i : Int) < (n : Int) := by subst hB; simpa [std, sC] using hb
   omega
  refine wp_skip (wp_seq (wp_block (wp_seq ?_)))
  refine rg hB TA_ok [5, 3, 8, 6, 7] [5, 3] [] hF (hob := by intro X; subst hB; simp only [AO, Ob.holds, BE.den] <;> and_intros <;> repeat first | trivial | rfl | exact (show (0 : Int) ≤ (i : Int) by omega) | exact (show (i : Int) < (n : Int) by omega) | exact (fun _ _ => by kernel_rfl) | refine ⟨?_, ?_⟩ | intro h | exact Int.le_refl _ | decide | omega) fun X4 a0 w1 hF => ?_
  replace hF := hF.memS (cells' := rowC (f i)) (by subst hB; exact zl)
  refine wp_seq (rg hB TA_ok [15, 5, 3, 8, 6, 7] [5, 3] [] hF fun X5 a0 w1 hF => ?_)
  apply test_ok hF rfl <;> intro hb hF
  ·have hk : (f i).x.r.kd = 1 := by subst hB; simpa [std, sC] using hb
   refine rg hB TA_ok [3, 8, 6, 7] [3] [] hF (hob := ?hob) fun X6 a0 w1 hF => ?_
   case hob =>
    intro X
    subst hB
    repeat (first | exact trivial | refine ⟨⟨rfl, rfl, rfl⟩, ?_⟩ | refine ⟨rfl, ?_⟩ | refine ⟨⟨show q + 1 ≤ maxLen by omega, show (q + 1) * _ ≤ _ by omega⟩, ?_⟩)
   replace hF := hF.headS (v' := .sl (some 3) ((X6 4).A 0) (B.nadd q 1) ((X6 4).c 0) 2 (fun t => labC (lSet g q (f i).lab t))) (Sim.resl rfl (fun t ht => by
    subst hB
    have ht2 : t < q + 1 := ht
    show appC q (fun t => labC (g t)) (chunk 2 [.int .i64 (f i).lab.len, .int .u64 (f i).lab.bits]) t = _
    unfold appC lSet
    split
    ·rw [if_neg (by omega)]
    have : t = q := by omega
    subst this
    simp [chunk, labC])) rfl
   refine rg hB TA_ok [3, 8, 6, 7] [3] [] hF fun X7 a0 w1 hF => ?_
   have e : B.arith .add .i64 (i : Int) 1 = ((i + 1 : Nat) : Int) := by subst hB; exact wrap_succ (n := n) hin (by omega)
   refine ⟨(i + 1, q + 1, lSet g q (f i).lab, _, _), ⟨by simp only; omega, by simp only; omega, ?_⟩, by simp only; omega, by rw [← e, show q + 1 = B.nadd q 1 by subst hB; rfl]; exact hF⟩
   simp only
   rw [map_lSet, hg, leafs_step, if_pos hk]
  have hk : ¬ (f i).x.r.kd = 1 := by subst hB; simpa [std, sC] using hb
  refine wp_skip (rg hB TA_ok [3, 8, 6, 7] [3] [] hF fun X7 a0 w1 hF => ?_)
  have e : B.arith .add .i64 (i : Int) 1 = ((i + 1 : Nat) : Int) := by subst hB; exact wrap_succ (n := n) hin (by omega)
  refine ⟨(i + 1, q, g, _, _), ⟨by simp only; omega, by simp only; omega, ?_⟩, by simp only; omega, by rw [← e]; exact hF⟩
  simp only
  rw [hg, leafs_step, if_neg hk, List.append_nil]
 have hout : i = n := by
  have : ¬ (i : Int) < (n : Int) := by subst hB; simpa [std, sC] using hb
  omega
 rw [hout] at hg
 refine wp_exit (wp_seq (wp_region_lit (lpr 0 1 hB TA_ok [22, 3] [3] [] hF fun X8_0 a0 w1 hF => ?_)))
 obtain ⟨_, xs, hO⟩ := hF.gr 3 ⟨A1, q, c1, 2, 42⟩ rfl
 have hs3 := hF.slot 3 rfl
 have hk3 : Ok _ w1 (.sl (some 3) A1 q c1 2 (fun t => labC (g t))) := hs3.2
 have hd3 : a0.tmps[3]? = some (AV.sl (some 3) A1 q c1 2 (fun t => labC (g t))).den := hs3.1
 have hfl := own_flat hO hk3
 rw [hfl] at hO
 have hO : Own w1 w.heap.size 42 2 (.slice A1 q c1) q (rowFlat (fun t => labC (g t)) q) := hO
 refine man_sorted rfl rfl rfl rfl rfl hF rfl rfl enters33 (fun w' => ∃ h' : Nat → Lab, ((List.range q).map h').Perm ((List.range q).map g) ∧ (∀ i j, i < j → j < q → labLt (h' j) (h' i) = false) ∧ Own w' w.heap.size 42 2 (.slice A1 q c1) q (rowFlat (fun t => labC (h' t)) q)) ((sortLab_c hO (by omega)).mono ?_) ?_
 ·rintro e w2 ⟨he, h', g1, g2, g3, g4⟩
  exact ⟨he, ⟨h', g1, g2, g3⟩, g4⟩
 rintro w2 ⟨h', g1, g2, g3⟩ g4
 have hfin := leaves_fin hg g1 g2
 have hF2 := Fits.sorted hF g4 (l' := [(3, .sl none A1 q c1 2 (fun t => labC (h' t)))]) (fun x hx => ?hl) (fun x e he v hv => ?hm)
 case hl =>
  by_cases hx3 : x = 3
  ·subst hx3
   refine ⟨hd3, own_known g3 (fun _ _ => rfl) (Fits.notM hF) (fun i hi v hv => ?_) none⟩
   simp only [labC, List.mem_cons, List.not_mem_nil, or_false] at hv
   rcases hv with rfl | rfl <;> exact ⟨rfl, .int _ _⟩
  have : look [(3, AV.sl none A1 q c1 2 (fun t => labC (h' t)))] x = .undef := by rw [look_cons, if_neg (fun e => hx3 e.symm)]; rfl
  rw [this] at hx; cases hx
 case hm => cases he
 have hF : Fits _ _ (a0.put (some 23) (.tuple #[])) w2 := hF2.put (some 23) (fun t ht => by injection ht with ht; subst ht; exact Nat.le_of_ble_eq_true rfl) (.tup []) (fun _ => .tup _ fun u hu => by cases hu) _ fun _ => rfl
 refine wpList_nil (wp_seq (rg hB TA_ok [2] [2, 3, 20] [] hF fun X9 a0 w1 hF => ?_))
 refine wp_ret ((rsi hB TA_ok hF (⟨0, fun _ => A1, fun _ => c1, fun _ => ⟨#[]⟩⟩) (he := ?_)))
 subst hB
 rw [hfin, List.length_map, List.length_range]
 exact Sim.resl rfl (fun t ht => by rw [labF_map ht])
end Go.Proofs.YtpgjalaldhlcoaaGreat.Sym
namespace Go.Proofs.YtpgjalaldhlcoaaGreat.Sym
open Go.RowKit
section
variable {C : Cx} {P : Program} {Q : Exit → Act → World → Prop} {T : List (Nat × TI)} {cs : List (Nat × CS)} {ops : Array Oper} {all : List Oper} {H : Hand}
theorem closed {listed : Array Bool} (hDC : ∀ k o, all[k]? = some o → listed.getD k false = true → ∀ e ∈ o.after.toList, Region.binds .any e = true → listed.getD e.on false = true) {i j : Nat} (hr : WaitsFor all i j) : (∀ o e, all[i]? = some o → e ∈ o.after.toList → Region.binds .any e = true → listed.getD e.on false = true) → listed.getD j false = true := by
 induction hr with
 | one h1 h2 h3 h4 => intro hi; rw [← h4]; exact hi _ _ h1 h2 h3
 | more h1 h2 h3 h4 ih => intro hi; exact ih fun o e g1 g2 g3 => hDC _ o g1 (hi _ _ h1 h2 h3) e g2 g3
theorem chain_ok {tz : List Nat} (hops : ops = all.toArray) (htz : ∀ i j, edge tz i j = true → WaitsFor all i j) {n0 : Nat} (hz : ∀ k, n0 ≤ k → k < ops.size → ∀ j, j < k → edge tz k j = true) (hze : ∀ (k : Nat) (o : Oper), ops[k]? = some o → ∀ e ∈ o.after.toList, Region.binds .any e = true → e.on < k) :
  ∀ (n k : Nat) (listed : Array Bool) (a : Act) (w : World), n0 ≤ k → ops.size - k = n → k ≤ ops.size → listed.size = ops.size → (∀ j, j < k → listed.getD j false = true) → (∀ j, k ≤ j → j < ops.size → listed.getD j true = false) →
  (∀ k o, all[k]? = some o → listed.getD k false = true → ∀ e ∈ o.after.toList, Region.binds .any e = true → listed.getD e.on false = true) → wpList P ops Q (all.drop k) a w → wpAny P .any ops Q n listed a w
 | 0, k, listed, a, w, h0, hn, hk, hsz, hlo, hhi, hDC, hq => by
  have hlen : all.length = ops.size := by rw [hops]; simp
  have : all.drop k = [] := List.drop_eq_nil_of_le (by omega)
  rw [this] at hq
  refine ⟨?_, hq⟩
  cases hr : Region.ready .any ops listed with
  | nil => rfl
  | cons i r =>
   obtain ⟨h1, o, h2, _⟩ := mem_ready.1 (hr ▸ List.mem_cons_self : i ∈ Region.ready .any ops listed)
   have hi := (Array.getElem?_eq_some_iff.1 h2).1
   have := hlo i (by omega)
   rw [getD_tf h1] at this; cases this
 | n + 1, k, listed, a, w, h0, hn, hk, hsz, hlo, hhi, hDC, hq => by
  have hlen : all.length = ops.size := by rw [hops]; simp
  have hkl : k < ops.size := by omega
  obtain ⟨o, ho⟩ : ∃ o, ops[k]? = some o := ⟨_, Array.getElem?_eq_getElem hkl⟩
  have hoa : all[k]? = some o := by rw [hops] at ho; simpa using ho
  have hd : all.drop k = o :: all.drop (k + 1) := by
   have hka : k < all.length := by omega
   rw [List.drop_eq_getElem_cons hka]
   congr 1
   exact (List.getElem?_eq_some_iff.1 hoa).2
  refine ⟨fun hr => ?_, fun i hi => ?_⟩
  ·exfalso
   have : k ∈ Region.ready .any ops listed := mem_ready.2 ⟨hhi k (Nat.le_refl _) hkl, o, ho, fun e he hb => hlo _ (hze k o ho e (by simpa using he) hb)⟩
   rw [hr] at this; cases this
  obtain ⟨h1, o', h2, h3⟩ := mem_ready.1 hi
  have hil := (Array.getElem?_eq_some_iff.1 h2).1
  have hik : i = k := by
   refine Decidable.byContradiction fun hne => ?_
   by_cases hlt : i < k
   ·have := hlo i hlt
    rw [getD_tf h1] at this; cases this
   have hw := htz _ _ (hz i (by omega) hil k (by omega))
   have h4 := closed hDC hw (fun o'' e g1 g2 g3 => by
    have : o'' = o' := by
     have e1 : ops[i]? = some o'' := by rw [hops]; simpa using g1
     rw [h2] at e1; injection e1 with e1; exact e1.symm
    subst this
    exact h3 e (by simpa using g2) g3)
   have := hhi k (Nat.le_refl _) hkl
   rw [getD_tf this] at h4; cases h4
  subst hik
  have : o' = o := by rw [ho] at h2; injection h2 with h2; exact h2.symm
  subst this
  have fin : ∀ a w, wpList P ops Q (all.drop (i + 1)) a w → wpAny P .any ops Q n (listed.setIfInBounds i true) a w := by
   intro a w hq'
   refine chain_ok hops htz hz hze n (i + 1) _ a w (by omega) (by omega) (by omega) (by simpa using hsz) (fun j hj => ?_) (fun j hj hj' => ?_) (fun k2 ok hk2 hu e he hb => ?_) hq'
   ·by_cases hji : j = i
    ·subst hji; simp [Array.getD_eq_getD_getElem?, hsz, hil]
    rw [getD_set_ne false (fun e' => hji e'.symm)]; exact hlo j (by omega)
   ·rw [getD_set_ne true (by omega)]; exact hhi j (by omega) hj'
   have hon : listed.getD e.on false = true := by
    by_cases hki : k2 = i
    ·subst hki
     have : ok = o' := by
      have e1 : ops[k2]? = some ok := by rw [hops]; simpa using hk2
      rw [h2] at e1; injection e1 with e1; exact e1.symm
     subst this
     exact h3 e (by simpa using he) hb
    rw [getD_set_ne false (fun e' => hki e'.symm)] at hu
    exact hDC k2 ok hk2 hu e he hb
   by_cases hei : e.on = i
   ·rw [hei]; simp [Array.getD_eq_getD_getElem?, hsz, hil]
   rw [getD_set_ne false (fun e' => hei e'.symm)]; exact hon
  rw [hd] at hq
  unfold wpOp
  simp only [h2]
  unfold wpList at hq
  by_cases hw : Region.wanted o' (yielded ops a.tmps) = true
  ·rw [if_pos hw] at hq ⊢
   exact hq.imp (Oper.wp_mono fin) id
  rw [if_neg hw] at hq ⊢
  exact fin _ _ hq
theorem any3_ok {tb tz : List Nat} (hT : TabOK P T) (hops : ops = all.toArray) (htb : ∀ i j, edge tb i j = true → WaitsFor all i j) (htz : ∀ i j, edge tz i j = true → WaitsFor all i j) (hH : HandOK C P all H) {n0 : Nat} (hz : ∀ k, n0 ≤ k → k < ops.size → ∀ j, j < k → edge tz k j = true) (hze : ∀ (k : Nat) (o : Oper), ops[k]? = some o → ∀ e ∈ o.after.toList, Region.binds .any e = true → e.on < k) (hz4 : n0 ≤ ops.size) : ∀ (n : Nat) (L : List (Nat × Oper)) (fs : List Foot) (listed : Array Bool) (s : St) (a : Act) (w : World), L.length = n → Fits C s a w → NM s (ds fs) → Ord fs → Paired tb L fs → (∀ k o, all[k]? = some o → listed.getD k false = true → ∀ e ∈ o.after.toList, Region.binds .any e = true → listed.getD e.on false = true) →
  L.Pairwise (fun x y => x.1 < y.1) → (∀ x ∈ L, ops[x.1]? = some x.2 ∧ listed.getD x.1 true = false) → (∀ k o, k < n0 → ops[k]? = some o → listed.getD k true = false → (k, o) ∈ L) → (∀ k, n0 ≤ k → k < ops.size → listed.getD k true = false) → (∀ x ∈ L, x.1 < n0) → listed.size = ops.size →
  (∀ x ∈ L, ∀ e ∈ x.2.after.toList, Region.binds .any e = true → e.on < x.1) →
  (∀ X, ∃ τ obs, exec2 std T cs H X all L s = some (τ, obs, fs) ∧ AO P C.K obs ∧ ∀ a' w', Fits C τ a' w' → wpList P ops Q (all.drop n0) a' w') → wpAny P .any ops Q (n + (ops.size - n0)) listed a w
 | 0, L, fs, listed, s, a, w, hn, h, hNM, hF, hP, hDC, hsr, hL, hA, hZ, hLn, hsz, hE, hs => by
  have : L = [] := List.eq_nil_of_length_eq_zero hn
  subst this
  obtain ⟨τ, obs, e1, _, e2⟩ := hs (fun _ => ⟨0, fun _ => none, fun _ => 0, fun _ => .empty⟩)
  simp only [exec2, Option.some.injEq, Prod.mk.injEq] at e1
  obtain ⟨rfl, _⟩ := e1
  rw [Nat.zero_add]
  refine chain_ok hops htz hz hze (ops.size - n0) n0 listed a w (Nat.le_refl _) rfl hz4 hsz (fun k hk => ?_) hZ hDC (e2 a w h)
  by_cases hl : listed.getD k false = true
  ·exact hl
  have := hA k _ hk (Array.getElem?_eq_getElem (by omega)) (getD_ft (by rw [hsz]; omega) hl)
  cases this
 | n + 1, L, fs, listed, s, a, w, hn, h, hNM, hF, hP, hDC, hsr, hL, hA, hZ, hLn, hsz, hE, hs => by
  rw [show n + 1 + (ops.size - n0) = (n + (ops.size - n0)) + 1 by omega]
  refine ⟨fun hr => ?_, fun i hi => ?_⟩
  ·-- the first one that is left may come up
   exfalso
   cases L with
   | nil => cases hn
   | cons x L =>
    obtain ⟨i0, o0⟩ := x
    obtain ⟨h1, h2⟩ := hL (i0, o0) (by simp)
    have : i0 ∈ Region.ready .any ops listed := mem_ready.2 ⟨h2, o0, h1, fun e he hb => by
     have hlt := hE (i0, o0) (by simp) e (by simpa using he) hb
     simp only at hlt
     have hi0 : i0 < ops.size := (Array.getElem?_eq_some_iff.1 h1).1
     have hon : e.on < listed.size := by rw [hsz]; omega
     by_cases hl : listed.getD e.on false = true
     ·exact hl
     exfalso
     have hm := hA e.on _ (by have := hLn (i0, o0) (by simp); simp only at this; omega) (Array.getElem?_eq_getElem (by omega)) (getD_ft hon hl)
     rcases List.mem_cons.1 hm with he' | hm
     ·injection he' with he'; omega
     have := (List.pairwise_cons.1 hsr).1 _ hm
     simp only at this; omega⟩
    rw [hr] at this
    cases this
  obtain ⟨h1, o, h2, h3⟩ := mem_ready.1 hi
  have hi0 : i < n0 := by
   refine Decidable.byContradiction fun hni => ?_
   cases L with
   | nil => cases hn
   | cons x L =>
    have hx0 := hLn x (by simp)
    have hw := htz _ _ (hz i (by omega) (Array.getElem?_eq_some_iff.1 h2).1 x.1 (by omega))
    have h4 := closed hDC hw (fun o' e g1 g2 g3 => by
     have : o' = o := by
      have e1 : ops[i]? = some o' := by rw [hops]; simpa using g1
      rw [h2] at e1; injection e1 with e1; exact e1.symm
     subst this
     exact h3 e (by simpa using g2) g3)
    have q5 := (hL x (by simp)).2
    rw [getD_tf q5] at h4
    cases h4
  have hio : all[i]? = some o := by rw [hops] at h2; simpa using h2
  have hin := hA i o hi0 h2 h1
  obtain ⟨L1, L2, rfl⟩ := List.append_of_mem hin
  obtain ⟨fs1, f, fs2, hlen, rfl⟩ : ∃ fs1 f fs2, fs1.length = L1.length ∧ fs = fs1 ++ f :: fs2 := by
   have hl := hP.1
   simp only [List.length_append, List.length_cons] at hl
   have hlt : L1.length < fs.length := by omega
   refine ⟨fs.take L1.length, fs[L1.length], fs.drop (L1.length + 1), by simp; omega, ?_⟩
   rw [← List.drop_eq_getElem_cons hlt, List.take_append_drop]
  obtain ⟨hP1, hcm⟩ := pairsB_del hlen hP.2
  have hcomm : ∀ g ∈ fs1, comm g f = true := by
   intro g hg
   obtain ⟨k, hk⟩ := List.getElem?_of_mem hg
   have hkl : k < L1.length := by rw [← hlen]; exact (List.getElem?_eq_some_iff.1 hk).1
   rcases hcm k _ g (List.getElem?_eq_getElem hkl) hk with he | he
   ·exfalso
    have h5 := (hL L1[k] (List.mem_append_left _ (List.getElem_mem hkl))).2
    have hr := htb _ _ he
    have dc : ∀ {i j : Nat}, WaitsFor all i j → (∀ o e, all[i]? = some o → e ∈ o.after.toList → Region.binds .any e = true → listed.getD e.on false = true) → listed.getD j false = true := by
     intro i j hr
     induction hr with
     | one h1 h2 h3 h4 => intro hi; rw [← h4]; exact hi _ _ h1 h2 h3
     | more h1 h2 h3 h4 ih => intro hi; exact ih fun o e g1 g2 g3 => hDC _ o g1 (hi _ _ h1 h2 h3) e g2 g3
    have h4 := dc hr fun o' e g1 g2 g3 => by
     have : o' = o := by
      have e1 : ops[i]? = some o' := by rw [hops]; simpa using g1
      rw [h2] at e1; injection e1 with e1; exact e1.symm
     subst this
     exact h3 e (by simpa using g2) g3
    rw [getD_tf h5] at h4
    cases h4
   exact he
  have mf : ∀ X, ∃ δ ob, delta2 std T cs H (X i) all i o s = some (δ, ob, f) ∧ AO P C.K ob ∧ ∃ τ' obs', exec2 std T cs H X all (L1 ++ L2) (s.app δ) = some (τ', obs', fs1 ++ fs2) ∧ AO P C.K obs' ∧ ∀ a' w', Fits C τ' a' w' → wpList P ops Q (all.drop n0) a' w' := by
   intro X
   obtain ⟨τ, obs, e1, e2, e3⟩ := hs X
   obtain ⟨δ, ob, g1, τ', obs', g2, g3, g4⟩ := moveFront2 (P := P) e1 hlen hNM hF hcomm
   exact ⟨δ, ob, g1, (g4 e2).1, τ', obs', g2, (g4 e2).2, fun a' w' hf => e3 a' w' (hf.alike g3)⟩
  have hsrt : (L1 ++ L2).Pairwise (fun x y => x.1 < y.1) := hsr.sublist (List.Sublist.append_left (List.sublist_cons_self _ _) _)
  have hnot : ∀ x ∈ L1 ++ L2, x.1 ≠ i := by
   intro x hx
   rw [List.pairwise_append] at hsr
   obtain ⟨p1, p2, p3⟩ := hsr
   rcases List.mem_append.1 hx with hx | hx
   ·have := p3 x hx (i, o) (by simp); simp only at this; omega
   have := (List.pairwise_cons.1 p2).1 x hx; simp only at this; omega
  have key := delta2_ok (C := C) (K := fun a' w' => wpAny P .any ops Q (n + (ops.size - n0)) (listed.setIfInBounds i true) a' w') (Q := Q) (cs := cs) (i := i) (o := o) hT hH hio hops h (fun x => by
   obtain ⟨δ, ob, g1, g2, _⟩ := mf (fun _ => x)
   exact ⟨_, g1, g2⟩) (fun x r a' w' hr hf => by
   have hfo := delta2_foot hr
   obtain ⟨δ, ob, f'⟩ := r
   obtain ⟨δ0, ob0, g0, _⟩ := mf (fun _ => x)
   rw [hr] at g0
   injection g0 with g0; injection g0 with q1 q2; injection q2 with q2 q3
   subst q1; subst q2; subst q3
   have hinF : ∀ g ∈ fs1 ++ fs2, g ∈ fs1 ++ f' :: fs2 := fun g hg => by
    rcases List.mem_append.1 hg with hg | hg
    ·exact List.mem_append_left _ hg
    exact List.mem_append_right _ (List.mem_cons_of_mem _ hg)
   obtain ⟨n1, n2⟩ := nm_of hfo (gs := fs1 ++ fs2) hNM (by simp) hinF (fun g hg => by
    rcases List.mem_append.1 hg with hg | hg
    ·have := hcomm g hg
     simp only [comm, Bool.and_eq_true] at this
     exact this.1.1.1.1.1.1.1.1.1
    exact (List.pairwise_cons.1 (List.pairwise_append.1 hF).2.1).1 g hg)
   refine any3_ok hT hops htb htz hH hz hze hz4 n (L1 ++ L2) (fs1 ++ fs2) (listed.setIfInBounds i true) (s.app δ) a' w' ?_ hf n2 ?_ ?_ ?_ hsrt ?_ ?_ (fun k hk hk' => by rw [getD_set_ne true (by omega)]; exact hZ k hk hk') ?_ (by simpa using hsz) ?_ ?_
   ·simp at hn ⊢; omega
   ·exact hF.sublist (List.Sublist.append_left (List.sublist_cons_self _ _) _)
   ·refine ⟨?_, hP1⟩
    have := hP.1
    simp at this ⊢; omega
   ·intro k ok hk hu e he hb
    by_cases hki : k = i
    ·subst hki
     have : ok = o := by
      have e1 : ops[k]? = some ok := by rw [hops]; simpa using hk
      rw [h2] at e1; injection e1 with e1; exact e1.symm
     subst this
     have hl := h3 e (by simpa using he) hb
     by_cases hei : e.on = k
     ·have := hE (k, ok) hin e he hb
      simp only at this; omega
     rw [getD_set_ne false (fun e' => hei e'.symm)]; exact hl
    rw [getD_set_ne false (fun e' => hki e'.symm)] at hu
    have hl := hDC k ok hk hu e he hb
    by_cases hei : e.on = i
    ·rw [hei] at hl
     have h5 := (hL (i, o) hin).2
     simp only at h5
     rw [getD_tf h5] at hl; cases hl
    rw [getD_set_ne false (fun e' => hei e'.symm)]; exact hl
   ·intro x' hx
    have hx' : x' ∈ L1 ++ (i, o) :: L2 := by
     rcases List.mem_append.1 hx with hx | hx
     ·exact List.mem_append_left _ hx
     exact List.mem_append_right _ (List.mem_cons_of_mem _ hx)
    obtain ⟨e1, e2⟩ := hL x' hx'
    refine ⟨e1, ?_⟩
    rw [getD_set_ne true (fun e => hnot x' hx e.symm)]
    exact e2
   ·intro k ok hkn hk hu
    by_cases hki : k = i
    ·subst hki
     have hlt : k < listed.size := by rw [hsz]; exact (Array.getElem?_eq_some_iff.1 h2).1
     simp [Array.getD_eq_getD_getElem?, hlt] at hu
    rw [getD_set_ne true (fun e => hki e.symm)] at hu
    have := hA k ok hkn hk hu
    rcases List.mem_append.1 this with hx | hx
    ·exact List.mem_append_left _ hx
    rcases List.mem_cons.1 hx with hx | hx
    ·injection hx with hx; exact absurd hx hki
    exact List.mem_append_right _ hx
   ·intro x' hx
    refine hLn x' ?_
    rcases List.mem_append.1 hx with hx | hx
    ·exact List.mem_append_left _ hx
    exact List.mem_append_right _ (List.mem_cons_of_mem _ hx)
   ·intro x' hx
    refine hE x' ?_
    rcases List.mem_append.1 hx with hx | hx
    ·exact List.mem_append_left _ hx
    exact List.mem_append_right _ (List.mem_cons_of_mem _ hx)
   intro X
   obtain ⟨Y, hY, hYX⟩ : ∃ Y : Nat → Atom, Y i = x ∧ ∀ j, j ≠ i → Y j = X j := ⟨fun j => if j = i then x else X j, by simp, fun j hj => by simp [hj]⟩
   obtain ⟨δ1, ob1, g1, _, τ', obs', g2, g3, g4⟩ := mf Y
   rw [hY, hr] at g1
   injection g1 with g1; injection g1 with q1 _
   subst q1
   rw [exec2_congr _ _ (fun x' hx => hYX x'.1 (hnot x' hx))] at g2
   exact ⟨τ', obs', g2, g3, g4⟩)
  unfold wpOp
  simp only [h2]
  by_cases hw : Region.wanted o (yielded ops a.tmps) = true
  ·rw [if_pos hw] at key ⊢
   exact .inl key
  rw [if_neg hw] at key ⊢
  exact key
def tail3B (all : List Oper) (n0 : Nat) : Bool := Nat.ble n0 all.length && (edgesB (number 0 all) && (List.range all.length).all fun k => Nat.blt k n0 || (List.range k).all fun j => edge (masks all []) k j)
theorem drawn3_any {s : St} {a : Act} {w : World} {all : List Oper} (n0 : Nat) (H : Hand) (hH : HandOK C P all H) (hT : TabOK P T) (kp km : List Nat) (cs : List (Nat × CS)) (h : Fits C s a w) (hgs : s.gs = []) (fs : List Foot) (hD : drawB (all.take n0) fs = true) (hZ : tail3B all n0 = true) (hlen : (all.take n0).length = fs.length)
  {R : Alg → (Nat → Atom) → St × List Ob}
  (hex : ∀ A X, (exec2 A T cs H X all (number 0 (all.take n0)) s).map (fun r => ((r.1.keep kp km, r.2.1), r.2.2)) = some (R A X, fs)) (hob : ∀ X, AO P C.K (R std X).2) (hQ : ∀ X a' w', Fits C (R std X).1 a' w' → wpList P all.toArray Q (all.drop n0) a' w') : wpAny P .any all.toArray Q all.toArray.size (Array.replicate all.toArray.size false) a { w with drawn := w.drawn + 1 } := by
 simp only [drawB, Bool.and_eq_true] at hD
 obtain ⟨⟨d1, d2⟩, d3⟩ := hD
 simp only [tail3B, Bool.and_eq_true, Nat.ble_eq] at hZ
 obtain ⟨hn0, hZe, hZ⟩ := hZ
 have hf : Fits C s a { w with drawn := w.drawn + 1 } := h.world (fun _ _ _ => rfl) (fun _ _ _ _ _ => rfl) ⟨h.chg.os, h.chg.tape, h.chg.output, h.chg.size, h.chg.block⟩ (fun _ _ _ hc _ => hc) (fun _ _ h _ => h)
 have hnl : ∀ (l : List Oper) (i : Nat), (number i l).length = l.length := by
  intro l
  induction l with
  | nil => intro i; rfl
  | cons o l ih => intro i; simp [number, ih]
 have htk : (all.take n0).length = n0 := by simp; omega
 have hsz : all.toArray.size = (number 0 (all.take n0)).length + (all.toArray.size - n0) := by rw [hnl, htk]; simp; omega
 have hgt : ∀ {k o}, (all.take n0)[k]? = some o → all[k]? = some o ∧ k < n0 := by
  intro k o hk
  have hlt := (List.getElem?_eq_some_iff.1 hk).1
  rw [htk] at hlt
  rw [List.getElem?_take, if_pos hlt] at hk
  exact ⟨hk, hlt⟩
 have hlst : ∀ k (b : Bool), k < all.length → (Array.replicate all.toArray.size false).getD k b = false := by
  intro k b hk
  have : k < all.toArray.size := by simpa using hk
  simp [Array.getD_eq_getD_getElem?, hk]
 have hmk : ∀ i j, edge (masks (all.take n0) []) i j = true → WaitsFor all i j := by
  intro i j hij
  have := masks_ok (all := all.take n0) (l := all.take n0) (tb := []) rfl (fun i j h => by simp at h) i j hij
  have conv : ∀ {i j}, WaitsFor (all.take n0) i j → WaitsFor all i j := by
   intro i j hw
   induction hw with
   | one h1 h2 h3 h4 => exact .one (hgt h1).1 h2 h3 h4
   | more h1 h2 h3 h4 ih => exact .more (hgt h1).1 h2 h3 ih
  exact conv this
 have ed : ∀ (L : List (Nat × Oper)), edgesB L = true → ∀ x ∈ L, ∀ e ∈ x.2.after.toList, Region.binds .any e = true → e.on < x.1 := by
  intro L
  induction L with
  | nil => intro _ x hx; cases hx
  | cons y L ih =>
   obtain ⟨i, o⟩ := y
   intro hL x hx e he hb
   simp only [edgesB, Bool.and_eq_true] at hL
   rcases List.mem_cons.1 hx with rfl | hx
   ·have := List.all_eq_true.1 hL.1 e he
    simpa [hb] using this
   exact ih hL.2 x hx e he hb
 have e0 : all.toArray.size = (Array.replicate all.toArray.size false).size := by simp
 rw [show wpAny P .any all.toArray Q all.toArray.size = wpAny P .any all.toArray Q ((number 0 (all.take n0)).length + (all.toArray.size - n0)) by rw [← hsz]]
 refine any3_ok (cs := cs) (all := all) (tb := masks (all.take n0) []) (tz := masks all []) hT rfl hmk (masks_ok (all := all) (l := all) (tb := []) rfl (fun i j h => by simp at h)) hH (n0 := n0) (fun k hk hk' j hj => ?_) (fun k o hk e he hb => ?_) (by simpa using hn0) _ (number 0 (all.take n0)) fs _ s a _ rfl hf (fun t p v hl => by rw [hgs] at hl; cases hl) ?_ ⟨by rw [hnl]; exact hlen, d1⟩ ?_ (number_sorted _ 0) ?_ ?_ ?_ ?_ ?_ ?_ ?_
 ·have := List.all_eq_true.1 hZ k (List.mem_range.2 (by simpa using hk'))
  simp only [Bool.or_eq_true, Nat.blt_eq] at this
  rcases this with h | h
  ·omega
  exact List.all_eq_true.1 h j (List.mem_range.2 hj)
 ·have := number_mem (i := 0) (l := all) (k := k) (o := o) (by simpa using hk)
  rw [Nat.zero_add] at this
  exact ed _ hZe (k, o) this e he hb
 ·exact ordB_ok d3
 ·intro k o hk hu
  exfalso
  rw [hlst k false (List.getElem?_eq_some_iff.1 hk).1] at hu
  cases hu
 ·intro x hx
  obtain ⟨h1, h2⟩ := number_get hx
  rw [Nat.sub_zero] at h2
  obtain ⟨h3, _⟩ := hgt h2
  exact ⟨by simpa using h3, hlst _ _ (List.getElem?_eq_some_iff.1 h3).1⟩
 ·intro k o hkn hk _
  have hk' : (all.take n0)[k]? = some o := by rw [List.getElem?_take, if_pos hkn]; simpa using hk
  have := number_mem (i := 0) (l := all.take n0) (k := k) (o := o) hk'
  rwa [Nat.zero_add] at this
 ·intro k _ hk
  exact hlst _ _ (by simpa using hk)
 ·intro x hx
  obtain ⟨h1, h2⟩ := number_get hx
  rw [Nat.sub_zero] at h2
  exact (hgt h2).2
 ·simp
 ·exact ed _ d2
 intro X
 obtain ⟨r, hr, e⟩ := Option.map_eq_some_iff.1 (hex std X)
 obtain ⟨τ, obs, fs'⟩ := r
 simp only [Prod.mk.injEq] at e
 obtain ⟨e1, rfl⟩ := e
 refine ⟨τ, obs, hr, ?_, fun a' w' hf' => hQ X a' w' ?_⟩
 ·have := hob X; rw [← e1] at this; exact this
 rw [← e1]; exact hf'.keep kp km
theorem drawn3_ok {s : St} {a : Act} {w : World} {id : Nat} {all : List Oper} (n0 : Nat) (H : Hand) (hH : HandOK C P all H) (hm : P.follows .mixedOrders = true) (hT : TabOK P T) (kp km : List Nat) (cs : List (Nat × CS)) (h : Fits C s a w) (hgs : s.gs = []) (fs : List Foot) (hD : drawB (all.take n0) fs = true) (hZ : tail3B all n0 = true) (hlen : (all.take n0).length = fs.length)
  {R : Alg → (Nat → Atom) → St × List Ob}
  (hex : ∀ A X, (exec2 A T cs H X all (number 0 (all.take n0)) s).map (fun r => ((r.1.keep kp km, r.2.1), r.2.2)) = some (R A X, fs)) (hob : ∀ X, AO P C.K (R std X).2) (hQ : ∀ X a' w', Fits C (R std X).1 a' w' → wpList P all.toArray Q (all.drop n0) a' w') : (Code.region id all.toArray true).wp P Q a w :=
 wp_region_any hm (drawn3_any n0 H hH hT kp km cs h hgs fs hD hZ hlen hex hob hQ)
theorem drawn3_okB {s : St} {a : Act} {w : World} {id : Nat} {all : List Oper} {B : Alg} (hB : B = std) (n0 : Nat) (H : Hand) (hH : HandOK C P all H) (hm : P.follows .mixedOrders = true) (hT : TabOK P T) (kp km : List Nat) (cs : List (Nat × CS)) (h : Fits C s a w) (hgs : s.gs = []) (fs : List Foot) (hD : drawB (all.take n0) fs = true) (hZ : tail3B all n0 = true) (hlen : (all.take n0).length = fs.length)
  {R : Alg → (Nat → Atom) → St × List Ob}
  (hex : ∀ A X, (exec2 A T cs H X all (number 0 (all.take n0)) s).map (fun r => ((r.1.keep kp km, r.2.1), r.2.2)) = some (R A X, fs)) (hob : ∀ X, AO P C.K (R B X).2) (hQ : ∀ X a' w', Fits C (R B X).1 a' w' → wpList P all.toArray Q (all.drop n0) a' w') : (Code.region id all.toArray true).wp P Q a w := by
 subst hB
 exact drawn3_ok n0 H hH hm hT kp km cs h hgs fs hD hZ hlen hex hob hQ
end
section
variable {C : Cx} {P : Program} {Q : Exit → Act → World → Prop} {T : List (Nat × TI)} {s : St} {a : Act} {w : World} {B : Alg}
theorem d3 {id : Nat} {all : List Oper} {R : Alg → (Nat → Atom) → St × List Ob} {fs : List Foot} (n0 : Nat) (hB : B = std) (hT : TabOK P T) (kp km : List Nat) (cs : List (Nat × CS)) (h : Fits C s a w) (hQ : ∀ X a' w', Fits C (R B X).1 a' w' → wpList P all.toArray Q (all.drop n0) a' w') (hm : P.follows .mixedOrders = true := by kernel_rfl) (hgs : s.gs = [] := by rfl)
  (hex : ∀ A X, (exec2 A T cs none X all (number 0 (all.take n0)) s).map (fun r => ((r.1.keep kp km, r.2.1), r.2.2)) = some (R A X, fs) := by intro A X; conv => lhs; cbv) (hD : drawB (all.take n0) fs = true := by kernel_rfl) (hZ : tail3B all n0 = true := by kernel_rfl) (hlen : (all.take n0).length = fs.length := by rfl) (hob : ∀ X, AO P C.K (R B X).2 := by
   intro X; subst hB
   first
   | exact trivial
   | (simp only [AO, Ob.holds, BE.den] <;> and_intros <;> (repeat first | trivial | rfl | exact O1 | exact O2 | exact O3 | exact (fun _ _ => by kernel_rfl) | exact O1 _ _ _ rfl | exact O2 _ _ _ rfl | refine ⟨?_, ?_⟩ | intro h | decide | omega) <;> done)
   | (simp [AO, Ob.holds, BE.den, std, sC, sAr] <;> omega)) : (Code.region id all.toArray true).wp P Q a w := drawn3_okB hB n0 none handOK_none hm hT kp km cs h hgs fs hD hZ hlen hex hob hQ
end
end Go.Proofs.YtpgjalaldhlcoaaGreat.Sym
namespace Go.Proofs.YtpgjalaldhlcoaaGreat.Sym
open Go Go.RowKit
theorem setA_setA {α : Type} {l : Lab} {x y : α} : ∀ {L : List (Lab × α)}, setA l y (setA l x L) = setA l y L
 | [] => by simp [setA]
 | p :: L => by
  by_cases h : p.1 = l
  ·simp [setA, h]
  have := setA_setA (l := l) (x := x) (y := y) (L := L)
  simp [setA, h, this]
def nexA (g : Nat → Lab) (n : Nat) : Nat → List (Lab × Lab)
 | 0 => []
 | i + 1 => setA (g i) (if i + 1 < n then g (i + 1) else noneL) (nexA g n i)
theorem nexA_len (g : Nat → Lab) (n : Nat) : ∀ i, (nexA g n i).length ≤ i
 | 0 => Nat.le_refl _
 | i + 1 => by
  have := nexA_len g n i
  unfold nexA
  rw [set_len]
  split <;> omega
theorem nexts_m (A : Option Addr) (n c : Nat) (g : Nat → Lab) (hn : n ≤ 100000) (hN : ∀ i, i < n → LabOk (g i)) : SpecM Tryz.prog 29 [labsV A n c g] [] none noK (fun y => ⟨.raw (.map (some (y.c 0))), [], []⟩) (fun N y => lmF labAV N (y.c 0) (nexA g n n)) := by
 intro m w hm hargs hpre hI
 have hmx : maxLen = 9223372036854775807 := rfl
 have SNo := none_s
 simp only [labAV] at SNo
 refine enM (bo := none) 31 hm hpre hI hargs Tryz.func29 fun B hB a0 hF => ?_
 refine wp_seq (rg hB TA_ok [0] [] [] hF fun X0 a0 w1 hF => ?_)
 refine wp_seq (wp_region_lit (man_makeMap (k := 42) (e := 0) rfl rfl rfl rfl hF (Nat.le_of_ble_eq_true rfl) (lmK labAV w1.heap.size []) (fun m w' _ _ hM => ⟨_, LmD.empty hM⟩) ?_))
 obtain ⟨bM, hbM⟩ := eqv (w1.heap.size)
 rw [← hbM]
 intro a0 w1 hfresh hF
 have hbfr : w.heap.size ≤ bM := hfresh
 refine lnd 1 hB TA_ok [3, 0] [] [] hF fun X1 a0 w1 hF => ?_
 refine wp_seq (wp_seq (rg hB TA_ok [9, 0, 3, 7, 8] [] [] hF fun X2 a0 w1 hF => ?_))
 refine wp_block (loop_preK (ι := Nat) (fun p => lmK labAV bM (nexA g n p)) (fun p => [(9, .int .i64 (p : Int))]) (fun p => []) (fun p => []) (fun p => p ≤ n) (fun p => n - p) 0 (Nat.zero_le _) hF ?_)
 rintro i hi a0 w1 hF
 try dsimp only at hi
 replace hF := hF.withK (K' := lmK labAV bM (nexA g n i)) hF.kept
 have hLn := nexA_len g n i
 have hLn2 : (setA (g i) noneL (nexA g n i)).length ≤ i + 1 := by rw [set_len]; split <;> omega
 refine wp_seq (rg hB TA_ok [10, 9, 0, 3, 7, 8] [] [] hF fun X3 a0 w1 hF => ?_)
 refine wp_seq (test_ok hF rfl (fun hb hF => ?_) (fun hb hF => ?_))
 ·have hin : i < n := by
   have : (i : Int) < (n : Int) := by subst hB; simpa [std, sC] using hb
   omega
  have hlab := hN i hin
  refine wp_skip (wp_seq (wp_block (wp_seq ?_)))
  refine rg hB TA_ok [4, 5, 9, 0, 3, 7, 8] [5] [] hF (hob := by intro X; subst hB; simp only [AO, Ob.holds, BE.den] <;> and_intros <;> repeat first | trivial | rfl | exact (show (0 : Int) ≤ (i : Int) by omega) | exact (show (i : Int) < (n : Int) by omega) | exact (fun _ _ => by kernel_rfl) | refine ⟨?_, ?_⟩ | intro h | exact Int.le_refl _ | decide | omega) fun X4 a0 w1 hF => ?_
  replace hF := hF.memS (cells' := labC (g i)) (by subst hB; exact zl)
  apply wp_seq
  apply drawn2_okB hB 3 none ?hH (by kernel_rfl) TA_ok [14, 15, 16, 4, 5, 9, 0, 3, 7, 8] [5] [(2, .r fun _ => .agg [.int .i64 noneL.len, .int .u64 noneL.bits])] hF rfl
  case hH => exact handOK_none
  case hex => intro A X; conv => lhs; cbv
  case hD => kernel_rfl
  case hZ => kernel_rfl
  case hlen => rfl
  case hob =>
   intro X
   subst hB
   simp only [AO, Ob.holds, BE.den] <;> (and_intros <;> repeat first | trivial | rfl | exact enters66 | exact SNo | refine ⟨?_, ?_⟩ | intro h)
  case hQ =>
  intro X5 a0 w1 hF
  obtain ⟨D2, hD2⟩ := hF.kept
  refine man_mapUpdate (k := 42) (e := 42) rfl rfl rfl rfl hF rfl rfl rfl rfl rfl labK mapl_und hD2.map (by omega) (key_lab hlab) (fun h => absurd h (by omega)) (lmK labAV bM (setA (g i) noneL (nexA g n i))) (fun m w' hk hkb hv hM => ?_) ?_
  ·exact lmK_put (x := noneL) hD2.map hlab hk hkb (zr) hv hM
  intro w1 hF
  replace hF := hF.keep [4,5,9,0,3,7,8] [5]
  refine wpList_nil (wp_seq (rg hB TA_ok [21, 4, 5, 9, 0, 3, 7, 8] [5] [] hF fun X6 a0 w1 hF => ?_))
  apply test_ok hF rfl <;> intro hb hF
  ·have hlt : i + 1 < n := by
    have h9 : (IntKind.i64.wrap ((i : Int) + 1)) < (n : Int) := by subst hB; simpa [std, sC, sAr] using hb
    rw [wrap_in (by omega) (by omega)] at h9; omega
   apply drawn2_okB hB 7 none ?hH (by kernel_rfl) TA_ok [22, 23, 28, 9, 0, 3, 7, 8] [] [] hF rfl
   case hH => exact handOK_none
   case hex => intro A X; conv => lhs; cbv
   case hD => kernel_rfl
   case hZ => kernel_rfl
   case hlen => rfl
   case hob =>
    intro X
    subst hB
    have e2 : std.arith .add .i64 (i : Int) 1 = ((i + 1 : Nat) : Int) := by show IntKind.i64.wrap ((i : Int) + 1) = _; rw [wrap_in (by omega) (by omega)]; rfl
    have e3 : 0 ≤ std.arith .add .i64 (i : Int) 1 ∧ std.arith .add .i64 (i : Int) 1 < (n : Int) := by rw [e2]; omega
    repeat (first | exact trivial | refine ⟨rfl, ?_⟩ | refine ⟨e3, ?_⟩)
   case hQ =>
   intro X7 a0 w1 hF
   have e2 : std.toNat (std.arith .add .i64 (i : Int) 1) = i + 1 := by show (IntKind.i64.wrap ((i : Int) + 1)).toNat = i + 1; rw [wrap_in (by omega) (by omega)]; rfl
   obtain ⟨D2, hD2⟩ := hF.kept
   refine man_mapUpdate (k := 42) (e := 42) rfl rfl rfl rfl hF rfl rfl rfl rfl rfl labK mapl_und hD2.map (by omega) (key_lab hlab) (fun h => absurd h (by omega)) (lmK labAV bM (setA (g i) (g (i + 1)) (setA (g i) noneL (nexA g n i)))) (fun m w' hk hkb hv hM => ?_) ?_
   ·exact lmK_put (x := g (i + 1)) hD2.map hlab hk hkb (by subst hB; show Sim (.agg [.int .i64 (g (std.toNat (std.arith .add .i64 (i : Int) 1))).len, .int .u64 (g (std.toNat (std.arith .add .i64 (i : Int) 1))).bits]) _; rw [e2]; exact zr) hv hM
   intro w1 hF
   replace hF := hF.keep [9,0,3,7,8] []
   refine wpList_nil (rg hB TA_ok [9, 0, 3, 7, 8] [] [] hF fun X8 a0 w1 hF => ?_)
   have e : B.arith .add .i64 (i : Int) 1 = ((i + 1 : Nat) : Int) := by subst hB; exact wrap_succ (n := n) hin (by omega)
   refine ⟨i + 1, by omega, by omega, ?_⟩
   rw [← e]
   refine hF.withK ?_
   show (lmK labAV bM (nexA g n (i + 1))).p _ _
   unfold nexA
   rw [if_pos hlt, ← setA_setA (x := noneL)]
   exact hF.kept
  have hlt : ¬ i + 1 < n := by
   have h9 : ¬ (IntKind.i64.wrap ((i : Int) + 1)) < (n : Int) := by subst hB; simpa [std, sC, sAr] using hb
   rw [wrap_in (by omega) (by omega)] at h9; omega
  refine wp_skip (rg hB TA_ok [9, 0, 3, 7, 8] [] [] hF fun X8 a0 w1 hF => ?_)
  have e : B.arith .add .i64 (i : Int) 1 = ((i + 1 : Nat) : Int) := by subst hB; exact wrap_succ (n := n) hin (by omega)
  refine ⟨i + 1, by omega, by omega, ?_⟩
  rw [← e]
  refine hF.withK ?_
  show (lmK labAV bM (nexA g n (i + 1))).p _ _
  unfold nexA
  rw [if_neg hlt]
  exact hF.kept
 have hout : i = n := by
  have : ¬ (i : Int) < (n : Int) := by subst hB; simpa [std, sC] using hb
  omega
 subst hout
 refine wp_exit (wp_seq (rg hB TA_ok [2] [] [] hF fun X9 a0 w1 hF => ?_))
 refine wp_ret ((rm hB TA_ok hF (⟨0, fun _ => none, fun _ => bM, fun _ => ⟨#[]⟩⟩) [] (hJ := ?_)).1)
 exact fun _ _ h => ⟨hbfr, h⟩
section
variable {C : Cx} {P : Program} {Q : Exit → Act → World → Prop} {T : List (Nat × TI)} {s : St} {a : Act} {w : World} {B : Alg} {r : Option Nat}
theorem rd3 {id : Nat} {all : List Oper} {R : Alg → (Nat → Atom) → St × List Ob} {fs : List Foot} (n0 : Nat) (hB : B = std) (hT : TabOK P T) (kp km : List Nat) (cs : List (Nat × CS)) (h : Fits C s a w) (hQ : ∀ X a' w', Fits C (R B X).1 a' w' → wpList P all.toArray Q (all.drop n0) a' w')
  (hO : ∀ a w, ¬ Q .outgrown a w := by first | exact fun _ _ h => h | (intro a w h; obtain ⟨x, h, _⟩ := h; cases h)) (hm : P.follows .mixedOrders = true := by kernel_rfl) (hgs : s.gs = [] := by rfl)
  (hex : ∀ A X, (exec2 A T cs none X all (number 0 (all.take n0)) s).map (fun r => ((r.1.keep kp km, r.2.1), r.2.2)) = some (R A X, fs) := by intro A X; conv => lhs; cbv) (hD : drawB (all.take n0) fs = true := by kernel_rfl) (hZ : tail3B all n0 = true := by kernel_rfl) (hlen : (all.take n0).length = fs.length := by rfl) (hob : ∀ X, AO P C.K (R B X).2 := by
   intro X; subst hB
   first
   | exact trivial
   | (simp only [AO, Ob.holds, BE.den] <;> and_intros <;> (repeat first | trivial | rfl | exact O1 | exact O2 | exact O3 | exact (fun _ _ => by kernel_rfl) | exact O1 _ _ _ rfl | exact O2 _ _ _ rfl | refine ⟨?_, ?_⟩ | intro h | decide | omega) <;> done)
   | (simp [AO, Ob.holds, BE.den, std, sC, sAr] <;> omega)) (hd : noDefer all = true := by rfl) : (Code.region id all.toArray true).wpIn (rF r) 0 P Q a w := by
 subst hB
 exact wpIn_region_any hm (any_r hO (fun o ho => nd_at hd (by simpa using ho)) _ _ _ _ (drawn3_any n0 none handOK_none hT kp km cs h hgs fs hD hZ hlen hex hob hQ))
end
section
variable {m0 : Nat → Nat → Prop} {w0 : World} {S : Nat → Prop} {ds : List Deferred} {K : Kn} {P : Program} {Q : Exit → Act → World → Prop} {ops : Array Oper}
theorem man_callKL {K1 E : Kn} {J : Kn} {tmc : List (Nat × AV)} {l D bo : Nat} {rc : Loop} {st : LoopState} {pe : Option Code} {s : St} {a : Act} {w : World} {L rest : List Oper} {o : Oper} {c : Call} {g : Operand} {f : FuncId} {lf r args args' : List AV} (hL : L = o :: rest) (hg : o.guard = none) (hop : o.op = .call c) (hcal : c.callee = .value g) (h : Fits ⟨m0, w0, S, ds, (KL K1 tmc l rc D st pe).and E⟩ s a w) (hgv : val s [] g = .fn f lf r) (hl : vals s [] c.args.toList = some args) (hen : Enters P f)
  {res : Atom → CR} (hsp : SpecM P f args' [] (some bo) K1 res (fun _ _ => J)) (hlb : l ≠ bo) (hDb : D ≠ bo) (hE : E.off bo) (hC : bo < w0.heap.size → S bo) (hsim : SimL (lf ++ args ++ r) args') (hd : inNt s o.dst = true)
  (Kc : ∀ x a' w', Fits ⟨m0, w0, S, ds, (KL J tmc l rc D st pe).and E⟩ ((s.eff (.sets (upd [] (res x).sets ++ (res x).news))).put o.dst (res x).v) a' w' → wpList P ops Q rest a' w') : wpList P ops Q L a w :=
 man_callM hL hg hop hcal h hgv hl hen hsp (fun _ _ h => h.1.1.1) (fun b hb => by cases hb; exact hC) hsim (fun e he => by cases he) rfl hd (fun _ => (KL J tmc l rc D st pe).and E)
  (fun n x m w m' w' _ hk hkb hJ => ⟨⟨⟨hJ, okT_off tmc bo hkb hk.1.1.2⟩, recK_off hlb hDb hkb hk.1.2⟩, hE hkb hk.2⟩) Kc
end
section
variable {P : Program} {f : FuncId} {fn : Func} {c : Code} {R : Ending → World → Prop} {m : Nat → Nat → Prop} {w : World} {pre : List (Nat × Blk)} {args : List AV} {I : Kn} {bo : Option Nat}
theorem preFits {n : Nat} (hm : ∀ b o, m b o → b < w.heap.size) (hp : PreOk m w pre) (hI : I.p m w) (hargs : ∀ v ∈ args, Ok m w v) (hn : args.length ≤ n) : Fits ⟨m, w, fun k => ats pre k ∨ bo = some k, [], I⟩ ⟨n, startT 0 args, [], pre, []⟩ { tmps := (args.map AV.den).toArray ++ Array.replicate (n - args.length) Go.undef, defers := [] } w :=
 ((enterFits hm hp hargs hn).wider fun k hk => .inl hk).withK (I.st ⟨fun b o u h1 h2 => ⟨h1, fun hm' => by
  rcases hm' with h3 | ⟨k, e, he, hat⟩ | ⟨k, e, he, _⟩
  ·exact h2 h3
  ·exact h2 (hat ▸ hp.free _ (lookM_mem he) o)
  cases he⟩, fun _ _ h _ => h⟩ hI)
theorem enMN (nt : Nat) (hm : ∀ b o, m b o → b < w.heap.size) (hp : PreOk m w pre) (hI : I.p m w) (hargs : ∀ v ∈ args, Ok m w v) (hf : P.funcs[f]? = some fn) (h : ∀ B, B = std → ∀ a, Fits ⟨m, w, fun k => ats pre k ∨ bo = some k, [], I⟩ ⟨nt, startT 0 args, [], pre, []⟩ a w → wpN f P c (bodyPostM Fence.wide 0 P fn R) a w) (hb : fn.body = some c := by rfl) (hnt : fn.ntmps = nt := by rfl) (hn : args.length ≤ nt := by exact Nat.le_of_ble_eq_true rfl) : Calls P f (args.map AV.den).toArray w R := by
 refine calls_marks hf hb ?_
 have := h std rfl _ (preFits hm hp hI hargs hn)
 simpa [hnt] using this
end
def MPost (bo : Option Nat) (m : Nat → Nat → Prop) (w : World) (pre : List (Nat × Blk)) (res : Atom → CR) (J : Atom → Kn) (e : Ending) (w' : World) : Prop :=
 ∃ x, e = .returned (res x).v.den ∧ Ok (mN m (res x).news) w' (res x).v ∧ LeftS bo m w w' pre (res x).sets (res x).news ∧ (∀ b, bo = some b → ∃ es cl es' cl', w.heap[b]? = some (.map es cl) ∧ w'.heap[b]? = some (.map es' cl')) ∧ (J x).p (mN m (res x).news) w'
section
variable {P : Program} {fn : Func} {m : Nat → Nat → Prop} {w0 w : World} {bo : Option Nat} {K : Kn} {nt : Nat} {tm : List (Nat × AV)} {mem : List (Nat × Blk)} {a : Act} {B : Alg} {T : List (Nat × TI)} {rs : List ResultVar} {r : List AV × List Ob} {pre : List (Nat × Blk)}
theorem mpost_of {res : Atom → CR} {J : Atom → Kn} (hm : Mem m w0 (fun k => ats pre k ∨ bo = some k) K mem [] w) (hv : Ok (mT m mem []) w (resA r.1)) (x : Atom) (ks : List Nat)
  (hmap : ∀ b, bo = some b → (∃ es cl, w0.heap[b]? = some (.map es cl)) ∧ ∀ m, K.p m w → ∃ es cl, w.heap[b]? = some (.map es cl)) (he : Sim (can (resA r.1)) (can (res x).v)) (hs : SetsOk ⟨0, [], [], mem, []⟩ pre (res x).sets) (hn : NewsOk ⟨0, [], [], mem, []⟩ pre ks (res x).news) (hJ : ∀ m w, K.p m w → (J x).p m w) : MPost bo m w0 pre res J (.returned (resA r.1).den) w := by
 obtain ⟨h1, h2⟩ := left_okS hm (fun b hb => (hmap b hb).2 _ hm.kept) hs hn
 refine ⟨x, ?_, (can_ok _).2 (he.2.2 _ _ ((can_ok _).1 (h2.ok hv))), h1, fun b hb => ?_, hJ _ _ (K.st h2 hm.kept)⟩
 ·rw [← can_den (resA r.1), he.1, can_den]
 obtain ⟨⟨es, cl, h3⟩, h4⟩ := hmap b hb
 obtain ⟨es', cl', h4⟩ := h4 _ hm.kept
 exact ⟨_, _, _, _, h3, h4⟩
theorem rmM {res : Atom → CR} {J : Atom → Kn} (hB : B = std) (hT : TabOK P T) (Ds : List Nat) (h : Fits ⟨m, w0, fun k => ats pre k ∨ bo = some k, Ds.map markD, K.and (marksK Ds)⟩ ⟨nt, tm, [], mem, []⟩ a w) (hof : ∀ D ∈ Ds, K.off D ∧ w0.heap.size ≤ D) (x : Atom) (ks : List Nat)
  (hmap : ∀ b, bo = some b → (∃ es cl, w0.heap[b]? = some (.map es cl)) ∧ ∀ m w, K.p m w → ∃ es cl, w.heap[b]? = some (.map es cl)) (he : Sim (can (resA r.1)) (can (res x).v)) (hs : SetsOk ⟨0, [], [], mem, []⟩ pre (res x).sets := by exact trivial) (hn : NewsOk ⟨0, [], [], mem, []⟩ pre ks (res x).news := by exact trivial) (hJ : ∀ m w, K.p m w → (J x).p m w := by exact fun m w h => h) (hfn : fn.results = rs.toArray := by rfl) (hr : resL T ⟨nt, tm, [], mem, []⟩ rs = some r := by first | rfl | (conv => lhs; cbv)) (ho : AO P (K.and (okT tm)) r.2 := by first | exact trivial | (subst hB; simp [AO, Ob.holds])) :
  bodyPostM Fence.wide 0 P fn (MPost bo m w0 pre res J) .ret a w ∧ bodyPostM Fence.wide 0 P fn (MPost bo m w0 pre res J) .normal a w :=
 retIM hB hT Ds h hof (fun w' hm' hv => mpost_of hm' hv x ks (fun b hb => ⟨(hmap b hb).1, fun m h => (hmap b hb).2 m _ h⟩) he hs hn hJ) hfn hr ho
end
def leafR (l : List Itm) : Rec := ⟨1, l, ⟨0, 0⟩, 0⟩
def innR : Rec := ⟨2, [], noneL, 0⟩
def growP (b : Int) : Nat → List Itm → Lab → List (Lab × Rec) → Bool × List (Lab × Rec)
 | 0, _, _, T => (true, T)
 | n + 1, l, q, T =>
  if 2000 ≤ T.length then (false, T)
  else if (l.length : Int) ≤ b ∨ q.len = 64 then (true, setA q (leafR l) T)
  else if chE q 0 = 0 then
   (if (growP b n (covL (chV q 0) l) (chV q 0) (setA q innR T)).1 = true then growP b n (covL (chV q 1) l) (chV q 1) (growP b n (covL (chV q 0) l) (chV q 0) (setA q innR T)).2
    else (false, (growP b n (covL (chV q 0) l) (chV q 0) (setA q innR T)).2))
  else (true, setA q innR T)
def gT (b : Int) (n : Nat) (l : List Itm) (q : Lab) (T : List (Lab × Rec)) : Nat → List (Lab × Rec)
 | 0 => setA q innR T
 | i + 1 => (growP b n (covL (chV q (i : Nat)) l) (chV q (i : Nat)) (gT b n l q T i)).2
def gB (b : Int) (n : Nat) (l : List Itm) (q : Lab) (T : List (Lab × Rec)) (i : Nat) : Bool := (growP b n (covL (chV q (i : Nat)) l) (chV q (i : Nat)) (gT b n l q T i)).1
section
variable {b : Int} {n : Nat} {l : List Itm} {q : Lab} {T : List (Lab × Rec)}
theorem grow_full (h : 2000 ≤ T.length) : growP b (n + 1) l q T = (false, T) := by
 rw [growP.eq_2]; exact if_pos h
theorem grow_leaf (h : ¬ 2000 ≤ T.length) (h1 : (l.length : Int) ≤ b ∨ q.len = 64) : growP b (n + 1) l q T = (true, setA q (leafR l) T) := by
 rw [growP.eq_2]; exact (if_neg h).trans (if_pos h1)
theorem grow_none (h : ¬ 2000 ≤ T.length) (h1 : ¬ ((l.length : Int) ≤ b ∨ q.len = 64)) (hc : ¬ chE q 0 = 0) : growP b (n + 1) l q T = (true, gT b n l q T 0) := by
 rw [growP.eq_2]; exact (if_neg h).trans ((if_neg h1).trans (if_neg hc))
theorem grow_in (h : ¬ 2000 ≤ T.length) (h1 : ¬ ((l.length : Int) ≤ b ∨ q.len = 64)) (hc : chE q 0 = 0) : growP b (n + 1) l q T = if gB b n l q T 0 = true then (gB b n l q T 1, gT b n l q T 2) else (false, gT b n l q T 1) := by
 rw [growP.eq_2]; exact (if_neg h).trans ((if_neg h1).trans (if_pos hc))
end
def absT (TA : List (Lab × RA)) : List (Lab × Rec) := TA.map fun p => (p.1, p.2.r.abs)
theorem absT_set {q : Lab} {x : RA} : ∀ {TA : List (Lab × RA)}, absT (setA q x TA) = setA q x.r.abs (absT TA)
 | [] => rfl
 | p :: TA => by
  have ih := absT_set (q := q) (x := x) (TA := TA)
  unfold absT at ih ⊢
  by_cases h : p.1 = q
  ·simp [setA, h]
  simp [setA, h, ih]
theorem absT_len (TA : List (Lab × RA)) : (absT TA).length = TA.length := List.length_map _
def lmR (b : Nat) (T : List (Lab × Rec)) : Kn := ⟨fun m w => ∃ TA : List (Lab × RA), absT TA = T ∧ (lmK recV b TA).p m w, fun k ⟨TA, h1, h2⟩ => ⟨TA, h1, (lmK recV b TA).st k h2⟩⟩
theorem lmR_off {b n : Nat} {T : List (Lab × Rec)} (h : b ≠ n) : (lmR b T).off n := fun k ⟨TA, h1, h2⟩ => ⟨TA, h1, lmK_off h k h2⟩
theorem lmR_self {b : Nat} {T : List (Lab × Rec)} : (lmR b T).self := fun m w ⟨TA, h1, h2⟩ l hl _ _ _ _ k ⟨TA', h1', h2'⟩ => ⟨TA', h1', lmK_off (by have := lmK_lt h2; omega) k h2'⟩
theorem lmR_map {b : Nat} {T : List (Lab × Rec)} {m : Nat → Nat → Prop} {w : World} (h : (lmR b T).p m w) : ∃ es cl, w.heap[b]? = some (.map es cl) := by
 obtain ⟨TA, _, h⟩ := h
 exact lmK_map h
theorem lmR_put {b n : Nat} {T : List (Lab × Rec)} {D : DataW Value} {m : Nat → Nat → Prop} {w w' : World} {q : Lab} (h0 : MapW Tryz.prog 42 w b n D) (hq : LabOk q) (h : (lmR b T).p m w) (k : KeepB (some b) w m w' m) {v : AV} {x : RA} (hs : Sim v (recV x)) (hv : Ok m w v) (hM : MapW Tryz.prog 42 w' b (T.length + 1) (D.put (keyL q) (.held v.den))) : (lmR b (setA q x.r.abs T)).p m w' := by
 obtain ⟨TA, rfl, h⟩ := h
 rw [absT_len] at hM
 exact ⟨setA q x TA, absT_set, lmK_put h0 hq h k hs hv hM⟩
theorem cov_keys {l : Lab} {its : List Itm} (h : ∀ x ∈ its, U64 x.key) : ∀ i, i < (covL l its).length → U64 (itF (covL l its) i).key := by
 intro i hi
 have : itF (covL l its) i ∈ covL l its := by
  unfold itF
  rw [List.getD_eq_getElem?_getD, List.getElem?_eq_getElem hi]
  exact List.getElem_mem hi
 exact h _ (List.mem_filter.1 this).1
theorem firsts_mem {f : Nat → Itm} {n : Nat} {p : Itm → Prop} (h : ∀ i, i < n → p (f i)) : ∀ x ∈ firsts f n, p x := by
 intro x hx
 unfold firsts at hx
 obtain ⟨i, hi, rfl⟩ := List.mem_map.1 hx
 exact h i (List.mem_range.1 hi)
theorem grow_m (bT : Nat) (b : Int) : ∀ (n : Nat) (A : Option Addr) (ln c : Nat) (f : Nat → Itm) (q : Lab) (T : List (Lab × Rec)), ln ≤ 1000000 → (∀ i, i < ln → U64 (f i).key) → U64 q.bits → isL q = true → 65 ≤ q.len + n → SpecM Tryz.prog 44 [.raw (.map (some bT)), rowI A ln c f, labAV q, .int .i64 b] [] (some bT) (lmR bT T) (fun _ => ⟨.bool (.v (growP b n (firsts f ln) q T).1), [], []⟩) (fun _ _ => lmR bT (growP b n (firsts f ln) q T).2) := by
 intro n
 induction n with
 | zero =>
  intro A ln c f q T _ _ _ hl hn
  have := (lab_parts hl).2.1
  exact absurd hn (by omega)
 | succ n ih =>
  intro A ln c f q T hln hki hb0 hl hn m w hm hargs hpre hI
  have hmx : maxLen = 9223372036854775807 := rfl
  have hlq : LabOk q := labOk_is hl hb0
  have hmap0 := lmR_map hI
  have hbT : bT < w.heap.size := by obtain ⟨es, cl, h⟩ := hmap0; exact lt_heap h
  obtain ⟨G, hG⟩ := eqv (growP b (n + 1) (firsts f ln) q T)
  rw [← hG]
  simp only [rowI, labAV] at hargs ⊢
  show Calls _ _ _ w (MPost (some bT) m w [] (fun _ => ⟨.bool (.v G.1), [], []⟩) (fun _ => lmR bT G.2))
  refine enMN (bo := some bT) 42 hm hpre hI hargs Tryz.func44 fun B hB a0 hF => ?_
  refine wpN_seq (wpN_of (rg hB TA_ok [4, 5, 6, 7, 8] [4, 5, 6, 7, 8] [] hF fun X0 a0 w1 hF => ?_))
  refine wpN_seq (wpN_of (wp_seq (wp_region_lit ?_)))
  refine lpr 0 1 hB TA_ok [10, 4, 5, 6, 7, 8] [4, 5, 6, 7, 8] [] hF (fun X1 a0 w1 hF => ?_)
  obtain ⟨TA, hTA, D, hD⟩ := hF.kept
  have hTl : Maps.size D = T.length := by rw [hD.size, ← hTA, absT_len]
  refine man_mlen rfl rfl rfl rfl rfl rfl rfl hF (Nat.le_of_ble_eq_true rfl) rfl mapr_und hD.map fun a0 hF => ?_
  rw [hTl] at hF
  obtain ⟨tn, htn⟩ := eqv (T.length)
  rw [← htn] at hF
  refine lnd 2 hB TA_ok [12, 4, 5, 6, 7, 8] [4, 5, 6, 7, 8] [] hF (fun X2 a0 w1 hF => ?_)
  have hhm : ∀ T', ∀ b', some bT = some b' → (∃ es cl, w.heap[b']? = some (.map es cl)) ∧ ∀ m w, (lmR bT T').p m w → ∃ es cl, w.heap[b']? = some (.map es cl) := fun T' b' hb' => by cases hb'; exact ⟨hmap0, fun m w h => lmR_map h⟩
  apply test_ok hF rfl <;> intro hb hF
  ·have hfull : 2000 ≤ T.length := by
    have : (2000 : Int) ≤ (tn : Int) := by subst hB; simpa [std, sC] using hb
    omega
   refine wp_seq (rg hB TA_ok [8] [8] [] hF fun X3 a0 w1 hF => ?_)
   have hG := hG.trans (grow_full hfull)
   refine wp_ret (rmM (res := fun _ => ⟨.bool (.v G.1), [], []⟩) (J := fun _ => lmR bT G.2) hB TA_ok [] (hF.withK (K' := (lmR bT T).and (marksK [])) ⟨hF.kept, ⟨fun D hD => (by cases hD), List.nodup_nil⟩⟩) (fun D hD => by cases hD) ⟨0, fun _ => none, fun _ => 0, fun _ => .empty⟩ [] (hhm _) (he := ?he) (hJ := by rw [hG]; exact fun _ _ h => h)).1
   case he => rw [hG]; subst hB; exact Sim.bool rfl
  have hnf : ¬ 2000 ≤ T.length := by
   have : ¬ (2000 : Int) ≤ (tn : Int) := by subst hB; simpa [std, sC] using hb
   omega
  refine wp_skip ?_
  refine wpN_seq (wpN_of (wp_seq (rg hB TA_ok [21, 4, 5, 6, 7, 8] [4, 5, 6, 7, 8] [] hF fun X3 a0 w1 hF => ?_)))
  apply test_ok hF rfl <;> intro hb hF
  ·have h9 : (if decide ((ln : Int) ≤ b) = true then true else decide (q.len = 64)) = true := by subst hB; exact hb
   have hlf : ((firsts f ln).length : Int) ≤ b ∨ q.len = 64 := by
    rw [firsts_len]
    by_cases h1 : (ln : Int) ≤ b
    ·exact .inl h1
    rw [decide_eq_false h1] at h9; exact .inr (by simpa using h9)
   have hG := hG.trans (grow_leaf hnf hlf)
   have SCl := Cl.clone_sf A ln c f (by omega)
   simp only [rowI] at SCl
   have O1 := SCl
   refine wp_seq (d3 5 hB TA_ok [22, 23, 26, 8] [8] [(3, .r fun y => .sl none (y.A 0) ln (y.c 0) 2 (fun t => itC (f t)))] hF fun X4 a0 w1 hF => ?_)
   obtain ⟨TA2, hTA2, D2, hD2⟩ := hF.kept
   have hT2 : TA2.length = T.length := by rw [← hTA2, absT_len]
   refine man_mapUpdate (k := 42) (e := 44) rfl rfl rfl rfl hF rfl rfl rfl rfl rfl labK mapr_und hD2.map (by omega) (key_lab hlq) (fun _ => .inr rfl) (lmR bT (setA q (leafR (firsts f ln)) T)) (fun m' w' hk hkb hv hM => ?_) ?_
   ·have := lmR_put (x := ⟨(X4 3).A 0, (X4 3).c 0, ⟨ln, f, 1, ⟨0, 0⟩, 0⟩⟩) hD2.map hlq hk hkb ?_ hv (by rw [← hT2]; exact hM)
    ·exact this
    exact Sim.agg ⟨zr, zr, zr, zr, zr, trivial⟩
   intro w1 hF
   refine wpList_nil ?_
   refine wp_seq (rg hB TA_ok [8] [8] [] hF fun X5 a0 w1 hF => ?_)
   refine wp_ret (rmM (res := fun _ => ⟨.bool (.v G.1), [], []⟩) (J := fun _ => lmR bT G.2) hB TA_ok [] (hF.withK (K' := (lmR bT (setA q (leafR (firsts f ln)) T)).and (marksK [])) ⟨hF.kept, ⟨fun D hD => (by cases hD), List.nodup_nil⟩⟩) (fun D hD => by cases hD) ⟨0, fun _ => none, fun _ => 0, fun _ => .empty⟩ [] (hhm _) (he := ?he) (hJ := by rw [hG]; exact fun _ _ h => h)).1
   case he => rw [hG]; subst hB; exact Sim.bool rfl
  have hnl : ¬ (((firsts f ln).length : Int) ≤ b ∨ q.len = 64) := by
   have h9 : (if decide ((ln : Int) ≤ b) = true then true else decide (q.len = 64)) = false := by subst hB; exact hb
   rw [firsts_len]
   rintro (h1 | h1) <;> simp [h1] at h9
  refine wp_skip ?_
  have SNo := none_s
  simp only [labAV] at SNo
  have O1 := SNo
  refine wpN_seq (wpN_of (d3 4 hB TA_ok [27, 28, 30, 4, 5, 6, 7, 8] [4, 5, 6, 7, 8] [(2, .r fun _ => .agg [.int .i64 noneL.len, .int .u64 noneL.bits])] hF fun X4 a0 w1 hF => ?_))
  obtain ⟨TA2, hTA2, D2, hD2⟩ := hF.kept
  have hT2 : TA2.length = T.length := by rw [← hTA2, absT_len]
  refine man_mapUpdate (k := 42) (e := 44) rfl rfl rfl rfl hF rfl rfl rfl rfl rfl labK mapr_und hD2.map (by omega) (key_lab hlq) (fun _ => .inr rfl) (lmR bT (gT b n (firsts f ln) q T 0)) (fun m' w' hk hkb hv hM => ?_) ?_
  ·have := lmR_put (x := ⟨none, 0, ⟨0, fun _ => zeroItm, 2, noneL, 0⟩⟩) hD2.map hlq hk hkb ?_ hv (by rw [← hT2]; exact hM)
   ·exact this
   exact Sim.agg ⟨zr, sim_nils, zr, zr, zr, trivial⟩
  intro w1 hF
  refine wpList_nil ?_
  replace hF := hF.keep [6, 5, 7, 4, 8] [4, 5, 6, 7, 8]
  have SK := kids_s q
  simp only [labAV] at SK
  have O1 := SK
  refine wpN_seq (wpN_seq (wpN_of (rg hB TA_ok [32, 4, 5, 6, 7, 8] [4, 5, 6, 7, 8] [(1, .r fun y => .fn 53 [] [.ep (some ⟨y.b, 0, none⟩) 0 0 0 [.int .i64 q.len, .int .u64 q.bits]])] hF fun X5 a0 w1 hF => ?_)))
  refine wpN_block ?_
  have hKu := lmR_self _ _ hF.kept
  refine rangeI hF rfl enters53 hKu (fun l D rc w1 hl hD hrc hD0 hsz ha hm1 hlb => ?_)
  subst hrc
  obtain ⟨memc, hmemc⟩ := eqv ([(4, (⟨(X0 0).b, 48, [.raw (.map (some bT))]⟩ : Blk)), (5, ⟨(X0 1).b, 24, [.sl none A ln c 2 (fun i => itC (f i))]⟩), (6, ⟨(X0 2).b, 42, [.int .i64 q.len, .int .u64 q.bits]⟩), (7, ⟨(X0 3).b, 3, [.int .i64 b]⟩), (8, ⟨(X0 4).b, 4, [.bool .ff]⟩)])
  refine (kids_c (l := l) (D := D) (ntc := 42) (p := 33) Tryz.func44 (by omega) (by omega) rfl rfl rfl (by decide) ⟨_, ha⟩ q hb0 (fun i K' mem gr => (∀ j, j < i → gB b n (firsts f ln) q T j = true) ∧ K' = lmR bT (gT b n (firsts f ln) q T i) ∧ mem = memc ∧ gr = []) (fun cc K' mem gr => cc = .ret ∧ ∃ i, i < 2 ∧ chE q 0 = 0 ∧ (∀ j, j < i → gB b n (firsts f ln) q T j = true) ∧ gB b n (firsts f ln) q T i = false ∧ K' = lmR bT (gT b n (firsts f ln) q T (i + 1)) ∧ mem = memc ∧ gr = []) ?_ ⟨fun j hj => absurd hj (Nat.not_lt_zero _), rfl, hmemc.symm, rfl⟩ (hKu.off (by omega)) hm1 (hlb _ (by simp))).mono ?_
  ·intro i hi hce E hE hE2 K' mem gr a w2 ⟨hgb, hK', hmem, hgr⟩ hoff hF
   subst hK' hmem hgr
   obtain ⟨hc1, hc2, hc3⟩ := ch_is hb0 hce (i : Nat)
   obtain ⟨cl, hcl⟩ := eqv (chV q (i : Nat))
   rw [← hcl] at hc1 hc2 hc3 hF
   simp only [labAV] at hF
   rw [hmemc] at hF
   refine rrg hB TA_ok [9, 4, 5, 6, 7, 8] [9, 4, 5, 6, 7, 8] [] hF fun X6 a0 w1 hF => ?_
   refine ⟨42, _, _, _, hF, fun w2 hF => ?_⟩
   have SCV := tcov_s A ln c f (by omega) cl hc2 hki
   have hcln := cov_len cl (firsts f ln)
   have hcvk := cov_keys (l := cl) (firsts_mem (p := fun x => U64 x.key) hki)
   rw [firsts_len] at hcln
   obtain ⟨CV, hCV⟩ := eqv (covL cl (firsts f ln))
   rw [← hCV] at SCV hcln hcvk
   obtain ⟨cf, hcf⟩ := eqv (itF CV)
   obtain ⟨cn, hcn⟩ := eqv (CV.length)
   have hfc : firsts cf cn = CV := by rw [hcf, hcn, firsts_itF']
   rw [← hcf, ← hcn] at SCV hcvk
   rw [← hcn] at hcln
   simp only [rowI, labAV] at SCV
   refine wpIn_block (wpIn_seq (rd3 6 hB TA_ok [34, 37, 38, 39, 8] [4, 5, 6, 7, 8] [(3, .r fun x => .sl none (x.A 0) cn (x.c 0) 2 (fun i => itC (cf i)))] hF (fun X7 a0 w1 hF => ?_) (hob := ?hob)))
   case hob =>
    intro X; subst hB
    repeat (first | exact trivial | refine ⟨⟨fun _ _ => by kernel_rfl, SCV⟩, ?_⟩ | refine ⟨rfl, ?_⟩)
   have IH := ih ((X7 3).A 0) cn ((X7 3).c 0) cf cl (gT b n (firsts f ln) q T i) (by omega) hcvk hc2 hc1 (by omega)
   have hgBi : (growP b n (firsts cf cn) cl (gT b n (firsts f ln) q T i)).1 = gB b n (firsts f ln) q T i := by rw [hfc, hCV, hcl]; rfl
   have hgTi : (growP b n (firsts cf cn) cl (gT b n (firsts f ln) q T i)).2 = gT b n (firsts f ln) q T (i + 1) := by rw [hfc, hCV, hcl]; rfl
   rw [hgBi, hgTi] at IH
   obtain ⟨gb, hgbb⟩ := eqv (gB b n (firsts f ln) q T i)
   rw [← hgbb] at IH
   simp only [rowI, labAV] at IH
   refine man_callKL rfl rfl rfl rfl hF rfl rfl (fun _ _ => by kernel_rfl) IH (by omega) (by omega) (hE2 _) (fun _ => .inr rfl) (zl) rfl (fun x a0 w1 hF => ?_)
   refine lnd 7 hB TA_ok [41, 8] [4, 5, 6, 7, 8] [] hF (fun X8 a0 w1 hF => ?_)
   have hoff2 : ∀ T', (lmR bT T').off l := fun T' => lmR_off (by omega)
   refine rtest_ok hF rfl (fun hb hF => ?_) (fun hb hF => ?_)
   ·have hgf : gB b n (firsts f ln) q T i = false := by rw [← hgbb]; subst hB; cases gb <;> first | rfl | cases hb
    refine wpIn_seq (rrg hB TA_ok [] [4, 5, 6, 7, 8] [] hF fun X9 a0 w1 hF => ?_)
    refine wpIn_ret ?_
    exact ⟨lmR bT (gT b n (firsts f ln) q T (i + 1)), _, [], ⟨rfl, i, hi, hce, hgb, hgf, rfl, hmemc.symm, rfl⟩, hoff2 _, hF.bare⟩
   have hgt : gB b n (firsts f ln) q T i = true := by rw [← hgbb]; subst hB; cases gb <;> first | rfl | cases hb
   refine wpIn_skip ?_
   refine ⟨lmR bT (gT b n (firsts f ln) q T (i + 1)), _, [], ⟨fun j hj => ?_, rfl, hmemc.symm, rfl⟩, hoff2 _, hF.bare⟩
   rcases Nat.lt_or_ge j i with h1 | h1
   ·exact hgb j h1
   rw [show j = i by omega]; exact hgt
  rintro e w3 ⟨v, rfl, K', mem', gr', ho, hh⟩
  have hDo : ∀ T', ∀ D' ∈ [D], (lmR bT T').off D' ∧ w.heap.size ≤ D' := fun T' D' hD' => by
   simp only [List.mem_singleton] at hD'
   subst hD'
   exact ⟨lmR_off (by omega), hD0⟩
  rcases hh with ⟨hm', hgb, rfl, rfl, rfl⟩ | ⟨cc, ⟨rfl, i, hi, hce, hgb, hgf, rfl, rfl, rfl⟩, hm'⟩
  ·refine ⟨v, rfl, _, _, _, ho, .inl ⟨hm', fun a' w' hF => ?_⟩⟩
   rw [hmemc] at hF
   refine wpN_of (wp_seq (rg hB TA_ok [8] [8] [] hF fun X9 a0 w1 hF => ?_))
   have hGe : G = (true, gT b n (firsts f ln) q T (if chE q 0 = 0 then 2 else 0)) := by
    by_cases hce : chE q 0 = 0
    ·rw [if_pos hce] at hgb ⊢
     rw [hG, grow_in hnf hnl hce, if_pos (hgb 0 (by decide)), hgb 1 (by decide)]
    rw [if_neg hce]
    rw [hG, grow_none hnf hnl hce]
   refine wp_ret (rmM (res := fun _ => ⟨.bool (.v G.1), [], []⟩) (J := fun _ => lmR bT G.2) hB TA_ok [D] hF (hDo _) ⟨0, fun _ => none, fun _ => 0, fun _ => .empty⟩ [] (hhm _) (he := ?he) (hJ := by rw [hGe]; exact fun _ _ h => h)).1
   case he => rw [hGe]; subst hB; exact Sim.bool rfl
  refine ⟨v, rfl, _, _, _, ho, .inr ⟨.ret, hm', fun a' w' hF => ?_⟩⟩
  rw [hmemc] at hF
  have hGe : G = (false, gT b n (firsts f ln) q T (i + 1)) := by
   rw [hG, grow_in hnf hnl hce]
   rcases i with _ | _ | i
   ·rw [if_neg (by rw [hgf]; decide)]
   ·rw [if_pos (hgb 0 (by decide)), hgf]
   omega
  refine wp_ret (rmM (res := fun _ => ⟨.bool (.v G.1), [], []⟩) (J := fun _ => lmR bT G.2) hB TA_ok [D] (hF.keep [8] [8]) (hDo _) ⟨0, fun _ => none, fun _ => 0, fun _ => .empty⟩ [] (hhm _) (he := ?he2) (hJ := by rw [hGe]; exact fun _ _ h => h)).1
  case he2 => rw [hGe]; subst hB; exact Sim.bool rfl
section
variable {P : Program} {fn : FuncId} {Q : Exit → Act → World → Prop} {C : Cx} {nt t : Nat} {b : Bool} {l : List (Nat × AV)} {mem : List (Nat × Blk)} {gr : List (Nat × Gr)} {a : Act} {w : World} {x y : Code}
theorem ntest_ok (h : Fits C ⟨nt, (t, .bool (.v b)) :: l, [], mem, gr⟩ a w) (hd : (look l t).known = false) (h1 : b = true → Fits C ⟨nt, l, [], mem, gr⟩ a w → wpN fn P x Q a w) (h2 : b = false → Fits C ⟨nt, l, [], mem, gr⟩ a w → wpN fn P y Q a w) : wpN fn P (Code.cond (.tmp t) x y) Q a w := by
 have := (h.slot t (by show (look ((t, AV.bool (.v b)) :: l) t).known = true; rw [look_cons, if_pos rfl]; rfl)).1
 rw [show look ((t, AV.bool (.v b)) :: l) t = .bool (.v b) by rw [look_cons, if_pos rfl]] at this
 refine wpN_cond (t := b) (by simp [Act.eval, this, AV.den, BE.den]) ?_
 cases b with
 | true => exact h1 rfl (h.tail hd)
 | false => exact h2 rfl (h.tail hd)
theorem wpN_loop {ι : Type} (I : ι → Act → World → Prop) (J : ι → Prop) (μ : ι → Nat) {c : Code} {a : Act} {w : World} (p₀ : ι) (h₀ : J p₀) (hf : I p₀ a w)
  (round : ∀ p, J p → ∀ a w, I p a w → wpN fn P c (Exit.then (fun a' w' => ∃ p', J p' ∧ μ p' < μ p ∧ I p' a' w') Q) a w) : wpN fn P (Code.loop c) Q a w := by
 intro b k fs hb
 have key : ∀ n p a w, μ p = n → J p → I p a w →
   ∃ e a' w', Q e a' w' ∧ Arrives P (lone (b.at a (.code c :: .inLoop c :: k)) fs w) b k fs e a' w' := by
  intro n
  induction n using Nat.strongRecOn with
  | _ n ih =>
   intro p a w hn hJ hF
   obtain ⟨e, a₁, w₁, hq, harr⟩ := round p hJ a w hF b (.inLoop c :: k) fs hb
   cases e with
   | normal =>
    obtain ⟨p', hJ', hlt, hF'⟩ := hq
    obtain ⟨e₂, a₂, w₂, hq₂, harr₂⟩ := ih (μ p') (hn ▸ hlt) p' a₁ w₁ rfl hJ' hF'
    exact ⟨e₂, a₂, w₂, hq₂, .of_steps (Steps.trans harr (.one step_inLoop)) harr₂⟩
   | exit id => exact ⟨_, a₁, w₁, hq, .pass (x := .inLoop c) rfl (fun _ _ => .inl (by simp)) harr⟩
   | goto l => exact ⟨_, a₁, w₁, hq, .pass (x := .inLoop c) rfl (fun _ _ => .inl (by simp)) harr⟩
   | ret => exact ⟨_, a₁, w₁, hq, .pass (x := .inLoop c) rfl (fun _ _ => .inl (by simp)) harr⟩
   | panic ch => exact ⟨_, a₁, w₁, hq, .pass (x := .inLoop c) rfl (fun _ _ => .inl (by simp)) harr⟩
   | outgrown => exact ⟨_, a₁, w₁, hq, .pass (x := .inLoop c) rfl (fun _ _ => .inl (by simp)) harr⟩
 obtain ⟨e, a', w', hq, harr⟩ := key _ p₀ a w rfl h₀ hf
 exact ⟨e, a', w', hq, .of_steps (.one step_loop) harr⟩
end
theorem marks_more {K : Kn} {D : Nat} {Ds : List Nat} {m : Nat → Nat → Prop} {w : World} (h : ((K.and (marksK Ds)).and (marksK [D])).p m w) (hD : D ∉ Ds) : (K.and (marksK (D :: Ds))).p m w :=
 ⟨h.1.1, fun E hE => by
  rcases List.mem_cons.1 hE with rfl | hE
  ·exact h.2.1 _ (by simp)
  exact h.1.2.1 E hE, List.nodup_cons.2 ⟨hD, h.1.2.2⟩⟩
theorem marks_lt {Ds : List Nat} {m : Nat → Nat → Prop} {w : World} (h : (marksK Ds).p m w) : ∀ D ∈ Ds, D < w.heap.size := fun D hD => (Array.getElem?_eq_some_iff.1 (h.1 D hD)).1
theorem marksK_self {Ds : List Nat} : (marksK Ds).self := fun m w h l hl => marksK_off fun hm => by have := marks_lt h l hm; omega
section
variable {α : Type} {el : α → AV} {D : DataW Value} {b r : Nat} {L : List (Lab × α)} {left : Lit → Bool} {cnt : Nat} {m m' : Nat → Nat → Prop} {w w' : World}
theorem ranges_keepB {P : Program} {k : TypeId} {bo : Option Nat} {n : Nat} (hk : KeepB bo w m w' m') (hb1 : bo ≠ some b) (hr1 : bo ≠ some r) (h : w.ranges P k hR b r n D left cnt) : w'.ranges P k hR b r n D left cnt := by
 obtain ⟨es, clock, since, seen, c0, hb, F, hs, hD, hr, rest⟩ := h
 exact ⟨es, clock, since, seen, c0, hk.obj b _ hb1 hb (fun c t f e => by cases e), F, hs, hD, hk.obj r _ hr1 hr (fun c t f e => by cases e), rest⟩
def rgK (el : α → AV) (D : DataW Value) (b r : Nat) (L : List (Lab × α)) (left : Lit → Bool) (cnt : Nat) : Kn := ⟨fun m w => LmD el D b L m w ∧ w.ranges Tryz.prog 42 hR b r L.length D left cnt, fun k h => ⟨h.1.keep k, ranges_keep k h.2⟩⟩
def spK (el : α → AV) (D : DataW Value) (b r : Nat) (L : List (Lab × α)) (left : Lit → Bool) (bb : Bool) (key v : Value) (kl : Lit) (cnt : Nat) : Kn := ⟨fun m w => LmD el D b L m w ∧ (bb = true → w.ranges Tryz.prog 42 hR b r L.length D (fun x => left x && !x.sameKey kl) cnt ∧ EntryAt Tryz.prog w r key v), fun k h => ⟨h.1.keep k, fun hb => ⟨ranges_keep k (h.2 hb).1, entry_keep k (h.2 hb).2⟩⟩⟩
def etK (el : α → AV) (D : DataW Value) (b r : Nat) (L : List (Lab × α)) (left : Lit → Bool) (key v : Value) (cnt : Nat) : Kn := ⟨fun m w => LmD el D b L m w ∧ w.ranges Tryz.prog 42 hR b r L.length D left cnt ∧ EntryAt Tryz.prog w r key v, fun k h => ⟨h.1.keep k, ranges_keep k h.2.1, entry_keep k h.2.2⟩⟩
theorem rgK_off {n : Nat} (h1 : b ≠ n) (h2 : r ≠ n) : (rgK el D b r L left cnt).off n := fun k h => ⟨h.1.keepB k (fun e => h1 (by injection e with e; exact e.symm)), ranges_keepB k (fun e => h1 (by injection e with e; exact e.symm)) (fun e => h2 (by injection e with e; exact e.symm)) h.2⟩
theorem ranges_lt {P : Program} {k : TypeId} {n : Nat} (h : w.ranges P k hR b r n D left cnt) : b < w.heap.size ∧ r < w.heap.size := by
 obtain ⟨es, clock, since, seen, c0, hb, F, hs, hD, hr, rest⟩ := h
 exact ⟨lt_heap hb, lt_heap hr⟩
theorem rgK_self : (rgK el D b r L left cnt).self := fun m w h l hl => by
 obtain ⟨h1, h2⟩ := ranges_lt h.2
 exact rgK_off (by omega) (by omega)
theorem LmD.entry (h : LmD el D b L m w) {key v : Value} {kl : Lit} (hk : Go.keyOf Tryz.prog 42 key = some kl) (hh : Maps.has D kl = true) (ha : ∀ zd, D.atKey kl zd = .held v) : ∃ p ∈ L, keyL p.1 = kl ∧ key = (labAV p.1).den ∧ v = (el p.2).den := by
 obtain ⟨p, hp, he⟩ := (h.has kl).1 hh
 refine ⟨p, hp, he, ?_, ?_⟩
 ·exact labK.inj hk (he ▸ key_lab (h.labs p hp))
 have h1 := h.at_ p hp (.held v)
 rw [he, ha] at h1
 injection h1
theorem keyL_same_refl (l : Lab) : (keyL l).sameKey (keyL l) = true := by simp [keyL, Lit.sameKey]
theorem keyL_same {l l' : Lab} (h : LabOk l) (h' : LabOk l') : (keyL l).sameKey (keyL l') = decide (l = l') := by
 by_cases he : l = l'
 ·subst he; rw [keyL_same_refl, decide_eq_true rfl]
 rw [decide_eq_false he]
 have : keyL l ≠ keyL l' := fun e => he (keyL_inj h h' e)
 unfold keyL at this ⊢
 simp only [Lit.sameKey]
 simpa using this
end
theorem par1_s (l : Lab) (hL : isL l = true) (hb0 : U64 l.bits) (h0 : l.len ≠ 0) : Spec Tryz.prog 68 [labAV l, .int .u64 ((2 ^ (64 - l.len.toNat) : Nat) : Int)] (fun _ => labAV (parL l)) := by
 intro m w hm hargs
 obtain ⟨hl0, hl1, hl2⟩ := lab_parts hL
 have e2 := andNot_bit hL hb0 h0
 obtain ⟨bt, hbt⟩ := eqv (((2 ^ (64 - l.len.toNat) : Nat) : Int))
 rw [← hbt] at hargs e2 ⊢
 simp only [labAV] at hargs
 refine en 13 hm hargs Tryz.func68 fun B hB a0 hF => ?_
 refine wp_seq (rg hB TA_ok [1, 2, 4] [2, 4] [] hF fun X0 a0 w1 hF => ?_)
 refine wp_seq (rg hB TA_ok [4] [4] [] hF fun X1 a0 w1 hF => ?_)
 refine wp_ret ((rsi hB TA_ok hF nAt (he := ?_)))
 subst hB
 have e1 : IntKind.i64.wrap (l.len - 1) = l.len - 1 := wrap_in (by omega) (by omega)
 refine Sim.agg ⟨?_, ?_, trivial⟩
 ·show Sim (.int .i64 (IntKind.i64.wrap (l.len - 1))) _
  rw [e1]; exact zr
 show Sim (.int .u64 (sAr .andNot .u64 l.bits bt)) _
 rw [e2]; exact zr
theorem lastp_s (l : Lab) (hb0 : U64 l.bits) : Spec Tryz.prog 67 [labAV l, .fn 68 [] []] (fun _ => .tup [labAV (parV l), .int .i64 (parE l)]) := by
 intro m w hm hargs
 have SI := isL_s l hb0
 simp only [labAV] at SI hargs ⊢
 obtain ⟨il, hil⟩ := eqv (isL l)
 rw [← hil] at SI
 refine en 23 hm hargs Tryz.func67 fun B hB a0 hF => ?_
 refine wp_seq (rg hB TA_ok [1, 2, 4] [2, 4] [] hF fun X0 a0 w1 hF => ?_)
 have O1 := SI
 refine wp_seq (wp_block (wp_seq (rg hB TA_ok [6, 1, 2, 4] [2, 4] [(1, .r fun _ => .bool (.v il))] hF fun X1 a0 w1 hF => ?_)))
 apply test_ok hF rfl <;> intro hb hF
 ·have hilf : il = false := by subst hB; cases il <;> first | rfl | (simp [std] at hb)
  have hE : parE l = 1 := by unfold parE; rw [← hil, hilf]; rfl
  have hV : parV l = ⟨0, 0⟩ := by unfold parV; rw [hE]; rfl
  refine wp_seq (rg hB TA_ok [4, 5] [4] [] hF fun X2 a0 w1 hF => ?_)
  refine wp_ret ((rsi hB TA_ok hF nAt (he := ?_)))
  subst hB
  rw [hV, hE]
  exact zr
 have hilt : il = true := by subst hB; cases il <;> first | rfl | (simp [std] at hb)
 have hLt : isL l = true := by rw [← hil]; exact hilt
 obtain ⟨hl0, hl1, hl2⟩ := lab_parts hLt
 refine wp_seq (rg hB TA_ok [11, 1, 2, 4] [2, 4] [] hF fun X3 a0 w1 hF => ?_)
 apply test_ok hF rfl <;> intro hb hF
 ·have h0 : l.len = 0 := by subst hB; simpa [std, sC] using hb
  have hE : parE l = 7 := by unfold parE; rw [← hil, hilt, if_neg (by decide), if_pos h0]
  have hV : parV l = ⟨0, 0⟩ := by unfold parV; rw [hE]; rfl
  refine wp_seq (rg hB TA_ok [4, 5] [4] [] hF fun X4 a0 w1 hF => ?_)
  refine wp_ret ((rsi hB TA_ok hF nAt (he := ?_)))
  subst hB
  rw [hV, hE]
  exact zr
 have h0 : ¬ l.len = 0 := by subst hB; simpa [std, sC] using hb
 have hE : parE l = 0 := by unfold parE; rw [← hil, hilt, if_neg (by decide), if_neg h0]
 have hV : parV l = parL l := by unfold parV; rw [hE]; rfl
 have SB := bit_s (l.len - 1) (by omega) (by omega)
 rw [show 63 - (l.len - 1).toNat = 64 - l.len.toNat by omega] at SB
 have S1 := par1_s l hLt hb0 h0
 simp only [labAV] at S1
 have e1 : IntKind.i64.wrap (l.len - 1) = l.len - 1 := wrap_in (by omega) (by omega)
 rw [← e1] at SB
 obtain ⟨bt, hbt⟩ := eqv (((2 ^ (64 - l.len.toNat) : Nat) : Int))
 rw [← hbt] at SB S1
 obtain ⟨k, hk⟩ := eqv (parL l)
 rw [← hk] at S1 hV
 have O1 := SB
 have O2 := S1
 refine wp_skip (wp_seq (drg hB TA_ok [4, 5] [4] [(5, .r fun _ => .int .u64 bt), (6, .r fun _ => .agg [.int .i64 k.len, .int .u64 k.bits])] hF fun X5 a0 w1 hF => ?_))
 refine wp_ret ((rsi hB TA_ok hF nAt (he := ?_)))
 subst hB
 rw [hV, hE]
 exact zr
theorem par_s (l : Lab) (hb0 : U64 l.bits) : Spec Tryz.prog 30 [labAV l] (fun _ => .tup [labAV (parV l), .int .i64 (parE l)]) := by
 intro m w hm hargs
 have SI := lastp_s l hb0
 simp only [labAV] at SI hargs ⊢
 obtain ⟨k, hk⟩ := eqv (parV l)
 rw [← hk] at SI ⊢
 obtain ⟨q, hq⟩ := eqv (parE l)
 rw [← hq] at SI ⊢
 refine en 8 hm hargs Tryz.func30 fun B hB a0 hF => ?_
 refine wp_seq (rg hB TA_ok [1, 2] [1, 2] [] hF fun X0 a0 w1 hF => ?_)
 have O1 := SI
 refine wp_seq (rg hB TA_ok [2, 3] [2] [(1, .r fun _ => .tup [.agg [.int .i64 k.len, .int .u64 k.bits], .int .i64 q])] hF fun X1 a0 w1 hF => ?_)
 exact wp_ret ((rsp hB TA_ok hF nAt).1)
def kindT (T : Tre) (q : Lab) : Int := match T q with
 | none => 0
 | some r => r.kind
def hasT (T : Tre) (q : Lab) : Nat := if (T q).isSome = true then 1 else 0
def kidsT (T : Tre) (q : Lab) : Nat → Nat
 | 0 => 0
 | i + 1 => kidsT T q i + hasT T (chV q (i : Nat))
def soundQ (T : Tre) (NX : Lab → Lab) (b : Int) (q : Lab) (r : Rec) : Bool :=
 !(decide (parE q = 0) && decide (kindT T (parV q) ≠ 2)) &&
 (if r.kind = 1 then decide ((r.items.length : Int) ≤ b) && decide (r.items.length ≤ (covL q r.items).length) && decide (r.next = NX q)
  else if r.kind = 2 then decide (2 ≤ kidsT T q (if chE q 0 = 0 then 2 else 0)) else false)
def entsP (l : List Rw) : List (Lab × Rec) := l.foldl (fun T w => setA w.lab w.r T) []
def nxP (l : List Lab) (q : Lab) : Lab := (getA q (nexA (labF l) l.length l.length)).getD ⟨0, 0⟩
def wellP (l : List Rw) (b : Int) : Bool :=
 (treP l ⟨0, 0⟩).isSome && decide (1 ≤ b) && decide (b ≤ 16) && isRw l && (entsP l).all fun p => soundQ (treP l) (nxP (leavesP l)) b p.1 p.2
theorem ents_eq (f : Nat → RowA) : ∀ n, absT (treeA f n) = entsP (rwsA f n)
 | 0 => rfl
 | n + 1 => by
  have ih := ents_eq f n
  unfold treeA
  rw [absT_set, ih]
  show _ = entsP (listA RowA.abs f (n + 1))
  rw [listA_succ]
  unfold entsP
  rw [List.foldl_append]
  rfl
theorem leaves_mem {l : List Rw} {p : Lab → Prop} (h : ∀ w ∈ l, p w.lab) : ∀ i, i < (leavesP l).length → p (labF (leavesP l) i) := by
 intro i hi
 have hm : labF (leavesP l) i ∈ leavesP l := by
  unfold labF
  rw [List.getD_eq_getElem?_getD, List.getElem?_eq_getElem hi]
  exact List.getElem_mem hi
 have h2 : labF (leavesP l) i ∈ leafs l := (sortL_perm _).mem_iff.1 hm
 unfold leafs at h2
 obtain ⟨w, hw, he⟩ := List.mem_map.1 h2
 rw [← he]
 exact h w (List.mem_filter.1 hw).1
theorem labOk_par {q : Lab} (hb : U64 q.bits) : LabOk (parV q) := by
 unfold parV
 split
 ·rename_i h
  have hl : isL q = true := by
   unfold parE at h
   split at h
   ·cases h
   rename_i h1; simpa using h1
  have h0 : q.len ≠ 0 := by
   intro h0
   unfold parE at h
   rw [if_neg (by simp [hl]), if_pos h0] at h
   cases h
  exact labOk_is (par_isL hl hb h0) (par_u hb)
 exact labOk_is (by decide) ⟨by decide, by decide⟩
section
variable {K : Kn} {P : Program} {T : List (Nat × TI)} {a : Act} {w : World} {m : Nat → Nat → Prop} {w0 : World} {fn : Func} {rs : List ResultVar} {r : List AV × List Ob} {B : Alg} {nt : Nat} {tm : List (Nat × AV)} {mem : List (Nat × Blk)} {gr : List (Nat × Gr)}
theorem rsN {res : Atom → AV} (hB : B = std) (hT : TabOK P T) (Ds : List Nat) (h : Fits ⟨m, w0, ats [], Ds.map markD, K.and (marksK Ds)⟩ ⟨nt, tm, [], mem, gr⟩ a w) (hof : ∀ D ∈ Ds, K.off D ∧ w0.heap.size ≤ D) (x : Atom) (he : Sim (can (resA r.1)) (can (res x))) (hfn : fn.results = rs.toArray := by rfl) (hr : resL T ⟨nt, tm, [], mem, gr⟩ rs = some r := by first | rfl | (conv => lhs; cbv)) (ho : AO P (K.and (okT tm)) r.2 := by first | exact trivial | (subst hB; simp [AO, Ob.holds])) :
  bodyPostM Fence.wide 0 P fn (fun e w' => ∃ x, e = .returned (res x).den ∧ Ok m w' (res x) ∧ Below w0.heap.size w0 w') .ret a w ∧ bodyPostM Fence.wide 0 P fn (fun e w' => ∃ x, e = .returned (res x).den ∧ Ok m w' (res x) ∧ Below w0.heap.size w0 w') .normal a w := by
 refine retIM hB hT Ds h hof (fun w' hm' hv => ⟨x, ?_, ?_, hm'.chg.below (Nat.le_refl _) fun k ⟨e, he, _⟩ => (by cases he)⟩) hfn hr ho
 ·rw [← can_den (resA r.1), he.1, can_den]
 have h1 := he.2.2 _ _ ((can_ok _).1 hv)
 exact ((can_ok _).2 h1).mono fun b o u g1 g2 => ⟨g1, fun hm => g2 (.inl hm)⟩
end
def ldK {α : Type} (el : α → AV) (D : DataW Value) (b : Nat) (L : List (Lab × α)) : Kn := ⟨LmD el D b L, fun k h => h.keep k⟩
theorem zLab_run (w : World) : (zeroValue 42).run Tryz.prog w = .ok (labAV ⟨0, 0⟩).den w := by kernel_rfl
theorem zLab_ok (m : Nat → Nat → Prop) (w : World) (q : Lab) : Ok m w (labAV q) := by
 unfold labAV
 exact .agg _ (by intro v hv; simp only [List.mem_cons, List.not_mem_nil, or_false] at hv; rcases hv with rfl | rfl <;> rfl) (by intro v hv; simp only [List.mem_cons, List.not_mem_nil, or_false] at hv; rcases hv with rfl | rfl <;> exact .int _ _)
abbrev wK (T : List (Lab × RA)) (NX : List (Lab × Lab)) (D : DataW Value) (bT rr bN : Nat) (left : Lit → Bool) (cnt : Nat) : Kn := (rgK recV D bT rr T left cnt).and (lmK labAV bN NX)
theorem wK_off {T : List (Lab × RA)} {NX : List (Lab × Lab)} {D : DataW Value} {bT rr bN n : Nat} {left : Lit → Bool} {cnt : Nat} (h1 : bT ≠ n) (h2 : rr ≠ n) (h3 : bN ≠ n) : (wK T NX D bT rr bN left cnt).off n := and_off (rgK_off h1 h2) (lmK_off h3)
theorem lab_eqL (a b : Lab) : eqL [.int .i64 a.len, .int .u64 a.bits] [.int .i64 b.len, .int .u64 b.bits] = decide (a = b) := by
 rw [Bool.eq_iff_iff]
 simp only [eqL, eqC, Bool.and_true, Bool.and_eq_true, beq_iff_eq, decide_eq_true_eq]
 constructor
 ·rintro ⟨h1, h2⟩; exact lab_ext h1 h2
 rintro rfl; exact ⟨rfl, rfl⟩
theorem well_s (A : Option Addr) (n c : Nat) (f : Nat → RowA) (hn : n ≤ 100000) (hN : RwN n f) (hK : RwK n f) (b : Int) : Spec Tryz.prog 11 [rowsV A n c f, .int .i64 b] (fun _ => .bool (.v (wellP (rwsA f n) b))) := by
 intro m w hm hargs
 have hmx : maxLen = 9223372036854775807 := rfl
 have SI := tis_s A n c f (by omega) hN
 have SL := leaves_s A n c f hn
 obtain ⟨ir, hir⟩ := eqv (isRw (rwsA f n))
 rw [← hir] at SI
 have hlvl : (leavesP (rwsA f n)).length ≤ n := by
  have := leaves_len (rwsA f n)
  rw [listA_len] at this
  exact this
 have hlvo := leaves_mem (l := rwsA f n) (p := LabOk) (fun x hx => by
  simp only [rwsA, listA, List.mem_map, List.mem_range] at hx
  obtain ⟨i, hi, rfl⟩ := hx
  exact (hN i hi).2.1)
 obtain ⟨lv, hlv⟩ := eqv (leavesP (rwsA f n))
 rw [← hlv] at SL hlvl hlvo
 obtain ⟨lf, hlf⟩ := eqv (labF lv)
 obtain ⟨ln, hln⟩ := eqv (lv.length)
 rw [← hlf, ← hln] at SL hlvo
 rw [← hln] at hlvl
 obtain ⟨T, hT⟩ := eqv (treeA f n)
 obtain ⟨NX, hNX⟩ := eqv (nexA lf ln ln)
 obtain ⟨W, hW⟩ := eqv (wellP (rwsA f n) b)
 rw [← hW]
 have hTre : treF T = treP (rwsA f n) := by rw [hT, tre_eq]
 refine enN (pre := []) 108 hm ⟨fun e he => (by cases he), fun e he => (by cases he), fun e he => (by cases he), .nil⟩ hargs Tryz.func11 fun B hB a0 hF => ?_
 refine wpN_seq (wpN_of (rg hB TA_ok [0, 1] [] [] hF fun X0 a0 w1 hF => ?_))
 refine wpN_seq (wpN_of (wp_region_lit ?_))
 refine lpr 0 1 hB TA_ok [17, 0, 1] [] [] hF (fun X1 a0 w1 hF => ?_)
 refine man_callM rfl rfl rfl rfl hF rfl rfl (fun _ _ => by kernel_rfl) (tof_m A n c f hn fun i hi => (hN i hi).2.1) (fun _ _ h => h) (fun b hb => by cases hb) (zl) (fun e he => by cases he) rfl rfl (fun y => lmK recV (y.c 0) (treeA f n)) (fun _ _ _ _ _ _ _ _ _ h => h.2) ?_
 intro y a0 w1 hF
 obtain ⟨bT, hbT⟩ := eqv (y.c 0)
 rw [← hbT, ← hT] at hF
 have O1 := SL
 refine lpr 2 2 hB TA_ok [20, 18, 0, 1] [] [(3, .r fun y => labsV (y.A 0) ln (y.c 0) lf)] hF (fun X2 a0 w1 hF => ?_)
 refine man_callM rfl rfl rfl rfl hF rfl rfl (fun _ _ => by kernel_rfl) (nexts_m ((X2 3).A 0) ln ((X2 3).c 0) lf (by omega) hlvo) (fun _ _ _ => trivial) (fun b hb => by cases hb) (zl) (fun e he => by cases he) rfl rfl (fun y => (lmK recV bT T).and (lmK labAV (y.c 0) NX)) (fun _ _ _ _ _ _ _ hk hkb h => ⟨(lmK recV bT T).st hkb.keep hk, by rw [hNX]; exact h.2⟩) ?_
 intro y2 a0 w1 hF
 obtain ⟨bN, hbN⟩ := eqv (y2.c 0)
 rw [← hbN] at hF
 refine lnd 5 hB TA_ok [5, 6, 0, 1] [5] [] hF (fun X3 a0 w1 hF => ?_)
 obtain ⟨bt, hbt⟩ := eqv ((X3 5).b)
 have hF := hF.fz (tm' := [(5, tEp (X3 5).b bT), (6, .raw (.map (some bN))), (0, rowsV A n c f), (1, .int .i64 b)]) ⟨rfl, fz_ptr, rfl, fz_id, rfl, fz_id, rfl, fz_id, trivial⟩
 obtain ⟨e0, he0⟩ := eqv ((getA ⟨0, 0⟩ T).getD zRA)
 obtain ⟨hr, hhr⟩ := eqv ((getA ⟨0, 0⟩ T).isSome)
 have OL := look_tt (K := (lmK recV bT T).and (lmK labAV bN NX)) (el := recV) (fun m w h => h.1) (labOk_is (q := ⟨0, 0⟩) (by decide) ⟨by decide, by decide⟩) mapr_und zRA_run zRA_ok (v := recV e0) (by rw [← he0]) hhr.symm
 simp only [labAV] at OL
 have O1 := OL
 refine wpN_seq (wpN_seq (wpN_of (rg hB TA_ok [8, 5, 6, 0, 1] [] [(2, .r fun _ => .tup [recV e0, .bool (.v hr)])] hF fun X4 a0 w1 hF => ?_)))
 have hroot : (treP (rwsA f n) ⟨0, 0⟩).isSome = hr := by rw [← hTre, hhr]; unfold treF; cases getA (⟨0, 0⟩ : Lab) T <;> rfl
 have O1 := SI
 refine wpN_of (wp_seq (rg hB TA_ok [42, 5, 6, 1] [] [(12, .r fun _ => .bool (.v ir))] hF (fun X5 a0 w1 hF => ?_)))
 refine test_ok hF rfl (fun hbA hF => ?_) (fun hbA hF => ?_)
 ·have h9 : (if (if (if (!hr) = true then true else decide (b < 1)) = true then true else decide (b > 16)) = true then true else !ir) = true := by subst hB; exact hbA
  have hWf : W = false := by
   rw [hW]
   unfold wellP
   rw [hroot, ← hir]
   cases hr <;> cases ir <;> by_cases g1 : b < 1 <;> by_cases g2 : b > 16 <;> simp [g1, g2] at h9 ⊢ <;> omega
  refine wp_seq (rg hB TA_ok [4] [] [] hF fun X6 a0 w1 hF => ?_)
  refine wp_ret (rsN (res := fun _ => .bool (.v W)) hB TA_ok [] (hF.withK (K' := noK.and (marksK [])) ⟨trivial, ⟨fun D hD => (by cases hD), List.nodup_nil⟩⟩) (fun D hD => by cases hD) ⟨0, fun _ => none, fun _ => 0, fun _ => .empty⟩ (he := ?he)).1
  case he => rw [hWf]; subst hB; exact Sim.bool rfl
 have h9 : (if (if (if (!hr) = true then true else decide (b < 1)) = true then true else decide (b > 16)) = true then true else !ir) = false := by subst hB; exact hbA
 have hrt : hr = true := by cases hr <;> first | rfl | (simp at h9)
 have hit : ir = true := by cases ir <;> first | rfl | (simp at h9)
 have hb1 : ¬ b < 1 := fun h => by simp [h] at h9
 have hb2 : ¬ b > 16 := fun h => by simp [h] at h9
 have hWe : W = (entsP (rwsA f n)).all fun p => soundQ (treP (rwsA f n)) (nxP (leavesP (rwsA f n))) b p.1 p.2 := by
  rw [hW]
  unfold wellP
  rw [hroot, ← hir, hrt, hit, decide_eq_true (show 1 ≤ b by omega), decide_eq_true (show b ≤ 16 by omega)]
  rfl
 have hTA : TreA T := by rw [hT]; exact treeA_ok hN hK (by rw [← hir]; exact hit)
 have hTl : T.length ≤ 2000 := by
  have h1 := (newS_is (l := rwsA f n) (by rw [← hir]; exact hit)).1
  rw [listA_len] at h1
  rw [hT]
  exact Nat.le_trans (treeA_len f n) h1
 have hWt : W = T.all fun p => soundQ (treF T) (nxP lv) b p.1 p.2.r.abs := by
  rw [hWe, ← ents_eq, ← hT, ← hTre, ← hlv]
  unfold absT
  rw [List.all_map]
  rfl
 refine wp_skip ?_
 refine wpN_seq (wpN_seq (wpN_of (wp_region_lit ?_)))
 refine lpr 0 1 hB TA_ok [43, 5, 6, 1] [] [] hF (fun X6 a0 w1 hF => ?_)
 obtain ⟨⟨D, hD⟩, hDN⟩ := hF.kept
 have hmapsT := lmK_map (m := St.m _ _) ⟨D, hD⟩
 have hF := hF.withK (K' := (ldK recV D bT T).and (lmK labAV bN NX)) ⟨hD, hDN⟩
 obtain ⟨rr, hrr⟩ := eqv (w1.heap.size)
 refine man_range rfl rfl rfl rfl hF (Nat.le_of_ble_eq_true rfl) rfl labK mapr_und hD.map (wK T NX D bT rr bN (Maps.has D) (Maps.size D)) (fun m w' h1 h2 h3 => ⟨⟨h1.1.keep h2, by rw [hrr]; exact h3⟩, (lmK labAV bN NX).st h2 h1.2⟩) ?_
 rw [← hrr]
 intro a0 w1 hfr hF
 refine wpList_nil ?_
 replace hF := hF.keep [44, 5, 6, 1] []
 have hbTr : bT ≠ rr := by have := lt_heap hmapsT.choose_spec.choose_spec; omega
 have hbNr : bN ≠ rr := by have := lmK_lt hDN; omega
 refine wpN_block (wpN_loop (ι := (Lit → Bool) × Nat × List Nat) (fun p a w1 => Fits ⟨m, w, ats [], p.2.2.map markD, (wK T NX D bT rr bN p.1 p.2.1).and (marksK p.2.2)⟩ ⟨108, [(44, .raw (.pointer (some ⟨rr, 0, none⟩))), (5, tEp (X3 5).b bT), (6, .raw (.map (some bN))), (1, .int .i64 b)], [], [], []⟩ a w1) (fun p => (∀ kl, p.1 kl = true → Maps.has D kl = true) ∧ (∀ q ∈ T, p.1 (keyL q.1) = true ∨ soundQ (treF T) (nxP lv) b q.1 q.2.r.abs = true) ∧ (∀ E ∈ p.2.2, w.heap.size ≤ E)) (fun p => p.2.1) (Maps.has D, Maps.size D, []) ⟨fun _ h => h, fun q hq => .inl ((hD.has _).2 ⟨q, hq, rfl⟩), fun E hE => by cases hE⟩ (hF.withK ⟨hF.kept, ⟨fun D hD => (by cases hD), List.nodup_nil⟩⟩) ?_)
 rintro ⟨left, cnt, Ds⟩ ⟨hlft, hsnd, hDs⟩ a0 w1 hF
 dsimp only at hlft hsnd hDs hF
 have hEne : ∀ E ∈ Ds, bT ≠ E ∧ rr ≠ E ∧ bN ≠ E := by
  intro E hE
  have h1 := hF.kept.2.1 E hE
  obtain ⟨es, cl, h2, _⟩ := hF.kept.1.1.1.map
  obtain ⟨_, _, _, _, _, _, _, _, _, h3, _⟩ := hF.kept.1.1.2
  obtain ⟨es2, cl2, h4⟩ := lmK_map hF.kept.1.2
  refine ⟨?_, ?_, ?_⟩ <;> rintro rfl
  ·rw [h1] at h2; cases h2
  ·rw [h1] at h3; cases h3
  rw [h1] at h4; cases h4
 have hofK : ∀ left cnt, ∀ E ∈ Ds, (wK T NX D bT rr bN left cnt).off E ∧ w.heap.size ≤ E := fun left cnt E hE => ⟨wK_off (hEne E hE).1 (hEne E hE).2.1 (hEne E hE).2.2, hDs E hE⟩
 refine wpN_seq (wpN_of (wp_region_lit ?_))
 refine man_next1 rfl rfl rfl rfl hF (Nat.le_of_ble_eq_true rfl) rfl labK hF.kept.1.1.2 (fun h => absurd h (Nat.not_lt.2 hfr)) (fun bb key v kl cnt' => ((spK recV D bT rr T left bb key v kl cnt').and (lmK labAV bN NX)).and (marksK Ds)) (fun m h _ => ⟨⟨⟨h.1.1.1, fun h => by cases h⟩, h.1.2⟩, h.2⟩) (fun key v kl cnt' m w' h1 h2 h3 h4 => ⟨⟨⟨h1.1.1.1.keepB h2 (fun e => hbTr (by injection e with e; exact e.symm)), fun _ => ⟨h3, h4⟩⟩, lmK_off hbNr h2 h1.1.2⟩, marksK_off (fun hm => (hEne _ hm).2.1 rfl) h2 h1.2⟩) ?_
 intro a0 w1 bb rest' key v kl cnt' hn0 hn1 hF
 refine lnd 1 hB TA_ok [46, 44, 5, 6, 1] [] [] hF (fun X7 a0 w1 hF => ?_)
 refine wpN_seq (ntest_ok hF rfl (fun hbB hF => ?_) (fun hbB hF => ?_))
 ·have hbb : bb = true := by subst hB; exact hbB
  obtain ⟨hnx1, hnx2, hnx3, hnx4⟩ := hn1 hbb
  replace hF := hF.withK (K' := ((etK recV D bT rr T (fun x => left x && !x.sameKey kl) key v cnt').and (lmK labAV bN NX)).and (marksK Ds)) ⟨⟨⟨hF.kept.1.1.1, hF.kept.1.1.2 hbb⟩, hF.kept.1.2⟩, hF.kept.2⟩
  refine wpN_of (wp_skip ?_)
  refine wpN_block (wpN_seq (wpN_of (wp_region_lit ?_)))
  obtain ⟨⟨q, el⟩, hp, hpk, hpkey, hpv⟩ := hF.kept.1.1.1.entry hnx1 (hlft _ hnx2) hnx3
  dsimp only at hpk hpkey hpv
  have hent := hF.kept.1.1.2.2
  rw [hpkey, hpv] at hent
  have hok := hF.kept.1.1.1.ok _ hp
  obtain ⟨hlq, hb0⟩ := hTA.labs _ hp
  obtain ⟨he1, he2⟩ := hTA.recs _ hp
  dsimp only at hlq hb0 he1 he2 hok
  have hTq : treF T q = some el.r.abs := by
   unfold treF
   rw [mem_getA hD.nd hp]; rfl
  refine man_entry rfl rfl rfl rfl hF (Nat.le_of_ble_eq_true rfl) rfl hent (zLab_ok _ _ q) hok ?_
  intro a0 hF
  simp only [labAV] at hF
  replace hF := hF.withK (K' := (wK T NX D bT rr bN (fun x => left x && !x.sameKey kl) cnt').and (marksK Ds)) ⟨⟨⟨hF.kept.1.1.1, hF.kept.1.1.2.1⟩, hF.kept.1.2⟩, hF.kept.2⟩
  obtain ⟨left2, hleft2⟩ := eqv (fun x => left x && !x.sameKey kl)
  rw [← hleft2] at hF
  refine lnd 1 hB TA_ok [9, 10, 44, 5, 6, 1] [9, 10] [] hF (fun X8 a0 w1 hF => ?_)
  have hF := hF.fz (tm' := [(9, .ep (some ⟨(X8 3).b, 0, none⟩) 0 0 0 [.int .i64 q.len, .int .u64 q.bits]), (10, .ptr 10 (X8 4).b 0), (44, .raw (.pointer (some ⟨rr, 0, none⟩))), (5, tEp (X3 5).b bT), (6, .raw (.map (some bN))), (1, .int .i64 b)]) ⟨rfl, fz_ptr, rfl, fz_id, rfl, fz_id, rfl, fz_id, rfl, fz_id, rfl, fz_id, trivial⟩
  have hF := hF.fz (tm' := [(9, .ep (some ⟨(X8 3).b, 0, none⟩) 0 0 0 [.int .i64 q.len, .int .u64 q.bits]), (10, .ep (some ⟨(X8 4).b, 0, none⟩) 0 0 0 (recC el)), (44, .raw (.pointer (some ⟨rr, 0, none⟩))), (5, tEp (X3 5).b bT), (6, .raw (.map (some bN))), (1, .int .i64 b)]) ⟨rfl, fz_id, rfl, fz_ptr, rfl, fz_id, rfl, fz_id, rfl, fz_id, rfl, fz_id, trivial⟩
  -- the round's end
  have hnext : soundQ (treF T) (nxP lv) b q el.r.abs = true → (∀ kl, left2 kl = true → Maps.has D kl = true) ∧ (∀ q ∈ T, left2 (keyL q.1) = true ∨ soundQ (treF T) (nxP lv) b q.1 q.2.r.abs = true) := by
   intro hs
   refine ⟨fun x hx => ?_, fun q' hq' => ?_⟩
   ·rw [hleft2] at hx
    simp only [Bool.and_eq_true] at hx
    exact hlft _ hx.1
   rcases hsnd q' hq' with h1 | h1
   ·by_cases he : q'.1 = q
    ·right
     have e1 := mem_getA hD.nd hq'
     rw [he, mem_getA hD.nd hp] at e1
     injection e1 with e1
     rw [he, ← e1]; exact hs
    left
    rw [hleft2]
    simp only [h1, Bool.true_and, Bool.not_eq_true']
    rw [← hpk, keyL_same (hTA.labs _ hq').1 hlq, decide_eq_false he]
   exact .inr h1
  have hbad : soundQ (treF T) (nxP lv) b q el.r.abs = false → W = false := by
   intro hs
   rw [hWt, List.all_eq_false]
   exact ⟨_, hp, by rw [hs]; decide⟩
  obtain ⟨up, hup⟩ := eqv (parV q)
  obtain ⟨pe, hpe⟩ := eqv (parE q)
  have SP := par_s q hb0
  rw [← hup, ← hpe] at SP
  simp only [labAV] at SP
  have O1 := SP
  refine wpN_seq (wpN_seq (wpN_of (rg hB TA_ok [12, 11, 9, 10, 44, 5, 6, 1] [11] [(1, .r fun _ => .tup [.agg [.int .i64 up.len, .int .u64 up.bits], .int .i64 pe])] hF fun X9 a0 w1 hF => ?_)))
  have hF := hF.fz (tm' := [(12, .int .i64 pe), (11, .ep (some ⟨(X9 5).b, 0, none⟩) 0 0 0 [.int .i64 up.len, .int .u64 up.bits]), (9, .ep (some ⟨(X8 3).b, 0, none⟩) 0 0 0 [.int .i64 q.len, .int .u64 q.bits]), (10, .ep (some ⟨(X8 4).b, 0, none⟩) 0 0 0 (recC el)), (44, .raw (.pointer (some ⟨rr, 0, none⟩))), (5, tEp (X3 5).b bT), (6, .raw (.map (some bN))), (1, .int .i64 b)]) ⟨rfl, fz_id, rfl, fz_ptr, rfl, fz_id, rfl, fz_id, rfl, fz_id, rfl, fz_id, rfl, fz_id, rfl, fz_id, trivial⟩
  obtain ⟨eu, heu⟩ := eqv ((getA up T).getD zRA)
  have OU := look_ff (K := (wK T NX D bT rr bN left2 cnt').and (marksK Ds)) (el := recV) (l := up) (fun m w h => ⟨D, h.1.1.1⟩) (by rw [hup]; exact labOk_par hb0) mapr_und zRA_run zRA_ok (v := recV eu) (by rw [← heu])
  simp only [labAV] at OU
  refine wpN_of (wp_seq (rg hB TA_ok [63, 9, 10, 44, 5, 6, 1] [] [(5, .r fun _ => recV eu)] hF (fun X10 a0 w1 hF => ?_) (hob := ?hob)))
  case hob =>
   intro X; subst hB
   repeat (first | exact trivial | refine ⟨rfl, ?_⟩ | refine ⟨fun _ => rfl, ?_⟩ | refine ⟨fun _ => OU, ?_⟩)
  have hku : kindT (treF T) up = eu.r.kd := by
   unfold kindT treF
   cases hg : getA up T with
   | none => rw [hg] at heu; rw [heu]; rfl
   | some x => rw [hg] at heu; rw [heu]; rfl
  have hhof := hofK left2 cnt'
  have hRET : ∀ {fn : Func} {nt0 tm0 a0 w1}, fn.results = #[.tmp 4] → W = false → Fits ⟨m, w, ats [], Ds.map markD, (wK T NX D bT rr bN left2 cnt').and (marksK Ds)⟩ ⟨nt0, (4, .bool .ff) :: tm0, [], [], []⟩ a0 w1 → bodyPostM Fence.wide 0 Tryz.prog fn (fun e w' => ∃ x : Atom, e = .returned (AV.bool (.v W)).den ∧ Ok m w' (.bool (.v W)) ∧ Below w.heap.size w w') .ret a0 w1 := by
   intro fn nt0 tm0 a0 w1 hfn hWf hF
   refine (rsN (res := fun _ => .bool (.v W)) (rs := [.tmp 4]) hB TA_ok Ds hF hhof ⟨0, fun _ => none, fun _ => 0, fun _ => .empty⟩ (hfn := hfn) (he := ?he)).1
   case he => rw [hWf]; subst hB; exact Sim.bool rfl
  refine test_ok hF rfl (fun hbC hF => ?_) (fun hbC hF => ?_)
  ·have h9 : pe = 0 ∧ ¬ eu.r.kd = 2 := by subst hB; simpa [std, sC] using hbC
   have hbd : soundQ (treF T) (nxP lv) b q el.r.abs = false := by
    unfold soundQ
    rw [← hpe, ← hup, hku, decide_eq_true h9.1, decide_eq_true h9.2]
    rfl
   refine wp_seq (rg hB TA_ok [4] [] [] hF fun X11 a0 w1 hF => ?_)
   exact wp_ret (hRET rfl (hbad hbd) hF)
  have hp1 : (!(decide (parE q = 0) && decide (kindT (treF T) (parV q) ≠ 2))) = true := by
   have h9 : pe = 0 → eu.r.kd = 2 := by subst hB; simpa [std, sC] using hbC
   rw [← hpe, ← hup, hku]
   by_cases g : pe = 0
   ·rw [h9 g]; simp
   simp [g]
  refine wp_skip ?_
  refine wpN_seq (wpN_of (rg hB TA_ok [65, 9, 10, 44, 5, 6, 1] [] [] hF fun X11 a0 w1 hF => ?_))
  refine wpN_block (wpN_seq (wpN_of (rg hB TA_ok [66, 65, 9, 10, 44, 5, 6, 1] [] [] hF fun X12 a0 w1 hF => ?_)))
  refine ntest_ok hF rfl (fun hbD hF => ?_) (fun hbD hF => ?_)
  ·have hk1 : el.r.kd = 1 := by subst hB; simpa [std, sC] using hbD
   have SCV := tcov_s el.A el.r.n el.c el.r.f (by omega) q hb0 he2
   obtain ⟨CV, hCV⟩ := eqv (covL q (firsts el.r.f el.r.n))
   rw [← hCV] at SCV
   obtain ⟨cf, hcf⟩ := eqv (itF CV)
   obtain ⟨cn, hcn⟩ := eqv (CV.length)
   rw [← hcf, ← hcn] at SCV
   simp only [rowI, labAV] at SCV
   obtain ⟨nq, hnq⟩ := eqv ((getA q NX).getD ⟨0, 0⟩)
   have ON := look_ff (K := (wK T NX D bT rr bN left2 cnt').and (marksK Ds)) (el := labAV) (l := q) (fun m w h => h.1.2) hlq mapl_und zLab_run (fun m w => zLab_ok m w _) (v := labAV nq) (by rw [← hnq])
   simp only [labAV] at ON
   refine wpN_of (wp_seq (drg hB TA_ok [91, 44, 5, 6, 1] [] [(9, .r fun x => .sl none (x.A 0) cn (x.c 0) 2 (fun i => itC (cf i))), (21, .r fun _ => .agg [.int .i64 nq.len, .int .u64 nq.bits])] hF (fun X13 a0 w1 hF => ?_) (hob := ?hob2)))
   case hob2 =>
    intro X; subst hB
    repeat (first | exact trivial | refine ⟨rfl, ?_⟩ | refine ⟨fun _ => rfl, ?_⟩ | refine ⟨fun _ => ⟨fun _ _ => by kernel_rfl, SCV⟩, ?_⟩ | refine ⟨fun _ => ON, ?_⟩ | refine ⟨fun _ => ob_lab (Kk := noK) _ _ _ _, ?_⟩)
   have hcl : (covL q (firsts el.r.f el.r.n)).length = cn := by rw [hcn, hCV]
   have hnq2 : nxP lv q = nq := by unfold nxP; rw [← hlf, ← hln, ← hNX, hnq]
   have hs2 : soundQ (treF T) (nxP lv) b q el.r.abs = (decide ((el.r.n : Int) ≤ b) && decide (el.r.n ≤ cn) && decide (el.r.nx = nq)) := by
    unfold soundQ
    rw [hp1, Bool.true_and]
    refine (if_pos hk1).trans ?_
    show (decide (((firsts el.r.f el.r.n).length : Int) ≤ b) && decide ((firsts el.r.f el.r.n).length ≤ (covL q (firsts el.r.f el.r.n)).length) && decide (el.r.nx = nxP lv q)) = _
    rw [firsts_len, hcl, hnq2]
   refine test_ok hF rfl (fun hbE hF => ?_) (fun hbE hF => ?_)
   ·have h10 : (if (if decide ((el.r.n : Int) > b) = true then true else decide ((cn : Int) < (el.r.n : Int))) = true then true else !(eqL [.int .i64 el.r.nx.len, .int .u64 el.r.nx.bits] [.int .i64 nq.len, .int .u64 nq.bits])) = true := by subst hB; exact hbE
    rw [lab_eqL] at h10
    have h9 : ¬ ((el.r.n : Int) ≤ b ∧ el.r.n ≤ cn ∧ el.r.nx = nq) := by
     rintro ⟨g1, g2, g3⟩
     rw [decide_eq_false (by omega), decide_eq_false (by omega), decide_eq_true g3] at h10
     cases h10
    refine wp_seq (rg hB TA_ok [4] [] [] hF fun X14 a0 w1 hF => ?_)
    refine wp_ret (hRET rfl (hbad ?_) hF)
    rw [hs2]
    rw [← Bool.not_eq_true, Bool.and_eq_true, Bool.and_eq_true, decide_eq_true_eq, decide_eq_true_eq, decide_eq_true_eq]
    exact fun h => h9 ⟨h.1.1, h.1.2, h.2⟩
   have h10 : (if (if decide ((el.r.n : Int) > b) = true then true else decide ((cn : Int) < (el.r.n : Int))) = true then true else !(eqL [.int .i64 el.r.nx.len, .int .u64 el.r.nx.bits] [.int .i64 nq.len, .int .u64 nq.bits])) = false := by subst hB; exact hbE
   rw [lab_eqL] at h10
   have h9 : (el.r.n : Int) ≤ b ∧ el.r.n ≤ cn ∧ el.r.nx = nq := by
    by_cases g1 : (el.r.n : Int) > b
    ·rw [decide_eq_true g1] at h10; cases h10
    by_cases g2 : (cn : Int) < (el.r.n : Int)
    ·rw [decide_eq_false g1, decide_eq_true g2] at h10; cases h10
    by_cases g3 : el.r.nx = nq
    ·exact ⟨by omega, by omega, g3⟩
    rw [decide_eq_false g1, decide_eq_false g2, decide_eq_false g3] at h10; cases h10
   refine wp_skip ?_
   have hsd : soundQ (treF T) (nxP lv) b q el.r.abs = true := by rw [hs2, decide_eq_true h9.1, decide_eq_true h9.2.1, decide_eq_true h9.2.2]; rfl
   exact ⟨(left2, cnt', Ds), ⟨(hnext hsd).1, (hnext hsd).2, hDs⟩, hnx4, hF⟩
  have hk1 : ¬ el.r.kd = 1 := by subst hB; simpa [std, sC] using hbD
  refine wpN_seq (wpN_of (rg hB TA_ok [92, 9, 10, 44, 5, 6, 1] [] [] hF fun X13 a0 w1 hF => ?_))
  refine ntest_ok hF rfl (fun hbE hF => ?_) (fun hbE hF => ?_)
  ·have hk2 : el.r.kd = 2 := by subst hB; simpa [std, sC] using hbE
   have hs2 : soundQ (treF T) (nxP lv) b q el.r.abs = decide (2 ≤ kidsT (treF T) q (if chE q 0 = 0 then 2 else 0)) := by
    unfold soundQ
    rw [hp1, Bool.true_and]
    exact (if_neg hk1).trans (if_pos hk2)
   refine wpN_seq (wpN_of (rg hB TA_ok [13, 9, 44, 5, 6, 1] [13] [] hF fun X14 a0 w1 hF => ?_))
   have SK := kids_s q
   simp only [labAV] at SK
   have O1 := SK
   refine wpN_seq (wpN_seq (wpN_of (rg hB TA_ok [95, 13, 44, 5, 6, 1] [13] [(1, .r fun y => .fn 53 [] [.ep (some ⟨y.b, 0, none⟩) 0 0 0 [.int .i64 q.len, .int .u64 q.bits]])] hF fun X15 a0 w1 hF => ?_)))
   refine wpN_block ?_
   have hself : ∀ Es, (((wK T NX D bT rr bN left2 cnt').and (marksK Es))).self := fun Es => and_self' (and_self' rgK_self lmK_self) marksK_self
   have hKu := hself Ds _ _ hF.kept
   have hfresh : bT < w1.heap.size ∧ rr < w1.heap.size ∧ bN < w1.heap.size ∧ ∀ E ∈ Ds, E < w1.heap.size := ⟨(ranges_lt hF.kept.1.1.2).1, (ranges_lt hF.kept.1.1.2).2, lmK_lt hF.kept.1.2, marks_lt hF.kept.2⟩
   refine rangeI hF rfl enters53 hKu (fun l D2 rc w1 hl hD2 hrc hD0 hsz ha hm1 hlb => ?_)
   subst hrc
   refine (kids_c (l := l) (D := D2) (ntc := 108) (p := 96) Tryz.func11 (by omega) (by omega) rfl rfl rfl (by decide) ⟨_, ha⟩ q hb0 (fun i K' mem gr => K' = (wK T NX D bT rr bN left2 cnt').and (marksK Ds) ∧ mem = [(13, (⟨(X14 0).b, 3, [.int .i64 (kidsT (treF T) q i : Nat)]⟩ : Blk))] ∧ gr = []) (fun _ _ _ _ => False) ?_ ⟨rfl, rfl, rfl⟩ (hKu.off (by omega)) hm1 (hlb _ (by simp))).mono ?_
   ·intro i hi hce E hE hE2 K' mem gr a w2 ⟨hK', hmem, hgr⟩ hoff hF
    subst hK' hmem hgr
    obtain ⟨hc1, hc2, hc3⟩ := ch_is hb0 hce (i : Nat)
    obtain ⟨cl, hcl⟩ := eqv (chV q (i : Nat))
    obtain ⟨kc, hkc⟩ := eqv (kidsT (treF T) q i)
    have hkcl : kc ≤ 2 := by
     rw [hkc]
     have hle : ∀ j, kidsT (treF T) q j ≤ j := fun j => by
      induction j with
      | zero => exact Nat.le_refl _
      | succ j ih => unfold kidsT hasT; split <;> omega
     have := hle i; omega
    rw [← hcl] at hc1 hc2 hc3 hF
    rw [← hkc] at hF
    simp only [labAV] at hF
    refine rrg hB TA_ok [14, 13, 5] [14, 13] [] hF fun X16 a0 w1 hF => ?_
    have hF := hF.fz (tm' := [(14, .ep (some ⟨(X16 0).b, 0, none⟩) 0 0 0 [.int .i64 cl.len, .int .u64 cl.bits]), (13, .ptr 13 (X14 0).b 0), (5, tEp (X3 5).b bT)]) ⟨rfl, fz_ptr, rfl, fz_id, rfl, fz_id, trivial⟩
    refine ⟨108, _, _, _, hF, fun w2 hF => ?_⟩
    obtain ⟨ei, hei⟩ := eqv ((getA cl T).getD zRA)
    obtain ⟨hi2, hhi2⟩ := eqv ((getA cl T).isSome)
    have OL := fun (Kx : Kn) (hx : ∀ m w, Kx.p m w → (lmK recV bT T).p m w) => look_tt (K := Kx) (el := recV) (b := bT) (L := T) (l := cl) hx (labOk_is hc1 hc2) mapr_und zRA_run zRA_ok (v := recV ei) (by rw [← hei]) hhi2.symm
    simp only [labAV] at OL
    refine wpIn_block (wpIn_seq (rrg hB TA_ok [16, 13] [13] [(2, .r fun _ => .tup [recV ei, .bool (.v hi2)])] hF (fun X17 a0 w1 hF => ?_) (hob := ?hob7)))
    case hob7 =>
     intro X; subst hB
     repeat (first | exact trivial | refine ⟨rfl, ?_⟩ | refine ⟨OL _ (fun m w h => ⟨D, h.1.1.1.1.1.1⟩), ?_⟩)
    refine wpIn_seq (rrg hB TA_ok [103, 13] [13] [] hF fun X18 a0 w1 hF => ?_)
    have hst : kidsT (treF T) q (i + 1) = kc + (if hi2 = true then 1 else 0) := by
     unfold kidsT
     rw [← hkc, ← hcl]
     unfold hasT treF
     rw [hhi2]
     cases getA cl T <;> rfl
    refine rtest_ok hF rfl (fun hbF hF => ?_) (fun hbF hF => ?_)
    ·have ht2 : hi2 = true := by subst hB; exact hbF
     refine rrg hB TA_ok [] [13] [] hF fun X19 a0 w1 hF => ?_
     have e2 : B.arith .add .i64 (kc : Int) 1 = ((kidsT (treF T) q (i + 1) : Nat) : Int) := by
      rw [hst, if_pos ht2]; subst hB; exact wrap_succ (n := 10) (by omega) (by simp only [maxLen]; omega)
     have hF := hF.memS (cells' := [.int .i64 (kidsT (treF T) q (i + 1) : Nat)]) (by rw [← e2]; exact ⟨zr, trivial⟩)
     exact ⟨_, _, [], ⟨rfl, rfl, rfl⟩, hoff, hF.bare⟩
    have ht2 : hi2 = false := by subst hB; exact hbF
    refine wpIn_skip ?_
    have e2 : kc = kidsT (treF T) q (i + 1) := by rw [hst, ht2]; simp
    have hF := hF.memS (cells' := [.int .i64 (kidsT (treF T) q (i + 1) : Nat)]) (by rw [← e2]; exact ⟨zr, trivial⟩)
    exact ⟨_, _, [], ⟨rfl, rfl, rfl⟩, hoff, hF.bare⟩
   rintro e w3 ⟨v, rfl, K', mem', gr', ho, hh⟩
   rcases hh with ⟨hm', rfl, rfl, rfl⟩ | ⟨c, hx, _⟩
   ·refine ⟨v, rfl, _, _, _, ho, .inl ⟨hm', fun a' w' hF => ?_⟩⟩
    have hDf : D2 ∉ Ds := fun hm => by have := hfresh.2.2.2 _ hm; omega
    have hF : Fits ⟨m, w, ats [], (D2 :: Ds).map markD, (wK T NX D bT rr bN left2 cnt').and (marksK (D2 :: Ds))⟩ _ a' w' := hF.withK (K' := (wK T NX D bT rr bN left2 cnt').and (marksK (D2 :: Ds))) (marks_more hF.kept hDf)
    obtain ⟨kn, hkn⟩ := eqv (kidsT (treF T) q (if chE q 0 = 0 then 2 else 0))
    rw [← hkn] at hF hs2
    have hDs2 : ∀ E ∈ D2 :: Ds, w.heap.size ≤ E := fun E hE => by
     rcases List.mem_cons.1 hE with rfl | hE
     ·exact hD0
     exact hDs E hE
    refine wpN_of (wp_seq (rg hB TA_ok [107, 44, 5, 6, 1] [] [] hF fun X16 a0 w1 hF => ?_))
    refine test_ok hF rfl (fun hbF hF => ?_) (fun hbF hF => ?_)
    ·have hlt : kn < 2 := by
      have : (kn : Int) < 2 := by subst hB; simpa [std, sC] using hbF
      omega
     have hsd : soundQ (treF T) (nxP lv) b q el.r.abs = false := by rw [hs2, decide_eq_false (by omega)]
     refine wp_seq (rg hB TA_ok [4] [] [] hF fun X17 a0 w1 hF => ?_)
     refine wp_ret (rsN (res := fun _ => .bool (.v W)) hB TA_ok (D2 :: Ds) hF (fun E hE => ?_) ⟨0, fun _ => none, fun _ => 0, fun _ => .empty⟩ (he := ?he)).1
     ·rcases List.mem_cons.1 hE with rfl | hE
      ·exact ⟨wK_off (by omega) (by omega) (by omega), hD0⟩
      exact hhof E hE
     case he => rw [hbad hsd]; subst hB; exact Sim.bool rfl
    have hlt : ¬ kn < 2 := by
     have : ¬ (kn : Int) < 2 := by subst hB; simpa [std, sC] using hbF
     omega
    have hsd : soundQ (treF T) (nxP lv) b q el.r.abs = true := by rw [hs2, decide_eq_true (by omega)]
    refine wp_skip ?_
    exact ⟨(left2, cnt', D2 :: Ds), ⟨(hnext hsd).1, (hnext hsd).2, hDs2⟩, hnx4, hF⟩
   exact hx.elim
  have hk2 : ¬ el.r.kd = 2 := by subst hB; simpa [std, sC] using hbE
  have hsd : soundQ (treF T) (nxP lv) b q el.r.abs = false := by
   unfold soundQ
   rw [hp1, Bool.true_and]
   exact (if_neg hk1).trans (if_neg hk2)
  refine wpN_of (wp_seq (rg hB TA_ok [4] [] [] hF fun X14 a0 w1 hF => ?_))
  exact wp_ret (hRET rfl (hbad hsd) hF)
 have hbb : bb = false := by subst hB; exact hbB
 have hall := hn0 hbb
 refine wpN_of (wp_exit ?_)
 replace hF := hF.withK (K' := noK.and (marksK Ds)) ⟨trivial, hF.kept.2⟩
 refine wpN_of (wp_seq (rg hB TA_ok [4] [] [] hF fun X8 a0 w1 hF => ?_))
 have hWt2 : W = true := by
  rw [hWt, List.all_eq_true]
  intro p hp
  rcases hsnd p hp with h1 | h1
  ·rw [hall] at h1; cases h1
  exact h1
 refine wp_ret (rsN (res := fun _ => .bool (.v W)) hB TA_ok Ds hF (fun E hE => ⟨fun _ _ => trivial, hDs E hE⟩) ⟨0, fun _ => none, fun _ => 0, fun _ => .empty⟩ (he := ?he)).1
 case he => rw [hWt2]; subst hB; exact Sim.bool rfl
def rwOf (p : Lab × Rec) : Rw := ⟨p.1, 1, p.2⟩
def insE (p : Lab × Rec) : List (Lab × Rec) → List (Lab × Rec)
 | [] => [p]
 | q :: l => if lessL p.1 q.1 = true then p :: q :: l else q :: insE p l
def sortE (l : List (Lab × Rec)) : List (Lab × Rec) := l.foldl (fun o x => insE x o) []
def leE (a b : Lab × Rec) : Prop := leL a.1 b.1
theorem insE_perm (x : Lab × Rec) : ∀ l : List (Lab × Rec), (insE x l).Perm (x :: l)
 | [] => List.Perm.refl _
 | y :: l => by
  unfold insE
  split
  ·exact List.Perm.refl _
  exact (List.Perm.cons _ (insE_perm x l)).trans (List.Perm.swap _ _ _)
theorem insE_sorted (x : Lab × Rec) : ∀ {l : List (Lab × Rec)}, l.Pairwise leE → (insE x l).Pairwise leE
 | [], _ => List.pairwise_singleton _ _
 | y :: l, h => by
  have h' := List.pairwise_cons.1 h
  unfold insE
  split
  ·rename_i hx
   refine List.pairwise_cons.2 ⟨fun z hz => ?_, h⟩
   rcases List.mem_cons.1 hz with rfl | hz
   ·exact less_le hx
   exact leL_trans (less_le hx) (h'.1 z hz)
  rename_i hx
  refine List.pairwise_cons.2 ⟨fun z hz => ?_, insE_sorted x h'.2⟩
  rcases List.mem_cons.1 ((insE_perm x l).mem_iff.1 hz) with rfl | hz
  ·exact (Bool.not_eq_true _).mp hx
  exact h'.1 z hz
theorem sortE_go (l : List (Lab × Rec)) : ∀ (o : List (Lab × Rec)), (l.foldl (fun o x => insE x o) o).Perm (l ++ o) ∧ (o.Pairwise leE → (l.foldl (fun o x => insE x o) o).Pairwise leE) := by
 induction l with
 | nil => exact fun o => ⟨List.Perm.refl _, id⟩
 | cons x l ih =>
  intro o
  obtain ⟨h1, h2⟩ := ih (insE x o)
  exact ⟨h1.trans (((insE_perm x o).append_left l).trans List.perm_middle), fun ho => h2 (insE_sorted x ho)⟩
theorem sortE_perm (l : List (Lab × Rec)) : (sortE l).Perm l := by
 have := (sortE_go l []).1
 rwa [List.append_nil] at this
theorem sortE_sorted (l : List (Lab × Rec)) : (sortE l).Pairwise leE := (sortE_go l []).2 .nil
def fixN (NX : Lab → Lab) (w : Rw) : Rw := if w.r.kind = 1 then { w with r := { w.r with next := NX w.lab } } else w
def growT (n : Nat) (f : Nat → Itm) (b : Int) : Bool × List (Lab × Rec) := growP b 65 (firsts f n) ⟨0, 0⟩ []
def bldE (n : Nat) (f : Nat → Itm) (b : Int) : Int :=
 if b < 1 ∨ b > 16 ∨ oddB n f = true ∨ srtB n f = false ∨ dupB n f = true then 1 else if 500 < n then 2 else if (growT n f b).1 = true then 0 else 2
def bld0 (n : Nat) (f : Nat → Itm) (b : Int) : List Rw := (sortE (growT n f b).2).map rwOf
def bldR (n : Nat) (f : Nat → Itm) (b : Int) : List Rw := if bldE n f b = 0 then (bld0 n f b).map (fixN (nxP (leavesP (bld0 n f b)))) else []
theorem fresh_left {left : Lit → Bool} {p : Lab × RA} : ∀ {L : List (Lab × RA)}, (L.map (·.1)).Nodup → (∀ q ∈ L, LabOk q.1) → p ∈ L → left (keyL p.1) = true →
  (L.filter fun q => left (keyL q.1)).Perm (p :: L.filter fun q => left (keyL q.1) && !(keyL q.1).sameKey (keyL p.1))
 | q :: L, hr, hl, hp, h1 => by
  have hr' := List.nodup_cons.1 hr
  rcases List.mem_cons.1 hp with rfl | hp
  ·rw [List.filter_cons, if_pos h1, List.filter_cons, keyL_same_refl]
   simp only [Bool.not_true, Bool.and_false, Bool.false_eq_true, if_false]
   refine List.Perm.cons _ ?_
   have : ∀ q ∈ L, (left (keyL q.1)) = (left (keyL q.1) && !(keyL q.1).sameKey (keyL p.1)) := by
    intro q hq
    rw [keyL_same (hl q (by simp [hq])) (hl p (by simp)), decide_eq_false (fun e => hr'.1 (List.mem_map.2 ⟨q, hq, e⟩))]
    simp
   rw [List.filter_congr this]
  have hne : q.1 ≠ p.1 := fun e => hr'.1 (List.mem_map.2 ⟨p, hp, e.symm⟩)
  have ih := fresh_left hr'.2 (fun q hq => hl q (by simp [hq])) hp h1
  rw [List.filter_cons, List.filter_cons, keyL_same (hl q (by simp)) (hl p (by simp [hp])), decide_eq_false hne]
  simp only [Bool.not_false, Bool.and_true]
  split
  ·exact (List.Perm.cons _ ih).trans (List.Perm.swap _ _ _)
  exact ih
def rwA (p : Lab × RA) : RowA := ⟨p.1, 1, p.2⟩
theorem build_fin {TA : List (Lab × RA)} (hnd : (TA.map (·.1)).Nodup) {h h' : Nat → RowA} {k : Nat} (hp : (rwsA h k).Perm (TA.map fun p => (rwA p).abs)) (hp' : ((List.range k).map h').Perm ((List.range k).map h)) (hs : ∀ i j, i < j → j < k → labLt (h' j).lab (h' i).lab = false) : rwsA h' k = (sortE (absT TA)).map rwOf := by
 have e1 : (TA.map fun p => (rwA p).abs) = (absT TA).map rwOf := by unfold absT; rw [List.map_map]; rfl
 have hperm : (rwsA h' k).Perm ((sortE (absT TA)).map rwOf) := by
  refine List.Perm.trans ?_ (hp.trans (by rw [e1]; exact ((sortE_perm (absT TA)).map rwOf).symm))
  have := hp'.map RowA.abs
  simp only [List.map_map] at this
  exact this
 have hlabs : ((absT TA).map rwOf).map (·.lab) = TA.map (·.1) := by unfold absT; rw [List.map_map, List.map_map]; rfl
 have hnd2 : (((sortE (absT TA)).map rwOf).map (·.lab)).Nodup := by
  have := ((sortE_perm (absT TA)).map rwOf).map (·.lab)
  exact this.nodup_iff.2 (by rw [hlabs]; exact hnd)
 refine List.Perm.eq_of_pairwise (le := fun a b : Rw => leL a.lab b.lab) ?_ ?_ ?_ hperm
 ·intro a b ha hb h1 h2
  have hl : a.lab = b.lab := leL_anti h1 h2
  have ha' := hperm.mem_iff.1 ha
  have key : ∀ {l : List Rw}, (l.map (·.lab)).Nodup → ∀ {a b : Rw}, a ∈ l → b ∈ l → a.lab = b.lab → a = b := by
   intro l
   induction l with
   | nil => intro _ a b ha; cases ha
   | cons x l ih =>
    intro hn a b ha hb hab
    have hn' := List.nodup_cons.1 hn
    rcases List.mem_cons.1 ha with hax | hax
    ·rcases List.mem_cons.1 hb with hbx | hbx
     ·rw [hax, hbx]
     exact (hn'.1 (List.mem_map.2 ⟨b, hbx, by rw [← hab, hax]⟩)).elim
    rcases List.mem_cons.1 hb with hbx | hbx
    ·exact (hn'.1 (List.mem_map.2 ⟨a, hax, by rw [hab, hbx]⟩)).elim
    exact ih hn'.2 hax hbx hab
  exact key hnd2 ha' hb hl
 ·rw [List.pairwise_iff_getElem]
  intro i j hi hj hij
  have hj' : j < k := by rw [listA_len] at hj; exact hj
  have hi' : i < k := by omega
  have e : ∀ t (g : t < (rwsA h' k).length), t < k → (rwsA h' k)[t] = (h' t).abs := by
   intro t g ht
   have := listA_get RowA.abs h' ht
   rw [List.getElem?_eq_getElem g] at this
   exact Option.some.inj this
  rw [e i hi hi', e j hj hj']
  show lessL (h' j).lab (h' i).lab = false
  rw [← labLt_le]
  exact hs i j hij hj'
 rw [List.pairwise_map]
 exact sortE_sorted _
theorem man_raw {C : Cx} {P : Program} {Q : Exit → Act → World → Prop} {ops : Array Oper} {s : St} {a : Act} {w : World} {L rest : List Oper} {o : Oper} {cl : Call} {g : Operand} {f : FuncId} {l r args : List AV} {d : Nat} (hL : L = o :: rest) (hg : o.guard = none) (hop : o.op = .call cl) (hcal : cl.callee = .value g) (hdst : o.dst = some d) (h : Fits C s a w) (hgv : val s [] g = .fn f l r) (hl : vals s [] cl.args.toList = some args) (hen : Enters P f)
  (R : Value → World → Prop) (hc : Calls P f ((l ++ args ++ r).map AV.den).toArray w fun e w' => ∃ v, e = .returned v ∧ R v w') (K : ∀ v w', R v w' → wpList P ops Q rest (a.put (some d) v) w') : wpList P ops Q L a w := by
 refine man_op hL hg ?_
 obtain ⟨hrun, _⟩ := call_run hop hcal h hgv hl hen
 unfold Oper.wp
 rw [hrun]
 simp only [Oper.upon]
 refine hc.mono ?_
 rintro e w' ⟨v, rfl, h1⟩
 rw [hdst]
 exact K v w' h1
theorem Spec.args' {P : Program} {f : FuncId} {args args' : List AV} {res : Atom → AV} (h : Spec P f args' res) (hs : SimL args args') : Spec P f args res := by
 intro m w hm ha
 rw [hs.map]
 exact h m w hm (hs.ok ha)
theorem clone_own (A : Option Addr) (n c : Nat) (f : Nat → Itm) (hn : n ≤ 1000000) {m : Nat → Nat → Prop} {w : World} (hok : Ok m w (rowI A n c f)) : Calls Tryz.prog 40 ([rowI A n c f].map AV.den).toArray w fun e w' => ∃ v, e = .returned v ∧ ∃ A' c', v = .slice A' n c' ∧ Own w' w.heap.size 58 2 (.slice A' n c') n (rowFlat (fun t => itC (f t)) n) ∧ Below w.heap.size w w' := by
 have hsim : Sim (rowI A n c f) (rowI A (firsts f n).length c (itF (firsts f n))) := Sim.resl (firsts_len f n).symm fun t ht => by rw [firsts_len] at ht; rw [firsts_get f n t ht]
 have hr := Cl.its_reads (hsim.2.2 _ _ hok)
 have := Cl.clone_c w A c (firsts f n) hr (by rw [firsts_len]; omega)
 rw [firsts_len] at this
 refine this.mono ?_
 rintro e w' ⟨v, rfl, hO, hb⟩
 obtain ⟨A', c', rfl, _, _⟩ := hO.isSlice
 rw [firsts_len] at hO
 refine ⟨_, rfl, A', c', by rw [firsts_len], ?_, hb⟩
 unfold OwnL at hO
 rw [firsts_len] at hO
 have e : rowFlat (fun t => itC (f t)) n = (firsts f n).flatMap Cl.itmE := by
  have := Cl.rowFlat_its (firsts f n)
  rw [firsts_len] at this
  rw [← this]
  unfold rowFlat
  rw [List.flatMap_def, List.flatMap_def]
  congr 1
  apply List.map_congr_left
  intro t ht
  show (itC (f t)).map AV.den = (itC (itF (firsts f n) t)).map AV.den
  rw [firsts_get f n t (List.mem_range.1 ht)]
 rw [e]
 exact hO
end Go.Proofs.YtpgjalaldhlcoaaGreat.Sym
