/-
  SymHd, PlGet, PlShelf, SymSh, ItClone, SymShM, SymRng, SymRng2, SymRng3, SymInl, SymLm, PlCov, SymCov, SymTr1, SortGen, SymSrt, SymSet, CmpOrd, PlMap, SymTr8: put together by a program of mine (a claim may have 60 files at most). Conditions: none.
-/
import Derived.WalkKit
import Derived.WalkLawsBesides
import Derived.WalkSpells
import Derived.Lib.Hide
import Derived.Deep.QuietTactic
import Derived.BigQuiet
import Derived.Deep.LoopGhost
import Derived.Deep.DeepCutAuto
import Derived.Deep.RegionLaw
import Derived.Lib.Overlaps
import Derived.Laws.CopyOwn
import Derived.IntWalk
import Derived.ProofKit
import Derived.OpenShut
import Derived.ShutString
import Derived.ChangeOld
import Derived.Deep.Slices
import Derived.Orders
import Derived.OrdersHeld
import Derived.Defers
import Derived.Recover
import Derived.Lib.BitFns
import Derived.ChangeKeysEq
import Derived.Test.YtpgjalaldhlcoaaGreatProg
import Derived.Lib.BufferWrite
import Derived.Maps.OwnSet
import Derived.Maps.RangeWalk
import Derived.Maps.Ext
import Derived.DeepKeys4
import Derived.RangeFuncLeaves
import Derived.RangeFuncCalls
import Derived.OrdersIn
import Derived.Shelf.SlSortCmp.WholeK
import Derived.Shelf.SlSortCmp.NoneTotal
import Derived.Deep.RegionHeld3
import Derived.Test.YtpgjalaldhlcoaaGreatMgD1
import Derived.Test.YtpgjalaldhlcoaaGreatMgD2
set_option linter.unusedVariables false
set_option linter.unusedSimpArgs false
set_option maxRecDepth 100000
set_option maxHeartbeats 1600000
namespace Go.Proofs.YtpgjalaldhlcoaaGreat.Sym
open Go Go.RowKit
abbrev Hand := Option (Nat × List Operand × List AV × AV)
def delta2 (A : Alg) (T : List (Nat × TI)) (cs : List (Nat × CS)) (H : Hand) (x : Atom) (all : List Oper) (i : Nat) (o : Oper) (s : St) : Option (Delta × List Ob × Foot) :=
 match H with
 | none => delta A T cs x all i o s
 | some (j, xs, args, v) => if j == i then (match o.guard, vals s [] xs, inNt s o.dst with
   | none, some l, true => some (⟨.no, o.dst, .plain v⟩, [.pr (l = args)], ⟨o.dst, tl xs, [], [], [], [], []⟩)
   | _, _, _ => none) else delta A T cs x all i o s
def HandOK (C : Cx) (P : Program) (all : List Oper) (H : Hand) : Prop := ∀ i xs args v, H = some (i, xs, args, v) → ∀ o, all[i]? = some o → ∀ s a w, Fits C s a w → vals s [] xs = some args → (execOp a.eval o).run P w = .ok (.value v.den) w ∧ Ok (s.m C) w v
theorem handOK_none {C : Cx} {P : Program} {all : List Oper} : HandOK C P all none := fun _ _ _ _ h => by cases h
def exec2 (A : Alg) (T : List (Nat × TI)) (cs : List (Nat × CS)) (H : Hand) (X : Nat → Atom) (all : List Oper) : List (Nat × Oper) → St → Option (St × List Ob × List Foot)
 | [], s => some (s, [], [])
 | (i, o) :: l, s => match delta2 A T cs H (X i) all i o s with
  | none => none
  | some (δ, ob, f) => match exec2 A T cs H X all l (s.app δ) with
   | none => none
   | some (s'', ob', fs) => some (s'', ob ++ ob', f :: fs)
section
variable {A : Alg} {T : List (Nat × TI)} {cs : List (Nat × CS)} {H : Hand} {X : Nat → Atom} {all : List Oper}
theorem delta2_foot {x : Atom} {i : Nat} {o : Oper} {s : St} {r : Delta × List Ob × Foot} (h : delta2 A T cs H x all i o s = some r) : FootOK r := by
 unfold delta2 at h
 split at h
 ·exact delta_foot h
 split at h
 ·split at h
  ·injection h with h; subst h
   exact ⟨(fun q v h => by cases h), rfl, (fun k b h => by cases h), (fun k b h => by cases h), (fun q v h => by cases h)⟩
  cases h
 exact delta_foot h
theorem delta2_local {x : Atom} {i : Nat} {o : Oper} {s s' : St} {r : Delta × List Ob × Foot} (h : delta2 A T cs H x all i o s = some r) (hU : AgT s s' r.2.2.cons) (hR : AgM s s' r.2.2.rk) (hG : AgR s s' r.2.2.rg) (hn : s.nt = s'.nt) : delta2 A T cs H x all i o s' = some r := by
 unfold delta2 at h ⊢
 split at h
 ·exact delta_local h hU hR hG hn
 split at h
 ·rename_i hj
  rw [if_pos hj]
  split at h
  ·rename_i l hg hv hi
   injection h with h; subst h
   rw [hg, ← vals_local hU [] (fun t ht => ht), hv, ← inNt_local hn, hi]
  cases h
 rename_i hj
 rw [if_neg hj]
 exact delta_local h hU hR hG hn
theorem exec2_cons {X : Nat → Atom} {i : Nat} {o : Oper} {l : List (Nat × Oper)} {s : St} {r} (hr : exec2 A T cs H X all ((i, o) :: l) s = some r) :
  ∃ δ ob f r', delta2 A T cs H (X i) all i o s = some (δ, ob, f) ∧ exec2 A T cs H X all l (s.app δ) = some r' ∧ r = (r'.1, ob ++ r'.2.1, f :: r'.2.2) := by
 simp only [exec2] at hr
 split at hr
 ·cases hr
 rename_i δ ob f he
 split at hr
 ·cases hr
 rename_i s'' ob' fs he'
 injection hr with hr
 exact ⟨δ, ob, f, _, he, he', hr.symm⟩
theorem exec2_congr {X Y : Nat → Atom} : ∀ (l : List (Nat × Oper)) (s : St), (∀ x ∈ l, X x.1 = Y x.1) → exec2 A T cs H X all l s = exec2 A T cs H Y all l s
 | [], _, _ => rfl
 | (i, o) :: l, s, h => by
  simp only [exec2]
  rw [h (i, o) (by simp)]
  cases delta2 A T cs H (Y i) all i o s with
  | none => rfl
  | some r => obtain ⟨δ, ob, f⟩ := r; simp only; rw [exec2_congr l _ (fun x hx => h x (by simp [hx]))]
theorem exec2_alike : ∀ {l : List (Nat × Oper)} {s s' τ : St} {obs : List Ob} {fs : List Foot}, exec2 A T cs H X all l s = some (τ, obs, fs) → Alike s s' → NM s (ds fs) → Ord fs → ∃ τ', exec2 A T cs H X all l s' = some (τ', obs, fs) ∧ Alike τ τ'
 | [], s, s', τ, obs, fs, h, ha, hn, hf => by
  simp only [exec2, Option.some.injEq, Prod.mk.injEq] at h
  obtain ⟨rfl, rfl, rfl⟩ := h
  exact ⟨s', rfl, ha⟩
 | (i, o) :: l, s, s', τ, obs, fs, h, ha, hn, hf => by
  obtain ⟨δ, ob, f, r', h1, h2, h3⟩ := exec2_cons h
  obtain ⟨τ1, obs1, fs1⟩ := r'
  simp only [Prod.mk.injEq] at h3
  obtain ⟨rfl, rfl, rfl⟩ := h3
  have hfo := delta2_foot h1
  have hd' := delta2_local h1 (s' := s') (fun t _ => ⟨ha.tmps t, ha.gs t⟩) (fun k _ => ha.mem k) (fun k _ => ha.gr k) ha.nt
  have hf' := List.pairwise_cons.1 hf
  obtain ⟨n1, n2⟩ := nm_of hfo (gs := fs1) hn (by simp) (fun g hg => by simp [hg]) hf'.1
  obtain ⟨τ', e1, e2⟩ := exec2_alike h2 (app_alike hfo.wf ha n1) n2 hf'.2
  exact ⟨τ', by simp only [exec2, hd', e1], e2⟩
theorem moveFront2 {P : Program} {K : Kn} {i : Nat} {o : Oper} {L2 : List (Nat × Oper)} : ∀ {L1 : List (Nat × Oper)} {s τ : St} {obs : List Ob} {fs1 : List Foot} {f : Foot} {fs2 : List Foot},
  exec2 A T cs H X all (L1 ++ (i, o) :: L2) s = some (τ, obs, fs1 ++ f :: fs2) → fs1.length = L1.length → NM s (ds (fs1 ++ f :: fs2)) → Ord (fs1 ++ f :: fs2) → (∀ g ∈ fs1, comm g f = true) →
  ∃ δ ob, delta2 A T cs H (X i) all i o s = some (δ, ob, f) ∧ ∃ τ' obs', exec2 A T cs H X all (L1 ++ L2) (s.app δ) = some (τ', obs', fs1 ++ fs2) ∧ Alike τ' τ ∧ (AO P K obs → AO P K ob ∧ AO P K obs')
 | [], s, τ, obs, fs1, f, fs2, h, hl, hn, hF, hc => by
  have : fs1 = [] := List.eq_nil_of_length_eq_zero hl
  subst this
  obtain ⟨δ, ob, f', r', h1, h2, h3⟩ := exec2_cons h
  obtain ⟨τ1, obs1, fs1⟩ := r'
  simp only [List.nil_append, Prod.mk.injEq, List.cons.injEq] at h3
  obtain ⟨rfl, rfl, rfl, rfl⟩ := h3
  exact ⟨δ, ob, h1, τ, obs1, h2, ⟨rfl, fun _ => rfl, fun _ => rfl, fun _ => rfl, fun _ => rfl⟩, fun ha => AO.app.1 ha⟩
 | (j, oj) :: L1, s, τ, obs, fs1, f, fs2, h, hl, hn, hF, hc => by
  cases fs1 with
  | nil => cases hl
  | cons fj fs1 =>
   obtain ⟨δj, obj, fj', r', h1, h2, h3⟩ := exec2_cons h
   obtain ⟨τ1, obs1, fsr⟩ := r'
   simp only [List.cons_append, Prod.mk.injEq, List.cons.injEq] at h3
   obtain ⟨rfl, rfl, rfl, rfl⟩ := h3
   have hfj := delta2_foot h1
   have hF' := List.pairwise_cons.1 hF
   obtain ⟨n1, n2⟩ := nm_of hfj (gs := fs1 ++ f :: fs2) hn (by simp) (fun g hg => by simp only [List.cons_append, List.mem_cons]; exact .inr hg) hF'.1
   obtain ⟨δ, ob, g1, τ', obs', g2, g3, g4⟩ := moveFront2 (P := P) (L1 := L1) h2 (by simpa using hl) n2 hF'.2 (fun g hg => hc g (by simp [hg]))
   have hcm := hc fj (by simp)
   simp only [comm, Bool.and_eq_true] at hcm
   obtain ⟨⟨⟨⟨⟨⟨⟨⟨⟨c0, c1⟩, c2⟩, c3⟩, c4⟩, c5⟩, c6⟩, c7⟩, c8⟩, c9⟩ := hcm
   have hf := delta2_foot g1
   have hFf := List.pairwise_append.1 hF'.2
   have hin : ∀ g ∈ fs1 ++ fs2, g ∈ fs1 ++ f :: fs2 := fun g hg => by
    rcases List.mem_append.1 hg with hg | hg
    ·exact List.mem_append_left _ hg
    exact List.mem_append_right _ (List.mem_cons_of_mem _ hg)
   have hq : ∀ g ∈ fj :: (fs1 ++ fs2), disj (dl g.d) f.qs = true := by
    intro g hg
    rcases List.mem_cons.1 hg with rfl | hg
    ·exact c0
    rcases List.mem_append.1 hg with hg | hg
    ·have := hc g (by simp [hg])
     simp only [comm, Bool.and_eq_true] at this
     exact this.1.1.1.1.1.1.1.1.1
    exact (List.pairwise_cons.1 hFf.2.1).1 g hg
   -- i at s
   obtain ⟨a1, a2, a3⟩ := ag_app hfj n1 (g := f) (disj_ok c1) (disj_ok c4) (disj_ok c7)
   have d1 : delta2 A T cs H (X i) all i o s = some (δ, ob, f) := delta2_local g1 (fun t ht => ⟨(a1 t ht).1.symm, (a1 t ht).2.symm⟩) (fun k hk => (a2 k hk).symm) (fun k hk => (a3 k hk).symm) app_nt
   obtain ⟨m1, m2⟩ := nm_of hf (gs := fj :: (fs1 ++ fs2)) hn (by simp) (fun g hg => by
    rcases List.mem_cons.1 hg with rfl | hg
    ·simp
    simp only [List.cons_append, List.mem_cons]; exact .inr (hin g hg)) hq
   -- j behind i
   obtain ⟨b1, b2, b3⟩ := ag_app hf m1 (g := fj) (disj_ok c2) (disj_ok c5) (disj_ok c8)
   have d2 : delta2 A T cs H (X j) all j oj (s.app δ) = some (δj, obj, fj) := delta2_local h1 b1 b2 b3 app_nt.symm
   -- the two orders come to the same
   have sw : Alike ((s.app δj).app δ) ((s.app δ).app δj) := by
    refine app_swap hfj.wf hf.wf n1 m1 (n2.sub fun d hd => ds_mem (g := f) (by simp) (by rw [hf.d]; exact hd)) (m2.sub fun d hd => ds_mem (g := fj) (by simp) (by rw [hfj.d]; exact hd)) (fun t ht ht' => ?_) (fun k b b' e1 e2 => ?_) (fun k b k' b' e1 e2 he => ?_)
    ·exact disj_ok c3 t (by rw [hfj.d]; simp only; rw [ht]; simp [dl]) (by rw [hf.d]; simp only; rw [ht']; simp [dl])
    ·exact disj_ok c6 k (hfj.wk k b e1) (hf.wk k b' e2)
    subst he; exact disj_ok c9 k (hfj.wg k b e1) (hf.wg k b' e2)
   obtain ⟨nn1, nn2⟩ := nm_of hf (gs := fs1 ++ fs2) n2 (by simp) hin (fun g hg => hq g (List.mem_cons_of_mem _ hg))
   obtain ⟨τ'', e1, e2⟩ := exec2_alike g2 sw nn2 (hF'.2.sublist (List.Sublist.append_left (List.sublist_cons_self _ _) _))
   refine ⟨δ, ob, d1, τ'', obj ++ obs', ?_, e2.symm.trans g3, fun ha => ?_⟩
   ·simp only [List.cons_append, exec2, d2, e1]
   obtain ⟨p1, p2⟩ := AO.app.1 ha
   obtain ⟨p3, p4⟩ := g4 p2
   exact ⟨p3, AO.app.2 ⟨p1, p4⟩⟩
end
section
variable {C : Cx} {P : Program} {Q : Exit → Act → World → Prop} {T : List (Nat × TI)} {cs : List (Nat × CS)} {H : Hand} {ops : Array Oper} {all : List Oper}
theorem delta2_ok {s : St} {a : Act} {w : World} {K : Act → World → Prop} (hT : TabOK P T) {i : Nat} {o : Oper} (hH : HandOK C P all H) (hio : all[i]? = some o) (hall : ops = all.toArray) (h : Fits C s a w) (hs : ∀ x, ∃ r, delta2 std T cs H x all i o s = some r ∧ AO P C.K r.2.1)
  (hK : ∀ x r a' w', delta2 std T cs H x all i o s = some r → Fits C (s.app r.1) a' w' → K a' w') : if Region.wanted o (yielded ops a.tmps) then o.wp P a w K Q else K (a.put o.dst Go.undef) w := by
 have plain : (∀ x, delta2 std T cs H x all i o s = delta std T cs x all i o s) → if Region.wanted o (yielded ops a.tmps) then o.wp P a w K Q else K (a.put o.dst Go.undef) w := fun e =>
  delta_ok hT hall h (fun x => by rw [← e]; exact hs x) fun x r a' w' hr => hK x r a' w' (by rw [e]; exact hr)
 cases hh : H with
 | none => exact plain fun x => by rw [hh]; rfl
 | some y =>
  obtain ⟨j, xs, args, v⟩ := y
  by_cases hj : (j == i) = true
  ·obtain ⟨r, hr, hob⟩ := hs ⟨0, fun _ => none, fun _ => 0, fun _ => .empty⟩
   have hr0 := hr
   unfold delta2 at hr
   rw [hh] at hr
   simp only at hr
   rw [if_pos hj] at hr
   split at hr
   ·rename_i l hg hv hi
    injection hr with hr; subst hr
    have hl : l = args := hob.1
    subst hl
    have hji : j = i := by simpa using hj
    subst hji
    have hw : Region.wanted o (yielded ops a.tmps) = true := by simp [Region.wanted, hg]
    rw [if_pos hw]
    obtain ⟨g1, g2⟩ := hH _ _ _ _ hh o hio s a w h hv
    exact wp_value g1 (hK _ _ _ _ hr0 (h.put o.dst (inNt_lt hi) v (fun _ => g2) v.den fun _ => rfl))
   cases hr
  exact plain fun x => by
   unfold delta2
   rw [hh]
   simp only
   rw [if_neg hj]
theorem any2_ok {tb : List Nat} (hT : TabOK P T) (hops : ops = all.toArray) (htb : ∀ i j, edge tb i j = true → WaitsFor all i j) (hH : HandOK C P all H) {n0 : Nat} {zo : List Oper} (hz1 : zo.length ≤ 1) (hz2 : ∀ k o, ops[k]? = some o → k < n0 ∨ (k = n0 ∧ zo = [o])) (hz3 : ∀ o, zo = [o] → ops[n0]? = some o ∧ (∀ j, j < n0 → ∃ e ∈ o.after.toList, Region.binds .any e = true ∧ e.on = j) ∧ ∀ e ∈ o.after.toList, Region.binds .any e = true → e.on < n0) (hz4 : n0 ≤ ops.size) : ∀ (n : Nat) (L : List (Nat × Oper)) (fs : List Foot) (listed : Array Bool) (s : St) (a : Act) (w : World), L.length = n → Fits C s a w → NM s (ds fs) → Ord fs → Paired tb L fs → (∀ k o, all[k]? = some o → listed.getD k false = true → ∀ e ∈ o.after.toList, Region.binds .any e = true → listed.getD e.on false = true) →
  L.Pairwise (fun x y => x.1 < y.1) → (∀ x ∈ L, ops[x.1]? = some x.2 ∧ listed.getD x.1 true = false) → (∀ k o, k < n0 → ops[k]? = some o → listed.getD k true = false → (k, o) ∈ L) → (∀ o, zo = [o] → listed.getD n0 true = false) → (∀ x ∈ L, x.1 < n0) → listed.size = ops.size →
  (∀ x ∈ L, ∀ e ∈ x.2.after.toList, Region.binds .any e = true → e.on < x.1) →
  (∀ X, ∃ τ obs, exec2 std T cs H X all L s = some (τ, obs, fs) ∧ AO P C.K obs ∧ ∀ a' w', Fits C τ a' w' → wpList P ops Q zo a' w') → wpAny P .any ops Q (n + zo.length) listed a w
 | 0, L, fs, listed, s, a, w, hn, h, hNM, hF, hP, hDC, hsr, hL, hA, hZ, hLn, hsz, hE, hs => by
  have : L = [] := List.eq_nil_of_length_eq_zero hn
  subst this
  have all0 : ∀ k, k < n0 → listed.getD k false = true := by
   intro k hk
   by_cases hl : listed.getD k false = true
   ·exact hl
   have := hA k _ hk (Array.getElem?_eq_getElem (by omega)) (getD_ft (by rw [hsz]; omega) hl)
   cases this
  obtain ⟨τ, obs, e1, _, e2⟩ := hs (fun _ => ⟨0, fun _ => none, fun _ => 0, fun _ => .empty⟩)
  simp only [exec2, Option.some.injEq, Prod.mk.injEq] at e1
  obtain ⟨rfl, _⟩ := e1
  have hfin := e2 a w h
  match zo, hz1, hz2, hz3, hZ, hfin with
  | [], _, hz2, _, _, hfin =>
   refine ⟨?_, hfin⟩
   cases hr : Region.ready .any ops listed with
   | nil => rfl
   | cons i r =>
    obtain ⟨h1, o, h2, _⟩ := mem_ready.1 (hr ▸ List.mem_cons_self : i ∈ Region.ready .any ops listed)
    rcases hz2 i o h2 with hi | ⟨_, hi⟩
    ·cases hA i o hi h2 h1
    cases hi
  | [o], _, hz2, hz3, hZ, hfin =>
   obtain ⟨g1, g2, g3⟩ := hz3 o rfl
   refine ⟨fun hr => ?_, fun i hi => ?_⟩
   ·exfalso
    have : n0 ∈ Region.ready .any ops listed := mem_ready.2 ⟨hZ o rfl, o, g1, fun e he hb => all0 _ (g3 e (by simpa using he) hb)⟩
    rw [hr] at this; cases this
   obtain ⟨h1, o', h2, h3⟩ := mem_ready.1 hi
   rcases hz2 i o' h2 with hi' | ⟨hi', ho'⟩
   ·cases hA i o' hi' h2 h1
   injection ho' with ho' _
   subst ho'; subst hi'
   have fin : ∀ a w, wpList P ops Q [] a w → wpAny P .any ops Q 0 (listed.setIfInBounds i true) a w := by
    intro a w hq
    refine ⟨?_, hq⟩
    cases hr : Region.ready .any ops (listed.setIfInBounds i true) with
    | nil => rfl
    | cons k r =>
     obtain ⟨k1, ok, k2, _⟩ := mem_ready.1 (hr ▸ List.mem_cons_self : k ∈ Region.ready .any ops (listed.setIfInBounds i true))
     rcases hz2 k ok k2 with hk | ⟨hk, _⟩
     ·rw [getD_set_ne true (by omega)] at k1
      cases hA k ok hk k2 k1
     subst hk
     have hlt : k < listed.size := by rw [hsz]; exact (Array.getElem?_eq_some_iff.1 h2).1
     simp [Array.getD_eq_getD_getElem?, hlt] at k1
   unfold wpOp
   simp only [h2]
   unfold wpList at hfin
   by_cases hw : Region.wanted o (yielded ops a.tmps) = true
   ·rw [if_pos hw] at hfin ⊢
    exact hfin.imp (Oper.wp_mono fin) id
   rw [if_neg hw] at hfin ⊢
   exact fin _ _ hfin
  | _ :: _ :: _, hz1, _, _, _, _ => simp at hz1
 | n + 1, L, fs, listed, s, a, w, hn, h, hNM, hF, hP, hDC, hsr, hL, hA, hZ, hLn, hsz, hE, hs => by
  rw [show n + 1 + zo.length = (n + zo.length) + 1 by omega]
  refine ⟨fun hr => ?_, fun i hi => ?_⟩
  ·-- the first one that is left may come up
   exfalso
   cases L with
   | nil => cases hn
   | cons x L =>
    obtain ⟨i0, o0⟩ := x
    obtain ⟨h1, h2⟩ := hL (i0, o0) (by simp)
    have : i0 ∈ Region.ready .any ops listed := mem_ready.2 ⟨h2, o0, h1, fun e he hb => by
     have hlt := hE (i0, o0) (by simp) e (by simpa using he) hb
     simp only at hlt
     have hi0 : i0 < ops.size := (Array.getElem?_eq_some_iff.1 h1).1
     have hon : e.on < listed.size := by rw [hsz]; omega
     by_cases hl : listed.getD e.on false = true
     ·exact hl
     exfalso
     have hm := hA e.on _ (by have := hLn (i0, o0) (by simp); simp only at this; omega) (Array.getElem?_eq_getElem (by omega)) (getD_ft hon hl)
     rcases List.mem_cons.1 hm with he' | hm
     ·injection he' with he'; omega
     have := (List.pairwise_cons.1 hsr).1 _ hm
     simp only at this; omega⟩
    rw [hr] at this
    cases this
  obtain ⟨h1, o, h2, h3⟩ := mem_ready.1 hi
  have hi0 : i < n0 := by
   rcases hz2 i o h2 with hi0 | ⟨rfl, ho⟩
   ·exact hi0
   exfalso
   cases L with
   | nil => cases hn
   | cons x L =>
    obtain ⟨_, g2, _⟩ := hz3 o ho
    obtain ⟨e, q1, q2, q3⟩ := g2 x.1 (hLn x (by simp))
    have q4 := h3 e (by simpa using q1) q2
    have q5 := (hL x (by simp)).2
    rw [q3, getD_tf q5] at q4
    cases q4
  have hio : all[i]? = some o := by rw [hops] at h2; simpa using h2
  have hin := hA i o hi0 h2 h1
  obtain ⟨L1, L2, rfl⟩ := List.append_of_mem hin
  obtain ⟨fs1, f, fs2, hlen, rfl⟩ : ∃ fs1 f fs2, fs1.length = L1.length ∧ fs = fs1 ++ f :: fs2 := by
   have hl := hP.1
   simp only [List.length_append, List.length_cons] at hl
   have hlt : L1.length < fs.length := by omega
   refine ⟨fs.take L1.length, fs[L1.length], fs.drop (L1.length + 1), by simp; omega, ?_⟩
   rw [← List.drop_eq_getElem_cons hlt, List.take_append_drop]
  obtain ⟨hP1, hcm⟩ := pairsB_del hlen hP.2
  have hcomm : ∀ g ∈ fs1, comm g f = true := by
   intro g hg
   obtain ⟨k, hk⟩ := List.getElem?_of_mem hg
   have hkl : k < L1.length := by rw [← hlen]; exact (List.getElem?_eq_some_iff.1 hk).1
   rcases hcm k _ g (List.getElem?_eq_getElem hkl) hk with he | he
   ·exfalso
    have h5 := (hL L1[k] (List.mem_append_left _ (List.getElem_mem hkl))).2
    have hr := htb _ _ he
    have dc : ∀ {i j : Nat}, WaitsFor all i j → (∀ o e, all[i]? = some o → e ∈ o.after.toList → Region.binds .any e = true → listed.getD e.on false = true) → listed.getD j false = true := by
     intro i j hr
     induction hr with
     | one h1 h2 h3 h4 => intro hi; rw [← h4]; exact hi _ _ h1 h2 h3
     | more h1 h2 h3 h4 ih => intro hi; exact ih fun o e g1 g2 g3 => hDC _ o g1 (hi _ _ h1 h2 h3) e g2 g3
    have h4 := dc hr fun o' e g1 g2 g3 => by
     have : o' = o := by
      have e1 : ops[i]? = some o' := by rw [hops]; simpa using g1
      rw [h2] at e1; injection e1 with e1; exact e1.symm
     subst this
     exact h3 e (by simpa using g2) g3
    rw [getD_tf h5] at h4
    cases h4
   exact he
  have mf : ∀ X, ∃ δ ob, delta2 std T cs H (X i) all i o s = some (δ, ob, f) ∧ AO P C.K ob ∧ ∃ τ' obs', exec2 std T cs H X all (L1 ++ L2) (s.app δ) = some (τ', obs', fs1 ++ fs2) ∧ AO P C.K obs' ∧ ∀ a' w', Fits C τ' a' w' → wpList P ops Q zo a' w' := by
   intro X
   obtain ⟨τ, obs, e1, e2, e3⟩ := hs X
   obtain ⟨δ, ob, g1, τ', obs', g2, g3, g4⟩ := moveFront2 (P := P) e1 hlen hNM hF hcomm
   exact ⟨δ, ob, g1, (g4 e2).1, τ', obs', g2, (g4 e2).2, fun a' w' hf => e3 a' w' (hf.alike g3)⟩
  have hsrt : (L1 ++ L2).Pairwise (fun x y => x.1 < y.1) := hsr.sublist (List.Sublist.append_left (List.sublist_cons_self _ _) _)
  have hnot : ∀ x ∈ L1 ++ L2, x.1 ≠ i := by
   intro x hx
   rw [List.pairwise_append] at hsr
   obtain ⟨p1, p2, p3⟩ := hsr
   rcases List.mem_append.1 hx with hx | hx
   ·have := p3 x hx (i, o) (by simp); simp only at this; omega
   have := (List.pairwise_cons.1 p2).1 x hx; simp only at this; omega
  have key := delta2_ok (C := C) (K := fun a' w' => wpAny P .any ops Q (n + zo.length) (listed.setIfInBounds i true) a' w') (Q := Q) (cs := cs) (i := i) (o := o) hT hH hio hops h (fun x => by
   obtain ⟨δ, ob, g1, g2, _⟩ := mf (fun _ => x)
   exact ⟨_, g1, g2⟩) (fun x r a' w' hr hf => by
   have hfo := delta2_foot hr
   obtain ⟨δ, ob, f'⟩ := r
   obtain ⟨δ0, ob0, g0, _⟩ := mf (fun _ => x)
   rw [hr] at g0
   injection g0 with g0; injection g0 with q1 q2; injection q2 with q2 q3
   subst q1; subst q2; subst q3
   have hinF : ∀ g ∈ fs1 ++ fs2, g ∈ fs1 ++ f' :: fs2 := fun g hg => by
    rcases List.mem_append.1 hg with hg | hg
    ·exact List.mem_append_left _ hg
    exact List.mem_append_right _ (List.mem_cons_of_mem _ hg)
   obtain ⟨n1, n2⟩ := nm_of hfo (gs := fs1 ++ fs2) hNM (by simp) hinF (fun g hg => by
    rcases List.mem_append.1 hg with hg | hg
    ·have := hcomm g hg
     simp only [comm, Bool.and_eq_true] at this
     exact this.1.1.1.1.1.1.1.1.1
    exact (List.pairwise_cons.1 (List.pairwise_append.1 hF).2.1).1 g hg)
   refine any2_ok hT hops htb hH hz1 hz2 hz3 hz4 n (L1 ++ L2) (fs1 ++ fs2) (listed.setIfInBounds i true) (s.app δ) a' w' ?_ hf n2 ?_ ?_ ?_ hsrt ?_ ?_ (fun o' ho' => by rw [getD_set_ne true (by omega)]; exact hZ o' ho') ?_ (by simpa using hsz) ?_ ?_
   ·simp at hn ⊢; omega
   ·exact hF.sublist (List.Sublist.append_left (List.sublist_cons_self _ _) _)
   ·refine ⟨?_, hP1⟩
    have := hP.1
    simp at this ⊢; omega
   ·intro k ok hk hu e he hb
    by_cases hki : k = i
    ·subst hki
     have : ok = o := by
      have e1 : ops[k]? = some ok := by rw [hops]; simpa using hk
      rw [h2] at e1; injection e1 with e1; exact e1.symm
     subst this
     have hl := h3 e (by simpa using he) hb
     by_cases hei : e.on = k
     ·have := hE (k, ok) hin e he hb
      simp only at this; omega
     rw [getD_set_ne false (fun e' => hei e'.symm)]; exact hl
    rw [getD_set_ne false (fun e' => hki e'.symm)] at hu
    have hl := hDC k ok hk hu e he hb
    by_cases hei : e.on = i
    ·rw [hei] at hl
     have h5 := (hL (i, o) hin).2
     simp only at h5
     rw [getD_tf h5] at hl; cases hl
    rw [getD_set_ne false (fun e' => hei e'.symm)]; exact hl
   ·intro x' hx
    have hx' : x' ∈ L1 ++ (i, o) :: L2 := by
     rcases List.mem_append.1 hx with hx | hx
     ·exact List.mem_append_left _ hx
     exact List.mem_append_right _ (List.mem_cons_of_mem _ hx)
    obtain ⟨e1, e2⟩ := hL x' hx'
    refine ⟨e1, ?_⟩
    rw [getD_set_ne true (fun e => hnot x' hx e.symm)]
    exact e2
   ·intro k ok hkn hk hu
    by_cases hki : k = i
    ·subst hki
     have hlt : k < listed.size := by rw [hsz]; exact (Array.getElem?_eq_some_iff.1 h2).1
     simp [Array.getD_eq_getD_getElem?, hlt] at hu
    rw [getD_set_ne true (fun e => hki e.symm)] at hu
    have := hA k ok hkn hk hu
    rcases List.mem_append.1 this with hx | hx
    ·exact List.mem_append_left _ hx
    rcases List.mem_cons.1 hx with hx | hx
    ·injection hx with hx; exact absurd hx hki
    exact List.mem_append_right _ hx
   ·intro x' hx
    refine hLn x' ?_
    rcases List.mem_append.1 hx with hx | hx
    ·exact List.mem_append_left _ hx
    exact List.mem_append_right _ (List.mem_cons_of_mem _ hx)
   ·intro x' hx
    refine hE x' ?_
    rcases List.mem_append.1 hx with hx | hx
    ·exact List.mem_append_left _ hx
    exact List.mem_append_right _ (List.mem_cons_of_mem _ hx)
   intro X
   obtain ⟨Y, hY, hYX⟩ : ∃ Y : Nat → Atom, Y i = x ∧ ∀ j, j ≠ i → Y j = X j := ⟨fun j => if j = i then x else X j, by simp, fun j hj => by simp [hj]⟩
   obtain ⟨δ1, ob1, g1, _, τ', obs', g2, g3, g4⟩ := mf Y
   rw [hY, hr] at g1
   injection g1 with g1; injection g1 with q1 _
   subst q1
   rw [exec2_congr _ _ (fun x' hx => hYX x'.1 (hnot x' hx))] at g2
   exact ⟨τ', obs', g2, g3, g4⟩)
  unfold wpOp
  simp only [h2]
  by_cases hw : Region.wanted o (yielded ops a.tmps) = true
  ·rw [if_pos hw] at key ⊢
   exact .inl key
  rw [if_neg hw] at key ⊢
  exact key
def tailB (all : List Oper) (n0 : Nat) : Bool := Nat.ble n0 all.length && (match all.drop n0 with
 | [] => true
 | [o] => (List.range n0).all (fun j => o.after.toList.any fun e => Region.binds .any e && e.on == j) && o.after.toList.all (fun e => !(Region.binds .any e) || Nat.blt e.on n0)
 | _ => false)
theorem drawn2_ok {s : St} {a : Act} {w : World} {id : Nat} {all : List Oper} (n0 : Nat) (H : Hand) (hH : HandOK C P all H) (hm : P.follows .mixedOrders = true) (hT : TabOK P T) (kp km : List Nat) (cs : List (Nat × CS)) (h : Fits C s a w) (hgs : s.gs = []) (fs : List Foot) (hD : drawB (all.take n0) fs = true) (hZ : tailB all n0 = true) (hlen : (all.take n0).length = fs.length)
  {R : Alg → (Nat → Atom) → St × List Ob}
  (hex : ∀ A X, (exec2 A T cs H X all (number 0 (all.take n0)) s).map (fun r => ((r.1.keep kp km, r.2.1), r.2.2)) = some (R A X, fs)) (hob : ∀ X, AO P C.K (R std X).2) (hQ : ∀ X a' w', Fits C (R std X).1 a' w' → wpList P all.toArray Q (all.drop n0) a' w') : (Code.region id all.toArray true).wp P Q a w := by
 simp only [drawB, Bool.and_eq_true] at hD
 obtain ⟨⟨d1, d2⟩, d3⟩ := hD
 simp only [tailB, Bool.and_eq_true, Nat.ble_eq] at hZ
 obtain ⟨hn0, hZ⟩ := hZ
 refine wp_region_any hm ?_
 have hf : Fits C s a { w with drawn := w.drawn + 1 } := h.world (fun _ _ _ => rfl) (fun _ _ _ _ _ => rfl) ⟨h.chg.os, h.chg.tape, h.chg.output, h.chg.size, h.chg.block⟩ (fun _ _ _ hc _ => hc) (fun _ _ h _ => h)
 have hnl : ∀ (l : List Oper) (i : Nat), (number i l).length = l.length := by
  intro l
  induction l with
  | nil => intro i; rfl
  | cons o l ih => intro i; simp [number, ih]
 have htk : (all.take n0).length = n0 := by simp; omega
 have hzl : (all.drop n0).length ≤ 1 := by
  revert hZ
  cases all.drop n0 with
  | nil => intro _; simp
  | cons x l => cases l with
   | nil => intro _; simp
   | cons y l => intro h; cases h
 have hsz : all.toArray.size = (number 0 (all.take n0)).length + (all.drop n0).length := by rw [hnl, htk]; simp; omega
 have hgt : ∀ {k o}, (all.take n0)[k]? = some o → all[k]? = some o ∧ k < n0 := by
  intro k o hk
  have hlt := (List.getElem?_eq_some_iff.1 hk).1
  rw [htk] at hlt
  rw [List.getElem?_take, if_pos hlt] at hk
  exact ⟨hk, hlt⟩
 have hlst : ∀ k (b : Bool), k < all.length → (Array.replicate all.toArray.size false).getD k b = false := by
  intro k b hk
  have : k < all.toArray.size := by simpa using hk
  simp [Array.getD_eq_getD_getElem?, hk]
 have hsz0 : all.toArray.size = all.length := by simp
 have hmk : ∀ i j, edge (masks (all.take n0) []) i j = true → WaitsFor all i j := by
  intro i j hij
  have := masks_ok (all := all.take n0) (l := all.take n0) (tb := []) rfl (fun i j h => by simp at h) i j hij
  have conv : ∀ {i j}, WaitsFor (all.take n0) i j → WaitsFor all i j := by
   intro i j hw
   induction hw with
   | one h1 h2 h3 h4 => exact .one (hgt h1).1 h2 h3 h4
   | more h1 h2 h3 h4 ih => exact .more (hgt h1).1 h2 h3 ih
  exact conv this
 rw [hsz]
 refine any2_ok (cs := cs) (all := all) (tb := masks (all.take n0) []) hT rfl hmk hH (n0 := n0) (zo := all.drop n0) hzl ?_ ?_ (by simpa using hn0) _ (number 0 (all.take n0)) fs _ s a _ rfl hf (fun t p v hl => by rw [hgs] at hl; cases hl) ?_ ⟨by rw [hnl]; exact hlen, d1⟩ ?_ (number_sorted _ 0) ?_ ?_ ?_ ?_ ?_ ?_ ?_
 ·intro k o hk
  have hk' : all[k]? = some o := by simpa using hk
  have hlt := (List.getElem?_eq_some_iff.1 hk').1
  by_cases hkn : k < n0
  ·exact .inl hkn
  right
  have h1 : (all.drop n0)[k - n0]? = some o := by rw [List.getElem?_drop]; rw [show n0 + (k - n0) = k by omega]; exact hk'
  have h2 := (List.getElem?_eq_some_iff.1 h1).1
  have h3 : k = n0 := by omega
  subst h3
  refine ⟨rfl, ?_⟩
  revert hzl h1
  generalize all.drop k = dl
  intro hzl h1
  match dl, hzl, h1 with
  | [x], _, h1 => simp at h1; rw [h1]
  | [], _, h1 => simp at h1
  | _ :: _ :: _, hzl, _ => simp at hzl
 ·intro o ho
  rw [ho] at hZ
  simp only [Bool.and_eq_true] at hZ
  refine ⟨?_, fun j hj => ?_, fun e he hb => ?_⟩
  ·have : (all.drop n0)[0]? = some o := by rw [ho]; rfl
   rw [List.getElem?_drop] at this
   simpa using this
  ·have := List.all_eq_true.1 hZ.1 j (List.mem_range.2 hj)
   obtain ⟨e, he, hb⟩ := List.any_eq_true.1 this
   simp only [Bool.and_eq_true, beq_iff_eq] at hb
   exact ⟨e, he, hb.1, hb.2⟩
  have := List.all_eq_true.1 hZ.2 e he
  simpa [hb] using this
 ·exact ordB_ok d3
 ·intro k o hk hu
  exfalso
  rw [← hsz, hlst k false (List.getElem?_eq_some_iff.1 hk).1] at hu
  cases hu
 ·intro x hx
  obtain ⟨h1, h2⟩ := number_get hx
  rw [Nat.sub_zero] at h2
  obtain ⟨h3, _⟩ := hgt h2
  exact ⟨by simpa using h3, by rw [← hsz]; exact hlst _ _ (List.getElem?_eq_some_iff.1 h3).1⟩
 ·intro k o hkn hk _
  have hk' : (all.take n0)[k]? = some o := by rw [List.getElem?_take, if_pos hkn]; simpa using hk
  have := number_mem (i := 0) (l := all.take n0) (k := k) (o := o) hk'
  rwa [Nat.zero_add] at this
 ·intro o ho
  have : (all.drop n0).length = 1 := by rw [ho]; rfl
  rw [← hsz]
  exact hlst _ _ (by simp at this; omega)
 ·intro x hx
  obtain ⟨h1, h2⟩ := number_get hx
  rw [Nat.sub_zero] at h2
  exact (hgt h2).2
 ·rw [← hsz]; simp
 ·have ed : ∀ (L : List (Nat × Oper)), edgesB L = true → ∀ x ∈ L, ∀ e ∈ x.2.after.toList, Region.binds .any e = true → e.on < x.1 := by
   intro L
   induction L with
   | nil => intro _ x hx; cases hx
   | cons y L ih =>
    obtain ⟨i, o⟩ := y
    intro hL x hx e he hb
    simp only [edgesB, Bool.and_eq_true] at hL
    rcases List.mem_cons.1 hx with rfl | hx
    ·have := List.all_eq_true.1 hL.1 e he
     simpa [hb] using this
    exact ih hL.2 x hx e he hb
  exact ed _ d2
 intro X
 obtain ⟨r, hr, e⟩ := Option.map_eq_some_iff.1 (hex std X)
 obtain ⟨τ, obs, fs'⟩ := r
 simp only [Prod.mk.injEq] at e
 obtain ⟨e1, rfl⟩ := e
 refine ⟨τ, obs, hr, ?_, fun a' w' hf' => hQ X a' w' ?_⟩
 ·have := hob X; rw [← e1] at this; exact this
 rw [← e1]; exact hf'.keep kp km
theorem drawn2_okB {s : St} {a : Act} {w : World} {id : Nat} {all : List Oper} {B : Alg} (hB : B = std) (n0 : Nat) (H : Hand) (hH : HandOK C P all H) (hm : P.follows .mixedOrders = true) (hT : TabOK P T) (kp km : List Nat) (cs : List (Nat × CS)) (h : Fits C s a w) (hgs : s.gs = []) (fs : List Foot) (hD : drawB (all.take n0) fs = true) (hZ : tailB all n0 = true) (hlen : (all.take n0).length = fs.length)
  {R : Alg → (Nat → Atom) → St × List Ob}
  (hex : ∀ A X, (exec2 A T cs H X all (number 0 (all.take n0)) s).map (fun r => ((r.1.keep kp km, r.2.1), r.2.2)) = some (R A X, fs)) (hob : ∀ X, AO P C.K (R B X).2) (hQ : ∀ X a' w', Fits C (R B X).1 a' w' → wpList P all.toArray Q (all.drop n0) a' w') : (Code.region id all.toArray true).wp P Q a w := by
 subst hB
 exact drawn2_ok n0 H hH hm hT kp km cs h hgs fs hD hZ hlen hex hob hQ
end
end Go.Proofs.YtpgjalaldhlcoaaGreat.Sym
namespace Go.Proofs.YtpgjalaldhlcoaaGreat
open Go.RowKit Sym
def app {α : Type} (l : List α) : Dec (List α) → Dec (List α)
 | .error e => .error e
 | .ok (r, s) => .ok (l ++ r, s)
def fin (r : Rec) (rest : List UInt8) : Except Int Rec := if rest = [] then .ok r else .error 3
def Res.err {α : Type} : Except Int α → Int
 | .error e => e
 | .ok _ => 0
section
variable {m k : Nat} {p : Option Int} {s r r2 t : List UInt8} {e : Int}
end
def firsts (f : Nat → Itm) (i : Nat) : List Itm := (List.range i).map f
def fSet (f : Nat → Itm) (i : Nat) (x : Itm) : Nat → Itm := fun t => if t = i then x else f t
theorem firsts_set (f : Nat → Itm) (i : Nat) (x : Itm) : firsts (fSet f i x) (i + 1) = firsts f i ++ [x] := by
 unfold firsts
 rw [List.range_succ, List.map_append]
 congr 1
 ·apply List.map_congr_left
  intro t ht
  have := List.mem_range.1 ht
  simp [fSet, show ¬ t = i by omega]
 simp [fSet]
theorem firsts_len (f : Nat → Itm) (i : Nat) : (firsts f i).length = i := by simp [firsts]
theorem firsts_get (f : Nat → Itm) (n : Nat) : ∀ t, t < n → itF (firsts f n) t = f t := by
 intro t ht
 simp [itF, firsts, List.getD, ht]
structure RN where
 n : Nat
 f : Nat → Itm
 kd : Int
 nx : Lab
 mrk : Int
def RN.abs (r : RN) : Rec := ⟨r.kd, firsts r.f r.n, r.nx, r.mrk⟩
def Rec.rn (r : Rec) : RN := ⟨r.items.length, itF r.items, r.kind, r.next, r.mark⟩
theorem firsts_itF' (l : List Itm) : firsts (itF l) l.length = l := by
 apply List.ext_getElem
 ·simp [firsts]
 intro i h1 h2
 simp [firsts, itF, List.getD, h2]
theorem rn_abs (r : Rec) : r.rn.abs = r := by
 obtain ⟨k, l, nx, mk⟩ := r
 simp only [Rec.rn, RN.abs, firsts_itF']
theorem okF_congr' {f g : Nat → Itm} {n : Nat} (h : ∀ t, t < n → f t = g t) : okF f n = okF g n := by
 unfold okF
 rw [Bool.eq_iff_iff, List.all_eq_true, List.all_eq_true]
 have e : ∀ t, t < n → okAt f t = okAt g t := fun t ht => by
  unfold okAt
  rw [h t ht, h (t - 1) (by omega)]
 constructor
 ·intro h1 t ht; rw [← e t (List.mem_range.1 ht)]; exact h1 t ht
 intro h1 t ht; rw [e t (List.mem_range.1 ht)]; exact h1 t ht
theorem isR_abs (r : RN) : isR r.abs = isRF r.kd r.n r.f r.nx r.mrk := by
 unfold isR RN.abs
 simp only [firsts_len]
 rw [isRF_ref, isRF_ref, okF_congr' fun t ht => firsts_get r.f r.n t ht]
structure Spo where
 ver : Int
 has : Bool
 r : Rec
deriving DecidableEq
def zeroSpo : Spo := ⟨0, false, zeroRec⟩
abbrev Shf := List (Lab × Spo)
def lessL (a b : Lab) : Bool := decide (a.bits < b.bits) || (decide (a.bits = b.bits) && decide (a.len < b.len))
theorem lab_ext {a b : Lab} (h1 : a.len = b.len) (h2 : a.bits = b.bits) : a = b := by
 obtain ⟨x, y⟩ := a; obtain ⟨x', y'⟩ := b; simp only at h1 h2; rw [h1, h2]
theorem less_irr (a : Lab) : lessL a a = false := by simp [lessL]
theorem less_trans {a b c : Lab} (h1 : lessL a b = true) (h2 : lessL b c = true) : lessL a c = true := by
 simp only [lessL, Bool.or_eq_true, Bool.and_eq_true, decide_eq_true_eq] at *
 omega
theorem less_total (a b : Lab) : lessL a b = true ∨ a = b ∨ lessL b a = true := by
 simp only [lessL, Bool.or_eq_true, Bool.and_eq_true, decide_eq_true_eq]
 by_cases h1 : a.bits < b.bits
 ·exact .inl (.inl h1)
 by_cases h2 : b.bits < a.bits
 ·exact .inr (.inr (.inl h2))
 by_cases h3 : a.len < b.len
 ·exact .inl (.inr ⟨by omega, h3⟩)
 by_cases h4 : b.len < a.len
 ·exact .inr (.inr (.inr ⟨by omega, h4⟩))
 exact .inr (.inl (lab_ext (by omega) (by omega)))
theorem less_ne {a b : Lab} (h : lessL a b = true) : a ≠ b := by
 rintro rfl; rw [less_irr] at h; cases h
def Rises (L : Shf) : Prop := L.Pairwise fun a b => lessL a.1 b.1 = true
def posL (l : Lab) : Shf → Nat
 | [] => 0
 | p :: L => if lessL p.1 l then posL l L + 1 else 0
def findL (l : Lab) : Shf → Option Spo
 | [] => none
 | p :: L => if p.1 = l then some p.2 else findL l L
def putL (l : Lab) (x : Spo) : Shf → Shf
 | [] => [(l, x)]
 | p :: L => if lessL p.1 l then p :: putL l x L else if p.1 = l then (l, x) :: L else (l, x) :: p :: L
theorem posL_le (l : Lab) : ∀ L : Shf, posL l L ≤ L.length
 | [] => Nat.le_refl _
 | p :: L => by
  unfold posL
  split
  ·have := posL_le l L; simp; omega
  simp
theorem find_of_less {l : Lab} : ∀ {L : Shf}, (∀ p ∈ L, lessL l p.1 = true) → findL l L = none
 | [], _ => rfl
 | p :: L, h => by
  unfold findL
  rw [if_neg (fun e => less_ne (h p (by simp)) e.symm)]
  exact find_of_less fun q hq => h q (by simp [hq])
theorem pos_hit {l : Lab} : ∀ {L : Shf}, Rises L → (∀ p, L[posL l L]? = some p → (if p.1 = l then findL l L = some p.2 else findL l L = none)) ∧ (L[posL l L]? = none → findL l L = none)
 | [], _ => ⟨fun p h => by simp at h, fun _ => rfl⟩
 | p :: L, h => by
  have h' := List.pairwise_cons.1 h
  unfold posL
  by_cases hp : lessL p.1 l = true
  ·rw [if_pos hp]
   obtain ⟨g1, g2⟩ := pos_hit (l := l) h'.2
   simp only [List.getElem?_cons_succ]
   unfold findL
   rw [if_neg (less_ne hp)]
   exact ⟨g1, g2⟩
  rw [if_neg hp]
  simp only [List.getElem?_cons_zero, Option.some.injEq]
  refine ⟨?_, fun h => by cases h⟩
  rintro q rfl
  unfold findL
  by_cases he : p.1 = l
  ·rw [if_pos he, if_pos he]
  rw [if_neg he, if_neg he]
  refine find_of_less fun q hq => ?_
  rcases less_total p.1 l with h1 | h1 | h1
  ·exact absurd h1 hp
  ·exact absurd h1 he
  exact less_trans h1 (h'.1 q hq)
theorem find_put (l : Lab) (x : Spo) (l' : Lab) : ∀ L : Shf, findL l' (putL l x L) = if l = l' then some x else findL l' L
 | [] => by simp [putL, findL]
 | p :: L => by
  unfold putL
  split
  ·rename_i hp
   unfold findL
   rw [find_put l x l' L]
   by_cases h1 : p.1 = l'
   ·rw [if_pos h1, if_pos h1]
    by_cases h2 : l = l'
    ·exact absurd (h1.trans h2.symm) (less_ne hp)
    rw [if_neg h2]
   rw [if_neg h1, if_neg h1]
  split
  ·rename_i _ hp
   unfold findL
   by_cases h2 : l = l'
   ·rw [if_pos h2, if_pos h2]
   rw [if_neg h2, if_neg h2, if_neg (by rw [hp]; exact h2)]
  show (if l = l' then some x else findL l' (p :: L)) = _
  rfl
theorem put_len (l : Lab) (x : Spo) : ∀ {L : Shf}, Rises L → (putL l x L).length = if (findL l L).isSome then L.length else L.length + 1
 | [], _ => rfl
 | p :: L, h => by
  have h' := List.pairwise_cons.1 h
  unfold putL findL
  split
  ·rename_i hp
   rw [if_neg (less_ne hp), List.length_cons, put_len l x h'.2]
   split <;> rfl
  split
  ·rfl
  rename_i hp he
  rw [find_of_less fun q hq => ?_]
  ·rfl
  rcases less_total p.1 l with h1 | h1 | h1
  ·exact absurd h1 hp
  ·exact absurd h1 he
  exact less_trans h1 (h'.1 q hq)
theorem put_mem {l : Lab} {x : Spo} : ∀ {L : Shf} {p : Lab × Spo}, p ∈ putL l x L → p = (l, x) ∨ p ∈ L
 | [], p, h => by simp [putL] at h; exact .inl h
 | q :: L, p, h => by
  unfold putL at h
  split at h
  ·rcases List.mem_cons.1 h with rfl | h
   ·exact .inr (by simp)
   rcases put_mem h with h | h
   ·exact .inl h
   exact .inr (by simp [h])
  split at h
  ·rcases List.mem_cons.1 h with rfl | h
   ·exact .inl rfl
   exact .inr (by simp [h])
  rcases List.mem_cons.1 h with rfl | h
  ·exact .inl rfl
  exact .inr h
theorem put_rises {l : Lab} {x : Spo} : ∀ {L : Shf}, Rises L → Rises (putL l x L)
 | [], _ => List.pairwise_singleton _ _
 | p :: L, h => by
  have h' := List.pairwise_cons.1 h
  unfold putL
  split
  ·rename_i hp
   refine List.pairwise_cons.2 ⟨fun q hq => ?_, put_rises h'.2⟩
   rcases put_mem hq with rfl | hq
   ·exact hp
   exact h'.1 q hq
  rename_i hp
  split
  ·rename_i he
   exact List.pairwise_cons.2 ⟨fun q hq => by simp only; rw [← he]; exact h'.1 q hq, h'.2⟩
  rename_i he
  have hl : lessL l p.1 = true := by
   rcases less_total p.1 l with h1 | h1 | h1
   ·exact absurd h1 hp
   ·exact absurd h1 he
   exact h1
  refine List.pairwise_cons.2 ⟨fun q hq => ?_, h⟩
  rcases List.mem_cons.1 hq with rfl | hq
  ·exact hl
  exact less_trans hl (h'.1 q hq)
theorem put_split (l : Lab) (x : Spo) : ∀ L : Shf, putL l x L = L.take (posL l L) ++ (l, x) :: L.drop (if (L[posL l L]?).any (fun p => decide (p.1 = l)) then posL l L + 1 else posL l L)
 | [] => rfl
 | p :: L => by
  unfold putL posL
  by_cases hp : lessL p.1 l = true
  ·rw [if_pos hp, if_pos hp, put_split l x L]
   simp only [List.getElem?_cons_succ, List.take_succ_cons, List.cons_append]
   congr 2
   congr 1
   split <;> simp
  rw [if_neg hp, if_neg hp]
  by_cases he : p.1 = l
  ·simp [he]
  simp [he]
structure Rw where
 lab : Lab
 ver : Int
 r : Rec
deriving DecidableEq
def zeroRw : Rw := ⟨⟨0, 0⟩, 0, zeroRec⟩
def newL : List Rw → Shf → Option Shf
 | [], L => some L
 | w :: l, L => if (findL w.lab L).isSome || !isL w.lab || !isR w.r then none else newL l (putL w.lab ⟨w.ver, true, w.r⟩ L)
def newS (l : List Rw) : Option Shf := if 2000 < l.length then none else newL l []
structure Got where
 code : Int
 ver : Int
 has : Bool
 r : Rec
deriving DecidableEq
def zeroGot : Got := ⟨0, 0, false, zeroRec⟩
structure Wnt where
 kind : Int
 lab : Lab
 ver : Int
 r : Rec
structure Did where
 L : Shf
 wrote : Bool
 got : Got
 err : Int
def inc (v : Int) : Int := IntKind.u64.wrap (v + 1)
def nextSpo (w : Wnt) : Spo := ⟨inc w.ver, decide (w.kind = 2), if w.kind = 2 then w.r else zeroRec⟩
def spotOf (L : Shf) (l : Lab) : Spo := (findL l L).getD zeroSpo
def doL (L : Shf) (w : Wnt) : Did :=
 if (w.kind = 1 ∨ w.kind = 2 ∨ w.kind = 3) ∧ isL w.lab = true ∧ (w.kind = 2 → isR w.r = true) then
  (if w.kind = 1 then ⟨L, false, ⟨0, (spotOf L w.lab).ver, (spotOf L w.lab).has, (spotOf L w.lab).r⟩, 0⟩
  else if w.ver ≠ (spotOf L w.lab).ver then ⟨L, false, ⟨8, (spotOf L w.lab).ver, false, zeroRec⟩, 0⟩
  else if (findL w.lab L).isNone ∧ 2000 ≤ L.length then ⟨L, false, zeroGot, 12⟩
  else ⟨putL w.lab (nextSpo w) L, true, ⟨0, inc w.ver, false, zeroRec⟩, 0⟩)
 else ⟨L, false, zeroGot, 1⟩
def rowsL (L : Shf) : List Rw := (L.filter (fun p => p.2.has)).map fun p => ⟨p.1, p.2.ver, p.2.r⟩
end Go.Proofs.YtpgjalaldhlcoaaGreat
namespace Go.Proofs.YtpgjalaldhlcoaaGreat.Sym
open Go Go.RowKit
structure RA where
 A : Option Addr
 c : Nat
 r : RN
abbrev recC (x : RA) : List AV := [.int .i64 x.r.kd, .sl none x.A x.r.n x.c 2 (fun i => itC (x.r.f i)), .int .i64 x.r.nx.len, .int .u64 x.r.nx.bits, .int .u64 x.r.mrk]
abbrev recV (x : RA) : AV := .agg (recC x)
def zRN : RN := ⟨0, fun _ => zeroItm, 0, ⟨0, 0⟩, 0⟩
def zRA : RA := ⟨none, 0, zRN⟩
structure RowA where
 lab : Lab
 ver : Int
 x : RA
abbrev rowC (w : RowA) : List AV := [.int .i64 w.lab.len, .int .u64 w.lab.bits, .int .u64 w.ver, .int .i64 w.x.r.kd, .sl none w.x.A w.x.r.n w.x.c 2 (fun i => itC (w.x.r.f i)), .int .i64 w.x.r.nx.len, .int .u64 w.x.r.nx.bits, .int .u64 w.x.r.mrk]
abbrev rowsV (A : Option Addr) (n c : Nat) (f : Nat → RowA) : AV := .sl none A n c 8 (fun i => rowC (f i))
def zRow : RowA := ⟨⟨0, 0⟩, 0, zRA⟩
structure SpA where
 w : RowA
 has : Bool
abbrev spC (x : SpA) : List AV := [.int .i64 x.w.lab.len, .int .u64 x.w.lab.bits, .int .u64 x.w.ver, .int .i64 x.w.x.r.kd, .sl none x.w.x.A x.w.x.r.n x.w.x.c 2 (fun i => itC (x.w.x.r.f i)), .int .i64 x.w.x.r.nx.len, .int .u64 x.w.x.r.nx.bits, .int .u64 x.w.x.r.mrk, .bool (.v x.has)]
abbrev spsV (A : Option Addr) (n c : Nat) (g : Nat → SpA) : AV := .sl none A n c 9 (fun i => spC (g i))
abbrev elC (x : SpA) : List AV := [.int .u64 x.w.ver, .bool (.v x.has), .int .i64 x.w.x.r.kd, .sl none x.w.x.A x.w.x.r.n x.w.x.c 2 (fun i => itC (x.w.x.r.f i)), .int .i64 x.w.x.r.nx.len, .int .u64 x.w.x.r.nx.bits, .int .u64 x.w.x.r.mrk]
def zSp : SpA := ⟨zRow, false⟩
structure GotA where
 code : Int
 ver : Int
 has : Bool
 x : RA
abbrev gotC (g : GotA) : List AV := [.int .i64 g.code, .int .u64 g.ver, .bool (.v g.has), .int .i64 g.x.r.kd, .sl none g.x.A g.x.r.n g.x.c 2 (fun i => itC (g.x.r.f i)), .int .i64 g.x.r.nx.len, .int .u64 g.x.r.nx.bits, .int .u64 g.x.r.mrk]
abbrev gotV (g : GotA) : AV := .agg (gotC g)
structure ResA where
 code : Int
 had : Bool
 val : ByteArray
 A : Option Addr
 n : Nat
 c : Nat
 f : Nat → Itm
 key : Int
 more : Bool
structure WntA where
 kind : Int
 lab : Lab
 ver : Int
 x : RA
 s : ResA
abbrev wntC (w : WntA) : List AV := [.int .i64 w.kind, .int .i64 w.lab.len, .int .u64 w.lab.bits, .int .u64 w.ver, .int .i64 w.x.r.kd, .sl none w.x.A w.x.r.n w.x.c 2 (fun i => itC (w.x.r.f i)), .int .i64 w.x.r.nx.len, .int .u64 w.x.r.nx.bits, .int .u64 w.x.r.mrk, .int .i64 w.s.code, .bool (.v w.s.had), .str w.s.val, .sl none w.s.A w.s.n w.s.c 2 (fun i => itC (w.s.f i)), .int .u64 w.s.key, .bool (.v w.s.more)]
abbrev wntV (w : WntA) : AV := .agg (wntC w)
def RowA.abs (w : RowA) : Rw := ⟨w.lab, w.ver, w.x.r.abs⟩
def SpA.abs (x : SpA) : Lab × Spo := (x.w.lab, ⟨x.w.ver, x.has, x.w.x.r.abs⟩)
def GotA.abs (g : GotA) : Got := ⟨g.code, g.ver, g.has, g.x.r.abs⟩
def WntA.abs (w : WntA) : Wnt := ⟨w.kind, w.lab, w.ver, w.x.r.abs⟩
def listA {α β : Type} (h : α → β) (g : Nat → α) (n : Nat) : List β := (List.range n).map fun i => h (g i)
theorem listA_len {α β : Type} (h : α → β) (g : Nat → α) (n : Nat) : (listA h g n).length = n := by simp [listA]
theorem listA_get {α β : Type} (h : α → β) (g : Nat → α) {n i : Nat} (hi : i < n) : (listA h g n)[i]? = some (h (g i)) := by simp [listA, hi]
theorem listA_succ {α β : Type} (h : α → β) (g : Nat → α) (n : Nat) : listA h g (n + 1) = listA h g n ++ [h (g n)] := by simp [listA, List.range_succ]
abbrev shfA (g : Nat → SpA) (n : Nat) : Shf := listA SpA.abs g n
abbrev rwsA (f : Nat → RowA) (n : Nat) : List Rw := listA RowA.abs f n
theorem SimL.length : ∀ {l l' : List AV}, SimL l l' → l.length = l'.length
 | [], [], _ => rfl
 | v :: l, v' :: l', h => by simp only [List.length_cons, SimL.length h.2]
 | [], _ :: _, h => h.elim
 | _ :: _, [], h => h.elim
theorem Sim.rows {g g' : Option Nat} {A : Option Addr} {n n' c k : Nat} {f f' : Nat → List AV} (hn : n = n') (he : ∀ i, i < n' → SimL (f i) (f' i)) : Sim (.sl g A n c k f) (.sl g' A n' c k f') := by
 subst hn
 refine ⟨rfl, fun _ => rfl, fun m w h => ?_⟩
 cases h with
 | sl _ _ _ _ _ _ h1 h2 h3 h4 h5 h6 h7 =>
  exact .sl _ _ _ _ _ _ h1 h2 (fun i hi => by rw [← (he i hi).length]; exact h3 i hi) h4 (fun i hi => by rw [← (he i hi).map]; exact h5 i hi) (fun i hi => (he i hi).one (h6 i hi)) (fun i hi => (he i hi).ok (h7 i hi))
theorem Fits.memS {C : Cx} {nt : Nat} {l : List (Nat × AV)} {mem : List (Nat × Blk)} {gr : List (Nat × Gr)} {a : Act} {w : World} {k b ty : Nat} {cells cells' : List AV} (h : Fits C ⟨nt, l, [], (k, ⟨b, ty, cells⟩) :: mem, gr⟩ a w) (e : SimL cells cells') : Fits C ⟨nt, l, [], (k, ⟨b, ty, cells'⟩) :: mem, gr⟩ a w := by
 have hto : ∀ k' e', lookM ((k, (⟨b, ty, cells'⟩ : Blk)) :: mem) k' = some e' → ∃ e0, lookM ((k, (⟨b, ty, cells⟩ : Blk)) :: mem) k' = some e0 ∧ e0.at_ = e'.at_ ∧ e0.ty = e'.ty ∧ SimL e0.cells e'.cells := by
  intro k' e' he
  simp only [lookM] at he ⊢
  split at he
  ·rename_i hk; injection he with he; subst he; exact ⟨⟨b, ty, cells⟩, by rw [if_pos hk], rfl, rfl, e⟩
  rename_i hk; exact ⟨e', by rw [if_neg hk]; exact he, rfl, rfl, zl⟩
 have hfro : ∀ k' e', lookM ((k, (⟨b, ty, cells⟩ : Blk)) :: mem) k' = some e' → ∃ e0, lookM ((k, (⟨b, ty, cells'⟩ : Blk)) :: mem) k' = some e0 ∧ e0.at_ = e'.at_ := by
  intro k' e' he
  simp only [lookM] at he ⊢
  split at he
  ·rename_i hk; injection he with he; subst he; exact ⟨⟨b, ty, cells'⟩, by rw [if_pos hk], rfl⟩
  rename_i hk; exact ⟨e', by rw [if_neg hk]; exact he, rfl⟩
 have hm : St.m ⟨nt, l, [], (k, ⟨b, ty, cells'⟩) :: mem, gr⟩ C = St.m ⟨nt, l, [], (k, ⟨b, ty, cells⟩) :: mem, gr⟩ C := by
  funext x o
  apply propext
  constructor
  ·rintro (h | ⟨k', e', he, hx⟩ | h)
   ·exact .inl h
   ·obtain ⟨e0, h1, h2, _⟩ := hto k' e' he
    exact .inr (.inl ⟨k', e0, h1, h2.trans hx⟩)
   exact .inr (.inr h)
  rintro (h | ⟨k', e', he, hx⟩ | h)
  ·exact .inl h
  ·obtain ⟨e0, h1, h2⟩ := hfro k' e' he
   exact .inr (.inl ⟨k', e0, h1, h2.trans hx⟩)
  exact .inr (.inr h)
 refine ⟨h.size, h.defers, fun t ht => by rw [hm]; exact h.slot t ht, fun t p v he hk => (by cases he), fun k' e' he => ?_, fun k1 k2 e1 e2 h1 h2 hne => ?_, h.gr, fun k1 t k2 e2 h1 h2 => ?_, h.sepg, h.chg, h.m0, by rw [hm]; exact h.kept⟩
 ·rw [hm]
  obtain ⟨e0, h1, h2, h3, h4⟩ := hto k' e' he
  obtain ⟨g1, g2, g3⟩ := h.mem k' e0 h1
  refine ⟨?_, fun v hv => ⟨h4.one (fun v hv => (g2 v hv).1) v hv, h4.ok (fun v hv => (g2 v hv).2) v hv⟩, by rw [← h2]; exact g3⟩
  rw [← h2, ← h3, ← h4.map]; exact g1
 ·obtain ⟨a1, b1, c1, _⟩ := hto k1 e1 h1
  obtain ⟨a2, b2, c2, _⟩ := hto k2 e2 h2
  rw [← c1, ← c2]
  exact h.nodup k1 k2 a1 a2 b1 b2 hne
 obtain ⟨a2, b2, c2, _⟩ := hto k2 e2 h2
 rw [← c2]
 exact h.sepm k1 t k2 a2 h1 b2
theorem Fits.regr {C : Cx} {nt : Nat} {l : List (Nat × AV)} {mem : List (Nat × Blk)} {k : Nat} {A : Option Addr} {n n' c kk e : Nat} {gr : List (Nat × Gr)} {a : Act} {w : World} (h : Fits C ⟨nt, l, [], mem, (k, ⟨A, n, c, kk, e⟩) :: gr⟩ a w) (hn : n = n') : Fits C ⟨nt, l, [], mem, (k, ⟨A, n', c, kk, e⟩) :: gr⟩ a w := hn ▸ h
theorem posL_of {l : Lab} : ∀ {L : Shf} {p : Nat}, p ≤ L.length → (∀ i q, i < p → L[i]? = some q → lessL q.1 l = true) → (∀ q, L[p]? = some q → lessL q.1 l = false) → posL l L = p
 | [], p, h, _, _ => by simp at h; subst h; rfl
 | q :: L, 0, _, _, h2 => by
  unfold posL
  rw [h2 q rfl]; rfl
 | q :: L, p + 1, h, h1, h2 => by
  unfold posL
  rw [h1 0 q (by omega) rfl]
  simp only [if_true]
  rw [posL_of (p := p) (by simpa using h) (fun i q hi hq => h1 (i + 1) q (by omega) (by simpa using hq)) (fun q hq => h2 q (by simpa using hq))]
def hitL (l : Lab) (L : Shf) : Bool := (L[posL l L]?).any fun p => decide (p.1 = l)
theorem hit_find {l : Lab} {L : Shf} (h : Rises L) : hitL l L = (findL l L).isSome := by
 obtain ⟨h1, h2⟩ := pos_hit (l := l) h
 unfold hitL
 cases hg : L[posL l L]? with
 | none => rw [h2 hg]; rfl
 | some p =>
  have := h1 p hg
  simp only [Option.any_some]
  by_cases he : p.1 = l
  ·rw [if_pos he] at this; rw [this]; simp [he]
  rw [if_neg he] at this; rw [this]; simp [he]
def putG (g : Nat → SpA) (p : Nat) (x : SpA) (h : Nat) : Nat → SpA := fun i => if i < p then g i else if i = p then x else g (i - 1 + h)
theorem putG_list {g : Nat → SpA} {n p h : Nat} (x : SpA) (hp : p + h ≤ n) (hh : h ≤ 1) : shfA (putG g p x h) (n + 1 - h) = (shfA g n).take p ++ x.abs :: (shfA g n).drop (p + h) := by
 apply List.ext_getElem?
 intro i
 by_cases hi : i < n + 1 - h
 ·rw [listA_get _ _ hi]
  have hlt : ((shfA g n).take p).length = p := by rw [List.length_take, listA_len]; omega
  by_cases h1 : i < p
  ·rw [List.getElem?_append_left (by rw [hlt]; exact h1), List.getElem?_take, if_pos h1, listA_get _ _ (by omega)]
   simp [putG, h1]
  rw [List.getElem?_append_right (by rw [hlt]; omega), hlt]
  by_cases h2 : i = p
  ·subst h2; simp [putG]
  rw [show i - p = (i - p - 1) + 1 by omega, List.getElem?_cons_succ, List.getElem?_drop, listA_get _ _ (by omega)]
  simp only [putG, h1, h2, if_false]
  rw [show p + h + (i - p - 1) = i - 1 + h by omega]
 have hl : ((shfA g n).take p ++ x.abs :: (shfA g n).drop (p + h)).length = n + 1 - h := by
  simp only [List.length_append, List.length_take, List.length_cons, List.length_drop, listA_len]; omega
 rw [List.getElem?_eq_none (by rw [listA_len]; omega), List.getElem?_eq_none (by rw [hl]; omega)]
theorem putG_put {g : Nat → SpA} {n : Nat} (x : SpA) {L : Shf} (hL : L = shfA g n) : shfA (putG g (posL x.w.lab L) x (if hitL x.w.lab L then 1 else 0)) (n + 1 - (if hitL x.w.lab L then 1 else 0)) = putL x.w.lab ⟨x.w.ver, x.has, x.w.x.r.abs⟩ L := by
 have hle : posL x.w.lab L ≤ n := by have := posL_le x.w.lab L; rw [hL, listA_len] at this; rw [hL]; exact this
 have hlt : hitL x.w.lab L = true → posL x.w.lab L < n := by
  intro h
  unfold hitL at h
  cases hg : L[posL x.w.lab L]? with
  | none => rw [hg] at h; cases h
  | some p => have := (List.getElem?_eq_some_iff.1 hg).1; rw [hL, listA_len] at this; rw [hL]; exact this
 rw [putG_list x (by split <;> rename_i hh; have := hlt hh; omega; omega) (by split <;> omega), put_split, ← hL]
 unfold hitL
 cases ((L[posL x.w.lab L]?).any fun p => decide (p.1 = x.w.lab)) <;> rfl
theorem rn_sim (A : Option Addr) (c : Nat) {r r' : RN} (h : r.abs = r'.abs) : SimL (recC ⟨A, c, r⟩) (recC ⟨A, c, r'⟩) := by
 obtain ⟨n, f, kd, nx, mrk⟩ := r
 obtain ⟨n', f', kd', nx', mrk'⟩ := r'
 simp only [RN.abs, Rec.mk.injEq] at h
 obtain ⟨rfl, h2, rfl, rfl⟩ := h
 have hn : n = n' := by rw [← firsts_len f n, h2, firsts_len]
 subst hn
 refine ⟨zr, Sim.recell (fun t ht => ?_), zr, zr, zr, trivial⟩
 show itC (f t) = itC (f' t)
 rw [← firsts_get f n t ht, h2, firsts_get f' n t ht]
theorem abs_rn (r : Rec) : r.rn.abs = r := rn_abs r
def spoA (y : Atom) (i : Nat) (p : Lab × Spo) : SpA := ⟨⟨p.1, p.2.ver, ⟨y.A i, y.c i, p.2.r.rn⟩⟩, p.2.has⟩
theorem spoA_abs (y : Atom) (i : Nat) (p : Lab × Spo) : (spoA y i p).abs = p := by
 obtain ⟨l, v, h, r⟩ := p
 simp only [spoA, SpA.abs, abs_rn]
def spAt (y : Atom) (L : Shf) (i : Nat) : SpA := spoA y (i + 2) (L.getD i (⟨0, 0⟩, zeroSpo))
theorem shfA_spAt (y : Atom) (L : Shf) : shfA (spAt y L) L.length = L := by
 apply List.ext_getElem
 ·simp [listA]
 intro i h1 h2
 simp only [listA, List.getElem_map, List.getElem_range, spAt, spoA_abs]
 simp [List.getD, h2]
theorem shfA_at {g : Nat → SpA} {n : Nat} {L : Shf} (h : shfA g n = L) {i : Nat} (hi : i < n) : (g i).abs = L.getD i (⟨0, 0⟩, zeroSpo) := by
 rw [← h]; simp [List.getD, listA_get SpA.abs g hi]
def spY (A : Option Addr) (c : Nat) (g : Nat → SpA) (A1 : Option Addr) (c1 : Nat) (b : Nat) : Atom := ⟨b, fun j => match j with | 0 => A | 1 => A1 | j + 2 => (g j).w.x.A, fun j => match j with | 0 => c | 1 => c1 | j + 2 => (g j).w.x.c, fun _ => ⟨#[]⟩⟩
theorem sps_sim {A A1 : Option Addr} {n c c1 b : Nat} {g : Nat → SpA} {L : Shf} (h : shfA g n = L) {gg : Option Nat} : Sim (.sl gg A n c 9 (fun i => spC (g i))) (spsV A L.length c (spAt (spY A c g A1 c1 b) L)) := by
 have hn : n = L.length := by rw [← h, listA_len]
 refine Sim.rows hn fun i hi => ?_
 have e : spAt (spY A c g A1 c1 b) L i = spoA (spY A c g A1 c1 b) (i + 2) (L.getD i (⟨0, 0⟩, zeroSpo)) := rfl
 rw [e, ← shfA_at h (show i < n by omega)]
 have hr := rn_sim (g i).w.x.A (g i).w.x.c (r := (g i).w.x.r) (r' := (g i).w.x.r.abs.rn) (abs_rn _).symm
 exact ⟨zr, zr, zr, hr.1, hr.2.1, hr.2.2.1, hr.2.2.2.1, hr.2.2.2.2.1, zr, trivial⟩
def gotA (y : Atom) (g : Got) : GotA := ⟨g.code, g.ver, g.has, ⟨y.A 1, y.c 1, g.r.rn⟩⟩
theorem got_sim {A A1 : Option Addr} {c c1 b : Nat} {g : Nat → SpA} {v : GotA} {G : Got} (h : v.abs = G) (hA : v.x.A = A1) (hc : v.x.c = c1) : SimL (gotC v) (gotC (gotA (spY A c g A1 c1 b) G)) := by
 subst h; subst hA; subst hc
 have hr := rn_sim v.x.A v.x.c (r := v.x.r) (r' := v.x.r.abs.rn) (abs_rn _).symm
 exact ⟨zr, zr, zr, hr.1, hr.2.1, hr.2.2.1, hr.2.2.2.1, hr.2.2.2.2.1, trivial⟩
def rwAt (y : Atom) (R : List Rw) (i : Nat) : RowA := ⟨(R.getD i zeroRw).lab, (R.getD i zeroRw).ver, ⟨y.A (i + 2), y.c (i + 2), (R.getD i zeroRw).r.rn⟩⟩
theorem rwsA_rwAt (y : Atom) (R : List Rw) : rwsA (rwAt y R) R.length = R := by
 apply List.ext_getElem
 ·simp [listA]
 intro i h1 h2
 simp only [listA, List.getElem_map, List.getElem_range, rwAt, RowA.abs, abs_rn]
 simp [List.getD, h2]
def rwY (A : Option Addr) (c : Nat) (f : Nat → RowA) (b : Nat) : Atom := ⟨b, fun j => match j with | 0 => A | 1 => none | j + 2 => (f j).x.A, fun j => match j with | 0 => c | 1 => 0 | j + 2 => (f j).x.c, fun _ => ⟨#[]⟩⟩
theorem rwsA_at {f : Nat → RowA} {n : Nat} {R : List Rw} (h : rwsA f n = R) {i : Nat} (hi : i < n) : (f i).abs = R.getD i zeroRw := by
 rw [← h]; simp [List.getD, listA_get RowA.abs f hi]
theorem rws_sim {A : Option Addr} {n c b : Nat} {f : Nat → RowA} {R : List Rw} (h : rwsA f n = R) {gg : Option Nat} : Sim (.sl gg A n c 8 (fun i => rowC (f i))) (rowsV A R.length c (rwAt (rwY A c f b) R)) := by
 have hn : n = R.length := by rw [← h, listA_len]
 refine Sim.rows hn fun i hi => ?_
 have e : rwAt (rwY A c f b) R i = ⟨(R.getD i zeroRw).lab, (R.getD i zeroRw).ver, ⟨(f i).x.A, (f i).x.c, (R.getD i zeroRw).r.rn⟩⟩ := rfl
 rw [e, ← rwsA_at h (show i < n by omega)]
 have hr := rn_sim (f i).x.A (f i).x.c (r := (f i).x.r) (r' := (f i).x.r.abs.rn) (abs_rn _).symm
 exact ⟨zr, zr, zr, hr.1, hr.2.1, hr.2.2.1, hr.2.2.2.1, hr.2.2.2.2.1, trivial⟩
theorem ok_cell {m : Nat → Nat → Prop} {w : World} {g : Option Nat} {A : Option Addr} {n c k : Nat} {cells : Nat → List AV} (h : Ok m w (.sl g A n c k cells)) {i : Nat} (hi : i < n) : ∀ v ∈ cells i, Ok m w v := by
 cases h with | sl _ _ _ _ _ _ h1 h2 h3 h4 h5 h6 h7 => exact h7 i hi
theorem rows_len {m : Nat → Nat → Prop} {w : World} {g : Option Nat} {A : Option Addr} {n c : Nat} {f : Nat → RowA} (h : Ok m w (.sl g A n c 8 (fun i => rowC (f i)))) : ∀ i, i < n → (f i).x.r.n ≤ maxLen := by
 intro i hi
 have := ok_len (ok_cell h hi (.sl none (f i).x.A (f i).x.r.n (f i).x.c 2 (fun t => itC ((f i).x.r.f t))) (by simp))
 omega
theorem rowsL_succ (g : Nat → SpA) (i : Nat) : rowsL (shfA g (i + 1)) = rowsL (shfA g i) ++ if (g i).has = true then [(g i).w.abs] else [] := by
 rw [show shfA g (i + 1) = shfA g i ++ [(g i).abs] from listA_succ _ _ _]
 unfold rowsL
 rw [List.filter_append, List.map_append]
 congr 1
 simp only [List.filter_cons, List.filter_nil]
 show List.map _ (if (g i).has = true then _ else _) = _
 split <;> rfl
theorem sameF_abs (n : Nat) (f : Nat → Itm) (n2 : Nat) (f2 : Nat → Itm) : sameF n f n2 f2 = decide (firsts f n = firsts f2 n2) := by
 by_cases h : firsts f n = firsts f2 n2
 ·have hn : n = n2 := by rw [← firsts_len f n, h, firsts_len]
  rw [decide_eq_true h, sameF_yes hn]
  intro i hi
  rw [← firsts_get f n i hi, h, firsts_get f2 n2 i (by omega)]
 rw [decide_eq_false h]
 by_cases hn : n = n2
 ·subst hn
  by_cases he : ∀ i, i < n → f i = f2 i
  ·exfalso; apply h; unfold firsts; exact List.map_congr_left fun t ht => he t (List.mem_range.1 ht)
  obtain ⟨i, hi⟩ := Classical.not_forall.1 he
  obtain ⟨hi, hne⟩ := Classical.not_imp.1 hi
  exact sameF_no hi hne
 unfold sameF; rw [decide_eq_false hn]; rfl
theorem sameR_abs (r r2 : RN) : sameRF r.kd r.n r.f r.nx r.mrk r2.kd r2.n r2.f r2.nx r2.mrk = decide (r.abs = r2.abs) := by
 unfold sameRF
 rw [sameF_abs]
 unfold RN.abs
 simp only [Rec.mk.injEq]
 by_cases h1 : r.kd = r2.kd <;> by_cases h2 : firsts r.f r.n = firsts r2.f r2.n <;> by_cases h3 : r.nx = r2.nx <;> by_cases h4 : r.mrk = r2.mrk <;> simp [h1, h2, h3, h4]
theorem newL_step {f : Nat → RowA} {n i : Nat} {L : Shf} (hi : i < n) : newL ((rwsA f n).drop i) L = if (findL (f i).lab L).isSome || !isL (f i).lab || !isR (f i).x.r.abs then none else newL ((rwsA f n).drop (i + 1)) (putL (f i).lab ⟨(f i).ver, true, (f i).x.r.abs⟩ L) := by
 have hl : i < (rwsA f n).length := by rw [listA_len]; exact hi
 have e : (rwsA f n).drop i = (f i).abs :: (rwsA f n).drop (i + 1) := by
  rw [List.drop_eq_getElem_cons hl]
  congr 1
  simp [listA]
 rw [e]
 rfl
end Go.Proofs.YtpgjalaldhlcoaaGreat.Sym
namespace Go.Proofs.YtpgjalaldhlcoaaGreat.Sym
open Go Go.RowKit
namespace Cl
theorem etyI : ElemTy Tryz.prog 24 58 2 24 (.agg #[.int .u64 0, .string ⟨#[]⟩]) := ⟨by kernel_rfl, by kernel_rfl, rfl, by decide⟩
def itmE (x : Itm) : List Value := [.int .u64 x.key, .string x.val]
theorem itmE_len (x : Itm) : (itmE x).length = 2 := rfl
theorem rows_ok {m : Nat → Nat → Prop} {w : World} {A : Option Addr} {k : Nat} {l : List Itm} (hl : l.length ≤ k) (hk : k ≤ maxLen) (hs : ∀ x ∈ l, x.val.size ≤ maxLen)
  (h : 0 < (l.flatMap itmE).length → ∃ b off, A = some ⟨b, off, none⟩ ∧ ∀ j u, (l.flatMap itmE)[j]? = some u → w.cell? ⟨b, off + j, none⟩ = some u ∧ ¬ m b (off + j)) : Ok m w (rowI A l.length k (itF l)) := by
 have hg : ∀ i (hi : i < l.length), itF l i = l[i] := fun i hi => by simp [itF, List.getD, hi]
 have hpos : ∀ i, i < l.length → 0 < (l.flatMap itmE).length := fun i hi => by rw [flat_length itmE_len]; omega
 refine .sl _ _ _ _ _ _ hl hk (fun i _ => rfl) (fun i hi => ?_) (fun i hi j u hu => ?_) (fun i hi v hv => ?_) (fun i hi v hv => ?_)
 ·obtain ⟨b, off, hA, _⟩ := h (hpos i hi); exact ⟨b, off, hA⟩
 ·obtain ⟨b, off, hA, hc⟩ := h (hpos i hi)
  have hu' : (itmE (itF l i))[j]? = some u := hu
  rw [hg i hi] at hu'
  exact ⟨b, off, hA, hc _ u (flat_get itmE_len (List.getElem?_eq_getElem hi) hu')⟩
 ·simp only [itC, List.mem_cons, List.not_mem_nil, or_false] at hv
  rcases hv with rfl | rfl <;> rfl
 simp only [itC, List.mem_cons, List.not_mem_nil, or_false] at hv
 rcases hv with rfl | rfl
 ·exact .int _ _
 exact .str _ (by rw [hg i hi]; exact hs _ (List.getElem_mem hi))
variable {H : Type} {enc : TypeId × Value → H} {w : World} {base : Nat} {spare : Nat → Bool} {held : Bool}
theorem itmE_one (x : Itm) : ∀ v ∈ itmE x, v.oneCell' = true := by
 intro v hv
 simp only [itmE, List.mem_cons, List.not_mem_nil, or_false] at hv
 rcases hv with rfl | rfl <;> rfl
theorem rowFlat_its (l : List Itm) : rowFlat (fun i => itC (itF l i)) l.length = l.flatMap itmE := by
 have key : ∀ n, n ≤ l.length → rowFlat (fun i => itC (itF l i)) n = (l.take n).flatMap itmE := by
  intro n
  induction n with
  | zero => intro _; simp [rowFlat]
  | succ n ih =>
   intro h
   rw [rowFlat_succ, ih (by omega), List.take_succ_eq_append_getElem (by omega), List.flatMap_append]
   simp [itF, List.getD, List.getElem?_eq_getElem (show n < l.length by omega)]
   rfl
 have := key l.length (Nat.le_refl _)
 rwa [List.take_length] at this
theorem its_reads {m : Nat → Nat → Prop} {w : World} {A : Option Addr} {c : Nat} {l : List Itm} (h : Ok m w (rowI A l.length c (itF l))) : ReadsL itmE w w.heap.size A l := by
 have := row_of_ok h
 rw [rowFlat_its] at this
 exact this
theorem its_vals {m : Nat → Nat → Prop} {w : World} {A : Option Addr} {c : Nat} {l : List Itm} (h : Ok m w (rowI A l.length c (itF l))) : ∀ x ∈ l, x.val.size ≤ maxLen := by
 intro x hx
 obtain ⟨i, hi, rfl⟩ := List.mem_iff_getElem.1 hx
 cases h with
 | sl _ _ _ _ _ _ h1 h2 h3 h4 h5 h6 h7 =>
  have := h7 i hi (.str (itF l i).val) (by simp [itC])
  cases this with | str _ h => simpa [itF, List.getD, hi] using h
theorem own_its {m : Nat → Nat → Prop} {w : World} {B : Nat} {e : TypeId} {A : Option Addr} {n c : Nat} {l : List Itm} (h : OwnL itmE 2 w B e (.slice A n c) l) (hm : ∀ b o, m b o → b < B) (hs : ∀ x ∈ l, x.val.size ≤ maxLen) : Ok m w (rowI A l.length c (itF l)) := by
 obtain ⟨A', c', he, h1, h2⟩ := Own.isSlice h
 injection he with e1 e2 e3; subst e3; subst e2
 refine rows_ok h1 h2 hs fun hp => ?_
 rw [flat_length itmE_len] at hp
 obtain ⟨b, hA, hb⟩ := own_head h (by omega)
 refine ⟨b, 0, hA, fun j u hu => ⟨by rw [Nat.zero_add]; exact own_cells h hb j u hu, fun hmm => ?_⟩⟩
 have := (Own.lt h b hb).1
 have := hm _ _ hmm
 omega
theorem clone_c (w : World) (A : Option Addr) (k : Nat) (l : List Itm) (hr : ReadsL itmE w w.heap.size A l) (hl : l.length < 2147483000) :
  Calls Tryz.prog 40 #[.slice A l.length k] w fun e w' => ∃ v', e = .returned v' ∧ OwnL itmE 2 w' w.heap.size 58 v' l ∧ Below w.heap.size w w' := by
 have hq : ∀ (A : Option Addr) (n k : Nat) (w : World), (binOp .eql 24 (.slice A n k) (.slice none 0 0)).run Tryz.prog w = .ok (.bool A.isNone) w := fun A n k w => Go.Lib.run_eql_slice_nil w _ _ A n k 0 0 Tryz.underlying24
 cases A with
 | none =>
  obtain rfl : l = [] := by
   refine List.eq_nil_of_length_eq_zero (Nat.eq_zero_of_not_pos fun h => ?_)
   obtain ⟨b, off, he, _⟩ := hr.at_ (k := 2) itmE_len (by decide) h
   cases he
  clear hr
  go_enter Tryz.func40, Tryz.ntmps40
  go_wp2_with fail
  go_ret
  exact ⟨_, rfl, Own.nil _ _ _ _ _, Below.refl _ _⟩
 | some a =>
  obtain ⟨W1, hW1⟩ := eqv (w.alloc (.cells #[] 58))
  have hb1 : Below w.heap.size w W1 := by rw [hW1]; exact (Below.refl _ _).alloc (Nat.le_refl _) _
  obtain ⟨v', w', hr', hO, hG, hv⟩ := run_append_Own (P := Tryz.prog) etyI 24 (Own.nil W1 w.heap.size 58 2 (some ⟨w.heap.size, 0, none⟩)) (some a) l.length k (l.flatMap itmE) (flat_length itmE_len l) (hr.below hb1) (flat_one itmE_one l) (by simp only [maxLen]; omega) (by omega) hb1.size
  rw [Nat.zero_add, List.nil_append] at hO
  have HO : Hid (OwnL itmE 2 w' w.heap.size 58 v' l ∧ Below w.heap.size w w') := ⟨hO, hb1.grown hG hb1.size fun g hg => by simp [ownB] at hg⟩
  rw [hW1] at hr'
  clear hO hG hv hb1 hW1
  go_enter Tryz.func40, Tryz.ntmps40
  go_wp2_with (at_builtin; refine wpList_append_run hr' rfl (.tmp 5) (.tmp 6) rfl rfl rfl rfl ?_)
  go_ret
  exact ⟨_, rfl, HO.out⟩
theorem clone_s (A : Option Addr) (c : Nat) (l : List Itm) (hs : l.length < 2147483000) : Spec Tryz.prog 40 [rowI A l.length c (itF l)] (fun y => rowI (y.A 0) l.length (y.c 0) (itF l)) := by
 intro m w hm ha
 have h1 := ha (rowI A l.length c (itF l)) (by simp)
 refine (clone_c w A c l (its_reads h1) hs).mono ?_
 rintro e w' ⟨v', rfl, ho, hb⟩
 obtain ⟨A', c', rfl, _, _⟩ := Own.isSlice ho
 exact ⟨⟨0, fun _ => A', fun _ => c', fun _ => ⟨#[]⟩⟩, rfl, own_its ho hm (its_vals h1), hb⟩
theorem clone_sf (A : Option Addr) (n c : Nat) (f : Nat → Itm) (hs : n < 2147483000) : Spec Tryz.prog 40 [rowI A n c f] (fun y => rowI (y.A 0) n (y.c 0) f) := by
 have h := clone_s A c (firsts f n) (by rw [firsts_len]; exact hs)
 have e : ∀ A c, Sim (rowI A (firsts f n).length c (itF (firsts f n))) (rowI A n c f) := fun A c => Sim.resl (firsts_len f n) fun t ht => by rw [firsts_get f n t ht]
 have e' : ∀ A c, Sim (rowI A n c f) (rowI A (firsts f n).length c (itF (firsts f n))) := fun A c => Sim.resl (firsts_len f n).symm fun t ht => by rw [firsts_len] at ht; rw [firsts_get f n t ht]
 intro m w hm ha
 have h2 : Spec Tryz.prog 40 [rowI A n c f] (fun y => rowI (y.A 0) (firsts f n).length (y.c 0) (itF (firsts f n))) := h.sim ⟨e' A c, trivial⟩
 refine (h2 m w hm ha).mono ?_
 rintro en w' ⟨x, rfl, hok, hb⟩
 exact ⟨x, by rw [(e (x.A 0) (x.c 0)).1], (e (x.A 0) (x.c 0)).2.2 _ _ hok, hb⟩
end Cl
end Go.Proofs.YtpgjalaldhlcoaaGreat.Sym
namespace Go.Proofs.YtpgjalaldhlcoaaGreat.Sym
open Go Go.RowKit
theorem lab_laid : laidOutB Tryz.prog = true := by kernel_rfl
theorem lab_row : (42 : TypeId) < Tryz.prog.types.size := of_decide_eq_true (by kernel_rfl)
theorem lab_wide : (match Tryz.prog.underlying 42 with | some (.array _ _) | some (.struct _) => true | _ => false) = true := by kernel_rfl
theorem lab_law : WideMaps.KeyLaw Tryz.prog 42 := deep_law_laid lab_laid (m := 2) (by omega) lab_row (by kernel_rfl) lab_wide
theorem labK : Maps.Keyed Tryz.prog 42 := Maps.Keyed.of_law lab_law
theorem map_und' : Tryz.prog.underlying 104 = some (.map 42 108) := by kernel_rfl
def LabOk (l : Lab) : Prop := (Lit.int .i64 l.len).wf = true ∧ (Lit.int .u64 l.bits).wf = true
def keyL (l : Lab) : Lit := .string (keyBytes [.int .i64 l.len, .int .u64 l.bits])
theorem key_lab {l : Lab} (h : LabOk l) : Go.keyOf Tryz.prog 42 (labAV l).den = some (keyL l) := by
 obtain ⟨h1, h2⟩ := h
 have hu : Tryz.prog.underlying 42 = some (.struct _) := Tryz.underlying42
 have hi : Tryz.prog.underlying 3 = some (.int .i64) := by kernel_rfl
 have hb : Tryz.prog.underlying 40 = some (.int .u64) := by kernel_rfl
 have hk : Tryz.prog.keyType 42 = true := by kernel_rfl
 have hc : Tryz.prog.cellsOf 42 = 2 := by kernel_rfl
 have hci : Tryz.prog.cellsOf 3 = 1 := by kernel_rfl
 have hcb : Tryz.prog.cellsOf 40 = 1 := by kernel_rfl
 obtain ⟨m, hm⟩ := Nat.exists_eq_succ_of_ne_zero (n := Tryz.prog.types.size) (by have := lab_row; intro h; rw [h] at this; exact absurd this (Nat.not_lt_zero _))
 simp [Go.keyOf, hu, hk, Value.formed, hc, labAV, AV.den, AV.denL, hm, Program.keyLits, Value.cells, hci, hcb, hi, hb, h1, h2, keyL]
theorem keyL_inj {l l' : Lab} (h : LabOk l) (h' : LabOk l') (e : keyL l = keyL l') : l = l' := by
 have := labK.inj (key_lab h) (e ▸ key_lab h')
 simp [labAV, AV.den, AV.denL] at this
 exact lab_ext this.1 this.2
theorem mapW_fun {P : Program} {K : TypeId} {w : World} {b n n' : Nat} {D D' : DataW Value} (h : MapW P K w b n D) (h' : MapW P K w b n' D') : D = D' := by
 obtain ⟨es, cl, hb, F, hs, hD⟩ := h
 obtain ⟨es', cl', hb', F', hs', hD'⟩ := h'
 rw [hb] at hb'
 injection hb' with hb'; injection hb' with e1 e2
 subst e1
 rw [hD, hD']
theorem mapW_size {P : Program} {K : TypeId} {w : World} {b n : Nat} {D : DataW Value} (h : MapW P K w b n D) : MapW P K w b (Maps.size D) D := by
 obtain ⟨es, cl, hb, F, hs, hD⟩ := h
 refine ⟨es, cl, hb, F, ?_, hD⟩
 rw [hD]
 simp [Maps.size, length_sorted]
abbrev Adr := Lab → Option Addr × Nat
abbrev elA (E : Adr) (l : Lab) (x : Spo) : SpA := ⟨⟨l, x.ver, ⟨(E l).1, (E l).2, x.r.rn⟩⟩, x.has⟩
structure ShD (D : DataW Value) (E : Adr) (b : Nat) (L : Shf) (m : Nat → Nat → Prop) (w : World) : Prop where
 map : MapW Tryz.prog 42 w b L.length D
 ris : Rises L
 labs : ∀ p ∈ L, LabOk p.1
 has : ∀ kl, Maps.has D kl = true ↔ ∃ p ∈ L, keyL p.1 = kl
 size : Maps.size D = L.length
 at_ : ∀ p ∈ L, ∀ zd, D.atKey (keyL p.1) zd = .held (AV.agg (elC (elA E p.1 p.2))).den
 ok : ∀ p ∈ L, Ok m w (.agg (elC (elA E p.1 p.2)))
theorem ShD.keepB {D : DataW Value} {E : Adr} {b : Nat} {L : Shf} {m m' : Nat → Nat → Prop} {w w' : World} {bo : Option Nat} (h : ShD D E b L m w) (k : KeepB bo w m w' m') (hb : bo ≠ some b) : ShD D E b L m' w' :=
 ⟨mapW_keepB k hb h.map, h.ris, h.labs, h.has, h.size, h.at_, fun p hp => k.ok (h.ok p hp)⟩
theorem ShD.keep {D : DataW Value} {E : Adr} {b : Nat} {L : Shf} {m m' : Nat → Nat → Prop} {w w' : World} (h : ShD D E b L m w) (k : Keep w m w' m') : ShD D E b L m' w' :=
 ⟨mapW_keep k h.map, h.ris, h.labs, h.has, h.size, h.at_, fun p hp => k.ok (h.ok p hp)⟩
def shD (D : DataW Value) (E : Adr) (b : Nat) (L : Shf) : Kn := ⟨ShD D E b L, fun k h => h.keep k⟩
def shK (b : Nat) (L : Shf) : Kn := ⟨fun m w => ∃ D E, ShD D E b L m w, fun k ⟨D, E, h⟩ => ⟨D, E, h.keep k⟩⟩
def shF (N b : Nat) (L : Shf) : Kn := ⟨fun m w => N ≤ b ∧ (shK b L).p m w, fun k h => ⟨h.1, (shK b L).st k h.2⟩⟩
theorem find_mem {l : Lab} {x : Spo} : ∀ {L : Shf}, findL l L = some x → (l, x) ∈ L
 | p :: L, h => by
  unfold findL at h
  split at h
  ·rename_i he; injection h with h; subst h; subst he; exact List.mem_cons_self ..
  exact List.mem_cons_of_mem _ (find_mem h)
theorem mem_find {p : Lab × Spo} : ∀ {L : Shf}, Rises L → p ∈ L → findL p.1 L = some p.2
 | q :: L, h, hp => by
  have h' := List.pairwise_cons.1 h
  unfold findL
  rcases List.mem_cons.1 hp with rfl | hp
  ·rw [if_pos rfl]
  rw [if_neg (less_ne (h'.1 p hp))]
  exact mem_find h'.2 hp
def zeroEl : Value := .agg #[.int .u64 0, .bool false, .int .i64 0, .slice none 0 0, .int .i64 0, .int .u64 0, .int .u64 0]
theorem zeroEl_run (w : World) : (zeroValue 108).run Tryz.prog w = .ok zeroEl w := by kernel_rfl
section
variable {D : DataW Value} {E : Adr} {b : Nat} {L : Shf} {m : Nat → Nat → Prop} {w : World} {l : Lab}
theorem ShD.hasL (h : ShD D E b L m w) (hl : LabOk l) : Maps.has D (keyL l) = (findL l L).isSome := by
 cases hf : findL l L with
 | some x => exact (h.has _).2 ⟨(l, x), find_mem hf, rfl⟩
 | none =>
  rw [Option.isSome_none, Bool.eq_false_iff]
  intro hh
  obtain ⟨p, hp, he⟩ := (h.has _).1 hh
  have : p.1 = l := keyL_inj (h.labs p hp) hl he
  rw [← this, mem_find h.ris hp] at hf
  cases hf
def adr (E : Adr) (L : Shf) : Adr := fun l => if (findL l L).isSome then E l else (none, 0)
theorem elA_zero (E : Adr) (hn : findL l L = none) : AV.den (.agg (elC (elA (adr E L) l (spotOf L l)))) = zeroEl ∧ ∀ m w, Ok m w (.agg (elC (elA (adr E L) l (spotOf L l)))) := by
 have e1 : spotOf L l = zeroSpo := by unfold spotOf; rw [hn]; rfl
 have e2 : adr E L l = (none, 0) := by unfold adr; rw [hn]; rfl
 unfold elA
 rw [e1, e2]
 refine ⟨rfl, fun m w => .agg _ (fun v hv => ?_) fun v hv => ?_⟩
 ·simp only [elC, List.mem_cons, List.not_mem_nil, or_false] at hv
  rcases hv with rfl | rfl | rfl | rfl | rfl | rfl | rfl <;> rfl
 simp only [elC, List.mem_cons, List.not_mem_nil, or_false] at hv
 rcases hv with rfl | rfl | rfl | rfl | rfl | rfl | rfl
 ·exact .int _ _
 ·exact .bool _
 ·exact .int _ _
 ·exact .sl _ _ _ _ _ _ (Nat.le_refl _) (Nat.zero_le _) (fun i hi => absurd hi (Nat.not_lt_zero _)) (fun i hi => absurd hi (Nat.not_lt_zero _)) (fun i hi => absurd hi (Nat.not_lt_zero _)) (fun i hi => absurd hi (Nat.not_lt_zero _)) (fun i hi => absurd hi (Nat.not_lt_zero _))
 ·exact .int _ _
 ·exact .int _ _
 exact .int _ _
theorem ShD.look (h : ShD D E b L m w) (hl : LabOk l) : D.atKey (keyL l) (.held zeroEl) = .held (AV.agg (elC (elA (adr E L) l (spotOf L l)))).den ∧ Ok m w (.agg (elC (elA (adr E L) l (spotOf L l)))) := by
 cases hf : findL l L with
 | some x =>
  have hm := find_mem hf
  have e1 : spotOf L l = x := by unfold spotOf; rw [hf]; rfl
  have e2 : adr E L l = E l := by unfold adr; rw [hf]; rfl
  have e3 : elA (adr E L) l (spotOf L l) = elA E l x := by unfold elA; rw [e1, e2]
  rw [e3]
  exact ⟨h.at_ _ hm _, h.ok _ hm⟩
 | none =>
  obtain ⟨e1, e2⟩ := elA_zero (L := L) E hf
  refine ⟨?_, e2 _ _⟩
  rw [e1]
  exact Maps.atKey_of_not_has (by rw [h.hasL hl, hf]; rfl) _
theorem ShD.put (h : ShD D E b L m w) (hl : LabOk l) {w' : World} (k : KeepB (some b) w m w' m) (v : Int) (hs : Bool) (x : RA) (hv : Ok m w (.agg (elC ⟨⟨l, v, x⟩, hs⟩))) (hM : MapW Tryz.prog 42 w' b (L.length + 1) (D.put (keyL l) (.held (AV.agg (elC ⟨⟨l, v, x⟩, hs⟩)).den))) :
  ∃ D' E', ShD D' E' b (putL l ⟨v, hs, x.r.abs⟩ L) m w' := by
 have hsim : Sim (.agg (elC ⟨⟨l, v, x⟩, hs⟩)) (.agg (elC ⟨⟨l, v, ⟨x.A, x.c, x.r.abs.rn⟩⟩, hs⟩)) := by
  have hr := rn_sim x.A x.c (r := x.r) (r' := x.r.abs.rn) (abs_rn _).symm
  exact Sim.agg ⟨zr, zr, hr.1, hr.2.1, hr.2.2.1, hr.2.2.2.1, hr.2.2.2.2.1, trivial⟩
 have hkey : WideAt.IsKeyLit (keyL l) := labK.key (key_lab hl)
 have hmp : Maps.IsMap D := (h.map.tidy labK).isMap
 have hsz := mapW_size hM
 have hlen : Maps.size (D.put (keyL l) (.held (AV.agg (elC ⟨⟨l, v, x⟩, hs⟩)).den)) = (putL l ⟨v, hs, x.r.abs⟩ L).length := by
  rw [Maps.size_put (h.map.tidy labK), h.hasL hl, put_len l _ h.ris]
  rw [h.size]
 have hris := put_rises (l := l) (x := ⟨v, hs, x.r.abs⟩) h.ris
 have hin : ∀ p, p ∈ putL l ⟨v, hs, x.r.abs⟩ L ↔ p = (l, ⟨v, hs, x.r.abs⟩) ∨ (p ∈ L ∧ p.1 ≠ l) := by
  intro p
  constructor
  ·intro hp
   have h1 := mem_find hris hp
   rw [find_put] at h1
   by_cases he : l = p.1
   ·rw [if_pos he] at h1
    injection h1 with h1
    obtain ⟨p1, p2⟩ := p
    simp only at he h1
    subst he; subst h1
    exact .inl rfl
   rw [if_neg he] at h1
   exact .inr ⟨find_mem h1, fun e => he e.symm⟩
  rintro (rfl | ⟨hp, hne⟩)
  ·exact find_mem (by rw [find_put, if_pos rfl])
  exact find_mem (x := p.2) (l := p.1) (by rw [find_put, if_neg (fun e => hne e.symm)]; exact mem_find h.ris hp)
 have hE : ∀ p : Lab × Spo, p.1 ≠ l → elA (fun k => if k = l then (x.A, x.c) else E k) p.1 p.2 = elA E p.1 p.2 := fun p hne => by unfold elA; simp only [if_neg hne]
 have hE2 : elA (fun k => if k = l then (x.A, x.c) else E k) l ⟨v, hs, x.r.abs⟩ = ⟨⟨l, v, ⟨x.A, x.c, x.r.abs.rn⟩⟩, hs⟩ := by unfold elA; simp only [if_true]
 refine ⟨_, fun k => if k = l then (x.A, x.c) else E k, ?_, hris, fun p hp => ?_, fun kl => ?_, hlen, fun p hp zd => ?_, fun p hp => ?_⟩
 ·rw [hlen] at hsz; exact hsz
 ·rcases (hin p).1 hp with rfl | ⟨hp, _⟩
  ·exact hl
  exact h.labs p hp
 ·by_cases he : kl = keyL l
  ·subst he
   rw [Maps.has_put_same hmp hkey]
   exact ⟨fun _ => ⟨_, (hin _).2 (.inl rfl), rfl⟩, fun _ => rfl⟩
  rw [Maps.has_put_other he, h.has]
  constructor
  ·rintro ⟨p, hp, hk⟩
   exact ⟨p, (hin p).2 (.inr ⟨hp, fun e => he (by rw [← hk, e])⟩), hk⟩
  rintro ⟨p, hp, hk⟩
  rcases (hin p).1 hp with rfl | ⟨hp, _⟩
  ·exact absurd hk.symm he
  exact ⟨p, hp, hk⟩
 ·rcases (hin p).1 hp with rfl | ⟨hp, hne⟩
  ·rw [Maps.atKey_put_same hmp hkey, hE2, hsim.1]
  rw [Maps.atKey_put_other (fun e => hne (keyL_inj (h.labs p hp) hl e)), hE p hne]
  exact h.at_ p hp zd
 rcases (hin p).1 hp with rfl | ⟨hp, hne⟩
 ·rw [hE2]; exact k.ok (hsim.2.2 _ _ hv)
 rw [hE p hne]; exact k.ok (h.ok p hp)
theorem hand_look {m0 : Nat → Nat → Prop} {w0 : World} {S : Nat → Prop} {ds : List Deferred} {D : DataW Value} {E : Adr} {b : Nat} {L : Shf} {l : Lab} (hl : LabOk l) {el : SpA} (hel : el = elA (adr E L) l (spotOf L l)) {hh : Bool} (hhh : hh = (findL l L).isSome) {all : List Oper} {j t1 t2 : Nat} (ho : ∀ o, all[j]? = some o → o.op = .lookup 104 (.tmp t1) (.tmp t2) true) :
  HandOK ⟨m0, w0, S, ds, shD D E b L⟩ Tryz.prog all (some (j, [.tmp t1, .tmp t2], [.raw (.map (some b)), labAV l], .tup [.agg (elC el), .bool (.v hh)])) := by
 intro i xs args v he o hio s a w hF hv
 simp only [Option.some.injEq, Prod.mk.injEq] at he
 obtain ⟨rfl, rfl, rfl, rfl⟩ := he
 have hop := ho o hio
 simp only [vals] at hv
 split at hv
 ·split at hv
  ·simp only [Option.map_some, Option.some.injEq, List.cons.injEq, and_true] at hv
   obtain ⟨h1, h2⟩ := hv
   have hSh : ShD D E b L (s.m ⟨m0, w0, S, ds, shD D E b L⟩) w := hF.kept
   obtain ⟨g1, g2⟩ := hSh.look hl
   subst hel
   have hr := lookup_run hop hF h1 h2 rfl labK map_und' (zeroEl_run w) hSh.map (key_lab hl) g1
   refine ⟨?_, .tup _ fun u hu => ?_⟩
   ·rw [hr, hSh.hasL hl, ← hhh]
    simp [AV.den, AV.denL, BE.den]
   simp only [List.mem_cons, List.not_mem_nil, or_false] at hu
   rcases hu with rfl | rfl
   ·exact g2
   exact .bool _
  simp at hv
 simp at hv
theorem shK_put {m : Nat → Nat → Prop} {w w' : World} {b : Nat} {L : Shf} {l : Lab} {D : DataW Value} {n : Nat} (h0 : MapW Tryz.prog 42 w b n D) (hl : LabOk l) (h : (shK b L).p m w) (k : KeepB (some b) w m w' m) {v : AV} {x : SpA} (hs : Sim v (.agg (elC x))) (hv : Ok m w v) (hM : MapW Tryz.prog 42 w' b (L.length + 1) (D.put (keyL l) (.held v.den))) : (shK b (putL l ⟨x.w.ver, x.has, x.w.x.r.abs⟩ L)).p m w' := by
 obtain ⟨D1, E1, h1⟩ := h
 have := mapW_fun h0 h1.map
 subst this
 rw [hs.1] at hM
 exact h1.put hl k x.w.ver x.has x.w.x (hs.2.2 _ _ hv) hM
section
variable {P : Program} {Q : Exit → Act → World → Prop} {ops : Array Oper}
theorem LeftS.re {bo : Option Nat} {m : Nat → Nat → Prop} {w w' : World} {pre pre' : List (Nat × Blk)} {sets sets' : List (Nat × List AV)} {news news' : List (Nat × Blk)} (h : LeftS bo m w w' pre sets news) (hp : pre'.map (·.2) = pre.map (·.2)) (hs : sets'.map (·.2) = sets.map (·.2)) (hk : sets'.map (·.1) = pre'.map (·.1)) (hn : news'.map (·.2) = news.map (·.2)) : LeftS bo m w w' pre' sets' news' := by
 have hm : mN m news' = mN m news := by funext b o; simp only [mN, ats_snd hn]
 have hu : (upd pre' sets' ++ news').map (·.2) = (upd pre sets ++ news).map (·.2) := by rw [List.map_append, List.map_append, upd_snd hp hs, hn]
 refine ⟨hk, all_snd (p := fun b => w'.heap[b.at_]? = some (.cells (b.cells.map AV.den).toArray b.ty (0, 0))) hu h.heap, all_snd (p := fun b => ∀ v ∈ b.cells, v.one = true ∧ Ok (mN m news') w' v) hu (hm ▸ h.ok), all_snd (p := fun b => w.heap.size ≤ b.at_) hn h.fresh, pair_snd hn h.dist, h.chg.mono fun k hk => hk.imp (ats_snd hp k).2 id⟩
theorem SpecM.re {f : FuncId} {args args' : List AV} {pre pre' : List (Nat × Blk)} {bo : Option Nat} {I : Kn} {res res' : Atom → CR} {J : Nat → Atom → Kn} (h : SpecM P f args pre bo I res J) (ha : SimL args' args) (hp : pre'.map (·.2) = pre.map (·.2))
  (hr : ∀ x, (res' x).sets.map (·.2) = (res x).sets.map (·.2) ∧ (res' x).sets.map (·.1) = pre'.map (·.1) ∧ Sim (res x).v (res' x).v ∧ (res' x).news.map (·.2) = (res x).news.map (·.2)) : SpecM P f args' pre' bo I res' J := by
 intro m w h1 h2 h3 hI
 rw [ha.map]
 refine (h m w h1 (ha.ok h2) (h3.re hp.symm) hI).mono ?_
 rintro e w' ⟨x, rfl, hok, hl, hb, hJ⟩
 obtain ⟨r1, r2, r3, r4⟩ := hr x
 have hm : mN m (res' x).news = mN m (res x).news := by funext b o; simp only [mN, ats_snd r4]
 exact ⟨x, by rw [r3.1], by rw [hm]; exact r3.2.2 _ _ hok, hl.re hp r1 r2 r4, hb, by rw [hm]; exact hJ⟩
theorem SpecM.args {f : FuncId} {args args' : List AV} {pre : List (Nat × Blk)} {bo : Option Nat} {I : Kn} {res : Atom → CR} {J : Nat → Atom → Kn} (h : SpecM P f args' pre bo I res J) (hs : SimL args args') : SpecM P f args pre bo I res J := by
 intro m w hm ha hp hI
 rw [hs.map]
 exact h m w hm (hs.ok ha) hp hI
end
theorem ShD.empty {m : Nat → Nat → Prop} {w : World} {b : Nat} (h : MapW Tryz.prog 42 w b 0 (.map [])) (E : Adr) : ShD (.map []) E b [] m w :=
 ⟨h, .nil, fun p hp => (by cases hp), fun kl => ⟨fun h => (by cases h), fun ⟨p, hp, _⟩ => (by cases hp)⟩, rfl, fun p hp => (by cases hp), fun p hp => (by cases hp)⟩
end
def rF (r : Option Nat) : Fence := { Fence.wide with round := r }
@[simp] theorem rF_round (r : Option Nat) : (rF r).round = r := rfl
theorem rF_room (r : Option Nat) (n : Nat) : (rF r).room n := fun d hd => by cases hd
theorem rF_fn (r : Option Nat) (f : FuncId) : (rF r).fn f := trivial
theorem rF_depth (r : Option Nat) (n : Nat) : (rF r).depth.isSome = true → 1 ≤ n := fun h => by cases h
section
variable {P : Program} {n : Nat} {r : Option Nat}
theorem calls_r {f : FuncId} {args : Array Value} {w : World} {R : Ending → World → Prop} (h : Calls P f args w R) : CallsIn (rF r) n P f args w R := callsIn_wide (n := n).2 h
theorem rows_r {row : String} {args : Array Value} {w : World} {R : Value → World → Prop} (h : Rows P row args w R) : RowsIn (rF r) n P row args w R := fun c cs _ => by
 obtain ⟨v, w', hr, hs⟩ := h c cs
 exact ⟨v, w', hr, stepsIn_wide.2 hs⟩
def noDefer (l : List Oper) : Bool := l.all fun o => match o.op with | .defer _ => false | _ => true
theorem oper_r {o : Oper} (hd : ∀ c, o.op ≠ .defer c) {a : Act} {w : World} {next next' : Act → World → Prop} {Q Q' : Exit → Act → World → Prop} (hN : ∀ a w, next a w → next' a w) (hQ : ∀ e a w, Q e a w → Q' e a w) (h : o.wp P a w next Q) : o.wpIn (rF r) n P a w next' Q' := by
 refine ⟨fun f _ => rF_fn r f, ?_⟩
 rw [Oper.semAt_eq _ _ _ hd]
 unfold Oper.wp at h
 generalize (execOp a.eval o).run P w = res at h
 have hmap : ∀ f args w', Calls P f args w' (fun | .returned v, w'' => next (a.put o.dst v) w'' | .panicked chain, w'' => Q (.panic chain) a w'' | .outgrown, _ => LetsOut Q) →
   Calls P f args w' (fun | .returned v, w'' => next' (a.put o.dst v) w'' | .panicked chain, w'' => Q' (.panic chain) a w'' | .outgrown, _ => LetsOut Q') := fun f args w' h => by
  refine h.mono ?_
  intro e w'' he
  cases e with
  | returned v => exact hN _ _ he
  | panicked chain => exact hQ _ _ _ he
  | outgrown => obtain ⟨a, w, he⟩ := he; exact ⟨a, w, hQ _ _ _ he⟩
 cases res with
 | ok nx w' =>
  cases nx with
  | value v => exact hN _ _ h
  | skip => exact hN _ _ h
  | defer d => exact hN _ _ h
  | enter f args => exact ⟨rF_depth r n, calls_r (hmap _ _ _ h)⟩
  | row row args => exact ⟨rF_depth r n, rows_r (h.mono fun v w' hv => hN _ _ hv)⟩
  | _ => exact h.elim
 | halt hh w' =>
  cases hh with
  | panic v => exact hQ _ _ _ h
  | _ => exact h.elim
theorem list_r {ops : Array Oper} {Q Q' : Exit → Act → World → Prop} {rest : List Oper} (hO : ∀ a w, ¬ Q .outgrown a w) (hQ : ∀ e a w, e ≠ .normal → Q e a w → Q' e a w) (hN : ∀ a w, Q .normal a w → wpListIn (rF r) n P ops Q' rest a w) :
  ∀ (L : List Oper) (a : Act) (w : World), noDefer L = true → wpList P ops Q L a w → wpListIn (rF r) n P ops Q' (L ++ rest) a w
 | [], a, w, _, h => hN a w h
 | o :: L, a, w, hd, h => by
  have hd1 : ∀ c, o.op ≠ .defer c := fun c e => by unfold noDefer at hd; simp [e] at hd
  have hd2 : noDefer L = true := by unfold noDefer at hd ⊢; rw [List.all_cons, Bool.and_eq_true] at hd; exact hd.2
  show (if Region.wanted o (yielded ops a.tmps) then o.wpIn (rF r) n P a w (wpListIn (rF r) n P ops Q' (L ++ rest)) Q' else (∀ f, o.about P w a.eval = some f → (rF r).fn f) ∧ wpListIn (rF r) n P ops Q' (L ++ rest) (a.put o.dst undef) w)
  unfold wpList at h
  by_cases hw : Region.wanted o (yielded ops a.tmps) = true
  ·rw [if_pos hw] at h ⊢
   rcases h with h | ⟨_, a', w', h⟩
   ·-- Q may be met at .normal by the list's end only
    have H : o.wp P a w (wpListIn (rF r) n P ops Q' (L ++ rest)) Q := by
     unfold Oper.wp at h ⊢
     generalize (execOp a.eval o).run P w = res at h
     cases res with
     | ok nx w' =>
      cases nx with
      | value v => exact list_r hO hQ hN L _ _ hd2 h
      | skip => exact list_r hO hQ hN L _ _ hd2 h
      | defer d => exact list_r hO hQ hN L _ _ hd2 h
      | enter f args =>
       refine Calls.mono h ?_
       intro e w'' he
       cases e with
       | returned v => exact list_r hO hQ hN L _ _ hd2 he
       | panicked chain => exact he
       | outgrown => exact he
      | row row args => exact Rows.mono h fun v w' hv => list_r hO hQ hN L _ _ hd2 hv
      | _ => exact h.elim
     | halt hh w' =>
      cases hh with
      | panic v => exact h
      | _ => exact h.elim
    have H2 : o.wp P a w (wpListIn (rF r) n P ops Q' (L ++ rest)) (fun e a w => e ≠ .normal ∧ Q e a w) := by
     unfold Oper.wp at H ⊢
     generalize (execOp a.eval o).run P w = res at H
     cases res with
     | ok nx w' =>
      cases nx with
      | value v => exact H
      | skip => exact H
      | defer d => exact H
      | enter f args =>
       refine Calls.mono H ?_
       intro e w'' he
       cases e with
       | returned v => exact he
       | panicked chain => exact ⟨by simp, he⟩
       | outgrown => obtain ⟨a, w, he⟩ := he; exact absurd he (hO a w)
      | row row args => exact H
      | _ => exact H.elim
     | halt hh w' =>
      cases hh with
      | panic v => exact ⟨by simp, H⟩
      | _ => exact H.elim
    exact oper_r hd1 (fun _ _ h => h) (fun e a w h => hQ e a w h.1 h.2) H2
   exact absurd h (hO _ _)
  rw [if_neg hw] at h ⊢
  exact ⟨fun f _ => rF_fn r f, list_r hO hQ hN L _ _ hd2 h⟩
theorem region_r {id : Nat} {l : List Oper} {Q : Exit → Act → World → Prop} {a : Act} {w : World} (hO : ∀ a w, ¬ Q .outgrown a w) (hd : noDefer l = true) (h : wpList P l.toArray Q l a w) : (Code.region id l.toArray false).wpIn (rF r) n P Q a w := by
 refine wpIn_region_lit ?_
 have := list_r (r := r) (n := n) (Q' := Q) (rest := []) hO (fun _ _ _ _ h => h) (fun _ _ h => h) l a w hd h
 rwa [List.append_nil] at this
def roundPostP (P : Program) (l : Nat) (R : Ending → World → Prop) : Exit → Act → World → Prop
 | .normal, _, w => ∃ v w', (Instr.endRound l none).run P w = .ok v w' ∧ R (.returned v) w'
 | .ret, _, w => ∃ v w', (Instr.endRound l (some .ret)).run P w = .ok v w' ∧ R (.returned v) w'
 | .exit id, _, w => ∃ v w', (Instr.endRound l (some (.exit id))).run P w = .ok v w' ∧ R (.returned v) w'
 | .goto t, _, w => ∃ v w', (Instr.endRound l (some (.goto t))).run P w = .ok v w' ∧ R (.returned v) w'
 | .panic chain, a, w => a.defers = [] ∧ R (.panicked chain) w
 | .outgrown, _, _ => False
theorem round_p {l : Nat} {f : FuncId} {fn : Func} (hfn : P.funcs[f]? = some fn) {tmps : Array Value} {assign body : Code} {w : World} {R : Ending → World → Prop}
  (h : assign.wpIn (rF (some l)) n P (Exit.then (fun a₁ w₁ => ∃ w₂, (Instr.beginRound l).run P w₁ = .ok () w₂ ∧ body.wpIn (rF (some l)) n P (roundPostP P l R) a₁ w₂) (fun _ _ _ => False)) { tmps := tmps, defers := [] } w) :
  RoundIn (rF none) n P l f tmps assign body w R := by
 refine ⟨rF_fn none f, fun c cs hr => ?_⟩
 let b : Frame := { (default : Frame) with fn := f, kind := .normal, roundOf := some l }
 have hb0 : Frame.round l f tmps assign body .normal = b.atR { tmps := tmps, defers := [] } [.code assign, .beginRound, .code body] := by
  simp [Frame.round, Frame.atR, b]
 have hro : b.roundOf = (rF (some l)).round := rfl
 obtain ⟨e, a₁, w₁, hq, harr⟩ := h b [.beginRound, .code body] (c :: cs) hro (rF_fn _ _) (rF_room _ _)
 rw [← hb0] at harr
 cases e with
 | normal =>
  obtain ⟨w₂, hbr, hbody⟩ := hq
  have s1 : StepsIn (Machine.fenced P (rF (some l))) P (lone (b.atR a₁ [.beginRound, .code body]) (c :: cs) w₁) (lone (b.atR a₁ [.code body]) (c :: cs) w₂) :=
   .one (fenced_wide P _) (stepR_beginRound rfl hbr)
  obtain ⟨e₂, a₂, w₃, hq₂, harr₂⟩ := hbody b [] (c :: cs) hro (rF_fn _ _) (rF_room _ _)
  cases e₂ with
  | normal =>
   obtain ⟨v, w₄, hend, hR⟩ := hq₂
   exact ⟨.returned v, w₄, hR, (StepsIn.trans harr s1).trans (StepsIn.trans harr₂ (.one (fenced_wide P _) (stepR_round_end rfl rfl hend)))⟩
  | ret =>
   obtain ⟨v, w₄, hend, hR⟩ := hq₂
   obtain ⟨k₁, hs⟩ := harr₂.2 rfl
   exact ⟨.returned v, w₄, hR, (StepsIn.trans harr s1).trans (StepsIn.trans hs (.one (fenced_wide P _) (stepR_round_ret rfl rfl hend)))⟩
  | exit id =>
   obtain ⟨v, w₄, hend, hR⟩ := hq₂
   obtain ⟨k₁, hk, hs⟩ := harr₂.2 rfl rfl
   exact ⟨.returned v, w₄, hR, (StepsIn.trans harr s1).trans (StepsIn.trans hs (.one (fenced_wide P _) (stepR_round_exit rfl rfl hk hend)))⟩
  | goto t =>
   obtain ⟨v, w₄, hend, hR⟩ := hq₂
   obtain ⟨k₁, hk, hs⟩ := harr₂.2 rfl rfl
   exact ⟨.returned v, w₄, hR, (StepsIn.trans harr s1).trans (StepsIn.trans hs (.one (fenced_wide P _) (stepR_round_goto rfl rfl hk hend)))⟩
  | panic chain =>
   obtain ⟨hd, hR⟩ := hq₂
   obtain ⟨todo, hs⟩ := harr₂
   exact ⟨.panicked chain, w₃, hR, (StepsIn.trans harr s1).trans (StepsIn.trans hs (.one (fenced_wide P _) (step_leave_panicked (fr := { b.atR a₂ todo with mode := .panicking chain }) ⟨rfl, hd, fn, hfn⟩)))⟩
  | outgrown => exact hq₂.elim
 | exit id => exact hq.elim
 | goto t => exact hq.elim
 | ret => exact hq.elim
 | panic chain => exact hq.elim
 | outgrown => exact hq.elim
end
def wpN (fn : FuncId) (P : Program) (c : Code) (Q : Exit → Act → World → Prop) (a : Act) (w : World) : Prop :=
 ∀ (b : Frame) (k : List Item) (cs : List Frame), b.fn = fn → ∃ e a' w', Q e a' w' ∧ Arrives P (lone (b.at a (.code c :: k)) cs w) b k cs e a' w'
section
variable {P : Program} {fn : FuncId} {Q : Exit → Act → World → Prop} {a : Act} {w : World}
theorem wpN_of {c : Code} (h : c.wp P Q a w) : wpN fn P c Q a w := fun b k cs _ => h b k cs
theorem wpN_seq {x y : Code} (h : wpN fn P x (Exit.then (wpN fn P y Q) Q) a w) : wpN fn P (Code.seq x y) Q a w := by
 intro b k cs hb
 obtain ⟨e, a₁, w₁, hq, harr⟩ := h b (.code y :: k) cs hb
 cases e with
 | normal =>
  obtain ⟨e₂, a₂, w₂, hq₂, harr₂⟩ := hq b k cs hb
  exact ⟨e₂, a₂, w₂, hq₂, .of_steps (.head step_seq harr) harr₂⟩
 | exit id => exact ⟨_, a₁, w₁, hq, .of_steps (.one step_seq) (.pass (x := .code y) rfl (fun _ _ => .inl (by simp)) harr)⟩
 | goto l => exact ⟨_, a₁, w₁, hq, .of_steps (.one step_seq) (.pass (x := .code y) rfl (fun _ _ => .inl (by simp)) harr)⟩
 | ret => exact ⟨_, a₁, w₁, hq, .of_steps (.one step_seq) (.pass (x := .code y) rfl (fun _ _ => .inl (by simp)) harr)⟩
 | panic ch => exact ⟨_, a₁, w₁, hq, .of_steps (.one step_seq) (.pass (x := .code y) rfl (fun _ _ => .inl (by simp)) harr)⟩
 | outgrown => exact ⟨_, a₁, w₁, hq, .of_steps (.one step_seq) (.pass (x := .code y) rfl (fun _ _ => .inl (by simp)) harr)⟩
theorem wpN_cond {c : Operand} {x y : Code} {t : Bool} (hc : a.eval c = .bool t) (h : wpN fn P (if t then x else y) Q a w) : wpN fn P (Code.cond c x y) Q a w :=
 fun b k cs hb => let ⟨e, a', w', q, r⟩ := h b k cs hb; ⟨e, a', w', q, .of_steps (.one (step_cond hc)) r⟩
def rangeN (P : Program) (l : Nat) (Q : Exit → Act → World → Prop) (a' : Act) : Ending → World → Prop
 | .returned _, w₃ => ∃ jump w₄, (Instr.endLoop l).run P w₃ = .ok jump w₄ ∧ (match jump with
   | none => Q .normal a' w₄
   | some c => c.wp P Q a' w₄)
 | .panicked chain, w₃ => Q (.panic chain) a' w₃
 | .outgrown, _ => LetsOut Q
def loopRec (fn : FuncId) (a : Act) (ps : Array Tmp) (assign body : Code) (D : Nat) (st : LoopState) (pe : Option Code) : Loop := { state := st, pending := pe, fn, tmps := a.tmps, params := ps, assign, body, defers := D }
def loopW (fn : FuncId) (a : Act) (ps : Array Tmp) (assign body : Code) (w : World) : World := (w.alloc (.deferred (some []))).alloc (.loop (loopRec fn a ps assign body w.heap.size .ready none))
theorem wpN_range {g : Operand} {ps : Array Tmp} {assign body : Code} {gf : Nat} {lb : Array Value} (hg : a.eval g = .func (.func gf) #[] lb) (eg : ∀ args w, (callFunc gf args).run P w = .ok (.enter gf args) w)
  (h : Calls P gf (#[.func (.yield (w.heap.size + 1)) #[] #[]] ++ lb) (loopW fn a ps assign body w) (rangeN P (w.heap.size + 1) Q { a with defers := { target := .collected w.heap.size, args := #[] } :: a.defers })) :
  wpN fn P (Code.rangeFunc g ps assign body) Q a w := by
 intro b0 k cs hb
 have hat : ∀ a k, b0.at a k = ({ b0 with roundOf := none } : Frame).atR a k := fun a k => (Frame.atR_of_none (b := { b0 with roundOf := none }) rfl a k).symm
 obtain ⟨b, hbd⟩ := eqv (({ b0 with roundOf := none } : Frame))
 have hro : b.roundOf = none := by rw [hbd]
 have hbf : b.fn = fn := by rw [hbd]; exact hb
 have he : (Instr.enterLoop b.fn a.tmps ps assign body b.roundOf).run P w = .ok (w.heap.size + 1, [{ target := .collected w.heap.size, args := #[] }]) (loopW fn a ps assign body w) := by
  rw [hro, hbf]; exact run_enterLoop_outer _ _ _ _ _
 have hres : (resolve a.eval (rangeCall g (w.heap.size + 1)) 0).run P (loopW fn a ps assign body w) = .ok { target := .fn (.func gf) lb, args := #[.func (.yield (w.heap.size + 1)) #[] #[]] } (loopW fn a ps assign body w) := by
  simp only [resolve, hg]
  simp [go_sem]
 have hinv : (invoke (.fn (.func gf) lb) #[.func (.yield (w.heap.size + 1)) #[] #[]]).run P (loopW fn a ps assign body w) = .ok (.enter gf (#[.func (.yield (w.heap.size + 1)) #[] #[]] ++ lb)) (loopW fn a ps assign body w) := by
  simp [invoke, go_sem, eg]
 have henter := stepR_rangeFunc (P := P) (b := b) (a := a) (k := k) (cs := cs) (w := w) he hres hinv
 obtain ⟨e, w₃, fr, hR, hsteps, hfn, hleave⟩ := h (b.atR { a with defers := [{ target := .collected w.heap.size, args := #[] }] ++ a.defers } (.inRangeFunc (w.heap.size + 1) :: k) :: cs)
 have hbk : ∀ a k, b.atR a k = b0.at a k := fun a k => by rw [hbd, hat]
 rw [← hbk]
 cases e with
 | outgrown =>
  obtain ⟨a₀, w₀, hq⟩ := hR
  exact ⟨.outgrown, a₀, w₀, hq, .inr (Outgrown.of_steps (.one henter) hsteps)⟩
 | returned v =>
  obtain ⟨jump, w₄, hend, hj⟩ := hR
  have sback : Steps P (lone (b.atR a (.code (.rangeFunc g ps assign body) :: k)) cs w) (lone (b.atR { a with defers := [{ target := .collected w.heap.size, args := #[] }] ++ a.defers } ((jump.map Item.code).toList ++ k)) cs w₄) := by
   refine .head henter (Steps.trans hsteps (.head ?_ (.one (stepR_endRangeFunc hend))))
   rw [← finish_atR_inRangeFunc (w.heap.size + 1) v]; exact step_leave_returned hleave
  cases jump with
  | none => exact ⟨.normal, _, w₄, hj, by rw [hbk] at sback ⊢; rw [hbk] at sback; exact sback⟩
  | some c =>
   obtain ⟨e', a'', w₅, hq, harr⟩ := hj b0 k cs
   refine ⟨e', a'', w₅, hq, .of_steps sback ?_⟩
   rw [hbk]; exact harr
 | panicked chain =>
  refine ⟨.panic chain, _, w₃, hR, .inRangeFunc (w.heap.size + 1) :: k, .head henter (Steps.trans hsteps (.one ?_))⟩
  rw [← hbk, ← Frame.raise_atR]; exact step_leave_panicked hleave
theorem calls_marks {f : FuncId} {fd : Func} {c : Code} {args : Array Value} {R : Ending → World → Prop} (hf : P.funcs[f]? = some fd) (hb : fd.body = some c)
  (h : wpN f P c (bodyPostM Fence.wide 0 P fd R) { tmps := args ++ Array.replicate (fd.ntmps - args.size) undef, defers := [] } w) : Calls P f args w R := by
 intro cs
 let b : Frame := { (default : Frame) with fn := f, kind := .normal }
 have henter : Frame.enter P f args .normal = b.at { tmps := args ++ Array.replicate (fd.ntmps - args.size) undef, defers := [] } [.code c] := by
  simp [Frame.enter, Frame.at, hf, hb, b]
 obtain ⟨e, a', w', hq, harr⟩ := h b [] cs rfl
 rw [← henter] at harr
 cases e with
 | normal =>
  obtain ⟨e', w'', fr', hR, hs, hfn, hl⟩ := leaves_stepsInM (F := Fence.wide) a'.defers .returning w' { b.at a' [] with mode := .returning } cs rfl rfl rfl hf rfl trivial (room_wide _) hq
  exact ⟨e', w'', fr', hR, Comes.of_steps (Steps.trans harr (.one step_end)) (comesIn_wide.1 hs), hfn, hl⟩
 | ret =>
  obtain ⟨todo, hs₀⟩ := harr
  obtain ⟨e', w'', fr', hR, hs, hfn, hl⟩ := leaves_stepsInM (F := Fence.wide) a'.defers .returning w' { b.at a' todo with mode := .returning } cs rfl rfl rfl hf rfl trivial (room_wide _) hq
  exact ⟨e', w'', fr', hR, Comes.of_steps hs₀ (comesIn_wide.1 hs), hfn, hl⟩
 | panic chain =>
  obtain ⟨todo, hs₀⟩ := harr
  obtain ⟨e', w'', fr', hR, hs, hfn, hl⟩ := leaves_stepsInM (F := Fence.wide) a'.defers (.panicking chain) w' { b.at a' todo with mode := .panicking chain } cs rfl rfl rfl hf rfl trivial (room_wide _) hq
  exact ⟨e', w'', fr', hR, Comes.of_steps hs₀ (comesIn_wide.1 hs), hfn, hl⟩
 | exit id => exact hq.elim
 | goto l => exact hq.elim
 | outgrown => exact ⟨.outgrown, w', b, hq, harr.resolve_left (by simp [b]), rfl, trivial⟩
end
section
variable {m0 : Nat → Nat → Prop} {w0 w w' : World} {S : Nat → Prop} {ds : List Deferred} {K : Kn} {s : St} {a : Act} {P : Program}
theorem Fits.redefer (h : Fits ⟨m0, w0, S, ds, K⟩ s a w) (ds' : List Deferred) : Fits ⟨m0, w0, S, ds', K⟩ s { a with defers := ds' } w :=
 ⟨h.size, rfl, h.slot, h.gs, h.mem, h.nodup, h.gr, h.sepm, h.sepg, h.chg, h.m0, h.kept⟩
abbrev markD (D : Nat) : Deferred := { target := .collected D, args := #[] }
theorem loopW_below (fn : FuncId) (a : Act) (ps : Array Tmp) (assign body : Code) (w : World) : Below w.heap.size w (loopW fn a ps assign body w) :=
 ((Below.refl _ w).alloc (Nat.le_refl _) _).alloc (by simp) _
theorem loopW_rec (fn : FuncId) (a : Act) (ps : Array Tmp) (assign body : Code) (w : World) : (loopW fn a ps assign body w).heap[w.heap.size + 1]? = some (.loop (loopRec fn a ps assign body w.heap.size .ready none)) := by
 have := World.alloc_heap_new (w.alloc (.deferred (some []))) (.loop (loopRec fn a ps assign body w.heap.size .ready none))
 rwa [World.size_alloc] at this
theorem loopW_mark (fn : FuncId) (a : Act) (ps : Array Tmp) (assign body : Code) (w : World) : (loopW fn a ps assign body w).heap[w.heap.size]? = some (.deferred (some [])) :=
 (Below.heap_alloc _ _ _ (by simp)).trans (World.alloc_heap_new w _)
theorem Fits.loop (h : Fits ⟨m0, w0, S, [], K⟩ s a w) (fn : FuncId) (ps : Array Tmp) (assign body : Code) : Fits ⟨m0, w0, S, [markD w.heap.size], K⟩ s { a with defers := [markD w.heap.size] } (loopW fn a ps assign body w) :=
 (h.below (loopW_below fn a ps assign body w)).redefer _
end
section
variable {m0 : Nat → Nat → Prop} {w0 wi w : World} {S : Nat → Prop} {ds di : List Deferred} {K : Kn} {s si : St} {a ai : Act}
def recK (l : Nat) (r : Loop) (D : Nat) : Kn := ⟨fun _ w => w.heap[l]? = some (.loop r) ∧ w.heap[D]? = some (.deferred (some [])), fun k h => ⟨k.obj _ _ h.1 (fun _ _ _ e => by cases e), k.obj _ _ h.2 (fun _ _ _ e => by cases e)⟩⟩
theorem over (hc : Fits ⟨m0, w0, S, ds, K⟩ s a wi) {pre : List (Nat × Blk)} (hi : Fits ⟨s.m ⟨m0, w0, S, ds, K⟩, wi, ats pre, di, noK⟩ si ai w) (hdist : pre.Pairwise fun e f => e.2.at_ ≠ f.2.at_) (hp : ∀ e ∈ pre, lookM s.mem e.1 = some e.2) {sets : List (Nat × List AV)} {news : List (Nat × Blk)} {ks : List Nat} (hs : SetsOk si pre sets) (hn : NewsOk si pre ks news) :
  Fits ⟨m0, w0, S, ds, K⟩ (s.eff (.sets (upd pre sets ++ news))) a w ∧ ∀ v, Ok (si.m ⟨s.m ⟨m0, w0, S, ds, K⟩, wi, ats pre, di, noK⟩) w v → Ok ((s.eff (.sets (upd pre sets ++ news))).m ⟨m0, w0, S, ds, K⟩) w v := by
 obtain ⟨hl, hok⟩ := left_ok hi hs hn
 obtain ⟨f1, f2⟩ := hc.called hdist hp hl
 exact ⟨f1, fun v hv => f2 v (hok v hv)⟩
end
section
variable {C : Cx} {P : Program} {Q : Exit → Act → World → Prop} {ops : Array Oper} {s : St} {a : Act} {w : World} {L rest : List Oper} {o : Oper}
abbrev yV (l : Nat) : AV := .raw (.func (.yield l) #[] #[])
theorem yield_run {c : Call} {g : Operand} {l : Nat} {args : List AV} (hop : o.op = .call c) (hcal : c.callee = .value g) (h : Fits C s a w) (hgv : val s [] g = yV l) (hl : vals s [] c.args.toList = some args) {rc : Loop} (hr : w.heap[l]? = some (.loop rc)) (hsz : args.length = rc.params.size) :
  (execOp a.eval o).run P w = .ok (.round l rc.fn ((rc.params.zip (args.map AV.den).toArray).foldl (fun tmps (t, a) => tmps.setIfInBounds t a) rc.tmps) rc.assign rc.body) w ∧ ∀ v ∈ args, Ok (s.m C) w v := by
 obtain ⟨h1, h2⟩ := vals_ok h (fun _ h => by cases h) hl
 have hg := val_ok h (q := []) (fun _ h => by cases h) (x := g) (by rw [hgv]; rfl)
 rw [hgv] at hg
 have hargs : c.args.map a.eval = (args.map AV.den).toArray := by
  apply Array.ext'
  simpa using h1
 have e1 : a.eval g = .func (.yield l) #[] #[] := hg.1
 refine ⟨?_, h2⟩
 have hy := run_yield (P := P) (args := (args.map AV.den).toArray) hr (by simpa using hsz)
 simp [execOp, hop, resolve, hcal, e1, Deferred.ofValue, invoke, hargs]
 simpa using hy
theorem wanted_of {i g : Nat} {want : Bool} (hg : o.guard = some (i, want)) (hd : (ops[i]?).bind (·.dst) = some g) (h : Fits C s a w) (hv : look s.tmps g = .bool (if want then .tt else .ff)) : Region.wanted o (yielded ops a.tmps) = true := by
 have h1 := (h.slot g (by rw [hv]; cases want <;> rfl)).1
 rw [hv] at h1
 simp only [Region.wanted, hg, yielded, hd, Option.bind_some]
 cases want <;> simp [h1, AV.den, BE.den]
theorem man_yieldW {c : Call} {g : Operand} {l : Nat} {args : List AV} (hL : L = o :: rest) (hw : Region.wanted o (yielded ops a.tmps) = true) (hop : o.op = .call c) (hcal : c.callee = .value g) (h : Fits C s a w) (hgv : val s [] g = yV l) (hl : vals s [] c.args.toList = some args) {rc : Loop} (hr : w.heap[l]? = some (.loop rc)) (hsz : args.length = rc.params.size)
  (K : (∀ v ∈ args, Ok (s.m C) w v) → RoundIn (rF none) 0 P l rc.fn ((rc.params.zip (args.map AV.den).toArray).foldl (fun tmps (t, a) => tmps.setIfInBounds t a) rc.tmps) rc.assign rc.body w fun
   | .returned v, w'' => wpListIn (rF none) 0 P ops Q rest (a.put o.dst v) w''
   | .panicked chain, w'' => Q (.panic chain) a w''
   | .outgrown, _ => LetsOut Q) : wpListIn (rF none) 0 P ops Q L a w := by
 subst hL
 obtain ⟨hrun, hok⟩ := yield_run (P := P) hop hcal h hgv hl hr hsz
 show (if Region.wanted o (yielded ops a.tmps) then o.wpIn (rF none) 0 P a w (wpListIn (rF none) 0 P ops Q rest) Q else _)
 rw [if_pos hw]
 refine ⟨fun f _ => rF_fn none f, ?_⟩
 rw [Oper.semAt_eq _ _ _ (fun c' e => by rw [hop] at e; cases e), hrun]
 exact ⟨rF_depth none 0, K hok⟩
end
section
variable {P : Program} {w : World}
def roundEnd (l : Nat) (r : Loop) (R : Ending → World → Prop) : Exit → Act → World → Prop
 | .normal, _, w => w.heap[l]? = some (.loop { r with state := .busy }) ∧ R (.returned (.bool true)) (w.putObj l (.loop { r with state := .ready, pending := none }))
 | .ret, _, w => w.heap[l]? = some (.loop { r with state := .busy }) ∧ R (.returned (.bool false)) (w.putObj l (.loop { r with state := .done, pending := some .ret }))
 | .exit id, _, w => w.heap[l]? = some (.loop { r with state := .busy }) ∧ R (.returned (.bool false)) (w.putObj l (.loop { r with state := .done, pending := some (.exit id) }))
 | .goto t, _, w => w.heap[l]? = some (.loop { r with state := .busy }) ∧ R (.returned (.bool false)) (w.putObj l (.loop { r with state := .done, pending := some (.goto t) }))
 | .panic chain, a, w => a.defers = [] ∧ R (.panicked chain) w
 | .outgrown, _, _ => False
theorem round_of {l : Nat} {r : Loop} {fd : Func} (hfn : P.funcs[r.fn]? = some fd) (hst : r.state = .ready) {tmps : Array Value} {R : Ending → World → Prop}
  (h : r.assign.wpIn (rF (some l)) 0 P (Exit.then (fun a₁ w₁ => w₁.heap[l]? = some (.loop r) ∧ r.body.wpIn (rF (some l)) 0 P (roundEnd l r R) a₁ (w₁.putObj l (.loop { r with state := .busy }))) (fun _ _ _ => False)) { tmps := tmps, defers := [] } w) :
  RoundIn (rF none) 0 P l r.fn tmps r.assign r.body w R := by
 refine round_p hfn (wpIn_mono h ?_)
 intro e a₁ w₁ he
 cases e with
 | normal =>
  obtain ⟨hl, hb⟩ := he
  refine ⟨_, run_beginRound hl hst, wpIn_mono hb ?_⟩
  intro e a w he
  cases e with
  | normal => exact ⟨_, _, run_endRound none he.1, he.2⟩
  | ret => exact ⟨_, _, run_endRound (some .ret) he.1, he.2⟩
  | exit id => exact ⟨_, _, run_endRound (some (.exit id)) he.1, he.2⟩
  | goto t => exact ⟨_, _, run_endRound (some (.goto t)) he.1, he.2⟩
  | panic chain => exact he
  | outgrown => exact he
 | exit id => exact he
 | goto t => exact he
 | ret => exact he
 | panic chain => exact he
 | outgrown => exact he
def St.puts (s : St) : List (Nat × AV) → St
 | [] => s
 | e :: l => (s.put (some e.1) e.2).puts l
theorem Fits.puts {C : Cx} : ∀ {l : List (Nat × AV)} {s : St} {a : Act}, Fits C s a w → (∀ e ∈ l, e.1 < s.nt ∧ Ok (s.m C) w e.2) → Fits C (s.puts l) { a with tmps := l.foldl (fun t e => t.setIfInBounds e.1 e.2.den) a.tmps } w
 | [], s, a, h, _ => h
 | e :: l, s, a, h, hl => by
  obtain ⟨h1, h2⟩ := hl e (by simp)
  have hp := h.put (some e.1) (fun t ht => by injection ht with ht; subst ht; exact h1) e.2 (fun _ => h2) e.2.den (fun _ => rfl)
  exact Fits.puts (l := l) hp fun e' he' => hl e' (by simp [he'])
end
section
variable {C : Cx} {P : Program} {Q : Exit → Act → World → Prop} {T : List (Nat × TI)} {s : St} {a : Act} {w : World} {B : Alg} {r : Option Nat}
theorem rpre {all L : List Oper} {R : Alg → (Nat → Atom) → St × List Ob} (i n : Nat) (hB : B = std) (hT : TabOK P T) (kp km : List Nat) (cs : List (Nat × CS)) (h : Fits C s a w) (hO : ∀ a w, ¬ Q .outgrown a w) (hQ : ∀ X a' w', Fits C (R B X).1 a' w' → wpListIn (rF r) 0 P all.toArray Q (L.drop n) a' w')
  (hex : ∀ A X, (exec A T cs X all (number i (L.take n)) s).map (fun r => (r.1.keep kp km, r.2.1)) = some (R A X)) (hob : ∀ X, AO P C.K (R B X).2) (hd : noDefer (L.take n) = true) : wpListIn (rF r) 0 P all.toArray Q L a w := by
 have h1 : wpList P all.toArray (Exit.then (fun a w => wpListIn (rF r) 0 P all.toArray Q (L.drop n) a w) Q) (L.take n) a w := leB i hB hT kp km cs h hex hob fun X a' w' hf => hQ X a' w' hf
 have h2 := list_r (r := r) (n := 0) (ops := all.toArray) (Q := Exit.then (fun a w => wpListIn (rF r) 0 P all.toArray Q (L.drop n) a w) Q) (Q' := Q) (rest := L.drop n) (fun a w h => hO a w h) (fun e a w hne h => by cases e <;> first | exact absurd rfl hne | exact h) (fun a w h => h) (L.take n) a w hd h1
 rwa [List.take_append_drop] at h2
theorem rlpr {all L : List Oper} {R : Alg → (Nat → Atom) → St × List Ob} (i n : Nat) (hB : B = std) (hT : TabOK P T) (kp km : List Nat) (cs : List (Nat × CS)) (h : Fits C s a w) (hQ : ∀ X a' w', Fits C (R B X).1 a' w' → wpListIn (rF r) 0 P all.toArray Q (L.drop n) a' w')
  (hO : ∀ a w, ¬ Q .outgrown a w := by first | exact fun _ _ h => h | (intro a w h; obtain ⟨x, h, _⟩ := h; cases h))
  (hex : ∀ A X, (exec A T cs X all (number i (L.take n)) s).map (fun r => (r.1.keep kp km, r.2.1)) = some (R A X) := by intro A X; conv => lhs; cbv) (hob : ∀ X, AO P C.K (R B X).2 := by
   intro X; subst hB
   first
   | exact trivial
   | (simp only [AO, Ob.holds, BE.den] <;> and_intros <;> (repeat first | trivial | rfl | exact O1 | exact O2 | exact O3 | exact (fun _ _ => by kernel_rfl) | exact O1 _ _ _ rfl | exact O2 _ _ _ rfl | refine ⟨?_, ?_⟩ | intro h | decide | omega) <;> done)
   | (simp [AO, Ob.holds, BE.den, std, sC, sAr] <;> omega)) (hd : noDefer (L.take n) = true := by rfl) : wpListIn (rF r) 0 P all.toArray Q L a w := rpre i n hB hT kp km cs h hO hQ hex hob hd
theorem rlnd {all L : List Oper} {R : Alg → (Nat → Atom) → St × List Ob} (i : Nat) (hB : B = std) (hT : TabOK P T) (kp km : List Nat) (cs : List (Nat × CS)) (h : Fits C s a w) (hQ : ∀ X a' w', Fits C (R B X).1 a' w' → Q .normal a' w')
  (hO : ∀ a w, ¬ Q .outgrown a w := by first | exact fun _ _ h => h | (intro a w h; obtain ⟨x, h, _⟩ := h; cases h))
  (hex : ∀ A X, (exec A T cs X all (number i L) s).map (fun r => (r.1.keep kp km, r.2.1)) = some (R A X) := by intro A X; conv => lhs; cbv) (hob : ∀ X, AO P C.K (R B X).2 := by
   intro X; subst hB
   first
   | exact trivial
   | (simp only [AO, Ob.holds, BE.den] <;> and_intros <;> (repeat first | trivial | rfl | exact O1 | exact O2 | exact O3 | exact (fun _ _ => by kernel_rfl) | exact O1 _ _ _ rfl | exact O2 _ _ _ rfl | refine ⟨?_, ?_⟩ | intro h | decide | omega) <;> done)
   | (simp [AO, Ob.holds, BE.den, std, sC, sAr] <;> omega)) (hd : noDefer L = true := by rfl) : wpListIn (rF r) 0 P all.toArray Q L a w := by
 have h1 := list_r (r := r) (n := 0) (Q' := Q) (rest := []) (fun a w h => hO a w h) (fun e a w hne h => h) (fun a w h => h) L a w hd (leB (Q := Q) i hB hT kp km cs h hex hob hQ)
 rwa [List.append_nil] at h1
theorem rrg {id : Nat} {l : List Oper} {R : Alg → (Nat → Atom) → St × List Ob} (hB : B = std) (hT : TabOK P T) (kp km : List Nat) (cs : List (Nat × CS)) (h : Fits C s a w) (hQ : ∀ X a' w', Fits C (R B X).1 a' w' → Q .normal a' w')
  (hO : ∀ a w, ¬ Q .outgrown a w := by first | exact fun _ _ h => h | (intro a w h; obtain ⟨x, h, _⟩ := h; cases h))
  (hex : ∀ A X, (exec A T cs X l (number 0 l) s).map (fun r => (r.1.keep kp km, r.2.1)) = some (R A X) := by intro A X; conv => lhs; cbv) (hob : ∀ X, AO P C.K (R B X).2 := by
   intro X; subst hB
   first
   | exact trivial
   | (simp only [AO, Ob.holds, BE.den] <;> and_intros <;> (repeat first | trivial | rfl | exact O1 | exact O2 | exact O3 | exact (fun _ _ => by kernel_rfl) | exact O1 _ _ _ rfl | exact O2 _ _ _ rfl | refine ⟨?_, ?_⟩ | intro h | decide | omega) <;> done)
   | (simp [AO, Ob.holds, BE.den, std, sC, sAr] <;> omega)) (hd : noDefer l = true := by rfl) : (Code.region id l.toArray false).wpIn (rF r) 0 P Q a w :=
 region_r hO hd (leB (all := l) 0 hB hT kp km cs h hex hob hQ)
end
section
variable {P : Program} {Q : Exit → Act → World → Prop} {C : Cx} {nt t : Nat} {b : Bool} {l : List (Nat × AV)} {mem : List (Nat × Blk)} {gr : List (Nat × Gr)} {a : Act} {w : World} {x y : Code} {r : Option Nat}
theorem rcond {s : St} (h : Fits C s a w) (hv : look s.tmps t = .bool (.v b)) (h1 : b = true → x.wpIn (rF r) 0 P Q a w) (h2 : b = false → y.wpIn (rF r) 0 P Q a w) : (Code.cond (.tmp t) x y).wpIn (rF r) 0 P Q a w := by
 have := (h.slot t (by rw [hv]; rfl)).1
 rw [hv] at this
 refine wpIn_cond_split (t := b) ?_ h1 h2
 simp [Act.eval, this, AV.den, BE.den]
theorem rcond_tt {s : St} (h : Fits C s a w) (hv : look s.tmps t = .bool .tt) (h1 : x.wpIn (rF r) 0 P Q a w) : (Code.cond (.tmp t) x y).wpIn (rF r) 0 P Q a w := by
 have := (h.slot t (by rw [hv]; rfl)).1
 rw [hv] at this
 exact wpIn_cond_true (by simp [Act.eval, this, AV.den, BE.den]) h1
theorem rcond_ff {s : St} (h : Fits C s a w) (hv : look s.tmps t = .bool .ff) (h1 : y.wpIn (rF r) 0 P Q a w) : (Code.cond (.tmp t) x y).wpIn (rF r) 0 P Q a w := by
 have := (h.slot t (by rw [hv]; rfl)).1
 rw [hv] at this
 exact wpIn_cond_false (by simp [Act.eval, this, AV.den, BE.den]) h1
theorem rtest_ok (h : Fits C ⟨nt, (t, .bool (.v b)) :: l, [], mem, gr⟩ a w) (hd : (look l t).known = false) (h1 : b = true → Fits C ⟨nt, l, [], mem, gr⟩ a w → x.wpIn (rF r) 0 P Q a w) (h2 : b = false → Fits C ⟨nt, l, [], mem, gr⟩ a w → y.wpIn (rF r) 0 P Q a w) : (Code.cond (.tmp t) x y).wpIn (rF r) 0 P Q a w :=
 rcond h (by show look ((t, _) :: l) t = _; rw [look_cons, if_pos rfl]) (fun hb => h1 hb (h.tail hd)) (fun hb => h2 hb (h.tail hd))
theorem rtest_tt (h : Fits C ⟨nt, (t, .bool .tt) :: l, [], mem, gr⟩ a w) (hd : (look l t).known = false) (h1 : Fits C ⟨nt, l, [], mem, gr⟩ a w → x.wpIn (rF r) 0 P Q a w) : (Code.cond (.tmp t) x y).wpIn (rF r) 0 P Q a w :=
 rcond_tt h (by show look ((t, _) :: l) t = _; rw [look_cons, if_pos rfl]) (h1 (h.tail hd))
theorem rtest_ff (h : Fits C ⟨nt, (t, .bool .ff) :: l, [], mem, gr⟩ a w) (hd : (look l t).known = false) (h1 : Fits C ⟨nt, l, [], mem, gr⟩ a w → y.wpIn (rF r) 0 P Q a w) : (Code.cond (.tmp t) x y).wpIn (rF r) 0 P Q a w :=
 rcond_ff h (by show look ((t, _) :: l) t = _; rw [look_cons, if_pos rfl]) (h1 (h.tail hd))
end
section
variable {P : Program} {Q : Exit → Act → World → Prop} {r : Option Nat} {m0 : Nat → Nat → Prop} {w0 : World} {S : Nat → Prop} {ds : List Deferred}
theorem rloop_any {ι : Type} (I : ι → Act → World → Prop) (J : ι → Prop) (μ : ι → Nat) {c : Code} {a : Act} {w : World} (p₀ : ι) (h₀ : J p₀) (hf : I p₀ a w)
  (round : ∀ p, J p → ∀ a w, I p a w → c.wpIn (rF r) 0 P (Exit.then (fun a' w' => ∃ p', J p' ∧ μ p' < μ p ∧ I p' a' w') Q) a w) : (Code.loop c).wpIn (rF r) 0 P Q a w := by
 intro b k fs hro hb hr
 have key : ∀ n p a w, μ p = n → J p → I p a w →
   ∃ e a' w', Q e a' w' ∧ ArrivesIn (Machine.fenced P (rF r)) P (lone (b.atR a (.code c :: .inLoop c :: k)) fs w) b k fs e a' w' := by
  intro n
  induction n using Nat.strongRecOn with
  | _ n ih =>
   intro p a w hn hJ hF
   obtain ⟨e, a₁, w₁, hq, harr⟩ := round p hJ a w hF b (.inLoop c :: k) fs hro hb hr
   cases e with
   | normal =>
    obtain ⟨p', hJ', hlt, hF'⟩ := hq
    obtain ⟨e₂, a₂, w₂, hq₂, harr₂⟩ := ih (μ p') (hn ▸ hlt) p' a₁ w₁ rfl hJ' hF'
    exact ⟨e₂, a₂, w₂, hq₂, .of_steps (StepsIn.trans harr (.one (fenced_wide P _) stepR_inLoop)) harr₂⟩
   | exit id => exact ⟨_, a₁, w₁, hq, .pass (x := .inLoop c) rfl (fun _ _ => .inl (by simp)) harr⟩
   | goto l => exact ⟨_, a₁, w₁, hq, .pass (x := .inLoop c) rfl (fun _ _ => .inl (by simp)) harr⟩
   | ret => exact ⟨_, a₁, w₁, hq, .pass (x := .inLoop c) rfl (fun _ _ => .inl (by simp)) harr⟩
   | panic ch => exact ⟨_, a₁, w₁, hq, .pass (x := .inLoop c) rfl (fun _ _ => .inl (by simp)) harr⟩
   | outgrown => exact ⟨_, a₁, w₁, hq, .pass (x := .inLoop c) rfl (fun _ _ => .inl (by simp)) harr⟩
 obtain ⟨e, a', w', hq, harr⟩ := key _ p₀ a w rfl h₀ hf
 exact ⟨e, a', w', hq, .of_steps (.one (fenced_wide P _) stepR_loop) harr⟩
end
section
variable {P : Program} {f : FuncId} {fn : Func} {c : Code} {R : Ending → World → Prop} {m : Nat → Nat → Prop} {w : World} {pre : List (Nat × Blk)} {args : List AV}
theorem enY (nt : Nat) (hm : ∀ b o, m b o → b < w.heap.size) (hp : PreOk m w pre) (hargs : ∀ v ∈ args, Ok m w v) (hf : P.funcs[f]? = some fn) (h : ∀ B, B = std → ∀ a, Fits ⟨m, w, ats pre, [], noK⟩ ⟨nt, startT 0 args, [], pre, []⟩ a w → c.wpIn (rF none) 0 P (bodyPost P fn R) a w) (hb : fn.body = some c := by rfl) (hnt : fn.ntmps = nt := by rfl) (hn : args.length ≤ nt := by exact Nat.le_of_ble_eq_true rfl) : Calls P f (args.map AV.den).toArray w R :=
 enX nt hm hp hargs hf (fun B hB a hF => (wpIn_wide (n := 0)).1 (h B hB a hF)) hb hnt hn
theorem enN (nt : Nat) (hm : ∀ b o, m b o → b < w.heap.size) (hp : PreOk m w pre) (hargs : ∀ v ∈ args, Ok m w v) (hf : P.funcs[f]? = some fn) (h : ∀ B, B = std → ∀ a, Fits ⟨m, w, ats pre, [], noK⟩ ⟨nt, startT 0 args, [], pre, []⟩ a w → wpN f P c (bodyPostM Fence.wide 0 P fn R) a w) (hb : fn.body = some c := by rfl) (hnt : fn.ntmps = nt := by rfl) (hn : args.length ≤ nt := by exact Nat.le_of_ble_eq_true rfl) : Calls P f (args.map AV.den).toArray w R := by
 refine calls_marks hf hb ?_
 have := h std rfl _ (enterFits hm hp hargs hn)
 simpa [hnt] using this
end
section
variable {C : Cx} {P : Program} {Q : Exit → Act → World → Prop} {T : List (Nat × TI)} {B : Alg} {r : Option Nat} {ops : Array Oper}
theorem nd_at {l : List Oper} (h : noDefer l = true) {o : Oper} (ho : o ∈ l) : ∀ c, o.op ≠ .defer c := fun c e => by
 have := List.all_eq_true.1 h o ho
 rw [e] at this; cases this
theorem any_r (hO : ∀ a w, ¬ Q .outgrown a w) (hd : ∀ o ∈ ops, ∀ c, o.op ≠ .defer c) {md : Region.Mode} : ∀ (fuel : Nat) (listed : Array Bool) (a : Act) (w : World), wpAny P md ops Q fuel listed a w → wpAnyIn (rF r) 0 P md ops Q fuel listed a w
 | 0, listed, a, w, h => h
 | fuel + 1, listed, a, w, h => by
  refine ⟨h.1, fun i hi => ?_⟩
  have h2 := h.2 i hi
  unfold wpOp at h2
  unfold wpOpIn
  cases ho : ops[i]? with
  | none => rw [ho] at h2; exact any_r hO hd fuel _ _ _ h2
  | some o =>
   rw [ho] at h2
   simp only at h2 ⊢
   by_cases hw : Region.wanted o (yielded ops a.tmps) = true
   ·rw [if_pos hw] at h2 ⊢
    rcases h2 with h2 | ⟨_, a', w', h2⟩
    ·exact oper_r (hd o (Array.mem_of_getElem? ho)) (fun a w h => any_r hO hd fuel _ a w h) (fun _ _ _ h => h) h2
    exact absurd h2 (hO _ _)
   rw [if_neg hw] at h2 ⊢
   exact ⟨fun f _ => rF_fn r f, any_r hO hd fuel _ _ _ h2⟩
theorem rdrawn_ok {s : St} {a : Act} {w : World} {id : Nat} {l : List Oper} (hm : P.follows .mixedOrders = true) (hT : TabOK P T) (kp km : List Nat) (cs : List (Nat × CS)) (h : Fits C s a w) (hgs : s.gs = []) (fs : List Foot) (hD : drawB l fs = true) (hlen : l.length = fs.length)
  {R : Alg → (Nat → Atom) → St × List Ob}
  (hex : ∀ A X, (exec A T cs X l (number 0 l) s).map (fun r => ((r.1.keep kp km, r.2.1), r.2.2)) = some (R A X, fs)) (hO : ∀ a w, ¬ Q .outgrown a w) (hnd : noDefer l = true) (hob : ∀ X, AO P C.K (R std X).2) (hQ : ∀ X a' w', Fits C (R std X).1 a' w' → Q .normal a' w') : (Code.region id l.toArray true).wpIn (rF r) 0 P Q a w := by
 simp only [drawB, Bool.and_eq_true] at hD
 obtain ⟨⟨d1, d2⟩, d3⟩ := hD
 refine wpIn_region_any hm (any_r hO (fun o ho => nd_at hnd (by simpa using ho)) _ _ _ _ ?_)
 have hf : Fits C s a { w with drawn := w.drawn + 1 } := h.world (fun _ _ _ => rfl) (fun _ _ _ _ _ => rfl) ⟨h.chg.os, h.chg.tape, h.chg.output, h.chg.size, h.chg.block⟩ (fun _ _ _ hc _ => hc) (fun _ _ h _ => h)
 have hnl : ∀ (l : List Oper) (i : Nat), (number i l).length = l.length := by
  intro l
  induction l with
  | nil => intro i; rfl
  | cons o l ih => intro i; simp [number, ih]
 have hsz : l.toArray.size = (number 0 l).length := by simp [hnl]
 rw [hsz]
 refine any_ok (cs := cs) (all := l) (tb := masks l []) hT rfl (masks_ok (l := l) (tb := []) rfl (fun i j h => by simp at h)) _ (number 0 l) fs _ s a _ rfl hf (fun t p v hl => by rw [hgs] at hl; cases hl) ?_ ⟨by rw [hnl]; exact hlen, d1⟩ ?_ (number_sorted l 0) ?_ ?_ (by simp [hnl]) ?_ ?_
 ·exact ordB_ok d3
 ·intro k o hk hu
  exfalso
  by_cases hk' : k < (number 0 l).length
  ·simp [Array.getD_eq_getD_getElem?, hk'] at hu
  simp [Array.getD_eq_getD_getElem?, hk'] at hu
 ·intro x hx
  obtain ⟨h1, h2⟩ := number_get hx
  rw [Nat.sub_zero] at h2
  refine ⟨by simpa using h2, ?_⟩
  have hlt := (List.getElem?_eq_some_iff.1 h2).1
  simp [Array.getD_eq_getD_getElem?, hnl, hlt]
 ·intro k o hk _
  have := number_mem (i := 0) (l := l) (k := k) (o := o) (by simpa using hk)
  rwa [Nat.zero_add] at this
 ·have ed : ∀ (L : List (Nat × Oper)), edgesB L = true → ∀ x ∈ L, ∀ e ∈ x.2.after.toList, Region.binds .any e = true → e.on < x.1 := by
   intro L
   induction L with
   | nil => intro _ x hx; cases hx
   | cons y L ih =>
    obtain ⟨i, o⟩ := y
    intro hL x hx e he hb
    simp only [edgesB, Bool.and_eq_true] at hL
    rcases List.mem_cons.1 hx with rfl | hx
    ·have := List.all_eq_true.1 hL.1 e he
     simpa [hb] using this
    exact ih hL.2 x hx e he hb
  exact ed _ d2
 intro X
 obtain ⟨r, hr, e⟩ := Option.map_eq_some_iff.1 (hex std X)
 obtain ⟨τ, obs, fs'⟩ := r
 simp only [Prod.mk.injEq] at e
 obtain ⟨e1, rfl⟩ := e
 refine ⟨τ, obs, hr, ?_, fun a' w' hf' => hQ X a' w' ?_⟩
 ·have := hob X; rw [← e1] at this; exact this
 rw [← e1]; exact hf'.keep kp km
theorem rdrg {s : St} {a : Act} {w : World} {id : Nat} {l : List Oper} {R : Alg → (Nat → Atom) → St × List Ob} {fs : List Foot} (hB : B = std) (hT : TabOK P T) (kp km : List Nat) (cs : List (Nat × CS)) (h : Fits C s a w) (hQ : ∀ X a' w', Fits C (R B X).1 a' w' → Q .normal a' w')
  (hO : ∀ a w, ¬ Q .outgrown a w := by first | exact fun _ _ h => h | (intro a w h; obtain ⟨x, h, _⟩ := h; cases h)) (hm : P.follows .mixedOrders = true := by kernel_rfl) (hgs : s.gs = [] := by rfl)
  (hex : ∀ A X, (exec A T cs X l (number 0 l) s).map (fun r => ((r.1.keep kp km, r.2.1), r.2.2)) = some (R A X, fs) := by intro A X; conv => lhs; cbv) (hD : drawB l fs = true := by kernel_rfl) (hlen : l.length = fs.length := by rfl) (hob : ∀ X, AO P C.K (R B X).2 := by
   intro X; subst hB
   first
   | exact trivial
   | (simp only [AO, Ob.holds, BE.den] <;> and_intros <;> (repeat first | trivial | rfl | exact O1 | exact O2 | exact O3 | exact (fun _ _ => by kernel_rfl) | exact O1 _ _ _ rfl | exact O2 _ _ _ rfl | refine ⟨?_, ?_⟩ | intro h | decide | omega) <;> done)
   | (simp [AO, Ob.holds, BE.den, std, sC, sAr] <;> omega)) (hd : noDefer l = true := by rfl) : (Code.region id l.toArray true).wpIn (rF r) 0 P Q a w := by
 subst hB
 exact rdrawn_ok hm hT kp km cs h hgs fs hD hlen hex hO hd hob hQ
theorem rreg {a : Act} {w : World} {id : Nat} {l : List Oper} (h : wpList P l.toArray Q l a w) (hO : ∀ a w, ¬ Q .outgrown a w := by first | exact fun _ _ h => h | (intro a w h; obtain ⟨x, h, _⟩ := h; cases h)) (hd : noDefer l = true := by rfl) : (Code.region id l.toArray false).wpIn (rF r) 0 P Q a w := region_r hO hd h
end
def okT (tm : List (Nat × AV)) : Kn := ⟨fun m w => ∀ t, (look tm t).known = true → Ok m w (look tm t), fun k h t ht => k.ok (h t ht)⟩
def SlotsA (nt : Nat) (tm : List (Nat × AV)) (ds : List Deferred) (a : Act) : Prop := a.tmps.size = nt ∧ a.defers = ds ∧ ∀ t, (look tm t).known = true → a.tmps[t]? = some (look tm t).den
def Kn.under (K : Kn) (n : Nat) : Prop := ∀ l, n ≤ l → ∀ {w m w' m'}, KeepB (some l) w m w' m' → K.p m w → K.p m' w'
def Kn.off (K : Kn) (l : Nat) : Prop := ∀ {w m w' m'}, KeepB (some l) w m w' m' → K.p m w → K.p m' w'
theorem Kn.under.off {K : Kn} {n l : Nat} (h : K.under n) (hl : n ≤ l) : K.off l := h l hl
theorem Kn.under.mono {K : Kn} {n n' : Nat} (h : K.under n) (hl : n ≤ n') : K.under n' := fun l h' => h l (Nat.le_trans hl h')
theorem okT_under (tm : List (Nat × AV)) (n : Nat) : (okT tm).under n := fun _ _ _ _ _ _ k h t ht => k.ok (h t ht)
theorem and_under {K K' : Kn} {n : Nat} (h : K.under n) (h' : K'.under n) : (K.and K').under n := fun l hl _ _ _ _ k x => ⟨h l hl k x.1, h' l hl k x.2⟩
theorem okT_off (tm : List (Nat × AV)) (n : Nat) : (okT tm).off n := fun k h t ht => k.ok (h t ht)
theorem and_off {K K' : Kn} {n : Nat} (h : K.off n) (h' : K'.off n) : (K.and K').off n := fun k x => ⟨h k x.1, h' k x.2⟩
theorem recK_under {l D n : Nat} {r : Loop} (h1 : l < n) (h2 : D < n) : (recK l r D).under n := fun b hb _ _ _ _ k x => ⟨k.obj _ _ (by intro e; injection e with e; omega) x.1 (fun _ _ _ e => by cases e), k.obj _ _ (by intro e; injection e with e; omega) x.2 (fun _ _ _ e => by cases e)⟩
theorem recK_off {l D n : Nat} {r : Loop} (h1 : l ≠ n) (h2 : D ≠ n) : (recK l r D).off n := fun k x => ⟨k.obj _ _ (by intro e; injection e with e; exact h1 e.symm) x.1 (fun _ _ _ e => by cases e), k.obj _ _ (by intro e; injection e with e; exact h2 e.symm) x.2 (fun _ _ _ e => by cases e)⟩
def Kn.self (K : Kn) : Prop := ∀ m w, K.p m w → K.under w.heap.size
theorem okT_self (tm : List (Nat × AV)) : (okT tm).self := fun _ _ _ => okT_under _ _
theorem and_self' {K K' : Kn} (h : K.self) (h' : K'.self) : (K.and K').self := fun m w x => and_under (h m w x.1) (h' m w x.2)
theorem recK_self {l D : Nat} {r : Loop} : (recK l r D).self := fun m w x => recK_under (Array.getElem?_eq_some_iff.1 x.1).1 (Array.getElem?_eq_some_iff.1 x.2).1
def marksK (Ds : List Nat) : Kn := ⟨fun _ w => (∀ D ∈ Ds, w.heap[D]? = some (.deferred (some []))) ∧ Ds.Nodup, fun k h => ⟨fun D hD => k.obj _ _ (h.1 D hD) (fun _ _ _ e => by cases e), h.2⟩⟩
theorem marksK_off {Ds : List Nat} {n : Nat} (h : n ∉ Ds) : (marksK Ds).off n := fun k x => ⟨fun D hD => k.obj _ _ (by intro e; injection e with e; exact h (e ▸ hD)) (x.1 D hD) (fun _ _ _ e => by cases e), x.2⟩
section
variable {m0 : Nat → Nat → Prop} {w0 w w' : World} {S : Nat → Prop} {ds : List Deferred} {K : Kn} {nt : Nat} {tm : List (Nat × AV)} {gs : List (Nat × List (Nat × Bool) × AV)} {mem : List (Nat × Blk)} {gr : List (Nat × Gr)} {a : Act} {P : Program}
abbrev Mem (m0 : Nat → Nat → Prop) (w0 : World) (S : Nat → Prop) (K : Kn) (mem : List (Nat × Blk)) (gr : List (Nat × Gr)) (w : World) : Prop := Fits ⟨m0, w0, S, [], K⟩ ⟨0, [], [], mem, gr⟩ ⟨#[], []⟩ w
abbrev mT (m0 : Nat → Nat → Prop) (mem : List (Nat × Blk)) (gr : List (Nat × Gr)) : Nat → Nat → Prop := St.m ⟨0, [], [], mem, gr⟩ ⟨m0, default, fun _ => False, [], noK⟩
theorem Fits.leave (h : Fits ⟨m0, w0, S, ds, K⟩ ⟨nt, tm, gs, mem, gr⟩ a w) : Mem m0 w0 S (K.and (okT tm)) mem gr w ∧ SlotsA nt tm ds a :=
 ⟨⟨rfl, rfl, (fun t ht => by cases ht), (fun t p v he => by cases he), h.mem, h.nodup, h.gr, h.sepm, h.sepg, h.chg, h.m0, ⟨h.kept, fun t ht => (h.slot t ht).2⟩⟩, h.size, h.defers, fun t ht => (h.slot t ht).1⟩
theorem Fits.bare (h : Fits ⟨m0, w0, S, ds, K⟩ ⟨nt, tm, gs, mem, gr⟩ a w) : Mem m0 w0 S K mem gr w :=
 ⟨rfl, rfl, (fun t ht => by cases ht), (fun t p v he => by cases he), h.mem, h.nodup, h.gr, h.sepm, h.sepg, h.chg, h.m0, h.kept⟩
theorem mem_act (h : Mem m0 w0 S K mem gr w) (ha : SlotsA nt tm ds a) (hok : (okT tm).p (mT m0 mem gr) w) : Fits ⟨m0, w0, S, ds, K⟩ ⟨nt, tm, [], mem, gr⟩ a w :=
 ⟨ha.1, ha.2.1, fun t ht => ⟨ha.2.2 t ht, hok t ht⟩, (fun t p v he => by cases he), h.mem, h.nodup, h.gr, h.sepm, h.sepg, h.chg, h.m0, h.kept⟩
theorem mem_enter (h : Mem m0 w0 S (K.and (okT tm)) mem gr w) (ha : SlotsA nt tm ds a) : Fits ⟨m0, w0, S, ds, K⟩ ⟨nt, tm, [], mem, gr⟩ a w :=
 mem_act (K := K) (Fits.withK (K := K.and (okT tm)) h h.kept.1) ha h.kept.2
theorem mem_K {K' : Kn} (h : Mem m0 w0 S K mem gr w) (hK : K'.p (mT m0 mem gr) w) : Mem m0 w0 S K' mem gr w := Fits.withK (K := K) h hK
theorem mem_turn {b : Nat} {o : Obj} (h : Mem m0 w0 S K mem gr w) (hb : w.heap[b]? = some o) (ho : ∀ c t f, o ≠ Obj.cells c t f) (hg : w.grownBy w' (some b)) (hC : b < w0.heap.size → S b) {K' : Kn} (hK : KeepB (some b) w (mT m0 mem gr) w' (mT m0 mem gr) → K'.p (mT m0 mem gr) w') : Mem m0 w0 S K' mem gr w' :=
 Fits.turn (K := K) h hb ho hg hC (hK (turn_keepB hb ho hg))
end
section
variable {m0 : Nat → Nat → Prop} {w0 w : World} {S : Nat → Prop} {ds : List Deferred} {K : Kn} {mem : List (Nat × Blk)} {gr : List (Nat × Gr)} {a : Act} {P : Program} {f : FuncId} {fn : Func} {c : Code} {R : Ending → World → Prop} {args : List AV} {B : Alg} {T : List (Nat × TI)} {s : St} {rs : List ResultVar} {r : List AV × List Ob} {Q : Exit → Act → World → Prop} {ops : Array Oper}
theorem startA (hargs : ∀ v ∈ args, Ok (mT m0 mem gr) w v) {n : Nat} (hn : args.length ≤ n) : SlotsA n (startT 0 args) [] { tmps := (args.map AV.den).toArray ++ Array.replicate (n - args.length) Go.undef, defers := [] } ∧ (okT (startT 0 args)).p (mT m0 mem gr) w := by
 have key : ∀ t, (look (startT 0 args) t).known = true → args[t]? = some (look (startT 0 args) t) := fun t ht => by
  have := (startT_look args 0 t ht).2
  rwa [Nat.sub_zero] at this
 refine ⟨⟨by simp; omega, rfl, fun t ht => ?_⟩, fun t ht => hargs _ (List.mem_of_getElem? (key t ht))⟩
 have h1 := key t ht
 have hlt := (List.getElem?_eq_some_iff.1 h1).1
 rw [Array.getElem?_append_left (by simpa using hlt)]
 simp [h1]
theorem enI (nt : Nat) (h : Mem m0 w0 S K mem gr w) (hargs : ∀ v ∈ args, Ok (mT m0 mem gr) w v) (hf : P.funcs[f]? = some fn) (body : ∀ B, B = std → ∀ a, Fits ⟨m0, w0, S, [], K⟩ ⟨nt, startT 0 args, [], mem, gr⟩ a w → c.wp P (bodyPost P fn R) a w) (hb : fn.body = some c := by rfl) (hnt : fn.ntmps = nt := by rfl) (hn : args.length ≤ nt := by exact Nat.le_of_ble_eq_true rfl) : Calls P f (args.map AV.den).toArray w R := by
 refine calls_of_wp hf hb ?_
 obtain ⟨h1, h2⟩ := startA hargs hn
 have := body std rfl _ (mem_act h h1 h2)
 simpa [hnt] using this
theorem enIN (nt : Nat) (h : Mem m0 w0 S K mem gr w) (hargs : ∀ v ∈ args, Ok (mT m0 mem gr) w v) (hf : P.funcs[f]? = some fn) (body : ∀ B, B = std → ∀ a, Fits ⟨m0, w0, S, [], K⟩ ⟨nt, startT 0 args, [], mem, gr⟩ a w → wpN f P c (bodyPostM Fence.wide 0 P fn R) a w) (hb : fn.body = some c := by rfl) (hnt : fn.ntmps = nt := by rfl) (hn : args.length ≤ nt := by exact Nat.le_of_ble_eq_true rfl) : Calls P f (args.map AV.den).toArray w R := by
 refine calls_marks hf hb ?_
 obtain ⟨h1, h2⟩ := startA hargs hn
 have := body std rfl _ (mem_act h h1 h2)
 simpa [hnt] using this
theorem retI (hB : B = std) (hT : TabOK P T) {nt : Nat} {tm : List (Nat × AV)} (h : Fits ⟨m0, w0, S, [], K⟩ ⟨nt, tm, [], mem, gr⟩ a w) (hR : Mem m0 w0 S K mem gr w → Ok (mT m0 mem gr) w (resA r.1) → R (.returned (resA r.1).den) w) (hfn : fn.results = rs.toArray := by rfl) (hr : resL T ⟨nt, tm, [], mem, gr⟩ rs = some r := by first | rfl | (conv => lhs; cbv)) (ho : AO P K r.2 := by first | exact trivial | (subst hB; simp [AO, Ob.holds])) : bodyPost P fn R .ret a w ∧ bodyPost P fn R .normal a w :=
 ret_ok hT h rfl hfn hr ho fun hv => hR h.bare hv
theorem man_inl {nt : Nat} {tm : List (Nat × AV)} {L rest : List Oper} {o : Oper} {cl : Call} {g : Operand} {l r args : List AV} (hL : L = o :: rest) (hg : o.guard = none) (hop : o.op = .call cl) (hcal : cl.callee = .value g) (h : Fits ⟨m0, w0, S, ds, K⟩ ⟨nt, tm, [], mem, gr⟩ a w) (hgv : val ⟨nt, tm, [], mem, gr⟩ [] g = .fn f l r) (hl : vals ⟨nt, tm, [], mem, gr⟩ [] cl.args.toList = some args) (hen : Enters P f) (hd : ∀ t, o.dst = some t → t < nt)
  (Kc : Mem m0 w0 S (K.and (okT tm)) mem gr w → SlotsA nt tm ds a → (∀ v ∈ l ++ args ++ r, Ok (mT m0 mem gr) w v) → Calls P f ((l ++ args ++ r).map AV.den).toArray w fun e w' => ∃ v, e = .returned v.den ∧ ∃ mem' gr' K', Ok (mT m0 mem' gr') w' v ∧ Mem m0 w0 S (K'.and (okT tm)) mem' gr' w' ∧
   ∀ a' , Fits ⟨m0, w0, S, ds, K'⟩ (St.put ⟨nt, tm, [], mem', gr'⟩ o.dst v) a' w' → wpList P ops Q rest a' w') : wpList P ops Q L a w := by
 refine man_op hL hg ?_
 obtain ⟨hrun, hok⟩ := call_run hop hcal h hgv hl hen
 obtain ⟨h1, h2⟩ := h.leave
 unfold Oper.wp
 rw [hrun]
 simp only [Oper.upon]
 refine (Kc h1 h2 hok).mono ?_
 rintro e w' ⟨v, rfl, mem', gr', K', hv, hm, k⟩
 have hf := mem_enter hm h2
 exact k _ (hf.put o.dst hd v (fun _ => hv) _ fun _ => rfl)
end
section
variable {m0 : Nat → Nat → Prop} {w0 w : World} {S : Nat → Prop} {ds : List Deferred} {K : Kn} {mem : List (Nat × Blk)} {gr : List (Nat × Gr)} {a : Act} {P : Program} {fn : FuncId}
def recS (rc : Loop) (st : LoopState) (pe : Option Code) : Loop := { rc with state := st, pending := pe }
def KL (K : Kn) (tm : List (Nat × AV)) (l : Nat) (rc : Loop) (D : Nat) (st : LoopState) (pe : Option Code) : Kn := (K.and (okT tm)).and (recK l (recS rc st pe) D)
theorem KL_self {K : Kn} (h : K.self) (tm : List (Nat × AV)) (l : Nat) (rc : Loop) (D : Nat) (st : LoopState) (pe : Option Code) : (KL K tm l rc D st pe).self := and_self' (and_self' h (okT_self tm)) recK_self
theorem KL_turn {K : Kn} {tm : List (Nat × AV)} {l D : Nat} {rc : Loop} {st st' : LoopState} {pe pe' : Option Code} {w w' : World} {m : Nat → Nat → Prop} (hD : D ≠ l) (hK : K.off l) (hk : KeepB (some l) w m w' m) (hl : w'.heap[l]? = some (.loop (recS rc st' pe'))) (h : (KL K tm l rc D st pe).p m w) : (KL K tm l rc D st' pe').p m w' :=
 ⟨⟨hK hk h.1.1, okT_off tm l hk h.1.2⟩, hl, hk.obj _ _ (by intro e; injection e with e; exact hD e.symm) h.2.2 (fun _ _ _ e => by cases e)⟩
theorem putObj_at {w : World} {l : Nat} {o o' : Obj} (h : w.heap[l]? = some o) : (w.putObj l o').heap[l]? = some o' := by
 have := (Array.getElem?_eq_some_iff.1 h).1
 simp [World.putObj, this]
theorem rec_turn {K E : Kn} {tm : List (Nat × AV)} {l D : Nat} {rc : Loop} {st st' : LoopState} {pe pe' : Option Code} {nt : Nat} {tm' : List (Nat × AV)} (hl0 : w0.heap.size ≤ l) (hD : D ≠ l) (hK : K.off l) (hE : E.off l) (h : Fits ⟨m0, w0, S, ds, (KL K tm l rc D st pe).and E⟩ ⟨nt, tm', [], mem, gr⟩ a w) : Fits ⟨m0, w0, S, ds, (KL K tm l rc D st' pe').and E⟩ ⟨nt, tm', [], mem, gr⟩ a (w.putObj l (.loop (recS rc st' pe'))) := by
 obtain ⟨h1, h2⟩ := h.leave
 have hk := h1.kept
 have hl : w.heap[l]? = some (.loop (recS rc st pe)) := hk.1.1.2.1
 have := mem_turn (K' := (((KL K tm l rc D st' pe').and E).and (okT tm'))) h1 hl (fun _ _ _ e => by cases e) (grownBy_putObj' w l (.loop (recS rc st' pe'))) (fun h => by omega) (fun kb => ⟨⟨KL_turn hD hK kb (putObj_at hl) hk.1.1, hE kb hk.1.2⟩, okT_off tm' l kb hk.2⟩)
 exact mem_enter this h2
def RoundQ (m0 : Nat → Nat → Prop) (w0 : World) (S : Nat → Prop) (tm : List (Nat × AV)) (l : Nat) (rc : Loop) (D : Nat) (E : Kn) (N : Kn → List (Nat × Blk) → List (Nat × Gr) → Prop) (X : Code → Kn → List (Nat × Blk) → List (Nat × Gr) → Prop) : Exit → Act → World → Prop
 | .normal, _, w => ∃ K mem gr, N K mem gr ∧ K.off l ∧ Mem m0 w0 S ((KL K tm l rc D .busy none).and E) mem gr w
 | .ret, _, w => ∃ K mem gr, X .ret K mem gr ∧ K.off l ∧ Mem m0 w0 S ((KL K tm l rc D .busy none).and E) mem gr w
 | .exit id, _, w => ∃ K mem gr, X (.exit id) K mem gr ∧ K.off l ∧ Mem m0 w0 S ((KL K tm l rc D .busy none).and E) mem gr w
 | .goto t, _, w => ∃ K mem gr, X (.goto t) K mem gr ∧ K.off l ∧ Mem m0 w0 S ((KL K tm l rc D .busy none).and E) mem gr w
 | _, _, _ => False
theorem roundI {fd : Func} {rc : Loop} (hfn : P.funcs[rc.fn]? = some fd) {l D ntc nti : Nat} {tmc tmi : List (Nat × AV)} {ac ai : Act} (hl0 : w0.heap.size ≤ l) (hD : D ≠ l) (hK : K.off l) (hst : rc.pending = none) (htm : rc.tmps = ac.tmps)
  (hi : Fits ⟨m0, w0, S, [], KL K tmc l rc D .ready none⟩ ⟨nti, tmi, [], mem, gr⟩ ai w) (hc : ∃ d, SlotsA ntc tmc d ac) {ps : List (Nat × AV)} (hps : ∀ e ∈ ps, e.1 < ntc ∧ Ok (mT m0 mem gr) w e.2) {R : Ending → World → Prop}
  (N : Kn → List (Nat × Blk) → List (Nat × Gr) → Prop) (X : Code → Kn → List (Nat × Blk) → List (Nat × Gr) → Prop)
  (hN : ∀ K' mem' gr' w', N K' mem' gr' → K'.off l → Fits ⟨m0, w0, S, [], KL K' tmc l rc D .ready none⟩ ⟨nti, tmi, [], mem', gr'⟩ ai w' → R (.returned (.bool true)) w')
  (hX : ∀ c K' mem' gr' w', X c K' mem' gr' → K'.off l → Fits ⟨m0, w0, S, [], KL K' tmc l rc D .done (some c)⟩ ⟨nti, tmi, [], mem', gr'⟩ ai w' → R (.returned (.bool false)) w')
  (hbody : ∀ a, Fits ⟨m0, w0, S, [], (KL K tmc l rc D .ready none).and (okT tmi)⟩ (St.puts ⟨ntc, tmc, [], mem, gr⟩ ps) a w → rc.assign.wpIn (rF (some l)) 0 P (Exit.then (fun a₁ w₁ => ∃ nt1 tm1 mem1 gr1, Fits ⟨m0, w0, S, [], (KL K tmc l rc D .ready none).and (okT tmi)⟩ ⟨nt1, tm1, [], mem1, gr1⟩ a₁ w₁ ∧
   ∀ w₂, Fits ⟨m0, w0, S, [], (KL K tmc l rc D .busy none).and (okT tmi)⟩ ⟨nt1, tm1, [], mem1, gr1⟩ a₁ w₂ → rc.body.wpIn (rF (some l)) 0 P (RoundQ m0 w0 S tmc l rc D (okT tmi) N X) a₁ w₂) (fun _ _ _ => False)) a w) :
  RoundIn (rF none) 0 P l rc.fn (ps.foldl (fun t e => t.setIfInBounds e.1 e.2.den) rc.tmps) rc.assign rc.body w R := by
 obtain ⟨hm, hai⟩ := hi.leave
 have hk := hm.kept
 obtain ⟨dc, hac⟩ := hc
 have hact : SlotsA ntc tmc [] { tmps := ac.tmps, defers := [] } := ⟨hac.1, rfl, hac.2.2⟩
 have hF0 : Fits ⟨m0, w0, S, [], (KL K tmc l rc D .ready none).and (okT tmi)⟩ ⟨ntc, tmc, [], mem, gr⟩ { tmps := ac.tmps, defers := [] } w := mem_act hm hact hk.1.1.2
 have hF1 := hF0.puts (l := ps) hps
 have hb := hbody _ hF1
 have key := round_of (P := P) (l := l) (r := recS rc .ready none) (fd := fd) hfn rfl (tmps := ps.foldl (fun t e => t.setIfInBounds e.1 e.2.den) rc.tmps) (R := R) (w := w) ?_
 ·exact key
 rw [htm]
 refine wpIn_mono hb ?_
 intro e a₁ w₁ he
 cases e with
 | normal =>
  obtain ⟨nt1, tm1, mem1, gr1, hf1, hb1⟩ := he
  refine ⟨hf1.kept.1.2.1, ?_⟩
  have hf2 := rec_turn (st' := .busy) (pe' := none) hl0 hD hK (okT_off tmi l) hf1
  refine wpIn_mono (hb1 _ hf2) ?_
  have fin : ∀ {K' : Kn} {mem' : List (Nat × Blk)} {gr' : List (Nat × Gr)} {w' : World} (st : LoopState) (pe : Option Code), K'.off l → Mem m0 w0 S ((KL K' tmc l rc D .busy none).and (okT tmi)) mem' gr' w' → w'.heap[l]? = some (.loop { recS rc .ready none with state := .busy }) ∧ Fits ⟨m0, w0, S, [], KL K' tmc l rc D st pe⟩ ⟨nti, tmi, [], mem', gr'⟩ ai (w'.putObj l (.loop (recS rc st pe))) := fun {K' mem' gr' w'} st pe ho hm' => by
   refine ⟨hm'.kept.1.2.1, ?_⟩
   have h3 := rec_turn (st' := st) (pe' := pe) (nt := 0) (tm' := []) hl0 hD ho (okT_off tmi l) hm'
   exact mem_enter h3 hai
  intro e a₂ w₂ he
  cases e with
  | normal =>
   obtain ⟨K', mem', gr', hn, ho, hm'⟩ := he
   obtain ⟨g1, g2⟩ := fin .ready none ho hm'
   exact ⟨g1, hN _ _ _ _ hn ho g2⟩
  | ret =>
   obtain ⟨K', mem', gr', hn, ho, hm'⟩ := he
   obtain ⟨g1, g2⟩ := fin .done (some .ret) ho hm'
   exact ⟨g1, hX _ _ _ _ _ hn ho g2⟩
  | exit id =>
   obtain ⟨K', mem', gr', hn, ho, hm'⟩ := he
   obtain ⟨g1, g2⟩ := fin .done (some (.exit id)) ho hm'
   exact ⟨g1, hX _ _ _ _ _ hn ho g2⟩
  | goto t =>
   obtain ⟨K', mem', gr', hn, ho, hm'⟩ := he
   obtain ⟨g1, g2⟩ := fin .done (some (.goto t)) ho hm'
   exact ⟨g1, hX _ _ _ _ _ hn ho g2⟩
  | panic chain => exact he.elim
  | outgrown => exact he.elim
 | _ => exact he
theorem rangeI {Q : Exit → Act → World → Prop} {g : Operand} {ps : Array Tmp} {assign body : Code} {gf nt : Nat} {tm : List (Nat × AV)} {lb : List AV} (h : Fits ⟨m0, w0, S, ds, K⟩ ⟨nt, tm, [], mem, gr⟩ a w) (hgv : val ⟨nt, tm, [], mem, gr⟩ [] g = .fn gf [] lb) (hen : Enters P gf) (hK : K.under w.heap.size)
  (hc : ∀ l D rc w1, l = D + 1 → D = w.heap.size → rc = loopRec fn a ps assign body D .ready none → w0.heap.size ≤ D → w1.heap.size = D + 2 → SlotsA nt tm ds a → Mem m0 w0 S (KL K tm l rc D .ready none) mem gr w1 → (∀ v ∈ lb, Ok (mT m0 mem gr) w1 v) →
   Calls P gf ((yV l :: lb).map AV.den).toArray w1 fun e w3 => ∃ v, e = .returned v ∧ ∃ K' mem' gr', K'.off l ∧
    ((Mem m0 w0 S (KL K' tm l rc D .ready none) mem' gr' w3 ∧ ∀ a' w', Fits ⟨m0, w0, S, markD D :: ds, K'.and (marksK [D])⟩ ⟨nt, tm, [], mem', gr'⟩ a' w' → Q .normal a' w') ∨
     ∃ c, Mem m0 w0 S (KL K' tm l rc D .done (some c)) mem' gr' w3 ∧ ∀ a' w', Fits ⟨m0, w0, S, markD D :: ds, K'.and (marksK [D])⟩ ⟨nt, tm, [], mem', gr'⟩ a' w' → c.wp P Q a' w')) :
  wpN fn P (Code.rangeFunc g ps assign body) Q a w := by
 obtain ⟨hm, ha⟩ := h.leave
 have hgd := val_ok h (q := []) (fun _ h => by cases h) (x := g) (by rw [hgv]; rfl)
 rw [hgv] at hgd
 have hg1 : a.eval g = .func (.func gf) #[] (lb.map AV.den).toArray := by
  have := hgd.1
  simpa [AV.den, denL_map, AV.denL] using this
 have hlb : ∀ v ∈ lb, Ok (mT m0 mem gr) w v := by
  cases hgd.2 with
  | fn _ _ _ k1 k2 => exact k2
 have hbl := loopW_below fn a ps assign body w
 have hsz : (loopW fn a ps assign body w).heap.size = w.heap.size + 2 := by simp [loopW]
 have hm1 : Mem m0 w0 S (KL K tm (w.heap.size + 1) (loopRec fn a ps assign body w.heap.size .ready none) w.heap.size .ready none) mem gr (loopW fn a ps assign body w) :=
  mem_K (hm.below hbl) ⟨(hm.below hbl).kept, loopW_rec fn a ps assign body w, loopW_mark fn a ps assign body w⟩
 have hlb1 : ∀ v ∈ lb, Ok (mT m0 mem gr) (loopW fn a ps assign body w) v := fun v hv => (below_keep hbl (mT m0 mem gr)).ok (hlb v hv)
 refine wpN_range (gf := gf) (lb := (lb.map AV.den).toArray) hg1 (fun args w => hen args w) ?_
 have hcall := hc _ _ _ _ rfl rfl rfl h.chg.size hsz ha hm1 hlb1
 have eargs : ((yV (w.heap.size + 1) :: lb).map AV.den).toArray = #[.func (.yield (w.heap.size + 1)) #[] #[]] ++ (lb.map AV.den).toArray := by
  simp [AV.den]
 rw [eargs] at hcall
 refine hcall.mono ?_
 rintro e w3 ⟨v, rfl, K', mem', gr', ho, hh⟩
 have ha' : SlotsA nt tm (markD w.heap.size :: ds) { a with defers := { target := .collected w.heap.size, args := #[] } :: a.defers } := ⟨ha.1, by rw [ha.2.1], ha.2.2⟩
 have fin : ∀ {st : LoopState} {pe : Option Code}, st ≠ .busy → Mem m0 w0 S (KL K' tm (w.heap.size + 1) (loopRec fn a ps assign body w.heap.size .ready none) w.heap.size st pe) mem' gr' w3 →
   ∃ w4, (Instr.endLoop (w.heap.size + 1)).run P w3 = .ok pe w4 ∧ Fits ⟨m0, w0, S, markD w.heap.size :: ds, K'.and (marksK [w.heap.size])⟩ ⟨nt, tm, [], mem', gr'⟩ { a with defers := { target := .collected w.heap.size, args := #[] } :: a.defers } w4 := fun {st pe} hst h3 => by
  have hk := h3.kept
  have hl := hk.2.1
  refine ⟨_, run_endLoop hl hst, ?_⟩
  have h4 := mem_turn (K' := (K'.and (marksK [w.heap.size])).and (okT tm)) h3 hl (fun _ _ _ e => by cases e) (grownBy_putObj' w3 _ (.loop { recS (loopRec fn a ps assign body w.heap.size .ready none) st pe with state := .exhausted })) (fun hh => absurd h.chg.size (by simp only at hh ⊢; omega))
   (fun kb => ⟨⟨ho kb hk.1.1, ⟨fun D hD => by
    simp only [List.mem_singleton] at hD
    subst hD
    exact kb.obj _ _ (by intro e; injection e with e; omega) hk.2.2 (fun _ _ _ e => by cases e), by simp⟩⟩, okT_off tm _ kb hk.1.2⟩)
  exact mem_enter h4 ha'
 rcases hh with ⟨h3, hq⟩ | ⟨c, h3, hq⟩
 ·obtain ⟨w4, e4, h4⟩ := fin (by simp) h3
  exact ⟨none, w4, e4, hq _ _ h4⟩
 obtain ⟨w4, e4, h4⟩ := fin (by simp) h3
 exact ⟨some c, w4, e4, hq _ _ h4⟩
end
section
variable {m0 : Nat → Nat → Prop} {w0 w : World} {S : Nat → Prop} {K : Kn} {mem : List (Nat × Blk)} {gr : List (Nat × Gr)} {a : Act} {P : Program} {fn : Func} {R : Ending → World → Prop} {B : Alg} {T : List (Nat × TI)} {rs : List ResultVar} {r : List AV × List Ob} {nt : Nat} {tm : List (Nat × AV)}
theorem marks_leave {tmps : Array Value} : ∀ (Ds : List Nat) (w : World), Mem m0 w0 S (K.and (marksK Ds)) mem gr w → (∀ D ∈ Ds, K.off D ∧ w0.heap.size ≤ D) → (∀ w', Mem m0 w0 S K mem gr w' → ∃ v, (results fn tmps).run P w' = .ok v w' ∧ R (.returned v) w') → LeavesInM Fence.wide 0 P fn tmps R (Ds.map markD) .returning w
 | [], w, h, _, hR => hR w (mem_K h h.kept.1)
 | D :: Ds, w, h, ho, hR => by
  have hk := h.kept.2
  have hD : w.heap[D]? = some (.deferred (some [])) := hk.1 D (by simp)
  have hnd := List.nodup_cons.1 hk.2
  refine ⟨by simp, .inl ⟨D, _, rfl, run_takeDeferred hD, marks_leave Ds _ ?_ (fun E hE => ho E (by simp [hE])) hR⟩⟩
  refine mem_turn h hD (fun _ _ _ e => by cases e) (grownBy_putObj' w D _) (fun hh => absurd (ho D (by simp)).2 (by omega)) fun kb => ⟨(ho D (by simp)).1 kb h.kept.1, fun E hE => ?_, hnd.2⟩
  exact kb.obj _ _ (by intro e; injection e with e; subst e; exact hnd.1 hE) (hk.1 E (by simp [hE])) (fun _ _ _ e => by cases e)
theorem retIM (hB : B = std) (hT : TabOK P T) (Ds : List Nat) (h : Fits ⟨m0, w0, S, Ds.map markD, K.and (marksK Ds)⟩ ⟨nt, tm, [], mem, gr⟩ a w) (hof : ∀ D ∈ Ds, K.off D ∧ w0.heap.size ≤ D) (hR : ∀ w', Mem m0 w0 S K mem gr w' → Ok (mT m0 mem gr) w' (resA r.1) → R (.returned (resA r.1).den) w') (hfn : fn.results = rs.toArray := by rfl) (hr : resL T ⟨nt, tm, [], mem, gr⟩ rs = some r := by first | rfl | (conv => lhs; cbv)) (ho : AO P (K.and (okT tm)) r.2 := by first | exact trivial | (subst hB; simp [AO, Ob.holds])) : bodyPostM Fence.wide 0 P fn R .ret a w ∧ bodyPostM Fence.wide 0 P fn R .normal a w := by
 obtain ⟨h1, h2⟩ := h.leave
 have key : LeavesInM Fence.wide 0 P fn a.tmps R a.defers .returning w := by
  rw [h2.2.1]
  refine marks_leave (K := K.and (okT tm)) Ds w (mem_K h1 ⟨⟨h1.kept.1.1, h1.kept.2⟩, h1.kept.1.2⟩) (fun D hD => ⟨and_off (hof D hD).1 (okT_off tm D), (hof D hD).2⟩) fun w' hm => ?_
  have hf := mem_act (ds := Ds.map markD) hm h2 hm.kept.2
  obtain ⟨g1, g2⟩ := results_ok hT hf hfn hr ho
  exact ⟨_, g1, hR w' (mem_K hm hm.kept.1) g2⟩
 exact ⟨key, key⟩
theorem retI0 (hB : B = std) (hT : TabOK P T) (h : Fits ⟨m0, w0, S, [], K⟩ ⟨nt, tm, [], mem, gr⟩ a w) (hR : ∀ w', Mem m0 w0 S K mem gr w' → Ok (mT m0 mem gr) w' (resA r.1) → R (.returned (resA r.1).den) w') (hfn : fn.results = rs.toArray := by rfl) (hr : resL T ⟨nt, tm, [], mem, gr⟩ rs = some r := by first | rfl | (conv => lhs; cbv)) (ho : AO P (K.and (okT tm)) r.2 := by first | exact trivial | (subst hB; simp [AO, Ob.holds])) : bodyPostM Fence.wide 0 P fn R .ret a w ∧ bodyPostM Fence.wide 0 P fn R .normal a w :=
 retIM hB hT [] (h.withK (K' := K.and (marksK [])) ⟨h.kept, (⟨fun D hD => (by cases hD), List.nodup_nil⟩ : (∀ D ∈ ([] : List Nat), w.heap[D]? = some (.deferred (some []))) ∧ ([] : List Nat).Nodup)⟩) (fun D hD => by cases hD) hR hfn hr ho
end
section
variable {α : Type}
def getA (l : Lab) : List (Lab × α) → Option α
 | [] => none
 | p :: L => if p.1 = l then some p.2 else getA l L
def setA (l : Lab) (x : α) : List (Lab × α) → List (Lab × α)
 | [] => [(l, x)]
 | p :: L => if p.1 = l then (l, x) :: L else p :: setA l x L
theorem getA_mem {l : Lab} {x : α} : ∀ {L : List (Lab × α)}, getA l L = some x → (l, x) ∈ L
 | p :: L, h => by
  unfold getA at h
  split at h
  ·rename_i he; injection h with h; subst h; subst he; exact List.mem_cons_self ..
  exact List.mem_cons_of_mem _ (getA_mem h)
theorem mem_getA {p : Lab × α} : ∀ {L : List (Lab × α)}, (L.map (·.1)).Nodup → p ∈ L → getA p.1 L = some p.2
 | q :: L, h, hp => by
  have h' := List.nodup_cons.1 h
  unfold getA
  rcases List.mem_cons.1 hp with rfl | hp
  ·rw [if_pos rfl]
  rw [if_neg (fun e => h'.1 (List.mem_map.2 ⟨p, hp, e.symm⟩))]
  exact mem_getA h'.2 hp
theorem getA_set {l k : Lab} {x : α} : ∀ {L : List (Lab × α)}, getA k (setA l x L) = if l = k then some x else getA k L
 | [] => by simp [setA, getA]
 | p :: L => by
  unfold setA
  by_cases h : p.1 = l
  ·rw [if_pos h]
   unfold getA
   by_cases hk : l = k
   ·simp [hk]
   simp [hk, h]
  rw [if_neg h]
  unfold getA
  rw [getA_set]
  by_cases hk : l = k
  ·subst hk; simp [h]
  simp [hk]
theorem set_keys {l : Lab} {x : α} : ∀ {L : List (Lab × α)}, (setA l x L).map (·.1) = if (getA l L).isSome then L.map (·.1) else L.map (·.1) ++ [l]
 | [] => by simp [setA, getA]
 | p :: L => by
  unfold setA getA
  by_cases h : p.1 = l
  ·simp [h]
  simp only [if_neg h, List.map_cons, set_keys]
  split <;> simp
theorem set_len {l : Lab} {x : α} (L : List (Lab × α)) : (setA l x L).length = if (getA l L).isSome then L.length else L.length + 1 := by
 have := congrArg List.length (set_keys (l := l) (x := x) (L := L))
 rw [List.length_map] at this
 rw [this]
 split <;> simp
theorem getA_none {l : Lab} : ∀ {L : List (Lab × α)}, getA l L = none → l ∉ L.map (·.1)
 | [], _ => by simp
 | p :: L, h => by
  unfold getA at h
  split at h
  ·cases h
  rename_i hn
  simp only [List.map_cons, List.mem_cons, not_or]
  exact ⟨fun e => hn e.symm, getA_none h⟩
theorem set_nodup {l : Lab} {x : α} {L : List (Lab × α)} (h : (L.map (·.1)).Nodup) : ((setA l x L).map (·.1)).Nodup := by
 rw [set_keys]
 split
 ·exact h
 rename_i hn
 have := getA_none (by simpa using hn : getA l L = none)
 exact List.nodup_append.2 ⟨h, by simp, fun a ha b hb => by simp at hb; subst hb; exact fun e => this (e ▸ ha)⟩
theorem set_mem {l : Lab} {x : α} {L : List (Lab × α)} (h : (L.map (·.1)).Nodup) (p : Lab × α) : p ∈ setA l x L ↔ p = (l, x) ∨ (p ∈ L ∧ p.1 ≠ l) := by
 constructor
 ·intro hp
  have h1 := mem_getA (set_nodup (l := l) (x := x) h) hp
  rw [getA_set] at h1
  by_cases he : l = p.1
  ·rw [if_pos he] at h1
   injection h1 with h1
   obtain ⟨p1, p2⟩ := p
   simp only at he h1
   subst he; subst h1
   exact .inl rfl
  rw [if_neg he] at h1
  exact .inr ⟨getA_mem h1, fun e => he e.symm⟩
 rintro (rfl | ⟨hp, hne⟩)
 ·exact getA_mem (by rw [getA_set, if_pos rfl])
 exact getA_mem (x := p.2) (l := p.1) (by rw [getA_set, if_neg (fun e => hne e.symm)]; exact mem_getA h hp)
structure LmD (el : α → AV) (D : DataW Value) (b : Nat) (L : List (Lab × α)) (m : Nat → Nat → Prop) (w : World) : Prop where
 map : MapW Tryz.prog 42 w b L.length D
 nd : (L.map (·.1)).Nodup
 labs : ∀ p ∈ L, LabOk p.1
 has : ∀ kl, Maps.has D kl = true ↔ ∃ p ∈ L, keyL p.1 = kl
 size : Maps.size D = L.length
 at_ : ∀ p ∈ L, ∀ zd, D.atKey (keyL p.1) zd = .held (el p.2).den
 ok : ∀ p ∈ L, Ok m w (el p.2)
variable {el : α → AV} {D : DataW Value} {b : Nat} {L : List (Lab × α)} {m m' : Nat → Nat → Prop} {w w' : World} {l : Lab}
theorem LmD.keepB {bo : Option Nat} (h : LmD el D b L m w) (k : KeepB bo w m w' m') (hb : bo ≠ some b) : LmD el D b L m' w' :=
 ⟨mapW_keepB k hb h.map, h.nd, h.labs, h.has, h.size, h.at_, fun p hp => k.ok (h.ok p hp)⟩
theorem LmD.keep (h : LmD el D b L m w) (k : Keep w m w' m') : LmD el D b L m' w' :=
 ⟨mapW_keep k h.map, h.nd, h.labs, h.has, h.size, h.at_, fun p hp => k.ok (h.ok p hp)⟩
def lmK (el : α → AV) (b : Nat) (L : List (Lab × α)) : Kn := ⟨fun m w => ∃ D, LmD el D b L m w, fun k ⟨D, h⟩ => ⟨D, h.keep k⟩⟩
def lmF (el : α → AV) (n b : Nat) (L : List (Lab × α)) : Kn := ⟨fun m w => n ≤ b ∧ (lmK el b L).p m w, fun k h => ⟨h.1, (lmK el b L).st k h.2⟩⟩
theorem lmK_off {n : Nat} (h : b ≠ n) : (lmK el b L).off n := fun k ⟨D, x⟩ => ⟨D, x.keepB k (fun e => h (by injection e with e; exact e.symm))⟩
theorem lmK_under {n : Nat} (h : b < n) : (lmK el b L).under n := fun l hl => lmK_off (by omega)
theorem lmK_map (h : (lmK el b L).p m w) : ∃ es cl, w.heap[b]? = some (.map es cl) := by
 obtain ⟨D, h⟩ := h
 obtain ⟨es, cl, hb, _⟩ := h.map
 exact ⟨es, cl, hb⟩
theorem lmK_lt (h : (lmK el b L).p m w) : b < w.heap.size := by
 obtain ⟨es, cl, hb⟩ := lmK_map h
 exact lt_heap hb
theorem lmK_self : (lmK el b L).self := fun _ _ h => lmK_under (lmK_lt h)
theorem LmD.empty (h : MapW Tryz.prog 42 w b 0 (.map [])) : LmD el (.map []) b [] m w :=
 ⟨h, .nil, fun p hp => (by cases hp), fun kl => ⟨fun h => (by cases h), fun ⟨p, hp, _⟩ => (by cases hp)⟩, rfl, fun p hp => (by cases hp), fun p hp => (by cases hp)⟩
theorem LmD.hasL (h : LmD el D b L m w) (hl : LabOk l) : Maps.has D (keyL l) = (getA l L).isSome := by
 cases hf : getA l L with
 | some x => exact (h.has _).2 ⟨(l, x), getA_mem hf, rfl⟩
 | none =>
  rw [Option.isSome_none, Bool.eq_false_iff]
  intro hh
  obtain ⟨p, hp, he⟩ := (h.has _).1 hh
  have : p.1 = l := keyL_inj (h.labs p hp) hl he
  rw [← this, mem_getA h.nd hp] at hf
  cases hf
theorem LmD.look (h : LmD el D b L m w) (hl : LabOk l) {mt e : TypeId} (ht : Tryz.prog.underlying mt = some (.map 42 e)) {z : α} (hz : (zeroValue e).run Tryz.prog w = .ok (el z).den w) (hzo : Ok m w (el z)) (c : Bool) :
  (Instr.lookup mt (.map (some b)) (labAV l).den c).run Tryz.prog w = .ok (if c then .tuple #[(el ((getA l L).getD z)).den, .bool (getA l L).isSome] else (el ((getA l L).getD z)).den) w ∧ Ok m w (el ((getA l L).getD z)) := by
 have hh := h.hasL hl
 obtain ⟨es, clock, hb, F, _, hD⟩ := h.map
 rcases Maps.fit_look c labK ht hz hb F (key_lab hl) with ⟨hrun, _, hat⟩ | ⟨e0, y, _, _, hrun, hRv, hat, _⟩
 ·rw [← hD] at hat
  have hf := Maps.has_false_of_atKey hat
  rw [hh] at hf
  have hn : getA l L = none := by cases hg : getA l L with
   | none => rfl
   | some x => rw [hg] at hf; cases hf
  rw [hn]
  exact ⟨hrun, hzo⟩
 rw [← hD] at hat
 have hf := Maps.has_true_of_atKey hat
 rw [hh] at hf
 obtain ⟨x, hx⟩ := Option.isSome_iff_exists.1 hf
 have hm := getA_mem hx
 have e1 := h.at_ _ hm (.held Go.undef)
 rw [hat] at e1
 have e2 : y.1 = .held e0.val := by unfold hR at hRv; injection hRv with hRv; rw [← hRv]
 rw [e2] at e1
 injection e1 with e1
 rw [hx]
 simp only at e1
 simp only [Option.getD_some, Option.isSome_some]
 exact ⟨by rw [← e1]; exact hrun, h.ok _ hm⟩
theorem look_tt {K : Kn} (hK : ∀ m w, K.p m w → (lmK el b L).p m w) (hl : LabOk l) {mt e : TypeId} (ht : Tryz.prog.underlying mt = some (.map 42 e)) {z : α} (hz : ∀ w, (zeroValue e).run Tryz.prog w = .ok (el z).den w) (hzo : ∀ m w, Ok m w (el z)) {v : AV} (hv : el ((getA l L).getD z) = v) {h : Bool} (hh : (getA l L).isSome = h) : Ob.holds Tryz.prog K (.look mt true (.raw (.map (some b))) (labAV l) (.tup [v, .bool (.v h)])) := by
 intro m w hk
 obtain ⟨D, hD⟩ := hK m w hk
 obtain ⟨h1, h2⟩ := hD.look hl ht (hz w) (hzo m w) true
 rw [hv] at h1 h2
 rw [hh] at h1
 refine ⟨by rw [show AV.den (.raw (.map (some b))) = Value.map (some b) from rfl, h1]; simp [AV.den, AV.denL, BE.den], .tup _ fun u hu => ?_⟩
 simp only [List.mem_cons, List.not_mem_nil, or_false] at hu
 rcases hu with rfl | rfl
 ·exact h2
 exact .bool _
theorem look_ff {K : Kn} (hK : ∀ m w, K.p m w → (lmK el b L).p m w) (hl : LabOk l) {mt e : TypeId} (ht : Tryz.prog.underlying mt = some (.map 42 e)) {z : α} (hz : ∀ w, (zeroValue e).run Tryz.prog w = .ok (el z).den w) (hzo : ∀ m w, Ok m w (el z)) {v : AV} (hv : el ((getA l L).getD z) = v) : Ob.holds Tryz.prog K (.look mt false (.raw (.map (some b))) (labAV l) v) := by
 intro m w hk
 obtain ⟨D, hD⟩ := hK m w hk
 obtain ⟨h1, h2⟩ := hD.look hl ht (hz w) (hzo m w) false
 rw [hv] at h1 h2
 exact ⟨h1, h2⟩
theorem LmD.put (h : LmD el D b L m w) (hl : LabOk l) (k : KeepB (some b) w m w' m) {x : α} (hv : Ok m w (el x)) (hM : MapW Tryz.prog 42 w' b (L.length + 1) (D.put (keyL l) (.held (el x).den))) : ∃ D', LmD el D' b (setA l x L) m w' := by
 have hkey : WideAt.IsKeyLit (keyL l) := labK.key (key_lab hl)
 have hmp : Maps.IsMap D := (h.map.tidy labK).isMap
 have hsz := mapW_size hM
 have hlen : Maps.size (D.put (keyL l) (.held (el x).den)) = (setA l x L).length := by
  rw [Maps.size_put (h.map.tidy labK), h.hasL hl, set_len]
  rw [h.size]
 have hin := set_mem (l := l) (x := x) h.nd
 refine ⟨_, ?_, set_nodup h.nd, fun p hp => ?_, fun kl => ?_, hlen, fun p hp zd => ?_, fun p hp => ?_⟩
 ·rw [hlen] at hsz; exact hsz
 ·rcases (hin p).1 hp with rfl | ⟨hp, _⟩
  ·exact hl
  exact h.labs p hp
 ·by_cases he : kl = keyL l
  ·subst he
   rw [Maps.has_put_same hmp hkey]
   exact ⟨fun _ => ⟨_, (hin _).2 (.inl rfl), rfl⟩, fun _ => rfl⟩
  rw [Maps.has_put_other he, h.has]
  constructor
  ·rintro ⟨p, hp, hk⟩
   exact ⟨p, (hin p).2 (.inr ⟨hp, fun e => he (by rw [← hk, e])⟩), hk⟩
  rintro ⟨p, hp, hk⟩
  rcases (hin p).1 hp with rfl | ⟨hp, _⟩
  ·exact absurd hk.symm he
  exact ⟨p, hp, hk⟩
 ·rcases (hin p).1 hp with rfl | ⟨hp, hne⟩
  ·rw [Maps.atKey_put_same hmp hkey]
  rw [Maps.atKey_put_other (fun e => hne (keyL_inj (h.labs p hp) hl e))]
  exact h.at_ p hp zd
 rcases (hin p).1 hp with rfl | ⟨hp, hne⟩
 ·exact k.ok hv
 exact k.ok (h.ok p hp)
theorem lmK_put {n : Nat} (h0 : MapW Tryz.prog 42 w b n D) (hl : LabOk l) (h : (lmK el b L).p m w) (k : KeepB (some b) w m w' m) {v : AV} {x : α} (hs : Sim v (el x)) (hv : Ok m w v) (hM : MapW Tryz.prog 42 w' b (L.length + 1) (D.put (keyL l) (.held v.den))) : (lmK el b (setA l x L)).p m w' := by
 obtain ⟨D1, h1⟩ := h
 have := mapW_fun h0 h1.map
 subst this
 rw [hs.1] at hM
 exact h1.put hl k (hs.2.2 _ _ hv) hM
end
end Go.Proofs.YtpgjalaldhlcoaaGreat.Sym
namespace Go.Proofs.YtpgjalaldhlcoaaGreat
open Go.RowKit Sym
def coverB (l : Lab) (key : Int) : Bool := isL l && decide ((headN key.toNat l.len.toNat : Int) = l.bits)
def childL (l : Lab) (b : Int) : Lab := ⟨l.len + 1, if b = 1 then l.bits + (2 ^ (63 - l.len.toNat) : Nat) else l.bits⟩
def digs (v : Int) (n : Nat) : List UInt8 := (lowB 64 v.toNat).take n
theorem digs_len (v : Int) {n : Nat} (hn : n ≤ 64) : (digs v n).length = n := by unfold digs; rw [List.length_take, lowB_len]; omega
theorem digs_mem {v : Int} {n : Nat} : ∀ c ∈ digs v n, c = 48 ∨ c = 49 := fun c hc => lowB_mem c (List.mem_of_mem_take hc)
theorem u64_lt {v : Int} (h : U64 v) : v.toNat < 2 ^ 64 := by have := h.1; have := h.2; omega
theorem lowB_inj {n a b : Nat} (ha : a < 2 ^ n) (hb : b < 2 ^ n) (h : lowB n a = lowB n b) : a = b := by
 have := congrArg numB h
 rw [numB_low, numB_low, Nat.mod_eq_of_lt ha, Nat.mod_eq_of_lt hb] at this
 exact this
theorem div_lt {v n : Nat} (hv : v < 2 ^ 64) (hn : n ≤ 64) : v / 2 ^ (64 - n) < 2 ^ n := by
 rw [Nat.div_lt_iff_lt_mul (Nat.pow_pos (by decide)), ← Nat.pow_add, show n + (64 - n) = 64 by omega]
 exact hv
theorem lab_parts {l : Lab} (h : isL l = true) : 0 ≤ l.len ∧ l.len ≤ 64 ∧ (headN l.bits.toNat l.len.toNat : Int) = l.bits := by
 unfold isL at h
 simp only [Bool.and_eq_true, decide_eq_true_eq] at h
 exact ⟨h.1.1, h.1.2, h.2⟩
theorem cov_text {l : Lab} (hl : isL l = true) (hb : U64 l.bits) {key : Int} (hk : U64 key) : decide (digs l.bits l.len.toNat = digs key l.len.toNat) = coverB l key := by
 obtain ⟨h0, h1, h2⟩ := lab_parts hl
 have hn : l.len.toNat ≤ 64 := by omega
 unfold coverB
 rw [hl, Bool.true_and]
 rw [Bool.eq_iff_iff, decide_eq_true_eq, decide_eq_true_eq]
 unfold digs
 rw [low_take _ _ hn, low_take _ _ hn]
 constructor
 ·intro h
  have := lowB_inj (div_lt (u64_lt hb) hn) (div_lt (u64_lt hk) hn) h
  rw [← h2]
  unfold headN
  rw [this]
 intro h
 have e : headN key.toNat l.len.toNat = l.bits.toNat := by omega
 unfold headN at e
 rw [← e, Nat.mul_div_cancel _ (Nat.pow_pos (by decide))]
theorem half_pow {n : Nat} (h : n < 64) : 2 ^ (64 - n) = 2 * 2 ^ (63 - n) := by
 have h9 : 64 - n = (63 - n) + 1 := by omega
 rw [h9, Nat.pow_succ, Nat.mul_comm]
theorem lab_mul {l : Lab} (hl : isL l = true) (hb : U64 l.bits) (h64 : l.len ≠ 64) : ∃ q, l.bits = ((q * (2 * 2 ^ (63 - l.len.toNat)) : Nat) : Int) ∧ q * (2 * 2 ^ (63 - l.len.toNat)) + 2 * 2 ^ (63 - l.len.toNat) ≤ 2 ^ 64 := by
 obtain ⟨h0, h1, h2⟩ := lab_parts hl
 have hn : l.len.toNat < 64 := by omega
 refine ⟨l.bits.toNat / 2 ^ (64 - l.len.toNat), ?_, ?_⟩
 ·rw [← h2]
  unfold headN
  rw [half_pow hn]
  congr 1
  have : (((l.bits.toNat / (2 * 2 ^ (63 - l.len.toNat)) * (2 * 2 ^ (63 - l.len.toNat)) : Nat) : Int).toNat) = l.bits.toNat / (2 * 2 ^ (63 - l.len.toNat)) * (2 * 2 ^ (63 - l.len.toNat)) := Int.toNat_natCast _
  have hpos : 0 < 2 * 2 ^ (63 - l.len.toNat) := Nat.mul_pos (by decide) (Nat.pow_pos (by decide))
  rw [this, Nat.mul_div_cancel _ hpos]
 have h3 := div_lt (u64_lt hb) (show l.len.toNat ≤ 64 by omega)
 rw [← half_pow hn]
 have := Nat.mul_le_mul_right (2 ^ (64 - l.len.toNat)) (Nat.succ_le_of_lt h3)
 rw [← Nat.pow_add, show l.len.toNat + (64 - l.len.toNat) = 64 by omega, Nat.succ_mul] at this
 exact this
theorem child_u {l : Lab} (hl : isL l = true) (hb : U64 l.bits) (h64 : l.len ≠ 64) (b : Int) : U64 (childL l b).bits := by
 obtain ⟨q, h1, h2⟩ := lab_mul hl hb h64
 unfold childL
 simp only
 split
 ·rw [h1]; constructor
  ·omega
  have : 0 < 2 ^ (63 - l.len.toNat) := Nat.pow_pos (by decide)
  omega
 exact hb
theorem child_isL {l : Lab} (hl : isL l = true) (hb : U64 l.bits) (h64 : l.len ≠ 64) (b : Int) : isL (childL l b) = true := by
 obtain ⟨q, h1, h2⟩ := lab_mul hl hb h64
 obtain ⟨h3, h4, h5⟩ := lab_parts hl
 have hlen : (l.len + 1).toNat = l.len.toNat + 1 := by omega
 have hpow : 64 - (l.len.toNat + 1) = 63 - l.len.toNat := by omega
 unfold isL childL
 simp only [Bool.and_eq_true, decide_eq_true_eq]
 refine ⟨⟨by omega, by omega⟩, ?_⟩
 unfold headN
 rw [hlen, hpow]
 have hp : 0 < 2 ^ (63 - l.len.toNat) := Nat.pow_pos (by decide)
 split
 ·have e : (l.bits + ((2 ^ (63 - l.len.toNat) : Nat) : Int)).toNat = (q * 2 + 1) * 2 ^ (63 - l.len.toNat) := by
   rw [h1, Nat.add_mul, Nat.one_mul, Nat.mul_assoc]; omega
  rw [e, Nat.mul_div_cancel _ hp, h1, Nat.add_mul, Nat.one_mul, Nat.mul_assoc]
  omega
 have e : l.bits.toNat = (q * 2) * 2 ^ (63 - l.len.toNat) := by rw [h1, Nat.mul_assoc]; omega
 rw [e, Nat.mul_div_cancel _ hp, h1, Nat.mul_assoc]
theorem child_cov {l : Lab} (hl : isL l = true) (hb : U64 l.bits) (h64 : l.len ≠ 64) {key : Int} (hk : U64 key) (hc : coverB l key = true) :
  coverB (childL l 0) key = decide (key < (childL l 1).bits) ∧ coverB (childL l 1) key = decide ((childL l 1).bits ≤ key) := by
 obtain ⟨q, h1, h2⟩ := lab_mul hl hb h64
 obtain ⟨h3, h4, h5⟩ := lab_parts hl
 have hlen : (l.len + 1).toNat = l.len.toNat + 1 := by omega
 have hpow : 64 - (l.len.toNat + 1) = 63 - l.len.toNat := by omega
 have hn : l.len.toNat < 64 := by omega
 obtain ⟨M, hM⟩ := eqv (2 ^ (63 - l.len.toNat))
 have hp : 0 < M := by rw [hM]; exact Nat.pow_pos (by decide)
 have hh : (headN key.toNat l.len.toNat : Int) = l.bits := by
  unfold coverB at hc
  simp only [Bool.and_eq_true, decide_eq_true_eq] at hc
  exact hc.2
 rw [← hM] at h1
 have hq : key.toNat / (2 * M) = q := by
  unfold headN at hh
  rw [half_pow hn, ← hM, h1] at hh
  have : key.toNat / (2 * M) * (2 * M) = q * (2 * M) := by omega
  exact Nat.eq_of_mul_eq_mul_right (by omega) this
 have hkey : key.toNat = q * (2 * M) + key.toNat % (2 * M) := by
  have := Nat.div_add_mod key.toNat (2 * M)
  rw [hq, Nat.mul_comm] at this
  omega
 have hr := Nat.mod_lt key.toNat (show 0 < 2 * M by omega)
 have hdiv : key.toNat / M = q * 2 + key.toNat % (2 * M) / M := by
  conv => lhs; rw [hkey]
  rw [← Nat.mul_assoc, Nat.mul_comm, Nat.mul_add_div hp]
 have hk0 := hk.1
 unfold coverB
 rw [child_isL hl hb h64 0, child_isL hl hb h64 1, Bool.true_and, Bool.true_and]
 unfold childL headN
 simp only [hlen, hpow, ← hM, if_true, show ¬ ((0 : Int) = 1) by decide, if_false, hdiv, h1]
 by_cases hlt : key.toNat % (2 * M) < M
 ·rw [Nat.div_eq_of_lt hlt, Nat.add_zero, Nat.mul_assoc]
  constructor
  ·rw [decide_eq_true rfl, eq_comm, decide_eq_true_eq]; omega
  rw [Bool.eq_iff_iff, decide_eq_true_eq, decide_eq_true_eq]; omega
 have h9 : key.toNat % (2 * M) / M = 1 := by
  have h10 := Nat.div_lt_of_lt_mul (m := key.toNat % (2 * M)) (n := M) (k := 2) (by omega)
  have h11 := (Nat.le_div_iff_mul_le hp (x := 1) (y := key.toNat % (2 * M))).2 (by omega)
  omega
 rw [h9, Nat.add_mul, Nat.one_mul, Nat.mul_assoc]
 constructor
 ·rw [Bool.eq_iff_iff, decide_eq_true_eq, decide_eq_true_eq]; omega
 rw [Bool.eq_iff_iff, decide_eq_true_eq, decide_eq_true_eq]; omega
theorem child_text {l : Lab} (hl : isL l = true) (hb : U64 l.bits) (h64 : l.len ≠ 64) (b : Int) (hb01 : b = 0 ∨ b = 1) :
  numB (digs l.bits l.len.toNat ++ [if b = 1 then 49 else 48] ++ List.replicate (64 - (l.len.toNat + 1)) 48) = (childL l b).bits.toNat := by
 obtain ⟨h3, h4, h5⟩ := lab_parts hl
 have hn : l.len.toNat < 64 := by omega
 have hh := of_head (u64_lt hb) (show l.len.toNat ≤ 64 by omega)
 rw [numB_append, numB_zeros, List.length_replicate, Nat.add_zero, half_pow hn] at hh
 have hpow : 64 - (l.len.toNat + 1) = 63 - l.len.toNat := by omega
 have h0 := hb.1
 rw [List.append_assoc, List.singleton_append, numB_append, numB_cons, numB_zeros, List.length_cons, List.length_replicate, hpow, Nat.pow_succ, Nat.mul_comm (2 ^ (63 - l.len.toNat)) 2]
 unfold digs
 rw [hh]
 unfold childL
 clear hh
 generalize headN l.bits.toNat l.len.toNat = H at h5 ⊢
 generalize 2 ^ (63 - l.len.toNat) = M
 rcases hb01 with rfl | rfl
 ·simp only [show ¬ ((0 : Int) = 1) by decide, if_false]
  have : ((48 : UInt8).toNat - 48) = 0 := by decide
  rw [this]
  omega
 simp only [if_true]
 have : ((49 : UInt8).toNat - 48) = 1 := by decide
 rw [this, Nat.one_mul]
 omega
def covL (l : Lab) (its : List Itm) : List Itm := its.filter fun x => coverB l x.key
theorem isRF_kind {kd : Int} {n : Nat} {f : Nat → Itm} {nx : Lab} {mk : Int} (h : isRF kd n f nx mk = true) : 1 ≤ kd ∧ kd ≤ 5 ∧ n ≤ 16 ∧ (nx = noneL ∨ isL nx = true) ∧ okF f n = true := by
 rw [isRF_ref] at h
 simp only [Bool.and_eq_true, Bool.not_eq_true', Bool.or_eq_false_iff, decide_eq_false_iff_not] at h
 obtain ⟨⟨⟨⟨⟨h1, h2⟩, h3⟩, h4⟩, _⟩, h5⟩ := h
 refine ⟨by omega, by omega, by omega, ?_, h5⟩
 by_cases hd : nx = noneL
 ·exact .inl hd
 right
 cases hl : isL nx with
 | true => rfl
 | false => simp [hd, hl] at h4
end Go.Proofs.YtpgjalaldhlcoaaGreat
namespace Go.Proofs.YtpgjalaldhlcoaaGreat.Sym
open Go Go.RowKit
def chE (l : Lab) (b : Int) : Int := if isL l = false then 1 else if l.len = 64 then 5 else 0
def chV (l : Lab) (b : Int) : Lab := if chE l b = 0 then childL l b else ⟨0, 0⟩
theorem shl_bit {n : Int} (h0 : 0 ≤ n) (h1 : n < 64) : stdShift .shl .u64 1 (IntKind.i64.wrap (63 - n)) = ((2 ^ (63 - n.toNat) : Nat) : Int) := by
 rw [wrap_in (by omega) (by omega)]
 show IntKind.u64.wrap (1 * (2 : Int) ^ (min (63 - n).toNat 64)) = _
 rw [Nat.min_eq_left (by omega), Int.one_mul, show (63 - n).toNat = 63 - n.toNat by omega, show (2 : Int) ^ (63 - n.toNat) = ((2 ^ (63 - n.toNat) : Nat) : Int) by simp, wrap_u64n]
 have : 2 ^ (63 - n.toNat) ≤ 2 ^ 63 := Nat.pow_le_pow_right (by decide) (by omega)
 rw [Nat.mod_eq_of_lt (by omega)]
theorem or_child {l : Lab} (hl : isL l = true) (hb : U64 l.bits) (h64 : l.len ≠ 64) : sAr .or .u64 l.bits ((2 ^ (63 - l.len.toNat) : Nat) : Int) = l.bits + ((2 ^ (63 - l.len.toNat) : Nat) : Int) := by
 obtain ⟨q, h1, h2⟩ := lab_mul hl hb h64
 obtain ⟨h3, h4, h5⟩ := lab_parts hl
 have hn : l.len.toNat < 64 := by omega
 have hp : 0 < 2 ^ (63 - l.len.toNat) := Nat.pow_pos (by decide)
 rw [h1]
 rw [or_u64 (a := q * (2 * 2 ^ (63 - l.len.toNat))) (b := 2 ^ (63 - l.len.toNat)) (k := 64 - l.len.toNat) (by rw [half_pow hn]; exact Nat.mul_mod_left _ _) (by rw [half_pow hn]; omega) (by omega)]
 exact Int.natCast_add _ _
theorem lab_of_guard {l : Lab} {il : Bool} (hil : il = isL l) (h : ∀ e ∈ [((BE.v il : BE), true)], e.1.den = e.2) : 0 ≤ l.len ∧ l.len ≤ 64 := by
 have hl : il = true := h _ (List.mem_singleton.2 rfl)
 obtain ⟨a, b, _⟩ := lab_parts (l := l) (by rw [← hil]; exact hl)
 exact ⟨a, b⟩
theorem enters78 : Enters Tryz.prog 78 := fun _ _ => by kernel_rfl
theorem bit_s (n : Int) (h0 : 0 ≤ n) (h1 : n < 64) : Spec Tryz.prog 78 [.int .i64 n] (fun _ => .int .u64 ((2 ^ (63 - n.toNat) : Nat) : Int)) := by
 intro m w hm hargs
 refine en 6 hm hargs Tryz.func78 fun B hB a0 hF => ?_
 refine wp_seq (rg hB TA_ok [0] [] [] hF fun X0 a0 w1 hF => ?_)
 refine wp_seq (rg hB TA_ok [2] [] [] hF (hob := ?hob) fun X1 a0 w1 hF => ?_)
 case hob =>
  intro X
  subst hB
  refine ⟨?_, trivial⟩
  show 0 ≤ IntKind.i64.wrap (63 - n)
  rw [wrap_in (by omega) (by omega)]; omega
 refine wp_ret ((rsi hB TA_ok hF nAt (he := ?_)))
 subst hB
 rw [← shl_bit h0 h1]
 exact zr
theorem child_s (l : Lab) (hb0 : U64 l.bits) (b : Int) (hb01 : b = 0 ∨ b = 1) : Spec Tryz.prog 54 [labAV l, .int .i64 b] (fun _ => .tup [labAV (chV l b), .int .i64 (chE l b)]) := by
 intro m w hm hargs
 have SI := isL_s l hb0
 simp only [labAV] at SI hargs ⊢
 obtain ⟨il, hil⟩ := eqv (isL l)
 rw [← hil] at SI
 refine en 38 hm hargs Tryz.func54 fun B hB a0 hF => ?_
 refine wp_seq (rg hB TA_ok [1, 2, 4] [2, 4] [] hF fun X0 a0 w1 hF => ?_)
 refine wp_seq (wp_block (wp_seq (rg hB TA_ok [6, 1, 2, 4] [2, 4] [(1, .r fun _ => .bool (.v il))] hF (hob := ?hob) fun X1 a0 w1 hF => ?_)))
 case hob =>
  intro X
  subst hB
  repeat (first | exact trivial | refine ⟨rfl, ?_⟩ | refine ⟨fun _ => rfl, ?_⟩ | refine ⟨ob_lab (Kk := noK) _ _ _ _, ?_⟩ | refine ⟨fun _ => ob_lab (Kk := noK) _ _ _ _, ?_⟩ | refine ⟨⟨enters58, SI⟩, ?_⟩ | refine ⟨fun _ => ⟨enters58, SI⟩, ?_⟩)
 apply test_ok hF rfl <;> intro hb hF
 ·have h9 : (if (if (!il) = true then true else decide (b < 0)) = true then true else decide (b > 1)) = true := by subst hB; exact hb
  have hilf : il = false := by rcases hb01 with rfl | rfl <;> cases il <;> first | rfl | (simp at h9)
  have hE : chE l b = 1 := by unfold chE; rw [← hil, hilf]; rfl
  have hV : chV l b = ⟨0, 0⟩ := by unfold chV; rw [hE]; rfl
  refine wp_seq (rg hB TA_ok [4, 5] [4] [] hF (hob := ?hob) fun X2 a0 w1 hF => ?_)
  case hob =>
   intro X
   subst hB
   repeat (first | exact trivial | refine ⟨rfl, ?_⟩ | refine ⟨fun _ => rfl, ?_⟩ | refine ⟨ob_lab (Kk := noK) _ _ _ _, ?_⟩ | refine ⟨fun _ => ob_lab (Kk := noK) _ _ _ _, ?_⟩)
  refine wp_ret ((rsi hB TA_ok hF nAt (he := ?_)))
  subst hB
  rw [hV, hE]
  exact zr
 have h9 : (if (if (!il) = true then true else decide (b < 0)) = true then true else decide (b > 1)) = false := by subst hB; exact hb
 have hilt : il = true := by cases il <;> first | rfl | (simp at h9)
 have hLt : isL l = true := by rw [← hil]; exact hilt
 obtain ⟨hl0, hl1, hl2⟩ := lab_parts hLt
 refine wp_seq (rg hB TA_ok [19, 1, 2, 4] [2, 4] [] hF (hob := ?hob) fun X3 a0 w1 hF => ?_)
 case hob =>
  intro X
  subst hB
  repeat (first | exact trivial | refine ⟨rfl, ?_⟩ | refine ⟨fun _ => rfl, ?_⟩ | refine ⟨ob_lab (Kk := noK) _ _ _ _, ?_⟩ | refine ⟨fun _ => ob_lab (Kk := noK) _ _ _ _, ?_⟩)
 apply test_ok hF rfl <;> intro hb hF
 ·have h64 : l.len = 64 := by subst hB; simpa [std, sC] using hb
  have hE : chE l b = 5 := by unfold chE; rw [← hil, hilt, if_neg (by decide), if_pos h64]
  have hV : chV l b = ⟨0, 0⟩ := by unfold chV; rw [hE]; rfl
  refine wp_seq (rg hB TA_ok [4, 5] [4] [] hF (hob := ?hob) fun X4 a0 w1 hF => ?_)
  case hob =>
   intro X
   subst hB
   repeat (first | exact trivial | refine ⟨rfl, ?_⟩ | refine ⟨fun _ => rfl, ?_⟩ | refine ⟨ob_lab (Kk := noK) _ _ _ _, ?_⟩ | refine ⟨fun _ => ob_lab (Kk := noK) _ _ _ _, ?_⟩)
  refine wp_ret ((rsi hB TA_ok hF nAt (he := ?_)))
  subst hB
  rw [hV, hE]
  exact zr
 have h64 : l.len ≠ 64 := by subst hB; simpa [std, sC] using hb
 have hE : chE l b = 0 := by unfold chE; rw [← hil, hilt, if_neg (by decide), if_neg h64]
 have hV : chV l b = childL l b := by unfold chV; rw [hE]; rfl
 refine wp_skip (wp_seq (wp_seq (rg hB TA_ok [25, 2, 4] [2, 4] [] hF fun X5 a0 w1 hF => ?_)))
 refine cut_one (ι := Int) (S0 := [(25, _)]) (M0 := [(2, _)]) (G0 := []) (fun p => []) (fun p => [(2, ⟨(X0 0).b, 42, [.int .i64 l.len, .int .u64 p]⟩)]) (fun p => []) (fun p => p = (childL l b).bits) hF ?_ ?_
 ·apply test_ok hF rfl <;> intro hb hF
  ·have hb1 : b = 1 := by subst hB; simpa [std, sC] using hb
   have SB := bit_s l.len hl0 (by omega)
   obtain ⟨bt, hbt⟩ := eqv (((2 ^ (63 - l.len.toNat) : Nat) : Int))
   rw [← hbt] at SB
   have hor : sAr .or .u64 l.bits bt = l.bits + bt := by rw [hbt]; exact or_child hLt hb0 h64
   refine drg hB TA_ok [2, 4] [2, 4] [(4, .r fun _ => .int .u64 bt)] hF (hob := ?hob) fun X6 a0 w1 hF => ?_
   case hob =>
    intro X
    subst hB
    repeat (first | exact trivial | refine ⟨rfl, ?_⟩ | refine ⟨fun _ => rfl, ?_⟩ | refine ⟨ob_lab (Kk := noK) _ _ _ _, ?_⟩ | refine ⟨fun _ => ob_lab (Kk := noK) _ _ _ _, ?_⟩ | refine ⟨⟨enters78, SB⟩, ?_⟩ | refine ⟨fun _ => ⟨enters78, SB⟩, ?_⟩)
   refine ⟨(childL l b).bits, rfl, ?_⟩
   have e : (childL l b).bits = B.arith .or .u64 l.bits bt := by
    subst hB
    show _ = sAr .or .u64 l.bits bt
    rw [hor, hb1, hbt]; rfl
   rw [e]; exact hF
  have hb1 : b = 0 := by
   have : ¬ b = 1 := by subst hB; simpa [std, sC] using hb
   exact hb01.resolve_right this
  exact wp_skip (⟨(childL l b).bits, rfl, by rw [hb1]; exact hF⟩)
 rintro bb hbb a0 w1 hF
 try dsimp only at hbb
 refine wp_seq (rg hB TA_ok [2, 4] [2, 4] [] hF (hob := ?hob) fun X7 a0 w1 hF => ?_)
 case hob =>
  intro X
  subst hB
  repeat (first | exact trivial | refine ⟨rfl, ?_⟩ | refine ⟨fun _ => rfl, ?_⟩ | refine ⟨ob_lab (Kk := noK) _ _ _ _, ?_⟩ | refine ⟨fun _ => ob_lab (Kk := noK) _ _ _ _, ?_⟩)
 refine wp_seq (rg hB TA_ok [4, 5] [4] [] hF (hob := ?hob) fun X8 a0 w1 hF => ?_)
 case hob =>
  intro X
  subst hB
  repeat (first | exact trivial | refine ⟨rfl, ?_⟩ | refine ⟨fun _ => rfl, ?_⟩ | refine ⟨ob_lab (Kk := noK) _ _ _ _, ?_⟩ | refine ⟨fun _ => ob_lab (Kk := noK) _ _ _ _, ?_⟩)
 refine wp_ret ((rsi hB TA_ok hF nAt (he := ?_)))
 subst hB
 rw [hV, hE]
 have e1 : IntKind.i64.wrap (l.len + 1) = l.len + 1 := wrap_in (by omega) (by omega)
 refine Sim.tup ⟨Sim.agg ⟨?_, ?_, trivial⟩, zr, trivial⟩
 ·show Sim (.int .i64 (IntKind.i64.wrap (l.len + 1))) _
  rw [e1]; exact zr
 rw [hbb]; exact zr
theorem cov_s (l : Lab) (hb0 : U64 l.bits) (key : Int) (hk : U64 key) : Spec Tryz.prog 55 [labAV l, .int .u64 key] (fun _ => .bool (.v (coverB l key))) := by
 intro m w hm hargs
 have SI := isL_s l hb0
 have SH := fun h0 h1 => head_s key l.len hk h0 h1
 simp only [labAV] at SI hargs
 unfold coverB
 obtain ⟨il, hil⟩ := eqv (isL l)
 rw [← hil] at SI ⊢
 obtain ⟨hd, hhd⟩ := eqv (((headN key.toNat l.len.toNat : Nat) : Int))
 rw [← hhd]
 simp only [← hhd] at SH
 refine en 16 hm hargs Tryz.func55 fun B hB a0 hF => ?_
 refine wp_seq (rg hB TA_ok [1, 2] [2] [] hF fun X0 a0 w1 hF => ?_)
 refine wp_seq (drg hB TA_ok [4] [] [(1, .r fun _ => .bool (.v il)), (6, .r fun _ => .int .u64 hd)] hF (hob := ?hob) fun X1 a0 w1 hF => ?_)
 case hob =>
  intro X
  subst hB
  repeat (first | exact trivial | refine ⟨rfl, ?_⟩ | refine ⟨fun _ => rfl, ?_⟩ | refine ⟨⟨enters58, SI⟩, ?_⟩ | refine ⟨fun h => ⟨enters79, SH (lab_of_guard hil h).1 (lab_of_guard hil h).2⟩, ?_⟩)
 refine wp_ret ((rsi hB TA_ok hF nAt (he := ?_)))
 subst hB
 exact Sim.bool (by show (if il = true then decide (hd = l.bits) else false) = _; rw [ite_and]; rfl)
theorem enters81 : Enters Tryz.prog 81 := fun _ _ => by kernel_rfl
theorem rbits_s (l : Lab) (hb0 : U64 l.bits) (h0 : 0 ≤ l.len) (h1 : l.len ≤ 64) : Spec Tryz.prog 81 [labAV l] (fun _ => .str (mkB (digs l.bits l.len.toNat))) := by
 intro m w hm hargs
 have SB := bits_s l.bits hb0
 have hz : (mkB (lowB 64 l.bits.toNat)).size = 64 := by rw [mk_size, lowB_len]
 have he : mkB (digs l.bits l.len.toNat) = (mkB (lowB 64 l.bits.toNat)).extract 0 l.len.toNat := by rw [mk_extract, List.drop_zero]; rfl
 rw [he]
 simp only [labAV] at hargs
 generalize mkB (lowB 64 l.bits.toNat) = bs at SB hz ⊢
 refine en 9 hm hargs Tryz.func81 fun B hB a0 hF => ?_
 refine wp_seq (rg hB TA_ok [1] [1] [] hF fun X0 a0 w1 hF => ?_)
 refine wp_seq (drg hB TA_ok [2] [] [(2, .r fun _ => .str bs)] hF (hob := ?hob) fun X1 a0 w1 hF => ?_)
 case hob =>
  intro X
  subst hB
  repeat (first | exact trivial | refine ⟨rfl, ?_⟩ | refine ⟨⟨enters84, SB⟩, ?_⟩ | refine ⟨⟨by decide, h0, by show l.len ≤ (bs.size : Int); rw [hz]; exact h1⟩, ?_⟩)
 exact wp_ret ((rsp hB TA_ok hF nAt).1)
theorem rcov_s (l : Lab) (hb0 : U64 l.bits) (key : Int) (hk : U64 key) : Spec Tryz.prog 82 [labAV l, .int .u64 key] (fun _ => .bool (.v (coverB l key))) := by
 intro m w hm hargs
 have SI := risL_s l hb0
 have SD := fun h0 h1 => rbits_s l hb0 h0 h1
 have SB := bits_s key hk
 have hz : (mkB (lowB 64 key.toNat)).size = 64 := by rw [mk_size, lowB_len]
 have hct := fun hl => cov_text (l := l) hl hb0 hk
 have he : mkB (digs key l.len.toNat) = (mkB (lowB 64 key.toNat)).extract 0 l.len.toNat := by rw [mk_extract, List.drop_zero]; rfl
 simp only [labAV] at SI hargs SD
 obtain ⟨il, hil⟩ := eqv (isL l)
 rw [← hil] at SI
 generalize mkB (lowB 64 key.toNat) = bs at SB hz he
 obtain ⟨d, hd⟩ := eqv (mkB (digs l.bits l.len.toNat))
 simp only [← hd] at SD
 refine en 17 hm hargs Tryz.func82 fun B hB a0 hF => ?_
 refine wp_seq (rg hB TA_ok [1, 2] [2] [] hF fun X0 a0 w1 hF => ?_)
 refine wp_seq (drg hB TA_ok [4] [] [(1, .r fun _ => .bool (.v il)), (4, .r fun _ => .str d), (6, .r fun _ => .str bs)] hF (hob := ?hob) fun X1 a0 w1 hF => ?_)
 case hob =>
  intro X
  subst hB
  repeat (first | exact trivial | refine ⟨rfl, ?_⟩ | refine ⟨fun _ => rfl, ?_⟩ | refine ⟨⟨enters62, SI⟩, ?_⟩ | refine ⟨fun _ => ⟨enters84, SB⟩, ?_⟩ | refine ⟨fun h => ⟨enters81, SD (lab_of_guard hil h).1 (lab_of_guard hil h).2⟩, ?_⟩ | refine ⟨fun h => ⟨by decide, (lab_of_guard hil h).1, by show l.len ≤ (bs.size : Int); rw [hz]; exact (lab_of_guard hil h).2⟩, ?_⟩)
 refine wp_ret ((rsi hB TA_ok hF nAt (he := ?_)))
 subst hB
 refine Sim.bool ?_
 show (if il = true then (d.toList == (bs.extract 0 l.len.toNat).toList) else false) = coverB l key
 cases hl : il with
 | false => rw [hl] at hil; unfold coverB; rw [← hil]; rfl
 | true =>
  rw [hl] at hil
  rw [if_pos rfl, eqB, hd, ← he, un_mk, un_mk]
  exact hct hil.symm
theorem rchild_s (l : Lab) (hb0 : U64 l.bits) (b : Int) (hb01 : b = 0 ∨ b = 1) : Spec Tryz.prog 56 [labAV l, .int .i64 b] (fun _ => .tup [labAV (chV l b), .int .i64 (chE l b)]) := by
 intro m w hm hargs
 have SI := risL_s l hb0
 simp only [labAV] at SI hargs ⊢
 obtain ⟨il, hil⟩ := eqv (isL l)
 rw [← hil] at SI
 refine en 32 hm hargs Tryz.func56 fun B hB a0 hF => ?_
 refine wp_seq (rg hB TA_ok [1, 2, 4] [2, 4] [] hF fun X0 a0 w1 hF => ?_)
 refine wp_seq (wp_seq (rg hB TA_ok [16, 1, 2, 4] [2, 4] [(1, .r fun _ => .bool (.v il))] hF (hob := ?hob) fun X1 a0 w1 hF => ?_))
 case hob =>
  intro X
  subst hB
  repeat (first | exact trivial | refine ⟨rfl, ?_⟩ | refine ⟨fun _ => rfl, ?_⟩ | refine ⟨ob_lab (Kk := noK) _ _ _ _, ?_⟩ | refine ⟨fun _ => ob_lab (Kk := noK) _ _ _ _, ?_⟩ | refine ⟨⟨enters62, SI⟩, ?_⟩ | refine ⟨fun _ => ⟨enters62, SI⟩, ?_⟩)
 apply test_ok hF rfl <;> intro hb hF
 ·have h9 : (if (if (!il) = true then true else decide (b < 0)) = true then true else decide (b > 1)) = true := by subst hB; exact hb
  have hilf : il = false := by rcases hb01 with rfl | rfl <;> cases il <;> first | rfl | (simp at h9)
  have hE : chE l b = 1 := by unfold chE; rw [← hil, hilf]; rfl
  have hV : chV l b = ⟨0, 0⟩ := by unfold chV; rw [hE]; rfl
  refine wp_seq (rg hB TA_ok [4, 5] [4] [] hF (hob := ?hob) fun X2 a0 w1 hF => ?_)
  case hob =>
   intro X
   subst hB
   repeat (first | exact trivial | refine ⟨rfl, ?_⟩ | refine ⟨fun _ => rfl, ?_⟩ | refine ⟨ob_lab (Kk := noK) _ _ _ _, ?_⟩ | refine ⟨fun _ => ob_lab (Kk := noK) _ _ _ _, ?_⟩)
  refine wp_ret ((rsi hB TA_ok hF nAt (he := ?_)))
  subst hB
  rw [hV, hE]
  exact zr
 have h9 : (if (if (!il) = true then true else decide (b < 0)) = true then true else decide (b > 1)) = false := by subst hB; exact hb
 have hilt : il = true := by cases il <;> first | rfl | (simp at h9)
 have hLt : isL l = true := by rw [← hil]; exact hilt
 obtain ⟨hl0, hl1, hl2⟩ := lab_parts hLt
 refine wp_skip (wp_seq (wp_seq (rg hB TA_ok [20, 1, 2, 4] [2, 4] [] hF fun X3 a0 w1 hF => ?_)))
 apply test_ok hF rfl <;> intro hb hF
 ·have h64 : l.len = 64 := by subst hB; simpa [std, sC] using hb
  have hE : chE l b = 5 := by unfold chE; rw [← hil, hilt, if_neg (by decide), if_pos h64]
  have hV : chV l b = ⟨0, 0⟩ := by unfold chV; rw [hE]; rfl
  refine wp_seq (rg hB TA_ok [4, 5] [4] [] hF (hob := ?hob) fun X4 a0 w1 hF => ?_)
  case hob =>
   intro X
   subst hB
   repeat (first | exact trivial | refine ⟨rfl, ?_⟩ | refine ⟨fun _ => rfl, ?_⟩ | refine ⟨ob_lab (Kk := noK) _ _ _ _, ?_⟩ | refine ⟨fun _ => ob_lab (Kk := noK) _ _ _ _, ?_⟩)
  refine wp_ret ((rsi hB TA_ok hF nAt (he := ?_)))
  subst hB
  rw [hV, hE]
  exact zr
 have h64 : l.len ≠ 64 := by subst hB; simpa [std, sC] using hb
 have hE : chE l b = 0 := by unfold chE; rw [← hil, hilt, if_neg (by decide), if_neg h64]
 have hV : chV l b = childL l b := by unfold chV; rw [hE]; rfl
 refine wp_skip (wp_seq (wp_seq (rg hB TA_ok [23, 2, 4] [2, 4] [] hF fun X5 a0 w1 hF => ?_)))
 apply test_ok hF rfl <;> intro hb hF
 ·have hb1 : b = 0 := by subst hB; simpa [std, sC] using hb
  have SD := rbits_s l hb0 hl0 hl1
  simp only [labAV] at SD
  obtain ⟨d, hd⟩ := eqv (mkB (digs l.bits l.len.toNat))
  rw [← hd] at SD
  have hds : d.size = l.len.toNat := by rw [hd, mk_size]; exact digs_len _ (by omega)
  have hdt : unB (d ++ ⟨#[48]⟩) = digs l.bits l.len.toNat ++ [48] := by rw [un_append, hd, un_mk]; rfl
  have hsz : (d ++ ⟨#[48]⟩ : ByteArray).size = l.len.toNat + 1 := by rw [← un_size, hdt, List.length_append, digs_len _ (by omega)]; rfl
  have SO := of_s (d ++ ⟨#[48]⟩) (fun x hx => by rw [hdt] at hx; rcases List.mem_append.1 hx with hx | hx; exact digs_mem x hx; rw [List.mem_singleton.1 hx]; decide) (by omega)
  obtain ⟨k, hk⟩ := eqv (ofT (d ++ ⟨#[48]⟩))
  rw [← hk] at SO
  simp only [labAV] at SO
  have hkl : k = childL l b := by
   have ht := child_text hLt hb0 h64 b hb01
   have hu := child_u hLt hb0 h64 b
   rw [hk]; unfold ofT; rw [hdt, hsz]
   have e1 : (childL l b).len = l.len + 1 := rfl
   have e2 : ∀ k : Lab, k = ⟨k.len, k.bits⟩ := fun k => rfl
   rw [e2 (childL l b), e1]
   congr 1
   ·omega
   have h0 := hu.1
   have e3 : (if b = 1 then (49 : UInt8) else 48) = 48 := by rw [hb1]; rfl
   rw [e3] at ht
   rw [ht]; omega
  refine wp_seq (rg hB TA_ok [4, 5] [4] [(1, .r fun _ => .str d), (3, .r fun _ => .agg [.int .i64 k.len, .int .u64 k.bits])] hF (hob := ?hob) fun X6 a0 w1 hF => ?_)
  case hob =>
   intro X
   subst hB
   repeat (first | exact trivial | refine ⟨(show d.size + 1 ≤ maxLen by simp only [maxLen]; omega), ?_⟩ | refine ⟨rfl, ?_⟩ | refine ⟨⟨enters81, SD⟩, ?_⟩ | refine ⟨⟨enters80, SO⟩, ?_⟩)
  refine wp_ret ((rsi hB TA_ok hF nAt (he := ?_)))
  subst hB
  rw [hV, hE, ← hkl]
  exact zr
 have hb1 : b = 1 := by
  have : ¬ b = 0 := by subst hB; simpa [std, sC] using hb
  exact hb01.resolve_left this
 have SD := rbits_s l hb0 hl0 hl1
 simp only [labAV] at SD
 obtain ⟨d, hd⟩ := eqv (mkB (digs l.bits l.len.toNat))
 rw [← hd] at SD
 have hds : d.size = l.len.toNat := by rw [hd, mk_size]; exact digs_len _ (by omega)
 have hdt : unB (d ++ ⟨#[49]⟩) = digs l.bits l.len.toNat ++ [49] := by rw [un_append, hd, un_mk]; rfl
 have hsz : (d ++ ⟨#[49]⟩ : ByteArray).size = l.len.toNat + 1 := by rw [← un_size, hdt, List.length_append, digs_len _ (by omega)]; rfl
 have SO := of_s (d ++ ⟨#[49]⟩) (fun x hx => by rw [hdt] at hx; rcases List.mem_append.1 hx with hx | hx; exact digs_mem x hx; rw [List.mem_singleton.1 hx]; decide) (by omega)
 obtain ⟨k, hk⟩ := eqv (ofT (d ++ ⟨#[49]⟩))
 rw [← hk] at SO
 simp only [labAV] at SO
 have hkl : k = childL l b := by
  have ht := child_text hLt hb0 h64 b hb01
  have hu := child_u hLt hb0 h64 b
  rw [hk]; unfold ofT; rw [hdt, hsz]
  have e1 : (childL l b).len = l.len + 1 := rfl
  have e2 : ∀ k : Lab, k = ⟨k.len, k.bits⟩ := fun k => rfl
  rw [e2 (childL l b), e1]
  congr 1
  ·omega
  have h0 := hu.1
  have e3 : (if b = 1 then (49 : UInt8) else 48) = 49 := by rw [hb1]; rfl
  rw [e3] at ht
  rw [ht]; omega
 refine wp_skip (wp_seq (rg hB TA_ok [4, 5] [4] [(1, .r fun _ => .str d), (3, .r fun _ => .agg [.int .i64 k.len, .int .u64 k.bits])] hF (hob := ?hob) fun X7 a0 w1 hF => ?_))
 case hob =>
  intro X
  subst hB
  repeat (first | exact trivial | refine ⟨(show d.size + 1 ≤ maxLen by simp only [maxLen]; omega), ?_⟩ | refine ⟨rfl, ?_⟩ | refine ⟨⟨enters81, SD⟩, ?_⟩ | refine ⟨⟨enters80, SO⟩, ?_⟩)
 refine wp_ret ((rsi hB TA_ok hF nAt (he := ?_)))
 subst hB
 rw [hV, hE, ← hkl]
 exact zr
theorem mapr_und : Tryz.prog.underlying 48 = some (.map 42 44) := by kernel_rfl
theorem mapl_und : Tryz.prog.underlying 65 = some (.map 42 42) := by kernel_rfl
theorem cov_stp (l : Lab) (f : Nat → Itm) (i : Nat) : covL l (firsts f (i + 1)) = covL l (firsts f i) ++ (if coverB l (f i).key = true then [f i] else []) := by
 unfold firsts covL
 rw [List.range_succ, List.map_append, List.filter_append]
 congr 1
 by_cases h : coverB l (f i).key = true <;> simp [h]
def treeA (f : Nat → RowA) : Nat → List (Lab × RA)
 | 0 => []
 | n + 1 => setA (f n).lab (f n).x (treeA f n)
theorem treeA_len (f : Nat → RowA) : ∀ n, (treeA f n).length ≤ n
 | 0 => Nat.le_refl _
 | n + 1 => by
  have := treeA_len f n
  unfold treeA
  rw [set_len]
  split <;> omega
theorem tcov_s (A : Option Addr) (n c : Nat) (f : Nat → Itm) (hn : n ≤ 1000000) (l : Lab) (hb0 : U64 l.bits) (hki : ∀ i, i < n → U64 (f i).key) : Spec Tryz.prog 25 [rowI A n c f, labAV l] (fun x => rowI (x.A 0) (covL l (firsts f n)).length (x.c 0) (itF (covL l (firsts f n)))) := by
 intro m w hm hargs
 have hmx : maxLen = 9223372036854775807 := rfl
 unfold rowI at hargs ⊢
 simp only [labAV] at hargs ⊢
 refine en 24 hm hargs Tryz.func25 fun B hB a0 hF => ?_
 refine wp_seq (rg hB TA_ok [0, 3] [3] [] hF fun X0 a0 w1 hF => ?_)
 refine wp_seq (rg hB TA_ok [5, 3, 0] [3, 5] [] hF fun X1 a0 w1 hF => ?_)
 refine wp_seq (wp_seq (rg hB TA_ok [5, 10, 3, 8, 9] [3, 5] [] hF fun X2 a0 w1 hF => ?_))
 replace hF := hF.headS (v' := .sl (some 5) none 0 0 2 (fun t => itC zeroItm)) (zq0) rfl
 refine wp_block (loop_pre (ι := Nat × Nat × (Nat → Itm) × Option Addr × Nat) (fun p => [(5, .sl (some 5) p.2.2.2.1 p.2.1 p.2.2.2.2 2 (fun t => itC (p.2.2.1 t))), (10, .int .i64 (p.1 : Int))]) (fun p => []) (fun p => [(5, ⟨p.2.2.2.1, p.2.1, p.2.2.2.2, 2, 58⟩)]) (fun p => p.1 ≤ n ∧ p.2.1 ≤ p.1 ∧ firsts p.2.2.1 p.2.1 = covL l (firsts f p.1)) (fun p => n - p.1) (0, 0, fun _ => zeroItm, none, 0) ⟨Nat.zero_le _, Nat.le_refl _, rfl⟩ hF ?_)
 rintro ⟨i, q, g, A1, c1⟩ ⟨hi, hq, hg⟩ a0 w1 hF
 try dsimp only at hi
 try dsimp only at hq
 try dsimp only at hg
 refine wp_seq (rg hB TA_ok [11, 5, 10, 3, 8, 9] [3, 5] [] hF fun X3 a0 w1 hF => ?_)
 refine wp_seq (test_ok hF rfl (fun hb hF => ?_) (fun hb hF => ?_))
 ·have hin : i < n := by
   have : (i : Int) < (n : Int) := by subst hB; simpa [std, sC] using hb
   omega
  have S := cov_s l hb0 (f i).key (hki i hin)
  simp only [labAV] at S
  obtain ⟨cq, hcq⟩ := eqv (coverB l (f i).key)
  rw [← hcq] at S
  refine wp_skip (wp_seq (wp_block (wp_seq ?_)))
  refine rg hB TA_ok [7, 5, 10, 3, 8, 9] [7, 3, 5] [] hF (hob := by intro X; subst hB; simp only [AO, Ob.holds, BE.den] <;> and_intros <;> repeat first | trivial | rfl | exact (show (0 : Int) ≤ (i : Int) by omega) | exact (show (i : Int) < (n : Int) by omega) | exact (fun _ _ => by kernel_rfl) | refine ⟨?_, ?_⟩ | intro h | exact Int.le_refl _ | decide | omega) fun X4 a0 w1 hF => ?_
  replace hF := hF.memS (cells' := itC (f i)) (by subst hB; exact zl)
  have O1 := S
  refine wp_seq (rg hB TA_ok [17, 7, 5, 10, 3, 8, 9] [7, 3, 5] [(3, .r fun _ => .bool (.v cq))] hF fun X5 a0 w1 hF => ?_)
  apply test_ok hF rfl <;> intro hb hF
  ·have hct : cq = true := hb
   rw [hct] at hcq
   refine rg hB TA_ok [5, 10, 3, 8, 9] [3, 5] [] hF (hob := ?hob) fun X6 a0 w1 hF => ?_
   case hob =>
    intro X
    subst hB
    repeat (first | exact trivial | refine ⟨⟨rfl, rfl, rfl⟩, ?_⟩ | refine ⟨rfl, ?_⟩ | refine ⟨⟨show q + 1 ≤ maxLen by omega, show (q + 1) * _ ≤ _ by omega⟩, ?_⟩)
   replace hF := hF.headS (v' := .sl (some 5) ((X6 3).A 0) (B.nadd q 1) ((X6 3).c 0) 2 (fun t => itC (fSet g q (f i) t))) (Sim.resl rfl (fun t ht => by
    subst hB
    have ht2 : t < q + 1 := ht
    show appC q (fun t => itC (g t)) (chunk 2 [.int .u64 (f i).key, .str (f i).val]) t = _
    unfold appC fSet
    split
    ·rw [if_neg (by omega)]
    have : t = q := by omega
    subst this
    simp [chunk, itC])) rfl
   refine rg hB TA_ok [5, 10, 3, 8, 9] [3, 5] [] hF fun X7 a0 w1 hF => ?_
   have e : B.arith .add .i64 (i : Int) 1 = ((i + 1 : Nat) : Int) := by subst hB; exact wrap_succ (n := n) hin (by omega)
   refine ⟨(i + 1, q + 1, fSet g q (f i), _, _), ⟨by simp only; omega, by simp only; omega, ?_⟩, by simp only; omega, by rw [← e, show q + 1 = B.nadd q 1 by subst hB; rfl]; exact hF⟩
   simp only
   rw [firsts_set, hg, cov_stp, if_pos hcq.symm]
  have hcf : cq = false := hb
  rw [hcf] at hcq
  refine wp_skip (rg hB TA_ok [5, 10, 3, 8, 9] [3, 5] [] hF fun X7 a0 w1 hF => ?_)
  have e : B.arith .add .i64 (i : Int) 1 = ((i + 1 : Nat) : Int) := by subst hB; exact wrap_succ (n := n) hin (by omega)
  refine ⟨(i + 1, q, g, _, _), ⟨by simp only; omega, by simp only; omega, ?_⟩, by simp only; omega, by rw [← e]; exact hF⟩
  simp only
  rw [hg, cov_stp, if_neg (by rw [← hcq]; decide), List.append_nil]
 have hout : i = n := by
  have : ¬ (i : Int) < (n : Int) := by subst hB; simpa [std, sC] using hb
  omega
 rw [hout] at hg
 refine wp_exit (wp_seq (rg hB TA_ok [4] [5] [] hF fun X8 a0 w1 hF => ?_))
 refine wp_ret ((rsi hB TA_ok hF (⟨0, fun _ => A1, fun _ => c1, fun _ => ⟨#[]⟩⟩) (he := ?_)))
 subst hB
 exact Sim.resl (by rw [← hg, firsts_len]) (fun t ht => by rw [← hg, firsts_len] at ht; rw [← hg, firsts_get _ _ t ht])
theorem enters22 : Enters Tryz.prog 22 := fun _ _ => by kernel_rfl
theorem tof_m (A : Option Addr) (n c : Nat) (f : Nat → RowA) (hn : n ≤ 100000) (hN : ∀ i, i < n → LabOk (f i).lab) : SpecM Tryz.prog 22 [rowsV A n c f] [] none noK (fun y => ⟨.raw (.map (some (y.c 0))), [], []⟩) (fun N y => lmF recV N (y.c 0) (treeA f n)) := by
 intro m w hm hargs hpre hI
 have hmx : maxLen = 9223372036854775807 := rfl
 refine enM (bo := none) 20 hm hpre hI hargs Tryz.func22 fun B hB a0 hF => ?_
 refine wp_seq (rg hB TA_ok [0] [] [] hF fun X0 a0 w1 hF => ?_)
 refine wp_seq (wp_region_lit (man_makeMap (k := 42) (e := 0) rfl rfl rfl rfl hF (Nat.le_of_ble_eq_true rfl) (lmK recV w1.heap.size []) (fun m w' _ _ hM => ⟨_, LmD.empty hM⟩) ?_))
 obtain ⟨bM, hbM⟩ := eqv (w1.heap.size)
 rw [← hbM]
 intro a0 w1 hfresh hF
 have hbfr : w.heap.size ≤ bM := hfresh
 refine lnd 1 hB TA_ok [3, 0] [] [] hF fun X1 a0 w1 hF => ?_
 refine wp_seq (wp_seq (rg hB TA_ok [9, 3, 7, 8] [] [] hF fun X2 a0 w1 hF => ?_))
 refine wp_block (loop_preK (ι := Nat) (fun p => lmK recV bM (treeA f p)) (fun p => [(9, .int .i64 (p : Int))]) (fun p => []) (fun p => []) (fun p => p ≤ n) (fun p => n - p) 0 (Nat.zero_le _) hF ?_)
 rintro i hi a0 w1 hF
 try dsimp only at hi
 replace hF := hF.withK (K' := lmK recV bM (treeA f i)) hF.kept
 have hLn := treeA_len f i
 refine wp_seq (rg hB TA_ok [10, 9, 3, 7, 8] [] [] hF fun X3 a0 w1 hF => ?_)
 refine wp_seq (test_ok hF rfl (fun hb hF => ?_) (fun hb hF => ?_))
 ·have hin : i < n := by
   have : (i : Int) < (n : Int) := by subst hB; simpa [std, sC] using hb
   omega
  have hlab := hN i hin
  refine wp_skip (wp_seq (wp_block (wp_seq ?_)))
  refine rg hB TA_ok [5, 9, 3, 7, 8] [5] [] hF (hob := by intro X; subst hB; simp only [AO, Ob.holds, BE.den] <;> and_intros <;> repeat first | trivial | rfl | exact (show (0 : Int) ≤ (i : Int) by omega) | exact (show (i : Int) < (n : Int) by omega) | exact (fun _ _ => by kernel_rfl) | refine ⟨?_, ?_⟩ | intro h | exact Int.le_refl _ | decide | omega) fun X4 a0 w1 hF => ?_
  replace hF := hF.memS (cells' := rowC (f i)) (by subst hB; exact zl)
  refine wp_region_lit (lpr 0 5 hB TA_ok [13, 15, 17, 9, 3, 7, 8] [5] [] hF fun X5_0 a0 w1 hF => ?_)
  obtain ⟨D2, hD2⟩ := hF.kept
  refine man_mapUpdate (k := 42) (e := 44) rfl rfl rfl rfl hF rfl rfl rfl rfl rfl labK mapr_und hD2.map (by omega) (key_lab hlab) (fun h => absurd h (by omega)) (lmK recV bM (treeA f (i + 1))) (fun m w' hk hkb hv hM => ?_) ?_
  ·exact lmK_put (x := (f i).x) hD2.map hlab hk hkb (zr) hv hM
  intro w1 hF
  refine wpList_nil (rg hB TA_ok [9, 3, 7, 8] [] [] hF fun X6 a0 w1 hF => ?_)
  have e : B.arith .add .i64 (i : Int) 1 = ((i + 1 : Nat) : Int) := by subst hB; exact wrap_succ (n := n) hin (by omega)
  refine ⟨i + 1, by omega, by omega, by rw [← e]; exact hF⟩
 have hout : i = n := by
  have : ¬ (i : Int) < (n : Int) := by subst hB; simpa [std, sC] using hb
  omega
 subst hout
 refine wp_exit (wp_seq (rg hB TA_ok [2] [] [] hF fun X7 a0 w1 hF => ?_))
 refine wp_ret ((rm hB TA_ok hF (⟨0, fun _ => none, fun _ => bM, fun _ => ⟨#[]⟩⟩) [] (hJ := ?_)).1)
 exact fun _ _ h => ⟨hbfr, h⟩
end Go.Proofs.YtpgjalaldhlcoaaGreat.Sym
namespace Go.Proofs.YtpgjalaldhlcoaaGreat.Sym
open Go Go.RowKit
open Go.Sort (flatK HoldsK putRowK get_flatK size_flatK)
section
variable {α : Type} [Inhabited α] {k : Nat} {cells : α → List AV} {w w' : World} {B e : Nat} {A : Option Addr} {n c : Nat} {h : Nat → α}
abbrev encV (cells : α → List AV) : α → List Value := fun x => (cells x).map AV.den
theorem flat_at (hk : ∀ x, (cells x).length = k) (d : Array α) (i j : Nat) (hi : i < d.size) (hj : j < k) : (flatK (encV cells) k d)[i * k + j]! = ((cells d[i]!).map AV.den)[j]! := by
 have hlt : i * k + j < d.size * k := by
  have : (i + 1) * k ≤ d.size * k := Nat.mul_le_mul_right k hi
  rw [Nat.add_mul, Nat.one_mul] at this
  omega
 rw [get_flatK _ _ _ _ hlt]
 have h1 : (i * k + j) / k = i := by rw [Nat.mul_comm, Nat.mul_add_div (by omega), Nat.div_eq_of_lt hj, Nat.add_zero]
 have h2 : (i * k + j) % k = j := by rw [Nat.mul_comm, Nat.mul_add_mod, Nat.mod_eq_of_lt hj]
 rw [h1, h2]
theorem holds_of_own (hk : ∀ x, (cells x).length = k) (hO : Own w B e k (.slice A n c) n (rowFlat (fun t => cells (h t)) n)) (hn : 0 < n) : ∃ b, A = some ⟨b, 0, none⟩ ∧ B ≤ b ∧ b < w.heap.size ∧ HoldsK (encV cells) k w b 0 ((List.range n).map h).toArray := by
 obtain ⟨b, hA, hb⟩ := own_head hO hn
 obtain ⟨h1, h2⟩ := hO.lt b hb
 refine ⟨b, hA, h1, h2, fun t ht => ?_⟩
 have hsz : ((List.range n).map h).toArray.size = n := by simp
 rw [size_flatK, hsz] at ht
 have hk0 : 0 < k := by rcases Nat.eq_zero_or_pos k with h0 | h0; rw [h0] at ht; omega; exact h0
 obtain ⟨i, j, hj, rfl⟩ : ∃ i j, j < k ∧ t = i * k + j := ⟨t / k, t % k, Nat.mod_lt _ hk0, by rw [Nat.mul_comm]; exact (Nat.div_add_mod t k).symm⟩
 have hi : i < n := by
  refine Nat.lt_of_not_le fun hle => ?_
  have := Nat.mul_le_mul_right k hle
  omega
 have hd : ((List.range n).map h).toArray[i]! = h i := by
  rw [getElem!_pos _ i (by rw [hsz]; exact hi)]; simp
 rw [flat_at hk _ i j (by rw [hsz]; exact hi) hj, hd, Nat.zero_add]
 have hg := rowFlat_get (cells := fun t => cells (h t)) (n := n) (fun i _ => hk _) hi hj
 have hjl : j < ((cells (h i)).map AV.den).length := by rw [List.length_map, hk]; exact hj
 rw [List.getElem?_eq_getElem hjl] at hg
 refine ⟨?_, ?_⟩
 ·rw [own_cells hO hb _ _ hg, getElem!_pos _ j hjl]; rfl
 obtain ⟨_, h2 | ⟨g, cap, cur, hv, _, hcur, _⟩⟩ := hO
 ·obtain ⟨h0, _⟩ := h2; omega
 injection hv with e1
 rw [hA] at e1
 injection e1 with e1
 injection e1 with e1
 subst e1
 simp [World.frozen?, hcur]
theorem heap_sort (d' : Array α) (m : Nat) (os : Array Obj) {b : Nat} (hb : b < w.heap.size) : (sortWorldK (encV cells) k w b 0 m d' os).heap[b]? = (w.heap[b]?).map (Go.Sort.onCells (Go.Sort.putCells id 0 (flatK (encV cells) k d'))) ∧ ∀ x, x < w.heap.size → x ≠ b → (sortWorldK (encV cells) k w b 0 m d' os).heap[x]? = w.heap[x]? := by
 have hsz : (putRowK (encV cells) k (Go.Sort.ahead w m) b 0 d').heap.size = w.heap.size := by simp [putRowK, Go.Sort.putRow, Go.Sort.mapBlock, Go.Sort.ahead]
 refine ⟨?_, fun x hx hne => ?_⟩
 ·unfold sortWorldK Go.Sort.grow
  simp only
  rw [Array.getElem?_append_left (by rw [hsz]; exact hb)]
  simp [putRowK, Go.Sort.putRow, Go.Sort.mapBlock, Go.Sort.ahead, Array.getElem?_modify]
 unfold sortWorldK Go.Sort.grow
 simp only
 rw [Array.getElem?_append_left (by rw [hsz]; exact hx)]
 simp [putRowK, Go.Sort.putRow, Go.Sort.mapBlock, Go.Sort.ahead, Array.getElem?_modify]
 intro e; exact absurd e.symm hne
theorem own_sort (hk : ∀ x, (cells x).length = k) (hO : Own w B e k (.slice A n c) n (rowFlat (fun t => cells (h t)) n)) (hn : 0 < n) {b : Nat} (hA : A = some ⟨b, 0, none⟩) (hb : b < w.heap.size) (d' : Array α) (hd : d'.size = n) (m : Nat) (os : Array Obj) :
  Own (sortWorldK (encV cells) k w b 0 m d' os) B e k (.slice A n c) n (rowFlat (fun t => cells d'[t]!) n) := by
 have hlen : (rowFlat (fun t => cells d'[t]!) n).length = n * k := rowFlat_len fun i _ => hk _
 refine ⟨hlen, ?_⟩
 rcases hO.2 with ⟨h0, _⟩ | ⟨g, cap, cur, hv, h1, h2, h3, h4, h5, h6, h7⟩
 ·omega
 injection hv with e1 e2 e3
 subst e3
 have : g = b := by rw [hA] at e1; injection e1 with e1; injection e1 with e1; exact e1.symm
 subst this
 subst e1
 right
 refine ⟨g, c, Go.Sort.putCells id 0 (flatK (encV cells) k d') cur, rfl, h1, ?_, h3, h4, h5, ?_, ?_⟩
 ·rw [(heap_sort d' m os hb).1, h2]; rfl
 ·simp [Go.Sort.putCells, h6]
 apply List.ext_getElem?
 intro t
 by_cases ht : t < n * k
 ·have hcs : t < cur.size := by
   rw [h6]; have := Nat.mul_le_mul_right k h3; omega
  rw [List.getElem?_take_of_lt ht]
  have hk0 : 0 < k := by rcases Nat.eq_zero_or_pos k with h0 | h0; rw [h0] at ht; omega; exact h0
  obtain ⟨i, j, hj, rfl⟩ : ∃ i j, j < k ∧ t = i * k + j := ⟨t / k, t % k, Nat.mod_lt _ hk0, by rw [Nat.mul_comm]; exact (Nat.div_add_mod t k).symm⟩
  have hi : i < n := by
   refine Nat.lt_of_not_le fun hle => ?_
   have := Nat.mul_le_mul_right k hle
   omega
  rw [rowFlat_get (cells := fun t => cells d'[t]!) (n := n) (fun i _ => hk _) hi hj]
  have hf := flat_at hk d' i j (by rw [hd]; exact hi) hj
  have hjl : j < ((cells d'[i]!).map AV.den).length := by rw [List.length_map, hk]; exact hj
  rw [getElem!_pos _ j hjl] at hf
  simp only [Array.getElem?_toList, Go.Sort.putCells, Array.getElem?_mapIdx, Array.getElem?_eq_getElem hcs, Option.map_some, Nat.zero_le, true_and, Nat.zero_add, Nat.sub_zero, size_flatK, hd, ht, if_true, id]
  rw [hf, List.getElem?_eq_getElem hjl]
 rw [List.getElem?_eq_none (by rw [List.length_take]; omega), List.getElem?_eq_none (by rw [hlen]; omega)]
theorem sorted_c {P : Program} {f : Nat} {fv : Value} {lt : α → α → Bool} (hk : ∀ x, (cells x).length = k) (hO : Own w B e k (.slice A n c) n (rowFlat (fun t => cells (h t)) n))
  (hc : ∀ b (d : Array α), d.size = n → HoldsK (encV cells) k w b 0 d → b < w.heap.size → Calls P f #[.slice (some ⟨b, 0, none⟩) d.size c, fv] w fun e w' => e = .returned (.tuple #[]) ∧ ∃ d' m os, Go.Sort.PermIn 0 d.size d d' ∧ Go.Sort.SortedIn lt 0 d.size d' ∧ w' = sortWorldK (encV cells) k w b 0 m d' os)
  (h0 : n = 0 → Calls P f #[.slice A 0 c, fv] w fun e w' => e = .returned (.tuple #[]) ∧ w' = w) :
  Calls P f #[.slice A n c, fv] w fun e' w' => e' = .returned (.tuple #[]) ∧ ∃ h' : Nat → α, ((List.range n).map h').Perm ((List.range n).map h) ∧ (∀ i j, i < j → j < n → lt (h' j) (h' i) = false) ∧ Own w' B e k (.slice A n c) n (rowFlat (fun t => cells (h' t)) n) ∧ Chg (fun x => ownB (.slice A n c) = some x) w w' := by
 rcases Nat.eq_zero_or_pos n with hn | hn
 ·subst hn
  refine (h0 rfl).mono ?_
  rintro e' w' ⟨rfl, rfl⟩
  exact ⟨rfl, h, .refl _, fun i j _ hj => absurd hj (Nat.not_lt_zero _), hO, Chg.refl _ _⟩
 obtain ⟨b, hA, hB, hb, hH⟩ := holds_of_own hk hO hn
 have hsz : ((List.range n).map h).toArray.size = n := by simp
 have := hc b _ hsz hH hb
 rw [hsz, ← hA] at this
 refine this.mono ?_
 rintro e' w' ⟨rfl, d', m, os, hp, hs, rfl⟩
 have hd : d'.size = n := by rw [hp.1, hsz]
 refine ⟨rfl, fun i => d'[i]!, ?_, fun i j hij hj => hs i j (Nat.zero_le _) hij hj, own_sort hk hO hn hA hb d' hd m os, ?_⟩
 ·have h3 := hp.2.2
  have e1 : (d'.extract 0 n).toList = (List.range n).map fun i => d'[i]! := by
   apply List.ext_getElem
   ·simp [hd]
   intro i g1 g2
   have hi : i < n := by simpa using g2
   simp [getElem!_pos d' i (by rw [hd]; exact hi)]
  have e2 : (((List.range n).map h).toArray.extract 0 n).toList = (List.range n).map h := by
   simp [List.take_of_length_le]
  rw [e1, e2] at h3
  exact h3
 have hown : ownB (.slice A n c) = some b := by
  obtain ⟨b', hA', hb'⟩ := own_head hO hn
  rw [hA] at hA'
  injection hA' with hA'; injection hA' with hA'
  rw [hA']; exact hb'
 refine ⟨rfl, rfl, rfl, ?_, fun x hx hne => (heap_sort d' m os hb).2 x hx (fun e => hne (by rw [e]; exact hown))⟩
 exact size_sortWorldK_c (encV cells) k w b 0 m d' os
end
theorem own_known {m : Nat → Nat → Prop} {w : World} {B e k : Nat} {A : Option Addr} {n c : Nat} {f : Nat → List AV} (hO : Own w B e k (.slice A n c) n (rowFlat f n)) (hk : ∀ i, i < n → (f i).length = k) (hm : ∀ b, ownB (.slice A n c) = some b → ∀ o, ¬ m b o) (h1 : ∀ i, i < n → ∀ v ∈ f i, v.one = true ∧ Ok m w v) (g : Option Nat) : Ok m w (.sl g A n c k f) := by
 obtain ⟨A', c', he, h2, h3⟩ := hO.isSlice
 injection he with e1 e2 e3; subst e3
 refine .sl _ _ _ _ _ _ h2 h3 hk (fun i hi => ?_) (fun i hi => ?_) (fun i hi v hv => (h1 i hi v hv).1) (fun i hi v hv => (h1 i hi v hv).2)
 ·obtain ⟨b, hA, _⟩ := own_head hO (by omega)
  exact ⟨b, 0, hA⟩
 obtain ⟨b, hA, hb⟩ := own_head hO (by omega)
 intro j u hu
 have hj : j < k := by
  have := (List.getElem?_eq_some_iff.1 hu).1
  rwa [List.length_map, hk i hi] at this
 have hget := rowFlat_get (cells := f) hk hi hj
 rw [hu] at hget
 exact ⟨b, 0, hA, by rw [Nat.zero_add]; exact own_cells hO hb _ u hget, hm b hb _⟩
theorem Fits.sorted {m0 : Nat → Nat → Prop} {w0 : World} {S : Nat → Prop} {ds : List Deferred} {K : Kn} {nt key : Nat} {t : Gr} {l l' : List (Nat × AV)} {mem : List (Nat × Blk)} {a : Act} {w w' : World} (h : Fits ⟨m0, w0, S, ds, K⟩ ⟨nt, l, [], mem, [(key, t)]⟩ a w) (hc : Chg (fun x => ownB t.v = some x) w w')
  (hl : ∀ x, (look l' x).known = true → a.tmps[x]? = some (look l' x).den ∧ Ok (St.m ⟨nt, l', [], mem, []⟩ ⟨m0, w0, S, ds, noK⟩) w' (look l' x)) (hm : ∀ k e, lookM mem k = some e → ∀ v ∈ e.cells, Ok (St.m ⟨nt, l', [], mem, []⟩ ⟨m0, w0, S, ds, noK⟩) w' v) : Fits ⟨m0, w0, S, ds, noK⟩ ⟨nt, l', [], mem, []⟩ a w' := by
 have hlt : ∀ b, ownB t.v = some b → w0.heap.size ≤ b := fun b hb => by
  obtain ⟨_, xs, ho⟩ := h.gr key t (by simp [lookM])
  exact (ho.lt b hb).1
 refine ⟨h.size, h.defers, hl, (fun t p v hg => by cases hg), fun k e he => ?_, h.nodup, (fun k t ht => by cases ht), (fun k t k' e ht => by cases ht), (fun k t k' t' b ht => by cases ht), ?_, h.m0, trivial⟩
 ·obtain ⟨h1, h2, h3⟩ := h.mem k e he
  refine ⟨?_, fun v hv => ⟨(h2 v hv).1, hm k e he v hv⟩, h3⟩
  rw [hc.block _ (lt_heap h1) (fun hb => h.sepm key t k e (by simp [lookM]) he hb)]
  exact h1
 exact h.chg.trans hc fun k hk hb => absurd hk (Nat.not_lt.2 (hlt k hb))
theorem Fits.notM {m0 : Nat → Nat → Prop} {w0 : World} {S : Nat → Prop} {ds : List Deferred} {K : Kn} {nt key : Nat} {t : Gr} {l l' : List (Nat × AV)} {mem : List (Nat × Blk)} {a : Act} {w : World} (h : Fits ⟨m0, w0, S, ds, K⟩ ⟨nt, l, [], mem, [(key, t)]⟩ a w) : ∀ b, ownB t.v = some b → ∀ o, ¬ St.m ⟨nt, l', [], mem, []⟩ ⟨m0, w0, S, ds, noK⟩ b o := by
 intro b hb o hm
 obtain ⟨_, xs, ho⟩ := h.gr key t (by simp [lookM])
 have h1 := (ho.lt b hb).1
 rcases hm with hm | ⟨k, e, he, hm⟩ | ⟨k, t', ht, _⟩
 ·exact absurd (h.m0 _ _ hm) (Nat.not_lt.2 h1)
 ·subst hm
  exact h.sepm key t k e (by simp [lookM]) he hb
 cases ht
end Go.Proofs.YtpgjalaldhlcoaaGreat.Sym
namespace Go.Proofs.YtpgjalaldhlcoaaGreat.Sym
open Go Go.RowKit
section
variable {m0 : Nat → Nat → Prop} {w0 : World} {S : Nat → Prop} {ds : List Deferred} {K : Kn} {P : Program} {Q : Exit → Act → World → Prop} {ops : Array Oper} {s : St} {a : Act} {w : World} {L rest : List Oper} {o : Oper}
open Go.Maps in
theorem man_next1 {it : Operand} {k : TypeId} {d b r n cnt : Nat} {D : DataW Value} {left : Lit → Bool} (hL : L = o :: rest) (hg : o.guard = none) (hop : o.op = .next it false) (hdst : o.dst = some d) (h : Fits ⟨m0, w0, S, ds, K⟩ s a w) (hd : d < s.nt) (hit : val s [] it = .raw (.pointer (some ⟨r, 0, none⟩)))
  (Kd : Keyed P k) (hM : w.ranges P k hR b r n D left cnt) (hC : r < w0.heap.size → S r)
  (K1 : Bool → Value → Value → Lit → Nat → Kn) (hK0 : ∀ m, K.p m w → (∀ kl, left kl = false) → (K1 false (.bool false) (.bool false) (.bool false) 0).p m w) (hK1 : ∀ key v kl cnt' m w', K.p m w → KeepB (some r) w m w' m → w'.ranges P k hR b r n D (fun x => left x && !x.sameKey kl) cnt' → EntryAt P w' r key v → (K1 true key v kl cnt').p m w')
  (K' : ∀ a' w' bb rest' key v kl cnt', (bb = false → ∀ kl, left kl = false) → (bb = true → Go.keyOf P k key = some kl ∧ left kl = true ∧ (∀ zd, D.atKey kl zd = .held v) ∧ cnt' < cnt) → Fits ⟨m0, w0, S, ds, K1 bb key v kl cnt'⟩ (s.put (some d) (.tup (.bool (.v bb) :: rest'))) a' w' → wpList P ops Q rest a' w') : wpList P ops Q L a w := by
 have hiv := (val_ok h (q := []) (fun _ h => by cases h) (x := it) (by rw [hit]; rfl)).1
 rw [hit] at hiv
 have hr0 : ∃ o', w.heap[r]? = some o' ∧ ∀ c t f, o' ≠ Obj.cells c t f := by
  obtain ⟨es, clock, since, seen, c0, _, _, _, _, hr, _⟩ := hM
  exact ⟨_, hr, fun c t f e => by cases e⟩
 obtain ⟨o', hr, hro⟩ := hr0
 refine man_op hL hg ?_
 unfold Oper.wp
 rcases hM.next Kd o.type with ⟨h0, hl, hrun⟩ | ⟨key, v, kl, y, w', cnt', hkey, hlk, hv, hat, hrun, hrg, hlt, hgr, hsz, hen⟩
 ·have e1 : (execOp a.eval o).run P w = .ok (.value (.tuple #[.bool false])) w := by simp [execOp, hop, hiv, hrun, Result.andThen, AV.den]
  rw [e1]
  simp only [Oper.upon]
  rw [hdst]
  exact K' _ _ false [] (.bool false) (.bool false) (.bool false) 0 (fun _ => hl) (fun h => by cases h) ((h.withK (hK0 _ h.kept hl)).put (some d) (fun t ht => by injection ht with ht; subst ht; exact hd) (.tup [.bool (.v false)]) (fun _ => .tup _ fun u hu => by simp at hu; subst hu; exact .bool _) _ fun _ => rfl)
 have e1 : (execOp a.eval o).run P w = .ok (.value (.tuple #[.bool true, key, v])) w' := by simp [execOp, hop, hiv, hrun, Result.andThen, AV.den]
 rw [e1]
 simp only [Oper.upon]
 rw [hdst]
 have hv' : y.1 = .held v := by unfold hR at hv; injection hv with hv; rw [← hv]
 have hea : EntryAt P w' r key v := by
  obtain ⟨es, clock, since, seen, c0, hb', _, _, _, hr', _⟩ := hrg
  exact ⟨⟨_, _, _, _, _, _, hr', hb'⟩, hen⟩
 have h2 := h.turn hr hro hgr hC (hK1 key v kl cnt' _ _ h.kept (turn_keepB hr hro hgr) hrg hea)
 refine K' _ _ true [.raw key, .raw v] key v kl cnt' (fun h => by cases h) (fun _ => ⟨hkey, hlk, fun zd => (hat zd).trans hv', hlt⟩) (h2.put (some d) (fun t ht => by injection ht with ht; subst ht; exact hd) (.tup [.bool (.v true), .raw key, .raw v]) (fun _ => .tup _ fun u hu => ?_) _ fun _ => rfl)
 simp only [List.mem_cons, List.not_mem_nil, or_false] at hu
 rcases hu with rfl | rfl | rfl
 ·exact .bool _
 ·exact .raw _
 exact .raw _
theorem own_flat {m : Nat → Nat → Prop} {w : World} {B e k : Nat} {g : Option Nat} {A : Option Addr} {n c : Nat} {f : Nat → List AV} {xs : List Value} (hO : Own w B e k (.slice A n c) n xs) (hk : Ok m w (.sl g A n c k f)) : xs = rowFlat f n := by
 cases hk with
 | sl _ _ _ _ _ _ h1 h2 h3 h4 h5 h6 h7 =>
  have hl1 := hO.1
  have hl2 := rowFlat_len (cells := f) (k := k) (n := n) h3
  apply List.ext_getElem
  ·rw [hl1, hl2]
  intro t g1 g2
  have ht : t < n * k := by rw [hl1] at g1; exact g1
  have hk0 : 0 < k := by rcases Nat.eq_zero_or_pos k with h0 | h0; rw [h0] at ht; omega; exact h0
  obtain ⟨i, j, hj, rfl⟩ : ∃ i j, j < k ∧ t = i * k + j := ⟨t / k, t % k, Nat.mod_lt _ hk0, by rw [Nat.mul_comm]; exact (Nat.div_add_mod t k).symm⟩
  have hi : i < n := by
   refine Nat.lt_of_not_le fun hle => ?_
   have := Nat.mul_le_mul_right k hle
   omega
  obtain ⟨b, hA, hb⟩ := own_head hO (by omega)
  have e1 := own_cells hO hb (i * k + j) _ (List.getElem?_eq_getElem g1)
  have hjl : j < ((f i).map AV.den).length := by rw [List.length_map, h3 i hi]; exact hj
  obtain ⟨b', off, hA', e2, _⟩ := h5 i hi j _ (List.getElem?_eq_getElem hjl)
  have hg := rowFlat_get (cells := f) h3 hi hj
  rw [List.getElem?_eq_getElem g2, List.getElem?_eq_getElem hjl] at hg
  rw [hA] at hA'
  injection hA' with hA'; injection hA' with q1 q2
  subst q1; subst q2
  rw [Nat.zero_add] at e2
  rw [e1] at e2
  injection e2 with e2
  injection hg with hg
  rw [e2, hg]
theorem man_sorted {nt key d : Nat} {t : Gr} {l : List (Nat × AV)} {mem : List (Nat × Blk)} {c : Call} {g : Operand} {f : FuncId} {args : List AV} (hL : L = o :: rest) (hg : o.guard = none) (hop : o.op = .call c) (hcal : c.callee = .value g) (hdst : o.dst = some d) (h : Fits ⟨m0, w0, S, ds, K⟩ ⟨nt, l, [], mem, [(key, t)]⟩ a w) (hgv : val ⟨nt, l, [], mem, [(key, t)]⟩ [] g = .fn f [] []) (hl : vals ⟨nt, l, [], mem, [(key, t)]⟩ [] c.args.toList = some args) (hen : Enters P f)
  (R : World → Prop) (hc : Calls P f (args.map AV.den).toArray w fun e w' => e = .returned (.tuple #[]) ∧ R w' ∧ Chg (fun x => ownB t.v = some x) w w')
  (K' : ∀ w', R w' → Chg (fun x => ownB t.v = some x) w w' → wpList P ops Q rest (a.put (some d) (.tuple #[])) w') : wpList P ops Q L a w := by
 refine man_op hL hg ?_
 obtain ⟨hrun, _⟩ := call_run hop hcal h hgv hl hen
 unfold Oper.wp
 rw [hrun]
 simp only [Oper.upon]
 simp only [List.nil_append, List.append_nil]
 refine hc.mono ?_
 rintro e w' ⟨rfl, h1, h2⟩
 rw [hdst]
 exact K' w' h1 h2
end
theorem own_known2 {m : Nat → Nat → Prop} {w : World} {B e k : Nat} {A : Option Addr} {n c : Nat} {f : Nat → List AV} (hO : Own w B e k (.slice A n c) n (rowFlat f n)) (hk : ∀ i, i < n → (f i).length = k) (hm : ∀ b, ownB (.slice A n c) = some b → ∀ o, o < n * k → ¬ m b o) (h1 : ∀ i, i < n → ∀ v ∈ f i, v.one = true ∧ Ok m w v) (g : Option Nat) : Ok m w (.sl g A n c k f) := by
 obtain ⟨A', c', he, h2, h3⟩ := hO.isSlice
 injection he with e1 e2 e3; subst e3
 refine .sl _ _ _ _ _ _ h2 h3 hk (fun i hi => ?_) (fun i hi => ?_) (fun i hi v hv => (h1 i hi v hv).1) (fun i hi v hv => (h1 i hi v hv).2)
 ·obtain ⟨b, hA, _⟩ := own_head hO (by omega)
  exact ⟨b, 0, hA⟩
 obtain ⟨b, hA, hb⟩ := own_head hO (by omega)
 intro j u hu
 have hj : j < k := by
  have := (List.getElem?_eq_some_iff.1 hu).1
  rwa [List.length_map, hk i hi] at this
 have hget := rowFlat_get (cells := f) hk hi hj
 rw [hu] at hget
 refine ⟨b, 0, hA, by rw [Nat.zero_add]; exact own_cells hO hb _ u hget, hm b hb _ ?_⟩
 have := Nat.mul_le_mul_right k (Nat.succ_le_of_lt hi)
 rw [Nat.succ_mul] at this
 omega
section
variable {m0 : Nat → Nat → Prop} {w0 w w' : World} {S : Nat → Prop} {ds : List Deferred} {K K' : Kn} {nt key : Nat} {t : Gr} {l l' : List (Nat × AV)} {mem : List (Nat × Blk)} {a : Act}
abbrev mG (m0 : Nat → Nat → Prop) (mem : List (Nat × Blk)) (gr : List (Nat × Gr)) : Nat → Nat → Prop := St.m ⟨0, [], [], mem, gr⟩ ⟨m0, default, fun _ => False, [], noK⟩
theorem Fits.rowset (h : Fits ⟨m0, w0, S, ds, K⟩ ⟨nt, l, [], mem, [(key, t)]⟩ a w) (hc : Chg (fun x => ownB t.v = some x) w w') {xs' : List Value} (hO : Own w' w0.heap.size t.e t.k t.v t.n xs')
  (hl : ∀ x, (look l' x).known = true → a.tmps[x]? = some (look l' x).den ∧ Ok (mG m0 mem [(key, t)]) w' (look l' x)) (hm : ∀ k e, lookM mem k = some e → ∀ v ∈ e.cells, Ok (mG m0 mem [(key, t)]) w' v) (hK : K'.p (mG m0 mem [(key, t)]) w') : Fits ⟨m0, w0, S, ds, K'⟩ ⟨nt, l', [], mem, [(key, t)]⟩ a w' := by
 have hlt : ∀ b, ownB t.v = some b → w0.heap.size ≤ b := fun b hb => by
  obtain ⟨_, xs, ho⟩ := h.gr key t (by simp [lookM])
  exact (ho.lt b hb).1
 refine ⟨h.size, h.defers, hl, (fun t p v hg => by cases hg), fun k e he => ?_, h.nodup, fun k t' ht => ?_, h.sepm, h.sepg, ?_, h.m0, hK⟩
 ·obtain ⟨h1, h2, h3⟩ := h.mem k e he
  refine ⟨?_, fun v hv => ⟨(h2 v hv).1, hm k e he v hv⟩, h3⟩
  rw [hc.block _ (lt_heap h1) (fun hb => h.sepm key t k e (by simp [lookM]) he hb)]
  exact h1
 ·have hk := (h.gr k t' ht).1
  have : t' = t := by
   simp only [lookM] at ht
   split at ht
   ·injection ht with ht; exact ht.symm
   cases ht
  subst this
  exact ⟨hk, xs', hO⟩
 exact h.chg.trans hc fun k hk hb => absurd hk (Nat.not_lt.2 (hlt k hb))
theorem grown_free (h : Fits ⟨m0, w0, S, ds, K⟩ ⟨nt, l, [], mem, [(key, t)]⟩ a w) : ∀ b, ownB t.v = some b → ∀ o, o < t.n * t.k → ¬ mG m0 mem [(key, t)] b o := by
 intro b hb o ho hm
 obtain ⟨_, xs, hO⟩ := h.gr key t (by simp [lookM])
 have h1 := (hO.lt b hb).1
 rcases hm with hm | ⟨k, e, he, hm⟩ | ⟨k, t', ht, _, hle⟩
 ·exact absurd (h.m0 _ _ hm) (Nat.not_lt.2 h1)
 ·subst hm
  exact h.sepm key t k e (by simp [lookM]) he hb
 have : t' = t := by
  simp only [lookM] at ht
  split at ht
  ·injection ht with ht; exact ht.symm
  cases ht
 subst this
 omega
end
theorem three {α : Type} (L M N : List α) (x : Nat) : (L ++ M ++ N)[x]? = if x < L.length then L[x]? else if x < L.length + M.length then M[x - L.length]? else N[x - (L.length + M.length)]? := by
 by_cases h1 : x < L.length
 ·rw [if_pos h1, List.append_assoc, List.getElem?_append_left h1]
 rw [if_neg h1]
 by_cases h2 : x < L.length + M.length
 ·rw [if_pos h2, List.append_assoc, List.getElem?_append_right (by omega), List.getElem?_append_left (by omega)]
 rw [if_neg h2, List.getElem?_append_right (by rw [List.length_append]; omega), List.length_append]
def wrC (f : Nat → List AV) (i off : Nat) (vs : List AV) : Nat → List AV := fun j => if j = i then (f i).take off ++ vs ++ (f i).drop (off + vs.length) else f j
theorem wrC_len {f : Nat → List AV} {i off k n : Nat} {vs : List AV} (hk : ∀ j, j < n → (f j).length = k) (hi : i < n) (hfit : off + vs.length ≤ k) : ∀ j, j < n → (wrC f i off vs j).length = k := by
 intro j hj
 unfold wrC
 split
 ·have := hk i hi
  simp only [List.length_append, List.length_take, List.length_drop]
  omega
 exact hk j hj
theorem wr_flat {f : Nat → List AV} {i off k n : Nat} {vs : List AV} (hk : ∀ j, j < n → (f j).length = k) (hi : i < n) (hfit : off + vs.length ≤ k) :
  rowFlat (wrC f i off vs) n = (rowFlat f n).take (i * k + off) ++ vs.map AV.den ++ (rowFlat f n).drop (i * k + off + vs.length) := by
 have hlen := rowFlat_len hk
 have hik : i * k + k ≤ n * k := by
  have := Nat.mul_le_mul_right k (Nat.succ_le_of_lt hi)
  rwa [Nat.succ_mul] at this
 apply List.ext_getElem?
 intro x
 by_cases hx : x < n * k
 ·obtain ⟨j, p, hj, hp, rfl⟩ := rowFlat_split (cells := f) hx
  rw [rowFlat_get (wrC_len hk hi hfit) hj hp]
  have hb : ∀ {j' : Nat}, j' < i → j' * k + k ≤ i * k := fun {j'} h => by
   have := Nat.mul_le_mul_right k (Nat.succ_le_of_lt h)
   rwa [Nat.succ_mul] at this
  have ha : ∀ {j' : Nat}, i < j' → i * k + k ≤ j' * k := fun {j'} h => by
   have := Nat.mul_le_mul_right k (Nat.succ_le_of_lt h)
   rwa [Nat.succ_mul] at this
  have hl1 : ((rowFlat f n).take (i * k + off)).length = i * k + off := by rw [List.length_take, hlen]; omega
  rcases Nat.lt_trichotomy j i with h | h | h
  ·have := hb h
   unfold wrC
   rw [if_neg (by omega), List.append_assoc, List.getElem?_append_left (by rw [hl1]; omega), List.getElem?_take, if_pos (by omega), rowFlat_get hk hj hp]
  ·subst h
   have hfl := hk j hj
   unfold wrC
   rw [if_pos rfl]
   simp only [List.map_append, List.map_take, List.map_drop]
   have hl2 : (((f j).map AV.den).take off).length = off := by simp; omega
   rw [three, three, hl1, hl2, List.length_map]
   rcases Nat.lt_or_ge p off with h1 | h1
   ·rw [if_pos h1, if_pos (by omega), List.getElem?_take, List.getElem?_take, if_pos h1, if_pos (by omega), rowFlat_get hk hj hp]
   rcases Nat.lt_or_ge p (off + vs.length) with h2 | h2
   ·rw [if_neg (by omega), if_pos h2, if_neg (by omega), if_pos (by omega)]
    congr 1
    omega
   rw [if_neg (by omega), if_neg (by omega), if_neg (by omega), if_neg (by omega), List.getElem?_drop, List.getElem?_drop]
   rw [show j * k + off + vs.length + (j * k + p - (j * k + off + vs.length)) = j * k + p by omega, rowFlat_get hk hj hp]
   congr 1
   omega
  have := ha h
  unfold wrC
  rw [if_neg (by omega), List.getElem?_append_right (by rw [List.length_append, hl1]; simp; omega), List.length_append, hl1, List.length_map, List.getElem?_drop]
  rw [show i * k + off + vs.length + (j * k + p - (i * k + off + vs.length)) = j * k + p by omega, rowFlat_get hk hj hp]
 rw [List.getElem?_eq_none (by rw [rowFlat_len (wrC_len hk hi hfit)]; omega), List.getElem?_eq_none ?_]
 simp only [List.length_append, List.length_take, List.length_drop, List.length_map, hlen]
 omega
theorem own_set {w : World} {B e k : Nat} {A : Option Addr} {n c : Nat} {xs : List Value} (hO : Own w B e k (.slice A n c) n xs) {o : Nat} {vs : List Value} (ho : o + vs.length ≤ n * k) (hn : 0 < n) :
  ∃ g cur, A = some ⟨g, 0, none⟩ ∧ w.heap[g]? = some (.cells cur e (0, 0)) ∧ cur.size = c * k ∧ n * k ≤ c * k ∧ ownB (.slice A n c) = some g ∧
   Own (w.setRow g (cur.toList.take o ++ vs ++ cur.toList.drop (o + vs.length)).toArray) B e k (.slice A n c) n (xs.take o ++ vs ++ xs.drop (o + vs.length)) ∧ Chg (fun x => ownB (.slice A n c) = some x) w (w.setRow g (cur.toList.take o ++ vs ++ cur.toList.drop (o + vs.length)).toArray) := by
 rcases hO.2 with ⟨rfl, _⟩ | ⟨g, cap, cur, hv, hB, hg, hnc, hc0, hcm, hcs, ht⟩
 ·omega
 injection hv with e1 e2 e3
 subst e1; subst e3
 have hnk : n * k ≤ c * k := Nat.mul_le_mul_right _ hnc
 have hob : ownB (.slice (some ⟨g, 0, none⟩) n c) = some g := by simp [ownB]; omega
 have hcl : cur.toList.length = c * k := by simp [hcs]
 refine ⟨g, cur, rfl, hg, hcs, hnk, hob, ⟨?_, .inr ⟨g, c, _, rfl, hB, setRow_heap w g cur _ e _ hg, hnc, hc0, hcm, ?_, ?_⟩⟩, ⟨rfl, rfl, rfl, by simp [World.setRow], fun x _ hx => setRow_other w g x _ (fun e => hx (by rw [hob, e]))⟩⟩
 ·have := hO.1
  simp only [List.length_append, List.length_take, List.length_drop]
  omega
 ·simp only [List.size_toArray, List.length_append, List.length_take, List.length_drop, hcl]
  omega
 rw [← ht]
 apply List.ext_getElem?
 intro x
 rw [List.getElem?_take]
 by_cases hx : x < n * k
 ·rw [if_pos hx]
  rw [three, three]
  have l1 : (cur.toList.take o).length = o := by rw [List.length_take, hcl]; omega
  have l2 : ((cur.toList.take (n * k)).take o).length = o := by rw [List.length_take, List.length_take, hcl]; omega
  rw [l1, l2]
  rcases Nat.lt_or_ge x o with h2 | h2
  ·rw [if_pos h2, if_pos h2, List.getElem?_take, List.getElem?_take, List.getElem?_take, if_pos h2, if_pos h2, if_pos hx]
  rcases Nat.lt_or_ge x (o + vs.length) with h3 | h3
  ·rw [if_neg (by omega), if_pos h3, if_neg (by omega), if_pos h3]
  rw [if_neg (by omega), if_neg (by omega), if_neg (by omega), if_neg (by omega), List.getElem?_drop, List.getElem?_drop, List.getElem?_take, if_pos (by omega)]
 rw [if_neg hx, List.getElem?_eq_none]
 simp only [List.length_append, List.length_take, List.length_drop, hcl]
 omega
section
variable {m0 : Nat → Nat → Prop} {w0 w : World} {S : Nat → Prop} {ds : List Deferred} {K : Kn} {nt key : Nat} {l : List (Nat × AV)} {mem : List (Nat × Blk)} {a : Act} {P : Program} {T : List (Nat × TI)} {Q : Exit → Act → World → Prop} {ops : Array Oper}
theorem gr_own {A : Option Addr} {n c k e : Nat} {f : Nat → List AV} {g : Option Nat} (h : Fits ⟨m0, w0, S, ds, K⟩ ⟨nt, l, [], mem, [(key, ⟨A, n, c, k, e⟩)]⟩ a w) {m : Nat → Nat → Prop} (hrow : Ok m w (.sl g A n c k f)) : Own w w0.heap.size e k (.slice A n c) n (rowFlat f n) := by
 obtain ⟨_, xs, hO⟩ := h.gr key ⟨A, n, c, k, e⟩ (by simp [lookM])
 have hO' : Own w w0.heap.size e k (.slice A n c) n xs := hO
 have := own_flat hO' hrow
 rw [← this]; exact hO'
theorem man_rstore {L rest : List Oper} {o : Oper} {A : Option Addr} {n c k e i off ty : Nat} {f : Nat → List AV} {g : Option Nat} {cells : List AV} {p x : Operand} {v : AV} {ti : TI} (hL : L = o :: rest) (hg : o.guard = none) (hop : o.op = .store ty p x) (hdst : o.dst = none) (h : Fits ⟨m0, w0, S, ds, K⟩ ⟨nt, l, [], mem, [(key, ⟨A, n, c, k, e⟩)]⟩ a w)
  (hp : val ⟨nt, l, [], mem, [(key, ⟨A, n, c, k, e⟩)]⟩ [] p = .ep A i k off cells) (hx : val ⟨nt, l, [], mem, [(key, ⟨A, n, c, k, e⟩)]⟩ [] x = v) (hv : v.one = true ∨ isAggV v = true) (hT : TabOK P T) (hti : lookT T ty = some ti) (hsz : v.cells.length = ti.size) {m : Nat → Nat → Prop} (hrow : Ok m w (.sl g A n c k f)) (hk : ∀ j, j < n → (f j).length = k) (hi : i < n) (hfit : off + v.cells.length ≤ k)
  (Kc : ∀ w', Own w' w0.heap.size e k (.slice A n c) n (rowFlat (wrC f i off v.cells) n) → Chg (fun b => ownB (.slice A n c) = some b) w w' → (∀ u ∈ v.cells, u.one = true) → wpList P ops Q rest a w') : wpList P ops Q L a w := by
 have hO := gr_own h hrow
 have hik : i * k + k ≤ n * k := by
  have := Nat.mul_le_mul_right k (Nat.succ_le_of_lt hi)
  rwa [Nat.succ_mul] at this
 have hv1 : v.one || isAggV v = true := by rcases hv with hv | hv <;> simp [hv]
 have hvk : v.known = true := known_of_or (by simpa using hv1)
 have hpv := (val_ok h (q := []) (fun _ h => by cases h) (x := p) (by rw [hp]; rfl)).1
 have hxv := val_ok h (q := []) (fun _ h => by cases h) (x := x) (by rw [hx]; exact hvk)
 rw [hp] at hpv
 rw [hx] at hxv
 have hxc := ok_cells hxv.2 (by simpa using hv1)
 obtain ⟨b, cur, hA, hb, hcs, hnc, hob, hO2, hchg⟩ := own_set hO (o := i * k + off) (vs := v.cells.map AV.den) (by rw [List.length_map]; omega) (by omega)
 have hst := run_storeCells_at P b (i * k + off) e (v.cells.map AV.den) 0 cur w hb (by rw [List.length_map, hcs]; omega) (by
  intro u hu
  obtain ⟨y, hy, rfl⟩ := List.mem_map.1 hu
  exact one_of (hxc y hy).1)
 simp only [Nat.add_zero] at hst
 have hdc := den_cells (one_or (by simpa using hv1) : v.one = true ∨ ∃ l, v = .agg l)
 have hszr := (lookT_ok hT hti).size w
 have hpd : a.eval p = .pointer (some ⟨b, i * k + off, none⟩) := by
  rw [hpv, hA]
  simp [AV.den]
 refine man_op hL hg ?_
 refine wp_skip' (w' := w.setRow b (cur.toList.take (i * k + off) ++ v.cells.map AV.den ++ cur.toList.drop (i * k + off + (v.cells.map AV.den).length)).toArray) ?_ ?_
 ·simp only [List.length_map] at hst
  simp [execOp, hop, hpd, hxv.1, Instr.storeAt, Instr.sureAddr, storeVar, hdc, hszr, hsz, hst]
 rw [hdst]
 refine Kc _ ?_ hchg fun u hu => (hxc u hu).1
 rw [wr_flat hk hi hfit]
 simpa using hO2
end
def cmpI (x y : Int) : Int := if x < y then -1 else if y < x then 1 else 0
theorem cmpU_c (x y : Int) (w : World) : Calls Tryz.prog 38 #[.int .u64 x, .int .u64 y] w fun e w' => e = .returned (.int .i64 (cmpI x y)) ∧ w' = w := by
 have hn : ∀ (x : Int) (w : World), Calls Tryz.prog 75 #[.int .u64 x] w fun e w' => e = .returned (.bool false) ∧ w' = w := by
  intro x w
  go_enter Tryz.func75, Tryz.ntmps75
  go_wp2_with fail
  go_ret
  simp
 unfold cmpI
 go_enter Tryz.func38, Tryz.ntmps38
 go_wp2_with (go_at_call 75; refine (hn _ _).mono ?_; rintro e w' ⟨rfl, rfl⟩)
 all_goals (go_ret; exact ⟨rfl, rfl⟩)
theorem cmpN_c (x y : Int) (w : World) : Calls Tryz.prog 74 #[.int .i64 x, .int .i64 y] w fun e w' => e = .returned (.int .i64 (cmpI x y)) ∧ w' = w := by
 have hn : ∀ (x : Int) (w : World), Calls Tryz.prog 96 #[.int .i64 x] w fun e w' => e = .returned (.bool false) ∧ w' = w := by
  intro x w
  go_enter Tryz.func96, Tryz.ntmps96
  go_wp2_with fail
  go_ret
  simp
 unfold cmpI
 go_enter Tryz.func74, Tryz.ntmps74
 go_wp2_with (go_at_call 96; refine (hn _ _).mono ?_; rintro e w' ⟨rfl, rfl⟩)
 all_goals (go_ret; exact ⟨rfl, rfl⟩)
theorem or_c (b : Nat) (x y : Int) (w : World) (h0 : w.cell? ⟨b, 0, none⟩ = some (.int .i64 x)) (h1 : w.cell? ⟨b, 1, none⟩ = some (.int .i64 y)) : Calls Tryz.prog 73 #[.slice (some ⟨b, 0, none⟩) 2 2] w fun e w' => e = .returned (.int .i64 (if x ≠ 0 then x else y)) ∧ w' = w := by
 go_enter Tryz.func73, Tryz.ntmps73
 go_wp2_with fail
 refine wp_loop_rounds 3 ?_
 simp only [Code.rounds]
 go_wp2_with fail
 all_goals (go_ret; first | exact ⟨rfl, rfl⟩ | (exfalso; simp_all; done) | (refine ⟨?_, rfl⟩; simp_all; done))
def GrF (W w : World) : Prop := ∃ q os, w = Go.Sort.grow (W.drewN q) os
theorem GrF.refl (W : World) : GrF W W := ⟨0, #[], by simp [Go.Sort.grow, World.drewN]⟩
theorem GrF.drew {W w : World} (h : GrF W w) : GrF W w.drew := by
 obtain ⟨q, os, rfl⟩ := h
 exact ⟨q + 1, os, rfl⟩
theorem GrF.alloc {W w : World} (h : GrF W w) (o : Obj) : GrF W (w.alloc o) := by
 obtain ⟨q, os, rfl⟩ := h
 exact ⟨q, os.push o, by simp [Go.Sort.grow, World.alloc, World.drewN]⟩
theorem GrF.size {W w : World} (h : GrF W w) : W.heap.size ≤ w.heap.size := by
 obtain ⟨q, os, rfl⟩ := h
 simp [Go.Sort.grow, World.drewN]
theorem cell_alloc {w : World} {a : Addr} {u : Value} (h : w.cell? a = some u) (o : Obj) : (w.alloc o).cell? a = some u := by
 have hl := World.block_lt_of_cell? w _ h
 unfold World.cell? at h ⊢
 rw [Below.heap_alloc _ _ _ hl]; exact h
theorem cell_drew {w : World} {a : Addr} {u : Value} (h : w.cell? a = some u) : w.drew.cell? a = some u := h
theorem new2_0 (w : World) (x y : Value) (t : TypeId) : (w.alloc (.cells #[x, y] t)).cell? ⟨w.heap.size, 0, none⟩ = some x := cell_of_row _ _ 0 _ _ _ (heap_alloc_new w _)
theorem new2_1 (w : World) (x y : Value) (t : TypeId) : (w.alloc (.cells #[x, y] t)).cell? ⟨w.heap.size, 1, none⟩ = some y := cell_of_row _ _ 1 _ _ _ (heap_alloc_new w _)
theorem size_alloc {n : Nat} {w : World} (h : n ≤ w.heap.size) (o : Obj) : n ≤ (w.alloc o).heap.size := by simp; omega
def cmpLab (a b : Lab) : Int := if cmpI a.bits b.bits ≠ 0 then cmpI a.bits b.bits else cmpI a.len b.len
theorem order_c (a b : Lab) (W : World) : Calls Tryz.prog 34 #[(labAV a).den, (labAV b).den] W fun e w' => e = .returned (.int .i64 (cmpLab a b)) ∧ GrF W w' := by
 obtain ⟨al, ab⟩ := a
 obtain ⟨bl, bb⟩ := b
 simp only [labAV, AV.den, AV.denL, cmpLab]
 have hU := fun w => cmpU_c ab bb w
 have hN := fun w => cmpN_c al bl w
 generalize cmpI ab bb = x at hU ⊢
 generalize cmpI al bl = y at hN ⊢
 have hO := fun b w h0 h1 => or_c b x y w h0 h1
 generalize (if x ≠ 0 then x else y) = r at hO ⊢
 go_enter Tryz.func34, Tryz.ntmps34
 go_wp2_with fail
 obtain ⟨W5, hW5⟩ := eqv ((W.alloc (.cells #[.int .i64 al, .int .u64 ab] 42)).alloc (.cells #[.int .i64 bl, .int .u64 bb] 42))
 have hG : GrF W W5 := by rw [hW5]; exact ((GrF.refl W).alloc _).alloc _
 have hs : W5.heap.size = W.heap.size + 1 + 1 := by rw [hW5]; simp
 have z0 : W5.heap[W.heap.size]? = some (.cells #[.int .i64 al, .int .u64 ab] 42 (0, 0)) := by
  rw [hW5, Below.heap_alloc _ _ _ (by simp)]; exact heap_alloc_new W _
 have z1 : W5.heap[W.heap.size + 1]? = some (.cells #[.int .i64 bl, .int .u64 bb] 42 (0, 0)) := by
  have := heap_alloc_new (W.alloc (.cells #[.int .i64 al, .int .u64 ab] 42)) (.cells #[.int .i64 bl, .int .u64 bb] 42)
  rw [hW5]; simpa using this
 have c0 : W5.cell? ⟨W.heap.size, 0, none⟩ = some (.int .i64 al) := cell_of_row W5 _ 0 _ _ _ z0
 have c1 : W5.cell? ⟨W.heap.size, 1, none⟩ = some (.int .u64 ab) := cell_of_row W5 _ 1 _ _ _ z0
 have c2 : W5.cell? ⟨W.heap.size + 1, 0, none⟩ = some (.int .i64 bl) := cell_of_row W5 _ 0 _ _ _ z1
 have c3 : W5.cell? ⟨W.heap.size + 1, 1, none⟩ = some (.int .u64 bb) := cell_of_row W5 _ 1 _ _ _ z1
 clear z0 z1
 rw [← hW5]
 clear hW5
 clear hs
 go_region_held3 (fun w' => w'.cell? ⟨W.heap.size, 0, none⟩ = some (.int .i64 al) ∧ w'.cell? ⟨W.heap.size, 1, none⟩ = some (.int .u64 ab) ∧ w'.cell? ⟨W.heap.size + 1, 0, none⟩ = some (.int .i64 bl) ∧ w'.cell? ⟨W.heap.size + 1, 1, none⟩ = some (.int .u64 bb) ∧ W5.heap.size ≤ w'.heap.size ∧ GrF W w')
  ((go_split_ands; (repeat' apply And.intro) <;> first | with_reducible assumption | with_reducible exact GrF.drew (by assumption) | with_reducible exact GrF.alloc (by assumption) _ | with_reducible exact GrF.drew (GrF.alloc (by assumption) _) | with_reducible exact cell_alloc (by assumption) _ | with_reducible exact size_alloc (by assumption) _ | go_keep))
  (first | (go_at_call 38; refine (hU _).mono ?_; rintro e w' ⟨rfl, rfl⟩) | (go_at_call 74; refine (hN _).mono ?_; rintro e w' ⟨rfl, rfl⟩) | (go_at_call 73; refine (hO _ _ (by first | exact new2_0 _ _ _ _ | exact cell_drew (new2_0 _ _ _ _)) (by first | exact new2_1 _ _ _ _ | exact cell_drew (new2_1 _ _ _ _))).mono ?_; rintro e w' ⟨rfl, rfl⟩))
 all_goals (go_wp2_with fail; go_ret; exact ⟨rfl, by first | exact (hG.alloc _).drew | exact hG.alloc _⟩)
theorem GrF.trans {W w w' : World} (h : GrF W w) (h' : GrF w w') : GrF W w' := by
 obtain ⟨q, os, rfl⟩ := h
 obtain ⟨q', os', rfl⟩ := h'
 exact ⟨q + q', os ++ os', by simp [Go.Sort.grow, World.drewN, Array.append_assoc, Nat.add_assoc]⟩
theorem bord_c (a b : RowA) (W : World) : Calls Tryz.prog 46 #[.agg ((rowC a).map AV.den).toArray, .agg ((rowC b).map AV.den).toArray] W fun e w' => e = .returned (.int .i64 (cmpLab a.lab b.lab)) ∧ GrF W w' := by
 obtain ⟨⟨al, ab⟩, av, ⟨aA, ac, ⟨an, af, ak, ⟨anl, anb⟩, am⟩⟩⟩ := a
 obtain ⟨⟨bl, bb⟩, bv, ⟨bA, bc, ⟨bn, bf, bk, ⟨bnl, bnb⟩, bm⟩⟩⟩ := b
 simp only [rowC, List.map_cons, List.map_nil, AV.den]
 have hO := fun w => order_c ⟨al, ab⟩ ⟨bl, bb⟩ w
 simp only [labAV, AV.den, AV.denL] at hO
 generalize cmpLab ⟨al, ab⟩ ⟨bl, bb⟩ = r at hO ⊢
 go_enter Tryz.func46, Tryz.ntmps46
 go_wp2_with (go_at_call 34; refine (hO _).mono ?_; rintro e w' ⟨rfl, hG⟩)
 all_goals (go_ret; exact ⟨rfl, GrF.trans (((GrF.refl W).alloc _).alloc _) hG⟩)
end Go.Proofs.YtpgjalaldhlcoaaGreat.Sym
namespace Go.Proofs.YtpgjalaldhlcoaaGreat
open Go.RowKit Sym
theorem firsts_mem {f : Nat → Itm} {n : Nat} {x : Itm} (h : x ∈ firsts f n) : ∃ t, t < n ∧ x = f t := by
 unfold firsts at h
 obtain ⟨t, ht, rfl⟩ := List.mem_map.1 h
 exact ⟨t, List.mem_range.1 ht, rfl⟩
def idxF (p : Nat → Bool) (n : Nat) : Int := match (List.range n).find? p with
 | some i => (i : Int)
 | none => -1
theorem idx_hit {p : Nat → Bool} {n i : Nat} (hi : i < n) (hm : ∀ t, t < i → p t = false) (h : p i = true) : idxF p n = (i : Int) := by
 have : (List.range n).find? p = some i := by
  rw [List.find?_eq_some_iff_append]
  refine ⟨h, List.range i, (List.range (n - i - 1)).map fun j => i + 1 + j, ?_, fun a ha => by rw [hm a (List.mem_range.1 ha)]; rfl⟩
  apply List.ext_getElem
  ·simp; omega
  intro t h1 h2
  have ht : t < n := by simpa using h1
  simp only [List.getElem_range]
  by_cases hti : t < i
  ·rw [List.getElem_append_left (by simpa using hti)]; simp
  rw [List.getElem_append_right (by simp; omega)]
  obtain ⟨q, rfl⟩ : ∃ q, t = i + q := ⟨t - i, by omega⟩
  cases q with
  | zero => simp
  | succ q => simp [show i + (q + 1) - i = q + 1 by omega]; omega
 simp [idxF, this]
theorem idx_miss {p : Nat → Bool} {n : Nat} (hm : ∀ t, t < n → p t = false) : idxF p n = -1 := by
 have : (List.range n).find? p = none := by
  rw [List.find?_eq_none]
  intro a ha
  rw [hm a (List.mem_range.1 ha)]
  decide
 simp [idxF, this]
theorem idx_cases (p : Nat → Bool) (n : Nat) : (∃ i, i < n ∧ idxF p n = (i : Int) ∧ p i = true ∧ ∀ t, t < i → p t = false) ∨ (idxF p n = -1 ∧ ∀ t, t < n → p t = false) := by
 induction n with
 | zero => exact .inr ⟨rfl, fun t ht => absurd ht (Nat.not_lt_zero _)⟩
 | succ n ih =>
  rcases ih with ⟨i, h1, h2, h3, h4⟩ | ⟨h1, h2⟩
  ·exact .inl ⟨i, by omega, idx_hit (by omega) h4 h3, h3, h4⟩
  cases hp : p n with
  | true => exact .inl ⟨n, by omega, idx_hit (by omega) h2 hp, hp, h2⟩
  | false =>
   have : ∀ t, t < n + 1 → p t = false := fun t ht => by
    by_cases h : t = n
    ·rw [h]; exact hp
    exact h2 t (by omega)
   exact .inr ⟨idx_miss this, this⟩
def Srt (l : List Itm) : Prop := l.Pairwise fun x y => x.key < y.key
section
variable {l : List Itm} {key : Int} {p : Nat}
structure Cut (l : List Itm) (key : Int) (p : Nat) : Prop where
 le : p ≤ l.length
 lo : ∀ x ∈ l.take p, x.key < key
 hi : ∀ x ∈ l.drop p, key ≤ x.key
theorem Cut.hit (h : Cut l key p) (hs : Srt l) {x : Itm} (hp : l[p]? = some x) (hx : x.key = key) : (∀ y ∈ l.drop (p + 1), key < y.key) ∧ l = l.take p ++ [x] ++ l.drop (p + 1) := by
 have hlt := (List.getElem?_eq_some_iff.1 hp).1
 have hd : l.drop p = x :: l.drop (p + 1) := by rw [List.drop_eq_getElem_cons hlt, (List.getElem?_eq_some_iff.1 hp).2]
 have hsp : l = l.take p ++ [x] ++ l.drop (p + 1) := by
  conv => lhs; rw [← List.take_append_drop p l, hd]
  simp
 refine ⟨fun y hy => ?_, hsp⟩
 unfold Srt at hs
 rw [hsp, List.append_assoc] at hs
 have h2 := (List.pairwise_append.1 hs).2.1
 rw [List.singleton_append] at h2
 have := (List.pairwise_cons.1 h2).1 y hy
 omega
end
end Go.Proofs.YtpgjalaldhlcoaaGreat
namespace Go.Proofs.YtpgjalaldhlcoaaGreat.Sym
open Go Go.RowKit
def oddB (n : Nat) (f : Nat → Itm) : Bool := (List.range n).any fun t => decide (64 < (f t).val.size)
def srtB (n : Nat) (f : Nat → Itm) : Bool := (List.range (n - 1)).all fun t => decide (¬ (f (t + 1)).key < (f t).key)
def dupB (n : Nat) (f : Nat → Itm) : Bool := (List.range (n - 1)).any fun t => decide ((f (t + 1)).key = (f t).key)
theorem nanU_s (x : Int) : Spec Tryz.prog 75 [.int .u64 x] (fun _ => .bool .ff) := by
 intro m w hm hargs
 refine en 6 hm hargs Tryz.func75 fun B hB a0 hF => ?_
 refine wp_seq (rg hB TA_ok [0] [] [] hF fun X0 a0 w1 hF => ?_)
 refine wp_seq (rg hB TA_ok [2] [] [] hF fun X1 a0 w1 hF => ?_)
 refine wp_ret ((rsi hB TA_ok hF nAt (he := ?_)))
 subst hB
 exact Sim.bool (by show (x != x) = false; simp)
theorem cmpU_s (x y : Int) : Spec Tryz.prog 38 [.int .u64 x, .int .u64 y] (fun _ => .int .i64 (cmpI x y)) := by
 intro m w hm hargs
 have S1 := nanU_s x
 have S2 := nanU_s y
 refine en 20 hm hargs Tryz.func38 fun B hB a0 hF => ?_
 refine wp_seq (rg hB TA_ok [0, 1] [] [] hF fun X0 a0 w1 hF => ?_)
 have O1 := S1
 refine wp_seq (rg hB TA_ok [0, 1, 5] [] [(1, .r fun _ => .bool .ff)] hF fun X1 a0 w1 hF => ?_)
 have O1 := S2
 refine wp_seq (rg hB TA_ok [0, 1, 5, 6] [] [(1, .r fun _ => .bool .ff)] hF fun X2 a0 w1 hF => ?_)
 refine wp_seq (wp_seq (rg hB TA_ok [11, 0, 1, 6] [] [] hF fun X3 a0 w1 hF => ?_))
 refine test_ff hF rfl (fun hF => ?_)
 refine wp_skip (wp_seq (wp_seq (rg hB TA_ok [13, 0, 1] [] [] hF fun X7 a0 w1 hF => ?_)))
 refine test_ff hF rfl (fun hF => ?_)
 refine wp_skip (wp_seq (wp_seq (rg hB TA_ok [16, 0, 1] [] [] hF fun X9 a0 w1 hF => ?_)))
 apply test_ok hF rfl <;> intro hb hF
 ·have h1 : x < y := by subst hB; simpa [std, sC] using hb
  refine wp_seq (rg hB TA_ok [4] [] [] hF fun X10 a0 w1 hF => ?_)
  refine wp_ret ((rsi hB TA_ok hF nAt (he := ?_)))
  subst hB
  unfold cmpI
  rw [if_pos h1]
  exact zr
 have h1 : ¬ x < y := by subst hB; simpa [std, sC] using hb
 refine wp_skip (wp_seq (wp_seq (rg hB TA_ok [19] [] [] hF fun X11 a0 w1 hF => ?_)))
 apply test_ok hF rfl <;> intro hb hF
 ·have h2 : y < x := by subst hB; simpa [std, sC] using hb
  refine wp_seq (rg hB TA_ok [4] [] [] hF fun X12 a0 w1 hF => ?_)
  refine wp_ret ((rsi hB TA_ok hF nAt (he := ?_)))
  subst hB
  unfold cmpI
  rw [if_neg h1, if_pos h2]
  exact zr
 have h2 : ¬ y < x := by subst hB; simpa [std, sC] using hb
 refine wp_skip (wp_seq (rg hB TA_ok [4] [] [] hF fun X13 a0 w1 hF => ?_))
 refine wp_ret ((rsi hB TA_ok hF nAt (he := ?_)))
 subst hB
 unfold cmpI
 rw [if_neg h1, if_neg h2]
 exact zr
theorem oddI_s (x : Itm) : Spec Tryz.prog 36 [.agg (itC x)] (fun _ => .bool (.v (decide (64 < x.val.size)))) := by
 intro m w hm hargs
 simp only [itC] at hargs ⊢
 refine en 7 hm hargs Tryz.func36 fun B hB a0 hF => ?_
 refine wp_seq (rg hB TA_ok [1] [1] [] hF fun X0 a0 w1 hF => ?_)
 refine wp_seq (rg hB TA_ok [2] [] [] hF fun X1 a0 w1 hF => ?_)
 refine wp_ret ((rsi hB TA_ok hF nAt (he := ?_)))
 subst hB
 exact Sim.bool (by show decide ((64 : Int) < (x.val.size : Int)) = decide (64 < x.val.size); rw [decide_eq_decide]; omega)
theorem risI_s (x y : Itm) : Spec Tryz.prog 37 [.agg (itC x), .agg (itC y)] (fun _ => .int .i64 (cmpI x.key y.key)) := by
 intro m w hm hargs
 simp only [itC] at hargs ⊢
 have S := cmpU_s x.key y.key
 obtain ⟨z, hz⟩ := eqv (cmpI x.key y.key)
 rw [← hz] at S ⊢
 refine en 10 hm hargs Tryz.func37 fun B hB a0 hF => ?_
 refine wp_seq (rg hB TA_ok [2, 3] [2, 3] [] hF fun X0 a0 w1 hF => ?_)
 have O1 := S
 refine wp_seq (rg hB TA_ok [4] [] [(4, .r fun _ => .int .i64 z)] hF fun X1 a0 w1 hF => ?_)
 exact wp_ret ((rsp hB TA_ok hF nAt).1)
theorem eqkI_s (x y : Itm) : Spec Tryz.prog 41 [.agg (itC x), .agg (itC y)] (fun _ => .bool (.v (decide (x.key = y.key)))) := by
 intro m w hm hargs
 simp only [itC] at hargs ⊢
 refine en 10 hm hargs Tryz.func41 fun B hB a0 hF => ?_
 refine wp_seq (rg hB TA_ok [2, 3] [2, 3] [] hF fun X0 a0 w1 hF => ?_)
 refine wp_seq (rg hB TA_ok [4] [] [] hF fun X1 a0 w1 hF => ?_)
 refine wp_ret ((rsi hB TA_ok hF nAt (he := ?_)))
 subst hB
 exact Sim.bool (by show (x.key == y.key) = decide (x.key = y.key); rw [Bool.eq_iff_iff]; simp)
theorem idxO_s (A : Option Addr) (n c : Nat) (f : Nat → Itm) (hn : n ≤ 1000000) : Spec Tryz.prog 76 [rowI A n c f, .fn 36 [] []] (fun _ => .int .i64 (idxF (fun t => decide (64 < (f t).val.size)) n)) := by
 intro m w hm hargs
 have hmx : maxLen = 9223372036854775807 := rfl
 unfold rowI at hargs
 refine en 19 hm hargs Tryz.func76 fun B hB a0 hF => ?_
 refine wp_seq (rg hB TA_ok [0, 1] [] [] hF fun X0 a0 w1 hF => ?_)
 refine wp_seq (wp_seq (rg hB TA_ok [8, 0, 1, 7] [] [] hF fun X1 a0 w1 hF => ?_))
 refine wp_block (loop_pre (ι := Nat) (fun p => [(8, .int .i64 (p : Int))]) (fun p => []) (fun p => []) (fun p => p ≤ n ∧ ∀ t, t < p → decide (64 < (f t).val.size) = false) (fun p => n - p) 0 ⟨Nat.zero_le _, fun t ht => absurd ht (Nat.not_lt_zero _)⟩ hF ?_)
 rintro i ⟨hi, hlt⟩ a0 w1 hF
 try dsimp only at hi
 try dsimp only at hlt
 refine wp_seq (rg hB TA_ok [9, 8, 0, 1, 7] [] [] hF fun X2 a0 w1 hF => ?_)
 refine wp_seq (test_ok hF rfl (fun hb hF => ?_) (fun hb hF => ?_))
 ·have hin : i < n := by
   have : (i : Int) < (n : Int) := by subst hB; simpa [std, sC] using hb
   omega
  have S := oddI_s (f i)
  obtain ⟨q, hq⟩ := eqv (decide (64 < (f i).val.size))
  rw [← hq] at S
  refine wp_skip (wp_seq (wp_block (wp_seq (rg hB TA_ok [5, 8, 0, 1, 7] [] [] hF fun X3 a0 w1 hF => ?_))))
  apply wp_seq
  refine rg hB TA_ok [16, 5, 8, 0, 1, 7] [] [(5, .r fun _ => .bool (.v q))] hF (hob := by intro X; subst hB; simp only [AO, Ob.holds, BE.den] <;> and_intros <;> repeat first | trivial | rfl | exact (show (0 : Int) ≤ (i : Int) by omega) | exact (show (i : Int) < (n : Int) by omega) | exact S | exact (fun _ _ => by kernel_rfl) | refine ⟨?_, ?_⟩ | intro h | exact Int.le_refl _ | decide | omega) fun X4 a0 w1 hF => ?_
  apply test_ok hF rfl <;> intro hb hF
  ·have hqt : q = true := hb
   refine wp_seq (rg hB TA_ok [4] [] [] hF fun X5 a0 w1 hF => ?_)
   refine wp_ret ((rsi hB TA_ok hF nAt (he := ?_)))
   subst hB
   rw [idx_hit (p := (fun t => decide (64 < (f t).val.size))) hin hlt (hq.symm.trans hqt)]
   exact zr
  have hqf : q = false := hb
  refine wp_skip (rg hB TA_ok [8, 0, 1, 7] [] [] hF fun X6 a0 w1 hF => ?_)
  have e : B.arith .add .i64 (i : Int) 1 = ((i + 1 : Nat) : Int) := by subst hB; exact wrap_succ (n := n) hin (by omega)
  refine ⟨i + 1, ⟨by omega, fun t ht => ?_⟩, by omega, by rw [← e]; exact hF⟩
  by_cases h : t = i
  ·rw [h, ← hq]; exact hqf
  exact hlt t (by omega)
 have hout : i = n := by
  have : ¬ (i : Int) < (n : Int) := by subst hB; simpa [std, sC] using hb
  omega
 rw [hout] at hlt
 refine wp_exit (wp_seq (rg hB TA_ok [4] [] [] hF fun X7 a0 w1 hF => ?_))
 refine wp_ret ((rsi hB TA_ok hF nAt (he := ?_)))
 subst hB
 rw [idx_miss (p := (fun t => decide (64 < (f t).val.size))) hlt]
 exact zr
theorem conO_s (A : Option Addr) (n c : Nat) (f : Nat → Itm) (hn : n ≤ 1000000) : Spec Tryz.prog 42 [rowI A n c f, .fn 36 [] []] (fun _ => .bool (.v (oddB n f))) := by
 intro m w hm hargs
 have S := idxO_s A n c f hn
 have HC := idx_cases (fun t => decide (64 < (f t).val.size)) n
 generalize (idxF (fun t => decide (64 < (f t).val.size)) n) = ix at S HC
 unfold rowI at S hargs
 refine en 9 hm hargs Tryz.func42 fun B hB a0 hF => ?_
 refine wp_seq (rg hB TA_ok [0, 1] [] [] hF fun X0 a0 w1 hF => ?_)
 have O1 := S
 refine wp_seq (rg hB TA_ok [4] [] [(2, .r fun _ => .int .i64 ix)] hF fun X1 a0 w1 hF => ?_)
 refine wp_ret ((rsi hB TA_ok hF nAt (he := ?_)))
 subst hB
 refine Sim.bool ?_
 show decide (ix ≥ 0) = oddB n f
 unfold oddB
 rcases HC with ⟨i, h1, h2, h3, h4⟩ | ⟨h1, h2⟩
 ·rw [decide_eq_true (by omega)]; exact (List.any_eq_true.2 ⟨i, List.mem_range.2 h1, h3⟩).symm
 rw [h1]; symm; rw [show decide ((-1 : Int) ≥ 0) = false from rfl, List.any_eq_false]; intro t ht; rw [h2 t (List.mem_range.1 ht)]; decide
theorem srtI_s (A : Option Addr) (n c : Nat) (f : Nat → Itm) (hn : n ≤ 1000000) : Spec Tryz.prog 43 [rowI A n c f, .fn 37 [] []] (fun _ => .bool (.v (srtB n f))) := by
 intro m w hm hargs
 have hmx : maxLen = 9223372036854775807 := rfl
 unfold rowI at hargs
 refine en 25 hm hargs Tryz.func43 fun B hB a0 hF => ?_
 refine wp_seq (rg hB TA_ok [0, 1] [] [] hF fun X0 a0 w1 hF => ?_)
 refine wp_seq (wp_seq (rg hB TA_ok [5, 0, 1] [] [] hF fun X1 a0 w1 hF => ?_))
 replace hF := hF.headS (v' := .int .i64 ((n : Int) - 1)) (by subst hB; show Sim (.int .i64 (IntKind.i64.wrap ((n : Int) - 1))) _; rw [wrap_in (by omega) (by omega)]; exact zr) rfl
 refine wp_block (loop_pre (ι := Nat) (fun p => [(5, .int .i64 ((p : Int) - 1))]) (fun p => []) (fun p => []) (fun p => p ≤ n ∧ ∀ t, p ≤ t + 1 → t + 1 < n → ¬ (f (t + 1)).key < (f t).key) (fun p => p) n ⟨Nat.le_refl _, fun t h1 h2 => absurd h2 (by omega)⟩ hF ?_)
 rintro p ⟨hp, hlt⟩ a0 w1 hF
 try dsimp only at hp
 try dsimp only at hlt
 obtain ⟨iv, hiv⟩ := eqv ((p : Int) - 1)
 rw [← hiv] at hF
 refine wp_seq (wp_seq (rg hB TA_ok [10, 5, 0, 1] [] [] hF fun X2 a0 w1 hF => ?_))
 apply test_ok hF rfl <;> intro hb hF
 ·have hin : 2 ≤ p := by
   have : (0 : Int) < iv := by subst hB; simpa [std, sC] using hb
   omega
  have e1 : std.toNat iv = p - 1 := by show iv.toNat = p - 1; omega
  have e2 : std.arith .sub .i64 iv 1 = (p : Int) - 2 := by show IntKind.i64.wrap (iv - 1) = _; rw [wrap_in (by omega) (by omega)]; omega
  have e3 : std.toNat (std.arith .sub .i64 iv 1) = p - 2 := by rw [e2]; show ((p : Int) - 2).toNat = p - 2; omega
  have S := risI_s (f (std.toNat iv)) (f (std.toNat (std.arith .sub .i64 iv 1)))
  obtain ⟨z, hz⟩ := eqv (cmpI (f (p - 1)).key (f (p - 2)).key)
  have hz2 : cmpI (f (std.toNat iv)).key (f (std.toNat (std.arith .sub .i64 iv 1))).key = z := by rw [hz, e1, e3]
  rw [hz2] at S
  refine wp_skip (wp_seq (wp_block (wp_seq (drg hB TA_ok [24, 5, 0, 1] [] [(10, .r fun _ => .int .i64 z)] hF (hob := ?hob) fun X4 a0 w1 hF => ?_))))
  case hob =>
   intro X
   subst hB
   repeat (first | exact trivial | refine ⟨rfl, ?_⟩ | refine ⟨(show (0 : Int) ≤ iv ∧ iv < (n : Int) by omega), ?_⟩ | refine ⟨(show (0 : Int) ≤ std.arith .sub .i64 iv 1 ∧ std.arith .sub .i64 iv 1 < (n : Int) by rw [e2]; omega), ?_⟩ | refine ⟨⟨fun _ _ => by kernel_rfl, S⟩, ?_⟩)
  apply test_ok hF rfl <;> intro hb hF
  ·have hlt2 : (f (p - 1)).key < (f (p - 2)).key := by
    have h5 : z < 0 := by subst hB; simpa [std, sC] using hb
    rw [hz] at h5; unfold cmpI at h5; split at h5; assumption; split at h5 <;> omega
   have hW : srtB n f = false := by unfold srtB; rw [List.all_eq_false]; refine ⟨p - 2, List.mem_range.2 (by omega), ?_⟩; rw [show p - 2 + 1 = p - 1 by omega]; simpa using hlt2
   refine wp_seq (rg hB TA_ok [4] [] [] hF fun X5 a0 w1 hF => ?_)
   refine wp_ret ((rsi hB TA_ok hF nAt (he := ?_)))
   subst hB
   rw [hW]
   exact Sim.bool rfl
  have hge : ¬ (f (p - 1)).key < (f (p - 2)).key := by
   have h5 : ¬ z < 0 := by subst hB; simpa [std, sC] using hb
   rw [hz] at h5; unfold cmpI at h5; intro h6; rw [if_pos h6] at h5; exact h5 (by decide)
  refine wp_skip (rg hB TA_ok [5, 0, 1] [] [] hF fun X3 a0 w1 hF => ?_)
  have e : B.arith .sub .i64 iv 1 = ((p - 1 : Nat) : Int) - 1 := by subst hB; show IntKind.i64.wrap (iv - 1) = _; rw [wrap_in (by omega) (by omega)]; omega
  refine ⟨p - 1, ⟨by omega, fun t h1 h2 => ?_⟩, by omega, by rw [← e]; exact hF⟩
  rcases Nat.lt_or_ge (t + 1) p with h3 | h3
  ·have : t = p - 2 := by omega
   subst this
   rw [show p - 2 + 1 = p - 1 by omega]; exact hge
  exact hlt t h3 h2
 have hout : p ≤ 1 := by
  have : ¬ (0 : Int) < iv := by subst hB; simpa [std, sC] using hb
  omega
 have hW : srtB n f = true := by unfold srtB; rw [List.all_eq_true]; intro t ht; have h5 := List.mem_range.1 ht; exact decide_eq_true (hlt t (by omega) (by omega))
 refine wp_exit (wp_seq (rg hB TA_ok [4] [] [] hF fun X6 a0 w1 hF => ?_))
 refine wp_ret ((rsi hB TA_ok hF nAt (he := ?_)))
 subst hB
 rw [hW]
 exact Sim.bool rfl
end Go.Proofs.YtpgjalaldhlcoaaGreat.Sym
