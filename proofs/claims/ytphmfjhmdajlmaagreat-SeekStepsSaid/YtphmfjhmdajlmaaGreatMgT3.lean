/-
  SymHd, PlGet, PlShelf, SymSh, SymShM, PlCov, PlUp, SymAt, SymCov, PlProc, SymHd3, SymThr, SymPr0, SymUp, SymPr1, EtyI, InsertI, ItOwn, ItGrow, PlMap, ItCut: put together by a program of mine (a claim may have 60 files at most). Conditions: none.
-/
import Derived.WalkKit
import Derived.WalkLawsBesides
import Derived.WalkSpells
import Derived.Lib.Hide
import Derived.Deep.QuietTactic
import Derived.BigQuiet
import Derived.Deep.LoopGhost
import Derived.Deep.DeepCutAuto
import Derived.Deep.RegionLaw
import Derived.Lib.Overlaps
import Derived.Laws.CopyOwn
import Derived.IntWalk
import Derived.ProofKit
import Derived.OpenShut
import Derived.ShutString
import Derived.ChangeOld
import Derived.Deep.Slices
import Derived.Test.YtphmfjhmdajlmaaGreatProg
import Derived.Orders
import Derived.OrdersHeld
import Derived.Defers
import Derived.Recover
import Derived.Lib.BitFns
import Derived.ChangeKeysEq
import Derived.Test.YtphmfjhmdajlmaaGreatChecked
import Derived.Lib.BufferWrite
import Derived.Maps.OwnSet
import Derived.Maps.RangeWalk
import Derived.Maps.Ext
import Derived.DeepKeys4
import Derived.LoopN
import Derived.Test.YtphmfjhmdajlmaaGreatMgT1
import Derived.Test.YtphmfjhmdajlmaaGreatMgT2
set_option linter.unusedVariables false
set_option linter.unusedSimpArgs false
set_option maxRecDepth 100000
set_option maxHeartbeats 1600000
namespace Go.Proofs.YtphmfjhmdajlmaaGreat.Sym
open Go Go.RowKit
abbrev Hand := Option (Nat × List Operand × List AV × AV)
def delta2 (A : Alg) (T : List (Nat × TI)) (cs : List (Nat × CS)) (H : Hand) (x : Atom) (all : List Oper) (i : Nat) (o : Oper) (s : St) : Option (Delta × List Ob × Foot) :=
 match H with
 | none => delta A T cs x all i o s
 | some (j, xs, args, v) => if j == i then (match o.guard, vals s [] xs, inNt s o.dst with
   | none, some l, true => some (⟨.no, o.dst, .plain v⟩, [.pr (l = args)], ⟨o.dst, tl xs, [], [], [], [], []⟩)
   | _, _, _ => none) else delta A T cs x all i o s
def HandOK (C : Cx) (P : Program) (all : List Oper) (H : Hand) : Prop := ∀ i xs args v, H = some (i, xs, args, v) → ∀ o, all[i]? = some o → ∀ s a w, Fits C s a w → vals s [] xs = some args → (execOp a.eval o).run P w = .ok (.value v.den) w ∧ Ok (s.m C) w v
theorem handOK_none {C : Cx} {P : Program} {all : List Oper} : HandOK C P all none := fun _ _ _ _ h => by cases h
def exec2 (A : Alg) (T : List (Nat × TI)) (cs : List (Nat × CS)) (H : Hand) (X : Nat → Atom) (all : List Oper) : List (Nat × Oper) → St → Option (St × List Ob × List Foot)
 | [], s => some (s, [], [])
 | (i, o) :: l, s => match delta2 A T cs H (X i) all i o s with
  | none => none
  | some (δ, ob, f) => match exec2 A T cs H X all l (s.app δ) with
   | none => none
   | some (s'', ob', fs) => some (s'', ob ++ ob', f :: fs)
section
variable {A : Alg} {T : List (Nat × TI)} {cs : List (Nat × CS)} {H : Hand} {X : Nat → Atom} {all : List Oper}
theorem delta2_foot {x : Atom} {i : Nat} {o : Oper} {s : St} {r : Delta × List Ob × Foot} (h : delta2 A T cs H x all i o s = some r) : FootOK r := by
 unfold delta2 at h
 split at h
 ·exact delta_foot h
 split at h
 ·split at h
  ·injection h with h; subst h
   exact ⟨(fun q v h => by cases h), rfl, (fun k b h => by cases h), (fun k b h => by cases h), (fun q v h => by cases h)⟩
  cases h
 exact delta_foot h
theorem delta2_local {x : Atom} {i : Nat} {o : Oper} {s s' : St} {r : Delta × List Ob × Foot} (h : delta2 A T cs H x all i o s = some r) (hU : AgT s s' r.2.2.cons) (hR : AgM s s' r.2.2.rk) (hG : AgR s s' r.2.2.rg) (hn : s.nt = s'.nt) : delta2 A T cs H x all i o s' = some r := by
 unfold delta2 at h ⊢
 split at h
 ·exact delta_local h hU hR hG hn
 split at h
 ·rename_i hj
  rw [if_pos hj]
  split at h
  ·rename_i l hg hv hi
   injection h with h; subst h
   rw [hg, ← vals_local hU [] (fun t ht => ht), hv, ← inNt_local hn, hi]
  cases h
 rename_i hj
 rw [if_neg hj]
 exact delta_local h hU hR hG hn
theorem exec2_cons {X : Nat → Atom} {i : Nat} {o : Oper} {l : List (Nat × Oper)} {s : St} {r} (hr : exec2 A T cs H X all ((i, o) :: l) s = some r) :
  ∃ δ ob f r', delta2 A T cs H (X i) all i o s = some (δ, ob, f) ∧ exec2 A T cs H X all l (s.app δ) = some r' ∧ r = (r'.1, ob ++ r'.2.1, f :: r'.2.2) := by
 simp only [exec2] at hr
 split at hr
 ·cases hr
 rename_i δ ob f he
 split at hr
 ·cases hr
 rename_i s'' ob' fs he'
 injection hr with hr
 exact ⟨δ, ob, f, _, he, he', hr.symm⟩
theorem exec2_congr {X Y : Nat → Atom} : ∀ (l : List (Nat × Oper)) (s : St), (∀ x ∈ l, X x.1 = Y x.1) → exec2 A T cs H X all l s = exec2 A T cs H Y all l s
 | [], _, _ => rfl
 | (i, o) :: l, s, h => by
  simp only [exec2]
  rw [h (i, o) (by simp)]
  cases delta2 A T cs H (Y i) all i o s with
  | none => rfl
  | some r => obtain ⟨δ, ob, f⟩ := r; simp only; rw [exec2_congr l _ (fun x hx => h x (by simp [hx]))]
theorem exec2_alike : ∀ {l : List (Nat × Oper)} {s s' τ : St} {obs : List Ob} {fs : List Foot}, exec2 A T cs H X all l s = some (τ, obs, fs) → Alike s s' → NM s (ds fs) → Ord fs → ∃ τ', exec2 A T cs H X all l s' = some (τ', obs, fs) ∧ Alike τ τ'
 | [], s, s', τ, obs, fs, h, ha, hn, hf => by
  simp only [exec2, Option.some.injEq, Prod.mk.injEq] at h
  obtain ⟨rfl, rfl, rfl⟩ := h
  exact ⟨s', rfl, ha⟩
 | (i, o) :: l, s, s', τ, obs, fs, h, ha, hn, hf => by
  obtain ⟨δ, ob, f, r', h1, h2, h3⟩ := exec2_cons h
  obtain ⟨τ1, obs1, fs1⟩ := r'
  simp only [Prod.mk.injEq] at h3
  obtain ⟨rfl, rfl, rfl⟩ := h3
  have hfo := delta2_foot h1
  have hd' := delta2_local h1 (s' := s') (fun t _ => ⟨ha.tmps t, ha.gs t⟩) (fun k _ => ha.mem k) (fun k _ => ha.gr k) ha.nt
  have hf' := List.pairwise_cons.1 hf
  obtain ⟨n1, n2⟩ := nm_of hfo (gs := fs1) hn (by simp) (fun g hg => by simp [hg]) hf'.1
  obtain ⟨τ', e1, e2⟩ := exec2_alike h2 (app_alike hfo.wf ha n1) n2 hf'.2
  exact ⟨τ', by simp only [exec2, hd', e1], e2⟩
theorem moveFront2 {P : Program} {K : Kn} {i : Nat} {o : Oper} {L2 : List (Nat × Oper)} : ∀ {L1 : List (Nat × Oper)} {s τ : St} {obs : List Ob} {fs1 : List Foot} {f : Foot} {fs2 : List Foot},
  exec2 A T cs H X all (L1 ++ (i, o) :: L2) s = some (τ, obs, fs1 ++ f :: fs2) → fs1.length = L1.length → NM s (ds (fs1 ++ f :: fs2)) → Ord (fs1 ++ f :: fs2) → (∀ g ∈ fs1, comm g f = true) →
  ∃ δ ob, delta2 A T cs H (X i) all i o s = some (δ, ob, f) ∧ ∃ τ' obs', exec2 A T cs H X all (L1 ++ L2) (s.app δ) = some (τ', obs', fs1 ++ fs2) ∧ Alike τ' τ ∧ (AO P K obs → AO P K ob ∧ AO P K obs')
 | [], s, τ, obs, fs1, f, fs2, h, hl, hn, hF, hc => by
  have : fs1 = [] := List.eq_nil_of_length_eq_zero hl
  subst this
  obtain ⟨δ, ob, f', r', h1, h2, h3⟩ := exec2_cons h
  obtain ⟨τ1, obs1, fs1⟩ := r'
  simp only [List.nil_append, Prod.mk.injEq, List.cons.injEq] at h3
  obtain ⟨rfl, rfl, rfl, rfl⟩ := h3
  exact ⟨δ, ob, h1, τ, obs1, h2, ⟨rfl, fun _ => rfl, fun _ => rfl, fun _ => rfl, fun _ => rfl⟩, fun ha => AO.app.1 ha⟩
 | (j, oj) :: L1, s, τ, obs, fs1, f, fs2, h, hl, hn, hF, hc => by
  cases fs1 with
  | nil => cases hl
  | cons fj fs1 =>
   obtain ⟨δj, obj, fj', r', h1, h2, h3⟩ := exec2_cons h
   obtain ⟨τ1, obs1, fsr⟩ := r'
   simp only [List.cons_append, Prod.mk.injEq, List.cons.injEq] at h3
   obtain ⟨rfl, rfl, rfl, rfl⟩ := h3
   have hfj := delta2_foot h1
   have hF' := List.pairwise_cons.1 hF
   obtain ⟨n1, n2⟩ := nm_of hfj (gs := fs1 ++ f :: fs2) hn (by simp) (fun g hg => by simp only [List.cons_append, List.mem_cons]; exact .inr hg) hF'.1
   obtain ⟨δ, ob, g1, τ', obs', g2, g3, g4⟩ := moveFront2 (P := P) (L1 := L1) h2 (by simpa using hl) n2 hF'.2 (fun g hg => hc g (by simp [hg]))
   have hcm := hc fj (by simp)
   simp only [comm, Bool.and_eq_true] at hcm
   obtain ⟨⟨⟨⟨⟨⟨⟨⟨⟨c0, c1⟩, c2⟩, c3⟩, c4⟩, c5⟩, c6⟩, c7⟩, c8⟩, c9⟩ := hcm
   have hf := delta2_foot g1
   have hFf := List.pairwise_append.1 hF'.2
   have hin : ∀ g ∈ fs1 ++ fs2, g ∈ fs1 ++ f :: fs2 := fun g hg => by
    rcases List.mem_append.1 hg with hg | hg
    ·exact List.mem_append_left _ hg
    exact List.mem_append_right _ (List.mem_cons_of_mem _ hg)
   have hq : ∀ g ∈ fj :: (fs1 ++ fs2), disj (dl g.d) f.qs = true := by
    intro g hg
    rcases List.mem_cons.1 hg with rfl | hg
    ·exact c0
    rcases List.mem_append.1 hg with hg | hg
    ·have := hc g (by simp [hg])
     simp only [comm, Bool.and_eq_true] at this
     exact this.1.1.1.1.1.1.1.1.1
    exact (List.pairwise_cons.1 hFf.2.1).1 g hg
   -- i at s
   obtain ⟨a1, a2, a3⟩ := ag_app hfj n1 (g := f) (disj_ok c1) (disj_ok c4) (disj_ok c7)
   have d1 : delta2 A T cs H (X i) all i o s = some (δ, ob, f) := delta2_local g1 (fun t ht => ⟨(a1 t ht).1.symm, (a1 t ht).2.symm⟩) (fun k hk => (a2 k hk).symm) (fun k hk => (a3 k hk).symm) app_nt
   obtain ⟨m1, m2⟩ := nm_of hf (gs := fj :: (fs1 ++ fs2)) hn (by simp) (fun g hg => by
    rcases List.mem_cons.1 hg with rfl | hg
    ·simp
    simp only [List.cons_append, List.mem_cons]; exact .inr (hin g hg)) hq
   -- j behind i
   obtain ⟨b1, b2, b3⟩ := ag_app hf m1 (g := fj) (disj_ok c2) (disj_ok c5) (disj_ok c8)
   have d2 : delta2 A T cs H (X j) all j oj (s.app δ) = some (δj, obj, fj) := delta2_local h1 b1 b2 b3 app_nt.symm
   -- the two orders come to the same
   have sw : Alike ((s.app δj).app δ) ((s.app δ).app δj) := by
    refine app_swap hfj.wf hf.wf n1 m1 (n2.sub fun d hd => ds_mem (g := f) (by simp) (by rw [hf.d]; exact hd)) (m2.sub fun d hd => ds_mem (g := fj) (by simp) (by rw [hfj.d]; exact hd)) (fun t ht ht' => ?_) (fun k b b' e1 e2 => ?_) (fun k b k' b' e1 e2 he => ?_)
    ·exact disj_ok c3 t (by rw [hfj.d]; simp only; rw [ht]; simp [dl]) (by rw [hf.d]; simp only; rw [ht']; simp [dl])
    ·exact disj_ok c6 k (hfj.wk k b e1) (hf.wk k b' e2)
    subst he; exact disj_ok c9 k (hfj.wg k b e1) (hf.wg k b' e2)
   obtain ⟨nn1, nn2⟩ := nm_of hf (gs := fs1 ++ fs2) n2 (by simp) hin (fun g hg => hq g (List.mem_cons_of_mem _ hg))
   obtain ⟨τ'', e1, e2⟩ := exec2_alike g2 sw nn2 (hF'.2.sublist (List.Sublist.append_left (List.sublist_cons_self _ _) _))
   refine ⟨δ, ob, d1, τ'', obj ++ obs', ?_, e2.symm.trans g3, fun ha => ?_⟩
   ·simp only [List.cons_append, exec2, d2, e1]
   obtain ⟨p1, p2⟩ := AO.app.1 ha
   obtain ⟨p3, p4⟩ := g4 p2
   exact ⟨p3, AO.app.2 ⟨p1, p4⟩⟩
end
section
variable {C : Cx} {P : Program} {Q : Exit → Act → World → Prop} {T : List (Nat × TI)} {cs : List (Nat × CS)} {H : Hand} {ops : Array Oper} {all : List Oper}
theorem delta2_ok {s : St} {a : Act} {w : World} {K : Act → World → Prop} (hT : TabOK P T) {i : Nat} {o : Oper} (hH : HandOK C P all H) (hio : all[i]? = some o) (hall : ops = all.toArray) (h : Fits C s a w) (hs : ∀ x, ∃ r, delta2 std T cs H x all i o s = some r ∧ AO P C.K r.2.1)
  (hK : ∀ x r a' w', delta2 std T cs H x all i o s = some r → Fits C (s.app r.1) a' w' → K a' w') : if Region.wanted o (yielded ops a.tmps) then o.wp P a w K Q else K (a.put o.dst Go.undef) w := by
 have plain : (∀ x, delta2 std T cs H x all i o s = delta std T cs x all i o s) → if Region.wanted o (yielded ops a.tmps) then o.wp P a w K Q else K (a.put o.dst Go.undef) w := fun e =>
  delta_ok hT hall h (fun x => by rw [← e]; exact hs x) fun x r a' w' hr => hK x r a' w' (by rw [e]; exact hr)
 cases hh : H with
 | none => exact plain fun x => by rw [hh]; rfl
 | some y =>
  obtain ⟨j, xs, args, v⟩ := y
  by_cases hj : (j == i) = true
  ·obtain ⟨r, hr, hob⟩ := hs ⟨0, fun _ => none, fun _ => 0, fun _ => .empty⟩
   have hr0 := hr
   unfold delta2 at hr
   rw [hh] at hr
   simp only at hr
   rw [if_pos hj] at hr
   split at hr
   ·rename_i l hg hv hi
    injection hr with hr; subst hr
    have hl : l = args := hob.1
    subst hl
    have hji : j = i := by simpa using hj
    subst hji
    have hw : Region.wanted o (yielded ops a.tmps) = true := by simp [Region.wanted, hg]
    rw [if_pos hw]
    obtain ⟨g1, g2⟩ := hH _ _ _ _ hh o hio s a w h hv
    exact wp_value g1 (hK _ _ _ _ hr0 (h.put o.dst (inNt_lt hi) v (fun _ => g2) v.den fun _ => rfl))
   cases hr
  exact plain fun x => by
   unfold delta2
   rw [hh]
   simp only
   rw [if_neg hj]
theorem any2_ok {tb : List Nat} (hT : TabOK P T) (hops : ops = all.toArray) (htb : ∀ i j, edge tb i j = true → WaitsFor all i j) (hH : HandOK C P all H) {n0 : Nat} {zo : List Oper} (hz1 : zo.length ≤ 1) (hz2 : ∀ k o, ops[k]? = some o → k < n0 ∨ (k = n0 ∧ zo = [o])) (hz3 : ∀ o, zo = [o] → ops[n0]? = some o ∧ (∀ j, j < n0 → ∃ e ∈ o.after.toList, Region.binds .any e = true ∧ e.on = j) ∧ ∀ e ∈ o.after.toList, Region.binds .any e = true → e.on < n0) (hz4 : n0 ≤ ops.size) : ∀ (n : Nat) (L : List (Nat × Oper)) (fs : List Foot) (listed : Array Bool) (s : St) (a : Act) (w : World), L.length = n → Fits C s a w → NM s (ds fs) → Ord fs → Paired tb L fs → (∀ k o, all[k]? = some o → listed.getD k false = true → ∀ e ∈ o.after.toList, Region.binds .any e = true → listed.getD e.on false = true) →
  L.Pairwise (fun x y => x.1 < y.1) → (∀ x ∈ L, ops[x.1]? = some x.2 ∧ listed.getD x.1 true = false) → (∀ k o, k < n0 → ops[k]? = some o → listed.getD k true = false → (k, o) ∈ L) → (∀ o, zo = [o] → listed.getD n0 true = false) → (∀ x ∈ L, x.1 < n0) → listed.size = ops.size →
  (∀ x ∈ L, ∀ e ∈ x.2.after.toList, Region.binds .any e = true → e.on < x.1) →
  (∀ X, ∃ τ obs, exec2 std T cs H X all L s = some (τ, obs, fs) ∧ AO P C.K obs ∧ ∀ a' w', Fits C τ a' w' → wpList P ops Q zo a' w') → wpAny P .any ops Q (n + zo.length) listed a w
 | 0, L, fs, listed, s, a, w, hn, h, hNM, hF, hP, hDC, hsr, hL, hA, hZ, hLn, hsz, hE, hs => by
  have : L = [] := List.eq_nil_of_length_eq_zero hn
  subst this
  have all0 : ∀ k, k < n0 → listed.getD k false = true := by
   intro k hk
   by_cases hl : listed.getD k false = true
   ·exact hl
   have := hA k _ hk (Array.getElem?_eq_getElem (by omega)) (getD_ft (by rw [hsz]; omega) hl)
   cases this
  obtain ⟨τ, obs, e1, _, e2⟩ := hs (fun _ => ⟨0, fun _ => none, fun _ => 0, fun _ => .empty⟩)
  simp only [exec2, Option.some.injEq, Prod.mk.injEq] at e1
  obtain ⟨rfl, _⟩ := e1
  have hfin := e2 a w h
  match zo, hz1, hz2, hz3, hZ, hfin with
  | [], _, hz2, _, _, hfin =>
   refine ⟨?_, hfin⟩
   cases hr : Region.ready .any ops listed with
   | nil => rfl
   | cons i r =>
    obtain ⟨h1, o, h2, _⟩ := mem_ready.1 (hr ▸ List.mem_cons_self : i ∈ Region.ready .any ops listed)
    rcases hz2 i o h2 with hi | ⟨_, hi⟩
    ·cases hA i o hi h2 h1
    cases hi
  | [o], _, hz2, hz3, hZ, hfin =>
   obtain ⟨g1, g2, g3⟩ := hz3 o rfl
   refine ⟨fun hr => ?_, fun i hi => ?_⟩
   ·exfalso
    have : n0 ∈ Region.ready .any ops listed := mem_ready.2 ⟨hZ o rfl, o, g1, fun e he hb => all0 _ (g3 e (by simpa using he) hb)⟩
    rw [hr] at this; cases this
   obtain ⟨h1, o', h2, h3⟩ := mem_ready.1 hi
   rcases hz2 i o' h2 with hi' | ⟨hi', ho'⟩
   ·cases hA i o' hi' h2 h1
   injection ho' with ho' _
   subst ho'; subst hi'
   have fin : ∀ a w, wpList P ops Q [] a w → wpAny P .any ops Q 0 (listed.setIfInBounds i true) a w := by
    intro a w hq
    refine ⟨?_, hq⟩
    cases hr : Region.ready .any ops (listed.setIfInBounds i true) with
    | nil => rfl
    | cons k r =>
     obtain ⟨k1, ok, k2, _⟩ := mem_ready.1 (hr ▸ List.mem_cons_self : k ∈ Region.ready .any ops (listed.setIfInBounds i true))
     rcases hz2 k ok k2 with hk | ⟨hk, _⟩
     ·rw [getD_set_ne true (by omega)] at k1
      cases hA k ok hk k2 k1
     subst hk
     have hlt : k < listed.size := by rw [hsz]; exact (Array.getElem?_eq_some_iff.1 h2).1
     simp [Array.getD_eq_getD_getElem?, hlt] at k1
   unfold wpOp
   simp only [h2]
   unfold wpList at hfin
   by_cases hw : Region.wanted o (yielded ops a.tmps) = true
   ·rw [if_pos hw] at hfin ⊢
    exact hfin.imp (Oper.wp_mono fin) id
   rw [if_neg hw] at hfin ⊢
   exact fin _ _ hfin
  | _ :: _ :: _, hz1, _, _, _, _ => simp at hz1
 | n + 1, L, fs, listed, s, a, w, hn, h, hNM, hF, hP, hDC, hsr, hL, hA, hZ, hLn, hsz, hE, hs => by
  rw [show n + 1 + zo.length = (n + zo.length) + 1 by omega]
  refine ⟨fun hr => ?_, fun i hi => ?_⟩
  ·-- the first one that is left may come up
   exfalso
   cases L with
   | nil => cases hn
   | cons x L =>
    obtain ⟨i0, o0⟩ := x
    obtain ⟨h1, h2⟩ := hL (i0, o0) (by simp)
    have : i0 ∈ Region.ready .any ops listed := mem_ready.2 ⟨h2, o0, h1, fun e he hb => by
     have hlt := hE (i0, o0) (by simp) e (by simpa using he) hb
     simp only at hlt
     have hi0 : i0 < ops.size := (Array.getElem?_eq_some_iff.1 h1).1
     have hon : e.on < listed.size := by rw [hsz]; omega
     by_cases hl : listed.getD e.on false = true
     ·exact hl
     exfalso
     have hm := hA e.on _ (by have := hLn (i0, o0) (by simp); simp only at this; omega) (Array.getElem?_eq_getElem (by omega)) (getD_ft hon hl)
     rcases List.mem_cons.1 hm with he' | hm
     ·injection he' with he'; omega
     have := (List.pairwise_cons.1 hsr).1 _ hm
     simp only at this; omega⟩
    rw [hr] at this
    cases this
  obtain ⟨h1, o, h2, h3⟩ := mem_ready.1 hi
  have hi0 : i < n0 := by
   rcases hz2 i o h2 with hi0 | ⟨rfl, ho⟩
   ·exact hi0
   exfalso
   cases L with
   | nil => cases hn
   | cons x L =>
    obtain ⟨_, g2, _⟩ := hz3 o ho
    obtain ⟨e, q1, q2, q3⟩ := g2 x.1 (hLn x (by simp))
    have q4 := h3 e (by simpa using q1) q2
    have q5 := (hL x (by simp)).2
    rw [q3, getD_tf q5] at q4
    cases q4
  have hio : all[i]? = some o := by rw [hops] at h2; simpa using h2
  have hin := hA i o hi0 h2 h1
  obtain ⟨L1, L2, rfl⟩ := List.append_of_mem hin
  obtain ⟨fs1, f, fs2, hlen, rfl⟩ : ∃ fs1 f fs2, fs1.length = L1.length ∧ fs = fs1 ++ f :: fs2 := by
   have hl := hP.1
   simp only [List.length_append, List.length_cons] at hl
   have hlt : L1.length < fs.length := by omega
   refine ⟨fs.take L1.length, fs[L1.length], fs.drop (L1.length + 1), by simp; omega, ?_⟩
   rw [← List.drop_eq_getElem_cons hlt, List.take_append_drop]
  obtain ⟨hP1, hcm⟩ := pairsB_del hlen hP.2
  have hcomm : ∀ g ∈ fs1, comm g f = true := by
   intro g hg
   obtain ⟨k, hk⟩ := List.getElem?_of_mem hg
   have hkl : k < L1.length := by rw [← hlen]; exact (List.getElem?_eq_some_iff.1 hk).1
   rcases hcm k _ g (List.getElem?_eq_getElem hkl) hk with he | he
   ·exfalso
    have h5 := (hL L1[k] (List.mem_append_left _ (List.getElem_mem hkl))).2
    have hr := htb _ _ he
    have dc : ∀ {i j : Nat}, WaitsFor all i j → (∀ o e, all[i]? = some o → e ∈ o.after.toList → Region.binds .any e = true → listed.getD e.on false = true) → listed.getD j false = true := by
     intro i j hr
     induction hr with
     | one h1 h2 h3 h4 => intro hi; rw [← h4]; exact hi _ _ h1 h2 h3
     | more h1 h2 h3 h4 ih => intro hi; exact ih fun o e g1 g2 g3 => hDC _ o g1 (hi _ _ h1 h2 h3) e g2 g3
    have h4 := dc hr fun o' e g1 g2 g3 => by
     have : o' = o := by
      have e1 : ops[i]? = some o' := by rw [hops]; simpa using g1
      rw [h2] at e1; injection e1 with e1; exact e1.symm
     subst this
     exact h3 e (by simpa using g2) g3
    rw [getD_tf h5] at h4
    cases h4
   exact he
  have mf : ∀ X, ∃ δ ob, delta2 std T cs H (X i) all i o s = some (δ, ob, f) ∧ AO P C.K ob ∧ ∃ τ' obs', exec2 std T cs H X all (L1 ++ L2) (s.app δ) = some (τ', obs', fs1 ++ fs2) ∧ AO P C.K obs' ∧ ∀ a' w', Fits C τ' a' w' → wpList P ops Q zo a' w' := by
   intro X
   obtain ⟨τ, obs, e1, e2, e3⟩ := hs X
   obtain ⟨δ, ob, g1, τ', obs', g2, g3, g4⟩ := moveFront2 (P := P) e1 hlen hNM hF hcomm
   exact ⟨δ, ob, g1, (g4 e2).1, τ', obs', g2, (g4 e2).2, fun a' w' hf => e3 a' w' (hf.alike g3)⟩
  have hsrt : (L1 ++ L2).Pairwise (fun x y => x.1 < y.1) := hsr.sublist (List.Sublist.append_left (List.sublist_cons_self _ _) _)
  have hnot : ∀ x ∈ L1 ++ L2, x.1 ≠ i := by
   intro x hx
   rw [List.pairwise_append] at hsr
   obtain ⟨p1, p2, p3⟩ := hsr
   rcases List.mem_append.1 hx with hx | hx
   ·have := p3 x hx (i, o) (by simp); simp only at this; omega
   have := (List.pairwise_cons.1 p2).1 x hx; simp only at this; omega
  have key := delta2_ok (C := C) (K := fun a' w' => wpAny P .any ops Q (n + zo.length) (listed.setIfInBounds i true) a' w') (Q := Q) (cs := cs) (i := i) (o := o) hT hH hio hops h (fun x => by
   obtain ⟨δ, ob, g1, g2, _⟩ := mf (fun _ => x)
   exact ⟨_, g1, g2⟩) (fun x r a' w' hr hf => by
   have hfo := delta2_foot hr
   obtain ⟨δ, ob, f'⟩ := r
   obtain ⟨δ0, ob0, g0, _⟩ := mf (fun _ => x)
   rw [hr] at g0
   injection g0 with g0; injection g0 with q1 q2; injection q2 with q2 q3
   subst q1; subst q2; subst q3
   have hinF : ∀ g ∈ fs1 ++ fs2, g ∈ fs1 ++ f' :: fs2 := fun g hg => by
    rcases List.mem_append.1 hg with hg | hg
    ·exact List.mem_append_left _ hg
    exact List.mem_append_right _ (List.mem_cons_of_mem _ hg)
   obtain ⟨n1, n2⟩ := nm_of hfo (gs := fs1 ++ fs2) hNM (by simp) hinF (fun g hg => by
    rcases List.mem_append.1 hg with hg | hg
    ·have := hcomm g hg
     simp only [comm, Bool.and_eq_true] at this
     exact this.1.1.1.1.1.1.1.1.1
    exact (List.pairwise_cons.1 (List.pairwise_append.1 hF).2.1).1 g hg)
   refine any2_ok hT hops htb hH hz1 hz2 hz3 hz4 n (L1 ++ L2) (fs1 ++ fs2) (listed.setIfInBounds i true) (s.app δ) a' w' ?_ hf n2 ?_ ?_ ?_ hsrt ?_ ?_ (fun o' ho' => by rw [getD_set_ne true (by omega)]; exact hZ o' ho') ?_ (by simpa using hsz) ?_ ?_
   ·simp at hn ⊢; omega
   ·exact hF.sublist (List.Sublist.append_left (List.sublist_cons_self _ _) _)
   ·refine ⟨?_, hP1⟩
    have := hP.1
    simp at this ⊢; omega
   ·intro k ok hk hu e he hb
    by_cases hki : k = i
    ·subst hki
     have : ok = o := by
      have e1 : ops[k]? = some ok := by rw [hops]; simpa using hk
      rw [h2] at e1; injection e1 with e1; exact e1.symm
     subst this
     have hl := h3 e (by simpa using he) hb
     by_cases hei : e.on = k
     ·have := hE (k, ok) hin e he hb
      simp only at this; omega
     rw [getD_set_ne false (fun e' => hei e'.symm)]; exact hl
    rw [getD_set_ne false (fun e' => hki e'.symm)] at hu
    have hl := hDC k ok hk hu e he hb
    by_cases hei : e.on = i
    ·rw [hei] at hl
     have h5 := (hL (i, o) hin).2
     simp only at h5
     rw [getD_tf h5] at hl; cases hl
    rw [getD_set_ne false (fun e' => hei e'.symm)]; exact hl
   ·intro x' hx
    have hx' : x' ∈ L1 ++ (i, o) :: L2 := by
     rcases List.mem_append.1 hx with hx | hx
     ·exact List.mem_append_left _ hx
     exact List.mem_append_right _ (List.mem_cons_of_mem _ hx)
    obtain ⟨e1, e2⟩ := hL x' hx'
    refine ⟨e1, ?_⟩
    rw [getD_set_ne true (fun e => hnot x' hx e.symm)]
    exact e2
   ·intro k ok hkn hk hu
    by_cases hki : k = i
    ·subst hki
     have hlt : k < listed.size := by rw [hsz]; exact (Array.getElem?_eq_some_iff.1 h2).1
     simp [Array.getD_eq_getD_getElem?, hlt] at hu
    rw [getD_set_ne true (fun e => hki e.symm)] at hu
    have := hA k ok hkn hk hu
    rcases List.mem_append.1 this with hx | hx
    ·exact List.mem_append_left _ hx
    rcases List.mem_cons.1 hx with hx | hx
    ·injection hx with hx; exact absurd hx hki
    exact List.mem_append_right _ hx
   ·intro x' hx
    refine hLn x' ?_
    rcases List.mem_append.1 hx with hx | hx
    ·exact List.mem_append_left _ hx
    exact List.mem_append_right _ (List.mem_cons_of_mem _ hx)
   ·intro x' hx
    refine hE x' ?_
    rcases List.mem_append.1 hx with hx | hx
    ·exact List.mem_append_left _ hx
    exact List.mem_append_right _ (List.mem_cons_of_mem _ hx)
   intro X
   obtain ⟨Y, hY, hYX⟩ : ∃ Y : Nat → Atom, Y i = x ∧ ∀ j, j ≠ i → Y j = X j := ⟨fun j => if j = i then x else X j, by simp, fun j hj => by simp [hj]⟩
   obtain ⟨δ1, ob1, g1, _, τ', obs', g2, g3, g4⟩ := mf Y
   rw [hY, hr] at g1
   injection g1 with g1; injection g1 with q1 _
   subst q1
   rw [exec2_congr _ _ (fun x' hx => hYX x'.1 (hnot x' hx))] at g2
   exact ⟨τ', obs', g2, g3, g4⟩)
  unfold wpOp
  simp only [h2]
  by_cases hw : Region.wanted o (yielded ops a.tmps) = true
  ·rw [if_pos hw] at key ⊢
   exact .inl key
  rw [if_neg hw] at key ⊢
  exact key
def tailB (all : List Oper) (n0 : Nat) : Bool := Nat.ble n0 all.length && (match all.drop n0 with
 | [] => true
 | [o] => (List.range n0).all (fun j => o.after.toList.any fun e => Region.binds .any e && e.on == j) && o.after.toList.all (fun e => !(Region.binds .any e) || Nat.blt e.on n0)
 | _ => false)
theorem drawn2_ok {s : St} {a : Act} {w : World} {id : Nat} {all : List Oper} (n0 : Nat) (H : Hand) (hH : HandOK C P all H) (hm : P.follows .mixedOrders = true) (hT : TabOK P T) (kp km : List Nat) (cs : List (Nat × CS)) (h : Fits C s a w) (hgs : s.gs = []) (fs : List Foot) (hD : drawB (all.take n0) fs = true) (hZ : tailB all n0 = true) (hlen : (all.take n0).length = fs.length)
  {R : Alg → (Nat → Atom) → St × List Ob}
  (hex : ∀ A X, (exec2 A T cs H X all (number 0 (all.take n0)) s).map (fun r => ((r.1.keep kp km, r.2.1), r.2.2)) = some (R A X, fs)) (hob : ∀ X, AO P C.K (R std X).2) (hQ : ∀ X a' w', Fits C (R std X).1 a' w' → wpList P all.toArray Q (all.drop n0) a' w') : (Code.region id all.toArray true).wp P Q a w := by
 simp only [drawB, Bool.and_eq_true] at hD
 obtain ⟨⟨d1, d2⟩, d3⟩ := hD
 simp only [tailB, Bool.and_eq_true, Nat.ble_eq] at hZ
 obtain ⟨hn0, hZ⟩ := hZ
 refine wp_region_any hm ?_
 have hf : Fits C s a { w with drawn := w.drawn + 1 } := h.world (fun _ _ _ => rfl) (fun _ _ _ _ _ => rfl) ⟨h.chg.os, h.chg.tape, h.chg.output, h.chg.size, h.chg.block⟩ (fun _ _ _ hc _ => hc) (fun _ _ h _ => h)
 have hnl : ∀ (l : List Oper) (i : Nat), (number i l).length = l.length := by
  intro l
  induction l with
  | nil => intro i; rfl
  | cons o l ih => intro i; simp [number, ih]
 have htk : (all.take n0).length = n0 := by simp; omega
 have hzl : (all.drop n0).length ≤ 1 := by
  revert hZ
  cases all.drop n0 with
  | nil => intro _; simp
  | cons x l => cases l with
   | nil => intro _; simp
   | cons y l => intro h; cases h
 have hsz : all.toArray.size = (number 0 (all.take n0)).length + (all.drop n0).length := by rw [hnl, htk]; simp; omega
 have hgt : ∀ {k o}, (all.take n0)[k]? = some o → all[k]? = some o ∧ k < n0 := by
  intro k o hk
  have hlt := (List.getElem?_eq_some_iff.1 hk).1
  rw [htk] at hlt
  rw [List.getElem?_take, if_pos hlt] at hk
  exact ⟨hk, hlt⟩
 have hlst : ∀ k (b : Bool), k < all.length → (Array.replicate all.toArray.size false).getD k b = false := by
  intro k b hk
  have : k < all.toArray.size := by simpa using hk
  simp [Array.getD_eq_getD_getElem?, hk]
 have hsz0 : all.toArray.size = all.length := by simp
 have hmk : ∀ i j, edge (masks (all.take n0) []) i j = true → WaitsFor all i j := by
  intro i j hij
  have := masks_ok (all := all.take n0) (l := all.take n0) (tb := []) rfl (fun i j h => by simp at h) i j hij
  have conv : ∀ {i j}, WaitsFor (all.take n0) i j → WaitsFor all i j := by
   intro i j hw
   induction hw with
   | one h1 h2 h3 h4 => exact .one (hgt h1).1 h2 h3 h4
   | more h1 h2 h3 h4 ih => exact .more (hgt h1).1 h2 h3 ih
  exact conv this
 rw [hsz]
 refine any2_ok (cs := cs) (all := all) (tb := masks (all.take n0) []) hT rfl hmk hH (n0 := n0) (zo := all.drop n0) hzl ?_ ?_ (by simpa using hn0) _ (number 0 (all.take n0)) fs _ s a _ rfl hf (fun t p v hl => by rw [hgs] at hl; cases hl) ?_ ⟨by rw [hnl]; exact hlen, d1⟩ ?_ (number_sorted _ 0) ?_ ?_ ?_ ?_ ?_ ?_ ?_
 ·intro k o hk
  have hk' : all[k]? = some o := by simpa using hk
  have hlt := (List.getElem?_eq_some_iff.1 hk').1
  by_cases hkn : k < n0
  ·exact .inl hkn
  right
  have h1 : (all.drop n0)[k - n0]? = some o := by rw [List.getElem?_drop]; rw [show n0 + (k - n0) = k by omega]; exact hk'
  have h2 := (List.getElem?_eq_some_iff.1 h1).1
  have h3 : k = n0 := by omega
  subst h3
  refine ⟨rfl, ?_⟩
  revert hzl h1
  generalize all.drop k = dl
  intro hzl h1
  match dl, hzl, h1 with
  | [x], _, h1 => simp at h1; rw [h1]
  | [], _, h1 => simp at h1
  | _ :: _ :: _, hzl, _ => simp at hzl
 ·intro o ho
  rw [ho] at hZ
  simp only [Bool.and_eq_true] at hZ
  refine ⟨?_, fun j hj => ?_, fun e he hb => ?_⟩
  ·have : (all.drop n0)[0]? = some o := by rw [ho]; rfl
   rw [List.getElem?_drop] at this
   simpa using this
  ·have := List.all_eq_true.1 hZ.1 j (List.mem_range.2 hj)
   obtain ⟨e, he, hb⟩ := List.any_eq_true.1 this
   simp only [Bool.and_eq_true, beq_iff_eq] at hb
   exact ⟨e, he, hb.1, hb.2⟩
  have := List.all_eq_true.1 hZ.2 e he
  simpa [hb] using this
 ·exact ordB_ok d3
 ·intro k o hk hu
  exfalso
  rw [← hsz, hlst k false (List.getElem?_eq_some_iff.1 hk).1] at hu
  cases hu
 ·intro x hx
  obtain ⟨h1, h2⟩ := number_get hx
  rw [Nat.sub_zero] at h2
  obtain ⟨h3, _⟩ := hgt h2
  exact ⟨by simpa using h3, by rw [← hsz]; exact hlst _ _ (List.getElem?_eq_some_iff.1 h3).1⟩
 ·intro k o hkn hk _
  have hk' : (all.take n0)[k]? = some o := by rw [List.getElem?_take, if_pos hkn]; simpa using hk
  have := number_mem (i := 0) (l := all.take n0) (k := k) (o := o) hk'
  rwa [Nat.zero_add] at this
 ·intro o ho
  have : (all.drop n0).length = 1 := by rw [ho]; rfl
  rw [← hsz]
  exact hlst _ _ (by simp at this; omega)
 ·intro x hx
  obtain ⟨h1, h2⟩ := number_get hx
  rw [Nat.sub_zero] at h2
  exact (hgt h2).2
 ·rw [← hsz]; simp
 ·have ed : ∀ (L : List (Nat × Oper)), edgesB L = true → ∀ x ∈ L, ∀ e ∈ x.2.after.toList, Region.binds .any e = true → e.on < x.1 := by
   intro L
   induction L with
   | nil => intro _ x hx; cases hx
   | cons y L ih =>
    obtain ⟨i, o⟩ := y
    intro hL x hx e he hb
    simp only [edgesB, Bool.and_eq_true] at hL
    rcases List.mem_cons.1 hx with rfl | hx
    ·have := List.all_eq_true.1 hL.1 e he
     simpa [hb] using this
    exact ih hL.2 x hx e he hb
  exact ed _ d2
 intro X
 obtain ⟨r, hr, e⟩ := Option.map_eq_some_iff.1 (hex std X)
 obtain ⟨τ, obs, fs'⟩ := r
 simp only [Prod.mk.injEq] at e
 obtain ⟨e1, rfl⟩ := e
 refine ⟨τ, obs, hr, ?_, fun a' w' hf' => hQ X a' w' ?_⟩
 ·have := hob X; rw [← e1] at this; exact this
 rw [← e1]; exact hf'.keep kp km
theorem drawn2_okB {s : St} {a : Act} {w : World} {id : Nat} {all : List Oper} {B : Alg} (hB : B = std) (n0 : Nat) (H : Hand) (hH : HandOK C P all H) (hm : P.follows .mixedOrders = true) (hT : TabOK P T) (kp km : List Nat) (cs : List (Nat × CS)) (h : Fits C s a w) (hgs : s.gs = []) (fs : List Foot) (hD : drawB (all.take n0) fs = true) (hZ : tailB all n0 = true) (hlen : (all.take n0).length = fs.length)
  {R : Alg → (Nat → Atom) → St × List Ob}
  (hex : ∀ A X, (exec2 A T cs H X all (number 0 (all.take n0)) s).map (fun r => ((r.1.keep kp km, r.2.1), r.2.2)) = some (R A X, fs)) (hob : ∀ X, AO P C.K (R B X).2) (hQ : ∀ X a' w', Fits C (R B X).1 a' w' → wpList P all.toArray Q (all.drop n0) a' w') : (Code.region id all.toArray true).wp P Q a w := by
 subst hB
 exact drawn2_ok n0 H hH hm hT kp km cs h hgs fs hD hZ hlen hex hob hQ
end
end Go.Proofs.YtphmfjhmdajlmaaGreat.Sym
namespace Go.Proofs.YtphmfjhmdajlmaaGreat
open Go.RowKit Sym
def app {α : Type} (l : List α) : Dec (List α) → Dec (List α)
 | .error e => .error e
 | .ok (r, s) => .ok (l ++ r, s)
def fin (r : Rec) (rest : List UInt8) : Except Int Rec := if rest = [] then .ok r else .error 3
def Res.err {α : Type} : Except Int α → Int
 | .error e => e
 | .ok _ => 0
section
variable {m k : Nat} {p : Option Int} {s r r2 t : List UInt8} {e : Int}
end
def firsts (f : Nat → Itm) (i : Nat) : List Itm := (List.range i).map f
def fSet (f : Nat → Itm) (i : Nat) (x : Itm) : Nat → Itm := fun t => if t = i then x else f t
theorem firsts_set (f : Nat → Itm) (i : Nat) (x : Itm) : firsts (fSet f i x) (i + 1) = firsts f i ++ [x] := by
 unfold firsts
 rw [List.range_succ, List.map_append]
 congr 1
 ·apply List.map_congr_left
  intro t ht
  have := List.mem_range.1 ht
  simp [fSet, show ¬ t = i by omega]
 simp [fSet]
theorem firsts_len (f : Nat → Itm) (i : Nat) : (firsts f i).length = i := by simp [firsts]
theorem firsts_get (f : Nat → Itm) (n : Nat) : ∀ t, t < n → itF (firsts f n) t = f t := by
 intro t ht
 simp [itF, firsts, List.getD, ht]
structure RN where
 n : Nat
 f : Nat → Itm
 kd : Int
 nx : Lab
 mrk : Int
def RN.abs (r : RN) : Rec := ⟨r.kd, firsts r.f r.n, r.nx, r.mrk⟩
def Rec.rn (r : Rec) : RN := ⟨r.items.length, itF r.items, r.kind, r.next, r.mark⟩
theorem firsts_itF' (l : List Itm) : firsts (itF l) l.length = l := by
 apply List.ext_getElem
 ·simp [firsts]
 intro i h1 h2
 simp [firsts, itF, List.getD, h2]
theorem rn_abs (r : Rec) : r.rn.abs = r := by
 obtain ⟨k, l, nx, mk⟩ := r
 simp only [Rec.rn, RN.abs, firsts_itF']
theorem okF_congr' {f g : Nat → Itm} {n : Nat} (h : ∀ t, t < n → f t = g t) : okF f n = okF g n := by
 unfold okF
 rw [Bool.eq_iff_iff, List.all_eq_true, List.all_eq_true]
 have e : ∀ t, t < n → okAt f t = okAt g t := fun t ht => by
  unfold okAt
  rw [h t ht, h (t - 1) (by omega)]
 constructor
 ·intro h1 t ht; rw [← e t (List.mem_range.1 ht)]; exact h1 t ht
 intro h1 t ht; rw [e t (List.mem_range.1 ht)]; exact h1 t ht
theorem isR_abs (r : RN) : isR r.abs = isRF r.kd r.n r.f r.nx r.mrk := by
 unfold isR RN.abs
 simp only [firsts_len]
 rw [isRF_ref, isRF_ref, okF_congr' fun t ht => firsts_get r.f r.n t ht]
structure Spo where
 ver : Int
 has : Bool
 r : Rec
deriving DecidableEq
def zeroSpo : Spo := ⟨0, false, zeroRec⟩
abbrev Shf := List (Lab × Spo)
def lessL (a b : Lab) : Bool := decide (a.bits < b.bits) || (decide (a.bits = b.bits) && decide (a.len < b.len))
theorem lab_ext {a b : Lab} (h1 : a.len = b.len) (h2 : a.bits = b.bits) : a = b := by
 obtain ⟨x, y⟩ := a; obtain ⟨x', y'⟩ := b; simp only at h1 h2; rw [h1, h2]
theorem less_irr (a : Lab) : lessL a a = false := by simp [lessL]
theorem less_trans {a b c : Lab} (h1 : lessL a b = true) (h2 : lessL b c = true) : lessL a c = true := by
 simp only [lessL, Bool.or_eq_true, Bool.and_eq_true, decide_eq_true_eq] at *
 omega
theorem less_total (a b : Lab) : lessL a b = true ∨ a = b ∨ lessL b a = true := by
 simp only [lessL, Bool.or_eq_true, Bool.and_eq_true, decide_eq_true_eq]
 by_cases h1 : a.bits < b.bits
 ·exact .inl (.inl h1)
 by_cases h2 : b.bits < a.bits
 ·exact .inr (.inr (.inl h2))
 by_cases h3 : a.len < b.len
 ·exact .inl (.inr ⟨by omega, h3⟩)
 by_cases h4 : b.len < a.len
 ·exact .inr (.inr (.inr ⟨by omega, h4⟩))
 exact .inr (.inl (lab_ext (by omega) (by omega)))
theorem less_ne {a b : Lab} (h : lessL a b = true) : a ≠ b := by
 rintro rfl; rw [less_irr] at h; cases h
def Rises (L : Shf) : Prop := L.Pairwise fun a b => lessL a.1 b.1 = true
def findL (l : Lab) : Shf → Option Spo
 | [] => none
 | p :: L => if p.1 = l then some p.2 else findL l L
def putL (l : Lab) (x : Spo) : Shf → Shf
 | [] => [(l, x)]
 | p :: L => if lessL p.1 l then p :: putL l x L else if p.1 = l then (l, x) :: L else (l, x) :: p :: L
theorem find_of_less {l : Lab} : ∀ {L : Shf}, (∀ p ∈ L, lessL l p.1 = true) → findL l L = none
 | [], _ => rfl
 | p :: L, h => by
  unfold findL
  rw [if_neg (fun e => less_ne (h p (by simp)) e.symm)]
  exact find_of_less fun q hq => h q (by simp [hq])
theorem find_put (l : Lab) (x : Spo) (l' : Lab) : ∀ L : Shf, findL l' (putL l x L) = if l = l' then some x else findL l' L
 | [] => by simp [putL, findL]
 | p :: L => by
  unfold putL
  split
  ·rename_i hp
   unfold findL
   rw [find_put l x l' L]
   by_cases h1 : p.1 = l'
   ·rw [if_pos h1, if_pos h1]
    by_cases h2 : l = l'
    ·exact absurd (h1.trans h2.symm) (less_ne hp)
    rw [if_neg h2]
   rw [if_neg h1, if_neg h1]
  split
  ·rename_i _ hp
   unfold findL
   by_cases h2 : l = l'
   ·rw [if_pos h2, if_pos h2]
   rw [if_neg h2, if_neg h2, if_neg (by rw [hp]; exact h2)]
  show (if l = l' then some x else findL l' (p :: L)) = _
  rfl
theorem put_len (l : Lab) (x : Spo) : ∀ {L : Shf}, Rises L → (putL l x L).length = if (findL l L).isSome then L.length else L.length + 1
 | [], _ => rfl
 | p :: L, h => by
  have h' := List.pairwise_cons.1 h
  unfold putL findL
  split
  ·rename_i hp
   rw [if_neg (less_ne hp), List.length_cons, put_len l x h'.2]
   split <;> rfl
  split
  ·rfl
  rename_i hp he
  rw [find_of_less fun q hq => ?_]
  ·rfl
  rcases less_total p.1 l with h1 | h1 | h1
  ·exact absurd h1 hp
  ·exact absurd h1 he
  exact less_trans h1 (h'.1 q hq)
theorem put_mem {l : Lab} {x : Spo} : ∀ {L : Shf} {p : Lab × Spo}, p ∈ putL l x L → p = (l, x) ∨ p ∈ L
 | [], p, h => by simp [putL] at h; exact .inl h
 | q :: L, p, h => by
  unfold putL at h
  split at h
  ·rcases List.mem_cons.1 h with rfl | h
   ·exact .inr (by simp)
   rcases put_mem h with h | h
   ·exact .inl h
   exact .inr (by simp [h])
  split at h
  ·rcases List.mem_cons.1 h with rfl | h
   ·exact .inl rfl
   exact .inr (by simp [h])
  rcases List.mem_cons.1 h with rfl | h
  ·exact .inl rfl
  exact .inr h
theorem put_rises {l : Lab} {x : Spo} : ∀ {L : Shf}, Rises L → Rises (putL l x L)
 | [], _ => List.pairwise_singleton _ _
 | p :: L, h => by
  have h' := List.pairwise_cons.1 h
  unfold putL
  split
  ·rename_i hp
   refine List.pairwise_cons.2 ⟨fun q hq => ?_, put_rises h'.2⟩
   rcases put_mem hq with rfl | hq
   ·exact hp
   exact h'.1 q hq
  rename_i hp
  split
  ·rename_i he
   exact List.pairwise_cons.2 ⟨fun q hq => by simp only; rw [← he]; exact h'.1 q hq, h'.2⟩
  rename_i he
  have hl : lessL l p.1 = true := by
   rcases less_total p.1 l with h1 | h1 | h1
   ·exact absurd h1 hp
   ·exact absurd h1 he
   exact h1
  refine List.pairwise_cons.2 ⟨fun q hq => ?_, h⟩
  rcases List.mem_cons.1 hq with rfl | hq
  ·exact hl
  exact less_trans hl (h'.1 q hq)
structure Rw where
 lab : Lab
 ver : Int
 r : Rec
deriving DecidableEq
def zeroRw : Rw := ⟨⟨0, 0⟩, 0, zeroRec⟩
def newL : List Rw → Shf → Option Shf
 | [], L => some L
 | w :: l, L => if (findL w.lab L).isSome || !isL w.lab || !isR w.r then none else newL l (putL w.lab ⟨w.ver, true, w.r⟩ L)
def newS (l : List Rw) : Option Shf := if 2000 < l.length then none else newL l []
structure Got where
 code : Int
 ver : Int
 has : Bool
 r : Rec
deriving DecidableEq
def zeroGot : Got := ⟨0, 0, false, zeroRec⟩
structure Wnt where
 kind : Int
 lab : Lab
 ver : Int
 r : Rec
structure Did where
 L : Shf
 wrote : Bool
 got : Got
 err : Int
def inc (v : Int) : Int := IntKind.u64.wrap (v + 1)
def nextSpo (w : Wnt) : Spo := ⟨inc w.ver, decide (w.kind = 2), if w.kind = 2 then w.r else zeroRec⟩
def spotOf (L : Shf) (l : Lab) : Spo := (findL l L).getD zeroSpo
def doL (L : Shf) (w : Wnt) : Did :=
 if (w.kind = 1 ∨ w.kind = 2 ∨ w.kind = 3) ∧ isL w.lab = true ∧ (w.kind = 2 → isR w.r = true) then
  (if w.kind = 1 then ⟨L, false, ⟨0, (spotOf L w.lab).ver, (spotOf L w.lab).has, (spotOf L w.lab).r⟩, 0⟩
  else if w.ver ≠ (spotOf L w.lab).ver then ⟨L, false, ⟨8, (spotOf L w.lab).ver, false, zeroRec⟩, 0⟩
  else if (findL w.lab L).isNone ∧ 2000 ≤ L.length then ⟨L, false, zeroGot, 12⟩
  else ⟨putL w.lab (nextSpo w) L, true, ⟨0, inc w.ver, false, zeroRec⟩, 0⟩)
 else ⟨L, false, zeroGot, 1⟩
def rowsL (L : Shf) : List Rw := (L.filter (fun p => p.2.has)).map fun p => ⟨p.1, p.2.ver, p.2.r⟩
end Go.Proofs.YtphmfjhmdajlmaaGreat
namespace Go.Proofs.YtphmfjhmdajlmaaGreat.Sym
open Go Go.RowKit
structure RA where
 A : Option Addr
 c : Nat
 r : RN
abbrev recC (x : RA) : List AV := [.int .i64 x.r.kd, .sl none x.A x.r.n x.c 2 (fun i => itC (x.r.f i)), .int .i64 x.r.nx.len, .int .u64 x.r.nx.bits, .int .u64 x.r.mrk]
abbrev recV (x : RA) : AV := .agg (recC x)
def zRN : RN := ⟨0, fun _ => zeroItm, 0, ⟨0, 0⟩, 0⟩
def zRA : RA := ⟨none, 0, zRN⟩
structure RowA where
 lab : Lab
 ver : Int
 x : RA
abbrev rowC (w : RowA) : List AV := [.int .i64 w.lab.len, .int .u64 w.lab.bits, .int .u64 w.ver, .int .i64 w.x.r.kd, .sl none w.x.A w.x.r.n w.x.c 2 (fun i => itC (w.x.r.f i)), .int .i64 w.x.r.nx.len, .int .u64 w.x.r.nx.bits, .int .u64 w.x.r.mrk]
abbrev rowsV (A : Option Addr) (n c : Nat) (f : Nat → RowA) : AV := .sl none A n c 8 (fun i => rowC (f i))
def zRow : RowA := ⟨⟨0, 0⟩, 0, zRA⟩
structure SpA where
 w : RowA
 has : Bool
abbrev elC (x : SpA) : List AV := [.int .u64 x.w.ver, .bool (.v x.has), .int .i64 x.w.x.r.kd, .sl none x.w.x.A x.w.x.r.n x.w.x.c 2 (fun i => itC (x.w.x.r.f i)), .int .i64 x.w.x.r.nx.len, .int .u64 x.w.x.r.nx.bits, .int .u64 x.w.x.r.mrk]
def zSp : SpA := ⟨zRow, false⟩
structure GotA where
 code : Int
 ver : Int
 has : Bool
 x : RA
abbrev gotC (g : GotA) : List AV := [.int .i64 g.code, .int .u64 g.ver, .bool (.v g.has), .int .i64 g.x.r.kd, .sl none g.x.A g.x.r.n g.x.c 2 (fun i => itC (g.x.r.f i)), .int .i64 g.x.r.nx.len, .int .u64 g.x.r.nx.bits, .int .u64 g.x.r.mrk]
abbrev gotV (g : GotA) : AV := .agg (gotC g)
def zGot : GotA := ⟨0, 0, false, zRA⟩
structure ResA where
 code : Int
 had : Bool
 val : ByteArray
 A : Option Addr
 n : Nat
 c : Nat
 f : Nat → Itm
 key : Int
 more : Bool
structure WntA where
 kind : Int
 lab : Lab
 ver : Int
 x : RA
 s : ResA
abbrev wntC (w : WntA) : List AV := [.int .i64 w.kind, .int .i64 w.lab.len, .int .u64 w.lab.bits, .int .u64 w.ver, .int .i64 w.x.r.kd, .sl none w.x.A w.x.r.n w.x.c 2 (fun i => itC (w.x.r.f i)), .int .i64 w.x.r.nx.len, .int .u64 w.x.r.nx.bits, .int .u64 w.x.r.mrk, .int .i64 w.s.code, .bool (.v w.s.had), .str w.s.val, .sl none w.s.A w.s.n w.s.c 2 (fun i => itC (w.s.f i)), .int .u64 w.s.key, .bool (.v w.s.more)]
abbrev wntV (w : WntA) : AV := .agg (wntC w)
def RowA.abs (w : RowA) : Rw := ⟨w.lab, w.ver, w.x.r.abs⟩
def SpA.abs (x : SpA) : Lab × Spo := (x.w.lab, ⟨x.w.ver, x.has, x.w.x.r.abs⟩)
def GotA.abs (g : GotA) : Got := ⟨g.code, g.ver, g.has, g.x.r.abs⟩
def WntA.abs (w : WntA) : Wnt := ⟨w.kind, w.lab, w.ver, w.x.r.abs⟩
def listA {α β : Type} (h : α → β) (g : Nat → α) (n : Nat) : List β := (List.range n).map fun i => h (g i)
theorem listA_len {α β : Type} (h : α → β) (g : Nat → α) (n : Nat) : (listA h g n).length = n := by simp [listA]
theorem listA_get {α β : Type} (h : α → β) (g : Nat → α) {n i : Nat} (hi : i < n) : (listA h g n)[i]? = some (h (g i)) := by simp [listA, hi]
theorem listA_succ {α β : Type} (h : α → β) (g : Nat → α) (n : Nat) : listA h g (n + 1) = listA h g n ++ [h (g n)] := by simp [listA, List.range_succ]
abbrev rwsA (f : Nat → RowA) (n : Nat) : List Rw := listA RowA.abs f n
theorem SimL.length : ∀ {l l' : List AV}, SimL l l' → l.length = l'.length
 | [], [], _ => rfl
 | v :: l, v' :: l', h => by simp only [List.length_cons, SimL.length h.2]
 | [], _ :: _, h => h.elim
 | _ :: _, [], h => h.elim
theorem Sim.rows {g g' : Option Nat} {A : Option Addr} {n n' c k : Nat} {f f' : Nat → List AV} (hn : n = n') (he : ∀ i, i < n' → SimL (f i) (f' i)) : Sim (.sl g A n c k f) (.sl g' A n' c k f') := by
 subst hn
 refine ⟨rfl, fun _ => rfl, fun m w h => ?_⟩
 cases h with
 | sl _ _ _ _ _ _ h1 h2 h3 h4 h5 h6 h7 =>
  exact .sl _ _ _ _ _ _ h1 h2 (fun i hi => by rw [← (he i hi).length]; exact h3 i hi) h4 (fun i hi => by rw [← (he i hi).map]; exact h5 i hi) (fun i hi => (he i hi).one (h6 i hi)) (fun i hi => (he i hi).ok (h7 i hi))
theorem Fits.memS {C : Cx} {nt : Nat} {l : List (Nat × AV)} {mem : List (Nat × Blk)} {gr : List (Nat × Gr)} {a : Act} {w : World} {k b ty : Nat} {cells cells' : List AV} (h : Fits C ⟨nt, l, [], (k, ⟨b, ty, cells⟩) :: mem, gr⟩ a w) (e : SimL cells cells') : Fits C ⟨nt, l, [], (k, ⟨b, ty, cells'⟩) :: mem, gr⟩ a w := by
 have hto : ∀ k' e', lookM ((k, (⟨b, ty, cells'⟩ : Blk)) :: mem) k' = some e' → ∃ e0, lookM ((k, (⟨b, ty, cells⟩ : Blk)) :: mem) k' = some e0 ∧ e0.at_ = e'.at_ ∧ e0.ty = e'.ty ∧ SimL e0.cells e'.cells := by
  intro k' e' he
  simp only [lookM] at he ⊢
  split at he
  ·rename_i hk; injection he with he; subst he; exact ⟨⟨b, ty, cells⟩, by rw [if_pos hk], rfl, rfl, e⟩
  rename_i hk; exact ⟨e', by rw [if_neg hk]; exact he, rfl, rfl, zl⟩
 have hfro : ∀ k' e', lookM ((k, (⟨b, ty, cells⟩ : Blk)) :: mem) k' = some e' → ∃ e0, lookM ((k, (⟨b, ty, cells'⟩ : Blk)) :: mem) k' = some e0 ∧ e0.at_ = e'.at_ := by
  intro k' e' he
  simp only [lookM] at he ⊢
  split at he
  ·rename_i hk; injection he with he; subst he; exact ⟨⟨b, ty, cells'⟩, by rw [if_pos hk], rfl⟩
  rename_i hk; exact ⟨e', by rw [if_neg hk]; exact he, rfl⟩
 have hm : St.m ⟨nt, l, [], (k, ⟨b, ty, cells'⟩) :: mem, gr⟩ C = St.m ⟨nt, l, [], (k, ⟨b, ty, cells⟩) :: mem, gr⟩ C := by
  funext x o
  apply propext
  constructor
  ·rintro (h | ⟨k', e', he, hx⟩ | h)
   ·exact .inl h
   ·obtain ⟨e0, h1, h2, _⟩ := hto k' e' he
    exact .inr (.inl ⟨k', e0, h1, h2.trans hx⟩)
   exact .inr (.inr h)
  rintro (h | ⟨k', e', he, hx⟩ | h)
  ·exact .inl h
  ·obtain ⟨e0, h1, h2⟩ := hfro k' e' he
   exact .inr (.inl ⟨k', e0, h1, h2.trans hx⟩)
  exact .inr (.inr h)
 refine ⟨h.size, h.defers, fun t ht => by rw [hm]; exact h.slot t ht, fun t p v he hk => (by cases he), fun k' e' he => ?_, fun k1 k2 e1 e2 h1 h2 hne => ?_, h.gr, fun k1 t k2 e2 h1 h2 => ?_, h.sepg, h.chg, h.m0, by rw [hm]; exact h.kept⟩
 ·rw [hm]
  obtain ⟨e0, h1, h2, h3, h4⟩ := hto k' e' he
  obtain ⟨g1, g2, g3⟩ := h.mem k' e0 h1
  refine ⟨?_, fun v hv => ⟨h4.one (fun v hv => (g2 v hv).1) v hv, h4.ok (fun v hv => (g2 v hv).2) v hv⟩, by rw [← h2]; exact g3⟩
  rw [← h2, ← h3, ← h4.map]; exact g1
 ·obtain ⟨a1, b1, c1, _⟩ := hto k1 e1 h1
  obtain ⟨a2, b2, c2, _⟩ := hto k2 e2 h2
  rw [← c1, ← c2]
  exact h.nodup k1 k2 a1 a2 b1 b2 hne
 obtain ⟨a2, b2, c2, _⟩ := hto k2 e2 h2
 rw [← c2]
 exact h.sepm k1 t k2 a2 h1 b2
def putG (g : Nat → SpA) (p : Nat) (x : SpA) (h : Nat) : Nat → SpA := fun i => if i < p then g i else if i = p then x else g (i - 1 + h)
theorem rn_sim (A : Option Addr) (c : Nat) {r r' : RN} (h : r.abs = r'.abs) : SimL (recC ⟨A, c, r⟩) (recC ⟨A, c, r'⟩) := by
 obtain ⟨n, f, kd, nx, mrk⟩ := r
 obtain ⟨n', f', kd', nx', mrk'⟩ := r'
 simp only [RN.abs, Rec.mk.injEq] at h
 obtain ⟨rfl, h2, rfl, rfl⟩ := h
 have hn : n = n' := by rw [← firsts_len f n, h2, firsts_len]
 subst hn
 refine ⟨zr, Sim.recell (fun t ht => ?_), zr, zr, zr, trivial⟩
 show itC (f t) = itC (f' t)
 rw [← firsts_get f n t ht, h2, firsts_get f' n t ht]
theorem abs_rn (r : Rec) : r.rn.abs = r := rn_abs r
def spY (A : Option Addr) (c : Nat) (g : Nat → SpA) (A1 : Option Addr) (c1 : Nat) (b : Nat) : Atom := ⟨b, fun j => match j with | 0 => A | 1 => A1 | j + 2 => (g j).w.x.A, fun j => match j with | 0 => c | 1 => c1 | j + 2 => (g j).w.x.c, fun _ => ⟨#[]⟩⟩
def gotA (y : Atom) (g : Got) : GotA := ⟨g.code, g.ver, g.has, ⟨y.A 1, y.c 1, g.r.rn⟩⟩
theorem got_sim {A A1 : Option Addr} {c c1 b : Nat} {g : Nat → SpA} {v : GotA} {G : Got} (h : v.abs = G) (hA : v.x.A = A1) (hc : v.x.c = c1) : SimL (gotC v) (gotC (gotA (spY A c g A1 c1 b) G)) := by
 subst h; subst hA; subst hc
 have hr := rn_sim v.x.A v.x.c (r := v.x.r) (r' := v.x.r.abs.rn) (abs_rn _).symm
 exact ⟨zr, zr, zr, hr.1, hr.2.1, hr.2.2.1, hr.2.2.2.1, hr.2.2.2.2.1, trivial⟩
def rwAt (y : Atom) (R : List Rw) (i : Nat) : RowA := ⟨(R.getD i zeroRw).lab, (R.getD i zeroRw).ver, ⟨y.A (i + 2), y.c (i + 2), (R.getD i zeroRw).r.rn⟩⟩
def rwY (A : Option Addr) (c : Nat) (f : Nat → RowA) (b : Nat) : Atom := ⟨b, fun j => match j with | 0 => A | 1 => none | j + 2 => (f j).x.A, fun j => match j with | 0 => c | 1 => 0 | j + 2 => (f j).x.c, fun _ => ⟨#[]⟩⟩
theorem rwsA_at {f : Nat → RowA} {n : Nat} {R : List Rw} (h : rwsA f n = R) {i : Nat} (hi : i < n) : (f i).abs = R.getD i zeroRw := by
 rw [← h]; simp [List.getD, listA_get RowA.abs f hi]
theorem rws_sim {A : Option Addr} {n c b : Nat} {f : Nat → RowA} {R : List Rw} (h : rwsA f n = R) {gg : Option Nat} : Sim (.sl gg A n c 8 (fun i => rowC (f i))) (rowsV A R.length c (rwAt (rwY A c f b) R)) := by
 have hn : n = R.length := by rw [← h, listA_len]
 refine Sim.rows hn fun i hi => ?_
 have e : rwAt (rwY A c f b) R i = ⟨(R.getD i zeroRw).lab, (R.getD i zeroRw).ver, ⟨(f i).x.A, (f i).x.c, (R.getD i zeroRw).r.rn⟩⟩ := rfl
 rw [e, ← rwsA_at h (show i < n by omega)]
 have hr := rn_sim (f i).x.A (f i).x.c (r := (f i).x.r) (r' := (f i).x.r.abs.rn) (abs_rn _).symm
 exact ⟨zr, zr, zr, hr.1, hr.2.1, hr.2.2.1, hr.2.2.2.1, hr.2.2.2.2.1, trivial⟩
theorem ok_cell {m : Nat → Nat → Prop} {w : World} {g : Option Nat} {A : Option Addr} {n c k : Nat} {cells : Nat → List AV} (h : Ok m w (.sl g A n c k cells)) {i : Nat} (hi : i < n) : ∀ v ∈ cells i, Ok m w v := by
 cases h with | sl _ _ _ _ _ _ h1 h2 h3 h4 h5 h6 h7 => exact h7 i hi
theorem rows_len {m : Nat → Nat → Prop} {w : World} {g : Option Nat} {A : Option Addr} {n c : Nat} {f : Nat → RowA} (h : Ok m w (.sl g A n c 8 (fun i => rowC (f i)))) : ∀ i, i < n → (f i).x.r.n ≤ maxLen := by
 intro i hi
 have := ok_len (ok_cell h hi (.sl none (f i).x.A (f i).x.r.n (f i).x.c 2 (fun t => itC ((f i).x.r.f t))) (by simp))
 omega
theorem sameF_abs (n : Nat) (f : Nat → Itm) (n2 : Nat) (f2 : Nat → Itm) : sameF n f n2 f2 = decide (firsts f n = firsts f2 n2) := by
 by_cases h : firsts f n = firsts f2 n2
 ·have hn : n = n2 := by rw [← firsts_len f n, h, firsts_len]
  rw [decide_eq_true h, sameF_yes hn]
  intro i hi
  rw [← firsts_get f n i hi, h, firsts_get f2 n2 i (by omega)]
 rw [decide_eq_false h]
 by_cases hn : n = n2
 ·subst hn
  by_cases he : ∀ i, i < n → f i = f2 i
  ·exfalso; apply h; unfold firsts; exact List.map_congr_left fun t ht => he t (List.mem_range.1 ht)
  obtain ⟨i, hi⟩ := Classical.not_forall.1 he
  obtain ⟨hi, hne⟩ := Classical.not_imp.1 hi
  exact sameF_no hi hne
 unfold sameF; rw [decide_eq_false hn]; rfl
theorem sameR_abs (r r2 : RN) : sameRF r.kd r.n r.f r.nx r.mrk r2.kd r2.n r2.f r2.nx r2.mrk = decide (r.abs = r2.abs) := by
 unfold sameRF
 rw [sameF_abs]
 unfold RN.abs
 simp only [Rec.mk.injEq]
 by_cases h1 : r.kd = r2.kd <;> by_cases h2 : firsts r.f r.n = firsts r2.f r2.n <;> by_cases h3 : r.nx = r2.nx <;> by_cases h4 : r.mrk = r2.mrk <;> simp [h1, h2, h3, h4]
def sumW (f : Nat → RowA) : Nat → Int
 | 0 => 0
 | i + 1 => IntKind.i64.wrap (sumW f i + ((f i).x.r.n : Int))
def anyB (f : Nat → RowA) (n : Nat) : Bool := (List.range n).any fun i => bigF (f i).x.r.n (f i).x.r.f
def bigS (n : Nat) (f : Nat → RowA) : Bool := decide (300 < n) || anyB f n || decide (3000 < sumW f n)
theorem anyB_false {f : Nat → RowA} {n : Nat} (h : anyB f n = false) : ∀ i, i < n → bigF (f i).x.r.n (f i).x.r.f = false := by
 intro i hi
 unfold anyB at h
 rw [List.any_eq_false] at h
 simpa using h i (List.mem_range.2 hi)
theorem anyB_true {f : Nat → RowA} {n i : Nat} (hi : i < n) (h : bigF (f i).x.r.n (f i).x.r.f = true) : anyB f n = true := List.any_eq_true.2 ⟨i, List.mem_range.2 hi, h⟩
theorem anyB_none {f : Nat → RowA} {n : Nat} (h : ∀ i, i < n → bigF (f i).x.r.n (f i).x.r.f = false) : anyB f n = false := by
 unfold anyB
 rw [List.any_eq_false]
 intro i hi
 simp [h i (List.mem_range.1 hi)]
theorem bigF_len {n : Nat} {f : Nat → Itm} (h : bigF n f = false) : n ≤ 40 := by
 unfold bigF at h
 simp only [Bool.or_eq_false_iff, decide_eq_false_iff_not] at h
 omega
theorem newL_step {f : Nat → RowA} {n i : Nat} {L : Shf} (hi : i < n) : newL ((rwsA f n).drop i) L = if (findL (f i).lab L).isSome || !isL (f i).lab || !isR (f i).x.r.abs then none else newL ((rwsA f n).drop (i + 1)) (putL (f i).lab ⟨(f i).ver, true, (f i).x.r.abs⟩ L) := by
 have hl : i < (rwsA f n).length := by rw [listA_len]; exact hi
 have e : (rwsA f n).drop i = (f i).abs :: (rwsA f n).drop (i + 1) := by
  rw [List.drop_eq_getElem_cons hl]
  congr 1
  simp [listA]
 rw [e]
 rfl
theorem lab_laid : laidOutB Tryz.prog = true := by kernel_rfl
theorem lab_row : (24 : TypeId) < Tryz.prog.types.size := of_decide_eq_true (by kernel_rfl)
theorem lab_wide : (match Tryz.prog.underlying 24 with | some (.array _ _) | some (.struct _) => true | _ => false) = true := by kernel_rfl
theorem lab_law : WideMaps.KeyLaw Tryz.prog 24 := deep_law_laid lab_laid (m := 2) (by omega) lab_row (by kernel_rfl) lab_wide
theorem labK : Maps.Keyed Tryz.prog 24 := Maps.Keyed.of_law lab_law
theorem map_und' : Tryz.prog.underlying 80 = some (.map 24 84) := by kernel_rfl
def LabOk (l : Lab) : Prop := (Lit.int .i64 l.len).wf = true ∧ (Lit.int .u64 l.bits).wf = true
def keyL (l : Lab) : Lit := .string (keyBytes [.int .i64 l.len, .int .u64 l.bits])
theorem key_lab {l : Lab} (h : LabOk l) : Go.keyOf Tryz.prog 24 (labAV l).den = some (keyL l) := by
 obtain ⟨h1, h2⟩ := h
 have hu : Tryz.prog.underlying 24 = some (.struct _) := Tryz.underlying24
 have hi : Tryz.prog.underlying 3 = some (.int .i64) := by kernel_rfl
 have hb : Tryz.prog.underlying 22 = some (.int .u64) := by kernel_rfl
 have hk : Tryz.prog.keyType 24 = true := by kernel_rfl
 have hc : Tryz.prog.cellsOf 24 = 2 := by kernel_rfl
 have hci : Tryz.prog.cellsOf 3 = 1 := by kernel_rfl
 have hcb : Tryz.prog.cellsOf 22 = 1 := by kernel_rfl
 obtain ⟨m, hm⟩ := Nat.exists_eq_succ_of_ne_zero (n := Tryz.prog.types.size) (by have := lab_row; intro h; rw [h] at this; exact absurd this (Nat.not_lt_zero _))
 simp [Go.keyOf, hu, hk, Value.formed, hc, labAV, AV.den, AV.denL, hm, Program.keyLits, Value.cells, hci, hcb, hi, hb, h1, h2, keyL]
theorem keyL_inj {l l' : Lab} (h : LabOk l) (h' : LabOk l') (e : keyL l = keyL l') : l = l' := by
 have := labK.inj (key_lab h) (e ▸ key_lab h')
 simp [labAV, AV.den, AV.denL] at this
 exact lab_ext this.1 this.2
theorem mapW_fun {P : Program} {K : TypeId} {w : World} {b n n' : Nat} {D D' : DataW Value} (h : MapW P K w b n D) (h' : MapW P K w b n' D') : D = D' := by
 obtain ⟨es, cl, hb, F, hs, hD⟩ := h
 obtain ⟨es', cl', hb', F', hs', hD'⟩ := h'
 rw [hb] at hb'
 injection hb' with hb'; injection hb' with e1 e2
 subst e1
 rw [hD, hD']
theorem mapW_size {P : Program} {K : TypeId} {w : World} {b n : Nat} {D : DataW Value} (h : MapW P K w b n D) : MapW P K w b (Maps.size D) D := by
 obtain ⟨es, cl, hb, F, hs, hD⟩ := h
 refine ⟨es, cl, hb, F, ?_, hD⟩
 rw [hD]
 simp [Maps.size, length_sorted]
abbrev Adr := Lab → Option Addr × Nat
abbrev elA (E : Adr) (l : Lab) (x : Spo) : SpA := ⟨⟨l, x.ver, ⟨(E l).1, (E l).2, x.r.rn⟩⟩, x.has⟩
structure ShD (D : DataW Value) (E : Adr) (b : Nat) (L : Shf) (m : Nat → Nat → Prop) (w : World) : Prop where
 map : MapW Tryz.prog 24 w b L.length D
 ris : Rises L
 labs : ∀ p ∈ L, LabOk p.1
 has : ∀ kl, Maps.has D kl = true ↔ ∃ p ∈ L, keyL p.1 = kl
 size : Maps.size D = L.length
 at_ : ∀ p ∈ L, ∀ zd, D.atKey (keyL p.1) zd = .held (AV.agg (elC (elA E p.1 p.2))).den
 ok : ∀ p ∈ L, Ok m w (.agg (elC (elA E p.1 p.2)))
theorem ShD.keepB {D : DataW Value} {E : Adr} {b : Nat} {L : Shf} {m m' : Nat → Nat → Prop} {w w' : World} {bo : Option Nat} (h : ShD D E b L m w) (k : KeepB bo w m w' m') (hb : bo ≠ some b) : ShD D E b L m' w' :=
 ⟨mapW_keepB k hb h.map, h.ris, h.labs, h.has, h.size, h.at_, fun p hp => k.ok (h.ok p hp)⟩
theorem ShD.keep {D : DataW Value} {E : Adr} {b : Nat} {L : Shf} {m m' : Nat → Nat → Prop} {w w' : World} (h : ShD D E b L m w) (k : Keep w m w' m') : ShD D E b L m' w' :=
 ⟨mapW_keep k h.map, h.ris, h.labs, h.has, h.size, h.at_, fun p hp => k.ok (h.ok p hp)⟩
def shD (D : DataW Value) (E : Adr) (b : Nat) (L : Shf) : Kn := ⟨ShD D E b L, fun k h => h.keep k⟩
def shK (b : Nat) (L : Shf) : Kn := ⟨fun m w => ∃ D E, ShD D E b L m w, fun k ⟨D, E, h⟩ => ⟨D, E, h.keep k⟩⟩
def shF (N b : Nat) (L : Shf) : Kn := ⟨fun m w => N ≤ b ∧ (shK b L).p m w, fun k h => ⟨h.1, (shK b L).st k h.2⟩⟩
theorem find_mem {l : Lab} {x : Spo} : ∀ {L : Shf}, findL l L = some x → (l, x) ∈ L
 | p :: L, h => by
  unfold findL at h
  split at h
  ·rename_i he; injection h with h; subst h; subst he; exact List.mem_cons_self ..
  exact List.mem_cons_of_mem _ (find_mem h)
theorem mem_find {p : Lab × Spo} : ∀ {L : Shf}, Rises L → p ∈ L → findL p.1 L = some p.2
 | q :: L, h, hp => by
  have h' := List.pairwise_cons.1 h
  unfold findL
  rcases List.mem_cons.1 hp with rfl | hp
  ·rw [if_pos rfl]
  rw [if_neg (less_ne (h'.1 p hp))]
  exact mem_find h'.2 hp
def zeroEl : Value := .agg #[.int .u64 0, .bool false, .int .i64 0, .slice none 0 0, .int .i64 0, .int .u64 0, .int .u64 0]
theorem zeroEl_run (w : World) : (zeroValue 84).run Tryz.prog w = .ok zeroEl w := by kernel_rfl
section
variable {D : DataW Value} {E : Adr} {b : Nat} {L : Shf} {m : Nat → Nat → Prop} {w : World} {l : Lab}
theorem ShD.hasL (h : ShD D E b L m w) (hl : LabOk l) : Maps.has D (keyL l) = (findL l L).isSome := by
 cases hf : findL l L with
 | some x => exact (h.has _).2 ⟨(l, x), find_mem hf, rfl⟩
 | none =>
  rw [Option.isSome_none, Bool.eq_false_iff]
  intro hh
  obtain ⟨p, hp, he⟩ := (h.has _).1 hh
  have : p.1 = l := keyL_inj (h.labs p hp) hl he
  rw [← this, mem_find h.ris hp] at hf
  cases hf
def adr (E : Adr) (L : Shf) : Adr := fun l => if (findL l L).isSome then E l else (none, 0)
theorem elA_zero (E : Adr) (hn : findL l L = none) : AV.den (.agg (elC (elA (adr E L) l (spotOf L l)))) = zeroEl ∧ ∀ m w, Ok m w (.agg (elC (elA (adr E L) l (spotOf L l)))) := by
 have e1 : spotOf L l = zeroSpo := by unfold spotOf; rw [hn]; rfl
 have e2 : adr E L l = (none, 0) := by unfold adr; rw [hn]; rfl
 unfold elA
 rw [e1, e2]
 refine ⟨rfl, fun m w => .agg _ (fun v hv => ?_) fun v hv => ?_⟩
 ·simp only [elC, List.mem_cons, List.not_mem_nil, or_false] at hv
  rcases hv with rfl | rfl | rfl | rfl | rfl | rfl | rfl <;> rfl
 simp only [elC, List.mem_cons, List.not_mem_nil, or_false] at hv
 rcases hv with rfl | rfl | rfl | rfl | rfl | rfl | rfl
 ·exact .int _ _
 ·exact .bool _
 ·exact .int _ _
 ·exact .sl _ _ _ _ _ _ (Nat.le_refl _) (Nat.zero_le _) (fun i hi => absurd hi (Nat.not_lt_zero _)) (fun i hi => absurd hi (Nat.not_lt_zero _)) (fun i hi => absurd hi (Nat.not_lt_zero _)) (fun i hi => absurd hi (Nat.not_lt_zero _)) (fun i hi => absurd hi (Nat.not_lt_zero _))
 ·exact .int _ _
 ·exact .int _ _
 exact .int _ _
theorem ShD.look (h : ShD D E b L m w) (hl : LabOk l) : D.atKey (keyL l) (.held zeroEl) = .held (AV.agg (elC (elA (adr E L) l (spotOf L l)))).den ∧ Ok m w (.agg (elC (elA (adr E L) l (spotOf L l)))) := by
 cases hf : findL l L with
 | some x =>
  have hm := find_mem hf
  have e1 : spotOf L l = x := by unfold spotOf; rw [hf]; rfl
  have e2 : adr E L l = E l := by unfold adr; rw [hf]; rfl
  have e3 : elA (adr E L) l (spotOf L l) = elA E l x := by unfold elA; rw [e1, e2]
  rw [e3]
  exact ⟨h.at_ _ hm _, h.ok _ hm⟩
 | none =>
  obtain ⟨e1, e2⟩ := elA_zero (L := L) E hf
  refine ⟨?_, e2 _ _⟩
  rw [e1]
  exact Maps.atKey_of_not_has (by rw [h.hasL hl, hf]; rfl) _
theorem ShD.put (h : ShD D E b L m w) (hl : LabOk l) {w' : World} (k : KeepB (some b) w m w' m) (v : Int) (hs : Bool) (x : RA) (hv : Ok m w (.agg (elC ⟨⟨l, v, x⟩, hs⟩))) (hM : MapW Tryz.prog 24 w' b (L.length + 1) (D.put (keyL l) (.held (AV.agg (elC ⟨⟨l, v, x⟩, hs⟩)).den))) :
  ∃ D' E', ShD D' E' b (putL l ⟨v, hs, x.r.abs⟩ L) m w' := by
 have hsim : Sim (.agg (elC ⟨⟨l, v, x⟩, hs⟩)) (.agg (elC ⟨⟨l, v, ⟨x.A, x.c, x.r.abs.rn⟩⟩, hs⟩)) := by
  have hr := rn_sim x.A x.c (r := x.r) (r' := x.r.abs.rn) (abs_rn _).symm
  exact Sim.agg ⟨zr, zr, hr.1, hr.2.1, hr.2.2.1, hr.2.2.2.1, hr.2.2.2.2.1, trivial⟩
 have hkey : WideAt.IsKeyLit (keyL l) := labK.key (key_lab hl)
 have hmp : Maps.IsMap D := (h.map.tidy labK).isMap
 have hsz := mapW_size hM
 have hlen : Maps.size (D.put (keyL l) (.held (AV.agg (elC ⟨⟨l, v, x⟩, hs⟩)).den)) = (putL l ⟨v, hs, x.r.abs⟩ L).length := by
  rw [Maps.size_put (h.map.tidy labK), h.hasL hl, put_len l _ h.ris]
  rw [h.size]
 have hris := put_rises (l := l) (x := ⟨v, hs, x.r.abs⟩) h.ris
 have hin : ∀ p, p ∈ putL l ⟨v, hs, x.r.abs⟩ L ↔ p = (l, ⟨v, hs, x.r.abs⟩) ∨ (p ∈ L ∧ p.1 ≠ l) := by
  intro p
  constructor
  ·intro hp
   have h1 := mem_find hris hp
   rw [find_put] at h1
   by_cases he : l = p.1
   ·rw [if_pos he] at h1
    injection h1 with h1
    obtain ⟨p1, p2⟩ := p
    simp only at he h1
    subst he; subst h1
    exact .inl rfl
   rw [if_neg he] at h1
   exact .inr ⟨find_mem h1, fun e => he e.symm⟩
  rintro (rfl | ⟨hp, hne⟩)
  ·exact find_mem (by rw [find_put, if_pos rfl])
  exact find_mem (x := p.2) (l := p.1) (by rw [find_put, if_neg (fun e => hne e.symm)]; exact mem_find h.ris hp)
 have hE : ∀ p : Lab × Spo, p.1 ≠ l → elA (fun k => if k = l then (x.A, x.c) else E k) p.1 p.2 = elA E p.1 p.2 := fun p hne => by unfold elA; simp only [if_neg hne]
 have hE2 : elA (fun k => if k = l then (x.A, x.c) else E k) l ⟨v, hs, x.r.abs⟩ = ⟨⟨l, v, ⟨x.A, x.c, x.r.abs.rn⟩⟩, hs⟩ := by unfold elA; simp only [if_true]
 refine ⟨_, fun k => if k = l then (x.A, x.c) else E k, ?_, hris, fun p hp => ?_, fun kl => ?_, hlen, fun p hp zd => ?_, fun p hp => ?_⟩
 ·rw [hlen] at hsz; exact hsz
 ·rcases (hin p).1 hp with rfl | ⟨hp, _⟩
  ·exact hl
  exact h.labs p hp
 ·by_cases he : kl = keyL l
  ·subst he
   rw [Maps.has_put_same hmp hkey]
   exact ⟨fun _ => ⟨_, (hin _).2 (.inl rfl), rfl⟩, fun _ => rfl⟩
  rw [Maps.has_put_other he, h.has]
  constructor
  ·rintro ⟨p, hp, hk⟩
   exact ⟨p, (hin p).2 (.inr ⟨hp, fun e => he (by rw [← hk, e])⟩), hk⟩
  rintro ⟨p, hp, hk⟩
  rcases (hin p).1 hp with rfl | ⟨hp, _⟩
  ·exact absurd hk.symm he
  exact ⟨p, hp, hk⟩
 ·rcases (hin p).1 hp with rfl | ⟨hp, hne⟩
  ·rw [Maps.atKey_put_same hmp hkey, hE2, hsim.1]
  rw [Maps.atKey_put_other (fun e => hne (keyL_inj (h.labs p hp) hl e)), hE p hne]
  exact h.at_ p hp zd
 rcases (hin p).1 hp with rfl | ⟨hp, hne⟩
 ·rw [hE2]; exact k.ok (hsim.2.2 _ _ hv)
 rw [hE p hne]; exact k.ok (h.ok p hp)
theorem hand_look {m0 : Nat → Nat → Prop} {w0 : World} {S : Nat → Prop} {ds : List Deferred} {D : DataW Value} {E : Adr} {b : Nat} {L : Shf} {l : Lab} (hl : LabOk l) {el : SpA} (hel : el = elA (adr E L) l (spotOf L l)) {hh : Bool} (hhh : hh = (findL l L).isSome) {all : List Oper} {j t1 t2 : Nat} (ho : ∀ o, all[j]? = some o → o.op = .lookup 80 (.tmp t1) (.tmp t2) true) :
  HandOK ⟨m0, w0, S, ds, shD D E b L⟩ Tryz.prog all (some (j, [.tmp t1, .tmp t2], [.raw (.map (some b)), labAV l], .tup [.agg (elC el), .bool (.v hh)])) := by
 intro i xs args v he o hio s a w hF hv
 simp only [Option.some.injEq, Prod.mk.injEq] at he
 obtain ⟨rfl, rfl, rfl, rfl⟩ := he
 have hop := ho o hio
 simp only [vals] at hv
 split at hv
 ·split at hv
  ·simp only [Option.map_some, Option.some.injEq, List.cons.injEq, and_true] at hv
   obtain ⟨h1, h2⟩ := hv
   have hSh : ShD D E b L (s.m ⟨m0, w0, S, ds, shD D E b L⟩) w := hF.kept
   obtain ⟨g1, g2⟩ := hSh.look hl
   subst hel
   have hr := lookup_run hop hF h1 h2 rfl labK map_und' (zeroEl_run w) hSh.map (key_lab hl) g1
   refine ⟨?_, .tup _ fun u hu => ?_⟩
   ·rw [hr, hSh.hasL hl, ← hhh]
    simp [AV.den, AV.denL, BE.den]
   simp only [List.mem_cons, List.not_mem_nil, or_false] at hu
   rcases hu with rfl | rfl
   ·exact g2
   exact .bool _
  simp at hv
 simp at hv
theorem shK_put {m : Nat → Nat → Prop} {w w' : World} {b : Nat} {L : Shf} {l : Lab} {D : DataW Value} {n : Nat} (h0 : MapW Tryz.prog 24 w b n D) (hl : LabOk l) (h : (shK b L).p m w) (k : KeepB (some b) w m w' m) {v : AV} {x : SpA} (hs : Sim v (.agg (elC x))) (hv : Ok m w v) (hM : MapW Tryz.prog 24 w' b (L.length + 1) (D.put (keyL l) (.held v.den))) : (shK b (putL l ⟨x.w.ver, x.has, x.w.x.r.abs⟩ L)).p m w' := by
 obtain ⟨D1, E1, h1⟩ := h
 have := mapW_fun h0 h1.map
 subst this
 rw [hs.1] at hM
 exact h1.put hl k x.w.ver x.has x.w.x (hs.2.2 _ _ hv) hM
theorem shK_map {m : Nat → Nat → Prop} {w : World} {b : Nat} {L : Shf} (h : (shK b L).p m w) : ∃ es cl, w.heap[b]? = some (.map es cl) := by
 obtain ⟨D, E, h⟩ := h
 obtain ⟨es, cl, hb, _⟩ := h.map
 exact ⟨es, cl, hb⟩
def chgL (L : Shf) (l : Lab) (v xv : Int) (kn : Bool) (z : Spo) : Did :=
 if v ≠ xv then ⟨L, false, ⟨8, xv, false, zeroRec⟩, 0⟩
 else if kn = false ∧ 2000 ≤ L.length then ⟨L, false, zeroGot, 12⟩
 else ⟨putL l z L, true, ⟨0, z.ver, false, zeroRec⟩, 0⟩
section
variable {P : Program} {Q : Exit → Act → World → Prop} {ops : Array Oper}
theorem unguard {a : Act} {w : World} {rest : List Oper} {o : Oper} (hw : Region.wanted o (yielded ops a.tmps) = true) (h : wpList P ops Q ({ o with guard := none } :: rest) a w) : wpList P ops Q (o :: rest) a w := by
 unfold wpList at h ⊢
 rw [if_pos hw]
 have : Region.wanted { o with guard := none } (yielded ops a.tmps) = true := by simp [Region.wanted]
 rw [if_pos this] at h
 cases o
 exact h
theorem wanted_tt {C : Cx} {s : St} {a : Act} {w : World} (hF : Fits C s a w) {o : Oper} {j g : Nat} (hg : o.guard = some (j, true)) (hd : (ops[j]?).bind (·.dst) = some g) (hv : look s.tmps g = .bool .tt) : Region.wanted o (yielded ops a.tmps) = true := by
 have h := (hF.slot g (by rw [hv]; rfl)).1
 rw [hv] at h
 simp only [Region.wanted, hg, yielded, hd, Option.bind_some, h]
 rfl
theorem LeftS.re {bo : Option Nat} {m : Nat → Nat → Prop} {w w' : World} {pre pre' : List (Nat × Blk)} {sets sets' : List (Nat × List AV)} {news news' : List (Nat × Blk)} (h : LeftS bo m w w' pre sets news) (hp : pre'.map (·.2) = pre.map (·.2)) (hs : sets'.map (·.2) = sets.map (·.2)) (hk : sets'.map (·.1) = pre'.map (·.1)) (hn : news'.map (·.2) = news.map (·.2)) : LeftS bo m w w' pre' sets' news' := by
 have hm : mN m news' = mN m news := by funext b o; simp only [mN, ats_snd hn]
 have hu : (upd pre' sets' ++ news').map (·.2) = (upd pre sets ++ news).map (·.2) := by rw [List.map_append, List.map_append, upd_snd hp hs, hn]
 refine ⟨hk, all_snd (p := fun b => w'.heap[b.at_]? = some (.cells (b.cells.map AV.den).toArray b.ty (0, 0))) hu h.heap, all_snd (p := fun b => ∀ v ∈ b.cells, v.one = true ∧ Ok (mN m news') w' v) hu (hm ▸ h.ok), all_snd (p := fun b => w.heap.size ≤ b.at_) hn h.fresh, pair_snd hn h.dist, h.chg.mono fun k hk => hk.imp (ats_snd hp k).2 id⟩
theorem SpecM.re {f : FuncId} {args args' : List AV} {pre pre' : List (Nat × Blk)} {bo : Option Nat} {I : Kn} {res res' : Atom → CR} {J : Nat → Atom → Kn} (h : SpecM P f args pre bo I res J) (ha : SimL args' args) (hp : pre'.map (·.2) = pre.map (·.2))
  (hr : ∀ x, (res' x).sets.map (·.2) = (res x).sets.map (·.2) ∧ (res' x).sets.map (·.1) = pre'.map (·.1) ∧ Sim (res x).v (res' x).v ∧ (res' x).news.map (·.2) = (res x).news.map (·.2)) : SpecM P f args' pre' bo I res' J := by
 intro m w h1 h2 h3 hI
 rw [ha.map]
 refine (h m w h1 (ha.ok h2) (h3.re hp.symm) hI).mono ?_
 rintro e w' ⟨x, rfl, hok, hl, hb, hJ⟩
 obtain ⟨r1, r2, r3, r4⟩ := hr x
 have hm : mN m (res' x).news = mN m (res x).news := by funext b o; simp only [mN, ats_snd r4]
 exact ⟨x, by rw [r3.1], by rw [hm]; exact r3.2.2 _ _ hok, hl.re hp r1 r2 r4, hb, by rw [hm]; exact hJ⟩
theorem SpecM.args {f : FuncId} {args args' : List AV} {pre : List (Nat × Blk)} {bo : Option Nat} {I : Kn} {res : Atom → CR} {J : Nat → Atom → Kn} (h : SpecM P f args' pre bo I res J) (hs : SimL args args') : SpecM P f args pre bo I res J := by
 intro m w hm ha hp hI
 rw [hs.map]
 exact h m w hm (hs.ok ha) hp hI
end
theorem ShD.empty {m : Nat → Nat → Prop} {w : World} {b : Nat} (h : MapW Tryz.prog 24 w b 0 (.map [])) (E : Adr) : ShD (.map []) E b [] m w :=
 ⟨h, .nil, fun p hp => (by cases hp), fun kl => ⟨fun h => (by cases h), fun ⟨p, hp, _⟩ => (by cases hp)⟩, rfl, fun p hp => (by cases hp), fun p hp => (by cases hp)⟩
end
end Go.Proofs.YtphmfjhmdajlmaaGreat.Sym
namespace Go.Proofs.YtphmfjhmdajlmaaGreat
open Go.RowKit Sym
def coverB (l : Lab) (key : Int) : Bool := isL l && decide ((headN key.toNat l.len.toNat : Int) = l.bits)
def childL (l : Lab) (b : Int) : Lab := ⟨l.len + 1, if b = 1 then l.bits + (2 ^ (63 - l.len.toNat) : Nat) else l.bits⟩
def digs (v : Int) (n : Nat) : List UInt8 := (lowB 64 v.toNat).take n
theorem digs_len (v : Int) {n : Nat} (hn : n ≤ 64) : (digs v n).length = n := by unfold digs; rw [List.length_take, lowB_len]; omega
theorem digs_mem {v : Int} {n : Nat} : ∀ c ∈ digs v n, c = 48 ∨ c = 49 := fun c hc => lowB_mem c (List.mem_of_mem_take hc)
theorem u64_lt {v : Int} (h : U64 v) : v.toNat < 2 ^ 64 := by have := h.1; have := h.2; omega
theorem lowB_inj {n a b : Nat} (ha : a < 2 ^ n) (hb : b < 2 ^ n) (h : lowB n a = lowB n b) : a = b := by
 have := congrArg numB h
 rw [numB_low, numB_low, Nat.mod_eq_of_lt ha, Nat.mod_eq_of_lt hb] at this
 exact this
theorem div_lt {v n : Nat} (hv : v < 2 ^ 64) (hn : n ≤ 64) : v / 2 ^ (64 - n) < 2 ^ n := by
 rw [Nat.div_lt_iff_lt_mul (Nat.pow_pos (by decide)), ← Nat.pow_add, show n + (64 - n) = 64 by omega]
 exact hv
theorem lab_parts {l : Lab} (h : isL l = true) : 0 ≤ l.len ∧ l.len ≤ 64 ∧ (headN l.bits.toNat l.len.toNat : Int) = l.bits := by
 unfold isL at h
 simp only [Bool.and_eq_true, decide_eq_true_eq] at h
 exact ⟨h.1.1, h.1.2, h.2⟩
theorem cov_text {l : Lab} (hl : isL l = true) (hb : U64 l.bits) {key : Int} (hk : U64 key) : decide (digs l.bits l.len.toNat = digs key l.len.toNat) = coverB l key := by
 obtain ⟨h0, h1, h2⟩ := lab_parts hl
 have hn : l.len.toNat ≤ 64 := by omega
 unfold coverB
 rw [hl, Bool.true_and]
 rw [Bool.eq_iff_iff, decide_eq_true_eq, decide_eq_true_eq]
 unfold digs
 rw [low_take _ _ hn, low_take _ _ hn]
 constructor
 ·intro h
  have := lowB_inj (div_lt (u64_lt hb) hn) (div_lt (u64_lt hk) hn) h
  rw [← h2]
  unfold headN
  rw [this]
 intro h
 have e : headN key.toNat l.len.toNat = l.bits.toNat := by omega
 unfold headN at e
 rw [← e, Nat.mul_div_cancel _ (Nat.pow_pos (by decide))]
theorem half_pow {n : Nat} (h : n < 64) : 2 ^ (64 - n) = 2 * 2 ^ (63 - n) := by
 have h9 : 64 - n = (63 - n) + 1 := by omega
 rw [h9, Nat.pow_succ, Nat.mul_comm]
theorem lab_mul {l : Lab} (hl : isL l = true) (hb : U64 l.bits) (h64 : l.len ≠ 64) : ∃ q, l.bits = ((q * (2 * 2 ^ (63 - l.len.toNat)) : Nat) : Int) ∧ q * (2 * 2 ^ (63 - l.len.toNat)) + 2 * 2 ^ (63 - l.len.toNat) ≤ 2 ^ 64 := by
 obtain ⟨h0, h1, h2⟩ := lab_parts hl
 have hn : l.len.toNat < 64 := by omega
 refine ⟨l.bits.toNat / 2 ^ (64 - l.len.toNat), ?_, ?_⟩
 ·rw [← h2]
  unfold headN
  rw [half_pow hn]
  congr 1
  have : (((l.bits.toNat / (2 * 2 ^ (63 - l.len.toNat)) * (2 * 2 ^ (63 - l.len.toNat)) : Nat) : Int).toNat) = l.bits.toNat / (2 * 2 ^ (63 - l.len.toNat)) * (2 * 2 ^ (63 - l.len.toNat)) := Int.toNat_natCast _
  have hpos : 0 < 2 * 2 ^ (63 - l.len.toNat) := Nat.mul_pos (by decide) (Nat.pow_pos (by decide))
  rw [this, Nat.mul_div_cancel _ hpos]
 have h3 := div_lt (u64_lt hb) (show l.len.toNat ≤ 64 by omega)
 rw [← half_pow hn]
 have := Nat.mul_le_mul_right (2 ^ (64 - l.len.toNat)) (Nat.succ_le_of_lt h3)
 rw [← Nat.pow_add, show l.len.toNat + (64 - l.len.toNat) = 64 by omega, Nat.succ_mul] at this
 exact this
theorem child_u {l : Lab} (hl : isL l = true) (hb : U64 l.bits) (h64 : l.len ≠ 64) (b : Int) : U64 (childL l b).bits := by
 obtain ⟨q, h1, h2⟩ := lab_mul hl hb h64
 unfold childL
 simp only
 split
 ·rw [h1]; constructor
  ·omega
  have : 0 < 2 ^ (63 - l.len.toNat) := Nat.pow_pos (by decide)
  omega
 exact hb
theorem child_isL {l : Lab} (hl : isL l = true) (hb : U64 l.bits) (h64 : l.len ≠ 64) (b : Int) : isL (childL l b) = true := by
 obtain ⟨q, h1, h2⟩ := lab_mul hl hb h64
 obtain ⟨h3, h4, h5⟩ := lab_parts hl
 have hlen : (l.len + 1).toNat = l.len.toNat + 1 := by omega
 have hpow : 64 - (l.len.toNat + 1) = 63 - l.len.toNat := by omega
 unfold isL childL
 simp only [Bool.and_eq_true, decide_eq_true_eq]
 refine ⟨⟨by omega, by omega⟩, ?_⟩
 unfold headN
 rw [hlen, hpow]
 have hp : 0 < 2 ^ (63 - l.len.toNat) := Nat.pow_pos (by decide)
 split
 ·have e : (l.bits + ((2 ^ (63 - l.len.toNat) : Nat) : Int)).toNat = (q * 2 + 1) * 2 ^ (63 - l.len.toNat) := by
   rw [h1, Nat.add_mul, Nat.one_mul, Nat.mul_assoc]; omega
  rw [e, Nat.mul_div_cancel _ hp, h1, Nat.add_mul, Nat.one_mul, Nat.mul_assoc]
  omega
 have e : l.bits.toNat = (q * 2) * 2 ^ (63 - l.len.toNat) := by rw [h1, Nat.mul_assoc]; omega
 rw [e, Nat.mul_div_cancel _ hp, h1, Nat.mul_assoc]
theorem child_cov {l : Lab} (hl : isL l = true) (hb : U64 l.bits) (h64 : l.len ≠ 64) {key : Int} (hk : U64 key) (hc : coverB l key = true) :
  coverB (childL l 0) key = decide (key < (childL l 1).bits) ∧ coverB (childL l 1) key = decide ((childL l 1).bits ≤ key) := by
 obtain ⟨q, h1, h2⟩ := lab_mul hl hb h64
 obtain ⟨h3, h4, h5⟩ := lab_parts hl
 have hlen : (l.len + 1).toNat = l.len.toNat + 1 := by omega
 have hpow : 64 - (l.len.toNat + 1) = 63 - l.len.toNat := by omega
 have hn : l.len.toNat < 64 := by omega
 obtain ⟨M, hM⟩ := eqv (2 ^ (63 - l.len.toNat))
 have hp : 0 < M := by rw [hM]; exact Nat.pow_pos (by decide)
 have hh : (headN key.toNat l.len.toNat : Int) = l.bits := by
  unfold coverB at hc
  simp only [Bool.and_eq_true, decide_eq_true_eq] at hc
  exact hc.2
 rw [← hM] at h1
 have hq : key.toNat / (2 * M) = q := by
  unfold headN at hh
  rw [half_pow hn, ← hM, h1] at hh
  have : key.toNat / (2 * M) * (2 * M) = q * (2 * M) := by omega
  exact Nat.eq_of_mul_eq_mul_right (by omega) this
 have hkey : key.toNat = q * (2 * M) + key.toNat % (2 * M) := by
  have := Nat.div_add_mod key.toNat (2 * M)
  rw [hq, Nat.mul_comm] at this
  omega
 have hr := Nat.mod_lt key.toNat (show 0 < 2 * M by omega)
 have hdiv : key.toNat / M = q * 2 + key.toNat % (2 * M) / M := by
  conv => lhs; rw [hkey]
  rw [← Nat.mul_assoc, Nat.mul_comm, Nat.mul_add_div hp]
 have hk0 := hk.1
 unfold coverB
 rw [child_isL hl hb h64 0, child_isL hl hb h64 1, Bool.true_and, Bool.true_and]
 unfold childL headN
 simp only [hlen, hpow, ← hM, if_true, show ¬ ((0 : Int) = 1) by decide, if_false, hdiv, h1]
 by_cases hlt : key.toNat % (2 * M) < M
 ·rw [Nat.div_eq_of_lt hlt, Nat.add_zero, Nat.mul_assoc]
  constructor
  ·rw [decide_eq_true rfl, eq_comm, decide_eq_true_eq]; omega
  rw [Bool.eq_iff_iff, decide_eq_true_eq, decide_eq_true_eq]; omega
 have h9 : key.toNat % (2 * M) / M = 1 := by
  have h10 := Nat.div_lt_of_lt_mul (m := key.toNat % (2 * M)) (n := M) (k := 2) (by omega)
  have h11 := (Nat.le_div_iff_mul_le hp (x := 1) (y := key.toNat % (2 * M))).2 (by omega)
  omega
 rw [h9, Nat.add_mul, Nat.one_mul, Nat.mul_assoc]
 constructor
 ·rw [Bool.eq_iff_iff, decide_eq_true_eq, decide_eq_true_eq]; omega
 rw [Bool.eq_iff_iff, decide_eq_true_eq, decide_eq_true_eq]; omega
theorem child_text {l : Lab} (hl : isL l = true) (hb : U64 l.bits) (h64 : l.len ≠ 64) (b : Int) (hb01 : b = 0 ∨ b = 1) :
  numB (digs l.bits l.len.toNat ++ [if b = 1 then 49 else 48] ++ List.replicate (64 - (l.len.toNat + 1)) 48) = (childL l b).bits.toNat := by
 obtain ⟨h3, h4, h5⟩ := lab_parts hl
 have hn : l.len.toNat < 64 := by omega
 have hh := of_head (u64_lt hb) (show l.len.toNat ≤ 64 by omega)
 rw [numB_append, numB_zeros, List.length_replicate, Nat.add_zero, half_pow hn] at hh
 have hpow : 64 - (l.len.toNat + 1) = 63 - l.len.toNat := by omega
 have h0 := hb.1
 rw [List.append_assoc, List.singleton_append, numB_append, numB_cons, numB_zeros, List.length_cons, List.length_replicate, hpow, Nat.pow_succ, Nat.mul_comm (2 ^ (63 - l.len.toNat)) 2]
 unfold digs
 rw [hh]
 unfold childL
 clear hh
 generalize headN l.bits.toNat l.len.toNat = H at h5 ⊢
 generalize 2 ^ (63 - l.len.toNat) = M
 rcases hb01 with rfl | rfl
 ·simp only [show ¬ ((0 : Int) = 1) by decide, if_false]
  have : ((48 : UInt8).toNat - 48) = 0 := by decide
  rw [this]
  omega
 simp only [if_true]
 have : ((49 : UInt8).toNat - 48) = 1 := by decide
 rw [this, Nat.one_mul]
 omega
def covL (l : Lab) (its : List Itm) : List Itm := its.filter fun x => coverB l x.key
def halvR (kd : Int) (n : Nat) (f : Nat → Itm) (nx : Lab) (mk : Int) (l : Lab) : Rec × Rec × Int :=
 if (isRF kd n f nx mk && isL l && decide ((covL l (firsts f n)).length = n)) = false then (zeroRec, zeroRec, 1)
 else if kd ≠ 1 ∧ kd ≠ 3 then (zeroRec, zeroRec, 13) else if l.len = 64 then (zeroRec, zeroRec, 5)
 else (⟨1, covL (childL l 0) (firsts f n), childL l 1, 0⟩, ⟨1, covL (childL l 1) (firsts f n), nx, 0⟩, 0)
theorem cov_all {l : Lab} {its : List Itm} : (covL l its).length = its.length ↔ ∀ x ∈ its, coverB l x.key = true := by
 unfold covL
 exact List.length_filter_eq_length_iff
def ovl (n : Nat) (f : Nat → Itm) (n2 : Nat) (f2 : Nat → Itm) : Bool := decide (0 < n) && (decide (0 < n2) && decide ((f2 0).key ≤ (f (n - 1)).key))
def uniR (kd : Int) (n : Nat) (f : Nat → Itm) (nx : Lab) (mk : Int) (kd2 : Int) (n2 : Nat) (f2 : Nat → Itm) (nx2 : Lab) (mk2 : Int) : Rec × Int :=
 if (isRF kd n f nx mk && isRF kd2 n2 f2 nx2 mk2) = false then (zeroRec, 1) else if ovl n f n2 f2 = true then (zeroRec, 1)
 else if ¬ (kd = 1 ∨ kd = 5) ∨ ¬ (kd2 = 1 ∨ kd2 = 5) then (zeroRec, 13) else if 16 < n + n2 then (zeroRec, 12) else (⟨1, firsts f n ++ firsts f2 n2, nx2, 0⟩, 0)
theorem isRF_kind {kd : Int} {n : Nat} {f : Nat → Itm} {nx : Lab} {mk : Int} (h : isRF kd n f nx mk = true) : 1 ≤ kd ∧ kd ≤ 5 ∧ n ≤ 16 ∧ (nx = noneL ∨ isL nx = true) ∧ okF f n = true := by
 rw [isRF_ref] at h
 simp only [Bool.and_eq_true, Bool.not_eq_true', Bool.or_eq_false_iff, decide_eq_false_iff_not] at h
 obtain ⟨⟨⟨⟨⟨h1, h2⟩, h3⟩, h4⟩, _⟩, h5⟩ := h
 refine ⟨by omega, by omega, by omega, ?_, h5⟩
 by_cases hd : nx = noneL
 ·exact .inl hd
 right
 cases hl : isL nx with
 | true => rfl
 | false => simp [hd, hl] at h4
def parE (l : Lab) : Int := if isL l = false then 1 else if l.len = 0 then 7 else 0
def parL (l : Lab) : Lab := ⟨l.len - 1, (headN l.bits.toNat (l.len.toNat - 1) : Nat)⟩
def parV (l : Lab) : Lab := if parE l = 0 then parL l else ⟨0, 0⟩
theorem headN_le' (v n : Nat) : headN v n ≤ v := Nat.div_mul_le_self _ _
theorem headN_u {v : Int} (hv : U64 v) (n : Nat) : U64 ((headN v.toNat n : Nat) : Int) := by
 have := headN_le' v.toNat n
 have h1 := hv.1; have h2 := hv.2
 exact ⟨by omega, by omega⟩
theorem par_u {l : Lab} (hb : U64 l.bits) : U64 (parL l).bits := headN_u hb _
theorem headN_head {v n : Nat} : headN (headN v n) n = headN v n := by
 unfold headN
 rw [Nat.mul_div_cancel _ (Nat.pow_pos (by decide))]
theorem par_isL {l : Lab} (hl : isL l = true) (hb : U64 l.bits) (h0 : l.len ≠ 0) : isL (parL l) = true := by
 obtain ⟨h1, h2, _⟩ := lab_parts hl
 unfold isL parL
 simp only [Bool.and_eq_true, decide_eq_true_eq]
 refine ⟨⟨by omega, by omega⟩, ?_⟩
 rw [show (l.len - 1).toNat = l.len.toNat - 1 by omega, Int.toNat_natCast, headN_head]
theorem nat_andNot_bit {n v k : Nat} (hv : v < 2 ^ n) (hm : v % 2 ^ k = 0) : v &&& (2 ^ n - 1 - 2 ^ k) = v / 2 ^ (k + 1) * 2 ^ (k + 1) := by
 apply Nat.eq_of_testBit_eq
 intro i
 rw [Nat.testBit_and, Nat.testBit_mul_two_pow, Nat.testBit_div_two_pow]
 have hvk : ∀ i, i < k → v.testBit i = false := by
  intro i hi
  obtain ⟨q, hq⟩ := Nat.dvd_of_mod_eq_zero hm
  rw [hq, Nat.mul_comm, Nat.testBit_mul_two_pow]
  simp [show ¬ k ≤ i by omega]
 by_cases h1 : i < k
 ·simp [hvk i h1, show ¬ (k + 1 ≤ i) by omega]
 by_cases hin : i < n
 ·by_cases hkn : k < n
  ·rw [show 2 ^ n - 1 - 2 ^ k = 2 ^ n - (2 ^ k + 1) by omega, Nat.testBit_two_pow_sub_succ (Nat.pow_lt_pow_right (by decide) hkn), Nat.testBit_two_pow]
   by_cases h2 : i = k
   ·subst h2; simp; intro h; omega
   simp [hin, show ¬ k = i by omega, show k + 1 ≤ i by omega, show i - (k + 1) + (k + 1) = i by omega]
  exfalso; omega
 have hvi : v.testBit i = false := Nat.testBit_lt_two_pow (Nat.lt_of_lt_of_le hv (Nat.pow_le_pow_right (by decide) (by omega)))
 rw [hvi]
 by_cases h3 : k + 1 ≤ i
 ·simp [show i - (k + 1) + (k + 1) = i by omega, hvi]
 simp [h3]
theorem andNot_bit {l : Lab} (hl : isL l = true) (hb : U64 l.bits) (h0 : l.len ≠ 0) : sAr .andNot .u64 l.bits ((2 ^ (64 - l.len.toNat) : Nat) : Int) = (parL l).bits := by
 obtain ⟨h1, h2, h3⟩ := lab_parts hl
 obtain ⟨n, hn⟩ : ∃ n : Nat, l.len = n := ⟨l.len.toNat, by omega⟩
 have hn0 : 0 < n := by omega
 have hn64 : n ≤ 64 := by omega
 have hlt := u64_lt hb
 have hm : l.bits.toNat % 2 ^ (64 - n) = 0 := by
  have : l.bits.toNat = headN l.bits.toNat n := by rw [hn] at h3; simp at h3; omega
  rw [this]; unfold headN; exact Nat.mul_mod_left _ _
 show IntKind.u64.wrap (BitVec.ofInt 64 l.bits &&& ~~~BitVec.ofInt 64 _).toNat = _
 have hp : 2 ^ (64 - n) < 2 ^ 64 := Nat.pow_lt_pow_right (by decide) (by omega)
 have e1 : (BitVec.ofInt 64 l.bits).toNat = l.bits.toNat := by
  rw [BitVec.toNat_ofInt]
  have h1 := hb.1; have h2 := hb.2
  rw [Int.emod_eq_of_lt h1 (by simpa using h2)]
 have e2 : (BitVec.ofInt 64 ((2 ^ (64 - l.len.toNat) : Nat) : Int)).toNat = 2 ^ (64 - n) := by
  rw [hn, Int.toNat_natCast, BitVec.ofInt_natCast, BitVec.toNat_ofNat, Nat.mod_eq_of_lt hp]
 rw [BitVec.toNat_and, BitVec.toNat_not, e1, e2, show 2 ^ 64 - 1 - 2 ^ (64 - n) = 2 ^ 64 - 1 - 2 ^ (64 - n) from rfl, nat_andNot_bit hlt hm]
 unfold parL headN
 simp only [hn, Int.toNat_natCast]
 rw [show 64 - (n - 1) = 64 - n + 1 by omega, wrap_u64n]
 have := Nat.div_mul_le_self l.bits.toNat (2 ^ (64 - n + 1))
 rw [Nat.mod_eq_of_lt (by omega)]
end Go.Proofs.YtphmfjhmdajlmaaGreat
namespace Go.Proofs.YtphmfjhmdajlmaaGreat.Sym
open Go Go.RowKit
def cmp3 (x y : Int) : Int := if x < y then -1 else if y < x then 1 else 0
theorem cmp3_lt {x y : Int} (h : cmp3 x y < 0) : x < y := by
 unfold cmp3 at h
 split at h
 ·assumption
 split at h <;> omega
theorem cmp3_neg {x y : Int} (h : x < y) : cmp3 x y < 0 := by
 unfold cmp3
 rw [if_pos h]
 decide
theorem cmp3_eq (x y : Int) : decide (cmp3 x y = 0) = decide (x = y) := by
 unfold cmp3
 by_cases h1 : x < y
 ·simp [h1]; omega
 by_cases h2 : y < x
 ·simp [h1, h2]; omega
 simp [h1, h2]; omega
def bsF (f : Nat → Itm) (key : Int) (lo hi : Nat) : Nat :=
 if h : lo < hi then (if (f ((lo + hi) / 2)).key < key then bsF f key ((lo + hi) / 2 + 1) hi else bsF f key lo ((lo + hi) / 2)) else lo
termination_by hi - lo
decreasing_by all_goals omega
theorem bsF_end {f : Nat → Itm} {key : Int} {lo hi : Nat} (h : ¬ lo < hi) : bsF f key lo hi = lo := by rw [bsF, dif_neg h]
theorem bsF_up {f : Nat → Itm} {key : Int} {lo hi m : Nat} (h : lo < hi) (hm : m = (lo + hi) / 2) (hk : (f m).key < key) : bsF f key lo hi = bsF f key (m + 1) hi := by
 subst hm; conv => lhs; rw [bsF]
 rw [dif_pos h, if_pos hk]
theorem bsF_dn {f : Nat → Itm} {key : Int} {lo hi m : Nat} (h : lo < hi) (hm : m = (lo + hi) / 2) (hk : ¬ (f m).key < key) : bsF f key lo hi = bsF f key lo m := by
 subst hm; conv => lhs; rw [bsF]
 rw [dif_pos h, if_neg hk]
def hitF (f : Nat → Itm) (key : Int) (n p : Nat) : Bool := decide (p < n) && decide ((f p).key = key)
theorem half_ok (lo hi : Nat) (h : lo + hi < 1000000000) : IntKind.i64.wrap (stdShift .shr .u64 (IntKind.u64.wrap ((lo : Int) + (hi : Int))) 1) = (((lo + hi) / 2 : Nat) : Int) := by
 rw [wrap_u64 _ ⟨by omega, by omega⟩]
 have e : stdShift .shr .u64 ((lo : Int) + (hi : Int)) 1 = (((lo + hi) / 2 : Nat) : Int) := by
  have h1 := shr_u64 (v := (lo : Int) + (hi : Int)) ⟨by omega, by omega⟩ 1 (by decide)
  rw [show ((1 : Nat) : Int) = 1 from rfl] at h1
  rw [h1, show ((lo : Int) + (hi : Int)).toNat = lo + hi by omega]
 rw [e, wrap_in (by omega) (by omega)]
theorem enters153 : Enters Tryz.prog 153 := fun _ _ => by kernel_rfl
theorem nan_s (x : Int) : Spec Tryz.prog 153 [.int .u64 x] (fun _ => .bool .ff) := by
 intro m w hm hargs
 refine en 6 hm hargs Tryz.func153 fun B hB a0 hF => ?_
 refine wp_seq (rg hB TA_ok [0] [] [] hF fun X0 a0 w1 hF => ?_)
 refine wp_seq (rg hB TA_ok [2] [] [] hF fun X1 a0 w1 hF => ?_)
 refine wp_ret ((rsi hB TA_ok hF nAt (he := ?_)))
 subst hB; exact Sim.bool (by simp [BE.den, std, sC]; rfl)
theorem enters84 : Enters Tryz.prog 84 := fun _ _ => by kernel_rfl
theorem cmp_s (x y : Int) : Spec Tryz.prog 84 [.int .u64 x, .int .u64 y] (fun _ => .int .i64 (cmp3 x y)) := by
 intro m w hm hargs
 refine en 20 hm hargs Tryz.func84 fun B hB a0 hF => ?_
 refine wp_seq (rg hB TA_ok [0, 1] [] [] hF fun X0 a0 w1 hF => ?_)
 refine wp_seq (rg hB TA_ok [0, 1, 5] [] [(1, .r fun _ => .bool .ff)] hF (hob := ?hob) fun X1 a0 w1 hF => ?_)
 case hob =>
  intro X
  subst hB; exact ⟨⟨enters153, nan_s x⟩, trivial⟩
 refine wp_seq (rg hB TA_ok [0, 1, 5, 6] [] [(1, .r fun _ => .bool .ff)] hF (hob := ?hob) fun X2 a0 w1 hF => ?_)
 case hob =>
  intro X
  subst hB; exact ⟨⟨enters153, nan_s y⟩, trivial⟩
 refine wp_seq (wp_seq (rg hB TA_ok [11, 0, 1, 6] [] [] hF fun X3 a0 w1 hF => ?_))
 refine test_ff hF rfl (fun hF => ?_)
 refine wp_skip (wp_seq (wp_seq (rg hB TA_ok [13, 0, 1] [] [] hF fun X7 a0 w1 hF => ?_)))
 refine test_ff hF rfl (fun hF => ?_)
 refine wp_skip (wp_seq (wp_seq (rg hB TA_ok [16, 0, 1] [] [] hF fun X9 a0 w1 hF => ?_)))
 apply test_ok hF rfl <;> intro hb hF
 ·have h1 : x < y := by subst hB; simpa [std, sC] using hb
  refine wp_seq (rg hB TA_ok [4] [] [] hF fun X10 a0 w1 hF => ?_)
  refine wp_ret ((rsp hB TA_ok hF nAt (he := ?_)).1)
  simp only [cmp3, h1, if_true]; rfl
 have h1 : ¬ x < y := by subst hB; simpa [std, sC] using hb
 refine wp_skip (wp_seq (wp_seq (rg hB TA_ok [19] [] [] hF fun X11 a0 w1 hF => ?_)))
 apply test_ok hF rfl <;> intro hb hF
 ·have h2 : y < x := by subst hB; simpa [std, sC] using hb
  refine wp_seq (rg hB TA_ok [4] [] [] hF fun X12 a0 w1 hF => ?_)
  refine wp_ret ((rsp hB TA_ok hF nAt (he := ?_)).1)
  simp only [cmp3, h1, h2, if_true, if_false]; rfl
 have h2 : ¬ y < x := by subst hB; simpa [std, sC] using hb
 refine wp_skip (wp_seq (rg hB TA_ok [4] [] [] hF fun X13 a0 w1 hF => ?_))
 refine wp_ret ((rsp hB TA_ok hF nAt (he := ?_)).1)
 simp only [cmp3, h1, h2, if_false]; rfl
theorem enters243 : Enters Tryz.prog 243 := fun _ _ => by kernel_rfl
theorem at1_s (k : Int) (v : ByteArray) (y : Int) : Spec Tryz.prog 243 [.agg [.int .u64 k, .str v], .int .u64 y] (fun _ => .int .i64 (cmp3 k y)) := by
 intro m w hm hargs
 obtain ⟨c, hc⟩ := eqv (cmp3 k y)
 have S := cmp_s k y
 rw [← hc] at S
 refine en 9 hm hargs Tryz.func243 fun B hB a0 hF => ?_
 refine wp_seq (rg hB TA_ok [1, 2] [2] [] hF fun X0 a0 w1 hF => ?_)
 refine wp_seq (rg hB TA_ok [4] [] [(3, .r fun _ => .int .i64 c)] hF (hob := ?hob) fun X1 a0 w1 hF => ?_)
 case hob =>
  intro X
  subst hB; first | exact ⟨⟨enters84, S⟩, trivial⟩ | exact ⟨rfl, ⟨enters84, S⟩, trivial⟩
 refine wp_ret ((rsp hB TA_ok hF nAt (he := ?_)).1)
 rw [hc]; rfl
theorem enters242 : Enters Tryz.prog 242 := fun _ _ => by kernel_rfl
theorem bs_s (A : Option Addr) (n c : Nat) (f : Nat → Itm) (hn : n ≤ 1000000) (key : Int) : Spec Tryz.prog 242 [rowI A n c f, .int .u64 key, .fn 243 [] []] (fun _ => .tup [.int .i64 (bsF f key 0 n : Nat), .bool (.v (hitF f key n (bsF f key 0 n)))]) := by
 intro m w hm hargs
 have hmx : maxLen = 9223372036854775807 := rfl
 unfold rowI at hargs
 try unfold rowI
 refine en 49 hm hargs Tryz.func242 fun B hB a0 hF => ?_
 refine wp_seq (rg hB TA_ok [0, 1, 2] [] [] hF fun X0 a0 w1 hF => ?_)
 refine wp_seq (rg hB TA_ok [8, 0, 1, 2] [] [] hF fun X1 a0 w1 hF => ?_)
 replace hF := hF.head (v' := .int .i64 (n : Int)) (by subst hB; rfl)
 refine wp_seq (rg hB TA_ok [9, 10, 0, 1, 2, 8] [] [] hF fun X2 a0 w1 hF => ?_)
 refine wp_seq (wp_block (loop_pre (ι := Nat × Nat) (fun p => [(9, .int .i64 (p.1 : Int)), (10, .int .i64 (p.2 : Int))]) (fun p => []) (fun p => []) (fun p => p.1 ≤ p.2 ∧ p.2 ≤ n ∧ bsF f key p.1 p.2 = bsF f key 0 n) (fun p => p.2 - p.1) (0, n) ⟨Nat.zero_le _, Nat.le_refl _, rfl⟩ hF ?_))
 rintro ⟨lo, hi⟩ ⟨hlh, hhn, hbs⟩ a0 w1 hF
 try dsimp only at hlh
 try dsimp only at hhn
 try dsimp only at hbs
 refine wp_seq (wp_seq (rg hB TA_ok [17, 9, 10, 0, 1, 2, 8] [] [] hF fun X3 a0 w1 hF => ?_))
 apply test_ok hF rfl <;> intro hb hF
 ·have hlt : lo < hi := by
   have : (lo : Int) < (hi : Int) := by subst hB; simpa [std, sC] using hb
   omega
  refine wp_skip (wp_block (wp_seq (rg hB TA_ok [11, 9, 10, 0, 1, 2, 8] [] [] hF fun X4 a0 w1 hF => ?_)))
  obtain ⟨m, hm⟩ : ∃ m : Nat, m = (lo + hi) / 2 := ⟨_, rfl⟩
  have hmlo : lo ≤ m ∧ m < hi := by omega
  replace hF := hF.head (v' := .int .i64 (m : Int)) (by
   subst hB
   show AV.int .i64 (IntKind.i64.wrap (stdShift .shr .u64 (IntKind.u64.wrap (IntKind.i64.wrap ((lo : Int) + (hi : Int)))) 1)) = _
   rw [wrap_in (x := (lo : Int) + (hi : Int)) (by omega) (by omega), half_ok lo hi (by omega), hm])
  obtain ⟨cv, hcv⟩ := eqv (cmp3 (f m).key key)
  have S1 := at1_s (f m).key (f m).val key
  rw [← hcv] at S1
  refine wp_seq (rg hB TA_ok [31, 11, 9, 10, 0, 1, 2, 8] [] [(6, .r fun _ => .int .i64 cv)] hF (hob := ?hob) fun X5 a0 w1 hF => ?_)
  case hob =>
   intro X
   subst hB
   refine ⟨⟨?_, ?_⟩, ⟨enters243, ?_⟩, trivial⟩
   ·show (0 : Int) ≤ (m : Int); omega
   ·show (m : Int) < (n : Int); omega
   exact S1
  apply test_ok hF rfl <;> intro hb hF
  ·have hlt2 : (f m).key < key := by
    have h9 : cv < 0 := by subst hB; simpa [std, sC] using hb
    rw [hcv] at h9
    exact cmp3_lt h9
   have e : B.arith .add .i64 (m : Int) 1 = ((m + 1 : Nat) : Int) := by subst hB; exact wrap_succ (n := n) (by omega) (by omega)
   refine rg hB TA_ok [9, 10, 0, 1, 2, 8] [] [] hF fun X6 a0 w1 hF => ?_
   refine ⟨(m + 1, hi), ⟨by simp only; omega, hhn, ?_⟩, by simp only; omega, by rw [← e]; exact hF⟩
   exact (bsF_up hlt hm hlt2).symm.trans hbs
  have hlt2 : ¬ (f m).key < key := by
   have h9 : ¬ cv < 0 := by subst hB; simpa [std, sC] using hb
   rw [hcv] at h9
   exact fun h => h9 (cmp3_neg h)
  refine rg hB TA_ok [9, 10, 0, 1, 2, 8] [] [] hF fun X7 a0 w1 hF => ?_
  refine ⟨(lo, m), ⟨by simp only; omega, by simp only; omega, ?_⟩, by simp only; omega, hF⟩
  exact (bsF_dn hlt hm hlt2).symm.trans hbs
 have hge : ¬ lo < hi := by
  have : ¬ (lo : Int) < (hi : Int) := by subst hB; simpa [std, sC] using hb
  omega
 have hlo : lo = bsF f key 0 n := by rw [← hbs, bsF_end hge]
 obtain ⟨cv, hcv⟩ := eqv (cmp3 (f lo).key key)
 have S2 := at1_s (f lo).key (f lo).val key
 rw [← hcv] at S2
 refine wp_exit (wp_seq (rg hB TA_ok [6, 7] [] [(11, .r fun _ => .int .i64 cv)] hF (hob := ?hob) fun X8 a0 w1 hF => ?_))
 case hob =>
  intro X
  subst hB
  simp only [AO, Ob.holds, BE.den, List.mem_cons, List.not_mem_nil, or_false, forall_eq_or_imp, forall_eq]
  and_intros <;> first | trivial | (intro h; first | trivial | exact ⟨enters243, S2⟩ | (have h2 : (lo : Int) < (n : Int) := of_decide_eq_true h; exact ⟨Int.natCast_nonneg _, h2⟩))
 refine wp_ret ((rsi hB TA_ok hF nAt (he := ?_)))
 subst hB
 rw [← hlo]
 refine Sim.tup ⟨zr, Sim.bool ?_, trivial⟩
 show (if decide ((lo : Int) < (n : Int)) = true then decide (cv = 0) else false) = hitF f key n lo
 unfold hitF
 rw [hcv]
 by_cases h : lo < n
 ·have h1 : (lo : Int) < (n : Int) := by omega
  rw [if_pos (by simpa using h1)]
  simp only [h, decide_true, Bool.true_and]
  exact cmp3_eq _ _
 have h1 : ¬ (lo : Int) < (n : Int) := by omega
 rw [if_neg (by simpa using h1)]
 simp [h]
theorem enters213 : Enters Tryz.prog 213 := fun _ _ => by kernel_rfl
theorem at_s (A : Option Addr) (n c : Nat) (f : Nat → Itm) (hn : n ≤ 1000000) (key : Int) : Spec Tryz.prog 213 [rowI A n c f, .int .u64 key] (fun _ => .tup [.int .i64 (bsF f key 0 n : Nat), .bool (.v (hitF f key n (bsF f key 0 n)))]) := by
 intro m w hm hargs
 have S := bs_s A n c f hn key
 unfold rowI at S hargs ⊢
 generalize hitF f key n (bsF f key 0 n) = hh at S ⊢
 generalize bsF f key 0 n = p at S ⊢
 refine en 11 hm hargs Tryz.func213 fun B hB a0 hF => ?_
 refine wp_seq (rg hB TA_ok [0, 1] [] [] hF fun X0 a0 w1 hF => ?_)
 refine wp_seq (rg hB TA_ok [4, 5] [] [(2, .r fun _ => .tup [.int .i64 (p : Int), .bool (.v hh)])] hF (hob := ?hob) fun X1 a0 w1 hF => ?_)
 case hob =>
  intro X
  subst hB; exact ⟨⟨enters242, S⟩, trivial⟩
 exact wp_ret ((rsp hB TA_ok hF nAt).1)
def chE (l : Lab) (b : Int) : Int := if isL l = false then 1 else if l.len = 64 then 5 else 0
def chV (l : Lab) (b : Int) : Lab := if chE l b = 0 then childL l b else ⟨0, 0⟩
theorem shl_bit {n : Int} (h0 : 0 ≤ n) (h1 : n < 64) : stdShift .shl .u64 1 (IntKind.i64.wrap (63 - n)) = ((2 ^ (63 - n.toNat) : Nat) : Int) := by
 rw [wrap_in (by omega) (by omega)]
 show IntKind.u64.wrap (1 * (2 : Int) ^ (min (63 - n).toNat 64)) = _
 rw [Nat.min_eq_left (by omega), Int.one_mul, show (63 - n).toNat = 63 - n.toNat by omega, show (2 : Int) ^ (63 - n.toNat) = ((2 ^ (63 - n.toNat) : Nat) : Int) by simp, wrap_u64n]
 have : 2 ^ (63 - n.toNat) ≤ 2 ^ 63 := Nat.pow_le_pow_right (by decide) (by omega)
 rw [Nat.mod_eq_of_lt (by omega)]
theorem or_child {l : Lab} (hl : isL l = true) (hb : U64 l.bits) (h64 : l.len ≠ 64) : sAr .or .u64 l.bits ((2 ^ (63 - l.len.toNat) : Nat) : Int) = l.bits + ((2 ^ (63 - l.len.toNat) : Nat) : Int) := by
 obtain ⟨q, h1, h2⟩ := lab_mul hl hb h64
 obtain ⟨h3, h4, h5⟩ := lab_parts hl
 have hn : l.len.toNat < 64 := by omega
 have hp : 0 < 2 ^ (63 - l.len.toNat) := Nat.pow_pos (by decide)
 rw [h1]
 rw [or_u64 (a := q * (2 * 2 ^ (63 - l.len.toNat))) (b := 2 ^ (63 - l.len.toNat)) (k := 64 - l.len.toNat) (by rw [half_pow hn]; exact Nat.mul_mod_left _ _) (by rw [half_pow hn]; omega) (by omega)]
 exact Int.natCast_add _ _
theorem lab_of_guard {l : Lab} {il : Bool} (hil : il = isL l) (h : ∀ e ∈ [((BE.v il : BE), true)], e.1.den = e.2) : 0 ≤ l.len ∧ l.len ≤ 64 := by
 have hl : il = true := h _ (List.mem_singleton.2 rfl)
 obtain ⟨a, b, _⟩ := lab_parts (l := l) (by rw [← hil]; exact hl)
 exact ⟨a, b⟩
theorem enters225 : Enters Tryz.prog 225 := fun _ _ => by kernel_rfl
theorem bit_s (n : Int) (h0 : 0 ≤ n) (h1 : n < 64) : Spec Tryz.prog 225 [.int .i64 n] (fun _ => .int .u64 ((2 ^ (63 - n.toNat) : Nat) : Int)) := by
 intro m w hm hargs
 refine en 6 hm hargs Tryz.func225 fun B hB a0 hF => ?_
 refine wp_seq (rg hB TA_ok [0] [] [] hF fun X0 a0 w1 hF => ?_)
 refine wp_seq (rg hB TA_ok [2] [] [] hF (hob := ?hob) fun X1 a0 w1 hF => ?_)
 case hob =>
  intro X
  subst hB
  refine ⟨?_, trivial⟩
  show 0 ≤ IntKind.i64.wrap (63 - n)
  rw [wrap_in (by omega) (by omega)]; omega
 refine wp_ret ((rsi hB TA_ok hF nAt (he := ?_)))
 subst hB
 rw [← shl_bit h0 h1]
 exact zr
theorem enters170 : Enters Tryz.prog 170 := fun _ _ => by kernel_rfl
theorem child_s (l : Lab) (hb0 : U64 l.bits) (b : Int) (hb01 : b = 0 ∨ b = 1) : Spec Tryz.prog 170 [labAV l, .int .i64 b] (fun _ => .tup [labAV (chV l b), .int .i64 (chE l b)]) := by
 intro m w hm hargs
 have SI := isL_s l hb0
 simp only [labAV] at SI hargs ⊢
 obtain ⟨il, hil⟩ := eqv (isL l)
 rw [← hil] at SI
 refine en 38 hm hargs Tryz.func170 fun B hB a0 hF => ?_
 refine wp_seq (rg hB TA_ok [1, 2, 4] [2, 4] [] hF fun X0 a0 w1 hF => ?_)
 refine wp_seq (wp_block (wp_seq (rg hB TA_ok [6, 1, 2, 4] [2, 4] [(1, .r fun _ => .bool (.v il))] hF (hob := ?hob) fun X1 a0 w1 hF => ?_)))
 case hob =>
  intro X
  subst hB
  repeat (first | exact trivial | refine ⟨rfl, ?_⟩ | refine ⟨fun _ => rfl, ?_⟩ | refine ⟨ob_lab (Kk := noK) _ _ _ _, ?_⟩ | refine ⟨fun _ => ob_lab (Kk := noK) _ _ _ _, ?_⟩ | refine ⟨⟨enters44, SI⟩, ?_⟩ | refine ⟨fun _ => ⟨enters44, SI⟩, ?_⟩)
 apply test_ok hF rfl <;> intro hb hF
 ·have h9 : (if (if (!il) = true then true else decide (b < 0)) = true then true else decide (b > 1)) = true := by subst hB; exact hb
  have hilf : il = false := by rcases hb01 with rfl | rfl <;> cases il <;> first | rfl | (simp at h9)
  have hE : chE l b = 1 := by unfold chE; rw [← hil, hilf]; rfl
  have hV : chV l b = ⟨0, 0⟩ := by unfold chV; rw [hE]; rfl
  refine wp_seq (rg hB TA_ok [4, 5] [4] [] hF (hob := ?hob) fun X2 a0 w1 hF => ?_)
  case hob =>
   intro X
   subst hB
   repeat (first | exact trivial | refine ⟨rfl, ?_⟩ | refine ⟨fun _ => rfl, ?_⟩ | refine ⟨ob_lab (Kk := noK) _ _ _ _, ?_⟩ | refine ⟨fun _ => ob_lab (Kk := noK) _ _ _ _, ?_⟩)
  refine wp_ret ((rsi hB TA_ok hF nAt (he := ?_)))
  subst hB
  rw [hV, hE]
  exact zr
 have h9 : (if (if (!il) = true then true else decide (b < 0)) = true then true else decide (b > 1)) = false := by subst hB; exact hb
 have hilt : il = true := by cases il <;> first | rfl | (simp at h9)
 have hLt : isL l = true := by rw [← hil]; exact hilt
 obtain ⟨hl0, hl1, hl2⟩ := lab_parts hLt
 refine wp_seq (rg hB TA_ok [19, 1, 2, 4] [2, 4] [] hF (hob := ?hob) fun X3 a0 w1 hF => ?_)
 case hob =>
  intro X
  subst hB
  repeat (first | exact trivial | refine ⟨rfl, ?_⟩ | refine ⟨fun _ => rfl, ?_⟩ | refine ⟨ob_lab (Kk := noK) _ _ _ _, ?_⟩ | refine ⟨fun _ => ob_lab (Kk := noK) _ _ _ _, ?_⟩)
 apply test_ok hF rfl <;> intro hb hF
 ·have h64 : l.len = 64 := by subst hB; simpa [std, sC] using hb
  have hE : chE l b = 5 := by unfold chE; rw [← hil, hilt, if_neg (by decide), if_pos h64]
  have hV : chV l b = ⟨0, 0⟩ := by unfold chV; rw [hE]; rfl
  refine wp_seq (rg hB TA_ok [4, 5] [4] [] hF (hob := ?hob) fun X4 a0 w1 hF => ?_)
  case hob =>
   intro X
   subst hB
   repeat (first | exact trivial | refine ⟨rfl, ?_⟩ | refine ⟨fun _ => rfl, ?_⟩ | refine ⟨ob_lab (Kk := noK) _ _ _ _, ?_⟩ | refine ⟨fun _ => ob_lab (Kk := noK) _ _ _ _, ?_⟩)
  refine wp_ret ((rsi hB TA_ok hF nAt (he := ?_)))
  subst hB
  rw [hV, hE]
  exact zr
 have h64 : l.len ≠ 64 := by subst hB; simpa [std, sC] using hb
 have hE : chE l b = 0 := by unfold chE; rw [← hil, hilt, if_neg (by decide), if_neg h64]
 have hV : chV l b = childL l b := by unfold chV; rw [hE]; rfl
 refine wp_skip (wp_seq (wp_seq (rg hB TA_ok [25, 2, 4] [2, 4] [] hF fun X5 a0 w1 hF => ?_)))
 refine cut_one (ι := Int) (S0 := [(25, _)]) (M0 := [(2, _)]) (G0 := []) (fun p => []) (fun p => [(2, ⟨(X0 0).b, 24, [.int .i64 l.len, .int .u64 p]⟩)]) (fun p => []) (fun p => p = (childL l b).bits) hF ?_ ?_
 ·apply test_ok hF rfl <;> intro hb hF
  ·have hb1 : b = 1 := by subst hB; simpa [std, sC] using hb
   have SB := bit_s l.len hl0 (by omega)
   obtain ⟨bt, hbt⟩ := eqv (((2 ^ (63 - l.len.toNat) : Nat) : Int))
   rw [← hbt] at SB
   have hor : sAr .or .u64 l.bits bt = l.bits + bt := by rw [hbt]; exact or_child hLt hb0 h64
   refine drg hB TA_ok [2, 4] [2, 4] [(4, .r fun _ => .int .u64 bt)] hF (hob := ?hob) fun X6 a0 w1 hF => ?_
   case hob =>
    intro X
    subst hB
    repeat (first | exact trivial | refine ⟨rfl, ?_⟩ | refine ⟨fun _ => rfl, ?_⟩ | refine ⟨ob_lab (Kk := noK) _ _ _ _, ?_⟩ | refine ⟨fun _ => ob_lab (Kk := noK) _ _ _ _, ?_⟩ | refine ⟨⟨enters225, SB⟩, ?_⟩ | refine ⟨fun _ => ⟨enters225, SB⟩, ?_⟩)
   refine ⟨(childL l b).bits, rfl, ?_⟩
   have e : (childL l b).bits = B.arith .or .u64 l.bits bt := by
    subst hB
    show _ = sAr .or .u64 l.bits bt
    rw [hor, hb1, hbt]; rfl
   rw [e]; exact hF
  have hb1 : b = 0 := by
   have : ¬ b = 1 := by subst hB; simpa [std, sC] using hb
   exact hb01.resolve_right this
  exact wp_skip (⟨(childL l b).bits, rfl, by rw [hb1]; exact hF⟩)
 rintro bb hbb a0 w1 hF
 try dsimp only at hbb
 refine wp_seq (rg hB TA_ok [2, 4] [2, 4] [] hF (hob := ?hob) fun X7 a0 w1 hF => ?_)
 case hob =>
  intro X
  subst hB
  repeat (first | exact trivial | refine ⟨rfl, ?_⟩ | refine ⟨fun _ => rfl, ?_⟩ | refine ⟨ob_lab (Kk := noK) _ _ _ _, ?_⟩ | refine ⟨fun _ => ob_lab (Kk := noK) _ _ _ _, ?_⟩)
 refine wp_seq (rg hB TA_ok [4, 5] [4] [] hF (hob := ?hob) fun X8 a0 w1 hF => ?_)
 case hob =>
  intro X
  subst hB
  repeat (first | exact trivial | refine ⟨rfl, ?_⟩ | refine ⟨fun _ => rfl, ?_⟩ | refine ⟨ob_lab (Kk := noK) _ _ _ _, ?_⟩ | refine ⟨fun _ => ob_lab (Kk := noK) _ _ _ _, ?_⟩)
 refine wp_ret ((rsi hB TA_ok hF nAt (he := ?_)))
 subst hB
 rw [hV, hE]
 have e1 : IntKind.i64.wrap (l.len + 1) = l.len + 1 := wrap_in (by omega) (by omega)
 refine Sim.tup ⟨Sim.agg ⟨?_, ?_, trivial⟩, zr, trivial⟩
 ·show Sim (.int .i64 (IntKind.i64.wrap (l.len + 1))) _
  rw [e1]; exact zr
 rw [hbb]; exact zr
theorem enters171 : Enters Tryz.prog 171 := fun _ _ => by kernel_rfl
theorem cov_s (l : Lab) (hb0 : U64 l.bits) (key : Int) (hk : U64 key) : Spec Tryz.prog 171 [labAV l, .int .u64 key] (fun _ => .bool (.v (coverB l key))) := by
 intro m w hm hargs
 have SI := isL_s l hb0
 have SH := fun h0 h1 => head_s key l.len hk h0 h1
 simp only [labAV] at SI hargs
 unfold coverB
 obtain ⟨il, hil⟩ := eqv (isL l)
 rw [← hil] at SI ⊢
 obtain ⟨hd, hhd⟩ := eqv (((headN key.toNat l.len.toNat : Nat) : Int))
 rw [← hhd]
 simp only [← hhd] at SH
 refine en 16 hm hargs Tryz.func171 fun B hB a0 hF => ?_
 refine wp_seq (rg hB TA_ok [1, 2] [2] [] hF fun X0 a0 w1 hF => ?_)
 refine wp_seq (drg hB TA_ok [4] [] [(1, .r fun _ => .bool (.v il)), (6, .r fun _ => .int .u64 hd)] hF (hob := ?hob) fun X1 a0 w1 hF => ?_)
 case hob =>
  intro X
  subst hB
  repeat (first | exact trivial | refine ⟨rfl, ?_⟩ | refine ⟨fun _ => rfl, ?_⟩ | refine ⟨⟨enters44, SI⟩, ?_⟩ | refine ⟨fun h => ⟨enters87, SH (lab_of_guard hil h).1 (lab_of_guard hil h).2⟩, ?_⟩)
 refine wp_ret ((rsi hB TA_ok hF nAt (he := ?_)))
 subst hB
 exact Sim.bool (by show (if il = true then decide (hd = l.bits) else false) = _; rw [ite_and]; rfl)
theorem enters186 : Enters Tryz.prog 186 := fun _ _ => by kernel_rfl
theorem rbits_s (l : Lab) (hb0 : U64 l.bits) (h0 : 0 ≤ l.len) (h1 : l.len ≤ 64) : Spec Tryz.prog 186 [labAV l] (fun _ => .str (mkB (digs l.bits l.len.toNat))) := by
 intro m w hm hargs
 have SB := bits_s l.bits hb0
 have hz : (mkB (lowB 64 l.bits.toNat)).size = 64 := by rw [mk_size, lowB_len]
 have he : mkB (digs l.bits l.len.toNat) = (mkB (lowB 64 l.bits.toNat)).extract 0 l.len.toNat := by rw [mk_extract, List.drop_zero]; rfl
 rw [he]
 simp only [labAV] at hargs
 generalize mkB (lowB 64 l.bits.toNat) = bs at SB hz ⊢
 refine en 9 hm hargs Tryz.func186 fun B hB a0 hF => ?_
 refine wp_seq (rg hB TA_ok [1] [1] [] hF fun X0 a0 w1 hF => ?_)
 refine wp_seq (drg hB TA_ok [2] [] [(2, .r fun _ => .str bs)] hF (hob := ?hob) fun X1 a0 w1 hF => ?_)
 case hob =>
  intro X
  subst hB
  repeat (first | exact trivial | refine ⟨rfl, ?_⟩ | refine ⟨⟨enters202, SB⟩, ?_⟩ | refine ⟨⟨by decide, h0, by show l.len ≤ (bs.size : Int); rw [hz]; exact h1⟩, ?_⟩)
 exact wp_ret ((rsp hB TA_ok hF nAt).1)
theorem enters183 : Enters Tryz.prog 183 := fun _ _ => by kernel_rfl
theorem rcov_s (l : Lab) (hb0 : U64 l.bits) (key : Int) (hk : U64 key) : Spec Tryz.prog 183 [labAV l, .int .u64 key] (fun _ => .bool (.v (coverB l key))) := by
 intro m w hm hargs
 have SI := risL_s l hb0
 have SD := fun h0 h1 => rbits_s l hb0 h0 h1
 have SB := bits_s key hk
 have hz : (mkB (lowB 64 key.toNat)).size = 64 := by rw [mk_size, lowB_len]
 have hct := fun hl => cov_text (l := l) hl hb0 hk
 have he : mkB (digs key l.len.toNat) = (mkB (lowB 64 key.toNat)).extract 0 l.len.toNat := by rw [mk_extract, List.drop_zero]; rfl
 simp only [labAV] at SI hargs SD
 obtain ⟨il, hil⟩ := eqv (isL l)
 rw [← hil] at SI
 generalize mkB (lowB 64 key.toNat) = bs at SB hz he
 obtain ⟨d, hd⟩ := eqv (mkB (digs l.bits l.len.toNat))
 simp only [← hd] at SD
 refine en 17 hm hargs Tryz.func183 fun B hB a0 hF => ?_
 refine wp_seq (rg hB TA_ok [1, 2] [2] [] hF fun X0 a0 w1 hF => ?_)
 refine wp_seq (drg hB TA_ok [4] [] [(1, .r fun _ => .bool (.v il)), (4, .r fun _ => .str d), (6, .r fun _ => .str bs)] hF (hob := ?hob) fun X1 a0 w1 hF => ?_)
 case hob =>
  intro X
  subst hB
  repeat (first | exact trivial | refine ⟨rfl, ?_⟩ | refine ⟨fun _ => rfl, ?_⟩ | refine ⟨⟨enters148, SI⟩, ?_⟩ | refine ⟨fun _ => ⟨enters202, SB⟩, ?_⟩ | refine ⟨fun h => ⟨enters186, SD (lab_of_guard hil h).1 (lab_of_guard hil h).2⟩, ?_⟩ | refine ⟨fun h => ⟨by decide, (lab_of_guard hil h).1, by show l.len ≤ (bs.size : Int); rw [hz]; exact (lab_of_guard hil h).2⟩, ?_⟩)
 refine wp_ret ((rsi hB TA_ok hF nAt (he := ?_)))
 subst hB
 refine Sim.bool ?_
 show (if il = true then (d.toList == (bs.extract 0 l.len.toNat).toList) else false) = coverB l key
 cases hl : il with
 | false => rw [hl] at hil; unfold coverB; rw [← hil]; rfl
 | true =>
  rw [hl] at hil
  rw [if_pos rfl, eqB, hd, ← he, un_mk, un_mk]
  exact hct hil.symm
theorem enters136 : Enters Tryz.prog 136 := fun _ _ => by kernel_rfl
theorem rchild_s (l : Lab) (hb0 : U64 l.bits) (b : Int) (hb01 : b = 0 ∨ b = 1) : Spec Tryz.prog 136 [labAV l, .int .i64 b] (fun _ => .tup [labAV (chV l b), .int .i64 (chE l b)]) := by
 intro m w hm hargs
 have SI := risL_s l hb0
 simp only [labAV] at SI hargs ⊢
 obtain ⟨il, hil⟩ := eqv (isL l)
 rw [← hil] at SI
 refine en 32 hm hargs Tryz.func136 fun B hB a0 hF => ?_
 refine wp_seq (rg hB TA_ok [1, 2, 4] [2, 4] [] hF fun X0 a0 w1 hF => ?_)
 refine wp_seq (wp_seq (rg hB TA_ok [16, 1, 2, 4] [2, 4] [(1, .r fun _ => .bool (.v il))] hF (hob := ?hob) fun X1 a0 w1 hF => ?_))
 case hob =>
  intro X
  subst hB
  repeat (first | exact trivial | refine ⟨rfl, ?_⟩ | refine ⟨fun _ => rfl, ?_⟩ | refine ⟨ob_lab (Kk := noK) _ _ _ _, ?_⟩ | refine ⟨fun _ => ob_lab (Kk := noK) _ _ _ _, ?_⟩ | refine ⟨⟨enters148, SI⟩, ?_⟩ | refine ⟨fun _ => ⟨enters148, SI⟩, ?_⟩)
 apply test_ok hF rfl <;> intro hb hF
 ·have h9 : (if (if (!il) = true then true else decide (b < 0)) = true then true else decide (b > 1)) = true := by subst hB; exact hb
  have hilf : il = false := by rcases hb01 with rfl | rfl <;> cases il <;> first | rfl | (simp at h9)
  have hE : chE l b = 1 := by unfold chE; rw [← hil, hilf]; rfl
  have hV : chV l b = ⟨0, 0⟩ := by unfold chV; rw [hE]; rfl
  refine wp_seq (rg hB TA_ok [4, 5] [4] [] hF (hob := ?hob) fun X2 a0 w1 hF => ?_)
  case hob =>
   intro X
   subst hB
   repeat (first | exact trivial | refine ⟨rfl, ?_⟩ | refine ⟨fun _ => rfl, ?_⟩ | refine ⟨ob_lab (Kk := noK) _ _ _ _, ?_⟩ | refine ⟨fun _ => ob_lab (Kk := noK) _ _ _ _, ?_⟩)
  refine wp_ret ((rsi hB TA_ok hF nAt (he := ?_)))
  subst hB
  rw [hV, hE]
  exact zr
 have h9 : (if (if (!il) = true then true else decide (b < 0)) = true then true else decide (b > 1)) = false := by subst hB; exact hb
 have hilt : il = true := by cases il <;> first | rfl | (simp at h9)
 have hLt : isL l = true := by rw [← hil]; exact hilt
 obtain ⟨hl0, hl1, hl2⟩ := lab_parts hLt
 refine wp_skip (wp_seq (wp_seq (rg hB TA_ok [20, 1, 2, 4] [2, 4] [] hF fun X3 a0 w1 hF => ?_)))
 apply test_ok hF rfl <;> intro hb hF
 ·have h64 : l.len = 64 := by subst hB; simpa [std, sC] using hb
  have hE : chE l b = 5 := by unfold chE; rw [← hil, hilt, if_neg (by decide), if_pos h64]
  have hV : chV l b = ⟨0, 0⟩ := by unfold chV; rw [hE]; rfl
  refine wp_seq (rg hB TA_ok [4, 5] [4] [] hF (hob := ?hob) fun X4 a0 w1 hF => ?_)
  case hob =>
   intro X
   subst hB
   repeat (first | exact trivial | refine ⟨rfl, ?_⟩ | refine ⟨fun _ => rfl, ?_⟩ | refine ⟨ob_lab (Kk := noK) _ _ _ _, ?_⟩ | refine ⟨fun _ => ob_lab (Kk := noK) _ _ _ _, ?_⟩)
  refine wp_ret ((rsi hB TA_ok hF nAt (he := ?_)))
  subst hB
  rw [hV, hE]
  exact zr
 have h64 : l.len ≠ 64 := by subst hB; simpa [std, sC] using hb
 have hE : chE l b = 0 := by unfold chE; rw [← hil, hilt, if_neg (by decide), if_neg h64]
 have hV : chV l b = childL l b := by unfold chV; rw [hE]; rfl
 refine wp_skip (wp_seq (wp_seq (rg hB TA_ok [23, 2, 4] [2, 4] [] hF fun X5 a0 w1 hF => ?_)))
 apply test_ok hF rfl <;> intro hb hF
 ·have hb1 : b = 0 := by subst hB; simpa [std, sC] using hb
  have SD := rbits_s l hb0 hl0 hl1
  simp only [labAV] at SD
  obtain ⟨d, hd⟩ := eqv (mkB (digs l.bits l.len.toNat))
  rw [← hd] at SD
  have hds : d.size = l.len.toNat := by rw [hd, mk_size]; exact digs_len _ (by omega)
  have hdt : unB (d ++ ⟨#[48]⟩) = digs l.bits l.len.toNat ++ [48] := by rw [un_append, hd, un_mk]; rfl
  have hsz : (d ++ ⟨#[48]⟩ : ByteArray).size = l.len.toNat + 1 := by rw [← un_size, hdt, List.length_append, digs_len _ (by omega)]; rfl
  have SO := of_s (d ++ ⟨#[48]⟩) (fun x hx => by rw [hdt] at hx; rcases List.mem_append.1 hx with hx | hx; exact digs_mem x hx; rw [List.mem_singleton.1 hx]; decide) (by omega)
  obtain ⟨k, hk⟩ := eqv (ofT (d ++ ⟨#[48]⟩))
  rw [← hk] at SO
  simp only [labAV] at SO
  have hkl : k = childL l b := by
   have ht := child_text hLt hb0 h64 b hb01
   have hu := child_u hLt hb0 h64 b
   rw [hk]; unfold ofT; rw [hdt, hsz]
   have e1 : (childL l b).len = l.len + 1 := rfl
   have e2 : ∀ k : Lab, k = ⟨k.len, k.bits⟩ := fun k => rfl
   rw [e2 (childL l b), e1]
   congr 1
   ·omega
   have h0 := hu.1
   have e3 : (if b = 1 then (49 : UInt8) else 48) = 48 := by rw [hb1]; rfl
   rw [e3] at ht
   rw [ht]; omega
  refine wp_seq (rg hB TA_ok [4, 5] [4] [(1, .r fun _ => .str d), (3, .r fun _ => .agg [.int .i64 k.len, .int .u64 k.bits])] hF (hob := ?hob) fun X6 a0 w1 hF => ?_)
  case hob =>
   intro X
   subst hB
   repeat (first | exact trivial | refine ⟨(show d.size + 1 ≤ maxLen by simp only [maxLen]; omega), ?_⟩ | refine ⟨rfl, ?_⟩ | refine ⟨⟨enters186, SD⟩, ?_⟩ | refine ⟨⟨enters196, SO⟩, ?_⟩)
  refine wp_ret ((rsi hB TA_ok hF nAt (he := ?_)))
  subst hB
  rw [hV, hE, ← hkl]
  exact zr
 have hb1 : b = 1 := by
  have : ¬ b = 0 := by subst hB; simpa [std, sC] using hb
  exact hb01.resolve_left this
 have SD := rbits_s l hb0 hl0 hl1
 simp only [labAV] at SD
 obtain ⟨d, hd⟩ := eqv (mkB (digs l.bits l.len.toNat))
 rw [← hd] at SD
 have hds : d.size = l.len.toNat := by rw [hd, mk_size]; exact digs_len _ (by omega)
 have hdt : unB (d ++ ⟨#[49]⟩) = digs l.bits l.len.toNat ++ [49] := by rw [un_append, hd, un_mk]; rfl
 have hsz : (d ++ ⟨#[49]⟩ : ByteArray).size = l.len.toNat + 1 := by rw [← un_size, hdt, List.length_append, digs_len _ (by omega)]; rfl
 have SO := of_s (d ++ ⟨#[49]⟩) (fun x hx => by rw [hdt] at hx; rcases List.mem_append.1 hx with hx | hx; exact digs_mem x hx; rw [List.mem_singleton.1 hx]; decide) (by omega)
 obtain ⟨k, hk⟩ := eqv (ofT (d ++ ⟨#[49]⟩))
 rw [← hk] at SO
 simp only [labAV] at SO
 have hkl : k = childL l b := by
  have ht := child_text hLt hb0 h64 b hb01
  have hu := child_u hLt hb0 h64 b
  rw [hk]; unfold ofT; rw [hdt, hsz]
  have e1 : (childL l b).len = l.len + 1 := rfl
  have e2 : ∀ k : Lab, k = ⟨k.len, k.bits⟩ := fun k => rfl
  rw [e2 (childL l b), e1]
  congr 1
  ·omega
  have h0 := hu.1
  have e3 : (if b = 1 then (49 : UInt8) else 48) = 49 := by rw [hb1]; rfl
  rw [e3] at ht
  rw [ht]; omega
 refine wp_skip (wp_seq (rg hB TA_ok [4, 5] [4] [(1, .r fun _ => .str d), (3, .r fun _ => .agg [.int .i64 k.len, .int .u64 k.bits])] hF (hob := ?hob) fun X7 a0 w1 hF => ?_))
 case hob =>
  intro X
  subst hB
  repeat (first | exact trivial | refine ⟨(show d.size + 1 ≤ maxLen by simp only [maxLen]; omega), ?_⟩ | refine ⟨rfl, ?_⟩ | refine ⟨⟨enters186, SD⟩, ?_⟩ | refine ⟨⟨enters196, SO⟩, ?_⟩)
 refine wp_ret ((rsi hB TA_ok hF nAt (he := ?_)))
 subst hB
 rw [hV, hE, ← hkl]
 exact zr
structure Nt where
 code : Int
 had : Bool
 val : ByteArray
structure Rsl where
 code : Int
 had : Bool
 val : ByteArray
 items : List Itm
 key : Int
 more : Bool
deriving DecidableEq
def zRsl : Rsl := ⟨0, false, ⟨#[]⟩, [], 0, false⟩
structure Wq where
 kind : Int
 lab : Lab
 ver : Int
 r : Rec
 res : Rsl
deriving DecidableEq
def zWq : Wq := ⟨0, ⟨0, 0⟩, 0, zeroRec, zRsl⟩
structure Pst where
 n : Nat
 g : Nat → GotA
 note : Nt
def Pst.tl (p : Pst) : Pst := ⟨p.n - 1, fun j => p.g (j + 1), p.note⟩
inductive Rs (α : Type) where
 | ok (a : α) (p : Pst)
 | stop (w : Wq) (p : Pst)
def Rs.bind {α β : Type} (m : Rs α) (f : α → Pst → Rs β) : Rs β := match m with
 | .ok a p => f a p
 | .stop w p => .stop w p
def overW (p : Pst) : Wq := ⟨4, ⟨0, 0⟩, 0, zeroRec, ⟨p.note.code, p.note.had, p.note.val, [], 0, false⟩⟩
def askM (k : Int) (w : Wq) (p : Pst) : Rs GotA := if 0 < p.n ∧ 0 < (p.n : Int) + k then .ok (p.g 0) p.tl else .stop (if (p.n : Int) + k ≤ 0 then overW p else w) p
def getM (k : Int) (l : Lab) (p : Pst) : Rs GotA := askM k ⟨1, l, 0, zeroRec, zRsl⟩ p
def casM (k : Int) (l : Lab) (v : Int) (r : Rec) (p : Pst) : Rs Bool := (askM k ⟨2, l, v, r, zRsl⟩ p).bind fun g p => .ok (decide (g.code = 0)) p
def drpM (k : Int) (l : Lab) (v : Int) (p : Pst) : Rs Bool := (askM k ⟨3, l, v, zeroRec, zRsl⟩ p).bind fun g p => .ok (decide (g.code = 0)) p
def gk (g : GotA) (kd : Int) : Bool := g.has && decide (g.x.r.kd = kd)
def asR (kd : Int) (x : RA) (mk : Int) : RA := ⟨x.A, x.c, ⟨x.r.n, x.r.f, kd, x.r.nx, mk⟩⟩
def innerR : Rec := ⟨2, [], noneL, 0⟩
def halvA (x : RA) (l : Lab) : Rec × Rec × Int := halvR x.r.kd x.r.n x.r.f x.r.nx x.r.mrk l
def uniA (x y : RA) : Rec × Int := uniR x.r.kd x.r.n x.r.f x.r.nx x.r.mrk y.r.kd y.r.n y.r.f y.r.nx y.r.mrk
def splC (k : Int) (l : Lab) (v : Int) (c : Lab) (x : Rec) : Nat → Pst → Rs Bool
 | 0, p => .stop zWq p
 | n + 1, p => (getM k c p).bind fun g p => if (g.has && !decide (g.x.r.kd = 5)) = true then .ok true p else (getM k l p).bind fun q p => if q.ver = v then (casM k c g.ver x p).bind fun d p => if d = true then .ok true p else splC k l v c x n p else .ok false p
def splitM (k : Int) (n : Nat) (l : Lab) (v : Int) (x : RA) (p : Pst) : Rs Unit :=
 if (halvA x l).2.2 = 0 then
  (splC k l v (chV l 0) (halvA x l).1 n p).bind fun go p => if go = true then (splC k l v (chV l 1) (halvA x l).2.1 n p).bind fun go p => if go = true then (casM k l v innerR p).bind fun _ p => .ok () p else .ok () p else .ok () p
 else .ok () p
inductive Fz where
 | over
 | unfit
 | fr (x : RA)
def frzM (k : Int) (l : Lab) (v : Int) (c : Lab) : Nat → Pst → Rs Fz
 | 0, p => .stop zWq p
 | n + 1, p => (getM k c p).bind fun g p => if (gk g 1 || gk g 5) = true then (if (gk g 5 && decide (g.x.r.mrk = v)) = true then .ok (.fr g.x) p else (getM k l p).bind fun q p => if q.ver = v then (casM k c g.ver (asR 5 g.x v).r.abs p).bind fun d p => if d = true then .ok (.fr (asR 5 g.x v)) p else frzM k l v c n p else .ok .over p) else .ok .unfit p
def clnC (k : Int) (l : Lab) (cl : Lab → Pst → Rs Unit) (c : Lab) (p : Pst) : Rs Bool :=
 (getM k c p).bind fun g p => if gk g 5 = true then (cl c p).bind fun _ p => (getM k l p).bind fun q p => if (gk q 1 || gk q 5) = true then (drpM k c g.ver p).bind fun _ p => .ok true p else .ok false p else .ok true p
def clnM (k : Int) : Nat → Lab → Pst → Rs Unit
 | 0, _, p => .stop zWq p
 | n + 1, l, p => if l.len = 64 then .ok () p else (clnC k l (clnM k n) (chV l 0) p).bind fun go p => if go = true then (clnC k l (clnM k n) (chV l 1) p).bind fun _ p => .ok () p else .ok () p
def bckM (k : Int) (th : Lab → Pst → Rs Unit) (l : Lab) (v : Int) (p : Pst) : Rs Unit := (casM k l v innerR p).bind fun d p => if d = true then (th (chV l 0) p).bind fun _ p => th (chV l 1) p else .ok () p
def mrgM (bk k : Int) (n : Nat) (th : Lab → Pst → Rs Unit) (l : Lab) (v : Int) (p : Pst) : Rs Unit :=
 (frzM k l v (chV l 0) n p).bind fun a p => match a with
  | .over => .ok () p
  | .unfit => bckM k th l v p
  | .fr a => (frzM k l v (chV l 1) n p).bind fun b p => match b with
   | .over => .ok () p
   | .unfit => bckM k th l v p
   | .fr b => if (uniA a b).2 = 0 ∧ ((uniA a b).1.items.length : Int) ≤ bk then (casM k l v (uniA a b).1 p).bind fun d p => if d = true then clnM k n l p else .ok () p else bckM k th l v p
def finM (bk k : Int) (n : Nat) (th : Lab → Pst → Rs Unit) (l : Lab) (g : GotA) (p : Pst) : Rs Unit :=
 if gk g 3 = true then splitM k n l g.ver g.x p else if l.len < 64 then mrgM bk k n th l g.ver p else .ok () p
def thwL (bk k : Int) : Nat → Lab → Lab → Pst → Rs Unit
 | 0, _, _, p => .stop zWq p
 | n + 1, l, up, p => (getM k l p).bind fun g p => if gk g 5 = true then (getM k up p).bind fun q p =>
   (if (gk q 3 || gk q 4) = true then finM bk k n (fun c p => if parE c = 0 then thwL bk k n c (parV c) p else .ok () p) up q p else .ok () p).bind fun _ p =>
    if gk q 2 = true then (casM k l g.ver (asR 1 g.x 0).r.abs p).bind fun d p => if d = true then .ok () p else thwL bk k n l up p else .ok () p else .ok () p
def thwM (bk k : Int) (n : Nat) (l : Lab) (p : Pst) : Rs Unit := if parE l = 0 then thwL bk k n l (parV l) p else .ok () p
def fnsM (bk k : Int) (n : Nat) (l : Lab) (g : GotA) (p : Pst) : Rs Unit := finM bk k n (thwM bk k n) l g p
def toldM (r : Rs Rsl) : Wq × Int := match r with
 | .ok a p => if 0 < p.n then (zWq, 5) else (⟨4, ⟨0, 0⟩, 0, zeroRec, a⟩, 0)
 | .stop w p => if 0 < p.n then (zWq, 5) else (w, 0)
def Suf (p p' : Pst) : Prop := ∃ d, p'.n + d = p.n ∧ ∀ j, p'.g j = p.g (j + d)
theorem Suf.refl (p : Pst) : Suf p p := ⟨0, rfl, fun _ => rfl⟩
theorem Suf.trans {p q r : Pst} (h : Suf p q) (h' : Suf q r) : Suf p r := by
 obtain ⟨d, h1, h2⟩ := h
 obtain ⟨e, h3, h4⟩ := h'
 exact ⟨e + d, by omega, fun j => by rw [h4, h2]; congr 1; omega⟩
theorem Suf.le {p q : Pst} (h : Suf p q) : q.n ≤ p.n := by obtain ⟨d, h1, _⟩ := h; omega
theorem suf_tl {p : Pst} (h : 0 < p.n) : Suf p p.tl := ⟨1, by simp only [Pst.tl]; omega, fun _ => rfl⟩
def Fro {α : Type} (p : Pst) (r : Rs α) : Prop := match r with
 | .ok _ q => Suf p q
 | .stop _ q => Suf p q
theorem Fro.bind {α β : Type} {p : Pst} {m : Rs α} {f : α → Pst → Rs β} (h : Fro p m) (hf : ∀ a q, Suf p q → Fro q (f a q)) : Fro p (m.bind f) := by
 cases m with
 | ok a q =>
  have h1 := hf a q h
  show Fro p (f a q)
  cases hr : f a q with
  | ok b r => rw [hr] at h1; exact Suf.trans h h1
  | stop w r => rw [hr] at h1; exact Suf.trans h h1
 | stop w q => exact h
theorem fro_ask (k : Int) (w : Wq) (p : Pst) : Fro p (askM k w p) := by
 unfold askM
 split
 ·rename_i h; exact suf_tl h.1
 exact Suf.refl _
theorem fro_ok {α : Type} (a : α) (p : Pst) : Fro p (Rs.ok a p) := Suf.refl p
theorem fro_stop {α : Type} (w : Wq) (p : Pst) : Fro p (Rs.stop w p : Rs α) := Suf.refl p
theorem fro_ite {α : Type} {p : Pst} {c : Prop} [Decidable c] {x y : Rs α} (hx : Fro p x) (hy : Fro p y) : Fro p (if c then x else y) := by split <;> assumption
theorem fro_get (k : Int) (l : Lab) (p : Pst) : Fro p (getM k l p) := fro_ask _ _ _
theorem fro_cas (k : Int) (l : Lab) (v : Int) (r : Rec) (p : Pst) : Fro p (casM k l v r p) := (fro_ask _ _ _).bind fun _ _ _ => fro_ok _ _
theorem fro_del (k : Int) (l : Lab) (v : Int) (p : Pst) : Fro p (drpM k l v p) := (fro_ask _ _ _).bind fun _ _ _ => fro_ok _ _
theorem fro_splC (k : Int) (l : Lab) (v : Int) (c : Lab) (x : Rec) : ∀ n p, Fro p (splC k l v c x n p)
 | 0, p => fro_stop _ _
 | n + 1, p => (fro_get _ _ _).bind fun _ _ _ => fro_ite (fro_ok _ _) ((fro_get _ _ _).bind fun _ _ _ => fro_ite ((fro_cas _ _ _ _ _).bind fun _ _ _ => fro_ite (fro_ok _ _) (fro_splC k l v c x n _)) (fro_ok _ _))
theorem fro_split (k : Int) (n : Nat) (l : Lab) (v : Int) (x : RA) (p : Pst) : Fro p (splitM k n l v x p) :=
 fro_ite ((fro_splC _ _ _ _ _ _ _).bind fun _ _ _ => fro_ite ((fro_splC _ _ _ _ _ _ _).bind fun _ _ _ => fro_ite ((fro_cas _ _ _ _ _).bind fun _ _ _ => fro_ok _ _) (fro_ok _ _)) (fro_ok _ _)) (fro_ok _ _)
theorem fro_frz (k : Int) (l : Lab) (v : Int) (c : Lab) : ∀ n p, Fro p (frzM k l v c n p)
 | 0, p => fro_stop _ _
 | n + 1, p => (fro_get _ _ _).bind fun _ _ _ => fro_ite (fro_ite (fro_ok _ _) ((fro_get _ _ _).bind fun _ _ _ => fro_ite ((fro_cas _ _ _ _ _).bind fun _ _ _ => fro_ite (fro_ok _ _) (fro_frz k l v c n _)) (fro_ok _ _))) (fro_ok _ _)
theorem fro_clnC (k : Int) (l : Lab) (cl : Lab → Pst → Rs Unit) (h : ∀ c p, Fro p (cl c p)) (c : Lab) (p : Pst) : Fro p (clnC k l cl c p) :=
 (fro_get _ _ _).bind fun _ _ _ => fro_ite ((h _ _).bind fun _ _ _ => (fro_get _ _ _).bind fun _ _ _ => fro_ite ((fro_del _ _ _ _).bind fun _ _ _ => fro_ok _ _) (fro_ok _ _)) (fro_ok _ _)
theorem fro_cln (k : Int) : ∀ n l p, Fro p (clnM k n l p)
 | 0, l, p => fro_stop _ _
 | n + 1, l, p => fro_ite (fro_ok _ _) ((fro_clnC _ _ _ (fro_cln k n) _ _).bind fun _ _ _ => fro_ite ((fro_clnC _ _ _ (fro_cln k n) _ _).bind fun _ _ _ => fro_ok _ _) (fro_ok _ _))
theorem fro_bck (k : Int) (th : Lab → Pst → Rs Unit) (h : ∀ c p, Fro p (th c p)) (l : Lab) (v : Int) (p : Pst) : Fro p (bckM k th l v p) :=
 (fro_cas _ _ _ _ _).bind fun _ _ _ => fro_ite ((h _ _).bind fun _ _ _ => h _ _) (fro_ok _ _)
theorem fro_mrg (bk k : Int) (n : Nat) (th : Lab → Pst → Rs Unit) (h : ∀ c p, Fro p (th c p)) (l : Lab) (v : Int) (p : Pst) : Fro p (mrgM bk k n th l v p) :=
 (fro_frz _ _ _ _ _ _).bind fun a _ _ => match a with
  | .over => fro_ok _ _
  | .unfit => fro_bck _ _ h _ _ _
  | .fr a => (fro_frz _ _ _ _ _ _).bind fun b _ _ => match b with
   | .over => fro_ok _ _
   | .unfit => fro_bck _ _ h _ _ _
   | .fr b => fro_ite ((fro_cas _ _ _ _ _).bind fun _ _ _ => fro_ite (fro_cln _ _ _ _) (fro_ok _ _)) (fro_bck _ _ h _ _ _)
theorem fro_fin (bk k : Int) (n : Nat) (th : Lab → Pst → Rs Unit) (h : ∀ c p, Fro p (th c p)) (l : Lab) (g : GotA) (p : Pst) : Fro p (finM bk k n th l g p) :=
 fro_ite (fro_split _ _ _ _ _ _) (fro_ite (fro_mrg _ _ _ _ h _ _ _) (fro_ok _ _))
theorem fro_thwL (bk k : Int) : ∀ n l up p, Fro p (thwL bk k n l up p)
 | 0, l, up, p => fro_stop _ _
 | n + 1, l, up, p => (fro_get _ _ _).bind fun _ _ _ => fro_ite ((fro_get _ _ _).bind fun _ _ _ => (fro_ite (fro_fin _ _ _ _ (fun c p => fro_ite (fro_thwL bk k n _ _ _) (fro_ok _ _)) _ _ _) (fro_ok _ _)).bind fun _ _ _ => fro_ite ((fro_cas _ _ _ _ _).bind fun _ _ _ => fro_ite (fro_ok _ _) (fro_thwL bk k n _ _ _)) (fro_ok _ _)) (fro_ok _ _)
theorem fro_thw (bk k : Int) (n : Nat) (l : Lab) (p : Pst) : Fro p (thwM bk k n l p) := fro_ite (fro_thwL _ _ _ _ _ _) (fro_ok _ _)
theorem fro_fns (bk k : Int) (n : Nat) (l : Lab) (g : GotA) (p : Pst) : Fro p (fnsM bk k n l g p) := fro_fin _ _ _ _ (fro_thw _ _ _) _ _ _
theorem Fro.of {α : Type} {p q : Pst} {m : Rs α} {a : α} (h : Fro p m) (e : m = .ok a q) : Suf p q := by rw [e] at h; exact h
theorem Fro.ofs {α : Type} {p q : Pst} {m : Rs α} {w : Wq} (h : Fro p m) (e : m = .stop w q) : Suf p q := by rw [e] at h; exact h
theorem ask_ok {k : Int} {w : Wq} {p q : Pst} {g : GotA} (h : askM k w p = .ok g q) : 0 < p.n ∧ g = p.g 0 ∧ q = p.tl := by
 unfold askM at h
 split at h
 ·rename_i h0; injection h with h1 h2; exact ⟨h0.1, h1.symm, h2.symm⟩
 cases h
theorem get_lt {k : Int} {l : Lab} {p q : Pst} {g : GotA} (h : getM k l p = .ok g q) : q.n < p.n := by
 obtain ⟨h1, _, rfl⟩ := ask_ok h
 simp only [Pst.tl]; omega
structure RaOk (x : RA) : Prop where
 nx : U64 x.r.nx.bits
 key : ∀ i, i < x.r.n → U64 (x.r.f i).key
 few : x.r.n ≤ 16
structure GotOk (g : GotA) : Prop where
 ra : RaOk g.x
 ver : U64 g.ver
structure GotR (g : GotA) : Prop where
 code : g.code = 0 ∨ g.code = 8
 rf : g.has = true → isRF g.x.r.kd g.x.r.n g.x.r.f g.x.r.nx g.x.r.mrk = true
 no : g.has = false → g.x.r.kd = 0 ∧ g.x.r.n = 0 ∧ g.x.r.nx = ⟨0, 0⟩ ∧ g.x.r.mrk = 0
theorem GotR.kd {g : GotA} (h : GotR g) (hh : g.has = true) : 1 ≤ g.x.r.kd ∧ g.x.r.kd ≤ 5 := by
 obtain ⟨h1, h2, _⟩ := isRF_kind (h.rf hh)
 exact ⟨h1, h2⟩
def PstOk (p : Pst) : Prop := ∀ j, j < p.n → GotOk (p.g j) ∧ GotR (p.g j)
theorem PstOk.suf {p q : Pst} (h : PstOk p) (hs : Suf p q) : PstOk q := by
 obtain ⟨d, h1, h2⟩ := hs
 intro j hj
 rw [h2]
 exact h _ (by omega)
theorem PstOk.get {k : Int} {l : Lab} {p q : Pst} {g : GotA} (h : PstOk p) (e : getM k l p = .ok g q) : GotOk g := by
 obtain ⟨h1, rfl, _⟩ := ask_ok e
 exact (h 0 h1).1
theorem PstOk.getR {k : Int} {l : Lab} {p q : Pst} {g : GotA} (h : PstOk p) (e : getM k l p = .ok g q) : GotR g := by
 obtain ⟨h1, rfl, _⟩ := ask_ok e
 exact (h 0 h1).2
theorem RaOk.as {x : RA} (h : RaOk x) (kd mk : Int) : RaOk (asR kd x mk) := ⟨h.nx, h.key, h.few⟩
theorem frz_ok {k : Int} {l : Lab} {v : Int} {c : Lab} : ∀ {n : Nat} {p q : Pst} {x : RA}, PstOk p → frzM k l v c n p = .ok (.fr x) q → RaOk x
 | 0, p, q, x, _, h => by cases h
 | n + 1, p, q, x, hp, h => by
  unfold frzM at h
  cases h1 : getM k c p with
  | stop w p1 => rw [h1] at h; cases h
  | ok g p1 =>
   rw [h1] at h
   have hg := (hp.get h1).ra
   have hp1 := hp.suf ((fro_get k c p).of h1)
   simp only [Rs.bind] at h
   split at h
   ·split at h
    ·injection h with h _; injection h with h; rw [← h]; exact hg
    cases h2 : getM k l p1 with
    | stop w p2 => rw [h2] at h; cases h
    | ok q2 p2 =>
     rw [h2] at h
     have hp2 := hp1.suf ((fro_get k l p1).of h2)
     simp only [Rs.bind] at h
     split at h
     ·cases h3 : casM k c g.ver (asR 5 g.x v).r.abs p2 with
      | stop w p3 => rw [h3] at h; cases h
      | ok d p3 =>
       rw [h3] at h
       simp only [Rs.bind] at h
       split at h
       ·injection h with h _; injection h with h; rw [← h]; exact hg.as _ _
       exact frz_ok (hp2.suf ((fro_cas _ _ _ _ _).of h3)) h
     cases h
   cases h
end Go.Proofs.YtphmfjhmdajlmaaGreat.Sym
namespace Go.Proofs.YtphmfjhmdajlmaaGreat.Sym
open Go.RowKit
section
variable {C : Cx} {P : Program} {Q : Exit → Act → World → Prop} {T : List (Nat × TI)} {cs : List (Nat × CS)} {ops : Array Oper} {all : List Oper} {H : Hand}
theorem closed {listed : Array Bool} (hDC : ∀ k o, all[k]? = some o → listed.getD k false = true → ∀ e ∈ o.after.toList, Region.binds .any e = true → listed.getD e.on false = true) {i j : Nat} (hr : WaitsFor all i j) : (∀ o e, all[i]? = some o → e ∈ o.after.toList → Region.binds .any e = true → listed.getD e.on false = true) → listed.getD j false = true := by
 induction hr with
 | one h1 h2 h3 h4 => intro hi; rw [← h4]; exact hi _ _ h1 h2 h3
 | more h1 h2 h3 h4 ih => intro hi; exact ih fun o e g1 g2 g3 => hDC _ o g1 (hi _ _ h1 h2 h3) e g2 g3
theorem chain_ok {tz : List Nat} (hops : ops = all.toArray) (htz : ∀ i j, edge tz i j = true → WaitsFor all i j) {n0 : Nat} (hz : ∀ k, n0 ≤ k → k < ops.size → ∀ j, j < k → edge tz k j = true) (hze : ∀ (k : Nat) (o : Oper), ops[k]? = some o → ∀ e ∈ o.after.toList, Region.binds .any e = true → e.on < k) :
  ∀ (n k : Nat) (listed : Array Bool) (a : Act) (w : World), n0 ≤ k → ops.size - k = n → k ≤ ops.size → listed.size = ops.size → (∀ j, j < k → listed.getD j false = true) → (∀ j, k ≤ j → j < ops.size → listed.getD j true = false) →
  (∀ k o, all[k]? = some o → listed.getD k false = true → ∀ e ∈ o.after.toList, Region.binds .any e = true → listed.getD e.on false = true) → wpList P ops Q (all.drop k) a w → wpAny P .any ops Q n listed a w
 | 0, k, listed, a, w, h0, hn, hk, hsz, hlo, hhi, hDC, hq => by
  have hlen : all.length = ops.size := by rw [hops]; simp
  have : all.drop k = [] := List.drop_eq_nil_of_le (by omega)
  rw [this] at hq
  refine ⟨?_, hq⟩
  cases hr : Region.ready .any ops listed with
  | nil => rfl
  | cons i r =>
   obtain ⟨h1, o, h2, _⟩ := mem_ready.1 (hr ▸ List.mem_cons_self : i ∈ Region.ready .any ops listed)
   have hi := (Array.getElem?_eq_some_iff.1 h2).1
   have := hlo i (by omega)
   rw [getD_tf h1] at this; cases this
 | n + 1, k, listed, a, w, h0, hn, hk, hsz, hlo, hhi, hDC, hq => by
  have hlen : all.length = ops.size := by rw [hops]; simp
  have hkl : k < ops.size := by omega
  obtain ⟨o, ho⟩ : ∃ o, ops[k]? = some o := ⟨_, Array.getElem?_eq_getElem hkl⟩
  have hoa : all[k]? = some o := by rw [hops] at ho; simpa using ho
  have hd : all.drop k = o :: all.drop (k + 1) := by
   have hka : k < all.length := by omega
   rw [List.drop_eq_getElem_cons hka]
   congr 1
   exact (List.getElem?_eq_some_iff.1 hoa).2
  refine ⟨fun hr => ?_, fun i hi => ?_⟩
  ·exfalso
   have : k ∈ Region.ready .any ops listed := mem_ready.2 ⟨hhi k (Nat.le_refl _) hkl, o, ho, fun e he hb => hlo _ (hze k o ho e (by simpa using he) hb)⟩
   rw [hr] at this; cases this
  obtain ⟨h1, o', h2, h3⟩ := mem_ready.1 hi
  have hil := (Array.getElem?_eq_some_iff.1 h2).1
  have hik : i = k := by
   refine Decidable.byContradiction fun hne => ?_
   by_cases hlt : i < k
   ·have := hlo i hlt
    rw [getD_tf h1] at this; cases this
   have hw := htz _ _ (hz i (by omega) hil k (by omega))
   have h4 := closed hDC hw (fun o'' e g1 g2 g3 => by
    have : o'' = o' := by
     have e1 : ops[i]? = some o'' := by rw [hops]; simpa using g1
     rw [h2] at e1; injection e1 with e1; exact e1.symm
    subst this
    exact h3 e (by simpa using g2) g3)
   have := hhi k (Nat.le_refl _) hkl
   rw [getD_tf this] at h4; cases h4
  subst hik
  have : o' = o := by rw [ho] at h2; injection h2 with h2; exact h2.symm
  subst this
  have fin : ∀ a w, wpList P ops Q (all.drop (i + 1)) a w → wpAny P .any ops Q n (listed.setIfInBounds i true) a w := by
   intro a w hq'
   refine chain_ok hops htz hz hze n (i + 1) _ a w (by omega) (by omega) (by omega) (by simpa using hsz) (fun j hj => ?_) (fun j hj hj' => ?_) (fun k2 ok hk2 hu e he hb => ?_) hq'
   ·by_cases hji : j = i
    ·subst hji; simp [Array.getD_eq_getD_getElem?, hsz, hil]
    rw [getD_set_ne false (fun e' => hji e'.symm)]; exact hlo j (by omega)
   ·rw [getD_set_ne true (by omega)]; exact hhi j (by omega) hj'
   have hon : listed.getD e.on false = true := by
    by_cases hki : k2 = i
    ·subst hki
     have : ok = o' := by
      have e1 : ops[k2]? = some ok := by rw [hops]; simpa using hk2
      rw [h2] at e1; injection e1 with e1; exact e1.symm
     subst this
     exact h3 e (by simpa using he) hb
    rw [getD_set_ne false (fun e' => hki e'.symm)] at hu
    exact hDC k2 ok hk2 hu e he hb
   by_cases hei : e.on = i
   ·rw [hei]; simp [Array.getD_eq_getD_getElem?, hsz, hil]
   rw [getD_set_ne false (fun e' => hei e'.symm)]; exact hon
  rw [hd] at hq
  unfold wpOp
  simp only [h2]
  unfold wpList at hq
  by_cases hw : Region.wanted o' (yielded ops a.tmps) = true
  ·rw [if_pos hw] at hq ⊢
   exact hq.imp (Oper.wp_mono fin) id
  rw [if_neg hw] at hq ⊢
  exact fin _ _ hq
theorem any3_ok {tb tz : List Nat} (hT : TabOK P T) (hops : ops = all.toArray) (htb : ∀ i j, edge tb i j = true → WaitsFor all i j) (htz : ∀ i j, edge tz i j = true → WaitsFor all i j) (hH : HandOK C P all H) {n0 : Nat} (hz : ∀ k, n0 ≤ k → k < ops.size → ∀ j, j < k → edge tz k j = true) (hze : ∀ (k : Nat) (o : Oper), ops[k]? = some o → ∀ e ∈ o.after.toList, Region.binds .any e = true → e.on < k) (hz4 : n0 ≤ ops.size) : ∀ (n : Nat) (L : List (Nat × Oper)) (fs : List Foot) (listed : Array Bool) (s : St) (a : Act) (w : World), L.length = n → Fits C s a w → NM s (ds fs) → Ord fs → Paired tb L fs → (∀ k o, all[k]? = some o → listed.getD k false = true → ∀ e ∈ o.after.toList, Region.binds .any e = true → listed.getD e.on false = true) →
  L.Pairwise (fun x y => x.1 < y.1) → (∀ x ∈ L, ops[x.1]? = some x.2 ∧ listed.getD x.1 true = false) → (∀ k o, k < n0 → ops[k]? = some o → listed.getD k true = false → (k, o) ∈ L) → (∀ k, n0 ≤ k → k < ops.size → listed.getD k true = false) → (∀ x ∈ L, x.1 < n0) → listed.size = ops.size →
  (∀ x ∈ L, ∀ e ∈ x.2.after.toList, Region.binds .any e = true → e.on < x.1) →
  (∀ X, ∃ τ obs, exec2 std T cs H X all L s = some (τ, obs, fs) ∧ AO P C.K obs ∧ ∀ a' w', Fits C τ a' w' → wpList P ops Q (all.drop n0) a' w') → wpAny P .any ops Q (n + (ops.size - n0)) listed a w
 | 0, L, fs, listed, s, a, w, hn, h, hNM, hF, hP, hDC, hsr, hL, hA, hZ, hLn, hsz, hE, hs => by
  have : L = [] := List.eq_nil_of_length_eq_zero hn
  subst this
  obtain ⟨τ, obs, e1, _, e2⟩ := hs (fun _ => ⟨0, fun _ => none, fun _ => 0, fun _ => .empty⟩)
  simp only [exec2, Option.some.injEq, Prod.mk.injEq] at e1
  obtain ⟨rfl, _⟩ := e1
  rw [Nat.zero_add]
  refine chain_ok hops htz hz hze (ops.size - n0) n0 listed a w (Nat.le_refl _) rfl hz4 hsz (fun k hk => ?_) hZ hDC (e2 a w h)
  by_cases hl : listed.getD k false = true
  ·exact hl
  have := hA k _ hk (Array.getElem?_eq_getElem (by omega)) (getD_ft (by rw [hsz]; omega) hl)
  cases this
 | n + 1, L, fs, listed, s, a, w, hn, h, hNM, hF, hP, hDC, hsr, hL, hA, hZ, hLn, hsz, hE, hs => by
  rw [show n + 1 + (ops.size - n0) = (n + (ops.size - n0)) + 1 by omega]
  refine ⟨fun hr => ?_, fun i hi => ?_⟩
  ·-- the first one that is left may come up
   exfalso
   cases L with
   | nil => cases hn
   | cons x L =>
    obtain ⟨i0, o0⟩ := x
    obtain ⟨h1, h2⟩ := hL (i0, o0) (by simp)
    have : i0 ∈ Region.ready .any ops listed := mem_ready.2 ⟨h2, o0, h1, fun e he hb => by
     have hlt := hE (i0, o0) (by simp) e (by simpa using he) hb
     simp only at hlt
     have hi0 : i0 < ops.size := (Array.getElem?_eq_some_iff.1 h1).1
     have hon : e.on < listed.size := by rw [hsz]; omega
     by_cases hl : listed.getD e.on false = true
     ·exact hl
     exfalso
     have hm := hA e.on _ (by have := hLn (i0, o0) (by simp); simp only at this; omega) (Array.getElem?_eq_getElem (by omega)) (getD_ft hon hl)
     rcases List.mem_cons.1 hm with he' | hm
     ·injection he' with he'; omega
     have := (List.pairwise_cons.1 hsr).1 _ hm
     simp only at this; omega⟩
    rw [hr] at this
    cases this
  obtain ⟨h1, o, h2, h3⟩ := mem_ready.1 hi
  have hi0 : i < n0 := by
   refine Decidable.byContradiction fun hni => ?_
   cases L with
   | nil => cases hn
   | cons x L =>
    have hx0 := hLn x (by simp)
    have hw := htz _ _ (hz i (by omega) (Array.getElem?_eq_some_iff.1 h2).1 x.1 (by omega))
    have h4 := closed hDC hw (fun o' e g1 g2 g3 => by
     have : o' = o := by
      have e1 : ops[i]? = some o' := by rw [hops]; simpa using g1
      rw [h2] at e1; injection e1 with e1; exact e1.symm
     subst this
     exact h3 e (by simpa using g2) g3)
    have q5 := (hL x (by simp)).2
    rw [getD_tf q5] at h4
    cases h4
  have hio : all[i]? = some o := by rw [hops] at h2; simpa using h2
  have hin := hA i o hi0 h2 h1
  obtain ⟨L1, L2, rfl⟩ := List.append_of_mem hin
  obtain ⟨fs1, f, fs2, hlen, rfl⟩ : ∃ fs1 f fs2, fs1.length = L1.length ∧ fs = fs1 ++ f :: fs2 := by
   have hl := hP.1
   simp only [List.length_append, List.length_cons] at hl
   have hlt : L1.length < fs.length := by omega
   refine ⟨fs.take L1.length, fs[L1.length], fs.drop (L1.length + 1), by simp; omega, ?_⟩
   rw [← List.drop_eq_getElem_cons hlt, List.take_append_drop]
  obtain ⟨hP1, hcm⟩ := pairsB_del hlen hP.2
  have hcomm : ∀ g ∈ fs1, comm g f = true := by
   intro g hg
   obtain ⟨k, hk⟩ := List.getElem?_of_mem hg
   have hkl : k < L1.length := by rw [← hlen]; exact (List.getElem?_eq_some_iff.1 hk).1
   rcases hcm k _ g (List.getElem?_eq_getElem hkl) hk with he | he
   ·exfalso
    have h5 := (hL L1[k] (List.mem_append_left _ (List.getElem_mem hkl))).2
    have hr := htb _ _ he
    have dc : ∀ {i j : Nat}, WaitsFor all i j → (∀ o e, all[i]? = some o → e ∈ o.after.toList → Region.binds .any e = true → listed.getD e.on false = true) → listed.getD j false = true := by
     intro i j hr
     induction hr with
     | one h1 h2 h3 h4 => intro hi; rw [← h4]; exact hi _ _ h1 h2 h3
     | more h1 h2 h3 h4 ih => intro hi; exact ih fun o e g1 g2 g3 => hDC _ o g1 (hi _ _ h1 h2 h3) e g2 g3
    have h4 := dc hr fun o' e g1 g2 g3 => by
     have : o' = o := by
      have e1 : ops[i]? = some o' := by rw [hops]; simpa using g1
      rw [h2] at e1; injection e1 with e1; exact e1.symm
     subst this
     exact h3 e (by simpa using g2) g3
    rw [getD_tf h5] at h4
    cases h4
   exact he
  have mf : ∀ X, ∃ δ ob, delta2 std T cs H (X i) all i o s = some (δ, ob, f) ∧ AO P C.K ob ∧ ∃ τ' obs', exec2 std T cs H X all (L1 ++ L2) (s.app δ) = some (τ', obs', fs1 ++ fs2) ∧ AO P C.K obs' ∧ ∀ a' w', Fits C τ' a' w' → wpList P ops Q (all.drop n0) a' w' := by
   intro X
   obtain ⟨τ, obs, e1, e2, e3⟩ := hs X
   obtain ⟨δ, ob, g1, τ', obs', g2, g3, g4⟩ := moveFront2 (P := P) e1 hlen hNM hF hcomm
   exact ⟨δ, ob, g1, (g4 e2).1, τ', obs', g2, (g4 e2).2, fun a' w' hf => e3 a' w' (hf.alike g3)⟩
  have hsrt : (L1 ++ L2).Pairwise (fun x y => x.1 < y.1) := hsr.sublist (List.Sublist.append_left (List.sublist_cons_self _ _) _)
  have hnot : ∀ x ∈ L1 ++ L2, x.1 ≠ i := by
   intro x hx
   rw [List.pairwise_append] at hsr
   obtain ⟨p1, p2, p3⟩ := hsr
   rcases List.mem_append.1 hx with hx | hx
   ·have := p3 x hx (i, o) (by simp); simp only at this; omega
   have := (List.pairwise_cons.1 p2).1 x hx; simp only at this; omega
  have key := delta2_ok (C := C) (K := fun a' w' => wpAny P .any ops Q (n + (ops.size - n0)) (listed.setIfInBounds i true) a' w') (Q := Q) (cs := cs) (i := i) (o := o) hT hH hio hops h (fun x => by
   obtain ⟨δ, ob, g1, g2, _⟩ := mf (fun _ => x)
   exact ⟨_, g1, g2⟩) (fun x r a' w' hr hf => by
   have hfo := delta2_foot hr
   obtain ⟨δ, ob, f'⟩ := r
   obtain ⟨δ0, ob0, g0, _⟩ := mf (fun _ => x)
   rw [hr] at g0
   injection g0 with g0; injection g0 with q1 q2; injection q2 with q2 q3
   subst q1; subst q2; subst q3
   have hinF : ∀ g ∈ fs1 ++ fs2, g ∈ fs1 ++ f' :: fs2 := fun g hg => by
    rcases List.mem_append.1 hg with hg | hg
    ·exact List.mem_append_left _ hg
    exact List.mem_append_right _ (List.mem_cons_of_mem _ hg)
   obtain ⟨n1, n2⟩ := nm_of hfo (gs := fs1 ++ fs2) hNM (by simp) hinF (fun g hg => by
    rcases List.mem_append.1 hg with hg | hg
    ·have := hcomm g hg
     simp only [comm, Bool.and_eq_true] at this
     exact this.1.1.1.1.1.1.1.1.1
    exact (List.pairwise_cons.1 (List.pairwise_append.1 hF).2.1).1 g hg)
   refine any3_ok hT hops htb htz hH hz hze hz4 n (L1 ++ L2) (fs1 ++ fs2) (listed.setIfInBounds i true) (s.app δ) a' w' ?_ hf n2 ?_ ?_ ?_ hsrt ?_ ?_ (fun k hk hk' => by rw [getD_set_ne true (by omega)]; exact hZ k hk hk') ?_ (by simpa using hsz) ?_ ?_
   ·simp at hn ⊢; omega
   ·exact hF.sublist (List.Sublist.append_left (List.sublist_cons_self _ _) _)
   ·refine ⟨?_, hP1⟩
    have := hP.1
    simp at this ⊢; omega
   ·intro k ok hk hu e he hb
    by_cases hki : k = i
    ·subst hki
     have : ok = o := by
      have e1 : ops[k]? = some ok := by rw [hops]; simpa using hk
      rw [h2] at e1; injection e1 with e1; exact e1.symm
     subst this
     have hl := h3 e (by simpa using he) hb
     by_cases hei : e.on = k
     ·have := hE (k, ok) hin e he hb
      simp only at this; omega
     rw [getD_set_ne false (fun e' => hei e'.symm)]; exact hl
    rw [getD_set_ne false (fun e' => hki e'.symm)] at hu
    have hl := hDC k ok hk hu e he hb
    by_cases hei : e.on = i
    ·rw [hei] at hl
     have h5 := (hL (i, o) hin).2
     simp only at h5
     rw [getD_tf h5] at hl; cases hl
    rw [getD_set_ne false (fun e' => hei e'.symm)]; exact hl
   ·intro x' hx
    have hx' : x' ∈ L1 ++ (i, o) :: L2 := by
     rcases List.mem_append.1 hx with hx | hx
     ·exact List.mem_append_left _ hx
     exact List.mem_append_right _ (List.mem_cons_of_mem _ hx)
    obtain ⟨e1, e2⟩ := hL x' hx'
    refine ⟨e1, ?_⟩
    rw [getD_set_ne true (fun e => hnot x' hx e.symm)]
    exact e2
   ·intro k ok hkn hk hu
    by_cases hki : k = i
    ·subst hki
     have hlt : k < listed.size := by rw [hsz]; exact (Array.getElem?_eq_some_iff.1 h2).1
     simp [Array.getD_eq_getD_getElem?, hlt] at hu
    rw [getD_set_ne true (fun e => hki e.symm)] at hu
    have := hA k ok hkn hk hu
    rcases List.mem_append.1 this with hx | hx
    ·exact List.mem_append_left _ hx
    rcases List.mem_cons.1 hx with hx | hx
    ·injection hx with hx; exact absurd hx hki
    exact List.mem_append_right _ hx
   ·intro x' hx
    refine hLn x' ?_
    rcases List.mem_append.1 hx with hx | hx
    ·exact List.mem_append_left _ hx
    exact List.mem_append_right _ (List.mem_cons_of_mem _ hx)
   ·intro x' hx
    refine hE x' ?_
    rcases List.mem_append.1 hx with hx | hx
    ·exact List.mem_append_left _ hx
    exact List.mem_append_right _ (List.mem_cons_of_mem _ hx)
   intro X
   obtain ⟨Y, hY, hYX⟩ : ∃ Y : Nat → Atom, Y i = x ∧ ∀ j, j ≠ i → Y j = X j := ⟨fun j => if j = i then x else X j, by simp, fun j hj => by simp [hj]⟩
   obtain ⟨δ1, ob1, g1, _, τ', obs', g2, g3, g4⟩ := mf Y
   rw [hY, hr] at g1
   injection g1 with g1; injection g1 with q1 _
   subst q1
   rw [exec2_congr _ _ (fun x' hx => hYX x'.1 (hnot x' hx))] at g2
   exact ⟨τ', obs', g2, g3, g4⟩)
  unfold wpOp
  simp only [h2]
  by_cases hw : Region.wanted o (yielded ops a.tmps) = true
  ·rw [if_pos hw] at key ⊢
   exact .inl key
  rw [if_neg hw] at key ⊢
  exact key
def tail3B (all : List Oper) (n0 : Nat) : Bool := Nat.ble n0 all.length && (edgesB (number 0 all) && (List.range all.length).all fun k => Nat.blt k n0 || (List.range k).all fun j => edge (masks all []) k j)
theorem drawn3_ok {s : St} {a : Act} {w : World} {id : Nat} {all : List Oper} (n0 : Nat) (H : Hand) (hH : HandOK C P all H) (hm : P.follows .mixedOrders = true) (hT : TabOK P T) (kp km : List Nat) (cs : List (Nat × CS)) (h : Fits C s a w) (hgs : s.gs = []) (fs : List Foot) (hD : drawB (all.take n0) fs = true) (hZ : tail3B all n0 = true) (hlen : (all.take n0).length = fs.length)
  {R : Alg → (Nat → Atom) → St × List Ob}
  (hex : ∀ A X, (exec2 A T cs H X all (number 0 (all.take n0)) s).map (fun r => ((r.1.keep kp km, r.2.1), r.2.2)) = some (R A X, fs)) (hob : ∀ X, AO P C.K (R std X).2) (hQ : ∀ X a' w', Fits C (R std X).1 a' w' → wpList P all.toArray Q (all.drop n0) a' w') : (Code.region id all.toArray true).wp P Q a w := by
 simp only [drawB, Bool.and_eq_true] at hD
 obtain ⟨⟨d1, d2⟩, d3⟩ := hD
 simp only [tail3B, Bool.and_eq_true, Nat.ble_eq] at hZ
 obtain ⟨hn0, hZe, hZ⟩ := hZ
 refine wp_region_any hm ?_
 have hf : Fits C s a { w with drawn := w.drawn + 1 } := h.world (fun _ _ _ => rfl) (fun _ _ _ _ _ => rfl) ⟨h.chg.os, h.chg.tape, h.chg.output, h.chg.size, h.chg.block⟩ (fun _ _ _ hc _ => hc) (fun _ _ h _ => h)
 have hnl : ∀ (l : List Oper) (i : Nat), (number i l).length = l.length := by
  intro l
  induction l with
  | nil => intro i; rfl
  | cons o l ih => intro i; simp [number, ih]
 have htk : (all.take n0).length = n0 := by simp; omega
 have hsz : all.toArray.size = (number 0 (all.take n0)).length + (all.toArray.size - n0) := by rw [hnl, htk]; simp; omega
 have hgt : ∀ {k o}, (all.take n0)[k]? = some o → all[k]? = some o ∧ k < n0 := by
  intro k o hk
  have hlt := (List.getElem?_eq_some_iff.1 hk).1
  rw [htk] at hlt
  rw [List.getElem?_take, if_pos hlt] at hk
  exact ⟨hk, hlt⟩
 have hlst : ∀ k (b : Bool), k < all.length → (Array.replicate all.toArray.size false).getD k b = false := by
  intro k b hk
  have : k < all.toArray.size := by simpa using hk
  simp [Array.getD_eq_getD_getElem?, hk]
 have hmk : ∀ i j, edge (masks (all.take n0) []) i j = true → WaitsFor all i j := by
  intro i j hij
  have := masks_ok (all := all.take n0) (l := all.take n0) (tb := []) rfl (fun i j h => by simp at h) i j hij
  have conv : ∀ {i j}, WaitsFor (all.take n0) i j → WaitsFor all i j := by
   intro i j hw
   induction hw with
   | one h1 h2 h3 h4 => exact .one (hgt h1).1 h2 h3 h4
   | more h1 h2 h3 h4 ih => exact .more (hgt h1).1 h2 h3 ih
  exact conv this
 have ed : ∀ (L : List (Nat × Oper)), edgesB L = true → ∀ x ∈ L, ∀ e ∈ x.2.after.toList, Region.binds .any e = true → e.on < x.1 := by
  intro L
  induction L with
  | nil => intro _ x hx; cases hx
  | cons y L ih =>
   obtain ⟨i, o⟩ := y
   intro hL x hx e he hb
   simp only [edgesB, Bool.and_eq_true] at hL
   rcases List.mem_cons.1 hx with rfl | hx
   ·have := List.all_eq_true.1 hL.1 e he
    simpa [hb] using this
   exact ih hL.2 x hx e he hb
 have e0 : all.toArray.size = (Array.replicate all.toArray.size false).size := by simp
 rw [show wpAny P .any all.toArray Q all.toArray.size = wpAny P .any all.toArray Q ((number 0 (all.take n0)).length + (all.toArray.size - n0)) by rw [← hsz]]
 refine any3_ok (cs := cs) (all := all) (tb := masks (all.take n0) []) (tz := masks all []) hT rfl hmk (masks_ok (all := all) (l := all) (tb := []) rfl (fun i j h => by simp at h)) hH (n0 := n0) (fun k hk hk' j hj => ?_) (fun k o hk e he hb => ?_) (by simpa using hn0) _ (number 0 (all.take n0)) fs _ s a _ rfl hf (fun t p v hl => by rw [hgs] at hl; cases hl) ?_ ⟨by rw [hnl]; exact hlen, d1⟩ ?_ (number_sorted _ 0) ?_ ?_ ?_ ?_ ?_ ?_ ?_
 ·have := List.all_eq_true.1 hZ k (List.mem_range.2 (by simpa using hk'))
  simp only [Bool.or_eq_true, Nat.blt_eq] at this
  rcases this with h | h
  ·omega
  exact List.all_eq_true.1 h j (List.mem_range.2 hj)
 ·have := number_mem (i := 0) (l := all) (k := k) (o := o) (by simpa using hk)
  rw [Nat.zero_add] at this
  exact ed _ hZe (k, o) this e he hb
 ·exact ordB_ok d3
 ·intro k o hk hu
  exfalso
  rw [hlst k false (List.getElem?_eq_some_iff.1 hk).1] at hu
  cases hu
 ·intro x hx
  obtain ⟨h1, h2⟩ := number_get hx
  rw [Nat.sub_zero] at h2
  obtain ⟨h3, _⟩ := hgt h2
  exact ⟨by simpa using h3, hlst _ _ (List.getElem?_eq_some_iff.1 h3).1⟩
 ·intro k o hkn hk _
  have hk' : (all.take n0)[k]? = some o := by rw [List.getElem?_take, if_pos hkn]; simpa using hk
  have := number_mem (i := 0) (l := all.take n0) (k := k) (o := o) hk'
  rwa [Nat.zero_add] at this
 ·intro k _ hk
  exact hlst _ _ (by simpa using hk)
 ·intro x hx
  obtain ⟨h1, h2⟩ := number_get hx
  rw [Nat.sub_zero] at h2
  exact (hgt h2).2
 ·simp
 ·exact ed _ d2
 intro X
 obtain ⟨r, hr, e⟩ := Option.map_eq_some_iff.1 (hex std X)
 obtain ⟨τ, obs, fs'⟩ := r
 simp only [Prod.mk.injEq] at e
 obtain ⟨e1, rfl⟩ := e
 refine ⟨τ, obs, hr, ?_, fun a' w' hf' => hQ X a' w' ?_⟩
 ·have := hob X; rw [← e1] at this; exact this
 rw [← e1]; exact hf'.keep kp km
theorem drawn3_okB {s : St} {a : Act} {w : World} {id : Nat} {all : List Oper} {B : Alg} (hB : B = std) (n0 : Nat) (H : Hand) (hH : HandOK C P all H) (hm : P.follows .mixedOrders = true) (hT : TabOK P T) (kp km : List Nat) (cs : List (Nat × CS)) (h : Fits C s a w) (hgs : s.gs = []) (fs : List Foot) (hD : drawB (all.take n0) fs = true) (hZ : tail3B all n0 = true) (hlen : (all.take n0).length = fs.length)
  {R : Alg → (Nat → Atom) → St × List Ob}
  (hex : ∀ A X, (exec2 A T cs H X all (number 0 (all.take n0)) s).map (fun r => ((r.1.keep kp km, r.2.1), r.2.2)) = some (R A X, fs)) (hob : ∀ X, AO P C.K (R B X).2) (hQ : ∀ X a' w', Fits C (R B X).1 a' w' → wpList P all.toArray Q (all.drop n0) a' w') : (Code.region id all.toArray true).wp P Q a w := by
 subst hB
 exact drawn3_ok n0 H hH hm hT kp km cs h hgs fs hD hZ hlen hex hob hQ
end
section
variable {C : Cx} {P : Program} {Q : Exit → Act → World → Prop} {T : List (Nat × TI)} {s : St} {a : Act} {w : World} {B : Alg}
theorem d3 {id : Nat} {all : List Oper} {R : Alg → (Nat → Atom) → St × List Ob} {fs : List Foot} (n0 : Nat) (hB : B = std) (hT : TabOK P T) (kp km : List Nat) (cs : List (Nat × CS)) (h : Fits C s a w) (hQ : ∀ X a' w', Fits C (R B X).1 a' w' → wpList P all.toArray Q (all.drop n0) a' w') (hm : P.follows .mixedOrders = true := by kernel_rfl) (hgs : s.gs = [] := by rfl)
  (hex : ∀ A X, (exec2 A T cs none X all (number 0 (all.take n0)) s).map (fun r => ((r.1.keep kp km, r.2.1), r.2.2)) = some (R A X, fs) := by intro A X; conv => lhs; cbv) (hD : drawB (all.take n0) fs = true := by kernel_rfl) (hZ : tail3B all n0 = true := by kernel_rfl) (hlen : (all.take n0).length = fs.length := by rfl) (hob : ∀ X, AO P C.K (R B X).2 := by
   intro X; subst hB
   first
   | exact trivial
   | (simp only [AO, Ob.holds, BE.den] <;> and_intros <;> (repeat first | trivial | rfl | exact O1 | exact O2 | exact O3 | exact (fun _ _ => by kernel_rfl) | exact O1 _ _ _ rfl | exact O2 _ _ _ rfl | refine ⟨?_, ?_⟩ | intro h | decide | omega) <;> done)
   | (simp [AO, Ob.holds, BE.den, std, sC, sAr] <;> omega)) : (Code.region id all.toArray true).wp P Q a w := drawn3_okB hB n0 none handOK_none hm hT kp km cs h hgs fs hD hZ hlen hex hob hQ
end
theorem rounds_first {P : Program} {Q : Exit → Act → World → Prop} {c : Code} {n : Nat} {a : Act} {w : World} (h : c.wp P (Exit.then (Code.rounds P c Q n) Q) a w) : Code.rounds P c Q (n + 1) a w := h
theorem rounds_next {P : Program} {Q : Exit → Act → World → Prop} {c : Code} {n : Nat} {a : Act} {w : World} (h : c.wp P (Exit.then (Code.rounds P c Q n) Q) a w) : Exit.then (Code.rounds P c Q (n + 1)) Q .normal a w := h
inductive OutT where
 | ret (r : CR)
 | thr (t : Nat) (v : AV) (sets : List (Nat × List AV))
def TPost1 (m : Nat → Nat → Prop) (w : World) (pre : List (Nat × Blk)) (e : Ending) (w' : World) : OutT → Prop
 | .ret r => e = .returned r.v.den ∧ Ok (mN m r.news) w' r.v ∧ Left m w w' pre r.sets r.news
 | .thr t v sets => e = .panicked [{ v := .iface t v.den, recovered := false }] ∧ Ok m w' v ∧ Left m w w' pre sets []
def TPost (m : Nat → Nat → Prop) (w : World) (pre : List (Nat × Blk)) (out : Atom → OutT) (e : Ending) (w' : World) : Prop := ∃ x, TPost1 m w pre e w' (out x)
def SpecT (P : Program) (f : FuncId) (args : List AV) (pre : List (Nat × Blk)) (out : Atom → OutT) : Prop :=
 ∀ (m : Nat → Nat → Prop) (w : World), (∀ b o, m b o → b < w.heap.size) → (∀ v ∈ args, Ok m w v) → PreOk m w pre → Calls P f (args.map AV.den).toArray w (TPost m w pre out)
theorem SpecT.x {P : Program} {f : FuncId} {args : List AV} {pre : List (Nat × Blk)} {out : Atom → OutT} {res : Atom → CR} (h : SpecT P f args pre out) (e : ∀ x, out x = .ret (res x)) : SpecX P f args pre res := by
 intro m w h1 h2 h3
 refine (h m w h1 h2 h3).mono ?_
 rintro e' w' ⟨x, hx⟩
 rw [e x] at hx
 exact ⟨x, hx⟩
theorem SpecX.t {P : Program} {f : FuncId} {args : List AV} {pre : List (Nat × Blk)} {out : Atom → OutT} {res : Atom → CR} (h : SpecX P f args pre res) (e : ∀ x, out x = .ret (res x)) : SpecT P f args pre out := by
 intro m w h1 h2 h3
 refine (h m w h1 h2 h3).mono ?_
 rintro e' w' ⟨x, hx⟩
 exact ⟨x, by rw [e x]; exact hx⟩
theorem SpecT.res {P : Program} {f : FuncId} {args : List AV} {pre : List (Nat × Blk)} {out out' : Atom → OutT} (h : SpecT P f args pre out) (e : ∀ x, out x = out' x) : SpecT P f args pre out' := by
 have : out = out' := funext e
 exact this ▸ h
theorem mN_nil (m : Nat → Nat → Prop) : mN m [] = m := by
 funext b o
 apply propext
 exact ⟨fun h => h.resolve_right fun ⟨e, he, _⟩ => (by cases he), .inl⟩
def ReOutT (pre' : List (Nat × Blk)) : OutT → OutT → Prop
 | .ret r, .ret r' => r'.sets.map (·.2) = r.sets.map (·.2) ∧ r'.sets.map (·.1) = pre'.map (·.1) ∧ Sim r.v r'.v ∧ r'.news.map (·.2) = r.news.map (·.2)
 | .thr t v sets, .thr t' v' sets' => t' = t ∧ Sim v v' ∧ sets'.map (·.2) = sets.map (·.2) ∧ sets'.map (·.1) = pre'.map (·.1)
 | _, _ => False
theorem SpecT.re {P : Program} {f : FuncId} {args args' : List AV} {pre pre' : List (Nat × Blk)} {out out' : Atom → OutT} (h : SpecT P f args pre out) (ha : SimL args' args) (hp : pre'.map (·.2) = pre.map (·.2)) (hr : ∀ x, ReOutT pre' (out x) (out' x)) : SpecT P f args' pre' out' := by
 intro m w h1 h2 h3
 rw [ha.map]
 refine (h m w h1 (ha.ok h2) (h3.re hp.symm)).mono ?_
 rintro e w' ⟨x, hx⟩
 refine ⟨x, ?_⟩
 have hrx := hr x
 cases ho : out x with
 | ret r =>
  cases ho' : out' x with
  | ret r' =>
   rw [ho] at hx hrx
   rw [ho'] at hrx
   obtain ⟨r1, r2, r3, r4⟩ := hrx
   obtain ⟨rfl, hok, hl⟩ := hx
   have hm : mN m r'.news = mN m r.news := by funext b o; simp only [mN, ats_snd r4]
   exact ⟨by rw [r3.1], by rw [hm]; exact r3.2.2 _ _ hok, hl.re hp r1 r2 r4⟩
  | thr t v sets => rw [ho, ho'] at hrx; exact hrx.elim
 | thr t v sets =>
  cases ho' : out' x with
  | ret r' => rw [ho, ho'] at hrx; exact hrx.elim
  | thr t' v' sets' =>
   rw [ho] at hx hrx
   rw [ho'] at hrx
   obtain ⟨rfl, r3, r1, r2⟩ := hrx
   obtain ⟨rfl, hok, hl⟩ := hx
   exact ⟨by rw [r3.1], r3.2.2 _ _ hok, hl.re hp r1 r2 rfl⟩
section
variable {P : Program} {T : List (Nat × TI)} {s : St} {a : Act} {w : World}
theorem ret_t {Kk : Kn} (hT : TabOK P T) {m : Nat → Nat → Prop} {w0 : World} {pre : List (Nat × Blk)} (h : Fits ⟨m, w0, ats pre, [], Kk⟩ s a w) {fn : Func} {out : Atom → OutT} {rs : List ResultVar} (hfn : fn.results = rs.toArray) {r : List AV × List Ob} (hr : resL T s rs = some r) (ho : AO P Kk r.2)
  (x : Atom) {cr : CR} (hout : out x = .ret cr) (ks : List Nat) (he : Sim (can (resA r.1)) (can cr.v)) (hs : SetsOk s pre cr.sets) (hn : NewsOk s pre ks cr.news) : bodyPost P fn (TPost m w0 pre out) .ret a w ∧ bodyPost P fn (TPost m w0 pre out) .normal a w := by
 obtain ⟨h1, h2⟩ := left_ok h hs hn
 refine ret_ok hT h rfl hfn hr ho fun hv => ⟨x, ?_⟩
 rw [hout]
 exact ⟨by rw [← can_den (resA r.1), he.1, can_den], (can_ok _).2 (he.2.2 _ _ ((can_ok _).1 (h2 _ hv))), h1⟩
theorem thr_t {Kk : Kn} {m : Nat → Nat → Prop} {w0 : World} {pre : List (Nat × Blk)} (h : Fits ⟨m, w0, ats pre, [], Kk⟩ s a w) {fn : Func} {out : Atom → OutT} {t : Nat} {v v' : AV} (hok : Ok (s.m ⟨m, w0, ats pre, [], Kk⟩) w v) (x : Atom) {sets : List (Nat × List AV)} (hout : out x = .thr t v' sets) (hv : Sim v v') (hs : SetsOk s pre sets) :
  bodyPost P fn (TPost m w0 pre out) (.panic [{ v := .iface t v.den, recovered := false }]) a w := by
 obtain ⟨h1, h2⟩ := left_ok h hs (ks := []) (news := []) trivial
 refine ⟨h.defers, x, ?_⟩
 rw [hout]
 have := h2 _ (hv.2.2 _ _ hok)
 rw [mN_nil] at this
 exact ⟨by rw [hv.1], this, h1⟩
end
section
variable {C : Cx} {P : Program} {Q : Exit → Act → World → Prop} {T : List (Nat × TI)} {all : List Oper}
def goes (all : List Oper) (s : St) (o : Oper) : Bool := match o.guard with
 | none => true
 | some (j, want) => match (all[j]?).bind (·.dst) with
  | none => false
  | some g => match lookG s.gs g with
   | some _ => false
   | none => match look s.tmps g with
    | .bool .tt => want
    | .bool .ff => !want
    | _ => false
theorem goes_ok {s : St} {a : Act} {w : World} {o : Oper} (h : Fits C s a w) (hg : goes all s o = true) : Region.wanted o (yielded all.toArray a.tmps) = true := by
 unfold goes at hg
 split at hg
 ·rename_i hn; simp [Region.wanted, hn]
 rename_i j want hn
 split at hg
 ·cases hg
 rename_i g hd
 split at hg
 ·cases hg
 have hd' : ((all.toArray)[j]?).bind (·.dst) = some g := by simpa using hd
 have hs := h.slot g
 have key : ∀ b, a.tmps[g]? = some (.bool b) → b = want → Region.wanted o (yielded all.toArray a.tmps) = true := by
  intro b hb hw
  simp only [Region.wanted, hn, yielded, hd', Option.bind_some, hb, hw]
  simp
 split at hg
 ·rename_i e; rw [e] at hs
  exact key _ (hs rfl).1 hg.symm
 ·rename_i e; rw [e] at hs
  refine key _ (hs rfl).1 ?_
  cases want <;> first | rfl | cases hg
 cases hg
theorem man_outT {s : St} {a : Act} {w : World} {L rest : List Oper} {o : Oper} {c : Call} {g : Operand} {f : FuncId} {l r args args' : List AV} (hL : L = o :: rest) (hg : goes all s o = true) (hop : o.op = .call c) (hcal : c.callee = .value g) (h : Fits C s a w) (hgv : val s [] g = .fn f l r) (hl : vals s [] c.args.toList = some args) (hen : Enters P f)
  {pre : List (Nat × Blk)} {out : Atom → OutT} (hsp : SpecT P f args' pre out) (hsim : SimL (l ++ args ++ r) args') (hpre : ∀ e ∈ pre, lookM s.mem e.1 = some e.2) (hnd : nodupB pre = true) (hd : inNt s o.dst = true)
  (K : ∀ x w', match out x with
   | .ret cr => ∀ a', Fits C ((s.eff (.sets (upd pre cr.sets ++ cr.news))).put o.dst cr.v) a' w' → wpList P all.toArray Q rest a' w'
   | .thr t v sets => Fits C (s.eff (.sets (upd pre sets))) a w' → Ok ((s.eff (.sets (upd pre sets))).m C) w' v → Q (.panic [{ v := .iface t v.den, recovered := false }]) a w') : wpList P all.toArray Q L a w := by
 subst hL
 unfold wpList
 rw [if_pos (goes_ok h hg)]
 refine .inl ?_
 obtain ⟨hrun, hok⟩ := call_run hop hcal h hgv hl hen
 have hdist := nodup_dist h hnd hpre
 unfold Oper.wp
 rw [hrun]
 simp only [Oper.upon]
 have := hsp (s.m C) w (m_lt h) (hsim.ok hok) ⟨fun e he => (h.mem _ _ (hpre e he)).1, fun e he => (h.mem _ _ (hpre e he)).2.1, fun e he o => .inr (.inl ⟨e.1, e.2, hpre e he, rfl⟩), hdist⟩
 rw [← hsim.map] at this
 refine this.mono ?_
 rintro e w' ⟨x, hx⟩
 have hK := K x w'
 cases ho : out x with
 | ret cr =>
  rw [ho] at hx hK
  obtain ⟨rfl, g1, g2⟩ := hx
  obtain ⟨f1, f2⟩ := h.called hdist hpre g2
  refine hK _ (f1.put o.dst (fun t ht => ?_) cr.v (fun _ => f2 _ g1) _ fun _ => rfl)
  rw [eff_nt]; exact inNt_lt hd t ht
 | thr t v sets =>
  rw [ho] at hx hK
  obtain ⟨rfl, g1, g2⟩ := hx
  obtain ⟨f1, f2⟩ := h.called hdist hpre g2
  rw [List.append_nil] at f1 f2
  exact hK f1 (f2 _ (by rw [mN_nil]; exact g1))
end
end Go.Proofs.YtphmfjhmdajlmaaGreat.Sym
namespace Go.Proofs.YtphmfjhmdajlmaaGreat.Sym
open Go Go.RowKit
structure JobA where
 kind : Int
 lab : Lab
 key : Int
 hi : Int
 val : ByteArray
 most : Int
 pA : Option Addr
 pn : Nat
 pc : Nat
 pf : Nat → Int
 x1 : Int
 x2 : Int
 y1 : Int
 y2 : Int
 how : Int
 bucket : Int
 budget : Int
abbrev jobC (J : JobA) : List AV := [.int .i64 J.kind, .int .i64 J.lab.len, .int .u64 J.lab.bits, .int .u64 J.key, .int .u64 J.hi, .str J.val, .int .i64 J.most, .sl none J.pA J.pn J.pc 1 (fun i => [.int .i64 (J.pf i)]), .int .u32 J.x1, .int .u32 J.x2, .int .u32 J.y1, .int .u32 J.y2, .int .i64 J.how, .int .i64 J.bucket, .int .i64 J.budget]
abbrev jobV (J : JobA) : AV := .agg (jobC J)
abbrev runC (J : JobA) (A : Option Addr) (c : Nat) (p : Pst) : List AV := [.int .i64 J.kind, .int .i64 J.lab.len, .int .u64 J.lab.bits, .int .u64 J.key, .int .u64 J.hi, .str J.val, .int .i64 J.most, .sl none J.pA J.pn J.pc 1 (fun i => [.int .i64 (J.pf i)]), .int .u32 J.x1, .int .u32 J.x2, .int .u32 J.y1, .int .u32 J.y2, .int .i64 J.how, .int .i64 J.bucket, .int .i64 J.budget,
 .sl none A p.n c 8 (fun j => gotC (p.g j)), .int .i64 p.note.code, .bool (.v p.note.had), .str p.note.val, .sl none none 0 0 2 (fun _ => []), .int .u64 0, .bool .ff]
def ResA.abs (s : ResA) : Rsl := ⟨s.code, s.had, s.val, firsts s.f s.n, s.key, s.more⟩
def WntA.absQ (q : WntA) : Wq := ⟨q.kind, q.lab, q.ver, q.x.r.abs, q.s.abs⟩
def wqA (x : Atom) (w : Wq) : WntA := ⟨w.kind, w.lab, w.ver, ⟨x.A 1, x.c 1, w.r.rn⟩, ⟨w.res.code, w.res.had, w.res.val, x.A 2, w.res.items.length, x.c 2, itF w.res.items, w.res.key, w.res.more⟩⟩
theorem row_sim (A : Option Addr) (n c : Nat) (f : Nat → Itm) : Sim (.sl none A n c 2 (fun i => itC (f i))) (.sl none A (firsts f n).length c 2 (fun i => itC (itF (firsts f n) i))) :=
 Sim.resl (firsts_len f n).symm fun t ht => by rw [firsts_len] at ht; rw [firsts_get f n t ht]
theorem wnt_sim (q : WntA) (x : Atom) (h1 : x.A 1 = q.x.A) (h2 : x.c 1 = q.x.c) (h3 : x.A 2 = q.s.A) (h4 : x.c 2 = q.s.c) : Sim (wntV q) (wntV (wqA x q.absQ)) := by
 unfold wqA
 simp only [h1, h2, h3, h4]
 exact Sim.agg ⟨zr, zr, zr, zr, zr, row_sim _ _ _ _, zr, zr, zr, zr, zr, zr, row_sim _ _ _ _, zr, zr, trivial⟩
def outM {α : Type} (k0 : Nat) (J : JobA) (enc : α → AV) (r : Rs α) (x : Atom) : OutT := match r with
 | .ok a p => .ret ⟨enc a, [(k0, runC J (x.A 0) (x.c 0) p)], []⟩
 | .stop w p => .thr 40 (wntV (wqA x w)) [(k0, runC J (x.A 0) (x.c 0) p)]
theorem outM_re {α : Type} (k0 b : Nat) (J : JobA) (enc : α → AV) (r : Rs α) (x : Atom) (t : Nat) (cs : List AV) : ReOutT [(k0, ⟨b, t, cs⟩)] (outM 0 J enc r x) (outM k0 J enc r x) := by
 cases r with
 | ok a p => exact ⟨rfl, rfl, zr, rfl⟩
 | stop w p => exact ⟨rfl, zr, rfl, rfl⟩
structure JobOk (J : JobA) : Prop where
 lo : -1000000 ≤ J.budget
 hi : J.budget ≤ 1000000
 lab : U64 J.lab.bits
 key : U64 J.key
 hik : U64 J.hi
abbrev unitV : AV := .tup []
def RunS {α : Type} (f : FuncId) (k0 b : Nat) (J : JobA) (A : Option Addr) (c : Nat) (p : Pst) (args : List AV) (enc : α → AV) (r : Rs α) : Prop :=
 SpecT Tryz.prog f (.ptr k0 b 0 :: args) [(k0, ⟨b, 114, runC J A c p⟩)] (fun x => outM k0 J enc r x)
theorem RunS.ok {α : Type} {f : FuncId} {k0 b : Nat} {J : JobA} {A : Option Addr} {c : Nat} {p q : Pst} {args : List AV} {enc : α → AV} {r : Rs α} {a : α} (h : RunS f k0 b J A c p args enc r) (e : r = .ok a q) :
  SpecX Tryz.prog f (.ptr k0 b 0 :: args) [(k0, ⟨b, 114, runC J A c p⟩)] (fun x => ⟨enc a, [(k0, runC J (x.A 0) (x.c 0) q)], []⟩) := by
 subst e
 exact SpecT.x h fun _ => rfl
theorem RunS.stop {α : Type} {f : FuncId} {k0 b : Nat} {J : JobA} {A : Option Addr} {c : Nat} {p q : Pst} {args : List AV} {enc : α → AV} {r : Rs α} {w : Wq} (h : RunS f k0 b J A c p args enc r) (e : r = .stop w q) :
  SpecT Tryz.prog f (.ptr k0 b 0 :: args) [(k0, ⟨b, 114, runC J A c p⟩)] (fun x => .thr 40 (wntV (wqA x w)) [(k0, runC J (x.A 0) (x.c 0) q)]) := by
 subst e
 exact h
theorem RunS.re {α : Type} {f : FuncId} {k0 b : Nat} {J : JobA} {A : Option Addr} {c : Nat} {p : Pst} {args args' : List AV} {enc : α → AV} {r : Rs α} (h : RunS f 0 b J A c p args enc r) (ha : SimL args' args) : RunS f k0 b J A c p args' enc r :=
 SpecT.re h ⟨Sim.ptr, ha⟩ rfl fun x => outM_re _ _ _ _ _ _ _ _
section
variable {P : Program} {T : List (Nat × TI)} {s : St} {a : Act} {w : World} {α : Type} {Kk : Kn} {m : Nat → Nat → Prop} {w0 : World} {b k0 ty : Nat} {cs : List AV} {fn : Func} {enc : α → AV} {J : JobA} {r : Rs α}
theorem thr_m (h : Fits ⟨m, w0, ats [(k0, ⟨b, ty, cs⟩)], [], Kk⟩ s a w) {x : Atom} {wq : Wq} {q : Pst} (hok : Ok (s.m ⟨m, w0, ats [(k0, ⟨b, ty, cs⟩)], [], Kk⟩) w (wntV (wqA x wq))) (hr : r = .stop wq q) (hs : SetsOk s [(k0, ⟨b, ty, cs⟩)] [(k0, runC J (x.A 0) (x.c 0) q)]) :
  bodyPost P fn (TPost m w0 [(k0, ⟨b, ty, cs⟩)] (fun x => outM k0 J enc r x)) (.panic [{ v := .iface 40 (wntV (wqA x wq)).den, recovered := false }]) a w := by
 subst hr
 exact thr_t h hok x rfl (zr) hs
theorem ret_mm (hT : TabOK P T) (h : Fits ⟨m, w0, ats [(k0, ⟨b, ty, cs⟩)], [], Kk⟩ s a w) {rs : List ResultVar} (hfn : fn.results = rs.toArray) {rr : List AV × List Ob} (hrr : resL T s rs = some rr) (ho : AO P Kk rr.2)
  {v : α} {q : Pst} (A : Option Addr) (c : Nat) (hr : r = .ok v q) (he : Sim (can (resA rr.1)) (can (enc v))) (hs : SetsOk s [(k0, ⟨b, ty, cs⟩)] [(k0, runC J A c q)]) :
  bodyPost P fn (TPost m w0 [(k0, ⟨b, ty, cs⟩)] (fun x => outM k0 J enc r x)) .ret a w ∧ bodyPost P fn (TPost m w0 [(k0, ⟨b, ty, cs⟩)] (fun x => outM k0 J enc r x)) .normal a w := by
 subst hr
 exact ret_t hT h hfn hrr ho ⟨0, fun _ => A, fun _ => c, fun _ => .empty⟩ rfl [] he hs trivial
end
theorem ok_ifc {m : Nat → Nat → Prop} {w : World} {t : Nat} {v : AV} (h : Ok m w (.ifc t v)) : Ok m w v := by cases h with | ifc _ _ h => exact h
abbrev innV : AV := .agg [.int .i64 2, .sl none none 0 0 2 (fun _ => []), .int .i64 (-1), .int .u64 0, .int .u64 0]
def anyF (n : Nat) (f : Nat → Int) (v : Int) : Bool := (List.range n).any fun i => decide (f i = v)
theorem anyF_at {n : Nat} {f : Nat → Int} {v : Int} {i : Nat} (hi : i < n) (h : f i = v) : anyF n f v = true := List.any_eq_true.2 ⟨i, List.mem_range.2 hi, by simp [h]⟩
theorem anyF_no {n : Nat} {f : Nat → Int} {v : Int} (h : ∀ j, j < n → f j ≠ v) : anyF n f v = false := by
 rw [Bool.eq_false_iff]
 intro ha
 obtain ⟨i, hi, he⟩ := List.any_eq_true.1 ha
 exact h i (List.mem_range.1 hi) (of_decide_eq_true he)
theorem anyF1 (f : Nat → Int) (v : Int) : anyF 1 f v = decide (f 0 = v) := by
 show (decide (f 0 = v) || false) = _
 exact Bool.or_false _
theorem anyF2 (f : Nat → Int) (v : Int) : anyF 2 f v = (decide (f 0 = v) || decide (f 1 = v)) := by
 show (decide (f 0 = v) || (decide (f 1 = v) || false)) = _
 rw [Bool.or_false]
theorem dcomm (a b : Int) : decide (a = b) = decide (b = a) := decide_eq_decide.2 ⟨Eq.symm, Eq.symm⟩
section
variable {P : Program} {T : List (Nat × TI)} {s : St} {a : Act} {w : World} {α : Type} {Kk : Kn} {m : Nat → Nat → Prop} {w0 : World} {b k0 ty : Nat} {cs : List AV} {fn : Func} {enc : α → AV} {J : JobA} {r : Rs α} {rs : List ResultVar} {rr : List AV × List Ob} {B : Alg}
theorem RunS.two {f : FuncId} {A : Option Addr} {c : Nat} {p : Pst} {args : List AV} (h : RunS f k0 b J A c p args enc r) (hf : Fro p r) (hp : PstOk p) (hn : p.n ≤ 1000000) :
  (∃ wq q, r = .stop wq q ∧ SpecT Tryz.prog f (.ptr k0 b 0 :: args) [(k0, ⟨b, 114, runC J A c p⟩)] (fun x => .thr 40 (wntV (wqA x wq)) [(k0, runC J (x.A 0) (x.c 0) q)])) ∨
  ∃ v q, r = .ok v q ∧ Suf p q ∧ PstOk q ∧ q.n ≤ 1000000 ∧ SpecX Tryz.prog f (.ptr k0 b 0 :: args) [(k0, ⟨b, 114, runC J A c p⟩)] (fun x => ⟨enc v, [(k0, runC J (x.A 0) (x.c 0) q)], []⟩) := by
 cases hr : r with
 | ok v q => have hs := hf.of hr; exact .inr ⟨v, q, rfl, hs, hp.suf hs, Nat.le_trans hs.le hn, h.ok hr⟩
 | stop wq q => exact .inl ⟨wq, q, rfl, h.stop hr⟩
abbrev rc (J : JobA) (v : AV) (q : Pst) : CS := .x fun x => ⟨v, [(0, runC J (x.A 0) (x.c 0) q)], []⟩
theorem thm (h : Fits ⟨m, w0, ats [(k0, ⟨b, ty, cs⟩)], [], Kk⟩ s a w) {x : Atom} {wq : Wq} {q : Pst} (hok : Ok (s.m ⟨m, w0, ats [(k0, ⟨b, ty, cs⟩)], [], Kk⟩) w (wntV (wqA x wq))) (hr : r = .stop wq q) (hs : SetsOk s [(k0, ⟨b, ty, cs⟩)] [(k0, runC J (x.A 0) (x.c 0) q)] := by exact ⟨rfl, ⟨_, rfl, zl⟩, trivial⟩) :
  bodyPost P fn (TPost m w0 [(k0, ⟨b, ty, cs⟩)] (fun x => outM k0 J enc r x)) (.panic [{ v := .iface 40 (wntV (wqA x wq)).den, recovered := false }]) a w := thr_m h hok hr hs
theorem rmm (hB : B = std) (hT : TabOK P T) (h : Fits ⟨m, w0, ats [(k0, ⟨b, ty, cs⟩)], [], Kk⟩ s a w) {v : α} {q : Pst} (A : Option Addr) (c : Nat) (hr0 : r = .ok v q) (hfn : fn.results = rs.toArray := by rfl) (hr : resL T s rs = some rr := by first | rfl | (conv => lhs; cbv)) (ho : AO P Kk rr.2 := by first | exact trivial | (subst hB; simp [AO, Ob.holds]))
  (he : Sim (can (resA rr.1)) (can (enc v)) := by subst hB; exact zr) (hs : SetsOk s [(k0, ⟨b, ty, cs⟩)] [(k0, runC J A c q)] := by subst hB; exact ⟨rfl, ⟨_, rfl, zl⟩, trivial⟩) :
  bodyPost P fn (TPost m w0 [(k0, ⟨b, ty, cs⟩)] (fun x => outM k0 J enc r x)) .ret a w ∧ bodyPost P fn (TPost m w0 [(k0, ⟨b, ty, cs⟩)] (fun x => outM k0 J enc r x)) .normal a w := ret_mm hT h hfn hr ho A c hr0 he hs
end
section
variable {C : Cx} {P : Program} {Q : Exit → Act → World → Prop} {T : List (Nat × TI)} {s : St} {a : Act} {w : World} {B : Alg} {f : FuncId} {k : Nat} {blk : Blk} {ty : Nat} {v : Atom → AV} {sets : Atom → List (Nat × List AV)} {args' : List AV} {id : Nat} {all rest : List Oper} {R : Alg → (Nat → Atom) → St × List Ob} {fs : List Foot} {o : Oper} {c : Call} {g : Operand} {l r args : (Nat → Atom) → List AV}
theorem stp (i : Nat) (hB : B = std) (hT : TabOK P T) (kp km : List Nat) (cs : List (Nat × CS)) (h : Fits C s a w) (hsp : SpecT P f args' [(k, blk)] (fun x => .thr ty (v x) (sets x)))
  (K : ∀ X x a w', Fits C ((R B X).1.eff (.sets (upd [(k, blk)] (sets x)))) a w' → Ok (((R B X).1.eff (.sets (upd [(k, blk)] (sets x)))).m C) w' (v x) → Q (.panic [{ v := .iface ty (v x).den, recovered := false }]) a w')
  (hex : ∀ A X, (exec A T cs X all (number 0 (all.take i)) s).map (fun r => (r.1.keep kp km, r.2.1)) = some (R A X) := by intro A X; conv => lhs; cbv) (hob : ∀ X, AO P C.K (R B X).2 := by
   intro X; subst hB
   first
   | exact trivial
   | (simp only [AO, Ob.holds, BE.den] <;> and_intros <;> (repeat first | trivial | rfl | exact O1 | exact O2 | exact O3 | exact (fun _ _ => by kernel_rfl) | exact O1 _ _ _ rfl | exact O2 _ _ _ rfl | refine ⟨?_, ?_⟩ | intro h | decide | omega) <;> done)
   | (simp [AO, Ob.holds, BE.den, std, sC, sAr] <;> omega))
  (hL : all.drop i = o :: rest := by rfl) (hop : o.op = .call c := by rfl) (hcal : c.callee = .value g := by rfl) (hg : ∀ X, goes all (R B X).1 o = true := by intro X; rfl) (hgv : ∀ X, val (R B X).1 [] g = .fn f (l X) (r X) := by intro X; rfl) (hl : ∀ X, vals (R B X).1 [] c.args.toList = some (args X) := by intro X; rfl) (hsim : ∀ X, SimL (l X ++ args X ++ r X) args' := by intro X; subst hB; exact zl)
  (hpre : ∀ X, lookM (R B X).1.mem k = some blk := by intro X; rfl) (hd : ∀ X, inNt (R B X).1 o.dst = true := by intro X; rfl) (hen : Enters P f := by exact fun _ _ => by kernel_rfl) : (Code.region id all.toArray false).wp P Q a w :=
 wp_region_lit (list_preB 0 i hB hT kp km cs h hex hob fun X a1 w1 hF => man_outT hL (hg X) hop hcal hF (hgv X) (hl X) hen hsp (hsim X) (mem1 (hpre X)) rfl (hd X) fun x w' hF hok => K X x _ w' hF hok)
theorem stpD (i : Nat) (hB : B = std) (hT : TabOK P T) (kp km : List Nat) (cs : List (Nat × CS)) (h : Fits C s a w) (hsp : SpecT P f args' [(k, blk)] (fun x => .thr ty (v x) (sets x)))
  (K : ∀ X x a w', Fits C ((R B X).1.eff (.sets (upd [(k, blk)] (sets x)))) a w' → Ok (((R B X).1.eff (.sets (upd [(k, blk)] (sets x)))).m C) w' (v x) → Q (.panic [{ v := .iface ty (v x).den, recovered := false }]) a w')
  (hm : P.follows .mixedOrders = true := by kernel_rfl) (hgs : s.gs = [] := by rfl) (hex : ∀ A X, (exec2 A T cs none X all (number 0 (all.take i)) s).map (fun r => ((r.1.keep kp km, r.2.1), r.2.2)) = some (R A X, fs) := by intro A X; conv => lhs; cbv) (hD : drawB (all.take i) fs = true := by kernel_rfl) (hZ : tail3B all i = true := by kernel_rfl) (hlen : (all.take i).length = fs.length := by rfl) (hob : ∀ X, AO P C.K (R B X).2 := by
   intro X; subst hB
   first
   | exact trivial
   | (simp only [AO, Ob.holds, BE.den] <;> and_intros <;> (repeat first | trivial | rfl | exact O1 | exact O2 | exact O3 | exact (fun _ _ => by kernel_rfl) | exact O1 _ _ _ rfl | exact O2 _ _ _ rfl | refine ⟨?_, ?_⟩ | intro h | decide | omega) <;> done)
   | (simp [AO, Ob.holds, BE.den, std, sC, sAr] <;> omega))
  (hL : all.drop i = o :: rest := by rfl) (hop : o.op = .call c := by rfl) (hcal : c.callee = .value g := by rfl) (hg : ∀ X, goes all (R B X).1 o = true := by intro X; rfl) (hgv : ∀ X, val (R B X).1 [] g = .fn f (l X) (r X) := by intro X; rfl) (hl : ∀ X, vals (R B X).1 [] c.args.toList = some (args X) := by intro X; rfl) (hsim : ∀ X, SimL (l X ++ args X ++ r X) args' := by intro X; subst hB; exact zl)
  (hpre : ∀ X, lookM (R B X).1.mem k = some blk := by intro X; rfl) (hd : ∀ X, inNt (R B X).1 o.dst = true := by intro X; rfl) (hen : Enters P f := by exact fun _ _ => by kernel_rfl) : (Code.region id all.toArray true).wp P Q a w :=
 drawn3_okB hB i none handOK_none hm hT kp km cs h hgs fs hD hZ hlen hex hob fun X a1 w1 hF => man_outT hL (hg X) hop hcal hF (hgv X) (hl X) hen hsp (hsim X) (mem1 (hpre X)) rfl (hd X) fun x w' hF hok => K X x _ w' hF hok
end
theorem par1_s (l : Lab) (hL : isL l = true) (hb0 : U64 l.bits) (h0 : l.len ≠ 0) : Spec Tryz.prog 198 [labAV l, .int .u64 ((2 ^ (64 - l.len.toNat) : Nat) : Int)] (fun _ => labAV (parL l)) := by
 intro m w hm hargs
 obtain ⟨hl0, hl1, hl2⟩ := lab_parts hL
 have e2 := andNot_bit hL hb0 h0
 obtain ⟨bt, hbt⟩ := eqv (((2 ^ (64 - l.len.toNat) : Nat) : Int))
 rw [← hbt] at hargs e2 ⊢
 simp only [labAV] at hargs
 refine en 13 hm hargs Tryz.func198 fun B hB a0 hF => ?_
 refine wp_seq (rg hB TA_ok [1, 2, 4] [2, 4] [] hF fun X0 a0 w1 hF => ?_)
 refine wp_seq (rg hB TA_ok [4] [4] [] hF fun X1 a0 w1 hF => ?_)
 refine wp_ret ((rsi hB TA_ok hF nAt (he := ?_)))
 subst hB
 have e1 : IntKind.i64.wrap (l.len - 1) = l.len - 1 := wrap_in (by omega) (by omega)
 refine Sim.agg ⟨?_, ?_, trivial⟩
 ·show Sim (.int .i64 (IntKind.i64.wrap (l.len - 1))) _
  rw [e1]; exact zr
 show Sim (.int .u64 (sAr .andNot .u64 l.bits bt)) _
 rw [e2]; exact zr
theorem lastp_s (l : Lab) (hb0 : U64 l.bits) : Spec Tryz.prog 197 [labAV l, .fn 198 [] []] (fun _ => .tup [labAV (parV l), .int .i64 (parE l)]) := by
 intro m w hm hargs
 have SI := isL_s l hb0
 simp only [labAV] at SI hargs ⊢
 obtain ⟨il, hil⟩ := eqv (isL l)
 rw [← hil] at SI
 refine en 23 hm hargs Tryz.func197 fun B hB a0 hF => ?_
 refine wp_seq (rg hB TA_ok [1, 2, 4] [2, 4] [] hF fun X0 a0 w1 hF => ?_)
 have O1 := SI
 refine wp_seq (wp_block (wp_seq (rg hB TA_ok [6, 1, 2, 4] [2, 4] [(1, .r fun _ => .bool (.v il))] hF fun X1 a0 w1 hF => ?_)))
 apply test_ok hF rfl <;> intro hb hF
 ·have hilf : il = false := by subst hB; cases il <;> first | rfl | (simp [std] at hb)
  have hE : parE l = 1 := by unfold parE; rw [← hil, hilf]; rfl
  have hV : parV l = ⟨0, 0⟩ := by unfold parV; rw [hE]; rfl
  refine wp_seq (rg hB TA_ok [4, 5] [4] [] hF fun X2 a0 w1 hF => ?_)
  refine wp_ret ((rsi hB TA_ok hF nAt (he := ?_)))
  subst hB
  rw [hV, hE]
  exact zr
 have hilt : il = true := by subst hB; cases il <;> first | rfl | (simp [std] at hb)
 have hLt : isL l = true := by rw [← hil]; exact hilt
 obtain ⟨hl0, hl1, hl2⟩ := lab_parts hLt
 refine wp_seq (rg hB TA_ok [11, 1, 2, 4] [2, 4] [] hF fun X3 a0 w1 hF => ?_)
 apply test_ok hF rfl <;> intro hb hF
 ·have h0 : l.len = 0 := by subst hB; simpa [std, sC] using hb
  have hE : parE l = 7 := by unfold parE; rw [← hil, hilt, if_neg (by decide), if_pos h0]
  have hV : parV l = ⟨0, 0⟩ := by unfold parV; rw [hE]; rfl
  refine wp_seq (rg hB TA_ok [4, 5] [4] [] hF fun X4 a0 w1 hF => ?_)
  refine wp_ret ((rsi hB TA_ok hF nAt (he := ?_)))
  subst hB
  rw [hV, hE]
  exact zr
 have h0 : ¬ l.len = 0 := by subst hB; simpa [std, sC] using hb
 have hE : parE l = 0 := by unfold parE; rw [← hil, hilt, if_neg (by decide), if_neg h0]
 have hV : parV l = parL l := by unfold parV; rw [hE]; rfl
 have SB := bit_s (l.len - 1) (by omega) (by omega)
 rw [show 63 - (l.len - 1).toNat = 64 - l.len.toNat by omega] at SB
 have S1 := par1_s l hLt hb0 h0
 simp only [labAV] at S1
 have e1 : IntKind.i64.wrap (l.len - 1) = l.len - 1 := wrap_in (by omega) (by omega)
 rw [← e1] at SB
 obtain ⟨bt, hbt⟩ := eqv (((2 ^ (64 - l.len.toNat) : Nat) : Int))
 rw [← hbt] at SB S1
 obtain ⟨k, hk⟩ := eqv (parL l)
 rw [← hk] at S1 hV
 have O1 := SB
 have O2 := S1
 refine wp_skip (wp_seq (drg hB TA_ok [4, 5] [4] [(5, .r fun _ => .int .u64 bt), (6, .r fun _ => .agg [.int .i64 k.len, .int .u64 k.bits])] hF fun X5 a0 w1 hF => ?_))
 refine wp_ret ((rsi hB TA_ok hF nAt (he := ?_)))
 subst hB
 rw [hV, hE]
 exact zr
theorem par_s (l : Lab) (hb0 : U64 l.bits) : Spec Tryz.prog 139 [labAV l] (fun _ => .tup [labAV (parV l), .int .i64 (parE l)]) := by
 intro m w hm hargs
 have SI := lastp_s l hb0
 simp only [labAV] at SI hargs ⊢
 obtain ⟨k, hk⟩ := eqv (parV l)
 rw [← hk] at SI ⊢
 obtain ⟨q, hq⟩ := eqv (parE l)
 rw [← hq] at SI ⊢
 refine en 8 hm hargs Tryz.func139 fun B hB a0 hF => ?_
 refine wp_seq (rg hB TA_ok [1, 2] [1, 2] [] hF fun X0 a0 w1 hF => ?_)
 have O1 := SI
 refine wp_seq (rg hB TA_ok [2, 3] [2] [(1, .r fun _ => .tup [.agg [.int .i64 k.len, .int .u64 k.bits], .int .i64 q])] hF fun X1 a0 w1 hF => ?_)
 exact wp_ret ((rsp hB TA_ok hF nAt).1)
theorem rpar_s (l : Lab) (hb0 : U64 l.bits) : Spec Tryz.prog 167 [labAV l] (fun _ => .tup [labAV (parV l), .int .i64 (parE l)]) := by
 intro m w hm hargs
 have SI := risL_s l hb0
 simp only [labAV] at SI hargs ⊢
 obtain ⟨il, hil⟩ := eqv (isL l)
 rw [← hil] at SI
 refine en 19 hm hargs Tryz.func167 fun B hB a0 hF => ?_
 refine wp_seq (rg hB TA_ok [1, 2] [1, 2] [] hF fun X0 a0 w1 hF => ?_)
 have O1 := SI
 refine wp_seq (wp_seq (rg hB TA_ok [6, 1, 2] [1, 2] [(1, .r fun _ => .bool (.v il))] hF fun X1 a0 w1 hF => ?_))
 apply test_ok hF rfl <;> intro hb hF
 ·have hilf : il = false := by subst hB; cases il <;> first | rfl | (simp [std] at hb)
  have hE : parE l = 1 := by unfold parE; rw [← hil, hilf]; rfl
  have hV : parV l = ⟨0, 0⟩ := by unfold parV; rw [hE]; rfl
  refine wp_seq (rg hB TA_ok [2, 3] [2] [] hF fun X2 a0 w1 hF => ?_)
  refine wp_ret ((rsi hB TA_ok hF nAt (he := ?_)))
  subst hB
  rw [hV, hE]
  exact zr
 have hilt : il = true := by subst hB; cases il <;> first | rfl | (simp [std] at hb)
 have hLt : isL l = true := by rw [← hil]; exact hilt
 obtain ⟨hl0, hl1, hl2⟩ := lab_parts hLt
 refine wp_skip (wp_seq (wp_seq (rg hB TA_ok [10, 1, 2] [1, 2] [] hF fun X3 a0 w1 hF => ?_)))
 apply test_ok hF rfl <;> intro hb hF
 ·have h0 : l.len = 0 := by subst hB; simpa [std, sC] using hb
  have hE : parE l = 7 := by unfold parE; rw [← hil, hilt, if_neg (by decide), if_pos h0]
  have hV : parV l = ⟨0, 0⟩ := by unfold parV; rw [hE]; rfl
  refine wp_seq (rg hB TA_ok [2, 3] [2] [] hF fun X4 a0 w1 hF => ?_)
  refine wp_ret ((rsi hB TA_ok hF nAt (he := ?_)))
  subst hB
  rw [hV, hE]
  exact zr
 have h0 : ¬ l.len = 0 := by subst hB; simpa [std, sC] using hb
 have hE : parE l = 0 := by unfold parE; rw [← hil, hilt, if_neg (by decide), if_neg h0]
 have hV : parV l = parL l := by unfold parV; rw [hE]; rfl
 have SD := rbits_s l hb0 hl0 hl1
 simp only [labAV] at SD
 obtain ⟨d, hd⟩ := eqv (mkB (digs l.bits l.len.toNat))
 rw [← hd] at SD
 have hds : d.size = l.len.toNat := by rw [hd, mk_size]; exact digs_len _ (by omega)
 have hdx : unB (d.extract 0 (l.len - 1).toNat) = (lowB 64 l.bits.toNat).take (l.len.toNat - 1) := by
  rw [hd, mk_extract, un_mk, List.drop_zero]; unfold digs; rw [List.take_take]; congr 1; omega
 have hxs : (d.extract 0 (l.len - 1).toNat).size = l.len.toNat - 1 := by rw [ByteArray.size_extract]; omega
 have SO := of_s (d.extract 0 (l.len - 1).toNat) (fun x hx => by rw [hdx] at hx; exact lowB_mem x (List.mem_of_mem_take hx)) (by omega)
 have hk0 : ofT (d.extract 0 (l.len - 1).toNat) = parL l := by
  unfold ofT parL; rw [hdx, hxs, of_head (u64_lt hb0) (by omega)]; congr 1; omega
 rw [hk0] at SO
 simp only [labAV] at SO
 have e1 : IntKind.i64.wrap (l.len - 1) = l.len - 1 := wrap_in (by omega) (by omega)
 rw [← e1] at SO
 obtain ⟨k, hk⟩ := eqv (parL l)
 rw [← hk] at SO hV
 refine wp_skip (wp_seq ?_)
 refine drg hB TA_ok [2, 3] [2] [(1, .r fun _ => .str d), (6, .r fun _ => .agg [.int .i64 k.len, .int .u64 k.bits])] hF (hob := by intro X; subst hB; simp only [AO, Ob.holds, BE.den] <;> and_intros <;> repeat first | trivial | rfl | exact SD | exact SO | exact ⟨by decide, (show (0 : Int) ≤ IntKind.i64.wrap (l.len - 1) by omega), (show IntKind.i64.wrap (l.len - 1) ≤ (d.size : Int) by omega)⟩ | exact (show (0 : Int) ≤ IntKind.i64.wrap (l.len - 1) by omega) | exact (show IntKind.i64.wrap (l.len - 1) ≤ (d.size : Int) by omega) | exact (fun _ _ => by kernel_rfl) | refine ⟨?_, ?_⟩ | intro h | decide) fun X5 a0 w1 hF => ?_
 refine wp_ret ((rsi hB TA_ok hF nAt (he := ?_)))
 subst hB
 rw [hV, hE]
 exact zr
theorem idxi_s (A : Option Addr) (n c : Nat) (f : Nat → Int) (v : Int) : Spec Tryz.prog 141 [.sl none A n c 1 (fun i => [.int .i64 (f i)]), .int .i64 v] (fun x => .int .i64 (if anyF n f v then (x.b : Int) else -1)) := by
 intro m w hm hargs
 have hlen := ok_len (hargs (.sl none A n c 1 (fun i => [.int .i64 (f i)])) (by simp))
 have hmx : maxLen = 9223372036854775807 := rfl
 refine en 19 hm hargs Tryz.func141 fun B hB a0 hF => ?_
 refine wp_seq (rg hB TA_ok [0, 1] [] [] hF fun X0 a0 w1 hF => ?_)
 refine wp_seq (wp_seq (rg hB TA_ok [8, 0, 1, 7] [] [] hF fun X1 a0 w1 hF => ?_))
 refine wp_block (loop_pre (ι := Nat) (fun p => [(8, .int .i64 (p : Int))]) (fun p => []) (fun p => []) (fun p => p ≤ n ∧ ∀ j, j < p → f j ≠ v) (fun p => n - p) 0 ⟨Nat.zero_le _, fun i hi => absurd hi (Nat.not_lt_zero _)⟩ hF ?_)
 rintro i ⟨hi, hall⟩ a0 w1 hF
 try dsimp only at hi
 try dsimp only at hall
 refine wp_seq (rg hB TA_ok [9, 0, 1, 7, 8] [] [] hF fun X2 a0 w1 hF => ?_)
 refine wp_seq (test_ok hF rfl (fun hb hF => ?_) (fun hb hF => ?_))
 ·have hin : i < n := by
   have : (i : Int) < (n : Int) := by subst hB; simpa [std, sC] using hb
   omega
  refine wp_skip (wp_seq (wp_block (wp_seq (rg hB TA_ok [0, 1, 5, 7, 8] [] [] hF fun X3 a0 w1 hF => ?_))))
  apply wp_seq
  refine rg hB TA_ok [16, 0, 1, 5, 7, 8] [] [] hF (hob := by intro X; subst hB; simp only [AO, Ob.holds, BE.den] <;> and_intros <;> repeat first | trivial | rfl | exact (show (0 : Int) ≤ (i : Int) by omega) | exact (show (i : Int) < (n : Int) by omega) | exact (fun _ _ => by kernel_rfl) | refine ⟨?_, ?_⟩ | intro h | exact Int.le_refl _ | decide | omega) fun X4 a0 w1 hF => ?_
  apply test_ok hF rfl <;> intro hb hF
  ·have heq : f i = v := by
    have : (v == f i) = true := by subst hB; exact hb
    simpa using (beq_iff_eq.1 this).symm
   refine wp_seq (rg hB TA_ok [4] [] [] hF fun X5 a0 w1 hF => ?_)
   refine wp_ret ((rsp hB TA_ok hF (⟨i, fun _ => none, fun _ => 0, fun _ => .empty⟩) (he := ?_)).1)
   subst hB
   rw [anyF_at hin heq]; rfl
  have hne : f i ≠ v := by
   have : (v == f i) = false := by subst hB; exact hb
   intro h; rw [h] at this; simp at this
  refine wp_skip (rg hB TA_ok [8, 0, 1, 7] [] [] hF fun X6 a0 w1 hF => ?_)
  have e : B.arith .add .i64 (i : Int) 1 = ((i + 1 : Nat) : Int) := by subst hB; exact wrap_succ (n := n) hin (by omega)
  refine ⟨i + 1, ⟨by omega, fun j hj => ?_⟩, by omega, by rw [← e]; exact hF⟩
  by_cases hij : j = i
  ·rw [hij]; exact hne
  exact hall j (by omega)
 have hout : i = n := by
  have : ¬ (i : Int) < (n : Int) := by subst hB; simpa [std, sC] using hb
  omega
 refine wp_exit (wp_seq (rg hB TA_ok [4] [] [] hF fun X7 a0 w1 hF => ?_))
 refine wp_ret ((rsp hB TA_ok hF nAt (he := ?_)).1)
 subst hB
 rw [hout] at hall
 rw [anyF_no hall]; rfl
theorem coni_s (A : Option Addr) (n c : Nat) (f : Nat → Int) (v : Int) : Spec Tryz.prog 72 [.sl none A n c 1 (fun i => [.int .i64 (f i)]), .int .i64 v] (fun _ => .bool (.v (anyF n f v))) := by
 intro m w hm hargs
 have S0 := idxi_s A n c f v
 obtain ⟨q, hq⟩ := eqv (anyF n f v)
 rw [← hq] at S0 ⊢
 have S : ∀ x : Atom, ∃ z : Int, z = (if q = true then (x.b : Int) else -1) := fun x => ⟨_, rfl⟩
 refine en 9 hm hargs Tryz.func72 fun B hB a0 hF => ?_
 refine wp_seq (rg hB TA_ok [0, 1] [] [] hF fun X0 a0 w1 hF => ?_)
 have O1 := S0
 refine wp_seq (rg hB TA_ok [4] [] [(2, .r fun x => .int .i64 (if q = true then (x.b : Int) else -1))] hF fun X1 a0 w1 hF => ?_)
 refine wp_ret ((rsi hB TA_ok hF nAt (he := ?_)))
 subst hB
 refine Sim.bool ?_
 show decide ((if q = true then (((X1 2).b : Nat) : Int) else -1) ≥ 0) = q
 cases q
 ·rfl
 simp
theorem is10 (g : GotA) (A : Option Addr) (k : Int) (f : Nat → Int) (h0 : f 0 = k) : Spec Tryz.prog 133 [gotV g, .sl none A 1 1 1 (fun i => [.int .i64 (f i)])] (fun _ => .bool (.v (gk g k))) := by
 intro m w hm hargs
 have S := coni_s A 1 1 f g.x.r.kd
 obtain ⟨q, hq⟩ := eqv (anyF 1 f g.x.r.kd)
 rw [← hq] at S
 refine en 14 hm hargs Tryz.func133 fun B hB a0 hF => ?_
 refine wp_seq (rg hB TA_ok [1, 2] [2] [] hF fun X0 a0 w1 hF => ?_)
 have O1 := S
 refine wp_seq (rg hB TA_ok [4] [] [(7, .r fun _ => .bool (.v q))] hF fun X1 a0 w1 hF => ?_)
 refine wp_ret ((rsi hB TA_ok hF nAt (he := ?_)))
 subst hB
 refine Sim.bool ?_
 show (if g.has = true then q else false) = _
 rw [hq, anyF1, h0]; unfold gk; simp only [dcomm g.x.r.kd]; cases g.has <;> rfl
theorem is1_s (g : GotA) (G : Option Nat) (A : Option Addr) (k : Int) (cells : Nat → List AV) (h0 : cells 0 = [.int .i64 k]) : Spec Tryz.prog 133 [gotV g, .sl G A 1 1 1 cells] (fun _ => .bool (.v (gk g k))) :=
 (is10 g A k (fun _ => k) rfl).sim ⟨zr, Sim.recell (fun i hi => by
  match i, hi with
  | 0, _ => rw [h0]), trivial⟩
theorem is20 (g : GotA) (A : Option Addr) (k k2 : Int) (f : Nat → Int) (h0 : f 0 = k) (h1 : f 1 = k2) : Spec Tryz.prog 133 [gotV g, .sl none A 2 2 1 (fun i => [.int .i64 (f i)])] (fun _ => .bool (.v ((gk g k || gk g k2)))) := by
 intro m w hm hargs
 have S := coni_s A 2 2 f g.x.r.kd
 obtain ⟨q, hq⟩ := eqv (anyF 2 f g.x.r.kd)
 rw [← hq] at S
 refine en 14 hm hargs Tryz.func133 fun B hB a0 hF => ?_
 refine wp_seq (rg hB TA_ok [1, 2] [2] [] hF fun X0 a0 w1 hF => ?_)
 have O1 := S
 refine wp_seq (rg hB TA_ok [4] [] [(7, .r fun _ => .bool (.v q))] hF fun X1 a0 w1 hF => ?_)
 refine wp_ret ((rsi hB TA_ok hF nAt (he := ?_)))
 subst hB
 refine Sim.bool ?_
 show (if g.has = true then q else false) = _
 rw [hq, anyF2, h0, h1]; unfold gk; simp only [dcomm g.x.r.kd]; cases g.has <;> rfl
theorem is2_s (g : GotA) (G : Option Nat) (A : Option Addr) (k k2 : Int) (cells : Nat → List AV) (h0 : cells 0 = [.int .i64 k]) (h1 : cells 1 = [.int .i64 k2]) : Spec Tryz.prog 133 [gotV g, .sl G A 2 2 1 cells] (fun _ => .bool (.v ((gk g k || gk g k2)))) :=
 (is20 g A k k2 (fun i => if i = 0 then k else k2) rfl rfl).sim ⟨zr, Sim.recell (fun i hi => by
  match i, hi with
  | 0, _ => rw [h0]; rfl
  | 1, _ => rw [h1]; rfl), trivial⟩
theorem as_s (kd : Int) (x : RA) (mk : Int) : Spec Tryz.prog 156 [.int .i64 kd, recV x, .int .u64 mk] (fun _ => recV (asR kd x mk)) := by
 intro m w hm hargs
 refine en 14 hm hargs Tryz.func156 fun B hB a0 hF => ?_
 refine wp_seq (rg hB TA_ok [0, 2, 4, 6] [4, 6] [] hF fun X0 a0 w1 hF => ?_)
 refine wp_seq (rg hB TA_ok [6] [6] [] hF fun X1 a0 w1 hF => ?_)
 exact wp_ret ((rsp hB TA_ok hF nAt).1)
theorem inn_s : Spec Tryz.prog 248 [] (fun _ => innV) := by
 intro m w hm hargs
 have SN := none_s
 simp only [labAV, noneL] at SN
 refine en 3 hm hargs Tryz.func248 fun B hB a0 hF => ?_
 refine wp_seq (rg hB TA_ok [0] [0] [] hF fun X0 a0 w1 hF => ?_)
 have O1 := SN
 refine wp_seq (rg hB TA_ok [0] [0] [(0, .r fun _ => .agg [.int .i64 (-1), .int .u64 0])] hF fun X1 a0 w1 hF => ?_)
 exact wp_ret ((rsp hB TA_ok hF nAt).1)
theorem chi_s (l : Lab) (hb0 : U64 l.bits) : Spec Tryz.prog 235 [labAV l] (fun _ => .agg [.int .i64 (chV l 0).len, .int .u64 (chV l 0).bits, .int .i64 (chV l 1).len, .int .u64 (chV l 1).bits]) := by
 intro m w hm hargs
 have S0 := child_s l hb0 0 (.inl rfl)
 have S1 := child_s l hb0 1 (.inr rfl)
 simp only [labAV] at S0 S1 hargs
 obtain ⟨x, hx⟩ := eqv (chV l 0)
 rw [← hx] at S0 ⊢
 obtain ⟨y, hy⟩ := eqv (chV l 1)
 rw [← hy] at S1 ⊢
 obtain ⟨u, hu⟩ := eqv (chE l 0)
 rw [← hu] at S0
 obtain ⟨v, hv⟩ := eqv (chE l 1)
 rw [← hv] at S1
 refine en 20 hm hargs Tryz.func235 fun B hB a0 hF => ?_
 refine wp_seq (rg hB TA_ok [1, 2] [1, 2] [] hF fun X0 a0 w1 hF => ?_)
 have O1 := S0
 refine wp_seq (rg hB TA_ok [1, 2, 3] [1, 2, 3] [(1, .r fun _ => .tup [.agg [.int .i64 x.len, .int .u64 x.bits], .int .i64 u])] hF fun X1 a0 w1 hF => ?_)
 have O1 := S1
 refine wp_seq (rg hB TA_ok [2, 3, 5] [2, 3, 5] [(1, .r fun _ => .tup [.agg [.int .i64 y.len, .int .u64 y.bits], .int .i64 v])] hF fun X2 a0 w1 hF => ?_)
 refine wp_seq (rg hB TA_ok [2] [2] [] hF fun X3 a0 w1 hF => ?_)
 exact wp_ret ((rsp hB TA_ok hF nAt).1)
theorem ask_m0 (b : Nat) (J : JobA) (hJ : JobOk J) (A : Option Addr) (c : Nat) (p : Pst) (hp : PstOk p) (hn : p.n ≤ 1000000) (q : WntA) : RunS 194 0 b J A c p [wntV q] (gotV) (askM J.budget q.absQ p) := by
 intro m w hm hargs hpre
 obtain ⟨ha, hbu, _, _, _⟩ := hJ
 have hmx : maxLen = 9223372036854775807 := rfl
 have e1 : IntKind.i64.wrap ((p.n : Int) + J.budget) = (p.n : Int) + J.budget := wrap_in (by omega) (by omega)
 refine enX 60 hm hpre hargs Tryz.func194 fun B hB a0 hF => ?_
 refine wp_seq (rg hB TA_ok [0, 3, 4] [0, 3, 4] [] hF fun X0 a0 w1 hF => ?_)
 refine wp_seq (wp_seq (drg hB TA_ok [25, 0, 3, 4] [0, 3, 4] [] hF fun X1 a0 w1 hF => ?_))
 apply test_ok hF rfl <;> intro hb hF
 ·have ht : 0 < p.n ∧ 0 < (p.n : Int) + J.budget := by
   have h9 : (if decide ((p.n : Int) > 0) = true then decide (IntKind.i64.wrap ((p.n : Int) + J.budget) > 0) else false) = true := by subst hB; exact hb
   rw [e1] at h9; simp at h9; omega
  apply wp_seq
  refine rg hB TA_ok [0, 4, 5] [0, 4, 5] [] hF (hob := by intro X; subst hB; simp only [AO, Ob.holds, BE.den] <;> and_intros <;> repeat first | trivial | rfl | exact ⟨Int.le_refl _, (by show (0 : Int) < (p.n : Int); omega)⟩ | exact (by show (0 : Int) < (p.n : Int); omega) | exact (fun _ _ => by kernel_rfl) | refine ⟨?_, ?_⟩ | intro h | exact Int.le_refl _ | decide | omega) fun X2 a0 w1 hF => ?_
  apply wp_seq
  refine rg hB TA_ok [4, 5] [0, 4, 5] [] hF (hob := by intro X; subst hB; simp only [AO, Ob.holds, BE.den] <;> and_intros <;> repeat first | trivial | rfl | exact (by show (0 : Int) ≤ 1; decide) | exact (by show (1 : Int) ≤ (p.n : Int); omega) | exact (show (0 : Int) ≤ 1 ∧ (1 : Int) ≤ (p.n : Int) ∧ (p.n : Int) ≤ (p.n : Int) by omega) | exact (fun _ _ => by kernel_rfl) | refine ⟨?_, ?_⟩ | intro h | exact Int.le_refl _ | decide | omega) fun X3 a0 w1 hF => ?_
  refine wp_seq (rg hB TA_ok [4] [0, 4] [] hF fun X4 a0 w1 hF => ?_)
  refine wp_ret ((rmm hB TA_ok hF (v := p.g 0) (q := p.tl) (adrOf A c 1 8) (c - 1) (if_pos ht) (he := ?_) (hs := ?_)).1)
  ·subst hB; exact zr
  subst hB; exact ⟨rfl, ⟨_, rfl, ⟨zr, zr, zr, zr, zr, zr, zr, zr, zr, zr, zr, zr, zr, zr, zr, Sim.recell (fun i hi => by show gotC (p.g (1 + i)) = gotC (p.g (i + 1)); rw [Nat.add_comm]), zr, zr, zr, zr, zr, zr, trivial⟩⟩, trivial⟩
 have ht : ¬ (0 < p.n ∧ 0 < (p.n : Int) + J.budget) := by
  have h9 : (if decide ((p.n : Int) > 0) = true then decide (IntKind.i64.wrap ((p.n : Int) + J.budget) > 0) else false) = false := by subst hB; exact hb
  rw [e1] at h9; simp at h9; omega
 refine wp_skip (wp_seq (wp_seq (drg hB TA_ok [52, 0, 3] [0, 3] [] hF fun X5 a0 w1 hF => ?_)))
 apply test_ok hF rfl <;> intro hb hF
 ·have ho : (p.n : Int) + J.budget ≤ 0 := by
   have h9 : decide (IntKind.i64.wrap ((p.n : Int) + J.budget) ≤ 0) = true := by subst hB; exact hb
   rw [e1] at h9; simpa using h9
  refine rg hB TA_ok [3] [0, 3] [] hF fun X6 a0 w1 hF => ?_
  refine wp_region_lit (lpr 0 2 hB TA_ok [59] [0] [] hF fun X7_0 a0 w1 hF => ?_)
  refine man_panic rfl rfl rfl hF rfl (thr_t (P := Tryz.prog) (fn := Tryz.f194) (pre := [(0, ⟨b, 114, runC J A c p⟩)]) (sets := [(0, runC J A c p)]) (out := fun x => outM 0 J gotV (askM J.budget q.absQ p) x) hF (ok_ifc (hF.slot 59 rfl).2) ⟨0, fun i => if i = 0 then A else none, fun i => if i = 0 then c else 0, fun _ => .empty⟩ (by show outM 0 J gotV (askM J.budget q.absQ p) _ = _; unfold askM; rw [if_neg ht, if_pos ho]; rfl) ?_ ⟨rfl, ⟨_, rfl, zl⟩, trivial⟩)
  subst hB
  exact Sim.agg ⟨zr, zr, zr, zr, zr, zq0, zr, zr, zr, zr, zr, zr, zq0, zr, Sim.ff, trivial⟩
 have ho : ¬ (p.n : Int) + J.budget ≤ 0 := by
  have h9 : decide (IntKind.i64.wrap ((p.n : Int) + J.budget) ≤ 0) = false := by subst hB; exact hb
  rw [e1] at h9; simpa using h9
 refine wp_skip (wp_region_lit (lpr 0 2 hB TA_ok [59] [0] [] hF fun X7_0 a0 w1 hF => ?_))
 refine man_panic rfl rfl rfl hF rfl (thr_t (P := Tryz.prog) (fn := Tryz.f194) (pre := [(0, ⟨b, 114, runC J A c p⟩)]) (sets := [(0, runC J A c p)]) (out := fun x => outM 0 J gotV (askM J.budget q.absQ p) x) hF (ok_ifc (hF.slot 59 rfl).2) ⟨0, fun i => if i = 0 then A else if i = 1 then q.x.A else q.s.A, fun i => if i = 0 then c else if i = 1 then q.x.c else q.s.c, fun _ => .empty⟩ (by show outM 0 J gotV (askM J.budget q.absQ p) _ = _; unfold askM; rw [if_neg ht, if_neg ho]; rfl) ?_ ⟨rfl, ⟨_, rfl, zl⟩, trivial⟩)
 subst hB
 exact wnt_sim q _ rfl rfl rfl rfl
theorem ask_m (k0 b : Nat) (J : JobA) (hJ : JobOk J) (A : Option Addr) (c : Nat) (p : Pst) (hp : PstOk p) (hn : p.n ≤ 1000000) (q : WntA) : RunS 194 k0 b J A c p [wntV q] (gotV) (askM J.budget q.absQ p) := RunS.re (ask_m0 b J hJ A c p hp hn q) (by repeat (first | exact trivial | refine ⟨zr, ?_⟩))
def zRes : ResA := ⟨0, false, ⟨#[]⟩, none, 0, 0, fun _ => zeroItm, 0, false⟩
theorem askg_m (k0 b : Nat) (J : JobA) (hJ : JobOk J) (A : Option Addr) (c : Nat) (p : Pst) (hp : PstOk p) (hn : p.n ≤ 1000000) (l : Lab) : RunS 194 k0 b J A c p [.agg [.int .i64 1, .int .i64 l.len, .int .u64 l.bits, .int .u64 0, .int .i64 0, .sl none none 0 0 2 (fun _ => []), .int .i64 0, .int .u64 0, .int .u64 0, .int .i64 0, .bool .ff, .str ⟨#[]⟩, .sl none none 0 0 2 (fun _ => []), .int .u64 0, .bool .ff]] gotV (getM J.budget l p) :=
 RunS.re (ask_m 0 b J hJ A c p hp hn ⟨1, l, 0, zRA, zRes⟩) ⟨Sim.agg ⟨zr, zr, zr, zr, zr, zq0, zr, zr, zr, zr, Sim.ff, zr, zq0, zr, Sim.ff, trivial⟩, trivial⟩
theorem askc_m (k0 b : Nat) (J : JobA) (hJ : JobOk J) (A : Option Addr) (c : Nat) (p : Pst) (hp : PstOk p) (hn : p.n ≤ 1000000) (l : Lab) (v : Int) (x : RA) : RunS 194 k0 b J A c p [.agg [.int .i64 2, .int .i64 l.len, .int .u64 l.bits, .int .u64 v, .int .i64 x.r.kd, .sl none x.A x.r.n x.c 2 (fun i => itC (x.r.f i)), .int .i64 x.r.nx.len, .int .u64 x.r.nx.bits, .int .u64 x.r.mrk, .int .i64 0, .bool .ff, .str ⟨#[]⟩, .sl none none 0 0 2 (fun _ => []), .int .u64 0, .bool .ff]] gotV (askM J.budget ⟨2, l, v, x.r.abs, zRsl⟩ p) :=
 RunS.re (ask_m 0 b J hJ A c p hp hn ⟨2, l, v, x, zRes⟩) ⟨Sim.agg ⟨zr, zr, zr, zr, zr, zr, zr, zr, zr, zr, Sim.ff, zr, zq0, zr, Sim.ff, trivial⟩, trivial⟩
theorem askd_m (k0 b : Nat) (J : JobA) (hJ : JobOk J) (A : Option Addr) (c : Nat) (p : Pst) (hp : PstOk p) (hn : p.n ≤ 1000000) (l : Lab) (v : Int) : RunS 194 k0 b J A c p [.agg [.int .i64 3, .int .i64 l.len, .int .u64 l.bits, .int .u64 v, .int .i64 0, .sl none none 0 0 2 (fun _ => []), .int .i64 0, .int .u64 0, .int .u64 0, .int .i64 0, .bool .ff, .str ⟨#[]⟩, .sl none none 0 0 2 (fun _ => []), .int .u64 0, .bool .ff]] gotV (askM J.budget ⟨3, l, v, zeroRec, zRsl⟩ p) :=
 RunS.re (ask_m 0 b J hJ A c p hp hn ⟨3, l, v, zRA, zRes⟩) ⟨Sim.agg ⟨zr, zr, zr, zr, zr, zq0, zr, zr, zr, zr, Sim.ff, zr, zq0, zr, Sim.ff, trivial⟩, trivial⟩
theorem get_m0 (b : Nat) (J : JobA) (hJ : JobOk J) (A : Option Addr) (c : Nat) (p : Pst) (hp : PstOk p) (hn : p.n ≤ 1000000) (l : Lab) : RunS 132 0 b J A c p [labAV l] (gotV) (getM J.budget l p) := by
 intro m w hm hargs hpre
 refine enX 9 hm hpre hargs Tryz.func132 fun B hB a0 hF => ?_
 refine wp_seq (rg hB TA_ok [0, 3, 4] [0, 3, 4] [] hF fun X0 a0 w1 hF => ?_)
 apply wp_seq
 rcases (askg_m 0 b J hJ A c p hp hn l).two (fro_get _ _ _) hp hn with ⟨w1, p1, hm1, O1⟩ | ⟨g1, p1, hm1, hs1, hp1, hn1, S1⟩
 ·refine stp 3 hB TA_ok [5, 7] [0] [] hF O1 fun _ _ _ _ hF hk => ?_
  exact thm (P := Tryz.prog) (fn := Tryz.f132) (q := p1) hF hk (by simp [Rs.bind, hm1])
 have O1 := S1
 refine rg hB TA_ok [4] [0, 4] [(3, rc J (gotV g1) p1)] hF fun X1 a0 w1 hF => ?_
 exact wp_ret ((rmm hB TA_ok hF (v := g1) (q := p1) ((X1 3).A 0) ((X1 3).c 0) (by simp [Rs.bind, hm1])).1)
theorem get_m (k0 b : Nat) (J : JobA) (hJ : JobOk J) (A : Option Addr) (c : Nat) (p : Pst) (hp : PstOk p) (hn : p.n ≤ 1000000) (l : Lab) : RunS 132 k0 b J A c p [labAV l] (gotV) (getM J.budget l p) := RunS.re (get_m0 b J hJ A c p hp hn l) (by repeat (first | exact trivial | refine ⟨zr, ?_⟩))
theorem cas_m0 (b : Nat) (J : JobA) (hJ : JobOk J) (A : Option Addr) (c : Nat) (p : Pst) (hp : PstOk p) (hn : p.n ≤ 1000000) (l : Lab) (v : Int) (x : RA) : RunS 134 0 b J A c p [labAV l, .int .u64 v, recV x] (fun d => .bool (.v d)) (casM J.budget l v x.r.abs p) := by
 intro m w hm hargs hpre
 refine enX 17 hm hpre hargs Tryz.func134 fun B hB a0 hF => ?_
 refine wp_seq (rg hB TA_ok [0, 2, 5, 7] [0, 5, 7] [] hF fun X0 a0 w1 hF => ?_)
 apply wp_seq
 rcases (askc_m 0 b J hJ A c p hp hn l v x).two (fro_ask _ _ _) hp hn with ⟨w1, p1, hm1, O1⟩ | ⟨g1, p1, hm1, hs1, hp1, hn1, S1⟩
 ·refine stp 5 hB TA_ok [9, 13] [0] [] hF O1 fun _ _ _ _ hF hk => ?_
  exact thm (P := Tryz.prog) (fn := Tryz.f134) (q := p1) hF hk (by simp [casM, Rs.bind, hm1])
 have O1 := S1
 refine rg hB TA_ok [8] [0] [(5, rc J (gotV g1) p1)] hF fun X1 a0 w1 hF => ?_
 exact wp_ret ((rmm hB TA_ok hF (v := decide (g1.code = 0)) (q := p1) ((X1 5).A 0) ((X1 5).c 0) (by simp [casM, Rs.bind, hm1])).1)
theorem cas_m (k0 b : Nat) (J : JobA) (hJ : JobOk J) (A : Option Addr) (c : Nat) (p : Pst) (hp : PstOk p) (hn : p.n ≤ 1000000) (l : Lab) (v : Int) (x : RA) : RunS 134 k0 b J A c p [labAV l, .int .u64 v, recV x] (fun d => .bool (.v d)) (casM J.budget l v x.r.abs p) := RunS.re (cas_m0 b J hJ A c p hp hn l v x) (by repeat (first | exact trivial | refine ⟨zr, ?_⟩))
theorem del_m0 (b : Nat) (J : JobA) (hJ : JobOk J) (A : Option Addr) (c : Nat) (p : Pst) (hp : PstOk p) (hn : p.n ≤ 1000000) (l : Lab) (v : Int) : RunS 236 0 b J A c p [labAV l, .int .u64 v] (fun d => .bool (.v d)) (drpM J.budget l v p) := by
 intro m w hm hargs hpre
 refine enX 14 hm hpre hargs Tryz.func236 fun B hB a0 hF => ?_
 refine wp_seq (rg hB TA_ok [0, 2, 4] [0, 4] [] hF fun X0 a0 w1 hF => ?_)
 apply wp_seq
 rcases (askd_m 0 b J hJ A c p hp hn l v).two (fro_ask _ _ _) hp hn with ⟨w1, p1, hm1, O1⟩ | ⟨g1, p1, hm1, hs1, hp1, hn1, S1⟩
 ·refine stp 4 hB TA_ok [7, 10] [0] [] hF O1 fun _ _ _ _ hF hk => ?_
  exact thm (P := Tryz.prog) (fn := Tryz.f236) (q := p1) hF hk (by simp [drpM, Rs.bind, hm1])
 have O1 := S1
 refine rg hB TA_ok [6] [0] [(4, rc J (gotV g1) p1)] hF fun X1 a0 w1 hF => ?_
 exact wp_ret ((rmm hB TA_ok hF (v := decide (g1.code = 0)) (q := p1) ((X1 4).A 0) ((X1 4).c 0) (by simp [drpM, Rs.bind, hm1])).1)
theorem del_m (k0 b : Nat) (J : JobA) (hJ : JobOk J) (A : Option Addr) (c : Nat) (p : Pst) (hp : PstOk p) (hn : p.n ≤ 1000000) (l : Lab) (v : Int) : RunS 236 k0 b J A c p [labAV l, .int .u64 v] (fun d => .bool (.v d)) (drpM J.budget l v p) := RunS.re (del_m0 b J hJ A c p hp hn l v) (by repeat (first | exact trivial | refine ⟨zr, ?_⟩))
theorem still_m0 (b : Nat) (J : JobA) (hJ : JobOk J) (A : Option Addr) (c : Nat) (p : Pst) (hp : PstOk p) (hn : p.n ≤ 1000000) (l : Lab) (v : Int) : RunS 247 0 b J A c p [labAV l, .int .u64 v] (fun q : GotA => .bool (.v (decide (q.ver = v)))) (getM J.budget l p) := by
 intro m w hm hargs hpre
 refine enX 13 hm hpre hargs Tryz.func247 fun B hB a0 hF => ?_
 refine wp_seq (rg hB TA_ok [0, 2, 4] [0, 4] [] hF fun X0 a0 w1 hF => ?_)
 apply wp_seq
 rcases (get_m 0 b J hJ A c p hp hn l).two (fro_get _ _ _) hp hn with ⟨w1, p1, hm1, O1⟩ | ⟨g1, p1, hm1, hs1, hp1, hn1, S1⟩
 ·refine stp 2 hB TA_ok [7, 8] [0] [] hF O1 fun _ _ _ _ hF hk => ?_
  exact thm (P := Tryz.prog) (fn := Tryz.f247) (q := p1) hF hk (by simp [Rs.bind, hm1])
 have O1 := S1
 refine rg hB TA_ok [6] [0] [(2, rc J (gotV g1) p1)] hF fun X1 a0 w1 hF => ?_
 exact wp_ret ((rmm hB TA_ok hF (v := g1) (q := p1) ((X1 2).A 0) ((X1 2).c 0) (by simp [Rs.bind, hm1])).1)
theorem still_m (k0 b : Nat) (J : JobA) (hJ : JobOk J) (A : Option Addr) (c : Nat) (p : Pst) (hp : PstOk p) (hn : p.n ≤ 1000000) (l : Lab) (v : Int) : RunS 247 k0 b J A c p [labAV l, .int .u64 v] (fun q : GotA => .bool (.v (decide (q.ver = v)))) (getM J.budget l p) := RunS.re (still_m0 b J hJ A c p hp hn l v) (by repeat (first | exact trivial | refine ⟨zr, ?_⟩))
end Go.Proofs.YtphmfjhmdajlmaaGreat.Sym
namespace Go.Proofs.YtphmfjhmdajlmaaGreat
open Go.RowKit
theorem etyI' : ElemTy Tryz.prog 33 60 2 24 (.agg #[.int .u64 0, .string ⟨#[]⟩]) := ⟨by kernel_rfl, by kernel_rfl, rfl, by decide⟩
theorem etyI : ElemTy Tryz.prog 33 60 2 24 (.agg #[.int .u64 0, .string ⟨#[]⟩]) := ⟨by kernel_rfl, by kernel_rfl, rfl, by decide⟩
end Go.Proofs.YtphmfjhmdajlmaaGreat
namespace Go.Proofs.YtphmfjhmdajlmaaGreat.Sym
open Go Go.RowKit
theorem itmE_one (x : Itm) : ∀ v ∈ itmE x, v.oneCell' = true := by
 intro v hv
 simp only [itmE, List.mem_cons, List.not_mem_nil, or_false] at hv
 rcases hv with rfl | rfl <;> rfl
theorem rowFlat_its (l : List Itm) : rowFlat (fun i => itC (itF l i)) l.length = l.flatMap itmE := by
 have key : ∀ n, n ≤ l.length → rowFlat (fun i => itC (itF l i)) n = (l.take n).flatMap itmE := by
  intro n
  induction n with
  | zero => intro _; simp [rowFlat]
  | succ n ih =>
   intro h
   rw [rowFlat_succ, ih (by omega), List.take_succ_eq_append_getElem (by omega), List.flatMap_append]
   simp [itF, List.getD, List.getElem?_eq_getElem (show n < l.length by omega)]
   rfl
 have := key l.length (Nat.le_refl _)
 rwa [List.take_length] at this
theorem its_reads {m : Nat → Nat → Prop} {w : World} {A : Option Addr} {c : Nat} {l : List Itm} (h : Ok m w (rowI A l.length c (itF l))) : ReadsL itmE w w.heap.size A l := by
 have := row_of_ok h
 rw [rowFlat_its] at this
 exact this
theorem its_vals {m : Nat → Nat → Prop} {w : World} {A : Option Addr} {c : Nat} {l : List Itm} (h : Ok m w (rowI A l.length c (itF l))) : ∀ x ∈ l, x.val.size ≤ maxLen := by
 intro x hx
 obtain ⟨i, hi, rfl⟩ := List.mem_iff_getElem.1 hx
 cases h with
 | sl _ _ _ _ _ _ h1 h2 h3 h4 h5 h6 h7 =>
  have := h7 i hi (.str (itF l i).val) (by simp [itC])
  cases this with | str _ h => simpa [itF, List.getD, hi] using h
theorem own_its {m : Nat → Nat → Prop} {w : World} {B : Nat} {e : TypeId} {A : Option Addr} {n c : Nat} {l : List Itm} (h : OwnL itmE 2 w B e (.slice A n c) l) (hm : ∀ b o, m b o → b < B) (hs : ∀ x ∈ l, x.val.size ≤ maxLen) : Ok m w (rowI A l.length c (itF l)) := by
 obtain ⟨A', c', he, h1, h2⟩ := Own.isSlice h
 injection he with e1 e2 e3; subst e3; subst e2
 refine rows_ok h1 h2 hs fun hp => ?_
 rw [flat_length itmE_len] at hp
 obtain ⟨b, hA, hb⟩ := own_head h (by omega)
 refine ⟨b, 0, hA, fun j u hu => ⟨by rw [Nat.zero_add]; exact own_cells h hb j u hu, fun hmm => ?_⟩⟩
 have := (Own.lt h b hb).1
 have := hm _ _ hmm
 omega
theorem clone_c (w : World) (A : Option Addr) (k : Nat) (l : List Itm) (hr : ReadsL itmE w w.heap.size A l) (hl : l.length < 2147483000) :
  Calls Tryz.prog 90 #[.slice A l.length k] w fun e w' => ∃ v', e = .returned v' ∧ OwnL itmE 2 w' w.heap.size 60 v' l ∧ Below w.heap.size w w' := by
 have hq : ∀ (A : Option Addr) (n k : Nat) (w : World), (binOp .eql 33 (.slice A n k) (.slice none 0 0)).run Tryz.prog w = .ok (.bool A.isNone) w := fun A n k w => Go.Lib.run_eql_slice_nil w _ _ A n k 0 0 Tryz.underlying33
 cases A with
 | none =>
  obtain rfl : l = [] := by
   refine List.eq_nil_of_length_eq_zero (Nat.eq_zero_of_not_pos fun h => ?_)
   obtain ⟨b, off, he, _⟩ := hr.at_ (k := 2) itmE_len (by decide) h
   cases he
  clear hr
  go_enter Tryz.func90, Tryz.ntmps90
  go_wp2_with fail
  go_ret
  exact ⟨_, rfl, Own.nil _ _ _ _ _, Below.refl _ _⟩
 | some a =>
  obtain ⟨W1, hW1⟩ := eqv (w.alloc (.cells #[] 60))
  have hb1 : Below w.heap.size w W1 := by rw [hW1]; exact (Below.refl _ _).alloc (Nat.le_refl _) _
  obtain ⟨v', w', hr', hO, hG, hv⟩ := run_append_Own (P := Tryz.prog) etyI' 33 (Own.nil W1 w.heap.size 60 2 (some ⟨w.heap.size, 0, none⟩)) (some a) l.length k (l.flatMap itmE) (flat_length itmE_len l) (hr.below hb1) (flat_one itmE_one l) (by simp only [maxLen]; omega) (by omega) hb1.size
  rw [Nat.zero_add, List.nil_append] at hO
  have HO : Hid (OwnL itmE 2 w' w.heap.size 60 v' l ∧ Below w.heap.size w w') := ⟨hO, hb1.grown hG hb1.size fun g hg => by simp [ownB] at hg⟩
  rw [hW1] at hr'
  clear hO hG hv hb1 hW1
  go_enter Tryz.func90, Tryz.ntmps90
  go_wp2_with (at_builtin; refine wpList_append_run hr' rfl (.tmp 5) (.tmp 6) rfl rfl rfl rfl ?_)
  go_ret
  exact ⟨_, rfl, HO.out⟩
theorem clone_s (A : Option Addr) (c : Nat) (l : List Itm) (hs : l.length < 2147483000) : Spec Tryz.prog 90 [rowI A l.length c (itF l)] (fun y => rowI (y.A 0) l.length (y.c 0) (itF l)) := by
 intro m w hm ha
 have h1 := ha (rowI A l.length c (itF l)) (by simp)
 refine (clone_c w A c l (its_reads h1) hs).mono ?_
 rintro e w' ⟨v', rfl, ho, hb⟩
 obtain ⟨A', c', rfl, _, _⟩ := Own.isSlice ho
 exact ⟨⟨0, fun _ => A', fun _ => c', fun _ => ⟨#[]⟩⟩, rfl, own_its ho hm (its_vals h1), hb⟩
theorem clone_sf (A : Option Addr) (n c : Nat) (f : Nat → Itm) (hs : n < 2147483000) : Spec Tryz.prog 90 [rowI A n c f] (fun y => rowI (y.A 0) n (y.c 0) f) := by
 have h := clone_s A c (firsts f n) (by rw [firsts_len]; exact hs)
 have e : ∀ A c, Sim (rowI A (firsts f n).length c (itF (firsts f n))) (rowI A n c f) := fun A c => Sim.resl (firsts_len f n) fun t ht => by rw [firsts_get f n t ht]
 have e' : ∀ A c, Sim (rowI A n c f) (rowI A (firsts f n).length c (itF (firsts f n))) := fun A c => Sim.resl (firsts_len f n).symm fun t ht => by rw [firsts_len] at ht; rw [firsts_get f n t ht]
 intro m w hm ha
 have h2 : Spec Tryz.prog 90 [rowI A n c f] (fun y => rowI (y.A 0) (firsts f n).length (y.c 0) (itF (firsts f n))) := h.sim ⟨e' A c, trivial⟩
 refine (h2 m w hm ha).mono ?_
 rintro en w' ⟨x, rfl, hok, hb⟩
 exact ⟨x, by rw [(e (x.A 0) (x.c 0)).1], (e (x.A 0) (x.c 0)).2.2 _ _ hok, hb⟩
theorem grow_c (w : World) (n : Nat) (hn : n ≤ 1000000) : Calls Tryz.prog 285 #[.slice none 0 0, .int .i64 n] w fun e w' =>
  ∃ A' c', e = .returned (.slice A' 0 c') ∧ Own w' w.heap.size 60 2 (.slice A' 0 c') 0 [] ∧ Below w.heap.size w w' := by
 have hneg : ¬ (n : Int) < 0 := by omega
 have hw : IntKind.i64.wrap (n : Int) = (n : Int) := wrap_in (by omega) (by omega)
 have hw0 : IntKind.i64.wrap 0 = 0 := by decide
 by_cases h0 : n = 0
 ·subst h0
  go_enter Tryz.func285, Tryz.ntmps285
  go_wp2_with fail
  go_ret
  exact ⟨none, 0, rfl, Own.nil _ _ _ _ _, Below.refl _ _⟩
 have hpos : (0 : Int) < (n : Int) := by omega
 have HA := run_append_zeros_Own (P := Tryz.prog) (w := w) (kq := .i64) etyI' (Tryz.underlying3) 33 (A := none) (n := 0) (c := 0) (xs := []) (by simp) (RowAt.nil (B := 0)) n (by omega) (by omega) (by simp only [maxLen]; omega) (by omega)
 obtain ⟨_, cap2, cur2, hr, rfl, hge2, hcm2, hcs2, ht2⟩ := HA
 rw [Nat.zero_add] at hr hge2
 obtain ⟨w1, hw1⟩ := eqv (w.drew.alloc (.cells cur2 60))
 rw [← hw1] at hr
 have HF : Hid (Own w1 w.heap.size 60 2 (.slice (some ⟨w.heap.size, 0, none⟩) 0 cap2) 0 [] ∧ Below w.heap.size w w1) := by
  refine ⟨⟨by simp, .inr ⟨w.heap.size, cap2, cur2, rfl, Nat.le_refl _, by rw [hw1]; exact heap_alloc_new w.drew _, Nat.zero_le _, by omega, hcm2, hcs2, by simp⟩⟩, ?_⟩
  rw [hw1]
  exact (Below.refl _ _).drew.alloc (by simp) _
 clear hw1 ht2 hcs2 hge2
 go_enter Tryz.func285, Tryz.ntmps285
 go_wp2_with (at_builtin; refine wpList_append_run hr rfl (.tmp 20) (.tmp 21) rfl rfl rfl rfl ?_)
 go_ret
 exact ⟨_, _, rfl, HF.out⟩
end Go.Proofs.YtphmfjhmdajlmaaGreat.Sym
namespace Go.Proofs.YtphmfjhmdajlmaaGreat
open Go.RowKit Sym
theorem firsts_mem {f : Nat → Itm} {n : Nat} {x : Itm} (h : x ∈ firsts f n) : ∃ t, t < n ∧ x = f t := by
 unfold firsts at h
 obtain ⟨t, ht, rfl⟩ := List.mem_map.1 h
 exact ⟨t, List.mem_range.1 ht, rfl⟩
def idxF (p : Nat → Bool) (n : Nat) : Int := match (List.range n).find? p with
 | some i => (i : Int)
 | none => -1
theorem idx_hit {p : Nat → Bool} {n i : Nat} (hi : i < n) (hm : ∀ t, t < i → p t = false) (h : p i = true) : idxF p n = (i : Int) := by
 have : (List.range n).find? p = some i := by
  rw [List.find?_eq_some_iff_append]
  refine ⟨h, List.range i, (List.range (n - i - 1)).map fun j => i + 1 + j, ?_, fun a ha => by rw [hm a (List.mem_range.1 ha)]; rfl⟩
  apply List.ext_getElem
  ·simp; omega
  intro t h1 h2
  have ht : t < n := by simpa using h1
  simp only [List.getElem_range]
  by_cases hti : t < i
  ·rw [List.getElem_append_left (by simpa using hti)]; simp
  rw [List.getElem_append_right (by simp; omega)]
  obtain ⟨q, rfl⟩ : ∃ q, t = i + q := ⟨t - i, by omega⟩
  cases q with
  | zero => simp
  | succ q => simp [show i + (q + 1) - i = q + 1 by omega]; omega
 simp [idxF, this]
theorem idx_miss {p : Nat → Bool} {n : Nat} (hm : ∀ t, t < n → p t = false) : idxF p n = -1 := by
 have : (List.range n).find? p = none := by
  rw [List.find?_eq_none]
  intro a ha
  rw [hm a (List.mem_range.1 ha)]
  decide
 simp [idxF, this]
theorem idx_cases (p : Nat → Bool) (n : Nat) : (∃ i, i < n ∧ idxF p n = (i : Int) ∧ p i = true ∧ ∀ t, t < i → p t = false) ∨ (idxF p n = -1 ∧ ∀ t, t < n → p t = false) := by
 induction n with
 | zero => exact .inr ⟨rfl, fun t ht => absurd ht (Nat.not_lt_zero _)⟩
 | succ n ih =>
  rcases ih with ⟨i, h1, h2, h3, h4⟩ | ⟨h1, h2⟩
  ·exact .inl ⟨i, by omega, idx_hit (by omega) h4 h3, h3, h4⟩
  cases hp : p n with
  | true => exact .inl ⟨n, by omega, idx_hit (by omega) h2 hp, hp, h2⟩
  | false =>
   have : ∀ t, t < n + 1 → p t = false := fun t ht => by
    by_cases h : t = n
    ·rw [h]; exact hp
    exact h2 t (by omega)
   exact .inr ⟨idx_miss this, this⟩
def Srt (l : List Itm) : Prop := l.Pairwise fun x y => x.key < y.key
theorem okF_srt {f : Nat → Itm} {n : Nat} (h : okF f n = true) : ∀ i j, i < j → j < n → (f i).key < (f j).key := by
 intro i j hij
 induction j with
 | zero => omega
 | succ j ih =>
  intro hj
  have hk := okF_at (f := f) (i := j + 1) hj h
  unfold okAt at hk
  simp only [Bool.and_eq_true, decide_eq_true_eq, Bool.or_eq_true, beq_iff_eq] at hk
  have h2 : (f j).key < (f (j + 1)).key := by
   rcases hk.2 with h0 | h0
   ·omega
   simpa using h0
  by_cases he : i = j
  ·rw [he]; exact h2
  have := ih (by omega) (by omega)
  omega
section
variable {l : List Itm} {key : Int} {p : Nat}
structure Cut (l : List Itm) (key : Int) (p : Nat) : Prop where
 le : p ≤ l.length
 lo : ∀ x ∈ l.take p, x.key < key
 hi : ∀ x ∈ l.drop p, key ≤ x.key
theorem Cut.hit (h : Cut l key p) (hs : Srt l) {x : Itm} (hp : l[p]? = some x) (hx : x.key = key) : (∀ y ∈ l.drop (p + 1), key < y.key) ∧ l = l.take p ++ [x] ++ l.drop (p + 1) := by
 have hlt := (List.getElem?_eq_some_iff.1 hp).1
 have hd : l.drop p = x :: l.drop (p + 1) := by rw [List.drop_eq_getElem_cons hlt, (List.getElem?_eq_some_iff.1 hp).2]
 have hsp : l = l.take p ++ [x] ++ l.drop (p + 1) := by
  conv => lhs; rw [← List.take_append_drop p l, hd]
  simp
 refine ⟨fun y hy => ?_, hsp⟩
 unfold Srt at hs
 rw [hsp, List.append_assoc] at hs
 have h2 := (List.pairwise_append.1 hs).2.1
 rw [List.singleton_append] at h2
 have := (List.pairwise_cons.1 h2).1 y hy
 omega
end
end Go.Proofs.YtphmfjhmdajlmaaGreat
namespace Go.Proofs.YtphmfjhmdajlmaaGreat.Sym
open Go Go.RowKit
theorem bsF_cut' {f : Nat → Itm} {n : Nat} {key : Int} (hs : ∀ i j, i < j → j < n → (f i).key < (f j).key) : ∀ k lo hi, hi - lo ≤ k → lo ≤ hi → hi ≤ n → (∀ t, t < lo → (f t).key < key) → (∀ t, hi ≤ t → t < n → key ≤ (f t).key) →
  lo ≤ bsF f key lo hi ∧ bsF f key lo hi ≤ hi ∧ (∀ t, t < bsF f key lo hi → (f t).key < key) ∧ ∀ t, bsF f key lo hi ≤ t → t < n → key ≤ (f t).key
 | 0, lo, hi, hk, h1, h2, h3, h4 => by
  rw [bsF_end (by omega)]
  exact ⟨Nat.le_refl _, h1, h3, fun t ht => h4 t (by omega)⟩
 | k + 1, lo, hi, hk, h1, h2, h3, h4 => by
  by_cases hlt : lo < hi
  ·obtain ⟨m, hm⟩ : ∃ m, m = (lo + hi) / 2 := ⟨_, rfl⟩
   by_cases hkm : (f m).key < key
   ·rw [bsF_up hlt hm hkm]
    obtain ⟨a, b, c, d⟩ := bsF_cut' hs k (m + 1) hi (by omega) (by omega) h2 (fun t ht => by
     by_cases h : t = m
     ·rw [h]; exact hkm
     have := hs t m (by omega) (by omega); omega) h4
    exact ⟨by omega, b, c, d⟩
   rw [bsF_dn hlt hm hkm]
   obtain ⟨a, b, c, d⟩ := bsF_cut' hs k lo m (by omega) (by omega) (by omega) h3 (fun t ht htn => by
    by_cases h : t = m
    ·rw [h]; omega
    have := hs m t (by omega) htn; omega)
   exact ⟨a, by omega, c, d⟩
  rw [bsF_end hlt]
  exact ⟨Nat.le_refl _, h1, h3, fun t ht => h4 t (by omega)⟩
theorem firsts_add (f : Nat → Itm) (p m : Nat) : firsts f (p + m) = firsts f p ++ firsts (fun j => f (p + j)) m := by
 unfold firsts
 rw [List.range_add, List.map_append, List.map_map]
 rfl
theorem cov_step (l : Lab) (f : Nat → Itm) (i : Nat) : covL l (firsts f (i + 1)) = covL l (firsts f i) ++ if coverB l (f i).key = true then [f i] else [] := by
 have : firsts f (i + 1) = firsts f i ++ [f i] := by simp [firsts, List.range_succ]
 rw [this]
 unfold covL
 rw [List.filter_append]
 congr 1
 cases h : coverB l (f i).key <;> simp [h]
theorem half_lists {f : Nat → Itm} {n : Nat} {l : Lab} (hok : okF f n = true) (hki : ∀ i, i < n → U64 (f i).key) (hl : isL l = true) (hb : U64 l.bits) (h64 : l.len ≠ 64) (hc : ∀ i, i < n → coverB l (f i).key = true) {p : Nat} (hp : p = bsF f (childL l 1).bits 0 n) :
  p ≤ n ∧ covL (childL l 0) (firsts f n) = firsts f p ∧ covL (childL l 1) (firsts f n) = firsts (fun j => f (p + j)) (n - p) := by
 obtain ⟨_, h1, h2, h3⟩ := bsF_cut' (f := f) (n := n) (key := (childL l 1).bits) (okF_srt hok) n 0 n (by omega) (Nat.zero_le _) (Nat.le_refl _) (fun t ht => absurd ht (Nat.not_lt_zero _)) (fun t h1 h2 => absurd h2 (by omega))
 rw [← hp] at h1 h2 h3
 have hsp := firsts_add f p (n - p)
 rw [show p + (n - p) = n by omega] at hsp
 have cc := fun i hi => child_cov hl hb h64 (hki i hi) (hc i hi)
 refine ⟨h1, ?_, ?_⟩
 ·rw [hsp]
  unfold covL
  rw [List.filter_append, List.filter_eq_self.2 (fun x hx => by
   obtain ⟨t, ht, rfl⟩ := firsts_mem hx
   rw [(cc t (by omega)).1]
   exact decide_eq_true (h2 t ht)), List.filter_eq_nil_iff.2 (fun x hx => by
   obtain ⟨t, ht, rfl⟩ := firsts_mem hx
   rw [(cc (p + t) (by omega)).1]
   have := h3 (p + t) (by omega) (by omega)
   simp; omega), List.append_nil]
 rw [hsp]
 unfold covL
 rw [List.filter_append, List.filter_eq_nil_iff.2 (fun x hx => by
  obtain ⟨t, ht, rfl⟩ := firsts_mem hx
  rw [(cc t (by omega)).2]
  have := h2 t ht
  simp; omega), List.filter_eq_self.2 (fun x hx => by
  obtain ⟨t, ht, rfl⟩ := firsts_mem hx
  rw [(cc (p + t) (by omega)).2]
  exact decide_eq_true (h3 (p + t) (by omega) (by omega))), List.nil_append]
theorem cov_firsts {l : Lab} {f : Nat → Itm} {n : Nat} : (covL l (firsts f n)).length = n ↔ ∀ i, i < n → coverB l (f i).key = true := by
 have := cov_all (l := l) (its := firsts f n)
 rw [firsts_len] at this
 rw [this]
 constructor
 ·intro h i hi
  exact h (f i) (List.mem_map.2 ⟨i, List.mem_range.2 hi, rfl⟩)
 intro h x hx
 obtain ⟨t, ht, rfl⟩ := firsts_mem hx
 exact h t ht
end Go.Proofs.YtphmfjhmdajlmaaGreat.Sym
