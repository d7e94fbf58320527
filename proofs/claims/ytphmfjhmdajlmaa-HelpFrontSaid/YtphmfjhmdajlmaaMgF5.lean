/-
  PlFront, SymL25F, WalkHelpFront: put together by a program of mine (a claim may have 60 files at most). Conditions: none.
-/
import Derived.WalkKit
import Derived.WalkLawsBesides
import Derived.WalkSpells
import Derived.Lib.Hide
import Derived.Deep.QuietTactic
import Derived.BigQuiet
import Derived.Deep.LoopGhost
import Derived.Deep.DeepCutAuto
import Derived.Deep.RegionLaw
import Derived.Lib.Overlaps
import Derived.Laws.CopyOwn
import Derived.IntWalk
import Derived.ProofKit
import Derived.OpenShut
import Derived.ShutString
import Derived.ChangeOld
import Derived.Deep.Slices
import Derived.Test.YtphmfjhmdajlmaaProg
import Derived.Orders
import Derived.OrdersHeld
import Derived.Defers
import Derived.Recover
import Derived.Lib.BitFns
import Derived.ChangeKeysEq
import Derived.Test.YtphmfjhmdajlmaaChecked
import Derived.Lib.BufferWrite
import Derived.Maps.OwnSet
import Derived.Maps.RangeWalk
import Derived.Maps.Ext
import Derived.DeepKeys4
import Derived.LoopN
import Derived.Shelf.SlSortCmp.WholeK
import Derived.Shelf.SlSortCmp.NoneTotal
import Derived.Deep.RegionHeld3
import Derived.Ground.SlsfProg
import Derived.Shelf.SlGeneric
import Derived.Test.YtphmfjhmdajlmaaMgF1
import Derived.Test.YtphmfjhmdajlmaaMgF2
import Derived.Test.YtphmfjhmdajlmaaMgF3
import Derived.Test.YtphmfjhmdajlmaaMgF4
set_option linter.unusedVariables false
set_option linter.unusedSimpArgs false
set_option maxRecDepth 100000
set_option maxHeartbeats 1600000
namespace Go.Proofs.Ytphmfjhmdajlmaa.Sym
open Go Go.RowKit
def Rs.st {α : Type} : Rs α → Pst
 | .ok _ q => q
 | .stop _ q => q
structure Ub {α : Type} (k : Int) (p : Pst) (r : Rs α) : Prop where
 le : r.st.n ≤ p.n
 bud : r.st.n = p.n ∨ 0 ≤ (r.st.n : Int) + k
 fin : ∀ w q, r = .stop w q → (q.n : Int) + k ≤ 0 → w.kind = 4
section
variable {α β : Type} {k : Int} {p : Pst}
theorem ub_ok (a : α) : Ub k p (.ok a p) := ⟨Nat.le_refl _, .inl rfl, fun w q h => by cases h⟩
theorem ub_ite {c : Prop} [Decidable c] {x y : Rs α} (hx : c → Ub k p x) (hy : ¬ c → Ub k p y) : Ub k p (if c then x else y) := by
 by_cases h : c
 ·rw [if_pos h]; exact hx h
 rw [if_neg h]; exact hy h
theorem ub_bind {m : Rs α} {f : α → Pst → Rs β} (h : Ub k p m) (hf : ∀ a q, m = .ok a q → Ub k q (f a q)) : Ub k p (m.bind f) := by
 cases m with
 | ok a q =>
  have h2 := hf a q rfl
  have h3 : q.n ≤ p.n := h.le
  have h4 : q.n = p.n ∨ 0 ≤ (q.n : Int) + k := h.bud
  show Ub k p (f a q)
  refine ⟨Nat.le_trans h2.le h3, ?_, h2.fin⟩
  rcases h2.bud with h5 | h5
  ·rcases h4 with h4 | h4
   ·exact .inl (h5.trans h4)
   exact .inr (by rw [h5]; exact h4)
  exact .inr h5
 | stop w q => exact ⟨h.le, h.bud, fun w' q' e => by injection e with e1 e2; subst e1; subst e2; exact h.fin _ _ rfl⟩
theorem ub_ask (w : Wq) : Ub k p (askM k w p) := by
 unfold askM
 split
 ·rename_i h
  refine ⟨Nat.sub_le _ _, .inr ?_, fun w q h => by cases h⟩
  show 0 ≤ ((p.n - 1 : Nat) : Int) + k
  omega
 refine ⟨Nat.le_refl _, .inl rfl, fun w' q e hq => ?_⟩
 injection e with e1 e2
 subst e2
 rw [← e1, if_pos hq]
 rfl
end
theorem ub_get (k : Int) (l : Lab) (p : Pst) : Ub k p (getM k l p) := ub_ask _
theorem ub_cas (k : Int) (l : Lab) (v : Int) (r : Rec) (p : Pst) : Ub k p (casM k l v r p) := ub_bind (ub_ask _) fun _ _ _ => ub_ok _
theorem ub_del (k : Int) (l : Lab) (v : Int) (p : Pst) : Ub k p (drpM k l v p) := ub_bind (ub_ask _) fun _ _ _ => ub_ok _
theorem cas_lt {k : Int} {l : Lab} {v : Int} {r : Rec} {p q : Pst} {d : Bool} (h : casM k l v r p = .ok d q) : q.n ≤ p.n := ((fro_cas _ _ _ _ _).of h).le
theorem ub_splC (k : Int) (l : Lab) (v : Int) (c : Lab) (x : Rec) : ∀ n p, p.n < n → Ub k p (splC k l v c x n p)
 | 0, p, h => absurd h (Nat.not_lt_zero _)
 | n + 1, p, h => ub_bind (ub_get _ _ _) fun _ q1 e1 => ub_ite (fun _ => ub_ok _) fun _ => ub_bind (ub_get _ _ _) fun _ q2 e2 => ub_ite (fun _ => ub_bind (ub_cas _ _ _ _ _) fun _ q3 e3 => ub_ite (fun _ => ub_ok _) fun _ => ub_splC k l v c x n q3 (by have := get_lt e1; have := get_lt e2; have := cas_lt e3; omega)) fun _ => ub_ok _
theorem ub_split (k : Int) (n : Nat) (l : Lab) (v : Int) (x : RA) (p : Pst) (h : p.n < n) : Ub k p (splitM k n l v x p) :=
 ub_ite (fun _ => ub_bind (ub_splC _ _ _ _ _ _ _ h) fun _ q1 e1 => ub_ite (fun _ => ub_bind (ub_splC _ _ _ _ _ _ _ (by have := ((fro_splC _ _ _ _ _ _ _).of e1).le; omega)) fun _ _ _ => ub_ite (fun _ => ub_bind (ub_cas _ _ _ _ _) fun _ _ _ => ub_ok _) fun _ => ub_ok _) fun _ => ub_ok _) fun _ => ub_ok _
theorem ub_frz (k : Int) (l : Lab) (v : Int) (c : Lab) : ∀ n p, p.n < n → Ub k p (frzM k l v c n p)
 | 0, p, h => absurd h (Nat.not_lt_zero _)
 | n + 1, p, h => ub_bind (ub_get _ _ _) fun _ q1 e1 => ub_ite (fun _ => ub_ite (fun _ => ub_ok _) fun _ => ub_bind (ub_get _ _ _) fun _ q2 e2 => ub_ite (fun _ => ub_bind (ub_cas _ _ _ _ _) fun _ q3 e3 => ub_ite (fun _ => ub_ok _) fun _ => ub_frz k l v c n q3 (by have := get_lt e1; have := get_lt e2; have := cas_lt e3; omega)) fun _ => ub_ok _) fun _ => ub_ok _
theorem ub_clnC (k : Int) (l : Lab) (cl : Lab → Pst → Rs Unit) (c : Lab) (p : Pst) (h : ∀ c q, q.n < p.n → Ub k q (cl c q)) : Ub k p (clnC k l cl c p) :=
 ub_bind (ub_get _ _ _) fun _ q1 e1 => ub_ite (fun _ => ub_bind (h _ _ (get_lt e1)) fun _ _ _ => ub_bind (ub_get _ _ _) fun _ _ _ => ub_ite (fun _ => ub_bind (ub_del _ _ _ _) fun _ _ _ => ub_ok _) fun _ => ub_ok _) fun _ => ub_ok _
theorem ub_cln (k : Int) : ∀ n l p, p.n < n → Ub k p (clnM k n l p)
 | 0, l, p, h => absurd h (Nat.not_lt_zero _)
 | n + 1, l, p, h => ub_ite (fun _ => ub_ok _) fun _ => ub_bind (ub_clnC _ _ _ _ _ fun c q hq => ub_cln k n c q (by omega)) fun _ q1 e1 => ub_ite (fun _ => ub_bind (ub_clnC _ _ _ _ _ fun c q hq => ub_cln k n c q (by have := ((fro_clnC _ _ _ (fro_cln k n) _ _).of e1).le; omega)) fun _ _ _ => ub_ok _) fun _ => ub_ok _
theorem ub_bck (k : Int) (th : Lab → Pst → Rs Unit) (l : Lab) (v : Int) (p : Pst) (hf : ∀ c p, Fro p (th c p)) (h : ∀ c q, q.n ≤ p.n → Ub k q (th c q)) : Ub k p (bckM k th l v p) :=
 ub_bind (ub_cas _ _ _ _ _) fun _ q1 e1 => ub_ite (fun _ => ub_bind (h _ _ (cas_lt e1)) fun _ q2 e2 => h _ _ (by have := ((hf _ _).of e2).le; have := cas_lt e1; omega)) fun _ => ub_ok _
theorem ub_mrg (bk k : Int) (n : Nat) (th : Lab → Pst → Rs Unit) (l : Lab) (v : Int) (p : Pst) (hn : p.n < n) (hf : ∀ c p, Fro p (th c p)) (h : ∀ c q, q.n ≤ p.n → Ub k q (th c q)) : Ub k p (mrgM bk k n th l v p) :=
 ub_bind (ub_frz _ _ _ _ _ _ hn) fun a q1 e1 => match a with
  | .over => ub_ok _
  | .unfit => ub_bck _ _ _ _ _ hf fun c q hq => h c q (Nat.le_trans hq ((fro_frz _ _ _ _ _ _).of e1).le)
  | .fr a => ub_bind (ub_frz _ _ _ _ _ _ (by have := ((fro_frz _ _ _ _ _ _).of e1).le; omega)) fun b q2 e2 => match b with
   | .over => ub_ok _
   | .unfit => ub_bck _ _ _ _ _ hf fun c q hq => h c q (by have := ((fro_frz _ _ _ _ _ _).of e1).le; have := ((fro_frz _ _ _ _ _ _).of e2).le; omega)
   | .fr b => ub_ite (fun _ => ub_bind (ub_cas _ _ _ _ _) fun _ q3 e3 => ub_ite (fun _ => ub_cln _ _ _ _ (by have := ((fro_frz _ _ _ _ _ _).of e1).le; have := ((fro_frz _ _ _ _ _ _).of e2).le; have := cas_lt e3; omega)) fun _ => ub_ok _) fun _ => ub_bck _ _ _ _ _ hf fun c q hq => h c q (by have := ((fro_frz _ _ _ _ _ _).of e1).le; have := ((fro_frz _ _ _ _ _ _).of e2).le; omega)
theorem ub_fin (bk k : Int) (n : Nat) (th : Lab → Pst → Rs Unit) (l : Lab) (g : GotA) (p : Pst) (hn : p.n < n) (hf : ∀ c p, Fro p (th c p)) (h : ∀ c q, q.n ≤ p.n → Ub k q (th c q)) : Ub k p (finM bk k n th l g p) :=
 ub_ite (fun _ => ub_split _ _ _ _ _ _ hn) fun _ => ub_ite (fun _ => ub_mrg _ _ _ _ _ _ _ hn hf h) fun _ => ub_ok _
theorem ub_thwL (bk k : Int) : ∀ n l up p, p.n < n → Ub k p (thwL bk k n l up p)
 | 0, l, up, p, h => absurd h (Nat.not_lt_zero _)
 | n + 1, l, up, p, h => by
  unfold thwL
  refine ub_bind (ub_get _ _ _) fun g q1 e1 => ub_ite (fun _ => ub_bind (ub_get _ _ _) fun q q2 e2 => ?_) fun _ => ub_ok _
  have h1 := get_lt e1
  have h2 := get_lt e2
  have hfr : ∀ c p, Fro p (if parE c = 0 then thwL bk k n c (parV c) p else .ok () p : Rs Unit) := fun c p => fro_ite (fro_thwL _ _ _ _ _ _) (fro_ok _ _)
  have H : q2.n < n → Ub k q2 (finM bk k n (fun c p => if parE c = 0 then thwL bk k n c (parV c) p else .ok () p) up q q2) := fun hq => ub_fin bk k n _ up q q2 hq hfr fun c q hq2 => ub_ite (fun _ => ub_thwL bk k n c _ q (by omega)) fun _ => ub_ok _
  refine ub_bind (ub_ite (fun _ => H (by omega)) fun _ => ub_ok _) fun _ q3 e3 => ub_ite (fun _ => ub_bind (ub_cas _ _ _ _ _) fun _ q4 e4 => ub_ite (fun _ => ub_ok _) fun _ => ub_thwL bk k n l up q4 ?_) fun _ => ub_ok _
  have h3 : q3.n ≤ q2.n := (Fro.of (fro_ite (fro_fin _ _ _ _ hfr _ _ _) (fro_ok _ _)) e3).le
  have := cas_lt e4
  omega
theorem ub_thw (bk k : Int) (n : Nat) (l : Lab) (p : Pst) (h : p.n < n) : Ub k p (thwM bk k n l p) := ub_ite (fun _ => ub_thwL _ _ _ _ _ _ h) fun _ => ub_ok _
theorem ub_fns (bk k : Int) (n : Nat) (l : Lab) (g : GotA) (p : Pst) (h : p.n < n) : Ub k p (fnsM bk k n l g p) := ub_fin _ _ _ _ _ _ _ h (fro_thw _ _ _) fun c q hq => ub_thw _ _ _ _ _ (by omega)
theorem ub_help (bk k : Int) (J : JobA) (p : Pst) : Ub k p (helpM bk k J p) :=
 ub_ite (fun _ => ub_bind (ub_cln _ _ _ _ (Nat.lt_succ_self _)) fun _ _ _ => ub_ok _) fun _ => ub_ite (fun _ => ub_bind (ub_get _ _ _) fun g q e => ub_bind (ub_ite (fun _ => ub_fns _ _ _ _ _ _ (by have := get_lt e; omega)) fun _ => ub_ite (fun _ => ub_thw _ _ _ _ _ (by have := get_lt e; omega)) fun _ => ub_ok _) fun _ _ _ => ub_ok _) fun _ => ub_ok _
def Lss (δ : Nat) (p p' : Pst) : Prop := p'.n + δ = p.n ∧ p'.g = p.g ∧ p'.note = p.note
def Ask (w : Wq) : Prop := w.kind = 1 ∨ w.kind = 2 ∨ w.kind = 3
def Fr {α : Type} (δ : Nat) (m m' : Rs α) : Prop := (match m with
 | .ok a q => ∃ q', m' = .ok a q' ∧ Lss δ q q'
 | .stop w q => ∃ q', m' = .stop w q' ∧ Lss δ q q') ∨ ∃ w q', m' = .stop w q' ∧ q'.n = 0 ∧ Ask w
section
variable {α β : Type} {δ : Nat} {k : Int} {p p' : Pst}
theorem fr_ok (a : α) (h : Lss δ p p') : Fr δ (.ok a p) (.ok a p') := .inl ⟨p', rfl, h⟩
theorem fr_ite {c : Prop} [Decidable c] {x y x' y' : Rs α} (hx : c → Fr δ x x') (hy : ¬ c → Fr δ y y') : Fr δ (if c then x else y) (if c then x' else y') := by
 by_cases h : c
 ·rw [if_pos h, if_pos h]; exact hx h
 rw [if_neg h, if_neg h]; exact hy h
theorem fr_bind {m m' : Rs α} {f f' : α → Pst → Rs β} (h : Fr δ m m') (hf : ∀ a q q', m = .ok a q → m' = .ok a q' → Lss δ q q' → Fr δ (f a q) (f' a q')) : Fr δ (m.bind f) (m'.bind f') := by
 cases m with
 | ok a q =>
  rcases h with ⟨q', e, h⟩ | ⟨w, q', e, h2⟩
  ·subst e; exact hf a q q' rfl rfl h
  subst e
  exact .inr ⟨w, q', rfl, h2⟩
 | stop w q =>
  rcases h with ⟨q', e, h⟩ | ⟨w', q', e, h2⟩
  ·subst e; exact .inl ⟨q', rfl, h⟩
  subst e; exact .inr ⟨w', q', rfl, h2⟩
theorem fr_ask {w : Wq} (hw : Ask w) (h : Lss δ p p') : Fr δ (askM k w p) (askM (k + δ) w p') := by
 obtain ⟨h1, h2, h3⟩ := h
 unfold askM
 by_cases hc : 0 < p.n ∧ 0 < (p.n : Int) + k
 ·rw [if_pos hc]
  by_cases h0 : 0 < p'.n
  ·rw [if_pos (by omega), h2]
   refine .inl ⟨p'.tl, rfl, ?_, ?_, ?_⟩
   ·show p'.n - 1 + δ = p.n - 1; omega
   ·show (fun j => p'.g (j + 1)) = fun j => p.g (j + 1); rw [h2]
   exact h3
  rw [if_neg (by omega), if_neg (by omega)]
  exact .inr ⟨w, p', rfl, by omega, hw⟩
 rw [if_neg hc, if_neg (show ¬ (0 < p'.n ∧ 0 < (p'.n : Int) + (k + δ)) by omega)]
 refine .inl ⟨p', ?_, h1, h2, h3⟩
 by_cases ho : (p.n : Int) + k ≤ 0
 ·rw [if_pos ho, if_pos (show (p'.n : Int) + (k + δ) ≤ 0 by omega)]; unfold overW; rw [h3]
 rw [if_neg ho, if_neg (show ¬ (p'.n : Int) + (k + δ) ≤ 0 by omega)]
end
theorem fr_get {δ : Nat} {k : Int} {l : Lab} {p p' : Pst} (h : Lss δ p p') : Fr δ (getM k l p) (getM (k + δ) l p') := fr_ask (.inl rfl) h
theorem fr_cas {δ : Nat} {k : Int} {l : Lab} {v : Int} {r : Rec} {p p' : Pst} (h : Lss δ p p') : Fr δ (casM k l v r p) (casM (k + δ) l v r p') := fr_bind (fr_ask (.inr (.inl rfl)) h) fun _ _ _ _ _ h => fr_ok _ h
theorem fr_del {δ : Nat} {k : Int} {l : Lab} {v : Int} {p p' : Pst} (h : Lss δ p p') : Fr δ (drpM k l v p) (drpM (k + δ) l v p') := fr_bind (fr_ask (.inr (.inr rfl)) h) fun _ _ _ _ _ h => fr_ok _ h
section
variable {δ : Nat} {k bk : Int}
theorem fr_splC {l : Lab} {v : Int} {c : Lab} {x : Rec} : ∀ {n n' : Nat} {p p' : Pst}, p.n < n → p'.n < n' → Lss δ p p' → Fr δ (splC k l v c x n p) (splC (k + δ) l v c x n' p')
 | 0, _, _, _, h, _, _ => absurd h (Nat.not_lt_zero _)
 | _, 0, _, _, _, h, _ => absurd h (Nat.not_lt_zero _)
 | n + 1, n' + 1, p, p', h, h', hs => fr_bind (fr_get hs) fun _ q q' e e' hs => fr_ite (fun _ => fr_ok _ hs) fun _ => fr_bind (fr_get hs) fun _ q2 q2' e2 e2' hs => fr_ite (fun _ => fr_bind (fr_cas hs) fun _ q3 q3' e3 e3' hs => fr_ite (fun _ => fr_ok _ hs) fun _ => fr_splC (by have := get_lt e; have := get_lt e2; have := cas_lt e3; omega) (by have := get_lt e'; have := get_lt e2'; have := cas_lt e3'; omega) hs) fun _ => fr_ok _ hs
theorem fr_split {n n' : Nat} {l : Lab} {v : Int} {x : RA} {p p' : Pst} (h : p.n < n) (h' : p'.n < n') (hs : Lss δ p p') : Fr δ (splitM k n l v x p) (splitM (k + δ) n' l v x p') :=
 fr_ite (fun _ => fr_bind (fr_splC h h' hs) fun _ q q' e e' hs => fr_ite (fun _ => fr_bind (fr_splC (by have := ((fro_splC _ _ _ _ _ _ _).of e).le; omega) (by have := ((fro_splC _ _ _ _ _ _ _).of e').le; omega) hs) fun _ _ _ _ _ hs => fr_ite (fun _ => fr_bind (fr_cas hs) fun _ _ _ _ _ hs => fr_ok _ hs) fun _ => fr_ok _ hs) fun _ => fr_ok _ hs) fun _ => fr_ok _ hs
theorem fr_frz {l : Lab} {v : Int} {c : Lab} : ∀ {n n' : Nat} {p p' : Pst}, p.n < n → p'.n < n' → Lss δ p p' → Fr δ (frzM k l v c n p) (frzM (k + δ) l v c n' p')
 | 0, _, _, _, h, _, _ => absurd h (Nat.not_lt_zero _)
 | _, 0, _, _, _, h, _ => absurd h (Nat.not_lt_zero _)
 | n + 1, n' + 1, p, p', h, h', hs => fr_bind (fr_get hs) fun _ q q' e e' hs => fr_ite (fun _ => fr_ite (fun _ => fr_ok _ hs) fun _ => fr_bind (fr_get hs) fun _ q2 q2' e2 e2' hs => fr_ite (fun _ => fr_bind (fr_cas hs) fun _ q3 q3' e3 e3' hs => fr_ite (fun _ => fr_ok _ hs) fun _ => fr_frz (by have := get_lt e; have := get_lt e2; have := cas_lt e3; omega) (by have := get_lt e'; have := get_lt e2'; have := cas_lt e3'; omega) hs) fun _ => fr_ok _ hs) fun _ => fr_ok _ hs
theorem fr_clnC {l : Lab} {cl cl' : Lab → Pst → Rs Unit} {c : Lab} {p p' : Pst} (h : ∀ c q q', q.n < p.n → q'.n < p'.n → Lss δ q q' → Fr δ (cl c q) (cl' c q')) (hs : Lss δ p p') : Fr δ (clnC k l cl c p) (clnC (k + δ) l cl' c p') :=
 fr_bind (fr_get hs) fun _ q q' e e' hs => fr_ite (fun _ => fr_bind (h _ _ _ (get_lt e) (get_lt e') hs) fun _ _ _ _ _ hs => fr_bind (fr_get hs) fun _ _ _ _ _ hs => fr_ite (fun _ => fr_bind (fr_del hs) fun _ _ _ _ _ hs => fr_ok _ hs) fun _ => fr_ok _ hs) fun _ => fr_ok _ hs
theorem fr_cln : ∀ {n n' : Nat} {l : Lab} {p p' : Pst}, p.n < n → p'.n < n' → Lss δ p p' → Fr δ (clnM k n l p) (clnM (k + δ) n' l p')
 | 0, _, _, _, _, h, _, _ => absurd h (Nat.not_lt_zero _)
 | _, 0, _, _, _, _, h, _ => absurd h (Nat.not_lt_zero _)
 | n + 1, n' + 1, l, p, p', h, h', hs => fr_ite (fun _ => fr_ok _ hs) fun _ => fr_bind (fr_clnC (fun c q q' hq hq' hs => fr_cln (by omega) (by omega) hs) hs) fun _ q q' e e' hs => fr_ite (fun _ => fr_bind (fr_clnC (fun c q2 q2' hq hq' hs => fr_cln (by have := ((fro_clnC _ _ _ (fro_cln k n) _ _).of e).le; omega) (by have := ((fro_clnC _ _ _ (fro_cln (k + δ) n') _ _).of e').le; omega) hs) hs) fun _ _ _ _ _ hs => fr_ok _ hs) fun _ => fr_ok _ hs
theorem fr_bck {th th' : Lab → Pst → Rs Unit} {l : Lab} {v : Int} {p p' : Pst} (hf : ∀ c p, Fro p (th c p)) (hf' : ∀ c p, Fro p (th' c p)) (h : ∀ c q q', q.n ≤ p.n → q'.n ≤ p'.n → Lss δ q q' → Fr δ (th c q) (th' c q')) (hs : Lss δ p p') : Fr δ (bckM k th l v p) (bckM (k + δ) th' l v p') :=
 fr_bind (fr_cas hs) fun _ q q' e e' hs => fr_ite (fun _ => fr_bind (h _ _ _ (cas_lt e) (cas_lt e') hs) fun _ q2 q2' e2 e2' hs => h _ _ _ (by have := ((hf _ _).of e2).le; have := cas_lt e; omega) (by have := ((hf' _ _).of e2').le; have := cas_lt e'; omega) hs) fun _ => fr_ok _ hs
theorem fr_mrg {n n' : Nat} {th th' : Lab → Pst → Rs Unit} {l : Lab} {v : Int} {p p' : Pst} (hn : p.n < n) (hn' : p'.n < n') (hf : ∀ c p, Fro p (th c p)) (hf' : ∀ c p, Fro p (th' c p)) (h : ∀ c q q', q.n ≤ p.n → q'.n ≤ p'.n → Lss δ q q' → Fr δ (th c q) (th' c q')) (hs : Lss δ p p') : Fr δ (mrgM bk k n th l v p) (mrgM bk (k + δ) n' th' l v p') :=
 fr_bind (fr_frz hn hn' hs) fun a q q' e e' hs => match a with
  | .over => fr_ok _ hs
  | .unfit => fr_bck hf hf' (fun c r r' hr hr' hs => h c r r' (Nat.le_trans hr ((fro_frz _ _ _ _ _ _).of e).le) (Nat.le_trans hr' ((fro_frz _ _ _ _ _ _).of e').le) hs) hs
  | .fr a => fr_bind (fr_frz (by have := ((fro_frz _ _ _ _ _ _).of e).le; omega) (by have := ((fro_frz _ _ _ _ _ _).of e').le; omega) hs) fun b q2 q2' e2 e2' hs => match b with
   | .over => fr_ok _ hs
   | .unfit => fr_bck hf hf' (fun c r r' hr hr' hs => h c r r' (by have := ((fro_frz _ _ _ _ _ _).of e).le; have := ((fro_frz _ _ _ _ _ _).of e2).le; omega) (by have := ((fro_frz _ _ _ _ _ _).of e').le; have := ((fro_frz _ _ _ _ _ _).of e2').le; omega) hs) hs
   | .fr b => fr_ite (fun _ => fr_bind (fr_cas hs) fun _ q3 q3' e3 e3' hs => fr_ite (fun _ => fr_cln (by have := ((fro_frz _ _ _ _ _ _).of e).le; have := ((fro_frz _ _ _ _ _ _).of e2).le; have := cas_lt e3; omega) (by have := ((fro_frz _ _ _ _ _ _).of e').le; have := ((fro_frz _ _ _ _ _ _).of e2').le; have := cas_lt e3'; omega) hs) fun _ => fr_ok _ hs) fun _ => fr_bck hf hf' (fun c r r' hr hr' hs => h c r r' (by have := ((fro_frz _ _ _ _ _ _).of e).le; have := ((fro_frz _ _ _ _ _ _).of e2).le; omega) (by have := ((fro_frz _ _ _ _ _ _).of e').le; have := ((fro_frz _ _ _ _ _ _).of e2').le; omega) hs) hs
theorem fr_fin {n n' : Nat} {th th' : Lab → Pst → Rs Unit} {l : Lab} {g : GotA} {p p' : Pst} (hn : p.n < n) (hn' : p'.n < n') (hf : ∀ c p, Fro p (th c p)) (hf' : ∀ c p, Fro p (th' c p)) (h : ∀ c q q', q.n ≤ p.n → q'.n ≤ p'.n → Lss δ q q' → Fr δ (th c q) (th' c q')) (hs : Lss δ p p') : Fr δ (finM bk k n th l g p) (finM bk (k + δ) n' th' l g p') :=
 fr_ite (fun _ => fr_split hn hn' hs) fun _ => fr_ite (fun _ => fr_mrg hn hn' hf hf' h hs) fun _ => fr_ok _ hs
theorem fr_thwL : ∀ {n n' : Nat} {l up : Lab} {p p' : Pst}, p.n < n → p'.n < n' → Lss δ p p' → Fr δ (thwL bk k n l up p) (thwL bk (k + δ) n' l up p')
 | 0, _, _, _, _, _, h, _, _ => absurd h (Nat.not_lt_zero _)
 | _, 0, _, _, _, _, _, h, _ => absurd h (Nat.not_lt_zero _)
 | n + 1, n' + 1, l, up, p, p', h, h', hs => by
  unfold thwL
  refine fr_bind (fr_get hs) fun g q1 q1' e1 e1' hs => fr_ite (fun _ => fr_bind (fr_get hs) fun q q2 q2' e2 e2' hs => ?_) fun _ => fr_ok _ hs
  have h1 := get_lt e1
  have h2 := get_lt e2
  have h1' := get_lt e1'
  have h2' := get_lt e2'
  have hfr : ∀ (k : Int) (n : Nat) c p, Fro p (if parE c = 0 then thwL bk k n c (parV c) p else .ok () p : Rs Unit) := fun k n c p => fro_ite (fro_thwL _ _ _ _ _ _) (fro_ok _ _)
  have H : Fr δ (finM bk k n (fun c p => if parE c = 0 then thwL bk k n c (parV c) p else .ok () p) up q q2) (finM bk (k + δ) n' (fun c p => if parE c = 0 then thwL bk (k + δ) n' c (parV c) p else .ok () p) up q q2') :=
   fr_fin (by omega) (by omega) (hfr k n) (hfr (k + δ) n') (fun c r r' hr hr' hs => fr_ite (fun _ => fr_thwL (by omega) (by omega) hs) fun _ => fr_ok _ hs) hs
  refine fr_bind (fr_ite (fun _ => H) fun _ => fr_ok _ hs) fun _ q3 q3' e3 e3' hs => fr_ite (fun _ => fr_bind (fr_cas hs) fun _ q4 q4' e4 e4' hs => fr_ite (fun _ => fr_ok _ hs) fun _ => fr_thwL ?_ ?_ hs) fun _ => fr_ok _ hs
  ·have h3 : q3.n ≤ q2.n := (Fro.of (fro_ite (fro_fin _ _ _ _ (hfr k n) _ _ _) (fro_ok _ _)) e3).le
   have := cas_lt e4
   omega
  have h3 : q3'.n ≤ q2'.n := (Fro.of (fro_ite (fro_fin _ _ _ _ (hfr (k + δ) n') _ _ _) (fro_ok _ _)) e3').le
  have := cas_lt e4'
  omega
theorem fr_thw {n n' : Nat} {l : Lab} {p p' : Pst} (h : p.n < n) (h' : p'.n < n') (hs : Lss δ p p') : Fr δ (thwM bk k n l p) (thwM bk (k + δ) n' l p') := fr_ite (fun _ => fr_thwL h h' hs) fun _ => fr_ok _ hs
theorem fr_fns {n n' : Nat} {l : Lab} {g : GotA} {p p' : Pst} (h : p.n < n) (h' : p'.n < n') (hs : Lss δ p p') : Fr δ (fnsM bk k n l g p) (fnsM bk (k + δ) n' l g p') := fr_fin h h' (fro_thw _ _ _) (fro_thw _ _ _) (fun c q q' hq hq' hs => fr_thw (by omega) (by omega) hs) hs
theorem fr_help {J : JobA} {p p' : Pst} (hs : Lss δ p p') : Fr δ (helpM bk k J p) (helpM bk (k + δ) J p') :=
 fr_ite (fun _ => fr_bind (fr_cln (Nat.lt_succ_self _) (Nat.lt_succ_self _) hs) fun _ _ _ _ _ hs => fr_ok _ hs) fun _ => fr_ite (fun _ => fr_bind (fr_get hs) fun g q q' e e' hs => fr_bind (fr_ite (fun _ => fr_fns (by have := get_lt e; omega) (by have := get_lt e'; omega) hs) fun _ => fr_ite (fun _ => fr_thw (by have := get_lt e; omega) (by have := get_lt e'; omega) hs) fun _ => fr_ok _ hs) fun _ _ _ _ _ hs => fr_ok _ hs) fun _ => fr_ok _ hs
end
theorem told_no {r : Rs Rsl} (h : (toldM r).2 ≠ 0) : (toldM r).1 = zWq ∧ (toldM r).2 = 5 := by
 cases r with
 | ok a p =>
  unfold toldM at h ⊢
  dsimp only at h ⊢
  split at h
  ·rename_i h0; rw [if_pos h0]; exact ⟨rfl, rfl⟩
  exact absurd rfl h
 | stop w p =>
  unfold toldM at h ⊢
  dsimp only at h ⊢
  split at h
  ·rename_i h0; rw [if_pos h0]; exact ⟨rfl, rfl⟩
  exact absurd rfl h
theorem told_yes {r : Rs Rsl} (h : (toldM r).2 = 0) : r.st.n = 0 := by
 cases r with
 | ok a p =>
  unfold toldM at h
  dsimp only at h
  split at h
  ·cases h
  rename_i h0; exact Nat.le_zero.1 (Nat.not_lt.1 h0)
 | stop w p =>
  unfold toldM at h
  dsimp only at h
  split at h
  ·cases h
  rename_i h0; exact Nat.le_zero.1 (Nat.not_lt.1 h0)
theorem help_none {J : JobA} {n : Nat} {f : Nat → GotA} (h : (helpN J n f).2 ≠ 0) : (helpN J n f).1 = zWq := by
 unfold helpN nextR at h ⊢
 split at h
 ·rename_i h0; rw [if_pos h0]; exact (told_no h).1
 rename_i h0; rw [if_neg h0]
theorem help_bud {J : JobA} {n : Nat} {f : Nat → GotA} (h : (helpN J n f).2 = 0) : (n : Int) ≤ J.budget ∧ ((n : Int) = J.budget → (helpN J n f).1.kind = 4) := by
 unfold helpN nextR at h ⊢
 split at h
 ·rename_i h0
  rw [if_pos h0]
  have hu := ub_help J.bucket (J.budget - n) J (pst0 n f)
  have h1 := told_yes h
  have hj : isJobB J = true := by simp only [Bool.and_eq_true] at h0; exact h0.1.1
  unfold isJobB btw at hj
  simp only [Bool.and_eq_true, decide_eq_true_eq] at hj
  have hp : (pst0 n f).n = n := rfl
  refine ⟨?_, fun he => ?_⟩
  ·rcases hu.bud with h2 | h2
   ·rw [h1, hp] at h2; omega
   rw [h1] at h2; omega
  cases hr : helpM J.bucket (J.budget - n) J (pst0 n f) with
  | ok a q => rw [hr] at h1; unfold toldM; dsimp only; rw [if_neg (by have : q.n = 0 := h1; omega)]
  | stop w q =>
   rw [hr] at h1
   have h3 : q.n = 0 := h1
   unfold toldM; dsimp only; rw [if_neg (by omega)]
   exact hu.fin _ _ hr (by omega)
 cases h
theorem help_front {J : JobA} {n k : Nat} {f : Nat → GotA} (h : (helpN J n f).2 = 0) (hk : k < n) : (helpN J k f).2 = 0 ∧ Ask (helpN J k f).1 := by
 unfold helpN nextR at h ⊢
 split at h
 ·rename_i h0
  have hg : allGot n f = true := by simp only [Bool.and_eq_true] at h0; exact h0.2
  have hg2 : allGot k f = true := allGot_yes fun j hj => allGot_at hg (by omega)
  rw [if_pos (by simp only [Bool.and_eq_true] at h0 ⊢; exact ⟨h0.1, hg2⟩)]
  have hs : Lss (n - k) (pst0 n f) (pst0 k f) := ⟨by show k + (n - k) = n; omega, rfl, rfl⟩
  have hf := fr_help (bk := J.bucket) (k := J.budget - n) (J := J) hs
  rw [show J.budget - (n : Int) + ((n - k : Nat) : Int) = J.budget - k by omega] at hf
  have h1 := told_yes h
  have key : ∃ w q', helpM J.bucket (J.budget - k) J (pst0 k f) = .stop w q' ∧ q'.n = 0 ∧ Ask w := by
   rcases hf with hf | hf
   ·exfalso
    cases hr : helpM J.bucket (J.budget - n) J (pst0 n f) with
    | ok a q => rw [hr] at hf h1; obtain ⟨q', _, h2, _⟩ := hf; have : q.n = 0 := h1; omega
    | stop w q => rw [hr] at hf h1; obtain ⟨q', _, h2, _⟩ := hf; have : q.n = 0 := h1; omega
   exact hf
  obtain ⟨w, q', e, h2, h3⟩ := key
  rw [e]
  unfold toldM
  dsimp only
  rw [if_neg (by omega)]
  exact ⟨rfl, h3⟩
 cases h
theorem lawFront_s (J : JobA) (hJ : JobIn J) (A : Option Addr) (n c : Nat) (f : Nat → GotA) (hn : n ≤ maxLen) (hin : ∀ j, j < n → InG (f j)) (k : Int) : Spec Try.prog 4 [jobV J, gotsV A n c f, .int .i64 k] (fun _ => .bool .tt) := by
 intro m w hm hargs
 have hmx : maxLen = 9223372036854775807 := rfl
 obtain ⟨bp, hbp⟩ := eqv (bigG n f)
 have SP : Spec Try.prog 16 [gotsV A n c f] (fun _ => .bool (.v bp)) := by rw [hbp]; exact bigG_s none A n c f hn
 refine en 105 hm hargs Try.func4 fun B hB a0 hF => ?_
 refine wp_seq (rg hB TA_ok [1, 2, 3] [3] [] hF fun X0 a0 w1 hF => ?_)
 have O1 := SP
 refine wp_seq (wp_seq (rg hB TA_ok [18, 1, 2, 3] [3] [(1, .r fun _ => .bool (.v bp))] hF fun X1 a0 w1 hF => ?_))
 apply test_ok hF rfl <;> intro hb hF
 ·refine wp_seq (rg hB TA_ok [6] [] [] hF fun X2 a0 w1 hF => ?_)
  refine wp_ret ((rsi hB TA_ok hF nAt (he := ?_)))
  subst hB
  exact Sim.bool rfl
 have hb0 : bp = false := by
  have h9 : (if bp = true then true else decide ((J.pn : Int) > 600)) = false := by subst hB; exact hb
  revert h9; cases bp <;> simp
 have hn2 : n ≤ 200 := (bigG_ff (hbp ▸ hb0)).1
 obtain ⟨W9, hW9⟩ := eqv ((helpN J n f).1)
 obtain ⟨E9, hE9⟩ := eqv ((helpN J n f).2)
 obtain ⟨rr9, hrr9⟩ := eqv (W9.r.rn)
 obtain ⟨nn9, hnn9⟩ := eqv (W9.res.items.length)
 obtain ⟨ff9, hff9⟩ := eqv (itF W9.res.items)
 have T9 := Spec.wq (hnext_s J hJ A n c f (by omega) hin) hW9 hE9 hrr9 hnn9 hff9
 have f1 : E9 ≠ 0 → W9.kind = 0 := fun h => by rw [hW9, help_none (by rw [← hE9]; exact h)]; rfl
 have f2 : E9 = 0 → (n : Int) ≤ J.budget ∧ ((n : Int) = J.budget → W9.kind = 4) := fun h => by rw [hW9]; exact help_bud (by rw [← hE9]; exact h)
 have O1 := T9
 refine wp_skip (wp_seq (rg hB TA_ok [1, 2, 3, 7, 8] [3, 7] [(2, .r fun x => .tup [.agg [.int .i64 W9.kind, .int .i64 W9.lab.len, .int .u64 W9.lab.bits, .int .u64 W9.ver, .int .i64 rr9.kd, .sl none (x.A 1) rr9.n (x.c 1) 2 (fun i => itC (rr9.f i)), .int .i64 rr9.nx.len, .int .u64 rr9.nx.bits, .int .u64 rr9.mrk, .int .i64 W9.res.code, .bool (.v W9.res.had), .str W9.res.val, .sl none (x.A 2) nn9 (x.c 2) 2 (fun i => itC (ff9 i)), .int .u64 W9.res.key, .bool (.v W9.res.more)], .int .i64 E9])] hF fun X3 a0 w1 hF => ?_))
 refine wp_seq (wp_seq (rg hB TA_ok [36, 1, 2, 3, 7, 8] [3, 7] [] hF fun X4 a0 w1 hF => ?_))
 apply test_ok hF rfl <;> intro hb hF
 ·skip
  have O1 := helped_s
  refine wp_seq (rg hB TA_ok [6] [] [(0, .r fun _ => .bool .tt)] hF fun X5 a0 w1 hF => ?_)
  refine wp_ret ((rsi hB TA_ok hF nAt (he := ?_)))
  subst hB
  refine Sim.bool ?_
  by_cases a1 : E9 = 0
  ·have a2 := (f2 a1).2
   by_cases a3 : (n : Int) = J.budget
   ·simp [std, sC, BE.den, canB, a1, a2 a3]
   simp [std, sC, BE.den, canB, a1, a3]
  simp [std, sC, BE.den, canB, a1, f1 a1]
 have h9 : (if (if (!decide (E9 = 0)) = true then true else decide (k < 0)) = true then true else decide (k ≥ (n : Int))) = false := by subst hB; exact hb
 have h8 : E9 = 0 ∧ 0 ≤ k ∧ k < (n : Int) := by
  by_cases a1 : E9 = 0 <;> by_cases a2 : k < 0 <;> simp [a1, a2] at h9 <;> omega
 obtain ⟨hE0, hk0, hkn⟩ := h8
 obtain ⟨W8, hW8⟩ := eqv ((helpN J k.toNat f).1)
 obtain ⟨E8, hE8⟩ := eqv ((helpN J k.toNat f).2)
 obtain ⟨rr8, hrr8⟩ := eqv (W8.r.rn)
 obtain ⟨nn8, hnn8⟩ := eqv (W8.res.items.length)
 obtain ⟨ff8, hff8⟩ := eqv (itF W8.res.items)
 have T8 := Spec.wq (hnext_s J hJ (adrOf A c 0 8) k.toNat c f (by omega) (fun j hj => hin j (by omega))) hW8 hE8 hrr8 hnn8 hff8
 have U8 := T8.sim (args' := [jobV J, .sl none (adrOf A c 0 8) (k.toNat - 0) (c - 0) 8 (fromC 0 (fun j => gotC (f j)))]) ⟨zr, Sim.resl rfl (fun i hi => by show gotC (f (0 + i)) = gotC (f i); rw [Nat.zero_add]), trivial⟩
 have f3 := help_front (J := J) (f := f) (n := n) (k := k.toNat) (by rw [← hE9]; exact hE0) (by omega)
 rw [← hW8, ← hE8] at f3
 obtain ⟨f4, f5⟩ := f3
 have f6 := f2 hE0
 have f7 : 1 ≤ W8.kind ∧ W8.kind ≤ 3 := by rcases f5 with h | h | h <;> omega
 have O1 := U8
 refine wp_skip (wp_seq (drg hB TA_ok [1, 3, 7, 9, 10] [3, 7, 9] [(4, .r fun x => .tup [.agg [.int .i64 W8.kind, .int .i64 W8.lab.len, .int .u64 W8.lab.bits, .int .u64 W8.ver, .int .i64 rr8.kd, .sl none (x.A 1) rr8.n (x.c 1) 2 (fun i => itC (rr8.f i)), .int .i64 rr8.nx.len, .int .u64 rr8.nx.bits, .int .u64 rr8.mrk, .int .i64 W8.res.code, .bool (.v W8.res.had), .str W8.res.val, .sl none (x.A 2) nn8 (x.c 2) 2 (fun i => itC (ff8 i)), .int .u64 W8.res.key, .bool (.v W8.res.more)], .int .i64 E8])] hF fun X6 a0 w1 hF => ?_))
 have O1 := helped_s
 refine wp_seq (rg hB TA_ok [6] [] [(0, .r fun _ => .bool .tt)] hF fun X7 a0 w1 hF => ?_)
 refine wp_ret ((rsi hB TA_ok hF nAt (he := ?_)))
 subst hB
 obtain ⟨f6a, f6b⟩ := f6
 refine Sim.bool ?_
 by_cases a3 : (n : Int) = J.budget
 ·simp [std, sC, BE.den, canB, f4, f7.1, f7.2, a3, f6b a3]
 simp [std, sC, BE.den, canB, f4, f7.1, f7.2, a3, f6a]
end Go.Proofs.Ytphmfjhmdajlmaa.Sym
namespace Go.Proofs.Ytphmfjhmdajlmaa
open Go Go.RowKit
theorem walkHelpFront (W : World) (v0 v1 v2 : Value) (i0 : Sym.InJob W v0) (i1 : Sym.InGots W v1) (i2 : Sym.InI W v2) : Calls Try.prog 4 #[v0, v1, v2] W fun e w' => e = .returned (.bool true) ∧ Below W.heap.size W w' := by
 obtain ⟨J, rfl, h0, hJ⟩ := i0
 obtain ⟨A, n, c, f, rfl, h1, hn, hf⟩ := i1
 obtain ⟨k, rfl, _⟩ := i2
 have S := Sym.lawFront_s J hJ A n c f hn hf k
 refine (S (fun _ _ => False) W (fun _ _ h => h.elim) (fun v hv => ?_)).mono ?_
 ·simp only [List.mem_cons, List.not_mem_nil, or_false] at hv
  rcases hv with rfl | rfl | rfl
  ·exact h0
  ·exact h1
  exact .int _ _
 rintro e w' ⟨x, rfl, _, hb⟩
 exact ⟨rfl, hb⟩
end Go.Proofs.Ytphmfjhmdajlmaa
