/-
  PlOnce, SymLwO, PlKeep, SymLw1, SymLwG, WalkShelfAgain, ClaimShelfAgain: put together by a program of mine (a claim may have 60 files at most). Conditions: none.
-/
import Derived.Test.YthpbihppfijegaaRows
import Derived.Test.YthpbihppfijegaaMgA1
import Derived.Test.YthpbihppfijegaaMgA2
import Derived.Test.YthpbihppfijegaaMgA3
import Derived.Test.YthpbihppfijegaaMgA4
import Derived.Test.YthpbihppfijegaaMgA
namespace Go.Proofs.Ythpbihppfijegaa
open Go Go.RowKit Sym
set_option linter.unusedVariables false
set_option linter.unusedSimpArgs false

theorem inc_ne (v : Int) : inc v ≠ v := by
  intro h
  have : (inc v) % 18446744073709551616 = (v + 1) % 18446744073709551616 := by
    unfold inc IntKind.wrap
    simp [IntKind.bits, IntKind.signed]
  rw [h] at this
  omega
theorem doL_get {L : Shf} {l : Lab} {v : Int} {r : Rec} : doL L ⟨1, l, v, r⟩ = if isL l = true then ⟨L, false, ⟨0, (spotOf L l).ver, (spotOf L l).has, (spotOf L l).r⟩, 0⟩ else ⟨L, false, zeroGot, 1⟩ := by
  unfold doL
  simp
theorem spot_put (L : Shf) (l : Lab) (x : Spo) : spotOf (putL l x L) l = x := by
  unfold spotOf; rw [find_put, if_pos rfl]; rfl
def GoodW (w : Wnt) : Prop := (w.kind = 1 ∨ w.kind = 2 ∨ w.kind = 3) ∧ isL w.lab = true ∧ (w.kind = 2 → isR w.r = true)
theorem doL_bad {L : Shf} {w : Wnt} (h : ¬ GoodW w) : doL L w = ⟨L, false, zeroGot, 1⟩ := if_neg h
theorem doL_old {L : Shf} {w : Wnt} (h : GoodW w) (hk : ¬ w.kind = 1) (hv : w.ver ≠ (spotOf L w.lab).ver) : doL L w = ⟨L, false, ⟨8, (spotOf L w.lab).ver, false, zeroRec⟩, 0⟩ := (if_pos h).trans ((if_neg hk).trans (if_pos hv))
theorem doL_full {L : Shf} {w : Wnt} (h : GoodW w) (hk : ¬ w.kind = 1) (hv : ¬ w.ver ≠ (spotOf L w.lab).ver) (hf : (findL w.lab L).isNone ∧ 2000 ≤ L.length) : doL L w = ⟨L, false, zeroGot, 12⟩ := (if_pos h).trans ((if_neg hk).trans ((if_neg hv).trans (if_pos hf)))
theorem doL_new {L : Shf} {w : Wnt} (h : GoodW w) (hk : ¬ w.kind = 1) (hv : ¬ w.ver ≠ (spotOf L w.lab).ver) (hf : ¬ ((findL w.lab L).isNone ∧ 2000 ≤ L.length)) : doL L w = ⟨putL w.lab (nextSpo w) L, true, ⟨0, inc w.ver, false, zeroRec⟩, 0⟩ := (if_pos h).trans ((if_neg hk).trans ((if_neg hv).trans (if_neg hf)))
theorem doL_see {L : Shf} {w : Wnt} (h : GoodW w) (hk : w.kind = 1) : doL L w = ⟨L, false, ⟨0, (spotOf L w.lab).ver, (spotOf L w.lab).has, (spotOf L w.lab).r⟩, 0⟩ := (if_pos h).trans (if_pos hk)
theorem doL_late {L : Shf} {l : Lab} {v : Int} {k : Int} {r : Rec} (hl : isL l = true) (hk : k = 2 ∨ k = 3) (hv : v ≠ (spotOf L l).ver) : (doL L ⟨k, l, v, r⟩).L = L ∧ (doL L ⟨k, l, v, r⟩).wrote = false ∧ ((doL L ⟨k, l, v, r⟩).err = 0 → (doL L ⟨k, l, v, r⟩).got.code = 8) ∧ (k = 3 → (doL L ⟨k, l, v, r⟩).err = 0) := by
  by_cases hg : GoodW ⟨k, l, v, r⟩
  · rw [doL_old hg (by simp only; omega) hv]
    exact ⟨rfl, rfl, fun _ => rfl, fun _ => rfl⟩
  · rw [doL_bad hg]
    refine ⟨rfl, rfl, fun h => absurd h (show ¬ (1 : Int) = 0 by decide), fun h3 => absurd ⟨.inr hk, hl, fun h2 => ?_⟩ hg⟩
    simp only at h2
    omega
theorem doL_err {L : Shf} {w : Wnt} (h : (doL L w).err ≠ 0) : (doL L w).wrote = false := by
  by_cases hg : GoodW w
  · by_cases hk : w.kind = 1
    · rw [doL_see hg hk] at h; exact absurd rfl h
    · by_cases hv : w.ver ≠ (spotOf L w.lab).ver
      · rw [doL_old hg hk hv]
      · by_cases hf : (findL w.lab L).isNone ∧ 2000 ≤ L.length
        · rw [doL_full hg hk hv hf]
        · rw [doL_new hg hk hv hf] at h; exact absurd rfl h
  · rw [doL_bad hg]
structure OnceL (l : Lab) (a b : Rec) (L : Shf) (D1 D2 D3 D4 D5 : Did) : Prop where
  w1 : D1.wrote = false
  no : (D1.err ≠ 0 ∨ D2.err ≠ 0) → D2.wrote = false
  w2 : D1.err = 0 → D2.err = 0 → D2.wrote = true
  c2 : D1.err = 0 → D2.err = 0 → D2.got.code = 0 ∧ D2.got.ver = inc D1.got.ver
  c3 : D1.err = 0 → D2.err = 0 → D3.wrote = false ∧ (D3.err = 0 → D3.got.code = 8)
  c4 : D1.err = 0 → D2.err = 0 → D4.wrote = false ∧ D4.err = 0 ∧ D4.got.code = 8
  c5 : D1.err = 0 → D2.err = 0 → D5.wrote = false ∧ D5.err = 0 ∧ D5.got.has = true ∧ D5.got.ver = D2.got.ver ∧ D5.got.r = a
theorem once_law {l : Lab} {a b z1 z4 z5 : Rec} {L : Shf} {v1 v2 v5 : Int} {D1 D2 D3 D4 D5 : Did} (h1 : D1 = doL L ⟨1, l, v1, z1⟩) (e2 : v2 = D1.got.ver) (h2 : D2 = doL D1.L ⟨2, l, v2, a⟩) (h3 : D3 = doL D2.L ⟨2, l, v2, b⟩) (h4 : D4 = doL D3.L ⟨3, l, v2, z4⟩) (h5 : D5 = doL D4.L ⟨1, l, v5, z5⟩) : OnceL l a b L D1 D2 D3 D4 D5 := by
  rw [doL_get] at h1 h5
  by_cases hl : isL l = true
  · rw [if_pos hl] at h1 h5
    have f1 : D1.L = L := by rw [h1]
    have f2 : v2 = (spotOf L l).ver := by rw [e2, h1]
    have f3 : D1.err = 0 := by rw [h1]
    have f4 : D1.wrote = false := by rw [h1]
    have f5 : D1.got.ver = (spotOf L l).ver := by rw [h1]
    rw [f1] at h2
    have key : D2.err = 0 → D2 = ⟨putL l ⟨inc v2, true, a⟩ L, true, ⟨0, inc v2, false, zeroRec⟩, 0⟩ := by
      intro he
      rw [h2] at he ⊢
      by_cases hg : GoodW ⟨2, l, v2, a⟩
      · have g2 : ¬ (2 : Int) = 1 := by decide
        have g3 : ¬ v2 ≠ (spotOf L l).ver := fun h => h f2
        by_cases hf : (findL l L).isNone ∧ 2000 ≤ L.length
        · rw [doL_full hg g2 g3 hf] at he; exact absurd he (show ¬ (12 : Int) = 0 by decide)
        · rw [doL_new hg g2 g3 hf]
          simp [nextSpo]
      · rw [doL_bad hg] at he; exact absurd he (show ¬ (1 : Int) = 0 by decide)
    have late : D2.err = 0 → spotOf D2.L l = ⟨inc v2, true, a⟩ := fun he => by rw [key he]; exact spot_put _ _ _
    have l3 := fun he => doL_late (L := D2.L) (r := b) (k := 2) hl (.inl rfl) (show v2 ≠ (spotOf D2.L l).ver by rw [late he]; exact (inc_ne v2).symm)
    rw [← h3] at l3
    have s3 : D2.err = 0 → spotOf D3.L l = ⟨inc v2, true, a⟩ := fun he => by rw [(l3 he).1]; exact late he
    have l4 := fun he => doL_late (L := D3.L) (r := z4) (k := 3) hl (.inr rfl) (show v2 ≠ (spotOf D3.L l).ver by rw [s3 he]; exact (inc_ne v2).symm)
    rw [← h4] at l4
    have s4 : D2.err = 0 → spotOf D4.L l = ⟨inc v2, true, a⟩ := fun he => by rw [(l4 he).1]; exact s3 he
    refine ⟨f4, fun h => ?_, fun _ he => by rw [key he], fun _ he => ?_, fun _ he => ⟨(l3 he).2.1, (l3 he).2.2.1⟩, fun _ he => ⟨(l4 he).2.1, (l4 he).2.2.2 rfl, (l4 he).2.2.1 ((l4 he).2.2.2 rfl)⟩, fun _ he => ?_⟩
    · rcases h with h | h
      · exact absurd f3 h
      · rw [h2] at h ⊢; exact doL_err h
    · rw [key he, f5, f2]; exact ⟨rfl, rfl⟩
    · rw [h5, s4 he, key he]; exact ⟨rfl, rfl, rfl, rfl, rfl⟩
  · rw [if_neg hl] at h1 h5
    have f3 : D1.err = 1 := by rw [h1]
    have n0 : ¬ D1.err = 0 := by rw [f3]; decide
    refine ⟨by rw [h1], fun _ => ?_, fun h => absurd h n0, fun h => absurd h n0, fun h => absurd h n0, fun h => absurd h n0, fun h => absurd h n0⟩
    rw [h2, doL_bad fun h => hl h.2.1]
end Go.Proofs.Ythpbihppfijegaa

namespace Go.Proofs.Ythpbihppfijegaa.Sym
open Go Go.RowKit
set_option maxRecDepth 100000
set_option maxHeartbeats 1600000
set_option linter.unusedVariables false
set_option linter.unusedSimpArgs false
theorem or3 : ∀ a b c : Bool, (if (if a = true then true else b) = true then true else c) = false → (a || b || c) = false := by decide
theorem bigs_ff {n : Nat} {f : Nat → RowA} (h : (if n ≤ 300 then bigS n f else true) = false) : n ≤ 300 ∧ ∀ i, i < n → (f i).x.r.n ≤ 40 := by
  by_cases hn : n ≤ 300
  · rw [if_pos hn] at h
    refine ⟨hn, fun i hi => ?_⟩
    unfold bigS at h
    simp only [Bool.or_eq_false_iff] at h
    exact bigF_len (anyB_false h.1.2 i hi)
  · rw [if_neg hn] at h; cases h
theorem new_wf {n : Nat} {f : Nat → RowA} (hb : n ≤ 300 ∧ ∀ i, i < n → (f i).x.r.n ≤ 40) (hwf : ∀ i, i < n → LabOk (f i).lab ∧ U64 (f i).x.r.nx.bits) (hu : ∀ l, LabOk l → U64 l.bits) : ∀ i, i < n → (f i).x.r.n ≤ 1000000 ∧ LabOk (f i).lab ∧ U64 (f i).lab.bits ∧ U64 (f i).x.r.nx.bits := fun i hi => ⟨by have := hb.2 i hi; omega, (hwf i hi).1, hu _ (hwf i hi).1, (hwf i hi).2⟩
theorem lab_u64 (l : Lab) (h : LabOk l) : U64 l.bits := by
  have := h.2
  simp [Lit.wf, IntKind.min, IntKind.max, IntKind.signed, IntKind.bits] at this
  exact ⟨by omega, by omega⟩
theorem rws_lab {n : Nat} {f : Nat → RowA} (hwf : ∀ i, i < n → LabOk (f i).lab ∧ U64 (f i).x.r.nx.bits) : ∀ r ∈ rwsA f n, LabOk r.lab := by
  intro r hr
  obtain ⟨i, hi, rfl⟩ := List.mem_map.1 hr
  exact (hwf i (List.mem_range.1 hi)).1
theorem rec_len {m : Nat → Nat → Prop} {w : World} {x : RA} (h : Ok m w (recV x)) : x.r.n ≤ maxLen := by
  cases h with | agg _ h1 h2 =>
    have := ok_len (h2 (.sl none x.A x.r.n x.c 2 (fun i => itC (x.r.f i))) (by simp))
    omega
theorem got_len {m : Nat → Nat → Prop} {w : World} {A : Option Addr} {n c : Nat} {f : Nat → Itm} (h : Ok m w (.sl none A n c 2 (fun i => itC (f i)))) : n ≤ maxLen := by
  have := ok_len h
  omega
theorem once12 {l : Lab} {z1 a : Rec} {L L1 : Shf} {v1 v2 er1 er2 : Int} {D1 D2 : Did} (h1 : D1 = doL L ⟨1, l, v1, z1⟩) (h2 : D2 = doL L1 ⟨2, l, v2, a⟩) (hL : L1 = D1.L) (e1 : er1 = D1.err) (e2 : er2 = D2.err) (h : er1 ≠ 0 ∨ er2 ≠ 0) : D1.wrote = false ∧ D2.wrote = false := by
  rw [doL_get] at h1
  by_cases hl : isL l = true
  · rw [if_pos hl] at h1
    have : D1.err = 0 := by rw [h1]
    refine ⟨by rw [h1], ?_⟩
    rw [h2] at e2 ⊢
    refine doL_err ?_
    rcases h with h | h
    · exact absurd (e1.trans this) h
    · rw [← e2]; exact h
  · rw [if_neg hl] at h1
    exact ⟨by rw [h1], by rw [h2, doL_bad fun h => hl h.2.1]⟩
def T4 : List (Nat × TI) := [(3, ti3), (4, ti4), (22, ti22), (26, ti26), (27, ti27), (33, ti33), (36, ti36), (38, ti38), (40, ti40), (46, ti46)]
theorem T4_ok : TabOK Try.prog T4 := .cons t3 (.cons t4 (.cons t22 (.cons t26 (.cons t27 (.cons t33 (.cons t36 (.cons t38 (.cons t40 (.cons t46 (.nil))))))))))
theorem enters4 : Enters Try.prog 4 := fun _ _ => by kernel_rfl
theorem lawOnce_no (A : Option Addr) (n c : Nat) (f : Nat → RowA) (hn : n ≤ maxLen) (hwf : ∀ i, i < n → LabOk (f i).lab ∧ U64 (f i).x.r.nx.bits) (l : Lab) (a b : RA) (hLB : LabOk l) (hua : U64 a.r.nx.bits) (hub : U64 b.r.nx.bits) (hnew : newS (rwsA f n) = none) : Spec Try.prog 4 [rowsV A n c f, labAV l, recV a, recV b] (fun _ => .bool .tt) := by
  intro m w hm hargs
  have hmx : maxLen = 9223372036854775807 := rfl
  have S1 := bigs_s A n c f hn
  obtain ⟨bl, hbl⟩ : ∃ q, q = (if n ≤ 300 then bigS n f else true) := ⟨_, rfl⟩
  rw [← hbl] at S1
  have han : a.r.n ≤ maxLen := rec_len (hargs (recV a) (by simp))
  have hbn : b.r.n ≤ maxLen := rec_len (hargs (recV b) (by simp))
  have S2 := big_s a.A a.r.n a.c a.r.f han a.r.kd a.r.nx a.r.mrk
  have S3 := big_s b.A b.r.n b.c b.r.f hbn b.r.kd b.r.nx b.r.mrk
  simp only [recI, rowI] at S2 S3
  obtain ⟨ba, hba⟩ : ∃ q, q = bigF a.r.n a.r.f := ⟨_, rfl⟩
  rw [← hba] at S2
  obtain ⟨bb, hbb⟩ : ∃ q, q = bigF b.r.n b.r.f := ⟨_, rfl⟩
  rw [← hbb] at S3
  have hul := lab_u64 l hLB
  simp only [labAV] at hargs ⊢
  refine enter hm hargs Try.func4 rfl (by simp [Try.ntmps4]) fun a0 hF => ?_
  simp only [Try.ntmps4, startT] at hF
  obtain ⟨B, hB⟩ : ∃ B, B = std := ⟨_, rfl⟩
  refine wp_seq ?_
  apply region_okB hB T4_ok [0, 5, 6, 7] [5, 6, 7] [] hF
  case hex => intro A X; conv => lhs; cbv
  case hob =>
    intro X
    subst hB
    simp only [AllOb, Ob.holds, BE.den, List.mem_cons, List.not_mem_nil, or_false, forall_eq_or_imp, forall_eq] <;> (and_intros <;> first | trivial | rfl | (intro h; first | trivial | rfl))
  case hQ =>
  intro X0 a0 w1 hF
  refine wp_seq ?_
  refine wp_seq ?_
  apply region_okB hB T4_ok [30, 0, 5, 6, 7] [5, 6, 7] [(1, .r fun _ => .bool (.v bl)), (4, .r fun _ => .bool (.v ba)), (8, .r fun _ => .bool (.v bb))] hF
  case hex => intro A X; conv => lhs; cbv
  case hob =>
    intro X
    subst hB
    simp only [AllOb, Ob.holds, BE.den, List.mem_cons, List.not_mem_nil, or_false, forall_eq_or_imp, forall_eq] <;> (and_intros <;> first | trivial | rfl | exact enters8 | exact S1 | exact enters20 | exact S2 | exact enters20 | exact S3 | (intro h; first | trivial | rfl | exact ⟨enters8, S1⟩ | exact ⟨enters20, S2⟩ | exact ⟨enters20, S3⟩))
  case hQ =>
  intro X1 a0 w1 hF
  refine test_ok hF rfl (fun hb hF => ?_) (fun hb hF => ?_)
  · skip
    refine wp_seq ?_
    apply region_okB hB T4_ok [8] [] [] hF
    case hex => intro A X; conv => lhs; cbv
    case hob =>
      intro X
      subst hB
      simp only [AllOb, Ob.holds, BE.den, List.mem_cons, List.not_mem_nil, or_false, forall_eq_or_imp, forall_eq] <;> (and_intros <;> first | trivial | rfl | (intro h; first | trivial | rfl))
    case hQ =>
    intro X2 a0 w1 hF
    refine wp_ret ?_
    refine ret_sim (fn := Try.f4) T4_ok hF (rs := [.tmp 8]) rfl (rfl) ?_ noAtom ?_
    · simp [AllOb, Ob.holds]
    · subst hB
      exact Sim.bool rfl
  · skip
    have hb0 : (bl || ba || bb) = false := by
      have h9 : (if (if bl = true then true else ba) = true then true else bb) = false := by subst hB; exact hb
      exact or3 _ _ _ h9
    simp only [Bool.or_eq_false_iff] at hb0
    have hb1 := bigs_ff (hbl ▸ hb0.1.1)
    have ha40 : a.r.n ≤ 40 := bigF_len (f := a.r.f) (hba ▸ hb0.1.2)
    have hb40 : b.r.n ≤ 40 := bigF_len (f := b.r.f) (hbb ▸ hb0.2)
    have hN := new_wf hb1 hwf lab_u64
    refine wp_skip ?_
    refine wp_seq ?_
    refine wp_region_lit ?_
    apply list_preB 0 1 hB T4_ok [32, 5, 6, 7] [5, 6, 7] [] hF
    case hex => intro A X; conv => lhs; cbv
    case hob =>
      intro X
      subst hB
      simp only [AllOb, Ob.holds, BE.den, List.mem_cons, List.not_mem_nil, or_false, forall_eq_or_imp, forall_eq] <;> (and_intros <;> first | trivial | rfl | (intro h; first | trivial | rfl))
    case hQ =>
    intro X3_0 a0 w1 hF
    have SN := new_no A n c f hn hN hnew
    refine man_callM rfl rfl rfl rfl hF rfl rfl enters10 SN (fun _ _ _ => trivial) (fun b hb => by cases hb) (SimL.refl _) (by intro e he; cases he) rfl rfl (fun y => noK) (fun _ _ _ _ _ _ _ _ _ _ => trivial) ?_
    intro y a0 w1 hF
    apply list_endB 2 hB T4_ok [9, 10, 5, 6, 7] [5, 6, 7] [] hF
    case hex => intro A X; conv => lhs; cbv
    case hob =>
      intro X
      subst hB
      simp only [AllOb, Ob.holds, BE.den, List.mem_cons, List.not_mem_nil, or_false, forall_eq_or_imp, forall_eq] <;> (and_intros <;> first | trivial | rfl | (intro h; first | trivial | rfl))
    case hQ =>
    intro X3 a0 w1 hF
    refine wp_seq ?_
    refine wp_seq ?_
    apply region_okB hB T4_ok [37, 9, 10, 5, 6, 7] [5, 6, 7] [] hF
    case hex => intro A X; conv => lhs; cbv
    case hob =>
      intro X
      subst hB
      simp only [AllOb, Ob.holds, BE.den, List.mem_cons, List.not_mem_nil, or_false, forall_eq_or_imp, forall_eq] <;> (and_intros <;> first | trivial | rfl | (intro h; first | trivial | rfl))
    case hQ =>
    intro X4 a0 w1 hF
    refine test_tt hF rfl (fun hF => ?_)
    refine wp_seq ?_
    apply region_okB hB T4_ok [8] [] [(0, .r fun _ => .bool .tt)] hF
    case hex => intro A X; conv => lhs; cbv
    case hob =>
      intro X
      subst hB
      simp only [AllOb, Ob.holds, BE.den, List.mem_cons, List.not_mem_nil, or_false, forall_eq_or_imp, forall_eq] <;> (and_intros <;> first | trivial | rfl | exact enters16 | exact shelved_s | (intro h; first | trivial | rfl | exact ⟨enters16, shelved_s⟩))
    case hQ =>
    intro X5 a0 w1 hF
    refine wp_ret ?_
    refine ret_sim (fn := Try.f4) T4_ok hF (rs := [.tmp 8]) rfl (rfl) ?_ noAtom ?_
    · simp [AllOb, Ob.holds]
    · subst hB
      refine Sim.bool ?_
      simp [std, stdCmp, BE.den, canB]
theorem lawOnce_yes (A : Option Addr) (n c : Nat) (f : Nat → RowA) (hn : n ≤ maxLen) (hwf : ∀ i, i < n → LabOk (f i).lab ∧ U64 (f i).x.r.nx.bits) (l : Lab) (a b : RA) (hLB : LabOk l) (hua : U64 a.r.nx.bits) (hub : U64 b.r.nx.bits) {L : Shf} (hnew : newS (rwsA f n) = some L) : Spec Try.prog 4 [rowsV A n c f, labAV l, recV a, recV b] (fun _ => .bool .tt) := by
  intro m w hm hargs
  have hmx : maxLen = 9223372036854775807 := rfl
  have S1 := bigs_s A n c f hn
  obtain ⟨bl, hbl⟩ : ∃ q, q = (if n ≤ 300 then bigS n f else true) := ⟨_, rfl⟩
  rw [← hbl] at S1
  have han : a.r.n ≤ maxLen := rec_len (hargs (recV a) (by simp))
  have hbn : b.r.n ≤ maxLen := rec_len (hargs (recV b) (by simp))
  have S2 := big_s a.A a.r.n a.c a.r.f han a.r.kd a.r.nx a.r.mrk
  have S3 := big_s b.A b.r.n b.c b.r.f hbn b.r.kd b.r.nx b.r.mrk
  simp only [recI, rowI] at S2 S3
  obtain ⟨ba, hba⟩ : ∃ q, q = bigF a.r.n a.r.f := ⟨_, rfl⟩
  rw [← hba] at S2
  obtain ⟨bb, hbb⟩ : ∃ q, q = bigF b.r.n b.r.f := ⟨_, rfl⟩
  rw [← hbb] at S3
  have hul := lab_u64 l hLB
  simp only [labAV] at hargs ⊢
  refine enter hm hargs Try.func4 rfl (by simp [Try.ntmps4]) fun a0 hF => ?_
  simp only [Try.ntmps4, startT] at hF
  obtain ⟨B, hB⟩ : ∃ B, B = std := ⟨_, rfl⟩
  refine wp_seq ?_
  apply region_okB hB T4_ok [0, 5, 6, 7] [5, 6, 7] [] hF
  case hex => intro A X; conv => lhs; cbv
  case hob =>
    intro X
    subst hB
    simp only [AllOb, Ob.holds, BE.den, List.mem_cons, List.not_mem_nil, or_false, forall_eq_or_imp, forall_eq] <;> (and_intros <;> first | trivial | rfl | (intro h; first | trivial | rfl))
  case hQ =>
  intro X0 a0 w1 hF
  refine wp_seq ?_
  refine wp_seq ?_
  apply region_okB hB T4_ok [30, 0, 5, 6, 7] [5, 6, 7] [(1, .r fun _ => .bool (.v bl)), (4, .r fun _ => .bool (.v ba)), (8, .r fun _ => .bool (.v bb))] hF
  case hex => intro A X; conv => lhs; cbv
  case hob =>
    intro X
    subst hB
    simp only [AllOb, Ob.holds, BE.den, List.mem_cons, List.not_mem_nil, or_false, forall_eq_or_imp, forall_eq] <;> (and_intros <;> first | trivial | rfl | exact enters8 | exact S1 | exact enters20 | exact S2 | exact enters20 | exact S3 | (intro h; first | trivial | rfl | exact ⟨enters8, S1⟩ | exact ⟨enters20, S2⟩ | exact ⟨enters20, S3⟩))
  case hQ =>
  intro X1 a0 w1 hF
  refine test_ok hF rfl (fun hb hF => ?_) (fun hb hF => ?_)
  · skip
    refine wp_seq ?_
    apply region_okB hB T4_ok [8] [] [] hF
    case hex => intro A X; conv => lhs; cbv
    case hob =>
      intro X
      subst hB
      simp only [AllOb, Ob.holds, BE.den, List.mem_cons, List.not_mem_nil, or_false, forall_eq_or_imp, forall_eq] <;> (and_intros <;> first | trivial | rfl | (intro h; first | trivial | rfl))
    case hQ =>
    intro X2 a0 w1 hF
    refine wp_ret ?_
    refine ret_sim (fn := Try.f4) T4_ok hF (rs := [.tmp 8]) rfl (rfl) ?_ noAtom ?_
    · simp [AllOb, Ob.holds]
    · subst hB
      exact Sim.bool rfl
  · skip
    have hb0 : (bl || ba || bb) = false := by
      have h9 : (if (if bl = true then true else ba) = true then true else bb) = false := by subst hB; exact hb
      exact or3 _ _ _ h9
    simp only [Bool.or_eq_false_iff] at hb0
    have hb1 := bigs_ff (hbl ▸ hb0.1.1)
    have ha40 : a.r.n ≤ 40 := bigF_len (f := a.r.f) (hba ▸ hb0.1.2)
    have hb40 : b.r.n ≤ 40 := bigF_len (f := b.r.f) (hbb ▸ hb0.2)
    have hN := new_wf hb1 hwf lab_u64
    refine wp_skip ?_
    refine wp_seq ?_
    refine wp_region_lit ?_
    apply list_preB 0 1 hB T4_ok [32, 5, 6, 7] [5, 6, 7] [] hF
    case hex => intro A X; conv => lhs; cbv
    case hob =>
      intro X
      subst hB
      simp only [AllOb, Ob.holds, BE.den, List.mem_cons, List.not_mem_nil, or_false, forall_eq_or_imp, forall_eq] <;> (and_intros <;> first | trivial | rfl | (intro h; first | trivial | rfl))
    case hQ =>
    intro X3_0 a0 w1 hF
    have SN := new_yes A n c f hn hN 200 hnew
    have hok0 : ShfOk L := newS_ok (rws_lab hwf) hnew
    refine man_callM rfl rfl rfl rfl hF rfl rfl enters10 (SN) (fun _ _ _ => trivial) (fun b hb => by cases hb) (SimL.refl _) (by intro e he; cases he) rfl rfl (fun y => shF w.heap.size (y.c 0) L) (fun n x m w m' w' hn _ _ h => ⟨Nat.le_trans hn h.1, h.2⟩) ?_
    intro y a0 w1 hF
    obtain ⟨sb, hsb⟩ : ∃ b, b = y.b := ⟨_, rfl⟩
    obtain ⟨bM, hbM⟩ : ∃ b, b = y.c 0 := ⟨_, rfl⟩
    rw [← hsb, ← hbM] at hF
    have hbfr : w.heap.size ≤ bM := hF.kept.1
    replace hF := hF.withK (K' := shK bM L) hF.kept.2
    apply list_endB 2 hB T4_ok [9, 10, 5, 6, 7] [5, 6, 7, 200] [] hF
    case hex => intro A X; conv => lhs; cbv
    case hob =>
      intro X
      subst hB
      simp only [AllOb, Ob.holds, BE.den, List.mem_cons, List.not_mem_nil, or_false, forall_eq_or_imp, forall_eq] <;> (and_intros <;> first | trivial | rfl | (intro h; first | trivial | rfl))
    case hQ =>
    intro X3 a0 w1 hF
    refine wp_seq ?_
    refine wp_seq ?_
    apply region_okB hB T4_ok [37, 9, 10, 5, 6, 7] [5, 6, 7, 200] [] hF
    case hex => intro A X; conv => lhs; cbv
    case hob =>
      intro X
      subst hB
      simp only [AllOb, Ob.holds, BE.den, List.mem_cons, List.not_mem_nil, or_false, forall_eq_or_imp, forall_eq] <;> (and_intros <;> first | trivial | rfl | (intro h; first | trivial | rfl))
    case hQ =>
    intro X4 a0 w1 hF
    refine test_ff hF rfl (fun hF => ?_)
    refine wp_skip ?_
    refine wp_seq ?_
    refine wp_region_lit ?_
    apply list_preB 0 3 hB T4_ok [44, 46, 9, 5, 6, 7] [5, 6, 7, 200] [] hF
    case hex => intro A X; conv => lhs; cbv
    case hob =>
      intro X
      subst hB
      simp only [AllOb, Ob.holds, BE.den, List.mem_cons, List.not_mem_nil, or_false, forall_eq_or_imp, forall_eq] <;> (and_intros <;> first | trivial | rfl | (intro h; first | trivial | rfl))
    case hQ =>
    intro X6_0 a0 w1 hF
    have SD := do_m 200 sb bM L (by have := hok0.len; omega) 0 ⟨1, l, 0, zRA, ⟨0, false, .empty, none, 0, 0, fun _ => zeroItm, 0, false⟩⟩ (Nat.zero_le _) hLB hul ⟨Int.le_refl 0, show (0 : Int) < 18446744073709551616 by decide⟩
    obtain ⟨D1, hD1⟩ : ∃ D, D = doL L (WntA.abs ⟨1, l, 0, zRA, ⟨0, false, .empty, none, 0, 0, fun _ => zeroItm, 0, false⟩⟩) := ⟨_, rfl⟩
    rw [← hD1] at SD
    obtain ⟨GG1, hGG1⟩ : ∃ G : Atom → GotA, G = fun y => gotA y D1.got := ⟨_, rfl⟩
    have hGf1 : ∀ y, gotA y D1.got = GG1 y := fun y => by rw [hGG1]
    simp only [hGf1] at SD
    obtain ⟨k1, hk1⟩ : ∃ z, z = (if D1.wrote then IntKind.i64.wrap (0 + 1) else 0) := ⟨_, rfl⟩
    rw [← hk1] at SD
    obtain ⟨er1, her1⟩ : ∃ z, z = D1.err := ⟨_, rfl⟩
    rw [← her1] at SD
    obtain ⟨L1, hL1⟩ : ∃ z, z = D1.L := ⟨_, rfl⟩
    rw [← hL1] at SD
    refine man_callM rfl rfl rfl rfl hF rfl rfl enters12 SD (fun _ _ h => h) (fun b hb => by cases hb; exact fun h => absurd h (Nat.not_lt.2 hbfr)) ⟨Sim.refl _, Sim.agg (by repeat (first | exact trivial | refine ⟨Sim.refl _, ?_⟩ | refine ⟨Sim.ff, ?_⟩ | refine ⟨Sim.recell (fun i hi => absurd hi (Nat.not_lt_zero _)), ?_⟩)), trivial⟩ (by intro e he; simp only [List.mem_singleton] at he; subst he; rfl) rfl rfl (fun _ => shK bM L1) (fun _ _ _ _ _ _ _ _ _ h => h) ?_
    intro y a0 w1 hF
    obtain ⟨g1, hg1⟩ : ∃ g, g = GG1 y := ⟨_, rfl⟩
    rw [← hg1] at hF
    replace hF := hF.withK (K' := shK bM L1) hF.kept
    have hga1 : g1.abs = D1.got := by rw [hg1, ← hGf1, gotA_abs]
    have hok1 : ShfOk L1 := by rw [hL1, hD1]; exact doL_ok hok0 hLB
    apply list_endB 4 hB T4_ok [9, 5, 6, 7, 11, 12] [5, 6, 7, 200, 11] [] hF
    case hex => intro A X; conv => lhs; cbv
    case hob =>
      intro X
      subst hB
      simp only [AllOb, Ob.holds, BE.den, List.mem_cons, List.not_mem_nil, or_false, forall_eq_or_imp, forall_eq] <;> (and_intros <;> first | trivial | rfl | (intro h; first | trivial | rfl))
    case hQ =>
    intro X6 a0 w1 hF
    refine wp_seq ?_
    refine wp_region_lit ?_
    apply list_preB 0 6 hB T4_ok [51, 56, 9, 5, 6, 7, 11, 12] [5, 6, 7, 200, 11] [] hF
    case hex => intro A X; conv => lhs; cbv
    case hob =>
      intro X
      subst hB
      simp only [AllOb, Ob.holds, BE.den, List.mem_cons, List.not_mem_nil, or_false, forall_eq_or_imp, forall_eq] <;> (and_intros <;> first | trivial | rfl | (intro h; first | trivial | rfl))
    case hQ =>
    intro X7_0 a0 w1 hF
    have SD := do_m 200 sb bM L1 (by have := hok1.len; omega) k1 ⟨2, l, g1.ver, a, ⟨0, false, .empty, none, 0, 0, fun _ => zeroItm, 0, false⟩⟩ (by simp only; omega) hLB hul hua
    obtain ⟨D2, hD2⟩ : ∃ D, D = doL L1 (WntA.abs ⟨2, l, g1.ver, a, ⟨0, false, .empty, none, 0, 0, fun _ => zeroItm, 0, false⟩⟩) := ⟨_, rfl⟩
    rw [← hD2] at SD
    obtain ⟨GG2, hGG2⟩ : ∃ G : Atom → GotA, G = fun y => gotA y D2.got := ⟨_, rfl⟩
    have hGf2 : ∀ y, gotA y D2.got = GG2 y := fun y => by rw [hGG2]
    simp only [hGf2] at SD
    obtain ⟨k2, hk2⟩ : ∃ z, z = (if D2.wrote then IntKind.i64.wrap (k1 + 1) else k1) := ⟨_, rfl⟩
    rw [← hk2] at SD
    obtain ⟨er2, her2⟩ : ∃ z, z = D2.err := ⟨_, rfl⟩
    rw [← her2] at SD
    obtain ⟨L2, hL2⟩ : ∃ z, z = D2.L := ⟨_, rfl⟩
    rw [← hL2] at SD
    refine man_callM rfl rfl rfl rfl hF rfl rfl enters12 SD (fun _ _ h => h) (fun b hb => by cases hb; exact fun h => absurd h (Nat.not_lt.2 hbfr)) ⟨Sim.refl _, Sim.agg (by repeat (first | exact trivial | refine ⟨Sim.refl _, ?_⟩ | refine ⟨Sim.ff, ?_⟩ | refine ⟨Sim.recell (fun i hi => absurd hi (Nat.not_lt_zero _)), ?_⟩)), trivial⟩ (by intro e he; simp only [List.mem_singleton] at he; subst he; rfl) rfl rfl (fun _ => shK bM L2) (fun _ _ _ _ _ _ _ _ _ h => h) ?_
    intro y a0 w1 hF
    obtain ⟨g2, hg2⟩ : ∃ g, g = GG2 y := ⟨_, rfl⟩
    rw [← hg2] at hF
    replace hF := hF.withK (K' := shK bM L2) hF.kept
    have hga2 : g2.abs = D2.got := by rw [hg2, ← hGf2, gotA_abs]
    have hok2 : ShfOk L2 := by rw [hL2, hD2]; exact doL_ok hok1 hLB
    apply list_endB 7 hB T4_ok [9, 5, 6, 7, 11, 12, 13, 14] [5, 6, 7, 200, 11, 13] [] hF
    case hex => intro A X; conv => lhs; cbv
    case hob =>
      intro X
      subst hB
      simp only [AllOb, Ob.holds, BE.den, List.mem_cons, List.not_mem_nil, or_false, forall_eq_or_imp, forall_eq] <;> (and_intros <;> first | trivial | rfl | (intro h; first | trivial | rfl))
    case hQ =>
    intro X7 a0 w1 hF
    have SW := writes_r (shK bM L2) 200 sb bM k2
    refine wp_seq ?_
    refine wp_seq ?_
    apply region_okB hB T4_ok [65, 9, 5, 6, 7, 11, 12, 13, 14] [5, 6, 7, 200, 11, 13] [] hF
    case hex => intro A X; conv => lhs; cbv
    case hob =>
      intro X
      subst hB
      simp only [AllOb, Ob.holds, BE.den, List.mem_cons, List.not_mem_nil, or_false, forall_eq_or_imp, forall_eq] <;> (and_intros <;> first | trivial | rfl | (intro h; first | trivial | rfl))
    case hQ =>
    intro X8 a0 w1 hF
    refine test_ok hF rfl (fun hb hF => ?_) (fun hb hF => ?_)
    · skip
      have her : er1 ≠ 0 ∨ er2 ≠ 0 := by
        have h9 : (if (er1 != 0) = true then true else (er2 != 0)) = true := by subst hB; exact hb
        by_cases h1 : er1 = 0
        · rw [if_neg (by simp [h1])] at h9; exact .inr (by simpa using h9)
        · exact .inl h1
      have hz1 := once12 hD1 hD2 hL1 her1 her2 her
      have hk0 : k2 = 0 := by rw [hk2, hz1.2, hk1, hz1.1]; rfl
      refine wp_seq ?_
      apply region_okB hB T4_ok [8] [] [(0, .r fun _ => .bool .tt), (3, .g [200] fun _ => .int .i64 k2)] hF
      case hex => intro A X; conv => lhs; cbv
      case hob =>
        intro X
        subst hB
        simp only [AllOb, Ob.holds, BE.den, List.mem_cons, List.not_mem_nil, or_false, forall_eq_or_imp, forall_eq] <;> (and_intros <;> first | trivial | rfl | exact enters16 | exact shelved_s | exact enters15 | exact SW | (intro h; first | trivial | rfl | exact ⟨enters16, shelved_s⟩ | exact ⟨enters15, SW⟩))
      case hQ =>
      intro X9 a0 w1 hF
      refine wp_ret ?_
      refine ret_sim (fn := Try.f4) T4_ok hF (rs := [.tmp 8]) rfl (rfl) ?_ noAtom ?_
      · simp [AllOb, Ob.holds]
      · subst hB
        refine Sim.bool ?_
        simp [std, stdCmp, BE.den, canB, hk0]
    · skip
      have her : er1 = 0 ∧ er2 = 0 := by
        have h9 : (if (er1 != 0) = true then true else (er2 != 0)) = false := by subst hB; exact hb
        by_cases h1 : er1 = 0
        · rw [if_neg (by simp [h1])] at h9; exact ⟨h1, by simpa using h9⟩
        · rw [if_pos (by simpa using h1)] at h9; cases h9
      refine wp_skip ?_
      refine wp_seq ?_
      refine wp_region_lit ?_
      apply list_preB 0 6 hB T4_ok [73, 78, 9, 5, 6, 7, 11, 13] [5, 6, 7, 200, 11, 13] [] hF
      case hex => intro A X; conv => lhs; cbv
      case hob =>
        intro X
        subst hB
        simp only [AllOb, Ob.holds, BE.den, List.mem_cons, List.not_mem_nil, or_false, forall_eq_or_imp, forall_eq] <;> (and_intros <;> first | trivial | rfl | (intro h; first | trivial | rfl))
      case hQ =>
      intro X10_0 a0 w1 hF
      have SD := do_m 200 sb bM L2 (by have := hok2.len; omega) k2 ⟨2, l, g1.ver, b, ⟨0, false, .empty, none, 0, 0, fun _ => zeroItm, 0, false⟩⟩ (by simp only; omega) hLB hul hub
      obtain ⟨D3, hD3⟩ : ∃ D, D = doL L2 (WntA.abs ⟨2, l, g1.ver, b, ⟨0, false, .empty, none, 0, 0, fun _ => zeroItm, 0, false⟩⟩) := ⟨_, rfl⟩
      rw [← hD3] at SD
      obtain ⟨GG3, hGG3⟩ : ∃ G : Atom → GotA, G = fun y => gotA y D3.got := ⟨_, rfl⟩
      have hGf3 : ∀ y, gotA y D3.got = GG3 y := fun y => by rw [hGG3]
      simp only [hGf3] at SD
      obtain ⟨k3, hk3⟩ : ∃ z, z = (if D3.wrote then IntKind.i64.wrap (k2 + 1) else k2) := ⟨_, rfl⟩
      rw [← hk3] at SD
      obtain ⟨er3, her3⟩ : ∃ z, z = D3.err := ⟨_, rfl⟩
      rw [← her3] at SD
      obtain ⟨L3, hL3⟩ : ∃ z, z = D3.L := ⟨_, rfl⟩
      rw [← hL3] at SD
      refine man_callM rfl rfl rfl rfl hF rfl rfl enters12 SD (fun _ _ h => h) (fun b hb => by cases hb; exact fun h => absurd h (Nat.not_lt.2 hbfr)) ⟨Sim.refl _, Sim.agg (by repeat (first | exact trivial | refine ⟨Sim.refl _, ?_⟩ | refine ⟨Sim.ff, ?_⟩ | refine ⟨Sim.recell (fun i hi => absurd hi (Nat.not_lt_zero _)), ?_⟩)), trivial⟩ (by intro e he; simp only [List.mem_singleton] at he; subst he; rfl) rfl rfl (fun _ => shK bM L3) (fun _ _ _ _ _ _ _ _ _ h => h) ?_
      intro y a0 w1 hF
      obtain ⟨g3, hg3⟩ : ∃ g, g = GG3 y := ⟨_, rfl⟩
      rw [← hg3] at hF
      replace hF := hF.withK (K' := shK bM L3) hF.kept
      have hga3 : g3.abs = D3.got := by rw [hg3, ← hGf3, gotA_abs]
      have hok3 : ShfOk L3 := by rw [hL3, hD3]; exact doL_ok hok2 hLB
      apply list_endB 7 hB T4_ok [9, 5, 6, 7, 11, 13, 15, 16] [5, 6, 7, 200, 11, 13, 15] [] hF
      case hex => intro A X; conv => lhs; cbv
      case hob =>
        intro X
        subst hB
        simp only [AllOb, Ob.holds, BE.den, List.mem_cons, List.not_mem_nil, or_false, forall_eq_or_imp, forall_eq] <;> (and_intros <;> first | trivial | rfl | (intro h; first | trivial | rfl))
      case hQ =>
      intro X10 a0 w1 hF
      refine wp_seq ?_
      refine wp_region_lit ?_
      apply list_preB 0 5 hB T4_ok [83, 87, 9, 5, 6, 11, 13, 15, 16] [5, 6, 200, 11, 13, 15] [] hF
      case hex => intro A X; conv => lhs; cbv
      case hob =>
        intro X
        subst hB
        simp only [AllOb, Ob.holds, BE.den, List.mem_cons, List.not_mem_nil, or_false, forall_eq_or_imp, forall_eq] <;> (and_intros <;> first | trivial | rfl | (intro h; first | trivial | rfl))
      case hQ =>
      intro X11_0 a0 w1 hF
      have SD := do_m 200 sb bM L3 (by have := hok3.len; omega) k3 ⟨3, l, g1.ver, zRA, ⟨0, false, .empty, none, 0, 0, fun _ => zeroItm, 0, false⟩⟩ (Nat.zero_le _) hLB hul ⟨Int.le_refl 0, show (0 : Int) < 18446744073709551616 by decide⟩
      obtain ⟨D4, hD4⟩ : ∃ D, D = doL L3 (WntA.abs ⟨3, l, g1.ver, zRA, ⟨0, false, .empty, none, 0, 0, fun _ => zeroItm, 0, false⟩⟩) := ⟨_, rfl⟩
      rw [← hD4] at SD
      obtain ⟨GG4, hGG4⟩ : ∃ G : Atom → GotA, G = fun y => gotA y D4.got := ⟨_, rfl⟩
      have hGf4 : ∀ y, gotA y D4.got = GG4 y := fun y => by rw [hGG4]
      simp only [hGf4] at SD
      obtain ⟨k4, hk4⟩ : ∃ z, z = (if D4.wrote then IntKind.i64.wrap (k3 + 1) else k3) := ⟨_, rfl⟩
      rw [← hk4] at SD
      obtain ⟨er4, her4⟩ : ∃ z, z = D4.err := ⟨_, rfl⟩
      rw [← her4] at SD
      obtain ⟨L4, hL4⟩ : ∃ z, z = D4.L := ⟨_, rfl⟩
      rw [← hL4] at SD
      refine man_callM rfl rfl rfl rfl hF rfl rfl enters12 SD (fun _ _ h => h) (fun b hb => by cases hb; exact fun h => absurd h (Nat.not_lt.2 hbfr)) ⟨Sim.refl _, Sim.agg (by repeat (first | exact trivial | refine ⟨Sim.refl _, ?_⟩ | refine ⟨Sim.ff, ?_⟩ | refine ⟨Sim.recell (fun i hi => absurd hi (Nat.not_lt_zero _)), ?_⟩)), trivial⟩ (by intro e he; simp only [List.mem_singleton] at he; subst he; rfl) rfl rfl (fun _ => shK bM L4) (fun _ _ _ _ _ _ _ _ _ h => h) ?_
      intro y a0 w1 hF
      obtain ⟨g4, hg4⟩ : ∃ g, g = GG4 y := ⟨_, rfl⟩
      rw [← hg4] at hF
      replace hF := hF.withK (K' := shK bM L4) hF.kept
      have hga4 : g4.abs = D4.got := by rw [hg4, ← hGf4, gotA_abs]
      have hok4 : ShfOk L4 := by rw [hL4, hD4]; exact doL_ok hok3 hLB
      apply list_endB 6 hB T4_ok [9, 5, 6, 11, 13, 15, 16, 17, 18] [5, 6, 200, 11, 13, 15, 17] [] hF
      case hex => intro A X; conv => lhs; cbv
      case hob =>
        intro X
        subst hB
        simp only [AllOb, Ob.holds, BE.den, List.mem_cons, List.not_mem_nil, or_false, forall_eq_or_imp, forall_eq] <;> (and_intros <;> first | trivial | rfl | (intro h; first | trivial | rfl))
      case hQ =>
      intro X11 a0 w1 hF
      refine wp_seq ?_
      refine wp_region_lit ?_
      apply list_preB 0 3 hB T4_ok [92, 94, 9, 6, 11, 13, 15, 16, 17, 18] [6, 200, 11, 13, 15, 17] [] hF
      case hex => intro A X; conv => lhs; cbv
      case hob =>
        intro X
        subst hB
        simp only [AllOb, Ob.holds, BE.den, List.mem_cons, List.not_mem_nil, or_false, forall_eq_or_imp, forall_eq] <;> (and_intros <;> first | trivial | rfl | (intro h; first | trivial | rfl))
      case hQ =>
      intro X12_0 a0 w1 hF
      have SD := do_m 200 sb bM L4 (by have := hok4.len; omega) k4 ⟨1, l, 0, zRA, ⟨0, false, .empty, none, 0, 0, fun _ => zeroItm, 0, false⟩⟩ (Nat.zero_le _) hLB hul ⟨Int.le_refl 0, show (0 : Int) < 18446744073709551616 by decide⟩
      obtain ⟨D5, hD5⟩ : ∃ D, D = doL L4 (WntA.abs ⟨1, l, 0, zRA, ⟨0, false, .empty, none, 0, 0, fun _ => zeroItm, 0, false⟩⟩) := ⟨_, rfl⟩
      rw [← hD5] at SD
      obtain ⟨GG5, hGG5⟩ : ∃ G : Atom → GotA, G = fun y => gotA y D5.got := ⟨_, rfl⟩
      have hGf5 : ∀ y, gotA y D5.got = GG5 y := fun y => by rw [hGG5]
      simp only [hGf5] at SD
      obtain ⟨k5, hk5⟩ : ∃ z, z = (if D5.wrote then IntKind.i64.wrap (k4 + 1) else k4) := ⟨_, rfl⟩
      rw [← hk5] at SD
      obtain ⟨er5, her5⟩ : ∃ z, z = D5.err := ⟨_, rfl⟩
      rw [← her5] at SD
      obtain ⟨L5, hL5⟩ : ∃ z, z = D5.L := ⟨_, rfl⟩
      rw [← hL5] at SD
      refine man_callM rfl rfl rfl rfl hF rfl rfl enters12 SD (fun _ _ h => h) (fun b hb => by cases hb; exact fun h => absurd h (Nat.not_lt.2 hbfr)) ⟨Sim.refl _, Sim.agg (by repeat (first | exact trivial | refine ⟨Sim.refl _, ?_⟩ | refine ⟨Sim.ff, ?_⟩ | refine ⟨Sim.recell (fun i hi => absurd hi (Nat.not_lt_zero _)), ?_⟩)), trivial⟩ (by intro e he; simp only [List.mem_singleton] at he; subst he; rfl) rfl rfl (fun _ => shK bM L5) (fun _ _ _ _ _ _ _ _ _ h => h) ?_
      intro y a0 w1 hF
      obtain ⟨g5, hg5⟩ : ∃ g, g = GG5 y := ⟨_, rfl⟩
      rw [← hg5] at hF
      replace hF := hF.withK (K' := shK bM L5) hF.kept
      have hga5 : g5.abs = D5.got := by rw [hg5, ← hGf5, gotA_abs]
      skip
      apply list_endB 4 hB T4_ok [9, 6, 11, 13, 15, 16, 17, 18, 19, 20] [6, 200, 11, 13, 15, 17, 19] [] hF
      case hex => intro A X; conv => lhs; cbv
      case hob =>
        intro X
        subst hB
        simp only [AllOb, Ob.holds, BE.den, List.mem_cons, List.not_mem_nil, or_false, forall_eq_or_imp, forall_eq] <;> (and_intros <;> first | trivial | rfl | (intro h; first | trivial | rfl))
      case hQ =>
      intro X12 a0 w1 hF
      have hg5 : g5.x.r.n ≤ maxLen := got_len ((hF.mem 19 _ rfl).2.1 (.sl none g5.x.A g5.x.r.n g5.x.c 2 (fun i => itC (g5.x.r.f i))) (by simp)).2
      have SS := same_s g5.x.A g5.x.r.n g5.x.c g5.x.r.f hg5 g5.x.r.kd g5.x.r.nx g5.x.r.mrk a.A a.r.n a.c a.r.f a.r.kd a.r.nx a.r.mrk
      rw [sameR_abs] at SS
      simp only [recI, rowI] at SS
      obtain ⟨sm, hsm⟩ : ∃ q, q = decide (g5.x.r.abs = a.r.abs) := ⟨_, rfl⟩
      rw [← hsm] at SS
      have SW := writes_r (shK bM L5) 200 sb bM k5
      refine wp_seq ?_
      apply region_okB hB T4_ok [8] [] [(0, .r fun _ => .bool .tt), (51, .r fun _ => .bool (.v sm)), (55, .g [200] fun _ => .int .i64 k5)] hF
      case hex => intro A X; conv => lhs; cbv
      case hob =>
        intro X
        subst hB
        simp only [AllOb, Ob.holds, BE.den, List.mem_cons, List.not_mem_nil, or_false, forall_eq_or_imp, forall_eq] <;> (and_intros <;> first | trivial | rfl | exact enters16 | exact shelved_s | exact enters15 | exact SW | exact enters21 | exact SS | (intro h; first | trivial | rfl | exact ⟨enters16, shelved_s⟩ | exact ⟨enters15, SW⟩ | exact ⟨enters21, SS⟩))
      case hQ =>
      intro X13 a0 w1 hF
      refine wp_ret ?_
      refine ret_sim (fn := Try.f4) T4_ok hF (rs := [.tmp 8]) rfl (rfl) ?_ noAtom ?_
      · simp [AllOb, Ob.holds]
      · subst hB
        have gv : g1.ver = D1.got.ver := congrArg Got.ver hga1
        have H : OnceL l a.r.abs b.r.abs L D1 D2 D3 D4 D5 := once_law hD1 gv (hL1 ▸ hD2) (hL2 ▸ hD3) (hL3 ▸ hD4) (hL4 ▸ hD5)
        obtain ⟨i1, i2⟩ := her
        have j1 : D1.err = 0 := by rw [← her1]; exact i1
        have j2 : D2.err = 0 := by rw [← her2]; exact i2
        have e1 := H.w1
        have e2 := H.w2 j1 j2
        obtain ⟨e3, e4⟩ := H.c2 j1 j2
        obtain ⟨e5, e6⟩ := H.c3 j1 j2
        obtain ⟨e7, e8, e9⟩ := H.c4 j1 j2
        obtain ⟨e10, e11, e12, e13, e14⟩ := H.c5 j1 j2
        have c1 : g2.code = 0 := (congrArg Got.code hga2).trans e3
        have c2 : g2.ver = inc g1.ver := ((congrArg Got.ver hga2).trans e4).trans (by rw [gv])
        have c3 : er3 = 0 → g3.code = 8 := fun h => (congrArg Got.code hga3).trans (e6 (by rw [← her3]; exact h))
        have c4 : er4 = 0 := her4.trans e8
        have c5 : g4.code = 8 := (congrArg Got.code hga4).trans e9
        have c6 : er5 = 0 := her5.trans e11
        have c7 : g5.has = true := (congrArg Got.has hga5).trans e12
        have c8 : g5.ver = g2.ver := ((congrArg Got.ver hga5).trans e13).trans (congrArg Got.ver hga2).symm
        have c9 : sm = true := by rw [hsm]; exact decide_eq_true ((congrArg Got.r hga5).trans e14)
        have f1 : k1 = 0 := by rw [hk1, e1]; rfl
        have f2 : k2 = 1 := by rw [hk2, e2, f1]; rfl
        have f3 : k5 = 1 := by rw [hk5, e10, hk4, e7, hk3, e5]; exact f2
        refine Sim.bool ?_
        have c10 : g2.ver = IntKind.u64.wrap (g1.ver + 1) := c2
        have c11 : (¬ er3 = 0) ∨ g3.code = 8 := by
          by_cases h : er3 = 0
          · exact .inr (c3 h)
          · exact .inl h
        rcases c11 with c11 | c11 <;> simp [std, stdCmp, stdArith, BE.den, canB, c1, c10, c4, c5, c6, c7, c8, c9, c11, f3]
end Go.Proofs.Ythpbihppfijegaa.Sym

namespace Go.Proofs.Ythpbihppfijegaa
open Go Go.RowKit Sym
set_option linter.unusedVariables false
set_option linter.unusedSimpArgs false

def notL (l : Lab) (R : List Rw) : List Rw := R.filter fun r => decide (r.lab ≠ l)
theorem notL_append (l : Lab) (R S : List Rw) : notL l (R ++ S) = notL l R ++ notL l S := by simp [notL]
theorem notL_one {l : Lab} {p : Lab × Spo} (h : p.1 = l) : notL l (if p.2.has = true then [rowOf p] else []) = [] := by
  split
  · simp [notL, rowOf, h]
  · rfl
theorem notL_put (l : Lab) (x : Spo) : ∀ L : Shf, notL l (rowsL (putL l x L)) = notL l (rowsL L)
  | [] => by
    show notL l (rowsL [(l, x)]) = notL l (rowsL [])
    rw [rowsL_cons, notL_append, notL_one (l := l) (p := (l, x)) rfl]; rfl
  | p :: L => by
    unfold putL
    split
    · rw [rowsL_cons, rowsL_cons, notL_append, notL_append, notL_put l x L]
    · split
      · rename_i h
        rw [rowsL_cons, rowsL_cons, notL_append, notL_append, notL_one (l := l) (p := (l, x)) rfl, notL_one h]
      · rw [rowsL_cons, notL_append, notL_one (l := l) (p := (l, x)) rfl, List.nil_append]
theorem notL_do (L : Shf) (w : Wnt) : notL w.lab (rowsL (doL L w).L) = notL w.lab (rowsL L) := by
  by_cases hg : GoodW w
  · by_cases hk : w.kind = 1
    · rw [doL_see hg hk]
    · by_cases hv : w.ver ≠ (spotOf L w.lab).ver
      · rw [doL_old hg hk hv]
      · by_cases hf : (findL w.lab L).isNone ∧ 2000 ≤ L.length
        · rw [doL_full hg hk hv hf]
        · rw [doL_new hg hk hv hf]; exact notL_put _ _ _
  · rw [doL_bad hg]
theorem newL_all : ∀ {l : List Rw} {L L' : Shf}, Rises L → (∀ p ∈ L, p.2.has = true) → newL l L = some L' → (∀ p ∈ L', p.2.has = true) ∧ L'.length = L.length + l.length
  | [], L, L', _, h, hn => by
    simp only [newL, Option.some.injEq] at hn
    subst hn
    exact ⟨h, rfl⟩
  | r :: l, L, L', hr, h, hn => by
    unfold newL at hn
    split at hn
    · cases hn
    · rename_i hc
      have h0 : (findL r.lab L).isSome = false := by
        simp only [Bool.or_eq_true, not_or, Bool.not_eq_true] at hc
        exact hc.1.1
      obtain ⟨g1, g2⟩ := newL_all (put_rises hr) (fun p hp => by
        rcases put_mem hp with rfl | hp
        · rfl
        · exact h p hp) hn
      refine ⟨g1, ?_⟩
      rw [g2, put_len _ _ hr, h0, List.length_cons]
      simp only [Bool.false_eq_true, if_false]
      omega
theorem newS_rows {l : List Rw} {L : Shf} (h : newS l = some L) : (rowsL L).length = l.length := by
  unfold newS at h
  split at h
  · cases h
  · obtain ⟨g1, g2⟩ := newL_all List.Pairwise.nil (fun p hp => by cases hp) h
    rw [rowsL_eq, List.length_map, List.filter_eq_self.2 g1, g2]; simp
theorem rows_less {L : Shf} (h : Rises L) {i : Nat} (h1 : 1 ≤ i) (hi : i < (rowsL L).length) : lessL ((rowsL L).getD (i - 1) zeroRw).lab ((rowsL L).getD i zeroRw).lab = true := by
  have := List.pairwise_iff_getElem.1 (rowsL_rises h) (i - 1) i (by omega) hi (by omega)
  simpa [List.getD, hi, show i - 1 < (rowsL L).length by omega] using this
end Go.Proofs.Ythpbihppfijegaa

namespace Go.Proofs.Ythpbihppfijegaa.Sym
open Go Go.RowKit
set_option linter.unusedVariables false
set_option linter.unusedSimpArgs false
section
variable {m0 : Nat → Nat → Prop} {w0 : World} {S : Nat → Prop} {ds : List Deferred} {K : Kn} {P : Program} {Q : Exit → Act → World → Prop} {T : List (Nat × TI)} {ops : Array Oper}
/-- a call by hand of such a function -/
theorem man_callM2 {s : St} {a : Act} {w : World} {L rest : List Oper} {o : Oper} {c : Call} {g : Operand} {f : FuncId} {l r args args' : List AV} (hL : L = o :: rest) (hg : o.guard = none) (hop : o.op = .call c) (hcal : c.callee = .value g) (h : Fits ⟨m0, w0, S, ds, K⟩ s a w) (hgv : val s [] g = .fn f l r) (hl : vals s [] c.args.toList = some args) (hen : Enters P f)
    {pre : List (Nat × Blk)} {bo : Option Nat} {I : Kn} {res : Atom → CR} {J : Nat → Atom → Kn} (hsp : SpecM P f args' pre bo I res J) (hI : ∀ m w, K.p m w → I.p m w) (hC : ∀ b, bo = some b → b < w0.heap.size → S b) (hsim : SimL (l ++ args ++ r) args') (hpre : ∀ e ∈ pre, lookM s.mem e.1 = some e.2) (hnd : nodupB pre = true) (hd : inNt s o.dst = true)
    (K' : Atom → Kn) (hK' : ∀ x m' w', KeepB bo w (s.m ⟨m0, w0, S, ds, K⟩) w' m' → (J w.heap.size x).p m' w' → (K' x).p m' w')
    (Kc : ∀ x a' w', Fits ⟨m0, w0, S, ds, K' x⟩ ((s.eff (.sets (upd pre (res x).sets ++ (res x).news))).put o.dst (res x).v) a' w' → wpList P ops Q rest a' w') : wpList P ops Q L a w := by
  refine man_op hL hg ?_
  obtain ⟨hrun, hok⟩ := call_run hop hcal h hgv hl hen
  have hdist := nodup_dist h hnd hpre
  unfold Oper.wp
  rw [hrun]
  simp only [Oper.upon]
  have hpo : PreOk (s.m ⟨m0, w0, S, ds, K⟩) w pre := ⟨fun e he => (h.mem _ _ (hpre e he)).1, fun e he => (h.mem _ _ (hpre e he)).2.1, fun e he o => .inr (.inl ⟨e.1, e.2, hpre e he, rfl⟩), hdist⟩
  have := hsp (s.m ⟨m0, w0, S, ds, K⟩) w (m_lt h) (hsim.ok hok) hpo (hI _ _ h.kept)
  rw [← hsim.map] at this
  refine this.mono ?_
  rintro e w' ⟨x, rfl, g1, g2, g3, g4⟩
  have hkb := g2.keepB hpo (fun b hb => by obtain ⟨es, cl, _, _, h1, _⟩ := g3 b hb; exact ⟨es, cl, h1⟩)
  have hkn := (K' x).st (called_keep (C := ⟨m0, w0, S, ds, K⟩) (w' := w') hpre (sets := (res x).sets) (news := (res x).news) o.dst (res x).v) (hK' x _ _ hkb g4)
  have h' : Fits ⟨m0, w0, S, ds, noK⟩ s a w := h.withK trivial
  have fin : ∀ w1, Fits ⟨m0, w0, S, ds, noK⟩ s a w1 → Left (s.m ⟨m0, w0, S, ds, noK⟩) w1 w' pre (res x).sets (res x).news → wpList P ops Q rest (a.put o.dst (res x).v.den) w' := by
    intro w1 hf hl'
    obtain ⟨f1, f2⟩ := hf.called hdist hpre hl'
    refine Kc x _ w' (Fits.withK (K := noK) (f1.put o.dst (fun t ht => by rw [eff_nt]; exact inNt_lt hd t ht) (res x).v (fun _ => f2 _ g1) _ fun _ => rfl) hkn)
  cases bo with
  | none => exact fin w h' g2.plain
  | some b =>
    obtain ⟨es, cl, es', cl', h1, h2⟩ := g3 b rfl
    obtain ⟨w1, ht, hl'⟩ := g2.mid h1 h2
    have hgr := ht.grown
    exact fin w1 (h'.turn h1 (fun c t f e => by cases e) hgr (hC b rfl) trivial) hl'
end
def bothK (b : Nat) (L : Shf) (b2 : Nat) (L2 : Shf) : Kn := ⟨fun m w => (shK b L).p m w ∧ (shK b2 L2).p m w, fun k h => ⟨(shK b L).st k h.1, (shK b2 L2).st k h.2⟩⟩
theorem shK_keepB {b : Nat} {L : Shf} {bo : Option Nat} {m m' : Nat → Nat → Prop} {w w' : World} (h : (shK b L).p m w) (k : KeepB bo w m w' m') (hb : bo ≠ some b) : (shK b L).p m' w' := by
  obtain ⟨D, E, h⟩ := h
  exact ⟨D, E, h.keepB k hb⟩
theorem shK_lt {b : Nat} {L : Shf} {m : Nat → Nat → Prop} {w : World} (h : (shK b L).p m w) : b < w.heap.size := by
  obtain ⟨es, cl, h⟩ := shK_map h
  exact lt_heap h
/-! ### plain -/
def SpR (p : Lab × Spo) : Prop := p.2.has = true → isL p.1 = true ∧ isR p.2.r = true ∧ p.2.r.items.length ≤ 40 ∧ U64 p.2.r.next.bits
theorem putL_r {l : Lab} {x : Spo} {L : Shf} (h : ∀ p ∈ L, SpR p) (hx : SpR (l, x)) : ∀ p ∈ putL l x L, SpR p := by
  intro p hp
  rcases put_mem hp with rfl | hp
  · exact hx
  · exact h p hp
theorem doL_r {L : Shf} (h : ∀ p ∈ L, SpR p) {w : Wnt} (hw : w.r.items.length ≤ 40 ∧ U64 w.r.next.bits) : ∀ p ∈ (doL L w).L, SpR p := by
  by_cases hg : GoodW w
  · by_cases hk : w.kind = 1
    · rw [doL_see hg hk]; exact h
    · by_cases hv : w.ver ≠ (spotOf L w.lab).ver
      · rw [doL_old hg hk hv]; exact h
      · by_cases hf : (findL w.lab L).isNone ∧ 2000 ≤ L.length
        · rw [doL_full hg hk hv hf]; exact h
        · rw [doL_new hg hk hv hf]
          refine putL_r h fun hh => ?_
          have h2 : w.kind = 2 := by simpa [nextSpo] using hh
          simp only [nextSpo, if_pos h2]
          exact ⟨hg.2.1, hg.2.2 h2, hw⟩
  · rw [doL_bad hg]; exact h
theorem newL_r : ∀ {l : List Rw} {L L' : Shf}, (∀ r ∈ l, r.r.items.length ≤ 40 ∧ U64 r.r.next.bits) → (∀ p ∈ L, SpR p) → newL l L = some L' → ∀ p ∈ L', SpR p
  | [], L, L', _, h, hn => by
    simp only [newL, Option.some.injEq] at hn
    subst hn; exact h
  | r :: l, L, L', hr, h, hn => by
    unfold newL at hn
    split at hn
    · cases hn
    · rename_i hc
      simp only [Bool.or_eq_true, not_or, Bool.not_eq_true, Bool.not_eq_false'] at hc
      refine newL_r (fun q hq => hr q (by simp [hq])) (putL_r h fun _ => ?_) hn
      exact ⟨by simpa using hc.1.2, by simpa using hc.2, hr r (by simp)⟩
theorem newS_r {l : List Rw} {L : Shf} (hr : ∀ r ∈ l, r.r.items.length ≤ 40 ∧ U64 r.r.next.bits) (h : newS l = some L) : ∀ p ∈ L, SpR p := by
  unfold newS at h
  split at h
  · cases h
  · exact newL_r hr (fun p hp => by cases hp) h
theorem put_end {l : Lab} {x : Spo} : ∀ {L : Shf}, (∀ p ∈ L, lessL p.1 l = true) → putL l x L = L ++ [(l, x)] ∧ findL l L = none
  | [], _ => ⟨rfl, rfl⟩
  | p :: L, h => by
    obtain ⟨g1, g2⟩ := put_end (l := l) (x := x) (L := L) fun q hq => h q (by simp [hq])
    have hp := h p (by simp)
    unfold putL findL
    rw [if_pos hp, if_neg (less_ne hp), g1, g2]
    exact ⟨rfl, rfl⟩
theorem newL_rows : ∀ {L L0 : Shf}, Rises (L0 ++ L) → (∀ p ∈ L, SpR p) → newL (rowsL L) L0 = some (L0 ++ L.filter fun p => p.2.has)
  | [], L0, _, _ => by simp [rowsL, newL]
  | p :: L, L0, hr, h => by
    rw [rowsL_cons]
    by_cases hh : p.2.has = true
    · rw [if_pos hh, List.filter_cons, if_pos hh]
      obtain ⟨h1, h2, _⟩ := h p (by simp) hh
      have hl : ∀ q ∈ L0, lessL q.1 p.1 = true := fun q hq => (List.pairwise_append.1 hr).2.2 q hq p (by simp)
      obtain ⟨g1, g2⟩ := put_end (x := ⟨p.2.ver, true, p.2.r⟩) hl
      show newL (rowOf p :: rowsL L) L0 = _
      unfold newL
      have e1 : (rowOf p).lab = p.1 := rfl
      have e2 : (rowOf p).ver = p.2.ver := rfl
      have e3 : (rowOf p).r = p.2.r := rfl
      have e4 : (p.1, (⟨p.2.ver, true, p.2.r⟩ : Spo)) = p := by
        obtain ⟨l, v, hs, r⟩ := p
        simp only at hh
        simp [hh]
      rw [e1, e2, e3, g1, g2, h1, h2, e4]
      simp only [Option.isSome_none, Bool.not_true, Bool.or_false, Bool.false_eq_true, if_false]
      rw [newL_rows (by simpa using hr) fun q hq => h q (by simp [hq])]
      simp
    · rw [if_neg hh, List.filter_cons, if_neg hh, List.nil_append]
      refine newL_rows ?_ fun q hq => h q (by simp [hq])
      have := hr
      rw [Rises, List.pairwise_append] at this ⊢
      exact ⟨this.1, (List.pairwise_cons.1 this.2.1).2, fun a ha b hb => this.2.2 a ha b (by simp [hb])⟩
theorem newS_rowsL {L : Shf} (h : ShfOk L) (hr : ∀ p ∈ L, SpR p) : newS (rowsL L) = some (L.filter fun p => p.2.has) := by
  unfold newS
  have := rowsL_len L
  have h2 := h.len
  rw [if_neg (by omega)]
  exact newL_rows (L0 := []) h.ris hr
theorem filter_ok {L : Shf} (h : ShfOk L) : ShfOk (L.filter fun p => p.2.has) :=
  ⟨List.Pairwise.filter _ h.ris, Nat.le_trans (List.length_filter_le _ _) h.len, fun p hp => h.lab p (List.mem_filter.1 hp).1⟩
theorem rowsL_filter (L : Shf) : rowsL (L.filter fun p => p.2.has) = rowsL L := by
  rw [rowsL_eq, rowsL_eq, List.filter_filter]
  simp
theorem find_notin {l : Lab} : ∀ {L : Shf}, (∀ p ∈ L, p.1 ≠ l) → findL l L = none
  | [], _ => rfl
  | p :: L, h => by
    unfold findL
    rw [if_neg (h p (by simp))]
    exact find_notin fun q hq => h q (by simp [hq])
theorem find_filter (l : Lab) : ∀ {L : Shf}, Rises L → findL l (L.filter fun p => p.2.has) = (findL l L).filter (fun x => x.has)
  | [], _ => rfl
  | p :: L, hr => by
    have hr' := List.pairwise_cons.1 hr
    rw [List.filter_cons]
    by_cases hh : p.2.has = true
    · rw [if_pos hh]
      unfold findL
      by_cases he : p.1 = l
      · rw [if_pos he, if_pos he]; show _ = (Option.some p.2).filter _; simp [Option.filter, hh]
      · rw [if_neg he, if_neg he, find_filter l hr'.2]
    · rw [if_neg hh]
      rw [findL]
      by_cases he : p.1 = l
      · rw [if_pos he]
        rw [find_notin fun q hq => ?_]
        · simp [Option.filter, hh]
        · have := less_ne (hr'.1 q (List.mem_filter.1 hq).1)
          rw [he] at this
          exact this.symm
      · rw [if_neg he, find_filter l hr'.2]
/-- two gets, one of the shelf, one of its rows' shelf -/
theorem again_law {L : Shf} (hr : Rises L) {l : Lab} {v1 v2 : Int} {z1 z2 : Rec} {D1 D2 : Did} (h1 : D1 = doL L ⟨1, l, v1, z1⟩) (h2 : D2 = doL (L.filter fun p => p.2.has) ⟨1, l, v2, z2⟩) : D1.L = L ∧ D2.L = (L.filter fun p => p.2.has) ∧ D1.err = D2.err ∧ D1.got.has = D2.got.has ∧ (D1.got.has = true → D1.got = D2.got) := by
  rw [doL_get] at h1 h2
  by_cases hl : isL l = true
  · rw [if_pos hl] at h1 h2
    have key : spotOf (L.filter fun p => p.2.has) l = if (spotOf L l).has = true then spotOf L l else zeroSpo := by
      unfold spotOf
      rw [find_filter l hr]
      cases findL l L with
      | none => rfl
      | some x => by_cases hx : x.has = true <;> simp [Option.filter, hx]
    refine ⟨by rw [h1], by rw [h2], by rw [h1, h2], ?_, fun h => ?_⟩
    · rw [h1, h2]
      simp only
      rw [key]
      by_cases hx : (spotOf L l).has = true
      · rw [if_pos hx]
      · rw [if_neg hx]; simpa [zeroSpo] using hx
    · have hx : (spotOf L l).has = true := by rw [h1] at h; exact h
      rw [h1, h2]
      simp only
      rw [key, if_pos hx]
  · rw [if_neg hl] at h1 h2
    exact ⟨by rw [h1], by rw [h2], by rw [h1, h2], by rw [h1, h2], fun _ => by rw [h1, h2]⟩
end Go.Proofs.Ythpbihppfijegaa.Sym

namespace Go.Proofs.Ythpbihppfijegaa.Sym
open Go Go.RowKit
set_option maxRecDepth 100000
set_option maxHeartbeats 1600000
set_option linter.unusedVariables false
set_option linter.unusedSimpArgs false
def T6 : List (Nat × TI) := [(3, ti3), (4, ti4), (22, ti22), (23, ti23), (26, ti26), (27, ti27), (36, ti36), (40, ti40), (46, ti46)]
theorem T6_ok : TabOK Try.prog T6 := .cons t3 (.cons t4 (.cons t22 (.cons t23 (.cons t26 (.cons t27 (.cons t36 (.cons t40 (.cons t46 (.nil)))))))))
theorem enters6 : Enters Try.prog 6 := fun _ _ => by kernel_rfl
theorem lawAgain_no (A : Option Addr) (n c : Nat) (f : Nat → RowA) (hn : n ≤ maxLen) (hwf : ∀ i, i < n → LabOk (f i).lab ∧ U64 (f i).x.r.nx.bits) (A2 : Option Addr) (n2 c2 : Nat) (f2 : Nat → WntA) (hn2 : n2 ≤ maxLen) (hw2 : ∀ i, i < n2 → LabOk (f2 i).lab ∧ U64 (f2 i).x.r.nx.bits) (l : Lab) (hLB : LabOk l) (hnew : newS (rwsA f n) = none) : Spec Try.prog 6 [rowsV A n c f, wntsV A2 n2 c2 f2, labAV l] (fun _ => .bool .tt) := by
  intro m w hm hargs
  have hmx : maxLen = 9223372036854775807 := rfl
  have S1 := bigs_s A n c f hn
  obtain ⟨bl, hbl⟩ : ∃ q, q = (if n ≤ 300 then bigS n f else true) := ⟨_, rfl⟩
  rw [← hbl] at S1
  have S2 := bigw_s A2 n2 c2 f2 hn2
  obtain ⟨bw, hbw⟩ : ∃ z, z = bigW n2 f2 := ⟨_, rfl⟩
  rw [← hbw] at S2
  have hul := lab_u64 l hLB
  have U00 : U64 0 := ⟨Int.le_refl 0, show (0 : Int) < 18446744073709551616 by decide⟩
  simp only [labAV] at hargs ⊢
  refine enter hm hargs Try.func6 rfl (by simp [Try.ntmps6]) fun a0 hF => ?_
  simp only [Try.ntmps6, startT] at hF
  obtain ⟨B, hB⟩ : ∃ B, B = std := ⟨_, rfl⟩
  refine wp_seq ?_
  apply region_okB hB T6_ok [0, 1, 5] [5] [] hF
  case hex => intro A X; conv => lhs; cbv
  case hob =>
    intro X
    subst hB
    simp only [AllOb, Ob.holds, BE.den, List.mem_cons, List.not_mem_nil, or_false, forall_eq_or_imp, forall_eq] <;> (and_intros <;> first | trivial | rfl | (intro h; first | trivial | rfl))
  case hQ =>
  intro X0 a0 w1 hF
  refine wp_seq ?_
  refine wp_seq ?_
  apply region_okB hB T6_ok [21, 0, 1, 5] [5] [(1, .r fun _ => .bool (.v bl)), (4, .r fun _ => .bool (.v bw))] hF
  case hex => intro A X; conv => lhs; cbv
  case hob =>
    intro X
    subst hB
    simp only [AllOb, Ob.holds, BE.den, List.mem_cons, List.not_mem_nil, or_false, forall_eq_or_imp, forall_eq] <;> (and_intros <;> first | trivial | rfl | exact enters8 | exact S1 | exact enters9 | exact S2 | (intro h; first | trivial | rfl | exact ⟨enters8, S1⟩ | exact ⟨enters9, S2⟩))
  case hQ =>
  intro X1 a0 w1 hF
  refine test_ok hF rfl (fun hb hF => ?_) (fun hb hF => ?_)
  · skip
    refine wp_seq ?_
    apply region_okB hB T6_ok [6] [] [] hF
    case hex => intro A X; conv => lhs; cbv
    case hob =>
      intro X
      subst hB
      simp only [AllOb, Ob.holds, BE.den, List.mem_cons, List.not_mem_nil, or_false, forall_eq_or_imp, forall_eq] <;> (and_intros <;> first | trivial | rfl | (intro h; first | trivial | rfl))
    case hQ =>
    intro X2 a0 w1 hF
    refine wp_ret ?_
    refine ret_sim (fn := Try.f6) T6_ok hF (rs := [.tmp 6]) rfl (rfl) ?_ noAtom ?_
    · simp [AllOb, Ob.holds]
    · subst hB
      exact Sim.bool rfl
  · skip
    have hb0 : bl = false ∧ bw = false := by
      have h9 : (if bl = true then true else bw) = false := by subst hB; exact hb
      revert h9; cases bl <;> cases bw <;> simp
    have hb1 := bigs_ff (hbl ▸ hb0.1)
    have hb2 := bigW_ff (hbw ▸ hb0.2)
    have hN := new_wf hb1 hwf lab_u64
    refine wp_skip ?_
    refine wp_seq ?_
    refine wp_region_lit ?_
    apply list_preB 0 1 hB T6_ok [23, 1, 5] [5] [] hF
    case hex => intro A X; conv => lhs; cbv
    case hob =>
      intro X
      subst hB
      simp only [AllOb, Ob.holds, BE.den, List.mem_cons, List.not_mem_nil, or_false, forall_eq_or_imp, forall_eq] <;> (and_intros <;> first | trivial | rfl | (intro h; first | trivial | rfl))
    case hQ =>
    intro X3_0 a0 w1 hF
    have SN := new_no A n c f hn hN hnew
    refine man_callM rfl rfl rfl rfl hF rfl rfl enters10 SN (fun _ _ _ => trivial) (fun b hb => by cases hb) (SimL.refl _) (by intro e he; cases he) rfl rfl (fun y => noK) (fun _ _ _ _ _ _ _ _ _ _ => trivial) ?_
    intro y a0 w1 hF
    apply list_endB 2 hB T6_ok [7, 8, 1, 5] [5] [] hF
    case hex => intro A X; conv => lhs; cbv
    case hob =>
      intro X
      subst hB
      simp only [AllOb, Ob.holds, BE.den, List.mem_cons, List.not_mem_nil, or_false, forall_eq_or_imp, forall_eq] <;> (and_intros <;> first | trivial | rfl | (intro h; first | trivial | rfl))
    case hQ =>
    intro X3 a0 w1 hF
    refine wp_seq ?_
    refine wp_seq ?_
    apply region_okB hB T6_ok [28, 7, 8, 1, 5] [5] [] hF
    case hex => intro A X; conv => lhs; cbv
    case hob =>
      intro X
      subst hB
      simp only [AllOb, Ob.holds, BE.den, List.mem_cons, List.not_mem_nil, or_false, forall_eq_or_imp, forall_eq] <;> (and_intros <;> first | trivial | rfl | (intro h; first | trivial | rfl))
    case hQ =>
    intro X4 a0 w1 hF
    refine test_tt hF rfl (fun hF => ?_)
    refine wp_seq ?_
    apply region_okB hB T6_ok [6] [] [(0, .r fun _ => .bool .tt)] hF
    case hex => intro A X; conv => lhs; cbv
    case hob =>
      intro X
      subst hB
      simp only [AllOb, Ob.holds, BE.den, List.mem_cons, List.not_mem_nil, or_false, forall_eq_or_imp, forall_eq] <;> (and_intros <;> first | trivial | rfl | exact enters16 | exact shelved_s | (intro h; first | trivial | rfl | exact ⟨enters16, shelved_s⟩))
    case hQ =>
    intro X5 a0 w1 hF
    refine wp_ret ?_
    refine ret_sim (fn := Try.f6) T6_ok hF (rs := [.tmp 6]) rfl (rfl) ?_ noAtom ?_
    · simp [AllOb, Ob.holds]
    · subst hB
      refine Sim.bool ?_
      simp [std, stdCmp, BE.den, canB]
theorem lawAgain_yes (A : Option Addr) (n c : Nat) (f : Nat → RowA) (hn : n ≤ maxLen) (hwf : ∀ i, i < n → LabOk (f i).lab ∧ U64 (f i).x.r.nx.bits) (A2 : Option Addr) (n2 c2 : Nat) (f2 : Nat → WntA) (hn2 : n2 ≤ maxLen) (hw2 : ∀ i, i < n2 → LabOk (f2 i).lab ∧ U64 (f2 i).x.r.nx.bits) (l : Lab) (hLB : LabOk l) {L : Shf} (hnew : newS (rwsA f n) = some L) : Spec Try.prog 6 [rowsV A n c f, wntsV A2 n2 c2 f2, labAV l] (fun _ => .bool .tt) := by
  intro m w hm hargs
  have hmx : maxLen = 9223372036854775807 := rfl
  have S1 := bigs_s A n c f hn
  obtain ⟨bl, hbl⟩ : ∃ q, q = (if n ≤ 300 then bigS n f else true) := ⟨_, rfl⟩
  rw [← hbl] at S1
  have S2 := bigw_s A2 n2 c2 f2 hn2
  obtain ⟨bw, hbw⟩ : ∃ z, z = bigW n2 f2 := ⟨_, rfl⟩
  rw [← hbw] at S2
  have hul := lab_u64 l hLB
  have U00 : U64 0 := ⟨Int.le_refl 0, show (0 : Int) < 18446744073709551616 by decide⟩
  simp only [labAV] at hargs ⊢
  refine enter hm hargs Try.func6 rfl (by simp [Try.ntmps6]) fun a0 hF => ?_
  simp only [Try.ntmps6, startT] at hF
  obtain ⟨B, hB⟩ : ∃ B, B = std := ⟨_, rfl⟩
  refine wp_seq ?_
  apply region_okB hB T6_ok [0, 1, 5] [5] [] hF
  case hex => intro A X; conv => lhs; cbv
  case hob =>
    intro X
    subst hB
    simp only [AllOb, Ob.holds, BE.den, List.mem_cons, List.not_mem_nil, or_false, forall_eq_or_imp, forall_eq] <;> (and_intros <;> first | trivial | rfl | (intro h; first | trivial | rfl))
  case hQ =>
  intro X0 a0 w1 hF
  refine wp_seq ?_
  refine wp_seq ?_
  apply region_okB hB T6_ok [21, 0, 1, 5] [5] [(1, .r fun _ => .bool (.v bl)), (4, .r fun _ => .bool (.v bw))] hF
  case hex => intro A X; conv => lhs; cbv
  case hob =>
    intro X
    subst hB
    simp only [AllOb, Ob.holds, BE.den, List.mem_cons, List.not_mem_nil, or_false, forall_eq_or_imp, forall_eq] <;> (and_intros <;> first | trivial | rfl | exact enters8 | exact S1 | exact enters9 | exact S2 | (intro h; first | trivial | rfl | exact ⟨enters8, S1⟩ | exact ⟨enters9, S2⟩))
  case hQ =>
  intro X1 a0 w1 hF
  refine test_ok hF rfl (fun hb hF => ?_) (fun hb hF => ?_)
  · skip
    refine wp_seq ?_
    apply region_okB hB T6_ok [6] [] [] hF
    case hex => intro A X; conv => lhs; cbv
    case hob =>
      intro X
      subst hB
      simp only [AllOb, Ob.holds, BE.den, List.mem_cons, List.not_mem_nil, or_false, forall_eq_or_imp, forall_eq] <;> (and_intros <;> first | trivial | rfl | (intro h; first | trivial | rfl))
    case hQ =>
    intro X2 a0 w1 hF
    refine wp_ret ?_
    refine ret_sim (fn := Try.f6) T6_ok hF (rs := [.tmp 6]) rfl (rfl) ?_ noAtom ?_
    · simp [AllOb, Ob.holds]
    · subst hB
      exact Sim.bool rfl
  · skip
    have hb0 : bl = false ∧ bw = false := by
      have h9 : (if bl = true then true else bw) = false := by subst hB; exact hb
      revert h9; cases bl <;> cases bw <;> simp
    have hb1 := bigs_ff (hbl ▸ hb0.1)
    have hb2 := bigW_ff (hbw ▸ hb0.2)
    have hN := new_wf hb1 hwf lab_u64
    refine wp_skip ?_
    refine wp_seq ?_
    refine wp_region_lit ?_
    apply list_preB 0 1 hB T6_ok [23, 1, 5] [5] [] hF
    case hex => intro A X; conv => lhs; cbv
    case hob =>
      intro X
      subst hB
      simp only [AllOb, Ob.holds, BE.den, List.mem_cons, List.not_mem_nil, or_false, forall_eq_or_imp, forall_eq] <;> (and_intros <;> first | trivial | rfl | (intro h; first | trivial | rfl))
    case hQ =>
    intro X3_0 a0 w1 hF
    have SN := new_yes A n c f hn hN 200 hnew
    have hok0 : ShfOk L := newS_ok (rws_lab hwf) hnew
    have hr0 : ∀ p ∈ L, SpR p := newS_r (fun r hr => by obtain ⟨i, hi, rfl⟩ := List.mem_map.1 hr; have hi := List.mem_range.1 hi; exact ⟨by show (firsts (f i).x.r.f (f i).x.r.n).length ≤ 40; rw [firsts_len]; exact hb1.2 i hi, (hwf i hi).2⟩) hnew
    refine man_callM rfl rfl rfl rfl hF rfl rfl enters10 (SN) (fun _ _ _ => trivial) (fun b hb => by cases hb) (SimL.refl _) (by intro e he; cases he) rfl rfl (fun y => shF w.heap.size (y.c 0) L) (fun n x m w m' w' hn _ _ h => ⟨Nat.le_trans hn h.1, h.2⟩) ?_
    intro y a0 w1 hF
    obtain ⟨sb, hsb⟩ : ∃ b, b = y.b := ⟨_, rfl⟩
    obtain ⟨bM, hbM⟩ : ∃ b, b = y.c 0 := ⟨_, rfl⟩
    rw [← hsb, ← hbM] at hF
    have hbfr : w.heap.size ≤ bM := hF.kept.1
    replace hF := hF.withK (K' := shK bM L) hF.kept.2
    apply list_endB 2 hB T6_ok [7, 8, 1, 5] [200, 5] [] hF
    case hex => intro A X; conv => lhs; cbv
    case hob =>
      intro X
      subst hB
      simp only [AllOb, Ob.holds, BE.den, List.mem_cons, List.not_mem_nil, or_false, forall_eq_or_imp, forall_eq] <;> (and_intros <;> first | trivial | rfl | (intro h; first | trivial | rfl))
    case hQ =>
    intro X3 a0 w1 hF
    refine wp_seq ?_
    refine wp_seq ?_
    apply region_okB hB T6_ok [28, 7, 8, 1, 5] [200, 5] [] hF
    case hex => intro A X; conv => lhs; cbv
    case hob =>
      intro X
      subst hB
      simp only [AllOb, Ob.holds, BE.den, List.mem_cons, List.not_mem_nil, or_false, forall_eq_or_imp, forall_eq] <;> (and_intros <;> first | trivial | rfl | (intro h; first | trivial | rfl))
    case hQ =>
    intro X4 a0 w1 hF
    refine test_ff hF rfl (fun hF => ?_)
    refine wp_skip ?_
    refine wp_seq ?_
    refine wp_seq ?_
    apply region_okB hB T6_ok [9, 7, 1, 5] [200, 5] [] hF
    case hex => intro A X; conv => lhs; cbv
    case hob =>
      intro X
      subst hB
      simp only [AllOb, Ob.holds, BE.den, List.mem_cons, List.not_mem_nil, or_false, forall_eq_or_imp, forall_eq] <;> (and_intros <;> first | trivial | rfl | (intro h; first | trivial | rfl))
    case hQ =>
    intro X6 a0 w1 hF
    refine wp_block ?_
    refine loop_preK (ι := Nat × Shf × Int) (fun p => shK bM p.2.1) (fun p => [(9, .int .i64 (p.1 : Int))]) (fun p => [(200, ⟨sb, 68, [.raw (.map (some bM)), .int .i64 p.2.2]⟩)]) (fun p => []) (fun p => p.1 ≤ n2 ∧ ShfOk p.2.1 ∧ ∀ q ∈ p.2.1, SpR q) (fun p => n2 - p.1) (0, L, 0) ⟨Nat.zero_le _, hok0, hr0⟩ hF ?_
    rintro ⟨i, Lc, kc⟩ ⟨hi, hok, hr⟩ a0 w1 hF
    try dsimp only at hi
    try dsimp only at hok
    try dsimp only at hr
    replace hF := hF.withK (K' := shK bM Lc) hF.kept
    refine wp_seq ?_
    refine wp_seq ?_
    apply region_okB hB T6_ok [37, 9, 7, 1, 5] [200, 5] [] hF
    case hex => intro A X; conv => lhs; cbv
    case hob =>
      intro X
      subst hB
      simp only [AllOb, Ob.holds, BE.den, List.mem_cons, List.not_mem_nil, or_false, forall_eq_or_imp, forall_eq] <;> (and_intros <;> first | trivial | rfl | (intro h; first | trivial | rfl))
    case hQ =>
    intro X7 a0 w1 hF
    refine test_ok hF rfl (fun hb hF => ?_) (fun hb hF => ?_)
    · skip
      have hin : i < n2 := by
        have : (i : Int) < (n2 : Int) := by subst hB; simpa [std, stdCmp] using hb
        omega
      refine wp_skip ?_
      refine wp_seq ?_
      refine wp_block ?_
      refine wp_region_lit ?_
      apply list_preB 0 5 hB T6_ok [40, 44, 9, 7, 1, 5] [200, 5] [] hF
      case hex => intro A X; conv => lhs; cbv
      case hob =>
        intro X
        subst hB
        simp only [AllOb, Ob.holds, BE.den, List.mem_cons, List.not_mem_nil, or_false, forall_eq_or_imp, forall_eq] <;> (and_intros <;> first | trivial | rfl | exact (show (0 : Int) ≤ (i : Int) by omega) | exact (show (i : Int) < (n2 : Int) by omega) | (intro h; first | trivial | rfl | exact (show (0 : Int) ≤ (i : Int) by omega) | exact (show (i : Int) < (n2 : Int) by omega)))
      case hQ =>
      intro X9_0 a0 w1 hF
      have hqe : (f2 (B.toNat (i : Int))) = f2 i := by subst hB; rw [show std.toNat (i : Int) = i from Int.toNat_natCast i]
      have hq1 : (f2 i).x.r.n ≤ 40 := hb2.2 i hin
      obtain ⟨hq2, hq3⟩ := hw2 i hin
      have hq4 := lab_u64 _ hq2
      rw [← hqe] at hq1 hq2 hq3 hq4
      have SD := do_m 200 sb bM Lc (by have := hok.len; omega) kc (f2 (B.toNat (i : Int))) (by omega) hq2 hq4 hq3
      obtain ⟨D1, hD1⟩ : ∃ D, D = doL Lc (WntA.abs (f2 (B.toNat (i : Int)))) := ⟨_, rfl⟩
      rw [← hD1] at SD
      obtain ⟨GG1, hGG1⟩ : ∃ G : Atom → GotA, G = fun y => gotA y D1.got := ⟨_, rfl⟩
      have hGf1 : ∀ y, gotA y D1.got = GG1 y := fun y => by rw [hGG1]
      simp only [hGf1] at SD
      obtain ⟨k1, hk1⟩ : ∃ z, z = (if D1.wrote then IntKind.i64.wrap (kc + 1) else kc) := ⟨_, rfl⟩
      rw [← hk1] at SD
      obtain ⟨er1, her1⟩ : ∃ z, z = D1.err := ⟨_, rfl⟩
      rw [← her1] at SD
      obtain ⟨L1, hL1⟩ : ∃ z, z = D1.L := ⟨_, rfl⟩
      rw [← hL1] at SD
      refine man_callM rfl rfl rfl rfl hF rfl rfl enters12 SD (fun _ _ h => h) (fun b hb => by cases hb; exact fun h => absurd h (Nat.not_lt.2 hbfr)) ⟨Sim.refl _, Sim.agg (by repeat (first | exact trivial | refine ⟨Sim.refl _, ?_⟩ | refine ⟨Sim.ff, ?_⟩ | refine ⟨Sim.recell (fun i hi => absurd hi (Nat.not_lt_zero _)), ?_⟩)), trivial⟩ (by intro e he; simp only [List.mem_singleton] at he; subst he; rfl) rfl rfl (fun _ => shK bM L1) (fun _ _ _ _ _ _ _ _ _ h => h) ?_
      intro y a0 w1 hF
      obtain ⟨g1, hg1⟩ : ∃ g, g = GG1 y := ⟨_, rfl⟩
      rw [← hg1] at hF
      replace hF := hF.withK (K' := shK bM L1) hF.kept
      have hga1 : g1.abs = D1.got := by rw [hg1, ← hGf1, gotA_abs]
      have hok1 : ShfOk L1 := by rw [hL1, hD1]; exact doL_ok hok hq2
      have hr1 : ∀ p ∈ L1, SpR p := by rw [hL1, hD1]; exact doL_r hr ⟨by show (firsts (f2 (B.toNat (i : Int))).x.r.f (f2 (B.toNat (i : Int))).x.r.n).length ≤ 40; rw [firsts_len]; exact hq1, hq3⟩
      refine wpList_nil ?_
      replace hF := hF.keep [9,7,1,5] [200,5]
      apply region_okB hB T6_ok [9, 7, 1, 5] [200, 5] [] hF
      case hex => intro A X; conv => lhs; cbv
      case hob =>
        intro X
        subst hB
        simp only [AllOb, Ob.holds, BE.den, List.mem_cons, List.not_mem_nil, or_false, forall_eq_or_imp, forall_eq] <;> (and_intros <;> first | trivial | rfl | (intro h; first | trivial | rfl))
      case hQ =>
      intro X8 a0 w1 hF
      have e : B.arith .add .i64 (i : Int) 1 = ((i + 1 : Nat) : Int) := by subst hB; exact wrap_succ (n := n2) hin (by omega)
      refine ⟨(i + 1, L1, k1), ⟨by simp only; omega, hok1, hr1⟩, by simp only; omega, by rw [← e]; exact hF⟩
    · skip
      have SR9 := rows_r 200 sb bM Lc (by have := hok.len; omega) kc
      obtain ⟨RR9, hRR9⟩ : ∃ R, R = rowsL Lc := ⟨_, rfl⟩
      rw [← hRR9] at SR9
      obtain ⟨nR9, hnR9⟩ : ∃ n, n = RR9.length := ⟨_, rfl⟩
      rw [← hnR9] at SR9
      obtain ⟨Lt, hLt⟩ : ∃ z, z = Lc.filter (fun p => p.2.has) := ⟨_, rfl⟩
      refine wp_exit ?_
      refine wp_seq ?_
      refine wp_region_lit ?_
      apply list_preB 0 2 hB T6_ok [48, 7, 5] [200, 5] [(1, .g [200] fun y => .sl none (y.A 0) nR9 (y.c 0) 8 (fun i => rowC (rwAt y RR9 i)))] hF
      case hex => intro A X; conv => lhs; cbv
      case hob =>
        intro X
        subst hB
        simp only [AllOb, Ob.holds, BE.den, List.mem_cons, List.not_mem_nil, or_false, forall_eq_or_imp, forall_eq] <;> (and_intros <;> first | trivial | rfl | exact enters18 | exact SR9 | (intro h; first | trivial | rfl | exact ⟨enters18, SR9⟩))
      case hQ =>
      intro X10_0 a0 w1 hF
      obtain ⟨y1, hy1⟩ : ∃ y, y = X10_0 1 := ⟨_, rfl⟩
      rw [← hy1] at hF
      have hfA : rwsA (rwAt y1 RR9) nR9 = RR9 := by rw [hnR9]; exact rwsA_rwAt _ _
      have hnR : nR9 ≤ 2000 := by
        have h7 := rowsL_len Lc
        have := hok.len
        rw [← hRR9] at h7
        omega
      have hNN : ∀ i, i < nR9 → (rwAt y1 RR9 i).x.r.n ≤ 1000000 ∧ LabOk (rwAt y1 RR9 i).lab ∧ U64 (rwAt y1 RR9 i).lab.bits ∧ U64 (rwAt y1 RR9 i).x.r.nx.bits := fun i hi => by
        have hm : RR9.getD i zeroRw ∈ rowsL Lc := by rw [← hRR9]; simp [List.getD, show i < RR9.length by omega]
        obtain ⟨p, hp, hh, he⟩ := rowsL_mem hm
        obtain ⟨_, _, g1, g2⟩ := hr p hp hh
        have gl := hok.lab p hp
        show (RR9.getD i zeroRw).r.items.length ≤ 1000000 ∧ LabOk (RR9.getD i zeroRw).lab ∧ U64 (RR9.getD i zeroRw).lab.bits ∧ U64 (RR9.getD i zeroRw).r.next.bits
        rw [← he]
        exact ⟨Nat.le_trans g1 (by decide), gl, lab_u64 _ gl, g2⟩
      have SN2 := new_yes (y1.A 0) nR9 (y1.c 0) (rwAt y1 RR9) (by omega) hNN 400 (L := Lt) (by rw [hfA, hRR9, hLt]; exact newS_rowsL hok hr)
      have hbl2 := shK_lt hF.kept
      have hw1s : w.heap.size ≤ w1.heap.size := hF.chg.size
      refine man_callM2 rfl rfl rfl rfl hF rfl rfl enters10 SN2 (fun _ _ _ => trivial) (fun b hb => by cases hb) (SimL.refl _) (by intro e he; cases he) rfl rfl (fun y => ⟨fun m' w' => (w1.heap.size ≤ y.c 0) ∧ (bothK bM Lc (y.c 0) Lt).p m' w', fun k h => ⟨h.1, (bothK bM Lc (y.c 0) Lt).st k h.2⟩⟩) (fun x m' w' hkb h => ⟨h.1, shK_keepB hF.kept hkb (by simp), h.2⟩) ?_
      intro y a0 w2 hF
      obtain ⟨tb, htb⟩ : ∃ b, b = y.b := ⟨_, rfl⟩
      obtain ⟨tM, htM⟩ : ∃ b, b = y.c 0 := ⟨_, rfl⟩
      have htl : w1.heap.size ≤ y.c 0 := hF.kept.1
      rw [← htb, ← htM] at hF
      rw [← htM] at htl
      have htfr : w.heap.size ≤ tM := Nat.le_trans hw1s htl
      have hne : tM ≠ bM := by omega
      have hnn1 : (some bM : Option Nat) ≠ some tM := by intro e; injection e with e; exact hne e.symm
      have hnn2 : (some tM : Option Nat) ≠ some bM := by intro e; injection e with e; exact hne e
      replace hF := hF.withK (K' := bothK bM Lc tM Lt) hF.kept.2
      apply list_endB 3 hB T6_ok [10, 11, 7, 5] [200, 400, 5] [(1, .g [200] fun y => .sl none (y.A 0) nR9 (y.c 0) 8 (fun i => rowC (rwAt y RR9 i)))] hF
      case hex => intro A X; conv => lhs; cbv
      case hob =>
        intro X
        subst hB
        simp only [AllOb, Ob.holds, BE.den, List.mem_cons, List.not_mem_nil, or_false, forall_eq_or_imp, forall_eq] <;> (and_intros <;> first | trivial | rfl | (intro h; first | trivial | rfl))
      case hQ =>
      intro X10 a0 w1 hF
      refine wp_seq ?_
      refine wp_seq ?_
      apply region_okB hB T6_ok [57, 10, 7, 5] [200, 400, 5] [] hF
      case hex => intro A X; conv => lhs; cbv
      case hob =>
        intro X
        subst hB
        simp only [AllOb, Ob.holds, BE.den, List.mem_cons, List.not_mem_nil, or_false, forall_eq_or_imp, forall_eq] <;> (and_intros <;> first | trivial | rfl | (intro h; first | trivial | rfl))
      case hQ =>
      intro X11 a0 w1 hF
      refine test_ok hF rfl (fun hb hF => ?_) (fun hb hF => ?_)
      · exfalso
        subst hB; simp [std, stdCmp, BE.den] at hb
      · skip
        refine wp_skip ?_
        refine wp_seq ?_
        refine wp_region_lit ?_
        apply list_preB 0 3 hB T6_ok [59, 61, 7, 10, 5] [200, 400, 5] [] hF
        case hex => intro A X; conv => lhs; cbv
        case hob =>
          intro X
          subst hB
          simp only [AllOb, Ob.holds, BE.den, List.mem_cons, List.not_mem_nil, or_false, forall_eq_or_imp, forall_eq] <;> (and_intros <;> first | trivial | rfl | (intro h; first | trivial | rfl))
        case hQ =>
        intro X13_0 a0 w1 hF
        have SD := do_m 200 sb bM Lc (by have := hok.len; omega) kc ⟨1, l, 0, zRA, ⟨0, false, .empty, none, 0, 0, fun _ => zeroItm, 0, false⟩⟩ (Nat.zero_le _) hLB hul U00
        obtain ⟨D3, hD3⟩ : ∃ D, D = doL Lc (WntA.abs ⟨1, l, 0, zRA, ⟨0, false, .empty, none, 0, 0, fun _ => zeroItm, 0, false⟩⟩) := ⟨_, rfl⟩
        rw [← hD3] at SD
        obtain ⟨GG3, hGG3⟩ : ∃ G : Atom → GotA, G = fun y => gotA y D3.got := ⟨_, rfl⟩
        have hGf3 : ∀ y, gotA y D3.got = GG3 y := fun y => by rw [hGG3]
        simp only [hGf3] at SD
        obtain ⟨k3, hk3⟩ : ∃ z, z = (if D3.wrote then IntKind.i64.wrap (kc + 1) else kc) := ⟨_, rfl⟩
        rw [← hk3] at SD
        obtain ⟨er3, her3⟩ : ∃ z, z = D3.err := ⟨_, rfl⟩
        rw [← her3] at SD
        obtain ⟨L3, hL3⟩ : ∃ z, z = D3.L := ⟨_, rfl⟩
        rw [← hL3] at SD
        refine man_callM2 rfl rfl rfl rfl hF rfl rfl enters12 SD (fun _ _ h => h.1) (fun b hb => by cases hb; exact fun h => absurd h (Nat.not_lt.2 hbfr)) ⟨Sim.refl _, Sim.agg (by repeat (first | exact trivial | refine ⟨Sim.refl _, ?_⟩ | refine ⟨Sim.ff, ?_⟩ | refine ⟨Sim.recell (fun i hi => absurd hi (Nat.not_lt_zero _)), ?_⟩)), trivial⟩ (by intro e he; simp only [List.mem_singleton] at he; subst he; rfl) rfl rfl (fun _ => bothK bM L3 tM Lt) (fun x m' w' hkb h => ⟨h, shK_keepB hF.kept.2 hkb hnn1⟩) ?_
        intro y a0 w1 hF
        obtain ⟨g3, hg3⟩ : ∃ g, g = GG3 y := ⟨_, rfl⟩
        rw [← hg3] at hF
        replace hF := hF.withK (K' := bothK bM L3 tM Lt) hF.kept
        have hga3 : g3.abs = D3.got := by rw [hg3, ← hGf3, gotA_abs]
        apply list_endB 4 hB T6_ok [7, 10, 5, 12, 13] [200, 400, 5, 12] [] hF
        case hex => intro A X; conv => lhs; cbv
        case hob =>
          intro X
          subst hB
          simp only [AllOb, Ob.holds, BE.den, List.mem_cons, List.not_mem_nil, or_false, forall_eq_or_imp, forall_eq] <;> (and_intros <;> first | trivial | rfl | (intro h; first | trivial | rfl))
        case hQ =>
        intro X13 a0 w1 hF
        refine wp_seq ?_
        refine wp_region_lit ?_
        apply list_preB 0 3 hB T6_ok [66, 68, 7, 10, 12, 13] [200, 400, 12] [] hF
        case hex => intro A X; conv => lhs; cbv
        case hob =>
          intro X
          subst hB
          simp only [AllOb, Ob.holds, BE.den, List.mem_cons, List.not_mem_nil, or_false, forall_eq_or_imp, forall_eq] <;> (and_intros <;> first | trivial | rfl | (intro h; first | trivial | rfl))
        case hQ =>
        intro X14_0 a0 w1 hF
        have SD := do_m 400 tb tM Lt (by have := (filter_ok hok).len; rw [← hLt] at this; omega) 0 ⟨1, l, 0, zRA, ⟨0, false, .empty, none, 0, 0, fun _ => zeroItm, 0, false⟩⟩ (Nat.zero_le _) hLB hul U00
        obtain ⟨D4, hD4⟩ : ∃ D, D = doL Lt (WntA.abs ⟨1, l, 0, zRA, ⟨0, false, .empty, none, 0, 0, fun _ => zeroItm, 0, false⟩⟩) := ⟨_, rfl⟩
        rw [← hD4] at SD
        obtain ⟨GG4, hGG4⟩ : ∃ G : Atom → GotA, G = fun y => gotA y D4.got := ⟨_, rfl⟩
        have hGf4 : ∀ y, gotA y D4.got = GG4 y := fun y => by rw [hGG4]
        simp only [hGf4] at SD
        obtain ⟨k4, hk4⟩ : ∃ z, z = (if D4.wrote then IntKind.i64.wrap (0 + 1) else 0) := ⟨_, rfl⟩
        rw [← hk4] at SD
        obtain ⟨er4, her4⟩ : ∃ z, z = D4.err := ⟨_, rfl⟩
        rw [← her4] at SD
        obtain ⟨L4, hL4⟩ : ∃ z, z = D4.L := ⟨_, rfl⟩
        rw [← hL4] at SD
        refine man_callM2 rfl rfl rfl rfl hF rfl rfl enters12 SD (fun _ _ h => h.2) (fun b hb => by cases hb; exact fun h => absurd h (Nat.not_lt.2 htfr)) ⟨Sim.refl _, Sim.agg (by repeat (first | exact trivial | refine ⟨Sim.refl _, ?_⟩ | refine ⟨Sim.ff, ?_⟩ | refine ⟨Sim.recell (fun i hi => absurd hi (Nat.not_lt_zero _)), ?_⟩)), trivial⟩ (by intro e he; simp only [List.mem_singleton] at he; subst he; rfl) rfl rfl (fun _ => bothK bM L3 tM L4) (fun x m' w' hkb h => ⟨shK_keepB hF.kept.1 hkb hnn2, h⟩) ?_
        intro y a0 w1 hF
        obtain ⟨g4, hg4⟩ : ∃ g, g = GG4 y := ⟨_, rfl⟩
        rw [← hg4] at hF
        replace hF := hF.withK (K' := bothK bM L3 tM L4) hF.kept
        have hga4 : g4.abs = D4.got := by rw [hg4, ← hGf4, gotA_abs]
        apply list_endB 4 hB T6_ok [7, 10, 12, 13, 14, 15] [200, 400, 12, 14] [] hF
        case hex => intro A X; conv => lhs; cbv
        case hob =>
          intro X
          subst hB
          simp only [AllOb, Ob.holds, BE.den, List.mem_cons, List.not_mem_nil, or_false, forall_eq_or_imp, forall_eq] <;> (and_intros <;> first | trivial | rfl | (intro h; first | trivial | rfl))
        case hQ =>
        intro X14 a0 w1 hF
        obtain ⟨z1, z2, z3, z4, z5⟩ := again_law hok.ris hD3 (hLt ▸ hD4)
        have hL3c : L3 = Lc := hL3.trans z1
        have hL4c : L4 = Lt := hL4.trans (z2.trans hLt.symm)
        have hRt : rowsL L4 = RR9 := by rw [hL4c, hLt, rowsL_filter, hRR9]
        have SR1 := (rows_r 200 sb bM L3 (by rw [hL3c]; have := hok.len; omega) k3).weaken (K' := bothK bM L3 tM L4) (fun _ _ h => h.1)
        have SR2 := (rows_r 400 tb tM L4 (by have := (filter_ok hok).len; rw [← hLt, ← hL4c] at this; omega) k4).weaken (K' := bothK bM L3 tM L4) (fun _ _ h => h.2)
        rw [show rowsL L3 = RR9 by rw [hL3c, hRR9], ← hnR9] at SR1
        rw [hRt, ← hnR9] at SR2
        have SM : ∀ z1 z2 : Atom, Spec Try.prog 17 [.sl none (z1.A 0) nR9 (z1.c 0) 8 (fun i => rowC (rwAt z1 RR9 i)), .sl none (z2.A 0) nR9 (z2.c 0) 8 (fun i => rowC (rwAt z2 RR9 i))] (fun _ => .bool (.v true)) := fun z1 z2 => by
          have h9 := samerw_s (z1.A 0) nR9 (z1.c 0) (rwAt z1 RR9) (z2.A 0) nR9 (z2.c 0) (rwAt z2 RR9) (by omega)
          rw [show rwsA (rwAt z1 RR9) nR9 = RR9 by rw [hnR9]; exact rwsA_rwAt _ _, show rwsA (rwAt z2 RR9) nR9 = RR9 by rw [hnR9]; exact rwsA_rwAt _ _, decide_eq_true rfl] at h9
          exact h9
        have hgn : g3.x.r.n ≤ maxLen := got_len ((hF.mem 12 _ rfl).2.1 (.sl none g3.x.A g3.x.r.n g3.x.c 2 (fun i => itC (g3.x.r.f i))) (by simp)).2
        have SG := sameg_s g3 g4 hgn
        obtain ⟨sg, hsg⟩ : ∃ z, z = decide (g3.abs = g4.abs) := ⟨_, rfl⟩
        rw [← hsg] at SG
        have c1 : er3 = er4 := by rw [her3, her4]; exact z3
        have c2 : g3.has = g4.has := ((congrArg Got.has hga3).trans z4).trans (congrArg Got.has hga4).symm
        have c3 : g4.has = true → sg = true := fun h => by
          rw [hsg]
          refine decide_eq_true ?_
          rw [hga3, hga4]
          exact z5 ((congrArg Got.has hga3).symm.trans (c2.trans h))
        refine wp_seq ?_
        apply region_okB hB T6_ok [6] [] [(0, .r fun _ => .bool .tt), (3, .g [200] fun y => .sl none (y.A 0) nR9 (y.c 0) 8 (fun i => rowC (rwAt y RR9 i))), (5, .g [400] fun y => .sl none (y.A 0) nR9 (y.c 0) 8 (fun i => rowC (rwAt y RR9 i))), (6, .r fun _ => .bool (.v true)), (27, .r fun _ => .bool (.v sg))] hF
        case hex => intro A X; conv => lhs; cbv
        case hob =>
          intro X
          subst hB
          simp only [AllOb, Ob.holds, BE.den, List.mem_cons, List.not_mem_nil, or_false, forall_eq_or_imp, forall_eq] <;> (and_intros <;> first | trivial | rfl | exact enters16 | exact shelved_s | exact enters18 | exact SR1 | exact enters18 | exact SR2 | exact enters17 | exact (SM _ _) | exact enters14 | exact SG | (intro h; first | trivial | rfl | exact ⟨enters16, shelved_s⟩ | exact ⟨enters18, SR1⟩ | exact ⟨enters18, SR2⟩ | exact ⟨enters17, (SM _ _)⟩ | exact ⟨enters14, SG⟩))
        case hQ =>
        intro X15 a0 w1 hF
        refine wp_ret ?_
        refine ret_sim (fn := Try.f6) T6_ok hF (rs := [.tmp 6]) rfl (rfl) ?_ noAtom ?_
        · simp [AllOb, Ob.holds]
        · subst hB
          refine Sim.bool ?_
          cases hg4 : g4.has with
          | true => simp [std, stdCmp, BE.den, canB, c1, c2, hg4, c3 hg4]
          | false => simp [std, stdCmp, BE.den, canB, c1, c2, hg4]
end Go.Proofs.Ythpbihppfijegaa.Sym

namespace Go.Proofs.Ythpbihppfijegaa
open Go Go.RowKit
set_option linter.unusedVariables false

theorem walkShelfAgain (W : World) (v0 v1 v2 : Value) (i0 : Sym.InRow W v0) (i1 : Sym.InWnts W v1) (i2 : Sym.InLb W v2) : Calls Try.prog 6 #[v0, v1, v2] W fun e w' => e = .returned (.bool true) ∧ Below W.heap.size W w' := by
  obtain ⟨A, n, c, f, rfl, h0, hn, hf⟩ := i0
  obtain ⟨A2, n2, c2, f2, rfl, h1, hn2, hf2⟩ := i1
  have hw2 : ∀ i, i < n2 → Sym.LabOk (f2 i).lab ∧ U64 (f2 i).x.r.nx.bits := fun i hi => ⟨(hf2 i hi).2.2.1, (hf2 i hi).2.2.2.u64⟩
  obtain ⟨l, rfl, h2, hl⟩ := i2
  have hwf : ∀ i, i < n → Sym.LabOk (f i).lab ∧ U64 (f i).x.r.nx.bits := fun i hi => ⟨(hf i hi).2.2.1, (hf i hi).2.2.2.u64⟩
  have S : Sym.Spec Try.prog 6 [Sym.rowsV A n c f, Sym.wntsV A2 n2 c2 f2, Sym.labAV l] (fun _ => .bool .tt) := by
    cases hnew : newS (Sym.rwsA f n) with
    | none => exact Sym.lawAgain_no A n c f hn hwf A2 n2 c2 f2 hn2 hw2 l hl hnew
    | some L => exact Sym.lawAgain_yes A n c f hn hwf A2 n2 c2 f2 hn2 hw2 l hl hnew
  refine (S (fun _ _ => False) W (fun _ _ h => h.elim) (fun v hv => ?_)).mono ?_
  · simp only [List.mem_cons, List.not_mem_nil, or_false] at hv
    rcases hv with rfl | rfl | rfl
    · exact h0
    · exact h1
    · exact h2
  · rintro e w' ⟨x, rfl, _, hb⟩
    exact ⟨rfl, hb⟩
end Go.Proofs.Ythpbihppfijegaa

namespace Go.Proofs.Ythpbihppfijegaa.shelfAgain
open Go.ChangeShapes Go.WideShapes Go.ChangeAt Go.RowKit
set_option linter.unusedVariables false

theorem own : ownKnob Try.prog.godebug = none := by kernel_rfl
theorem laidOut : laidOutB Try.prog = true := by kernel_rfl

set_option maxRecDepth 100000 in
theorem lifted (os : Os) (started : os.Started) (H : Type) (enc : TypeId × Value → H) :
    ReturnsInHanded {} Try.checked os 6 .any (Rows.shelfAgainSpec.pre6 enc Try.prog Try.f6 Rows.shelfAgainRow.domain false) (Rows.shelfAgainSpec.post enc Try.prog Try.f6 false true false false) := by
  refine returnsInHanded_of_change (C := Try.checked) own started (by kernel_rfl) Try.func6
    (ChangeSpec.witness6 (enc := enc) (C := Try.checked) false ⟨#[], #[.slice none 0 0, .slice none 0 0, .agg #[.int .i64 0, .int .u64 0]], []⟩ 8 (by kernel_rfl) (by kernel_rfl) (by kernel_rfl) (by kernel_rfl)) ?_
  intro W base args ds gs before hval0 hW hcnd _
  have hval : ∀ (j : Nat) t v, Try.f6.params[j]? = some t → args[j]? = some v → Value.okWide Try.prog W .any base t v := hval0
  have hW' := hW
  obtain ⟨p, q, hA0, hV, rfl, hfz, hnd⟩ := hW
  have hA : DataW.TrodAll enc Try.prog W 0 (fun _ => true) true Try.f6.params.toList args.toList ds p := hA0
  rw [Try.params6] at hA hval
  obtain ⟨v0, vs0, d0, ds0, p0, q0, hargs, rfl, rfl, h0, r0⟩ := trodAll_cons hA
  obtain ⟨v1, vs1, d1, ds1, p1, q1, rfl, rfl, rfl, h1, r1⟩ := trodAll_cons r0
  obtain ⟨v2, vs2, d2, ds2, p2, q2, rfl, rfl, rfl, h2, r2⟩ := trodAll_cons r1
  obtain ⟨rfl, rfl, rfl⟩ := trodAll_nil r2
  obtain rfl : args = #[v0, v1, v2] := by cases args; simp_all
  obtain ⟨rfl, rfl⟩ := trodVars_none hV
  have lt0 : ∀ x ∈ p0, x.block < W.heap.size := by obtain ⟨m, hm⟩ := h0; exact DataW.trod_lt m _ _ _ hm
  have lt1 : ∀ x ∈ p1, x.block < W.heap.size := by obtain ⟨m, hm⟩ := h1; exact DataW.trod_lt m _ _ _ hm
  have lt2 : ∀ x ∈ p2, x.block < W.heap.size := by obtain ⟨m, hm⟩ := h2; exact DataW.trod_lt m _ _ _ hm
  have i0 := Sym.in_rows (hval 0 22 v0 rfl rfl) h0
  have i1 := Sym.in_wnts (hval 1 23 v1 rfl rfl) h1
  have i2 := Sym.in_lb (hval 2 36 v2 rfl rfl) h2
  clear hA0 hval0
  refine (walkShelfAgain W v0 v1 v2 i0 i1 i2).mono fun e W' ⟨he, bel⟩ => ?_
  subst he
  exact ⟨_, rfl, _, _, _, [], _, [], hW', trodAll_mk1 (shut_bool Try.underlying4 _), (trodAll_cons_mk (Below.trod laidOut (by kernel_rfl) (of_decide_eq_true (by kernel_rfl)) h0 bel lt0) (trodAll_cons_mk (Below.trod laidOut (by kernel_rfl) (of_decide_eq_true (by kernel_rfl)) h1 bel lt1) (trodAll_cons_mk (Below.trod laidOut (by kernel_rfl) (of_decide_eq_true (by kernel_rfl)) h2 bel lt2) trodAll_mk0))), rfl, bel.frame _, fun h => by cases h⟩

theorem over : Rows.shelfAgainRow.holds Try.pinned (OpenSpec.ofChange Rows.shelfAgainSpec) :=
  OpenClaim.holds_of_wide 6 Try.f6 rfl rfl rfl rfl rfl rfl rfl ⟨rfl, rfl, rfl, rfl, rfl⟩ rfl rfl rfl rfl rfl (by kernel_rfl) Try.func6 (by kernel_rfl)
    (of_decide_eq_true (by kernel_rfl)) (by unfold Func.isWrapper; first | (rw [if_pos (by decide +kernel)]; kernel_rfl) | (rw [if_neg (by decide +kernel)]; exact ⟨rfl, rfl⟩))
    (fun os started H enc _ => lifted os started H enc)

theorem proved : Rows.ShelfAgainSaid := over
#print axioms proved
end Go.Proofs.Ythpbihppfijegaa.shelfAgain
