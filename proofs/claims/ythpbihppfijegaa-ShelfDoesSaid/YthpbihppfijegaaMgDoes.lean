/-
  PlOnce, SymLwO, SymRSh2, SymLwD, WalkShelfDoes, ClaimShelfDoes: put together by a program of mine (a claim may have 60 files at most). Conditions: none.
-/
import Derived.Test.YthpbihppfijegaaRows
import Derived.Test.YthpbihppfijegaaMgA1
import Derived.Test.YthpbihppfijegaaMgA2
import Derived.Test.YthpbihppfijegaaMgA3
import Derived.Test.YthpbihppfijegaaMgA4
import Derived.Test.YthpbihppfijegaaMgA
namespace Go.Proofs.Ythpbihppfijegaa
open Go Go.RowKit Sym
set_option linter.unusedVariables false
set_option linter.unusedSimpArgs false

theorem inc_ne (v : Int) : inc v ≠ v := by
  intro h
  have : (inc v) % 18446744073709551616 = (v + 1) % 18446744073709551616 := by
    unfold inc IntKind.wrap
    simp [IntKind.bits, IntKind.signed]
  rw [h] at this
  omega
theorem doL_get {L : Shf} {l : Lab} {v : Int} {r : Rec} : doL L ⟨1, l, v, r⟩ = if isL l = true then ⟨L, false, ⟨0, (spotOf L l).ver, (spotOf L l).has, (spotOf L l).r⟩, 0⟩ else ⟨L, false, zeroGot, 1⟩ := by
  unfold doL
  simp
theorem spot_put (L : Shf) (l : Lab) (x : Spo) : spotOf (putL l x L) l = x := by
  unfold spotOf; rw [find_put, if_pos rfl]; rfl
def GoodW (w : Wnt) : Prop := (w.kind = 1 ∨ w.kind = 2 ∨ w.kind = 3) ∧ isL w.lab = true ∧ (w.kind = 2 → isR w.r = true)
theorem doL_bad {L : Shf} {w : Wnt} (h : ¬ GoodW w) : doL L w = ⟨L, false, zeroGot, 1⟩ := if_neg h
theorem doL_old {L : Shf} {w : Wnt} (h : GoodW w) (hk : ¬ w.kind = 1) (hv : w.ver ≠ (spotOf L w.lab).ver) : doL L w = ⟨L, false, ⟨8, (spotOf L w.lab).ver, false, zeroRec⟩, 0⟩ := (if_pos h).trans ((if_neg hk).trans (if_pos hv))
theorem doL_full {L : Shf} {w : Wnt} (h : GoodW w) (hk : ¬ w.kind = 1) (hv : ¬ w.ver ≠ (spotOf L w.lab).ver) (hf : (findL w.lab L).isNone ∧ 2000 ≤ L.length) : doL L w = ⟨L, false, zeroGot, 12⟩ := (if_pos h).trans ((if_neg hk).trans ((if_neg hv).trans (if_pos hf)))
theorem doL_new {L : Shf} {w : Wnt} (h : GoodW w) (hk : ¬ w.kind = 1) (hv : ¬ w.ver ≠ (spotOf L w.lab).ver) (hf : ¬ ((findL w.lab L).isNone ∧ 2000 ≤ L.length)) : doL L w = ⟨putL w.lab (nextSpo w) L, true, ⟨0, inc w.ver, false, zeroRec⟩, 0⟩ := (if_pos h).trans ((if_neg hk).trans ((if_neg hv).trans (if_neg hf)))
theorem doL_see {L : Shf} {w : Wnt} (h : GoodW w) (hk : w.kind = 1) : doL L w = ⟨L, false, ⟨0, (spotOf L w.lab).ver, (spotOf L w.lab).has, (spotOf L w.lab).r⟩, 0⟩ := (if_pos h).trans (if_pos hk)
theorem doL_late {L : Shf} {l : Lab} {v : Int} {k : Int} {r : Rec} (hl : isL l = true) (hk : k = 2 ∨ k = 3) (hv : v ≠ (spotOf L l).ver) : (doL L ⟨k, l, v, r⟩).L = L ∧ (doL L ⟨k, l, v, r⟩).wrote = false ∧ ((doL L ⟨k, l, v, r⟩).err = 0 → (doL L ⟨k, l, v, r⟩).got.code = 8) ∧ (k = 3 → (doL L ⟨k, l, v, r⟩).err = 0) := by
  by_cases hg : GoodW ⟨k, l, v, r⟩
  · rw [doL_old hg (by simp only; omega) hv]
    exact ⟨rfl, rfl, fun _ => rfl, fun _ => rfl⟩
  · rw [doL_bad hg]
    refine ⟨rfl, rfl, fun h => absurd h (show ¬ (1 : Int) = 0 by decide), fun h3 => absurd ⟨.inr hk, hl, fun h2 => ?_⟩ hg⟩
    simp only at h2
    omega
theorem doL_err {L : Shf} {w : Wnt} (h : (doL L w).err ≠ 0) : (doL L w).wrote = false := by
  by_cases hg : GoodW w
  · by_cases hk : w.kind = 1
    · rw [doL_see hg hk] at h; exact absurd rfl h
    · by_cases hv : w.ver ≠ (spotOf L w.lab).ver
      · rw [doL_old hg hk hv]
      · by_cases hf : (findL w.lab L).isNone ∧ 2000 ≤ L.length
        · rw [doL_full hg hk hv hf]
        · rw [doL_new hg hk hv hf] at h; exact absurd rfl h
  · rw [doL_bad hg]
structure OnceL (l : Lab) (a b : Rec) (L : Shf) (D1 D2 D3 D4 D5 : Did) : Prop where
  w1 : D1.wrote = false
  no : (D1.err ≠ 0 ∨ D2.err ≠ 0) → D2.wrote = false
  w2 : D1.err = 0 → D2.err = 0 → D2.wrote = true
  c2 : D1.err = 0 → D2.err = 0 → D2.got.code = 0 ∧ D2.got.ver = inc D1.got.ver
  c3 : D1.err = 0 → D2.err = 0 → D3.wrote = false ∧ (D3.err = 0 → D3.got.code = 8)
  c4 : D1.err = 0 → D2.err = 0 → D4.wrote = false ∧ D4.err = 0 ∧ D4.got.code = 8
  c5 : D1.err = 0 → D2.err = 0 → D5.wrote = false ∧ D5.err = 0 ∧ D5.got.has = true ∧ D5.got.ver = D2.got.ver ∧ D5.got.r = a
theorem once_law {l : Lab} {a b z1 z4 z5 : Rec} {L : Shf} {v1 v2 v5 : Int} {D1 D2 D3 D4 D5 : Did} (h1 : D1 = doL L ⟨1, l, v1, z1⟩) (e2 : v2 = D1.got.ver) (h2 : D2 = doL D1.L ⟨2, l, v2, a⟩) (h3 : D3 = doL D2.L ⟨2, l, v2, b⟩) (h4 : D4 = doL D3.L ⟨3, l, v2, z4⟩) (h5 : D5 = doL D4.L ⟨1, l, v5, z5⟩) : OnceL l a b L D1 D2 D3 D4 D5 := by
  rw [doL_get] at h1 h5
  by_cases hl : isL l = true
  · rw [if_pos hl] at h1 h5
    have f1 : D1.L = L := by rw [h1]
    have f2 : v2 = (spotOf L l).ver := by rw [e2, h1]
    have f3 : D1.err = 0 := by rw [h1]
    have f4 : D1.wrote = false := by rw [h1]
    have f5 : D1.got.ver = (spotOf L l).ver := by rw [h1]
    rw [f1] at h2
    have key : D2.err = 0 → D2 = ⟨putL l ⟨inc v2, true, a⟩ L, true, ⟨0, inc v2, false, zeroRec⟩, 0⟩ := by
      intro he
      rw [h2] at he ⊢
      by_cases hg : GoodW ⟨2, l, v2, a⟩
      · have g2 : ¬ (2 : Int) = 1 := by decide
        have g3 : ¬ v2 ≠ (spotOf L l).ver := fun h => h f2
        by_cases hf : (findL l L).isNone ∧ 2000 ≤ L.length
        · rw [doL_full hg g2 g3 hf] at he; exact absurd he (show ¬ (12 : Int) = 0 by decide)
        · rw [doL_new hg g2 g3 hf]
          simp [nextSpo]
      · rw [doL_bad hg] at he; exact absurd he (show ¬ (1 : Int) = 0 by decide)
    have late : D2.err = 0 → spotOf D2.L l = ⟨inc v2, true, a⟩ := fun he => by rw [key he]; exact spot_put _ _ _
    have l3 := fun he => doL_late (L := D2.L) (r := b) (k := 2) hl (.inl rfl) (show v2 ≠ (spotOf D2.L l).ver by rw [late he]; exact (inc_ne v2).symm)
    rw [← h3] at l3
    have s3 : D2.err = 0 → spotOf D3.L l = ⟨inc v2, true, a⟩ := fun he => by rw [(l3 he).1]; exact late he
    have l4 := fun he => doL_late (L := D3.L) (r := z4) (k := 3) hl (.inr rfl) (show v2 ≠ (spotOf D3.L l).ver by rw [s3 he]; exact (inc_ne v2).symm)
    rw [← h4] at l4
    have s4 : D2.err = 0 → spotOf D4.L l = ⟨inc v2, true, a⟩ := fun he => by rw [(l4 he).1]; exact s3 he
    refine ⟨f4, fun h => ?_, fun _ he => by rw [key he], fun _ he => ?_, fun _ he => ⟨(l3 he).2.1, (l3 he).2.2.1⟩, fun _ he => ⟨(l4 he).2.1, (l4 he).2.2.2 rfl, (l4 he).2.2.1 ((l4 he).2.2.2 rfl)⟩, fun _ he => ?_⟩
    · rcases h with h | h
      · exact absurd f3 h
      · rw [h2] at h ⊢; exact doL_err h
    · rw [key he, f5, f2]; exact ⟨rfl, rfl⟩
    · rw [h5, s4 he, key he]; exact ⟨rfl, rfl, rfl, rfl, rfl⟩
  · rw [if_neg hl] at h1 h5
    have f3 : D1.err = 1 := by rw [h1]
    have n0 : ¬ D1.err = 0 := by rw [f3]; decide
    refine ⟨by rw [h1], fun _ => ?_, fun h => absurd h n0, fun h => absurd h n0, fun h => absurd h n0, fun h => absurd h n0, fun h => absurd h n0⟩
    rw [h2, doL_bad fun h => hl h.2.1]
end Go.Proofs.Ythpbihppfijegaa

namespace Go.Proofs.Ythpbihppfijegaa.Sym
open Go Go.RowKit
set_option maxRecDepth 100000
set_option maxHeartbeats 1600000
set_option linter.unusedVariables false
set_option linter.unusedSimpArgs false
theorem or3 : ∀ a b c : Bool, (if (if a = true then true else b) = true then true else c) = false → (a || b || c) = false := by decide
theorem bigs_ff {n : Nat} {f : Nat → RowA} (h : (if n ≤ 300 then bigS n f else true) = false) : n ≤ 300 ∧ ∀ i, i < n → (f i).x.r.n ≤ 40 := by
  by_cases hn : n ≤ 300
  · rw [if_pos hn] at h
    refine ⟨hn, fun i hi => ?_⟩
    unfold bigS at h
    simp only [Bool.or_eq_false_iff] at h
    exact bigF_len (anyB_false h.1.2 i hi)
  · rw [if_neg hn] at h; cases h
theorem new_wf {n : Nat} {f : Nat → RowA} (hb : n ≤ 300 ∧ ∀ i, i < n → (f i).x.r.n ≤ 40) (hwf : ∀ i, i < n → LabOk (f i).lab ∧ U64 (f i).x.r.nx.bits) (hu : ∀ l, LabOk l → U64 l.bits) : ∀ i, i < n → (f i).x.r.n ≤ 1000000 ∧ LabOk (f i).lab ∧ U64 (f i).lab.bits ∧ U64 (f i).x.r.nx.bits := fun i hi => ⟨by have := hb.2 i hi; omega, (hwf i hi).1, hu _ (hwf i hi).1, (hwf i hi).2⟩
theorem lab_u64 (l : Lab) (h : LabOk l) : U64 l.bits := by
  have := h.2
  simp [Lit.wf, IntKind.min, IntKind.max, IntKind.signed, IntKind.bits] at this
  exact ⟨by omega, by omega⟩
theorem rws_lab {n : Nat} {f : Nat → RowA} (hwf : ∀ i, i < n → LabOk (f i).lab ∧ U64 (f i).x.r.nx.bits) : ∀ r ∈ rwsA f n, LabOk r.lab := by
  intro r hr
  obtain ⟨i, hi, rfl⟩ := List.mem_map.1 hr
  exact (hwf i (List.mem_range.1 hi)).1
theorem rec_len {m : Nat → Nat → Prop} {w : World} {x : RA} (h : Ok m w (recV x)) : x.r.n ≤ maxLen := by
  cases h with | agg _ h1 h2 =>
    have := ok_len (h2 (.sl none x.A x.r.n x.c 2 (fun i => itC (x.r.f i))) (by simp))
    omega
theorem got_len {m : Nat → Nat → Prop} {w : World} {A : Option Addr} {n c : Nat} {f : Nat → Itm} (h : Ok m w (.sl none A n c 2 (fun i => itC (f i)))) : n ≤ maxLen := by
  have := ok_len h
  omega
theorem once12 {l : Lab} {z1 a : Rec} {L L1 : Shf} {v1 v2 er1 er2 : Int} {D1 D2 : Did} (h1 : D1 = doL L ⟨1, l, v1, z1⟩) (h2 : D2 = doL L1 ⟨2, l, v2, a⟩) (hL : L1 = D1.L) (e1 : er1 = D1.err) (e2 : er2 = D2.err) (h : er1 ≠ 0 ∨ er2 ≠ 0) : D1.wrote = false ∧ D2.wrote = false := by
  rw [doL_get] at h1
  by_cases hl : isL l = true
  · rw [if_pos hl] at h1
    have : D1.err = 0 := by rw [h1]
    refine ⟨by rw [h1], ?_⟩
    rw [h2] at e2 ⊢
    refine doL_err ?_
    rcases h with h | h
    · exact absurd (e1.trans this) h
    · rw [← e2]; exact h
  · rw [if_neg hl] at h1
    exact ⟨by rw [h1], by rw [h2, doL_bad fun h => hl h.2.1]⟩
def T4 : List (Nat × TI) := [(3, ti3), (4, ti4), (22, ti22), (26, ti26), (27, ti27), (33, ti33), (36, ti36), (38, ti38), (40, ti40), (46, ti46)]
theorem T4_ok : TabOK Try.prog T4 := .cons t3 (.cons t4 (.cons t22 (.cons t26 (.cons t27 (.cons t33 (.cons t36 (.cons t38 (.cons t40 (.cons t46 (.nil))))))))))
theorem enters4 : Enters Try.prog 4 := fun _ _ => by kernel_rfl
theorem lawOnce_no (A : Option Addr) (n c : Nat) (f : Nat → RowA) (hn : n ≤ maxLen) (hwf : ∀ i, i < n → LabOk (f i).lab ∧ U64 (f i).x.r.nx.bits) (l : Lab) (a b : RA) (hLB : LabOk l) (hua : U64 a.r.nx.bits) (hub : U64 b.r.nx.bits) (hnew : newS (rwsA f n) = none) : Spec Try.prog 4 [rowsV A n c f, labAV l, recV a, recV b] (fun _ => .bool .tt) := by
  intro m w hm hargs
  have hmx : maxLen = 9223372036854775807 := rfl
  have S1 := bigs_s A n c f hn
  obtain ⟨bl, hbl⟩ : ∃ q, q = (if n ≤ 300 then bigS n f else true) := ⟨_, rfl⟩
  rw [← hbl] at S1
  have han : a.r.n ≤ maxLen := rec_len (hargs (recV a) (by simp))
  have hbn : b.r.n ≤ maxLen := rec_len (hargs (recV b) (by simp))
  have S2 := big_s a.A a.r.n a.c a.r.f han a.r.kd a.r.nx a.r.mrk
  have S3 := big_s b.A b.r.n b.c b.r.f hbn b.r.kd b.r.nx b.r.mrk
  simp only [recI, rowI] at S2 S3
  obtain ⟨ba, hba⟩ : ∃ q, q = bigF a.r.n a.r.f := ⟨_, rfl⟩
  rw [← hba] at S2
  obtain ⟨bb, hbb⟩ : ∃ q, q = bigF b.r.n b.r.f := ⟨_, rfl⟩
  rw [← hbb] at S3
  have hul := lab_u64 l hLB
  simp only [labAV] at hargs ⊢
  refine enter hm hargs Try.func4 rfl (by simp [Try.ntmps4]) fun a0 hF => ?_
  simp only [Try.ntmps4, startT] at hF
  obtain ⟨B, hB⟩ : ∃ B, B = std := ⟨_, rfl⟩
  refine wp_seq ?_
  apply region_okB hB T4_ok [0, 5, 6, 7] [5, 6, 7] [] hF
  case hex => intro A X; conv => lhs; cbv
  case hob =>
    intro X
    subst hB
    simp only [AllOb, Ob.holds, BE.den, List.mem_cons, List.not_mem_nil, or_false, forall_eq_or_imp, forall_eq] <;> (and_intros <;> first | trivial | rfl | (intro h; first | trivial | rfl))
  case hQ =>
  intro X0 a0 w1 hF
  refine wp_seq ?_
  refine wp_seq ?_
  apply region_okB hB T4_ok [30, 0, 5, 6, 7] [5, 6, 7] [(1, .r fun _ => .bool (.v bl)), (4, .r fun _ => .bool (.v ba)), (8, .r fun _ => .bool (.v bb))] hF
  case hex => intro A X; conv => lhs; cbv
  case hob =>
    intro X
    subst hB
    simp only [AllOb, Ob.holds, BE.den, List.mem_cons, List.not_mem_nil, or_false, forall_eq_or_imp, forall_eq] <;> (and_intros <;> first | trivial | rfl | exact enters8 | exact S1 | exact enters20 | exact S2 | exact enters20 | exact S3 | (intro h; first | trivial | rfl | exact ⟨enters8, S1⟩ | exact ⟨enters20, S2⟩ | exact ⟨enters20, S3⟩))
  case hQ =>
  intro X1 a0 w1 hF
  refine test_ok hF rfl (fun hb hF => ?_) (fun hb hF => ?_)
  · skip
    refine wp_seq ?_
    apply region_okB hB T4_ok [8] [] [] hF
    case hex => intro A X; conv => lhs; cbv
    case hob =>
      intro X
      subst hB
      simp only [AllOb, Ob.holds, BE.den, List.mem_cons, List.not_mem_nil, or_false, forall_eq_or_imp, forall_eq] <;> (and_intros <;> first | trivial | rfl | (intro h; first | trivial | rfl))
    case hQ =>
    intro X2 a0 w1 hF
    refine wp_ret ?_
    refine ret_sim (fn := Try.f4) T4_ok hF (rs := [.tmp 8]) rfl (rfl) ?_ noAtom ?_
    · simp [AllOb, Ob.holds]
    · subst hB
      exact Sim.bool rfl
  · skip
    have hb0 : (bl || ba || bb) = false := by
      have h9 : (if (if bl = true then true else ba) = true then true else bb) = false := by subst hB; exact hb
      exact or3 _ _ _ h9
    simp only [Bool.or_eq_false_iff] at hb0
    have hb1 := bigs_ff (hbl ▸ hb0.1.1)
    have ha40 : a.r.n ≤ 40 := bigF_len (f := a.r.f) (hba ▸ hb0.1.2)
    have hb40 : b.r.n ≤ 40 := bigF_len (f := b.r.f) (hbb ▸ hb0.2)
    have hN := new_wf hb1 hwf lab_u64
    refine wp_skip ?_
    refine wp_seq ?_
    refine wp_region_lit ?_
    apply list_preB 0 1 hB T4_ok [32, 5, 6, 7] [5, 6, 7] [] hF
    case hex => intro A X; conv => lhs; cbv
    case hob =>
      intro X
      subst hB
      simp only [AllOb, Ob.holds, BE.den, List.mem_cons, List.not_mem_nil, or_false, forall_eq_or_imp, forall_eq] <;> (and_intros <;> first | trivial | rfl | (intro h; first | trivial | rfl))
    case hQ =>
    intro X3_0 a0 w1 hF
    have SN := new_no A n c f hn hN hnew
    refine man_callM rfl rfl rfl rfl hF rfl rfl enters10 SN (fun _ _ _ => trivial) (fun b hb => by cases hb) (SimL.refl _) (by intro e he; cases he) rfl rfl (fun y => noK) (fun _ _ _ _ _ _ _ _ _ _ => trivial) ?_
    intro y a0 w1 hF
    apply list_endB 2 hB T4_ok [9, 10, 5, 6, 7] [5, 6, 7] [] hF
    case hex => intro A X; conv => lhs; cbv
    case hob =>
      intro X
      subst hB
      simp only [AllOb, Ob.holds, BE.den, List.mem_cons, List.not_mem_nil, or_false, forall_eq_or_imp, forall_eq] <;> (and_intros <;> first | trivial | rfl | (intro h; first | trivial | rfl))
    case hQ =>
    intro X3 a0 w1 hF
    refine wp_seq ?_
    refine wp_seq ?_
    apply region_okB hB T4_ok [37, 9, 10, 5, 6, 7] [5, 6, 7] [] hF
    case hex => intro A X; conv => lhs; cbv
    case hob =>
      intro X
      subst hB
      simp only [AllOb, Ob.holds, BE.den, List.mem_cons, List.not_mem_nil, or_false, forall_eq_or_imp, forall_eq] <;> (and_intros <;> first | trivial | rfl | (intro h; first | trivial | rfl))
    case hQ =>
    intro X4 a0 w1 hF
    refine test_tt hF rfl (fun hF => ?_)
    refine wp_seq ?_
    apply region_okB hB T4_ok [8] [] [(0, .r fun _ => .bool .tt)] hF
    case hex => intro A X; conv => lhs; cbv
    case hob =>
      intro X
      subst hB
      simp only [AllOb, Ob.holds, BE.den, List.mem_cons, List.not_mem_nil, or_false, forall_eq_or_imp, forall_eq] <;> (and_intros <;> first | trivial | rfl | exact enters16 | exact shelved_s | (intro h; first | trivial | rfl | exact ⟨enters16, shelved_s⟩))
    case hQ =>
    intro X5 a0 w1 hF
    refine wp_ret ?_
    refine ret_sim (fn := Try.f4) T4_ok hF (rs := [.tmp 8]) rfl (rfl) ?_ noAtom ?_
    · simp [AllOb, Ob.holds]
    · subst hB
      refine Sim.bool ?_
      simp [std, stdCmp, BE.den, canB]
theorem lawOnce_yes (A : Option Addr) (n c : Nat) (f : Nat → RowA) (hn : n ≤ maxLen) (hwf : ∀ i, i < n → LabOk (f i).lab ∧ U64 (f i).x.r.nx.bits) (l : Lab) (a b : RA) (hLB : LabOk l) (hua : U64 a.r.nx.bits) (hub : U64 b.r.nx.bits) {L : Shf} (hnew : newS (rwsA f n) = some L) : Spec Try.prog 4 [rowsV A n c f, labAV l, recV a, recV b] (fun _ => .bool .tt) := by
  intro m w hm hargs
  have hmx : maxLen = 9223372036854775807 := rfl
  have S1 := bigs_s A n c f hn
  obtain ⟨bl, hbl⟩ : ∃ q, q = (if n ≤ 300 then bigS n f else true) := ⟨_, rfl⟩
  rw [← hbl] at S1
  have han : a.r.n ≤ maxLen := rec_len (hargs (recV a) (by simp))
  have hbn : b.r.n ≤ maxLen := rec_len (hargs (recV b) (by simp))
  have S2 := big_s a.A a.r.n a.c a.r.f han a.r.kd a.r.nx a.r.mrk
  have S3 := big_s b.A b.r.n b.c b.r.f hbn b.r.kd b.r.nx b.r.mrk
  simp only [recI, rowI] at S2 S3
  obtain ⟨ba, hba⟩ : ∃ q, q = bigF a.r.n a.r.f := ⟨_, rfl⟩
  rw [← hba] at S2
  obtain ⟨bb, hbb⟩ : ∃ q, q = bigF b.r.n b.r.f := ⟨_, rfl⟩
  rw [← hbb] at S3
  have hul := lab_u64 l hLB
  simp only [labAV] at hargs ⊢
  refine enter hm hargs Try.func4 rfl (by simp [Try.ntmps4]) fun a0 hF => ?_
  simp only [Try.ntmps4, startT] at hF
  obtain ⟨B, hB⟩ : ∃ B, B = std := ⟨_, rfl⟩
  refine wp_seq ?_
  apply region_okB hB T4_ok [0, 5, 6, 7] [5, 6, 7] [] hF
  case hex => intro A X; conv => lhs; cbv
  case hob =>
    intro X
    subst hB
    simp only [AllOb, Ob.holds, BE.den, List.mem_cons, List.not_mem_nil, or_false, forall_eq_or_imp, forall_eq] <;> (and_intros <;> first | trivial | rfl | (intro h; first | trivial | rfl))
  case hQ =>
  intro X0 a0 w1 hF
  refine wp_seq ?_
  refine wp_seq ?_
  apply region_okB hB T4_ok [30, 0, 5, 6, 7] [5, 6, 7] [(1, .r fun _ => .bool (.v bl)), (4, .r fun _ => .bool (.v ba)), (8, .r fun _ => .bool (.v bb))] hF
  case hex => intro A X; conv => lhs; cbv
  case hob =>
    intro X
    subst hB
    simp only [AllOb, Ob.holds, BE.den, List.mem_cons, List.not_mem_nil, or_false, forall_eq_or_imp, forall_eq] <;> (and_intros <;> first | trivial | rfl | exact enters8 | exact S1 | exact enters20 | exact S2 | exact enters20 | exact S3 | (intro h; first | trivial | rfl | exact ⟨enters8, S1⟩ | exact ⟨enters20, S2⟩ | exact ⟨enters20, S3⟩))
  case hQ =>
  intro X1 a0 w1 hF
  refine test_ok hF rfl (fun hb hF => ?_) (fun hb hF => ?_)
  · skip
    refine wp_seq ?_
    apply region_okB hB T4_ok [8] [] [] hF
    case hex => intro A X; conv => lhs; cbv
    case hob =>
      intro X
      subst hB
      simp only [AllOb, Ob.holds, BE.den, List.mem_cons, List.not_mem_nil, or_false, forall_eq_or_imp, forall_eq] <;> (and_intros <;> first | trivial | rfl | (intro h; first | trivial | rfl))
    case hQ =>
    intro X2 a0 w1 hF
    refine wp_ret ?_
    refine ret_sim (fn := Try.f4) T4_ok hF (rs := [.tmp 8]) rfl (rfl) ?_ noAtom ?_
    · simp [AllOb, Ob.holds]
    · subst hB
      exact Sim.bool rfl
  · skip
    have hb0 : (bl || ba || bb) = false := by
      have h9 : (if (if bl = true then true else ba) = true then true else bb) = false := by subst hB; exact hb
      exact or3 _ _ _ h9
    simp only [Bool.or_eq_false_iff] at hb0
    have hb1 := bigs_ff (hbl ▸ hb0.1.1)
    have ha40 : a.r.n ≤ 40 := bigF_len (f := a.r.f) (hba ▸ hb0.1.2)
    have hb40 : b.r.n ≤ 40 := bigF_len (f := b.r.f) (hbb ▸ hb0.2)
    have hN := new_wf hb1 hwf lab_u64
    refine wp_skip ?_
    refine wp_seq ?_
    refine wp_region_lit ?_
    apply list_preB 0 1 hB T4_ok [32, 5, 6, 7] [5, 6, 7] [] hF
    case hex => intro A X; conv => lhs; cbv
    case hob =>
      intro X
      subst hB
      simp only [AllOb, Ob.holds, BE.den, List.mem_cons, List.not_mem_nil, or_false, forall_eq_or_imp, forall_eq] <;> (and_intros <;> first | trivial | rfl | (intro h; first | trivial | rfl))
    case hQ =>
    intro X3_0 a0 w1 hF
    have SN := new_yes A n c f hn hN 200 hnew
    have hok0 : ShfOk L := newS_ok (rws_lab hwf) hnew
    refine man_callM rfl rfl rfl rfl hF rfl rfl enters10 (SN) (fun _ _ _ => trivial) (fun b hb => by cases hb) (SimL.refl _) (by intro e he; cases he) rfl rfl (fun y => shF w.heap.size (y.c 0) L) (fun n x m w m' w' hn _ _ h => ⟨Nat.le_trans hn h.1, h.2⟩) ?_
    intro y a0 w1 hF
    obtain ⟨sb, hsb⟩ : ∃ b, b = y.b := ⟨_, rfl⟩
    obtain ⟨bM, hbM⟩ : ∃ b, b = y.c 0 := ⟨_, rfl⟩
    rw [← hsb, ← hbM] at hF
    have hbfr : w.heap.size ≤ bM := hF.kept.1
    replace hF := hF.withK (K' := shK bM L) hF.kept.2
    apply list_endB 2 hB T4_ok [9, 10, 5, 6, 7] [5, 6, 7, 200] [] hF
    case hex => intro A X; conv => lhs; cbv
    case hob =>
      intro X
      subst hB
      simp only [AllOb, Ob.holds, BE.den, List.mem_cons, List.not_mem_nil, or_false, forall_eq_or_imp, forall_eq] <;> (and_intros <;> first | trivial | rfl | (intro h; first | trivial | rfl))
    case hQ =>
    intro X3 a0 w1 hF
    refine wp_seq ?_
    refine wp_seq ?_
    apply region_okB hB T4_ok [37, 9, 10, 5, 6, 7] [5, 6, 7, 200] [] hF
    case hex => intro A X; conv => lhs; cbv
    case hob =>
      intro X
      subst hB
      simp only [AllOb, Ob.holds, BE.den, List.mem_cons, List.not_mem_nil, or_false, forall_eq_or_imp, forall_eq] <;> (and_intros <;> first | trivial | rfl | (intro h; first | trivial | rfl))
    case hQ =>
    intro X4 a0 w1 hF
    refine test_ff hF rfl (fun hF => ?_)
    refine wp_skip ?_
    refine wp_seq ?_
    refine wp_region_lit ?_
    apply list_preB 0 3 hB T4_ok [44, 46, 9, 5, 6, 7] [5, 6, 7, 200] [] hF
    case hex => intro A X; conv => lhs; cbv
    case hob =>
      intro X
      subst hB
      simp only [AllOb, Ob.holds, BE.den, List.mem_cons, List.not_mem_nil, or_false, forall_eq_or_imp, forall_eq] <;> (and_intros <;> first | trivial | rfl | (intro h; first | trivial | rfl))
    case hQ =>
    intro X6_0 a0 w1 hF
    have SD := do_m 200 sb bM L (by have := hok0.len; omega) 0 ⟨1, l, 0, zRA, ⟨0, false, .empty, none, 0, 0, fun _ => zeroItm, 0, false⟩⟩ (Nat.zero_le _) hLB hul ⟨Int.le_refl 0, show (0 : Int) < 18446744073709551616 by decide⟩
    obtain ⟨D1, hD1⟩ : ∃ D, D = doL L (WntA.abs ⟨1, l, 0, zRA, ⟨0, false, .empty, none, 0, 0, fun _ => zeroItm, 0, false⟩⟩) := ⟨_, rfl⟩
    rw [← hD1] at SD
    obtain ⟨GG1, hGG1⟩ : ∃ G : Atom → GotA, G = fun y => gotA y D1.got := ⟨_, rfl⟩
    have hGf1 : ∀ y, gotA y D1.got = GG1 y := fun y => by rw [hGG1]
    simp only [hGf1] at SD
    obtain ⟨k1, hk1⟩ : ∃ z, z = (if D1.wrote then IntKind.i64.wrap (0 + 1) else 0) := ⟨_, rfl⟩
    rw [← hk1] at SD
    obtain ⟨er1, her1⟩ : ∃ z, z = D1.err := ⟨_, rfl⟩
    rw [← her1] at SD
    obtain ⟨L1, hL1⟩ : ∃ z, z = D1.L := ⟨_, rfl⟩
    rw [← hL1] at SD
    refine man_callM rfl rfl rfl rfl hF rfl rfl enters12 SD (fun _ _ h => h) (fun b hb => by cases hb; exact fun h => absurd h (Nat.not_lt.2 hbfr)) ⟨Sim.refl _, Sim.agg (by repeat (first | exact trivial | refine ⟨Sim.refl _, ?_⟩ | refine ⟨Sim.ff, ?_⟩ | refine ⟨Sim.recell (fun i hi => absurd hi (Nat.not_lt_zero _)), ?_⟩)), trivial⟩ (by intro e he; simp only [List.mem_singleton] at he; subst he; rfl) rfl rfl (fun _ => shK bM L1) (fun _ _ _ _ _ _ _ _ _ h => h) ?_
    intro y a0 w1 hF
    obtain ⟨g1, hg1⟩ : ∃ g, g = GG1 y := ⟨_, rfl⟩
    rw [← hg1] at hF
    replace hF := hF.withK (K' := shK bM L1) hF.kept
    have hga1 : g1.abs = D1.got := by rw [hg1, ← hGf1, gotA_abs]
    have hok1 : ShfOk L1 := by rw [hL1, hD1]; exact doL_ok hok0 hLB
    apply list_endB 4 hB T4_ok [9, 5, 6, 7, 11, 12] [5, 6, 7, 200, 11] [] hF
    case hex => intro A X; conv => lhs; cbv
    case hob =>
      intro X
      subst hB
      simp only [AllOb, Ob.holds, BE.den, List.mem_cons, List.not_mem_nil, or_false, forall_eq_or_imp, forall_eq] <;> (and_intros <;> first | trivial | rfl | (intro h; first | trivial | rfl))
    case hQ =>
    intro X6 a0 w1 hF
    refine wp_seq ?_
    refine wp_region_lit ?_
    apply list_preB 0 6 hB T4_ok [51, 56, 9, 5, 6, 7, 11, 12] [5, 6, 7, 200, 11] [] hF
    case hex => intro A X; conv => lhs; cbv
    case hob =>
      intro X
      subst hB
      simp only [AllOb, Ob.holds, BE.den, List.mem_cons, List.not_mem_nil, or_false, forall_eq_or_imp, forall_eq] <;> (and_intros <;> first | trivial | rfl | (intro h; first | trivial | rfl))
    case hQ =>
    intro X7_0 a0 w1 hF
    have SD := do_m 200 sb bM L1 (by have := hok1.len; omega) k1 ⟨2, l, g1.ver, a, ⟨0, false, .empty, none, 0, 0, fun _ => zeroItm, 0, false⟩⟩ (by simp only; omega) hLB hul hua
    obtain ⟨D2, hD2⟩ : ∃ D, D = doL L1 (WntA.abs ⟨2, l, g1.ver, a, ⟨0, false, .empty, none, 0, 0, fun _ => zeroItm, 0, false⟩⟩) := ⟨_, rfl⟩
    rw [← hD2] at SD
    obtain ⟨GG2, hGG2⟩ : ∃ G : Atom → GotA, G = fun y => gotA y D2.got := ⟨_, rfl⟩
    have hGf2 : ∀ y, gotA y D2.got = GG2 y := fun y => by rw [hGG2]
    simp only [hGf2] at SD
    obtain ⟨k2, hk2⟩ : ∃ z, z = (if D2.wrote then IntKind.i64.wrap (k1 + 1) else k1) := ⟨_, rfl⟩
    rw [← hk2] at SD
    obtain ⟨er2, her2⟩ : ∃ z, z = D2.err := ⟨_, rfl⟩
    rw [← her2] at SD
    obtain ⟨L2, hL2⟩ : ∃ z, z = D2.L := ⟨_, rfl⟩
    rw [← hL2] at SD
    refine man_callM rfl rfl rfl rfl hF rfl rfl enters12 SD (fun _ _ h => h) (fun b hb => by cases hb; exact fun h => absurd h (Nat.not_lt.2 hbfr)) ⟨Sim.refl _, Sim.agg (by repeat (first | exact trivial | refine ⟨Sim.refl _, ?_⟩ | refine ⟨Sim.ff, ?_⟩ | refine ⟨Sim.recell (fun i hi => absurd hi (Nat.not_lt_zero _)), ?_⟩)), trivial⟩ (by intro e he; simp only [List.mem_singleton] at he; subst he; rfl) rfl rfl (fun _ => shK bM L2) (fun _ _ _ _ _ _ _ _ _ h => h) ?_
    intro y a0 w1 hF
    obtain ⟨g2, hg2⟩ : ∃ g, g = GG2 y := ⟨_, rfl⟩
    rw [← hg2] at hF
    replace hF := hF.withK (K' := shK bM L2) hF.kept
    have hga2 : g2.abs = D2.got := by rw [hg2, ← hGf2, gotA_abs]
    have hok2 : ShfOk L2 := by rw [hL2, hD2]; exact doL_ok hok1 hLB
    apply list_endB 7 hB T4_ok [9, 5, 6, 7, 11, 12, 13, 14] [5, 6, 7, 200, 11, 13] [] hF
    case hex => intro A X; conv => lhs; cbv
    case hob =>
      intro X
      subst hB
      simp only [AllOb, Ob.holds, BE.den, List.mem_cons, List.not_mem_nil, or_false, forall_eq_or_imp, forall_eq] <;> (and_intros <;> first | trivial | rfl | (intro h; first | trivial | rfl))
    case hQ =>
    intro X7 a0 w1 hF
    have SW := writes_r (shK bM L2) 200 sb bM k2
    refine wp_seq ?_
    refine wp_seq ?_
    apply region_okB hB T4_ok [65, 9, 5, 6, 7, 11, 12, 13, 14] [5, 6, 7, 200, 11, 13] [] hF
    case hex => intro A X; conv => lhs; cbv
    case hob =>
      intro X
      subst hB
      simp only [AllOb, Ob.holds, BE.den, List.mem_cons, List.not_mem_nil, or_false, forall_eq_or_imp, forall_eq] <;> (and_intros <;> first | trivial | rfl | (intro h; first | trivial | rfl))
    case hQ =>
    intro X8 a0 w1 hF
    refine test_ok hF rfl (fun hb hF => ?_) (fun hb hF => ?_)
    · skip
      have her : er1 ≠ 0 ∨ er2 ≠ 0 := by
        have h9 : (if (er1 != 0) = true then true else (er2 != 0)) = true := by subst hB; exact hb
        by_cases h1 : er1 = 0
        · rw [if_neg (by simp [h1])] at h9; exact .inr (by simpa using h9)
        · exact .inl h1
      have hz1 := once12 hD1 hD2 hL1 her1 her2 her
      have hk0 : k2 = 0 := by rw [hk2, hz1.2, hk1, hz1.1]; rfl
      refine wp_seq ?_
      apply region_okB hB T4_ok [8] [] [(0, .r fun _ => .bool .tt), (3, .g [200] fun _ => .int .i64 k2)] hF
      case hex => intro A X; conv => lhs; cbv
      case hob =>
        intro X
        subst hB
        simp only [AllOb, Ob.holds, BE.den, List.mem_cons, List.not_mem_nil, or_false, forall_eq_or_imp, forall_eq] <;> (and_intros <;> first | trivial | rfl | exact enters16 | exact shelved_s | exact enters15 | exact SW | (intro h; first | trivial | rfl | exact ⟨enters16, shelved_s⟩ | exact ⟨enters15, SW⟩))
      case hQ =>
      intro X9 a0 w1 hF
      refine wp_ret ?_
      refine ret_sim (fn := Try.f4) T4_ok hF (rs := [.tmp 8]) rfl (rfl) ?_ noAtom ?_
      · simp [AllOb, Ob.holds]
      · subst hB
        refine Sim.bool ?_
        simp [std, stdCmp, BE.den, canB, hk0]
    · skip
      have her : er1 = 0 ∧ er2 = 0 := by
        have h9 : (if (er1 != 0) = true then true else (er2 != 0)) = false := by subst hB; exact hb
        by_cases h1 : er1 = 0
        · rw [if_neg (by simp [h1])] at h9; exact ⟨h1, by simpa using h9⟩
        · rw [if_pos (by simpa using h1)] at h9; cases h9
      refine wp_skip ?_
      refine wp_seq ?_
      refine wp_region_lit ?_
      apply list_preB 0 6 hB T4_ok [73, 78, 9, 5, 6, 7, 11, 13] [5, 6, 7, 200, 11, 13] [] hF
      case hex => intro A X; conv => lhs; cbv
      case hob =>
        intro X
        subst hB
        simp only [AllOb, Ob.holds, BE.den, List.mem_cons, List.not_mem_nil, or_false, forall_eq_or_imp, forall_eq] <;> (and_intros <;> first | trivial | rfl | (intro h; first | trivial | rfl))
      case hQ =>
      intro X10_0 a0 w1 hF
      have SD := do_m 200 sb bM L2 (by have := hok2.len; omega) k2 ⟨2, l, g1.ver, b, ⟨0, false, .empty, none, 0, 0, fun _ => zeroItm, 0, false⟩⟩ (by simp only; omega) hLB hul hub
      obtain ⟨D3, hD3⟩ : ∃ D, D = doL L2 (WntA.abs ⟨2, l, g1.ver, b, ⟨0, false, .empty, none, 0, 0, fun _ => zeroItm, 0, false⟩⟩) := ⟨_, rfl⟩
      rw [← hD3] at SD
      obtain ⟨GG3, hGG3⟩ : ∃ G : Atom → GotA, G = fun y => gotA y D3.got := ⟨_, rfl⟩
      have hGf3 : ∀ y, gotA y D3.got = GG3 y := fun y => by rw [hGG3]
      simp only [hGf3] at SD
      obtain ⟨k3, hk3⟩ : ∃ z, z = (if D3.wrote then IntKind.i64.wrap (k2 + 1) else k2) := ⟨_, rfl⟩
      rw [← hk3] at SD
      obtain ⟨er3, her3⟩ : ∃ z, z = D3.err := ⟨_, rfl⟩
      rw [← her3] at SD
      obtain ⟨L3, hL3⟩ : ∃ z, z = D3.L := ⟨_, rfl⟩
      rw [← hL3] at SD
      refine man_callM rfl rfl rfl rfl hF rfl rfl enters12 SD (fun _ _ h => h) (fun b hb => by cases hb; exact fun h => absurd h (Nat.not_lt.2 hbfr)) ⟨Sim.refl _, Sim.agg (by repeat (first | exact trivial | refine ⟨Sim.refl _, ?_⟩ | refine ⟨Sim.ff, ?_⟩ | refine ⟨Sim.recell (fun i hi => absurd hi (Nat.not_lt_zero _)), ?_⟩)), trivial⟩ (by intro e he; simp only [List.mem_singleton] at he; subst he; rfl) rfl rfl (fun _ => shK bM L3) (fun _ _ _ _ _ _ _ _ _ h => h) ?_
      intro y a0 w1 hF
      obtain ⟨g3, hg3⟩ : ∃ g, g = GG3 y := ⟨_, rfl⟩
      rw [← hg3] at hF
      replace hF := hF.withK (K' := shK bM L3) hF.kept
      have hga3 : g3.abs = D3.got := by rw [hg3, ← hGf3, gotA_abs]
      have hok3 : ShfOk L3 := by rw [hL3, hD3]; exact doL_ok hok2 hLB
      apply list_endB 7 hB T4_ok [9, 5, 6, 7, 11, 13, 15, 16] [5, 6, 7, 200, 11, 13, 15] [] hF
      case hex => intro A X; conv => lhs; cbv
      case hob =>
        intro X
        subst hB
        simp only [AllOb, Ob.holds, BE.den, List.mem_cons, List.not_mem_nil, or_false, forall_eq_or_imp, forall_eq] <;> (and_intros <;> first | trivial | rfl | (intro h; first | trivial | rfl))
      case hQ =>
      intro X10 a0 w1 hF
      refine wp_seq ?_
      refine wp_region_lit ?_
      apply list_preB 0 5 hB T4_ok [83, 87, 9, 5, 6, 11, 13, 15, 16] [5, 6, 200, 11, 13, 15] [] hF
      case hex => intro A X; conv => lhs; cbv
      case hob =>
        intro X
        subst hB
        simp only [AllOb, Ob.holds, BE.den, List.mem_cons, List.not_mem_nil, or_false, forall_eq_or_imp, forall_eq] <;> (and_intros <;> first | trivial | rfl | (intro h; first | trivial | rfl))
      case hQ =>
      intro X11_0 a0 w1 hF
      have SD := do_m 200 sb bM L3 (by have := hok3.len; omega) k3 ⟨3, l, g1.ver, zRA, ⟨0, false, .empty, none, 0, 0, fun _ => zeroItm, 0, false⟩⟩ (Nat.zero_le _) hLB hul ⟨Int.le_refl 0, show (0 : Int) < 18446744073709551616 by decide⟩
      obtain ⟨D4, hD4⟩ : ∃ D, D = doL L3 (WntA.abs ⟨3, l, g1.ver, zRA, ⟨0, false, .empty, none, 0, 0, fun _ => zeroItm, 0, false⟩⟩) := ⟨_, rfl⟩
      rw [← hD4] at SD
      obtain ⟨GG4, hGG4⟩ : ∃ G : Atom → GotA, G = fun y => gotA y D4.got := ⟨_, rfl⟩
      have hGf4 : ∀ y, gotA y D4.got = GG4 y := fun y => by rw [hGG4]
      simp only [hGf4] at SD
      obtain ⟨k4, hk4⟩ : ∃ z, z = (if D4.wrote then IntKind.i64.wrap (k3 + 1) else k3) := ⟨_, rfl⟩
      rw [← hk4] at SD
      obtain ⟨er4, her4⟩ : ∃ z, z = D4.err := ⟨_, rfl⟩
      rw [← her4] at SD
      obtain ⟨L4, hL4⟩ : ∃ z, z = D4.L := ⟨_, rfl⟩
      rw [← hL4] at SD
      refine man_callM rfl rfl rfl rfl hF rfl rfl enters12 SD (fun _ _ h => h) (fun b hb => by cases hb; exact fun h => absurd h (Nat.not_lt.2 hbfr)) ⟨Sim.refl _, Sim.agg (by repeat (first | exact trivial | refine ⟨Sim.refl _, ?_⟩ | refine ⟨Sim.ff, ?_⟩ | refine ⟨Sim.recell (fun i hi => absurd hi (Nat.not_lt_zero _)), ?_⟩)), trivial⟩ (by intro e he; simp only [List.mem_singleton] at he; subst he; rfl) rfl rfl (fun _ => shK bM L4) (fun _ _ _ _ _ _ _ _ _ h => h) ?_
      intro y a0 w1 hF
      obtain ⟨g4, hg4⟩ : ∃ g, g = GG4 y := ⟨_, rfl⟩
      rw [← hg4] at hF
      replace hF := hF.withK (K' := shK bM L4) hF.kept
      have hga4 : g4.abs = D4.got := by rw [hg4, ← hGf4, gotA_abs]
      have hok4 : ShfOk L4 := by rw [hL4, hD4]; exact doL_ok hok3 hLB
      apply list_endB 6 hB T4_ok [9, 5, 6, 11, 13, 15, 16, 17, 18] [5, 6, 200, 11, 13, 15, 17] [] hF
      case hex => intro A X; conv => lhs; cbv
      case hob =>
        intro X
        subst hB
        simp only [AllOb, Ob.holds, BE.den, List.mem_cons, List.not_mem_nil, or_false, forall_eq_or_imp, forall_eq] <;> (and_intros <;> first | trivial | rfl | (intro h; first | trivial | rfl))
      case hQ =>
      intro X11 a0 w1 hF
      refine wp_seq ?_
      refine wp_region_lit ?_
      apply list_preB 0 3 hB T4_ok [92, 94, 9, 6, 11, 13, 15, 16, 17, 18] [6, 200, 11, 13, 15, 17] [] hF
      case hex => intro A X; conv => lhs; cbv
      case hob =>
        intro X
        subst hB
        simp only [AllOb, Ob.holds, BE.den, List.mem_cons, List.not_mem_nil, or_false, forall_eq_or_imp, forall_eq] <;> (and_intros <;> first | trivial | rfl | (intro h; first | trivial | rfl))
      case hQ =>
      intro X12_0 a0 w1 hF
      have SD := do_m 200 sb bM L4 (by have := hok4.len; omega) k4 ⟨1, l, 0, zRA, ⟨0, false, .empty, none, 0, 0, fun _ => zeroItm, 0, false⟩⟩ (Nat.zero_le _) hLB hul ⟨Int.le_refl 0, show (0 : Int) < 18446744073709551616 by decide⟩
      obtain ⟨D5, hD5⟩ : ∃ D, D = doL L4 (WntA.abs ⟨1, l, 0, zRA, ⟨0, false, .empty, none, 0, 0, fun _ => zeroItm, 0, false⟩⟩) := ⟨_, rfl⟩
      rw [← hD5] at SD
      obtain ⟨GG5, hGG5⟩ : ∃ G : Atom → GotA, G = fun y => gotA y D5.got := ⟨_, rfl⟩
      have hGf5 : ∀ y, gotA y D5.got = GG5 y := fun y => by rw [hGG5]
      simp only [hGf5] at SD
      obtain ⟨k5, hk5⟩ : ∃ z, z = (if D5.wrote then IntKind.i64.wrap (k4 + 1) else k4) := ⟨_, rfl⟩
      rw [← hk5] at SD
      obtain ⟨er5, her5⟩ : ∃ z, z = D5.err := ⟨_, rfl⟩
      rw [← her5] at SD
      obtain ⟨L5, hL5⟩ : ∃ z, z = D5.L := ⟨_, rfl⟩
      rw [← hL5] at SD
      refine man_callM rfl rfl rfl rfl hF rfl rfl enters12 SD (fun _ _ h => h) (fun b hb => by cases hb; exact fun h => absurd h (Nat.not_lt.2 hbfr)) ⟨Sim.refl _, Sim.agg (by repeat (first | exact trivial | refine ⟨Sim.refl _, ?_⟩ | refine ⟨Sim.ff, ?_⟩ | refine ⟨Sim.recell (fun i hi => absurd hi (Nat.not_lt_zero _)), ?_⟩)), trivial⟩ (by intro e he; simp only [List.mem_singleton] at he; subst he; rfl) rfl rfl (fun _ => shK bM L5) (fun _ _ _ _ _ _ _ _ _ h => h) ?_
      intro y a0 w1 hF
      obtain ⟨g5, hg5⟩ : ∃ g, g = GG5 y := ⟨_, rfl⟩
      rw [← hg5] at hF
      replace hF := hF.withK (K' := shK bM L5) hF.kept
      have hga5 : g5.abs = D5.got := by rw [hg5, ← hGf5, gotA_abs]
      skip
      apply list_endB 4 hB T4_ok [9, 6, 11, 13, 15, 16, 17, 18, 19, 20] [6, 200, 11, 13, 15, 17, 19] [] hF
      case hex => intro A X; conv => lhs; cbv
      case hob =>
        intro X
        subst hB
        simp only [AllOb, Ob.holds, BE.den, List.mem_cons, List.not_mem_nil, or_false, forall_eq_or_imp, forall_eq] <;> (and_intros <;> first | trivial | rfl | (intro h; first | trivial | rfl))
      case hQ =>
      intro X12 a0 w1 hF
      have hg5 : g5.x.r.n ≤ maxLen := got_len ((hF.mem 19 _ rfl).2.1 (.sl none g5.x.A g5.x.r.n g5.x.c 2 (fun i => itC (g5.x.r.f i))) (by simp)).2
      have SS := same_s g5.x.A g5.x.r.n g5.x.c g5.x.r.f hg5 g5.x.r.kd g5.x.r.nx g5.x.r.mrk a.A a.r.n a.c a.r.f a.r.kd a.r.nx a.r.mrk
      rw [sameR_abs] at SS
      simp only [recI, rowI] at SS
      obtain ⟨sm, hsm⟩ : ∃ q, q = decide (g5.x.r.abs = a.r.abs) := ⟨_, rfl⟩
      rw [← hsm] at SS
      have SW := writes_r (shK bM L5) 200 sb bM k5
      refine wp_seq ?_
      apply region_okB hB T4_ok [8] [] [(0, .r fun _ => .bool .tt), (51, .r fun _ => .bool (.v sm)), (55, .g [200] fun _ => .int .i64 k5)] hF
      case hex => intro A X; conv => lhs; cbv
      case hob =>
        intro X
        subst hB
        simp only [AllOb, Ob.holds, BE.den, List.mem_cons, List.not_mem_nil, or_false, forall_eq_or_imp, forall_eq] <;> (and_intros <;> first | trivial | rfl | exact enters16 | exact shelved_s | exact enters15 | exact SW | exact enters21 | exact SS | (intro h; first | trivial | rfl | exact ⟨enters16, shelved_s⟩ | exact ⟨enters15, SW⟩ | exact ⟨enters21, SS⟩))
      case hQ =>
      intro X13 a0 w1 hF
      refine wp_ret ?_
      refine ret_sim (fn := Try.f4) T4_ok hF (rs := [.tmp 8]) rfl (rfl) ?_ noAtom ?_
      · simp [AllOb, Ob.holds]
      · subst hB
        have gv : g1.ver = D1.got.ver := congrArg Got.ver hga1
        have H : OnceL l a.r.abs b.r.abs L D1 D2 D3 D4 D5 := once_law hD1 gv (hL1 ▸ hD2) (hL2 ▸ hD3) (hL3 ▸ hD4) (hL4 ▸ hD5)
        obtain ⟨i1, i2⟩ := her
        have j1 : D1.err = 0 := by rw [← her1]; exact i1
        have j2 : D2.err = 0 := by rw [← her2]; exact i2
        have e1 := H.w1
        have e2 := H.w2 j1 j2
        obtain ⟨e3, e4⟩ := H.c2 j1 j2
        obtain ⟨e5, e6⟩ := H.c3 j1 j2
        obtain ⟨e7, e8, e9⟩ := H.c4 j1 j2
        obtain ⟨e10, e11, e12, e13, e14⟩ := H.c5 j1 j2
        have c1 : g2.code = 0 := (congrArg Got.code hga2).trans e3
        have c2 : g2.ver = inc g1.ver := ((congrArg Got.ver hga2).trans e4).trans (by rw [gv])
        have c3 : er3 = 0 → g3.code = 8 := fun h => (congrArg Got.code hga3).trans (e6 (by rw [← her3]; exact h))
        have c4 : er4 = 0 := her4.trans e8
        have c5 : g4.code = 8 := (congrArg Got.code hga4).trans e9
        have c6 : er5 = 0 := her5.trans e11
        have c7 : g5.has = true := (congrArg Got.has hga5).trans e12
        have c8 : g5.ver = g2.ver := ((congrArg Got.ver hga5).trans e13).trans (congrArg Got.ver hga2).symm
        have c9 : sm = true := by rw [hsm]; exact decide_eq_true ((congrArg Got.r hga5).trans e14)
        have f1 : k1 = 0 := by rw [hk1, e1]; rfl
        have f2 : k2 = 1 := by rw [hk2, e2, f1]; rfl
        have f3 : k5 = 1 := by rw [hk5, e10, hk4, e7, hk3, e5]; exact f2
        refine Sim.bool ?_
        have c10 : g2.ver = IntKind.u64.wrap (g1.ver + 1) := c2
        have c11 : (¬ er3 = 0) ∨ g3.code = 8 := by
          by_cases h : er3 = 0
          · exact .inr (c3 h)
          · exact .inl h
        rcases c11 with c11 | c11 <;> simp [std, stdCmp, stdArith, BE.den, canB, c1, c10, c4, c5, c6, c7, c8, c9, c11, f3]
end Go.Proofs.Ythpbihppfijegaa.Sym

namespace Go.Proofs.Ythpbihppfijegaa.Sym
open Go Go.RowKit
set_option maxRecDepth 100000
set_option maxHeartbeats 1600000
set_option linter.unusedVariables false
set_option linter.unusedSimpArgs false
def T13 : List (Nat × TI) := [(3, ti3), (4, ti4), (27, ti27), (30, ti30), (33, ti33), (36, ti36), (38, ti38), (40, ti40), (46, ti46), (49, ti49), (51, ti51), (61, ti61), (78, ti78)]
theorem T13_ok : TabOK Try.prog T13 := .cons t3 (.cons t4 (.cons t27 (.cons t30 (.cons t33 (.cons t36 (.cons t38 (.cons t40 (.cons t46 (.cons t49 (.cons t51 (.cons t61 (.cons t78 (.nil)))))))))))))
theorem enters13 : Enters Try.prog 13 := fun _ _ => by kernel_rfl
theorem rdo_x0 (b : Nat) (A : Option Addr) (n c : Nat) (g : Nat → SpA) (hn : n ≤ 100000) (wr : Int) (hris : Rises (shfA g n)) (q : WntA) (hwn : q.x.r.n ≤ 1000000) (hwb : U64 q.lab.bits) (hwx : U64 q.x.r.nx.bits) : SpecX Try.prog 13 [.ptr 0 b 0, wntV q] [(0, ⟨b, 51, [spsV A n c g, .int .i64 wr]⟩)] (fun y => ⟨.tup [gotV (gotA y (doL (shfA g n) q.abs).got), .int .i64 (doL (shfA g n) q.abs).err], [(0, [spsV (y.A 0) (doL (shfA g n) q.abs).L.length (y.c 0) (spAt y (doL (shfA g n) q.abs).L), .int .i64 (if (doL (shfA g n) q.abs).wrote then IntKind.i64.wrap (wr + 1) else wr)])], []⟩) := by
  intro m w hm hargs hpre
  have hmx : maxLen = 9223372036854775807 := rfl
  have S1 := risL_s q.lab hwb
  have S2 := risR_s q.x.A q.x.r.n q.x.c q.x.r.f (by omega) q.x.r.kd q.x.r.nx q.x.r.mrk hwx
  rw [← isR_abs] at S2
  have S3 := rat_x0 b A n c g hn wr q.lab
  simp only [labAV, recI, rowI] at S1 S2 S3
  obtain ⟨il, hil⟩ : ∃ x, x = isL q.lab := ⟨_, rfl⟩
  obtain ⟨ir, hir⟩ : ∃ x, x = isR q.x.r.abs := ⟨_, rfl⟩
  rw [← hil] at S1
  rw [← hir] at S2
  have hfi := hit_find (l := q.lab) hris
  have hpt := pos_hit (l := q.lab) hris
  obtain ⟨hh, hhh⟩ : ∃ h, h = hitL q.lab (shfA g n) := ⟨_, rfl⟩
  obtain ⟨p, hp⟩ : ∃ p, p = posL q.lab (shfA g n) := ⟨_, rfl⟩
  rw [← hhh, ← hp] at S3
  rw [← hhh] at hfi
  obtain ⟨D, hD⟩ : ∃ D, D = (doL (shfA g n) q.abs) := ⟨_, rfl⟩
  rw [← hD]
  have hat : hh = true → p < n ∧ findL q.lab (shfA g n) = some ⟨(g p).w.ver, (g p).has, (g p).w.x.r.abs⟩ := fun h1 => by
    rw [h1] at hhh
    have hx := hhh.symm
    unfold hitL at hx
    rw [← hp] at hx
    cases hg : (shfA g n)[p]? with
    | none => rw [hg] at hx; cases hx
    | some qq =>
      have hlt := (List.getElem?_eq_some_iff.1 hg).1
      rw [listA_len] at hlt
      have h2 := hpt.1 qq (by rw [← hp]; exact hg)
      rw [hg] at hx
      have h3 : qq.1 = q.lab := by simpa using hx
      rw [if_pos h3] at h2
      rw [listA_get _ _ hlt] at hg
      injection hg with hg
      refine ⟨hlt, ?_⟩
      rw [h2, ← hg]; rfl
  refine enterX hm hpre hargs Try.func13 rfl (by simp [Try.ntmps13]) fun a0 hF => ?_
  simp only [Try.ntmps13, startT] at hF
  obtain ⟨B, hB⟩ : ∃ B, B = std := ⟨_, rfl⟩
  refine wp_seq ?_
  apply region_okB hB T13_ok [0, 3, 4] [0, 3, 4] [] hF
  case hex => intro A X; conv => lhs; cbv
  case hob =>
    intro X
    subst hB
    simp [AllOb, Ob.holds, BE.den, std, stdCmp, stdArith] <;> omega
  case hQ =>
  intro X0 a0 w1 hF
  refine wp_seq ?_
  refine wp_seq ?_
  apply region_okB hB T13_ok [34, 0, 3, 4] [0, 3, 4] [(11, .r fun _ => .bool (.v il)), (21, .r fun _ => .bool (.v ir))] hF
  case hex => intro A X; conv => lhs; cbv
  case hob =>
    intro X
    subst hB
    simp only [AllOb, Ob.holds, BE.den, List.mem_cons, List.not_mem_nil, or_false, forall_eq_or_imp, forall_eq] <;> (and_intros <;> first | trivial | rfl | (intro h; first | trivial | rfl | exact ⟨enters28, S1⟩ | exact ⟨enters29, S2⟩))
  case hQ =>
  intro X1 a0 w1 hF
  refine test_ok hF rfl (fun hb hF => ?_) (fun hb hF => ?_)
  · skip
    have h9 : (if (if (if decide (q.kind < 1) = true then true else decide (3 < q.kind)) = true then true else !il) = true then true else (if (q.kind == 2) = true then !ir else false)) = true := by subst hB; exact hb
    have hbad : ¬ ((q.kind = 1 ∨ q.kind = 2 ∨ q.kind = 3) ∧ isL q.lab = true ∧ (q.kind = 2 → isR q.x.r.abs = true)) := by rw [← hil, ← hir]; clear S1 S2 S3; grind
    have hW : D = ⟨shfA g n, false, zeroGot, 1⟩ := by rw [hD]; exact if_neg hbad
    refine wp_seq ?_
    apply region_okB hB T13_ok [5, 4] [4, 0] [] hF
    case hex => intro A X; conv => lhs; cbv
    case hob =>
      intro X
      subst hB
      simp only [AllOb, Ob.holds, BE.den, List.mem_cons, List.not_mem_nil, or_false, forall_eq_or_imp, forall_eq] <;> (and_intros <;> first | trivial | rfl | (intro h; first | trivial | rfl))
    case hQ =>
    intro X2 a0 w1 hF
    refine wp_ret ?_
    refine (ret_x (fn := Try.f13) T13_ok hF (rs := [.cell 4 40, .tmp 5]) rfl (by conv => lhs; cbv) ?_ (spY A c g none 0 0) [] ?_ ?_ ?_).1
    · subst hB; simp [AllOb, Ob.holds]
    · subst hB; simp only [hW]
      refine Sim.tup ⟨Sim.agg ?_, Sim.refl _, trivial⟩
      exact ⟨Sim.refl _, Sim.refl _, Sim.refl _, Sim.refl _, Sim.recell (fun i hi => absurd hi (Nat.not_lt_zero _)), Sim.refl _, Sim.refl _, Sim.refl _, trivial⟩
    · subst hB; simp only [hW]; exact ⟨rfl, ⟨_, rfl, ⟨sps_sim rfl, Sim.refl _, trivial⟩⟩, trivial⟩
    · exact trivial
  · skip
    have h9 : (if (if (if decide (q.kind < 1) = true then true else decide (3 < q.kind)) = true then true else !il) = true then true else (if (q.kind == 2) = true then !ir else false)) = false := by subst hB; exact hb
    have hgd : ((q.kind = 1 ∨ q.kind = 2 ∨ q.kind = 3) ∧ isL q.lab = true ∧ (q.kind = 2 → isR q.x.r.abs = true)) := by rw [← hil, ← hir]; clear S1 S2 S3; grind
    refine wp_skip ?_
    refine wp_seq ?_
    apply region_okB hB T13_ok [7, 6, 0, 3, 4] [0, 3, 4] [(3, .x fun _ => ⟨.tup [.int .i64 (p : Int), .bool (.v hh)], [(0, [.sl none A n c 9 (fun i => spC (g i)), .int .i64 wr])], []⟩)] hF
    case hex => intro A X; conv => lhs; cbv
    case hob =>
      intro X
      subst hB
      simp only [AllOb, Ob.holds, BE.den, List.mem_cons, List.not_mem_nil, or_false, forall_eq_or_imp, forall_eq] <;> (and_intros <;> first | trivial | rfl | exact enters27 | exact S3 | exact ⟨enters27, S3⟩ | (intro h; first | trivial | rfl | exact enters27 | exact S3 | exact ⟨enters27, S3⟩))
    case hQ =>
    intro X3 a0 w1 hF
    refine wp_seq ?_
    apply region_okB hB T13_ok [7, 8, 6, 0, 3, 4] [8, 0, 3, 4] [] hF
    case hex => intro A X; conv => lhs; cbv
    case hob =>
      intro X
      subst hB
      simp only [AllOb, Ob.holds, BE.den, List.mem_cons, List.not_mem_nil, or_false, forall_eq_or_imp, forall_eq] <;> (and_intros <;> first | trivial | rfl | (intro h; first | trivial | rfl))
    case hQ =>
    intro X4 a0 w1 hF
    refine wp_seq ?_
    refine wp_seq ?_
    apply region_okB hB T13_ok [43, 7, 8, 6, 0, 3, 4] [8, 0, 3, 4] [] hF
    case hex => intro A X; conv => lhs; cbv
    case hob =>
      intro X
      subst hB
      simp only [AllOb, Ob.holds, BE.den, List.mem_cons, List.not_mem_nil, or_false, forall_eq_or_imp, forall_eq] <;> (and_intros <;> first | trivial | rfl | (intro h; first | trivial | rfl))
    case hQ =>
    intro X5 a0 w1 hF
    refine cut_one (ι := SpA) (S0 := [(43, _)]) (M0 := [(8, _)]) (G0 := []) (fun x => []) (fun x => [(8, ⟨(X4 0).b, 78, spC x⟩)]) (fun x => []) (fun x => (spotOf (shfA g n) q.lab) = ⟨x.w.ver, x.has, x.w.x.r.abs⟩) hF ?_ ?_
    · skip
      refine test_ok hF rfl (fun hb hF => ?_) (fun hb hF => ?_)
      · skip
        have hh1 : hh = true := hb
        obtain ⟨hpn, hfd⟩ := hat hh1
        have hspo : (spotOf (shfA g n) q.lab) = ⟨(g p).w.ver, (g p).has, (g p).w.x.r.abs⟩ := by unfold spotOf; rw [hfd]; rfl
        apply region_okB hB T13_ok [7, 8, 6, 0, 3, 4] [8, 0, 3, 4] [] hF
        case hex => intro A X; conv => lhs; cbv
        case hob =>
          intro X
          subst hB
          simp only [AllOb, Ob.holds, BE.den, List.mem_cons, List.not_mem_nil, or_false, forall_eq_or_imp, forall_eq] <;> (and_intros <;> first | trivial | rfl | exact Int.natCast_nonneg _ | exact (show (p : Int) < (n : Int) by omega) | (intro h; first | trivial | rfl | exact Int.natCast_nonneg _ | exact (show (p : Int) < (n : Int) by omega)))
        case hQ =>
        intro X6 a0 w1 hF
        exact ⟨g (B.toNat (p : Int)), (by subst hB; exact hspo), hF⟩
      · skip
        have hh0 : hh = false := hb
        have hspo : (spotOf (shfA g n) q.lab) = zeroSpo := by
          unfold spotOf
          rw [hh0] at hfi
          cases hf : findL q.lab (shfA g n) with
          | none => rfl
          | some x => rw [hf] at hfi; cases hfi
        refine wp_skip ?_
        exact ⟨zSp, hspo, hF.memS ⟨Sim.refl _, Sim.refl _, Sim.refl _, Sim.refl _, Sim.recell (fun i hi => absurd hi (Nat.not_lt_zero _)), Sim.refl _, Sim.refl _, Sim.refl _, Sim.ff, trivial⟩⟩
    · rintro x hx a0 w1 hF
      try dsimp only at hx
      refine wp_seq ?_
      refine wp_seq ?_
      apply region_okB hB T13_ok [53, 7, 8, 0, 3, 4] [8, 0, 3, 4] [] hF
      case hex => intro A X; conv => lhs; cbv
      case hob =>
        intro X
        subst hB
        simp only [AllOb, Ob.holds, BE.den, List.mem_cons, List.not_mem_nil, or_false, forall_eq_or_imp, forall_eq] <;> (and_intros <;> first | trivial | rfl | (intro h; first | trivial | rfl))
      case hQ =>
      intro X7 a0 w1 hF
      refine test_ok hF rfl (fun hb hF => ?_) (fun hb hF => ?_)
      · skip
        have hk : q.kind = 1 := by subst hB; simpa [std, stdCmp] using hb
        have hW : D = ⟨shfA g n, false, ⟨0, x.w.ver, x.has, x.w.x.r.abs⟩, 0⟩ := by rw [hD]; refine (if_pos hgd).trans ?_; show (if q.kind = 1 then _ else _) = _; rw [if_pos hk]; show Did.mk _ _ ⟨0, (spotOf (shfA g n) q.lab).ver, (spotOf (shfA g n) q.lab).has, (spotOf (shfA g n) q.lab).r⟩ 0 = _; rw [hx]
        refine wp_seq ?_
        apply region_okB hB T13_ok [4, 5] [4, 0] [] hF
        case hex => intro A X; conv => lhs; cbv
        case hob =>
          intro X
          subst hB
          simp only [AllOb, Ob.holds, BE.den, List.mem_cons, List.not_mem_nil, or_false, forall_eq_or_imp, forall_eq] <;> (and_intros <;> first | trivial | rfl | (intro h; first | trivial | rfl))
        case hQ =>
        intro X8 a0 w1 hF
        refine wp_ret ?_
        refine (ret_x (fn := Try.f13) T13_ok hF (rs := [.cell 4 40, .tmp 5]) rfl (by conv => lhs; cbv) ?_ (spY A c g x.w.x.A x.w.x.c 0) [] ?_ ?_ ?_).1
        · subst hB; simp [AllOb, Ob.holds]
        · subst hB; simp only [hW]
          refine Sim.tup ⟨Sim.agg ?_, Sim.refl _, trivial⟩
          exact (got_sim (v := ⟨0, x.w.ver, x.has, x.w.x⟩) rfl rfl rfl)
        · subst hB; simp only [hW]; exact ⟨rfl, ⟨_, rfl, ⟨sps_sim rfl, Sim.refl _, trivial⟩⟩, trivial⟩
        · exact trivial
      · skip
        have hk1 : ¬ q.kind = 1 := by subst hB; simpa [std, stdCmp] using hb
        refine wp_skip ?_
        refine wp_seq ?_
        refine wp_seq ?_
        apply region_okB hB T13_ok [68, 7, 8, 0, 3, 4] [8, 0, 3, 4] [] hF
        case hex => intro A X; conv => lhs; cbv
        case hob =>
          intro X
          subst hB
          simp only [AllOb, Ob.holds, BE.den, List.mem_cons, List.not_mem_nil, or_false, forall_eq_or_imp, forall_eq] <;> (and_intros <;> first | trivial | rfl | (intro h; first | trivial | rfl))
        case hQ =>
        intro X9 a0 w1 hF
        refine test_ok hF rfl (fun hb hF => ?_) (fun hb hF => ?_)
        · skip
          have hv : q.ver ≠ x.w.ver := by subst hB; simpa [std, stdCmp] using hb
          have hW : D = ⟨shfA g n, false, ⟨8, x.w.ver, false, zeroRec⟩, 0⟩ := by rw [hD]; refine (if_pos hgd).trans ?_; refine (if_neg hk1).trans ?_; refine (if_pos (show q.ver ≠ (spotOf (shfA g n) q.lab).ver by rw [hx]; exact hv)).trans ?_; show Did.mk _ _ ⟨8, (spotOf (shfA g n) q.lab).ver, _, _⟩ 0 = _; rw [hx]
          refine wp_seq ?_
          apply region_okB hB T13_ok [4, 5] [4, 0] [] hF
          case hex => intro A X; conv => lhs; cbv
          case hob =>
            intro X
            subst hB
            simp only [AllOb, Ob.holds, BE.den, List.mem_cons, List.not_mem_nil, or_false, forall_eq_or_imp, forall_eq] <;> (and_intros <;> first | trivial | rfl | (intro h; first | trivial | rfl))
          case hQ =>
          intro X10 a0 w1 hF
          refine wp_ret ?_
          refine (ret_x (fn := Try.f13) T13_ok hF (rs := [.cell 4 40, .tmp 5]) rfl (by conv => lhs; cbv) ?_ (spY A c g none 0 0) [] ?_ ?_ ?_).1
          · subst hB; simp [AllOb, Ob.holds]
          · subst hB; simp only [hW]
            refine Sim.tup ⟨Sim.agg ?_, Sim.refl _, trivial⟩
            exact ⟨Sim.refl _, Sim.refl _, Sim.refl _, Sim.refl _, Sim.recell (fun i hi => absurd hi (Nat.not_lt_zero _)), Sim.refl _, Sim.refl _, Sim.refl _, trivial⟩
          · subst hB; simp only [hW]; exact ⟨rfl, ⟨_, rfl, ⟨sps_sim rfl, Sim.refl _, trivial⟩⟩, trivial⟩
          · exact trivial
        · skip
          have hv : ¬ q.ver ≠ x.w.ver := by subst hB; simpa [std, stdCmp] using hb
          refine wp_skip ?_
          refine wp_seq ?_
          refine wp_seq ?_
          apply region_okB hB T13_ok [82, 0, 3, 4] [0, 3, 4] [] hF
          case hex => intro A X; conv => lhs; cbv
          case hob =>
            intro X
            subst hB
            simp only [AllOb, Ob.holds, BE.den, List.mem_cons, List.not_mem_nil, or_false, forall_eq_or_imp, forall_eq] <;> (and_intros <;> first | trivial | rfl | (intro h; first | trivial | rfl))
          case hQ =>
          intro X11 a0 w1 hF
          refine test_ok hF rfl (fun hb hF => ?_) (fun hb hF => ?_)
          · skip
            have h8 : (if (!hh) = true then decide ((2000 : Int) ≤ (n : Int)) else false) = true := by subst hB; exact hb
            have hfu : (findL q.lab (shfA g n)).isNone ∧ 2000 ≤ (shfA g n).length := by
              rw [ite_and, Bool.and_eq_true, decide_eq_true_eq] at h8
              rw [listA_len]
              refine ⟨?_, by omega⟩
              have h7 : hh = false := by simpa using h8.1
              rw [h7] at hfi
              cases hf : findL q.lab (shfA g n) with
              | none => rfl
              | some x => rw [hf] at hfi; cases hfi
            have hW : D = ⟨shfA g n, false, zeroGot, 12⟩ := by rw [hD]; refine (if_pos hgd).trans ?_; refine (if_neg hk1).trans ?_; refine (if_neg (show ¬ q.ver ≠ (spotOf (shfA g n) q.lab).ver by rw [hx]; exact hv)).trans ?_; exact if_pos hfu
            refine wp_seq ?_
            apply region_okB hB T13_ok [4, 5] [4, 0] [] hF
            case hex => intro A X; conv => lhs; cbv
            case hob =>
              intro X
              subst hB
              simp only [AllOb, Ob.holds, BE.den, List.mem_cons, List.not_mem_nil, or_false, forall_eq_or_imp, forall_eq] <;> (and_intros <;> first | trivial | rfl | (intro h; first | trivial | rfl))
            case hQ =>
            intro X12 a0 w1 hF
            refine wp_ret ?_
            refine (ret_x (fn := Try.f13) T13_ok hF (rs := [.cell 4 40, .tmp 5]) rfl (by conv => lhs; cbv) ?_ (spY A c g none 0 0) [] ?_ ?_ ?_).1
            · subst hB; simp [AllOb, Ob.holds]
            · subst hB; simp only [hW]
              refine Sim.tup ⟨Sim.agg ?_, Sim.refl _, trivial⟩
              exact ⟨Sim.refl _, Sim.refl _, Sim.refl _, Sim.refl _, Sim.recell (fun i hi => absurd hi (Nat.not_lt_zero _)), Sim.refl _, Sim.refl _, Sim.refl _, trivial⟩
            · subst hB; simp only [hW]; exact ⟨rfl, ⟨_, rfl, ⟨sps_sim rfl, Sim.refl _, trivial⟩⟩, trivial⟩
            · exact trivial
          · skip
            have h8 : (if (!hh) = true then decide ((2000 : Int) ≤ (n : Int)) else false) = false := by subst hB; exact hb
            have hfu : ¬ ((findL q.lab (shfA g n)).isNone ∧ 2000 ≤ (shfA g n).length) := by
              rintro ⟨h1, h2⟩
              rw [listA_len] at h2
              have h7 : hh = false := by rw [hfi]; cases hf : findL q.lab (shfA g n) with
                | none => rfl
                | some x => rw [hf] at h1; cases h1
              rw [h7] at h8
              simp at h8
              omega
            obtain ⟨L2, hL2⟩ : ∃ L, L = putL q.lab (nextSpo q.abs) (shfA g n) := ⟨_, rfl⟩
            have hW : D = ⟨L2, true, ⟨0, inc q.ver, false, zeroRec⟩, 0⟩ := by rw [hD, hL2]; refine (if_pos hgd).trans ?_; refine (if_neg hk1).trans ?_; refine (if_neg (show ¬ q.ver ≠ (spotOf (shfA g n) q.lab).ver by rw [hx]; exact hv)).trans ?_; exact if_neg hfu
            have SO := rown_s q.x hwn
            obtain ⟨k2, hk2⟩ : ∃ k, k = L2.length := ⟨_, rfl⟩
            obtain ⟨G2, hG2⟩ : ∃ G : Atom → Nat → SpA, G = fun y => spAt y L2 := ⟨_, rfl⟩
            have hGG : ∀ y, spAt y L2 = G2 y := fun y => by rw [hG2]
            obtain ⟨vi, hvi⟩ : ∃ v, v = inc q.ver := ⟨_, rfl⟩
            refine wp_skip ?_
            refine wp_seq ?_
            apply region_okB hB T13_ok [9, 0, 3, 4] [9, 0, 3, 4] [] hF
            case hex => intro A X; conv => lhs; cbv
            case hob =>
              intro X
              subst hB
              simp only [AllOb, Ob.holds, BE.den, List.mem_cons, List.not_mem_nil, or_false, forall_eq_or_imp, forall_eq] <;> (and_intros <;> first | trivial | rfl | (intro h; first | trivial | rfl))
            case hQ =>
            intro X13 a0 w1 hF
            replace hF := hF.memS (cells' := [.int .i64 q.lab.len, .int .u64 q.lab.bits, .int .u64 vi, .int .i64 0, .sl none none 0 0 2 (fun _ => []), .int .i64 0, .int .u64 0, .int .u64 0, .bool .ff]) ⟨Sim.refl _, Sim.refl _, (by subst hB; rw [hvi]; exact Sim.refl _), Sim.refl _, Sim.refl _, Sim.refl _, Sim.refl _, Sim.refl _, Sim.refl _, trivial⟩
            refine wp_seq ?_
            refine wp_seq ?_
            apply region_okB hB T13_ok [93, 9, 0, 3, 4] [9, 0, 3, 4] [] hF
            case hex => intro A X; conv => lhs; cbv
            case hob =>
              intro X
              subst hB
              simp only [AllOb, Ob.holds, BE.den, List.mem_cons, List.not_mem_nil, or_false, forall_eq_or_imp, forall_eq] <;> (and_intros <;> first | trivial | rfl | (intro h; first | trivial | rfl))
            case hQ =>
            intro X14 a0 w1 hF
            refine cut_one (ι := SpA) (S0 := [(93, _)]) (M0 := [(9, _)]) (G0 := []) (fun z => []) (fun z => [(9, ⟨(X13 7).b, 78, spC z⟩)]) (fun z => []) (fun z => z.w.lab = q.lab ∧ Spo.mk z.w.ver z.has z.w.x.r.abs = nextSpo q.abs) hF ?_ ?_
            · skip
              refine test_ok hF rfl (fun hb hF => ?_) (fun hb hF => ?_)
              · skip
                have hk2 : q.kind = 2 := by subst hB; simpa [std, stdCmp] using hb
                refine wp_seq ?_
                apply region_okB hB T13_ok [9, 0, 3, 4] [9, 0, 3, 4] [(2, .r fun x => .agg [.int .i64 q.x.r.kd, .sl none (x.A 0) q.x.r.n (x.c 0) 2 (fun t => itC (q.x.r.f t)), .int .i64 q.x.r.nx.len, .int .u64 q.x.r.nx.bits, .int .u64 q.x.r.mrk])] hF
                case hex => intro A X; conv => lhs; cbv
                case hob =>
                  intro X
                  subst hB
                  simp only [AllOb, Ob.holds, BE.den, List.mem_cons, List.not_mem_nil, or_false, forall_eq_or_imp, forall_eq] <;> (and_intros <;> first | trivial | rfl | exact enters31 | exact SO | exact ⟨enters31, SO⟩ | (intro h; first | trivial | rfl | exact enters31 | exact SO | exact ⟨enters31, SO⟩))
                case hQ =>
                intro X15 a0 w1 hF
                apply region_okB hB T13_ok [9, 0, 3, 4] [9, 0, 3, 4] [] hF
                case hex => intro A X; conv => lhs; cbv
                case hob =>
                  intro X
                  subst hB
                  simp only [AllOb, Ob.holds, BE.den, List.mem_cons, List.not_mem_nil, or_false, forall_eq_or_imp, forall_eq] <;> (and_intros <;> first | trivial | rfl | (intro h; first | trivial | rfl))
                case hQ =>
                intro X16 a0 w1 hF
                refine ⟨⟨⟨q.lab, vi, ⟨(X15 2).A 0, (X15 2).c 0, q.x.r⟩⟩, true⟩, ⟨rfl, ?_⟩, hF.memS (cells' := spC ⟨⟨q.lab, vi, ⟨(X15 2).A 0, (X15 2).c 0, q.x.r⟩⟩, true⟩) ⟨Sim.refl _, Sim.refl _, Sim.refl _, Sim.refl _, Sim.refl _, Sim.refl _, Sim.refl _, Sim.refl _, Sim.tt, trivial⟩⟩
                rw [hvi]; unfold nextSpo; show _ = Spo.mk (inc q.ver) (decide (q.kind = 2)) (if q.kind = 2 then q.x.r.abs else zeroRec)
                rw [decide_eq_true hk2, if_pos hk2]
              · skip
                have hk2 : ¬ q.kind = 2 := by subst hB; simpa [std, stdCmp] using hb
                refine wp_skip ?_
                refine ⟨⟨⟨q.lab, vi, zRA⟩, false⟩, ⟨rfl, ?_⟩, hF.memS (cells' := spC ⟨⟨q.lab, vi, zRA⟩, false⟩) ⟨Sim.refl _, Sim.refl _, Sim.refl _, Sim.refl _, Sim.recell (fun i hi => absurd hi (Nat.not_lt_zero _)), Sim.refl _, Sim.refl _, Sim.refl _, Sim.ff, trivial⟩⟩
                rw [hvi]; unfold nextSpo; show _ = Spo.mk (inc q.ver) (decide (q.kind = 2)) (if q.kind = 2 then q.x.r.abs else zeroRec)
                rw [decide_eq_false hk2, if_neg hk2]; rfl
            · rintro z ⟨hz1, hz2⟩ a0 w1 hF
              try dsimp only at hz1
              try dsimp only at hz2
              have SP := rput_x0 b A n c g hn wr z
              rw [hz2, hz1, ← hL2] at SP
              simp only [← hk2, hGG] at SP
              have hzv : z.w.ver = vi := by have := congrArg Spo.ver hz2; rw [hvi]; exact this
              refine wp_seq ?_
              apply region_okB hB T13_ok [9, 0, 4] [9, 0, 4] [(2, .x fun x => ⟨.tup [], [(0, [.sl none (x.A 0) k2 (x.c 0) 9 (fun t => spC (G2 x t)), .int .i64 wr])], []⟩)] hF
              case hex => intro A X; conv => lhs; cbv
              case hob =>
                intro X
                subst hB
                simp only [AllOb, Ob.holds, BE.den, List.mem_cons, List.not_mem_nil, or_false, forall_eq_or_imp, forall_eq] <;> (and_intros <;> first | trivial | rfl | exact enters30 | exact SP | exact ⟨enters30, SP⟩ | (intro h; first | trivial | rfl | exact enters30 | exact SP | exact ⟨enters30, SP⟩))
              case hQ =>
              intro X17 a0 w1 hF
              refine wp_seq ?_
              apply region_okB hB T13_ok [9, 4, 0] [9, 0, 4] [] hF
              case hex => intro A X; conv => lhs; cbv
              case hob =>
                intro X
                subst hB
                simp only [AllOb, Ob.holds, BE.den, List.mem_cons, List.not_mem_nil, or_false, forall_eq_or_imp, forall_eq] <;> (and_intros <;> first | trivial | rfl | (intro h; first | trivial | rfl))
              case hQ =>
              intro X18 a0 w1 hF
              refine wp_seq ?_
              apply region_okB hB T13_ok [4, 5] [4, 0] [] hF
              case hex => intro A X; conv => lhs; cbv
              case hob =>
                intro X
                subst hB
                simp only [AllOb, Ob.holds, BE.den, List.mem_cons, List.not_mem_nil, or_false, forall_eq_or_imp, forall_eq] <;> (and_intros <;> first | trivial | rfl | (intro h; first | trivial | rfl))
              case hQ =>
              intro X19 a0 w1 hF
              refine wp_ret ?_
              refine (ret_x (fn := Try.f13) T13_ok hF (rs := [.cell 4 40, .tmp 5]) rfl (by conv => lhs; cbv) ?_ (spY ((X17 2).A 0) ((X17 2).c 0) (G2 (X17 2)) none 0 0) [] ?_ ?_ ?_).1
              · subst hB; simp [AllOb, Ob.holds]
              · have hev2 : vi = inc q.ver := hvi
                subst hB; simp only [hW]
                refine Sim.tup ⟨Sim.agg ?_, Sim.refl _, trivial⟩
                exact ⟨Sim.refl _, by rw [← hvi, ← hzv]; exact Sim.refl _, Sim.refl _, Sim.refl _, Sim.recell (fun i hi => absurd hi (Nat.not_lt_zero _)), Sim.refl _, Sim.refl _, Sim.refl _, trivial⟩
              · subst hB; simp only [hW]; exact ⟨rfl, ⟨_, rfl, ⟨sps_sim (by rw [hG2, hk2, shfA_spAt]), Sim.refl _, trivial⟩⟩, trivial⟩
              · exact trivial
theorem rdo_x (k0 : Nat) (b : Nat) (A : Option Addr) (n c : Nat) (g : Nat → SpA) (hn : n ≤ 100000) (wr : Int) (hris : Rises (shfA g n)) (q : WntA) (hwn : q.x.r.n ≤ 1000000) (hwb : U64 q.lab.bits) (hwx : U64 q.x.r.nx.bits) : SpecX Try.prog 13 [.ptr k0 b 0, wntV q] [(k0, ⟨b, 51, [spsV A n c g, .int .i64 wr]⟩)] (fun y => ⟨.tup [gotV (gotA y (doL (shfA g n) q.abs).got), .int .i64 (doL (shfA g n) q.abs).err], [(k0, [spsV (y.A 0) (doL (shfA g n) q.abs).L.length (y.c 0) (spAt y (doL (shfA g n) q.abs).L), .int .i64 (if (doL (shfA g n) q.abs).wrote then IntKind.i64.wrap (wr + 1) else wr)])], []⟩) :=
  (rdo_x0 b A n c g hn wr hris q hwn hwb hwx).re (by repeat (first | exact trivial | refine ⟨Sim.ptr, ?_⟩ | refine ⟨Sim.fn ⟨Sim.ptr, trivial⟩ trivial, ?_⟩ | refine ⟨Sim.fn trivial ⟨Sim.ptr, trivial⟩, ?_⟩ | refine ⟨Sim.refl _, ?_⟩)) rfl (fun x => ⟨rfl, rfl, Sim.refl _, rfl⟩)
end Go.Proofs.Ythpbihppfijegaa.Sym

namespace Go.Proofs.Ythpbihppfijegaa.Sym
open Go Go.RowKit
set_option maxRecDepth 100000
set_option maxHeartbeats 1600000
set_option linter.unusedVariables false
set_option linter.unusedSimpArgs false
theorem rrows_r (K : Kn) (k0 b : Nat) (A : Option Addr) (n c : Nat) (g : Nat → SpA) (hn : n ≤ 100000) (wr : Int) : SpecR Try.prog K 19 [.ptr k0 b 0] [(k0, ⟨b, 51, [spsV A n c g, .int .i64 wr]⟩)] (fun y => rowsV (y.A 0) (rowsL (shfA g n)).length (y.c 0) (rwAt y (rowsL (shfA g n)))) :=
  SpecR.of fun m w h1 h2 h3 _ => rrows_x k0 b A n c g hn wr m w h1 h2 h3
def T3 : List (Nat × TI) := [(3, ti3), (4, ti4), (22, ti22), (23, ti23), (26, ti26), (27, ti27), (30, ti30), (40, ti40), (46, ti46), (51, ti51)]
theorem T3_ok : TabOK Try.prog T3 := .cons t3 (.cons t4 (.cons t22 (.cons t23 (.cons t26 (.cons t27 (.cons t30 (.cons t40 (.cons t46 (.cons t51 (.nil))))))))))
theorem enters3 : Enters Try.prog 3 := fun _ _ => by kernel_rfl
theorem lawDoes_no (A : Option Addr) (n c : Nat) (f : Nat → RowA) (hn : n ≤ maxLen) (hwf : ∀ i, i < n → LabOk (f i).lab ∧ U64 (f i).x.r.nx.bits) (A2 : Option Addr) (n2 c2 : Nat) (f2 : Nat → WntA) (hn2 : n2 ≤ maxLen) (hw2 : ∀ i, i < n2 → LabOk (f2 i).lab ∧ U64 (f2 i).x.r.nx.bits) (hnew : newS (rwsA f n) = none) : Spec Try.prog 3 [rowsV A n c f, wntsV A2 n2 c2 f2] (fun _ => .bool .tt) := by
  intro m w hm hargs
  have hmx : maxLen = 9223372036854775807 := rfl
  have S1 := bigs_s A n c f hn
  obtain ⟨bl, hbl⟩ : ∃ q, q = (if n ≤ 300 then bigS n f else true) := ⟨_, rfl⟩
  rw [← hbl] at S1
  have S2 := bigw_s A2 n2 c2 f2 hn2
  obtain ⟨bw, hbw⟩ : ∃ z, z = bigW n2 f2 := ⟨_, rfl⟩
  rw [← hbw] at S2
  refine enter hm hargs Try.func3 rfl (by simp [Try.ntmps3]) fun a0 hF => ?_
  simp only [Try.ntmps3, startT] at hF
  obtain ⟨B, hB⟩ : ∃ B, B = std := ⟨_, rfl⟩
  refine wp_seq ?_
  apply region_okB hB T3_ok [0, 1] [] [] hF
  case hex => intro A X; conv => lhs; cbv
  case hob =>
    intro X
    subst hB
    simp only [AllOb, Ob.holds, BE.den, List.mem_cons, List.not_mem_nil, or_false, forall_eq_or_imp, forall_eq] <;> (and_intros <;> first | trivial | rfl | (intro h; first | trivial | rfl))
  case hQ =>
  intro X0 a0 w1 hF
  refine wp_seq ?_
  refine wp_seq ?_
  apply region_okB hB T3_ok [19, 0, 1] [] [(1, .r fun _ => .bool (.v bl)), (4, .r fun _ => .bool (.v bw))] hF
  case hex => intro A X; conv => lhs; cbv
  case hob =>
    intro X
    subst hB
    simp only [AllOb, Ob.holds, BE.den, List.mem_cons, List.not_mem_nil, or_false, forall_eq_or_imp, forall_eq] <;> (and_intros <;> first | trivial | rfl | exact enters8 | exact S1 | exact enters9 | exact S2 | (intro h; first | trivial | rfl | exact ⟨enters8, S1⟩ | exact ⟨enters9, S2⟩))
  case hQ =>
  intro X1 a0 w1 hF
  refine test_ok hF rfl (fun hb hF => ?_) (fun hb hF => ?_)
  · skip
    refine wp_seq ?_
    apply region_okB hB T3_ok [4] [] [] hF
    case hex => intro A X; conv => lhs; cbv
    case hob =>
      intro X
      subst hB
      simp only [AllOb, Ob.holds, BE.den, List.mem_cons, List.not_mem_nil, or_false, forall_eq_or_imp, forall_eq] <;> (and_intros <;> first | trivial | rfl | (intro h; first | trivial | rfl))
    case hQ =>
    intro X2 a0 w1 hF
    refine wp_ret ?_
    refine ret_sim (fn := Try.f3) T3_ok hF (rs := [.tmp 4]) rfl (rfl) ?_ noAtom ?_
    · simp [AllOb, Ob.holds]
    · subst hB
      exact Sim.bool rfl
  · skip
    have hb0 : bl = false ∧ bw = false := by
      have h9 : (if bl = true then true else bw) = false := by subst hB; exact hb
      revert h9; cases bl <;> cases bw <;> simp
    have hb1 := bigs_ff (hbl ▸ hb0.1)
    have hb2 := bigW_ff (hbw ▸ hb0.2)
    have hN := new_wf hb1 hwf lab_u64
    have hN2 : ∀ i, i < n → (f i).x.r.n ≤ 1000000 ∧ U64 (f i).lab.bits ∧ U64 (f i).x.r.nx.bits := fun i hi => ⟨(hN i hi).1, (hN i hi).2.2.1, (hN i hi).2.2.2⟩
    refine wp_skip ?_
    refine wp_seq ?_
    refine wp_region_lit ?_
    apply list_preB 0 1 hB T3_ok [21, 0, 1] [] [] hF
    case hex => intro A X; conv => lhs; cbv
    case hob =>
      intro X
      subst hB
      simp only [AllOb, Ob.holds, BE.den, List.mem_cons, List.not_mem_nil, or_false, forall_eq_or_imp, forall_eq] <;> (and_intros <;> first | trivial | rfl | (intro h; first | trivial | rfl))
    case hQ =>
    intro X3_0 a0 w1 hF
    have SN := new_no A n c f hn hN hnew
    refine man_callM rfl rfl rfl rfl hF rfl rfl enters10 SN (fun _ _ _ => trivial) (fun b hb => by cases hb) (SimL.refl _) (by intro e he; cases he) rfl rfl (fun y => noK) (fun _ _ _ _ _ _ _ _ _ _ => trivial) ?_
    intro y a0 w1 hF
    have SR := rnew_no A n c f hn hN2 hnew
    apply list_endB 2 hB T3_ok [5, 6, 0, 1] [] [] hF
    case hex => intro A X; conv => lhs; cbv
    case hob =>
      intro X
      subst hB
      simp only [AllOb, Ob.holds, BE.den, List.mem_cons, List.not_mem_nil, or_false, forall_eq_or_imp, forall_eq] <;> (and_intros <;> first | trivial | rfl | (intro h; first | trivial | rfl))
    case hQ =>
    intro X3 a0 w1 hF
    refine wp_seq ?_
    apply region_okB hB T3_ok [5, 6, 7, 8, 1] [] [(1, .x fun _ => ⟨.tup [.nilp, .int .i64 1], [], []⟩)] hF
    case hex => intro A X; conv => lhs; cbv
    case hob =>
      intro X
      subst hB
      simp only [AllOb, Ob.holds, BE.den, List.mem_cons, List.not_mem_nil, or_false, forall_eq_or_imp, forall_eq] <;> (and_intros <;> first | trivial | rfl | exact enters11 | exact SR | (intro h; first | trivial | rfl | exact ⟨enters11, SR⟩))
    case hQ =>
    intro X4 a0 w1 hF
    refine wp_seq ?_
    refine wp_seq ?_
    apply region_okB hB T3_ok [39, 5, 7, 1] [] [] hF
    case hex => intro A X; conv => lhs; cbv
    case hob =>
      intro X
      subst hB
      simp only [AllOb, Ob.holds, BE.den, List.mem_cons, List.not_mem_nil, or_false, forall_eq_or_imp, forall_eq] <;> (and_intros <;> first | trivial | rfl | (intro h; first | trivial | rfl))
    case hQ =>
    intro X5 a0 w1 hF
    refine test_ok hF rfl (fun hb hF => ?_) (fun hb hF => ?_)
    · exfalso
      subst hB; simp [std, stdCmp, BE.den] at hb
    · skip
      refine wp_skip ?_
      refine wp_seq ?_
      refine wp_seq ?_
      apply region_okB hB T3_ok [9, 5, 7, 1] [] [] hF
      case hex => intro A X; conv => lhs; cbv
      case hob =>
        intro X
        subst hB
        simp only [AllOb, Ob.holds, BE.den, List.mem_cons, List.not_mem_nil, or_false, forall_eq_or_imp, forall_eq] <;> (and_intros <;> first | trivial | rfl | (intro h; first | trivial | rfl))
      case hQ =>
      intro X7 a0 w1 hF
      refine wp_block ?_
      refine loop_pre (ι := Nat) (fun p => [(9, .int .i64 (p : Int))]) (fun p => []) (fun p => []) (fun p => True) (fun p => p) 0 trivial hF ?_
      rintro i hi a0 w1 hF
      try dsimp only at hi
      refine wp_seq ?_
      refine wp_seq ?_
      apply region_okB hB T3_ok [47, 9, 5, 7, 1] [] [] hF
      case hex => intro A X; conv => lhs; cbv
      case hob =>
        intro X
        subst hB
        simp only [AllOb, Ob.holds, BE.den, List.mem_cons, List.not_mem_nil, or_false, forall_eq_or_imp, forall_eq] <;> (and_intros <;> first | trivial | rfl | (intro h; first | trivial | rfl))
      case hQ =>
      intro X8 a0 w1 hF
      refine test_ok hF rfl (fun hb hF => ?_) (fun hb hF => ?_)
      · exfalso
        subst hB; simp [std, stdCmp, BE.den] at hb
      · skip
        refine wp_exit ?_
        refine wp_seq ?_
        apply region_okB hB T3_ok [4] [] [(0, .r fun _ => .bool .tt)] hF
        case hex => intro A X; conv => lhs; cbv
        case hob =>
          intro X
          subst hB
          simp only [AllOb, Ob.holds, BE.den, List.mem_cons, List.not_mem_nil, or_false, forall_eq_or_imp, forall_eq] <;> (and_intros <;> first | trivial | rfl | exact enters16 | exact shelved_s | (intro h; first | trivial | rfl | exact ⟨enters16, shelved_s⟩))
        case hQ =>
        intro X14 a0 w1 hF
        refine wp_ret ?_
        refine ret_sim (fn := Try.f3) T3_ok hF (rs := [.tmp 4]) rfl (rfl) ?_ noAtom ?_
        · simp [AllOb, Ob.holds]
        · subst hB
          refine Sim.bool ?_
          simp [std, stdCmp, BE.den, canB]
theorem lawDoes_yes (A : Option Addr) (n c : Nat) (f : Nat → RowA) (hn : n ≤ maxLen) (hwf : ∀ i, i < n → LabOk (f i).lab ∧ U64 (f i).x.r.nx.bits) (A2 : Option Addr) (n2 c2 : Nat) (f2 : Nat → WntA) (hn2 : n2 ≤ maxLen) (hw2 : ∀ i, i < n2 → LabOk (f2 i).lab ∧ U64 (f2 i).x.r.nx.bits) {L : Shf} (hnew : newS (rwsA f n) = some L) : Spec Try.prog 3 [rowsV A n c f, wntsV A2 n2 c2 f2] (fun _ => .bool .tt) := by
  intro m w hm hargs
  have hmx : maxLen = 9223372036854775807 := rfl
  have S1 := bigs_s A n c f hn
  obtain ⟨bl, hbl⟩ : ∃ q, q = (if n ≤ 300 then bigS n f else true) := ⟨_, rfl⟩
  rw [← hbl] at S1
  have S2 := bigw_s A2 n2 c2 f2 hn2
  obtain ⟨bw, hbw⟩ : ∃ z, z = bigW n2 f2 := ⟨_, rfl⟩
  rw [← hbw] at S2
  refine enter hm hargs Try.func3 rfl (by simp [Try.ntmps3]) fun a0 hF => ?_
  simp only [Try.ntmps3, startT] at hF
  obtain ⟨B, hB⟩ : ∃ B, B = std := ⟨_, rfl⟩
  refine wp_seq ?_
  apply region_okB hB T3_ok [0, 1] [] [] hF
  case hex => intro A X; conv => lhs; cbv
  case hob =>
    intro X
    subst hB
    simp only [AllOb, Ob.holds, BE.den, List.mem_cons, List.not_mem_nil, or_false, forall_eq_or_imp, forall_eq] <;> (and_intros <;> first | trivial | rfl | (intro h; first | trivial | rfl))
  case hQ =>
  intro X0 a0 w1 hF
  refine wp_seq ?_
  refine wp_seq ?_
  apply region_okB hB T3_ok [19, 0, 1] [] [(1, .r fun _ => .bool (.v bl)), (4, .r fun _ => .bool (.v bw))] hF
  case hex => intro A X; conv => lhs; cbv
  case hob =>
    intro X
    subst hB
    simp only [AllOb, Ob.holds, BE.den, List.mem_cons, List.not_mem_nil, or_false, forall_eq_or_imp, forall_eq] <;> (and_intros <;> first | trivial | rfl | exact enters8 | exact S1 | exact enters9 | exact S2 | (intro h; first | trivial | rfl | exact ⟨enters8, S1⟩ | exact ⟨enters9, S2⟩))
  case hQ =>
  intro X1 a0 w1 hF
  refine test_ok hF rfl (fun hb hF => ?_) (fun hb hF => ?_)
  · skip
    refine wp_seq ?_
    apply region_okB hB T3_ok [4] [] [] hF
    case hex => intro A X; conv => lhs; cbv
    case hob =>
      intro X
      subst hB
      simp only [AllOb, Ob.holds, BE.den, List.mem_cons, List.not_mem_nil, or_false, forall_eq_or_imp, forall_eq] <;> (and_intros <;> first | trivial | rfl | (intro h; first | trivial | rfl))
    case hQ =>
    intro X2 a0 w1 hF
    refine wp_ret ?_
    refine ret_sim (fn := Try.f3) T3_ok hF (rs := [.tmp 4]) rfl (rfl) ?_ noAtom ?_
    · simp [AllOb, Ob.holds]
    · subst hB
      exact Sim.bool rfl
  · skip
    have hb0 : bl = false ∧ bw = false := by
      have h9 : (if bl = true then true else bw) = false := by subst hB; exact hb
      revert h9; cases bl <;> cases bw <;> simp
    have hb1 := bigs_ff (hbl ▸ hb0.1)
    have hb2 := bigW_ff (hbw ▸ hb0.2)
    have hN := new_wf hb1 hwf lab_u64
    have hN2 : ∀ i, i < n → (f i).x.r.n ≤ 1000000 ∧ U64 (f i).lab.bits ∧ U64 (f i).x.r.nx.bits := fun i hi => ⟨(hN i hi).1, (hN i hi).2.2.1, (hN i hi).2.2.2⟩
    refine wp_skip ?_
    refine wp_seq ?_
    refine wp_region_lit ?_
    apply list_preB 0 1 hB T3_ok [21, 0, 1] [] [] hF
    case hex => intro A X; conv => lhs; cbv
    case hob =>
      intro X
      subst hB
      simp only [AllOb, Ob.holds, BE.den, List.mem_cons, List.not_mem_nil, or_false, forall_eq_or_imp, forall_eq] <;> (and_intros <;> first | trivial | rfl | (intro h; first | trivial | rfl))
    case hQ =>
    intro X3_0 a0 w1 hF
    have SN := new_yes A n c f hn hN 200 hnew
    have hok0 : ShfOk L := newS_ok (rws_lab hwf) hnew
    refine man_callM rfl rfl rfl rfl hF rfl rfl enters10 (SN) (fun _ _ _ => trivial) (fun b hb => by cases hb) (SimL.refl _) (by intro e he; cases he) rfl rfl (fun y => shF w.heap.size (y.c 0) L) (fun n x m w m' w' hn _ _ h => ⟨Nat.le_trans hn h.1, h.2⟩) ?_
    intro y a0 w1 hF
    obtain ⟨sb, hsb⟩ : ∃ b, b = y.b := ⟨_, rfl⟩
    obtain ⟨bM, hbM⟩ : ∃ b, b = y.c 0 := ⟨_, rfl⟩
    rw [← hsb, ← hbM] at hF
    have hbfr : w.heap.size ≤ bM := hF.kept.1
    replace hF := hF.withK (K' := shK bM L) hF.kept.2
    have SR := rnew_yes A n c f hn hN2 300 hnew
    obtain ⟨nL, hnL⟩ : ∃ z, z = L.length := ⟨_, rfl⟩
    rw [← hnL] at SR
    apply list_endB 2 hB T3_ok [5, 6, 0, 1] [200] [] hF
    case hex => intro A X; conv => lhs; cbv
    case hob =>
      intro X
      subst hB
      simp only [AllOb, Ob.holds, BE.den, List.mem_cons, List.not_mem_nil, or_false, forall_eq_or_imp, forall_eq] <;> (and_intros <;> first | trivial | rfl | (intro h; first | trivial | rfl))
    case hQ =>
    intro X3 a0 w1 hF
    refine wp_seq ?_
    apply region_okB hB T3_ok [5, 6, 7, 8, 1] [200, 300] [(1, .x fun y => ⟨.tup [.ptr 300 y.b 0, .int .i64 0], [], [(300, ⟨y.b, 51, [.sl none (y.A 0) nL (y.c 0) 9 (fun i => spC (spAt y L i)), .int .i64 0]⟩)]⟩)] hF
    case hex => intro A X; conv => lhs; cbv
    case hob =>
      intro X
      subst hB
      simp only [AllOb, Ob.holds, BE.den, List.mem_cons, List.not_mem_nil, or_false, forall_eq_or_imp, forall_eq] <;> (and_intros <;> first | trivial | rfl | exact enters11 | exact SR | (intro h; first | trivial | rfl | exact ⟨enters11, SR⟩))
    case hQ =>
    intro X4 a0 w1 hF
    have hgl0 : shfA (spAt (X4 1) L) nL = L := by rw [hnL]; exact shfA_spAt _ _
    refine wp_seq ?_
    refine wp_seq ?_
    apply region_okB hB T3_ok [39, 5, 7, 1] [200, 300] [] hF
    case hex => intro A X; conv => lhs; cbv
    case hob =>
      intro X
      subst hB
      simp only [AllOb, Ob.holds, BE.den, List.mem_cons, List.not_mem_nil, or_false, forall_eq_or_imp, forall_eq] <;> (and_intros <;> first | trivial | rfl | (intro h; first | trivial | rfl))
    case hQ =>
    intro X5 a0 w1 hF
    refine test_ok hF rfl (fun hb hF => ?_) (fun hb hF => ?_)
    · exfalso
      subst hB; simp [std, stdCmp, BE.den] at hb
    · skip
      refine wp_skip ?_
      refine wp_seq ?_
      refine wp_seq ?_
      apply region_okB hB T3_ok [9, 5, 7, 1] [200, 300] [] hF
      case hex => intro A X; conv => lhs; cbv
      case hob =>
        intro X
        subst hB
        simp only [AllOb, Ob.holds, BE.den, List.mem_cons, List.not_mem_nil, or_false, forall_eq_or_imp, forall_eq] <;> (and_intros <;> first | trivial | rfl | (intro h; first | trivial | rfl))
      case hQ =>
      intro X7 a0 w1 hF
      refine wp_block ?_
      refine loop_preK (ι := Nat × Shf × Int × Option Addr × Nat × Nat × (Nat → SpA)) (fun p => shK bM p.2.1) (fun p => [(9, .int .i64 (p.1 : Int))]) (fun p => [(200, ⟨sb, 68, [.raw (.map (some bM)), .int .i64 p.2.2.1]⟩), (300, ⟨(X4 1).b, 51, [.sl none p.2.2.2.1 p.2.2.2.2.1 p.2.2.2.2.2.1 9 (fun i => spC (p.2.2.2.2.2.2 i)), .int .i64 p.2.2.1]⟩)]) (fun p => []) (fun p => p.1 ≤ n2 ∧ ShfOk p.2.1 ∧ shfA p.2.2.2.2.2.2 p.2.2.2.2.1 = p.2.1 ∧ p.2.2.2.2.1 = p.2.1.length) (fun p => n2 - p.1) (0, L, 0, (X4 1).A 0, nL, (X4 1).c 0, spAt (X4 1) L) ⟨Nat.zero_le _, hok0, hgl0, hnL⟩ hF ?_
      rintro ⟨i, Lc, kc, A3, n3, c3, g3⟩ ⟨hi, hok, hgl, hn3⟩ a0 w1 hF
      try dsimp only at hi
      try dsimp only at hok
      try dsimp only at hgl
      try dsimp only at hn3
      replace hF := hF.withK (K' := shK bM Lc) hF.kept
      refine wp_seq ?_
      refine wp_seq ?_
      apply region_okB hB T3_ok [47, 9, 5, 7, 1] [200, 300] [] hF
      case hex => intro A X; conv => lhs; cbv
      case hob =>
        intro X
        subst hB
        simp only [AllOb, Ob.holds, BE.den, List.mem_cons, List.not_mem_nil, or_false, forall_eq_or_imp, forall_eq] <;> (and_intros <;> first | trivial | rfl | (intro h; first | trivial | rfl))
      case hQ =>
      intro X8 a0 w1 hF
      refine test_ok hF rfl (fun hb hF => ?_) (fun hb hF => ?_)
      · skip
        have hin : i < n2 := by
          have : (i : Int) < (n2 : Int) := by subst hB; simpa [std, stdCmp, BE.den] using hb
          omega
        refine wp_skip ?_
        refine wp_seq ?_
        refine wp_block ?_
        refine wp_seq ?_
        refine wp_region_lit ?_
        apply list_preB 0 5 hB T3_ok [51, 55, 9, 5, 7, 1] [200, 300] [] hF
        case hex => intro A X; conv => lhs; cbv
        case hob =>
          intro X
          subst hB
          simp only [AllOb, Ob.holds, BE.den, List.mem_cons, List.not_mem_nil, or_false, forall_eq_or_imp, forall_eq] <;> (and_intros <;> first | trivial | rfl | exact (show (0 : Int) ≤ (i : Int) by omega) | exact (show (i : Int) < (n2 : Int) by omega) | (intro h; first | trivial | rfl | exact (show (0 : Int) ≤ (i : Int) by omega) | exact (show (i : Int) < (n2 : Int) by omega)))
        case hQ =>
        intro X10_0 a0 w1 hF
        have hqe : (f2 (B.toNat (i : Int))) = f2 i := by subst hB; rw [show std.toNat (i : Int) = i from Int.toNat_natCast i]
        have hq1 : (f2 i).x.r.n ≤ 40 := hb2.2 i hin
        obtain ⟨hq2, hq3⟩ := hw2 i hin
        have hq4 := lab_u64 _ hq2
        rw [← hqe] at hq1 hq2 hq3 hq4
        have SD := do_m 200 sb bM Lc (by have := hok.len; omega) kc (f2 (B.toNat (i : Int))) (by omega) hq2 hq4 hq3
        obtain ⟨D1, hD1⟩ : ∃ D, D = doL Lc (WntA.abs (f2 (B.toNat (i : Int)))) := ⟨_, rfl⟩
        rw [← hD1] at SD
        obtain ⟨GG1, hGG1⟩ : ∃ G : Atom → GotA, G = fun y => gotA y D1.got := ⟨_, rfl⟩
        have hGf1 : ∀ y, gotA y D1.got = GG1 y := fun y => by rw [hGG1]
        simp only [hGf1] at SD
        obtain ⟨k1, hk1⟩ : ∃ z, z = (if D1.wrote then IntKind.i64.wrap (kc + 1) else kc) := ⟨_, rfl⟩
        rw [← hk1] at SD
        obtain ⟨er1, her1⟩ : ∃ z, z = D1.err := ⟨_, rfl⟩
        rw [← her1] at SD
        obtain ⟨L1, hL1⟩ : ∃ z, z = D1.L := ⟨_, rfl⟩
        rw [← hL1] at SD
        refine man_callM rfl rfl rfl rfl hF rfl rfl enters12 SD (fun _ _ h => h) (fun b hb => by cases hb; exact fun h => absurd h (Nat.not_lt.2 hbfr)) ⟨Sim.refl _, Sim.agg (by repeat (first | exact trivial | refine ⟨Sim.refl _, ?_⟩ | refine ⟨Sim.ff, ?_⟩ | refine ⟨Sim.recell (fun i hi => absurd hi (Nat.not_lt_zero _)), ?_⟩)), trivial⟩ (by intro e he; simp only [List.mem_singleton] at he; subst he; rfl) rfl rfl (fun _ => shK bM L1) (fun _ _ _ _ _ _ _ _ _ h => h) ?_
        intro y a0 w1 hF
        obtain ⟨g1, hg1⟩ : ∃ g, g = GG1 y := ⟨_, rfl⟩
        rw [← hg1] at hF
        replace hF := hF.withK (K' := shK bM L1) hF.kept
        have hga1 : g1.abs = D1.got := by rw [hg1, ← hGf1, gotA_abs]
        have hok1 : ShfOk L1 := by rw [hL1, hD1]; exact doL_ok hok hq2
        have SR := rdo_x 300 (X4 1).b A3 n3 c3 g3 (by have := hok.len; omega) kc (by rw [hgl]; exact hok.ris) (f2 (B.toNat (i : Int))) (by omega) hq4 hq3
        rw [hgl, ← hD1] at SR
        simp only [hGf1] at SR
        rw [← hk1, ← her1, ← hL1] at SR
        obtain ⟨n4, hn4⟩ : ∃ z, z = L1.length := ⟨_, rfl⟩
        rw [← hn4] at SR
        obtain ⟨sp, hsp⟩ : ∃ g : Atom → Nat → SpA, g = fun y => spAt y L1 := ⟨_, rfl⟩
        have hspf : ∀ y, spAt y L1 = sp y := fun y => by rw [hsp]
        simp only [hspf] at SR
        apply list_endB 6 hB T3_ok [9, 5, 7, 1, 10, 11] [200, 300, 10] [] hF
        case hex => intro A X; conv => lhs; cbv
        case hob =>
          intro X
          subst hB
          simp only [AllOb, Ob.holds, BE.den, List.mem_cons, List.not_mem_nil, or_false, forall_eq_or_imp, forall_eq] <;> (and_intros <;> first | trivial | rfl | (intro h; first | trivial | rfl))
        case hQ =>
        intro X10 a0 w1 hF
        refine wp_seq ?_
        apply region_okB hB T3_ok [9, 5, 7, 1, 10, 11, 12, 13] [200, 300, 10, 12] [(5, .x fun y => ⟨.tup [.agg (gotC (GG1 y)), .int .i64 er1], [(300, [.sl none (y.A 0) n4 (y.c 0) 9 (fun i => spC (sp y i)), .int .i64 k1])], []⟩)] hF
        case hex => intro A X; conv => lhs; cbv
        case hob =>
          intro X
          subst hB
          simp only [AllOb, Ob.holds, BE.den, List.mem_cons, List.not_mem_nil, or_false, forall_eq_or_imp, forall_eq] <;> (and_intros <;> first | trivial | rfl | exact enters13 | exact SR | exact ⟨enters13, SR⟩ | exact (show (0 : Int) ≤ (i : Int) by omega) | exact (show (i : Int) < (n2 : Int) by omega) | (intro h; first | trivial | rfl | exact ⟨enters13, SR⟩))
        case hQ =>
        intro X11 a0 w1 hF
        obtain ⟨g2, hg2⟩ : ∃ g, g = GG1 (X11 5) := ⟨_, rfl⟩
        rw [← hg2] at hF
        have hga2 : g2.abs = D1.got := by rw [hg2, ← hGf1, gotA_abs]
        have hgn : g1.x.r.n ≤ maxLen := got_len ((hF.mem 10 _ rfl).2.1 (.sl none g1.x.A g1.x.r.n g1.x.c 2 (fun i => itC (g1.x.r.f i))) (by simp)).2
        have SG := sameg_s g1 g2 hgn
        obtain ⟨sm, hsm⟩ : ∃ z, z = decide (g1.abs = g2.abs) := ⟨_, rfl⟩
        rw [← hsm] at SG
        have hsm1 : sm = true := by rw [hsm]; exact decide_eq_true (hga1.trans hga2.symm)
        have SW := writes_r (shK bM L1) 200 sb bM k1
        refine wp_seq ?_
        apply drawn_okB hB (by kernel_rfl) T3_ok [85, 9, 5, 7, 1] [200, 300] [(2, .r fun _ => .bool (.v sm)), (11, .g [200] fun _ => .int .i64 k1)] hF rfl
        case hex => intro A X; conv => lhs; cbv
        case hD => kernel_rfl
        case hlen => rfl
        case hob =>
          intro X
          subst hB
          simp only [AllOb, Ob.holds, BE.den, List.mem_cons, List.not_mem_nil, or_false, forall_eq_or_imp, forall_eq] <;> (and_intros <;> first | trivial | rfl | exact enters14 | exact SG | exact enters15 | exact SW | (intro h; first | trivial | rfl | exact ⟨enters14, SG⟩ | exact ⟨enters15, SW⟩))
        case hQ =>
        intro X12 a0 w1 hF
        refine test_ok hF rfl (fun hb hF => ?_) (fun hb hF => ?_)
        · exfalso
          have h9 : (if (if (!sm) = true then true else (er1 != er1)) = true then true else (k1 != k1)) = true := by subst hB; exact hb
          rw [hsm1] at h9; simp at h9
        · skip
          refine wp_skip ?_
          apply region_okB hB T3_ok [9, 5, 7, 1] [200, 300] [] hF
          case hex => intro A X; conv => lhs; cbv
          case hob =>
            intro X
            subst hB
            simp only [AllOb, Ob.holds, BE.den, List.mem_cons, List.not_mem_nil, or_false, forall_eq_or_imp, forall_eq] <;> (and_intros <;> first | trivial | rfl | (intro h; first | trivial | rfl))
          case hQ =>
          intro X9 a0 w1 hF
          have e : B.arith .add .i64 (i : Int) 1 = ((i + 1 : Nat) : Int) := by subst hB; exact wrap_succ (n := n2) hin (by omega)
          refine ⟨(i + 1, L1, k1, (X11 5).A 0, n4, (X11 5).c 0, sp (X11 5)), ⟨by simp only; omega, hok1, by simp only; rw [← hspf, hn4]; exact shfA_spAt _ _, hn4⟩, by simp only; omega, by rw [← e]; exact hF⟩
      · skip
        have SR9 := rows_r 200 sb bM Lc (by have := hok.len; omega) kc
        obtain ⟨RR9, hRR9⟩ : ∃ R, R = rowsL Lc := ⟨_, rfl⟩
        rw [← hRR9] at SR9
        obtain ⟨nR9, hnR9⟩ : ∃ n, n = RR9.length := ⟨_, rfl⟩
        rw [← hnR9] at SR9
        have SRR := rrows_r (shK bM Lc) 300 (X4 1).b A3 n3 c3 g3 (by have := hok.len; omega) kc
        rw [hgl, ← hRR9, ← hnR9] at SRR
        have SM : ∀ z1 z2 : Atom, Spec Try.prog 17 [.sl none (z1.A 0) nR9 (z1.c 0) 8 (fun i => rowC (rwAt z1 RR9 i)), .sl none (z2.A 0) nR9 (z2.c 0) 8 (fun i => rowC (rwAt z2 RR9 i))] (fun _ => .bool (.v true)) := fun z1 z2 => by
          have h8 : nR9 ≤ maxLen := by
            have h7 := rowsL_len Lc
            have := hok.len
            rw [← hRR9] at h7
            omega
          have h9 := samerw_s (z1.A 0) nR9 (z1.c 0) (rwAt z1 RR9) (z2.A 0) nR9 (z2.c 0) (rwAt z2 RR9) h8
          rw [show rwsA (rwAt z1 RR9) nR9 = RR9 by rw [hnR9]; exact rwsA_rwAt _ _, show rwsA (rwAt z2 RR9) nR9 = RR9 by rw [hnR9]; exact rwsA_rwAt _ _, decide_eq_true rfl] at h9
          exact h9
        refine wp_exit ?_
        refine wp_seq ?_
        apply region_okB hB T3_ok [4] [] [(0, .r fun _ => .bool .tt), (6, .g [200] fun y => .sl none (y.A 0) nR9 (y.c 0) 8 (fun i => rowC (rwAt y RR9 i))), (8, .g [300] fun y => .sl none (y.A 0) nR9 (y.c 0) 8 (fun i => rowC (rwAt y RR9 i))), (9, .r fun _ => .bool (.v true))] hF
        case hex => intro A X; conv => lhs; cbv
        case hob =>
          intro X
          subst hB
          simp only [AllOb, Ob.holds, BE.den, List.mem_cons, List.not_mem_nil, or_false, forall_eq_or_imp, forall_eq] <;> (and_intros <;> first | trivial | rfl | exact enters16 | exact shelved_s | exact enters18 | exact SR9 | exact enters19 | exact SRR | exact enters17 | exact (SM _ _) | (intro h; first | trivial | rfl | exact ⟨enters16, shelved_s⟩ | exact ⟨enters18, SR9⟩ | exact ⟨enters19, SRR⟩ | exact ⟨enters17, (SM _ _)⟩))
        case hQ =>
        intro X14 a0 w1 hF
        refine wp_ret ?_
        refine ret_sim (fn := Try.f3) T3_ok hF (rs := [.tmp 4]) rfl (rfl) ?_ noAtom ?_
        · simp [AllOb, Ob.holds]
        · subst hB
          refine Sim.bool ?_
          simp [std, stdCmp, BE.den, canB]
end Go.Proofs.Ythpbihppfijegaa.Sym

namespace Go.Proofs.Ythpbihppfijegaa
open Go Go.RowKit
set_option linter.unusedVariables false

theorem walkShelfDoes (W : World) (v0 v1 : Value) (i0 : Sym.InRow W v0) (i1 : Sym.InWnts W v1) : Calls Try.prog 3 #[v0, v1] W fun e w' => e = .returned (.bool true) ∧ Below W.heap.size W w' := by
  obtain ⟨A, n, c, f, rfl, h0, hn, hf⟩ := i0
  obtain ⟨A2, n2, c2, f2, rfl, h1, hn2, hf2⟩ := i1
  have hw2 : ∀ i, i < n2 → Sym.LabOk (f2 i).lab ∧ U64 (f2 i).x.r.nx.bits := fun i hi => ⟨(hf2 i hi).2.2.1, (hf2 i hi).2.2.2.u64⟩
  have hwf : ∀ i, i < n → Sym.LabOk (f i).lab ∧ U64 (f i).x.r.nx.bits := fun i hi => ⟨(hf i hi).2.2.1, (hf i hi).2.2.2.u64⟩
  have S : Sym.Spec Try.prog 3 [Sym.rowsV A n c f, Sym.wntsV A2 n2 c2 f2] (fun _ => .bool .tt) := by
    cases hnew : newS (Sym.rwsA f n) with
    | none => exact Sym.lawDoes_no A n c f hn hwf A2 n2 c2 f2 hn2 hw2 hnew
    | some L => exact Sym.lawDoes_yes A n c f hn hwf A2 n2 c2 f2 hn2 hw2 hnew
  refine (S (fun _ _ => False) W (fun _ _ h => h.elim) (fun v hv => ?_)).mono ?_
  · simp only [List.mem_cons, List.not_mem_nil, or_false] at hv
    rcases hv with rfl | rfl
    · exact h0
    · exact h1
  · rintro e w' ⟨x, rfl, _, hb⟩
    exact ⟨rfl, hb⟩
end Go.Proofs.Ythpbihppfijegaa

namespace Go.Proofs.Ythpbihppfijegaa.shelfDoes
open Go.ChangeShapes Go.WideShapes Go.ChangeAt Go.RowKit
set_option linter.unusedVariables false

theorem own : ownKnob Try.prog.godebug = none := by kernel_rfl
theorem laidOut : laidOutB Try.prog = true := by kernel_rfl

set_option maxRecDepth 100000 in
theorem lifted (os : Os) (started : os.Started) (H : Type) (enc : TypeId × Value → H) :
    ReturnsInHanded {} Try.checked os 3 .any (Rows.shelfDoesSpec.pre6 enc Try.prog Try.f3 Rows.shelfDoesRow.domain false) (Rows.shelfDoesSpec.post enc Try.prog Try.f3 false true false false) := by
  refine returnsInHanded_of_change (C := Try.checked) own started (by kernel_rfl) Try.func3
    (ChangeSpec.witness6 (enc := enc) (C := Try.checked) false ⟨#[], #[.slice none 0 0, .slice none 0 0], []⟩ 8 (by kernel_rfl) (by kernel_rfl) (by kernel_rfl) (by kernel_rfl)) ?_
  intro W base args ds gs before hval0 hW hcnd _
  have hval : ∀ (j : Nat) t v, Try.f3.params[j]? = some t → args[j]? = some v → Value.okWide Try.prog W .any base t v := hval0
  have hW' := hW
  obtain ⟨p, q, hA0, hV, rfl, hfz, hnd⟩ := hW
  have hA : DataW.TrodAll enc Try.prog W 0 (fun _ => true) true Try.f3.params.toList args.toList ds p := hA0
  rw [Try.params3] at hA hval
  obtain ⟨v0, vs0, d0, ds0, p0, q0, hargs, rfl, rfl, h0, r0⟩ := trodAll_cons hA
  obtain ⟨v1, vs1, d1, ds1, p1, q1, rfl, rfl, rfl, h1, r1⟩ := trodAll_cons r0
  obtain ⟨rfl, rfl, rfl⟩ := trodAll_nil r1
  obtain rfl : args = #[v0, v1] := by cases args; simp_all
  obtain ⟨rfl, rfl⟩ := trodVars_none hV
  have lt0 : ∀ x ∈ p0, x.block < W.heap.size := by obtain ⟨m, hm⟩ := h0; exact DataW.trod_lt m _ _ _ hm
  have lt1 : ∀ x ∈ p1, x.block < W.heap.size := by obtain ⟨m, hm⟩ := h1; exact DataW.trod_lt m _ _ _ hm
  have i0 := Sym.in_rows (hval 0 22 v0 rfl rfl) h0
  have i1 := Sym.in_wnts (hval 1 23 v1 rfl rfl) h1
  clear hA0 hval0
  refine (walkShelfDoes W v0 v1 i0 i1).mono fun e W' ⟨he, bel⟩ => ?_
  subst he
  exact ⟨_, rfl, _, _, _, [], _, [], hW', trodAll_mk1 (shut_bool Try.underlying4 _), (trodAll_cons_mk (Below.trod laidOut (by kernel_rfl) (of_decide_eq_true (by kernel_rfl)) h0 bel lt0) (trodAll_cons_mk (Below.trod laidOut (by kernel_rfl) (of_decide_eq_true (by kernel_rfl)) h1 bel lt1) trodAll_mk0)), rfl, bel.frame _, fun h => by cases h⟩

theorem over : Rows.shelfDoesRow.holds Try.pinned (OpenSpec.ofChange Rows.shelfDoesSpec) :=
  OpenClaim.holds_of_wide 3 Try.f3 rfl rfl rfl rfl rfl rfl rfl ⟨rfl, rfl, rfl, rfl, rfl⟩ rfl rfl rfl rfl rfl (by kernel_rfl) Try.func3 (by kernel_rfl)
    (of_decide_eq_true (by kernel_rfl)) (by unfold Func.isWrapper; first | (rw [if_pos (by decide +kernel)]; kernel_rfl) | (rw [if_neg (by decide +kernel)]; exact ⟨rfl, rfl⟩))
    (fun os started H enc _ => lifted os started H enc)

theorem proved : Rows.ShelfDoesSaid := over
#print axioms proved
end Go.Proofs.Ythpbihppfijegaa.shelfDoes
