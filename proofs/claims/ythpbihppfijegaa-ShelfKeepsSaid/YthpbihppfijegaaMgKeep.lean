/-
  PlOnce, SymLwO, PlKeep, SymLwW, SymLwK, WalkShelfKeeps, ClaimShelfKeeps: put together by a program of mine (a claim may have 60 files at most). Conditions: none.
-/
import Derived.Test.YthpbihppfijegaaRows
import Derived.Test.YthpbihppfijegaaMgA1
import Derived.Test.YthpbihppfijegaaMgA2
import Derived.Test.YthpbihppfijegaaMgA3
import Derived.Test.YthpbihppfijegaaMgA4
import Derived.Test.YthpbihppfijegaaMgA
namespace Go.Proofs.Ythpbihppfijegaa
open Go Go.RowKit Sym
set_option linter.unusedVariables false
set_option linter.unusedSimpArgs false

theorem inc_ne (v : Int) : inc v ≠ v := by
  intro h
  have : (inc v) % 18446744073709551616 = (v + 1) % 18446744073709551616 := by
    unfold inc IntKind.wrap
    simp [IntKind.bits, IntKind.signed]
  rw [h] at this
  omega
theorem doL_get {L : Shf} {l : Lab} {v : Int} {r : Rec} : doL L ⟨1, l, v, r⟩ = if isL l = true then ⟨L, false, ⟨0, (spotOf L l).ver, (spotOf L l).has, (spotOf L l).r⟩, 0⟩ else ⟨L, false, zeroGot, 1⟩ := by
  unfold doL
  simp
theorem spot_put (L : Shf) (l : Lab) (x : Spo) : spotOf (putL l x L) l = x := by
  unfold spotOf; rw [find_put, if_pos rfl]; rfl
def GoodW (w : Wnt) : Prop := (w.kind = 1 ∨ w.kind = 2 ∨ w.kind = 3) ∧ isL w.lab = true ∧ (w.kind = 2 → isR w.r = true)
theorem doL_bad {L : Shf} {w : Wnt} (h : ¬ GoodW w) : doL L w = ⟨L, false, zeroGot, 1⟩ := if_neg h
theorem doL_old {L : Shf} {w : Wnt} (h : GoodW w) (hk : ¬ w.kind = 1) (hv : w.ver ≠ (spotOf L w.lab).ver) : doL L w = ⟨L, false, ⟨8, (spotOf L w.lab).ver, false, zeroRec⟩, 0⟩ := (if_pos h).trans ((if_neg hk).trans (if_pos hv))
theorem doL_full {L : Shf} {w : Wnt} (h : GoodW w) (hk : ¬ w.kind = 1) (hv : ¬ w.ver ≠ (spotOf L w.lab).ver) (hf : (findL w.lab L).isNone ∧ 2000 ≤ L.length) : doL L w = ⟨L, false, zeroGot, 12⟩ := (if_pos h).trans ((if_neg hk).trans ((if_neg hv).trans (if_pos hf)))
theorem doL_new {L : Shf} {w : Wnt} (h : GoodW w) (hk : ¬ w.kind = 1) (hv : ¬ w.ver ≠ (spotOf L w.lab).ver) (hf : ¬ ((findL w.lab L).isNone ∧ 2000 ≤ L.length)) : doL L w = ⟨putL w.lab (nextSpo w) L, true, ⟨0, inc w.ver, false, zeroRec⟩, 0⟩ := (if_pos h).trans ((if_neg hk).trans ((if_neg hv).trans (if_neg hf)))
theorem doL_see {L : Shf} {w : Wnt} (h : GoodW w) (hk : w.kind = 1) : doL L w = ⟨L, false, ⟨0, (spotOf L w.lab).ver, (spotOf L w.lab).has, (spotOf L w.lab).r⟩, 0⟩ := (if_pos h).trans (if_pos hk)
theorem doL_late {L : Shf} {l : Lab} {v : Int} {k : Int} {r : Rec} (hl : isL l = true) (hk : k = 2 ∨ k = 3) (hv : v ≠ (spotOf L l).ver) : (doL L ⟨k, l, v, r⟩).L = L ∧ (doL L ⟨k, l, v, r⟩).wrote = false ∧ ((doL L ⟨k, l, v, r⟩).err = 0 → (doL L ⟨k, l, v, r⟩).got.code = 8) ∧ (k = 3 → (doL L ⟨k, l, v, r⟩).err = 0) := by
  by_cases hg : GoodW ⟨k, l, v, r⟩
  · rw [doL_old hg (by simp only; omega) hv]
    exact ⟨rfl, rfl, fun _ => rfl, fun _ => rfl⟩
  · rw [doL_bad hg]
    refine ⟨rfl, rfl, fun h => absurd h (show ¬ (1 : Int) = 0 by decide), fun h3 => absurd ⟨.inr hk, hl, fun h2 => ?_⟩ hg⟩
    simp only at h2
    omega
theorem doL_err {L : Shf} {w : Wnt} (h : (doL L w).err ≠ 0) : (doL L w).wrote = false := by
  by_cases hg : GoodW w
  · by_cases hk : w.kind = 1
    · rw [doL_see hg hk] at h; exact absurd rfl h
    · by_cases hv : w.ver ≠ (spotOf L w.lab).ver
      · rw [doL_old hg hk hv]
      · by_cases hf : (findL w.lab L).isNone ∧ 2000 ≤ L.length
        · rw [doL_full hg hk hv hf]
        · rw [doL_new hg hk hv hf] at h; exact absurd rfl h
  · rw [doL_bad hg]
structure OnceL (l : Lab) (a b : Rec) (L : Shf) (D1 D2 D3 D4 D5 : Did) : Prop where
  w1 : D1.wrote = false
  no : (D1.err ≠ 0 ∨ D2.err ≠ 0) → D2.wrote = false
  w2 : D1.err = 0 → D2.err = 0 → D2.wrote = true
  c2 : D1.err = 0 → D2.err = 0 → D2.got.code = 0 ∧ D2.got.ver = inc D1.got.ver
  c3 : D1.err = 0 → D2.err = 0 → D3.wrote = false ∧ (D3.err = 0 → D3.got.code = 8)
  c4 : D1.err = 0 → D2.err = 0 → D4.wrote = false ∧ D4.err = 0 ∧ D4.got.code = 8
  c5 : D1.err = 0 → D2.err = 0 → D5.wrote = false ∧ D5.err = 0 ∧ D5.got.has = true ∧ D5.got.ver = D2.got.ver ∧ D5.got.r = a
theorem once_law {l : Lab} {a b z1 z4 z5 : Rec} {L : Shf} {v1 v2 v5 : Int} {D1 D2 D3 D4 D5 : Did} (h1 : D1 = doL L ⟨1, l, v1, z1⟩) (e2 : v2 = D1.got.ver) (h2 : D2 = doL D1.L ⟨2, l, v2, a⟩) (h3 : D3 = doL D2.L ⟨2, l, v2, b⟩) (h4 : D4 = doL D3.L ⟨3, l, v2, z4⟩) (h5 : D5 = doL D4.L ⟨1, l, v5, z5⟩) : OnceL l a b L D1 D2 D3 D4 D5 := by
  rw [doL_get] at h1 h5
  by_cases hl : isL l = true
  · rw [if_pos hl] at h1 h5
    have f1 : D1.L = L := by rw [h1]
    have f2 : v2 = (spotOf L l).ver := by rw [e2, h1]
    have f3 : D1.err = 0 := by rw [h1]
    have f4 : D1.wrote = false := by rw [h1]
    have f5 : D1.got.ver = (spotOf L l).ver := by rw [h1]
    rw [f1] at h2
    have key : D2.err = 0 → D2 = ⟨putL l ⟨inc v2, true, a⟩ L, true, ⟨0, inc v2, false, zeroRec⟩, 0⟩ := by
      intro he
      rw [h2] at he ⊢
      by_cases hg : GoodW ⟨2, l, v2, a⟩
      · have g2 : ¬ (2 : Int) = 1 := by decide
        have g3 : ¬ v2 ≠ (spotOf L l).ver := fun h => h f2
        by_cases hf : (findL l L).isNone ∧ 2000 ≤ L.length
        · rw [doL_full hg g2 g3 hf] at he; exact absurd he (show ¬ (12 : Int) = 0 by decide)
        · rw [doL_new hg g2 g3 hf]
          simp [nextSpo]
      · rw [doL_bad hg] at he; exact absurd he (show ¬ (1 : Int) = 0 by decide)
    have late : D2.err = 0 → spotOf D2.L l = ⟨inc v2, true, a⟩ := fun he => by rw [key he]; exact spot_put _ _ _
    have l3 := fun he => doL_late (L := D2.L) (r := b) (k := 2) hl (.inl rfl) (show v2 ≠ (spotOf D2.L l).ver by rw [late he]; exact (inc_ne v2).symm)
    rw [← h3] at l3
    have s3 : D2.err = 0 → spotOf D3.L l = ⟨inc v2, true, a⟩ := fun he => by rw [(l3 he).1]; exact late he
    have l4 := fun he => doL_late (L := D3.L) (r := z4) (k := 3) hl (.inr rfl) (show v2 ≠ (spotOf D3.L l).ver by rw [s3 he]; exact (inc_ne v2).symm)
    rw [← h4] at l4
    have s4 : D2.err = 0 → spotOf D4.L l = ⟨inc v2, true, a⟩ := fun he => by rw [(l4 he).1]; exact s3 he
    refine ⟨f4, fun h => ?_, fun _ he => by rw [key he], fun _ he => ?_, fun _ he => ⟨(l3 he).2.1, (l3 he).2.2.1⟩, fun _ he => ⟨(l4 he).2.1, (l4 he).2.2.2 rfl, (l4 he).2.2.1 ((l4 he).2.2.2 rfl)⟩, fun _ he => ?_⟩
    · rcases h with h | h
      · exact absurd f3 h
      · rw [h2] at h ⊢; exact doL_err h
    · rw [key he, f5, f2]; exact ⟨rfl, rfl⟩
    · rw [h5, s4 he, key he]; exact ⟨rfl, rfl, rfl, rfl, rfl⟩
  · rw [if_neg hl] at h1 h5
    have f3 : D1.err = 1 := by rw [h1]
    have n0 : ¬ D1.err = 0 := by rw [f3]; decide
    refine ⟨by rw [h1], fun _ => ?_, fun h => absurd h n0, fun h => absurd h n0, fun h => absurd h n0, fun h => absurd h n0, fun h => absurd h n0⟩
    rw [h2, doL_bad fun h => hl h.2.1]
end Go.Proofs.Ythpbihppfijegaa

namespace Go.Proofs.Ythpbihppfijegaa.Sym
open Go Go.RowKit
set_option maxRecDepth 100000
set_option maxHeartbeats 1600000
set_option linter.unusedVariables false
set_option linter.unusedSimpArgs false
theorem or3 : ∀ a b c : Bool, (if (if a = true then true else b) = true then true else c) = false → (a || b || c) = false := by decide
theorem bigs_ff {n : Nat} {f : Nat → RowA} (h : (if n ≤ 300 then bigS n f else true) = false) : n ≤ 300 ∧ ∀ i, i < n → (f i).x.r.n ≤ 40 := by
  by_cases hn : n ≤ 300
  · rw [if_pos hn] at h
    refine ⟨hn, fun i hi => ?_⟩
    unfold bigS at h
    simp only [Bool.or_eq_false_iff] at h
    exact bigF_len (anyB_false h.1.2 i hi)
  · rw [if_neg hn] at h; cases h
theorem new_wf {n : Nat} {f : Nat → RowA} (hb : n ≤ 300 ∧ ∀ i, i < n → (f i).x.r.n ≤ 40) (hwf : ∀ i, i < n → LabOk (f i).lab ∧ U64 (f i).x.r.nx.bits) (hu : ∀ l, LabOk l → U64 l.bits) : ∀ i, i < n → (f i).x.r.n ≤ 1000000 ∧ LabOk (f i).lab ∧ U64 (f i).lab.bits ∧ U64 (f i).x.r.nx.bits := fun i hi => ⟨by have := hb.2 i hi; omega, (hwf i hi).1, hu _ (hwf i hi).1, (hwf i hi).2⟩
theorem lab_u64 (l : Lab) (h : LabOk l) : U64 l.bits := by
  have := h.2
  simp [Lit.wf, IntKind.min, IntKind.max, IntKind.signed, IntKind.bits] at this
  exact ⟨by omega, by omega⟩
theorem rws_lab {n : Nat} {f : Nat → RowA} (hwf : ∀ i, i < n → LabOk (f i).lab ∧ U64 (f i).x.r.nx.bits) : ∀ r ∈ rwsA f n, LabOk r.lab := by
  intro r hr
  obtain ⟨i, hi, rfl⟩ := List.mem_map.1 hr
  exact (hwf i (List.mem_range.1 hi)).1
theorem rec_len {m : Nat → Nat → Prop} {w : World} {x : RA} (h : Ok m w (recV x)) : x.r.n ≤ maxLen := by
  cases h with | agg _ h1 h2 =>
    have := ok_len (h2 (.sl none x.A x.r.n x.c 2 (fun i => itC (x.r.f i))) (by simp))
    omega
theorem got_len {m : Nat → Nat → Prop} {w : World} {A : Option Addr} {n c : Nat} {f : Nat → Itm} (h : Ok m w (.sl none A n c 2 (fun i => itC (f i)))) : n ≤ maxLen := by
  have := ok_len h
  omega
theorem once12 {l : Lab} {z1 a : Rec} {L L1 : Shf} {v1 v2 er1 er2 : Int} {D1 D2 : Did} (h1 : D1 = doL L ⟨1, l, v1, z1⟩) (h2 : D2 = doL L1 ⟨2, l, v2, a⟩) (hL : L1 = D1.L) (e1 : er1 = D1.err) (e2 : er2 = D2.err) (h : er1 ≠ 0 ∨ er2 ≠ 0) : D1.wrote = false ∧ D2.wrote = false := by
  rw [doL_get] at h1
  by_cases hl : isL l = true
  · rw [if_pos hl] at h1
    have : D1.err = 0 := by rw [h1]
    refine ⟨by rw [h1], ?_⟩
    rw [h2] at e2 ⊢
    refine doL_err ?_
    rcases h with h | h
    · exact absurd (e1.trans this) h
    · rw [← e2]; exact h
  · rw [if_neg hl] at h1
    exact ⟨by rw [h1], by rw [h2, doL_bad fun h => hl h.2.1]⟩
def T4 : List (Nat × TI) := [(3, ti3), (4, ti4), (22, ti22), (26, ti26), (27, ti27), (33, ti33), (36, ti36), (38, ti38), (40, ti40), (46, ti46)]
theorem T4_ok : TabOK Try.prog T4 := .cons t3 (.cons t4 (.cons t22 (.cons t26 (.cons t27 (.cons t33 (.cons t36 (.cons t38 (.cons t40 (.cons t46 (.nil))))))))))
theorem enters4 : Enters Try.prog 4 := fun _ _ => by kernel_rfl
theorem lawOnce_no (A : Option Addr) (n c : Nat) (f : Nat → RowA) (hn : n ≤ maxLen) (hwf : ∀ i, i < n → LabOk (f i).lab ∧ U64 (f i).x.r.nx.bits) (l : Lab) (a b : RA) (hLB : LabOk l) (hua : U64 a.r.nx.bits) (hub : U64 b.r.nx.bits) (hnew : newS (rwsA f n) = none) : Spec Try.prog 4 [rowsV A n c f, labAV l, recV a, recV b] (fun _ => .bool .tt) := by
  intro m w hm hargs
  have hmx : maxLen = 9223372036854775807 := rfl
  have S1 := bigs_s A n c f hn
  obtain ⟨bl, hbl⟩ : ∃ q, q = (if n ≤ 300 then bigS n f else true) := ⟨_, rfl⟩
  rw [← hbl] at S1
  have han : a.r.n ≤ maxLen := rec_len (hargs (recV a) (by simp))
  have hbn : b.r.n ≤ maxLen := rec_len (hargs (recV b) (by simp))
  have S2 := big_s a.A a.r.n a.c a.r.f han a.r.kd a.r.nx a.r.mrk
  have S3 := big_s b.A b.r.n b.c b.r.f hbn b.r.kd b.r.nx b.r.mrk
  simp only [recI, rowI] at S2 S3
  obtain ⟨ba, hba⟩ : ∃ q, q = bigF a.r.n a.r.f := ⟨_, rfl⟩
  rw [← hba] at S2
  obtain ⟨bb, hbb⟩ : ∃ q, q = bigF b.r.n b.r.f := ⟨_, rfl⟩
  rw [← hbb] at S3
  have hul := lab_u64 l hLB
  simp only [labAV] at hargs ⊢
  refine enter hm hargs Try.func4 rfl (by simp [Try.ntmps4]) fun a0 hF => ?_
  simp only [Try.ntmps4, startT] at hF
  obtain ⟨B, hB⟩ : ∃ B, B = std := ⟨_, rfl⟩
  refine wp_seq ?_
  apply region_okB hB T4_ok [0, 5, 6, 7] [5, 6, 7] [] hF
  case hex => intro A X; conv => lhs; cbv
  case hob =>
    intro X
    subst hB
    simp only [AllOb, Ob.holds, BE.den, List.mem_cons, List.not_mem_nil, or_false, forall_eq_or_imp, forall_eq] <;> (and_intros <;> first | trivial | rfl | (intro h; first | trivial | rfl))
  case hQ =>
  intro X0 a0 w1 hF
  refine wp_seq ?_
  refine wp_seq ?_
  apply region_okB hB T4_ok [30, 0, 5, 6, 7] [5, 6, 7] [(1, .r fun _ => .bool (.v bl)), (4, .r fun _ => .bool (.v ba)), (8, .r fun _ => .bool (.v bb))] hF
  case hex => intro A X; conv => lhs; cbv
  case hob =>
    intro X
    subst hB
    simp only [AllOb, Ob.holds, BE.den, List.mem_cons, List.not_mem_nil, or_false, forall_eq_or_imp, forall_eq] <;> (and_intros <;> first | trivial | rfl | exact enters8 | exact S1 | exact enters20 | exact S2 | exact enters20 | exact S3 | (intro h; first | trivial | rfl | exact ⟨enters8, S1⟩ | exact ⟨enters20, S2⟩ | exact ⟨enters20, S3⟩))
  case hQ =>
  intro X1 a0 w1 hF
  refine test_ok hF rfl (fun hb hF => ?_) (fun hb hF => ?_)
  · skip
    refine wp_seq ?_
    apply region_okB hB T4_ok [8] [] [] hF
    case hex => intro A X; conv => lhs; cbv
    case hob =>
      intro X
      subst hB
      simp only [AllOb, Ob.holds, BE.den, List.mem_cons, List.not_mem_nil, or_false, forall_eq_or_imp, forall_eq] <;> (and_intros <;> first | trivial | rfl | (intro h; first | trivial | rfl))
    case hQ =>
    intro X2 a0 w1 hF
    refine wp_ret ?_
    refine ret_sim (fn := Try.f4) T4_ok hF (rs := [.tmp 8]) rfl (rfl) ?_ noAtom ?_
    · simp [AllOb, Ob.holds]
    · subst hB
      exact Sim.bool rfl
  · skip
    have hb0 : (bl || ba || bb) = false := by
      have h9 : (if (if bl = true then true else ba) = true then true else bb) = false := by subst hB; exact hb
      exact or3 _ _ _ h9
    simp only [Bool.or_eq_false_iff] at hb0
    have hb1 := bigs_ff (hbl ▸ hb0.1.1)
    have ha40 : a.r.n ≤ 40 := bigF_len (f := a.r.f) (hba ▸ hb0.1.2)
    have hb40 : b.r.n ≤ 40 := bigF_len (f := b.r.f) (hbb ▸ hb0.2)
    have hN := new_wf hb1 hwf lab_u64
    refine wp_skip ?_
    refine wp_seq ?_
    refine wp_region_lit ?_
    apply list_preB 0 1 hB T4_ok [32, 5, 6, 7] [5, 6, 7] [] hF
    case hex => intro A X; conv => lhs; cbv
    case hob =>
      intro X
      subst hB
      simp only [AllOb, Ob.holds, BE.den, List.mem_cons, List.not_mem_nil, or_false, forall_eq_or_imp, forall_eq] <;> (and_intros <;> first | trivial | rfl | (intro h; first | trivial | rfl))
    case hQ =>
    intro X3_0 a0 w1 hF
    have SN := new_no A n c f hn hN hnew
    refine man_callM rfl rfl rfl rfl hF rfl rfl enters10 SN (fun _ _ _ => trivial) (fun b hb => by cases hb) (SimL.refl _) (by intro e he; cases he) rfl rfl (fun y => noK) (fun _ _ _ _ _ _ _ _ _ _ => trivial) ?_
    intro y a0 w1 hF
    apply list_endB 2 hB T4_ok [9, 10, 5, 6, 7] [5, 6, 7] [] hF
    case hex => intro A X; conv => lhs; cbv
    case hob =>
      intro X
      subst hB
      simp only [AllOb, Ob.holds, BE.den, List.mem_cons, List.not_mem_nil, or_false, forall_eq_or_imp, forall_eq] <;> (and_intros <;> first | trivial | rfl | (intro h; first | trivial | rfl))
    case hQ =>
    intro X3 a0 w1 hF
    refine wp_seq ?_
    refine wp_seq ?_
    apply region_okB hB T4_ok [37, 9, 10, 5, 6, 7] [5, 6, 7] [] hF
    case hex => intro A X; conv => lhs; cbv
    case hob =>
      intro X
      subst hB
      simp only [AllOb, Ob.holds, BE.den, List.mem_cons, List.not_mem_nil, or_false, forall_eq_or_imp, forall_eq] <;> (and_intros <;> first | trivial | rfl | (intro h; first | trivial | rfl))
    case hQ =>
    intro X4 a0 w1 hF
    refine test_tt hF rfl (fun hF => ?_)
    refine wp_seq ?_
    apply region_okB hB T4_ok [8] [] [(0, .r fun _ => .bool .tt)] hF
    case hex => intro A X; conv => lhs; cbv
    case hob =>
      intro X
      subst hB
      simp only [AllOb, Ob.holds, BE.den, List.mem_cons, List.not_mem_nil, or_false, forall_eq_or_imp, forall_eq] <;> (and_intros <;> first | trivial | rfl | exact enters16 | exact shelved_s | (intro h; first | trivial | rfl | exact ⟨enters16, shelved_s⟩))
    case hQ =>
    intro X5 a0 w1 hF
    refine wp_ret ?_
    refine ret_sim (fn := Try.f4) T4_ok hF (rs := [.tmp 8]) rfl (rfl) ?_ noAtom ?_
    · simp [AllOb, Ob.holds]
    · subst hB
      refine Sim.bool ?_
      simp [std, stdCmp, BE.den, canB]
theorem lawOnce_yes (A : Option Addr) (n c : Nat) (f : Nat → RowA) (hn : n ≤ maxLen) (hwf : ∀ i, i < n → LabOk (f i).lab ∧ U64 (f i).x.r.nx.bits) (l : Lab) (a b : RA) (hLB : LabOk l) (hua : U64 a.r.nx.bits) (hub : U64 b.r.nx.bits) {L : Shf} (hnew : newS (rwsA f n) = some L) : Spec Try.prog 4 [rowsV A n c f, labAV l, recV a, recV b] (fun _ => .bool .tt) := by
  intro m w hm hargs
  have hmx : maxLen = 9223372036854775807 := rfl
  have S1 := bigs_s A n c f hn
  obtain ⟨bl, hbl⟩ : ∃ q, q = (if n ≤ 300 then bigS n f else true) := ⟨_, rfl⟩
  rw [← hbl] at S1
  have han : a.r.n ≤ maxLen := rec_len (hargs (recV a) (by simp))
  have hbn : b.r.n ≤ maxLen := rec_len (hargs (recV b) (by simp))
  have S2 := big_s a.A a.r.n a.c a.r.f han a.r.kd a.r.nx a.r.mrk
  have S3 := big_s b.A b.r.n b.c b.r.f hbn b.r.kd b.r.nx b.r.mrk
  simp only [recI, rowI] at S2 S3
  obtain ⟨ba, hba⟩ : ∃ q, q = bigF a.r.n a.r.f := ⟨_, rfl⟩
  rw [← hba] at S2
  obtain ⟨bb, hbb⟩ : ∃ q, q = bigF b.r.n b.r.f := ⟨_, rfl⟩
  rw [← hbb] at S3
  have hul := lab_u64 l hLB
  simp only [labAV] at hargs ⊢
  refine enter hm hargs Try.func4 rfl (by simp [Try.ntmps4]) fun a0 hF => ?_
  simp only [Try.ntmps4, startT] at hF
  obtain ⟨B, hB⟩ : ∃ B, B = std := ⟨_, rfl⟩
  refine wp_seq ?_
  apply region_okB hB T4_ok [0, 5, 6, 7] [5, 6, 7] [] hF
  case hex => intro A X; conv => lhs; cbv
  case hob =>
    intro X
    subst hB
    simp only [AllOb, Ob.holds, BE.den, List.mem_cons, List.not_mem_nil, or_false, forall_eq_or_imp, forall_eq] <;> (and_intros <;> first | trivial | rfl | (intro h; first | trivial | rfl))
  case hQ =>
  intro X0 a0 w1 hF
  refine wp_seq ?_
  refine wp_seq ?_
  apply region_okB hB T4_ok [30, 0, 5, 6, 7] [5, 6, 7] [(1, .r fun _ => .bool (.v bl)), (4, .r fun _ => .bool (.v ba)), (8, .r fun _ => .bool (.v bb))] hF
  case hex => intro A X; conv => lhs; cbv
  case hob =>
    intro X
    subst hB
    simp only [AllOb, Ob.holds, BE.den, List.mem_cons, List.not_mem_nil, or_false, forall_eq_or_imp, forall_eq] <;> (and_intros <;> first | trivial | rfl | exact enters8 | exact S1 | exact enters20 | exact S2 | exact enters20 | exact S3 | (intro h; first | trivial | rfl | exact ⟨enters8, S1⟩ | exact ⟨enters20, S2⟩ | exact ⟨enters20, S3⟩))
  case hQ =>
  intro X1 a0 w1 hF
  refine test_ok hF rfl (fun hb hF => ?_) (fun hb hF => ?_)
  · skip
    refine wp_seq ?_
    apply region_okB hB T4_ok [8] [] [] hF
    case hex => intro A X; conv => lhs; cbv
    case hob =>
      intro X
      subst hB
      simp only [AllOb, Ob.holds, BE.den, List.mem_cons, List.not_mem_nil, or_false, forall_eq_or_imp, forall_eq] <;> (and_intros <;> first | trivial | rfl | (intro h; first | trivial | rfl))
    case hQ =>
    intro X2 a0 w1 hF
    refine wp_ret ?_
    refine ret_sim (fn := Try.f4) T4_ok hF (rs := [.tmp 8]) rfl (rfl) ?_ noAtom ?_
    · simp [AllOb, Ob.holds]
    · subst hB
      exact Sim.bool rfl
  · skip
    have hb0 : (bl || ba || bb) = false := by
      have h9 : (if (if bl = true then true else ba) = true then true else bb) = false := by subst hB; exact hb
      exact or3 _ _ _ h9
    simp only [Bool.or_eq_false_iff] at hb0
    have hb1 := bigs_ff (hbl ▸ hb0.1.1)
    have ha40 : a.r.n ≤ 40 := bigF_len (f := a.r.f) (hba ▸ hb0.1.2)
    have hb40 : b.r.n ≤ 40 := bigF_len (f := b.r.f) (hbb ▸ hb0.2)
    have hN := new_wf hb1 hwf lab_u64
    refine wp_skip ?_
    refine wp_seq ?_
    refine wp_region_lit ?_
    apply list_preB 0 1 hB T4_ok [32, 5, 6, 7] [5, 6, 7] [] hF
    case hex => intro A X; conv => lhs; cbv
    case hob =>
      intro X
      subst hB
      simp only [AllOb, Ob.holds, BE.den, List.mem_cons, List.not_mem_nil, or_false, forall_eq_or_imp, forall_eq] <;> (and_intros <;> first | trivial | rfl | (intro h; first | trivial | rfl))
    case hQ =>
    intro X3_0 a0 w1 hF
    have SN := new_yes A n c f hn hN 200 hnew
    have hok0 : ShfOk L := newS_ok (rws_lab hwf) hnew
    refine man_callM rfl rfl rfl rfl hF rfl rfl enters10 (SN) (fun _ _ _ => trivial) (fun b hb => by cases hb) (SimL.refl _) (by intro e he; cases he) rfl rfl (fun y => shF w.heap.size (y.c 0) L) (fun n x m w m' w' hn _ _ h => ⟨Nat.le_trans hn h.1, h.2⟩) ?_
    intro y a0 w1 hF
    obtain ⟨sb, hsb⟩ : ∃ b, b = y.b := ⟨_, rfl⟩
    obtain ⟨bM, hbM⟩ : ∃ b, b = y.c 0 := ⟨_, rfl⟩
    rw [← hsb, ← hbM] at hF
    have hbfr : w.heap.size ≤ bM := hF.kept.1
    replace hF := hF.withK (K' := shK bM L) hF.kept.2
    apply list_endB 2 hB T4_ok [9, 10, 5, 6, 7] [5, 6, 7, 200] [] hF
    case hex => intro A X; conv => lhs; cbv
    case hob =>
      intro X
      subst hB
      simp only [AllOb, Ob.holds, BE.den, List.mem_cons, List.not_mem_nil, or_false, forall_eq_or_imp, forall_eq] <;> (and_intros <;> first | trivial | rfl | (intro h; first | trivial | rfl))
    case hQ =>
    intro X3 a0 w1 hF
    refine wp_seq ?_
    refine wp_seq ?_
    apply region_okB hB T4_ok [37, 9, 10, 5, 6, 7] [5, 6, 7, 200] [] hF
    case hex => intro A X; conv => lhs; cbv
    case hob =>
      intro X
      subst hB
      simp only [AllOb, Ob.holds, BE.den, List.mem_cons, List.not_mem_nil, or_false, forall_eq_or_imp, forall_eq] <;> (and_intros <;> first | trivial | rfl | (intro h; first | trivial | rfl))
    case hQ =>
    intro X4 a0 w1 hF
    refine test_ff hF rfl (fun hF => ?_)
    refine wp_skip ?_
    refine wp_seq ?_
    refine wp_region_lit ?_
    apply list_preB 0 3 hB T4_ok [44, 46, 9, 5, 6, 7] [5, 6, 7, 200] [] hF
    case hex => intro A X; conv => lhs; cbv
    case hob =>
      intro X
      subst hB
      simp only [AllOb, Ob.holds, BE.den, List.mem_cons, List.not_mem_nil, or_false, forall_eq_or_imp, forall_eq] <;> (and_intros <;> first | trivial | rfl | (intro h; first | trivial | rfl))
    case hQ =>
    intro X6_0 a0 w1 hF
    have SD := do_m 200 sb bM L (by have := hok0.len; omega) 0 ⟨1, l, 0, zRA, ⟨0, false, .empty, none, 0, 0, fun _ => zeroItm, 0, false⟩⟩ (Nat.zero_le _) hLB hul ⟨Int.le_refl 0, show (0 : Int) < 18446744073709551616 by decide⟩
    obtain ⟨D1, hD1⟩ : ∃ D, D = doL L (WntA.abs ⟨1, l, 0, zRA, ⟨0, false, .empty, none, 0, 0, fun _ => zeroItm, 0, false⟩⟩) := ⟨_, rfl⟩
    rw [← hD1] at SD
    obtain ⟨GG1, hGG1⟩ : ∃ G : Atom → GotA, G = fun y => gotA y D1.got := ⟨_, rfl⟩
    have hGf1 : ∀ y, gotA y D1.got = GG1 y := fun y => by rw [hGG1]
    simp only [hGf1] at SD
    obtain ⟨k1, hk1⟩ : ∃ z, z = (if D1.wrote then IntKind.i64.wrap (0 + 1) else 0) := ⟨_, rfl⟩
    rw [← hk1] at SD
    obtain ⟨er1, her1⟩ : ∃ z, z = D1.err := ⟨_, rfl⟩
    rw [← her1] at SD
    obtain ⟨L1, hL1⟩ : ∃ z, z = D1.L := ⟨_, rfl⟩
    rw [← hL1] at SD
    refine man_callM rfl rfl rfl rfl hF rfl rfl enters12 SD (fun _ _ h => h) (fun b hb => by cases hb; exact fun h => absurd h (Nat.not_lt.2 hbfr)) ⟨Sim.refl _, Sim.agg (by repeat (first | exact trivial | refine ⟨Sim.refl _, ?_⟩ | refine ⟨Sim.ff, ?_⟩ | refine ⟨Sim.recell (fun i hi => absurd hi (Nat.not_lt_zero _)), ?_⟩)), trivial⟩ (by intro e he; simp only [List.mem_singleton] at he; subst he; rfl) rfl rfl (fun _ => shK bM L1) (fun _ _ _ _ _ _ _ _ _ h => h) ?_
    intro y a0 w1 hF
    obtain ⟨g1, hg1⟩ : ∃ g, g = GG1 y := ⟨_, rfl⟩
    rw [← hg1] at hF
    replace hF := hF.withK (K' := shK bM L1) hF.kept
    have hga1 : g1.abs = D1.got := by rw [hg1, ← hGf1, gotA_abs]
    have hok1 : ShfOk L1 := by rw [hL1, hD1]; exact doL_ok hok0 hLB
    apply list_endB 4 hB T4_ok [9, 5, 6, 7, 11, 12] [5, 6, 7, 200, 11] [] hF
    case hex => intro A X; conv => lhs; cbv
    case hob =>
      intro X
      subst hB
      simp only [AllOb, Ob.holds, BE.den, List.mem_cons, List.not_mem_nil, or_false, forall_eq_or_imp, forall_eq] <;> (and_intros <;> first | trivial | rfl | (intro h; first | trivial | rfl))
    case hQ =>
    intro X6 a0 w1 hF
    refine wp_seq ?_
    refine wp_region_lit ?_
    apply list_preB 0 6 hB T4_ok [51, 56, 9, 5, 6, 7, 11, 12] [5, 6, 7, 200, 11] [] hF
    case hex => intro A X; conv => lhs; cbv
    case hob =>
      intro X
      subst hB
      simp only [AllOb, Ob.holds, BE.den, List.mem_cons, List.not_mem_nil, or_false, forall_eq_or_imp, forall_eq] <;> (and_intros <;> first | trivial | rfl | (intro h; first | trivial | rfl))
    case hQ =>
    intro X7_0 a0 w1 hF
    have SD := do_m 200 sb bM L1 (by have := hok1.len; omega) k1 ⟨2, l, g1.ver, a, ⟨0, false, .empty, none, 0, 0, fun _ => zeroItm, 0, false⟩⟩ (by simp only; omega) hLB hul hua
    obtain ⟨D2, hD2⟩ : ∃ D, D = doL L1 (WntA.abs ⟨2, l, g1.ver, a, ⟨0, false, .empty, none, 0, 0, fun _ => zeroItm, 0, false⟩⟩) := ⟨_, rfl⟩
    rw [← hD2] at SD
    obtain ⟨GG2, hGG2⟩ : ∃ G : Atom → GotA, G = fun y => gotA y D2.got := ⟨_, rfl⟩
    have hGf2 : ∀ y, gotA y D2.got = GG2 y := fun y => by rw [hGG2]
    simp only [hGf2] at SD
    obtain ⟨k2, hk2⟩ : ∃ z, z = (if D2.wrote then IntKind.i64.wrap (k1 + 1) else k1) := ⟨_, rfl⟩
    rw [← hk2] at SD
    obtain ⟨er2, her2⟩ : ∃ z, z = D2.err := ⟨_, rfl⟩
    rw [← her2] at SD
    obtain ⟨L2, hL2⟩ : ∃ z, z = D2.L := ⟨_, rfl⟩
    rw [← hL2] at SD
    refine man_callM rfl rfl rfl rfl hF rfl rfl enters12 SD (fun _ _ h => h) (fun b hb => by cases hb; exact fun h => absurd h (Nat.not_lt.2 hbfr)) ⟨Sim.refl _, Sim.agg (by repeat (first | exact trivial | refine ⟨Sim.refl _, ?_⟩ | refine ⟨Sim.ff, ?_⟩ | refine ⟨Sim.recell (fun i hi => absurd hi (Nat.not_lt_zero _)), ?_⟩)), trivial⟩ (by intro e he; simp only [List.mem_singleton] at he; subst he; rfl) rfl rfl (fun _ => shK bM L2) (fun _ _ _ _ _ _ _ _ _ h => h) ?_
    intro y a0 w1 hF
    obtain ⟨g2, hg2⟩ : ∃ g, g = GG2 y := ⟨_, rfl⟩
    rw [← hg2] at hF
    replace hF := hF.withK (K' := shK bM L2) hF.kept
    have hga2 : g2.abs = D2.got := by rw [hg2, ← hGf2, gotA_abs]
    have hok2 : ShfOk L2 := by rw [hL2, hD2]; exact doL_ok hok1 hLB
    apply list_endB 7 hB T4_ok [9, 5, 6, 7, 11, 12, 13, 14] [5, 6, 7, 200, 11, 13] [] hF
    case hex => intro A X; conv => lhs; cbv
    case hob =>
      intro X
      subst hB
      simp only [AllOb, Ob.holds, BE.den, List.mem_cons, List.not_mem_nil, or_false, forall_eq_or_imp, forall_eq] <;> (and_intros <;> first | trivial | rfl | (intro h; first | trivial | rfl))
    case hQ =>
    intro X7 a0 w1 hF
    have SW := writes_r (shK bM L2) 200 sb bM k2
    refine wp_seq ?_
    refine wp_seq ?_
    apply region_okB hB T4_ok [65, 9, 5, 6, 7, 11, 12, 13, 14] [5, 6, 7, 200, 11, 13] [] hF
    case hex => intro A X; conv => lhs; cbv
    case hob =>
      intro X
      subst hB
      simp only [AllOb, Ob.holds, BE.den, List.mem_cons, List.not_mem_nil, or_false, forall_eq_or_imp, forall_eq] <;> (and_intros <;> first | trivial | rfl | (intro h; first | trivial | rfl))
    case hQ =>
    intro X8 a0 w1 hF
    refine test_ok hF rfl (fun hb hF => ?_) (fun hb hF => ?_)
    · skip
      have her : er1 ≠ 0 ∨ er2 ≠ 0 := by
        have h9 : (if (er1 != 0) = true then true else (er2 != 0)) = true := by subst hB; exact hb
        by_cases h1 : er1 = 0
        · rw [if_neg (by simp [h1])] at h9; exact .inr (by simpa using h9)
        · exact .inl h1
      have hz1 := once12 hD1 hD2 hL1 her1 her2 her
      have hk0 : k2 = 0 := by rw [hk2, hz1.2, hk1, hz1.1]; rfl
      refine wp_seq ?_
      apply region_okB hB T4_ok [8] [] [(0, .r fun _ => .bool .tt), (3, .g [200] fun _ => .int .i64 k2)] hF
      case hex => intro A X; conv => lhs; cbv
      case hob =>
        intro X
        subst hB
        simp only [AllOb, Ob.holds, BE.den, List.mem_cons, List.not_mem_nil, or_false, forall_eq_or_imp, forall_eq] <;> (and_intros <;> first | trivial | rfl | exact enters16 | exact shelved_s | exact enters15 | exact SW | (intro h; first | trivial | rfl | exact ⟨enters16, shelved_s⟩ | exact ⟨enters15, SW⟩))
      case hQ =>
      intro X9 a0 w1 hF
      refine wp_ret ?_
      refine ret_sim (fn := Try.f4) T4_ok hF (rs := [.tmp 8]) rfl (rfl) ?_ noAtom ?_
      · simp [AllOb, Ob.holds]
      · subst hB
        refine Sim.bool ?_
        simp [std, stdCmp, BE.den, canB, hk0]
    · skip
      have her : er1 = 0 ∧ er2 = 0 := by
        have h9 : (if (er1 != 0) = true then true else (er2 != 0)) = false := by subst hB; exact hb
        by_cases h1 : er1 = 0
        · rw [if_neg (by simp [h1])] at h9; exact ⟨h1, by simpa using h9⟩
        · rw [if_pos (by simpa using h1)] at h9; cases h9
      refine wp_skip ?_
      refine wp_seq ?_
      refine wp_region_lit ?_
      apply list_preB 0 6 hB T4_ok [73, 78, 9, 5, 6, 7, 11, 13] [5, 6, 7, 200, 11, 13] [] hF
      case hex => intro A X; conv => lhs; cbv
      case hob =>
        intro X
        subst hB
        simp only [AllOb, Ob.holds, BE.den, List.mem_cons, List.not_mem_nil, or_false, forall_eq_or_imp, forall_eq] <;> (and_intros <;> first | trivial | rfl | (intro h; first | trivial | rfl))
      case hQ =>
      intro X10_0 a0 w1 hF
      have SD := do_m 200 sb bM L2 (by have := hok2.len; omega) k2 ⟨2, l, g1.ver, b, ⟨0, false, .empty, none, 0, 0, fun _ => zeroItm, 0, false⟩⟩ (by simp only; omega) hLB hul hub
      obtain ⟨D3, hD3⟩ : ∃ D, D = doL L2 (WntA.abs ⟨2, l, g1.ver, b, ⟨0, false, .empty, none, 0, 0, fun _ => zeroItm, 0, false⟩⟩) := ⟨_, rfl⟩
      rw [← hD3] at SD
      obtain ⟨GG3, hGG3⟩ : ∃ G : Atom → GotA, G = fun y => gotA y D3.got := ⟨_, rfl⟩
      have hGf3 : ∀ y, gotA y D3.got = GG3 y := fun y => by rw [hGG3]
      simp only [hGf3] at SD
      obtain ⟨k3, hk3⟩ : ∃ z, z = (if D3.wrote then IntKind.i64.wrap (k2 + 1) else k2) := ⟨_, rfl⟩
      rw [← hk3] at SD
      obtain ⟨er3, her3⟩ : ∃ z, z = D3.err := ⟨_, rfl⟩
      rw [← her3] at SD
      obtain ⟨L3, hL3⟩ : ∃ z, z = D3.L := ⟨_, rfl⟩
      rw [← hL3] at SD
      refine man_callM rfl rfl rfl rfl hF rfl rfl enters12 SD (fun _ _ h => h) (fun b hb => by cases hb; exact fun h => absurd h (Nat.not_lt.2 hbfr)) ⟨Sim.refl _, Sim.agg (by repeat (first | exact trivial | refine ⟨Sim.refl _, ?_⟩ | refine ⟨Sim.ff, ?_⟩ | refine ⟨Sim.recell (fun i hi => absurd hi (Nat.not_lt_zero _)), ?_⟩)), trivial⟩ (by intro e he; simp only [List.mem_singleton] at he; subst he; rfl) rfl rfl (fun _ => shK bM L3) (fun _ _ _ _ _ _ _ _ _ h => h) ?_
      intro y a0 w1 hF
      obtain ⟨g3, hg3⟩ : ∃ g, g = GG3 y := ⟨_, rfl⟩
      rw [← hg3] at hF
      replace hF := hF.withK (K' := shK bM L3) hF.kept
      have hga3 : g3.abs = D3.got := by rw [hg3, ← hGf3, gotA_abs]
      have hok3 : ShfOk L3 := by rw [hL3, hD3]; exact doL_ok hok2 hLB
      apply list_endB 7 hB T4_ok [9, 5, 6, 7, 11, 13, 15, 16] [5, 6, 7, 200, 11, 13, 15] [] hF
      case hex => intro A X; conv => lhs; cbv
      case hob =>
        intro X
        subst hB
        simp only [AllOb, Ob.holds, BE.den, List.mem_cons, List.not_mem_nil, or_false, forall_eq_or_imp, forall_eq] <;> (and_intros <;> first | trivial | rfl | (intro h; first | trivial | rfl))
      case hQ =>
      intro X10 a0 w1 hF
      refine wp_seq ?_
      refine wp_region_lit ?_
      apply list_preB 0 5 hB T4_ok [83, 87, 9, 5, 6, 11, 13, 15, 16] [5, 6, 200, 11, 13, 15] [] hF
      case hex => intro A X; conv => lhs; cbv
      case hob =>
        intro X
        subst hB
        simp only [AllOb, Ob.holds, BE.den, List.mem_cons, List.not_mem_nil, or_false, forall_eq_or_imp, forall_eq] <;> (and_intros <;> first | trivial | rfl | (intro h; first | trivial | rfl))
      case hQ =>
      intro X11_0 a0 w1 hF
      have SD := do_m 200 sb bM L3 (by have := hok3.len; omega) k3 ⟨3, l, g1.ver, zRA, ⟨0, false, .empty, none, 0, 0, fun _ => zeroItm, 0, false⟩⟩ (Nat.zero_le _) hLB hul ⟨Int.le_refl 0, show (0 : Int) < 18446744073709551616 by decide⟩
      obtain ⟨D4, hD4⟩ : ∃ D, D = doL L3 (WntA.abs ⟨3, l, g1.ver, zRA, ⟨0, false, .empty, none, 0, 0, fun _ => zeroItm, 0, false⟩⟩) := ⟨_, rfl⟩
      rw [← hD4] at SD
      obtain ⟨GG4, hGG4⟩ : ∃ G : Atom → GotA, G = fun y => gotA y D4.got := ⟨_, rfl⟩
      have hGf4 : ∀ y, gotA y D4.got = GG4 y := fun y => by rw [hGG4]
      simp only [hGf4] at SD
      obtain ⟨k4, hk4⟩ : ∃ z, z = (if D4.wrote then IntKind.i64.wrap (k3 + 1) else k3) := ⟨_, rfl⟩
      rw [← hk4] at SD
      obtain ⟨er4, her4⟩ : ∃ z, z = D4.err := ⟨_, rfl⟩
      rw [← her4] at SD
      obtain ⟨L4, hL4⟩ : ∃ z, z = D4.L := ⟨_, rfl⟩
      rw [← hL4] at SD
      refine man_callM rfl rfl rfl rfl hF rfl rfl enters12 SD (fun _ _ h => h) (fun b hb => by cases hb; exact fun h => absurd h (Nat.not_lt.2 hbfr)) ⟨Sim.refl _, Sim.agg (by repeat (first | exact trivial | refine ⟨Sim.refl _, ?_⟩ | refine ⟨Sim.ff, ?_⟩ | refine ⟨Sim.recell (fun i hi => absurd hi (Nat.not_lt_zero _)), ?_⟩)), trivial⟩ (by intro e he; simp only [List.mem_singleton] at he; subst he; rfl) rfl rfl (fun _ => shK bM L4) (fun _ _ _ _ _ _ _ _ _ h => h) ?_
      intro y a0 w1 hF
      obtain ⟨g4, hg4⟩ : ∃ g, g = GG4 y := ⟨_, rfl⟩
      rw [← hg4] at hF
      replace hF := hF.withK (K' := shK bM L4) hF.kept
      have hga4 : g4.abs = D4.got := by rw [hg4, ← hGf4, gotA_abs]
      have hok4 : ShfOk L4 := by rw [hL4, hD4]; exact doL_ok hok3 hLB
      apply list_endB 6 hB T4_ok [9, 5, 6, 11, 13, 15, 16, 17, 18] [5, 6, 200, 11, 13, 15, 17] [] hF
      case hex => intro A X; conv => lhs; cbv
      case hob =>
        intro X
        subst hB
        simp only [AllOb, Ob.holds, BE.den, List.mem_cons, List.not_mem_nil, or_false, forall_eq_or_imp, forall_eq] <;> (and_intros <;> first | trivial | rfl | (intro h; first | trivial | rfl))
      case hQ =>
      intro X11 a0 w1 hF
      refine wp_seq ?_
      refine wp_region_lit ?_
      apply list_preB 0 3 hB T4_ok [92, 94, 9, 6, 11, 13, 15, 16, 17, 18] [6, 200, 11, 13, 15, 17] [] hF
      case hex => intro A X; conv => lhs; cbv
      case hob =>
        intro X
        subst hB
        simp only [AllOb, Ob.holds, BE.den, List.mem_cons, List.not_mem_nil, or_false, forall_eq_or_imp, forall_eq] <;> (and_intros <;> first | trivial | rfl | (intro h; first | trivial | rfl))
      case hQ =>
      intro X12_0 a0 w1 hF
      have SD := do_m 200 sb bM L4 (by have := hok4.len; omega) k4 ⟨1, l, 0, zRA, ⟨0, false, .empty, none, 0, 0, fun _ => zeroItm, 0, false⟩⟩ (Nat.zero_le _) hLB hul ⟨Int.le_refl 0, show (0 : Int) < 18446744073709551616 by decide⟩
      obtain ⟨D5, hD5⟩ : ∃ D, D = doL L4 (WntA.abs ⟨1, l, 0, zRA, ⟨0, false, .empty, none, 0, 0, fun _ => zeroItm, 0, false⟩⟩) := ⟨_, rfl⟩
      rw [← hD5] at SD
      obtain ⟨GG5, hGG5⟩ : ∃ G : Atom → GotA, G = fun y => gotA y D5.got := ⟨_, rfl⟩
      have hGf5 : ∀ y, gotA y D5.got = GG5 y := fun y => by rw [hGG5]
      simp only [hGf5] at SD
      obtain ⟨k5, hk5⟩ : ∃ z, z = (if D5.wrote then IntKind.i64.wrap (k4 + 1) else k4) := ⟨_, rfl⟩
      rw [← hk5] at SD
      obtain ⟨er5, her5⟩ : ∃ z, z = D5.err := ⟨_, rfl⟩
      rw [← her5] at SD
      obtain ⟨L5, hL5⟩ : ∃ z, z = D5.L := ⟨_, rfl⟩
      rw [← hL5] at SD
      refine man_callM rfl rfl rfl rfl hF rfl rfl enters12 SD (fun _ _ h => h) (fun b hb => by cases hb; exact fun h => absurd h (Nat.not_lt.2 hbfr)) ⟨Sim.refl _, Sim.agg (by repeat (first | exact trivial | refine ⟨Sim.refl _, ?_⟩ | refine ⟨Sim.ff, ?_⟩ | refine ⟨Sim.recell (fun i hi => absurd hi (Nat.not_lt_zero _)), ?_⟩)), trivial⟩ (by intro e he; simp only [List.mem_singleton] at he; subst he; rfl) rfl rfl (fun _ => shK bM L5) (fun _ _ _ _ _ _ _ _ _ h => h) ?_
      intro y a0 w1 hF
      obtain ⟨g5, hg5⟩ : ∃ g, g = GG5 y := ⟨_, rfl⟩
      rw [← hg5] at hF
      replace hF := hF.withK (K' := shK bM L5) hF.kept
      have hga5 : g5.abs = D5.got := by rw [hg5, ← hGf5, gotA_abs]
      skip
      apply list_endB 4 hB T4_ok [9, 6, 11, 13, 15, 16, 17, 18, 19, 20] [6, 200, 11, 13, 15, 17, 19] [] hF
      case hex => intro A X; conv => lhs; cbv
      case hob =>
        intro X
        subst hB
        simp only [AllOb, Ob.holds, BE.den, List.mem_cons, List.not_mem_nil, or_false, forall_eq_or_imp, forall_eq] <;> (and_intros <;> first | trivial | rfl | (intro h; first | trivial | rfl))
      case hQ =>
      intro X12 a0 w1 hF
      have hg5 : g5.x.r.n ≤ maxLen := got_len ((hF.mem 19 _ rfl).2.1 (.sl none g5.x.A g5.x.r.n g5.x.c 2 (fun i => itC (g5.x.r.f i))) (by simp)).2
      have SS := same_s g5.x.A g5.x.r.n g5.x.c g5.x.r.f hg5 g5.x.r.kd g5.x.r.nx g5.x.r.mrk a.A a.r.n a.c a.r.f a.r.kd a.r.nx a.r.mrk
      rw [sameR_abs] at SS
      simp only [recI, rowI] at SS
      obtain ⟨sm, hsm⟩ : ∃ q, q = decide (g5.x.r.abs = a.r.abs) := ⟨_, rfl⟩
      rw [← hsm] at SS
      have SW := writes_r (shK bM L5) 200 sb bM k5
      refine wp_seq ?_
      apply region_okB hB T4_ok [8] [] [(0, .r fun _ => .bool .tt), (51, .r fun _ => .bool (.v sm)), (55, .g [200] fun _ => .int .i64 k5)] hF
      case hex => intro A X; conv => lhs; cbv
      case hob =>
        intro X
        subst hB
        simp only [AllOb, Ob.holds, BE.den, List.mem_cons, List.not_mem_nil, or_false, forall_eq_or_imp, forall_eq] <;> (and_intros <;> first | trivial | rfl | exact enters16 | exact shelved_s | exact enters15 | exact SW | exact enters21 | exact SS | (intro h; first | trivial | rfl | exact ⟨enters16, shelved_s⟩ | exact ⟨enters15, SW⟩ | exact ⟨enters21, SS⟩))
      case hQ =>
      intro X13 a0 w1 hF
      refine wp_ret ?_
      refine ret_sim (fn := Try.f4) T4_ok hF (rs := [.tmp 8]) rfl (rfl) ?_ noAtom ?_
      · simp [AllOb, Ob.holds]
      · subst hB
        have gv : g1.ver = D1.got.ver := congrArg Got.ver hga1
        have H : OnceL l a.r.abs b.r.abs L D1 D2 D3 D4 D5 := once_law hD1 gv (hL1 ▸ hD2) (hL2 ▸ hD3) (hL3 ▸ hD4) (hL4 ▸ hD5)
        obtain ⟨i1, i2⟩ := her
        have j1 : D1.err = 0 := by rw [← her1]; exact i1
        have j2 : D2.err = 0 := by rw [← her2]; exact i2
        have e1 := H.w1
        have e2 := H.w2 j1 j2
        obtain ⟨e3, e4⟩ := H.c2 j1 j2
        obtain ⟨e5, e6⟩ := H.c3 j1 j2
        obtain ⟨e7, e8, e9⟩ := H.c4 j1 j2
        obtain ⟨e10, e11, e12, e13, e14⟩ := H.c5 j1 j2
        have c1 : g2.code = 0 := (congrArg Got.code hga2).trans e3
        have c2 : g2.ver = inc g1.ver := ((congrArg Got.ver hga2).trans e4).trans (by rw [gv])
        have c3 : er3 = 0 → g3.code = 8 := fun h => (congrArg Got.code hga3).trans (e6 (by rw [← her3]; exact h))
        have c4 : er4 = 0 := her4.trans e8
        have c5 : g4.code = 8 := (congrArg Got.code hga4).trans e9
        have c6 : er5 = 0 := her5.trans e11
        have c7 : g5.has = true := (congrArg Got.has hga5).trans e12
        have c8 : g5.ver = g2.ver := ((congrArg Got.ver hga5).trans e13).trans (congrArg Got.ver hga2).symm
        have c9 : sm = true := by rw [hsm]; exact decide_eq_true ((congrArg Got.r hga5).trans e14)
        have f1 : k1 = 0 := by rw [hk1, e1]; rfl
        have f2 : k2 = 1 := by rw [hk2, e2, f1]; rfl
        have f3 : k5 = 1 := by rw [hk5, e10, hk4, e7, hk3, e5]; exact f2
        refine Sim.bool ?_
        have c10 : g2.ver = IntKind.u64.wrap (g1.ver + 1) := c2
        have c11 : (¬ er3 = 0) ∨ g3.code = 8 := by
          by_cases h : er3 = 0
          · exact .inr (c3 h)
          · exact .inl h
        rcases c11 with c11 | c11 <;> simp [std, stdCmp, stdArith, BE.den, canB, c1, c10, c4, c5, c6, c7, c8, c9, c11, f3]
end Go.Proofs.Ythpbihppfijegaa.Sym

namespace Go.Proofs.Ythpbihppfijegaa
open Go Go.RowKit Sym
set_option linter.unusedVariables false
set_option linter.unusedSimpArgs false

def notL (l : Lab) (R : List Rw) : List Rw := R.filter fun r => decide (r.lab ≠ l)
theorem notL_append (l : Lab) (R S : List Rw) : notL l (R ++ S) = notL l R ++ notL l S := by simp [notL]
theorem notL_one {l : Lab} {p : Lab × Spo} (h : p.1 = l) : notL l (if p.2.has = true then [rowOf p] else []) = [] := by
  split
  · simp [notL, rowOf, h]
  · rfl
theorem notL_put (l : Lab) (x : Spo) : ∀ L : Shf, notL l (rowsL (putL l x L)) = notL l (rowsL L)
  | [] => by
    show notL l (rowsL [(l, x)]) = notL l (rowsL [])
    rw [rowsL_cons, notL_append, notL_one (l := l) (p := (l, x)) rfl]; rfl
  | p :: L => by
    unfold putL
    split
    · rw [rowsL_cons, rowsL_cons, notL_append, notL_append, notL_put l x L]
    · split
      · rename_i h
        rw [rowsL_cons, rowsL_cons, notL_append, notL_append, notL_one (l := l) (p := (l, x)) rfl, notL_one h]
      · rw [rowsL_cons, notL_append, notL_one (l := l) (p := (l, x)) rfl, List.nil_append]
theorem notL_do (L : Shf) (w : Wnt) : notL w.lab (rowsL (doL L w).L) = notL w.lab (rowsL L) := by
  by_cases hg : GoodW w
  · by_cases hk : w.kind = 1
    · rw [doL_see hg hk]
    · by_cases hv : w.ver ≠ (spotOf L w.lab).ver
      · rw [doL_old hg hk hv]
      · by_cases hf : (findL w.lab L).isNone ∧ 2000 ≤ L.length
        · rw [doL_full hg hk hv hf]
        · rw [doL_new hg hk hv hf]; exact notL_put _ _ _
  · rw [doL_bad hg]
theorem newL_all : ∀ {l : List Rw} {L L' : Shf}, Rises L → (∀ p ∈ L, p.2.has = true) → newL l L = some L' → (∀ p ∈ L', p.2.has = true) ∧ L'.length = L.length + l.length
  | [], L, L', _, h, hn => by
    simp only [newL, Option.some.injEq] at hn
    subst hn
    exact ⟨h, rfl⟩
  | r :: l, L, L', hr, h, hn => by
    unfold newL at hn
    split at hn
    · cases hn
    · rename_i hc
      have h0 : (findL r.lab L).isSome = false := by
        simp only [Bool.or_eq_true, not_or, Bool.not_eq_true] at hc
        exact hc.1.1
      obtain ⟨g1, g2⟩ := newL_all (put_rises hr) (fun p hp => by
        rcases put_mem hp with rfl | hp
        · rfl
        · exact h p hp) hn
      refine ⟨g1, ?_⟩
      rw [g2, put_len _ _ hr, h0, List.length_cons]
      simp only [Bool.false_eq_true, if_false]
      omega
theorem newS_rows {l : List Rw} {L : Shf} (h : newS l = some L) : (rowsL L).length = l.length := by
  unfold newS at h
  split at h
  · cases h
  · obtain ⟨g1, g2⟩ := newL_all List.Pairwise.nil (fun p hp => by cases hp) h
    rw [rowsL_eq, List.length_map, List.filter_eq_self.2 g1, g2]; simp
theorem rows_less {L : Shf} (h : Rises L) {i : Nat} (h1 : 1 ≤ i) (hi : i < (rowsL L).length) : lessL ((rowsL L).getD (i - 1) zeroRw).lab ((rowsL L).getD i zeroRw).lab = true := by
  have := List.pairwise_iff_getElem.1 (rowsL_rises h) (i - 1) i (by omega) hi (by omega)
  simpa [List.getD, hi, show i - 1 < (rowsL L).length by omega] using this
end Go.Proofs.Ythpbihppfijegaa

namespace Go.Proofs.Ythpbihppfijegaa.Sym
open Go Go.RowKit
set_option maxRecDepth 100000
set_option maxHeartbeats 1600000
set_option linter.unusedVariables false
set_option linter.unusedSimpArgs false
def T23 : List (Nat × TI) := [(3, ti3), (22, ti22), (36, ti36), (61, ti61)]
theorem T23_ok : TabOK Try.prog T23 := .cons t3 (.cons t22 (.cons t36 (.cons t61 (.nil))))
theorem enters23 : Enters Try.prog 23 := fun _ _ => by kernel_rfl
theorem without_s (A : Option Addr) (n c : Nat) (f : Nat → RowA) (hn : n ≤ 100000) (l : Lab) : Spec Try.prog 23 [rowsV A n c f, labAV l] (fun y => rowsV (y.A 0) (notL l (rwsA f n)).length (y.c 0) (rwAt y (notL l (rwsA f n)))) := by
  intro m w hm hargs
  have hmx : maxLen = 9223372036854775807 := rfl
  simp only [labAV] at hargs ⊢
  refine enter hm hargs Try.func23 rfl (by simp [Try.ntmps23]) fun a0 hF => ?_
  simp only [Try.ntmps23, startT] at hF
  obtain ⟨B, hB⟩ : ∃ B, B = std := ⟨_, rfl⟩
  refine wp_seq ?_
  apply region_okB hB T23_ok [0, 3] [3] [] hF
  case hex => intro A X; conv => lhs; cbv
  case hob =>
    intro X
    subst hB
    simp only [AllOb, Ob.holds, BE.den, List.mem_cons, List.not_mem_nil, or_false, forall_eq_or_imp, forall_eq] <;> (and_intros <;> first | trivial | rfl | (intro h; first | trivial | rfl))
  case hQ =>
  intro X0 a0 w1 hF
  refine wp_seq ?_
  apply region_okB hB T23_ok [5, 0, 3] [3, 5] [] hF
  case hex => intro A X; conv => lhs; cbv
  case hob =>
    intro X
    subst hB
    simp only [AllOb, Ob.holds, BE.den, List.mem_cons, List.not_mem_nil, or_false, forall_eq_or_imp, forall_eq] <;> (and_intros <;> first | trivial | rfl | (intro h; first | trivial | rfl))
  case hQ =>
  intro X1 a0 w1 hF
  refine wp_seq ?_
  refine wp_seq ?_
  apply region_okB hB T23_ok [5, 6, 0, 3] [3, 5] [] hF
  case hex => intro A X; conv => lhs; cbv
  case hob =>
    intro X
    subst hB
    simp only [AllOb, Ob.holds, BE.den, List.mem_cons, List.not_mem_nil, or_false, forall_eq_or_imp, forall_eq] <;> (and_intros <;> first | trivial | rfl | (intro h; first | trivial | rfl))
  case hQ =>
  intro X2 a0 w1 hF
  refine wp_block ?_
  replace hF := hF.headS (v' := .sl (some 5) none 0 0 8 (fun t => rowC zRow)) (Sim.recell (fun i hi => absurd hi (Nat.not_lt_zero _))) rfl
  refine loop_pre (ι := Nat × Nat × (Nat → RowA) × Option Addr × Nat) (fun p => [(5, .sl (some 5) p.2.2.2.1 p.2.1 p.2.2.2.2 8 (fun t => rowC (p.2.2.1 t))), (6, .int .i64 (p.1 : Int))]) (fun p => []) (fun p => [(5, ⟨p.2.2.2.1, p.2.1, p.2.2.2.2, 8, 61⟩)]) (fun p => p.1 ≤ n ∧ p.2.1 ≤ p.1 ∧ rwsA p.2.2.1 p.2.1 = notL l (rwsA f p.1)) (fun p => n - p.1) (0, 0, fun _ => zRow, none, 0) ⟨Nat.zero_le _, Nat.le_refl _, rfl⟩ hF ?_
  rintro ⟨i, k, h, A1, c1⟩ ⟨hi, hk, hrw⟩ a0 w1 hF
  try dsimp only at hi
  try dsimp only at hk
  try dsimp only at hrw
  refine wp_seq ?_
  refine wp_seq ?_
  apply region_okB hB T23_ok [10, 5, 6, 0, 3] [3, 5] [] hF
  case hex => intro A X; conv => lhs; cbv
  case hob =>
    intro X
    subst hB
    simp only [AllOb, Ob.holds, BE.den, List.mem_cons, List.not_mem_nil, or_false, forall_eq_or_imp, forall_eq] <;> (and_intros <;> first | trivial | rfl | (intro h; first | trivial | rfl))
  case hQ =>
  intro X3 a0 w1 hF
  refine test_ok hF rfl (fun hb hF => ?_) (fun hb hF => ?_)
  · skip
    have hin : i < n := by
      have : (i : Int) < (n : Int) := by subst hB; simpa [std, stdCmp] using hb
      omega
    refine wp_skip ?_
    refine wp_seq ?_
    refine wp_block ?_
    refine wp_seq ?_
    apply drawn_okB hB (by kernel_rfl) T23_ok [19, 5, 6, 0, 3] [3, 5] [] hF rfl
    case hex => intro A X; conv => lhs; cbv
    case hD => kernel_rfl
    case hlen => rfl
    case hob =>
      intro X
      subst hB
      simp only [AllOb, Ob.holds, BE.den, List.mem_cons, List.not_mem_nil, or_false, forall_eq_or_imp, forall_eq] <;> (and_intros <;> first | trivial | rfl | exact (show (0 : Int) ≤ (i : Int) by omega) | exact (show (i : Int) < (n : Int) by omega) | exact ob_lab (Kk := noK) _ _ _ _ | (intro h; first | trivial | rfl | exact (show (0 : Int) ≤ (i : Int) by omega) | exact (show (i : Int) < (n : Int) by omega) | exact ob_lab (Kk := noK) _ _ _ _))
    case hQ =>
    intro X5 a0 w1 hF
    refine test_ok hF rfl (fun hb hF => ?_) (fun hb hF => ?_)
    · skip
      have h9 : (!eqL [.int .i64 (f i).lab.len, .int .u64 (f i).lab.bits] [.int .i64 l.len, .int .u64 l.bits]) = true := by subst hB; exact hb
      rw [eqL_lab] at h9
      have hne : (f i).lab ≠ l := by simpa using h9
      apply region_okB hB T23_ok [5, 6, 0, 3] [3, 5] [] hF
      case hex => intro A X; conv => lhs; cbv
      case hob =>
        intro X
        subst hB
        repeat (first | exact trivial | refine ⟨⟨rfl, rfl, rfl⟩, ?_⟩ | refine ⟨rfl, ?_⟩ | refine ⟨⟨show (0 : Int) ≤ (i : Int) by omega, show (i : Int) < (n : Int) by omega⟩, ?_⟩ | refine ⟨⟨show k + 1 ≤ maxLen by omega, show (k + 1) * _ ≤ _ by omega⟩, ?_⟩)
      case hQ =>
      intro X6 a0 w1 hF
      replace hF := hF.headS (v' := .sl (some 5) ((X6 6).A 0) (B.nadd k 1) ((X6 6).c 0) 8 (fun t => rowC (if t = k then f i else h t))) (Sim.resl rfl (fun t ht => by
        subst hB
        have ht2 : t < k + 1 := ht
        show appC k (fun t => rowC (h t)) (chunk 8 (rowC (f i))) t = _
        unfold appC
        split
        · rw [if_neg (by omega)]
        · have : t = k := by omega
          subst this
          rw [if_pos rfl]
          simp [chunk])) rfl
      apply region_okB hB T23_ok [6, 5, 0, 3] [3, 5] [] hF
      case hex => intro A X; conv => lhs; cbv
      case hob =>
        intro X
        subst hB
        simp only [AllOb, Ob.holds, BE.den, List.mem_cons, List.not_mem_nil, or_false, forall_eq_or_imp, forall_eq] <;> (and_intros <;> first | trivial | rfl | (intro h; first | trivial | rfl))
      case hQ =>
      intro X4 a0 w1 hF
      have e : B.arith .add .i64 (i : Int) 1 = ((i + 1 : Nat) : Int) := by subst hB; exact wrap_succ (n := n) hin (by omega)
      refine ⟨(i + 1, k + 1, fun t => if t = k then f i else h t, _, _), ⟨by simp only; omega, by simp only; omega, ?_⟩, by simp only; omega, by rw [← e, show k + 1 = B.nadd k 1 by subst hB; rfl]; exact hF.swap⟩
      simp only
      rw [show rwsA f (i + 1) = rwsA f i ++ [(f i).abs] from listA_succ _ _ _, notL_append, ← hrw, show notL l [(f i).abs] = [(f i).abs] by simp [notL, RowA.abs, hne]]
      show listA RowA.abs _ (k + 1) = listA RowA.abs h k ++ _
      rw [listA_succ]
      simp only [if_true]
      congr 1
      unfold listA
      apply List.map_congr_left
      intro t ht
      have h5 := List.mem_range.1 ht
      show RowA.abs (if t = k then f i else h t) = _
      rw [if_neg (by omega)]
    · skip
      have h9 : (!eqL [.int .i64 (f i).lab.len, .int .u64 (f i).lab.bits] [.int .i64 l.len, .int .u64 l.bits]) = false := by subst hB; exact hb
      rw [eqL_lab] at h9
      have hne : (f i).lab = l := by simpa using h9
      refine wp_skip ?_
      apply region_okB hB T23_ok [6, 5, 0, 3] [3, 5] [] hF
      case hex => intro A X; conv => lhs; cbv
      case hob =>
        intro X
        subst hB
        simp only [AllOb, Ob.holds, BE.den, List.mem_cons, List.not_mem_nil, or_false, forall_eq_or_imp, forall_eq] <;> (and_intros <;> first | trivial | rfl | (intro h; first | trivial | rfl))
      case hQ =>
      intro X4 a0 w1 hF
      have e : B.arith .add .i64 (i : Int) 1 = ((i + 1 : Nat) : Int) := by subst hB; exact wrap_succ (n := n) hin (by omega)
      refine ⟨(i + 1, k, h, A1, c1), ⟨by simp only; omega, by simp only; omega, ?_⟩, by simp only; omega, by rw [← e]; exact hF.swap⟩
      simp only
      rw [show rwsA f (i + 1) = rwsA f i ++ [(f i).abs] from listA_succ _ _ _, notL_append, ← hrw, show notL l [(f i).abs] = [] by simp [notL, RowA.abs, hne], List.append_nil]
  · skip
    have hout : i = n := by
      have : ¬ (i : Int) < (n : Int) := by subst hB; simpa [std, stdCmp] using hb
      omega
    refine wp_exit ?_
    refine wp_seq ?_
    apply region_okB hB T23_ok [4] [4, 5, 26] [] hF
    case hex => intro A X; conv => lhs; cbv
    case hob =>
      intro X
      subst hB
      simp only [AllOb, Ob.holds, BE.den, List.mem_cons, List.not_mem_nil, or_false, forall_eq_or_imp, forall_eq] <;> (and_intros <;> first | trivial | rfl | (intro h; first | trivial | rfl))
    case hQ =>
    intro X7 a0 w1 hF
    refine wp_ret ?_
    refine ret_sim (fn := Try.f23) T23_ok hF (rs := [.tmp 4]) rfl (rfl) ?_ (rwY A1 c1 h 0) ?_
    · simp [AllOb, Ob.holds]
    · subst hB; rw [hout] at hrw; exact rws_sim hrw
end Go.Proofs.Ythpbihppfijegaa.Sym

namespace Go.Proofs.Ythpbihppfijegaa.Sym
open Go Go.RowKit
set_option maxRecDepth 100000
set_option maxHeartbeats 1600000
set_option linter.unusedVariables false
set_option linter.unusedSimpArgs false
theorem wnt_len {m : Nat → Nat → Prop} {w : World} {q : WntA} (h : Ok m w (wntV q)) : q.x.r.n ≤ maxLen := by
  cases h with | agg _ h1 h2 =>
    have := ok_len (h2 (.sl none q.x.A q.x.r.n q.x.c 2 (fun i => itC (q.x.r.f i))) (by simp))
    omega
theorem sub_std {i : Nat} (h : 1 ≤ i) (hi : i ≤ 2000) : std.arith .sub .i64 (i : Int) 1 = ((i - 1 : Nat) : Int) := by
  show IntKind.i64.wrap ((i : Int) - 1) = _
  rw [wrap_in (by omega) (by omega)]
  omega
theorem sub_rng {i n : Nat} (h : 1 ≤ i) (hi : i < n) (hn : n ≤ 2000) : (0 : Int) ≤ std.arith .sub .i64 (i : Int) 1 ∧ std.arith .sub .i64 (i : Int) 1 < (n : Int) := by
  rw [sub_std h (by omega)]
  omega
theorem sub_ix {i : Nat} (h : 1 ≤ i) (hi : i ≤ 2000) : std.toNat (std.arith .sub .i64 (i : Int) 1) = i - 1 := by
  rw [sub_std h hi]
  exact Int.toNat_natCast _
def T5 : List (Nat × TI) := [(3, ti3), (4, ti4), (22, ti22), (26, ti26), (27, ti27), (36, ti36), (38, ti38), (46, ti46), (61, ti61)]
theorem T5_ok : TabOK Try.prog T5 := .cons t3 (.cons t4 (.cons t22 (.cons t26 (.cons t27 (.cons t36 (.cons t38 (.cons t46 (.cons t61 (.nil)))))))))
theorem enters5 : Enters Try.prog 5 := fun _ _ => by kernel_rfl
theorem lawKeeps_no (A : Option Addr) (n c : Nat) (f : Nat → RowA) (hn : n ≤ maxLen) (hwf : ∀ i, i < n → LabOk (f i).lab ∧ U64 (f i).x.r.nx.bits) (q : WntA) (hLB : LabOk q.lab) (hux : U64 q.x.r.nx.bits) (hnew : newS (rwsA f n) = none) : Spec Try.prog 5 [rowsV A n c f, wntV q] (fun _ => .bool .tt) := by
  intro m w hm hargs
  have hmx : maxLen = 9223372036854775807 := rfl
  have S1 := bigs_s A n c f hn
  obtain ⟨bl, hbl⟩ : ∃ q, q = (if n ≤ 300 then bigS n f else true) := ⟨_, rfl⟩
  rw [← hbl] at S1
  have hqn : q.x.r.n ≤ maxLen := wnt_len (hargs (wntV q) (by simp))
  have S2 := big_s q.x.A q.x.r.n q.x.c q.x.r.f hqn q.x.r.kd q.x.r.nx q.x.r.mrk
  simp only [recI, rowI] at S2
  obtain ⟨ba, hba⟩ : ∃ z, z = bigF q.x.r.n q.x.r.f := ⟨_, rfl⟩
  rw [← hba] at S2
  have hul := lab_u64 q.lab hLB
  refine enter hm hargs Try.func5 rfl (by simp [Try.ntmps5]) fun a0 hF => ?_
  simp only [Try.ntmps5, startT] at hF
  obtain ⟨B, hB⟩ : ∃ B, B = std := ⟨_, rfl⟩
  refine wp_seq ?_
  apply region_okB hB T5_ok [0, 3] [3] [] hF
  case hex => intro A X; conv => lhs; cbv
  case hob =>
    intro X
    subst hB
    simp only [AllOb, Ob.holds, BE.den, List.mem_cons, List.not_mem_nil, or_false, forall_eq_or_imp, forall_eq] <;> (and_intros <;> first | trivial | rfl | (intro h; first | trivial | rfl))
  case hQ =>
  intro X0 a0 w1 hF
  refine wp_seq ?_
  refine wp_seq ?_
  apply region_okB hB T5_ok [16, 0, 3] [3] [(1, .r fun _ => .bool (.v bl)), (5, .r fun _ => .bool (.v ba))] hF
  case hex => intro A X; conv => lhs; cbv
  case hob =>
    intro X
    subst hB
    simp only [AllOb, Ob.holds, BE.den, List.mem_cons, List.not_mem_nil, or_false, forall_eq_or_imp, forall_eq] <;> (and_intros <;> first | trivial | rfl | exact enters8 | exact S1 | exact enters20 | exact S2 | (intro h; first | trivial | rfl | exact ⟨enters8, S1⟩ | exact ⟨enters20, S2⟩))
  case hQ =>
  intro X1 a0 w1 hF
  refine test_ok hF rfl (fun hb hF => ?_) (fun hb hF => ?_)
  · skip
    refine wp_seq ?_
    apply region_okB hB T5_ok [4] [] [] hF
    case hex => intro A X; conv => lhs; cbv
    case hob =>
      intro X
      subst hB
      simp only [AllOb, Ob.holds, BE.den, List.mem_cons, List.not_mem_nil, or_false, forall_eq_or_imp, forall_eq] <;> (and_intros <;> first | trivial | rfl | (intro h; first | trivial | rfl))
    case hQ =>
    intro X2 a0 w1 hF
    refine wp_ret ?_
    refine ret_sim (fn := Try.f5) T5_ok hF (rs := [.tmp 4]) rfl (rfl) ?_ noAtom ?_
    · simp [AllOb, Ob.holds]
    · subst hB
      exact Sim.bool rfl
  · skip
    have hb0 : (bl || ba || false) = false := by
      have h9 : (if bl = true then true else ba) = false := by subst hB; exact hb
      revert h9; cases bl <;> cases ba <;> simp
    simp only [Bool.or_eq_false_iff] at hb0
    have hb1 := bigs_ff (hbl ▸ hb0.1.1)
    have ha40 : q.x.r.n ≤ 40 := bigF_len (f := q.x.r.f) (hba ▸ hb0.1.2)
    have hN := new_wf hb1 hwf lab_u64
    refine wp_skip ?_
    refine wp_seq ?_
    refine wp_region_lit ?_
    apply list_preB 0 1 hB T5_ok [18, 0, 3] [3] [] hF
    case hex => intro A X; conv => lhs; cbv
    case hob =>
      intro X
      subst hB
      simp only [AllOb, Ob.holds, BE.den, List.mem_cons, List.not_mem_nil, or_false, forall_eq_or_imp, forall_eq] <;> (and_intros <;> first | trivial | rfl | (intro h; first | trivial | rfl))
    case hQ =>
    intro X3_0 a0 w1 hF
    have SN := new_no A n c f hn hN hnew
    refine man_callM rfl rfl rfl rfl hF rfl rfl enters10 SN (fun _ _ _ => trivial) (fun b hb => by cases hb) (SimL.refl _) (by intro e he; cases he) rfl rfl (fun y => noK) (fun _ _ _ _ _ _ _ _ _ _ => trivial) ?_
    intro y a0 w1 hF
    apply list_endB 2 hB T5_ok [5, 6, 0, 3] [3] [] hF
    case hex => intro A X; conv => lhs; cbv
    case hob =>
      intro X
      subst hB
      simp only [AllOb, Ob.holds, BE.den, List.mem_cons, List.not_mem_nil, or_false, forall_eq_or_imp, forall_eq] <;> (and_intros <;> first | trivial | rfl | (intro h; first | trivial | rfl))
    case hQ =>
    intro X3 a0 w1 hF
    refine wp_seq ?_
    refine wp_seq ?_
    apply region_okB hB T5_ok [23, 5, 6, 0, 3] [3] [] hF
    case hex => intro A X; conv => lhs; cbv
    case hob =>
      intro X
      subst hB
      simp only [AllOb, Ob.holds, BE.den, List.mem_cons, List.not_mem_nil, or_false, forall_eq_or_imp, forall_eq] <;> (and_intros <;> first | trivial | rfl | (intro h; first | trivial | rfl))
    case hQ =>
    intro X4 a0 w1 hF
    refine test_tt hF rfl (fun hF => ?_)
    refine wp_seq ?_
    apply region_okB hB T5_ok [4] [] [(0, .r fun _ => .bool .tt)] hF
    case hex => intro A X; conv => lhs; cbv
    case hob =>
      intro X
      subst hB
      simp only [AllOb, Ob.holds, BE.den, List.mem_cons, List.not_mem_nil, or_false, forall_eq_or_imp, forall_eq] <;> (and_intros <;> first | trivial | rfl | exact enters16 | exact shelved_s | (intro h; first | trivial | rfl | exact ⟨enters16, shelved_s⟩))
    case hQ =>
    intro X5 a0 w1 hF
    refine wp_ret ?_
    refine ret_sim (fn := Try.f5) T5_ok hF (rs := [.tmp 4]) rfl (rfl) ?_ noAtom ?_
    · simp [AllOb, Ob.holds]
    · subst hB
      refine Sim.bool ?_
      simp [std, stdCmp, BE.den, canB]
theorem lawKeeps_yes (A : Option Addr) (n c : Nat) (f : Nat → RowA) (hn : n ≤ maxLen) (hwf : ∀ i, i < n → LabOk (f i).lab ∧ U64 (f i).x.r.nx.bits) (q : WntA) (hLB : LabOk q.lab) (hux : U64 q.x.r.nx.bits) {L : Shf} (hnew : newS (rwsA f n) = some L) : Spec Try.prog 5 [rowsV A n c f, wntV q] (fun _ => .bool .tt) := by
  intro m w hm hargs
  have hmx : maxLen = 9223372036854775807 := rfl
  have S1 := bigs_s A n c f hn
  obtain ⟨bl, hbl⟩ : ∃ q, q = (if n ≤ 300 then bigS n f else true) := ⟨_, rfl⟩
  rw [← hbl] at S1
  have hqn : q.x.r.n ≤ maxLen := wnt_len (hargs (wntV q) (by simp))
  have S2 := big_s q.x.A q.x.r.n q.x.c q.x.r.f hqn q.x.r.kd q.x.r.nx q.x.r.mrk
  simp only [recI, rowI] at S2
  obtain ⟨ba, hba⟩ : ∃ z, z = bigF q.x.r.n q.x.r.f := ⟨_, rfl⟩
  rw [← hba] at S2
  have hul := lab_u64 q.lab hLB
  refine enter hm hargs Try.func5 rfl (by simp [Try.ntmps5]) fun a0 hF => ?_
  simp only [Try.ntmps5, startT] at hF
  obtain ⟨B, hB⟩ : ∃ B, B = std := ⟨_, rfl⟩
  refine wp_seq ?_
  apply region_okB hB T5_ok [0, 3] [3] [] hF
  case hex => intro A X; conv => lhs; cbv
  case hob =>
    intro X
    subst hB
    simp only [AllOb, Ob.holds, BE.den, List.mem_cons, List.not_mem_nil, or_false, forall_eq_or_imp, forall_eq] <;> (and_intros <;> first | trivial | rfl | (intro h; first | trivial | rfl))
  case hQ =>
  intro X0 a0 w1 hF
  refine wp_seq ?_
  refine wp_seq ?_
  apply region_okB hB T5_ok [16, 0, 3] [3] [(1, .r fun _ => .bool (.v bl)), (5, .r fun _ => .bool (.v ba))] hF
  case hex => intro A X; conv => lhs; cbv
  case hob =>
    intro X
    subst hB
    simp only [AllOb, Ob.holds, BE.den, List.mem_cons, List.not_mem_nil, or_false, forall_eq_or_imp, forall_eq] <;> (and_intros <;> first | trivial | rfl | exact enters8 | exact S1 | exact enters20 | exact S2 | (intro h; first | trivial | rfl | exact ⟨enters8, S1⟩ | exact ⟨enters20, S2⟩))
  case hQ =>
  intro X1 a0 w1 hF
  refine test_ok hF rfl (fun hb hF => ?_) (fun hb hF => ?_)
  · skip
    refine wp_seq ?_
    apply region_okB hB T5_ok [4] [] [] hF
    case hex => intro A X; conv => lhs; cbv
    case hob =>
      intro X
      subst hB
      simp only [AllOb, Ob.holds, BE.den, List.mem_cons, List.not_mem_nil, or_false, forall_eq_or_imp, forall_eq] <;> (and_intros <;> first | trivial | rfl | (intro h; first | trivial | rfl))
    case hQ =>
    intro X2 a0 w1 hF
    refine wp_ret ?_
    refine ret_sim (fn := Try.f5) T5_ok hF (rs := [.tmp 4]) rfl (rfl) ?_ noAtom ?_
    · simp [AllOb, Ob.holds]
    · subst hB
      exact Sim.bool rfl
  · skip
    have hb0 : (bl || ba || false) = false := by
      have h9 : (if bl = true then true else ba) = false := by subst hB; exact hb
      revert h9; cases bl <;> cases ba <;> simp
    simp only [Bool.or_eq_false_iff] at hb0
    have hb1 := bigs_ff (hbl ▸ hb0.1.1)
    have ha40 : q.x.r.n ≤ 40 := bigF_len (f := q.x.r.f) (hba ▸ hb0.1.2)
    have hN := new_wf hb1 hwf lab_u64
    refine wp_skip ?_
    refine wp_seq ?_
    refine wp_region_lit ?_
    apply list_preB 0 1 hB T5_ok [18, 0, 3] [3] [] hF
    case hex => intro A X; conv => lhs; cbv
    case hob =>
      intro X
      subst hB
      simp only [AllOb, Ob.holds, BE.den, List.mem_cons, List.not_mem_nil, or_false, forall_eq_or_imp, forall_eq] <;> (and_intros <;> first | trivial | rfl | (intro h; first | trivial | rfl))
    case hQ =>
    intro X3_0 a0 w1 hF
    have SN := new_yes A n c f hn hN 200 hnew
    have hok0 : ShfOk L := newS_ok (rws_lab hwf) hnew
    refine man_callM rfl rfl rfl rfl hF rfl rfl enters10 (SN) (fun _ _ _ => trivial) (fun b hb => by cases hb) (SimL.refl _) (by intro e he; cases he) rfl rfl (fun y => shF w.heap.size (y.c 0) L) (fun n x m w m' w' hn _ _ h => ⟨Nat.le_trans hn h.1, h.2⟩) ?_
    intro y a0 w1 hF
    obtain ⟨sb, hsb⟩ : ∃ b, b = y.b := ⟨_, rfl⟩
    obtain ⟨bM, hbM⟩ : ∃ b, b = y.c 0 := ⟨_, rfl⟩
    rw [← hsb, ← hbM] at hF
    have hbfr : w.heap.size ≤ bM := hF.kept.1
    replace hF := hF.withK (K' := shK bM L) hF.kept.2
    have SR1 := rows_r 200 sb bM L (by have := hok0.len; omega) 0
    obtain ⟨RR1, hRR1⟩ : ∃ R, R = rowsL L := ⟨_, rfl⟩
    rw [← hRR1] at SR1
    obtain ⟨nR1, hnR1⟩ : ∃ n, n = RR1.length := ⟨_, rfl⟩
    rw [← hnR1] at SR1
    apply list_endB 2 hB T5_ok [5, 6, 0, 3] [3, 200] [] hF
    case hex => intro A X; conv => lhs; cbv
    case hob =>
      intro X
      subst hB
      simp only [AllOb, Ob.holds, BE.den, List.mem_cons, List.not_mem_nil, or_false, forall_eq_or_imp, forall_eq] <;> (and_intros <;> first | trivial | rfl | (intro h; first | trivial | rfl))
    case hQ =>
    intro X3 a0 w1 hF
    refine wp_seq ?_
    refine wp_seq ?_
    apply region_okB hB T5_ok [23, 5, 6, 0, 3] [3, 200] [] hF
    case hex => intro A X; conv => lhs; cbv
    case hob =>
      intro X
      subst hB
      simp only [AllOb, Ob.holds, BE.den, List.mem_cons, List.not_mem_nil, or_false, forall_eq_or_imp, forall_eq] <;> (and_intros <;> first | trivial | rfl | (intro h; first | trivial | rfl))
    case hQ =>
    intro X4 a0 w1 hF
    refine test_ff hF rfl (fun hF => ?_)
    refine wp_skip ?_
    refine wp_seq ?_
    apply region_okB hB T5_ok [5, 7, 0, 3] [3, 200] [(1, .g [200] fun y => .sl none (y.A 0) nR1 (y.c 0) 8 (fun i => rowC (rwAt y RR1 i)))] hF
    case hex => intro A X; conv => lhs; cbv
    case hob =>
      intro X
      subst hB
      simp only [AllOb, Ob.holds, BE.den, List.mem_cons, List.not_mem_nil, or_false, forall_eq_or_imp, forall_eq] <;> (and_intros <;> first | trivial | rfl | exact enters18 | exact SR1 | (intro h; first | trivial | rfl | exact ⟨enters18, SR1⟩))
    case hQ =>
    intro X6 a0 w1 hF
    refine wp_seq ?_
    refine wp_region_lit ?_
    apply list_preB 0 2 hB T5_ok [31, 32, 5, 7, 0, 3] [3, 200] [] hF
    case hex => intro A X; conv => lhs; cbv
    case hob =>
      intro X
      subst hB
      simp only [AllOb, Ob.holds, BE.den, List.mem_cons, List.not_mem_nil, or_false, forall_eq_or_imp, forall_eq] <;> (and_intros <;> first | trivial | rfl | (intro h; first | trivial | rfl))
    case hQ =>
    intro X7_0 a0 w1 hF
    have SD := do_m 200 sb bM L (by have := hok0.len; omega) 0 q (by omega) hLB hul hux
    obtain ⟨D1, hD1⟩ : ∃ D, D = doL L (WntA.abs q) := ⟨_, rfl⟩
    rw [← hD1] at SD
    obtain ⟨GG1, hGG1⟩ : ∃ G : Atom → GotA, G = fun y => gotA y D1.got := ⟨_, rfl⟩
    have hGf1 : ∀ y, gotA y D1.got = GG1 y := fun y => by rw [hGG1]
    simp only [hGf1] at SD
    obtain ⟨k1, hk1⟩ : ∃ z, z = (if D1.wrote then IntKind.i64.wrap (0 + 1) else 0) := ⟨_, rfl⟩
    rw [← hk1] at SD
    obtain ⟨er1, her1⟩ : ∃ z, z = D1.err := ⟨_, rfl⟩
    rw [← her1] at SD
    obtain ⟨L1, hL1⟩ : ∃ z, z = D1.L := ⟨_, rfl⟩
    rw [← hL1] at SD
    refine man_callM rfl rfl rfl rfl hF rfl rfl enters12 SD (fun _ _ h => h) (fun b hb => by cases hb; exact fun h => absurd h (Nat.not_lt.2 hbfr)) ⟨Sim.refl _, Sim.agg (by repeat (first | exact trivial | refine ⟨Sim.refl _, ?_⟩ | refine ⟨Sim.ff, ?_⟩ | refine ⟨Sim.recell (fun i hi => absurd hi (Nat.not_lt_zero _)), ?_⟩)), trivial⟩ (by intro e he; simp only [List.mem_singleton] at he; subst he; rfl) rfl rfl (fun _ => shK bM L1) (fun _ _ _ _ _ _ _ _ _ h => h) ?_
    intro y a0 w1 hF
    obtain ⟨g1, hg1⟩ : ∃ g, g = GG1 y := ⟨_, rfl⟩
    rw [← hg1] at hF
    replace hF := hF.withK (K' := shK bM L1) hF.kept
    have hga1 : g1.abs = D1.got := by rw [hg1, ← hGf1, gotA_abs]
    have hok1 : ShfOk L1 := by rw [hL1, hD1]; exact doL_ok hok0 hLB
    refine wpList_nil ?_
    replace hF := hF.keep [5,7,0,3] [3,200]
    have SR2 := rows_r 200 sb bM L1 (by have := hok1.len; omega) k1
    obtain ⟨RR2, hRR2⟩ : ∃ R, R = rowsL L1 := ⟨_, rfl⟩
    rw [← hRR2] at SR2
    obtain ⟨nR2, hnR2⟩ : ∃ n, n = RR2.length := ⟨_, rfl⟩
    rw [← hnR2] at SR2
    refine wp_seq ?_
    apply region_okB hB T5_ok [7, 8, 0, 3] [3] [(1, .g [200] fun y => .sl none (y.A 0) nR2 (y.c 0) 8 (fun i => rowC (rwAt y RR2 i)))] hF
    case hex => intro A X; conv => lhs; cbv
    case hob =>
      intro X
      subst hB
      simp only [AllOb, Ob.holds, BE.den, List.mem_cons, List.not_mem_nil, or_false, forall_eq_or_imp, forall_eq] <;> (and_intros <;> first | trivial | rfl | exact enters18 | exact SR2 | (intro h; first | trivial | rfl | exact ⟨enters18, SR2⟩))
    case hQ =>
    intro X8 a0 w1 hF
    have hn2 : nR2 ≤ 2000 := by rw [hnR2, hRR2]; exact Nat.le_trans (rowsL_len _) hok1.len
    have hn1 : nR1 = n := by rw [hnR1, hRR1, newS_rows hnew, listA_len]
    obtain ⟨y1, hy1⟩ : ∃ y, y = X6 1 := ⟨_, rfl⟩
    obtain ⟨y2, hy2⟩ : ∃ y, y = X8 1 := ⟨_, rfl⟩
    rw [← hy1, ← hy2] at hF
    obtain ⟨f1, hf1⟩ : ∃ g, g = rwAt y1 RR1 := ⟨_, rfl⟩
    obtain ⟨f2, hf2⟩ : ∃ g, g = rwAt y2 RR2 := ⟨_, rfl⟩
    rw [← hf1, ← hf2] at hF
    refine wp_seq ?_
    refine wp_seq ?_
    apply region_okB hB T5_ok [9, 7, 8, 0, 3] [3] [] hF
    case hex => intro A X; conv => lhs; cbv
    case hob =>
      intro X
      subst hB
      simp only [AllOb, Ob.holds, BE.den, List.mem_cons, List.not_mem_nil, or_false, forall_eq_or_imp, forall_eq] <;> (and_intros <;> first | trivial | rfl | (intro h; first | trivial | rfl))
    case hQ =>
    intro X9 a0 w1 hF
    have SW1 := without_s (y1.A 0) nR1 (y1.c 0) f1 (by omega) q.lab
    have SW2 := without_s (y2.A 0) nR2 (y2.c 0) f2 (by omega) q.lab
    simp only [labAV] at SW1 SW2
    rw [show rwsA f1 nR1 = RR1 by rw [hnR1, hf1]; exact rwsA_rwAt _ _] at SW1
    rw [show rwsA f2 nR2 = RR2 by rw [hnR2, hf2]; exact rwsA_rwAt _ _] at SW2
    obtain ⟨W1, hW1⟩ : ∃ R, R = notL q.lab RR1 := ⟨_, rfl⟩
    obtain ⟨W2, hW2⟩ : ∃ R, R = notL q.lab RR2 := ⟨_, rfl⟩
    rw [← hW1] at SW1
    rw [← hW2] at SW2
    have hWW : W1 = W2 := by rw [hW1, hW2, hRR1, hRR2, hL1, hD1]; exact (notL_do L q.abs).symm
    obtain ⟨nW1, hnW1⟩ : ∃ z, z = W1.length := ⟨_, rfl⟩
    obtain ⟨nW2, hnW2⟩ : ∃ z, z = W2.length := ⟨_, rfl⟩
    rw [← hnW1] at SW1
    rw [← hnW2] at SW2
    obtain ⟨sm, hsm⟩ : ∃ z, z = decide (W1 = W2) := ⟨_, rfl⟩
    have hlW : nW1 ≤ maxLen := by
      have : W1.length ≤ RR1.length := by rw [hW1]; exact List.length_filter_le _ _
      omega
    have SM : ∀ z1 z2 : Atom, Spec Try.prog 17 [.sl none (z1.A 0) nW1 (z1.c 0) 8 (fun i => rowC (rwAt z1 W1 i)), .sl none (z2.A 0) nW2 (z2.c 0) 8 (fun i => rowC (rwAt z2 W2 i))] (fun _ => .bool (.v sm)) := fun z1 z2 => by
      have h9 := samerw_s (z1.A 0) nW1 (z1.c 0) (rwAt z1 W1) (z2.A 0) nW2 (z2.c 0) (rwAt z2 W2) hlW
      rw [show rwsA (rwAt z1 W1) nW1 = W1 by rw [hnW1]; exact rwsA_rwAt _ _, show rwsA (rwAt z2 W2) nW2 = W2 by rw [hnW2]; exact rwsA_rwAt _ _, ← hsm] at h9
      exact h9
    have hsm1 : sm = true := by rw [hsm]; exact decide_eq_true hWW
    refine wp_block ?_
    refine loop_pre (ι := Nat) (fun p => [(9, .int .i64 (p : Int))]) (fun p => []) (fun p => []) (fun p => 1 ≤ p ∧ (p ≤ nR2 ∨ p = 1)) (fun p => nR2 + 1 - p) 1 ⟨Nat.le_refl _, .inr rfl⟩ hF ?_
    rintro i ⟨h1i, hi⟩ a0 w1 hF
    try dsimp only at h1i
    try dsimp only at hi
    refine wp_seq ?_
    refine wp_seq ?_
    apply region_okB hB T5_ok [39, 9, 7, 8, 0, 3] [3] [] hF
    case hex => intro A X; conv => lhs; cbv
    case hob =>
      intro X
      subst hB
      simp only [AllOb, Ob.holds, BE.den, List.mem_cons, List.not_mem_nil, or_false, forall_eq_or_imp, forall_eq] <;> (and_intros <;> first | trivial | rfl | (intro h; first | trivial | rfl))
    case hQ =>
    intro X10 a0 w1 hF
    refine test_ok hF rfl (fun hb hF => ?_) (fun hb hF => ?_)
    · skip
      have hin : i < nR2 := by
        have : (i : Int) < (nR2 : Int) := by subst hB; simpa [std, stdCmp] using hb
        omega
      have SL := less_s (f2 (B.toNat (B.arith .sub .i64 (i : Int) 1))).lab (f2 (B.toNat (i : Int))).lab
      simp only [labAV] at SL
      obtain ⟨ls, hls⟩ : ∃ z, z = lessL (f2 (B.toNat (B.arith .sub .i64 (i : Int) 1))).lab (f2 (B.toNat (i : Int))).lab := ⟨_, rfl⟩
      rw [← hls] at SL
      have hix : B.toNat (B.arith .sub .i64 (i : Int) 1) = i - 1 := by subst hB; exact sub_ix h1i (by omega)
      have hix2 : B.toNat (i : Int) = i := by subst hB; exact Int.toNat_natCast i
      have hlt : ls = true := by
        rw [hls, hix, hix2, hf2]
        have := rows_less hok1.ris h1i (show i < (rowsL L1).length by rw [← hRR2, ← hnR2]; exact hin)
        rw [← hRR2] at this
        exact this
      refine wp_skip ?_
      refine wp_seq ?_
      refine wp_block ?_
      refine wp_seq ?_
      apply drawn_okB hB (by kernel_rfl) T5_ok [54, 9, 7, 8, 0, 3] [3] [(11, .r fun _ => .bool (.v ls))] hF rfl
      case hex => intro A X; conv => lhs; cbv
      case hD => kernel_rfl
      case hlen => rfl
      case hob =>
        intro X
        have hj0 : (0 : Int) ≤ B.arith .sub .i64 (i : Int) 1 ∧ B.arith .sub .i64 (i : Int) 1 < (nR2 : Int) := by
          subst hB; exact sub_rng h1i hin hn2
        subst hB
        simp only [AllOb, Ob.holds, BE.den, List.mem_cons, List.not_mem_nil, or_false, forall_eq_or_imp, forall_eq] <;> (and_intros <;> first | trivial | rfl | exact hj0.1 | exact hj0.2 | exact (show (0 : Int) ≤ (i : Int) by omega) | exact (show (i : Int) < (nR2 : Int) by omega) | exact enters22 | exact SL | (intro h; first | trivial | rfl | exact ⟨enters22, SL⟩))
      case hQ =>
      intro X12 a0 w1 hF
      refine test_ok hF rfl (fun hb hF => ?_) (fun hb hF => ?_)
      · exfalso
        have h9 : (!ls) = true := by subst hB; exact hb
        rw [hlt] at h9; cases h9
      · skip
        refine wp_skip ?_
        apply region_okB hB T5_ok [9, 7, 8, 0, 3] [3] [] hF
        case hex => intro A X; conv => lhs; cbv
        case hob =>
          intro X
          subst hB
          simp only [AllOb, Ob.holds, BE.den, List.mem_cons, List.not_mem_nil, or_false, forall_eq_or_imp, forall_eq] <;> (and_intros <;> first | trivial | rfl | (intro h; first | trivial | rfl))
        case hQ =>
        intro X11 a0 w1 hF
        have e : B.arith .add .i64 (i : Int) 1 = ((i + 1 : Nat) : Int) := by subst hB; exact wrap_succ (n := nR2) hin (by omega)
        refine ⟨i + 1, ⟨by omega, .inl (by omega)⟩, by omega, by rw [← e]; exact hF⟩
    · skip
      refine wp_exit ?_
      refine wp_seq ?_
      apply drawn_okB hB (by kernel_rfl) T5_ok [4] [] [(0, .r fun _ => .bool .tt), (5, .r fun y => .sl none (y.A 0) nW1 (y.c 0) 8 (fun i => rowC (rwAt y W1 i))), (9, .r fun y => .sl none (y.A 0) nW2 (y.c 0) 8 (fun i => rowC (rwAt y W2 i))), (10, .r fun _ => .bool (.v sm))] hF rfl
      case hex => intro A X; conv => lhs; cbv
      case hD => kernel_rfl
      case hlen => rfl
      case hob =>
        intro X
        subst hB
        simp only [AllOb, Ob.holds, BE.den, List.mem_cons, List.not_mem_nil, or_false, forall_eq_or_imp, forall_eq] <;> (and_intros <;> first | trivial | rfl | exact enters16 | exact shelved_s | exact enters23 | exact SW1 | exact enters23 | exact SW2 | exact enters17 | exact (SM _ _) | (intro h; first | trivial | rfl | exact ⟨enters16, shelved_s⟩ | exact ⟨enters23, SW1⟩ | exact ⟨enters23, SW2⟩ | exact ⟨enters17, (SM _ _)⟩))
      case hQ =>
      intro X14 a0 w1 hF
      refine wp_ret ?_
      refine ret_sim (fn := Try.f5) T5_ok hF (rs := [.tmp 4]) rfl (rfl) ?_ noAtom ?_
      · simp [AllOb, Ob.holds]
      · subst hB
        refine Sim.bool ?_
        simp [std, stdCmp, BE.den, canB, hsm1, hn1]
end Go.Proofs.Ythpbihppfijegaa.Sym

namespace Go.Proofs.Ythpbihppfijegaa
open Go Go.RowKit
set_option linter.unusedVariables false

theorem walkShelfKeeps (W : World) (v0 v1 : Value) (i0 : Sym.InRow W v0) (i1 : Sym.InWnt W v1) : Calls Try.prog 5 #[v0, v1] W fun e w' => e = .returned (.bool true) ∧ Below W.heap.size W w' := by
  obtain ⟨A, n, c, f, rfl, h0, hn, hf⟩ := i0
  obtain ⟨q, rfl, h1, hq⟩ := i1
  have hwf : ∀ i, i < n → Sym.LabOk (f i).lab ∧ U64 (f i).x.r.nx.bits := fun i hi => ⟨(hf i hi).2.2.1, (hf i hi).2.2.2.u64⟩
  have S : Sym.Spec Try.prog 5 [Sym.rowsV A n c f, Sym.wntV q] (fun _ => .bool .tt) := by
    cases hnew : newS (Sym.rwsA f n) with
    | none => exact Sym.lawKeeps_no A n c f hn hwf q hq.2.2.1 hq.2.2.2.u64 hnew
    | some L => exact Sym.lawKeeps_yes A n c f hn hwf q hq.2.2.1 hq.2.2.2.u64 hnew
  refine (S (fun _ _ => False) W (fun _ _ h => h.elim) (fun v hv => ?_)).mono ?_
  · simp only [List.mem_cons, List.not_mem_nil, or_false] at hv
    rcases hv with rfl | rfl
    · exact h0
    · exact h1
  · rintro e w' ⟨x, rfl, _, hb⟩
    exact ⟨rfl, hb⟩
end Go.Proofs.Ythpbihppfijegaa

namespace Go.Proofs.Ythpbihppfijegaa.shelfKeeps
open Go.ChangeShapes Go.WideShapes Go.ChangeAt Go.RowKit
set_option linter.unusedVariables false

theorem own : ownKnob Try.prog.godebug = none := by kernel_rfl
theorem laidOut : laidOutB Try.prog = true := by kernel_rfl

set_option maxRecDepth 100000 in
theorem lifted (os : Os) (started : os.Started) (H : Type) (enc : TypeId × Value → H) :
    ReturnsInHanded {} Try.checked os 5 .any (Rows.shelfKeepsSpec.pre6 enc Try.prog Try.f5 Rows.shelfKeepsRow.domain false) (Rows.shelfKeepsSpec.post enc Try.prog Try.f5 false true false false) := by
  refine returnsInHanded_of_change (C := Try.checked) own started (by kernel_rfl) Try.func5
    (ChangeSpec.witness6 (enc := enc) (C := Try.checked) false ⟨#[], #[.slice none 0 0, .agg #[.int .i64 0, .int .i64 0, .int .u64 0, .int .u64 0, .int .i64 0, .slice none 0 0, .int .i64 0, .int .u64 0, .int .u64 0, .int .i64 0, .bool false, .string ⟨#[]⟩, .slice none 0 0, .int .u64 0, .bool false]], []⟩ 8 (by kernel_rfl) (by kernel_rfl) (by kernel_rfl) (by kernel_rfl)) ?_
  intro W base args ds gs before hval0 hW hcnd _
  have hval : ∀ (j : Nat) t v, Try.f5.params[j]? = some t → args[j]? = some v → Value.okWide Try.prog W .any base t v := hval0
  have hW' := hW
  obtain ⟨p, q, hA0, hV, rfl, hfz, hnd⟩ := hW
  have hA : DataW.TrodAll enc Try.prog W 0 (fun _ => true) true Try.f5.params.toList args.toList ds p := hA0
  rw [Try.params5] at hA hval
  obtain ⟨v0, vs0, d0, ds0, p0, q0, hargs, rfl, rfl, h0, r0⟩ := trodAll_cons hA
  obtain ⟨v1, vs1, d1, ds1, p1, q1, rfl, rfl, rfl, h1, r1⟩ := trodAll_cons r0
  obtain ⟨rfl, rfl, rfl⟩ := trodAll_nil r1
  obtain rfl : args = #[v0, v1] := by cases args; simp_all
  obtain ⟨rfl, rfl⟩ := trodVars_none hV
  have lt0 : ∀ x ∈ p0, x.block < W.heap.size := by obtain ⟨m, hm⟩ := h0; exact DataW.trod_lt m _ _ _ hm
  have lt1 : ∀ x ∈ p1, x.block < W.heap.size := by obtain ⟨m, hm⟩ := h1; exact DataW.trod_lt m _ _ _ hm
  have i0 := Sym.in_rows (hval 0 22 v0 rfl rfl) h0
  have i1 := Sym.in_wnt (hval 1 46 v1 rfl rfl) h1
  clear hA0 hval0
  refine (walkShelfKeeps W v0 v1 i0 i1).mono fun e W' ⟨he, bel⟩ => ?_
  subst he
  exact ⟨_, rfl, _, _, _, [], _, [], hW', trodAll_mk1 (shut_bool Try.underlying4 _), (trodAll_cons_mk (Below.trod laidOut (by kernel_rfl) (of_decide_eq_true (by kernel_rfl)) h0 bel lt0) (trodAll_cons_mk (Below.trod laidOut (by kernel_rfl) (of_decide_eq_true (by kernel_rfl)) h1 bel lt1) trodAll_mk0)), rfl, bel.frame _, fun h => by cases h⟩

theorem over : Rows.shelfKeepsRow.holds Try.pinned (OpenSpec.ofChange Rows.shelfKeepsSpec) :=
  OpenClaim.holds_of_wide 5 Try.f5 rfl rfl rfl rfl rfl rfl rfl ⟨rfl, rfl, rfl, rfl, rfl⟩ rfl rfl rfl rfl rfl (by kernel_rfl) Try.func5 (by kernel_rfl)
    (of_decide_eq_true (by kernel_rfl)) (by unfold Func.isWrapper; first | (rw [if_pos (by decide +kernel)]; kernel_rfl) | (rw [if_neg (by decide +kernel)]; exact ⟨rfl, rfl⟩))
    (fun os started H enc _ => lifted os started H enc)

theorem proved : Rows.ShelfKeepsSaid := over
#print axioms proved
end Go.Proofs.Ythpbihppfijegaa.shelfKeeps
