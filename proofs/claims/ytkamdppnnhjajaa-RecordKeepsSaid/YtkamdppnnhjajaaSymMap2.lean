/-
  The sorted map of the document: put, dropped, made (printed by a program of mine). Conditions: none.
-/
import Derived.Test.YtkamdppnnhjajaaSymMap1
namespace Go.Proofs.Ytkamdppnnhjajaa.Sym
open Go Go.RowKit
set_option maxRecDepth 100000
set_option linter.unusedVariables false
set_option linter.unusedSimpArgs false
def pS (l : List Itm) (key : Int) (val : ByteArray) : ByteArray := if 64 < val.size then ⟨#[]⟩ else findS l key
def pB (l : List Itm) (key : Int) (val : ByteArray) : Bool := if 64 < val.size then false else findB l key
def pE (val : ByteArray) : Int := if 64 < val.size then 2 else 0
/-- a row with one more at place i -/
def insF (f : Nat → Itm) (i : Nat) (x : Itm) : Nat → Itm := fun t => if t < i then f t else if t = i then x else f (t - 1)
theorem ins_firsts (f : Nat → Itm) (n i : Nat) (x : Itm) (h : i ≤ n) : firsts (insF f i x) (n + 1) = firsts f i ++ x :: (firsts f n).drop i := by
  apply List.ext_getElem
  · simp [firsts]; omega
  · intro t h1 h2
    have ht : t < n + 1 := by simpa [firsts] using h1
    simp only [firsts, List.getElem_map, List.getElem_range, insF]
    by_cases hi : t < i
    · rw [List.getElem_append_left (by simpa using hi)]
      simp [hi]
    · rw [List.getElem_append_right (by simp; omega)]
      obtain ⟨q, rfl⟩ : ∃ q, t = i + q := ⟨t - i, by omega⟩
      cases q with
      | zero => simp
      | succ q =>
        simp only [List.length_map, List.length_range, show i + (q + 1) - i = q + 1 by omega, List.getElem_cons_succ, List.getElem_drop, List.getElem_map, List.getElem_range]
        rw [if_neg (by omega), if_neg (by omega)]
        congr 1
theorem put_low {l : List Itm} {f1 : Nat → Itm} {n1 i : Nat} {key : Int} {val : ByteArray} (hl : firsts f1 n1 = l) (hi : i ≤ n1) (hlt : ∀ t, t < i → (f1 t).key < key) (hend : i < n1 → ¬ (f1 i).key < key) :
    lowL l key ++ ⟨key, val⟩ :: l.drop (lowL l key).length = firsts (insF f1 i ⟨key, val⟩) (n1 + 1) := by
  have hlow : lowL l key = firsts f1 i := by
    rw [← hl]
    unfold lowL
    by_cases h : i = n1
    · rw [h] at hlt ⊢
      have := List.takeWhile_append_of_pos (p := fun x : Itm => decide (x.key < key)) (l₁ := firsts f1 n1) (l₂ := []) (fun a ha => by
        obtain ⟨t, ht, rfl⟩ := firsts_mem ha
        simpa using hlt t ht)
      simpa using this
    · rw [firsts_split f1 n1 i (by omega), List.takeWhile_append_of_pos (fun a ha => by
        obtain ⟨t, ht, rfl⟩ := firsts_mem ha
        simpa using hlt t ht), List.takeWhile_cons_of_neg (by simpa using hend (by omega))]
      simp
  rw [hlow, firsts_len, ins_firsts f1 n1 i _ hi, hl]
theorem putM_len (l : List Itm) (key : Int) (val : ByteArray) : (putM l key val).length ≤ l.length + 1 := by
  unfold putM
  split
  · omega
  · have h1 := List.length_filter_le (fun x => !isK key x) l
    have h2 : (dropL l key).length ≤ l.length := h1
    have h3 : (lowL (dropL l key) key).length ≤ (dropL l key).length := (List.takeWhile_sublist _).length_le
    unfold putL
    simp only [List.length_append, List.length_cons, List.length_drop]
    omega
theorem ofL_len (f : Nat → Itm) : ∀ i, (ofL (firsts f i)).length ≤ i
  | 0 => Nat.le_refl _
  | i + 1 => by
    rw [ofL_firsts_succ]
    have := putM_len (ofL (firsts f i)) (f i).key (f i).val
    have := ofL_len f i
    omega
/-- what With makes of a record -/
def wR (kd : Int) (n : Nat) (f : Nat → Itm) (nx : Lab) (mk : Int) (key : Int) (val : ByteArray) : Rec × Int :=
  if isRF kd n f nx mk = false then (zeroRec, 1) else if kd ≠ 1 then (zeroRec, 13) else if 64 < val.size then (zeroRec, 2) else if 16 < (putL (firsts f n) key val).length then (zeroRec, 12) else (⟨1, putL (firsts f n) key val, nx, 0⟩, 0)
/-- what Without makes of a record -/
def oR (kd : Int) (n : Nat) (f : Nat → Itm) (nx : Lab) (mk : Int) (key : Int) : Rec × Bool :=
  if (isRF kd n f nx mk && findB (firsts f n) key) = true then (⟨kd, dropL (firsts f n) key, nx, mk⟩, true) else (⟨kd, firsts f n, nx, mk⟩, false)
/-- a block whose cells read like others -/
theorem Fits.memS {C : Cx} {nt : Nat} {l : List (Nat × AV)} {mem : List (Nat × Blk)} {gr : List (Nat × Gr)} {a : Act} {w : World} {k b ty : Nat} {cells cells' : List AV} (h : Fits C ⟨nt, l, [], (k, ⟨b, ty, cells⟩) :: mem, gr⟩ a w) (e : SimL cells cells') : Fits C ⟨nt, l, [], (k, ⟨b, ty, cells'⟩) :: mem, gr⟩ a w := by
  have hto : ∀ k' e', lookM ((k, (⟨b, ty, cells'⟩ : Blk)) :: mem) k' = some e' → ∃ e0, lookM ((k, (⟨b, ty, cells⟩ : Blk)) :: mem) k' = some e0 ∧ e0.at_ = e'.at_ ∧ e0.ty = e'.ty ∧ SimL e0.cells e'.cells := by
    intro k' e' he
    simp only [lookM] at he ⊢
    split at he
    · rename_i hk; injection he with he; subst he; exact ⟨⟨b, ty, cells⟩, by rw [if_pos hk], rfl, rfl, e⟩
    · rename_i hk; exact ⟨e', by rw [if_neg hk]; exact he, rfl, rfl, SimL.refl _⟩
  have hfro : ∀ k' e', lookM ((k, (⟨b, ty, cells⟩ : Blk)) :: mem) k' = some e' → ∃ e0, lookM ((k, (⟨b, ty, cells'⟩ : Blk)) :: mem) k' = some e0 ∧ e0.at_ = e'.at_ := by
    intro k' e' he
    simp only [lookM] at he ⊢
    split at he
    · rename_i hk; injection he with he; subst he; exact ⟨⟨b, ty, cells'⟩, by rw [if_pos hk], rfl⟩
    · rename_i hk; exact ⟨e', by rw [if_neg hk]; exact he, rfl⟩
  have hm : St.m ⟨nt, l, [], (k, ⟨b, ty, cells'⟩) :: mem, gr⟩ C = St.m ⟨nt, l, [], (k, ⟨b, ty, cells⟩) :: mem, gr⟩ C := by
    funext x o
    apply propext
    constructor
    · rintro (h | ⟨k', e', he, hx⟩ | h)
      · exact .inl h
      · obtain ⟨e0, h1, h2, _⟩ := hto k' e' he
        exact .inr (.inl ⟨k', e0, h1, h2.trans hx⟩)
      · exact .inr (.inr h)
    · rintro (h | ⟨k', e', he, hx⟩ | h)
      · exact .inl h
      · obtain ⟨e0, h1, h2⟩ := hfro k' e' he
        exact .inr (.inl ⟨k', e0, h1, h2.trans hx⟩)
      · exact .inr (.inr h)
  refine ⟨h.size, h.defers, fun t ht => by rw [hm]; exact h.slot t ht, fun t p v he hk => (by cases he), fun k' e' he => ?_, fun k1 k2 e1 e2 h1 h2 hne => ?_, h.gr, fun k1 t k2 e2 h1 h2 => ?_, h.sepg, h.chg, h.m0⟩
  · rw [hm]
    obtain ⟨e0, h1, h2, h3, h4⟩ := hto k' e' he
    obtain ⟨g1, g2, g3⟩ := h.mem k' e0 h1
    refine ⟨?_, fun v hv => ⟨h4.one (fun v hv => (g2 v hv).1) v hv, h4.ok (fun v hv => (g2 v hv).2) v hv⟩, by rw [← h2]; exact g3⟩
    rw [← h2, ← h3, ← h4.map]; exact g1
  · obtain ⟨a1, b1, c1, _⟩ := hto k1 e1 h1
    obtain ⟨a2, b2, c2, _⟩ := hto k2 e2 h2
    rw [← c1, ← c2]
    exact h.nodup k1 k2 a1 a2 b1 b2 hne
  · obtain ⟨a2, b2, c2, _⟩ := hto k2 e2 h2
    rw [← c2]
    exact h.sepm k1 t k2 a2 h1 b2
def T59 : List (Nat × TI) := [(3, ti3), (4, ti4), (9, ti9), (22, ti22), (23, ti23), (29, ti29), (53, ti53), (86, ti86), (91, ti91)]
theorem T59_ok : TabOK Try.prog T59 := .cons t3 (.cons t4 (.cons t9 (.cons t22 (.cons t23 (.cons t29 (.cons t53 (.cons t86 (.cons t91 (.nil)))))))))
theorem enters59 : Enters Try.prog 59 := fun _ _ => by kernel_rfl
theorem mput_m0 (b : Nat) (A : Option Addr) (n c : Nat) (f : Nat → Itm) (hn : n ≤ 1000000) (key : Int) (val : ByteArray) : SpecX Try.prog 59 [.ptr 0 b 0, .int .u64 key, .str val] [(0, ⟨b, 91, [rowI A n c f]⟩)] (fun x => ⟨.tup [.str (pS (firsts f n) key val), .bool (.v (pB (firsts f n) key val)), .int .i64 (pE val)], [(0, [rowI (x.A 0) (putM (firsts f n) key val).length (x.c 0) (itF (putM (firsts f n) key val))])], []⟩) := by
  intro m w hm hargs hpre
  have hmx : maxLen = 9223372036854775807 := rfl
  have SG := mget_m0 b A n c f hn key
  have SW := mwo_m0 b A n c f hn key
  unfold rowI at hpre SG SW
  obtain ⟨l, hl⟩ : ∃ l, l = dropL (firsts f n) key := ⟨_, rfl⟩
  have hln : l.length ≤ n := by rw [hl]; have := List.length_filter_le (fun x => !isK key x) (firsts f n); rw [firsts_len] at this; exact this
  rw [← hl] at SW
  obtain ⟨n1, hn1⟩ : ∃ k, k = l.length := ⟨_, rfl⟩
  obtain ⟨f1, hf1⟩ : ∃ g, g = itF l := ⟨_, rfl⟩
  rw [← hn1, ← hf1] at SW
  have hl1 : firsts f1 n1 = l := by rw [hf1, hn1]; exact firsts_itF l
  obtain ⟨fs, hfs⟩ : ∃ s, s = findS (firsts f n) key := ⟨_, rfl⟩
  obtain ⟨fb, hfb⟩ : ∃ s, s = findB (firsts f n) key := ⟨_, rfl⟩
  rw [← hfs, ← hfb] at SG
  refine enterX hm hpre hargs Try.func59 rfl (by simp [Try.ntmps59]) fun a0 hF => ?_
  simp only [Try.ntmps59, startT] at hF
  obtain ⟨B, hB⟩ : ∃ B, B = std := ⟨_, rfl⟩
  refine wp_seq ?_
  apply region_okB hB T59_ok [0, 1, 2] [0] [] hF
  case hex => intro A X; conv => lhs; cbv
  case hob =>
    intro X
    subst hB
    simp [AllOb, Ob.holds, BE.den, std, stdCmp, stdArith] <;> omega
  case hQ =>
  intro X0 a0 w1 hF
  refine wp_seq ?_
  refine wp_seq ?_
  apply region_okB hB T59_ok [16, 0, 1, 2] [0] [] hF
  case hex => intro A X; conv => lhs; cbv
  case hob =>
    intro X
    subst hB
    simp [AllOb, Ob.holds, BE.den, std, stdCmp, stdArith] <;> omega
  case hQ =>
  intro X1 a0 w1 hF
  refine test_ok hF rfl (fun hb hF => ?_) (fun hb hF => ?_)
  · skip
    have hlong : 64 < val.size := by
      have : (64 : Int) < (val.size : Int) := by subst hB; simpa [std, stdCmp] using hb
      omega
    refine wp_seq ?_
    apply region_okB hB T59_ok [6, 7, 8] [0] [] hF
    case hex => intro A X; conv => lhs; cbv
    case hob =>
      intro X
      subst hB
      simp [AllOb, Ob.holds, BE.den, std, stdCmp, stdArith] <;> omega
    case hQ =>
    intro X2 a0 w1 hF
    refine wp_ret ?_
    refine (ret_x (fn := Try.f59) T59_ok hF (rs := [.tmp 6, .tmp 7, .tmp 8]) rfl (rfl) ?_ (⟨0, fun _ => A, fun _ => c, fun _ => ⟨#[]⟩⟩) [] ?_ ?_ ?_).1
    · subst hB; simp [AllOb, Ob.holds]
    · subst hB; simp only [pS, pB, pE, hlong, if_true]
      exact Sim.tup ⟨Sim.refl _, Sim.bool rfl, Sim.refl _, trivial⟩
    · subst hB
      exact ⟨rfl, ⟨_, rfl, ⟨by unfold putM; rw [if_pos hlong]; exact Sim.resl (firsts_len f n).symm (fun t ht => by rw [firsts_len] at ht; rw [firsts_get f n t ht]), trivial⟩⟩, trivial⟩
    · exact trivial
  · skip
    have hlong : ¬ 64 < val.size := by
      have : ¬ (64 : Int) < (val.size : Int) := by subst hB; simpa [std, stdCmp] using hb
      omega
    refine wp_skip ?_
    refine wp_seq ?_
    apply region_okB hB T59_ok [0, 1, 2, 9, 10] [0] [(2, .x fun _ => ⟨.tup [.str fs, .bool (.v fb)], [(0, [.sl none A n c 2 (fun i => itC (f i))])], []⟩)] hF
    case hex => intro A X; conv => lhs; cbv
    case hob =>
      intro X
      subst hB; exact ⟨⟨enters89, SG⟩, trivial⟩
    case hQ =>
    intro X3 a0 w1 hF
    refine wp_seq ?_
    apply region_okB hB T59_ok [11, 0, 1, 2, 9, 10] [0] [(2, .x fun x => ⟨.sl none (x.A 0) n1 (x.c 0) 2 (fun i => itC (f1 i)), [(0, [.sl none A n c 2 (fun i => itC (f i))])], []⟩)] hF
    case hex => intro A X; conv => lhs; cbv
    case hob =>
      intro X
      subst hB; exact ⟨⟨enters90, SW⟩, trivial⟩
    case hQ =>
    intro X4 a0 w1 hF
    refine wp_seq ?_
    apply region_okB hB T59_ok [12, 0, 1, 2, 9, 10, 11] [0, 12, 45, 53, 58] [] hF
    case hex => intro A X; conv => lhs; cbv
    case hob =>
      intro X
      subst hB
      simp [AllOb, Ob.holds, BE.den, std, stdCmp, stdArith] <;> omega
    case hQ =>
    intro X5 a0 w1 hF
    refine wp_seq ?_
    apply region_okB hB T59_ok [12, 13, 0, 1, 2, 9, 10, 11] [0, 12, 45, 53, 58] [] hF
    case hex => intro A X; conv => lhs; cbv
    case hob =>
      intro X
      subst hB
      simp [AllOb, Ob.holds, BE.den, std, stdCmp, stdArith] <;> omega
    case hQ =>
    intro X6 a0 w1 hF
    refine wp_seq ?_
    refine wp_block ?_
    replace hF := hF.headS (v' := .sl (some 12) none 0 0 2 (fun t => itC (f1 t))) (Sim.recell (fun i hi => absurd hi (Nat.not_lt_zero _))) rfl
    refine loop_pre (ι := Nat × Option Addr × Nat) (fun p => [(12, .sl (some 12) p.2.1 p.1 p.2.2 2 (fun t => itC (f1 t))), (13, .int .i64 (p.1 : Int))]) (fun p => []) (fun p => [(12, ⟨p.2.1, p.1, p.2.2, 2, 53⟩)]) (fun p => p.1 ≤ n1 ∧ ∀ t, t < p.1 → (f1 t).key < key) (fun p => n1 - p.1) (0, none, 0) ⟨Nat.zero_le _, fun t ht => absurd ht (Nat.not_lt_zero _)⟩ hF ?_
    rintro ⟨i, A1, c1⟩ ⟨hi, hlt⟩ a0 w1 hF
    try dsimp only at hi
    try dsimp only at hlt
    refine wp_seq ?_
    refine wp_seq ?_
    apply region_okB hB T59_ok [38, 12, 13, 0, 1, 2, 9, 10, 11] [0, 12, 45, 53, 58] [] hF
    case hex => intro A X; conv => lhs; cbv
    case hob =>
      intro X
      subst hB
      simp only [AllOb, Ob.holds, BE.den, List.mem_cons, List.not_mem_nil, or_false, forall_eq_or_imp, forall_eq]
      and_intros <;> first | trivial | (intro h; first | trivial | exact ⟨Int.natCast_nonneg _, (of_decide_eq_true h : (i : Int) < (n1 : Int))⟩)
    case hQ =>
    intro X7 a0 w1 hF
    refine test_ok hF rfl (fun hb hF => ?_) (fun hb hF => ?_)
    · skip
      have h9 : (if decide ((i : Int) < (n1 : Int)) = true then decide ((f1 i).key < key) else false) = true := by subst hB; exact hb
      rw [ite_and, Bool.and_eq_true, decide_eq_true_eq, decide_eq_true_eq] at h9
      have hin : i < n1 := by omega
      have hk := h9.2
      refine wp_skip ?_
      refine wp_block ?_
      refine wp_seq ?_
      apply region_okB hB T59_ok [12, 13, 0, 1, 2, 9, 10, 11] [0, 12, 45, 53, 58] [] hF
      case hex => intro A X; conv => lhs; cbv
      case hob =>
        intro X
        subst hB
        repeat (first | exact trivial | refine ⟨⟨rfl, rfl, rfl⟩, ?_⟩ | refine ⟨rfl, ?_⟩ | refine ⟨⟨show (0 : Int) ≤ (i : Int) by omega, show (i : Int) < (n1 : Int) by omega⟩, ?_⟩ | refine ⟨⟨show i + 1 ≤ maxLen by omega, show (i + 1) * _ ≤ _ by omega⟩, ?_⟩)
      case hQ =>
      intro X8 a0 w1 hF
      replace hF := hF.headS (v' := .sl (some 12) ((X8 6).A 0) (B.nadd i 1) ((X8 6).c 0) 2 (fun t => itC (f1 t))) (Sim.resl rfl (fun t ht => by
        subst hB
        have ht2 : t < i + 1 := ht
        show appC i (fun t => itC (f1 t)) (chunk 2 [.int .u64 (f1 i).key, .str (f1 i).val]) t = _
        unfold appC
        split
        · rfl
        · have : t = i := by omega
          subst this
          simp [chunk, itC]
        )) rfl
      apply region_okB hB T59_ok [12, 13, 0, 1, 2, 9, 10, 11] [0, 12, 45, 53, 58] [] hF
      case hex => intro A X; conv => lhs; cbv
      case hob =>
        intro X
        subst hB
        simp [AllOb, Ob.holds, BE.den, std, stdCmp, stdArith] <;> omega
      case hQ =>
      intro X9 a0 w1 hF
      have e : B.arith .add .i64 (i : Int) 1 = ((i + 1 : Nat) : Int) := by subst hB; exact wrap_succ (n := n1) hin (by omega)
      refine ⟨(i + 1, _, _), ⟨by simp only; omega, fun t ht => ?_⟩, by simp only; omega, by rw [← e, show i + 1 = B.nadd i 1 by subst hB; rfl]; exact hF⟩
      by_cases h : t = i
      · rw [h]; exact hk
      · exact hlt t (by simp only at ht; omega)
    · skip
      have h9 : (if decide ((i : Int) < (n1 : Int)) = true then decide ((f1 i).key < key) else false) = false := by subst hB; exact hb
      rw [ite_and] at h9
      have hend : i < n1 → ¬ (f1 i).key < key := fun h hk => by
        rw [decide_eq_true (show (i : Int) < (n1 : Int) by omega), decide_eq_true hk] at h9
        cases h9
      have hPL := put_low (val := val) hl1 hi hlt hend
      have hPM : putM (firsts f n) key val = firsts (insF f1 i ⟨key, val⟩) (n1 + 1) := by unfold putM putL; rw [if_neg hlong, ← hl]; exact hPL
      refine wp_exit ?_
      refine wp_seq ?_
      apply region_okB hB T59_ok [12, 13, 0, 1, 2, 9, 10, 11] [0, 12, 45, 53, 58] [] hF
      case hex => intro A X; conv => lhs; cbv
      case hob =>
        intro X
        subst hB
        repeat (first | exact trivial | refine ⟨⟨rfl, rfl, rfl⟩, ?_⟩ | refine ⟨rfl, ?_⟩ | refine ⟨⟨show i + 1 ≤ maxLen by omega, show (i + 1) * _ ≤ _ by omega⟩, ?_⟩)
      case hQ =>
      intro X10 a0 w1 hF
      replace hF := hF.headS (v' := .sl (some 12) ((X10 5).A 0) (B.nadd i 1) ((X10 5).c 0) 2 (fun t => itC ((fSet f1 i ⟨key, val⟩) t))) (Sim.resl rfl (fun t ht => by
        subst hB
        have ht2 : t < i + 1 := ht
        show appC i (fun t => itC (f1 t)) (chunk 2 [.int .u64 key, .str val]) t = _
        unfold appC fSet
        split
        · rw [if_neg (by omega)]
        · have : t = i := by omega
          subst this
          simp [chunk, itC]
        )) rfl
      refine wp_seq ?_
      apply region_okB hB T59_ok [12, 0, 9, 10] [0, 12, 45, 53, 58] [] hF
      case hex => intro A X; conv => lhs; cbv
      case hob =>
        intro X
        subst hB
        repeat (first | exact trivial | refine ⟨⟨rfl, rfl, rfl⟩, ?_⟩ | refine ⟨⟨show (0 : Int) ≤ (i : Int) by omega, show (i : Int) ≤ (n1 : Int) by omega, Int.le_refl _⟩, ?_⟩ | refine ⟨⟨show i + 1 + (n1 - i) ≤ maxLen by omega, show (i + 1 + (n1 - i)) * _ ≤ _ by omega⟩, ?_⟩ | refine ⟨rfl, ?_⟩)
      case hQ =>
      intro X11 a0 w1 hF
      replace hF := hF.headS (v' := .sl (some 12) ((X11 4).A 0) (B.nadd (B.nadd i 1) (B.nsub (B.toNat (B.ofNat n1)) (B.toNat (i : Int)))) ((X11 4).c 0) 2 (fun t => itC (insF f1 i ⟨key, val⟩ t))) (Sim.resl rfl (fun t ht => by
        subst hB
        have ht2 : t < i + 1 + ((n1 : Int).toNat - (i : Int).toNat) := ht
        show appC (i + 1) (fun t => itC (fSet f1 i ⟨key, val⟩ t)) (fromC i (fun t => itC (f1 t))) t = _
        unfold appC fSet insF fromC
        by_cases h1 : t < i
        · simp [h1, show t < i + 1 by omega, show ¬ t = i by omega]
        · by_cases h2 : t = i
          · simp [h2]
          · simp [h1, h2, show ¬ t < i + 1 by omega, show i + (t - (i + 1)) = t - 1 by omega])) rfl
      refine wp_seq ?_
      apply region_okB hB T59_ok [9, 10] [0] [] hF
      case hex => intro A X; conv => lhs; cbv
      case hob =>
        intro X
        subst hB
        repeat (first | exact trivial | refine ⟨rfl, ?_⟩ | refine ⟨⟨show (0 : Int) ≤ (i : Int) by omega, show (i : Int) < (n : Int) by omega⟩, ?_⟩)
      case hQ =>
      intro X12 a0 w1 hF
      refine wp_seq ?_
      apply region_okB hB T59_ok [6, 7, 8] [0] [] hF
      case hex => intro A X; conv => lhs; cbv
      case hob =>
        intro X
        subst hB
        simp [AllOb, Ob.holds, BE.den, std, stdCmp, stdArith] <;> omega
      case hQ =>
      intro X13 a0 w1 hF
      refine wp_ret ?_
      refine (ret_x (fn := Try.f59) T59_ok hF (rs := [.tmp 6, .tmp 7, .tmp 8]) rfl (rfl) ?_ (⟨0, fun _ => (X11 4).A 0, fun _ => (X11 4).c 0, fun _ => ⟨#[]⟩⟩) [] ?_ ?_ ?_).1
      · subst hB; simp [AllOb, Ob.holds]
      · subst hB; simp only [pS, pB, pE, hlong, if_false, ← hfs, ← hfb]
        exact Sim.refl _
      · subst hB
        exact ⟨rfl, ⟨_, rfl, ⟨by rw [hPM]; exact Sim.resl (by rw [firsts_len]; show i + 1 + ((n1 : Int).toNat - (i : Int).toNat) = n1 + 1; omega) (fun t ht => by rw [firsts_len] at ht; rw [firsts_get _ _ t ht]), trivial⟩⟩, trivial⟩
      · exact trivial
theorem mput_m (k0 : Nat) (b : Nat) (A : Option Addr) (n c : Nat) (f : Nat → Itm) (hn : n ≤ 1000000) (key : Int) (val : ByteArray) : SpecX Try.prog 59 [.ptr k0 b 0, .int .u64 key, .str val] [(k0, ⟨b, 91, [rowI A n c f]⟩)] (fun x => ⟨.tup [.str (pS (firsts f n) key val), .bool (.v (pB (firsts f n) key val)), .int .i64 (pE val)], [(k0, [rowI (x.A 0) (putM (firsts f n) key val).length (x.c 0) (itF (putM (firsts f n) key val))])], []⟩) :=
  (mput_m0 b A n c f hn key val).re (by repeat (first | exact trivial | refine ⟨Sim.ptr, ?_⟩ | refine ⟨Sim.fn ⟨Sim.ptr, trivial⟩ trivial, ?_⟩ | refine ⟨Sim.refl _, ?_⟩)) rfl (fun x => ⟨rfl, rfl, Sim.refl _, rfl⟩)
def T61 : List (Nat × TI) := [(4, ti4), (9, ti9), (22, ti22), (23, ti23), (86, ti86), (91, ti91)]
theorem T61_ok : TabOK Try.prog T61 := .cons t4 (.cons t9 (.cons t22 (.cons t23 (.cons t86 (.cons t91 (.nil))))))
theorem enters61 : Enters Try.prog 61 := fun _ _ => by kernel_rfl
theorem mdrop_m0 (b : Nat) (A : Option Addr) (n c : Nat) (f : Nat → Itm) (hn : n ≤ 1000000) (key : Int) : SpecX Try.prog 61 [.ptr 0 b 0, .int .u64 key] [(0, ⟨b, 91, [rowI A n c f]⟩)] (fun x => ⟨.tup [.str (findS (firsts f n) key), .bool (.v (findB (firsts f n) key))], [(0, [rowI (x.A 0) (dropL (firsts f n) key).length (x.c 0) (itF (dropL (firsts f n) key))])], []⟩) := by
  intro m w hm hargs hpre
  have SG := mget_m0 b A n c f hn key
  have SW := mwo_m0 b A n c f hn key
  unfold rowI at hpre SG SW
  obtain ⟨l, hl⟩ : ∃ l, l = dropL (firsts f n) key := ⟨_, rfl⟩
  rw [← hl] at SW ⊢
  obtain ⟨n1, hn1⟩ : ∃ k, k = l.length := ⟨_, rfl⟩
  obtain ⟨f1, hf1⟩ : ∃ g, g = itF l := ⟨_, rfl⟩
  rw [← hn1, ← hf1] at SW ⊢
  generalize findS (firsts f n) key = fs at SG ⊢
  generalize findB (firsts f n) key = fb at SG ⊢
  refine enterX hm hpre hargs Try.func61 rfl (by simp [Try.ntmps61]) fun a0 hF => ?_
  simp only [Try.ntmps61, startT] at hF
  obtain ⟨B, hB⟩ : ∃ B, B = std := ⟨_, rfl⟩
  refine wp_seq ?_
  apply region_okB hB T61_ok [0, 1] [0] [] hF
  case hex => intro A X; conv => lhs; cbv
  case hob =>
    intro X
    subst hB
    simp [AllOb, Ob.holds, BE.den, std, stdCmp, stdArith] <;> omega
  case hQ =>
  intro X0 a0 w1 hF
  refine wp_seq ?_
  apply region_okB hB T61_ok [0, 1, 6, 7] [0] [(2, .x fun _ => ⟨.tup [.str fs, .bool (.v fb)], [(0, [.sl none A n c 2 (fun i => itC (f i))])], []⟩)] hF
  case hex => intro A X; conv => lhs; cbv
  case hob =>
    intro X
    subst hB; exact ⟨⟨enters89, SG⟩, trivial⟩
  case hQ =>
  intro X1 a0 w1 hF
  refine wp_seq ?_
  apply region_okB hB T61_ok [6, 7] [0] [(3, .x fun x => ⟨.sl none (x.A 0) n1 (x.c 0) 2 (fun i => itC (f1 i)), [(0, [.sl none A n c 2 (fun i => itC (f i))])], []⟩)] hF
  case hex => intro A X; conv => lhs; cbv
  case hob =>
    intro X
    subst hB; repeat (first | exact trivial | refine ⟨rfl, ?_⟩ | refine ⟨⟨enters90, SW⟩, ?_⟩)
  case hQ =>
  intro X2 a0 w1 hF
  refine wp_seq ?_
  apply region_okB hB T61_ok [4, 5] [0] [] hF
  case hex => intro A X; conv => lhs; cbv
  case hob =>
    intro X
    subst hB
    simp [AllOb, Ob.holds, BE.den, std, stdCmp, stdArith] <;> omega
  case hQ =>
  intro X3 a0 w1 hF
  refine wp_ret ?_
  refine (ret_x (fn := Try.f61) T61_ok hF (rs := [.tmp 4, .tmp 5]) rfl (rfl) ?_ (⟨0, fun _ => (X2 3).A 0, fun _ => (X2 3).c 0, fun _ => ⟨#[]⟩⟩) [] ?_ ?_ ?_).1
  · subst hB; simp [AllOb, Ob.holds]
  · subst hB; exact Sim.refl _
  · subst hB; exact ⟨rfl, ⟨_, rfl, ⟨Sim.refl _, trivial⟩⟩, trivial⟩
  · exact trivial
theorem mdrop_m (k0 : Nat) (b : Nat) (A : Option Addr) (n c : Nat) (f : Nat → Itm) (hn : n ≤ 1000000) (key : Int) : SpecX Try.prog 61 [.ptr k0 b 0, .int .u64 key] [(k0, ⟨b, 91, [rowI A n c f]⟩)] (fun x => ⟨.tup [.str (findS (firsts f n) key), .bool (.v (findB (firsts f n) key))], [(k0, [rowI (x.A 0) (dropL (firsts f n) key).length (x.c 0) (itF (dropL (firsts f n) key))])], []⟩) :=
  (mdrop_m0 b A n c f hn key).re (by repeat (first | exact trivial | refine ⟨Sim.ptr, ?_⟩ | refine ⟨Sim.fn ⟨Sim.ptr, trivial⟩ trivial, ?_⟩ | refine ⟨Sim.refl _, ?_⟩)) rfl (fun x => ⟨rfl, rfl, Sim.refl _, rfl⟩)
def T58 : List (Nat × TI) := [(3, ti3), (9, ti9), (22, ti22), (23, ti23), (53, ti53), (86, ti86), (91, ti91)]
theorem T58_ok : TabOK Try.prog T58 := .cons t3 (.cons t9 (.cons t22 (.cons t23 (.cons t53 (.cons t86 (.cons t91 (.nil)))))))
theorem enters58 : Enters Try.prog 58 := fun _ _ => by kernel_rfl
theorem mof_x (A : Option Addr) (n c : Nat) (f : Nat → Itm) (hn : n ≤ 1000000) : SpecX Try.prog 58 [rowI A n c f] [] (fun x => ⟨.ptr 6 x.b 0, [], [(6, ⟨x.b, 91, [rowI (x.A 0) (ofL (firsts f n)).length (x.c 0) (itF (ofL (firsts f n)))]⟩)]⟩) := by
  intro m w hm hargs hpre
  have hmx : maxLen = 9223372036854775807 := rfl
  unfold rowI at hargs
  refine enterX hm hpre hargs Try.func58 rfl (by simp [Try.ntmps58]) fun a0 hF => ?_
  simp only [Try.ntmps58, startT] at hF
  obtain ⟨B, hB⟩ : ∃ B, B = std := ⟨_, rfl⟩
  refine wp_seq ?_
  apply region_okB hB T58_ok [0] [] [] hF
  case hex => intro A X; conv => lhs; cbv
  case hob =>
    intro X
    subst hB
    simp [AllOb, Ob.holds, BE.den, std, stdCmp, stdArith] <;> omega
  case hQ =>
  intro X0 a0 w1 hF
  refine wp_seq ?_
  apply region_okB hB T58_ok [3, 0] [6] [] hF
  case hex => intro A X; conv => lhs; cbv
  case hob =>
    intro X
    subst hB
    simp [AllOb, Ob.holds, BE.den, std, stdCmp, stdArith] <;> omega
  case hQ =>
  intro X1 a0 w1 hF
  replace hF := hF.memS (cells' := [.sl none none 0 0 2 (fun t => itC (itF [] t))]) ⟨Sim.recell (fun i hi => absurd hi (Nat.not_lt_zero _)), trivial⟩
  refine wp_seq ?_
  refine wp_seq ?_
  apply region_okB hB T58_ok [4, 0, 3] [6] [] hF
  case hex => intro A X; conv => lhs; cbv
  case hob =>
    intro X
    subst hB
    simp [AllOb, Ob.holds, BE.den, std, stdCmp, stdArith] <;> omega
  case hQ =>
  intro X2 a0 w1 hF
  refine wp_block ?_
  refine loop_pre (ι := Nat × Nat × (Nat → Itm) × Option Addr × Nat) (fun p => [(4, .int .i64 (p.1 : Int))]) (fun p => [(6, ⟨(X1 1).b, 91, [.sl none p.2.2.2.1 p.2.1 p.2.2.2.2 2 (fun t => itC (p.2.2.1 t))]⟩)]) (fun p => []) (fun p => p.1 ≤ n ∧ p.2.1 = (ofL (firsts f p.1)).length ∧ p.2.2.1 = itF (ofL (firsts f p.1))) (fun p => n - p.1) (0, 0, itF [], none, 0) ⟨Nat.zero_le _, rfl, rfl⟩ hF ?_
  rintro ⟨i, m1, g, A1, c1⟩ ⟨hi, hm1, hg⟩ a0 w1 hF
  try dsimp only at hi
  try dsimp only at hm1
  try dsimp only at hg
  refine wp_seq ?_
  refine wp_seq ?_
  apply region_okB hB T58_ok [10, 4, 0, 3] [6] [] hF
  case hex => intro A X; conv => lhs; cbv
  case hob =>
    intro X
    subst hB
    simp [AllOb, Ob.holds, BE.den, std, stdCmp, stdArith] <;> omega
  case hQ =>
  intro X3 a0 w1 hF
  refine test_ok hF rfl (fun hb hF => ?_) (fun hb hF => ?_)
  · skip
    have hin : i < n := by
      have : (i : Int) < (n : Int) := by subst hB; simpa [std, stdCmp] using hb
      omega
    have hml : m1 ≤ 1000000 := by rw [hm1]; have := ofL_len f i; omega
    have hfm : firsts g m1 = ofL (firsts f i) := by rw [hg, hm1]; exact firsts_itF _
    have SP := mput_m 6 (X1 1).b A1 m1 c1 g hml (f i).key (f i).val
    unfold rowI at SP
    obtain ⟨l2, hl2⟩ : ∃ l, l = putM (firsts g m1) (f i).key (f i).val := ⟨_, rfl⟩
    rw [← hl2] at SP
    obtain ⟨n2, hn2⟩ : ∃ k, k = l2.length := ⟨_, rfl⟩
    obtain ⟨g2, hg2⟩ : ∃ g, g = itF l2 := ⟨_, rfl⟩
    rw [← hn2, ← hg2] at SP
    generalize pS (firsts g m1) (f i).key (f i).val = ps at SP
    generalize pB (firsts g m1) (f i).key (f i).val = pb at SP
    generalize pE (f i).val = pe at SP
    refine wp_skip ?_
    refine wp_seq ?_
    refine wp_block ?_
    apply drawn_okB hB (by kernel_rfl) T58_ok [4, 0, 3] [6] [(11, .x fun x => ⟨.tup [.str ps, .bool (.v pb), .int .i64 pe], [(6, [.sl none (x.A 0) n2 (x.c 0) 2 (fun t => itC (g2 t))])], []⟩)] hF rfl
    case hex => intro A X; conv => lhs; cbv
    case hD => kernel_rfl
    case hlen => rfl
    case hob =>
      intro X
      subst hB
      repeat (first | exact trivial | refine ⟨rfl, ?_⟩ | refine ⟨⟨show (0 : Int) ≤ (i : Int) by omega, show (i : Int) < (n : Int) by omega⟩, ?_⟩ | refine ⟨⟨enters59, SP⟩, ?_⟩)
    case hQ =>
    intro X5 a0 w1 hF
    apply region_okB hB T58_ok [4, 0, 3] [6] [] hF
    case hex => intro A X; conv => lhs; cbv
    case hob =>
      intro X
      subst hB
      simp [AllOb, Ob.holds, BE.den, std, stdCmp, stdArith] <;> omega
    case hQ =>
    intro X4 a0 w1 hF
    have e : B.arith .add .i64 (i : Int) 1 = ((i + 1 : Nat) : Int) := by subst hB; exact wrap_succ (n := n) hin (by omega)
    refine ⟨(i + 1, n2, g2, (X5 11).A 0, (X5 11).c 0), ⟨by simp only; omega, ?_, ?_⟩, by simp only; omega, by rw [← e]; exact hF⟩
    · simp only; rw [ofL_firsts_succ, hn2, hl2, hfm]
    · simp only; rw [ofL_firsts_succ, hg2, hl2, hfm]
  · skip
    have hout : i = n := by
      have : ¬ (i : Int) < (n : Int) := by subst hB; simpa [std, stdCmp] using hb
      omega
    rw [hout] at hm1 hg
    refine wp_exit ?_
    refine wp_seq ?_
    apply region_okB hB T58_ok [2] [6] [] hF
    case hex => intro A X; conv => lhs; cbv
    case hob =>
      intro X
      subst hB
      simp [AllOb, Ob.holds, BE.den, std, stdCmp, stdArith] <;> omega
    case hQ =>
    intro X6 a0 w1 hF
    refine wp_ret ?_
    refine (ret_x (fn := Try.f58) T58_ok hF (rs := [.tmp 2]) rfl (rfl) ?_ (⟨(X1 1).b, fun _ => A1, fun _ => c1, fun _ => ⟨#[]⟩⟩) [6] ?_ ?_ ?_).1
    · subst hB; simp [AllOb, Ob.holds]
    · subst hB; exact Sim.refl _
    · exact trivial
    · exact ⟨⟨_, rfl, ⟨by rw [hg, hm1]; exact Sim.refl _, trivial⟩⟩, fun e he => (by cases he), (by simp), trivial⟩
def T18 : List (Nat × TI) := [(22, ti22), (27, ti27)]
theorem T18_ok : TabOK Try.prog T18 := .cons t22 (.cons t27 (.nil))
theorem enters18 : Enters Try.prog 18 := fun _ _ => by kernel_rfl
theorem own_s (A : Option Addr) (n c : Nat) (f : Nat → Itm) (hn : n ≤ 1000000) (kd : Int) (nx : Lab) (mk : Int) : Spec Try.prog 18 [recI A n c f kd nx mk] (fun x => recI (x.A 0) n (x.c 0) f kd nx mk) := by
  intro m w hm hargs
  have hmx : maxLen = 9223372036854775807 := rfl
  unfold recI rowI at hargs
  refine enter hm hargs Try.func18 rfl (by simp [Try.ntmps18]) fun a0 hF => ?_
  simp only [Try.ntmps18, startT] at hF
  obtain ⟨B, hB⟩ : ∃ B, B = std := ⟨_, rfl⟩
  refine wp_seq ?_
  apply region_okB hB T18_ok [1, 2] [1, 2] [] hF
  case hex => intro A X; conv => lhs; cbv
  case hob =>
    intro X
    subst hB
    simp [AllOb, Ob.holds, BE.den, std, stdCmp, stdArith] <;> omega
  case hQ =>
  intro X0 a0 w1 hF
  refine wp_seq ?_
  apply region_okB hB T18_ok [3, 1, 2] [1, 2, 3, 7] [] hF
  case hex => intro A X; conv => lhs; cbv
  case hob =>
    intro X
    subst hB
    simp [AllOb, Ob.holds, BE.den, std, stdCmp, stdArith] <;> omega
  case hQ =>
  intro X1 a0 w1 hF
  refine wp_seq ?_
  apply region_okB hB T18_ok [3, 1, 2] [1, 2, 3, 7] [] hF
  case hex => intro A X; conv => lhs; cbv
  case hob =>
    intro X
    subst hB
    repeat (first | exact trivial | refine ⟨⟨rfl, rfl, rfl⟩, ?_⟩ | refine ⟨rfl, ?_⟩ | refine ⟨⟨show 0 + n ≤ maxLen by omega, show (0 + n) * _ ≤ _ by omega⟩, ?_⟩)
  case hQ =>
  intro X2 a0 w1 hF
  refine wp_seq ?_
  apply region_okB hB T18_ok [1, 2] [1, 2] [] hF
  case hex => intro A X; conv => lhs; cbv
  case hob =>
    intro X
    subst hB
    repeat (first | exact trivial | refine ⟨rfl, ?_⟩)
  case hQ =>
  intro X3 a0 w1 hF
  refine wp_seq ?_
  apply region_okB hB T18_ok [2] [2] [] hF
  case hex => intro A X; conv => lhs; cbv
  case hob =>
    intro X
    subst hB
    repeat (first | exact trivial | refine ⟨rfl, ?_⟩)
  case hQ =>
  intro X4 a0 w1 hF
  refine wp_ret ?_
  refine ret_sim (fn := Try.f18) T18_ok hF (rs := [.cell 2 27]) rfl (by conv => lhs; cbv) ?_ (⟨0, fun _ => (X2 3).A 0, fun _ => (X2 3).c 0, fun _ => ⟨#[]⟩⟩) ?_
  · simp [AllOb, Ob.holds]
  · subst hB
    exact Sim.agg ⟨Sim.refl _, Sim.resl (Nat.zero_add n) (fun t ht => by show appC 0 _ (fun t => itC (f t)) t = _; unfold appC; rw [if_neg (Nat.not_lt_zero _)]; rfl), Sim.refl _, Sim.refl _, Sim.refl _, trivial⟩
def T20 : List (Nat × TI) := [(3, ti3), (9, ti9), (22, ti22), (23, ti23), (25, ti25), (27, ti27), (29, ti29), (86, ti86), (91, ti91)]
theorem T20_ok : TabOK Try.prog T20 := .cons t3 (.cons t9 (.cons t22 (.cons t23 (.cons t25 (.cons t27 (.cons t29 (.cons t86 (.cons t91 (.nil)))))))))
theorem enters20 : Enters Try.prog 20 := fun _ _ => by kernel_rfl
theorem rwith_s (A : Option Addr) (n c : Nat) (f : Nat → Itm) (hn : n ≤ 1000000) (kd : Int) (nx : Lab) (mk : Int) (hv : U64 nx.bits) (key : Int) (val : ByteArray) : Spec Try.prog 20 [recI A n c f kd nx mk, .int .u64 key, .str val] (fun x => .tup [recAV (x.A 0) (x.c 0) (wR kd n f nx mk key val).1, .int .i64 (wR kd n f nx mk key val).2]) := by
  intro m w hm hargs
  have hmx : maxLen = 9223372036854775807 := rfl
  have SI := risR_s A n c f (by omega) kd nx mk hv
  unfold recI rowI at hargs SI
  obtain ⟨ir, hir⟩ : ∃ r, r = isRF kd n f nx mk := ⟨_, rfl⟩
  rw [← hir] at SI
  refine enter hm hargs Try.func20 rfl (by simp [Try.ntmps20]) fun a0 hF => ?_
  simp only [Try.ntmps20, startT] at hF
  obtain ⟨B, hB⟩ : ∃ B, B = std := ⟨_, rfl⟩
  refine wp_seq ?_
  apply region_okB hB T20_ok [1, 2, 3, 6] [3, 6] [] hF
  case hex => intro A X; conv => lhs; cbv
  case hob =>
    intro X
    subst hB
    simp [AllOb, Ob.holds, BE.den, std, stdCmp, stdArith] <;> omega
  case hQ =>
  intro X0 a0 w1 hF
  refine wp_seq ?_
  refine wp_seq ?_
  apply region_okB hB T20_ok [11, 1, 2, 3, 6] [3, 6] [(1, .r fun _ => .bool (.v ir))] hF
  case hex => intro A X; conv => lhs; cbv
  case hob =>
    intro X
    subst hB
    repeat (first | exact trivial | refine ⟨rfl, ?_⟩ | refine ⟨fun _ => rfl, ?_⟩ | refine ⟨ob_lab _ _ _ _, ?_⟩ | refine ⟨fun _ => ob_lab _ _ _ _, ?_⟩ | refine ⟨⟨enters16, SI⟩, ?_⟩ | refine ⟨fun _ => ⟨enters16, SI⟩, ?_⟩)
  case hQ =>
  intro X1 a0 w1 hF
  refine test_ok hF rfl (fun hb hF => ?_) (fun hb hF => ?_)
  · skip
    have hb2 : B.not ir = true := hb
    have hirf : ir = false := by subst hB; cases ir <;> first | rfl | (simp [std] at hb2)
    rw [hirf] at hir
    have hW : (wR kd n f nx mk key val) = (zeroRec, 1) := by unfold wR; rw [← hir]; rfl
    refine wp_seq ?_
    apply region_okB hB T20_ok [6, 7] [6] [] hF
    case hex => intro A X; conv => lhs; cbv
    case hob =>
      intro X
      subst hB
      repeat (first | exact trivial | refine ⟨rfl, ?_⟩ | refine ⟨fun _ => rfl, ?_⟩ | refine ⟨ob_lab _ _ _ _, ?_⟩ | refine ⟨fun _ => ob_lab _ _ _ _, ?_⟩)
    case hQ =>
    intro X2 a0 w1 hF
    refine wp_ret ?_
    refine ret_sim (fn := Try.f20) T20_ok hF (rs := [.cell 6 27, .tmp 7]) rfl (by conv => lhs; cbv) ?_ (⟨0, fun _ => none, fun _ => 0, fun _ => ⟨#[]⟩⟩) ?_
    · simp [AllOb, Ob.holds]
    · subst hB
      rw [hW]
      exact Sim.tup ⟨Sim.agg ⟨Sim.refl _, Sim.recell (fun i hi => absurd hi (Nat.not_lt_zero _)), Sim.refl _, Sim.refl _, Sim.refl _, trivial⟩, Sim.refl _, trivial⟩
  · skip
    have hb2 : B.not ir = false := hb
    have hirt : ir = true := by subst hB; cases ir <;> first | rfl | (simp [std] at hb2)
    rw [hirt] at hir
    obtain ⟨hkd1, hkd5, hn16, hnl, hok⟩ := isRF_kind hir.symm
    refine wp_skip ?_
    refine wp_seq ?_
    refine wp_seq ?_
    apply region_okB hB T20_ok [15, 1, 2, 3, 6] [3, 6] [] hF
    case hex => intro A X; conv => lhs; cbv
    case hob =>
      intro X
      subst hB
      repeat (first | exact trivial | refine ⟨rfl, ?_⟩ | refine ⟨fun _ => rfl, ?_⟩ | refine ⟨ob_lab _ _ _ _, ?_⟩ | refine ⟨fun _ => ob_lab _ _ _ _, ?_⟩)
    case hQ =>
    intro X3 a0 w1 hF
    refine test_ok hF rfl (fun hb hF => ?_) (fun hb hF => ?_)
    · skip
      have hk : kd ≠ 1 := by subst hB; simpa [std, stdCmp] using hb
      have hW : (wR kd n f nx mk key val) = (zeroRec, 13) := by unfold wR; rw [← hir]; simp [hk]
      refine wp_seq ?_
      apply region_okB hB T20_ok [6, 7] [6] [] hF
      case hex => intro A X; conv => lhs; cbv
      case hob =>
        intro X
        subst hB
        repeat (first | exact trivial | refine ⟨rfl, ?_⟩ | refine ⟨fun _ => rfl, ?_⟩ | refine ⟨ob_lab _ _ _ _, ?_⟩ | refine ⟨fun _ => ob_lab _ _ _ _, ?_⟩)
      case hQ =>
      intro X4 a0 w1 hF
      refine wp_ret ?_
      refine ret_sim (fn := Try.f20) T20_ok hF (rs := [.cell 6 27, .tmp 7]) rfl (by conv => lhs; cbv) ?_ (⟨0, fun _ => none, fun _ => 0, fun _ => ⟨#[]⟩⟩) ?_
      · simp [AllOb, Ob.holds]
      · subst hB
        rw [hW]
        exact Sim.tup ⟨Sim.agg ⟨Sim.refl _, Sim.recell (fun i hi => absurd hi (Nat.not_lt_zero _)), Sim.refl _, Sim.refl _, Sim.refl _, trivial⟩, Sim.refl _, trivial⟩
    · skip
      have hk : kd = 1 := by subst hB; simpa [std, stdCmp] using hb
      refine wp_skip ?_
      refine wp_seq ?_
      refine wp_seq ?_
      apply region_okB hB T20_ok [19, 1, 2, 3, 6] [3, 6] [] hF
      case hex => intro A X; conv => lhs; cbv
      case hob =>
        intro X
        subst hB
        simp [AllOb, Ob.holds, BE.den, std, stdCmp, stdArith] <;> omega
      case hQ =>
      intro X5 a0 w1 hF
      refine test_ok hF rfl (fun hb hF => ?_) (fun hb hF => ?_)
      · skip
        have hlong : 64 < val.size := by
          have : (64 : Int) < (val.size : Int) := by subst hB; simpa [std, stdCmp] using hb
          omega
        have hW : (wR kd n f nx mk key val) = (zeroRec, 2) := by unfold wR; rw [← hir]; simp [hk, hlong]
        refine wp_seq ?_
        apply region_okB hB T20_ok [6, 7] [6] [] hF
        case hex => intro A X; conv => lhs; cbv
        case hob =>
          intro X
          subst hB
          repeat (first | exact trivial | refine ⟨rfl, ?_⟩ | refine ⟨fun _ => rfl, ?_⟩ | refine ⟨ob_lab _ _ _ _, ?_⟩ | refine ⟨fun _ => ob_lab _ _ _ _, ?_⟩)
        case hQ =>
        intro X6 a0 w1 hF
        refine wp_ret ?_
        refine ret_sim (fn := Try.f20) T20_ok hF (rs := [.cell 6 27, .tmp 7]) rfl (by conv => lhs; cbv) ?_ (⟨0, fun _ => none, fun _ => 0, fun _ => ⟨#[]⟩⟩) ?_
        · simp [AllOb, Ob.holds]
        · subst hB
          rw [hW]
          exact Sim.tup ⟨Sim.agg ⟨Sim.refl _, Sim.recell (fun i hi => absurd hi (Nat.not_lt_zero _)), Sim.refl _, Sim.refl _, Sim.refl _, trivial⟩, Sim.refl _, trivial⟩
      · skip
        have hlong : ¬ 64 < val.size := by
          have : ¬ (64 : Int) < (val.size : Int) := by subst hB; simpa [std, stdCmp] using hb
          omega
        have SO := (mof_x A n c f hn).re (args' := [rowI A n c f]) (pre' := []) (res' := fun x => ⟨.ptr 8 x.b 0, [], [(8, ⟨x.b, 91, [rowI (x.A 0) (ofL (firsts f n)).length (x.c 0) (itF (ofL (firsts f n)))]⟩)]⟩) (SimL.refl _) rfl (fun x => ⟨rfl, rfl, Sim.ptr, rfl⟩)
        rw [ofL_srt hok n (Nat.le_refl _)] at SO
        unfold rowI at SO
        obtain ⟨n0, hn0⟩ : ∃ k, k = (firsts f n).length := ⟨_, rfl⟩
        obtain ⟨g0, hg0⟩ : ∃ g, g = itF (firsts f n) := ⟨_, rfl⟩
        rw [← hn0, ← hg0] at SO
        have hn0n : n0 = n := by rw [hn0, firsts_len]
        have hfg : firsts g0 n0 = (firsts f n) := by rw [hg0, hn0]; exact firsts_itF _
        refine wp_skip ?_
        refine wp_seq ?_
        apply region_okB hB T20_ok [8, 1, 2, 3, 6] [3, 6, 8] [(2, .x fun x => ⟨.ptr 8 x.b 0, [], [(8, ⟨x.b, 91, [.sl none (x.A 0) n0 (x.c 0) 2 (fun i => itC (g0 i))]⟩)]⟩)] hF
        case hex => intro A X; conv => lhs; cbv
        case hob =>
          intro X
          subst hB
          repeat (first | exact trivial | refine ⟨rfl, ?_⟩ | refine ⟨fun _ => rfl, ?_⟩ | refine ⟨ob_lab _ _ _ _, ?_⟩ | refine ⟨fun _ => ob_lab _ _ _ _, ?_⟩ | refine ⟨⟨enters58, SO⟩, ?_⟩ | refine ⟨fun _ => ⟨enters58, SO⟩, ?_⟩)
        case hQ =>
        intro X7 a0 w1 hF
        have SP := mput_m 8 (X7 2).b ((X7 2).A 0) n0 ((X7 2).c 0) g0 (by omega) key val
        unfold rowI at SP
        obtain ⟨l2, hl2⟩ : ∃ l, l = putM (firsts g0 n0) key val := ⟨_, rfl⟩
        rw [← hl2] at SP
        obtain ⟨n2, hn2⟩ : ∃ k, k = l2.length := ⟨_, rfl⟩
        obtain ⟨g2, hg2⟩ : ∃ g, g = itF l2 := ⟨_, rfl⟩
        rw [← hn2, ← hg2] at SP
        have hl3 : l2 = putL (firsts f n) key val := by rw [hl2, hfg]; unfold putM; rw [if_neg hlong]
        generalize pS (firsts g0 n0) key val = ps at SP
        generalize pB (firsts g0 n0) key val = pb at SP
        generalize pE val = pe at SP
        refine wp_seq ?_
        apply region_okB hB T20_ok [8, 3, 6] [3, 6, 8] [(3, .x fun x => ⟨.tup [.str ps, .bool (.v pb), .int .i64 pe], [(8, [.sl none (x.A 0) n2 (x.c 0) 2 (fun t => itC (g2 t))])], []⟩)] hF
        case hex => intro A X; conv => lhs; cbv
        case hob =>
          intro X
          subst hB
          repeat (first | exact trivial | refine ⟨rfl, ?_⟩ | refine ⟨fun _ => rfl, ?_⟩ | refine ⟨ob_lab _ _ _ _, ?_⟩ | refine ⟨fun _ => ob_lab _ _ _ _, ?_⟩ | refine ⟨⟨enters59, SP⟩, ?_⟩ | refine ⟨fun _ => ⟨enters59, SP⟩, ?_⟩)
        case hQ =>
        intro X8 a0 w1 hF
        refine wp_seq ?_
        refine wp_seq ?_
        apply region_okB hB T20_ok [33, 8, 3, 6] [3, 6, 8] [] hF
        case hex => intro A X; conv => lhs; cbv
        case hob =>
          intro X
          subst hB
          repeat (first | exact trivial | refine ⟨rfl, ?_⟩ | refine ⟨fun _ => rfl, ?_⟩ | refine ⟨ob_lab _ _ _ _, ?_⟩ | refine ⟨fun _ => ob_lab _ _ _ _, ?_⟩)
        case hQ =>
        intro X9 a0 w1 hF
        refine test_ok hF rfl (fun hb hF => ?_) (fun hb hF => ?_)
        · skip
          have hfull : 16 < n2 := by
            have : (16 : Int) < (n2 : Int) := by subst hB; simpa [std, stdCmp] using hb
            omega
          have hW : (wR kd n f nx mk key val) = (zeroRec, 12) := by unfold wR; rw [← hir]; simp [hk, hlong]; rw [← hl3, ← hn2]; simp [hfull]
          refine wp_seq ?_
          apply region_okB hB T20_ok [6, 7] [6] [] hF
          case hex => intro A X; conv => lhs; cbv
          case hob =>
            intro X
            subst hB
            repeat (first | exact trivial | refine ⟨rfl, ?_⟩ | refine ⟨fun _ => rfl, ?_⟩ | refine ⟨ob_lab _ _ _ _, ?_⟩ | refine ⟨fun _ => ob_lab _ _ _ _, ?_⟩)
          case hQ =>
          intro X10 a0 w1 hF
          refine wp_ret ?_
          refine ret_sim (fn := Try.f20) T20_ok hF (rs := [.cell 6 27, .tmp 7]) rfl (by conv => lhs; cbv) ?_ (⟨0, fun _ => none, fun _ => 0, fun _ => ⟨#[]⟩⟩) ?_
          · simp [AllOb, Ob.holds]
          · subst hB
            rw [hW]
            exact Sim.tup ⟨Sim.agg ⟨Sim.refl _, Sim.recell (fun i hi => absurd hi (Nat.not_lt_zero _)), Sim.refl _, Sim.refl _, Sim.refl _, trivial⟩, Sim.refl _, trivial⟩
        · skip
          have hfull : ¬ 16 < n2 := by
            have : ¬ (16 : Int) < (n2 : Int) := by subst hB; simpa [std, stdCmp] using hb
            omega
          have hW : (wR kd n f nx mk key val) = (⟨1, l2, nx, 0⟩, 0) := by unfold wR; rw [← hir]; simp [hk, hlong]; rw [← hl3, ← hn2]; simp [hfull]
          refine wp_skip ?_
          refine wp_seq ?_
          apply drawn_okB hB (by kernel_rfl) T20_ok [6, 7] [6] [] hF rfl
          case hex => intro A X; conv => lhs; cbv
          case hD => kernel_rfl
          case hlen => rfl
          case hob =>
            intro X
            subst hB
            repeat (first | exact trivial | refine ⟨rfl, ?_⟩ | refine ⟨fun _ => rfl, ?_⟩ | refine ⟨ob_lab _ _ _ _, ?_⟩ | refine ⟨fun _ => ob_lab _ _ _ _, ?_⟩)
          case hQ =>
          intro X11 a0 w1 hF
          refine wp_ret ?_
          refine ret_sim (fn := Try.f20) T20_ok hF (rs := [.cell 6 27, .tmp 7]) rfl (by conv => lhs; cbv) ?_ (⟨0, fun _ => (X8 3).A 0, fun _ => (X8 3).c 0, fun _ => ⟨#[]⟩⟩) ?_
          · simp [AllOb, Ob.holds]
          · subst hB
            rw [hW]
            exact Sim.tup ⟨Sim.agg ⟨Sim.refl _, Sim.resl hn2 (fun t ht => by rw [hg2]), Sim.refl _, Sim.refl _, Sim.refl _, trivial⟩, Sim.refl _, trivial⟩
def T22 : List (Nat × TI) := [(3, ti3), (4, ti4), (9, ti9), (22, ti22), (23, ti23), (25, ti25), (27, ti27), (86, ti86), (91, ti91)]
theorem T22_ok : TabOK Try.prog T22 := .cons t3 (.cons t4 (.cons t9 (.cons t22 (.cons t23 (.cons t25 (.cons t27 (.cons t86 (.cons t91 (.nil)))))))))
theorem enters22 : Enters Try.prog 22 := fun _ _ => by kernel_rfl
theorem rwout_s (A : Option Addr) (n c : Nat) (f : Nat → Itm) (hn : n ≤ 1000000) (kd : Int) (nx : Lab) (mk : Int) (hv : U64 nx.bits) (key : Int) : Spec Try.prog 22 [recI A n c f kd nx mk, .int .u64 key] (fun x => .tup [recAV (x.A 0) (x.c 0) (oR kd n f nx mk key).1, .bool (.v (oR kd n f nx mk key).2)]) := by
  intro m w hm hargs
  have hmx : maxLen = 9223372036854775807 := rfl
  have SI := risR_s A n c f (by omega) kd nx mk hv
  have SF := rfind_s A n c f hn kd nx mk key
  unfold recI rowI at hargs SI SF
  obtain ⟨ir, hir⟩ : ∃ r, r = isRF kd n f nx mk := ⟨_, rfl⟩
  rw [← hir] at SI
  obtain ⟨fb, hfb⟩ : ∃ r, r = findB (firsts f n) key := ⟨_, rfl⟩
  rw [← hfb] at SF
  generalize findS (firsts f n) key = fs at SF
  refine enter hm hargs Try.func22 rfl (by simp [Try.ntmps22]) fun a0 hF => ?_
  simp only [Try.ntmps22, startT] at hF
  obtain ⟨B, hB⟩ : ∃ B, B = std := ⟨_, rfl⟩
  refine wp_seq ?_
  apply region_okB hB T22_ok [1, 2, 4] [2, 4] [] hF
  case hex => intro A X; conv => lhs; cbv
  case hob =>
    intro X
    subst hB
    simp [AllOb, Ob.holds, BE.den, std, stdCmp, stdArith] <;> omega
  case hQ =>
  intro X0 a0 w1 hF
  refine wp_seq ?_
  apply region_okB hB T22_ok [1, 2, 4, 7] [2, 4] [(2, .r fun _ => .tup [.str fs, .bool (.v fb)])] hF
  case hex => intro A X; conv => lhs; cbv
  case hob =>
    intro X
    subst hB
    repeat (first | exact trivial | refine ⟨rfl, ?_⟩ | refine ⟨fun _ => rfl, ?_⟩ | refine ⟨ob_lab _ _ _ _, ?_⟩ | refine ⟨fun _ => ob_lab _ _ _ _, ?_⟩ | refine ⟨⟨enters24, SF⟩, ?_⟩ | refine ⟨fun _ => ⟨enters24, SF⟩, ?_⟩)
  case hQ =>
  intro X1 a0 w1 hF
  refine wp_seq ?_
  refine wp_seq ?_
  apply region_okB hB T22_ok [21, 1, 2, 4] [2, 4] [(1, .r fun _ => .bool (.v ir))] hF
  case hex => intro A X; conv => lhs; cbv
  case hob =>
    intro X
    subst hB
    repeat (first | exact trivial | refine ⟨rfl, ?_⟩ | refine ⟨fun _ => rfl, ?_⟩ | refine ⟨ob_lab _ _ _ _, ?_⟩ | refine ⟨fun _ => ob_lab _ _ _ _, ?_⟩ | refine ⟨⟨enters16, SI⟩, ?_⟩ | refine ⟨fun _ => ⟨enters16, SI⟩, ?_⟩)
  case hQ =>
  intro X2 a0 w1 hF
  refine test_ok hF rfl (fun hb hF => ?_) (fun hb hF => ?_)
  · skip
    have h9 : (if (!ir) = true then true else !fb) = true := by subst hB; exact hb
    have hW : (oR kd n f nx mk key) = (⟨kd, (firsts f n), nx, mk⟩, false) := by unfold oR; rw [← hir, ← hfb]; cases ir <;> cases fb <;> first | rfl | (simp at h9)
    refine wp_seq ?_
    apply region_okB hB T22_ok [4, 5] [4] [] hF
    case hex => intro A X; conv => lhs; cbv
    case hob =>
      intro X
      subst hB
      repeat (first | exact trivial | refine ⟨rfl, ?_⟩ | refine ⟨fun _ => rfl, ?_⟩ | refine ⟨ob_lab _ _ _ _, ?_⟩ | refine ⟨fun _ => ob_lab _ _ _ _, ?_⟩)
    case hQ =>
    intro X3 a0 w1 hF
    refine wp_ret ?_
    refine ret_sim (fn := Try.f22) T22_ok hF (rs := [.cell 4 27, .tmp 5]) rfl (by conv => lhs; cbv) ?_ (⟨0, fun _ => A, fun _ => c, fun _ => ⟨#[]⟩⟩) ?_
    · simp [AllOb, Ob.holds]
    · subst hB
      rw [hW]
      exact Sim.tup ⟨Sim.agg ⟨Sim.refl _, Sim.resl (firsts_len f n).symm (fun t ht => by rw [firsts_len] at ht; rw [firsts_get f n t ht]), Sim.refl _, Sim.refl _, Sim.refl _, trivial⟩, Sim.bool rfl, trivial⟩
  · skip
    have h9 : (if (!ir) = true then true else !fb) = false := by subst hB; exact hb
    have hirt : ir = true := by cases ir <;> first | rfl | (simp at h9)
    have hfbt : fb = true := by rw [hirt] at h9; cases fb <;> first | rfl | (simp at h9)
    rw [hirt] at hir
    obtain ⟨hkd1, hkd5, hn16, hnl, hok⟩ := isRF_kind hir.symm
    have hW : (oR kd n f nx mk key) = (⟨kd, dropL (firsts f n) key, nx, mk⟩, true) := by unfold oR; rw [← hir, ← hfb, hfbt]; rfl
    have SO := (mof_x A n c f hn).re (args' := [rowI A n c f]) (pre' := []) (res' := fun x => ⟨.ptr 8 x.b 0, [], [(8, ⟨x.b, 91, [rowI (x.A 0) (ofL (firsts f n)).length (x.c 0) (itF (ofL (firsts f n)))]⟩)]⟩) (SimL.refl _) rfl (fun x => ⟨rfl, rfl, Sim.ptr, rfl⟩)
    rw [ofL_srt hok n (Nat.le_refl _)] at SO
    unfold rowI at SO
    obtain ⟨n0, hn0⟩ : ∃ k, k = (firsts f n).length := ⟨_, rfl⟩
    obtain ⟨g0, hg0⟩ : ∃ g, g = itF (firsts f n) := ⟨_, rfl⟩
    rw [← hn0, ← hg0] at SO
    have hn0n : n0 = n := by rw [hn0, firsts_len]
    have hfg : firsts g0 n0 = (firsts f n) := by rw [hg0, hn0]; exact firsts_itF _
    refine wp_skip ?_
    refine wp_seq ?_
    apply region_okB hB T22_ok [8, 1, 2, 4] [2, 4, 8] [(2, .x fun x => ⟨.ptr 8 x.b 0, [], [(8, ⟨x.b, 91, [.sl none (x.A 0) n0 (x.c 0) 2 (fun i => itC (g0 i))]⟩)]⟩)] hF
    case hex => intro A X; conv => lhs; cbv
    case hob =>
      intro X
      subst hB
      repeat (first | exact trivial | refine ⟨rfl, ?_⟩ | refine ⟨fun _ => rfl, ?_⟩ | refine ⟨ob_lab _ _ _ _, ?_⟩ | refine ⟨fun _ => ob_lab _ _ _ _, ?_⟩ | refine ⟨⟨enters58, SO⟩, ?_⟩ | refine ⟨fun _ => ⟨enters58, SO⟩, ?_⟩)
    case hQ =>
    intro X4 a0 w1 hF
    have SP := mdrop_m 8 (X4 2).b ((X4 2).A 0) n0 ((X4 2).c 0) g0 (by omega) key
    unfold rowI at SP
    rw [hfg] at SP
    obtain ⟨l2, hl2⟩ : ∃ l, l = dropL (firsts f n) key := ⟨_, rfl⟩
    rw [← hl2] at SP hW
    obtain ⟨n2, hn2⟩ : ∃ k, k = l2.length := ⟨_, rfl⟩
    obtain ⟨g2, hg2⟩ : ∃ g, g = itF l2 := ⟨_, rfl⟩
    rw [← hn2, ← hg2] at SP
    generalize findS (firsts f n) key = ps at SP
    generalize findB (firsts f n) key = pb at SP
    refine wp_seq ?_
    apply region_okB hB T22_ok [8, 2, 4] [2, 4, 8] [(2, .x fun x => ⟨.tup [.str ps, .bool (.v pb)], [(8, [.sl none (x.A 0) n2 (x.c 0) 2 (fun t => itC (g2 t))])], []⟩)] hF
    case hex => intro A X; conv => lhs; cbv
    case hob =>
      intro X
      subst hB
      repeat (first | exact trivial | refine ⟨rfl, ?_⟩ | refine ⟨fun _ => rfl, ?_⟩ | refine ⟨ob_lab _ _ _ _, ?_⟩ | refine ⟨fun _ => ob_lab _ _ _ _, ?_⟩ | refine ⟨⟨enters61, SP⟩, ?_⟩ | refine ⟨fun _ => ⟨enters61, SP⟩, ?_⟩)
    case hQ =>
    intro X5 a0 w1 hF
    refine wp_seq ?_
    apply drawn_okB hB (by kernel_rfl) T22_ok [4, 5] [4] [] hF rfl
    case hex => intro A X; conv => lhs; cbv
    case hD => kernel_rfl
    case hlen => rfl
    case hob =>
      intro X
      subst hB
      repeat (first | exact trivial | refine ⟨rfl, ?_⟩ | refine ⟨fun _ => rfl, ?_⟩ | refine ⟨ob_lab _ _ _ _, ?_⟩ | refine ⟨fun _ => ob_lab _ _ _ _, ?_⟩)
    case hQ =>
    intro X6 a0 w1 hF
    refine wp_ret ?_
    refine ret_sim (fn := Try.f22) T22_ok hF (rs := [.cell 4 27, .tmp 5]) rfl (by conv => lhs; cbv) ?_ (⟨0, fun _ => (X5 2).A 0, fun _ => (X5 2).c 0, fun _ => ⟨#[]⟩⟩) ?_
    · simp [AllOb, Ob.holds]
    · subst hB
      rw [hW]
      exact Sim.tup ⟨Sim.agg ⟨Sim.refl _, Sim.resl hn2 (fun t ht => by rw [hg2]), Sim.refl _, Sim.refl _, Sim.refl _, trivial⟩, Sim.bool rfl, trivial⟩
end Go.Proofs.Ytkamdppnnhjajaa.Sym
