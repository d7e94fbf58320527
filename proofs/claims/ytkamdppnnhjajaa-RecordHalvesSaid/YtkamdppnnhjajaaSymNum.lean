/-
  Numbers written as bytes (printed by a program of mine). Conditions: none.
-/
import Derived.Test.YtkamdppnnhjajaaPlWire
import Derived.Test.YtkamdppnnhjajaaSymLab
import Derived.Test.YtkamdppnnhjajaaSymLen
namespace Go.Proofs.Ytkamdppnnhjajaa.Sym
open Go Go.RowKit
set_option maxRecDepth 100000
set_option linter.unusedVariables false
set_option linter.unusedSimpArgs false
theorem isL_len {l : Lab} (h : isL l = true) : 0 ≤ l.len ∧ l.len ≤ 64 := by
  simp only [isL, Bool.and_eq_true, decide_eq_true_eq] at h
  exact h.1
theorem labL_len {l : Lab} (h : isL l = true) : (labL l).length = (l.len.toNat + 7) / 8 + 1 := by
  have := isL_len h
  simp [labL, bytesN_len]
  omega
theorem labL_get (l : Lab) : ∀ t, t < (l.len.toNat + 7) / 8 → t < 8 → (labL l)[t + 1]? = some (byN l.bits.toNat (7 - t)) := fun t ht h8 => by
  unfold labL
  rw [List.getElem?_cons_succ, List.getElem?_take_of_lt ht, bytesN_get _ _ _ h8]
theorem top_byte (b j : Nat) (hj : j < 8) : byN b (7 - j) = UInt8.ofNat (b * 256 ^ j % 2 ^ 64 / 2 ^ 56) := by
  apply UInt8.toNat_inj.1
  rw [byN_toNat, UInt8.toNat_ofNat', show (2 : Nat) ^ 64 = 2 ^ 56 * 256 from rfl, Nat.mod_mul_right_div_self, Nat.mod_mod]
  congr 1
  rw [show (2 : Nat) ^ 56 = 256 ^ 7 from rfl, show (256 : Nat) ^ 7 = 256 ^ (7 - j) * 256 ^ j by rw [← Nat.pow_add, show 7 - j + j = 7 by omega], Nat.mul_div_mul_right _ _ (Nat.pow_pos (by decide))]
theorem shl8 (b j : Nat) : std.shift .shl .u64 ((b * 256 ^ j % 2 ^ 64 : Nat) : Int) 8 = ((b * 256 ^ (j + 1) % 2 ^ 64 : Nat) : Int) := by
  show IntKind.u64.wrap (((b * 256 ^ j % 2 ^ 64 : Nat) : Int) * ((256 : Nat) : Int)) = _
  rw [← Int.natCast_mul, wrap_u64n, Nat.mod_mul_mod, Nat.mul_assoc, ← Nat.pow_succ]
def T72 : List (Nat × TI) := [(3, ti3), (5, ti5), (23, ti23), (101, ti101)]
theorem T72_ok : TabOK Try.prog T72 := .cons t3 (.cons t5 (.cons t23 (.cons t101 (.nil))))
theorem enters72 : Enters Try.prog 72 := fun _ _ => by kernel_rfl
theorem number_w (v : Int) (hv : U64 v) : Spec Try.prog 72 [.int .u64 v] (fun x => .sl none (x.A 0) (len8 v.toNat + 1) (len8 v.toNat + 1) 1 (bytesC (numL v.toNat))) := by
  intro m w hm hargs
  have hv64 : v.toNat < 2 ^ 64 := by have := hv.1; have := hv.2; omega
  have h8 := len8_le hv64
  have S := len64_s v hv
  generalize hz : ((Lib.bitLen v.toNat : Nat) : Int) = z at S
  have hz8 : IntKind.i64.wrap (IntKind.i64.wrap (IntKind.i64.wrap (z + 8) - 1) |>.tdiv 8) = (len8 v.toNat : Int) := by
    have := Lib.bitLen_le v.toNat 64 (by decide) hv64
    rw [wrap_in (x := z + 8) (by omega) (by omega), wrap_in (x := z + 8 - 1) (by omega) (by omega), show z + 8 - 1 = ((Lib.bitLen v.toNat + 7 : Nat) : Int) by omega]
    show IntKind.i64.wrap (((Lib.bitLen v.toNat + 7) / 8 : Nat) : Int) = _
    exact wrap_i64n _ (by unfold len8 at h8; omega)
  have hlenL := numL_len v.toNat
  have hhead : (numL v.toNat)[0]? = some (UInt8.ofNat (len8 v.toNat)) := rfl
  have htail : ∀ t, t < len8 v.toNat → (numL v.toNat)[t + 1]? = some (byN v.toNat (len8 v.toNat - 1 - t)) := fun t ht => by unfold numL; rw [List.getElem?_cons_succ]; exact bytesN_get _ _ t ht
  have hbyte := len8_byte hv64
  generalize numL v.toNat = L at hlenL hhead htail ⊢
  generalize hn : len8 v.toNat = n at h8 hz8 hlenL hhead htail hbyte ⊢
  refine enter hm hargs Try.func72 rfl (by simp [Try.ntmps72]) fun a0 hF => ?_
  simp only [Try.ntmps72, startT] at hF
  obtain ⟨B, hB⟩ : ∃ B, B = std := ⟨_, rfl⟩
  refine wp_seq ?_
  apply region_okB hB T72_ok [0] [] [] hF
  case hex => intro A X; conv => lhs; cbv
  case hob =>
    intro X
    subst hB
    simp [AllOb, Ob.holds, BE.den, std, stdCmp, stdArith] <;> omega
  case hQ =>
  intro X0 a0 w1 hF
  refine wp_seq ?_
  apply region_okB hB T72_ok [3, 0] [] [(1, .r fun _ => .int .i64 z)] hF
  case hex => intro A X; conv => lhs; cbv
  case hob =>
    intro X
    subst hB
    exact ⟨⟨enters94, S⟩, show (8 : Int) ≠ 0 by decide, trivial⟩
  case hQ =>
  intro X1 a0 w1 hF
  replace hF := hF.head (v' := .int .i64 (n : Int)) (by subst hB; rw [← hz8]; rfl)
  refine wp_seq ?_
  apply region_okB hB T72_ok [4, 3, 0] [13, 27] [] hF
  case hex => intro A X; conv => lhs; cbv
  case hob =>
    intro X
    subst hB
    simp [AllOb, Ob.holds, BE.den, std, stdCmp, stdArith] <;> omega
  case hQ =>
  intro X2 a0 w1 hF
  refine wp_seq ?_
  refine wp_seq ?_
  apply region_okB hB T72_ok [4, 5, 3, 0] [13, 27] [] hF
  case hex => intro A X; conv => lhs; cbv
  case hob =>
    intro X
    subst hB
    simp [AllOb, Ob.holds, BE.den, std, stdCmp, stdArith] <;> omega
  case hQ =>
  intro X3 a0 w1 hF
  refine wp_block ?_
  have hJ0 : ∀ t, t < 0 + 1 → chunk 1 [.int .u8 (B.conv .u8 (n : Int))] t = bytesC L t := by
    intro t ht
    have : t = 0 := by omega
    subst this
    subst hB
    simp only [chunk, bytesC, hhead]
    show [AV.int .u8 (IntKind.u8.wrap (n : Int))] = _
    rw [hbyte]; rfl
  refine loop_pre (ι := Nat × Int × Option Addr × Nat × (Nat → List AV)) (fun p => [(4, .sl (some 13) p.2.2.1 (p.1 + 1) p.2.2.2.1 1 p.2.2.2.2), (5, .int .i64 p.2.1)]) (fun p => []) (fun p => [(13, ⟨p.2.2.1, p.1 + 1, p.2.2.2.1, 1, 5⟩)]) (fun p => p.1 ≤ n ∧ p.2.1 = (n : Int) - 1 - p.1 ∧ ∀ t, t < p.1 + 1 → p.2.2.2.2 t = bytesC L t) (fun p => n - p.1) (0, (n : Int) - 1, _, 1, chunk 1 [.int .u8 (B.conv .u8 (n : Int))]) ⟨Nat.zero_le _, by simp, hJ0⟩ (by rw [show ((n : Int) - 1) = B.arith .sub .i64 (n : Int) 1 by subst hB; exact (wrap_in (by omega) (by omega)).symm]; exact hF) ?_
  rintro ⟨j, y, A, c, f⟩ ⟨hj, hy, hf⟩ a0 w1 hF
  try dsimp only at hj
  try dsimp only at hy
  try dsimp only at hf
  refine wp_seq ?_
  refine wp_seq ?_
  apply region_okB hB T72_ok [17, 4, 5, 3, 0] [13, 27] [] hF
  case hex => intro A X; conv => lhs; cbv
  case hob =>
    intro X
    subst hB
    simp [AllOb, Ob.holds, BE.den, std, stdCmp, stdArith] <;> omega
  case hQ =>
  intro X4 a0 w1 hF
  refine test_ok hF rfl (fun hb hF => ?_) (fun hb hF => ?_)
  · skip
    have hin : j < n := by
      have : 0 ≤ y := by subst hB; simpa [std, stdCmp] using hb
      omega
    refine wp_skip ?_
    refine wp_seq ?_
    refine wp_block ?_
    apply region_okB hB T72_ok [4, 5, 3, 0] [13, 27] [] hF
    case hex => intro A X; conv => lhs; cbv
    case hob =>
      intro X
      subst hB
      refine ⟨?_, ⟨rfl, rfl, rfl⟩, ⟨?_, ?_⟩, trivial⟩
      · show 0 ≤ IntKind.i64.wrap (8 * y)
        rw [wrap_in (by omega) (by omega)]; omega
      · show j + 1 + 1 ≤ maxLen
        simp only [maxLen]; omega
      · show (j + 1 + 1) * _ ≤ _
        omega
    case hQ =>
    intro X6 a0 w1 hF
    apply region_okB hB T72_ok [4, 5, 3, 0] [13, 27] [] hF
    case hex => intro A X; conv => lhs; cbv
    case hob =>
      intro X
      subst hB
      simp [AllOb, Ob.holds, BE.den, std, stdCmp, stdArith] <;> omega
    case hQ =>
    intro X5 a0 w1 hF
    refine ⟨(j + 1, y - 1, _, _, _), ⟨by simp only; omega, by simp only; omega, ?_⟩, by simp only; omega, by rw [show y - 1 = B.arith .sub .i64 y 1 by subst hB; exact (wrap_in (by omega) (by omega)).symm, show j + 1 + 1 = B.nadd (j + 1) 1 by subst hB; rfl]; exact hF⟩
    intro t ht
    have ht2 : t < j + 1 + 1 := ht
    subst hB
    show appC (j + 1) f (chunk 1 [.int .u8 (IntKind.u8.wrap (stdShift .shr .u64 v (IntKind.i64.wrap (8 * y))))]) t = _
    unfold appC
    split
    · exact hf t (by assumption)
    · have : t = j + 1 := by omega
      subst this
      rw [wrap_in (x := 8 * y) (by omega) (by omega), show 8 * y = ((8 * (n - 1 - j) : Nat) : Int) by omega, byte_of hv _ (by omega)]
      rw [Nat.sub_self]
      simp only [chunk, bytesC, htail j (by omega)]
      rfl
  · skip
    have hjn : j = n := by
      have : ¬ 0 ≤ y := by subst hB; simpa [std, stdCmp] using hb
      omega
    have hoL := hF.slot 4 rfl
    have hc1 := (ok_len hoL.2).1
    refine wp_exit ?_
    refine wp_seq ?_
    apply region_okB hB T72_ok [2] [2] [] hF
    case hex => intro A X; conv => lhs; cbv
    case hob =>
      intro X
      subst hB
      have e1 : IntKind.i64.wrap (1 + (n : Int)) = ((n + 1 : Nat) : Int) := by rw [wrap_in (by omega) (by omega)]; omega
      refine ⟨⟨by decide, ?_, ?_, ?_, ?_⟩, trivial⟩
      · show 0 ≤ IntKind.i64.wrap (1 + (n : Int)); rw [e1]; omega
      · exact Int.le_refl _
      · show IntKind.i64.wrap (1 + (n : Int)) ≤ (c : Int); rw [e1]; omega
      · show IntKind.i64.wrap (1 + (n : Int)) ≤ ((j + 1 : Nat) : Int); rw [e1]; omega
    case hQ =>
    intro X7 a0 w1 hF
    refine wp_ret ?_
    refine ret_sim (fn := Try.f72) T72_ok hF (rs := [.tmp 2]) rfl (rfl) ?_ (⟨0, fun _ => adrOf A (IntKind.i64.wrap (1 + (n : Int))).toNat 0 1, fun _ => 0, fun _ => .empty⟩) ?_
    · simp [AllOb, Ob.holds]
    · subst hB
      have e1 : IntKind.i64.wrap (1 + (n : Int)) = ((n + 1 : Nat) : Int) := by rw [wrap_in (by omega) (by omega)]; omega
      have e2 : (IntKind.i64.wrap (1 + (n : Int))).toNat - (0 : Int).toNat = n + 1 := by rw [e1]; simp
      refine ⟨?_, fun _ => rfl, fun m w h => ?_⟩
      · show Value.slice _ ((IntKind.i64.wrap (1 + (n : Int))).toNat - (0 : Int).toNat) ((IntKind.i64.wrap (1 + (n : Int))).toNat - (0 : Int).toNat) = _
        rw [e2]; rfl
      · have h2 : Ok m w (.sl none _ ((IntKind.i64.wrap (1 + (n : Int))).toNat - (0 : Int).toNat) ((IntKind.i64.wrap (1 + (n : Int))).toNat - (0 : Int).toNat) 1 (fromC 0 f)) := h
        rw [e2] at h2
        exact ok_recell h2 (fun i hi => by simp only [fromC, Nat.zero_add]; exact hf i (by omega))
def T33 : List (Nat × TI) := [(9, ti9), (23, ti23), (101, ti101)]
theorem T33_ok : TabOK Try.prog T33 := .cons t9 (.cons t23 (.cons t101 (.nil)))
theorem enters33 : Enters Try.prog 33 := fun _ _ => by kernel_rfl
theorem putNum_s (b : ByteArray) (v : Int) (hv : U64 v) (hb : b.size ≤ 1000000000) : Spec Try.prog 33 [.str b, .int .u64 v] (fun _ => .str (b ++ mkB (numL v.toNat))) := by
  intro m w hm hargs
  have hv64 : v.toNat < 2 ^ 64 := by have := hv.1; have := hv.2; omega
  have h8 := len8_le hv64
  have S := number_w v hv
  have hr := rowStr_C (numL v.toNat) (len8 v.toNat + 1) (by rw [numL_len]; exact Nat.le_refl _)
  rw [List.take_of_length_le (by rw [numL_len]; exact Nat.le_refl _)] at hr
  have hbc : ∀ i, ∃ x, bytesC (numL v.toNat) i = [.int .u8 x] := fun i => ⟨_, rfl⟩
  have hsz : (mkB (numL v.toNat)).size ≤ 9 := by rw [mk_size, numL_len]; omega
  generalize mkB (numL v.toNat) = r at hr hsz ⊢
  generalize bytesC (numL v.toNat) = f at S hr hbc
  generalize len8 v.toNat + 1 = n at S hr
  refine enter hm hargs Try.func33 rfl (by simp [Try.ntmps33]) fun a0 hF => ?_
  simp only [Try.ntmps33, startT] at hF
  obtain ⟨B, hB⟩ : ∃ B, B = std := ⟨_, rfl⟩
  refine wp_seq ?_
  apply region_okB hB T33_ok [0, 1] [] [] hF
  case hex => intro A X; conv => lhs; cbv
  case hob =>
    intro X
    subst hB
    simp [AllOb, Ob.holds, BE.den, std, stdCmp, stdArith] <;> omega
  case hQ =>
  intro X0 a0 w1 hF
  refine wp_seq ?_
  apply region_okB hB T33_ok [4] [] [(2, .r fun x => .sl none (x.A 0) n n 1 f)] hF
  case hex => intro A X; conv => lhs; cbv
  case hob =>
    intro X
    subst hB
    refine ⟨⟨enters72, S⟩, fun i _ => hbc i, ?_, trivial⟩
    show b.size + (rowStr n f).size ≤ maxLen
    rw [hr]; simp only [maxLen]; omega
  case hQ =>
  intro X1 a0 w1 hF
  refine wp_ret ?_
  refine ret_spec (fn := Try.f33) T33_ok hF (rs := [.tmp 4]) rfl (rfl) ?_ noAtom ?_
  · subst hB; simp [AllOb, Ob.holds]
  · subst hB
    show AV.str (b ++ rowStr n f) = _
    rw [hr]; rfl
def T35 : List (Nat × TI) := [(3, ti3), (9, ti9), (23, ti23), (29, ti29)]
theorem T35_ok : TabOK Try.prog T35 := .cons t3 (.cons t9 (.cons t23 (.cons t29 (.nil))))
theorem enters35 : Enters Try.prog 35 := fun _ _ => by kernel_rfl
theorem putText_s (b s : ByteArray) (hb : b.size ≤ 1000000000) (hs : s.size ≤ 4096) : Spec Try.prog 35 [.str b, .str s] (fun _ => .tup [.str (b ++ mkB (textL (unB s))), .int .i64 0]) := by
  intro m w hm hargs
  have hb0 := hb
  have e0 : b ++ mkB (textL (unB s)) = b ++ mkB (numL ((s.size : Int)).toNat) ++ s := by apply un_inj; simp only [un_append, un_mk, textL, un_size, Int.toNat_natCast, List.append_assoc]
  rw [e0]
  have S := putNum_s b (s.size : Int) ⟨by omega, by omega⟩ hb
  have hsz : (b ++ mkB (numL ((s.size : Int)).toNat)).size ≤ 1000000009 := by rw [ByteArray.size_append, mk_size, numL_len]; have := len8_le (v := ((s.size : Int)).toNat) (by omega); omega
  generalize b ++ mkB (numL ((s.size : Int)).toNat) = r at S hsz ⊢
  refine enter hm hargs Try.func35 rfl (by simp [Try.ntmps35]) fun a0 hF => ?_
  simp only [Try.ntmps35, startT] at hF
  obtain ⟨B, hB⟩ : ∃ B, B = std := ⟨_, rfl⟩
  refine wp_seq ?_
  apply region_okB hB T35_ok [0, 1] [] [] hF
  case hex => intro A X; conv => lhs; cbv
  case hob =>
    intro X
    subst hB
    simp [AllOb, Ob.holds, BE.den, std, stdCmp, stdArith] <;> omega
  case hQ =>
  intro X0 a0 w1 hF
  refine wp_seq ?_
  refine wp_seq ?_
  apply region_okB hB T35_ok [8, 0, 1] [] [] hF
  case hex => intro A X; conv => lhs; cbv
  case hob =>
    intro X
    subst hB
    simp [AllOb, Ob.holds, BE.den, std, stdCmp, stdArith] <;> omega
  case hQ =>
  intro X1 a0 w1 hF
  refine test_ok hF rfl (fun hb hF => ?_) (fun hb hF => ?_)
  · exfalso
    subst hB
    have h1 : (4096 : Int) < (s.size : Int) := by simpa [std, stdCmp] using hb
    omega
  · skip
    refine wp_skip ?_
    refine wp_seq ?_
    apply region_okB hB T35_ok [4, 5] [] [(4, .r fun _ => .str r)] hF
    case hex => intro A X; conv => lhs; cbv
    case hob =>
      intro X
      subst hB
      refine ⟨⟨enters33, ?_⟩, ?_, trivial⟩
      · show Spec _ _ [.str b, .int .u64 (IntKind.u64.wrap (s.size : Int))] _
        rw [wrap_u64 _ ⟨by omega, by omega⟩]; exact S
      · show r.size + s.size ≤ maxLen
        simp only [maxLen]; omega
    case hQ =>
    intro X3 a0 w1 hF
    refine wp_ret ?_
    refine ret_spec (fn := Try.f35) T35_ok hF (rs := [.tmp 4, .tmp 5]) rfl (rfl) ?_ noAtom ?_
    · subst hB; simp [AllOb, Ob.holds]
    · subst hB; rfl
def T37 : List (Nat × TI) := [(3, ti3), (5, ti5), (9, ti9), (23, ti23), (25, ti25), (29, ti29), (101, ti101)]
theorem T37_ok : TabOK Try.prog T37 := .cons t3 (.cons t5 (.cons t9 (.cons t23 (.cons t25 (.cons t29 (.cons t101 (.nil)))))))
theorem enters37 : Enters Try.prog 37 := fun _ _ => by kernel_rfl
theorem putLab_s (b : ByteArray) (l : Lab) (hv : U64 l.bits) (hl : isL l = true) (hb : b.size ≤ 1000000000) : Spec Try.prog 37 [.str b, labAV l] (fun _ => .tup [.str (b ++ mkB (labL l)), .int .i64 0]) := by
  intro m w hm hargs
  have S := isL_s l hv
  rw [hl] at S
  replace S := Spec.res (res' := fun _ => .bool .tt) S fun _ => Sim.bool rfl
  simp only [labAV] at hargs S ⊢
  obtain ⟨hl0, hl1⟩ := isL_len hl
  have hlenL := labL_len hl
  have hhead : (labL l)[0]? = some (UInt8.ofNat l.len.toNat) := rfl
  have htail := labL_get l
  have hrs := rowStr_C (labL l)
  generalize labL l = L at hlenL hhead htail hrs ⊢
  generalize hn : (l.len.toNat + 7) / 8 = n at hlenL htail
  obtain ⟨qe, hqe⟩ : ∃ qe : Int, qe = l.len := ⟨_, rfl⟩
  refine enter hm hargs Try.func37 rfl (by simp [Try.ntmps37]) fun a0 hF => ?_
  simp only [Try.ntmps37, startT] at hF
  obtain ⟨B, hB⟩ : ∃ B, B = std := ⟨_, rfl⟩
  refine wp_seq ?_
  apply region_okB hB T37_ok [0, 3] [3] [] hF
  case hex => intro A X; conv => lhs; cbv
  case hob =>
    intro X
    subst hB
    simp [AllOb, Ob.holds, BE.den, std, stdCmp, stdArith] <;> omega
  case hQ =>
  intro X0 a0 w1 hF
  refine wp_seq ?_
  refine wp_seq ?_
  apply region_okB hB T37_ok [10, 0, 3] [3] [(1, .r fun _ => .bool .tt)] hF
  case hex => intro A X; conv => lhs; cbv
  case hob =>
    intro X
    subst hB
    exact ⟨rfl, ⟨enters52, S⟩, trivial⟩
  case hQ =>
  intro X1 a0 w1 hF
  refine test_ff hF rfl (fun hF => ?_)
  refine wp_skip ?_
  refine wp_seq ?_
  apply region_okB hB T37_ok [6, 3, 0] [3, 14, 29] [] hF
  case hex => intro A X; conv => lhs; cbv
  case hob =>
    intro X
    subst hB
    simp [AllOb, Ob.holds, BE.den, std, stdCmp, stdArith] <;> omega
  case hQ =>
  intro X3 a0 w1 hF
  refine wp_seq ?_
  refine wp_seq ?_
  apply region_okB hB T37_ok [6, 7, 3, 0] [3, 14, 29] [] hF
  case hex => intro A X; conv => lhs; cbv
  case hob =>
    intro X
    subst hB
    simp [AllOb, Ob.holds, BE.den, std, stdCmp, stdArith] <;> omega
  case hQ =>
  intro X4 a0 w1 hF
  refine wp_block ?_
  have hJ0 : ∀ t, t < 0 + 1 → chunk 1 [.int .u8 (B.conv .u8 l.len)] t = bytesC L t := by
    intro t ht
    have : t = 0 := by omega
    subst this
    subst hB
    simp only [chunk, bytesC, hhead]
    show [AV.int .u8 (IntKind.u8.wrap l.len)] = _
    rw [show l.len = ((l.len.toNat : Nat) : Int) by omega, wrap_u8, Int.toNat_natCast]; simp [UInt8.toNat_ofNat']
  refine loop_pre (ι := Nat × Int × Option Addr × Nat × (Nat → List AV)) (fun p => [(6, .sl (some 14) p.2.2.1 (p.1 + 1) p.2.2.2.1 1 p.2.2.2.2), (7, .int .i64 p.2.1)]) (fun p => []) (fun p => [(14, ⟨p.2.2.1, p.1 + 1, p.2.2.2.1, 1, 5⟩)]) (fun p => p.1 ≤ n ∧ p.2.1 = 8 * (p.1 : Int) ∧ ∀ t, t < p.1 + 1 → p.2.2.2.2 t = bytesC L t) (fun p => n - p.1) (0, 0, _, 1, chunk 1 [.int .u8 (B.conv .u8 l.len)]) ⟨Nat.zero_le _, rfl, hJ0⟩ hF ?_
  rintro ⟨j, z, A, c, f⟩ ⟨hj, hz, hf⟩ a0 w1 hF
  try dsimp only at hj
  try dsimp only at hz
  try dsimp only at hf
  refine wp_seq ?_
  refine wp_seq ?_
  apply region_okB hB T37_ok [18, 6, 7, 3, 0] [3, 14, 29] [] hF
  case hex => intro A X; conv => lhs; cbv
  case hob =>
    intro X
    subst hB
    simp [AllOb, Ob.holds, BE.den, std, stdCmp, stdArith] <;> omega
  case hQ =>
  intro X5 a0 w1 hF
  refine test_ok hF rfl (fun hb hF => ?_) (fun hb hF => ?_)
  · skip
    have hin : z < l.len := by subst hB; simpa [std, stdCmp] using hb
    refine wp_skip ?_
    refine wp_seq ?_
    refine wp_block ?_
    apply region_okB hB T37_ok [6, 7, 3, 0] [3, 14, 29] [] hF
    case hex => intro A X; conv => lhs; cbv
    case hob =>
      intro X
      subst hB
      refine ⟨rfl, ?_, ⟨rfl, rfl, rfl⟩, ⟨?_, ?_⟩, trivial⟩
      · show 0 ≤ IntKind.i64.wrap (56 - z)
        rw [wrap_in (by omega) (by omega)]; omega
      · show j + 1 + 1 ≤ maxLen
        simp only [maxLen]; omega
      · show (j + 1 + 1) * _ ≤ _
        omega
    case hQ =>
    intro X7 a0 w1 hF
    apply region_okB hB T37_ok [6, 7, 3, 0] [3, 14, 29] [] hF
    case hex => intro A X; conv => lhs; cbv
    case hob =>
      intro X
      subst hB
      simp [AllOb, Ob.holds, BE.den, std, stdCmp, stdArith] <;> omega
    case hQ =>
    intro X6 a0 w1 hF
    refine ⟨(j + 1, z + 8, _, _, _), ⟨by simp only; omega, by simp only; omega, ?_⟩, by simp only; omega, by rw [show z + 8 = B.arith .add .i64 z 8 by subst hB; exact (wrap_in (by omega) (by omega)).symm, show j + 1 + 1 = B.nadd (j + 1) 1 by subst hB; rfl]; exact hF⟩
    intro t ht
    have ht2 : t < j + 1 + 1 := ht
    subst hB
    show appC (j + 1) f (chunk 1 [.int .u8 (IntKind.u8.wrap (stdShift .shr .u64 l.bits (IntKind.i64.wrap (56 - z))))]) t = _
    unfold appC
    split
    · exact hf t (by assumption)
    · have : t = j + 1 := by omega
      subst this
      rw [wrap_in (x := 56 - z) (by omega) (by omega), show 56 - z = ((8 * (7 - j) : Nat) : Int) by omega, byte_of hv _ (by omega)]
      rw [Nat.sub_self]
      simp only [chunk, bytesC, htail j (by omega) (by omega)]
      rfl
  · skip
    have hout : ¬ z < l.len := by subst hB; simpa [std, stdCmp] using hb
    have hjn : j = n := by omega
    refine wp_exit ?_
    refine wp_seq ?_
    apply region_okB hB T37_ok [4, 5] [] [] hF
    case hex => intro A X; conv => lhs; cbv
    case hob =>
      intro X
      subst hB
      refine ⟨fun i hi => ?_, ?_, trivial⟩
      · rw [hf i hi]; exact ⟨_, rfl⟩
      · show b.size + (rowStr (j + 1) f).size ≤ maxLen
        rw [rowStr_size]; simp only [maxLen]; omega
    case hQ =>
    intro X8 a0 w1 hF
    refine wp_ret ?_
    refine ret_spec (fn := Try.f37) T37_ok hF (rs := [.tmp 4, .tmp 5]) rfl (rfl) ?_ noAtom ?_
    · subst hB; simp [AllOb, Ob.holds]
    · subst hB
      show AV.tup [.str (b ++ rowStr (j + 1) f), .int .i64 0] = AV.tup [.str (b ++ mkB L), .int .i64 0]
      rw [rowStr_congr hf, hrs (j + 1) (by omega), List.take_of_length_le (by omega)]
def T73 : List (Nat × TI) := [(5, ti5), (9, ti9), (23, ti23), (101, ti101)]
theorem T73_ok : TabOK Try.prog T73 := .cons t5 (.cons t9 (.cons t23 (.cons t101 (.nil))))
theorem enters73 : Enters Try.prog 73 := fun _ _ => by kernel_rfl
theorem one_s (v : Int) (hv : U64 v) : Spec Try.prog 73 [.int .u64 v] (fun _ => .str (mkB [UInt8.ofNat v.toNat])) := by
  intro m w hm hargs
  refine enter hm hargs Try.func73 rfl (by simp [Try.ntmps73]) fun a0 hF => ?_
  simp only [Try.ntmps73, startT] at hF
  obtain ⟨B, hB⟩ : ∃ B, B = std := ⟨_, rfl⟩
  refine wp_seq ?_
  apply region_okB hB T73_ok [0] [] [] hF
  case hex => intro A X; conv => lhs; cbv
  case hob =>
    intro X
    subst hB
    simp [AllOb, Ob.holds, BE.den, std, stdCmp, stdArith] <;> omega
  case hQ =>
  intro X0 a0 w1 hF
  refine wp_seq ?_
  apply region_okB hB T73_ok [2] [] [] hF
  case hex => intro A X; conv => lhs; cbv
  case hob =>
    intro X
    subst hB
    refine ⟨show (256 : Int) ≠ 0 by decide, fun i hi => ?_, trivial⟩
    have : i = 0 := by omega
    subst this; exact ⟨_, rfl⟩
  case hQ =>
  intro X1 a0 w1 hF
  refine wp_ret ?_
  refine ret_spec (fn := Try.f73) T73_ok hF (rs := [.tmp 2]) rfl (rfl) ?_ noAtom ?_
  · subst hB; simp [AllOb, Ob.holds]
  · subst hB
    show AV.str (rowStr 1 (chunk 1 [.int .u8 (IntKind.u8.wrap (v.tmod 256))])) = _
    obtain ⟨x, rfl⟩ := Int.eq_ofNat_of_zero_le hv.1
    rw [rowStr_succ]
    show AV.str (mkB [UInt8.ofNat (IntKind.u8.wrap ((x % 256 : Nat) : Int)).toNat]) = _
    rw [wrap_u8, Int.toNat_natCast, Int.toNat_natCast, Nat.mod_mod]
    have : UInt8.ofNat (x % 256) = UInt8.ofNat x := by apply UInt8.toNat_inj.1; simp
    rw [this]; rfl
def T38 : List (Nat × TI) := [(3, ti3), (9, ti9), (23, ti23)]
theorem T38_ok : TabOK Try.prog T38 := .cons t3 (.cons t9 (.cons t23 (.nil)))
theorem enters38 : Enters Try.prog 38 := fun _ _ => by kernel_rfl
theorem rnum_s (v : Int) (hv : U64 v) : Spec Try.prog 38 [.int .u64 v] (fun _ => .str (mkB (numL v.toNat))) := by
  intro m w hm hargs
  have hv64 : v.toNat < 2 ^ 64 := by have := hv.1; have := hv.2; omega
  have h8 := len8_le hv64
  have hp8 : (256 : Nat) ^ 8 = 2 ^ 64 := by decide
  refine enter hm hargs Try.func38 rfl (by simp [Try.ntmps38]) fun a0 hF => ?_
  simp only [Try.ntmps38, startT] at hF
  obtain ⟨B, hB⟩ : ∃ B, B = std := ⟨_, rfl⟩
  refine wp_seq ?_
  apply region_okB hB T38_ok [0] [] [] hF
  case hex => intro A X; conv => lhs; cbv
  case hob =>
    intro X
    subst hB
    simp [AllOb, Ob.holds, BE.den, std, stdCmp, stdArith] <;> omega
  case hQ =>
  intro X0 a0 w1 hF
  refine wp_seq ?_
  apply region_okB hB T38_ok [0, 3] [] [] hF
  case hex => intro A X; conv => lhs; cbv
  case hob =>
    intro X
    subst hB
    simp [AllOb, Ob.holds, BE.den, std, stdCmp, stdArith] <;> omega
  case hQ =>
  intro X1 a0 w1 hF
  refine wp_seq ?_
  refine wp_block ?_
  have hF : Fits ⟨m, w, fun _ => False, []⟩ ⟨18, [(0, .int .u64 v), (3, .str (mkB []))], [], [], []⟩ a0 w1 := hF
  refine loop_pre (ι := Nat × ByteArray × Int) (fun p => [(0, .int .u64 p.2.2), (3, .str p.2.1)]) (fun p => []) (fun p => []) (fun p => p.2.1 = mkB (bytesN p.1 v.toNat) ∧ p.2.2 = ((v.toNat / 256 ^ p.1 : Nat) : Int) ∧ ∀ i, i < p.1 → 256 ^ i ≤ v.toNat) (fun p => 9 - p.1) (0, mkB [], v) ⟨rfl, by have := hv.1; simp only [Nat.pow_zero, Nat.div_one]; omega, fun i hi => absurd hi (Nat.not_lt_zero _)⟩ hF ?_
  rintro ⟨j, o, x⟩ ⟨ho, hx, hp⟩ a0 w1 hF
  try dsimp only at ho
  try dsimp only at hx
  try dsimp only at hp
  refine wp_seq ?_
  refine wp_seq ?_
  apply region_okB hB T38_ok [5, 0, 3] [] [] hF
  case hex => intro A X; conv => lhs; cbv
  case hob =>
    intro X
    subst hB
    simp [AllOb, Ob.holds, BE.den, std, stdCmp, stdArith] <;> omega
  case hQ =>
  intro X2 a0 w1 hF
  refine test_ok hF rfl (fun hb hF => ?_) (fun hb hF => ?_)
  · skip
    have hpos : 0 < x := by subst hB; simpa [std, stdCmp] using hb
    have hle : 256 ^ j ≤ v.toNat := by
      have h1 : 0 < v.toNat / 256 ^ j := by omega
      exact (Nat.div_pos_iff.1 h1).2
    have hj8 : j < 8 := by
      refine Nat.lt_of_not_le fun h => ?_
      have := Nat.pow_le_pow_right (n := 256) (by decide) h
      omega
    have hx0 := Nat.div_le_self v.toNat (256 ^ j)
    have S := one_s x ⟨by omega, by omega⟩
    generalize hg : mkB [UInt8.ofNat x.toNat] = g at S
    have hgs : g.size = 1 := by rw [← hg, mk_size]; rfl
    have hos : o.size = j := by rw [ho, mk_size, bytesN_len]
    refine wp_skip ?_
    refine wp_block ?_
    refine wp_seq ?_
    apply region_okB hB T38_ok [0, 3] [] [(1, .r fun _ => .str g)] hF
    case hex => intro A X; conv => lhs; cbv
    case hob =>
      intro X
      subst hB
      refine ⟨⟨enters73, S⟩, ?_, trivial⟩
      show g.size + o.size ≤ maxLen
      simp only [maxLen]; omega
    case hQ =>
    intro X3 a0 w1 hF
    apply region_okB hB T38_ok [0, 3] [] [] hF
    case hex => intro A X; conv => lhs; cbv
    case hob =>
      intro X
      subst hB
      exact ⟨show (256 : Int) ≠ 0 by decide, trivial⟩
    case hQ =>
    intro X4 a0 w1 hF
    refine ⟨(j + 1, B.cat g o, B.div .quo .u64 x 256), ⟨?_, ?_, ?_⟩, by simp only; omega, hF⟩
    · subst hB; rw [ho, ← hg]; show mkB _ ++ mkB _ = mkB (bytesN (j + 1) v.toNat)
      rw [mk_append, bytesN, hx, Int.toNat_natCast]; rw [show UInt8.ofNat (v.toNat / 256 ^ j) = byN v.toNat j from by apply UInt8.toNat_inj.1; rw [byN_toNat]; simp]; rfl
    · subst hB; rw [hx]; show IntKind.u64.wrap ((((v.toNat / 256 ^ j : Nat) : Int)).tdiv 256) = _
      rw [show (((v.toNat / 256 ^ j : Nat) : Int)).tdiv 256 = ((v.toNat / 256 ^ j / 256 : Nat) : Int) from rfl, Nat.div_div_eq_div_mul, ← Nat.pow_succ]
      refine wrap_u64 _ ⟨Int.natCast_nonneg _, ?_⟩
      have h1 := Nat.div_le_self v.toNat (256 ^ Nat.succ j)
      have := hv.2
      omega
    · intro i hi
      by_cases hij : i = j
      · rw [hij]; exact hle
      · exact hp i (by have : i < j + 1 := hi; omega)
  · skip
    have hz : ¬ 0 < x := by subst hB; simpa [std, stdCmp] using hb
    have hlt : v.toNat < 256 ^ j := by
      have h1 : v.toNat / 256 ^ j = 0 := by generalize v.toNat / 256 ^ j = q at hx; omega
      rcases Nat.div_eq_zero_iff.1 h1 with h2 | h2
      · exact absurd h2 (Nat.ne_of_gt (Nat.pow_pos (by decide)))
      · exact h2
    have hj1 := (len8_iff hv64 j).2 hlt
    have hj2 : j = len8 v.toNat := by
      refine Nat.le_antisymm (Nat.le_of_not_lt fun h => ?_) hj1
      have := (len8_iff hv64 (j - 1)).1 (by omega)
      have := hp (j - 1) (by omega)
      omega
    have hos : o.size = j := by rw [ho, mk_size, bytesN_len]
    have S := one_s (o.size : Int) ⟨by omega, by omega⟩
    generalize hg : mkB [UInt8.ofNat ((o.size : Nat) : Int).toNat] = g at S
    have hgs : g.size = 1 := by rw [← hg, mk_size]; rfl
    refine wp_exit ?_
    refine wp_seq ?_
    apply region_okB hB T38_ok [2] [] [(3, .r fun _ => .str g)] hF
    case hex => intro A X; conv => lhs; cbv
    case hob =>
      intro X
      subst hB
      refine ⟨⟨enters73, ?_⟩, ?_, trivial⟩
      · show Spec _ _ [.int .u64 (IntKind.u64.wrap (o.size : Int))] _
        rw [wrap_u64 _ ⟨by omega, by omega⟩]; exact S
      · show g.size + o.size ≤ maxLen
        simp only [maxLen]; omega
    case hQ =>
    intro X5 a0 w1 hF
    refine wp_ret ?_
    refine ret_spec (fn := Try.f38) T38_ok hF (rs := [.tmp 2]) rfl (rfl) ?_ noAtom ?_
    · subst hB; simp [AllOb, Ob.holds]
    · subst hB
      show AV.str (g ++ o) = AV.str (mkB (numL v.toNat))
      rw [← hg, hos, ho, mk_append, hj2, Int.toNat_natCast]; rfl
def T40 : List (Nat × TI) := [(3, ti3), (9, ti9), (23, ti23)]
theorem T40_ok : TabOK Try.prog T40 := .cons t3 (.cons t9 (.cons t23 (.nil)))
theorem enters40 : Enters Try.prog 40 := fun _ _ => by kernel_rfl
theorem rtext_s (s : ByteArray) (hs : s.size ≤ 4096) : Spec Try.prog 40 [.str s] (fun _ => .str (mkB (textL (unB s)))) := by
  intro m w hm hargs
  have S := rnum_s (s.size : Int) ⟨by omega, by omega⟩
  have e0 : mkB (textL (unB s)) = mkB (numL ((s.size : Int)).toNat) ++ s := by apply un_inj; simp only [un_append, un_mk, textL, un_size, Int.toNat_natCast]
  rw [e0]
  have hsz : (mkB (numL ((s.size : Int)).toNat)).size ≤ 9 := by rw [mk_size, numL_len]; have := len8_le (v := ((s.size : Int)).toNat) (by omega); omega
  generalize mkB (numL ((s.size : Int)).toNat) = r at S hsz ⊢
  refine enter hm hargs Try.func40 rfl (by simp [Try.ntmps40]) fun a0 hF => ?_
  simp only [Try.ntmps40, startT] at hF
  obtain ⟨B, hB⟩ : ∃ B, B = std := ⟨_, rfl⟩
  refine wp_seq ?_
  apply region_okB hB T40_ok [0] [] [] hF
  case hex => intro A X; conv => lhs; cbv
  case hob =>
    intro X
    subst hB
    simp [AllOb, Ob.holds, BE.den, std, stdCmp, stdArith] <;> omega
  case hQ =>
  intro X0 a0 w1 hF
  refine wp_seq ?_
  apply region_okB hB T40_ok [2] [] [(3, .r fun _ => .str r)] hF
  case hex => intro A X; conv => lhs; cbv
  case hob =>
    intro X
    subst hB
    refine ⟨⟨enters38, ?_⟩, ?_, trivial⟩
    · show Spec _ _ [.int .u64 (IntKind.u64.wrap (s.size : Int))] _
      rw [wrap_u64 _ ⟨by omega, by omega⟩]; exact S
    · show r.size + s.size ≤ maxLen
      simp only [maxLen]; omega
  case hQ =>
  intro X1 a0 w1 hF
  refine wp_ret ?_
  refine ret_spec (fn := Try.f40) T40_ok hF (rs := [.tmp 2]) rfl (rfl) ?_ noAtom ?_
  · subst hB; simp [AllOb, Ob.holds]
  · subst hB; rfl
def T42 : List (Nat × TI) := [(3, ti3), (9, ti9), (23, ti23), (25, ti25)]
theorem T42_ok : TabOK Try.prog T42 := .cons t3 (.cons t9 (.cons t23 (.cons t25 (.nil))))
theorem enters42 : Enters Try.prog 42 := fun _ _ => by kernel_rfl
theorem rlab_s (l : Lab) (hv : U64 l.bits) (hl : isL l = true) : Spec Try.prog 42 [labAV l] (fun _ => .str (mkB (labL l))) := by
  intro m w hm hargs
  simp only [labAV] at hargs ⊢
  obtain ⟨hl0, hl1⟩ := isL_len hl
  have S0 := one_s l.len ⟨by omega, by omega⟩
  have hlenL := labL_len hl
  have hhead : mkB ((labL l).take (0 + 1)) = mkB [UInt8.ofNat l.len.toNat] := rfl
  have htail := labL_get l
  generalize labL l = L at hlenL hhead htail ⊢
  generalize hn : (l.len.toNat + 7) / 8 = n at hlenL htail
  generalize mkB [UInt8.ofNat l.len.toNat] = g0 at S0 hhead
  refine enter hm hargs Try.func42 rfl (by simp [Try.ntmps42]) fun a0 hF => ?_
  simp only [Try.ntmps42, startT] at hF
  obtain ⟨B, hB⟩ : ∃ B, B = std := ⟨_, rfl⟩
  refine wp_seq ?_
  apply region_okB hB T42_ok [1] [1] [] hF
  case hex => intro A X; conv => lhs; cbv
  case hob =>
    intro X
    subst hB
    simp [AllOb, Ob.holds, BE.den, std, stdCmp, stdArith] <;> omega
  case hQ =>
  intro X0 a0 w1 hF
  refine wp_seq ?_
  apply region_okB hB T42_ok [3, 1] [1] [(3, .r fun _ => .str g0)] hF
  case hex => intro A X; conv => lhs; cbv
  case hob =>
    intro X
    subst hB
    refine ⟨rfl, ⟨enters73, ?_⟩, trivial⟩
    show Spec _ _ [.int .u64 (IntKind.u64.wrap l.len)] _
    rw [wrap_u64 _ ⟨by omega, by omega⟩]; exact S0
  case hQ =>
  intro X1 a0 w1 hF
  refine wp_seq ?_
  apply region_okB hB T42_ok [3, 4, 1] [1] [] hF
  case hex => intro A X; conv => lhs; cbv
  case hob =>
    intro X
    subst hB
    simp [AllOb, Ob.holds, BE.den, std, stdCmp, stdArith] <;> omega
  case hQ =>
  intro X2 a0 w1 hF
  refine wp_seq ?_
  refine wp_seq ?_
  apply region_okB hB T42_ok [3, 4, 5, 1] [1] [] hF
  case hex => intro A X; conv => lhs; cbv
  case hob =>
    intro X
    subst hB
    simp [AllOb, Ob.holds, BE.den, std, stdCmp, stdArith] <;> omega
  case hQ =>
  intro X3 a0 w1 hF
  refine wp_block ?_
  refine loop_pre (ι := Nat × ByteArray × Int × Int) (fun p => [(3, .str p.2.1), (4, .int .u64 p.2.2.2), (5, .int .i64 p.2.2.1)]) (fun p => []) (fun p => []) (fun p => p.1 ≤ n ∧ p.2.1 = mkB (L.take (p.1 + 1)) ∧ p.2.2.1 = 8 * (p.1 : Int) ∧ p.2.2.2 = ((l.bits.toNat * 256 ^ p.1 % 2 ^ 64 : Nat) : Int)) (fun p => n - p.1) (0, g0, 0, l.bits) ⟨Nat.zero_le _, hhead.symm, rfl, by have := hv.1; have := hv.2; simp only [Nat.pow_zero, Nat.mul_one]; omega⟩ hF ?_
  rintro ⟨j, o, z, x⟩ ⟨hj, ho, hz, hx⟩ a0 w1 hF
  try dsimp only at hj
  try dsimp only at ho
  try dsimp only at hz
  try dsimp only at hx
  refine wp_seq ?_
  refine wp_seq ?_
  apply region_okB hB T42_ok [15, 3, 4, 5, 1] [1] [] hF
  case hex => intro A X; conv => lhs; cbv
  case hob =>
    intro X
    subst hB
    simp [AllOb, Ob.holds, BE.den, std, stdCmp, stdArith] <;> omega
  case hQ =>
  intro X4 a0 w1 hF
  refine test_ok hF rfl (fun hb hF => ?_) (fun hb hF => ?_)
  · skip
    have hin : z < l.len := by subst hB; simpa [std, stdCmp] using hb
    have hy : B.shift .shr .u64 x 56 = ((x.toNat / 2 ^ 56 : Nat) : Int) := by subst hB; exact shr_u64 ⟨by omega, by have := Nat.mod_lt (l.bits.toNat * 256 ^ j) (Nat.two_pow_pos 64); omega⟩ 56 (by decide)
    have hx64 := Nat.mod_lt (l.bits.toNat * 256 ^ j) (Nat.two_pow_pos 64)
    have S := one_s (B.shift .shr .u64 x 56) ⟨by rw [hy]; omega, by rw [hy]; omega⟩
    generalize hg : mkB [UInt8.ofNat (B.shift .shr .u64 x 56).toNat] = g at S
    have hbyte : byN l.bits.toNat (7 - j) = UInt8.ofNat (B.shift .shr .u64 x 56).toNat := by
      rw [hy, hx, Int.toNat_natCast, Int.toNat_natCast]
      exact top_byte _ _ (by omega)
    have hgs : g.size = 1 := by rw [← hg, mk_size]; rfl
    have hos : o.size ≤ n + 1 := by rw [ho, mk_size, List.length_take]; omega
    refine wp_skip ?_
    refine wp_seq ?_
    refine wp_block ?_
    refine wp_seq ?_
    apply region_okB hB T42_ok [3, 4, 5, 1] [1] [(3, .r fun _ => .str g)] hF
    case hex => intro A X; conv => lhs; cbv
    case hob =>
      intro X
      subst hB
      refine ⟨show (0 : Int) ≤ 56 by decide, ⟨enters73, S⟩, ?_, trivial⟩
      show o.size + g.size ≤ maxLen
      simp only [maxLen]; omega
    case hQ =>
    intro X6 a0 w1 hF
    apply region_okB hB T42_ok [3, 4, 5, 1] [1] [] hF
    case hex => intro A X; conv => lhs; cbv
    case hob =>
      intro X
      subst hB
      exact ⟨show (0 : Int) ≤ 8 by decide, trivial⟩
    case hQ =>
    intro X7 a0 w1 hF
    apply region_okB hB T42_ok [3, 4, 5, 1] [1] [] hF
    case hex => intro A X; conv => lhs; cbv
    case hob =>
      intro X
      subst hB
      simp [AllOb, Ob.holds, BE.den, std, stdCmp, stdArith] <;> omega
    case hQ =>
    intro X5 a0 w1 hF
    refine ⟨(j + 1, B.cat o g, z + 8, B.shift .shl .u64 x 8), ⟨by simp only; omega, ?_, by simp only; omega, ?_⟩, by simp only; omega, by rw [show z + 8 = B.arith .add .i64 z 8 by subst hB; exact (wrap_in (by omega) (by omega)).symm]; exact hF⟩
    · subst hB; rw [ho, ← hg]; show mkB _ ++ mkB _ = mkB (L.take (j + 1 + 1))
      rw [mk_append, List.take_add_one (i := j + 1), htail j (by omega) (by omega), hbyte]; rfl
    · subst hB; rw [hx]; exact shl8 _ _
  · skip
    have hout : ¬ z < l.len := by subst hB; simpa [std, stdCmp] using hb
    have hjn : j = n := by omega
    refine wp_exit ?_
    refine wp_seq ?_
    apply region_okB hB T42_ok [2] [] [] hF
    case hex => intro A X; conv => lhs; cbv
    case hob =>
      intro X
      subst hB
      simp [AllOb, Ob.holds, BE.den, std, stdCmp, stdArith] <;> omega
    case hQ =>
    intro X8 a0 w1 hF
    refine wp_ret ?_
    refine ret_spec (fn := Try.f42) T42_ok hF (rs := [.tmp 2]) rfl (rfl) ?_ noAtom ?_
    · subst hB; simp [AllOb, Ob.holds]
    · subst hB
      show AV.str o = AV.str (mkB L)
      rw [ho, List.take_of_length_le (by omega)]
end Go.Proofs.Ytkamdppnnhjajaa.Sym
