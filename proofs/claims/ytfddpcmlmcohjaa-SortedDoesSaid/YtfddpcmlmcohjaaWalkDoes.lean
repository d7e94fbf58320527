/-
  The walk of SortedDoes.
-/
import Derived.Test.YtfddpcmlmcohjaaDoes07
namespace Go.Proofs.Ytfddpcmlmcohjaa
open Go.ChangeShapes Go.WideShapes Go.ChangeAt Go.RowKit Go.Deep
set_option linter.unusedVariables false
set_option linter.unusedSimpArgs false
set_option maxHeartbeats 1000000
set_option maxRecDepth 100000

theorem step_c (w : World) (B p q : Nat) (l : List Item) (x : Step) (h : Both w B p q l) (hB : B ≤ w.heap.size) (hl : l.length < 2147483000) (hm : x.most ≤ 9223372036854775807) :
    Calls Try.prog 38 #[.pointer (some ⟨p, 0, none⟩), .pointer (some ⟨q, 0, none⟩), .agg #[.int .i64 x.kind, .int .u64 x.key, .string x.val, .int .u64 x.hi, .int .i64 x.most]] w (StepP B p q l w) := by
  obtain ⟨kind, key, val, hi, most⟩ := x
  by_cases h0 : kind = 0
  · subst h0
    by_cases hs : val.size ≤ 64
    · exact step0_c w B p q l key val hi most h hB hl hs
    · exact step0_lim w B p q l key val hi most h hB hl (by omega)
  by_cases h1 : kind = 1
  · subst h1; exact step1_c w B p q l key val hi most h hB hl
  by_cases h2 : kind = 2
  · subst h2; exact step2_c w B p q l key val hi most h hB hl
  by_cases h3 : kind = 3
  · subst h3; exact step3_c w B p q l key val hi most h hB hl hm
  exact step4_c w B p q l kind key val hi most h hB hl (by omega)

def Step.wf (x : Step) : Prop := x.most ≤ 9223372036854775807
def InSteps (w : World) (v : Value) : Prop := ∃ (A : Option Addr) (c : Nat) (l : List Step), v = .slice A l.length c ∧ ReadsL Step.enc w w.heap.size A l ∧ l.length ≤ c ∧ c ≤ maxLen ∧ ∀ x ∈ l, x.wf

theorem few_c (w : World) (A : Option Addr) (c : Nat) (l : List Step) (hr : ReadsL Step.enc w w.heap.size A l) (hlm : l.length ≤ maxLen) :
    Calls Try.prog 36 #[.slice A l.length c] w fun e w' => ∃ b : Bool, e = .returned (.bool b) ∧ w' = w ∧ (b = true → l.length ≤ 100) := by
  unfold maxLen at hlm
  by_cases h100 : l.length ≤ 100
  · go_enter Try.func36, Try.ntmps36
    go_wp2
    go_loopw [3, 4] (fun n i wr => wr = w ∧ ∃ (k : Nat) (m : Int), i = .int .i64 k ∧ n = .int .i64 m ∧ k ≤ l.length) (fun _ i _ => l.length - (intOf i).toNat)
    case atStart => exact ⟨rfl, 0, 0, rfl, rfl, Nat.zero_le _⟩
    case round =>
      obtain ⟨rfl, k, m, rfl, rfl, hk⟩ := hrel
      by_cases hlt : k < l.length
      · obtain ⟨b, off, rfl, hbk, hx⟩ := hr.at_ (k := 5) Step.enc_len (by decide) hlt
        have g2 := hx 2 _ rfl
        clear hx
        go_wp2
        exact ⟨⟨by first | rfl | trivial, k + 1, _, by go_num, rfl, by omega⟩, by simp [intOf]; omega⟩
      · obtain rfl : k = l.length := by omega
        go_wp2
        by_cases hm : m ≤ 5000
        · go_ret
          exact ⟨_, rfl, rfl, fun _ => h100⟩
        · go_ret
          exact ⟨_, rfl, rfl, fun _ => h100⟩
  · go_enter Try.func36, Try.ntmps36
    go_wp2
    go_loopw [3, 4] (fun n i wr => wr = w ∧ i = .int .i64 0 ∧ n = .int .i64 0) (fun _ i _ => 0)
    case atStart => exact ⟨rfl, rfl, rfl⟩
    case round =>
      obtain ⟨hw, hi, hn⟩ := hrel
      subst hw; subst hi; subst hn
      go_wp2
      go_ret
      exact ⟨rfl, rfl⟩

section
variable {H : Type} {enc : TypeId × Value → H} {w : World} {base : Nat} {spare : Nat → Bool} {held : Bool}
theorem dec_step (n : Nat) (cs : List Value) (y : DataW H × List MemPlace) (h : DataW.trod enc Try.prog w base spare held n 71 cs = some y) : ∃ x : Step, cs = x.enc ∧ x.wf := by
  obtain ⟨xs, m, rfl, rfl, hlen, hxl, hf⟩ := DataW.trod_struct Try.underlying71 h
  have hC : Try.prog.cellsOf 71 = 5 := by kernel_rfl
  have h0 : DataW.trod enc Try.prog w base spare held m 3 ((cs.drop 0).take (Try.prog.cellsOf 3)) = xs[0]? := hf 0 _ rfl
  have h1 : DataW.trod enc Try.prog w base spare held m 23 ((cs.drop 1).take (Try.prog.cellsOf 23)) = xs[1]? := hf 1 _ rfl
  have h2 : DataW.trod enc Try.prog w base spare held m 9 ((cs.drop 2).take (Try.prog.cellsOf 9)) = xs[2]? := hf 2 _ rfl
  have h3 : DataW.trod enc Try.prog w base spare held m 23 ((cs.drop 3).take (Try.prog.cellsOf 23)) = xs[3]? := hf 3 _ rfl
  have h4 : DataW.trod enc Try.prog w base spare held m 3 ((cs.drop 4).take (Try.prog.cellsOf 3)) = xs[4]? := hf 4 _ rfl
  have k0 : Try.prog.cellsOf 3 = 1 := by kernel_rfl
  have k1 : Try.prog.cellsOf 23 = 1 := by kernel_rfl
  have k2 : Try.prog.cellsOf 9 = 1 := by kernel_rfl
  rw [hC] at hlen
  rw [k0] at h0 h4
  rw [k1] at h1 h3
  rw [k2] at h2
  match cs, hlen with
  | [c0, c1, c2, c3, c4], _ =>
    match xs, hxl with
    | [y0, y1, y2, y3, y4], _ =>
      obtain ⟨n0, e0, _, w0⟩ := DataW.trod_int Try.underlying3 h0
      obtain ⟨n1, e1, _, w1⟩ := DataW.trod_int Try.underlying23 h1
      obtain ⟨n2, e2, _, w2⟩ := DataW.trod_string Try.underlying9 h2
      obtain ⟨n3, e3, _, w3⟩ := DataW.trod_int Try.underlying23 h3
      obtain ⟨n4, e4, _, w4⟩ := DataW.trod_int Try.underlying3 h4
      simp at e0 e1 e2 e3 e4
      subst e0; subst e1; subst e2; subst e3; subst e4
      exact ⟨⟨n0, n1, n2, n3, n4⟩, rfl, (i64_range w4).2⟩
theorem in_steps {r : Reach} {b0 : Nat} {v : Value} {d : DataW H} {p : List MemPlace} (hv : Value.okWide Try.prog w r b0 63 v) (h : DataW.Trod enc Try.prog w base spare held 63 v d p) : InSteps w v :=
  open_list (en := Step.enc) Try.underlying63 (k := 5) (by kernel_rfl) Step.enc_len (by decide) dec_step hv h
end

theorem RMap.new (w : World) (B : Nat) (hB : B ≤ w.heap.size) : RMap (w.alloc (.cells #[.slice none 0 0] 68)) B w.heap.size (.slice none 0 0) [] :=
  ⟨heap_alloc_new w _, hB, Own.nil _ _ _ _ _, List.Pairwise.nil, by decide⟩

theorem walkSortedDoes (W : World) (v0 : Value) (i0 : InSteps W v0) : Calls Try.prog 11 #[v0] W fun e w' => e = .returned (.bool true) ∧ Below W.heap.size W w' := by
  obtain ⟨A, c, l, rfl, hr, hlc, hcm, hwf⟩ := i0
  have HFW := few_c W A c l hr (Nat.le_trans hlc hcm)
  have HN := new_c W
  unfold maxLen at hcm
  go_enter Try.func11, Try.ntmps11
  go_wp2_with fail
  refine HFW.mono ?_
  rintro e W ⟨b, rfl, rfl, hb100⟩
  cases b with
  | false =>
    go_wp2_with fail
    go_ret
    exact ⟨rfl, Below.refl _ _⟩
  | true =>
    have h100 := hb100 rfl
    clear HFW hb100
    go_wp2_with fail
    refine HN.mono ?_
    rintro e w0 ⟨rfl, rfl⟩
    clear HN
    have hm0 := new_map W W.heap.size (Nat.le_refl _)
    have hb0 : Below W.heap.size W (W.alloc (.cells #[.slice none 0 0] 79)) := (Below.refl _ _).alloc (Nat.le_refl _) _
    obtain ⟨W0, hW0⟩ : ∃ W0, W0 = W.alloc (.cells #[.slice none 0 0] 79) := ⟨_, rfl⟩
    rw [← hW0] at hm0 hb0 ⊢
    clear hW0
    have hr1 := RMap.new W0 W.heap.size hb0.size
    have hb1 : Below W.heap.size W (W0.alloc (.cells #[.slice none 0 0] 68)) := hb0.alloc hb0.size _
    have hm1 := hm0.below (Below.alloc (Below.refl W0.heap.size W0) (Nat.le_refl _) (.cells #[.slice none 0 0] 68))
    go_wp2_with fail
    obtain ⟨W1, hW1⟩ : ∃ W1, W1 = W0.alloc (.cells #[.slice none 0 0] 68) := ⟨_, rfl⟩
    rw [← hW1] at hm1 hb1 hr1 ⊢
    clear hW1
    have H0 := Lib.hid (show Both W1 W.heap.size W.heap.size W0.heap.size [] ∧ Below W.heap.size W W1 from ⟨⟨⟨_, hm1⟩, _, hr1⟩, hb1⟩)
    obtain ⟨q, hq⟩ : ∃ q, q = W0.heap.size := ⟨_, rfl⟩
    rw [← hq] at H0 ⊢
    clear hm1 hb1 hr1 hm0 hb0 hq
    go_wp2_with fail
    go_loopw [5] (fun i wr => ∃ k : Nat, i = .int .i64 k ∧ k ≤ l.length ∧ (∃ L, Both wr W.heap.size W.heap.size q L ∧ L.length ≤ k) ∧ Below W.heap.size W wr) (fun i _ => l.length - (intOf i).toNat)
    case atStart => exact ⟨0, rfl, Nat.zero_le _, ⟨_, H0.out.1, Nat.le_refl _⟩, H0.out.2⟩
    case round =>
      rename_i wr _
      obtain ⟨k, rfl, hk, ⟨L, hB, hLk⟩, hb⟩ := hrel
      by_cases hlt : k < l.length
      · obtain ⟨b, off, rfl, hbk, hx⟩ := (ReadsL.below hr hb).at_ (k := 5) Step.enc_len (by decide) hlt
        have g0 := hx 0 _ rfl
        have g1 := hx 1 _ rfl
        have g2 := hx 2 _ rfl
        have g3 := hx 3 _ rfl
        have g4 := hx 4 _ rfl
        simp only [Nat.add_zero] at g0
        have hbd : Below wr.heap.size wr wr.drew := (Below.refl _ _).drew
        have hBd : Both wr.drew W.heap.size W.heap.size q L := by
          obtain ⟨⟨v, hm⟩, u, hr⟩ := hB
          exact ⟨⟨v, hm.below hbd⟩, u, hr.below hbd⟩
        have HS := step_c wr.drew W.heap.size W.heap.size q L l[k] hBd (Nat.le_trans hb.size hbd.size) (by omega) (hwf _ (List.getElem_mem _))
        have HB := Lib.hid (hb.trans (hbd.mono hb.size))
        clear hx hb hBd hB hbd
        go_wp2_with fail
        go_region_with (first
          | (refine HS.mono ?_; rintro e w2 ⟨rfl, L2, ⟨⟨v2, hm2⟩, u2, hr2⟩, hL2, hb2⟩; obtain ⟨A2, c2, hu2, _, _⟩ := Own.isSlice hr2.own; subst hu2; have hcell2 := hr2.cell; have hne2 : ((L2.length : Int) != (L2.length : Int)) = false := by simp)
          | (refine (size_c _ _ _ _ _ hm2).mono ?_; rintro e w3 ⟨rfl, rfl⟩))
        all_goals
          go_wp2_with fail
          exact ⟨⟨k + 1, by go_num, by omega, ⟨L2, ⟨⟨v2, hm2⟩, _, hr2⟩, by omega⟩, HB.out.trans hb2⟩, by simp [intOf]; omega⟩
      · obtain rfl : k = l.length := by omega
        have HO := ordered_c wr
        have HB := Lib.hid hb
        clear hb hB
        go_wp2_with fail
        refine HO.mono ?_
        rintro e w2 ⟨rfl, hb2⟩
        go_wp2_with fail
        go_ret
        exact ⟨rfl, HB.out.trans (hb2.mono HB.out.size)⟩
end Go.Proofs.Ytfddpcmlmcohjaa
