/-
  espalierref07.Map: Put, Drop, Range, Min, Max. Conditions: fewer items than 2^31.
-/
import Derived.Test.YtfddpcmlmcohjaaRef07
namespace Go.Proofs.Ytfddpcmlmcohjaa
open Go.RowKit
set_option linter.unusedVariables false
set_option linter.unusedSimpArgs false
set_option maxHeartbeats 400000
set_option maxRecDepth 100000

/-- what a method that writes leaves: the map with the items l', no old block but its own written -/
def RWrote (w : World) (B p : Nat) (l' : List Item) (w' : World) : Prop := ∃ v', RMap w' B p v' l' ∧ Chg (fun k => k = p) w w'

theorem RMap.store {w w' : World} {B p : Nat} {v : Value} {l l' : List Item} {A : Option Addr} {c : Nat} (h : RMap w B p v l) (hO : OwnL Item.enc 2 w' w.heap.size 31 (.slice A l'.length c) l') (hb : Below w.heap.size w w') (hB : B ≤ w.heap.size) (hs : Srt l') (hsm : l'.length < 2147483640) :
    RWrote w B p l' (w'.setCell ⟨p, 0, none⟩ (.slice A l'.length c)) := by
  have hp : w'.heap[p]? = some (.cells #[v] 68 (0, 0)) := (hb.block p h.lt).trans h.hdr
  refine ⟨.slice A l'.length c, ⟨?_, h.base, ?_, hs, hsm⟩, ?_⟩
  · rw [setCell_eq_setRow w' p 0 #[v] _ _ _ hp]; simp [setRow_heap w' p #[v] _ _ _ hp]
  · refine Own.keep (Own.mono hO hB) fun g hg => Below.heap_setCell _ _ _ _ ?_
    intro e
    have := (Own.lt hO g hg).1
    have := h.lt
    subst e
    omega
  · exact Chg.setCell (S := fun k => k = p) (Chg.of_new hb) ⟨p, 0, none⟩ (fun _ => rfl) _

theorem rdrop_c (w : World) (B p : Nat) (v : Value) (l : List Item) (key : Int) (h : RMap w B p v l) (hB : B ≤ w.heap.size) :
    Calls Try.prog 53 #[.pointer (some ⟨p, 0, none⟩), .int .u64 key] w fun e w' => e = .returned (.tuple #[.string (got l key), .bool (has l key)]) ∧ RWrote w B p (dropL l key) w' := by
  have HG := rget_c w B p v l key h
  have HW := rwithout_c w B p v l key h
  have hst : ∀ w' A c, OwnL Item.enc 2 w' w.heap.size 31 (.slice A (dropL l key).length c) (dropL l key) → Below w.heap.size w w' → RWrote w B p (dropL l key) (w'.setCell ⟨p, 0, none⟩ (.slice A (dropL l key).length c)) :=
    fun w' A c hO hb => h.store hO hb hB (h.srt.dropL key) (Nat.lt_of_le_of_lt (dropL_length l key) h.small)
  have HS := Lib.hid hst
  have hhdr := h.hdr
  have hlt := h.lt
  clear hst h
  go_enter Try.func53, Try.ntmps53
  go_wp2_with fail
  refine HG.mono ?_
  rintro e w0 ⟨rfl, rfl⟩
  go_wp2_with fail
  refine HW.mono ?_
  rintro e w1 ⟨v', rfl, hO, hb⟩
  have hp1 := (hb.block p hlt).trans hhdr
  have hcell1 : w1.cell? ⟨p, 0, none⟩ = some v := cell_of_row w1 p 0 _ _ _ hp1
  have hfree1 : w1.frozen? ⟨p, 0, none⟩ = false := by simp [World.frozen?, hp1]
  obtain ⟨A', c', rfl, _, _⟩ := Own.isSlice hO
  have HO := Lib.hid (HS.out _ _ _ hO hb)
  clear hO hb HG HW hp1
  go_wp2_with fail
  go_ret2
  exact ⟨rfl, HO.out⟩

theorem rput_limit (w : World) (p : Nat) (key : Int) (s : ByteArray) (hs : 64 < s.size) :
    Calls Try.prog 52 #[.pointer (some ⟨p, 0, none⟩), .int .u64 key, .string s] w fun e w' =>
      e = .returned (.tuple #[.string ⟨#[]⟩, .bool false, .int .i64 2]) ∧ w' = w := by
  go_enter Try.func52, Try.ntmps52
  go_wp2_with fail
  go_ret3
  exact ⟨rfl, rfl⟩

theorem put_of_drop {l : List Item} {key : Int} {s : ByteArray} {i : Nat} (h : At (dropL l key) key i) : (dropL l key).take i ++ ([⟨key, s⟩] ++ (dropL l key).drop i) = putL l key s := by
  have h1 : (dropL l key).filter (fun x => decide (x.key < key)) = l.filter (fun x => decide (x.key < key)) := by
    unfold dropL
    rw [List.filter_filter]
    apply List.filter_congr
    intro x _
    by_cases hx : x.key < key
    · have : x.key ≠ key := by omega
      simp [hx, this]
    · simp [hx]
  have h2 : (dropL l key).filter (fun x => decide (key < x.key)) = l.filter (fun x => decide (key < x.key)) := by
    unfold dropL
    rw [List.filter_filter]
    apply List.filter_congr
    intro x _
    by_cases hx : key < x.key
    · have : x.key ≠ key := by omega
      simp [hx, this]
    · simp [hx]
  have h3 := h.absent fun x hx hk => by
    have hm : x ∈ dropL l key := by
      have := List.getElem?_eq_some_iff.1 hx
      exact this.2 ▸ List.getElem_mem this.1
    unfold dropL at hm
    simp only [List.mem_filter, decide_eq_true_eq] at hm
    exact hm.2 hk
  unfold putL
  rw [← h1, ← h2, h.take, h3.1]; rfl

theorem rput_c (w : World) (B p : Nat) (v : Value) (l : List Item) (key : Int) (s : ByteArray) (h : RMap w B p v l) (hs : s.size ≤ 64) (hB : B ≤ w.heap.size) (hl : l.length < 2147483000) :
    Calls Try.prog 52 #[.pointer (some ⟨p, 0, none⟩), .int .u64 key, .string s] w fun e w' =>
      e = .returned (.tuple #[.string (got l key), .bool (has l key), .int .i64 0]) ∧ RWrote w B p (putL l key s) w' := by
  have HG := rget_c w B p v l key h
  have HW := rwithout_c w B p v l key h
  have bI := buildItemR
  have hpl := putL_length l key s
  have hst : ∀ w' A c, OwnL Item.enc 2 w' w.heap.size 31 (.slice A (putL l key s).length c) (putL l key s) → Below w.heap.size w w' → RWrote w B p (putL l key s) (w'.setCell ⟨p, 0, none⟩ (.slice A (putL l key s).length c)) :=
    fun w' A c hO hb => h.store hO hb hB (h.srt.put key s) (by omega)
  have HS := Lib.hid hst
  have hhdr := h.hdr
  have hlt := h.lt
  have hsrt := h.srt.dropL key
  have hdl := dropL_length l key
  have hpo : ∀ i, At (dropL l key) key i → (dropL l key).take i ++ ([⟨key, s⟩] ++ (dropL l key).drop i) = putL l key s := fun i hi => put_of_drop hi
  obtain ⟨D, hD⟩ : ∃ D, D = dropL l key := ⟨_, rfl⟩
  rw [← hD] at hsrt HW hpo hdl
  have HP := Lib.hid (And.intro hsrt hpo)
  clear hst h hD hsrt hpo
  go_enter Try.func52, Try.ntmps52
  go_wp2_with fail
  refine HG.mono ?_
  rintro e w0 ⟨rfl, rfl⟩
  go_wp2_with fail
  refine HW.mono ?_
  rintro e w1 ⟨vD, rfl, hOD, hb1⟩
  obtain ⟨AD, cD, rfl, hnD, hcD⟩ := Own.isSlice hOD
  unfold maxLen at hcD
  have hreadD := OwnL.reads hOD
  have hp1 := (hb1.block p hlt).trans hhdr
  clear HG HW hOD
  go_wp2_with fail
  go_loopw [12, 13] (fun o i wr => ∃ k : Nat, i = .int .i64 k ∧ k ≤ D.length ∧ (∀ x ∈ D.take k, x.key < key) ∧ OwnL Item.enc 2 wr w1.heap.size 31 o (D.take k) ∧ Below w1.heap.size w1 wr) (fun _ i _ => D.length - (intOf i).toNat)
  case atStart => exact ⟨0, rfl, Nat.zero_le _, by simp, Own.nil _ _ _ _ _, Below.refl _ _⟩
  case round =>
    rename_i wr _
    obtain ⟨k, rfl, hk, hlo, hO, hb⟩ := hrel
    have HL := Lib.hid hlo
    clear hlo
    have hlenT : (D.take k).length = k := by rw [List.length_take]; omega
    unfold OwnL at hO
    rw [hlenT] at hO
    obtain ⟨Ao, co, rfl, _, hco⟩ := Own.isSlice hO
    have hend : (k = D.length ∨ ∃ hk : k < D.length, ¬ D[k].key < key) → At D key k := fun hc => by
      refine ⟨HP.out.1, hk, HL.out, ?_⟩
      rcases hc with rfl | ⟨hk', hc⟩
      · simp
      · intro x hx
        obtain ⟨j, hj, rfl⟩ := List.mem_drop_iff_getElem.1 hx
        by_cases e : j = 0
        · subst e; exact hc
        · have := List.pairwise_iff_getElem.1 HP.out.1 k (k + j) hk' (by omega) (by omega)
          omega
    by_cases hgo : ∃ hk : k < D.length, D[k].key < key
    · obtain ⟨hlt', hgo⟩ := hgo
      obtain ⟨b, off, rfl, hbk, hx⟩ := (ReadsL.below hreadD hb).at_ (k := 2) Item.enc_len (by decide) hlt'
      have g0 := hx 0 _ rfl
      have g1 := hx 1 _ rfl
      simp only [Nat.add_zero] at g0
      obtain ⟨Wn, hW⟩ : ∃ Wn, Wn = wr.alloc (.cells #[.int .u64 D[k].key, .string D[k].val] 31) := ⟨_, rfl⟩
      have hOW := Own.alloc hO (.cells #[.int .u64 D[k].key, .string D[k].val] 31)
      rw [← hW] at hOW
      have hbW : Below wr.heap.size wr Wn := by rw [hW]; exact (Below.refl _ _).alloc (Nat.le_refl _) _
      have hrow : RowAt Wn Wn.heap.size (some ⟨wr.heap.size, 0, none⟩) (D[k].enc) := fun _ => ⟨_, _, rfl, by rw [hW]; simp, fun j u hu => by
        have hg : Wn.heap[wr.heap.size]? = some (.cells D[k].enc.toArray 31 (0, 0)) := by rw [hW]; exact heap_alloc_new wr _
        rw [Nat.zero_add, cell_of_row Wn _ j _ _ (0, 0) hg]; simpa using hu⟩
      obtain ⟨v', w', hr, hO', hG, _⟩ := run_append_Own (P := Try.prog) etyR 22 hOW (some ⟨wr.heap.size, 0, none⟩) 1 1 D[k].enc (by simp [Item.enc_len]) hrow (Item.enc_one _) (by simp only [maxLen]; omega) (by omega) (by have := hb.size; have := hbW.size; omega)
      have HO : Hid (OwnL Item.enc 2 w' w1.heap.size 31 v' (D.take (k + 1)) ∧ Below w1.heap.size w1 w') := by
        refine ⟨?_, (hb.trans (hbW.mono hb.size)).grown hG (Nat.le_trans hb.size hbW.size) fun g hg => (Own.lt hOW g hg).1⟩
        unfold OwnL
        have e1 : (D.take (k + 1)).length = k + 1 := by rw [List.length_take]; omega
        rw [e1, List.take_succ_eq_append_getElem hlt', List.flatMap_append]
        simpa using hO'
      have HL2 : Hid (∀ x ∈ D.take (k + 1), x.key < key) := by
        show ∀ x ∈ D.take (k + 1), x.key < key
        rw [List.take_succ_eq_append_getElem hlt']
        intro x hx
        rcases List.mem_append.1 hx with hx | hx
        · exact HL.out x hx
        · simp at hx; subst hx; exact hgo
      rw [hW] at hr
      clear hO hOW hbW hrow hO' hG hW hx hend
      go_wp2_with (at_builtin; refine wpList_append_run hr rfl (.tmp 39) (.tmp 44) rfl rfl rfl rfl ?_)
      exact ⟨⟨k + 1, by go_num, by omega, HL2.out, HO.out⟩, by simp [intOf]; omega⟩
    · have hAt : At D key k := hend (by
        by_cases h1 : k < D.length
        · exact .inr ⟨h1, fun h2 => hgo ⟨h1, h2⟩⟩
        · exact .inl (by omega))
      have hput := HP.out.2 k hAt
      have hfacts : (decide (k < D.length) = false) ∨ (∃ hk : k < D.length, decide (D[k].key < key) = false) := by
        by_cases h1 : k < D.length
        · exact .inr ⟨h1, by simp; have : ¬ D[k].key < key := fun h2 => hgo ⟨h1, h2⟩; omega⟩
        · exact .inl (by simp; omega)
      clear hgo hend
      -- the two appends behind the loop
      obtain ⟨W1, hW1⟩ : ∃ W1, W1 = wr.alloc (.cells #[.int .u64 key, .string s] 31) := ⟨_, rfl⟩
      have hOW := Own.alloc hO (.cells #[.int .u64 key, .string s] 31)
      rw [← hW1] at hOW
      have hbW : Below wr.heap.size wr W1 := by rw [hW1]; exact (Below.refl _ _).alloc (Nat.le_refl _) _
      have hrow : RowAt W1 W1.heap.size (some ⟨wr.heap.size, 0, none⟩) ((⟨key, s⟩ : Item).enc) := fun _ => ⟨_, _, rfl, by rw [hW1]; simp, fun j u hu => by
        have hg : W1.heap[wr.heap.size]? = some (.cells (⟨key, s⟩ : Item).enc.toArray 31 (0, 0)) := by rw [hW1]; exact heap_alloc_new wr _
        rw [Nat.zero_add, cell_of_row W1 _ j _ _ (0, 0) hg]; simpa using hu⟩
      obtain ⟨v2, w2, hr2, hO2, hG2, _⟩ := run_append_Own (P := Try.prog) etyR 22 hOW (some ⟨wr.heap.size, 0, none⟩) 1 1 (⟨key, s⟩ : Item).enc (by simp [Item.enc_len]) hrow (Item.enc_one _) (by simp only [maxLen]; omega) (by omega) (by have := hb.size; have := hbW.size; omega)
      have hb2 : Below w1.heap.size w1 w2 := (hb.trans (hbW.mono hb.size)).grown hG2 (Nat.le_trans hb.size hbW.size) fun g hg => (Own.lt hOW g hg).1
      have hcut := (ReadsL.below hreadD hb2).cut (k := 2) Item.enc_len (i := k) hnD
      obtain ⟨A', hA'⟩ : ∃ A', (if cD = k then AD else AD.map (fun x => x.add (k * 2))) = A' := ⟨_, rfl⟩
      rw [hA'] at hcut
      obtain ⟨v3, w3, hr3, hO3, hG3, _⟩ := run_append_Own (P := Try.prog) etyR 22 hO2 A' (D.length - k) (cD - k) ((D.drop k).flatMap Item.enc) (by rw [flat_length Item.enc_len, List.length_drop]) hcut (flat_one Item.enc_one _) (by simp only [maxLen]; omega) (by omega) hb2.size
      have hb3 : Below w1.heap.size w1 w3 := hb2.grown hG3 hb2.size fun g hg => (Own.lt hO2 g hg).1
      have hfl : (D.take k).flatMap Item.enc ++ (⟨key, s⟩ : Item).enc ++ (D.drop k).flatMap Item.enc = (putL l key s).flatMap Item.enc := by
        rw [← hput]; simp [List.flatMap_append]
      have hll : k + 1 + (D.length - k) = (putL l key s).length := by rw [← hput]; simp; omega
      rw [hfl, hll] at hO3
      obtain ⟨A3, c3, rfl, _, _⟩ := Own.isSlice hO3
      have hp3 := (hb3.block p (lt_of_heap hp1)).trans hp1
      have hcell3 : w3.cell? ⟨p, 0, none⟩ = some v := cell_of_row w3 p 0 _ _ _ hp3
      have hfree3 : w3.frozen? ⟨p, 0, none⟩ = false := by simp [World.frozen?, hp3]
      have HF := Lib.hid (HS.out w3 A3 c3 (Own.mono hO3 hb1.size) (hb1.trans (hb3.mono hb1.size)))
      rw [hW1] at hr2
      clear hput hAt hO hOW hbW hrow hO2 hG2 hb2 hcut hO3 hG3 hb3 hfl hll hp3 hW1
      rcases hfacts with d1 | ⟨hk', d1⟩
      · go_wp2_with (first | (at_builtin; refine wpList_append_run hr2 rfl (.tmp 48) (.tmp 52) rfl rfl rfl rfl ?_) | (at_builtin; refine wpList_append_run hr3 rfl (.tmp 54) (.tmp 57) rfl rfl rfl rfl ?_))
        go_ret3
        exact ⟨rfl, HF.out⟩
      · obtain ⟨b, off, rfl, hbk, hx⟩ := (ReadsL.below hreadD hb).at_ (k := 2) Item.enc_len (by decide) hk'
        have g0 := hx 0 _ rfl
        simp only [Nat.add_zero] at g0
        have hAe : A' = some ⟨b, off + k * 2, none⟩ := by rw [← hA', if_neg (by omega)]; simp [Addr.add_lit]
        rw [hAe] at hr3
        clear hx hA' hAe
        go_wp2_with (first | (at_builtin; refine wpList_append_run hr2 rfl (.tmp 48) (.tmp 52) rfl rfl rfl rfl ?_) | (at_builtin; refine wpList_append_run hr3 rfl (.tmp 54) (.tmp 57) rfl rfl rfl rfl ?_))
        go_ret3
        exact ⟨rfl, HF.out⟩

theorem rrange_bad (w : World) (p : Nat) (lo hi most : Int) (hlh : hi < lo) :
    Calls Try.prog 56 #[.pointer (some ⟨p, 0, none⟩), .int .u64 lo, .int .u64 hi, .int .i64 most] w fun e w' => e = .returned (.tuple #[.slice none 0 0, .int .i64 5]) ∧ w' = w := by
  go_enter Try.func56, Try.ntmps56
  go_wp2_with fail
  go_ret2
  exact ⟨rfl, rfl⟩
theorem rrange_arg (w : World) (p : Nat) (lo hi most : Int) (hlh : lo ≤ hi) (hm : most < 0) :
    Calls Try.prog 56 #[.pointer (some ⟨p, 0, none⟩), .int .u64 lo, .int .u64 hi, .int .i64 most] w fun e w' => e = .returned (.tuple #[.slice none 0 0, .int .i64 1]) ∧ w' = w := by
  go_enter Try.func56, Try.ntmps56
  go_wp2_with fail
  go_ret2
  exact ⟨rfl, rfl⟩

theorem rrange_c (w : World) (B p : Nat) (v : Value) (l : List Item) (lo hi : Int) (most : Nat) (h : RMap w B p v l) (hlh : lo ≤ hi) (hmost : most ≤ 9223372036854775807) :
    Calls Try.prog 56 #[.pointer (some ⟨p, 0, none⟩), .int .u64 lo, .int .u64 hi, .int .i64 most] w fun e w' =>
      ∃ v, e = .returned (.tuple #[v, .int .i64 0]) ∧ OwnL Item.enc 2 w' w.heap.size 31 v ((rangeL l lo hi).take most) ∧ Below w.heap.size w w' := by
  obtain ⟨A, c, rfl, hn, hc⟩ := Own.isSlice h.own
  have hsm := h.small
  unfold maxLen at hc
  have hcell := h.cell
  have hread := OwnL.reads h.own
  have hlt0 := h.lt
  have hlh1 : decide (hi < lo) = false := by simp; omega
  have hm0 : decide ((most : Int) < 0) = false := by rw [decide_eq_false_iff_not]; omega
  clear h
  go_enter Try.func56, Try.ntmps56
  go_wp2
  go_loopw [10, 11] (fun o i wr => ∃ k : Nat, i = .int .i64 k ∧ k ≤ l.length ∧ OwnL Item.enc 2 wr w.heap.size 31 o ((l.take k).filter (fun x => decide (lo ≤ x.key ∧ x.key ≤ hi))) ∧ ((l.take k).filter (fun x => decide (lo ≤ x.key ∧ x.key ≤ hi))).length ≤ most ∧ Below w.heap.size w wr) (fun _ i _ => l.length - (intOf i).toNat)
  case atStart => exact ⟨0, rfl, Nat.zero_le _, Own.nil _ _ _ _ _, by simp, Below.refl _ _⟩
  case round =>
    rename_i wr _
    obtain ⟨k, rfl, hk, hO, hmst, hb⟩ := hrel
    have hcell2 : wr.cell? ⟨p, 0, none⟩ = some (.slice A l.length c) := (hb.cell (p := ⟨p, 0, none⟩) hlt0).trans hcell
    obtain ⟨F, hF⟩ : ∃ F, F = (l.take k).filter (fun x => decide (lo ≤ x.key ∧ x.key ≤ hi)) := ⟨_, rfl⟩
    have hFl : F.length ≤ k := by rw [hF]; exact Nat.le_trans (List.length_filter_le _ _) (by rw [List.length_take]; omega)
    have hdone := filter_done (q := fun x => decide (lo ≤ x.key ∧ x.key ≤ hi)) hk hmst
    rw [← hF] at hO hmst hdone
    have HF := Lib.hid hF
    have HD := Lib.hid hdone
    clear hF hdone
    unfold OwnL at hO
    obtain ⟨Ao, co, rfl, _, hco⟩ := Own.isSlice hO
    by_cases hstop : k = l.length ∨ F.length = most
    · have hfin : OwnL Item.enc 2 wr w.heap.size 31 (.slice Ao F.length co) ((rangeL l lo hi).take most) := by
        unfold rangeL; rw [← HD.out hstop]; exact hO
      have Hf := Lib.hid hfin
      have hd : decide (k < l.length) = false ∨ (decide (k < l.length) = true ∧ decide (F.length < most) = false) := by
        by_cases h1 : k < l.length
        · exact .inr ⟨by simp [h1], by simp; omega⟩
        · exact .inl (by simp; omega)
      clear hstop hfin hO
      rcases hd with d1 | ⟨d1, d2⟩
      all_goals
        go_wp2
        go_ret2
        exact ⟨_, rfl, Hf.out, hb⟩
    · have hlt : k < l.length := by omega
      have hltm : F.length < most := by omega
      have d1 : decide (k < l.length) = true := by simp [hlt]
      have d2 : decide (F.length < most) = true := by simp [hltm]
      have hst := filter_step (q := fun x => decide (lo ≤ x.key ∧ x.key ≤ hi)) hlt
      rw [← HF.out] at hst
      obtain ⟨b, off, rfl, hbk, hx⟩ := (ReadsL.below hread hb).at_ (k := 2) Item.enc_len (by decide) hlt
      have g0 := hx 0 _ rfl
      have g1 := hx 1 _ rfl
      simp only [Nat.add_zero] at g0
      clear hx hstop
      by_cases he : lo ≤ l[k].key ∧ l[k].key ≤ hi
      · have d3 : decide (lo ≤ l[k].key) = true := by simp [he.1]
        have d4 : decide (l[k].key ≤ hi) = true := by simp [he.2]
        obtain ⟨Wn, hW⟩ : ∃ Wn, Wn = wr.alloc (.cells #[.int .u64 l[k].key, .string l[k].val] 31) := ⟨_, rfl⟩
        have hOW := Own.alloc hO (.cells #[.int .u64 l[k].key, .string l[k].val] 31)
        rw [← hW] at hOW
        have hbW : Below wr.heap.size wr Wn := by rw [hW]; exact (Below.refl _ _).alloc (Nat.le_refl _) _
        have hrow : RowAt Wn Wn.heap.size (some ⟨wr.heap.size, 0, none⟩) (l[k].enc) := fun _ => ⟨_, _, rfl, by rw [hW]; simp, fun j u hu => by
          have hg : Wn.heap[wr.heap.size]? = some (.cells l[k].enc.toArray 31 (0, 0)) := by rw [hW]; exact heap_alloc_new wr _
          rw [Nat.zero_add, cell_of_row Wn _ j _ _ (0, 0) hg]; simpa using hu⟩
        obtain ⟨v', w', hr, hO', hG, _⟩ := run_append_Own (P := Try.prog) etyR 22 hOW (some ⟨wr.heap.size, 0, none⟩) 1 1 l[k].enc (by simp [Item.enc_len]) hrow (Item.enc_one _) (by simp only [maxLen]; omega) (by omega) (by have := hb.size; have := hbW.size; omega)
        have HO : Hid (OwnL Item.enc 2 w' w.heap.size 31 v' ((l.take (k + 1)).filter (fun x => decide (lo ≤ x.key ∧ x.key ≤ hi))) ∧ ((l.take (k + 1)).filter (fun x => decide (lo ≤ x.key ∧ x.key ≤ hi))).length ≤ most ∧ Below w.heap.size w w') := by
          refine ⟨?_, ?_, (hb.trans (hbW.mono hb.size)).grown hG (Nat.le_trans hb.size hbW.size) fun g hg => (Own.lt hOW g hg).1⟩
          · rw [hst]; simp only [he, and_self, decide_true, if_true]
            unfold OwnL
            simpa using hO'
          · rw [hst]; simp only [he, and_self, decide_true, if_true]; simp; omega
        rw [hW] at hr
        clear he hst hO hOW hbW hrow hO' hG hW
        go_wp2_with (at_builtin; refine wpList_append_run hr rfl (.tmp 54) (.tmp 62) rfl rfl rfl rfl ?_)
        exact ⟨⟨k + 1, by go_num, by omega, HO.out⟩, by simp [intOf]; omega⟩
      · have HO : Hid (OwnL Item.enc 2 wr w.heap.size 31 (.slice Ao F.length co) ((l.take (k + 1)).filter (fun x => decide (lo ≤ x.key ∧ x.key ≤ hi))) ∧ ((l.take (k + 1)).filter (fun x => decide (lo ≤ x.key ∧ x.key ≤ hi))).length ≤ most) := by
          rw [hst]
          have hf : decide (lo ≤ l[k].key ∧ l[k].key ≤ hi) = false := by simpa using he
          simp only [hf, Bool.false_eq_true, if_false, List.append_nil]
          exact ⟨hO, hmst⟩
        have hd : decide (lo ≤ l[k].key) = false ∨ (decide (lo ≤ l[k].key) = true ∧ decide (l[k].key ≤ hi) = false) := by
          by_cases h1 : lo ≤ l[k].key
          · exact .inr ⟨by simp [h1], by simp; omega⟩
          · exact .inl (by simp; omega)
        clear he hst hO
        rcases hd with d3 | ⟨d3, d4⟩
        all_goals
          go_wp2
          exact ⟨⟨k + 1, by go_num, by omega, HO.out.1, HO.out.2, hb⟩, by simp [intOf]; omega⟩
end Go.Proofs.Ytfddpcmlmcohjaa
