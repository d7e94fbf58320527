/-
  espalierref07.Map, function by function: the map at block p holds a sorted row of items. Conditions: fewer items than 2^31.
-/
import Derived.Test.YtfddpcmlmcohjaaSame07
import Derived.Test.YtfddpcmlmcohjaaM07c
import Derived.Test.YtfddpcmlmcohjaaInsertE
namespace Go.Proofs.Ytfddpcmlmcohjaa
open Go.RowKit
set_option linter.unusedVariables false
set_option linter.unusedSimpArgs false
set_option maxHeartbeats 400000
set_option maxRecDepth 100000

theorem etyR : ElemTy Try.prog 22 31 2 24 (.agg #[.int .u64 0, .string ⟨#[]⟩]) := ⟨by kernel_rfl, by kernel_rfl, rfl, by decide⟩
theorem buildItemR (k : Int) (s : ByteArray) (w : World) : (Instr.build 31 #[(0, .int .u64 k), (1, .string s)]).run Try.prog w = .ok (.agg #[.int .u64 k, .string s]) w := run_build w 31 _ _ (by kernel_rfl)
theorem buildItemR0 (w : World) : (Instr.build 31 #[]).run Try.prog w = .ok (.agg #[.int .u64 0, .string ⟨#[]⟩]) w := run_build w 31 _ _ (by kernel_rfl)

/-- the document's map at block p, whose field holds the slice v, has the items l -/
structure RMap (w : World) (B p : Nat) (v : Value) (l : List Item) : Prop where
  hdr : w.heap[p]? = some (.cells #[v] 68 (0, 0))
  base : B ≤ p
  own : OwnL Item.enc 2 w B 31 v l
  srt : Srt l
  small : l.length < 2147483640

section
variable {w w' : World} {B p : Nat} {v : Value} {l : List Item}
theorem RMap.cell (h : RMap w B p v l) : w.cell? ⟨p, 0, none⟩ = some v := by rw [cell_of_row w p 0 _ _ _ h.hdr]; rfl
theorem RMap.free (h : RMap w B p v l) : w.frozen? ⟨p, 0, none⟩ = false := by simp [World.frozen?, h.hdr]
theorem RMap.lt (h : RMap w B p v l) : p < w.heap.size := lt_of_heap h.hdr
theorem RMap.ne (h : RMap w B p v l) : ownB v ≠ some p := Own.ne_of_elem h.own h.hdr (by decide)
theorem RMap.keep (h : RMap w B p v l) (hk : ∀ k, k = p ∨ ownB v = some k → w'.heap[k]? = w.heap[k]?) : RMap w' B p v l :=
  ⟨(hk p (.inl rfl)).trans h.hdr, h.base, Own.keep h.own fun g hg => hk g (.inr hg), h.srt, h.small⟩
theorem RMap.below (h : RMap w B p v l) (hb : Below w.heap.size w w') : RMap w' B p v l :=
  h.keep fun k hk => hb.block k (by
    rcases hk with rfl | hk
    · exact h.lt
    · exact (Own.lt h.own k hk).2)
end

theorem rget_c (w : World) (B p : Nat) (v : Value) (l : List Item) (key : Int) (h : RMap w B p v l) :
    Calls Try.prog 54 #[.pointer (some ⟨p, 0, none⟩), .int .u64 key] w fun e w' => e = .returned (.tuple #[.string (got l key), .bool (has l key)]) ∧ w' = w := by
  obtain ⟨A, c, rfl, hn, hc⟩ := Own.isSlice h.own
  unfold maxLen at hc
  have hcell := h.cell
  have hread := OwnL.reads h.own
  clear h
  go_enter Try.func54, Try.ntmps54
  go_wp2
  go_loop [6] (fun i => ∃ k : Nat, i = .int .i64 k ∧ k ≤ l.length ∧ ∀ x ∈ l.take k, x.key ≠ key) (fun i => l.length - (intOf i).toNat)
  case atStart => exact ⟨0, rfl, Nat.zero_le _, by simp⟩
  case round =>
    obtain ⟨k, rfl, hk, hno⟩ := hrel
    have HN := Lib.hid hno
    clear hno
    by_cases hlt : k < l.length
    · obtain ⟨b, off, rfl, hbk, hx⟩ := hread.at_ (k := 2) Item.enc_len (by decide) hlt
      have g0 := hx 0 _ rfl
      have g1 := hx 1 _ rfl
      simp only [Nat.add_zero] at g0
      clear hx
      have hd : l.drop k = l[k] :: l.drop (k + 1) := List.drop_eq_getElem_cons hlt
      by_cases he : l[k].key = key
      · have hq : (l[k].key == key) = true := by simp [he]
        have hget : get l key = some l[k].val := get_at hlt HN.out he
        have hfin : Hid (got l key = l[k].val ∧ has l key = true) := ⟨by unfold got; rw [hget]; rfl, by unfold has; rw [hget]; rfl⟩
        clear he hget hd
        go_wp2
        go_ret2
        exact ⟨by rw [hfin.out.1, hfin.out.2]; rfl, rfl⟩
      · have hq : (l[k].key == key) = false := by simp [he]
        have HN2 : Hid (∀ x ∈ l.take (k + 1), x.key ≠ key) := by
          show ∀ x ∈ l.take (k + 1), x.key ≠ key
          rw [List.take_succ_eq_append_getElem hlt]
          intro x hx
          rcases List.mem_append.1 hx with hx | hx
          · exact HN.out x hx
          · simp at hx; subst hx; exact he
        clear he hd
        go_wp2
        exact ⟨⟨k + 1, by go_num, by omega, HN2.out⟩, by simp [intOf]; omega⟩
    · obtain rfl : k = l.length := by omega
      have hget : get l key = none := get_none (by have := HN.out; rwa [List.take_length] at this)
      have hfin : Hid (got l key = ⟨#[]⟩ ∧ has l key = false) := ⟨by unfold got; rw [hget]; rfl, by unfold has; rw [hget]; rfl⟩
      clear hget
      go_wp2
      go_ret2
      exact ⟨by rw [hfin.out.1, hfin.out.2]; rfl, rfl⟩

theorem rrank_c (w : World) (B p : Nat) (v : Value) (l : List Item) (key : Int) (h : RMap w B p v l) :
    Calls Try.prog 55 #[.pointer (some ⟨p, 0, none⟩), .int .u64 key] w fun e w' => e = .returned (.int .i64 (rank l key)) ∧ w' = w := by
  obtain ⟨A, c, rfl, hn, hc⟩ := Own.isSlice h.own
  unfold maxLen at hc
  have hcell := h.cell
  have hread := OwnL.reads h.own
  clear h
  go_enter Try.func55, Try.ntmps55
  go_wp2
  go_loop [5, 6] (fun m i => ∃ k n : Nat, i = .int .i64 k ∧ k ≤ l.length ∧ m = .int .i64 n ∧ n ≤ k ∧ n = rank (l.take k) key) (fun _ i => l.length - (intOf i).toNat)
  case atStart => exact ⟨0, 0, rfl, Nat.zero_le _, rfl, Nat.le_refl _, by simp [rank]⟩
  case round =>
    obtain ⟨k, n, rfl, hk, rfl, hnk, hrk⟩ := hrel
    have HR := Lib.hid hrk
    clear hrk
    by_cases hlt : k < l.length
    · obtain ⟨b, off, rfl, hbk, hx⟩ := hread.at_ (k := 2) Item.enc_len (by decide) hlt
      have g0 := hx 0 _ rfl
      simp only [Nat.add_zero] at g0
      clear hx
      have ht : rank (l.take (k + 1)) key = rank (l.take k) key + if l[k].key < key then 1 else 0 := by
        unfold rank
        rw [List.take_succ_eq_append_getElem hlt, List.countP_append]
        by_cases h : l[k].key < key <;> simp [h]
      have HT := Lib.hid ht
      clear ht
      by_cases he : l[k].key < key
      · go_wp2
        exact ⟨⟨k + 1, n + 1, by go_num, by omega, by go_num, by omega, by rw [HT.out, if_pos he, HR.out]⟩, by simp [intOf]; omega⟩
      · go_wp2
        exact ⟨⟨k + 1, n, by go_num, by omega, rfl, by omega, by rw [HT.out, if_neg he, HR.out]; rfl⟩, by simp [intOf]; omega⟩
    · obtain rfl : k = l.length := by omega
      have hfin : Hid (n = rank l key) := by have := HR.out; rwa [List.take_length] at this
      go_wp2
      go_ret
      exact ⟨by rw [hfin.out]; rfl, rfl⟩

theorem rwithout_c (w : World) (B p : Nat) (v : Value) (l : List Item) (key : Int) (h : RMap w B p v l) :
    Calls Try.prog 66 #[.pointer (some ⟨p, 0, none⟩), .int .u64 key] w fun e w' => ∃ v', e = .returned v' ∧ OwnL Item.enc 2 w' w.heap.size 31 v' (dropL l key) ∧ Below w.heap.size w w' := by
  obtain ⟨A, c, rfl, hn, hc⟩ := Own.isSlice h.own
  have hsm := h.small
  unfold maxLen at hc
  have hcell := h.cell
  have hread := OwnL.reads h.own
  have hlt0 := h.lt
  clear h
  go_enter Try.func66, Try.ntmps66
  go_wp2
  go_loopw [5, 6] (fun o i wr => ∃ k : Nat, i = .int .i64 k ∧ k ≤ l.length ∧ OwnL Item.enc 2 wr w.heap.size 31 o ((l.take k).filter (fun x => decide (x.key ≠ key))) ∧ Below w.heap.size w wr) (fun _ i _ => l.length - (intOf i).toNat)
  case atStart => exact ⟨0, rfl, Nat.zero_le _, Own.nil _ _ _ _ _, Below.refl _ _⟩
  case round =>
    rename_i wr _
    obtain ⟨k, rfl, hk, hO, hb⟩ := hrel
    have hcell2 : wr.cell? ⟨p, 0, none⟩ = some (.slice A l.length c) := (hb.cell (p := ⟨p, 0, none⟩) hlt0).trans hcell
    have hsl : ((l.take k).filter (fun x => decide (x.key ≠ key))).length ≤ k := Nat.le_trans (List.length_filter_le _ _) (by simp; omega)
    by_cases hlt : k < l.length
    · obtain ⟨b, off, rfl, hbk, hx⟩ := (ReadsL.below hread hb).at_ (k := 2) Item.enc_len (by decide) hlt
      have g0 := hx 0 _ rfl
      have g1 := hx 1 _ rfl
      simp only [Nat.add_zero] at g0
      have hst := filter_step (q := fun x => decide (x.key ≠ key)) hlt
      clear hx
      by_cases he : l[k].key = key
      · have hq : (l[k].key != key) = false := by simp [he]
        have HO : Hid (OwnL Item.enc 2 wr w.heap.size 31 u5 ((l.take (k + 1)).filter (fun x => decide (x.key ≠ key)))) := by
          show OwnL _ _ _ _ _ _ _
          rw [hst]; simp only [he, ne_eq, not_true, decide_false, Bool.false_eq_true, if_false, List.append_nil]; exact hO
        clear he hst hO
        go_wp2
        exact ⟨⟨k + 1, by go_num, by omega, HO.out, hb⟩, by simp [intOf]; omega⟩
      · have hq : (l[k].key != key) = true := by simp [he]
        obtain ⟨Wn, hW⟩ : ∃ Wn, Wn = wr.alloc (.cells #[.int .u64 l[k].key, .string l[k].val] 31) := ⟨_, rfl⟩
        have hOW := Own.alloc hO (.cells #[.int .u64 l[k].key, .string l[k].val] 31)
        rw [← hW] at hOW
        have hbW : Below wr.heap.size wr Wn := by rw [hW]; exact (Below.refl _ _).alloc (Nat.le_refl _) _
        have hrow : RowAt Wn Wn.heap.size (some ⟨wr.heap.size, 0, none⟩) (l[k].enc) := fun _ => ⟨_, _, rfl, by rw [hW]; simp, fun j u hu => by
          have hg : Wn.heap[wr.heap.size]? = some (.cells l[k].enc.toArray 31 (0, 0)) := by rw [hW]; exact heap_alloc_new wr _
          rw [Nat.zero_add, cell_of_row Wn _ j _ _ (0, 0) hg]; simpa using hu⟩
        obtain ⟨v', w', hr, hO', hG, _⟩ := run_append_Own (P := Try.prog) etyR 22 hOW (some ⟨wr.heap.size, 0, none⟩) 1 1 l[k].enc (by simp [Item.enc_len]) hrow (Item.enc_one _) (by simp only [maxLen]; omega) (by omega) (by have := hb.size; have := hbW.size; omega)
        have HO : Hid (OwnL Item.enc 2 w' w.heap.size 31 v' ((l.take (k + 1)).filter (fun x => decide (x.key ≠ key))) ∧ Below w.heap.size w w') := by
          refine ⟨?_, (hb.trans (hbW.mono hb.size)).grown hG (Nat.le_trans hb.size hbW.size) fun g hg => (Own.lt hOW g hg).1⟩
          rw [hst]; simp only [he, ne_eq, not_false_iff, decide_true, if_true]
          unfold OwnL
          simpa using hO'
        rw [hW] at hr
        obtain ⟨Ao, co, ho, _, _⟩ := Own.isSlice hO
        clear he hst hO hOW hbW hrow hO' hG hW
        go_wp2_with (at_builtin; refine wpList_append_run hr rfl (.tmp 26) (.tmp 34) rfl rfl rfl rfl ?_)
        exact ⟨⟨k + 1, by go_num, by omega, HO.out⟩, by simp [intOf]; omega⟩
    · obtain rfl : k = l.length := by omega
      have HO : Hid (OwnL Item.enc 2 wr w.heap.size 31 u5 (dropL l key)) := by
        show OwnL _ _ _ _ _ _ _
        unfold dropL; rw [List.take_length] at hO; exact hO
      clear hO
      go_wp2
      go_ret
      exact ⟨_, rfl, HO.out, hb⟩
end Go.Proofs.Ytfddpcmlmcohjaa
