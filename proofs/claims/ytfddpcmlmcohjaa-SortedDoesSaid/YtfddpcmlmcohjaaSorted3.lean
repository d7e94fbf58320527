/-
  The program's package sorted: Put, Range, Min and Max; a nil map. Conditions: fewer items than 2^31.
-/
import Derived.Test.YtfddpcmlmcohjaaSorted2
import Derived.Deep.Cut
namespace Go.Proofs.Ytfddpcmlmcohjaa
open Go.RowKit
set_option linter.unusedVariables false
set_option linter.unusedSimpArgs false
set_option maxHeartbeats 400000
set_option maxRecDepth 100000

theorem buildItem (k : Int) (s : ByteArray) (w : World) : (Instr.build 31 #[(0, .int .u64 k), (1, .string s)]).run Try.prog w = .ok (.agg #[.int .u64 k, .string s]) w := run_build w 31 _ _ (by kernel_rfl)
theorem buildEntry (k : Int) (s : ByteArray) (w : World) : (Instr.build 81 #[(0, .agg #[.int .u64 k, .string s])]).run Try.prog w = .ok (.agg #[.int .u64 k, .string s]) w := run_build w 81 _ _ (by kernel_rfl)
theorem buildItem0 (w : World) : (Instr.build 31 #[]).run Try.prog w = .ok (.agg #[.int .u64 0, .string ⟨#[]⟩]) w := run_build w 31 _ _ (by kernel_rfl)

theorem put_limit (w : World) (B p : Nat) (v : Value) (l : List Item) (key : Int) (s : ByteArray) (h : MapP w B p v l) (hs : 64 < s.size) :
    Calls Try.prog 34 #[.pointer (some ⟨p, 0, none⟩), .int .u64 key, .string s] w fun e w' =>
      e = .returned (.tuple #[.string ⟨#[]⟩, .bool false, .int .i64 2]) ∧ w' = w := by
  go_enter Try.func34, Try.ntmps34
  go_wp2_with fail
  go_ret3
  exact ⟨rfl, rfl⟩

theorem set_flat (l : List Item) (i : Nat) (hi : i < l.length) (s : ByteArray) : (l.set i ⟨l[i].key, s⟩).flatMap Item.enc = (l.flatMap Item.enc).set (i * 2 + 1) (.string s) := by
  induction l generalizing i with
  | nil => simp at hi
  | cons x l ih =>
    cases i with
    | zero => simp [Item.enc]
    | succ i =>
      have hi' : i < l.length := by simpa using hi
      have := ih i hi'
      simp only [List.set_cons_succ, List.flatMap_cons, List.getElem_cons_succ, this]
      rw [show (i + 1) * 2 + 1 = x.enc.length + (i * 2 + 1) from by rw [Item.enc_len]; omega, List.set_append_right _ _ (by omega)]
      congr 2
      omega

theorem put_c (w : World) (B p : Nat) (v : Value) (l : List Item) (key : Int) (s : ByteArray) (h : MapP w B p v l) (hs : s.size ≤ 64) (hB : B ≤ w.heap.size) (hl : l.length < 2147483000) :
    Calls Try.prog 34 #[.pointer (some ⟨p, 0, none⟩), .int .u64 key, .string s] w fun e w' =>
      e = .returned (.tuple #[.string (got l key), .bool (has l key), .int .i64 0]) ∧ Wrote w B p v (putL l key s) w' := by
  have HF := find_c w B p v l key h
  have bI := buildItem
  have bE := buildEntry
  have hpl := putL_length l key s
  cases hh : has l key with
  | false =>
    rw [hh] at HF
    have Hh := Lib.hid hh
    clear hh
    go_enter Try.func34, Try.ntmps34
    go_wp2_with fail
    refine HF.mono ?_
    rintro e w1 ⟨⟨rfl, hAt⟩, hb⟩
    have h1 := h.below hb
    have HR := rowput_c w1 B p v l ⟨key, s⟩ (rank l key) h1 hAt.le (Nat.le_trans hB hb.size)
    clear HF
    go_wp2_with fail
    refine HR.mono ?_
    rintro e w2 ⟨rfl, v', hp, hO, hC, hb2⟩
    clear HR
    go_wp2_with fail
    go_ret3
    refine ⟨?_, v', ⟨hp, h.base, ?_, h.srt.put key s, by omega⟩, ?_, ?_⟩
    · rw [(hAt.missing Hh.out).1]; rfl
    · rw [hAt.put_new Hh.out]; exact hO
    · exact (Chg.of_new hb).trans hC fun _ _ h => h
    · rcases hb2 with hb2 | ⟨g, hg, hge⟩
      · exact .inl hb2
      · exact .inr ⟨g, hg, Nat.le_trans hb.size hge⟩
  | true =>
    rw [hh] at HF
    have Hh := Lib.hid hh
    clear hh
    go_enter Try.func34, Try.ntmps34
    go_wp2_with fail
    refine HF.mono ?_
    rintro e w1 ⟨⟨rfl, hAt⟩, hb⟩
    have h1 := h.below hb
    obtain ⟨hi, hk, hv⟩ := hAt.found Hh.out
    have hput := hAt.put_old Hh.out s
    have hcell := h1.cell
    have hfree := h1.free
    have hne := h1.ne
    rcases h1.own.2 with ⟨h0, _⟩ | ⟨g, cap, cur, hvv, hBg, hg, hnc, hc0, hcm, hcs, htake⟩
    · omega
    subst hvv
    have hcap : cap ≠ 0 := by omega
    have hgp : g ≠ p := fun e => hne (by simp [ownB, hcap, e])
    have hrow := (OwnL.reads h1.own).at_ (k := 2) Item.enc_len (by decide) hi
    obtain ⟨b, off, hbo, _, hx⟩ := hrow
    injection hbo with hbo
    injection hbo with hb1 hb2
    subst hb1; subst hb2
    have g1 := hx 1 _ rfl
    rw [Nat.zero_add] at g1
    have hfr : w1.frozen? ⟨g, rank l key * 2 + 1, none⟩ = false := by simp [World.frozen?, hg]
    have hsz : rank l key * 2 + 1 < cur.size := by have := Nat.mul_le_mul_right 2 hnc; omega
    have hE : Wrote w B p (.slice (some ⟨g, 0, none⟩) l.length cap) (putL l key s) (w1.setCell ⟨g, rank l key * 2 + 1, none⟩ (.string s)) := by
      have hg' : (w1.setCell ⟨g, rank l key * 2 + 1, none⟩ (.string s)).heap[g]? = some (.cells (cur.setIfInBounds (rank l key * 2 + 1) (.string s)) 81 (0, 0)) := by
        rw [setCell_eq_setRow w1 g _ cur _ _ _ hg]; exact setRow_heap w1 g cur _ _ _ hg
      refine ⟨_, ⟨(Below.heap_setCell _ _ _ _ (Ne.symm hgp)).trans h1.hdr, h.base, ?_, h.srt.put key s, by omega⟩, ?_, .inl rfl⟩
      · rw [hput]
        have hlen : (l.set (rank l key) ⟨key, s⟩).length = l.length := by simp
        unfold OwnL
        rw [hlen]
        refine ⟨by rw [flat_length Item.enc_len, hlen], .inr ⟨g, cap, _, rfl, hBg, hg', hnc, hc0, hcm, by simpa using hcs, ?_⟩⟩
        have hset := set_flat l (rank l key) hi s
        rw [hk] at hset
        rw [hset, ← htake, Array.toList_setIfInBounds, List.take_set]
      · exact (Chg.of_new hb).setCell _ (fun _ => .inr (by simp [ownB, hcap])) _
    have HE := Lib.hid hE
    have HV := Lib.hid hv
    clear hE hput hx htake hcs hg hv HF hb hk
    go_wp2_with fail
    go_ret3
    exact ⟨by rw [HV.out]; rfl, HE.out⟩
end Go.Proofs.Ytfddpcmlmcohjaa
