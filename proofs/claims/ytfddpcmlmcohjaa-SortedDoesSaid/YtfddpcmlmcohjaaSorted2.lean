/-
  The program's package sorted, the methods that write. Conditions: fewer items than 2^31.
-/
import Derived.Test.YtfddpcmlmcohjaaSorted
import Derived.Deep.RegionWith
import Derived.Deep.RegionHeld3
namespace Go.Proofs.Ytfddpcmlmcohjaa
open Go.RowKit
set_option linter.unusedVariables false
set_option linter.unusedSimpArgs false
set_option maxHeartbeats 400000
set_option maxRecDepth 100000

theorem rowput_c (w : World) (B p : Nat) (v : Value) (l : List Item) (x : Item) (i : Nat) (h : MapP w B p v l) (hi : i ≤ l.length) (hB : B ≤ w.heap.size) :
    Calls Try.prog 50 #[.pointer (some ⟨p, 0, none⟩), .int .i64 i, .agg #[.int .u64 x.key, .string x.val]] w fun e w' =>
      e = .returned (.tuple #[]) ∧ ∃ v', w'.heap[p]? = some (.cells #[v'] 79 (0, 0)) ∧ OwnL Item.enc 2 w' B 81 v' (l.take i ++ [x] ++ l.drop i) ∧
        Chg (fun k => k = p ∨ ownB v = some k) w w' ∧ (ownB v' = ownB v ∨ ∃ g, ownB v' = some g ∧ w.heap.size ≤ g) := by
  have hcell := h.cell
  have hfree := h.free
  have hlt := h.lt
  have hhdr := h.hdr
  have hsm := h.small
  have hown0 := h.own
  have hne := h.ne
  obtain ⟨W, hW⟩ : ∃ W, W = ((w.alloc (.cells #[.int .u64 x.key, .string x.val] 81)).alloc (.cells #[.int .u64 x.key, .string x.val] 81)).drew := ⟨_, rfl⟩
  have hbW : Below w.heap.size w W := by rw [hW]; exact (((Below.refl _ _).alloc (Nat.le_refl _) _).alloc (by simp) _).drew
  have hsW : W.heap.size = w.heap.size + 2 := by rw [hW]; simp
  have hvW : W.heap[w.heap.size + 1]? = some (.cells (x.enc).toArray 81 (0, 0)) := by
    rw [hW]
    show ((w.alloc _).alloc _).heap[w.heap.size + 1]? = _
    have := heap_alloc_new (w.alloc (.cells #[.int .u64 x.key, .string x.val] 81)) (.cells #[.int .u64 x.key, .string x.val] 81)
    rw [World.size_alloc] at this
    exact this
  have hownW : OwnL Item.enc 2 W B 81 v l := Own.keep hown0 fun g hg => hbW.block g (Own.lt hown0 g hg).2
  have hI := insertE W B v l.length i (w.heap.size + 1) 1 (l.flatMap Item.enc) x.enc hownW hi (by omega) hvW (Item.enc_len x) (fun he => by have := (Own.lt hown0 _ he).2; omega) (Item.enc_one x) (flat_one Item.enc_one l) (by omega)
  rw [hW] at hI
  have hE : ∀ (w1 : World) A' c', w1.heap[p]? = some (.cells #[v] 79 (0, 0)) → Own w1 B 81 2 (.slice A' (l.length + 1) c') (l.length + 1) ((l.flatMap Item.enc).take (i * 2) ++ x.enc ++ (l.flatMap Item.enc).drop (i * 2)) →
      W.grownBy w1 (ownB v) → (ownB (.slice A' (l.length + 1) c') = ownB v ∨ ∃ g, ownB (.slice A' (l.length + 1) c') = some g ∧ W.heap.size ≤ g) →
      ∃ v', (w1.setCell ⟨p, 0, none⟩ (.slice A' (l.length + 1) c')).heap[p]? = some (.cells #[v'] 79 (0, 0)) ∧ OwnL Item.enc 2 (w1.setCell ⟨p, 0, none⟩ (.slice A' (l.length + 1) c')) B 81 v' (l.take i ++ [x] ++ l.drop i) ∧
        Chg (fun k => k = p ∨ ownB v = some k) w (w1.setCell ⟨p, 0, none⟩ (.slice A' (l.length + 1) c')) ∧ (ownB v' = ownB v ∨ ∃ g, ownB v' = some g ∧ w.heap.size ≤ g) := by
    intro w1 A' c' hp1 hO hG hb
    have hneO := Own.ne_of_elem hO hp1 (by decide)
    refine ⟨.slice A' (l.length + 1) c', ?_, ?_, ?_, ?_⟩
    · rw [setCell_eq_setRow w1 p 0 #[v] _ _ _ hp1]; simp [setRow_heap w1 p #[v] _ _ _ hp1]
    · have hlen : (l.take i ++ [x] ++ l.drop i).length = l.length + 1 := by simp; omega
      unfold OwnL
      rw [hlen]
      simp only [List.flatMap_append, List.flatMap_cons, List.flatMap_nil, List.append_nil]
      rw [← flat_take Item.enc_len, ← flat_drop Item.enc_len]
      exact Own.keep hO fun g hg => Below.heap_setCell _ _ _ _ (fun e => hneO (by rw [hg, e]))
    · exact (((Chg.of_new hbW).trans (Chg.of_grown hG) fun k _ hk => .inr hk)).setCell _ (fun _ => .inl rfl) _
    · rcases hb with hb | ⟨g, hg, hge⟩
      · exact .inl hb
      · exact .inr ⟨g, hg, by omega⟩
  have HE := Lib.hid hE
  have HW := Lib.hid hW
  have HbW := Lib.hid hbW
  have HsW := Lib.hid hsW
  clear hE hW hbW hsW hvW hownW h
  go_enter Try.func50, Try.ntmps50
  go_wp2
  go_region_with (first | (refine hI.mono ?_; rintro e w1 ⟨v', rfl, hO, hG, hb⟩; rw [← HW.out] at hG hb; obtain ⟨A', c', hv', _, _⟩ := Own.isSlice hO; subst hv'; have hp1 : w1.heap[p]? = some (.cells #[v] 79 (0, 0)) := (hG.block p (by rw [HsW.out]; omega) (Ne.symm hne)).trans ((HbW.out.block p hlt).trans hhdr); have hcell1 : w1.cell? ⟨p, 0, none⟩ = some v := (cell_of_row w1 p 0 _ _ _ hp1); have hfree1 : w1.frozen? ⟨p, 0, none⟩ = false := by simp [World.frozen?, hp1]))
  all_goals
    go_end0
    exact ⟨rfl, HE.out _ _ _ hp1 hO hG hb⟩

theorem rowdrop_c (w : World) (B p : Nat) (v : Value) (l : List Item) (i : Nat) (h : MapP w B p v l) (hi : i < l.length) :
    Calls Try.prog 51 #[.pointer (some ⟨p, 0, none⟩), .int .i64 i] w fun e w' =>
      e = .returned (.tuple #[]) ∧ ∃ v', w'.heap[p]? = some (.cells #[v'] 79 (0, 0)) ∧ OwnL Item.enc 2 w' B 81 v' (l.take i ++ l.drop (i + 1)) ∧
        Chg (fun k => k = p ∨ ownB v = some k) w w' ∧ ownB v' = ownB v := by
  have hcell := h.cell
  have hlt := h.lt
  have hhdr := h.hdr
  have hsm := h.small
  have hown0 := h.own
  have hne := h.ne
  have hD := deleteE w B v l.length i (l.flatMap Item.enc) hown0 hi (by omega) (flat_one Item.enc_one l)
  have hE : ∀ (w1 : World) A' c', w1.heap[p]? = some (.cells #[v] 79 (0, 0)) → Own w1 B 81 2 (.slice A' (l.length - 1) c') (l.length - 1) ((l.flatMap Item.enc).take (i * 2) ++ (l.flatMap Item.enc).drop ((i + 1) * 2)) →
      w.grownBy w1 (ownB v) → ownB (.slice A' (l.length - 1) c') = ownB v →
      ∃ v', (w1.setCell ⟨p, 0, none⟩ (.slice A' (l.length - 1) c')).heap[p]? = some (.cells #[v'] 79 (0, 0)) ∧ OwnL Item.enc 2 (w1.setCell ⟨p, 0, none⟩ (.slice A' (l.length - 1) c')) B 81 v' (l.take i ++ l.drop (i + 1)) ∧
        Chg (fun k => k = p ∨ ownB v = some k) w (w1.setCell ⟨p, 0, none⟩ (.slice A' (l.length - 1) c')) ∧ ownB v' = ownB v := by
    intro w1 A' c' hp1 hO hG hb
    have hneO := Own.ne_of_elem hO hp1 (by decide)
    refine ⟨.slice A' (l.length - 1) c', ?_, ?_, ?_, hb⟩
    · rw [setCell_eq_setRow w1 p 0 #[v] _ _ _ hp1]; simp [setRow_heap w1 p #[v] _ _ _ hp1]
    · have hlen : (l.take i ++ l.drop (i + 1)).length = l.length - 1 := by simp; omega
      unfold OwnL
      rw [hlen, List.flatMap_append, ← flat_take Item.enc_len, ← flat_drop Item.enc_len]
      exact Own.keep hO fun g hg => Below.heap_setCell _ _ _ _ (fun e => hneO (by rw [hg, e]))
    · exact ((Chg.of_grown hG).mono fun k hk => .inr hk).setCell _ (fun _ => .inl rfl) _
  have HE := Lib.hid hE
  clear hE h
  have hwr : IntKind.i64.wrap ((i : Int) + 1) = (i : Int) + 1 := IntWalk.i64_in _ (by omega)
  go_enter Try.func51, Try.ntmps51
  go_wp2_with fail
  refine hD.mono ?_
  rintro e w1 ⟨v', rfl, hO, hG, hb⟩
  obtain ⟨A', c', hv', _, _⟩ := Own.isSlice hO
  subst hv'
  have hp1 : w1.heap[p]? = some (.cells #[v] 79 (0, 0)) := (hG.block p hlt (Ne.symm hne)).trans hhdr
  have hcell1 : w1.cell? ⟨p, 0, none⟩ = some v := cell_of_row w1 p 0 _ _ _ hp1
  have hfree1 : w1.frozen? ⟨p, 0, none⟩ = false := by simp [World.frozen?, hp1]
  go_wp2
  go_end0
  exact ⟨rfl, HE.out _ _ _ hp1 hO hG hb⟩

/-- what a method that writes leaves: the map with the items l', only its own blocks written -/
def Wrote (w : World) (B p : Nat) (v : Value) (l' : List Item) (w' : World) : Prop :=
  ∃ v', MapP w' B p v' l' ∧ Chg (fun k => k = p ∨ ownB v = some k) w w' ∧ (ownB v' = ownB v ∨ ∃ g, ownB v' = some g ∧ w.heap.size ≤ g)
theorem Wrote.same {w w' : World} {B p : Nat} {v : Value} {l : List Item} (h : MapP w B p v l) (hb : Below w.heap.size w w') : Wrote w B p v l w' :=
  ⟨v, h.below hb, Chg.of_new hb, .inl rfl⟩

theorem drop_c (w : World) (B p : Nat) (v : Value) (l : List Item) (key : Int) (h : MapP w B p v l) :
    Calls Try.prog 35 #[.pointer (some ⟨p, 0, none⟩), .int .u64 key] w fun e w' =>
      e = .returned (.tuple #[.string (got l key), .bool (has l key)]) ∧ Wrote w B p v (dropL l key) w' := by
  have HG := get_c w B p v l key h
  cases hh : has l key with
  | false =>
    rw [hh] at HG
    have hE : ∀ w', Below w.heap.size w w' → Wrote w B p v (dropL l key) w' := fun w' hb => by rw [drop_none hh]; exact Wrote.same h hb
    have HE := Lib.hid hE
    clear hh hE h
    go_enter Try.func35, Try.ntmps35
    go_wp2_with (go_at_call 33; refine HG.mono ?_; rintro e w1 ⟨rfl, hb⟩)
    go_ret2
    exact ⟨rfl, HE.out _ hb⟩
  | true =>
    rw [hh] at HG
    have Hh := Lib.hid hh
    clear hh
    go_enter Try.func35, Try.ntmps35
    go_wp2_with fail
    refine HG.mono ?_
    rintro e w1 ⟨rfl, hb⟩
    have h1 := h.below hb
    have HF := find_c w1 B p v l key h1
    clear HG
    go_wp2_with fail
    refine HF.mono ?_
    rintro e w2 ⟨⟨rfl, hAt⟩, hb2⟩
    have h2 := h1.below hb2
    obtain ⟨hi, hk, hv⟩ := hAt.found Hh.out
    have HD := rowdrop_c w2 B p v l (rank l key) h2 hi
    clear HF hv hk
    go_wp2_with fail
    refine HD.mono ?_
    rintro e w3 ⟨rfl, v', hp, hO, hC, hb3⟩
    clear HD
    go_wp2
    go_ret2
    refine ⟨rfl, v', ⟨hp, h.base, ?_, h.srt.dropL key, ?_⟩, ?_, .inl hb3⟩
    · rw [hAt.drop_old Hh.out]; exact hO
    · have := dropL_length l key; have := h.small; omega
    · exact (Chg.of_new hb).trans ((Chg.of_new hb2).trans hC fun _ _ h => h) fun _ _ h => h
end Go.Proofs.Ytfddpcmlmcohjaa

