/-
  A row that may grow, as an append leaves it. Over any program. Conditions: none.
-/
import Derived.Test.YtkamdppnnhjajaaSym2
namespace Go.Proofs.Ytkamdppnnhjajaa.Sym
open Go.RowKit
set_option linter.unusedVariables false
set_option linter.unusedSimpArgs false

/-- append(v, src..): of a row that the call owns -/
theorem run_append_Own2 {P : Program} {w : World} {t e k bytes : Nat} {z : Value} (E : ElemTy P t e k bytes z) (ty : TypeId) {B C : Nat} {v : Value} {n : Nat} {xs : List Value} (hown : Own w B e k v n xs)
    (A : Option Addr) (m c : Nat) (news : List Value) (hl : news.length = m * k) (hnews : RowAt w C A news) (h1 : ∀ u ∈ news, u.oneCell' = true)
    (h63 : n + m ≤ maxLen) (hbytes : (n + m) * bytes ≤ 140737488355328) (hB : B ≤ w.heap.size) :
    ∃ v' w', (Builtin.append_ #[t, t] ty #[v, .slice A m c]).run P w = .ok v' w' ∧ Own w' B e k v' (n + m) (xs ++ news) ∧ w.grownBy w' (ownB v) ∧
      (ownB v' = ownB v ∨ (ownB v' = some w.heap.size ∧ ∀ k, k < w.heap.size → w'.heap[k]? = w.heap[k]?)) := by
  obtain ⟨i, hi⟩ : ∃ i, P.info? e = some i := by
    have := E.i
    cases hq : P.info? e with
    | none => simp [hq] at this
    | some i => exact ⟨i, rfl⟩
  have hEi := E.i
  simp only [hi, Option.map_some, Option.some.injEq, Prod.mk.injEq] at hEi
  obtain ⟨hz, hk, hby⟩ := hEi
  subst hk; subst hby
  have hpos := E.pos
  have hzs := E.zs
  have ht := E.u
  have hlen : (xs ++ news).length = (n + m) * i.size := by rw [List.length_append, hown.1, hl, Nat.add_mul]
  have hsmall : n + m ≤ 9223372036854775807 := by simp only [maxLen] at h63; omega
  have grown : ∀ (old : Nat), old < n + m → ∀ (row : Option Nat),
      Own (w.drew.alloc (.cells (xs.toArray ++ news.toArray ++ Builtin.zeroCells z.cells (grownCap w (n + m) old e - (n + m))) e)) B e i.size
        (.slice (some ⟨w.heap.size, 0, none⟩) (n + m) (grownCap w (n + m) old e)) (n + m) (xs ++ news) ∧
      w.grownBy (w.drew.alloc (.cells (xs.toArray ++ news.toArray ++ Builtin.zeroCells z.cells (grownCap w (n + m) old e - (n + m))) e)) row := by
    intro old ho row
    have hge := grownCap_ge w (n + m) old e
    have hcm : grownCap w (n + m) old e ≤ maxLen := grownCap_le_maxLen w (n + m) old e h63
    refine ⟨⟨hlen, .inr ⟨w.heap.size, _, _, rfl, hB, heap_alloc_new w.drew _, hge, by omega, hcm, ?_, ?_⟩⟩, ⟨rfl, rfl, rfl, by simp, fun k hk _ => Below.heap_alloc w.drew _ k hk⟩⟩
    · simp only [Array.size_append, List.size_toArray, size_zeroCells, hzs, hown.1, hl, ← Nat.add_mul]
      congr 1
      omega
    · simp only [Array.toList_append, List.append_assoc]
      rw [← List.append_assoc, ← hlen]
      exact List.take_left
  have growfit : ∀ old, old < n + m → Builtin.nextslicecap (n + m) old * i.bytes ≤ 281474976710656 := fun old ho => growslice_fits ho hbytes
  have hf : ∀ w' : World, (∀ p, w'.cell? p = w.cell? p) → (Builtin.firstCells i.size m (.slice A m c)).run P w' = .ok news.toArray w' := fun w' hw =>
    run_loadRow (B := C) i.size m m c (hnews.keep (Nat.le_refl _) fun p _ => hw p) hl
  have hrow := fun A' m' c' h => hown.row A' m' c' h
  rcases hown.2 with ⟨rfl, A', rfl⟩ | ⟨g, cap, cur, rfl, hbg, hg, hnc, hc0, hcm, hcs, htake⟩
  · have hx : xs = [] := List.eq_nil_of_length_eq_zero (by simpa using hown.1)
    subst hx
    by_cases hm : m = 0
    · subst hm
      have hn : news = [] := List.eq_nil_of_length_eq_zero (by simpa using hl)
      subst hn
      refine ⟨.slice A' 0 0, w, ?_, Own.nil w B e i.size A', ⟨rfl, rfl, rfl, Nat.le_refl _, fun _ _ _ => rfl⟩, .inl rfl⟩
      have hfw := hf w fun _ => rfl
      cases A' <;> simp [Builtin.append_, run_underlying ht, sizeOf, typeInfo, hi, Builtin.lenOf, hfw, storeCells]
    · have hgr := grown 0 (by omega) (ownB (.slice A' 0 0))
      have hgn := (grown 0 (by omega) none).2
      have hfit := growfit 0 (by omega)
      simp only [Nat.zero_add, List.nil_append, Array.empty_append] at hgr hgn hfit ⊢
      refine ⟨_, _, ?_, hgr.1, hgr.2, .inr ⟨?_, fun k hk => hgn.block k hk (by simp)⟩⟩
      · have hfw := hf w.drew fun _ => rfl
        have hfo := run_loadRow (P := P) (w := w.drew) (B := 0) (A := A') (xs := []) i.size 0 0 0 RowAt.nil (by simp)
        have h63' : ¬ (9223372036854775807 < (m : Int)) := by omega
        have h48' : ¬ (281474976710656 < Builtin.nextslicecap m 0 * i.bytes) := by omega
        simp [Builtin.append_, run_underlying ht, sizeOf, typeInfo, zeroValue, hi, hz, Builtin.lenOf, hm, h63', h48', Question.forced, hfw, hfo, newRow, grownCap]
      · have : grownCap w m 0 e ≠ 0 := by have := grownCap_ge w m 0 e; omega
        simp [ownB, this]
  · by_cases hroom : n + m ≤ cap
    · have hfit : n * i.size + news.length ≤ cur.size := by rw [hl, hcs, ← Nat.add_mul]; exact Nat.mul_le_mul_right _ hroom
      have hst := run_storeCells_at P g (n * i.size) e news 0 cur w hg (by simpa using hfit) h1
      simp only [Nat.add_zero] at hst
      have hfw := hf w fun _ => rfl
      have hr : (Builtin.append_ #[t, t] ty #[.slice (some ⟨g, 0, none⟩) n cap, .slice A m c]).run P w =
          .ok (.slice (some ⟨g, 0, none⟩) (n + m) cap) (w.setRow g (cur.toList.take (n * i.size) ++ news ++ cur.toList.drop (n * i.size + news.length)).toArray) := by
        simp [Builtin.append_, run_underlying ht, sizeOf, typeInfo, hi, Builtin.lenOf, hroom, hfw, Addr.add_lit, hst]
      have hcap : cap ≠ 0 := by omega
      refine ⟨_, _, hr, ⟨hlen, .inr ⟨g, cap, _, rfl, hbg, setRow_heap w g cur _ e _ hg, hroom, hc0, hcm, ?_, ?_⟩⟩, ⟨rfl, rfl, rfl, by simp, fun k _ hk => setRow_other w g k _ (fun e => hk (by simp [ownB, e, hcap]))⟩, .inl (by simp [ownB])⟩
      · simp only [List.size_toArray, List.length_append, List.length_take, List.length_drop, Array.length_toList]
        omega
      · rw [htake, ← hlen]
        exact List.take_left
    · have hgr := grown cap (by omega) (ownB (.slice (some ⟨g, 0, none⟩) n cap))
      have hgn := (grown cap (by omega) none).2
      have hfit := growfit cap (by omega)
      refine ⟨_, _, ?_, hgr.1, hgr.2, .inr ⟨?_, fun k hk => hgn.block k hk (by simp)⟩⟩
      · have hfw := hf w.drew fun _ => rfl
        have hfo := run_loadRow (P := P) (w := w.drew) (B := w.heap.size) (A := some ⟨g, 0, none⟩) (xs := xs) i.size n n cap ((hrow _ _ _ rfl).keep (Nat.le_refl _) fun _ _ => rfl) hown.1
        have h63' : ¬ (9223372036854775807 < ((n : Int) + (m : Int))) := by omega
        have h48' : ¬ (281474976710656 < Builtin.nextslicecap (n + m) cap * i.bytes) := by omega
        simp [Builtin.append_, run_underlying ht, sizeOf, typeInfo, zeroValue, hi, hz, Builtin.lenOf, hroom, h63', h48', Question.forced, hfw, hfo, newRow, grownCap]
        congr 2
        apply Array.ext'
        simp [List.append_assoc]
      · have : grownCap w (n + m) cap e ≠ 0 := by have := grownCap_ge w (n + m) cap e; omega
        simp [ownB, this]

/-- the cells of the first n elements, in a row -/
def rowFlat (cells : Nat → List AV) (n : Nat) : List Value := (List.range n).flatMap fun i => (cells i).map AV.den
theorem rowFlat_succ (cells : Nat → List AV) (n : Nat) : rowFlat cells (n + 1) = rowFlat cells n ++ (cells n).map AV.den := by
  simp [rowFlat, List.range_succ]
theorem rowFlat_len {cells : Nat → List AV} {k : Nat} : ∀ {n : Nat}, (∀ i, i < n → (cells i).length = k) → (rowFlat cells n).length = n * k
  | 0, _ => by simp [rowFlat]
  | n + 1, h => by rw [rowFlat_succ, List.length_append, rowFlat_len (fun i hi => h i (by omega)), List.length_map, h n (by omega), Nat.add_mul, Nat.one_mul]
theorem rowFlat_get {cells : Nat → List AV} {k : Nat} : ∀ {n : Nat}, (∀ i, i < n → (cells i).length = k) → ∀ {i j : Nat}, i < n → j < k → (rowFlat cells n)[i * k + j]? = ((cells i).map AV.den)[j]?
  | 0, _, i, j, hi, hj => by omega
  | n + 1, h, i, j, hi, hj => by
    have hl := rowFlat_len (cells := cells) (k := k) (n := n) (fun i hi => h i (by omega))
    rw [rowFlat_succ]
    by_cases he : i < n
    · have : i * k + j < n * k := by
        have := Nat.mul_le_mul_right k (show i + 1 ≤ n by omega)
        rw [Nat.add_mul, Nat.one_mul] at this
        omega
      rw [List.getElem?_append_left (by omega), rowFlat_get (fun i hi => h i (by omega)) he hj]
    · have : i = n := by omega
      subst this
      rw [List.getElem?_append_right (by omega), hl]
      congr 1
      omega
theorem rowFlat_split {cells : Nat → List AV} {k n x : Nat} (hx : x < n * k) : ∃ i j, i < n ∧ j < k ∧ x = i * k + j := by
  have hk : 0 < k := by
    rcases Nat.eq_zero_or_pos k with h | h
    · subst h; simp at hx
    · exact h
  exact ⟨x / k, x % k, (Nat.div_lt_iff_lt_mul hk).2 hx, Nat.mod_lt _ hk, by have := Nat.div_add_mod x k; rw [Nat.mul_comm] at this; omega⟩
/-- a row that is read is read as one -/
theorem row_of_ok {m : Nat → Nat → Prop} {w : World} {g : Option Nat} {A : Option Addr} {n c k : Nat} {cells : Nat → List AV} (h : Ok m w (.sl g A n c k cells)) : RowAt w w.heap.size A (rowFlat cells n) := by
  cases h with
  | sl _ _ _ _ _ _ h1 h2 h3 h4 h5 h6 h7 =>
    intro hp
    have hl := rowFlat_len h3
    have hn : 0 < n := by
      rcases Nat.eq_zero_or_pos n with h | h
      · subst h; simp [rowFlat] at hp
      · exact h
    obtain ⟨b, off, hA⟩ := h4 0 hn
    refine ⟨b, off, hA, ?_, fun x u hu => ?_⟩
    · obtain ⟨u, hu⟩ : ∃ u, (rowFlat cells n)[0]? = some u := ⟨_, List.getElem?_eq_getElem hp⟩
      have hk : 0 < k := by
        rcases Nat.eq_zero_or_pos k with h | h
        · subst h; simp at hl; rw [hl] at hp; simp at hp
        · exact h
      have := rowFlat_get h3 hn hk
      rw [Nat.zero_mul, Nat.zero_add, hu] at this
      obtain ⟨b', off', hA', hc, _⟩ := h5 0 hn 0 u this.symm
      rw [hA] at hA'; injection hA' with hA'; injection hA' with e1 e2; subst e1; subst e2
      exact World.block_lt_of_cell? w _ hc
    · have hx : x < n * k := by rw [← hl]; exact (List.getElem?_eq_some_iff.1 hu).1
      obtain ⟨i, j, hi, hj, rfl⟩ := rowFlat_split (cells := cells) hx
      rw [rowFlat_get h3 hi hj] at hu
      obtain ⟨b', off', hA', hc, _⟩ := h5 i hi j u hu
      rw [hA] at hA'; injection hA' with hA'; injection hA' with e1 e2; subst e1; subst e2
      exact hc
theorem row_one {m : Nat → Nat → Prop} {w : World} {g : Option Nat} {A : Option Addr} {n c k : Nat} {cells : Nat → List AV} (h : Ok m w (.sl g A n c k cells)) : ∀ u ∈ rowFlat cells n, u.oneCell' = true := by
  cases h with
  | sl _ _ _ _ _ _ h1 h2 h3 h4 h5 h6 h7 =>
    intro u hu
    simp only [rowFlat, List.mem_flatMap, List.mem_range, List.mem_map] at hu
    obtain ⟨i, hi, v, hv, rfl⟩ := hu
    exact one_of (h6 i hi v hv)
def appC (n : Nat) (f g : Nat → List AV) : Nat → List AV := fun i => if i < n then f i else g (i - n)
theorem rowFlat_left (f g : Nat → List AV) (n : Nat) : ∀ j, j ≤ n → rowFlat (appC n f g) j = rowFlat f j
  | 0, _ => by simp [rowFlat]
  | j + 1, h => by
    rw [rowFlat_succ, rowFlat_succ, rowFlat_left f g n j (by omega)]
    simp only [appC]
    rw [if_pos (by omega)]
theorem rowFlat_app (f g : Nat → List AV) (n : Nat) : ∀ m, rowFlat (appC n f g) (n + m) = rowFlat f n ++ rowFlat g m
  | 0 => by
    rw [Nat.add_zero, rowFlat_left f g n n (Nat.le_refl _)]
    simp [rowFlat]
  | m + 1 => by
    rw [← Nat.add_assoc, rowFlat_succ, rowFlat_app f g n m, rowFlat_succ, List.append_assoc]
    simp only [appC]
    rw [if_neg (by omega)]
    simp
theorem own_cells {w : World} {B : Nat} {e : TypeId} {k : Nat} {v : Value} {n : Nat} {xs : List Value} (h : Own w B e k v n xs) {b : Nat} (hb : ownB v = some b) : ∀ j u, xs[j]? = some u → w.cell? ⟨b, j, none⟩ = some u := by
  intro j u hu
  rcases h.2 with ⟨rfl, A, rfl⟩ | ⟨g, cap, cur, rfl, hB, hg, h1, hc0, hm, hs, ht⟩
  · cases A <;> simp [ownB] at hb
  · have : cap ≠ 0 := by omega
    simp [ownB, this] at hb
    subst hb
    rw [cell_of_row w g j cur e (0, 0) hg]
    rw [← ht, List.getElem?_take] at hu
    split at hu
    · simpa using hu
    · cases hu
theorem own_head {w : World} {B : Nat} {e : TypeId} {k : Nat} {A : Option Addr} {n c : Nat} {xs : List Value} (h : Own w B e k (.slice A n c) n xs) (hn : 0 < n) : ∃ b, A = some ⟨b, 0, none⟩ ∧ ownB (.slice A n c) = some b := by
  rcases h.2 with ⟨rfl, A', _⟩ | ⟨g, cap, cur, hv, hB, hg, h1, hc0, hm, hs, ht⟩
  · omega
  · injection hv with e1 e2 e3
    subst e1; subst e3
    exact ⟨g, rfl, by simp [ownB]; omega⟩
theorem Fits.append {C : Cx} {s : St} {a : Act} {w : World} {P : Program} (h : Fits C s a w) {key : Nat} {t : Gr} (ht : lookM s.gr key = some t) {gx : Option Nat} {cells : Nat → List AV} (hx : Ok (s.m C) w (.sl gx t.A t.n t.c t.k cells))
    {g' : Option Nat} {A' : Option Addr} {n' c' : Nat} {cells' : Nat → List AV} (hy : Ok (s.m C) w (.sl g' A' n' c' t.k cells')) {tt bytes : Nat} {z : Value} (E : ElemTy P tt t.e t.k bytes z) (ty : TypeId) (h63 : t.n + n' ≤ maxLen) (hby : (t.n + n') * bytes ≤ 140737488355328) :
    ∃ A1 c1 w', (Builtin.append_ #[tt, tt] ty #[t.v, .slice A' n' c']).run P w = .ok (.slice A1 (t.n + n') c1) w' ∧ Fits C (s.eff (.grow key ⟨A1, t.n + n', c1, t.k, t.e⟩)) a w' ∧
      Ok ((s.eff (.grow key ⟨A1, t.n + n', c1, t.k, t.e⟩)).m C) w' (.sl (some key) A1 (t.n + n') c1 t.k (appC t.n cells cells')) := by
  obtain ⟨hk, xs, hown⟩ := h.gr key t ht
  have hrow := row_of_ok hy
  have hlen' : (rowFlat cells' n').length = n' * t.k := by
    cases hy with | sl _ _ _ _ _ _ h1 h2 h3 h4 h5 h6 h7 => exact rowFlat_len h3
  have hlen : (rowFlat cells t.n).length = t.n * t.k := by
    cases hx with | sl _ _ _ _ _ _ h1 h2 h3 h4 h5 h6 h7 => exact rowFlat_len h3
  -- what the row holds is what is known of it
  have hxs : xs = rowFlat cells t.n := by
    apply List.ext_getElem?
    intro j
    by_cases hj : j < t.n * t.k
    · have hn : 0 < t.n := by
        rcases Nat.eq_zero_or_pos t.n with h0 | h0
        · rw [h0] at hj; simp at hj
        · exact h0
      obtain ⟨b, hA, hb⟩ := own_head hown hn
      have hx' := row_of_ok hx
      obtain ⟨b', off, hA', _, hcl⟩ := hx' (by rw [hlen]; omega)
      rw [hA] at hA'; injection hA' with hA'; injection hA' with e1 e2; subst e1; subst e2
      have hjx : j < xs.length := by rw [hown.1]; exact hj
      have g1 : xs[j]? = some xs[j] := List.getElem?_eq_getElem hjx
      have hjc : j < (rowFlat cells t.n).length := by rw [hlen]; exact hj
      have g2 : (rowFlat cells t.n)[j]? = some (rowFlat cells t.n)[j] := List.getElem?_eq_getElem hjc
      have c1 := own_cells hown hb j _ g1
      have c2 := hcl j _ g2
      rw [Nat.zero_add, c1] at c2
      rw [g1, g2]; exact c2
    · rw [List.getElem?_eq_none (by rw [hown.1]; omega), List.getElem?_eq_none (by rw [hlen]; omega)]
  subst hxs
  obtain ⟨v', w', hrun, hown', hgr, hor⟩ := run_append_Own2 (P := P) E ty hown A' n' c' (rowFlat cells' n') hlen' hrow (row_one hy) h63 hby h.chg.size
  obtain ⟨A1, c1, rfl, hc1, hc2⟩ := hown'.isSlice
  refine ⟨A1, c1, w', hrun, ?_⟩
  have hlt : ∀ b, ownB t.v = some b → C.w0.heap.size ≤ b ∧ b < w.heap.size := fun b hb => hown.lt b hb
  have hothers : ∀ b, b < w.heap.size → ownB t.v ≠ some b → w'.heap[b]? = w.heap[b]? := fun b hb hn => hgr.block b hb (fun e => hn e.symm)
  have hcell : ∀ b o u, w.cell? ⟨b, o, none⟩ = some u → ¬ s.m C b o → w'.cell? ⟨b, o, none⟩ = some u := by
    intro b o u hc hm
    have hb := World.block_lt_of_cell? w _ hc
    by_cases hv : ownB t.v = some b
    · rcases hor with hor | ⟨_, hor⟩
      · have ho : o < t.n * t.k := by
          refine Nat.lt_of_not_le fun hle => hm (.inr (.inr ⟨key, t, ht, hv, hle⟩))
        have hjc : o < (rowFlat cells t.n).length := by rw [hlen]; exact ho
        have g1 : (rowFlat cells t.n)[o]? = some (rowFlat cells t.n)[o] := List.getElem?_eq_getElem hjc
        have e1 := own_cells hown hv o _ g1
        rw [hc] at e1
        injection e1 with e1
        have e2 := own_cells hown' (by rw [hor]; exact hv) o u (by rw [List.getElem?_append_left (by rw [hlen]; exact ho), g1, e1])
        exact e2
      · unfold World.cell? at hc ⊢; rw [hor b hb]; exact hc
    · unfold World.cell? at hc ⊢; rw [hothers b hb hv]; exact hc
  have hm : ∀ b o, b < w.heap.size → ¬ s.m C b o → ¬ (s.eff (.grow key ⟨A1, t.n + n', c1, t.k, t.e⟩)).m C b o := by
    intro b o hb hn hm
    rcases hm with hm | hm | ⟨k', t', ht', hv, hm⟩
    · exact hn (.inl hm)
    · exact hn (.inr (.inl hm))
    · rcases lookM_eff ht' with ⟨_, rfl⟩ | ⟨_, ht'⟩
      · rcases hor with hor | ⟨hor, _⟩
        · have hv' : ownB t.v = some b := by rw [← hor]; exact hv
          refine hn (.inr (.inr ⟨key, t, ht, hv', ?_⟩))
          have := Nat.mul_le_mul_right t.k (Nat.le_add_right t.n n')
          simp only at hm; omega
        · have hv' : ownB (.slice A1 (t.n + n') c1) = some b := hv
          rw [hor] at hv'
          injection hv' with hv'; omega
      · exact hn (.inr (.inr ⟨k', t', ht', hv, hm⟩))
  have mono : ∀ v, Ok (s.m C) w v → Ok ((s.eff (.grow key ⟨A1, t.n + n', c1, t.k, t.e⟩)).m C) w' v := fun v hv => hv.mono fun b o u h1 h2 => ⟨hcell b o u h1 h2, hm b o (World.block_lt_of_cell? w _ h1) h2⟩
  have hsepm : ∀ k e, lookM s.mem k = some e → ownB (.slice A1 (t.n + n') c1) ≠ some e.at_ := by
    intro k e he hv
    rcases hor with hor | ⟨hor, _⟩
    · exact h.sepm key t k e ht he (by rw [← hor]; exact hv)
    · rw [hor] at hv; injection hv with hv
      have := lt_of_heap (h.mem k e he).1
      omega
  have hsepg : ∀ k t', lookM s.gr k = some t' → key ≠ k → ∀ b, ownB (.slice A1 (t.n + n') c1) = some b → ownB t'.v ≠ some b := by
    intro k t' ht' hne b hv
    rcases hor with hor | ⟨hor, _⟩
    · exact h.sepg key t k t' b ht ht' hne (by rw [← hor]; exact hv)
    · rw [hor] at hv; injection hv with hv; subst hv
      intro hv'
      obtain ⟨_, xs', ho'⟩ := h.gr k t' ht'
      have := (ho'.lt _ hv').2
      omega
  refine ⟨⟨h.size, h.defers, fun t ht => ⟨(h.slot t ht).1, mono _ (h.slot t ht).2⟩, fun t p v he hk => ⟨fun hp => ⟨((h.gs t p v he hk).1 hp).1, mono _ ((h.gs t p v he hk).1 hp).2⟩, (h.gs t p v he hk).2⟩, ?_, h.nodup, ?_, ?_, ?_, ?_, h.m0⟩, ?_⟩
  · intro k e he
    obtain ⟨h1, h2, h3⟩ := h.mem k e he
    exact ⟨(hothers _ (lt_of_heap h1) (h.sepm key t k e ht he)).trans h1, fun v hv => ⟨(h2 v hv).1, mono _ (h2 v hv).2⟩, h3⟩
  · intro k t' ht'
    rcases lookM_eff ht' with ⟨_, rfl⟩ | ⟨hne, ht'⟩
    · exact ⟨hk, _, hown'⟩
    · obtain ⟨h1, xs', h2⟩ := h.gr k t' ht'
      refine ⟨h1, xs', h2.keep fun b hb => hothers b (h2.lt b hb).2 fun hv => h.sepg key t k t' b ht ht' (fun e => hne e.symm) hv hb⟩
  · intro k t' k' e ht' he
    rcases lookM_eff ht' with ⟨_, rfl⟩ | ⟨_, ht'⟩
    · exact hsepm k' e he
    · exact h.sepm k t' k' e ht' he
  · intro k1 t1 k2 t2 b h1 h2 hne hv hv'
    rcases lookM_eff h1 with ⟨e1, rfl⟩ | ⟨e1, h1⟩
    · rcases lookM_eff h2 with ⟨e2, _⟩ | ⟨e2, h2⟩
      · exact hne (e1.trans e2.symm)
      · exact hsepg k2 t2 h2 (fun e => e2 e.symm) b hv hv'
    · rcases lookM_eff h2 with ⟨e2, rfl⟩ | ⟨e2, h2⟩
      · exact hsepg k1 t1 h1 (fun e => e1 e.symm) b hv' hv
      · exact h.sepg k1 t1 k2 t2 b h1 h2 hne hv hv'
  · exact h.chg.trans (Chg.of_grown hgr) fun k hk e => by
      have := (hlt k e).1
      omega
  · have lenapp : ∀ i, i < t.n + n' → (appC t.n cells cells' i).length = t.k := by
      intro i hi
      simp only [appC]
      split
      · cases hx with | sl _ _ _ _ _ _ h1 h2 h3 h4 h5 h6 h7 => exact h3 i ‹_›
      · cases hy with | sl _ _ _ _ _ _ h1 h2 h3 h4 h5 h6 h7 => exact h3 _ (by omega)
    have elems : ∀ i, i < t.n + n' → ∀ v ∈ appC t.n cells cells' i, v.one = true ∧ Ok (s.m C) w v := by
      intro i hi v hv
      simp only [appC] at hv
      split at hv
      · cases hx with | sl _ _ _ _ _ _ h1 h2 h3 h4 h5 h6 h7 => exact ⟨h6 i ‹_› v hv, h7 i ‹_› v hv⟩
      · cases hy with | sl _ _ _ _ _ _ h1 h2 h3 h4 h5 h6 h7 => exact ⟨h6 _ (by omega) v hv, h7 _ (by omega) v hv⟩
    refine .sl _ _ _ _ _ _ hc1 hc2 lenapp (fun i hi => ?_) (fun i hi => ?_) (fun i hi v hv => (elems i hi v hv).1) (fun i hi v hv => mono _ (elems i hi v hv).2)
    · obtain ⟨b, hA, _⟩ := own_head hown' (by omega)
      exact ⟨b, 0, hA⟩
    · obtain ⟨b, hA, hb⟩ := own_head hown' (by omega)
      intro j u hu
      have hj : j < t.k := by
        have := (List.getElem?_eq_some_iff.1 hu).1
        rwa [List.length_map, lenapp i hi] at this
      have hget := rowFlat_get (cells := appC t.n cells cells') lenapp hi hj
      rw [rowFlat_app, hu] at hget
      refine ⟨b, 0, hA, ?_, ?_⟩
      · rw [Nat.zero_add]; exact own_cells hown' hb _ u hget
      · intro hmm
        have ho : i * t.k + j < (t.n + n') * t.k := by
          have := Nat.mul_le_mul_right t.k (show i + 1 ≤ t.n + n' by omega)
          rw [Nat.add_mul, Nat.one_mul] at this
          omega
        have hbB := (hown'.lt b hb).1
        rcases hmm with hmm | ⟨k, e, he, hmm⟩ | ⟨k', t', ht', hv, hmm⟩
        · have := h.m0 _ _ hmm; omega
        · exact hsepm k e he (by rw [hmm]; exact hb)
        · rcases lookM_eff ht' with ⟨_, rfl⟩ | ⟨hne, ht'⟩
          · simp only at hmm; omega
          · exact hsepg k' t' ht' (fun e => hne e.symm) b hb hv
end Go.Proofs.Ytkamdppnnhjajaa.Sym
