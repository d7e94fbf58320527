/-
  What With and Without keep: plain Lean. Conditions: none.
-/
import Derived.Test.YtkamdppnnhjajaaItTurn
namespace Go.Proofs.Ytkamdppnnhjajaa.Sym
open Go Go.RowKit
set_option linter.unusedVariables false
set_option linter.unusedSimpArgs false

theorem big_n {n : Nat} {f : Nat → Itm} (h : bigF n f = false) : n ≤ 40 := by
  unfold bigF at h
  simp at h
  exact h.1
theorem srt_okF {l : List Itm} (hs : Srt l) (hv : ∀ x ∈ l, x.val.size ≤ 64) : okF (itF l) l.length = true := by
  unfold okF
  rw [List.all_eq_true]
  intro i hi
  have hi := List.mem_range.1 hi
  have e : ∀ t (h : t < l.length), itF l t = l[t] := fun t h => by simp [itF, List.getD, h]
  unfold okAt
  rw [e i hi]
  cases i with
  | zero => simpa using hv _ (List.getElem_mem hi)
  | succ i =>
    have h2 : l[i].key < l[i + 1].key := (List.pairwise_iff_getElem.1 hs) i (i + 1) (by omega) hi (by omega)
    simp
    refine ⟨hv _ (List.getElem_mem hi), ?_⟩
    rw [e i (by omega)]
    exact h2
theorem okF_vals {l : List Itm} (h : okF (itF l) l.length = true) : ∀ x ∈ l, x.val.size ≤ 64 := by
  intro x hx
  obtain ⟨i, hi, rfl⟩ := List.mem_iff_getElem.1 hx
  have := okAt_val (okF_at hi h)
  simpa [itF, List.getD, hi] using this
/-- a right row, split by a key -/
theorem split_at {l : List Itm} {key : Int} (hok : okF (itF l) l.length = true) : ∃ a m b, l = a ++ m ++ b ∧ (∀ x ∈ a, x.key < key) ∧ (∀ x ∈ b, key < x.key) ∧ (∀ x ∈ m, x.key = key) ∧ m.length = (if findB l key = true then 1 else 0) := by
  obtain ⟨hc, hs⟩ := cut_of (key := key) hok
  obtain ⟨p, hp⟩ : ∃ p, p = bsF (itF l) key 0 l.length := ⟨_, rfl⟩
  rw [← hp] at hc
  cases hh : hitF (itF l) key l.length p with
  | true =>
    have h4 := (turn_hit hok hp hh ⟨#[]⟩).2.2.2
    unfold hitF at hh
    simp only [Bool.and_eq_true, decide_eq_true_eq] at hh
    obtain ⟨h1, h2⟩ := hc.hit hs (itF_get hh.1) hh.2
    exact ⟨_, _, _, h2, hc.lo, h1, fun x hx => by rw [List.mem_singleton.1 hx]; exact hh.2, by rw [if_pos h4]; rfl⟩
  | false =>
    have h4 := (turn_miss hok hp hh ⟨#[]⟩).2
    have h1 := hc.miss (fun x hx he => by
      have hlt := (List.getElem?_eq_some_iff.1 hx).1
      rw [itF_get hlt] at hx
      injection hx with hx
      rw [← hx] at he
      unfold hitF at hh
      simp [hlt, he] at hh) hs
    refine ⟨_, [], _, ?_, hc.lo, h1, by simp, by rw [h4]; rfl⟩
    rw [List.append_nil, List.take_append_drop]
theorem drop_split {a m b : List Itm} {key : Int} (ha : ∀ x ∈ a, x.key < key) (hb : ∀ x ∈ b, key < x.key) (hm : ∀ x ∈ m, x.key = key) : dropL (a ++ m ++ b) key = a ++ b := by
  have f1 : dropL a key = a := dropL_id fun y hy => by have := ha y hy; omega
  have f3 : dropL b key = b := dropL_id fun y hy => by have := hb y hy; omega
  have f2 : dropL m key = [] := by
    unfold dropL
    rw [List.filter_eq_nil_iff]
    intro x hx
    simp [isK, hm x hx]
  unfold dropL at f1 f2 f3 ⊢
  rw [List.filter_append, List.filter_append, f1, f2, f3]
  simp
theorem find_app {a b : List Itm} {key : Int} (h : ∀ x ∈ a, x.key ≠ key) : (a ++ b).find? (isK key) = b.find? (isK key) := by
  rw [List.find?_append]
  have : a.find? (isK key) = none := by
    rw [List.find?_eq_none]
    intro x hx
    simp [isK, h x hx]
  rw [this]
  rfl
theorem find_mid {a m b : List Itm} {key other : Int} (hm : ∀ x ∈ m, x.key = key) (hne : key ≠ other) : (a ++ m ++ b).find? (isK other) = (a ++ b).find? (isK other) := by
  rw [List.append_assoc, List.find?_append, find_app (a := m) (b := b) (fun x hx => by rw [hm x hx]; exact hne), ← List.find?_append]
/-- what stays, and what goes -/
theorem keeps {l : List Itm} (key : Int) (val : ByteArray) (hv : val.size ≤ 64) (hok : okF (itF l) l.length = true) :
    findB (putL l key val) key = true ∧ findS (putL l key val) key = val ∧ okF (itF (putL l key val)) (putL l key val).length = true ∧ (∀ other, key ≠ other → findS (putL l key val) other = findS l other ∧ findB (putL l key val) other = findB l other) ∧
      findB (dropL (putL l key val) key) key = false ∧ (findB l key = false → dropL (putL l key val) key = l) ∧ ((putL l key val).length = l.length ↔ findB l key = true) := by
  obtain ⟨a, m, b, hl, ha, hb, hm, hml⟩ := split_at (key := key) hok
  have hput : putL l key val = a ++ [⟨key, val⟩] ++ b := by
    rw [hl, putL_split ha hb hm]; simp
  have hone : ∀ x ∈ [(⟨key, val⟩ : Itm)], x.key = key := fun x hx => by rw [List.mem_singleton.1 hx]
  have hdrop : dropL (putL l key val) key = a ++ b := by rw [hput]; exact drop_split ha hb hone
  have hfind : (putL l key val).find? (isK key) = some ⟨key, val⟩ := by
    rw [hput, List.append_assoc, find_app (fun x hx => by have := ha x hx; omega)]
    simp [isK]
  have hs : Srt (putL l key val) := by
    have hsl := okF_Srt hok
    rw [firsts_itF, hl] at hsl
    rw [hput]
    unfold Srt at hsl ⊢
    rw [List.append_assoc, List.pairwise_append] at hsl ⊢
    obtain ⟨h1, h2, h3⟩ := hsl
    rw [List.pairwise_append] at h2
    refine ⟨h1, ?_, fun x hx y hy => ?_⟩
    · rw [List.singleton_append, List.pairwise_cons]
      exact ⟨fun y hy => hb y hy, h2.2.1⟩
    · rcases List.mem_append.1 hy with hy | hy
      · rw [hone y hy]; exact ha x hx
      · have := ha x hx; have := hb y hy; omega
  have hvals : ∀ x ∈ putL l key val, x.val.size ≤ 64 := by
    have h1 := okF_vals hok
    intro x hx
    rw [hput] at hx
    rcases List.mem_append.1 hx with hx | hx
    · rcases List.mem_append.1 hx with hx | hx
      · exact h1 x (by rw [hl]; simp [hx])
      · rw [List.mem_singleton.1 hx]; exact hv
    · exact h1 x (by rw [hl]; simp [hx])
  refine ⟨by simp [findB, hfind], by simp [findS, hfind], srt_okF hs hvals, fun other hne => ?_, ?_, fun hf => ?_, ?_⟩
  · have e : (putL l key val).find? (isK other) = l.find? (isK other) := by
      rw [hput, find_mid hone hne]
      conv => rhs; rw [hl]
      rw [find_mid hm hne]
    exact ⟨by simp only [findS, e], by simp only [findB, e]⟩
  · rw [hdrop]
    have : (a ++ b).find? (isK key) = none := by
      rw [List.find?_eq_none]
      intro x hx
      rcases List.mem_append.1 hx with hx | hx
      · have := ha x hx; simp [isK]; omega
      · have := hb x hx; simp [isK]; omega
    simp [findB, this]
  · rw [hdrop]
    rw [hf] at hml
    have : m = [] := List.eq_nil_of_length_eq_zero (by simpa using hml)
    rw [hl, this]; simp
  · rw [hput]
    conv => lhs; rhs; rw [hl]
    simp only [List.length_append, List.length_singleton]
    cases h : findB l key with
    | true => rw [h] at hml; simp only [if_true] at hml; simp; omega
    | false => rw [h] at hml; simp at hml; simp [hml]
theorem wR_len (kd : Int) (n : Nat) (f : Nat → Itm) (nx : Lab) (mk : Int) (key : Int) (val : ByteArray) : (wR kd n f nx mk key val).1.items.length ≤ 16 := by
  unfold wR
  repeat' split
  all_goals simp only [zeroRec, List.length_nil]
  all_goals omega
theorem oR_len (kd : Int) (n : Nat) (f : Nat → Itm) (nx : Lab) (mk : Int) (key : Int) : (oR kd n f nx mk key).1.items.length ≤ n := by
  unfold oR
  split
  · have := List.length_filter_le (fun x => !isK key x) (firsts f n)
    rw [firsts_len] at this
    exact this
  · simp only; rw [firsts_len]; exact Nat.le_refl _
theorem isRF_leaf {l : List Itm} {nx : Lab} (hok : okF (itF l) l.length = true) (hn : l.length ≤ 16) (hx : nx = noneL ∨ isL nx = true) : isRF 1 l.length (itF l) nx 0 = true := by
  have hx' : (decide (nx = noneL) || isL nx) = true := by rcases hx with h | h <;> simp [h]
  unfold isRF rowF
  rw [hx', if_neg (by decide : ¬ bareK 1 = true), if_pos (.inl rfl), hok]
  simp [hn]
/-- a record with an item more: all that the law asks -/
theorem keepsR {kd : Int} {n : Nat} {f : Nat → Itm} {nx : Lab} {mk : Int} {key : Int} {val : ByteArray} {W : Rec} {we : Int} (h : wR kd n f nx mk key val = (W, we)) :
    (we ≠ 0 ∧ W.kind = 0 ∧ W.items.length = 0) ∨ (we = 0 ∧ findB W.items key = true ∧ findS W.items key = val ∧ isRF W.kind W.items.length (itF W.items) W.next W.mark = true ∧ W.next = nx ∧ (∀ other, key ≠ other → findS W.items other = findS (firsts f n) other ∧ findB W.items other = findB (firsts f n) other) ∧
      ∃ O, oR W.kind W.items.length (itF W.items) W.next W.mark key = (O, true) ∧ findB O.items key = false ∧ (findB (firsts f n) key = false → sameRF O.kind O.items.length (itF O.items) O.next O.mark kd n f nx mk = true) ∧ (W.items.length = n ↔ findB (firsts f n) key = true)) := by
  unfold wR at h
  cases hi : isRF kd n f nx mk with
  | false => rw [hi, if_pos rfl] at h; injection h with h1 h2; subst h1; subst h2; exact .inl ⟨by decide, rfl, rfl⟩
  | true =>
    rw [hi, if_neg (by decide)] at h
    by_cases hk : kd = 1
    · rw [if_neg (by simpa using hk)] at h
      by_cases hl : 64 < val.size
      · rw [if_pos hl] at h; injection h with h1 h2; subst h1; subst h2; exact .inl ⟨by decide, rfl, rfl⟩
      · rw [if_neg hl] at h
        by_cases hf : 16 < (putL (firsts f n) key val).length
        · rw [if_pos hf] at h; injection h with h1 h2; subst h1; subst h2; exact .inl ⟨by decide, rfl, rfl⟩
        · rw [if_neg hf] at h; injection h with h1 h2; subst h1; subst h2
          right
          obtain ⟨_, _, hn16, hnl, hok⟩ := isRF_kind hi
          have hok2 : okF (itF (firsts f n)) (firsts f n).length = true := by
            rw [firsts_len, okF_congr (fun t ht => firsts_get f n t ht)]; exact hok
          obtain ⟨k1, k2, k3, k4, k5, k6, k7⟩ := keeps key val (by omega) hok2
          have hisW : isRF 1 (putL (firsts f n) key val).length (itF (putL (firsts f n) key val)) nx 0 = true := isRF_leaf k3 (by omega) hnl
          have hmk : mk = 0 := by
            subst hk
            unfold isRF at hi
            simp [bareK] at hi
            exact hi.2.1
          refine ⟨rfl, k1, k2, hisW, rfl, k4, ⟨1, dropL (putL (firsts f n) key val) key, nx, 0⟩, ?_, k5, fun hf => ?_, by rw [← firsts_len f n]; rw [firsts_len f n]; rw [← k7, firsts_len]⟩
          · unfold oR
            simp only
            rw [hisW, firsts_itF, k1]
            rfl
          · simp only
            rw [k6 hf, hk, hmk]
            have hs : sameF (firsts f n).length (itF (firsts f n)) n f = true := sameF_yes (firsts_len f n) fun i hi => firsts_get f n i (by rwa [firsts_len] at hi)
            simp [sameRF, hs]
    · rw [if_pos hk] at h; injection h with h1 h2; subst h1; subst h2; exact .inl ⟨by decide, rfl, rfl⟩
end Go.Proofs.Ytkamdppnnhjajaa.Sym
