/-
  record.With and record.Without, whole: what they make of any record of few items. Conditions: the theorems' own.
-/
import Derived.Test.YtkamdppnnhjajaaSymTurn
namespace Go.Proofs.Ytkamdppnnhjajaa.Sym
open Go Go.RowKit
set_option linter.unusedVariables false
set_option linter.unusedSimpArgs false
set_option maxRecDepth 100000

theorem bsF_cut {f : Nat → Itm} {n : Nat} {key : Int} (hs : ∀ i j, i < j → j < n → (f i).key < (f j).key) : ∀ k lo hi, hi - lo ≤ k → lo ≤ hi → hi ≤ n → (∀ t, t < lo → (f t).key < key) → (∀ t, hi ≤ t → t < n → key ≤ (f t).key) →
    lo ≤ bsF f key lo hi ∧ bsF f key lo hi ≤ hi ∧ (∀ t, t < bsF f key lo hi → (f t).key < key) ∧ ∀ t, bsF f key lo hi ≤ t → t < n → key ≤ (f t).key
  | 0, lo, hi, hk, h1, h2, h3, h4 => by
    rw [bsF_end (by omega)]
    exact ⟨Nat.le_refl _, h1, h3, fun t ht => h4 t (by omega)⟩
  | k + 1, lo, hi, hk, h1, h2, h3, h4 => by
    by_cases hlt : lo < hi
    · obtain ⟨m, hm⟩ : ∃ m, m = (lo + hi) / 2 := ⟨_, rfl⟩
      by_cases hkm : (f m).key < key
      · rw [bsF_up hlt hm hkm]
        obtain ⟨a, b, c, d⟩ := bsF_cut hs k (m + 1) hi (by omega) (by omega) h2 (fun t ht => by
          by_cases h : t = m
          · rw [h]; exact hkm
          · have := hs t m (by omega) (by omega); omega) h4
        exact ⟨by omega, b, c, d⟩
      · rw [bsF_dn hlt hm hkm]
        obtain ⟨a, b, c, d⟩ := bsF_cut hs k lo m (by omega) (by omega) (by omega) h3 (fun t ht htn => by
          by_cases h : t = m
          · rw [h]; omega
          · have := hs m t (by omega) htn; omega)
        exact ⟨a, by omega, c, d⟩
    · rw [bsF_end hlt]
      exact ⟨Nat.le_refl _, h1, h3, fun t ht => h4 t (by omega)⟩
theorem bsF_le (f : Nat → Itm) (key : Int) : ∀ k lo hi, hi - lo ≤ k → lo ≤ hi → bsF f key lo hi ≤ hi
  | 0, lo, hi, hk, h1 => by rw [bsF_end (by omega)]; exact h1
  | k + 1, lo, hi, hk, h1 => by
    by_cases hlt : lo < hi
    · obtain ⟨m, hm⟩ : ∃ m, m = (lo + hi) / 2 := ⟨_, rfl⟩
      by_cases hkm : (f m).key < key
      · rw [bsF_up hlt hm hkm]; exact bsF_le f key k (m + 1) hi (by omega) (by omega)
      · rw [bsF_dn hlt hm hkm]; have := bsF_le f key k lo m (by omega) (by omega); omega
    · rw [bsF_end hlt]; exact h1
theorem itF_get {l : List Itm} {i : Nat} (h : i < l.length) : l[i]? = some (itF l i) := by
  rw [List.getElem?_eq_getElem h]
  simp [itF, List.getD, h]
/-- a right row, and a key: where the search ends -/
theorem cut_of {l : List Itm} {key : Int} (hok : okF (itF l) l.length = true) : Cut l key (bsF (itF l) key 0 l.length) ∧ Srt l := by
  obtain ⟨_, h1, h2, h3⟩ := bsF_cut (f := itF l) (n := l.length) (key := key) (okF_srt hok) l.length 0 l.length (by omega) (Nat.zero_le _) (Nat.le_refl _) (fun t ht => absurd ht (Nat.not_lt_zero _)) (fun t h1 h2 => absurd h2 (by omega))
  have hs := okF_Srt hok
  rw [firsts_itF] at hs
  refine ⟨⟨h1, fun x hx => ?_, fun x hx => ?_⟩, hs⟩
  · obtain ⟨t, ht, rfl⟩ := List.mem_iff_getElem.1 hx
    have ht' : t < bsF (itF l) key 0 l.length := by rw [List.length_take] at ht; omega
    have := h2 t ht'
    rw [List.getElem_take]
    simpa [itF, List.getD, show t < l.length by omega] using this
  · obtain ⟨t, ht, rfl⟩ := List.mem_iff_getElem.1 hx
    rw [List.length_drop] at ht
    have := h3 (bsF (itF l) key 0 l.length + t) (by omega) (by omega)
    rw [List.getElem_drop]
    simpa [itF, List.getD, show bsF (itF l) key 0 l.length + t < l.length by omega] using this
theorem turn_hit {l : List Itm} {key : Int} (hok : okF (itF l) l.length = true) {p : Nat} (hp : p = bsF (itF l) key 0 l.length) (hh : hitF (itF l) key l.length p = true) (val : ByteArray) :
    p < l.length ∧ putL l key val = withL l p true key val ∧ dropL l key = l.take p ++ l.drop (p + 1) ∧ findB l key = true := by
  obtain ⟨hc, hs⟩ := cut_of (key := key) hok
  rw [← hp] at hc
  unfold hitF at hh
  simp only [Bool.and_eq_true, decide_eq_true_eq] at hh
  obtain ⟨h1, h2, h3⟩ := put_hit hc hs (itF_get hh.1) hh.2 val
  exact ⟨hh.1, h1, h2, by simp [findB, h3]⟩
theorem turn_miss {l : List Itm} {key : Int} (hok : okF (itF l) l.length = true) {p : Nat} (hp : p = bsF (itF l) key 0 l.length) (hh : hitF (itF l) key l.length p = false) (val : ByteArray) :
    putL l key val = withL l p false key val ∧ findB l key = false := by
  obtain ⟨hc, hs⟩ := cut_of (key := key) hok
  rw [← hp] at hc
  obtain ⟨h1, h2⟩ := put_miss hc hs (fun x hx he => by
    have hlt := (List.getElem?_eq_some_iff.1 hx).1
    rw [itF_get hlt] at hx
    injection hx with hx
    rw [← hx] at he
    unfold hitF at hh
    simp [hlt, he] at hh) val
  exact ⟨h1, by simp [findB, h2]⟩
theorem okF_congr {f g : Nat → Itm} {n : Nat} (h : ∀ t, t < n → f t = g t) : okF f n = okF g n := by
  unfold okF
  rw [Bool.eq_iff_iff, List.all_eq_true, List.all_eq_true]
  have e : ∀ t, t < n → okAt f t = okAt g t := fun t ht => by
    unfold okAt
    rw [h t ht, h (t - 1) (by omega)]
  constructor
  · intro h1 t ht; rw [← e t (List.mem_range.1 ht)]; exact h1 t ht
  · intro h1 t ht; rw [e t (List.mem_range.1 ht)]; exact h1 t ht
theorem isRF_congr {f g : Nat → Itm} {n : Nat} (h : ∀ t, t < n → f t = g t) (kd : Int) (nx : Lab) (mk : Int) : isRF kd n f nx mk = isRF kd n g nx mk := by
  rw [isRF_ref, isRF_ref, okF_congr h]
theorem isRF_firsts (kd : Int) (n : Nat) (f : Nat → Itm) (nx : Lab) (mk : Int) : isRF kd (firsts f n).length (itF (firsts f n)) nx mk = isRF kd n f nx mk := by
  rw [firsts_len]
  exact isRF_congr (fun t ht => firsts_get f n t ht) kd nx mk
theorem wR_firsts (kd : Int) (n : Nat) (f : Nat → Itm) (nx : Lab) (mk : Int) (key : Int) (val : ByteArray) : wR kd (firsts f n).length (itF (firsts f n)) nx mk key val = wR kd n f nx mk key val := by
  unfold wR
  rw [isRF_firsts, firsts_itF]
theorem oR_firsts (kd : Int) (n : Nat) (f : Nat → Itm) (nx : Lab) (mk : Int) (key : Int) : oR kd (firsts f n).length (itF (firsts f n)) nx mk key = oR kd n f nx mk key := by
  unfold oR
  rw [isRF_firsts, firsts_itF]
theorem rec_sim (A : Option Addr) (n c : Nat) (f : Nat → Itm) (kd : Int) (nx : Lab) (mk : Int) : Sim (recI A n c f kd nx mk) (recI A (firsts f n).length c (itF (firsts f n)) kd nx mk) :=
  Sim.agg ⟨Sim.refl _, Sim.resl (firsts_len f n).symm (fun t ht => by rw [firsts_len] at ht; rw [firsts_get f n t ht]), Sim.refl _, Sim.refl _, Sim.refl _, trivial⟩
theorem mk_tup {m : Nat → Nat → Prop} {w : World} {l : List AV} (h : ∀ v ∈ l, Ok m w v) : Ok m w (.tup l) := .tup _ h
theorem ok_rec {m : Nat → Nat → Prop} {w : World} {A : Option Addr} {n c : Nat} {f : Nat → Itm} (h : Ok m w (rowI A n c f)) (kd : Int) (nx : Lab) (mk : Int) : Ok m w (recI A n c f kd nx mk) := by
  refine .agg _ (fun v hv => ?_) (fun v hv => ?_)
  · simp only [List.mem_cons, List.not_mem_nil, or_false] at hv
    rcases hv with rfl | rfl | rfl | rfl | rfl <;> rfl
  · simp only [List.mem_cons, List.not_mem_nil, or_false] at hv
    rcases hv with rfl | rfl | rfl | rfl | rfl
    · exact .int _ _
    · exact h
    · exact .int _ _
    · exact .int _ _
    · exact .int _ _
theorem rec_row {m : Nat → Nat → Prop} {w : World} {A : Option Addr} {n c : Nat} {f : Nat → Itm} {kd : Int} {nx : Lab} {mk : Int} (h : Ok m w (recI A n c f kd nx mk)) : Ok m w (rowI A n c f) := ok_agg h _ (by simp)
/-- With, of a record whose items are a list -/
theorem with_sl (A : Option Addr) (c : Nat) (l : List Itm) (hn : l.length ≤ 1000000) (kd : Int) (nx : Lab) (mk : Int) (hv : U64 nx.bits) (key : Int) (val : ByteArray) :
    Spec Try.prog 19 [recI A l.length c (itF l) kd nx mk, .int .u64 key, .str val] (fun x => .tup [recAV (x.A 0) (x.c 0) (wR kd l.length (itF l) nx mk key val).1, .int .i64 (wR kd l.length (itF l) nx mk key val).2]) := by
  obtain ⟨p, hp⟩ : ∃ p, p = bsF (itF l) key 0 l.length := ⟨_, rfl⟩
  by_cases href : isRF kd l.length (itF l) nx mk = false ∨ kd ≠ 1 ∨ 64 < val.size ∨ (hitF (itF l) key l.length (bsF (itF l) key 0 l.length) = false ∧ l.length = 16)
  · have h := with_ref A l.length c (itF l) hn kd nx mk hv key val href
    have hw : wR kd l.length (itF l) nx mk key val = (zeroRec, if isRF kd l.length (itF l) nx mk = false then 1 else if kd ≠ 1 then 13 else if 64 < val.size then 2 else 12) := by
      unfold wR
      rw [firsts_itF]
      cases hi : isRF kd l.length (itF l) nx mk with
      | false => simp
      | true =>
        by_cases hk : kd = 1
        · by_cases hl : 64 < val.size
          · simp [hk, hl]
          · have h2 : hitF (itF l) key l.length (bsF (itF l) key 0 l.length) = false ∧ l.length = 16 := by
              rcases href with h | h | h | h
              · rw [hi] at h; cases h
              · exact absurd hk h
              · exact absurd h hl
              · exact h
            have h3 := turn_miss (isRF_kind hi).2.2.2.2 hp (by rw [hp]; exact h2.1) val
            have h4 : 16 < (putL l key val).length := by rw [h3.1]; simp [withL]; omega
            simp [hk, hl, h4]
        · simp [hk]
    intro m w hm ha
    refine (h m w hm ha).mono ?_
    rintro e w' ⟨x, rfl, hok, hb⟩
    rw [hw]
    exact ⟨noAtom, rfl, hok, hb⟩
  · have hi : isRF kd l.length (itF l) nx mk = true := by
      cases h : isRF kd l.length (itF l) nx mk with
      | true => rfl
      | false => exact absurd (.inl h) href
    have hk : kd = 1 := Decidable.byContradiction fun h => href (.inr (.inl h))
    have hl : val.size ≤ 64 := Nat.le_of_not_lt fun h => href (.inr (.inr (.inl h)))
    subst hk
    have hfull : hitF (itF l) key l.length p = true ∨ l.length ≠ 16 := by
      cases h : hitF (itF l) key l.length p with
      | true => exact .inl rfl
      | false => exact .inr fun h2 => href (.inr (.inr (.inr ⟨by rw [← hp]; exact h, h2⟩)))
    obtain ⟨_, _, hn16, _, hok⟩ := isRF_kind hi
    have hple : p ≤ l.length := by rw [hp]; exact bsF_le _ _ l.length 0 _ (by omega) (Nat.zero_le _)
    obtain ⟨hh, hhh⟩ : ∃ h, h = hitF (itF l) key l.length p := ⟨_, rfl⟩
    have hput : putL l key val = withL l p hh key val := by
      cases hh with
      | true => exact (turn_hit hok hp hhh.symm val).2.1
      | false => exact (turn_miss hok hp hhh.symm val).1
    have hpin : hh = true → p < l.length := fun h => by
      rw [h] at hhh
      exact (turn_hit hok hp hhh.symm val).1
    have hlen : ¬ 16 < (putL l key val).length := by
      rw [hput]
      cases hh with
      | true => simp [withL]; omega
      | false =>
        rw [← hhh] at hfull
        have : l.length ≠ 16 := by
          rcases hfull with h | h
          · cases h
          · exact h
        simp [withL]; omega
    have hmk : mk = 0 := by
      unfold isRF at hi
      simp [bareK] at hi
      exact hi.2.1
    have hw : wR 1 l.length (itF l) nx mk key val = (⟨1, withL l p hh key val, nx, mk⟩, 0) := by
      unfold wR
      rw [firsts_itF, hi, hmk, ← hput]
      simp [show ¬ 64 < val.size by omega, hlen]
    intro m w hm ha
    have hr := rec_row (ha (recI A l.length c (itF l) 1 nx mk) (by simp))
    refine (with_c w A c l nx mk hv key val (hr.mono fun b o u h1 h2 => ⟨h1, id⟩) hi hl p hh hp hhh hple hpin (by rw [hhh]; exact hfull)).mono ?_
    rintro e w' ⟨A', c', rfl, hO, hb⟩
    rw [hw]
    have hrow : Ok m w' (rowI A' (withL l p hh key val).length c' (itF (withL l p hh key val))) := own_its hO hm fun x hx => by
      have hvs := its_vals hr
      have hm64 : 64 ≤ maxLen := by decide
      unfold withL at hx
      cases hh with
      | true =>
        rcases List.mem_or_eq_of_mem_set hx with hx | rfl
        · exact hvs x hx
        · simp only; omega
      | false =>
        rcases List.mem_append.1 hx with hx | hx
        · rcases List.mem_append.1 hx with hx | hx
          · exact hvs x (List.mem_of_mem_take hx)
          · rw [List.mem_singleton.1 hx]; simp only; omega
        · exact hvs x (List.mem_of_mem_drop hx)
    refine ⟨⟨0, fun _ => A', fun _ => c', fun _ => ⟨#[]⟩⟩, rfl, mk_tup fun v hv => ?_, hb⟩
    simp only [List.mem_cons, List.not_mem_nil, or_false] at hv
    rcases hv with rfl | rfl
    · exact ok_rec hrow _ _ _
    · exact .int _ _
theorem with_s (A : Option Addr) (n c : Nat) (f : Nat → Itm) (hn : n ≤ 1000000) (kd : Int) (nx : Lab) (mk : Int) (hv : U64 nx.bits) (key : Int) (val : ByteArray) :
    Spec Try.prog 19 [recI A n c f kd nx mk, .int .u64 key, .str val] (fun x => .tup [recAV (x.A 0) (x.c 0) (wR kd n f nx mk key val).1, .int .i64 (wR kd n f nx mk key val).2]) := by
  have h := with_sl A c (firsts f n) (by rw [firsts_len]; exact hn) kd nx mk hv key val
  rw [wR_firsts] at h
  exact h.sim ⟨rec_sim A n c f kd nx mk, Sim.refl _, Sim.refl _, trivial⟩
theorem wout_sl (A : Option Addr) (c : Nat) (l : List Itm) (hn : l.length ≤ 1000000) (kd : Int) (nx : Lab) (mk : Int) (hv : U64 nx.bits) (key : Int) :
    Spec Try.prog 21 [recI A l.length c (itF l) kd nx mk, .int .u64 key] (fun x => .tup [recAV (x.A 0) (x.c 0) (oR kd l.length (itF l) nx mk key).1, .bool (.v (oR kd l.length (itF l) nx mk key).2)]) := by
  obtain ⟨p, hp⟩ : ∃ p, p = bsF (itF l) key 0 l.length := ⟨_, rfl⟩
  cases hi : isRF kd l.length (itF l) nx mk && hitF (itF l) key l.length (bsF (itF l) key 0 l.length) with
  | false =>
    have h := wout_ref A l.length c (itF l) hn kd nx mk hv key hi
    have hw : oR kd l.length (itF l) nx mk key = (⟨kd, l, nx, mk⟩, false) := by
      unfold oR
      rw [firsts_itF]
      cases h1 : isRF kd l.length (itF l) nx mk with
      | false => simp
      | true =>
        rw [h1, Bool.true_and, ← hp] at hi
        have := (turn_miss (isRF_kind h1).2.2.2.2 hp hi ⟨#[]⟩).2
        simp [this]
    intro m w hm ha
    refine (h m w hm ha).mono ?_
    rintro e w' ⟨x, rfl, hok, hb⟩
    rw [hw]
    exact ⟨⟨0, fun _ => A, fun _ => c, fun _ => ⟨#[]⟩⟩, rfl, hok, hb⟩
  | true =>
    rw [Bool.and_eq_true, ← hp] at hi
    obtain ⟨hi, hh⟩ := hi
    obtain ⟨h1, _, h3, h4⟩ := turn_hit (isRF_kind hi).2.2.2.2 hp hh ⟨#[]⟩
    have hw : oR kd l.length (itF l) nx mk key = (⟨kd, l.take p ++ l.drop (p + 1), nx, mk⟩, true) := by
      unfold oR
      rw [firsts_itF, hi, h4, h3]
      rfl
    have hlen : (l.take p ++ l.drop (p + 1)).length = l.length - 1 := by simp; omega
    intro m w hm ha
    have hr := rec_row (ha (recI A l.length c (itF l) kd nx mk) (by simp))
    refine (without_c w A c l kd nx mk hv key (hr.mono fun b o u h1 h2 => ⟨h1, id⟩) hi p hp hh h1).mono ?_
    rintro e w' ⟨A', c', rfl, hO, hb⟩
    rw [hw]
    have hrow : Ok m w' (rowI A' (l.take p ++ l.drop (p + 1)).length c' (itF (l.take p ++ l.drop (p + 1)))) := own_its hO hm fun x hx => by
      have hvs := its_vals hr
      rcases List.mem_append.1 hx with hx | hx
      · exact hvs x (List.mem_of_mem_take hx)
      · exact hvs x (List.mem_of_mem_drop hx)
    refine ⟨⟨0, fun _ => A', fun _ => c', fun _ => ⟨#[]⟩⟩, ?_, mk_tup fun v hv => ?_, hb⟩
    · rw [← hlen]; rfl
    · simp only [List.mem_cons, List.not_mem_nil, or_false] at hv
      rcases hv with rfl | rfl
      · exact ok_rec hrow _ _ _
      · exact .bool _
theorem wout_s (A : Option Addr) (n c : Nat) (f : Nat → Itm) (hn : n ≤ 1000000) (kd : Int) (nx : Lab) (mk : Int) (hv : U64 nx.bits) (key : Int) :
    Spec Try.prog 21 [recI A n c f kd nx mk, .int .u64 key] (fun x => .tup [recAV (x.A 0) (x.c 0) (oR kd n f nx mk key).1, .bool (.v (oR kd n f nx mk key).2)]) := by
  have h := wout_sl A c (firsts f n) (by rw [firsts_len]; exact hn) kd nx mk hv key
  rw [oR_firsts] at h
  exact h.sim ⟨rec_sim A n c f kd nx mk, Sim.refl _, trivial⟩
end Go.Proofs.Ytkamdppnnhjajaa.Sym
