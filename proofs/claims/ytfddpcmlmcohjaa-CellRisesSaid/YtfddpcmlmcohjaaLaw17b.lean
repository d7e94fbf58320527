/-
  Chapter 17's laws of a merge in plain Lean. No program in sight.
-/
import Derived.Test.YtfddpcmlmcohjaaCellMer
namespace Go.Proofs.Ytfddpcmlmcohjaa
open Go.RowKit
set_option linter.unusedVariables false
set_option linter.unusedSimpArgs false

theorem ofM_cons (x : Mark) (l : List Mark) (cl : Int) : ofM (x :: l) cl = if x.client = cl then some x else ofM l cl := by
  unfold ofM
  by_cases h : x.client = cl <;> simp [h]
theorem ofM_putM (l : List Mark) (m : Mark) (cl : Int) : ofM (putM l m) cl = if m.client = cl then some m else ofM l cl := by
  induction l with
  | nil => simp [putM, ofM_cons, ofM]
  | cons x l ih =>
    simp only [putM]
    split
    · rename_i h
      rw [ofM_cons, ofM_cons, ih]
      by_cases h1 : x.client = cl
      · rw [if_pos h1, if_neg (by omega), if_pos h1]
      · rw [if_neg h1, if_neg h1]
    · split
      · rename_i h1 h2
        rw [ofM_cons, ofM_cons]
        by_cases h3 : m.client = cl
        · simp [h3]
        · rw [if_neg h3, if_neg h3, if_neg (by omega)]
      · rw [ofM_cons]
/-- what a merge makes of one client's marks -/
def pickM (x y : Option Mark) : Option Mark :=
  match x, y with
  | x, none => x
  | none, some m => some m
  | some x, some m => if x.req < m.req then some m else some x
theorem ofM_fold (a : List Mark) (cl : Int) : ∀ (b out : List Mark), SrtM b → ofM out cl = ofM a cl → ofM (b.foldl (stepM a) out) cl = pickM (ofM a cl) (ofM b cl) := by
  intro b
  induction b with
  | nil =>
    intro out _ h
    show ofM out cl = pickM (ofM a cl) none
    rw [h]
    cases ofM a cl <;> rfl
  | cons m b ih =>
    intro out hs h
    obtain ⟨h1, h2⟩ := List.pairwise_cons.1 hs
    rw [List.foldl_cons, ofM_cons]
    by_cases hc : m.client = cl
    · rw [if_pos hc]
      have hn : ofM b cl = none := ofM_none (fun x hx => by have := h1 x hx; omega)
      -- behind m nothing more of this client
      have key : ∀ (l out : List Mark), (∀ x ∈ l, x.client ≠ cl) → ofM (l.foldl (stepM a) out) cl = ofM out cl := by
        intro l
        induction l with
        | nil => intro out _; rfl
        | cons x l il =>
          intro out hx
          rw [List.foldl_cons, il _ (fun y hy => hx y (by simp [hy]))]
          have hxc := hx x (by simp)
          unfold stepM
          split
          · rw [ofM_putM, if_neg hxc]
          · split
            · rw [ofM_putM, if_neg hxc]
            · rfl
      rw [key b _ (fun x hx => by have := h1 x hx; omega)]
      unfold stepM
      rw [hc]
      cases hx : ofM a cl with
      | none => simp only [pickM]; rw [ofM_putM, if_pos hc]
      | some x =>
        simp only [pickM]
        split
        · rw [ofM_putM, if_pos hc]
        · rw [h, hx]
    · rw [if_neg hc]
      refine ih _ h2 ?_
      unfold stepM
      split
      · rw [ofM_putM, if_neg hc, h]
      · split
        · rw [ofM_putM, if_neg hc, h]
        · exact h
theorem ofM_merge {a b : List Mark} (hb : SrtM b) (cl : Int) : ofM (mergeM a b) cl = pickM (ofM a cl) (ofM b cl) := ofM_fold a cl b a hb rfl
theorem ofM_mem {l : List Mark} (hs : SrtM l) {m : Mark} (hm : m ∈ l) : ofM l m.client = some m := by
  induction l with
  | nil => cases hm
  | cons x l ih =>
    obtain ⟨h1, h2⟩ := List.pairwise_cons.1 hs
    rw [ofM_cons]
    rcases List.mem_cons.1 hm with rfl | hm
    · simp
    · have := h1 m hm
      rw [if_neg (by omega), ih h2 hm]
theorem ofM_is {l : List Mark} {cl : Int} {m : Mark} (h : ofM l cl = some m) : m ∈ l ∧ m.client = cl :=
  ⟨List.mem_of_find?_eq_some h, by simpa using List.find?_some h⟩
/-- two rows that tell the same of each client have the same clients and numbers -/
theorem rows_same : ∀ (l1 l2 : List Mark), SrtM l1 → SrtM l2 → (∀ cl, (ofM l1 cl).map Mark.req = (ofM l2 cl).map Mark.req) → l1.map (fun x => (x.client, x.req)) = l2.map (fun x => (x.client, x.req))
  | [], [], _, _, _ => rfl
  | [], y :: l2, _, _, h => by have := h y.client; simp [ofM] at this
  | x :: l1, [], _, _, h => by have := h x.client; simp [ofM] at this
  | x :: l1, y :: l2, h1, h2, h => by
    obtain ⟨a1, a2⟩ := List.pairwise_cons.1 h1
    obtain ⟨b1, b2⟩ := List.pairwise_cons.1 h2
    have hxy : x.client = y.client := by
      rcases Int.lt_trichotomy x.client y.client with hlt | he | hlt
      · have := h x.client
        rw [ofM_mem h1 (by simp), ofM_cons, if_neg (by omega), ofM_none (fun z hz => by have := b1 z hz; omega)] at this
        simp at this
      · exact he
      · have := h y.client
        rw [ofM_mem h2 (by simp), ofM_cons, if_neg (by omega), ofM_none (fun z hz => by have := a1 z hz; omega)] at this
        simp at this
    have hr := h x.client
    rw [ofM_mem h1 (by simp), ofM_cons, if_pos hxy.symm] at hr
    simp at hr
    have ht := rows_same l1 l2 a2 b2 (fun cl => by
      by_cases hc : x.client = cl
      · rw [ofM_none (l := l1) (fun z hz => by have := a1 z hz; omega), ofM_none (l := l2) (fun z hz => by have := b1 z hz; omega)]
      · have := h cl
        rwa [ofM_cons, ofM_cons, if_neg hc, if_neg (by omega)] at this)
    simp [hxy, hr, ht]
theorem pick_req (x y : Option Mark) : (pickM x y).map Mark.req = (pickM y x).map Mark.req := by
  cases x <;> cases y <;> simp [pickM]
  rename_i x y
  by_cases h1 : x.req < y.req
  · rw [if_pos h1, if_neg (by omega)]
  · by_cases h2 : y.req < x.req
    · rw [if_neg h1, if_pos h2]
    · rw [if_neg h1, if_neg h2]; simp; omega
theorem fold_id (a : List Mark) : ∀ (b : List Mark), (∀ m ∈ b, ∃ x, ofM a m.client = some x ∧ ¬ x.req < m.req) → ∀ out, b.foldl (stepM a) out = out
  | [], _, out => rfl
  | m :: b, h, out => by
    obtain ⟨x, hx, hn⟩ := h m (by simp)
    rw [List.foldl_cons]
    have : stepM a out m = out := by unfold stepM; rw [hx]; simp [hn]
    rw [this]
    exact fold_id a b (fun y hy => h y (by simp [hy])) out
theorem merge_good {a b : List Mark} (ha : Good a) (hb : Good b) : Good (mergeM a b) := fold_good b a ha hb.2
theorem once (a b : Cel) : (mergeC a b = (zeroCel, 1) ∧ ¬ (IsC a ∧ IsC b)) ∨ ∃ c d, mergeC a b = (c, 0) ∧ mergeC b a = (d, 0) ∧ mergeC a a = (a, 0) ∧ mergeC c b = (c, 0) ∧ IsC c ∧
    c.version = (if a.version < b.version then b.version else a.version) ∧ c.marks.map (fun x => (x.client, x.req)) = d.marks.map (fun x => (x.client, x.req)) ∧ (a.version = b.version ∨ (c.version = d.version ∧ c.has = d.has ∧ c.val = d.val)) := by
  by_cases h : IsC a ∧ IsC b
  · obtain ⟨ha, hb⟩ := h
    refine .inr ⟨if a.version < b.version then ⟨b.version, b.has, b.val, mergeM a.marks b.marks⟩ else ⟨a.version, a.has, a.val, mergeM a.marks b.marks⟩, if b.version < a.version then ⟨a.version, a.has, a.val, mergeM b.marks a.marks⟩ else ⟨b.version, b.has, b.val, mergeM b.marks a.marks⟩, by simp [mergeC, ha, hb], by simp [mergeC, ha, hb], ?_, ?_, ?_, ?_, ?_, ?_⟩
    · have : mergeM a.marks a.marks = a.marks := fold_id _ _ (fun m hm => ⟨m, ofM_mem ha.1.1 hm, by omega⟩) _
      simp [mergeC, ha, this]
    · have hm : mergeM (mergeM a.marks b.marks) b.marks = mergeM a.marks b.marks := fold_id _ _ (fun m hm => by
        have e := ofM_merge (a := a.marks) hb.1.1 m.client
        rw [ofM_mem hb.1.1 hm] at e
        cases hx : ofM a.marks m.client with
        | none => rw [hx] at e; exact ⟨m, e, by omega⟩
        | some x =>
          rw [hx] at e
          simp only [pickM] at e
          by_cases hl : x.req < m.req
          · rw [if_pos hl] at e; exact ⟨m, e, by omega⟩
          · rw [if_neg hl] at e; exact ⟨x, e, hl⟩) _
      have hg := merge_good ha.1 hb.1
      by_cases hv : a.version < b.version
      · have hi : IsC ⟨b.version, b.has, b.val, mergeM a.marks b.marks⟩ := ⟨hg, hb.2⟩
        simp [hv, mergeC, hi, hb, hm]
      · have hi : IsC ⟨a.version, a.has, a.val, mergeM a.marks b.marks⟩ := ⟨hg, ha.2⟩
        simp [hv, mergeC, hi, hb, hm]
    · have hg := merge_good ha.1 hb.1
      split
      · exact ⟨hg, hb.2⟩
      · exact ⟨hg, ha.2⟩
    · split <;> rfl
    · have hg1 := merge_good ha.1 hb.1
      have hg2 := merge_good hb.1 ha.1
      have hrs := rows_same _ _ hg1.1 hg2.1 (fun cl => by rw [ofM_merge hb.1.1, ofM_merge ha.1.1, pick_req])
      by_cases hv : a.version < b.version <;> by_cases hw : b.version < a.version <;> simp only [hv, hw, if_true, if_false, hrs]
    · by_cases hv : a.version < b.version
      · refine .inr ?_
        have hw : ¬ b.version < a.version := by omega
        simp [hv, hw]
      · by_cases hw : b.version < a.version
        · refine .inr ?_
          simp [hv, hw]
        · exact .inl (by omega)
  · exact .inl ⟨by unfold mergeC; rw [if_pos h], h⟩
end Go.Proofs.Ytfddpcmlmcohjaa
