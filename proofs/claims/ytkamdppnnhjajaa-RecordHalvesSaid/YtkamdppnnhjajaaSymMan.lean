/-
  Operations by hand inside a region, and functions that change a block of their caller's. Over any program. Conditions: none.
-/
import Derived.Test.YtkamdppnnhjajaaSymKit
import Derived.Defers
import Derived.Recover
namespace Go.Proofs.Ytkamdppnnhjajaa.Sym
open Go.RowKit
set_option linter.unusedVariables false
set_option linter.unusedSimpArgs false

section
variable {C : Cx} {P : Program} {Q : Exit → Act → World → Prop} {T : List (Nat × TI)} {ops : Array Oper} {all : List Oper}
/-- the first operations of a list -/
theorem exec_pre {cs : List (Nat × CS)} {l2 : List Oper} (hT : TabOK P T) (hall : ops = all.toArray) : ∀ (l : List Oper) (i : Nat) (s : St) (a : Act) (w : World), Fits C s a w → (∀ X, ∃ r, exec std T cs X all (number i l) s = some r ∧ AllOb P r.2.1) →
    (∀ X r a' w', exec std T cs X all (number i l) s = some r → Fits C r.1 a' w' → wpList P ops Q l2 a' w') → wpList P ops Q (l ++ l2) a w
  | [], i, s, a, w, h, hs, hQ => hQ (fun _ => ⟨0, fun _ => none, fun _ => 0, fun _ => .empty⟩) _ a w rfl h
  | o :: l, i, s, a, w, h, hs, hQ => by
    refine wpList_step fun K hK => ?_
    refine delta_ok (cs := cs) (i := i) hT hall h (fun x => ?_) fun x r a' w' hr hf => hK _ _ ?_
    · obtain ⟨r, hr, hob⟩ := hs (fun _ => x)
      obtain ⟨δ, ob, f, r', h1, h2, rfl⟩ := exec_cons hr
      exact ⟨_, h1, (AllOb.app.1 hob).1⟩
    · have put : ∀ X : Nat → Atom, ∃ Y : Nat → Atom, Y i = x ∧ ∀ j, i + 1 ≤ j → Y j = X j := fun X => ⟨fun j => if j = i then x else X j, by simp, fun j hj => by simp only; rw [if_neg (by omega)]⟩
      refine exec_pre (cs := cs) hT hall l (i + 1) (s.app r.1) a' w' hf (fun X => ?_) fun X r' a'' w'' hr' hf' => ?_
      · obtain ⟨Y, hY, hYX⟩ := put X
        obtain ⟨r1, h1, hob⟩ := hs Y
        obtain ⟨δ, ob, f, r2, h2, h3, rfl⟩ := exec_cons h1
        rw [hY, hr] at h2; injection h2 with h2; subst h2
        rw [exec_congr _ _ (fun x hx => hYX x.1 (number_lt x hx))] at h3
        exact ⟨r2, h3, (AllOb.app.1 hob).2⟩
      · obtain ⟨Y, hY, hYX⟩ := put X
        obtain ⟨r1, h1, hob⟩ := hs Y
        have h1' := h1
        obtain ⟨δ, ob, f, r2, h2, h3, rfl⟩ := exec_cons h1
        rw [hY, hr] at h2; injection h2 with h2; subst h2
        rw [exec_congr _ _ (fun x hx => hYX x.1 (number_lt x hx)), hr'] at h3; injection h3 with h3; subst h3
        exact hQ Y _ a'' w'' h1' hf'
/-- the first n operations of what is left of a region (from operation i on) -/
theorem list_pre {s : St} {a : Act} {w : World} {L : List Oper} (i n : Nat) (hT : TabOK P T) (kp km : List Nat) (cs : List (Nat × CS)) (h : Fits C s a w) {R : Alg → (Nat → Atom) → St × List Ob}
    (hex : ∀ A X, (exec A T cs X all (number i (L.take n)) s).map (fun r => (r.1.keep kp km, r.2.1)) = some (R A X)) (hob : ∀ X, AllOb P (R std X).2) (hQ : ∀ X a' w', Fits C (R std X).1 a' w' → wpList P all.toArray Q (L.drop n) a' w') : wpList P all.toArray Q L a w := by
  have e : L = L.take n ++ L.drop n := (List.take_append_drop n L).symm
  rw [e]
  refine exec_pre (cs := cs) hT rfl (L.take n) i s a w h (fun X => ?_) fun X r a' w' hr hf => ?_
  · obtain ⟨r, hr, e⟩ := Option.map_eq_some_iff.1 (hex std X)
    refine ⟨r, hr, ?_⟩
    have := hob X
    rw [← e] at this
    exact this
  · have e := hex std X
    rw [hr] at e
    injection e with e
    refine hQ X a' w' ?_
    rw [← e]
    exact hf.keep kp km
/-- the rest of a region (from operation i on) -/
theorem list_end {s : St} {a : Act} {w : World} {L : List Oper} (i : Nat) (hT : TabOK P T) (kp km : List Nat) (cs : List (Nat × CS)) (h : Fits C s a w) {R : Alg → (Nat → Atom) → St × List Ob}
    (hex : ∀ A X, (exec A T cs X all (number i L) s).map (fun r => (r.1.keep kp km, r.2.1)) = some (R A X)) (hob : ∀ X, AllOb P (R std X).2) (hQ : ∀ X a' w', Fits C (R std X).1 a' w' → Q .normal a' w') : wpList P all.toArray Q L a w := by
  refine exec_ok (cs := cs) hT rfl L i s a w h (fun X => ?_) fun X r a' w' hr hf => ?_
  · obtain ⟨r, hr, e⟩ := Option.map_eq_some_iff.1 (hex std X)
    refine ⟨r, hr, ?_⟩
    have := hob X
    rw [← e] at this
    exact this
  · have e := hex std X
    rw [hr] at e
    injection e with e
    refine hQ X a' w' ?_
    rw [← e]
    exact hf.keep kp km
/-- an operation by hand -/
theorem man_op {a : Act} {w : World} {L rest : List Oper} {o : Oper} (hL : L = o :: rest) (hg : o.guard = none) (h : o.wp P a w (wpList P ops Q rest) Q) : wpList P ops Q L a w := by
  subst hL
  unfold wpList
  have : Region.wanted o (yielded ops a.tmps) = true := by simp [Region.wanted, hg]
  rw [if_pos this]
  exact .inl h
end
/-! ### contracts: what a function gives, or throws, and what it does to its caller's blocks -/
inductive Out where
  | ret (r : CR)
  | thr (v : Value) (sets : List (Nat × List AV))
def OPost1 (m : Nat → Nat → Prop) (w : World) (pre : List (Nat × Blk)) (e : Ending) (w' : World) : Out → Prop
  | .ret r => e = .returned r.v.den ∧ Ok (mN m r.news) w' r.v ∧ Left m w w' pre r.sets r.news
  | .thr v sets => e = .panicked [{ v, recovered := false }] ∧ Left m w w' pre sets []
def OPost (m : Nat → Nat → Prop) (w : World) (pre : List (Nat × Blk)) (out : Atom → Out) (e : Ending) (w' : World) : Prop := ∃ x, OPost1 m w pre e w' (out x)
def SpecO (P : Program) (f : FuncId) (args : List AV) (pre : List (Nat × Blk)) (out : Atom → Out) : Prop :=
  ∀ (m : Nat → Nat → Prop) (w : World), (∀ b o, m b o → b < w.heap.size) → (∀ v ∈ args, Ok m w v) → PreOk m w pre → Calls P f (args.map AV.den).toArray w (OPost m w pre out)
theorem SpecO.x {P : Program} {f : FuncId} {args : List AV} {pre : List (Nat × Blk)} {out : Atom → Out} {res : Atom → CR} (h : SpecO P f args pre out) (e : ∀ x, out x = .ret (res x)) : SpecX P f args pre res := by
  intro m w h1 h2 h3
  refine (h m w h1 h2 h3).mono ?_
  rintro e' w' ⟨x, hx⟩
  rw [e x] at hx
  exact ⟨x, hx⟩
theorem SpecX.o {P : Program} {f : FuncId} {args : List AV} {pre : List (Nat × Blk)} {out : Atom → Out} {res : Atom → CR} (h : SpecX P f args pre res) (e : ∀ x, out x = .ret (res x)) : SpecO P f args pre out := by
  intro m w h1 h2 h3
  refine (h m w h1 h2 h3).mono ?_
  rintro e' w' ⟨x, hx⟩
  exact ⟨x, by rw [e x]; exact hx⟩
theorem SpecO.res {P : Program} {f : FuncId} {args : List AV} {pre : List (Nat × Blk)} {out out' : Atom → Out} (h : SpecO P f args pre out) (e : ∀ x, out x = out' x) : SpecO P f args pre out' := by
  have : out = out' := funext e
  exact this ▸ h
def pureR (f : Atom → AV) : Atom → CR := fun x => ⟨f x, [], []⟩
theorem Spec.x {P : Program} {f : FuncId} {args : List AV} {res : Atom → AV} (h : Spec P f args res) : SpecX P f args [] (pureR res) := by
  intro m w h1 h2 _
  refine (h m w h1 h2).mono ?_
  rintro e' w' ⟨x, rfl, hok, hb⟩
  refine ⟨x, rfl, hok.mono fun b o u h1 h2 => ⟨h1, fun h => ?_⟩, ⟨rfl, fun e he => (by cases he), fun e he => (by cases he), fun e he => (by cases he), .nil, Chg.of_new hb⟩⟩
  rcases h with h | ⟨e, he, _⟩
  · exact h2 h
  · cases he
theorem SpecX.pure {P : Program} {f : FuncId} {args : List AV} {res : Atom → CR} {res' : Atom → AV} (h : SpecX P f args [] res) (e : ∀ x, res x = ⟨res' x, [], []⟩) : Spec P f args res' := by
  intro m w h1 h2
  refine (h m w h1 h2 ⟨fun e he => (by cases he), fun e he => (by cases he), fun e he => (by cases he), .nil⟩).mono ?_
  rintro e' w' ⟨x, rfl, hok, hl⟩
  rw [e x] at hok hl ⊢
  refine ⟨x, rfl, hok.mono fun b o u h1 h2 => ⟨h1, fun h => h2 (.inl h)⟩, hl.chg.below (Nat.le_refl _) fun k ⟨e, he, _⟩ => (by cases he)⟩
section
variable {P : Program}
theorem enterFits {m : Nat → Nat → Prop} {w : World} {pre : List (Nat × Blk)} (hm : ∀ b o, m b o → b < w.heap.size) (hp : PreOk m w pre) {args : List AV} (hargs : ∀ v ∈ args, Ok m w v) {n : Nat} (hn : args.length ≤ n) :
    Fits ⟨m, w, ats pre, []⟩ ⟨n, startT 0 args, [], pre, []⟩ { tmps := (args.map AV.den).toArray ++ Array.replicate (n - args.length) Go.undef, defers := [] } w := by
  have mono : ∀ v, Ok m w v → Ok (St.m ⟨n, startT 0 args, [], pre, []⟩ ⟨m, w, ats pre, []⟩) w v := fun v hv => hv.mono fun b' o u h1 h2 => ⟨h1, fun h => by
    rcases h with h | ⟨k, e, he, hat⟩ | ⟨k, e, he, _⟩
    · exact h2 h
    · exact h2 (hat ▸ hp.free _ (lookM_mem he) o)
    · cases he⟩
  have h0 := start_ok hm hargs hn
  refine ⟨h0.size, rfl, fun t ht => ?_, (fun t p v he => by cases he), fun k e he => ?_, fun k k' e e' he he' hne => pairwise_ne hp.dist (lookM_mem he) (lookM_mem he') hne, (fun k t ht => by cases ht), (fun k t k' e ht => by cases ht), (fun k t k' t' b ht => by cases ht), Chg.refl _ _, hm⟩
  · obtain ⟨h1, h2⟩ := h0.slot t ht
    exact ⟨h1, mono _ (h2.mono fun b' o u g1 g2 => ⟨g1, fun hm' => g2 (.inl hm')⟩)⟩
  · have hin := lookM_mem he
    exact ⟨hp.heap _ hin, fun v hv => ⟨(hp.ok _ hin v hv).1, mono _ (hp.ok _ hin v hv).2⟩, .inr ⟨_, hin, rfl⟩⟩
theorem enterX {m : Nat → Nat → Prop} {w : World} {pre : List (Nat × Blk)} (hm : ∀ b o, m b o → b < w.heap.size) (hp : PreOk m w pre) {args : List AV} (hargs : ∀ v ∈ args, Ok m w v) {f : FuncId} {fn : Func} {c : Code} {R : Ending → World → Prop} (hf : P.funcs[f]? = some fn) (hbd : fn.body = some c) (hn : args.length ≤ fn.ntmps)
    (h : ∀ a, Fits ⟨m, w, ats pre, []⟩ ⟨fn.ntmps, startT 0 args, [], pre, []⟩ a w → c.wp P (bodyPost P fn R) a w) : Calls P f (args.map AV.den).toArray w R := by
  refine calls_of_wp hf hbd ?_
  have := h _ (enterFits hm hp hargs hn)
  simpa using this
theorem enterD {m : Nat → Nat → Prop} {w : World} {pre : List (Nat × Blk)} (hm : ∀ b o, m b o → b < w.heap.size) (hp : PreOk m w pre) {args : List AV} (hargs : ∀ v ∈ args, Ok m w v) {f : FuncId} {fn : Func} {c : Code} {R : Ending → World → Prop} (hf : P.funcs[f]? = some fn) (hbd : fn.body = some c) (hn : args.length ≤ fn.ntmps)
    (h : ∀ a, Fits ⟨m, w, ats pre, []⟩ ⟨fn.ntmps, startT 0 args, [], pre, []⟩ a w → c.wp P (bodyPostD P fn R) a w) : Calls P f (args.map AV.den).toArray w R := by
  refine calls_of_wp_defers hf hbd ?_
  have := h _ (enterFits hm hp hargs hn)
  simpa using this
/-- the blocks that a caller lent hold this now -/
def SetsOk (s : St) : List (Nat × Blk) → List (Nat × List AV) → Prop
  | [], [] => True
  | (k, b) :: l, (k', c) :: r => k' = k ∧ (∃ cells, lookM s.mem k = some ⟨b.at_, b.ty, cells⟩ ∧ SimL cells c) ∧ SetsOk s l r
  | _, _ => False
/-- new blocks hold this -/
def NewsOk (s : St) (pre : List (Nat × Blk)) : List Nat → List (Nat × Blk) → Prop
  | [], [] => True
  | k :: ks, (_, b) :: l => (∃ cells, lookM s.mem k = some ⟨b.at_, b.ty, cells⟩ ∧ SimL cells b.cells) ∧ (∀ e ∈ pre, e.1 ≠ k) ∧ k ∉ ks ∧ NewsOk s pre ks l
  | _, _ => False
theorem SetsOk.keys {s : St} : ∀ {pre : List (Nat × Blk)} {sets : List (Nat × List AV)}, SetsOk s pre sets → sets.map (·.1) = pre.map (·.1)
  | [], [], _ => rfl
  | (k, b) :: l, (k', c) :: r, h => by simp only [List.map_cons, h.1, SetsOk.keys h.2.2]
  | [], _ :: _, h => h.elim
  | _ :: _, [], h => h.elim
theorem SetsOk.mem {s : St} : ∀ {pre : List (Nat × Blk)} {sets : List (Nat × List AV)}, SetsOk s pre sets → ∀ e ∈ upd pre sets, ∃ cells, lookM s.mem e.1 = some ⟨e.2.at_, e.2.ty, cells⟩ ∧ SimL cells e.2.cells
  | [], [], _, e, he => by cases he
  | (k, b) :: l, (k', c) :: r, h, e, he => by
    simp only [upd, List.mem_cons] at he
    rcases he with rfl | he
    · exact h.2.1
    · exact SetsOk.mem h.2.2 e he
  | [], _ :: _, h, _, _ => h.elim
  | _ :: _, [], h, _, _ => h.elim
theorem SetsOk.all {s : St} : ∀ {pre : List (Nat × Blk)} {sets : List (Nat × List AV)}, SetsOk s pre sets → ∀ e ∈ pre, ∃ cells, lookM s.mem e.1 = some ⟨e.2.at_, e.2.ty, cells⟩
  | [], [], _, e, he => by cases he
  | (k, b) :: l, (k', c) :: r, h, e, he => by
    rcases List.mem_cons.1 he with rfl | he
    · obtain ⟨cells, h1, _⟩ := h.2.1; exact ⟨cells, h1⟩
    · exact SetsOk.all h.2.2 e he
  | [], _ :: _, h, _, _ => h.elim
  | _ :: _, [], h, _, _ => h.elim
theorem NewsOk.mem {s : St} {pre : List (Nat × Blk)} : ∀ {ks : List Nat} {news : List (Nat × Blk)}, NewsOk s pre ks news → ∀ e ∈ news, ∃ k cells, k ∈ ks ∧ lookM s.mem k = some ⟨e.2.at_, e.2.ty, cells⟩ ∧ SimL cells e.2.cells ∧ ∀ e ∈ pre, e.1 ≠ k
  | [], [], _, e, he => by cases he
  | k :: ks, (_, b) :: l, h, e, he => by
    rcases List.mem_cons.1 he with rfl | he
    · obtain ⟨cells, h1, h2⟩ := h.1; exact ⟨k, cells, by simp, h1, h2, h.2.1⟩
    · obtain ⟨k', cells, h0, h1⟩ := NewsOk.mem h.2.2.2 e he
      exact ⟨k', cells, List.mem_cons_of_mem _ h0, h1⟩
  | [], _ :: _, h, _, _ => h.elim
  | _ :: _, [], h, _, _ => h.elim
theorem NewsOk.dist {s : St} {C : Cx} {a : Act} {w : World} (hF : Fits C s a w) {pre : List (Nat × Blk)} : ∀ {ks : List Nat} {news : List (Nat × Blk)}, NewsOk s pre ks news → news.Pairwise fun e f => e.2.at_ ≠ f.2.at_
  | [], [], _ => .nil
  | k :: ks, (_, b) :: l, h => by
    refine .cons (fun e he => ?_) (NewsOk.dist hF h.2.2.2)
    obtain ⟨k', cells, h0, h1, _⟩ := NewsOk.mem h.2.2.2 e he
    obtain ⟨cells', h2, _⟩ := h.1
    have := hF.nodup k k' _ _ h2 h1 fun e => h.2.2.1 (e ▸ h0)
    exact this
  | [], _ :: _, h => h.elim
  | _ :: _, [], h => h.elim
theorem SimL.map : ∀ {l l' : List AV}, SimL l l' → l.map AV.den = l'.map AV.den
  | [], [], _ => rfl
  | v :: l, v' :: l', h => by simp only [List.map_cons, h.1.1, SimL.map h.2]
  | [], _ :: _, h => h.elim
  | _ :: _, [], h => h.elim
theorem left_ok {m : Nat → Nat → Prop} {w0 w : World} {pre : List (Nat × Blk)} {d : List Deferred} {s : St} {a : Act} (h : Fits ⟨m, w0, ats pre, d⟩ s a w) {sets : List (Nat × List AV)} {news : List (Nat × Blk)} {ks : List Nat} (hs : SetsOk s pre sets) (hn : NewsOk s pre ks news) :
    Left m w0 w pre sets news ∧ ∀ v, Ok (s.m ⟨m, w0, ats pre, d⟩) w v → Ok (mN m news) w v := by
  have sub : ∀ v, Ok (s.m ⟨m, w0, ats pre, d⟩) w v → Ok (mN m news) w v := fun v hv => hv.mono fun b' o u h1 h2 => ⟨h1, fun hm => by
    rcases hm with hm | ⟨e, he, hat⟩
    · exact h2 (.inl hm)
    · obtain ⟨k, cells, _, hk, _⟩ := hn.mem e he
      exact h2 (.inr (.inl ⟨k, _, hk, hat⟩))⟩
  have key : ∀ e ∈ upd pre sets ++ news, ∃ k cells, lookM s.mem k = some ⟨e.2.at_, e.2.ty, cells⟩ ∧ SimL cells e.2.cells := by
    intro e he
    rcases List.mem_append.1 he with he | he
    · obtain ⟨cells, h1, h2⟩ := hs.mem e he; exact ⟨_, cells, h1, h2⟩
    · obtain ⟨k, cells, _, h1, h2, _⟩ := hn.mem e he; exact ⟨k, cells, h1, h2⟩
  refine ⟨⟨hs.keys, fun e he => ?_, fun e he v hv => ?_, fun e he => ?_, hn.dist h, h.chg⟩, sub⟩
  · obtain ⟨k, cells, h1, h2⟩ := key e he
    have := (h.mem _ _ h1).1
    simp only at this
    rw [h2.map] at this
    exact this
  · obtain ⟨k, cells, h1, h2⟩ := key e he
    have h3 := (h.mem _ _ h1).2.1
    exact ⟨h2.one (fun v hv => (h3 v hv).1) v hv, h2.ok (fun v hv => sub v (h3 v hv).2) v hv⟩
  · obtain ⟨k, cells, _, h1, _, h2⟩ := hn.mem e he
    rcases (h.mem _ _ h1).2.2 with h3 | ⟨e', he', hat⟩
    · exact h3
    · obtain ⟨cells', h4⟩ := hs.all e' he'
      have := h.nodup _ _ _ _ h4 h1 (h2 e' he')
      exact absurd hat this
variable {T : List (Nat × TI)} {s : St} {a : Act} {w : World}
theorem ret_out (hT : TabOK P T) {m : Nat → Nat → Prop} {w0 : World} {pre : List (Nat × Blk)} (h : Fits ⟨m, w0, ats pre, []⟩ s a w) {fn : Func} {out : Atom → Out} {rs : List ResultVar} (hfn : fn.results = rs.toArray) {r : List AV × List Ob} (hr : resL T s rs = some r) (ho : AllOb P r.2)
    (x : Atom) {cr : CR} (hout : out x = .ret cr) (ks : List Nat) (he : Sim (can (resA r.1)) (can cr.v)) (hs : SetsOk s pre cr.sets) (hn : NewsOk s pre ks cr.news) : bodyPost P fn (OPost m w0 pre out) .ret a w ∧ bodyPost P fn (OPost m w0 pre out) .normal a w := by
  obtain ⟨h1, h2⟩ := left_ok h hs hn
  refine ret_ok hT h rfl hfn hr ho fun hv => ⟨x, ?_⟩
  rw [hout]
  exact ⟨by rw [← can_den (resA r.1), he.1, can_den], (can_ok _).2 (he.2.2 _ _ ((can_ok _).1 (h2 _ hv))), h1⟩
theorem thr_out {m : Nat → Nat → Prop} {w0 : World} {pre : List (Nat × Blk)} (h : Fits ⟨m, w0, ats pre, []⟩ s a w) {fn : Func} {out : Atom → Out} {v : Value} (x : Atom) {sets : List (Nat × List AV)} (hout : out x = .thr v sets) (hs : SetsOk s pre sets) :
    bodyPost P fn (OPost m w0 pre out) (.panic [{ v, recovered := false }]) a w := by
  obtain ⟨h1, h2⟩ := left_ok h hs (ks := []) (news := []) trivial
  refine ⟨h.defers, x, ?_⟩
  rw [hout]
  exact ⟨rfl, h1⟩
theorem ret_x (hT : TabOK P T) {m : Nat → Nat → Prop} {w0 : World} {pre : List (Nat × Blk)} (h : Fits ⟨m, w0, ats pre, []⟩ s a w) {fn : Func} {res : Atom → CR} {rs : List ResultVar} (hfn : fn.results = rs.toArray) {r : List AV × List Ob} (hr : resL T s rs = some r) (ho : AllOb P r.2)
    (x : Atom) (ks : List Nat) (he : Sim (can (resA r.1)) (can (res x).v)) (hs : SetsOk s pre (res x).sets) (hn : NewsOk s pre ks (res x).news) : bodyPost P fn (XPost m w0 pre res) .ret a w ∧ bodyPost P fn (XPost m w0 pre res) .normal a w :=
  ret_out (out := fun x => .ret (res x)) hT h hfn hr ho x rfl ks he hs hn
end
section
variable {C : Cx} {P : Program} {Q : Exit → Act → World → Prop} {T : List (Nat × TI)} {ops : Array Oper} {all : List Oper}
theorem call_run {s : St} {a : Act} {w : World} {o : Oper} {c : Call} {g : Operand} {f : FuncId} {l r args : List AV} (hop : o.op = .call c) (hcal : c.callee = .value g) (h : Fits C s a w) (hgv : val s [] g = .fn f l r) (hl : vals s [] c.args.toList = some args) (hen : Enters P f) :
    (execOp a.eval o).run P w = .ok (.enter f ((l ++ args ++ r).map AV.den).toArray) w ∧ ∀ v ∈ l ++ args ++ r, Ok (s.m C) w v := by
  obtain ⟨h1, h2⟩ := vals_ok h (fun _ h => by cases h) hl
  have hg := val_ok h (q := []) (fun _ h => by cases h) (x := g) (by rw [hgv]; rfl)
  rw [hgv] at hg
  have hargs : c.args.map a.eval = (args.map AV.den).toArray := by
    apply Array.ext'
    simpa using h1
  have e1 : a.eval g = .func (.func f) (l.map AV.den).toArray (r.map AV.den).toArray := by
    have := hg.1
    simpa [AV.den, denL_map] using this
  have hent' := hen ((l ++ args ++ r).map AV.den).toArray w
  refine ⟨?_, fun v hv => ?_⟩
  · simp only [List.map_append] at hent'
    simp [execOp, hop, resolve, hcal, e1, Deferred.ofValue, invoke, hargs, List.append_assoc]
    simpa [List.append_assoc] using hent'
  · cases hg.2 with
    | fn _ _ _ k1 k2 =>
      rcases List.mem_append.1 hv with hv | hv
      · rcases List.mem_append.1 hv with hv | hv
        · exact k1 v hv
        · exact h2 v hv
      · exact k2 v hv
/-- a call by hand, whatever comes of it -/
theorem man_out {s : St} {a : Act} {w : World} {L rest : List Oper} {o : Oper} {c : Call} {g : Operand} {f : FuncId} {l r args args' : List AV} (hL : L = o :: rest) (hg : o.guard = none) (hop : o.op = .call c) (hcal : c.callee = .value g) (h : Fits C s a w) (hgv : val s [] g = .fn f l r) (hl : vals s [] c.args.toList = some args) (hen : Enters P f)
    {pre : List (Nat × Blk)} {out : Atom → Out} (hsp : SpecO P f args' pre out) (hsim : SimL (l ++ args ++ r) args') (hpre : ∀ e ∈ pre, lookM s.mem e.1 = some e.2) (hnd : nodupB pre = true) (hd : inNt s o.dst = true)
    (K : ∀ x w', match out x with
      | .ret cr => ∀ a', Fits C ((s.eff (.sets (upd pre cr.sets ++ cr.news))).put o.dst cr.v) a' w' → wpList P ops Q rest a' w'
      | .thr v sets => Fits C (s.eff (.sets (upd pre sets))) a w' → Q (.panic [{ v, recovered := false }]) a w') : wpList P ops Q L a w := by
  refine man_op hL hg ?_
  obtain ⟨hrun, hok⟩ := call_run hop hcal h hgv hl hen
  have hdist := nodup_dist h hnd hpre
  unfold Oper.wp
  rw [hrun]
  simp only [Oper.upon]
  have := hsp (s.m C) w (m_lt h) (hsim.ok hok) ⟨fun e he => (h.mem _ _ (hpre e he)).1, fun e he => (h.mem _ _ (hpre e he)).2.1, fun e he o => .inr (.inl ⟨e.1, e.2, hpre e he, rfl⟩), hdist⟩
  rw [← hsim.map] at this
  refine this.mono ?_
  rintro e w' ⟨x, hx⟩
  have hK := K x w'
  cases ho : out x with
  | ret cr =>
    rw [ho] at hx hK
    obtain ⟨rfl, g1, g2⟩ := hx
    obtain ⟨f1, f2⟩ := h.called hdist hpre g2
    refine hK _ (f1.put o.dst (fun t ht => ?_) cr.v (fun _ => f2 _ g1) _ fun _ => rfl)
    rw [eff_nt]; exact inNt_lt hd t ht
  | thr v sets =>
    rw [ho] at hx hK
    obtain ⟨rfl, g2⟩ := hx
    have f1 := (h.called hdist hpre g2).1
    rw [List.append_nil] at f1
    exact hK f1
/-- panic(x) -/
theorem man_panic {s : St} {a : Act} {w : World} {L rest : List Oper} {o : Oper} {x : Operand} {t : Nat} {v : AV} (hL : L = o :: rest) (hg : o.guard = none) (hop : o.op = .panic x) (h : Fits C s a w) (hx : val s [] x = .ifc t v) (hQ : Q (.panic [{ v := .iface t v.den, recovered := false }]) a w) : wpList P ops Q L a w := by
  refine man_op hL hg ?_
  have hxv := (val_ok h (q := []) (fun _ h => by cases h) (x := x) (by rw [hx]; rfl)).1
  rw [hx] at hxv
  have e1 : a.eval x = .iface t v.den := hxv
  have hrun : (execOp a.eval o).run P w = .halt (.panic (.iface t v.den)) w := by
    simp only [execOp, hop, e1, Instr.panic, Sem.run_bind]
    rfl
  unfold Oper.wp
  rw [hrun]
  exact hQ
/-- defer f(..) -/
theorem man_defer {s : St} {a : Act} {w : World} {L rest : List Oper} {o : Oper} {c : Call} {g : Operand} {f : FuncId} {l r args : List AV} (hL : L = o :: rest) (hg : o.guard = none) (hd : o.dst = none) (hop : o.op = .defer c) (hcal : c.callee = .value g) (h : Fits C s a w) (hgv : val s [] g = .fn f l r) (hl : vals s [] c.args.toList = some args)
    (K : ∀ a', Fits ⟨C.m0, C.w0, C.S, { target := .fn (.func f) (AV.denL r).toArray, args := (AV.denL (l ++ args)).toArray } :: C.ds⟩ s a' w → wpList P ops Q rest a' w) : wpList P ops Q L a w := by
  refine man_op hL hg ?_
  obtain ⟨h1, h2⟩ := vals_ok h (fun _ h => by cases h) hl
  have hgo := val_ok h (q := []) (fun _ h => by cases h) (x := g) (by rw [hgv]; rfl)
  rw [hgv] at hgo
  have hargs : c.args.map a.eval = (args.map AV.den).toArray := by
    apply Array.ext'
    simpa using h1
  have e1 : a.eval g = .func (.func f) (l.map AV.den).toArray (r.map AV.den).toArray := by
    have := hgo.1
    simpa [AV.den, denL_map] using this
  have hrun : (execOp a.eval o).run P w = .ok (.defer { target := .fn (.func f) (AV.denL r).toArray, args := (AV.denL (l ++ args)).toArray }) w := by
    simp [execOp, hop, resolve, hcal, e1, Deferred.ofValue, hargs, denL_map]
  unfold Oper.wp
  rw [hrun]
  simp only [Oper.upon, hd, Act.put]
  refine K _ ⟨h.size, ?_, h.slot, h.gs, h.mem, h.nodup, h.gr, h.sepm, h.sepg, h.chg, h.m0⟩
  simp only [h.defers]
/-- a deferred call is carried out -/
theorem leave_step {s : St} {a : Act} {w : World} {fn : Func} {R : Ending → World → Prop} {u u1 : FrameMode} {f : FuncId} {l r : List AV} {ds : List Deferred} (h : Fits ⟨C.m0, C.w0, C.S, { target := .fn (.func f) (AV.denL r).toArray, args := (AV.denL l).toArray } :: ds⟩ s a w) (hu : u ≠ .run) (hen : Enters P f)
    {pre : List (Nat × Blk)} {sets : List (Nat × List AV)} (hpre : ∀ e ∈ pre, lookM s.mem e.1 = some e.2) (hnd : nodupB pre = true)
    (hc : PreOk (s.m C) w pre → CallsD P f ((l ++ r).map AV.den).toArray u w fun e u' w' => (∃ v, e = .returned v) ∧ u' = u1 ∧ Left (s.m C) w w' pre sets [])
    (K : ∀ w', Fits ⟨C.m0, C.w0, C.S, ds⟩ (s.eff (.sets (upd pre sets))) { tmps := a.tmps, defers := ds } w' → Leaves P fn a.tmps R ds (settle u1) w') : Leaves P fn a.tmps R a.defers u w := by
  rw [h.defers]
  have h0 : Fits ⟨C.m0, C.w0, C.S, ds⟩ s { tmps := a.tmps, defers := ds } w := ⟨h.size, rfl, h.slot, h.gs, h.mem, h.nodup, h.gr, h.sepm, h.sepg, h.chg, h.m0⟩
  have hdist := nodup_dist h hnd hpre
  have hent := hen ((l ++ r).map AV.den).toArray w
  refine leaves_cons hu (f := f) (args := ((l ++ r).map AV.den).toArray) (by simpa [invoke, denL_map] using hent) ?_
  refine (hc ⟨fun e he => (h.mem _ _ (hpre e he)).1, fun e he => (h.mem _ _ (hpre e he)).2.1, fun e he o => .inr (.inl ⟨e.1, e.2, hpre e he, rfl⟩), hdist⟩).mono ?_
  rintro e u' w' ⟨⟨v, rfl⟩, rfl, hl⟩
  have f1 := (h0.called hdist hpre hl).1
  rw [List.append_nil] at f1
  exact K w' f1
/-- the end of a call that had deferred ones -/
theorem leave_end {s : St} {a : Act} {w : World} {m : Nat → Nat → Prop} {w0 : World} {pre : List (Nat × Blk)} (hT : TabOK P T) (h : Fits ⟨m, w0, ats pre, []⟩ s a w) {fn : Func} {out : Atom → Out} {rs : List ResultVar} (hfn : fn.results = rs.toArray) {r : List AV × List Ob} (hr : resL T s rs = some r) (ho : AllOb P r.2)
    (x : Atom) {cr : CR} (hout : out x = .ret cr) (ks : List Nat) (he : Sim (can (resA r.1)) (can cr.v)) (hs : SetsOk s pre cr.sets) (hn : NewsOk s pre ks cr.news) : Leaves P fn a.tmps (OPost m w0 pre out) [] .returning w := by
  obtain ⟨h1, h2⟩ := left_ok h hs hn
  obtain ⟨g1, g2⟩ := results_ok hT h hfn hr ho
  refine ⟨_, g1, x, ?_⟩
  rw [hout]
  exact ⟨by rw [← can_den (resA r.1), he.1, can_den], (can_ok _).2 (he.2.2 _ _ ((can_ok _).1 (h2 _ g2))), h1⟩
/-- a return ahead of all defers -/
theorem ret_d {s : St} {a : Act} {w : World} {m : Nat → Nat → Prop} {w0 : World} {pre : List (Nat × Blk)} (hT : TabOK P T) (h : Fits ⟨m, w0, ats pre, []⟩ s a w) {fn : Func} {out : Atom → Out} {rs : List ResultVar} (hfn : fn.results = rs.toArray) {r : List AV × List Ob} (hr : resL T s rs = some r) (ho : AllOb P r.2)
    (x : Atom) {cr : CR} (hout : out x = .ret cr) (ks : List Nat) (he : Sim (can (resA r.1)) (can cr.v)) (hs : SetsOk s pre cr.sets) (hn : NewsOk s pre ks cr.news) : bodyPostD P fn (OPost m w0 pre out) .ret a w := by
  show Leaves P fn a.tmps (OPost m w0 pre out) a.defers .returning w
  rw [h.defers]
  exact leave_end hT h hfn hr ho x hout ks he hs hn
/-- a return, with one deferred call that does nothing -/
theorem ret_d1 {s : St} {a : Act} {w : World} {m : Nat → Nat → Prop} {w0 : World} {pre : List (Nat × Blk)} {f : FuncId} {l r0 : List AV} (hT : TabOK P T) (h : Fits ⟨m, w0, ats pre, [{ target := .fn (.func f) (AV.denL r0).toArray, args := (AV.denL l).toArray }]⟩ s a w) (hen : Enters P f)
    (hc : ∀ w, CallsD P f ((l ++ r0).map AV.den).toArray .returning w fun e u' w' => e = .returned (.tuple #[]) ∧ u' = .returning ∧ w' = w)
    {fn : Func} {out : Atom → Out} {rs : List ResultVar} (hfn : fn.results = rs.toArray) {r : List AV × List Ob} (hr : resL T s rs = some r) (ho : AllOb P r.2)
    (x : Atom) {cr : CR} (hout : out x = .ret cr) (ks : List Nat) (he : Sim (can (resA r.1)) (can cr.v)) (hs : SetsOk s pre cr.sets) (hn : NewsOk s pre ks cr.news) : bodyPostD P fn (OPost m w0 pre out) .ret a w := by
  show Leaves P fn a.tmps (OPost m w0 pre out) a.defers .returning w
  refine leave_step (C := ⟨m, w0, ats pre, []⟩) (u1 := .returning) (pre := []) (sets := []) h (by simp) hen (by intro e he; cases he) rfl (fun _ => (hc w).mono ?_) fun w' hF => ?_
  · rintro e u' w' ⟨rfl, rfl, rfl⟩
    exact ⟨⟨_, rfl⟩, rfl, ⟨rfl, fun e he => (by cases he), fun e he => (by cases he), fun e he => (by cases he), .nil, Chg.refl _ _⟩⟩
  · have hF' : Fits ⟨m, w0, ats pre, []⟩ s { tmps := a.tmps, defers := [] } w' := hF
    exact leave_end hT hF' hfn hr ho x hout ks he hs hn
end
theorem Sim.ptr {k k' b off : Nat} : Sim (.ptr k b off) (.ptr k' b off) := ⟨rfl, fun _ => rfl, fun _ _ _ => .ptr _ _ _⟩
theorem Sim.fn {f : Nat} {l l' r r' : List AV} (h : SimL l l') (h' : SimL r r') : Sim (.fn f l r) (.fn f l' r') :=
  ⟨by simp only [AV.den, h.den, h'.den], fun _ => rfl, fun m w ho => by cases ho with | fn _ _ _ h1 h2 => exact .fn _ _ _ (h.ok h1) (h'.ok h2)⟩
theorem SimL.refl : ∀ l : List AV, SimL l l
  | [] => trivial
  | v :: l => ⟨Sim.refl v, SimL.refl l⟩
/-- other keys for the same blocks -/
theorem upd_snd : ∀ {pre pre' : List (Nat × Blk)} {r r' : List (Nat × List AV)}, pre'.map (·.2) = pre.map (·.2) → r'.map (·.2) = r.map (·.2) → (upd pre' r').map (·.2) = (upd pre r).map (·.2)
  | [], [], r, r', _, _ => by cases r <;> cases r' <;> rfl
  | [], _ :: _, _, _, h, _ => by cases h
  | _ :: _, [], _, _, h, _ => by cases h
  | _ :: _, _ :: _, [], [], _, _ => rfl
  | _ :: _, _ :: _, [], _ :: _, _, h => by cases h
  | _ :: _, _ :: _, _ :: _, [], _, h => by cases h
  | (k, b) :: l, (k', b') :: l', (q, c) :: r, (q', c') :: r', h, h' => by
    simp only [List.map_cons, List.cons.injEq] at h h'
    obtain ⟨rfl, h⟩ := h
    obtain ⟨rfl, h'⟩ := h'
    simp only [upd, List.map_cons, upd_snd h h']
theorem all_snd {l l' : List (Nat × Blk)} {p : Blk → Prop} (h : l'.map (·.2) = l.map (·.2)) (hp : ∀ e ∈ l, p e.2) : ∀ e ∈ l', p e.2 := by
  intro e he
  have : e.2 ∈ l.map (·.2) := by rw [← h]; exact List.mem_map.2 ⟨e, he, rfl⟩
  obtain ⟨e', h1, h2⟩ := List.mem_map.1 this
  rw [← h2]; exact hp e' h1
theorem pair_snd {l l' : List (Nat × Blk)} (h : l'.map (·.2) = l.map (·.2)) (hp : l.Pairwise fun e f => e.2.at_ ≠ f.2.at_) : l'.Pairwise fun e f => e.2.at_ ≠ f.2.at_ := by
  have e : ∀ l : List (Nat × Blk), (l.Pairwise fun e f => e.2.at_ ≠ f.2.at_) ↔ (l.map (·.2)).Pairwise fun b c => b.at_ ≠ c.at_ := fun l => by rw [List.pairwise_map]
  rw [e, h, ← e]; exact hp
theorem ats_snd {l l' : List (Nat × Blk)} (h : l'.map (·.2) = l.map (·.2)) (b : Nat) : ats l' b ↔ ats l b := by
  have e : ∀ l : List (Nat × Blk), ats l b ↔ ∃ x ∈ l.map (·.2), x.at_ = b := fun l => ⟨fun ⟨e, he, h⟩ => ⟨e.2, List.mem_map.2 ⟨e, he, rfl⟩, h⟩, fun ⟨x, hx, h⟩ => by obtain ⟨e, he, rfl⟩ := List.mem_map.1 hx; exact ⟨e, he, h⟩⟩
  rw [e, e, h]
theorem Left.re {m : Nat → Nat → Prop} {w w' : World} {pre pre' : List (Nat × Blk)} {sets sets' : List (Nat × List AV)} {news news' : List (Nat × Blk)} (h : Left m w w' pre sets news) (hp : pre'.map (·.2) = pre.map (·.2)) (hs : sets'.map (·.2) = sets.map (·.2)) (hk : sets'.map (·.1) = pre'.map (·.1)) (hn : news'.map (·.2) = news.map (·.2)) : Left m w w' pre' sets' news' := by
  have hm : mN m news' = mN m news := by funext b o; simp only [mN, ats_snd hn]
  have hu : (upd pre' sets' ++ news').map (·.2) = (upd pre sets ++ news).map (·.2) := by rw [List.map_append, List.map_append, upd_snd hp hs, hn]
  refine ⟨hk, all_snd (p := fun b => w'.heap[b.at_]? = some (.cells (b.cells.map AV.den).toArray b.ty (0, 0))) hu h.heap, all_snd (p := fun b => ∀ v ∈ b.cells, v.one = true ∧ Ok (mN m news') w' v) hu (hm ▸ h.ok), all_snd (p := fun b => w.heap.size ≤ b.at_) hn h.fresh, pair_snd hn h.dist, h.chg.mono fun k hk => (ats_snd hp k).2 hk⟩
theorem PreOk.re {m : Nat → Nat → Prop} {w : World} {pre pre' : List (Nat × Blk)} (h : PreOk m w pre) (hp : pre'.map (·.2) = pre.map (·.2)) : PreOk m w pre' :=
  ⟨all_snd (p := fun b => w.heap[b.at_]? = some (.cells (b.cells.map AV.den).toArray b.ty (0, 0))) hp h.heap, all_snd (p := fun b => ∀ v ∈ b.cells, v.one = true ∧ Ok m w v) hp h.ok, all_snd (p := fun b => ∀ o, m b.at_ o) hp h.free, pair_snd hp h.dist⟩
theorem SpecX.re {P : Program} {f : FuncId} {args args' : List AV} {pre pre' : List (Nat × Blk)} {res res' : Atom → CR} (h : SpecX P f args pre res) (ha : SimL args' args) (hp : pre'.map (·.2) = pre.map (·.2))
    (hr : ∀ x, (res' x).sets.map (·.2) = (res x).sets.map (·.2) ∧ (res' x).sets.map (·.1) = pre'.map (·.1) ∧ Sim (res x).v (res' x).v ∧ (res' x).news.map (·.2) = (res x).news.map (·.2)) : SpecX P f args' pre' res' := by
  intro m w h1 h2 h3
  rw [ha.map]
  refine (h m w h1 (ha.ok h2) (h3.re hp.symm)).mono ?_
  rintro e w' ⟨x, rfl, hok, hl⟩
  obtain ⟨r1, r2, r3, r4⟩ := hr x
  have hm : mN m (res' x).news = mN m (res x).news := by funext b o; simp only [mN, ats_snd r4]
  exact ⟨x, by rw [r3.1], by rw [hm]; exact r3.2.2 _ _ hok, hl.re hp r1 r2 r4⟩
def ReOut (pre' : List (Nat × Blk)) : Out → Out → Prop
  | .ret r, .ret r' => r'.sets.map (·.2) = r.sets.map (·.2) ∧ r'.sets.map (·.1) = pre'.map (·.1) ∧ Sim r.v r'.v ∧ r'.news.map (·.2) = r.news.map (·.2)
  | .thr v sets, .thr v' sets' => v' = v ∧ sets'.map (·.2) = sets.map (·.2) ∧ sets'.map (·.1) = pre'.map (·.1)
  | _, _ => False
theorem SpecO.re {P : Program} {f : FuncId} {args args' : List AV} {pre pre' : List (Nat × Blk)} {out out' : Atom → Out} (h : SpecO P f args pre out) (ha : SimL args' args) (hp : pre'.map (·.2) = pre.map (·.2)) (hr : ∀ x, ReOut pre' (out x) (out' x)) : SpecO P f args' pre' out' := by
  intro m w h1 h2 h3
  rw [ha.map]
  refine (h m w h1 (ha.ok h2) (h3.re hp.symm)).mono ?_
  rintro e w' ⟨x, hx⟩
  refine ⟨x, ?_⟩
  have hrx := hr x
  cases ho : out x with
  | ret r =>
    cases ho' : out' x with
    | ret r' =>
      rw [ho] at hx hrx
      rw [ho'] at hrx
      obtain ⟨r1, r2, r3, r4⟩ := hrx
      obtain ⟨rfl, hok, hl⟩ := hx
      have hm : mN m r'.news = mN m r.news := by funext b o; simp only [mN, ats_snd r4]
      exact ⟨by rw [r3.1], by rw [hm]; exact r3.2.2 _ _ hok, hl.re hp r1 r2 r4⟩
    | thr v sets => rw [ho, ho'] at hrx; exact hrx.elim
  | thr v sets =>
    cases ho' : out' x with
    | ret r' => rw [ho, ho'] at hrx; exact hrx.elim
    | thr v' sets' =>
      rw [ho] at hx hrx
      rw [ho'] at hrx
      obtain ⟨rfl, r1, r2⟩ := hrx
      obtain ⟨rfl, hl⟩ := hx
      exact ⟨rfl, hl.re hp r1 r2 rfl⟩
/-! ### the same with a free algebra, that cbv cannot lay open -/
section
variable {C : Cx} {P : Program} {Q : Exit → Act → World → Prop} {T : List (Nat × TI)} {s : St} {a : Act} {w : World}
theorem region_okB {id : Nat} {l : List Oper} {B : Alg} (hB : B = std) (hT : TabOK P T) (kp km : List Nat) (cs : List (Nat × CS)) (h : Fits C s a w) {R : Alg → (Nat → Atom) → St × List Ob}
    (hex : ∀ A X, (exec A T cs X l (number 0 l) s).map (fun r => (r.1.keep kp km, r.2.1)) = some (R A X)) (hob : ∀ X, AllOb P (R B X).2) (hQ : ∀ X a' w', Fits C (R B X).1 a' w' → Q .normal a' w') : (Code.region id l.toArray false).wp P Q a w := by
  subst hB
  exact region_ok hT kp km cs h hex hob hQ
theorem drawn_okB {id : Nat} {l : List Oper} {B : Alg} (hB : B = std) (hm : P.follows .mixedOrders = true) (hT : TabOK P T) (kp km : List Nat) (cs : List (Nat × CS)) (h : Fits C s a w) (hgs : s.gs = []) (fs : List Foot) (hD : drawB l fs = true) (hlen : l.length = fs.length)
    {R : Alg → (Nat → Atom) → St × List Ob}
    (hex : ∀ A X, (exec A T cs X l (number 0 l) s).map (fun r => ((r.1.keep kp km, r.2.1), r.2.2)) = some (R A X, fs)) (hob : ∀ X, AllOb P (R B X).2) (hQ : ∀ X a' w', Fits C (R B X).1 a' w' → Q .normal a' w') : (Code.region id l.toArray true).wp P Q a w := by
  subst hB
  exact drawn_ok hm hT kp km cs h hgs fs hD hlen hex hob hQ
theorem list_preB {all L : List Oper} (i n : Nat) {B : Alg} (hB : B = std) (hT : TabOK P T) (kp km : List Nat) (cs : List (Nat × CS)) (h : Fits C s a w) {R : Alg → (Nat → Atom) → St × List Ob}
    (hex : ∀ A X, (exec A T cs X all (number i (L.take n)) s).map (fun r => (r.1.keep kp km, r.2.1)) = some (R A X)) (hob : ∀ X, AllOb P (R B X).2) (hQ : ∀ X a' w', Fits C (R B X).1 a' w' → wpList P all.toArray Q (L.drop n) a' w') : wpList P all.toArray Q L a w := by
  subst hB
  exact list_pre i n hT kp km cs h hex hob hQ
theorem list_endB {all L : List Oper} (i : Nat) {B : Alg} (hB : B = std) (hT : TabOK P T) (kp km : List Nat) (cs : List (Nat × CS)) (h : Fits C s a w) {R : Alg → (Nat → Atom) → St × List Ob}
    (hex : ∀ A X, (exec A T cs X all (number i L) s).map (fun r => (r.1.keep kp km, r.2.1)) = some (R A X)) (hob : ∀ X, AllOb P (R B X).2) (hQ : ∀ X a' w', Fits C (R B X).1 a' w' → Q .normal a' w') : wpList P all.toArray Q L a w := by
  subst hB
  exact list_end i hT kp km cs h hex hob hQ
end
end Go.Proofs.Ytkamdppnnhjajaa.Sym
