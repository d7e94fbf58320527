/-
  PlPar, SymFz, SymAs, OpenS18, OpenG18, SymLab, SymLen, SymNum, SymRd, SymRRd, SymPlc, PlRd, SymGet8: put together by a program of mine (a claim may have 60 files at most). Conditions: none.
-/
import Derived.Test.YtkamdppnnhjajaaDoorProg
import Derived.WalkKit
import Derived.LaidEql
import Derived.Stop.Asserts
import Derived.RowKitTokens
import Derived.Test.YtkamdppnnhjajaaDoorChecked
import Derived.Test.YtkamdppnnhjajaaDoorRows
import Derived.LaidHandle
import Derived.LaidLaws
import Derived.Stop.Joined
import Derived.ChangeSame
import Derived.ChangeVars
import Derived.Test.YtkamdppnnhjajaaDoorMgP1
import Derived.Test.YtkamdppnnhjajaaDoorMgP2
namespace Go.Proofs.YtkamdppnnhjajaaDoor.Sym
open Go Go.RowKit
set_option linter.unusedVariables false
set_option linter.unusedSimpArgs false

def nB (v : Int) : List UInt8 := numL v.toNat
def flagB (b : Bool) : List UInt8 := nB (if b then 1 else 0)
def ansB (a : Ans) : List UInt8 := nB a.code ++ nB a.version ++ flagB a.has
def markB (m : Mark) : List UInt8 := nB m.client ++ nB m.req ++ ansB m.ans
def cellB (c : Cel) : List UInt8 := nB c.version ++ flagB c.has ++ textL (unB c.val) ++ nB c.marks.length ++ c.marks.flatMap markB
def whoB (o : Opr) : List UInt8 := nB o.client ++ nB o.req
def bodyB (p : Par) : List UInt8 :=
  if p.kind = 1 then p.key ++ (whoB p.op ++ nB p.op.kind ++ nB p.op.version ++ textL (unB p.op.val))
  else if p.kind = 2 then whoB p.op ++ ansB p.ans ++ textL (unB p.ans.val)
  else if p.kind = 3 then p.key ++ nB p.serial ++ cellB p.cell
  else nB p.serial
def putP (p : Par) : List UInt8 := nB p.kind ++ nB p.epoch ++ bodyB p
def putR (p : Par) : ByteArray × Int := if isP p then (mkB (putP p), 0) else (⟨#[]⟩, 1)
/-- what a machine word may hold -/
def MarkU (m : Mark) : Prop := U64 m.req ∧ U64 m.ans.version
structure ParU (p : Par) : Prop where
  key : p.key.length = 20
  epoch : U64 p.epoch
  req : U64 p.op.req
  over : U64 p.op.version
  aver : U64 p.ans.version
  serial : U64 p.serial
  cver : U64 p.cell.version
  marks : ∀ m ∈ p.cell.marks, MarkU m
/-- what a right parcel's words are -/
def okM (m : Mark) : Prop := U64 m.client ∧ U64 m.req ∧ U64 m.ans.code ∧ U64 m.ans.version
def okC (c : Cel) : Prop := U64 c.version ∧ c.val.size ≤ 4096 ∧ c.marks.length ≤ 1000000 ∧ ∀ m ∈ c.marks, okM m
theorem u64_small {v : Int} (h0 : 0 ≤ v) (h1 : v ≤ 1000) : U64 v := ⟨h0, by omega⟩
theorem okM_of {m : Mark} (hu : MarkU m) (h : markOk m) : okM m := by
  obtain ⟨h1, h2, h3, h4⟩ := h
  refine ⟨u64_small h1 (by omega), hu.1, ?_, hu.2⟩
  rcases h4 with h4 | h4 <;> rw [h4] <;> exact ⟨by decide, by decide⟩
theorem okC_of {c : Cel} (hv : U64 c.version) (hm : ∀ m ∈ c.marks, MarkU m) (hl : c.marks.length ≤ 1000000) (h : IsC c) : okC c :=
  ⟨hv, by have := h.2.1; omega, hl, fun m hmem => okM_of (hm m hmem) (h.1.2 m hmem)⟩
theorem nB_len {v : Int} (h : U64 v) : (nB v).length ≤ 9 := by
  have h2 : v.toNat < 2 ^ 64 := by have := h.1; have := h.2; omega
  have := len8_le h2
  unfold nB
  rw [numL_len]; omega
theorem flagB_len (b : Bool) : (flagB b).length ≤ 9 := by
  cases b <;> exact nB_len ⟨by decide, by decide⟩
theorem ansB_len {a : Ans} (h1 : U64 a.code) (h2 : U64 a.version) : (ansB a).length ≤ 27 := by
  have := nB_len h1; have := nB_len h2; have := flagB_len a.has
  simp only [ansB, List.length_append]; omega
theorem markB_len {m : Mark} (h : okM m) : (markB m).length ≤ 45 := by
  have := nB_len h.1; have := nB_len h.2.1; have := ansB_len h.2.2.1 h.2.2.2
  simp only [markB, List.length_append]; omega
theorem marksB_len : ∀ {l : List Mark}, (∀ m ∈ l, okM m) → (l.flatMap markB).length ≤ 45 * l.length
  | [], _ => by simp
  | m :: l, h => by
    have h1 := markB_len (h m (by simp))
    have h2 := marksB_len (l := l) fun x hx => h x (by simp [hx])
    simp only [List.flatMap_cons, List.length_append, List.length_cons]; omega
theorem textL_len {s : ByteArray} (h : s.size ≤ 4096) : (textL (unB s)).length ≤ 4105 := by
  have h1 : (unB s).length < 2 ^ 64 := by rw [un_size]; omega
  have := len8_le h1
  unfold textL
  rw [List.length_append, numL_len, un_size] at *; omega
theorem flag_nB (b : Bool) : flagB b = if b then nB 1 else nB 0 := by cases b <;> rfl
/-- a row of numbers -/
def rowU (A : Option Addr) (k : Nat) (l : List Int) : AV := .sl none A l.length k 1 (fun i => [.int .u64 (l.getD i 0)])
theorem row_sim {l l' : List Int} (h : l = l') (g : Option Nat) (A : Option Addr) (k : Nat) : Sim (.sl g A l.length k 1 (chunk 1 (l.map fun v => .int .u64 v))) (rowU A k l') := by
  subst h
  refine Sim.recell fun i hi => ?_
  simp only [chunk, Nat.mul_one]
  rw [List.getD_eq_getElem?_getD, List.getElem?_eq_getElem hi, List.drop_eq_getElem_cons (by simpa using hi)]
  simp
theorem isP_kind {p : Par} (h : isP p = true) : p.kind = 1 ∨ p.kind = 2 ∨ p.kind = 3 ∨ p.kind = 4 := by
  unfold isP at h
  by_cases h1 : p.kind = 1
  · exact .inl h1
  by_cases h2 : p.kind = 2
  · exact .inr (.inl h2)
  by_cases h3 : p.kind = 3
  · exact .inr (.inr (.inl h3))
  by_cases h4 : p.kind = 4
  · exact .inr (.inr (.inr h4))
  simp [h1, h2, h3, h4] at h
theorem isP_one {p : Par} (h : isP p = true) (hk : p.kind = 1) : IsO p.op ∧ p.ans = zeroAns ∧ p.serial = 0 ∧ p.cell = zeroCel := by
  unfold isP bareC at h
  simp [hk] at h
  grind
theorem isP_two {p : Par} (h : isP p = true) (hk : p.kind = 2) : p.key = zeroKey ∧ p.op = ⟨p.op.client, p.op.req, 0, 0, ByteArray.empty⟩ ∧ 0 ≤ p.op.client ∧ p.op.client ≤ 63 ∧ isAns p.ans ∧ p.serial = 0 ∧ p.cell = zeroCel := by
  unfold isP bareC at h
  simp [hk] at h
  grind
theorem isP_three {p : Par} (h : isP p = true) (hk : p.kind = 3) : p.op = zeroOp ∧ p.ans = zeroAns ∧ IsC p.cell := by
  unfold isP at h
  simp [hk] at h
  grind
theorem isP_four {p : Par} (h : isP p = true) (hk : p.kind = 4) : p.key = zeroKey ∧ p.op = zeroOp ∧ p.ans = zeroAns ∧ p.cell = zeroCel := by
  unfold isP bareC at h
  simp [hk] at h
  grind
end Go.Proofs.YtkamdppnnhjajaaDoor.Sym

namespace Go.Proofs.YtkamdppnnhjajaaDoor.Sym
open Go.RowKit
set_option linter.unusedVariables false
set_option linter.unusedSimpArgs false

section
variable {C : Cx} {s : St} {a : Act} {w : World}
theorem fresh_of {m : Nat → Nat → Prop} {w0 : World} {pre : List (Nat × Blk)} {ds : List Deferred} (h : Fits ⟨m, w0, ats pre, ds⟩ s a w) {key : Nat} {blk : Blk} (hb : lookM s.mem key = some blk) (hne : ∀ e ∈ pre, e.2.at_ ≠ blk.at_) : ∀ o, ¬ m blk.at_ o := by
  intro o hm
  rcases (h.mem key _ hb).2.2 with h1 | ⟨e, he, h1⟩
  · exact Nat.lt_irrefl _ (Nat.lt_of_lt_of_le (h.m0 _ _ hm) h1)
  · exact hne e he h1
theorem frozen (h : Fits C s a w) {key : Nat} {blk : Blk} (hb : lookM s.mem key = some blk) (kp km : List Nat) (hgr : s.gr = []) (hkm : ∀ k bk, lookM (keepM s.mem km) k = some bk → bk.at_ ≠ blk.at_) (hm0 : ∀ o, ¬ C.m0 blk.at_ o) (n : Nat) :
    Ok ((s.keep kp km).m C) w (.ep (some ⟨blk.at_, 0, none⟩) 0 n 0 blk.cells) := by
  obtain ⟨h1, h2, _⟩ := h.mem _ _ hb
  have hnm : ∀ o, ¬ (s.keep kp km).m C blk.at_ o := by
    intro o hm
    rcases hm with hm | ⟨k, bk, hk, he⟩ | ⟨k, tt, hk, _⟩
    · exact hm0 o hm
    · exact hkm k bk hk he
    · simp only [St.keep, hgr] at hk
      have := keepM_look _ _ hk
      cases this
  have hle : ∀ b o, (s.keep kp km).m C b o → s.m C b o := by
    intro b o hm
    rcases hm with hm | ⟨k, bk, hk, rfl⟩ | ⟨k, tt, hk, h3⟩
    · exact .inl hm
    · exact .inr (.inl ⟨k, bk, keepM_look _ _ hk, rfl⟩)
    · exact .inr (.inr ⟨k, tt, keepM_look _ _ hk, h3⟩)
  refine .ep _ _ _ _ _ ⟨_, _, rfl⟩ (fun j u hj => ⟨blk.at_, 0, rfl, ?_, hnm _⟩) (fun v hv => (h2 v hv).1) (fun v hv => ((h2 v hv).2).mono fun b o u g1 g2 => ⟨g1, fun hm => g2 (hle b o hm)⟩)
  rw [cell_of_row w _ _ _ _ _ h1, List.getElem?_toArray, Nat.zero_mul, Nat.zero_add, Nat.zero_add]
  exact hj
/-- a slot that is told in other words -/
theorem Fits.reslot (h : Fits C s a w) (d : Nat) (v : AV) (hk : (look s.tmps d).known = true) (hd : (look s.tmps d).den = v.den) (hv : Ok (s.m C) w v) : Fits C { s with tmps := (d, v) :: s.tmps } a w := by
  refine ⟨h.size, h.defers, fun t ht => ?_, h.gs, h.mem, h.nodup, h.gr, h.sepm, h.sepg, h.chg, h.m0⟩
  simp only [look_cons] at ht ⊢
  by_cases he : d = t
  · subst he
    rw [if_pos rfl] at ht ⊢
    exact ⟨by rw [(h.slot d hk).1, hd], hv⟩
  · rw [if_neg he] at ht ⊢
    exact h.slot t ht
/-- a block's cells that are told in other words -/
theorem Fits.recells (h : Fits C s a w) (k0 : Nat) {blk : Blk} (hb : lookM s.mem k0 = some blk) (cells : List AV) (hd : cells.map AV.den = blk.cells.map AV.den) (hv : ∀ v ∈ cells, v.one = true ∧ Ok (s.m C) w v) : Fits C { s with mem := (k0, ⟨blk.at_, blk.ty, cells⟩) :: delM s.mem k0 } a w := by
  have hlk : ∀ k bk, lookM ((k0, (⟨blk.at_, blk.ty, cells⟩ : Blk)) :: delM s.mem k0) k = some bk → ∃ b', lookM s.mem k = some b' ∧ b'.at_ = bk.at_ ∧ b'.ty = bk.ty ∧ b'.cells.map AV.den = bk.cells.map AV.den ∧ ((k = k0 ∧ bk.cells = cells) ∨ b' = bk) := by
    intro k bk hk
    rcases lookM_eff hk with ⟨rfl, rfl⟩ | ⟨_, hk⟩
    · exact ⟨blk, hb, rfl, rfl, hd.symm, .inl ⟨rfl, rfl⟩⟩
    · exact ⟨bk, hk, rfl, rfl, rfl, .inr rfl⟩
  have hm : ({ s with mem := (k0, ⟨blk.at_, blk.ty, cells⟩) :: delM s.mem k0 } : St).m C = s.m C := by
    funext b o
    apply propext
    constructor
    · rintro (h1 | ⟨k, bk, hk, rfl⟩ | h1)
      · exact .inl h1
      · obtain ⟨b', h2, h3, _⟩ := hlk k bk hk
        exact .inr (.inl ⟨k, b', h2, h3⟩)
      · exact .inr (.inr h1)
    · rintro (h1 | ⟨k, bk, hk, rfl⟩ | h1)
      · exact .inl h1
      · by_cases hkk : k = k0
        · subst hkk
          rw [hb] at hk; injection hk with hk; subst hk
          exact .inr (.inl ⟨k, ⟨blk.at_, blk.ty, cells⟩, by rw [lookM_cons, if_pos rfl], rfl⟩)
        · exact .inr (.inl ⟨k, bk, by rw [lookM_cons, if_neg (Ne.symm hkk), lookM_del, if_neg (Ne.symm hkk)]; exact hk, rfl⟩)
      · exact .inr (.inr h1)
  refine ⟨h.size, h.defers, fun t ht => ⟨(h.slot t ht).1, by rw [hm]; exact (h.slot t ht).2⟩, fun t p v he hk => ⟨fun hp => ⟨((h.gs t p v he hk).1 hp).1, by rw [hm]; exact ((h.gs t p v he hk).1 hp).2⟩, (h.gs t p v he hk).2⟩, fun k bk hk => ?_, fun k k' e e' h1 h2 hne => ?_, h.gr, fun k t k' e ht he => ?_, h.sepg, h.chg, h.m0⟩
  · obtain ⟨b', g1, g2, g3, g4, g5⟩ := hlk k bk hk
    obtain ⟨h1, h2, h3⟩ := h.mem k b' g1
    refine ⟨by rw [← g2, ← g3, ← g4]; exact h1, fun v hvm => ?_, by rw [← g2]; exact h3⟩
    rw [hm]
    rcases g5 with ⟨_, g5⟩ | g5
    · rw [g5] at hvm; exact hv v hvm
    · subst g5; exact h2 v hvm
  · obtain ⟨b1, g1, g2, _⟩ := hlk k e h1
    obtain ⟨b2, g3, g4, _⟩ := hlk k' e' h2
    rw [← g2, ← g4]
    exact h.nodup k k' b1 b2 g1 g3 hne
  · obtain ⟨b', g1, g2, _⟩ := hlk k' e he
    rw [← g2]
    exact h.sepm k t k' b' ht g1
end
end Go.Proofs.YtkamdppnnhjajaaDoor.Sym

namespace Go.Proofs.YtkamdppnnhjajaaDoor.Sym
open Go Go.RowKit Go.Extern.Stop Go.Stop Go.Extern
set_option linter.unusedVariables false
set_option linter.unusedSimpArgs false

/-- errors.As(nil, target). -/
theorem as_nil (t : Value) (w : World) :
    Calls Tryd.prog 47 #[.nilIface, t] w fun e w' => e = .returned (.bool false) ∧ w' = w := by
  go_enter Tryd.func47, Tryd.ntmps47
  go_wp2
  go_ret
  exact ⟨rfl, rfl⟩

/-! ### CLOSED FACTS ON THE MODEL's ENTRIES FOR internal/reflectlite, at this program's types: 25: *p.E · 27: **p.E · 23: error · 45: reflectlite's rtype · 1: how many package-level variables the dump has -/
theorem as_valueOf27 (t : Addr) (w : World) : (ReflectliteValue.unpack (.iface 85 (.pointer (some t)))).run Tryd.prog w
    = .ok (.agg #[.pointer (some ⟨1, 85, none⟩), .pointer (some ⟨w.heap.size, 0, none⟩), .int .u64 150]) (w.alloc (.cells #[.pointer (some t)] 85)) := by kernel_rfl
theorem as_type27 (a : Addr) (w : World) : (ReflectliteValue.methodAny (ReflectliteValue.valueError "reflectlite.Value.Type" 0) (fun t _ _ _ => ReflectliteType.toType t) #[.agg #[.pointer (some ⟨1, 85, none⟩), .pointer (some a), .int .u64 150]]).run Tryd.prog w
    = .ok (.iface 140 (.agg #[.pointer (some ⟨1, 85, none⟩)])) w := by kernel_rfl
theorem as_methodKind (h : Value) (w : World) : (Go.method 292 140 (.agg #[h]) "Kind").run Tryd.prog w = .ok (124, h) w := by kernel_rfl
theorem as_kind27 (w : World) : ((ReflectliteType.abiMethod fun t => (fun a : Nat => Value.int IntKind.u8 (a : Int)) <$> Rtype.kind t) #[.pointer (some ⟨1, 85, none⟩)]).run Tryd.prog w = .ok (.int .u8 22) w := by kernel_rfl
theorem as_kind25 (w : World) : ((ReflectliteType.abiMethod fun t => (fun a : Nat => Value.int IntKind.u8 (a : Int)) <$> Rtype.kind t) #[.pointer (some ⟨1, 81, none⟩)]).run Tryd.prog w = .ok (.int .u8 22) w := by kernel_rfl

/-! ### THE ENTRIES THAT READ OR WRITE MEMORY: laws with a premise on the cell (after Derived/Lib/ReflectliteSlice.lean's manner: each unfolding a lemma of its own, by rfl) -/
theorem rlm (z : Sem Value) (f : TypeId → Addr → Nat → Nat → Sem Value) (v : Value) :
    ReflectliteValue.method z f #[v] = (do match ← ReflectliteValue.parts v with | none => z | some (t, a, fl) => f t a fl (fl % 32)) := rfl
theorem as_parts27 (a : Addr) (w : World) : (ReflectliteValue.parts (.agg #[.pointer (some ⟨1, 85, none⟩), .pointer (some a), .int .u64 150])).run Tryd.prog w = .ok (some (85, a, 150)) w := by kernel_rfl
/-- (Value).IsNil at the Value of a **p.E that is not nil. -/
theorem as_isNil27 (a p : Addr) (W : World) (ha : W.cell? a = some (.pointer (some p))) :
    (ReflectliteValue.method (ReflectliteValue.valueError "reflectlite.Value.IsNil" 0) ReflectliteValue.isNil #[.agg #[.pointer (some ⟨1, 85, none⟩), .pointer (some a), .int .u64 150]]).run Tryd.prog W = .ok (.bool false) W := by
  rw [rlm]
  simp only [Sem.run_bind, as_parts27, Result.andThen]
  simp [ReflectliteValue.isNil, loadVar, isAgg, underlying, Tryd.underlying85, ha, Result.andThen]

theorem as_methodElem (h : Value) (w : World) : (Go.method 292 140 (.agg #[h]) "Elem").run Tryd.prog w = .ok (134, .agg #[h]) w := by kernel_rfl
theorem as_methodImplements (h : Value) (w : World) : (Go.method 292 140 (.agg #[h]) "Implements").run Tryd.prog w = .ok (135, .agg #[h]) w := by kernel_rfl
theorem as_methodAssignableTo (h : Value) (w : World) : (Go.method 292 140 (.agg #[h]) "AssignableTo").run Tryd.prog w = .ok (132, .agg #[h]) w := by kernel_rfl
theorem as_elem27 (w : World) : (ReflectliteType.method ReflectliteType.elem #[.agg #[.pointer (some ⟨1, 85, none⟩)]]).run Tryd.prog w = .ok (.iface 140 (.agg #[.pointer (some ⟨1, 81, none⟩)])) w := by kernel_rfl
theorem as_implements25 (w : World) : (ReflectliteType.relation "Implements" ReflectliteType.implements_ #[.agg #[.pointer (some ⟨1, 81, none⟩)], .iface 140 (.agg #[.pointer (some ⟨1, 69, none⟩)])]).run Tryd.prog w = .ok (.bool true) w := by kernel_rfl
theorem as_typeOf25 (v : Value) (w : World) : (ReflectliteType.typeOf #[.iface 81 v]).run Tryd.prog w = .ok (.iface 140 (.agg #[.pointer (some ⟨1, 81, none⟩)])) w := by kernel_rfl
theorem as_assignable25 (w : World) : (ReflectliteType.relation "AssignableTo" ReflectliteType.assignableTo #[.agg #[.pointer (some ⟨1, 81, none⟩)], .iface 140 (.agg #[.pointer (some ⟨1, 81, none⟩)])]).run Tryd.prog w = .ok (.bool true) w := by kernel_rfl
theorem as_valueOf25 (e : Addr) (w : World) : (ReflectliteValue.unpack (.iface 81 (.pointer (some e)))).run Tryd.prog w
    = .ok (.agg #[.pointer (some ⟨1, 81, none⟩), .pointer (some ⟨w.heap.size, 0, none⟩), .int .u64 150]) (w.alloc (.cells #[.pointer (some e)] 81)) := by kernel_rfl

theorem as_elemOf27 (w : World) : (Rtype.elem? 85).run Tryd.prog w = .ok (some 81) w := by kernel_rfl
theorem as_mk25 (p : Addr) (w : World) : (ReflectliteValue.mk 81 p ReflectliteValue.flagAddr).run Tryd.prog w = .ok (.agg #[.pointer (some ⟨1, 81, none⟩), .pointer (some p), .int .u64 406]) w := by kernel_rfl
/-- (Value).Elem at the Value of a **p.E that is not nil: the Value of the *p.E variable that it points to, addressable. -/
theorem as_elemV27 (a p : Addr) (W : World) (ha : W.cell? a = some (.pointer (some p))) :
    (ReflectliteValue.method (ReflectliteValue.valueError "reflectlite.Value.Elem" 0) ReflectliteValue.elem #[.agg #[.pointer (some ⟨1, 85, none⟩), .pointer (some a), .int .u64 150]]).run Tryd.prog W
      = .ok (.agg #[.pointer (some ⟨1, 81, none⟩), .pointer (some p), .int .u64 406]) W := by
  rw [rlm]
  simp only [Sem.run_bind, as_parts27, Result.andThen]
  simp [ReflectliteValue.elem, loadVar, isAgg, underlying, Tryd.underlying85, ha, Result.andThen, as_elemOf27, as_mk25]
theorem rls (v x : Value) : ReflectliteValue.set #[v, x] = (do
    let (some (dst, a, fl), some (src, b, _)) := (← ReflectliteValue.parts v, ← ReflectliteValue.parts x)
      | unsupported (.noEntry "extern/(internal/reflectlite.Value).Set.zeroValue")
    if fl / ReflectliteValue.flagAddr % 2 == 0 then unsupported (.noEntry "extern/(internal/reflectlite.Value).Set.unaddressable")
    let val ← loadVar src b
    if ← Rtype.directlyAssignable dst src then storeVar dst a val
    else if ← Rtype.implements dst src then
      if (← Rtype.kind src) == 20 then
        match val with
        | .nilIface => unsupported (.noEntry "extern/reflectlite: a nil value of one interface type handed on as a value of another")
        | _ => storeVar dst a val
      else storeVar dst a (.iface src val)
    else panicString ("reflectlite.Set: value of type " ++ (← Rtype.spelt src) ++ " is not assignable to type " ++ (← Rtype.spelt dst))
    pure (.tuple #[])) := rfl
theorem as_parts25a (a : Addr) (w : World) : (ReflectliteValue.parts (.agg #[.pointer (some ⟨1, 81, none⟩), .pointer (some a), .int .u64 406])).run Tryd.prog w = .ok (some (81, a, 406)) w := by kernel_rfl
theorem as_parts25 (a : Addr) (w : World) : (ReflectliteValue.parts (.agg #[.pointer (some ⟨1, 81, none⟩), .pointer (some a), .int .u64 150])).run Tryd.prog w = .ok (some (81, a, 150)) w := by kernel_rfl
theorem as_direct25 (w : World) : (Rtype.directlyAssignable 81 81).run Tryd.prog w = .ok true w := by kernel_rfl
theorem as_size25 (w : World) : (sizeOf 81).run Tryd.prog w = .ok 1 w := by kernel_rfl
/-- (Value).Set: the *p.E variable at 'ta' gets what the Value's own variable 'b' holds. -/
theorem as_set25 (ta b e : Addr) (old : Value) (W : World) (hb : W.cell? b = some (.pointer (some e))) (ht : W.cell? ta = some old) (hf : W.frozen? ta = false) :
    (ReflectliteValue.set #[.agg #[.pointer (some ⟨1, 81, none⟩), .pointer (some ta), .int .u64 406], .agg #[.pointer (some ⟨1, 81, none⟩), .pointer (some b), .int .u64 150]]).run Tryd.prog W
      = .ok (.tuple #[]) (W.setCell ta (.pointer (some e))) := by
  rw [rls]
  simp only [Sem.run_bind, as_parts25a, as_parts25, Result.andThen]
  simp [ReflectliteValue.flagAddr, loadVar, isAgg, underlying, Tryd.underlying81, hb, Result.andThen, as_direct25, storeVar, Value.cells, storeCells, Addr.add]
  rw [run_store Tryd.prog W ta _ _ (by rfl)]
  simp [ht, hf]

set_option maxHeartbeats 4000000 in
theorem as_hit (e t : Addr) (old : Value) (w : World) (hg : w.cell? ⟨0, 0, none⟩ = some (.iface 140 (.agg #[.pointer (some ⟨1, 69, none⟩)]))) (ht0 : w.cell? t = some old) (hf0 : w.frozen? t = false) :
    Calls Tryd.prog 47 #[.iface 81 (.pointer (some e)), .iface 85 (.pointer (some t))] w fun ev w' => ev = .returned (.bool true) ∧ w' = ((((w.alloc (.cells #[.pointer (some t)] 85)).alloc (.cells #[.pointer (some ⟨1, 85, none⟩), .pointer (some ⟨w.heap.size, 0, none⟩), .int .u64 150] 117)).alloc (.cells #[.pointer (some ⟨1, 85, none⟩), .pointer (some ⟨w.heap.size, 0, none⟩), .int .u64 150] 117)).alloc (.cells #[.pointer (some e)] 81)).setCell t (.pointer (some e)) := by
  have h6 := @run_callFunc_extern Tryd.prog 78 _ (fun args => ReflectliteValue.unpack (args.getD 0 (.tuple #[]))) Tryd.func78 (by kernel_rfl) (by kernel_rfl) (by kernel_rfl) (by kernel_rfl)
  have h7 := @run_callFunc_extern Tryd.prog 79 _ (ReflectliteValue.methodAny (ReflectliteValue.valueError "reflectlite.Value.Type" 0) (fun t _ _ _ => ReflectliteType.toType t)) Tryd.func79 (by kernel_rfl) (by kernel_rfl) (by kernel_rfl) (by kernel_rfl)
  have h8 := @run_callFunc_extern Tryd.prog 80 _ (ReflectliteValue.method (ReflectliteValue.valueError "reflectlite.Value.IsNil" 0) ReflectliteValue.isNil) Tryd.func80 (by kernel_rfl) (by kernel_rfl) (by kernel_rfl) (by kernel_rfl)
  have h27 := @run_callFunc_extern Tryd.prog 124 _ (ReflectliteType.abiMethod fun t => do pure (.int .u8 (← Rtype.kind t))) Tryd.func124 (by kernel_rfl) (by kernel_rfl) (by kernel_rfl) (by kernel_rfl)
  have h37 := @run_callFunc_extern Tryd.prog 134 _ (ReflectliteType.method ReflectliteType.elem) Tryd.func134 (by kernel_rfl) (by kernel_rfl) (by kernel_rfl) (by kernel_rfl)
  have h38 := @run_callFunc_extern Tryd.prog 135 _ (ReflectliteType.relation "Implements" ReflectliteType.implements_) Tryd.func135 (by kernel_rfl) (by kernel_rfl) (by kernel_rfl) (by kernel_rfl)
  have h10 := @run_callFunc_extern Tryd.prog 98 _ ReflectliteType.typeOf Tryd.func98 (by kernel_rfl) (by kernel_rfl) (by kernel_rfl) (by kernel_rfl)
  have h35 := @run_callFunc_extern Tryd.prog 132 _ (ReflectliteType.relation "AssignableTo" ReflectliteType.assignableTo) Tryd.func132 (by kernel_rfl) (by kernel_rfl) (by kernel_rfl) (by kernel_rfl)
  have h11 := @run_callFunc_extern Tryd.prog 99 _ (ReflectliteValue.method (ReflectliteValue.valueError "reflectlite.Value.Elem" 0) ReflectliteValue.elem) Tryd.func99 (by kernel_rfl) (by kernel_rfl) (by kernel_rfl) (by kernel_rfl)
  have h12 := @run_callFunc_extern Tryd.prog 100 _ ReflectliteValue.set Tryd.func100 (by kernel_rfl) (by kernel_rfl) (by kernel_rfl) (by kernel_rfl)
  have tO := as_typeOf25
  have mA := as_methodAssignableTo
  have a25 := as_assignable25
  have v25 := as_valueOf25
  have f6 := as_valueOf27
  have f7 := as_type27
  have mK := as_methodKind
  have mE := as_methodElem
  have mI := as_methodImplements
  have k27 := as_kind27
  have k25 := as_kind25
  have e27 := as_elem27
  have i25 := as_implements25
  have n8 := as_isNil27 ⟨w.heap.size, 0, none⟩ t ((w.alloc (.cells #[.pointer (some t)] 85)).alloc (.cells #[.pointer (some ⟨1, 85, none⟩), .pointer (some ⟨w.heap.size, 0, none⟩), .int .u64 150] 117)) (by simp)
  have hlt : 0 < w.heap.size := by
    rcases Nat.eq_zero_or_pos w.heap.size with h0 | h
    · simp [World.cell?, h0] at hg
    · exact h
  have hg2 : ((w.alloc (.cells #[.pointer (some t)] 85)).alloc (.cells #[.pointer (some ⟨1, 85, none⟩), .pointer (some ⟨w.heap.size, 0, none⟩), .int .u64 150] 117)).cell? ⟨0, 0, none⟩ = some (.iface 140 (.agg #[.pointer (some ⟨1, 69, none⟩)])) := by
    rw [World.cell?_alloc_lt _ _ ⟨0, 0, none⟩ (by simp), World.cell?_alloc_lt _ _ ⟨0, 0, none⟩ hlt]; exact hg
  have htl : t.block < w.heap.size := by
    rcases Nat.lt_or_ge t.block w.heap.size with h | h
    · exact h
    · simp [World.cell?, Array.getElem?_eq_none h] at ht0
  have el := as_elemV27 ⟨w.heap.size, 0, none⟩ t (((w.alloc (.cells #[.pointer (some t)] 85)).alloc (.cells #[.pointer (some ⟨1, 85, none⟩), .pointer (some ⟨w.heap.size, 0, none⟩), .int .u64 150] 117)).alloc (.cells #[.pointer (some ⟨1, 85, none⟩), .pointer (some ⟨w.heap.size, 0, none⟩), .int .u64 150] 117)) (by rw [World.cell?_alloc_lt _ _ ⟨w.heap.size, 0, none⟩ (by simp; omega)]; simp)
  have st := as_set25 t ⟨w.heap.size + 1 + 1 + 1, 0, none⟩ e old ((((w.alloc (.cells #[.pointer (some t)] 85)).alloc (.cells #[.pointer (some ⟨1, 85, none⟩), .pointer (some ⟨w.heap.size, 0, none⟩), .int .u64 150] 117)).alloc (.cells #[.pointer (some ⟨1, 85, none⟩), .pointer (some ⟨w.heap.size, 0, none⟩), .int .u64 150] 117)).alloc (.cells #[.pointer (some e)] 81))
    (by rw [World.cell?_alloc_at _ _ _ _ (by simp)]; rfl)
    (by rw [World.cell?_alloc_lt _ _ t (by simp; omega), World.cell?_alloc_lt _ _ t (by simp; omega), World.cell?_alloc_lt _ _ t (by simp; omega), World.cell?_alloc_lt _ _ t htl]; exact ht0)
    (by rw [World.frozen?_alloc_old _ _ t (by simp; omega), World.frozen?_alloc_old _ _ t (by simp; omega), World.frozen?_alloc_old _ _ t (by simp; omega), World.frozen?_alloc_old _ _ t (Nat.ne_of_lt htl)]; exact hf0)
  go_enter Tryd.func47, Tryd.ntmps47
  go_wp2
  refine wp_loop_rounds 1 ?_
  rw [rounds_succ]
  go_wp2
  go_ret
  exact ⟨rfl, rfl⟩

/-! ### in the executor's words -/
/-- what the variable errors.errorType holds -/
def gV : Value := .iface 140 (.agg #[.pointer (some ⟨1, 69, none⟩)])
def Glob (w : World) : Prop := w.cell? ⟨0, 0, none⟩ = some gV
/-- a contract in worlds whose first block is that variable -/
def SpecG (P : Program) (f : FuncId) (args : List AV) (pre : List (Nat × Blk)) (res : Atom → CR) : Prop :=
  ∀ (m : Nat → Nat → Prop) (w : World), (∀ b o, m b o → b < w.heap.size) → (∀ v ∈ args, Ok m w v) → PreOk m w pre → Glob w → Calls P f (args.map AV.den).toArray w (XPost m w pre res)
theorem SpecX.g {P : Program} {f : FuncId} {args : List AV} {pre : List (Nat × Blk)} {res : Atom → CR} (h : SpecX P f args pre res) : SpecG P f args pre res := fun m w h1 h2 h3 _ => h m w h1 h2 h3
theorem glob_of {m : Nat → Nat → Prop} {w0 w : World} {S : Nat → Prop} {ds : List Deferred} {s : St} {a : Act} (h : Fits ⟨m, w0, S, ds⟩ s a w) (hg : Glob w0) (hn : ¬ S 0) : Glob w := by
  have hlt : 0 < w0.heap.size := World.block_lt_of_cell? w0 _ hg
  have hb := h.chg.block 0 hlt hn
  unfold Glob World.cell? at hg ⊢
  rw [show w.heap[0]? = w0.heap[0]? from hb]
  exact hg
section
variable {P : Program} {C : Cx} {ops : Array Oper} {Q : Exit → Act → World → Prop}
/-- a call by hand of such a function -/
theorem man_outG {s : St} {a : Act} {w : World} {L rest : List Oper} {o : Oper} {c : Call} {g : Operand} {f : FuncId} {l r args args' : List AV} (hL : L = o :: rest) (hg : o.guard = none) (hop : o.op = .call c) (hcal : c.callee = .value g) (h : Fits C s a w) (hgv : val s [] g = .fn f l r) (hl : vals s [] c.args.toList = some args) (hen : Enters P f)
    {pre : List (Nat × Blk)} {res : Atom → CR} (hsp : SpecG P f args' pre res) (hG : Glob w) (hsim : SimL (l ++ args ++ r) args') (hpre : ∀ e ∈ pre, lookM s.mem e.1 = some e.2) (hnd : nodupB pre = true) (hd : inNt s o.dst = true)
    (K : ∀ x a' w', Fits C ((s.eff (.sets (upd pre (res x).sets ++ (res x).news))).put o.dst (res x).v) a' w' → wpList P ops Q rest a' w') : wpList P ops Q L a w := by
  refine man_op hL hg ?_
  obtain ⟨hrun, hok⟩ := call_run hop hcal h hgv hl hen
  have hdist := nodup_dist h hnd hpre
  unfold Oper.wp
  rw [hrun]
  simp only [Oper.upon]
  have := hsp (s.m C) w (m_lt h) (hsim.ok hok) ⟨fun e he => (h.mem _ _ (hpre e he)).1, fun e he => (h.mem _ _ (hpre e he)).2.1, fun e he o => .inr (.inl ⟨e.1, e.2, hpre e he, rfl⟩), hdist⟩ hG
  rw [← hsim.map] at this
  refine this.mono ?_
  rintro e w' ⟨x, rfl, g1, g2⟩
  obtain ⟨f1, f2⟩ := h.called hdist hpre g2
  refine K x _ w' (f1.put o.dst (fun t ht => ?_) (res x).v (fun _ => f2 _ g1) _ fun _ => rfl)
  rw [eff_nt]; exact inNt_lt hd t ht
end
theorem entersAs : Enters Tryd.prog 47 := fun _ _ => by kernel_rfl
theorem asnil_s (t : Nat) (v x : AV) : Spec Tryd.prog 47 [.opt false t v, x] (fun _ => .bool (.v false)) := by
  intro m w hm hargs
  refine (as_nil x.den w).mono ?_
  rintro e w' ⟨rfl, rfl⟩
  exact ⟨noAtom, rfl, .bool _, Below.refl _ _⟩
/-- a block of one cell is set, behind new blocks -/
theorem left_hit {m : Nat → Nat → Prop} {w w4 : World} {k b ty : Nat} {v v' : AV} (hb : Below w.heap.size w w4) (hp : PreOk m w [(k, ⟨b, ty, [v]⟩)]) (h1 : v'.one = true) (hm : ∀ b o, m b o → b < w.heap.size) (hok : Ok m w v') : Left m w (w4.setCell ⟨b, 0, none⟩ v'.den) [(k, ⟨b, ty, [v]⟩)] [(k, [v'])] [] := by
  have hh : w.heap[b]? = some (.cells #[v.den] ty (0, 0)) := hp.heap _ (List.mem_singleton.2 rfl)
  have hlt : b < w.heap.size := (Array.getElem?_eq_some_iff.1 hh).1
  have hfree : ∀ o, m b o := fun o => hp.free _ (List.mem_singleton.2 rfl) o
  have hh4 : w4.heap[b]? = some (.cells #[v.den] ty (0, 0)) := (hb.block b hlt).trans hh
  have hoth : ∀ j, j ≠ b → (w4.setCell ⟨b, 0, none⟩ v'.den).heap[j]? = w4.heap[j]? := fun j hj => by
    simp [World.setCell, Array.getElem?_modify, Ne.symm hj]
  refine ⟨rfl, fun e he => ?_, fun e he u hu => ?_, fun e he => (by cases he), .nil, ?_⟩
  · simp only [upd, List.append_nil, List.mem_singleton] at he
    subst he
    show (w4.setCell ⟨b, 0, none⟩ v'.den).heap[b]? = some (.cells #[v'.den] ty (0, 0))
    simp only [World.setCell, Array.getElem?_modify, if_true, hh4, Option.map_some]
    simp
  · simp only [upd, List.append_nil, List.mem_singleton] at he
    subst he
    simp only [List.mem_singleton] at hu
    subst hu
    refine ⟨h1, hok.mono fun b' o u g1 g2 => ⟨?_, fun h => g2 (h.resolve_right fun ⟨e, he, _⟩ => by cases he)⟩⟩
    have hne : b' ≠ b := fun e => g2 (e ▸ hfree o)
    have hlt' : b' < w.heap.size := World.block_lt_of_cell? w _ g1
    rw [← g1]
    unfold World.cell?
    rw [hoth b' hne, hb.block b' hlt']
  · refine ⟨?_, ?_, ?_, ?_, fun k' hk hn => ?_⟩
    · exact hb.os
    · exact hb.tape
    · exact hb.output
    · show w.heap.size ≤ (w4.heap.modify _ _).size
      rw [Array.size_modify]; exact hb.size
    · rw [hoth k' (fun e => hn ⟨_, List.mem_singleton.2 rfl, e.symm⟩), hb.block k' hk]
theorem ashit_s (A : Option Addr) (b : Nat) (c : Int) : SpecG Tryd.prog 47 [.opt true 81 (.ep A 0 1 0 [.int .i64 c]), .ifc 85 (.ptr 6 b 0)] [(6, ⟨b, 81, [.nilp]⟩)] (fun _ => ⟨.bool (.v true), [(6, [.ep A 0 1 0 [.int .i64 c]])], []⟩) := by
  intro m w hm hargs hpre hg
  have hoe : Ok m w (.ep A 0 1 0 [.int .i64 c]) := by
    have := hargs _ (List.mem_cons_self ..)
    cases this with | opt _ _ _ h => exact h rfl
  obtain ⟨ab, ao, hA⟩ : ∃ b off, A = some ⟨b, off, none⟩ := by cases hoe with | ep _ _ _ _ _ h => exact h
  have hh : w.heap[b]? = some (.cells #[.pointer none] 81 (0, 0)) := hpre.heap _ (List.mem_singleton.2 rfl)
  have hd : AV.den (.ep A 0 1 0 [.int .i64 c]) = .pointer (some ⟨ab, ao + (0 * 1 + 0), none⟩) := by rw [hA]; rfl
  have H := as_hit ⟨ab, ao + (0 * 1 + 0), none⟩ ⟨b, 0, none⟩ (.pointer none) w hg (by simp [World.cell?, hh]) (by simp [World.frozen?, hh])
  have e1 : ([(.opt true 81 (.ep A 0 1 0 [.int .i64 c]) : AV), .ifc 85 (.ptr 6 b 0)].map AV.den).toArray = #[.iface 81 (.pointer (some ⟨ab, ao + (0 * 1 + 0), none⟩)), .iface 85 (.pointer (some ⟨b, 0, none⟩))] := by
    simp only [List.map_cons, List.map_nil]
    rw [show AV.den (.opt true 81 (.ep A 0 1 0 [.int .i64 c])) = .iface 81 (AV.den (.ep A 0 1 0 [.int .i64 c])) from rfl, hd]
    rfl
  rw [e1]
  refine H.mono ?_
  rintro ev w' ⟨rfl, rfl⟩
  refine ⟨noAtom, rfl, .bool _, ?_⟩
  rw [← hd]
  refine left_hit ?_ hpre rfl hm hoe
  exact (((Below.refl _ _).alloc (by simp) _ |>.alloc (by simp) _).alloc (by simp; omega) _).alloc (by simp; omega) _
end Go.Proofs.YtkamdppnnhjajaaDoor.Sym

namespace Go.Proofs.YtkamdppnnhjajaaDoor.Sym
open Go Go.ChangeShapes Go.WideShapes Go.ChangeAt Go.RowKit Go.Deep
set_option linter.unusedVariables false
set_option linter.unusedSimpArgs false
set_option maxRecDepth 100000

abbrev m0 : Nat → Nat → Prop := fun _ _ => False
theorem u64_wf {n : Int} (h : (Lit.int .u64 n).wf = true) : U64 n := by
  simp [Lit.wf, IntKind.min, IntKind.max, IntKind.signed, IntKind.bits] at h
  exact ⟨by omega, by omega⟩
theorem u8_wf {n : Int} (h : (Lit.int .u8 n).wf = true) : 0 ≤ n ∧ n < 256 := by
  simp [Lit.wf, IntKind.min, IntKind.max, IntKind.signed, IntKind.bits] at h
  exact ⟨by omega, by omega⟩
def InPar (w : World) (v : Value) : Prop := ∃ (A : Option Addr) (k : Nat) (p : Par), v = (parAV A k p).den ∧ Ok m0 w (parAV A k p) ∧ ParU p
def InCel (w : World) (v : Value) : Prop := ∃ (A : Option Addr) (k : Nat) (c : Cel), v = (celAV A k c).den ∧ Ok m0 w (celAV A k c) ∧ U64 c.version ∧ ∀ m ∈ c.marks, MarkU m
def InOpr (w : World) (v : Value) : Prop := ∃ o : Opr, v = (opAV o).den ∧ Ok m0 w (opAV o) ∧ U64 o.req ∧ U64 o.version
def InU (w : World) (v : Value) : Prop := ∃ n : Int, v = .int .u64 n ∧ U64 n
def InI (w : World) (v : Value) : Prop := ∃ n : Int, v = .int .i64 n
def InS (w : World) (v : Value) : Prop := ∃ s : ByteArray, v = .string s ∧ s.size ≤ maxLen
theorem reads_marks {m : Nat → Nat → Prop} {w : World} {A : Option Addr} {k : Nat} {l : List Mark} (hl : l.length ≤ k) (hk : k ≤ maxLen) (hs : ∀ x ∈ l, x.ans.val.size ≤ maxLen)
    (h : 0 < (l.flatMap Mark.enc).length → ∃ b off, A = some ⟨b, off, none⟩ ∧ ∀ j u, (l.flatMap Mark.enc)[j]? = some u → w.cell? ⟨b, off + j, none⟩ = some u ∧ ¬ m b (off + j)) : Ok m w (marksAV A k l) := by
  have hg : ∀ i (hi : i < l.length), l.getD i zeroMark = l[i] := fun i hi => by simp [List.getD, hi]
  have hpos : ∀ i, i < l.length → 0 < (l.flatMap Mark.enc).length := fun i hi => by rw [flat_length Mark.enc_len]; omega
  refine .sl _ _ _ _ _ _ hl hk (fun i _ => rfl) (fun i hi => ?_) (fun i hi j u hu => ?_) (fun i hi v hv => ?_) (fun i hi v hv => ?_)
  · obtain ⟨b, off, hA, _⟩ := h (hpos i hi); exact ⟨b, off, hA⟩
  · obtain ⟨b, off, hA, hc⟩ := h (hpos i hi)
    have hu' : (Mark.enc (l.getD i zeroMark))[j]? = some u := hu
    rw [hg i hi] at hu'
    exact ⟨b, off, hA, hc _ u (flat_get Mark.enc_len (List.getElem?_eq_getElem hi) hu')⟩
  · simp only [markC, List.mem_cons, List.not_mem_nil, or_false] at hv
    rcases hv with rfl | rfl | rfl | rfl | rfl | rfl <;> rfl
  · simp only [markC, List.mem_cons, List.not_mem_nil, or_false] at hv
    rcases hv with rfl | rfl | rfl | rfl | rfl | rfl
    · exact .int _ _
    · exact .int _ _
    · exact .int _ _
    · exact .int _ _
    · exact .bool _
    · exact .str _ (by rw [hg i hi]; exact hs _ (List.getElem_mem hi))
def opE (o : Opr) : List Value := [.int .i64 o.client, .int .u64 o.req, .int .i64 o.kind, .int .u64 o.version, .string o.val]
def ansE (x : Ans) : List Value := [.int .i64 x.code, .int .u64 x.version, .bool x.has, .string x.val]
theorem opC_ok {m : Nat → Nat → Prop} {w : World} {o : Opr} (h : o.val.size ≤ maxLen) : ∀ v ∈ opC o, v.one = true ∧ Ok m w v := by
  intro v hv
  simp only [opC, List.mem_cons, List.not_mem_nil, or_false] at hv
  rcases hv with rfl | rfl | rfl | rfl | rfl
  · exact ⟨rfl, .int _ _⟩
  · exact ⟨rfl, .int _ _⟩
  · exact ⟨rfl, .int _ _⟩
  · exact ⟨rfl, .int _ _⟩
  · exact ⟨rfl, .str _ h⟩
theorem ansC_ok {m : Nat → Nat → Prop} {w : World} {o : Ans} (h : o.val.size ≤ maxLen) : ∀ v ∈ ansC o, v.one = true ∧ Ok m w v := by
  intro v hv
  simp only [ansC, List.mem_cons, List.not_mem_nil, or_false] at hv
  rcases hv with rfl | rfl | rfl | rfl
  · exact ⟨rfl, .int _ _⟩
  · exact ⟨rfl, .int _ _⟩
  · exact ⟨rfl, .bool _⟩
  · exact ⟨rfl, .str _ h⟩
theorem keyC_ok {m : Nat → Nat → Prop} {w : World} {K : Nat → Int} : ∀ v ∈ keyC K, v.one = true ∧ Ok m w v := by
  intro v hv
  rw [keyC_eq] at hv
  obtain ⟨i, _, rfl⟩ := List.mem_map.1 hv
  exact ⟨rfl, .int _ _⟩
theorem celC_ok {m : Nat → Nat → Prop} {w : World} {A : Option Addr} {k : Nat} {c : Cel} (h : Ok m w (marksAV A k c.marks)) (hs : c.val.size ≤ maxLen) : ∀ v ∈ celC A k c, v.one = true ∧ Ok m w v := by
  intro v hv
  simp only [celC, List.mem_cons, List.not_mem_nil, or_false] at hv
  rcases hv with rfl | rfl | rfl | rfl
  · exact ⟨rfl, .int _ _⟩
  · exact ⟨rfl, .bool _⟩
  · exact ⟨rfl, .str _ hs⟩
  · exact ⟨rfl, h⟩
theorem agg_ok {m : Nat → Nat → Prop} {w : World} {l : List AV} (h : ∀ v ∈ l, v.one = true ∧ Ok m w v) : Ok m w (.agg l) := .agg _ (fun v hv => (h v hv).1) (fun v hv => (h v hv).2)
section
variable {H : Type} {enc : TypeId × Value → H} {w : World} {base : Nat} {spare : Nat → Bool} {held : Bool}
theorem dec_ans (n : Nat) (cs : List Value) (y : DataW H × List MemPlace) (h : DataW.trod enc Tryd.prog w base spare held n 29 cs = some y) : ∃ x : Ans, cs = ansE x ∧ x.val.size ≤ maxLen ∧ U64 x.version := by
  obtain ⟨xs, m, rfl, rfl, hlen, hxl, hf⟩ := DataW.trod_struct Tryd.underlying29 h
  have hC : Tryd.prog.cellsOf 29 = 4 := by kernel_rfl
  have h0 : DataW.trod enc Tryd.prog w base spare held m 27 ((cs.drop 0).take (Tryd.prog.cellsOf 27)) = xs[0]? := hf 0 _ rfl
  have h1 : DataW.trod enc Tryd.prog w base spare held m 22 ((cs.drop 1).take (Tryd.prog.cellsOf 22)) = xs[1]? := hf 1 _ rfl
  have h2 : DataW.trod enc Tryd.prog w base spare held m 4 ((cs.drop 2).take (Tryd.prog.cellsOf 4)) = xs[2]? := hf 2 _ rfl
  have h3 : DataW.trod enc Tryd.prog w base spare held m 9 ((cs.drop 3).take (Tryd.prog.cellsOf 9)) = xs[3]? := hf 3 _ rfl
  rw [hC] at hlen
  rw [show Tryd.prog.cellsOf 27 = 1 by kernel_rfl] at h0
  rw [show Tryd.prog.cellsOf 22 = 1 by kernel_rfl] at h1
  rw [show Tryd.prog.cellsOf 4 = 1 by kernel_rfl] at h2
  rw [show Tryd.prog.cellsOf 9 = 1 by kernel_rfl] at h3
  match cs, hlen with
  | [c0, c1, c2, c3], _ =>
    match xs, hxl with
    | [y0, y1, y2, y3], _ =>
      obtain ⟨a, e0, _, _⟩ := DataW.trod_int Tryd.underlying27 h0
      obtain ⟨b, e1, _, wb⟩ := DataW.trod_int Tryd.underlying22 h1
      obtain ⟨c, e2, _⟩ := DataW.trod_bool Tryd.underlying4 h2
      obtain ⟨s, e3, _, ws⟩ := DataW.trod_string Tryd.underlying9 h3
      simp at e0 e1 e2 e3
      subst e0; subst e1; subst e2; subst e3
      exact ⟨⟨a, b, c, s⟩, rfl, ws, u64_wf wb⟩
theorem dec_opr (n : Nat) (cs : List Value) (y : DataW H × List MemPlace) (h : DataW.trod enc Tryd.prog w base spare held n 26 cs = some y) : ∃ x : Opr, cs = opE x ∧ x.val.size ≤ maxLen ∧ U64 x.req ∧ U64 x.version := by
  obtain ⟨xs, m, rfl, rfl, hlen, hxl, hf⟩ := DataW.trod_struct Tryd.underlying26 h
  have hC : Tryd.prog.cellsOf 26 = 5 := by kernel_rfl
  have h0 : DataW.trod enc Tryd.prog w base spare held m 3 ((cs.drop 0).take (Tryd.prog.cellsOf 3)) = xs[0]? := hf 0 _ rfl
  have h1 : DataW.trod enc Tryd.prog w base spare held m 22 ((cs.drop 1).take (Tryd.prog.cellsOf 22)) = xs[1]? := hf 1 _ rfl
  have h2 : DataW.trod enc Tryd.prog w base spare held m 3 ((cs.drop 2).take (Tryd.prog.cellsOf 3)) = xs[2]? := hf 2 _ rfl
  have h3 : DataW.trod enc Tryd.prog w base spare held m 22 ((cs.drop 3).take (Tryd.prog.cellsOf 22)) = xs[3]? := hf 3 _ rfl
  have h4 : DataW.trod enc Tryd.prog w base spare held m 9 ((cs.drop 4).take (Tryd.prog.cellsOf 9)) = xs[4]? := hf 4 _ rfl
  rw [hC] at hlen
  rw [show Tryd.prog.cellsOf 3 = 1 by kernel_rfl] at h0 h2
  rw [show Tryd.prog.cellsOf 22 = 1 by kernel_rfl] at h1 h3
  rw [show Tryd.prog.cellsOf 9 = 1 by kernel_rfl] at h4
  match cs, hlen with
  | [c0, c1, c2, c3, c4], _ =>
    match xs, hxl with
    | [y0, y1, y2, y3, y4], _ =>
      obtain ⟨a, e0, _, _⟩ := DataW.trod_int Tryd.underlying3 h0
      obtain ⟨b, e1, _, wb⟩ := DataW.trod_int Tryd.underlying22 h1
      obtain ⟨c, e2, _, _⟩ := DataW.trod_int Tryd.underlying3 h2
      obtain ⟨d', e3, _, wd⟩ := DataW.trod_int Tryd.underlying22 h3
      obtain ⟨s, e4, _, ws⟩ := DataW.trod_string Tryd.underlying9 h4
      simp at e0 e1 e2 e3 e4
      subst e0; subst e1; subst e2; subst e3; subst e4
      exact ⟨⟨a, b, c, d', s⟩, rfl, ws, u64_wf wb, u64_wf wd⟩
theorem dec_mark (n : Nat) (cs : List Value) (y : DataW H × List MemPlace) (h : DataW.trod enc Tryd.prog w base spare held n 62 cs = some y) : ∃ x : Mark, cs = x.enc ∧ (x.ans.val.size ≤ maxLen ∧ MarkU x) := by
  obtain ⟨xs, m, rfl, rfl, hlen, hxl, hf⟩ := DataW.trod_struct Tryd.underlying62 h
  have hC : Tryd.prog.cellsOf 62 = 6 := by kernel_rfl
  have h0 : DataW.trod enc Tryd.prog w base spare held m 3 ((cs.drop 0).take (Tryd.prog.cellsOf 3)) = xs[0]? := hf 0 _ rfl
  have h1 : DataW.trod enc Tryd.prog w base spare held m 22 ((cs.drop 1).take (Tryd.prog.cellsOf 22)) = xs[1]? := hf 1 _ rfl
  have h2 : DataW.trod enc Tryd.prog w base spare held m 29 ((cs.drop 2).take (Tryd.prog.cellsOf 29)) = xs[2]? := hf 2 _ rfl
  rw [hC] at hlen
  rw [show Tryd.prog.cellsOf 3 = 1 by kernel_rfl] at h0
  rw [show Tryd.prog.cellsOf 22 = 1 by kernel_rfl] at h1
  rw [show Tryd.prog.cellsOf 29 = 4 by kernel_rfl] at h2
  match cs, hlen with
  | [c0, c1, c2, c3, c4, c5], _ =>
    match xs, hxl with
    | [y0, y1, y2], _ =>
      obtain ⟨a, e0, _, _⟩ := DataW.trod_int Tryd.underlying3 h0
      obtain ⟨b, e1, _, wb⟩ := DataW.trod_int Tryd.underlying22 h1
      obtain ⟨x, e2, ws, wx⟩ := dec_ans _ _ _ h2
      simp [ansE] at e0 e1 e2
      obtain ⟨rfl, rfl, rfl, rfl⟩ := e2
      subst e0; subst e1
      exact ⟨⟨a, b, x⟩, rfl, ws, u64_wf wb, wx⟩
theorem dec_cel (n : Nat) (cs : List Value) (y : DataW H × List MemPlace) (h : DataW.trod enc Tryd.prog w base spare held n 32 cs = some y) : ∃ (A : Option Addr) (k : Nat) (c : Cel), cs = (celC A k c).map AV.den ∧ Ok m0 w (marksAV A k c.marks) ∧ c.val.size ≤ maxLen ∧ U64 c.version ∧ ∀ m ∈ c.marks, MarkU m := by
  obtain ⟨xs, m, rfl, rfl, hlen, hxl, hf⟩ := DataW.trod_struct Tryd.underlying32 h
  have hC : Tryd.prog.cellsOf 32 = 4 := by kernel_rfl
  have h0 : DataW.trod enc Tryd.prog w base spare held m 22 ((cs.drop 0).take (Tryd.prog.cellsOf 22)) = xs[0]? := hf 0 _ rfl
  have h1 : DataW.trod enc Tryd.prog w base spare held m 4 ((cs.drop 1).take (Tryd.prog.cellsOf 4)) = xs[1]? := hf 1 _ rfl
  have h2 : DataW.trod enc Tryd.prog w base spare held m 9 ((cs.drop 2).take (Tryd.prog.cellsOf 9)) = xs[2]? := hf 2 _ rfl
  have h3 : DataW.trod enc Tryd.prog w base spare held m 30 ((cs.drop 3).take (Tryd.prog.cellsOf 30)) = xs[3]? := hf 3 _ rfl
  rw [hC] at hlen
  rw [show Tryd.prog.cellsOf 22 = 1 by kernel_rfl] at h0
  rw [show Tryd.prog.cellsOf 4 = 1 by kernel_rfl] at h1
  rw [show Tryd.prog.cellsOf 9 = 1 by kernel_rfl] at h2
  rw [show Tryd.prog.cellsOf 30 = 1 by kernel_rfl] at h3
  match cs, hlen with
  | [c0, c1, c2, c3], _ =>
    match xs, hxl with
    | [y0, y1, y2, y3], _ =>
      obtain ⟨a, e0, _, wa⟩ := DataW.trod_int Tryd.underlying22 h0
      obtain ⟨b, e1, _⟩ := DataW.trod_bool Tryd.underlying4 h1
      obtain ⟨s, e2, _, ws⟩ := DataW.trod_string Tryd.underlying9 h2
      obtain ⟨A, c, l, e3, hr, hl, hm, hwf⟩ := trod_list (en := Mark.enc) Tryd.underlying30 (k := 6) (by kernel_rfl) Mark.enc_len (by decide) dec_mark h3
      simp at e0 e1 e2 e3
      subst e0; subst e1; subst e2; subst e3
      refine ⟨A, c, ⟨a, b, s, l⟩, rfl, reads_marks hl hm (fun x hx => (hwf x hx).1) (fun hp => ?_), ws, u64_wf wa, fun x hx => (hwf x hx).2⟩
      obtain ⟨b, off, hA, _, hc⟩ := hr hp
      exact ⟨b, off, hA, fun j u hu => ⟨hc j u hu, id⟩⟩
theorem dec_key (n : Nat) (cs : List Value) (y : DataW H × List MemPlace) (h : DataW.trod enc Tryd.prog w base spare held n 24 cs = some y) : ∃ l : List UInt8, l.length = 20 ∧ cs = (keyC (kI l)).map AV.den := by
  have harr : Tryd.prog.underlying 24 = some (.array 20 5) := by kernel_rfl
  obtain ⟨xs, m, rfl, rfl, hlen, hxl, hf⟩ := DataW.trod_array harr h
  have hC : Tryd.prog.cellsOf 24 = 20 := by kernel_rfl
  have hC1 : Tryd.prog.cellsOf 5 = 1 := by kernel_rfl
  rw [hC] at hlen
  rw [hC1] at hf
  have hb : ∀ i, i < 20 → ∃ c : UInt8, cs[i]? = some (.int .u8 (c.toNat : Int)) := by
    intro i hi
    have h1 := hf i hi
    rw [List.getElem?_eq_getElem (show i < xs.length by omega)] at h1
    obtain ⟨a, e, _, wa⟩ := DataW.trod_int Tryd.underlying5 h1
    obtain ⟨w0, w1⟩ := u8_wf wa
    refine ⟨UInt8.ofNat a.toNat, ?_⟩
    have h2 := congrArg (·[0]?) e
    simp only [Nat.mul_one, List.getElem?_take, Nat.lt_one_iff, if_true, List.getElem?_drop, Nat.add_zero, List.getElem?_cons_zero] at h2
    rw [h2, UInt8.toNat_ofNat', Nat.mod_eq_of_lt (by omega), Int.toNat_of_nonneg w0]
  let f : Value → UInt8 := fun v => match v with | .int .u8 a => UInt8.ofNat a.toNat | _ => 0
  refine ⟨cs.map f, by simp [hlen], ?_⟩
  rw [← bytes_key (by simp [hlen])]
  simp only [bytesAV, List.map_map]
  apply List.ext_getElem (by simp)
  intro i h1 h2
  obtain ⟨c, hc⟩ := hb i (by omega)
  rw [List.getElem?_eq_getElem h1] at hc
  injection hc with hc
  simp only [List.getElem_map, Function.comp, hc, f, AV.den, Int.toNat_natCast, UInt8.ofNat_toNat]
theorem cut_at (l : List Value) (a n : Nat) : l.drop a = (l.drop a).take n ++ l.drop (a + n) := by
  rw [← List.drop_drop, List.take_append_drop]
theorem dec_par (n : Nat) (cs : List Value) (y : DataW H × List MemPlace) (h : DataW.trod enc Tryd.prog w base spare held n 34 cs = some y) : ∃ (A : Option Addr) (k : Nat) (p : Par), cs = (parC (kI p.key) (marksAV A k p.cell.marks) p).map AV.den ∧ Ok m0 w (parAV A k p) ∧ ParU p := by
  obtain ⟨xs, m, rfl, rfl, hlen, hxl, hf⟩ := DataW.trod_struct Tryd.underlying34 h
  have hC : Tryd.prog.cellsOf 34 = 36 := by kernel_rfl
  have h0 : DataW.trod enc Tryd.prog w base spare held m 3 ((cs.drop 0).take (Tryd.prog.cellsOf 3)) = xs[0]? := hf 0 _ rfl
  have h1 : DataW.trod enc Tryd.prog w base spare held m 22 ((cs.drop 1).take (Tryd.prog.cellsOf 22)) = xs[1]? := hf 1 _ rfl
  have h2 : DataW.trod enc Tryd.prog w base spare held m 24 ((cs.drop 2).take (Tryd.prog.cellsOf 24)) = xs[2]? := hf 2 _ rfl
  have h3 : DataW.trod enc Tryd.prog w base spare held m 26 ((cs.drop 22).take (Tryd.prog.cellsOf 26)) = xs[3]? := hf 3 _ rfl
  have h4 : DataW.trod enc Tryd.prog w base spare held m 29 ((cs.drop 27).take (Tryd.prog.cellsOf 29)) = xs[4]? := hf 4 _ rfl
  have h5 : DataW.trod enc Tryd.prog w base spare held m 22 ((cs.drop 31).take (Tryd.prog.cellsOf 22)) = xs[5]? := hf 5 _ rfl
  have h6 : DataW.trod enc Tryd.prog w base spare held m 32 ((cs.drop 32).take (Tryd.prog.cellsOf 32)) = xs[6]? := hf 6 _ rfl
  rw [hC] at hlen
  rw [show Tryd.prog.cellsOf 3 = 1 by kernel_rfl] at h0
  rw [show Tryd.prog.cellsOf 22 = 1 by kernel_rfl] at h1 h5
  rw [show Tryd.prog.cellsOf 24 = 20 by kernel_rfl] at h2
  rw [show Tryd.prog.cellsOf 26 = 5 by kernel_rfl] at h3
  rw [show Tryd.prog.cellsOf 29 = 4 by kernel_rfl] at h4
  rw [show Tryd.prog.cellsOf 32 = 4 by kernel_rfl] at h6
  have hcs : cs = (cs.drop 0).take 1 ++ ((cs.drop 1).take 1 ++ ((cs.drop 2).take 20 ++ ((cs.drop 22).take 5 ++ ((cs.drop 27).take 4 ++ ((cs.drop 31).take 1 ++ (cs.drop 32).take 4))))) := by
    have e6 : cs.drop 32 = (cs.drop 32).take 4 := by rw [List.take_of_length_le (by rw [List.length_drop]; omega)]
    have e0 : cs = cs.drop 0 := rfl
    conv => lhs; rw [e0, cut_at cs 0 1, cut_at cs 1 1, cut_at cs 2 20, cut_at cs 22 5, cut_at cs 27 4, cut_at cs 31 1]
    rw [← e6]
  match xs, hxl with
  | [y0, y1, y2, y3, y4, y5, y6], _ =>
    obtain ⟨k0, e0, _, _⟩ := DataW.trod_int Tryd.underlying3 h0
    obtain ⟨ep, e1, _, w1⟩ := DataW.trod_int Tryd.underlying22 h1
    obtain ⟨ky, hky, e2⟩ := dec_key _ _ _ h2
    obtain ⟨o, e3, w3, u3, u3'⟩ := dec_opr _ _ _ h3
    obtain ⟨a, e4, w4, u4⟩ := dec_ans _ _ _ h4
    obtain ⟨sr, e5, _, w5⟩ := DataW.trod_int Tryd.underlying22 h5
    obtain ⟨A, k, c, e6, w6, w6', u6, u6'⟩ := dec_cel _ _ _ h6
    rw [e0, e1, e2, e3, e4, e5, e6] at hcs
    refine ⟨A, k, ⟨k0, ep, ky, o, a, sr, c⟩, ?_, ?_, hky, u64_wf w1, u3, u3', u4, u64_wf w5, u6, u6'⟩
    · rw [hcs]
      simp only [parC, List.map_append, List.append_assoc]
      rfl
    · refine agg_ok fun v hv => ?_
      simp only [parC, List.append_assoc, List.mem_append] at hv
      rcases hv with hv | hv | hv | hv | hv
      · simp only [List.mem_cons, List.not_mem_nil, or_false] at hv
        rcases hv with rfl | rfl <;> exact ⟨rfl, .int _ _⟩
      · exact keyC_ok v hv
      · exact opC_ok w3 v hv
      · exact ansC_ok w4 v hv
      · rcases List.mem_cons.1 hv with rfl | hv
        · exact ⟨rfl, .int _ _⟩
        · exact celC_ok w6 w6' v hv
variable {r : Reach} {b0 : Nat} {v : Value} {d : DataW H} {p : List MemPlace}
theorem in_par (hv : Value.okWide Tryd.prog w r b0 34 v) (h : DataW.Trod enc Tryd.prog w base spare held 34 v d p) : InPar w v := by
  obtain ⟨cs, rfl, _⟩ := okWide_struct Tryd.underlying34 hv
  obtain ⟨fuel, hf⟩ := h
  obtain ⟨A, k, q, e, h1, h2⟩ := dec_par _ _ _ hf
  refine ⟨A, k, q, ?_, h1, h2⟩
  simp only [Value.cells] at e
  rw [parAV, AV.den, denL_map, ← e]
theorem in_cel (hv : Value.okWide Tryd.prog w r b0 32 v) (h : DataW.Trod enc Tryd.prog w base spare held 32 v d p) : InCel w v := by
  obtain ⟨cs, rfl, _⟩ := okWide_struct Tryd.underlying32 hv
  obtain ⟨fuel, hf⟩ := h
  obtain ⟨A, k, c, e, h1, h2, h3, h4⟩ := dec_cel _ _ _ hf
  refine ⟨A, k, c, ?_, agg_ok (celC_ok h1 h2), h3, h4⟩
  simp only [Value.cells] at e
  rw [celAV, AV.den, denL_map, ← e]
theorem in_opr (hv : Value.okWide Tryd.prog w r b0 26 v) (h : DataW.Trod enc Tryd.prog w base spare held 26 v d p) : InOpr w v := by
  obtain ⟨cs, rfl, _⟩ := okWide_struct Tryd.underlying26 hv
  obtain ⟨fuel, hf⟩ := h
  obtain ⟨o, e, h1, h2, h3⟩ := dec_opr _ _ _ hf
  refine ⟨o, ?_, agg_ok (opC_ok h1), h2, h3⟩
  simp only [Value.cells] at e
  rw [opAV, AV.den, denL_map, show (opC o).map AV.den = opE o from rfl, ← e]
theorem in_u (hv : Value.okWide Tryd.prog w r b0 22 v) (h : DataW.Trod enc Tryd.prog w base spare held 22 v d p) : InU w v := by
  obtain ⟨n, rfl, hw⟩ := in_int Tryd.underlying22 hv h
  exact ⟨n, rfl, u64_wf hw⟩
theorem in_i (hv : Value.okWide Tryd.prog w r b0 3 v) (h : DataW.Trod enc Tryd.prog w base spare held 3 v d p) : InI w v := by
  obtain ⟨n, rfl, hw⟩ := in_int Tryd.underlying3 hv h
  exact ⟨n, rfl⟩
theorem in_s (hv : Value.okWide Tryd.prog w r b0 9 v) (h : DataW.Trod enc Tryd.prog w base spare held 9 v d p) : InS w v := in_string Tryd.underlying9 hv h
end
end Go.Proofs.YtkamdppnnhjajaaDoor.Sym

namespace Go.Proofs.YtkamdppnnhjajaaDoor.Sym
open Go Go.ChangeShapes Go.WideShapes Go.ChangeAt Go.RowKit Go.Deep
set_option linter.unusedVariables false

theorem et_ : Tryd.prog.globalNamed "errors.errorType" = some 0 := by kernel_rfl
theorem rt_ : (Tryd.prog.cutTypes.find? (·.1 == "internal/reflectlite.rtype")).map (·.2) = some 140 := by kernel_rfl
theorem oneRow_ : ((List.range 192).filter fun t => Tryd.prog.rowNamed t [101, 114, 114, 111, 114]) = [69] := by kernel_rfl
theorem size_ : Tryd.prog.types.size = 192 := by kernel_rfl
abbrev laidL : List (String × DataW Unit) := [("errors.errorType", Rows.laid_errors_errorType)]
theorem glob_laid {W : World} (h : laidMetH Tryd.prog laidL W) : Glob W := by
  have h' : laidMet Tryd.prog [] W ∧ handlesMet Tryd.prog laidL W := h
  obtain ⟨name, u, ty, e1, e2, e3, e4, e5⟩ := h'.2 _ (List.mem_singleton.2 rfl)
  have en : name = [101, 114, 114, 111, 114] := (Option.some.inj e1).symm
  subst en
  obtain rfl := Option.some.inj (rt_.symm.trans e2)
  have hm : ty ∈ (List.range 192).filter fun t => Tryd.prog.rowNamed t [101, 114, 114, 111, 114] := List.mem_filter.2 ⟨List.mem_range.2 (by rw [← size_]; exact e3), e4⟩
  rw [oneRow_] at hm
  obtain rfl := List.mem_singleton.1 hm
  have hh : typeHandle Tryd.prog 69 = .pointer (some ⟨1, 69, none⟩) := by kernel_rfl
  rw [hh] at e5
  have := World.var?_cell et_ e5 0
  unfold Glob gV
  simpa using this
/-- A world that meets the condition: the settled one, the variable's cell laid. -/
noncomputable def laidWorld (os : Os) : World :=
  let w0 := World.holding Tryd.prog os ⟨#[], #[], []⟩
  { w0 with heap := w0.heap.modify 0 fun
      | .cells _ t frozen => .cells #[gV] t frozen
      | o => o }
theorem laidWorld_met (os : Os) (args : Array Value) : laidMetH Tryd.prog laidL ((laidWorld os).forCall (fun _ _ => 0) ⟨#[], args, []⟩).memory :=
  laidMetH_of_parts (laidMet_nil _ _) (by kernel_rfl)
end Go.Proofs.YtkamdppnnhjajaaDoor.Sym

namespace Go.Proofs.YtkamdppnnhjajaaDoor.Sym
open Go Go.RowKit
set_option maxRecDepth 100000
set_option maxHeartbeats 1600000
set_option linter.unusedVariables false
set_option linter.unusedSimpArgs false
def labAV (l : Lab) : AV := .agg [.int .i64 l.len, .int .u64 l.bits]
/-- the label of a text of bits -/
def ofT (s : ByteArray) : Lab := ⟨s.size, (numB (unB s ++ List.replicate (64 - s.size) 48) : Nat)⟩
theorem eqL_lab (l k : Lab) : eqL [.int .i64 l.len, .int .u64 l.bits] [.int .i64 k.len, .int .u64 k.bits] = decide (l = k) := by
  obtain ⟨a, b⟩ := l
  obtain ⟨c, d⟩ := k
  rw [Bool.eq_iff_iff]
  simp [eqL, eqC]
end Go.Proofs.YtkamdppnnhjajaaDoor.Sym

namespace Go.Proofs.YtkamdppnnhjajaaDoor.Sym
open Go Go.RowKit
set_option maxRecDepth 100000
set_option maxHeartbeats 1600000
set_option linter.unusedVariables false
set_option linter.unusedSimpArgs false
def T105 : List (Nat × TI) := [(3, ti3), (5, ti5), (9, ti9), (22, ti22)]
theorem T105_ok : TabOK Tryd.prog T105 := .cons t3 (.cons t5 (.cons t9 (.cons t22 (.nil))))
theorem enters105 : Enters Tryd.prog 105 := fun _ _ => by kernel_rfl
theorem len64_s (v : Int) (hv : U64 v) : Spec Tryd.prog 105 [.int .u64 v] (fun _ => .int .i64 (Lib.bitLen v.toNat : Int)) := by
  intro m w hm hargs
  have hv1 := hv.1
  have hv2 := hv.2
  refine enter hm hargs Tryd.func105 rfl (by simp [Tryd.ntmps105]) fun a0 hF => ?_
  simp only [Tryd.ntmps105, startT] at hF
  obtain ⟨B, hB⟩ : ∃ B, B = std := ⟨_, rfl⟩
  refine wp_seq ?_
  apply region_okB hB T105_ok [0, 2] [] [] hF
  case hex => intro A X; conv => lhs; cbv
  case hob =>
    intro X
    subst hB
    simp [AllOb, Ob.holds, BE.den, std, stdCmp, stdArith] <;> omega
  case hQ =>
  intro X0 a0 w1 hF
  refine wp_seq ?_
  refine wp_seq ?_
  apply region_okB hB T105_ok [4, 0, 2] [] [] hF
  case hex => intro A X; conv => lhs; cbv
  case hob =>
    intro X
    subst hB
    simp [AllOb, Ob.holds, BE.den, std, stdCmp, stdArith] <;> omega
  case hQ =>
  intro X1 a0 w1 hF
  refine cut_one (ι := Int × Int) (S0 := [(4, _), (0, _), (2, _)]) (M0 := []) (G0 := []) (fun p => [(0, .int .u64 p.1), (2, .int .i64 p.2)]) (fun p => []) (fun p => []) (fun p => 0 ≤ p.1 ∧ p.1 < 4294967296 ∧ 0 ≤ p.2 ∧ p.2 ≤ 32 ∧ (Lib.bitLen v.toNat : Int) = p.2 + Lib.bitLen p.1.toNat) hF ?_ ?_
  · skip
    refine test_ok hF rfl (fun hb hF => ?_) (fun hb hF => ?_)
    · skip
      have hge : 4294967296 ≤ v := by subst hB; simpa [std, stdCmp] using hb
      have ex : B.shift .shr .u64 v 32 = ((v.toNat / 4294967296 : Nat) : Int) := by subst hB; exact shr_u64 ⟨by omega, by omega⟩ 32 (by decide)
      have ey := Lib.bitLen_shift32 v.toNat (by omega) (by omega)
      have q1 : 0 ≤ B.shift .shr .u64 v 32 := by rw [ex]; omega
      have q2 : B.shift .shr .u64 v 32 < 4294967296 := by rw [ex]; omega
      have q3 : (0 : Int) ≤ 32 := by decide
      have q4 : (32 : Int) ≤ 32 := by decide
      have q5 : (Lib.bitLen v.toNat : Int) = 32 + Lib.bitLen (B.shift .shr .u64 v 32).toNat := by rw [ex, Int.toNat_natCast, ey]; simp
      refine wp_seq ?_
      apply region_okB hB T105_ok [0] [] [] hF
      case hex => intro A X; conv => lhs; cbv
      case hob =>
        intro X
        subst hB
        simp [AllOb, Ob.holds, BE.den, std, stdCmp, stdArith] <;> omega
      case hQ =>
      intro X2 a0 w1 hF
      apply region_okB hB T105_ok [0, 2] [] [] hF
      case hex => intro A X; conv => lhs; cbv
      case hob =>
        intro X
        subst hB
        simp [AllOb, Ob.holds, BE.den, std, stdCmp, stdArith] <;> omega
      case hQ =>
      intro X3 a0 w1 hF
      exact ⟨(_, _), ⟨q1, q2, q3, q4, q5⟩, hF⟩
    · skip
      have hlt : v < 4294967296 := by subst hB; simpa [std, stdCmp] using hb
      have q1 : 0 ≤ v := by omega
      have q2 : v < 4294967296 := hlt
      have q3 : 0 ≤ (0 : Int) := by omega
      have q4 : (0 : Int) ≤ 32 := by omega
      have q5 : (Lib.bitLen v.toNat : Int) = (0 : Int) + Lib.bitLen v.toNat := by simp
      refine wp_skip ?_
      exact ⟨(_, _), ⟨q1, q2, q3, q4, q5⟩, hF⟩
  · rintro ⟨x4, n4⟩ ⟨ha4, hb4, hc4, hd4, he4⟩ a0 w1 hF
    try dsimp only at ha4
    try dsimp only at hb4
    try dsimp only at hc4
    try dsimp only at hd4
    try dsimp only at he4
    refine wp_seq ?_
    refine wp_seq ?_
    apply region_okB hB T105_ok [8, 0, 2] [] [] hF
    case hex => intro A X; conv => lhs; cbv
    case hob =>
      intro X
      subst hB
      simp [AllOb, Ob.holds, BE.den, std, stdCmp, stdArith] <;> omega
    case hQ =>
    intro X4 a0 w1 hF
    refine cut_one (ι := Int × Int) (S0 := [(8, _), (0, _), (2, _)]) (M0 := []) (G0 := []) (fun p => [(0, .int .u64 p.1), (2, .int .i64 p.2)]) (fun p => []) (fun p => []) (fun p => 0 ≤ p.1 ∧ p.1 < 65536 ∧ 0 ≤ p.2 ∧ p.2 ≤ 48 ∧ (Lib.bitLen v.toNat : Int) = p.2 + Lib.bitLen p.1.toNat) hF ?_ ?_
    · skip
      refine test_ok hF rfl (fun hb hF => ?_) (fun hb hF => ?_)
      · skip
        have hge : 65536 ≤ x4 := by subst hB; simpa [std, stdCmp] using hb
        have ex : B.shift .shr .u64 x4 16 = ((x4.toNat / 65536 : Nat) : Int) := by subst hB; exact shr_u64 ⟨by omega, by omega⟩ 16 (by decide)
        have ey := Lib.bitLen_shift16 x4.toNat (by omega) (by omega)
        have en : B.arith .add .i64 n4 16 = n4 + 16 := by subst hB; exact wrap_in (by omega) (by omega)
        have q1 : 0 ≤ B.shift .shr .u64 x4 16 := by rw [ex]; omega
        have q2 : B.shift .shr .u64 x4 16 < 65536 := by rw [ex]; omega
        have q3 : 0 ≤ B.arith .add .i64 n4 16 := by rw [en]; omega
        have q4 : B.arith .add .i64 n4 16 ≤ 48 := by rw [en]; omega
        have q5 : (Lib.bitLen v.toNat : Int) = B.arith .add .i64 n4 16 + Lib.bitLen (B.shift .shr .u64 x4 16).toNat := by rw [en, ex, Int.toNat_natCast, he4, ey]; omega
        refine wp_seq ?_
        apply region_okB hB T105_ok [0, 2] [] [] hF
        case hex => intro A X; conv => lhs; cbv
        case hob =>
          intro X
          subst hB
          simp [AllOb, Ob.holds, BE.den, std, stdCmp, stdArith] <;> omega
        case hQ =>
        intro X5 a0 w1 hF
        apply region_okB hB T105_ok [0, 2] [] [] hF
        case hex => intro A X; conv => lhs; cbv
        case hob =>
          intro X
          subst hB
          simp [AllOb, Ob.holds, BE.den, std, stdCmp, stdArith] <;> omega
        case hQ =>
        intro X6 a0 w1 hF
        exact ⟨(_, _), ⟨q1, q2, q3, q4, q5⟩, hF⟩
      · skip
        have hlt : x4 < 65536 := by subst hB; simpa [std, stdCmp] using hb
        have q1 : 0 ≤ x4 := by omega
        have q2 : x4 < 65536 := hlt
        have q3 : 0 ≤ n4 := by omega
        have q4 : n4 ≤ 48 := by omega
        have q5 : (Lib.bitLen v.toNat : Int) = n4 + Lib.bitLen x4.toNat := by exact he4
        refine wp_skip ?_
        exact ⟨(_, _), ⟨q1, q2, q3, q4, q5⟩, hF⟩
    · rintro ⟨x8, n8⟩ ⟨ha8, hb8, hc8, hd8, he8⟩ a0 w1 hF
      try dsimp only at ha8
      try dsimp only at hb8
      try dsimp only at hc8
      try dsimp only at hd8
      try dsimp only at he8
      refine wp_seq ?_
      refine wp_seq ?_
      apply region_okB hB T105_ok [14, 0, 2] [] [] hF
      case hex => intro A X; conv => lhs; cbv
      case hob =>
        intro X
        subst hB
        simp [AllOb, Ob.holds, BE.den, std, stdCmp, stdArith] <;> omega
      case hQ =>
      intro X7 a0 w1 hF
      refine cut_one (ι := Int × Int) (S0 := [(14, _), (0, _), (2, _)]) (M0 := []) (G0 := []) (fun p => [(0, .int .u64 p.1), (2, .int .i64 p.2)]) (fun p => []) (fun p => []) (fun p => 0 ≤ p.1 ∧ p.1 < 256 ∧ 0 ≤ p.2 ∧ p.2 ≤ 56 ∧ (Lib.bitLen v.toNat : Int) = p.2 + Lib.bitLen p.1.toNat) hF ?_ ?_
      · skip
        refine test_ok hF rfl (fun hb hF => ?_) (fun hb hF => ?_)
        · skip
          have hge : 256 ≤ x8 := by subst hB; simpa [std, stdCmp] using hb
          have ex : B.shift .shr .u64 x8 8 = ((x8.toNat / 256 : Nat) : Int) := by subst hB; exact shr_u64 ⟨by omega, by omega⟩ 8 (by decide)
          have ey := Lib.bitLen_shift8 x8.toNat (by omega) (by omega)
          have en : B.arith .add .i64 n8 8 = n8 + 8 := by subst hB; exact wrap_in (by omega) (by omega)
          have q1 : 0 ≤ B.shift .shr .u64 x8 8 := by rw [ex]; omega
          have q2 : B.shift .shr .u64 x8 8 < 256 := by rw [ex]; omega
          have q3 : 0 ≤ B.arith .add .i64 n8 8 := by rw [en]; omega
          have q4 : B.arith .add .i64 n8 8 ≤ 56 := by rw [en]; omega
          have q5 : (Lib.bitLen v.toNat : Int) = B.arith .add .i64 n8 8 + Lib.bitLen (B.shift .shr .u64 x8 8).toNat := by rw [en, ex, Int.toNat_natCast, he8, ey]; omega
          refine wp_seq ?_
          apply region_okB hB T105_ok [0, 2] [] [] hF
          case hex => intro A X; conv => lhs; cbv
          case hob =>
            intro X
            subst hB
            simp [AllOb, Ob.holds, BE.den, std, stdCmp, stdArith] <;> omega
          case hQ =>
          intro X8 a0 w1 hF
          apply region_okB hB T105_ok [0, 2] [] [] hF
          case hex => intro A X; conv => lhs; cbv
          case hob =>
            intro X
            subst hB
            simp [AllOb, Ob.holds, BE.den, std, stdCmp, stdArith] <;> omega
          case hQ =>
          intro X9 a0 w1 hF
          exact ⟨(_, _), ⟨q1, q2, q3, q4, q5⟩, hF⟩
        · skip
          have hlt : x8 < 256 := by subst hB; simpa [std, stdCmp] using hb
          have q1 : 0 ≤ x8 := by omega
          have q2 : x8 < 256 := hlt
          have q3 : 0 ≤ n8 := by omega
          have q4 : n8 ≤ 56 := by omega
          have q5 : (Lib.bitLen v.toNat : Int) = n8 + Lib.bitLen x8.toNat := by exact he8
          refine wp_skip ?_
          exact ⟨(_, _), ⟨q1, q2, q3, q4, q5⟩, hF⟩
      · rintro ⟨x14, n14⟩ ⟨ha14, hb14, hc14, hd14, he14⟩ a0 w1 hF
        try dsimp only at ha14
        try dsimp only at hb14
        try dsimp only at hc14
        try dsimp only at hd14
        try dsimp only at he14
        refine wp_seq ?_
        apply region_okB hB T105_ok [2] [] [] hF
        case hex => intro A X; conv => lhs; cbv
        case hob =>
          intro X
          subst hB
          refine ⟨⟨?_, ?_⟩, trivial⟩
          · show 0 ≤ IntKind.u8.wrap x14
            obtain ⟨k, rfl⟩ := Int.eq_ofNat_of_zero_le ha14
            rw [wrap_u8]; omega
          · show IntKind.u8.wrap x14 < ((256 : Nat) : Int)
            obtain ⟨k, rfl⟩ := Int.eq_ofNat_of_zero_le ha14
            rw [wrap_u8]; omega
        case hQ =>
        intro X10 a0 w1 hF
        refine wp_ret ?_
        refine ret_spec (fn := Tryd.f105) T105_ok hF (rs := [.tmp 2]) rfl (rfl) ?_ noAtom ?_
        · subst hB; simp [AllOb, Ob.holds]
        · subst hB
          refine congrArg (AV.int IntKind.i64) ?_
          show IntKind.i64.wrap (n14 + IntKind.i64.wrap ((lenTab[(IntKind.u8.wrap x14).toNat]?.getD 0).toNat : Int)) = _
          obtain ⟨k, rfl⟩ := Int.eq_ofNat_of_zero_le ha14
          have hk : k < 256 := by omega
          rw [wrap_u8, Int.toNat_natCast, Nat.mod_eq_of_lt hk]
          have ht := lenTab_ok ⟨k, hk⟩
          have hm := Lib.bitLen_le8 ⟨k, hk⟩
          simp only at ht hm
          rw [ht, wrap_i64n _ (by omega), he14, Int.toNat_natCast]
          exact wrap_in (by omega) (by omega)
end Go.Proofs.YtkamdppnnhjajaaDoor.Sym

namespace Go.Proofs.YtkamdppnnhjajaaDoor.Sym
open Go Go.RowKit
set_option maxRecDepth 100000
set_option maxHeartbeats 1600000
set_option linter.unusedVariables false
set_option linter.unusedSimpArgs false
theorem isL_len {l : Lab} (h : isL l = true) : 0 ≤ l.len ∧ l.len ≤ 64 := by
  simp only [isL, Bool.and_eq_true, decide_eq_true_eq] at h
  exact h.1
theorem labL_len {l : Lab} (h : isL l = true) : (labL l).length = (l.len.toNat + 7) / 8 + 1 := by
  have := isL_len h
  simp [labL, bytesN_len]
  omega
theorem labL_get (l : Lab) : ∀ t, t < (l.len.toNat + 7) / 8 → t < 8 → (labL l)[t + 1]? = some (byN l.bits.toNat (7 - t)) := fun t ht h8 => by
  unfold labL
  rw [List.getElem?_cons_succ, List.getElem?_take_of_lt ht, bytesN_get _ _ _ h8]
theorem top_byte (b j : Nat) (hj : j < 8) : byN b (7 - j) = UInt8.ofNat (b * 256 ^ j % 2 ^ 64 / 2 ^ 56) := by
  apply UInt8.toNat_inj.1
  rw [byN_toNat, UInt8.toNat_ofNat', show (2 : Nat) ^ 64 = 2 ^ 56 * 256 from rfl, Nat.mod_mul_right_div_self, Nat.mod_mod]
  congr 1
  rw [show (2 : Nat) ^ 56 = 256 ^ 7 from rfl, show (256 : Nat) ^ 7 = 256 ^ (7 - j) * 256 ^ j by rw [← Nat.pow_add, show 7 - j + j = 7 by omega], Nat.mul_div_mul_right _ _ (Nat.pow_pos (by decide))]
theorem shl8 (b j : Nat) : std.shift .shl .u64 ((b * 256 ^ j % 2 ^ 64 : Nat) : Int) 8 = ((b * 256 ^ (j + 1) % 2 ^ 64 : Nat) : Int) := by
  show IntKind.u64.wrap (((b * 256 ^ j % 2 ^ 64 : Nat) : Int) * ((256 : Nat) : Int)) = _
  rw [← Int.natCast_mul, wrap_u64n, Nat.mod_mul_mod, Nat.mul_assoc, ← Nat.pow_succ]
def T90 : List (Nat × TI) := [(3, ti3), (5, ti5), (22, ti22), (133, ti133)]
theorem T90_ok : TabOK Tryd.prog T90 := .cons t3 (.cons t5 (.cons t22 (.cons t133 (.nil))))
theorem enters90 : Enters Tryd.prog 90 := fun _ _ => by kernel_rfl
theorem number_w (v : Int) (hv : U64 v) : Spec Tryd.prog 90 [.int .u64 v] (fun x => .sl none (x.A 0) (len8 v.toNat + 1) (len8 v.toNat + 1) 1 (bytesC (numL v.toNat))) := by
  intro m w hm hargs
  have hv64 : v.toNat < 2 ^ 64 := by have := hv.1; have := hv.2; omega
  have h8 := len8_le hv64
  have S := len64_s v hv
  generalize hz : ((Lib.bitLen v.toNat : Nat) : Int) = z at S
  have hz8 : IntKind.i64.wrap (IntKind.i64.wrap (IntKind.i64.wrap (z + 8) - 1) |>.tdiv 8) = (len8 v.toNat : Int) := by
    have := Lib.bitLen_le v.toNat 64 (by decide) hv64
    rw [wrap_in (x := z + 8) (by omega) (by omega), wrap_in (x := z + 8 - 1) (by omega) (by omega), show z + 8 - 1 = ((Lib.bitLen v.toNat + 7 : Nat) : Int) by omega]
    show IntKind.i64.wrap (((Lib.bitLen v.toNat + 7) / 8 : Nat) : Int) = _
    exact wrap_i64n _ (by unfold len8 at h8; omega)
  have hlenL := numL_len v.toNat
  have hhead : (numL v.toNat)[0]? = some (UInt8.ofNat (len8 v.toNat)) := rfl
  have htail : ∀ t, t < len8 v.toNat → (numL v.toNat)[t + 1]? = some (byN v.toNat (len8 v.toNat - 1 - t)) := fun t ht => by unfold numL; rw [List.getElem?_cons_succ]; exact bytesN_get _ _ t ht
  have hbyte := len8_byte hv64
  generalize numL v.toNat = L at hlenL hhead htail ⊢
  generalize hn : len8 v.toNat = n at h8 hz8 hlenL hhead htail hbyte ⊢
  refine enter hm hargs Tryd.func90 rfl (by simp [Tryd.ntmps90]) fun a0 hF => ?_
  simp only [Tryd.ntmps90, startT] at hF
  obtain ⟨B, hB⟩ : ∃ B, B = std := ⟨_, rfl⟩
  refine wp_seq ?_
  apply region_okB hB T90_ok [0] [] [] hF
  case hex => intro A X; conv => lhs; cbv
  case hob =>
    intro X
    subst hB
    simp [AllOb, Ob.holds, BE.den, std, stdCmp, stdArith] <;> omega
  case hQ =>
  intro X0 a0 w1 hF
  refine wp_seq ?_
  apply region_okB hB T90_ok [3, 0] [] [(1, .r fun _ => .int .i64 z)] hF
  case hex => intro A X; conv => lhs; cbv
  case hob =>
    intro X
    subst hB
    exact ⟨⟨enters105, S⟩, show (8 : Int) ≠ 0 by decide, trivial⟩
  case hQ =>
  intro X1 a0 w1 hF
  replace hF := hF.head (v' := .int .i64 (n : Int)) (by subst hB; rw [← hz8]; rfl)
  refine wp_seq ?_
  apply region_okB hB T90_ok [4, 3, 0] [13, 27] [] hF
  case hex => intro A X; conv => lhs; cbv
  case hob =>
    intro X
    subst hB
    simp [AllOb, Ob.holds, BE.den, std, stdCmp, stdArith] <;> omega
  case hQ =>
  intro X2 a0 w1 hF
  refine wp_seq ?_
  refine wp_seq ?_
  apply region_okB hB T90_ok [4, 5, 3, 0] [13, 27] [] hF
  case hex => intro A X; conv => lhs; cbv
  case hob =>
    intro X
    subst hB
    simp [AllOb, Ob.holds, BE.den, std, stdCmp, stdArith] <;> omega
  case hQ =>
  intro X3 a0 w1 hF
  refine wp_block ?_
  have hJ0 : ∀ t, t < 0 + 1 → chunk 1 [.int .u8 (B.conv .u8 (n : Int))] t = bytesC L t := by
    intro t ht
    have : t = 0 := by omega
    subst this
    subst hB
    simp only [chunk, bytesC, hhead]
    show [AV.int .u8 (IntKind.u8.wrap (n : Int))] = _
    rw [hbyte]; rfl
  refine loop_pre (ι := Nat × Int × Option Addr × Nat × (Nat → List AV)) (fun p => [(4, .sl (some 13) p.2.2.1 (p.1 + 1) p.2.2.2.1 1 p.2.2.2.2), (5, .int .i64 p.2.1)]) (fun p => []) (fun p => [(13, ⟨p.2.2.1, p.1 + 1, p.2.2.2.1, 1, 5⟩)]) (fun p => p.1 ≤ n ∧ p.2.1 = (n : Int) - 1 - p.1 ∧ ∀ t, t < p.1 + 1 → p.2.2.2.2 t = bytesC L t) (fun p => n - p.1) (0, (n : Int) - 1, _, 1, chunk 1 [.int .u8 (B.conv .u8 (n : Int))]) ⟨Nat.zero_le _, by simp, hJ0⟩ (by rw [show ((n : Int) - 1) = B.arith .sub .i64 (n : Int) 1 by subst hB; exact (wrap_in (by omega) (by omega)).symm]; exact hF) ?_
  rintro ⟨j, y, A, c, f⟩ ⟨hj, hy, hf⟩ a0 w1 hF
  try dsimp only at hj
  try dsimp only at hy
  try dsimp only at hf
  refine wp_seq ?_
  refine wp_seq ?_
  apply region_okB hB T90_ok [17, 4, 5, 3, 0] [13, 27] [] hF
  case hex => intro A X; conv => lhs; cbv
  case hob =>
    intro X
    subst hB
    simp [AllOb, Ob.holds, BE.den, std, stdCmp, stdArith] <;> omega
  case hQ =>
  intro X4 a0 w1 hF
  refine test_ok hF rfl (fun hb hF => ?_) (fun hb hF => ?_)
  · skip
    have hin : j < n := by
      have : 0 ≤ y := by subst hB; simpa [std, stdCmp] using hb
      omega
    refine wp_skip ?_
    refine wp_seq ?_
    refine wp_block ?_
    apply region_okB hB T90_ok [4, 5, 3, 0] [13, 27] [] hF
    case hex => intro A X; conv => lhs; cbv
    case hob =>
      intro X
      subst hB
      refine ⟨?_, ⟨rfl, rfl, rfl⟩, ⟨?_, ?_⟩, trivial⟩
      · show 0 ≤ IntKind.i64.wrap (8 * y)
        rw [wrap_in (by omega) (by omega)]; omega
      · show j + 1 + 1 ≤ maxLen
        simp only [maxLen]; omega
      · show (j + 1 + 1) * _ ≤ _
        omega
    case hQ =>
    intro X6 a0 w1 hF
    apply region_okB hB T90_ok [4, 5, 3, 0] [13, 27] [] hF
    case hex => intro A X; conv => lhs; cbv
    case hob =>
      intro X
      subst hB
      simp [AllOb, Ob.holds, BE.den, std, stdCmp, stdArith] <;> omega
    case hQ =>
    intro X5 a0 w1 hF
    refine ⟨(j + 1, y - 1, _, _, _), ⟨by simp only; omega, by simp only; omega, ?_⟩, by simp only; omega, by rw [show y - 1 = B.arith .sub .i64 y 1 by subst hB; exact (wrap_in (by omega) (by omega)).symm, show j + 1 + 1 = B.nadd (j + 1) 1 by subst hB; rfl]; exact hF⟩
    intro t ht
    have ht2 : t < j + 1 + 1 := ht
    subst hB
    show appC (j + 1) f (chunk 1 [.int .u8 (IntKind.u8.wrap (stdShift .shr .u64 v (IntKind.i64.wrap (8 * y))))]) t = _
    unfold appC
    split
    · exact hf t (by assumption)
    · have : t = j + 1 := by omega
      subst this
      rw [wrap_in (x := 8 * y) (by omega) (by omega), show 8 * y = ((8 * (n - 1 - j) : Nat) : Int) by omega, byte_of hv _ (by omega)]
      rw [Nat.sub_self]
      simp only [chunk, bytesC, htail j (by omega)]
      rfl
  · skip
    have hjn : j = n := by
      have : ¬ 0 ≤ y := by subst hB; simpa [std, stdCmp] using hb
      omega
    have hoL := hF.slot 4 rfl
    have hc1 := (ok_len hoL.2).1
    refine wp_exit ?_
    refine wp_seq ?_
    apply region_okB hB T90_ok [2] [2] [] hF
    case hex => intro A X; conv => lhs; cbv
    case hob =>
      intro X
      subst hB
      have e1 : IntKind.i64.wrap (1 + (n : Int)) = ((n + 1 : Nat) : Int) := by rw [wrap_in (by omega) (by omega)]; omega
      refine ⟨⟨by decide, ?_, ?_, ?_, ?_⟩, trivial⟩
      · show 0 ≤ IntKind.i64.wrap (1 + (n : Int)); rw [e1]; omega
      · exact Int.le_refl _
      · show IntKind.i64.wrap (1 + (n : Int)) ≤ (c : Int); rw [e1]; omega
      · show IntKind.i64.wrap (1 + (n : Int)) ≤ ((j + 1 : Nat) : Int); rw [e1]; omega
    case hQ =>
    intro X7 a0 w1 hF
    refine wp_ret ?_
    refine ret_sim (fn := Tryd.f90) T90_ok hF (rs := [.tmp 2]) rfl (rfl) ?_ (⟨0, fun _ => adrOf A (IntKind.i64.wrap (1 + (n : Int))).toNat 0 1, fun _ => 0, fun _ => .empty⟩) ?_
    · simp [AllOb, Ob.holds]
    · subst hB
      have e1 : IntKind.i64.wrap (1 + (n : Int)) = ((n + 1 : Nat) : Int) := by rw [wrap_in (by omega) (by omega)]; omega
      have e2 : (IntKind.i64.wrap (1 + (n : Int))).toNat - (0 : Int).toNat = n + 1 := by rw [e1]; simp
      refine ⟨?_, fun _ => rfl, fun m w h => ?_⟩
      · show Value.slice _ ((IntKind.i64.wrap (1 + (n : Int))).toNat - (0 : Int).toNat) ((IntKind.i64.wrap (1 + (n : Int))).toNat - (0 : Int).toNat) = _
        rw [e2]; rfl
      · have h2 : Ok m w (.sl none _ ((IntKind.i64.wrap (1 + (n : Int))).toNat - (0 : Int).toNat) ((IntKind.i64.wrap (1 + (n : Int))).toNat - (0 : Int).toNat) 1 (fromC 0 f)) := h
        rw [e2] at h2
        exact ok_recell h2 (fun i hi => by simp only [fromC, Nat.zero_add]; exact hf i (by omega))
def T58 : List (Nat × TI) := [(9, ti9), (22, ti22), (133, ti133)]
theorem T58_ok : TabOK Tryd.prog T58 := .cons t9 (.cons t22 (.cons t133 (.nil)))
theorem enters58 : Enters Tryd.prog 58 := fun _ _ => by kernel_rfl
theorem putNum_s (b : ByteArray) (v : Int) (hv : U64 v) (hb : b.size ≤ 1000000000) : Spec Tryd.prog 58 [.str b, .int .u64 v] (fun _ => .str (b ++ mkB (numL v.toNat))) := by
  intro m w hm hargs
  have hv64 : v.toNat < 2 ^ 64 := by have := hv.1; have := hv.2; omega
  have h8 := len8_le hv64
  have S := number_w v hv
  have hr := rowStr_C (numL v.toNat) (len8 v.toNat + 1) (by rw [numL_len]; exact Nat.le_refl _)
  rw [List.take_of_length_le (by rw [numL_len]; exact Nat.le_refl _)] at hr
  have hbc : ∀ i, ∃ x, bytesC (numL v.toNat) i = [.int .u8 x] := fun i => ⟨_, rfl⟩
  have hsz : (mkB (numL v.toNat)).size ≤ 9 := by rw [mk_size, numL_len]; omega
  generalize mkB (numL v.toNat) = r at hr hsz ⊢
  generalize bytesC (numL v.toNat) = f at S hr hbc
  generalize len8 v.toNat + 1 = n at S hr
  refine enter hm hargs Tryd.func58 rfl (by simp [Tryd.ntmps58]) fun a0 hF => ?_
  simp only [Tryd.ntmps58, startT] at hF
  obtain ⟨B, hB⟩ : ∃ B, B = std := ⟨_, rfl⟩
  refine wp_seq ?_
  apply region_okB hB T58_ok [0, 1] [] [] hF
  case hex => intro A X; conv => lhs; cbv
  case hob =>
    intro X
    subst hB
    simp [AllOb, Ob.holds, BE.den, std, stdCmp, stdArith] <;> omega
  case hQ =>
  intro X0 a0 w1 hF
  refine wp_seq ?_
  apply region_okB hB T58_ok [4] [] [(2, .r fun x => .sl none (x.A 0) n n 1 f)] hF
  case hex => intro A X; conv => lhs; cbv
  case hob =>
    intro X
    subst hB
    refine ⟨⟨enters90, S⟩, fun i _ => hbc i, ?_, trivial⟩
    show b.size + (rowStr n f).size ≤ maxLen
    rw [hr]; simp only [maxLen]; omega
  case hQ =>
  intro X1 a0 w1 hF
  refine wp_ret ?_
  refine ret_spec (fn := Tryd.f58) T58_ok hF (rs := [.tmp 4]) rfl (rfl) ?_ noAtom ?_
  · subst hB; simp [AllOb, Ob.holds]
  · subst hB
    show AV.str (b ++ rowStr n f) = _
    rw [hr]; rfl
def T60 : List (Nat × TI) := [(3, ti3), (9, ti9), (22, ti22), (27, ti27)]
theorem T60_ok : TabOK Tryd.prog T60 := .cons t3 (.cons t9 (.cons t22 (.cons t27 (.nil))))
theorem enters60 : Enters Tryd.prog 60 := fun _ _ => by kernel_rfl
theorem putText_s (b s : ByteArray) (hb : b.size ≤ 1000000000) (hs : s.size ≤ 4096) : Spec Tryd.prog 60 [.str b, .str s] (fun _ => .tup [.str (b ++ mkB (textL (unB s))), .int .i64 0]) := by
  intro m w hm hargs
  have hb0 := hb
  have e0 : b ++ mkB (textL (unB s)) = b ++ mkB (numL ((s.size : Int)).toNat) ++ s := by apply un_inj; simp only [un_append, un_mk, textL, un_size, Int.toNat_natCast, List.append_assoc]
  rw [e0]
  have S := putNum_s b (s.size : Int) ⟨by omega, by omega⟩ hb
  have hsz : (b ++ mkB (numL ((s.size : Int)).toNat)).size ≤ 1000000009 := by rw [ByteArray.size_append, mk_size, numL_len]; have := len8_le (v := ((s.size : Int)).toNat) (by omega); omega
  generalize b ++ mkB (numL ((s.size : Int)).toNat) = r at S hsz ⊢
  refine enter hm hargs Tryd.func60 rfl (by simp [Tryd.ntmps60]) fun a0 hF => ?_
  simp only [Tryd.ntmps60, startT] at hF
  obtain ⟨B, hB⟩ : ∃ B, B = std := ⟨_, rfl⟩
  refine wp_seq ?_
  apply region_okB hB T60_ok [0, 1] [] [] hF
  case hex => intro A X; conv => lhs; cbv
  case hob =>
    intro X
    subst hB
    simp [AllOb, Ob.holds, BE.den, std, stdCmp, stdArith] <;> omega
  case hQ =>
  intro X0 a0 w1 hF
  refine wp_seq ?_
  refine wp_seq ?_
  apply region_okB hB T60_ok [8, 0, 1] [] [] hF
  case hex => intro A X; conv => lhs; cbv
  case hob =>
    intro X
    subst hB
    simp [AllOb, Ob.holds, BE.den, std, stdCmp, stdArith] <;> omega
  case hQ =>
  intro X1 a0 w1 hF
  refine test_ok hF rfl (fun hb hF => ?_) (fun hb hF => ?_)
  · exfalso
    subst hB
    have h1 : (4096 : Int) < (s.size : Int) := by simpa [std, stdCmp] using hb
    omega
  · skip
    refine wp_skip ?_
    refine wp_seq ?_
    apply region_okB hB T60_ok [4, 5] [] [(4, .r fun _ => .str r)] hF
    case hex => intro A X; conv => lhs; cbv
    case hob =>
      intro X
      subst hB
      refine ⟨⟨enters58, ?_⟩, ?_, trivial⟩
      · show Spec _ _ [.str b, .int .u64 (IntKind.u64.wrap (s.size : Int))] _
        rw [wrap_u64 _ ⟨by omega, by omega⟩]; exact S
      · show r.size + s.size ≤ maxLen
        simp only [maxLen]; omega
    case hQ =>
    intro X3 a0 w1 hF
    refine wp_ret ?_
    refine ret_spec (fn := Tryd.f60) T60_ok hF (rs := [.tmp 4, .tmp 5]) rfl (rfl) ?_ noAtom ?_
    · subst hB; simp [AllOb, Ob.holds]
    · subst hB; rfl
def T62 : List (Nat × TI) := [(5, ti5), (9, ti9), (22, ti22), (133, ti133)]
theorem T62_ok : TabOK Tryd.prog T62 := .cons t5 (.cons t9 (.cons t22 (.cons t133 (.nil))))
theorem enters62 : Enters Tryd.prog 62 := fun _ _ => by kernel_rfl
theorem one_s (v : Int) (hv : U64 v) : Spec Tryd.prog 62 [.int .u64 v] (fun _ => .str (mkB [UInt8.ofNat v.toNat])) := by
  intro m w hm hargs
  refine enter hm hargs Tryd.func62 rfl (by simp [Tryd.ntmps62]) fun a0 hF => ?_
  simp only [Tryd.ntmps62, startT] at hF
  obtain ⟨B, hB⟩ : ∃ B, B = std := ⟨_, rfl⟩
  refine wp_seq ?_
  apply region_okB hB T62_ok [0] [] [] hF
  case hex => intro A X; conv => lhs; cbv
  case hob =>
    intro X
    subst hB
    simp [AllOb, Ob.holds, BE.den, std, stdCmp, stdArith] <;> omega
  case hQ =>
  intro X0 a0 w1 hF
  refine wp_seq ?_
  apply region_okB hB T62_ok [2] [] [] hF
  case hex => intro A X; conv => lhs; cbv
  case hob =>
    intro X
    subst hB
    refine ⟨show (256 : Int) ≠ 0 by decide, fun i hi => ?_, trivial⟩
    have : i = 0 := by omega
    subst this; exact ⟨_, rfl⟩
  case hQ =>
  intro X1 a0 w1 hF
  refine wp_ret ?_
  refine ret_spec (fn := Tryd.f62) T62_ok hF (rs := [.tmp 2]) rfl (rfl) ?_ noAtom ?_
  · subst hB; simp [AllOb, Ob.holds]
  · subst hB
    show AV.str (rowStr 1 (chunk 1 [.int .u8 (IntKind.u8.wrap (v.tmod 256))])) = _
    obtain ⟨x, rfl⟩ := Int.eq_ofNat_of_zero_le hv.1
    rw [rowStr_succ]
    show AV.str (mkB [UInt8.ofNat (IntKind.u8.wrap ((x % 256 : Nat) : Int)).toNat]) = _
    rw [wrap_u8, Int.toNat_natCast, Int.toNat_natCast, Nat.mod_mod]
    have : UInt8.ofNat (x % 256) = UInt8.ofNat x := by apply UInt8.toNat_inj.1; simp
    rw [this]; rfl
def T24 : List (Nat × TI) := [(3, ti3), (9, ti9), (22, ti22)]
theorem T24_ok : TabOK Tryd.prog T24 := .cons t3 (.cons t9 (.cons t22 (.nil)))
theorem enters24 : Enters Tryd.prog 24 := fun _ _ => by kernel_rfl
theorem rnum_s (v : Int) (hv : U64 v) : Spec Tryd.prog 24 [.int .u64 v] (fun _ => .str (mkB (numL v.toNat))) := by
  intro m w hm hargs
  have hv64 : v.toNat < 2 ^ 64 := by have := hv.1; have := hv.2; omega
  have h8 := len8_le hv64
  have hp8 : (256 : Nat) ^ 8 = 2 ^ 64 := by decide
  refine enter hm hargs Tryd.func24 rfl (by simp [Tryd.ntmps24]) fun a0 hF => ?_
  simp only [Tryd.ntmps24, startT] at hF
  obtain ⟨B, hB⟩ : ∃ B, B = std := ⟨_, rfl⟩
  refine wp_seq ?_
  apply region_okB hB T24_ok [0] [] [] hF
  case hex => intro A X; conv => lhs; cbv
  case hob =>
    intro X
    subst hB
    simp [AllOb, Ob.holds, BE.den, std, stdCmp, stdArith] <;> omega
  case hQ =>
  intro X0 a0 w1 hF
  refine wp_seq ?_
  apply region_okB hB T24_ok [0, 3] [] [] hF
  case hex => intro A X; conv => lhs; cbv
  case hob =>
    intro X
    subst hB
    simp [AllOb, Ob.holds, BE.den, std, stdCmp, stdArith] <;> omega
  case hQ =>
  intro X1 a0 w1 hF
  refine wp_seq ?_
  refine wp_block ?_
  have hF : Fits ⟨m, w, fun _ => False, []⟩ ⟨18, [(0, .int .u64 v), (3, .str (mkB []))], [], [], []⟩ a0 w1 := hF
  refine loop_pre (ι := Nat × ByteArray × Int) (fun p => [(0, .int .u64 p.2.2), (3, .str p.2.1)]) (fun p => []) (fun p => []) (fun p => p.2.1 = mkB (bytesN p.1 v.toNat) ∧ p.2.2 = ((v.toNat / 256 ^ p.1 : Nat) : Int) ∧ ∀ i, i < p.1 → 256 ^ i ≤ v.toNat) (fun p => 9 - p.1) (0, mkB [], v) ⟨rfl, by have := hv.1; simp only [Nat.pow_zero, Nat.div_one]; omega, fun i hi => absurd hi (Nat.not_lt_zero _)⟩ hF ?_
  rintro ⟨j, o, x⟩ ⟨ho, hx, hp⟩ a0 w1 hF
  try dsimp only at ho
  try dsimp only at hx
  try dsimp only at hp
  refine wp_seq ?_
  refine wp_seq ?_
  apply region_okB hB T24_ok [5, 0, 3] [] [] hF
  case hex => intro A X; conv => lhs; cbv
  case hob =>
    intro X
    subst hB
    simp [AllOb, Ob.holds, BE.den, std, stdCmp, stdArith] <;> omega
  case hQ =>
  intro X2 a0 w1 hF
  refine test_ok hF rfl (fun hb hF => ?_) (fun hb hF => ?_)
  · skip
    have hpos : 0 < x := by subst hB; simpa [std, stdCmp] using hb
    have hle : 256 ^ j ≤ v.toNat := by
      have h1 : 0 < v.toNat / 256 ^ j := by omega
      exact (Nat.div_pos_iff.1 h1).2
    have hj8 : j < 8 := by
      refine Nat.lt_of_not_le fun h => ?_
      have := Nat.pow_le_pow_right (n := 256) (by decide) h
      omega
    have hx0 := Nat.div_le_self v.toNat (256 ^ j)
    have S := one_s x ⟨by omega, by omega⟩
    generalize hg : mkB [UInt8.ofNat x.toNat] = g at S
    have hgs : g.size = 1 := by rw [← hg, mk_size]; rfl
    have hos : o.size = j := by rw [ho, mk_size, bytesN_len]
    refine wp_skip ?_
    refine wp_block ?_
    refine wp_seq ?_
    apply region_okB hB T24_ok [0, 3] [] [(1, .r fun _ => .str g)] hF
    case hex => intro A X; conv => lhs; cbv
    case hob =>
      intro X
      subst hB
      refine ⟨⟨enters62, S⟩, ?_, trivial⟩
      show g.size + o.size ≤ maxLen
      simp only [maxLen]; omega
    case hQ =>
    intro X3 a0 w1 hF
    apply region_okB hB T24_ok [0, 3] [] [] hF
    case hex => intro A X; conv => lhs; cbv
    case hob =>
      intro X
      subst hB
      exact ⟨show (256 : Int) ≠ 0 by decide, trivial⟩
    case hQ =>
    intro X4 a0 w1 hF
    refine ⟨(j + 1, B.cat g o, B.div .quo .u64 x 256), ⟨?_, ?_, ?_⟩, by simp only; omega, hF⟩
    · subst hB; rw [ho, ← hg]; show mkB _ ++ mkB _ = mkB (bytesN (j + 1) v.toNat)
      rw [mk_append, bytesN, hx, Int.toNat_natCast]; rw [show UInt8.ofNat (v.toNat / 256 ^ j) = byN v.toNat j from by apply UInt8.toNat_inj.1; rw [byN_toNat]; simp]; rfl
    · subst hB; rw [hx]; show IntKind.u64.wrap ((((v.toNat / 256 ^ j : Nat) : Int)).tdiv 256) = _
      rw [show (((v.toNat / 256 ^ j : Nat) : Int)).tdiv 256 = ((v.toNat / 256 ^ j / 256 : Nat) : Int) from rfl, Nat.div_div_eq_div_mul, ← Nat.pow_succ]
      refine wrap_u64 _ ⟨Int.natCast_nonneg _, ?_⟩
      have h1 := Nat.div_le_self v.toNat (256 ^ Nat.succ j)
      have := hv.2
      omega
    · intro i hi
      by_cases hij : i = j
      · rw [hij]; exact hle
      · exact hp i (by have : i < j + 1 := hi; omega)
  · skip
    have hz : ¬ 0 < x := by subst hB; simpa [std, stdCmp] using hb
    have hlt : v.toNat < 256 ^ j := by
      have h1 : v.toNat / 256 ^ j = 0 := by generalize v.toNat / 256 ^ j = q at hx; omega
      rcases Nat.div_eq_zero_iff.1 h1 with h2 | h2
      · exact absurd h2 (Nat.ne_of_gt (Nat.pow_pos (by decide)))
      · exact h2
    have hj1 := (len8_iff hv64 j).2 hlt
    have hj2 : j = len8 v.toNat := by
      refine Nat.le_antisymm (Nat.le_of_not_lt fun h => ?_) hj1
      have := (len8_iff hv64 (j - 1)).1 (by omega)
      have := hp (j - 1) (by omega)
      omega
    have hos : o.size = j := by rw [ho, mk_size, bytesN_len]
    have S := one_s (o.size : Int) ⟨by omega, by omega⟩
    generalize hg : mkB [UInt8.ofNat ((o.size : Nat) : Int).toNat] = g at S
    have hgs : g.size = 1 := by rw [← hg, mk_size]; rfl
    refine wp_exit ?_
    refine wp_seq ?_
    apply region_okB hB T24_ok [2] [] [(3, .r fun _ => .str g)] hF
    case hex => intro A X; conv => lhs; cbv
    case hob =>
      intro X
      subst hB
      refine ⟨⟨enters62, ?_⟩, ?_, trivial⟩
      · show Spec _ _ [.int .u64 (IntKind.u64.wrap (o.size : Int))] _
        rw [wrap_u64 _ ⟨by omega, by omega⟩]; exact S
      · show g.size + o.size ≤ maxLen
        simp only [maxLen]; omega
    case hQ =>
    intro X5 a0 w1 hF
    refine wp_ret ?_
    refine ret_spec (fn := Tryd.f24) T24_ok hF (rs := [.tmp 2]) rfl (rfl) ?_ noAtom ?_
    · subst hB; simp [AllOb, Ob.holds]
    · subst hB
      show AV.str (g ++ o) = AV.str (mkB (numL v.toNat))
      rw [← hg, hos, ho, mk_append, hj2, Int.toNat_natCast]; rfl
def T26 : List (Nat × TI) := [(3, ti3), (9, ti9), (22, ti22)]
theorem T26_ok : TabOK Tryd.prog T26 := .cons t3 (.cons t9 (.cons t22 (.nil)))
theorem enters26 : Enters Tryd.prog 26 := fun _ _ => by kernel_rfl
theorem rtext_s (s : ByteArray) (hs : s.size ≤ 4096) : Spec Tryd.prog 26 [.str s] (fun _ => .str (mkB (textL (unB s)))) := by
  intro m w hm hargs
  have S := rnum_s (s.size : Int) ⟨by omega, by omega⟩
  have e0 : mkB (textL (unB s)) = mkB (numL ((s.size : Int)).toNat) ++ s := by apply un_inj; simp only [un_append, un_mk, textL, un_size, Int.toNat_natCast]
  rw [e0]
  have hsz : (mkB (numL ((s.size : Int)).toNat)).size ≤ 9 := by rw [mk_size, numL_len]; have := len8_le (v := ((s.size : Int)).toNat) (by omega); omega
  generalize mkB (numL ((s.size : Int)).toNat) = r at S hsz ⊢
  refine enter hm hargs Tryd.func26 rfl (by simp [Tryd.ntmps26]) fun a0 hF => ?_
  simp only [Tryd.ntmps26, startT] at hF
  obtain ⟨B, hB⟩ : ∃ B, B = std := ⟨_, rfl⟩
  refine wp_seq ?_
  apply region_okB hB T26_ok [0] [] [] hF
  case hex => intro A X; conv => lhs; cbv
  case hob =>
    intro X
    subst hB
    simp [AllOb, Ob.holds, BE.den, std, stdCmp, stdArith] <;> omega
  case hQ =>
  intro X0 a0 w1 hF
  refine wp_seq ?_
  apply region_okB hB T26_ok [2] [] [(3, .r fun _ => .str r)] hF
  case hex => intro A X; conv => lhs; cbv
  case hob =>
    intro X
    subst hB
    refine ⟨⟨enters24, ?_⟩, ?_, trivial⟩
    · show Spec _ _ [.int .u64 (IntKind.u64.wrap (s.size : Int))] _
      rw [wrap_u64 _ ⟨by omega, by omega⟩]; exact S
    · show r.size + s.size ≤ maxLen
      simp only [maxLen]; omega
  case hQ =>
  intro X1 a0 w1 hF
  refine wp_ret ?_
  refine ret_spec (fn := Tryd.f26) T26_ok hF (rs := [.tmp 2]) rfl (rfl) ?_ noAtom ?_
  · subst hB; simp [AllOb, Ob.holds]
  · subst hB; rfl
end Go.Proofs.YtkamdppnnhjajaaDoor.Sym

namespace Go.Proofs.YtkamdppnnhjajaaDoor.Sym
open Go Go.RowKit
set_option maxRecDepth 100000
set_option maxHeartbeats 1600000
set_option linter.unusedVariables false
set_option linter.unusedSimpArgs false
/-- what take gives: the bytes, the error, what is left -/
def takeS (s : ByteArray) (n : Int) : ByteArray := if (s.size : Int) < n then ⟨#[]⟩ else s.extract 0 n.toNat
def takeE (s : ByteArray) (n : Int) : Int := if (s.size : Int) < n then 4 else 0
def takeR (s : ByteArray) (n : Int) : ByteArray := if (s.size : Int) < n then s else s.extract n.toNat s.size
theorem take_cases (s : ByteArray) (n : Int) (hn : 0 ≤ n) : ((s.size : Int) < n ∧ takeS s n = mkB [] ∧ takeE s n = 4 ∧ takeR s n = s) ∨ (n ≤ (s.size : Int) ∧ takeS s n = mkB ((unB s).take n.toNat) ∧ takeE s n = 0 ∧ takeR s n = mkB ((unB s).drop n.toNat)) := by
  unfold takeS takeE takeR
  by_cases h : (s.size : Int) < n
  · left; simp only [h, if_true]; exact ⟨trivial, rfl, trivial, trivial⟩
  · right
    simp only [h, if_false]
    refine ⟨by omega, un_inj ?_, trivial, un_inj ?_⟩
    · rw [un_extract, un_mk, List.drop_zero]
    · rw [un_extract, un_mk, List.take_of_length_le (by rw [un_size]; exact Nat.le_refl _)]
/-- what number gives -/
def numV (s : ByteArray) : Int := ((decN (unB s)).val 0 : Nat)
def numE (s : ByteArray) : Int := (decN (unB s)).err
def numQ (s : ByteArray) : ByteArray := mkB (match unB s with | [] => [] | n :: r => if 8 < n.toNat then r else if r.length < n.toNat then r else r.drop n.toNat)
theorem or_u64 {a b k : Nat} (h : a % 2 ^ k = 0) (hb : b < 2 ^ k) (hab : a + b < 2 ^ 64) : stdArith .or .u64 (a : Int) (b : Int) = ((a + b : Nat) : Int) := by
  show IntKind.u64.wrap ((BitVec.ofNat 64 a ||| BitVec.ofNat 64 b).toNat : Int) = _
  have e : (BitVec.ofNat 64 a ||| BitVec.ofNat 64 b).toNat = a + b := by
    rw [BitVec.toNat_or, BitVec.toNat_ofNat, BitVec.toNat_ofNat, Nat.mod_eq_of_lt (by omega), Nat.mod_eq_of_lt (by omega)]
    obtain ⟨q, rfl⟩ := Nat.dvd_of_mod_eq_zero h
    rw [Nat.mul_comm, ← Nat.shiftLeft_eq, ← Nat.shiftLeft_add_eq_or_of_lt hb]
  rw [e, wrap_u64n, Nat.mod_eq_of_lt hab]
theorem or_step (x : Nat) (c : UInt8) (hx : x < 2 ^ 56) : stdArith .or .u64 (stdShift .shl .u64 (x : Int) 8) (IntKind.u64.wrap (((some c).getD 0).toNat : Int)) = ((x * 256 + c.toNat : Nat) : Int) := by
  have hc := c.toNat_lt
  have e1 : stdShift .shl .u64 (x : Int) 8 = ((x * 256 : Nat) : Int) := by
    show IntKind.u64.wrap ((x : Int) * ((256 : Nat) : Int)) = _
    rw [← Int.natCast_mul, wrap_u64n, Nat.mod_eq_of_lt (by omega)]
  have e2 : IntKind.u64.wrap (((some c).getD 0).toNat : Int) = (c.toNat : Int) := by
    show IntKind.u64.wrap (c.toNat : Int) = _
    rw [wrap_u64n, Nat.mod_eq_of_lt (by omega)]
  rw [e1, e2]
  exact or_u64 (k := 8) (by omega) (by omega) (by omega)
theorem head0 (s : ByteArray) : (if (!(s.toList == (ByteArray.mk #[]).toList)) = true then (((s[(0 : Int).toNat]?.getD 0).toNat : Int) == 0) else false) = true ↔ (unB s).head? = some 0 := by
  rw [toList_un, toList_un, un_get, show unB (ByteArray.mk #[]) = [] from rfl]
  cases h : unB s with
  | nil => simp
  | cons c l =>
    have : (c.toNat : Int) = 0 ↔ c = 0 := by
      rw [← UInt8.toNat_inj]
      simp
    have t0 : c.toNat = 0 ↔ c = 0 := by rw [← UInt8.toNat_inj]; rfl
    simp [t0]
theorem numV_u64 (s : ByteArray) : 0 ≤ numV s ∧ numV s < 18446744073709551616 := by
  unfold numV
  cases h : decN (unB s) with
  | error e =>
    show 0 ≤ ((0 : Nat) : Int) ∧ ((0 : Nat) : Int) < 18446744073709551616
    decide
  | ok x =>
    obtain ⟨n, r⟩ := x
    have := (decN_ok h).2
    show 0 ≤ (n : Int) ∧ (n : Int) < _
    omega
theorem numQ_ok {s : ByteArray} {n : Nat} {r : List UInt8} (h : decN (unB s) = .ok (n, r)) : numQ s = mkB r := by
  unfold numQ
  unfold decN at h
  split at h
  · cases h
  · rename_i c t hs
    rw [hs]
    split at h
    · cases h
    · rename_i h1
      split at h
      · cases h
      · rename_i h2
        split at h
        · cases h
        · injection h with h; injection h with e1 e2
          simp only [h1, h2, if_false, e2]
theorem num_cases (s : ByteArray) : (numE s ≠ 0 ∧ decN (unB s) = .error (numE s) ∧ numV s = 0) ∨ (numE s = 0 ∧ ∃ n r, decN (unB s) = .ok (n, r) ∧ numV s = (n : Int) ∧ numQ s = mkB r) := by
  cases h : decN (unB s) with
  | error e =>
    left
    have he : numE s = e := by simp only [numE, h]; rfl
    rw [he]
    refine ⟨?_, rfl, by simp only [numV, h]; rfl⟩
    rcases decN_err h with rfl | rfl <;> decide
  | ok x =>
    obtain ⟨n, r⟩ := x
    right
    exact ⟨by simp only [numE, h]; rfl, n, r, rfl, by simp only [numV, h]; rfl, numQ_ok h⟩
/-- what the number's reader leaves -/
def numR (s : ByteArray) : ByteArray := mkB ((decN (unB s)).rest (unB s))
theorem num_rest (s : ByteArray) : (numE s = 0 → numQ s = numR s) ∧ (numE s ≠ 0 → numV s = 0 ∧ numR s = s) := by
  rcases num_cases s with ⟨h1, h2, h3⟩ | ⟨h1, n, r, h2, h3, h4⟩
  · exact ⟨fun h => absurd h h1, fun _ => ⟨h3, by simp only [numR, h2]; exact mk_un s⟩⟩
  · exact ⟨fun _ => by rw [h4]; simp only [numR, h2]; rfl, fun h => absurd h1 h⟩
def txtV (s : ByteArray) : ByteArray := mkB ((decT (unB s)).val [])
def txtE (s : ByteArray) : Int := (decT (unB s)).err
def txtQ (s : ByteArray) : ByteArray := match decN (unB s) with
  | .error _ => numQ s
  | .ok (n, r) => if 4096 < n then mkB r else if r.length < n then mkB r else mkB (r.drop n)
def txtR (s : ByteArray) : ByteArray := mkB ((decT (unB s)).rest (unB s))
theorem txt_rest (s : ByteArray) : (txtE s = 0 → txtQ s = txtR s) ∧ (txtE s ≠ 0 → txtV s = ⟨#[]⟩ ∧ txtR s = s) := by
  cases h : decT (unB s) with
  | error e =>
    have he : txtE s = e := by simp only [txtE, h]; rfl
    rw [he]
    refine ⟨fun h0 => ?_, fun _ => ⟨by simp only [txtV, h]; rfl, by simp only [txtR, h]; exact mk_un s⟩⟩
    rcases decT_err h with rfl | rfl <;> exact absurd h0 (by decide)
  | ok x =>
    obtain ⟨t, r⟩ := x
    refine ⟨fun _ => ?_, fun h0 => absurd (by simp only [txtE, h]; rfl) h0⟩
    simp only [txtR, h, txtQ]
    unfold decT at h
    split at h
    · cases h
    · rename_i n q hq
      rw [hq]
      split at h
      · cases h
      · rename_i h1
        split at h
        · cases h
        · rename_i h2
          injection h with h; injection h with e1 e2
          simp only [h1, h2, if_false, ← e2]
          rfl
def labV (s : ByteArray) : Lab := (decL (unB s)).val ⟨0, 0⟩
def labE (s : ByteArray) : Int := (decL (unB s)).err
def labQ (s : ByteArray) : ByteArray := mkB (match unB s with | [] => [] | n :: r => if 64 < n.toNat then r else if r.length < (n.toNat + 7) / 8 then r else r.drop ((n.toNat + 7) / 8))
def labR (s : ByteArray) : ByteArray := mkB ((decL (unB s)).rest (unB s))
theorem lab_rest (s : ByteArray) : (labE s = 0 → labQ s = labR s) ∧ (labE s ≠ 0 → labV s = ⟨0, 0⟩ ∧ labR s = s) := by
  cases h : decL (unB s) with
  | error e =>
    have he : labE s = e := by simp only [labE, h]; rfl
    rw [he]
    refine ⟨fun h0 => ?_, fun _ => ⟨by simp only [labV, h]; rfl, by simp only [labR, h]; exact mk_un s⟩⟩
    rcases decL_err h with rfl | rfl <;> exact absurd h0 (by decide)
  | ok x =>
    obtain ⟨t, r⟩ := x
    refine ⟨fun _ => ?_, fun h0 => absurd (by simp only [labE, h]; rfl) h0⟩
    simp only [labR, h, labQ]
    unfold decL at h
    split at h
    · cases h
    · rename_i n q hs
      rw [hs]
      split at h
      · cases h
      · rename_i h1
        split at h
        · cases h
        · rename_i h2
          split at h
          · injection h with h; injection h with e1 e2
            simp only [h1, h2, if_false, ← e2]
            rfl
          · cases h
theorem or_lab (v : Nat) (c : UInt8) {i : Nat} (hv : v < 256 ^ i) (hi : i < 8) : stdArith .or .u64 ((v * 256 ^ (8 - i) : Nat) : Int) (stdShift .shl .u64 (IntKind.u64.wrap (((some c).getD 0).toNat : Int)) (56 - 8 * (i : Int))) = (((v * 256 + c.toNat) * 256 ^ (8 - (i + 1)) : Nat) : Int) := by
  have hc := c.toNat_lt
  have e2 : IntKind.u64.wrap (((some c).getD 0).toNat : Int) = (c.toNat : Int) := by
    show IntKind.u64.wrap (c.toNat : Int) = _
    rw [wrap_u64n, Nat.mod_eq_of_lt (by omega)]
  have hp : 256 ^ (8 - i) = 256 * 256 ^ (7 - i) := by
    have h9 : 8 - i = (7 - i) + 1 := by omega
    rw [h9, Nat.pow_succ, Nat.mul_comm]
  have hpp := Nat.pow_pos (n := 7 - i) (by decide : 0 < 256)
  have hc2 : c.toNat * 256 ^ (7 - i) < 256 ^ (8 - i) := by rw [hp]; exact Nat.mul_lt_mul_of_pos_right hc hpp
  have htot : 256 ^ i * 256 ^ (8 - i) = 2 ^ 64 := by rw [← Nat.pow_add, show i + (8 - i) = 8 by omega]
  have hv2 : (v + 1) * 256 ^ (8 - i) ≤ 2 ^ 64 := by rw [← htot]; exact Nat.mul_le_mul_right _ hv
  rw [Nat.add_mul, Nat.one_mul] at hv2
  have e1 : stdShift .shl .u64 (c.toNat : Int) (56 - 8 * (i : Int)) = ((c.toNat * 256 ^ (7 - i) : Nat) : Int) := by
    rw [show (56 : Int) - 8 * (i : Int) = ((8 * (7 - i) : Nat) : Int) by omega]
    show IntKind.u64.wrap ((c.toNat : Int) * (2 : Int) ^ (min ((8 * (7 - i) : Nat) : Int).toNat 64)) = _
    rw [Int.toNat_natCast, Nat.min_eq_left (by omega), show (2 : Int) ^ (8 * (7 - i)) = ((2 ^ (8 * (7 - i)) : Nat) : Int) by simp, pow256, ← Int.natCast_mul, wrap_u64n, Nat.mod_eq_of_lt (by omega)]
  rw [e2, e1, show 8 - (i + 1) = 7 - i by omega]
  have := or_u64 (a := v * 256 ^ (8 - i)) (b := c.toNat * 256 ^ (7 - i)) (k := 8 * (8 - i)) (by rw [pow256]; exact Nat.mul_mod_left _ _) (by rw [pow256]; exact hc2) (by omega)
  rw [this, hp, Nat.add_mul, Nat.mul_assoc]
def T36 : List (Nat × TI) := [(66, ti66), (105, ti105)]
theorem T36_ok : TabOK Tryd.prog T36 := .cons t66 (.cons t105 (.nil))
theorem enters36 : Enters Tryd.prog 36 := fun _ _ => by kernel_rfl
theorem new_s (s : ByteArray) : SpecX Tryd.prog 36 [.str s] [] (fun x => ⟨.ptr 5 x.b 0, [], [(5, ⟨x.b, 105, [.str s]⟩)]⟩) := by
  intro m w hm hargs hpre
  refine enterX hm hpre hargs Tryd.func36 rfl (by simp [Tryd.ntmps36]) fun a0 hF => ?_
  simp only [Tryd.ntmps36, startT] at hF
  obtain ⟨B, hB⟩ : ∃ B, B = std := ⟨_, rfl⟩
  refine wp_seq ?_
  apply region_okB hB T36_ok [0] [] [] hF
  case hex => intro A X; conv => lhs; cbv
  case hob =>
    intro X
    subst hB
    simp [AllOb, Ob.holds, BE.den, std, stdCmp, stdArith] <;> omega
  case hQ =>
  intro X0 a0 w1 hF
  refine wp_seq ?_
  apply region_okB hB T36_ok [2] [5] [] hF
  case hex => intro A X; conv => lhs; cbv
  case hob =>
    intro X
    subst hB
    simp [AllOb, Ob.holds, BE.den, std, stdCmp, stdArith] <;> omega
  case hQ =>
  intro X1 a0 w1 hF
  refine wp_ret ?_
  refine (ret_x (fn := Tryd.f36) T36_ok hF (rs := [.tmp 2]) rfl (rfl) ?_ (X1 2) [5] ?_ ?_ ?_).1
  · subst hB; simp [AllOb, Ob.holds]
  · exact Sim.refl _
  · exact trivial
  · exact ⟨⟨_, rfl, SimL.refl _⟩, fun e he => (by cases he), (by simp), trivial⟩
def T46 : List (Nat × TI) := [(3, ti3), (9, ti9), (66, ti66), (105, ti105)]
theorem T46_ok : TabOK Tryd.prog T46 := .cons t3 (.cons t9 (.cons t66 (.cons t105 (.nil))))
theorem enters46 : Enters Tryd.prog 46 := fun _ _ => by kernel_rfl
theorem left_m0 (b : Nat) (s : ByteArray) : SpecX Tryd.prog 46 [.ptr 0 b 0] [(0, ⟨b, 105, [.str s]⟩)] (fun _ => ⟨.int .i64 (s.size : Int), [(0, [.str s])], []⟩) := by
  intro m w hm hargs hpre
  refine enterX hm hpre hargs Tryd.func46 rfl (by simp [Tryd.ntmps46]) fun a0 hF => ?_
  simp only [Tryd.ntmps46, startT] at hF
  obtain ⟨B, hB⟩ : ∃ B, B = std := ⟨_, rfl⟩
  refine wp_seq ?_
  apply region_okB hB T46_ok [0] [0] [] hF
  case hex => intro A X; conv => lhs; cbv
  case hob =>
    intro X
    subst hB
    simp [AllOb, Ob.holds, BE.den, std, stdCmp, stdArith] <;> omega
  case hQ =>
  intro X0 a0 w1 hF
  refine wp_seq ?_
  refine wp_seq ?_
  apply region_okB hB T46_ok [4, 0] [0] [] hF
  case hex => intro A X; conv => lhs; cbv
  case hob =>
    intro X
    subst hB
    simp [AllOb, Ob.holds, BE.den, std, stdCmp, stdArith] <;> omega
  case hQ =>
  intro X1 a0 w1 hF
  refine test_ff hF rfl (fun hF => ?_)
  refine wp_skip ?_
  refine wp_seq ?_
  apply region_okB hB T46_ok [2] [0] [] hF
  case hex => intro A X; conv => lhs; cbv
  case hob =>
    intro X
    subst hB; exact ⟨rfl, trivial⟩
  case hQ =>
  intro X3 a0 w1 hF
  refine wp_ret ?_
  refine (ret_x (fn := Tryd.f46) T46_ok hF (rs := [.tmp 2]) rfl (rfl) ?_ noAtom [] ?_ ?_ ?_).1
  · subst hB; simp [AllOb, Ob.holds]
  · subst hB; exact Sim.refl _
  · subst hB; first | exact trivial | exact ⟨rfl, ⟨_, rfl, SimL.refl _⟩, trivial⟩
  · exact trivial
theorem left_m (k0 : Nat) (b : Nat) (s : ByteArray) : SpecX Tryd.prog 46 [.ptr k0 b 0] [(k0, ⟨b, 105, [.str s]⟩)] (fun _ => ⟨.int .i64 (s.size : Int), [(k0, [.str s])], []⟩) :=
  (left_m0 b s).re (by repeat (first | exact trivial | refine ⟨Sim.ptr, ?_⟩ | refine ⟨Sim.fn ⟨Sim.ptr, trivial⟩ trivial, ?_⟩ | refine ⟨Sim.fn trivial ⟨Sim.ptr, trivial⟩, ?_⟩ | refine ⟨Sim.refl _, ?_⟩)) rfl (fun x => ⟨rfl, rfl, Sim.refl _, rfl⟩)
def T106 : List (Nat × TI) := [(3, ti3), (9, ti9), (27, ti27), (105, ti105)]
theorem T106_ok : TabOK Tryd.prog T106 := .cons t3 (.cons t9 (.cons t27 (.cons t105 (.nil))))
theorem enters106 : Enters Tryd.prog 106 := fun _ _ => by kernel_rfl
theorem take_m0 (b : Nat) (s : ByteArray) (n : Int) (hn : 0 ≤ n) : SpecX Tryd.prog 106 [.ptr 0 b 0, .int .i64 n] [(0, ⟨b, 105, [.str s]⟩)] (fun _ => ⟨.tup [.str (takeS s n), .int .i64 (takeE s n)], [(0, [.str (takeR s n)])], []⟩) := by
  intro m w hm hargs hpre
  refine enterX hm hpre hargs Tryd.func106 rfl (by simp [Tryd.ntmps106]) fun a0 hF => ?_
  simp only [Tryd.ntmps106, startT] at hF
  obtain ⟨B, hB⟩ : ∃ B, B = std := ⟨_, rfl⟩
  refine wp_seq ?_
  apply region_okB hB T106_ok [0, 1] [0] [] hF
  case hex => intro A X; conv => lhs; cbv
  case hob =>
    intro X
    subst hB
    simp [AllOb, Ob.holds, BE.den, std, stdCmp, stdArith] <;> omega
  case hQ =>
  intro X0 a0 w1 hF
  refine wp_seq ?_
  refine wp_seq ?_
  apply region_okB hB T106_ok [13, 0, 1] [0] [] hF
  case hex => intro A X; conv => lhs; cbv
  case hob =>
    intro X
    subst hB; exact ⟨rfl, trivial⟩
  case hQ =>
  intro X1 a0 w1 hF
  refine test_ok hF rfl (fun hb hF => ?_) (fun hb hF => ?_)
  · skip
    have hlt : (s.size : Int) < n := by subst hB; simpa [std, stdCmp] using hb
    simp only [takeS, takeE, takeR, hlt, if_true]
    refine wp_seq ?_
    apply region_okB hB T106_ok [4, 5] [0] [] hF
    case hex => intro A X; conv => lhs; cbv
    case hob =>
      intro X
      subst hB
      simp [AllOb, Ob.holds, BE.den, std, stdCmp, stdArith] <;> omega
    case hQ =>
    intro X2 a0 w1 hF
    refine wp_ret ?_
    refine (ret_x (fn := Tryd.f106) T106_ok hF (rs := [.tmp 4, .tmp 5]) rfl (rfl) ?_ noAtom [] ?_ ?_ ?_).1
    · subst hB; simp [AllOb, Ob.holds]
    · subst hB; exact Sim.refl _
    · subst hB; first | exact trivial | exact ⟨rfl, ⟨_, rfl, SimL.refl _⟩, trivial⟩
    · exact trivial
  · skip
    have hlt : ¬ (s.size : Int) < n := by subst hB; simpa [std, stdCmp] using hb
    simp only [takeS, takeE, takeR, hlt, if_false]
    refine wp_skip ?_
    refine wp_seq ?_
    apply region_okB hB T106_ok [0, 1, 6] [0] [] hF
    case hex => intro A X; conv => lhs; cbv
    case hob =>
      intro X
      subst hB
      exact ⟨rfl, ⟨by decide, hn, by show n ≤ (s.size : Int); omega⟩, trivial⟩
    case hQ =>
    intro X3 a0 w1 hF
    refine wp_seq ?_
    apply region_okB hB T106_ok [6] [0] [] hF
    case hex => intro A X; conv => lhs; cbv
    case hob =>
      intro X
      subst hB
      exact ⟨rfl, ⟨hn, by show n ≤ (s.size : Int); omega, Int.le_refl _⟩, rfl, trivial⟩
    case hQ =>
    intro X4 a0 w1 hF
    refine wp_seq ?_
    apply region_okB hB T106_ok [4, 5] [0] [] hF
    case hex => intro A X; conv => lhs; cbv
    case hob =>
      intro X
      subst hB
      simp [AllOb, Ob.holds, BE.den, std, stdCmp, stdArith] <;> omega
    case hQ =>
    intro X5 a0 w1 hF
    refine wp_ret ?_
    refine (ret_x (fn := Tryd.f106) T106_ok hF (rs := [.tmp 4, .tmp 5]) rfl (rfl) ?_ noAtom [] ?_ ?_ ?_).1
    · subst hB; simp [AllOb, Ob.holds]
    · subst hB; exact Sim.refl _
    · subst hB; first | exact trivial | exact ⟨rfl, ⟨_, rfl, SimL.refl _⟩, trivial⟩
    · exact trivial
theorem take_m (k0 : Nat) (b : Nat) (s : ByteArray) (n : Int) (hn : 0 ≤ n) : SpecX Tryd.prog 106 [.ptr k0 b 0, .int .i64 n] [(k0, ⟨b, 105, [.str s]⟩)] (fun _ => ⟨.tup [.str (takeS s n), .int .i64 (takeE s n)], [(k0, [.str (takeR s n)])], []⟩) :=
  (take_m0 b s n hn).re (by repeat (first | exact trivial | refine ⟨Sim.ptr, ?_⟩ | refine ⟨Sim.fn ⟨Sim.ptr, trivial⟩ trivial, ?_⟩ | refine ⟨Sim.fn trivial ⟨Sim.ptr, trivial⟩, ?_⟩ | refine ⟨Sim.refl _, ?_⟩)) rfl (fun x => ⟨rfl, rfl, Sim.refl _, rfl⟩)
def T93 : List (Nat × TI) := [(3, ti3), (5, ti5), (9, ti9), (22, ti22), (27, ti27), (66, ti66)]
theorem T93_ok : TabOK Tryd.prog T93 := .cons t3 (.cons t5 (.cons t9 (.cons t22 (.cons t27 (.cons t66 (.nil))))))
theorem enters93 : Enters Tryd.prog 93 := fun _ _ => by kernel_rfl
theorem number_m0 (b : Nat) (s : ByteArray) : SpecX Tryd.prog 93 [.ptr 0 b 0] [(0, ⟨b, 105, [.str s]⟩)] (fun _ => ⟨.tup [.int .u64 (numV s), .int .i64 (numE s)], [(0, [.str (numQ s)])], []⟩) := by
  intro m w hm hargs hpre
  have S1 := take_m0 b s 1 (by decide)
  have C1 := take_cases s 1 (by decide)
  generalize takeS s 1 = s1 at S1 C1
  generalize takeE s 1 = e1 at S1 C1
  generalize takeR s 1 = r1 at S1 C1
  refine enterX hm hpre hargs Tryd.func93 rfl (by simp [Tryd.ntmps93]) fun a0 hF => ?_
  simp only [Tryd.ntmps93, startT] at hF
  obtain ⟨B, hB⟩ : ∃ B, B = std := ⟨_, rfl⟩
  refine wp_seq ?_
  apply region_okB hB T93_ok [0] [0] [] hF
  case hex => intro A X; conv => lhs; cbv
  case hob =>
    intro X
    subst hB
    simp [AllOb, Ob.holds, BE.den, std, stdCmp, stdArith] <;> omega
  case hQ =>
  intro X0 a0 w1 hF
  refine wp_seq ?_
  apply region_okB hB T93_ok [0, 4, 5] [0] [(1, .x fun _ => ⟨.tup [.str s1, .int .i64 e1], [(0, [.str r1])], []⟩)] hF
  case hex => intro A X; conv => lhs; cbv
  case hob =>
    intro X
    subst hB; exact ⟨⟨enters106, S1⟩, trivial⟩
  case hQ =>
  intro X1 a0 w1 hF
  refine wp_seq ?_
  refine wp_seq ?_
  apply region_okB hB T93_ok [14, 0, 4, 5] [0] [] hF
  case hex => intro A X; conv => lhs; cbv
  case hob =>
    intro X
    subst hB
    simp [AllOb, Ob.holds, BE.den, std, stdCmp, stdArith] <;> omega
  case hQ =>
  intro X2 a0 w1 hF
  refine test_ok hF rfl (fun hb hF => ?_) (fun hb hF => ?_)
  · skip
    have hs : unB s = [] ∧ e1 = 4 ∧ r1 = s := by
      rcases C1 with ⟨h1, h2, h3, h4⟩ | ⟨h1, h2, h3, h4⟩
      · exact ⟨List.eq_nil_of_length_eq_zero (by rw [un_size]; omega), h3, h4⟩
      · subst hB; rw [h3] at hb; cases hb
    obtain ⟨hs, he1, hr1⟩ := hs
    have hV : numV s = 0 := by simp only [numV, hs]; rfl
    have hE : numE s = e1 := by simp only [numE, hs, he1]; rfl
    have hQ : numQ s = r1 := by rw [hr1]; simp only [numQ, hs]; rw [← mk_un s, hs]
    refine wp_seq ?_
    apply region_okB hB T93_ok [2, 3] [0] [] hF
    case hex => intro A X; conv => lhs; cbv
    case hob =>
      intro X
      subst hB
      simp [AllOb, Ob.holds, BE.den, std, stdCmp, stdArith] <;> omega
    case hQ =>
    intro X3 a0 w1 hF
    refine wp_ret ?_
    refine (ret_x (fn := Tryd.f93) T93_ok hF (rs := [.tmp 2, .tmp 3]) rfl (rfl) ?_ noAtom [] ?_ ?_ ?_).1
    · subst hB; simp [AllOb, Ob.holds]
    · subst hB; rw [hV, hE]; exact Sim.refl _
    · subst hB; rw [hQ]; exact ⟨rfl, ⟨_, rfl, SimL.refl _⟩, trivial⟩
    · exact trivial
  · skip
    have hs : ∃ n r, unB s = n :: r ∧ s1 = mkB [n] ∧ r1 = mkB r := by
      rcases C1 with ⟨h1, h2, h3, h4⟩ | ⟨h1, h2, h3, h4⟩
      · subst hB; rw [h3] at hb; cases hb
      · cases hu : unB s with
        | nil => have := un_size s; rw [hu] at this; simp at this; omega
        | cons n r => rw [hu] at h2 h4; exact ⟨n, r, rfl, h2, h4⟩
    obtain ⟨n, r, hs, hs1, hr1⟩ := hs
    refine wp_skip ?_
    refine wp_seq ?_
    refine wp_seq ?_
    apply region_okB hB T93_ok [18, 0, 4] [0] [] hF
    case hex => intro A X; conv => lhs; cbv
    case hob =>
      intro X
      subst hB
      exact ⟨⟨by decide, by show (0 : Int) < (s1.size : Int); rw [hs1, mk_size]; simp⟩, trivial⟩
    case hQ =>
    intro X4 a0 w1 hF
    refine test_ok hF rfl (fun hb hF => ?_) (fun hb hF => ?_)
    · skip
      have hn8 : 8 < n.toNat := by
        have h1 : (8 : Int) < ((s1[(0 : Int).toNat]?.getD 0).toNat : Int) := by subst hB; simpa [std, stdCmp] using hb
        rw [hs1] at h1
        have h2 : (8 : Int) < (n.toNat : Int) := h1
        omega
      have hV : numV s = 0 := by simp only [numV, hs, decN, hn8, if_true]; rfl
      have hE : numE s = 3 := by simp only [numE, hs, decN, hn8, if_true]; rfl
      have hQ : numQ s = r1 := by rw [hr1]; simp only [numQ, hs, hn8, if_true]
      refine wp_seq ?_
      apply region_okB hB T93_ok [2, 3] [0] [] hF
      case hex => intro A X; conv => lhs; cbv
      case hob =>
        intro X
        subst hB
        simp [AllOb, Ob.holds, BE.den, std, stdCmp, stdArith] <;> omega
      case hQ =>
      intro X5 a0 w1 hF
      refine wp_ret ?_
      refine (ret_x (fn := Tryd.f93) T93_ok hF (rs := [.tmp 2, .tmp 3]) rfl (rfl) ?_ noAtom [] ?_ ?_ ?_).1
      · subst hB; simp [AllOb, Ob.holds]
      · subst hB; rw [hV, hE]; exact Sim.refl _
      · subst hB; rw [hQ]; exact ⟨rfl, ⟨_, rfl, SimL.refl _⟩, trivial⟩
      · exact trivial
    · skip
      have hn8 : ¬ 8 < n.toNat := by
        have h1 : ¬ (8 : Int) < ((s1[(0 : Int).toNat]?.getD 0).toNat : Int) := by subst hB; simpa [std, stdCmp] using hb
        rw [hs1] at h1
        have h2 : ¬ (8 : Int) < (n.toNat : Int) := h1
        omega
      have S2 := take_m0 b r1 (n.toNat : Int) (by omega)
      have C2 := take_cases r1 (n.toNat : Int) (by omega)
      generalize takeS r1 (n.toNat : Int) = s2 at S2 C2
      generalize takeE r1 (n.toNat : Int) = e2 at S2 C2
      generalize takeR r1 (n.toNat : Int) = r2 at S2 C2
      refine wp_skip ?_
      refine wp_seq ?_
      refine wp_seq ?_
      apply region_okB hB T93_ok [4, 5] [0] [(4, .x fun _ => ⟨.tup [.str s2, .int .i64 e2], [(0, [.str r2])], []⟩)] hF
      case hex => intro A X; conv => lhs; cbv
      case hob =>
        intro X
        subst hB
        refine ⟨⟨by decide, by show (0 : Int) < (s1.size : Int); rw [hs1, mk_size]; simp⟩, ⟨enters106, ?_⟩, trivial⟩
        show SpecX _ _ [.ptr 0 b 0, .int .i64 (IntKind.i64.wrap ((s1[(0 : Int).toNat]?.getD 0).toNat : Int))] _ _
        rw [hs1, show ((mkB [n])[(0 : Int).toNat]?.getD 0) = n from rfl, wrap_i64n _ (by omega)]
        exact S2
      case hQ =>
      intro X6 a0 w1 hF
      refine wp_seq ?_
      apply region_okB hB T93_ok [28, 4, 5] [0] [] hF
      case hex => intro A X; conv => lhs; cbv
      case hob =>
        intro X
        subst hB
        simp [AllOb, Ob.holds, BE.den, std, stdCmp, stdArith] <;> omega
      case hQ =>
      intro X7 a0 w1 hF
      refine test_ok hF rfl (fun hb hF => ?_) (fun hb hF => ?_)
      · skip
        have hr : r.length < n.toNat ∧ e2 = 4 ∧ r2 = r1 := by
          rcases C2 with ⟨h1, h2, h3, h4⟩ | ⟨h1, h2, h3, h4⟩
          · rw [hr1, mk_size] at h1; exact ⟨by omega, h3, h4⟩
          · subst hB; rw [h3] at hb; cases hb
        obtain ⟨hr, he2, hr2⟩ := hr
        have hV : numV s = 0 := by simp only [numV, hs, decN, hn8, hr, if_true, if_false]; rfl
        have hE : numE s = e2 := by simp only [numE, hs, decN, hn8, hr, he2, if_true, if_false]; rfl
        have hQ : numQ s = r2 := by rw [hr2, hr1]; simp only [numQ, hs, hn8, hr, if_true, if_false]
        refine wp_seq ?_
        apply region_okB hB T93_ok [2, 3] [0] [] hF
        case hex => intro A X; conv => lhs; cbv
        case hob =>
          intro X
          subst hB
          simp [AllOb, Ob.holds, BE.den, std, stdCmp, stdArith] <;> omega
        case hQ =>
        intro X8 a0 w1 hF
        refine wp_ret ?_
        refine (ret_x (fn := Tryd.f93) T93_ok hF (rs := [.tmp 2, .tmp 3]) rfl (rfl) ?_ noAtom [] ?_ ?_ ?_).1
        · subst hB; simp [AllOb, Ob.holds]
        · subst hB; rw [hV, hE]; exact Sim.refl _
        · subst hB; rw [hQ]; exact ⟨rfl, ⟨_, rfl, SimL.refl _⟩, trivial⟩
        · exact trivial
      · skip
        have hr : ¬ r.length < n.toNat ∧ s2 = mkB (r.take n.toNat) ∧ r2 = mkB (r.drop n.toNat) := by
          rcases C2 with ⟨h1, h2, h3, h4⟩ | ⟨h1, h2, h3, h4⟩
          · subst hB; rw [h3] at hb; cases hb
          · rw [hr1] at h1 h2 h4; rw [un_mk] at h2 h4; rw [mk_size] at h1; exact ⟨by omega, h2, h4⟩
        obtain ⟨hr, hs2, hr2⟩ := hr
        have hu2 : unB s2 = r.take n.toNat := by rw [hs2, un_mk]
        have hsz : s2.size = n.toNat := by rw [← un_size, hu2, List.length_take]; omega
        refine wp_skip ?_
        refine wp_seq ?_
        apply region_okB hB T93_ok [4, 6] [0] [] hF
        case hex => intro A X; conv => lhs; cbv
        case hob =>
          intro X
          subst hB
          simp [AllOb, Ob.holds, BE.den, std, stdCmp, stdArith] <;> omega
        case hQ =>
        intro X9 a0 w1 hF
        refine wp_seq ?_
        refine wp_seq ?_
        apply region_okB hB T93_ok [6, 32, 4, 31] [0] [] hF
        case hex => intro A X; conv => lhs; cbv
        case hob =>
          intro X
          subst hB
          simp [AllOb, Ob.holds, BE.den, std, stdCmp, stdArith] <;> omega
        case hQ =>
        intro X10 a0 w1 hF
        refine wp_block ?_
        refine loop_pre (ι := Nat × Int) (fun p => [(6, .int .u64 p.2), (32, .int .i64 (p.1 : Int))]) (fun p => []) (fun p => []) (fun p => p.1 ≤ s2.size ∧ p.2 = (valB ((unB s2).take p.1) : Int)) (fun p => s2.size - p.1) (0, 0) ⟨Nat.zero_le _, rfl⟩ hF ?_
        rintro ⟨i, x⟩ ⟨hi, hx⟩ a0 w1 hF
        try dsimp only at hi
        try dsimp only at hx
        refine wp_seq ?_
        apply region_okB hB T93_ok [33, 4, 6, 31, 32] [0] [] hF
        case hex => intro A X; conv => lhs; cbv
        case hob =>
          intro X
          subst hB
          simp [AllOb, Ob.holds, BE.den, std, stdCmp, stdArith] <;> omega
        case hQ =>
        intro X11 a0 w1 hF
        refine wp_seq ?_
        refine test_ok hF rfl (fun hb hF => ?_) (fun hb hF => ?_)
        · skip
          have hin : i < s2.size := by
            have : (i : Int) < (s2.size : Int) := by subst hB; simpa [std, stdCmp] using hb
            omega
          refine wp_skip ?_
          refine wp_seq ?_
          refine wp_block ?_
          refine wp_seq ?_
          apply region_okB hB T93_ok [4, 6, 7, 31, 32] [0] [] hF
          case hex => intro A X; conv => lhs; cbv
          case hob =>
            intro X
            subst hB
            simp [AllOb, Ob.holds, BE.den, std, stdCmp, stdArith] <;> omega
          case hQ =>
          intro X12 a0 w1 hF
          apply region_okB hB T93_ok [4, 6, 31, 32] [0] [] hF
          case hex => intro A X; conv => lhs; cbv
          case hob =>
            intro X
            subst hB
            refine ⟨show (0 : Int) ≤ 8 by decide, ⟨?_, ?_⟩, trivial⟩
            · show (0 : Int) ≤ (i : Int); omega
            · show (i : Int) < (s2.size : Int); omega
          case hQ =>
          intro X13 a0 w1 hF
          apply region_okB hB T93_ok [6, 32, 4, 31] [0] [] hF
          case hex => intro A X; conv => lhs; cbv
          case hob =>
            intro X
            subst hB
            simp [AllOb, Ob.holds, BE.den, std, stdCmp, stdArith] <;> omega
          case hQ =>
          intro X14 a0 w1 hF
          have e : B.arith .add .i64 (i : Int) 1 = ((i + 1 : Nat) : Int) := by subst hB; exact wrap_succ (n := s2.size) hin (by simp only [maxLen]; omega)
          refine ⟨(i + 1, B.arith .or .u64 (B.shift .shl .u64 x 8) (B.conv .u64 (B.sat s2 (B.toNat (i : Int))))), ⟨by simp only; omega, ?_⟩, by simp only; omega, by rw [← e]; exact hF⟩
          subst hB
          show stdArith .or .u64 (stdShift .shl .u64 x 8) (IntKind.u64.wrap ((s2[((i : Int)).toNat]?.getD 0).toNat : Int)) = _
          have hi2 : i < (unB s2).length := by rw [un_size]; exact hin
          rw [hx, Int.toNat_natCast, un_get, List.getElem?_eq_getElem hi2, List.take_succ_eq_append_getElem hi2, valB_snoc]
          have hb1 := valB_lt ((unB s2).take i)
          rw [List.length_take, Nat.min_eq_left (by omega)] at hb1
          have hb2 : 256 ^ i ≤ 256 ^ 7 := Nat.pow_le_pow_right (by decide) (by omega)
          have hb3 : (256 : Nat) ^ 7 = 2 ^ 56 := by decide
          exact or_step _ _ (by omega)
        · skip
          have hout : i = s2.size := by
            have : ¬ (i : Int) < (s2.size : Int) := by subst hB; simpa [std, stdCmp] using hb
            omega
          rw [hout, List.take_of_length_le (by rw [un_size]; exact Nat.le_refl _)] at hx
          refine wp_exit ?_
          refine wp_seq ?_
          refine wp_seq ?_
          apply region_okB hB T93_ok [49, 6] [0] [] hF
          case hex => intro A X; conv => lhs; cbv
          case hob =>
            intro X
            subst hB
            refine ⟨fun h => ?_, trivial⟩
            have h1 := h _ (List.mem_singleton.2 rfl)
            have h2 : unB s2 ≠ [] := by
              have : (!(s2.toList == (ByteArray.mk #[]).toList)) = true := h1
              rw [toList_un, toList_un] at this
              have h5 : unB s2 ≠ unB (ByteArray.mk #[]) := by simpa using this
              exact h5
            have h3 : 0 < s2.size := by rw [← un_size]; exact List.length_pos_iff.2 h2
            exact ⟨by decide, by show (0 : Int) < (s2.size : Int); omega⟩
          case hQ =>
          intro X15 a0 w1 hF
          refine test_ok hF rfl (fun hb hF => ?_) (fun hb hF => ?_)
          · skip
            have hh : (unB s2).head? = some 0 := by subst hB; exact (head0 s2).1 hb
            rw [hu2] at hh
            have hV : numV s = 0 := by simp only [numV, hs, decN, hn8, hr, hh, if_true, if_false]; rfl
            have hE : numE s = 3 := by simp only [numE, hs, decN, hn8, hr, hh, if_true, if_false]; rfl
            have hQ : numQ s = r2 := by rw [hr2]; simp only [numQ, hs, hn8, hr, if_false]
            refine wp_seq ?_
            apply region_okB hB T93_ok [2, 3] [0] [] hF
            case hex => intro A X; conv => lhs; cbv
            case hob =>
              intro X
              subst hB
              simp [AllOb, Ob.holds, BE.den, std, stdCmp, stdArith] <;> omega
            case hQ =>
            intro X16 a0 w1 hF
            refine wp_ret ?_
            refine (ret_x (fn := Tryd.f93) T93_ok hF (rs := [.tmp 2, .tmp 3]) rfl (rfl) ?_ noAtom [] ?_ ?_ ?_).1
            · subst hB; simp [AllOb, Ob.holds]
            · subst hB; rw [hV, hE]; exact Sim.refl _
            · subst hB; rw [hQ]; exact ⟨rfl, ⟨_, rfl, SimL.refl _⟩, trivial⟩
            · exact trivial
          · skip
            have hh : ¬ (unB s2).head? = some 0 := by
              intro h; have h5 := (head0 s2).2 h; subst hB; exact Bool.false_ne_true (hb.symm.trans h5)
            rw [hu2] at hh
            have hV : numV s = x := by rw [hx, hu2]; simp only [numV, hs, decN, hn8, hr, hh, if_false]; rfl
            have hE : numE s = 0 := by simp only [numE, hs, decN, hn8, hr, hh, if_false]; rfl
            have hQ : numQ s = r2 := by rw [hr2]; simp only [numQ, hs, hn8, hr, if_false]
            refine wp_skip ?_
            refine wp_seq ?_
            apply region_okB hB T93_ok [2, 3] [0] [] hF
            case hex => intro A X; conv => lhs; cbv
            case hob =>
              intro X
              subst hB
              simp [AllOb, Ob.holds, BE.den, std, stdCmp, stdArith] <;> omega
            case hQ =>
            intro X17 a0 w1 hF
            refine wp_ret ?_
            refine (ret_x (fn := Tryd.f93) T93_ok hF (rs := [.tmp 2, .tmp 3]) rfl (rfl) ?_ noAtom [] ?_ ?_ ?_).1
            · subst hB; simp [AllOb, Ob.holds]
            · subst hB; rw [hV, hE]; exact Sim.refl _
            · subst hB; rw [hQ]; exact ⟨rfl, ⟨_, rfl, SimL.refl _⟩, trivial⟩
            · exact trivial
theorem number_m (k0 : Nat) (b : Nat) (s : ByteArray) : SpecX Tryd.prog 93 [.ptr k0 b 0] [(k0, ⟨b, 105, [.str s]⟩)] (fun _ => ⟨.tup [.int .u64 (numV s), .int .i64 (numE s)], [(k0, [.str (numQ s)])], []⟩) :=
  (number_m0 b s).re (by repeat (first | exact trivial | refine ⟨Sim.ptr, ?_⟩ | refine ⟨Sim.fn ⟨Sim.ptr, trivial⟩ trivial, ?_⟩ | refine ⟨Sim.fn trivial ⟨Sim.ptr, trivial⟩, ?_⟩ | refine ⟨Sim.refl _, ?_⟩)) rfl (fun x => ⟨rfl, rfl, Sim.refl _, rfl⟩)
def T97 : List (Nat × TI) := [(3, ti3), (9, ti9), (22, ti22), (27, ti27), (66, ti66)]
theorem T97_ok : TabOK Tryd.prog T97 := .cons t3 (.cons t9 (.cons t22 (.cons t27 (.cons t66 (.nil)))))
theorem enters97 : Enters Tryd.prog 97 := fun _ _ => by kernel_rfl
theorem text_m0 (b : Nat) (s : ByteArray) : SpecX Tryd.prog 97 [.ptr 0 b 0] [(0, ⟨b, 105, [.str s]⟩)] (fun _ => ⟨.tup [.str (txtV s), .int .i64 (txtE s)], [(0, [.str (txtQ s)])], []⟩) := by
  intro m w hm hargs hpre
  have S1 := number_m0 b s
  obtain ⟨hnv0, hnv1⟩ := numV_u64 s
  have C1 := num_cases s
  generalize numV s = v at S1 C1 hnv0 hnv1
  generalize numE s = e at S1 C1
  generalize hq : numQ s = q at S1 C1
  refine enterX hm hpre hargs Tryd.func97 rfl (by simp [Tryd.ntmps97]) fun a0 hF => ?_
  simp only [Tryd.ntmps97, startT] at hF
  obtain ⟨B, hB⟩ : ∃ B, B = std := ⟨_, rfl⟩
  refine wp_seq ?_
  apply region_okB hB T97_ok [0] [0] [] hF
  case hex => intro A X; conv => lhs; cbv
  case hob =>
    intro X
    subst hB
    simp [AllOb, Ob.holds, BE.den, std, stdCmp, stdArith] <;> omega
  case hQ =>
  intro X0 a0 w1 hF
  refine wp_seq ?_
  apply region_okB hB T97_ok [0, 4, 5] [0] [(1, .x fun _ => ⟨.tup [.int .u64 v, .int .i64 e], [(0, [.str q])], []⟩)] hF
  case hex => intro A X; conv => lhs; cbv
  case hob =>
    intro X
    subst hB; exact ⟨⟨enters93, S1⟩, trivial⟩
  case hQ =>
  intro X1 a0 w1 hF
  refine wp_seq ?_
  refine wp_seq ?_
  apply region_okB hB T97_ok [12, 0, 4, 5] [0] [] hF
  case hex => intro A X; conv => lhs; cbv
  case hob =>
    intro X
    subst hB
    simp [AllOb, Ob.holds, BE.den, std, stdCmp, stdArith] <;> omega
  case hQ =>
  intro X2 a0 w1 hF
  refine test_ok hF rfl (fun hb hF => ?_) (fun hb hF => ?_)
  · skip
    have hd : decN (unB s) = .error e := by
      rcases C1 with ⟨h1, h2, h3⟩ | ⟨h1, n, r, h2, h3, h4⟩
      · exact h2
      · subst hB; rw [h1] at hb; cases hb
    have hV : txtV s = mkB [] := by simp only [txtV, decT, hd]; rfl
    have hE : txtE s = e := by simp only [txtE, decT, hd]; rfl
    have hQ : txtQ s = q := by simp only [txtQ, hd]; exact hq
    refine wp_seq ?_
    apply region_okB hB T97_ok [2, 3] [0] [] hF
    case hex => intro A X; conv => lhs; cbv
    case hob =>
      intro X
      subst hB
      simp [AllOb, Ob.holds, BE.den, std, stdCmp, stdArith] <;> omega
    case hQ =>
    intro X3 a0 w1 hF
    refine wp_ret ?_
    refine (ret_x (fn := Tryd.f97) T97_ok hF (rs := [.tmp 2, .tmp 3]) rfl (rfl) ?_ noAtom [] ?_ ?_ ?_).1
    · subst hB; simp [AllOb, Ob.holds]
    · subst hB; rw [hV, hE]; exact Sim.refl _
    · subst hB; rw [hQ]; exact ⟨rfl, ⟨_, rfl, SimL.refl _⟩, trivial⟩
    · exact trivial
  · skip
    have hd : ∃ n r, decN (unB s) = .ok (n, r) ∧ v = (n : Int) ∧ q = mkB r := by
      rcases C1 with ⟨h1, h2, h3⟩ | ⟨h1, h2⟩
      · subst hB; exact absurd (show e = 0 by simpa [std, stdCmp] using hb) h1
      · exact h2
    obtain ⟨n, r, hd, hvn, hqr⟩ := hd
    refine wp_skip ?_
    refine wp_seq ?_
    refine wp_seq ?_
    apply region_okB hB T97_ok [15, 0, 4] [0] [] hF
    case hex => intro A X; conv => lhs; cbv
    case hob =>
      intro X
      subst hB
      simp [AllOb, Ob.holds, BE.den, std, stdCmp, stdArith] <;> omega
    case hQ =>
    intro X4 a0 w1 hF
    refine test_ok hF rfl (fun hb hF => ?_) (fun hb hF => ?_)
    · skip
      have hn : 4096 < n := by
        have : (4096 : Int) < v := by subst hB; simpa [std, stdCmp] using hb
        omega
      have hV : txtV s = mkB [] := by simp only [txtV, decT, hd, hn, if_true]; rfl
      have hE : txtE s = 3 := by simp only [txtE, decT, hd, hn, if_true]; rfl
      have hQ : txtQ s = q := by rw [hqr]; simp only [txtQ, hd, hn, if_true]
      refine wp_seq ?_
      apply region_okB hB T97_ok [2, 3] [0] [] hF
      case hex => intro A X; conv => lhs; cbv
      case hob =>
        intro X
        subst hB
        simp [AllOb, Ob.holds, BE.den, std, stdCmp, stdArith] <;> omega
      case hQ =>
      intro X5 a0 w1 hF
      refine wp_ret ?_
      refine (ret_x (fn := Tryd.f97) T97_ok hF (rs := [.tmp 2, .tmp 3]) rfl (rfl) ?_ noAtom [] ?_ ?_ ?_).1
      · subst hB; simp [AllOb, Ob.holds]
      · subst hB; rw [hV, hE]; exact Sim.refl _
      · subst hB; rw [hQ]; exact ⟨rfl, ⟨_, rfl, SimL.refl _⟩, trivial⟩
      · exact trivial
    · skip
      have hn : ¬ 4096 < n := by
        have : ¬ (4096 : Int) < v := by subst hB; simpa [std, stdCmp] using hb
        omega
      have S2 := take_m0 b q v hnv0
      have C2 := take_cases q v hnv0
      generalize takeS q v = s2 at S2 C2
      generalize takeE q v = e2 at S2 C2
      generalize takeR q v = r2 at S2 C2
      have hall : txtV s = s2 ∧ txtE s = e2 ∧ txtQ s = r2 := by
        rw [hvn, hqr] at C2
        rw [mk_size, un_mk, Int.toNat_natCast] at C2
        rcases C2 with ⟨h1, h2, h3, h4⟩ | ⟨h1, h2, h3, h4⟩
        · have hr : r.length < n := by omega
          refine ⟨?_, ?_, ?_⟩
          · rw [h2]; simp only [txtV, decT, hd, hn, hr, if_true, if_false]; rfl
          · rw [h3]; simp only [txtE, decT, hd, hn, hr, if_true, if_false]; rfl
          · rw [h4]; simp only [txtQ, hd, hn, hr, if_true, if_false]
        · have hr : ¬ r.length < n := by omega
          refine ⟨?_, ?_, ?_⟩
          · rw [h2]; simp only [txtV, decT, hd, hn, hr, if_false]; rfl
          · rw [h3]; simp only [txtE, decT, hd, hn, hr, if_false]; rfl
          · rw [h4]; simp only [txtQ, hd, hn, hr, if_false]
      obtain ⟨hV, hE, hQ⟩ := hall
      refine wp_skip ?_
      refine wp_seq ?_
      apply region_okB hB T97_ok [2, 3] [0] [(3, .x fun _ => ⟨.tup [.str s2, .int .i64 e2], [(0, [.str r2])], []⟩)] hF
      case hex => intro A X; conv => lhs; cbv
      case hob =>
        intro X
        subst hB
        refine ⟨⟨enters106, ?_⟩, trivial⟩
        show SpecX _ _ [.ptr 0 b 0, .int .i64 (IntKind.i64.wrap v)] _ _
        rw [wrap_in (by omega) (by omega)]
        exact S2
      case hQ =>
      intro X6 a0 w1 hF
      refine wp_ret ?_
      refine (ret_x (fn := Tryd.f97) T97_ok hF (rs := [.tmp 2, .tmp 3]) rfl (rfl) ?_ noAtom [] ?_ ?_ ?_).1
      · subst hB; simp [AllOb, Ob.holds]
      · subst hB; rw [hV, hE]; exact Sim.refl _
      · subst hB; rw [hQ]; exact ⟨rfl, ⟨_, rfl, SimL.refl _⟩, trivial⟩
      · exact trivial
theorem text_m (k0 : Nat) (b : Nat) (s : ByteArray) : SpecX Tryd.prog 97 [.ptr k0 b 0] [(k0, ⟨b, 105, [.str s]⟩)] (fun _ => ⟨.tup [.str (txtV s), .int .i64 (txtE s)], [(k0, [.str (txtQ s)])], []⟩) :=
  (text_m0 b s).re (by repeat (first | exact trivial | refine ⟨Sim.ptr, ?_⟩ | refine ⟨Sim.fn ⟨Sim.ptr, trivial⟩ trivial, ?_⟩ | refine ⟨Sim.fn trivial ⟨Sim.ptr, trivial⟩, ?_⟩ | refine ⟨Sim.refl _, ?_⟩)) rfl (fun x => ⟨rfl, rfl, Sim.refl _, rfl⟩)
def T92 : List (Nat × TI) := [(9, ti9), (22, ti22), (27, ti27), (66, ti66), (105, ti105)]
theorem T92_ok : TabOK Tryd.prog T92 := .cons t9 (.cons t22 (.cons t27 (.cons t66 (.cons t105 (.nil)))))
theorem enters92 : Enters Tryd.prog 92 := fun _ _ => by kernel_rfl
theorem read_num0 (b : Nat) (s : ByteArray) : SpecX Tryd.prog 92 [.ptr 0 b 0, .fn 93 [.ptr 0 b 0] []] [(0, ⟨b, 105, [.str s]⟩)] (fun _ => ⟨.tup [.int .u64 (numV s), .int .i64 (numE s)], [(0, [.str (numR s)])], []⟩) := by
  intro m w hm hargs hpre
  have S1 := number_m0 b s
  obtain ⟨C0, C1⟩ := num_rest s
  generalize numV s = v at S1 C0 C1 ⊢
  generalize numE s = e at S1 C0 C1 ⊢
  generalize numQ s = q at S1 C0 C1
  generalize numR s = r at C0 C1 ⊢
  refine enterX hm hpre hargs Tryd.func92 rfl (by simp [Tryd.ntmps92]) fun a0 hF => ?_
  simp only [Tryd.ntmps92, startT] at hF
  obtain ⟨B, hB⟩ : ∃ B, B = std := ⟨_, rfl⟩
  refine wp_seq ?_
  apply region_okB hB T92_ok [0, 1] [0] [] hF
  case hex => intro A X; conv => lhs; cbv
  case hob =>
    intro X
    subst hB
    simp [AllOb, Ob.holds, BE.den, std, stdCmp, stdArith] <;> omega
  case hQ =>
  intro X0 a0 w1 hF
  refine wp_seq ?_
  apply region_okB hB T92_ok [0, 1, 6] [0] [] hF
  case hex => intro A X; conv => lhs; cbv
  case hob =>
    intro X
    subst hB
    simp [AllOb, Ob.holds, BE.den, std, stdCmp, stdArith] <;> omega
  case hQ =>
  intro X1 a0 w1 hF
  refine wp_seq ?_
  refine wp_seq ?_
  apply region_okB hB T92_ok [11, 0, 1, 6] [0] [] hF
  case hex => intro A X; conv => lhs; cbv
  case hob =>
    intro X
    subst hB
    simp [AllOb, Ob.holds, BE.den, std, stdCmp, stdArith] <;> omega
  case hQ =>
  intro X2 a0 w1 hF
  refine test_ff hF rfl (fun hF => ?_)
  refine wp_skip ?_
  refine wp_seq ?_
  apply region_okB hB T92_ok [0, 1, 6, 7] [0] [] hF
  case hex => intro A X; conv => lhs; cbv
  case hob =>
    intro X
    subst hB; exact ⟨rfl, trivial⟩
  case hQ =>
  intro X4 a0 w1 hF
  refine wp_seq ?_
  apply region_okB hB T92_ok [0, 6, 7, 8, 9] [0] [(1, .x fun _ => ⟨.tup [.int .u64 v, .int .i64 e], [(0, [.str q])], []⟩)] hF
  case hex => intro A X; conv => lhs; cbv
  case hob =>
    intro X
    subst hB; exact ⟨⟨enters93, S1⟩, trivial⟩
  case hQ =>
  intro X5 a0 w1 hF
  refine wp_seq ?_
  refine wp_seq ?_
  apply region_okB hB T92_ok [23, 0, 6, 7, 8, 9] [0] [] hF
  case hex => intro A X; conv => lhs; cbv
  case hob =>
    intro X
    subst hB
    simp [AllOb, Ob.holds, BE.den, std, stdCmp, stdArith] <;> omega
  case hQ =>
  intro X6 a0 w1 hF
  refine test_ok hF rfl (fun hb hF => ?_) (fun hb hF => ?_)
  · skip
    have he : e ≠ 0 := by subst hB; simpa [std, stdCmp] using hb
    obtain ⟨hv, hr⟩ := C1 he
    subst hv; subst hr
    refine wp_seq ?_
    apply region_okB hB T92_ok [6, 9] [0] [] hF
    case hex => intro A X; conv => lhs; cbv
    case hob =>
      intro X
      subst hB; exact ⟨rfl, trivial⟩
    case hQ =>
    intro X7 a0 w1 hF
    refine wp_seq ?_
    apply region_okB hB T92_ok [4, 5] [0] [] hF
    case hex => intro A X; conv => lhs; cbv
    case hob =>
      intro X
      subst hB
      simp [AllOb, Ob.holds, BE.den, std, stdCmp, stdArith] <;> omega
    case hQ =>
    intro X8 a0 w1 hF
    refine wp_ret ?_
    refine (ret_x (fn := Tryd.f92) T92_ok hF (rs := [.tmp 4, .tmp 5]) rfl (rfl) ?_ noAtom [] ?_ ?_ ?_).1
    · subst hB; simp [AllOb, Ob.holds]
    · subst hB; exact Sim.refl _
    · subst hB; first | exact trivial | exact ⟨rfl, ⟨_, rfl, SimL.refl _⟩, trivial⟩
    · exact trivial
  · skip
    have he : e = 0 := by subst hB; simpa [std, stdCmp] using hb
    have hr := C0 he
    subst hr; subst he
    refine wp_skip ?_
    refine wp_seq ?_
    apply region_okB hB T92_ok [4, 5] [0] [] hF
    case hex => intro A X; conv => lhs; cbv
    case hob =>
      intro X
      subst hB
      simp [AllOb, Ob.holds, BE.den, std, stdCmp, stdArith] <;> omega
    case hQ =>
    intro X9 a0 w1 hF
    refine wp_ret ?_
    refine (ret_x (fn := Tryd.f92) T92_ok hF (rs := [.tmp 4, .tmp 5]) rfl (rfl) ?_ noAtom [] ?_ ?_ ?_).1
    · subst hB; simp [AllOb, Ob.holds]
    · subst hB; exact Sim.refl _
    · subst hB; first | exact trivial | exact ⟨rfl, ⟨_, rfl, SimL.refl _⟩, trivial⟩
    · exact trivial
theorem read_num (k0 : Nat) (b : Nat) (s : ByteArray) : SpecX Tryd.prog 92 [.ptr k0 b 0, .fn 93 [.ptr k0 b 0] []] [(k0, ⟨b, 105, [.str s]⟩)] (fun _ => ⟨.tup [.int .u64 (numV s), .int .i64 (numE s)], [(k0, [.str (numR s)])], []⟩) :=
  (read_num0 b s).re (by repeat (first | exact trivial | refine ⟨Sim.ptr, ?_⟩ | refine ⟨Sim.fn ⟨Sim.ptr, trivial⟩ trivial, ?_⟩ | refine ⟨Sim.fn trivial ⟨Sim.ptr, trivial⟩, ?_⟩ | refine ⟨Sim.refl _, ?_⟩)) rfl (fun x => ⟨rfl, rfl, Sim.refl _, rfl⟩)
def T68 : List (Nat × TI) := [(22, ti22), (27, ti27), (66, ti66), (107, ti107)]
theorem T68_ok : TabOK Tryd.prog T68 := .cons t22 (.cons t27 (.cons t66 (.cons t107 (.nil))))
theorem enters68 : Enters Tryd.prog 68 := fun _ _ => by kernel_rfl
theorem Number_m0 (b : Nat) (s : ByteArray) : SpecX Tryd.prog 68 [.ptr 0 b 0] [(0, ⟨b, 105, [.str s]⟩)] (fun _ => ⟨.tup [.int .u64 (numV s), .int .i64 (numE s)], [(0, [.str (numR s)])], []⟩) := by
  intro m w hm hargs hpre
  have S1 := read_num0 b s
  generalize numV s = v at S1 ⊢
  generalize numE s = e at S1 ⊢
  generalize numR s = r at S1 ⊢
  refine enterX hm hpre hargs Tryd.func68 rfl (by simp [Tryd.ntmps68]) fun a0 hF => ?_
  simp only [Tryd.ntmps68, startT] at hF
  obtain ⟨B, hB⟩ : ∃ B, B = std := ⟨_, rfl⟩
  refine wp_seq ?_
  apply region_okB hB T68_ok [0] [0] [] hF
  case hex => intro A X; conv => lhs; cbv
  case hob =>
    intro X
    subst hB
    simp [AllOb, Ob.holds, BE.den, std, stdCmp, stdArith] <;> omega
  case hQ =>
  intro X0 a0 w1 hF
  refine wp_seq ?_
  apply region_okB hB T68_ok [2, 3] [0] [(3, .x fun _ => ⟨.tup [.int .u64 v, .int .i64 e], [(0, [.str r])], []⟩)] hF
  case hex => intro A X; conv => lhs; cbv
  case hob =>
    intro X
    subst hB; exact ⟨⟨enters92, S1⟩, trivial⟩
  case hQ =>
  intro X1 a0 w1 hF
  refine wp_ret ?_
  refine (ret_x (fn := Tryd.f68) T68_ok hF (rs := [.tmp 2, .tmp 3]) rfl (rfl) ?_ noAtom [] ?_ ?_ ?_).1
  · subst hB; simp [AllOb, Ob.holds]
  · subst hB; exact Sim.refl _
  · subst hB; first | exact trivial | exact ⟨rfl, ⟨_, rfl, SimL.refl _⟩, trivial⟩
  · exact trivial
theorem Number_m (k0 : Nat) (b : Nat) (s : ByteArray) : SpecX Tryd.prog 68 [.ptr k0 b 0] [(k0, ⟨b, 105, [.str s]⟩)] (fun _ => ⟨.tup [.int .u64 (numV s), .int .i64 (numE s)], [(k0, [.str (numR s)])], []⟩) :=
  (Number_m0 b s).re (by repeat (first | exact trivial | refine ⟨Sim.ptr, ?_⟩ | refine ⟨Sim.fn ⟨Sim.ptr, trivial⟩ trivial, ?_⟩ | refine ⟨Sim.fn trivial ⟨Sim.ptr, trivial⟩, ?_⟩ | refine ⟨Sim.refl _, ?_⟩)) rfl (fun x => ⟨rfl, rfl, Sim.refl _, rfl⟩)
def T96 : List (Nat × TI) := [(9, ti9), (27, ti27), (66, ti66), (105, ti105)]
theorem T96_ok : TabOK Tryd.prog T96 := .cons t9 (.cons t27 (.cons t66 (.cons t105 (.nil))))
theorem enters96 : Enters Tryd.prog 96 := fun _ _ => by kernel_rfl
theorem read_txt0 (b : Nat) (s : ByteArray) : SpecX Tryd.prog 96 [.ptr 0 b 0, .fn 97 [.ptr 0 b 0] []] [(0, ⟨b, 105, [.str s]⟩)] (fun _ => ⟨.tup [.str (txtV s), .int .i64 (txtE s)], [(0, [.str (txtR s)])], []⟩) := by
  intro m w hm hargs hpre
  have S1 := text_m0 b s
  obtain ⟨C0, C1⟩ := txt_rest s
  generalize txtV s = v at S1 C0 C1 ⊢
  generalize txtE s = e at S1 C0 C1 ⊢
  generalize txtQ s = q at S1 C0 C1
  generalize txtR s = r at C0 C1 ⊢
  refine enterX hm hpre hargs Tryd.func96 rfl (by simp [Tryd.ntmps96]) fun a0 hF => ?_
  simp only [Tryd.ntmps96, startT] at hF
  obtain ⟨B, hB⟩ : ∃ B, B = std := ⟨_, rfl⟩
  refine wp_seq ?_
  apply region_okB hB T96_ok [0, 1] [0] [] hF
  case hex => intro A X; conv => lhs; cbv
  case hob =>
    intro X
    subst hB
    simp [AllOb, Ob.holds, BE.den, std, stdCmp, stdArith] <;> omega
  case hQ =>
  intro X0 a0 w1 hF
  refine wp_seq ?_
  apply region_okB hB T96_ok [0, 1, 6] [0] [] hF
  case hex => intro A X; conv => lhs; cbv
  case hob =>
    intro X
    subst hB
    simp [AllOb, Ob.holds, BE.den, std, stdCmp, stdArith] <;> omega
  case hQ =>
  intro X1 a0 w1 hF
  refine wp_seq ?_
  refine wp_seq ?_
  apply region_okB hB T96_ok [11, 0, 1, 6] [0] [] hF
  case hex => intro A X; conv => lhs; cbv
  case hob =>
    intro X
    subst hB
    simp [AllOb, Ob.holds, BE.den, std, stdCmp, stdArith] <;> omega
  case hQ =>
  intro X2 a0 w1 hF
  refine test_ff hF rfl (fun hF => ?_)
  refine wp_skip ?_
  refine wp_seq ?_
  apply region_okB hB T96_ok [0, 1, 6, 7] [0] [] hF
  case hex => intro A X; conv => lhs; cbv
  case hob =>
    intro X
    subst hB; exact ⟨rfl, trivial⟩
  case hQ =>
  intro X4 a0 w1 hF
  refine wp_seq ?_
  apply region_okB hB T96_ok [0, 6, 7, 8, 9] [0] [(1, .x fun _ => ⟨.tup [.str v, .int .i64 e], [(0, [.str q])], []⟩)] hF
  case hex => intro A X; conv => lhs; cbv
  case hob =>
    intro X
    subst hB; exact ⟨⟨enters97, S1⟩, trivial⟩
  case hQ =>
  intro X5 a0 w1 hF
  refine wp_seq ?_
  refine wp_seq ?_
  apply region_okB hB T96_ok [23, 0, 6, 7, 8, 9] [0] [] hF
  case hex => intro A X; conv => lhs; cbv
  case hob =>
    intro X
    subst hB
    simp [AllOb, Ob.holds, BE.den, std, stdCmp, stdArith] <;> omega
  case hQ =>
  intro X6 a0 w1 hF
  refine test_ok hF rfl (fun hb hF => ?_) (fun hb hF => ?_)
  · skip
    have he : e ≠ 0 := by subst hB; simpa [std, stdCmp] using hb
    obtain ⟨hv, hr⟩ := C1 he
    subst hv; subst hr
    refine wp_seq ?_
    apply region_okB hB T96_ok [6, 9] [0] [] hF
    case hex => intro A X; conv => lhs; cbv
    case hob =>
      intro X
      subst hB; exact ⟨rfl, trivial⟩
    case hQ =>
    intro X7 a0 w1 hF
    refine wp_seq ?_
    apply region_okB hB T96_ok [4, 5] [0] [] hF
    case hex => intro A X; conv => lhs; cbv
    case hob =>
      intro X
      subst hB
      simp [AllOb, Ob.holds, BE.den, std, stdCmp, stdArith] <;> omega
    case hQ =>
    intro X8 a0 w1 hF
    refine wp_ret ?_
    refine (ret_x (fn := Tryd.f96) T96_ok hF (rs := [.tmp 4, .tmp 5]) rfl (rfl) ?_ noAtom [] ?_ ?_ ?_).1
    · subst hB; simp [AllOb, Ob.holds]
    · subst hB; exact Sim.refl _
    · subst hB; first | exact trivial | exact ⟨rfl, ⟨_, rfl, SimL.refl _⟩, trivial⟩
    · exact trivial
  · skip
    have he : e = 0 := by subst hB; simpa [std, stdCmp] using hb
    have hr := C0 he
    subst hr; subst he
    refine wp_skip ?_
    refine wp_seq ?_
    apply region_okB hB T96_ok [4, 5] [0] [] hF
    case hex => intro A X; conv => lhs; cbv
    case hob =>
      intro X
      subst hB
      simp [AllOb, Ob.holds, BE.den, std, stdCmp, stdArith] <;> omega
    case hQ =>
    intro X9 a0 w1 hF
    refine wp_ret ?_
    refine (ret_x (fn := Tryd.f96) T96_ok hF (rs := [.tmp 4, .tmp 5]) rfl (rfl) ?_ noAtom [] ?_ ?_ ?_).1
    · subst hB; simp [AllOb, Ob.holds]
    · subst hB; exact Sim.refl _
    · subst hB; first | exact trivial | exact ⟨rfl, ⟨_, rfl, SimL.refl _⟩, trivial⟩
    · exact trivial
theorem read_txt (k0 : Nat) (b : Nat) (s : ByteArray) : SpecX Tryd.prog 96 [.ptr k0 b 0, .fn 97 [.ptr k0 b 0] []] [(k0, ⟨b, 105, [.str s]⟩)] (fun _ => ⟨.tup [.str (txtV s), .int .i64 (txtE s)], [(k0, [.str (txtR s)])], []⟩) :=
  (read_txt0 b s).re (by repeat (first | exact trivial | refine ⟨Sim.ptr, ?_⟩ | refine ⟨Sim.fn ⟨Sim.ptr, trivial⟩ trivial, ?_⟩ | refine ⟨Sim.fn trivial ⟨Sim.ptr, trivial⟩, ?_⟩ | refine ⟨Sim.refl _, ?_⟩)) rfl (fun x => ⟨rfl, rfl, Sim.refl _, rfl⟩)
def T76 : List (Nat × TI) := [(9, ti9), (27, ti27), (66, ti66), (113, ti113)]
theorem T76_ok : TabOK Tryd.prog T76 := .cons t9 (.cons t27 (.cons t66 (.cons t113 (.nil))))
theorem enters76 : Enters Tryd.prog 76 := fun _ _ => by kernel_rfl
theorem Text_m0 (b : Nat) (s : ByteArray) : SpecX Tryd.prog 76 [.ptr 0 b 0] [(0, ⟨b, 105, [.str s]⟩)] (fun _ => ⟨.tup [.str (txtV s), .int .i64 (txtE s)], [(0, [.str (txtR s)])], []⟩) := by
  intro m w hm hargs hpre
  have S1 := read_txt0 b s
  generalize txtV s = v at S1 ⊢
  generalize txtE s = e at S1 ⊢
  generalize txtR s = r at S1 ⊢
  refine enterX hm hpre hargs Tryd.func76 rfl (by simp [Tryd.ntmps76]) fun a0 hF => ?_
  simp only [Tryd.ntmps76, startT] at hF
  obtain ⟨B, hB⟩ : ∃ B, B = std := ⟨_, rfl⟩
  refine wp_seq ?_
  apply region_okB hB T76_ok [0] [0] [] hF
  case hex => intro A X; conv => lhs; cbv
  case hob =>
    intro X
    subst hB
    simp [AllOb, Ob.holds, BE.den, std, stdCmp, stdArith] <;> omega
  case hQ =>
  intro X0 a0 w1 hF
  refine wp_seq ?_
  apply region_okB hB T76_ok [2, 3] [0] [(3, .x fun _ => ⟨.tup [.str v, .int .i64 e], [(0, [.str r])], []⟩)] hF
  case hex => intro A X; conv => lhs; cbv
  case hob =>
    intro X
    subst hB; exact ⟨⟨enters96, S1⟩, trivial⟩
  case hQ =>
  intro X1 a0 w1 hF
  refine wp_ret ?_
  refine (ret_x (fn := Tryd.f76) T76_ok hF (rs := [.tmp 2, .tmp 3]) rfl (rfl) ?_ noAtom [] ?_ ?_ ?_).1
  · subst hB; simp [AllOb, Ob.holds]
  · subst hB; exact Sim.refl _
  · subst hB; first | exact trivial | exact ⟨rfl, ⟨_, rfl, SimL.refl _⟩, trivial⟩
  · exact trivial
theorem Text_m (k0 : Nat) (b : Nat) (s : ByteArray) : SpecX Tryd.prog 76 [.ptr k0 b 0] [(k0, ⟨b, 105, [.str s]⟩)] (fun _ => ⟨.tup [.str (txtV s), .int .i64 (txtE s)], [(k0, [.str (txtR s)])], []⟩) :=
  (Text_m0 b s).re (by repeat (first | exact trivial | refine ⟨Sim.ptr, ?_⟩ | refine ⟨Sim.fn ⟨Sim.ptr, trivial⟩ trivial, ?_⟩ | refine ⟨Sim.fn trivial ⟨Sim.ptr, trivial⟩, ?_⟩ | refine ⟨Sim.refl _, ?_⟩)) rfl (fun x => ⟨rfl, rfl, Sim.refl _, rfl⟩)
end Go.Proofs.YtkamdppnnhjajaaDoor.Sym

namespace Go.Proofs.YtkamdppnnhjajaaDoor.Sym
open Go Go.RowKit
set_option maxRecDepth 100000
set_option maxHeartbeats 1600000
set_option linter.unusedVariables false
set_option linter.unusedSimpArgs false
/-- how many bytes a number has taken -/
def numN (s : ByteArray) : Int := ((unB s).length - ((decN (unB s)).rest (unB s)).length : Nat)
theorem numN_ok (s : ByteArray) : 0 ≤ numN s ∧ numN s ≤ (s.size : Int) ∧ s.extract (numN s).toNat s.size = numR s := by
  unfold numN numR
  refine ⟨Int.natCast_nonneg _, by rw [un_size]; omega, ?_⟩
  rw [Int.toNat_natCast]
  apply un_inj
  rw [un_extract, List.take_of_length_le (by rw [un_size]; exact Nat.le_refl _), un_mk]
  cases h : decN (unB s) with
  | error e => simp [Dec.rest]
  | ok x =>
    obtain ⟨n, r⟩ := x
    have := (decN_ok h).1
    simp only [Dec.rest]
    rw [this]
    simp
theorem mul_step (x : Nat) (c : UInt8) (hx : x < 2 ^ 56) : stdArith .add .u64 (stdArith .mul .u64 256 (x : Int)) (IntKind.u64.wrap (((some c).getD 0).toNat : Int)) = ((x * 256 + c.toNat : Nat) : Int) := by
  have hc := c.toNat_lt
  have e1 : stdArith .mul .u64 256 (x : Int) = ((x * 256 : Nat) : Int) := by
    show IntKind.u64.wrap (((256 : Nat) : Int) * (x : Int)) = _
    rw [← Int.natCast_mul, wrap_u64n, Nat.mul_comm, Nat.mod_eq_of_lt (by omega)]
  have e2 : IntKind.u64.wrap (((some c).getD 0).toNat : Int) = (c.toNat : Int) := by
    show IntKind.u64.wrap (c.toNat : Int) = _
    rw [wrap_u64n, Nat.mod_eq_of_lt (by omega)]
  rw [e1, e2]
  show IntKind.u64.wrap (((x * 256 : Nat) : Int) + (c.toNat : Int)) = _
  rw [← Int.natCast_add, wrap_u64n, Nat.mod_eq_of_lt (by omega)]
theorem cut_mid (l r : List UInt8) (n m : Nat) (h : l.length = n) : r.take m = ((l ++ r).take (n + m)).drop n := by
  subst h
  rw [List.take_length_add_append, List.drop_left]
theorem cut_end (l r : List UInt8) (n m : Nat) (h : l.length = n) : r.drop m = (l ++ r).drop (n + m) := by
  subst h
  rw [List.drop_length_add_append]
def T101 : List (Nat × TI) := [(3, ti3), (5, ti5), (9, ti9), (22, ti22), (27, ti27)]
theorem T101_ok : TabOK Tryd.prog T101 := .cons t3 (.cons t5 (.cons t9 (.cons t22 (.cons t27 (.nil)))))
theorem enters101 : Enters Tryd.prog 101 := fun _ _ => by kernel_rfl
theorem getNum_s (s : ByteArray) (hs : s.size ≤ 1000000000) : Spec Tryd.prog 101 [.str s] (fun _ => .tup [.int .u64 (numV s), .int .i64 (numN s), .int .i64 (numE s)]) := by
  intro m w hm hargs
  refine enter hm hargs Tryd.func101 rfl (by simp [Tryd.ntmps101]) fun a0 hF => ?_
  simp only [Tryd.ntmps101, startT] at hF
  obtain ⟨B, hB⟩ : ∃ B, B = std := ⟨_, rfl⟩
  refine wp_seq ?_
  apply region_okB hB T101_ok [0] [] [] hF
  case hex => intro A X; conv => lhs; cbv
  case hob =>
    intro X
    subst hB
    simp [AllOb, Ob.holds, BE.den, std, stdCmp, stdArith] <;> omega
  case hQ =>
  intro X0 a0 w1 hF
  refine wp_seq ?_
  refine wp_seq ?_
  apply region_okB hB T101_ok [10, 0] [] [] hF
  case hex => intro A X; conv => lhs; cbv
  case hob =>
    intro X
    subst hB; exact trivial
  case hQ =>
  intro X1 a0 w1 hF
  refine test_ok hF rfl (fun hb hF => ?_) (fun hb hF => ?_)
  · skip
    have hz : unB s = [] := by
      have : (s.size : Int) = 0 := by subst hB; simpa [std, stdCmp] using hb
      exact List.eq_nil_of_length_eq_zero (by rw [un_size]; omega)
    have hV : numV s = 0 := by simp only [numV, hz]; rfl
    have hE : numE s = 4 := by simp only [numE, hz]; rfl
    have hN : numN s = 0 := by simp only [numN, hz]; rfl
    refine wp_seq ?_
    apply region_okB hB T101_ok [2, 3, 4] [] [] hF
    case hex => intro A X; conv => lhs; cbv
    case hob =>
      intro X
      subst hB
      simp [AllOb, Ob.holds, BE.den, std, stdCmp, stdArith] <;> omega
    case hQ =>
    intro X2 a0 w1 hF
    refine wp_ret ?_
    refine ret_spec (fn := Tryd.f101) T101_ok hF (rs := [.tmp 2, .tmp 3, .tmp 4]) rfl (rfl) ?_ noAtom ?_
    · subst hB; simp [AllOb, Ob.holds]
    · subst hB; rw [hV, hE, hN]; rfl
  · skip
    have hu : ∃ n r, unB s = n :: r := by
      cases hc : unB s with
      | nil =>
        exfalso
        have h0 := un_size s
        rw [hc] at h0
        have : ¬ (s.size : Int) = 0 := by subst hB; simpa [std, stdCmp] using hb
        simp at h0; omega
      | cons n r => exact ⟨n, r, rfl⟩
    obtain ⟨n, r, hu⟩ := hu
    have hsz : s.size = r.length + 1 := by rw [← un_size, hu]; rfl
    have hn256 := n.toNat_lt
    refine wp_skip ?_
    refine wp_seq ?_
    apply region_okB hB T101_ok [5, 0] [] [] hF
    case hex => intro A X; conv => lhs; cbv
    case hob =>
      intro X
      subst hB
      refine ⟨⟨by decide, ?_⟩, trivial⟩
      show (0 : Int) < (s.size : Int)
      omega
    case hQ =>
    intro X3 a0 w1 hF
    replace hF := hF.head (v' := .int .i64 (n.toNat : Int)) (by subst hB; show AV.int .i64 (IntKind.i64.wrap ((s[(0 : Int).toNat]?.getD 0).toNat : Int)) = _; rw [Int.toNat_zero, un_get, hu]; exact congrArg (AV.int .i64) (wrap_i64n n.toNat (by omega)))
    refine wp_seq ?_
    refine wp_seq ?_
    apply region_okB hB T101_ok [15, 0, 5] [] [] hF
    case hex => intro A X; conv => lhs; cbv
    case hob =>
      intro X
      subst hB
      simp [AllOb, Ob.holds, BE.den, std, stdCmp, stdArith] <;> omega
    case hQ =>
    intro X4 a0 w1 hF
    refine test_ok hF rfl (fun hb hF => ?_) (fun hb hF => ?_)
    · skip
      have hn8 : 8 < n.toNat := by
        have : (8 : Int) < (n.toNat : Int) := by subst hB; simpa [std, stdCmp] using hb
        omega
      have hV : numV s = 0 := by simp only [numV, hu, decN, hn8, if_true]; rfl
      have hE : numE s = 3 := by simp only [numE, hu, decN, hn8, if_true]; rfl
      have hN : numN s = 0 := by simp only [numN, hu, decN, hn8, if_true, Dec.rest]; simp
      refine wp_seq ?_
      apply region_okB hB T101_ok [2, 3, 4] [] [] hF
      case hex => intro A X; conv => lhs; cbv
      case hob =>
        intro X
        subst hB
        simp [AllOb, Ob.holds, BE.den, std, stdCmp, stdArith] <;> omega
      case hQ =>
      intro X5 a0 w1 hF
      refine wp_ret ?_
      refine ret_spec (fn := Tryd.f101) T101_ok hF (rs := [.tmp 2, .tmp 3, .tmp 4]) rfl (rfl) ?_ noAtom ?_
      · subst hB; simp [AllOb, Ob.holds]
      · subst hB; rw [hV, hE, hN]; rfl
    · skip
      have hn8 : ¬ 8 < n.toNat := by
        have : ¬ (8 : Int) < (n.toNat : Int) := by subst hB; simpa [std, stdCmp] using hb
        omega
      refine wp_skip ?_
      refine wp_seq ?_
      refine wp_seq ?_
      apply region_okB hB T101_ok [20, 0, 5] [] [] hF
      case hex => intro A X; conv => lhs; cbv
      case hob =>
        intro X
        subst hB
        simp [AllOb, Ob.holds, BE.den, std, stdCmp, stdArith] <;> omega
      case hQ =>
      intro X6 a0 w1 hF
      refine test_ok hF rfl (fun hb hF => ?_) (fun hb hF => ?_)
      · skip
        have hr : r.length < n.toNat := by
          have : (s.size : Int) < IntKind.i64.wrap (1 + (n.toNat : Int)) := by subst hB; simpa [std, stdCmp, stdArith] using hb
          rw [wrap_in (by omega) (by omega)] at this
          omega
        have hV : numV s = 0 := by simp only [numV, hu, decN, hn8, hr, if_true, if_false]; rfl
        have hE : numE s = 4 := by simp only [numE, hu, decN, hn8, hr, if_true, if_false]; rfl
        have hN : numN s = 0 := by simp only [numN, hu, decN, hn8, hr, if_true, if_false, Dec.rest]; simp
        refine wp_seq ?_
        apply region_okB hB T101_ok [2, 3, 4] [] [] hF
        case hex => intro A X; conv => lhs; cbv
        case hob =>
          intro X
          subst hB
          simp [AllOb, Ob.holds, BE.den, std, stdCmp, stdArith] <;> omega
        case hQ =>
        intro X7 a0 w1 hF
        refine wp_ret ?_
        refine ret_spec (fn := Tryd.f101) T101_ok hF (rs := [.tmp 2, .tmp 3, .tmp 4]) rfl (rfl) ?_ noAtom ?_
        · subst hB; simp [AllOb, Ob.holds]
        · subst hB; rw [hV, hE, hN]; rfl
      · skip
        have hr : ¬ r.length < n.toNat := by
          have : ¬ (s.size : Int) < IntKind.i64.wrap (1 + (n.toNat : Int)) := by subst hB; simpa [std, stdCmp, stdArith] using hb
          rw [wrap_in (by omega) (by omega)] at this
          omega
        refine wp_skip ?_
        refine wp_seq ?_
        apply region_okB hB T101_ok [0, 5, 6] [] [] hF
        case hex => intro A X; conv => lhs; cbv
        case hob =>
          intro X
          subst hB
          simp [AllOb, Ob.holds, BE.den, std, stdCmp, stdArith] <;> omega
        case hQ =>
        intro X8 a0 w1 hF
        refine wp_seq ?_
        refine wp_seq ?_
        apply region_okB hB T101_ok [6, 7, 0, 5] [] [] hF
        case hex => intro A X; conv => lhs; cbv
        case hob =>
          intro X
          subst hB
          simp [AllOb, Ob.holds, BE.den, std, stdCmp, stdArith] <;> omega
        case hQ =>
        intro X9 a0 w1 hF
        refine wp_block ?_
        refine loop_pre (ι := Nat × Int) (fun p => [(6, .int .u64 p.2), (7, .int .i64 ((p.1 + 1 : Nat) : Int))]) (fun p => []) (fun p => []) (fun p => p.1 ≤ n.toNat ∧ p.2 = (valB (r.take p.1) : Int)) (fun p => n.toNat - p.1) (0, 0) ⟨Nat.zero_le _, rfl⟩ hF ?_
        rintro ⟨j, x⟩ ⟨hj, hx⟩ a0 w1 hF
        try dsimp only at hj
        try dsimp only at hx
        refine wp_seq ?_
        refine wp_seq ?_
        apply region_okB hB T101_ok [23, 0, 5, 6, 7] [] [] hF
        case hex => intro A X; conv => lhs; cbv
        case hob =>
          intro X
          subst hB
          simp [AllOb, Ob.holds, BE.den, std, stdCmp, stdArith] <;> omega
        case hQ =>
        intro X10 a0 w1 hF
        refine test_ok hF rfl (fun hb hF => ?_) (fun hb hF => ?_)
        · skip
          have hin : j < n.toNat := by
            have : ((j + 1 : Nat) : Int) ≤ (n.toNat : Int) := by subst hB; simpa [std, stdCmp] using hb
            omega
          refine wp_skip ?_
          refine wp_seq ?_
          refine wp_block ?_
          apply region_okB hB T101_ok [0, 5, 6, 7] [] [] hF
          case hex => intro A X; conv => lhs; cbv
          case hob =>
            intro X
            subst hB
            refine ⟨⟨?_, ?_⟩, trivial⟩
            · show (0 : Int) ≤ ((j + 1 : Nat) : Int); omega
            · show ((j + 1 : Nat) : Int) < (s.size : Int); omega
          case hQ =>
          intro X12 a0 w1 hF
          apply region_okB hB T101_ok [6, 7, 0, 5] [] [] hF
          case hex => intro A X; conv => lhs; cbv
          case hob =>
            intro X
            subst hB
            simp [AllOb, Ob.holds, BE.den, std, stdCmp, stdArith] <;> omega
          case hQ =>
          intro X11 a0 w1 hF
          have e : B.arith .add .i64 ((j + 1 : Nat) : Int) 1 = ((j + 1 + 1 : Nat) : Int) := by subst hB; exact wrap_succ (n := 100) (by omega) (by simp only [maxLen]; omega)
          refine ⟨(j + 1, B.arith .add .u64 (B.arith .mul .u64 256 x) (B.conv .u64 (B.sat s (B.toNat ((j + 1 : Nat) : Int))))), ⟨by simp only; omega, ?_⟩, by simp only; omega, by rw [← e]; exact hF⟩
          subst hB
          show stdArith .add .u64 (stdArith .mul .u64 256 x) (IntKind.u64.wrap ((s[((j + 1 : Nat) : Int).toNat]?.getD 0).toNat : Int)) = _
          have hi2 : j < r.length := by omega
          rw [hx, Int.toNat_natCast, un_get, hu, List.getElem?_cons_succ, List.getElem?_eq_getElem hi2, List.take_succ_eq_append_getElem hi2, valB_snoc]
          have hb1 := valB_lt (r.take j)
          rw [List.length_take, Nat.min_eq_left (by omega)] at hb1
          have hb2 : 256 ^ j ≤ 256 ^ 7 := Nat.pow_le_pow_right (by decide) (by omega)
          have hb3 : (256 : Nat) ^ 7 = 2 ^ 56 := by decide
          exact mul_step _ _ (by omega)
        · skip
          have hjn : j = n.toNat := by
            have : ¬ ((j + 1 : Nat) : Int) ≤ (n.toNat : Int) := by subst hB; simpa [std, stdCmp] using hb
            omega
          rw [hjn] at hx
          have hlen : (r.take n.toNat).length = n.toNat := by rw [List.length_take]; omega
          have hx64 : valB (r.take n.toNat) < 2 ^ 64 := by
            refine Nat.lt_of_lt_of_le (valB_lt _) ?_
            rw [hlen, show (2 : Nat) ^ 64 = 256 ^ 8 from rfl]
            exact Nat.pow_le_pow_right (by decide) (by omega)
          have S := rnum_s x ⟨by rw [hx]; omega, by rw [hx]; omega⟩
          generalize hg : mkB (numL x.toNat) = g at S
          rw [hx, Int.toNat_natCast] at hg
          refine wp_exit ?_
          refine wp_seq ?_
          refine wp_seq ?_
          apply drawn_okB hB (by kernel_rfl) T101_ok [39, 5, 6] [] [(1, .r fun _ => .str g)] hF rfl
          case hex => intro A X; conv => lhs; cbv
          case hD => kernel_rfl
          case hlen => rfl
          case hob =>
            intro X
            subst hB
            have e1 : IntKind.i64.wrap (1 + (n.toNat : Int)) = ((n.toNat + 1 : Nat) : Int) := by rw [wrap_in (by omega) (by omega)]; omega
            refine ⟨⟨enters24, S⟩, ⟨by decide, ?_, ?_⟩, trivial⟩
            · show 0 ≤ IntKind.i64.wrap (1 + (n.toNat : Int)); rw [e1]; omega
            · show IntKind.i64.wrap (1 + (n.toNat : Int)) ≤ (s.size : Int); rw [e1]; omega
          case hQ =>
          intro X13 a0 w1 hF
          refine test_ok hF rfl (fun hb hF => ?_) (fun hb hF => ?_)
          · skip
            have hh : (r.take n.toNat).head? = some 0 := by
              refine Decidable.byContradiction fun h0 => ?_
              have h1 := (numL_val (l := r.take n.toNat) (by omega)).2 h0
              have h2 : (g.toList == (s.extract 0 (IntKind.i64.wrap (1 + (n.toNat : Int))).toNat).toList) = false := by
                have h9 : (!(g.toList == (s.extract 0 (IntKind.i64.wrap (1 + (n.toNat : Int))).toNat).toList)) = true := by subst hB; exact hb
                simpa using h9
              rw [eqB, wrap_in (by omega) (by omega), un_extract, hu, ← hg, un_mk, h1, hlen] at h2
              rw [show (1 + (n.toNat : Int)).toNat = n.toNat + 1 by omega] at h2
              simp at h2
            have hV : numV s = 0 := by simp only [numV, hu, decN, hn8, hr, hh, if_true, if_false]; rfl
            have hE : numE s = 3 := by simp only [numE, hu, decN, hn8, hr, hh, if_true, if_false]; rfl
            have hN : numN s = 0 := by simp only [numN, hu, decN, hn8, hr, hh, if_true, if_false, Dec.rest]; simp
            refine wp_seq ?_
            apply region_okB hB T101_ok [2, 3, 4] [] [] hF
            case hex => intro A X; conv => lhs; cbv
            case hob =>
              intro X
              subst hB
              simp [AllOb, Ob.holds, BE.den, std, stdCmp, stdArith] <;> omega
            case hQ =>
            intro X14 a0 w1 hF
            refine wp_ret ?_
            refine ret_spec (fn := Tryd.f101) T101_ok hF (rs := [.tmp 2, .tmp 3, .tmp 4]) rfl (rfl) ?_ noAtom ?_
            · subst hB; simp [AllOb, Ob.holds]
            · subst hB; rw [hV, hE, hN]; rfl
          · skip
            have hh : ¬ (r.take n.toNat).head? = some 0 := by
              refine (numL_val (l := r.take n.toNat) (by omega)).1 ?_
              have h2 : (g.toList == (s.extract 0 (IntKind.i64.wrap (1 + (n.toNat : Int))).toNat).toList) = true := by
                have h9 : (!(g.toList == (s.extract 0 (IntKind.i64.wrap (1 + (n.toNat : Int))).toNat).toList)) = false := by subst hB; exact hb
                simpa using h9
              rw [eqB, wrap_in (by omega) (by omega), un_extract, hu, ← hg, un_mk] at h2
              rw [show (1 + (n.toNat : Int)).toNat = n.toNat + 1 by omega] at h2
              have h3 := of_decide_eq_true h2
              rw [h3, hlen]
              simp
            have hV : numV s = x := by rw [hx]; simp only [numV, hu, decN, hn8, hr, hh, if_false]; rfl
            have hE : numE s = 0 := by simp only [numE, hu, decN, hn8, hr, hh, if_false]; rfl
            have hN : numN s = B.arith .add .i64 1 (n.toNat : Int) := by
              have e1 : B.arith .add .i64 1 (n.toNat : Int) = 1 + (n.toNat : Int) := by subst hB; exact wrap_in (by omega) (by omega)
              rw [e1]
              simp only [numN, hu, decN, hn8, hr, hh, if_false, Dec.rest, List.length_drop, List.length_cons]
              omega
            refine wp_skip ?_
            refine wp_seq ?_
            apply region_okB hB T101_ok [2, 3, 4] [] [] hF
            case hex => intro A X; conv => lhs; cbv
            case hob =>
              intro X
              subst hB
              simp [AllOb, Ob.holds, BE.den, std, stdCmp, stdArith] <;> omega
            case hQ =>
            intro X15 a0 w1 hF
            refine wp_ret ?_
            refine ret_spec (fn := Tryd.f101) T101_ok hF (rs := [.tmp 2, .tmp 3, .tmp 4]) rfl (rfl) ?_ noAtom ?_
            · subst hB; simp [AllOb, Ob.holds]
            · subst hB; rw [hV, hE, hN]; rfl
def T82 : List (Nat × TI) := [(3, ti3), (9, ti9), (22, ti22), (27, ti27), (88, ti88)]
theorem T82_ok : TabOK Tryd.prog T82 := .cons t3 (.cons t9 (.cons t22 (.cons t27 (.cons t88 (.nil)))))
theorem enters82 : Enters Tryd.prog 82 := fun _ _ => by kernel_rfl
theorem RNum_m0 (b : Nat) (s : ByteArray) (hs : s.size ≤ 1000000000) : SpecX Tryd.prog 82 [.ptr 0 b 0] [(0, ⟨b, 88, [.str s]⟩)] (fun _ => ⟨.tup [.int .u64 (numV s), .int .i64 (numE s)], [(0, [.str (numR s)])], []⟩) := by
  intro m w hm hargs hpre
  have S1 := getNum_s s hs
  obtain ⟨hn0, hn1, hnr⟩ := numN_ok s
  have C0 := num_rest s
  obtain ⟨hnv0, hnv1⟩ := numV_u64 s
  replace C0 := C0.2
  generalize numV s = v at S1 C0 hnv0 hnv1 ⊢
  generalize numE s = e at S1 C0 ⊢
  generalize numN s = n at S1 hn0 hn1 hnr
  generalize numR s = r at C0 hnr ⊢
  refine enterX hm hpre hargs Tryd.func82 rfl (by simp [Tryd.ntmps82]) fun a0 hF => ?_
  simp only [Tryd.ntmps82, startT] at hF
  obtain ⟨B, hB⟩ : ∃ B, B = std := ⟨_, rfl⟩
  refine wp_seq ?_
  apply region_okB hB T82_ok [0] [0] [] hF
  case hex => intro A X; conv => lhs; cbv
  case hob =>
    intro X
    subst hB
    simp [AllOb, Ob.holds, BE.den, std, stdCmp, stdArith] <;> omega
  case hQ =>
  intro X0 a0 w1 hF
  refine wp_seq ?_
  apply region_okB hB T82_ok [0, 4, 5, 6] [0] [(4, .r fun _ => .tup [.int .u64 v, .int .i64 n, .int .i64 e])] hF
  case hex => intro A X; conv => lhs; cbv
  case hob =>
    intro X
    subst hB; exact ⟨rfl, ⟨enters101, S1⟩, trivial⟩
  case hQ =>
  intro X1 a0 w1 hF
  refine wp_seq ?_
  refine wp_seq ?_
  apply region_okB hB T82_ok [17, 0, 4, 5, 6] [0] [] hF
  case hex => intro A X; conv => lhs; cbv
  case hob =>
    intro X
    subst hB
    simp [AllOb, Ob.holds, BE.den, std, stdCmp, stdArith] <;> omega
  case hQ =>
  intro X2 a0 w1 hF
  refine test_ok hF rfl (fun hb hF => ?_) (fun hb hF => ?_)
  · skip
    have he : e ≠ 0 := by subst hB; simpa [std, stdCmp] using hb
    obtain ⟨hv, hr⟩ := C0 he
    subst hv; subst hr
    refine wp_seq ?_
    apply region_okB hB T82_ok [2, 3] [0] [] hF
    case hex => intro A X; conv => lhs; cbv
    case hob =>
      intro X
      subst hB
      simp [AllOb, Ob.holds, BE.den, std, stdCmp, stdArith] <;> omega
    case hQ =>
    intro X3 a0 w1 hF
    refine wp_ret ?_
    refine (ret_x (fn := Tryd.f82) T82_ok hF (rs := [.tmp 2, .tmp 3]) rfl (rfl) ?_ noAtom [] ?_ ?_ ?_).1
    · subst hB; simp [AllOb, Ob.holds]
    · subst hB; exact Sim.refl _
    · subst hB; first | exact trivial | exact ⟨rfl, ⟨_, rfl, SimL.refl _⟩, trivial⟩
    · exact trivial
  · skip
    have he : e = 0 := by subst hB; simpa [std, stdCmp] using hb
    subst he
    refine wp_skip ?_
    refine wp_seq ?_
    apply region_okB hB T82_ok [4] [0] [] hF
    case hex => intro A X; conv => lhs; cbv
    case hob =>
      intro X
      subst hB; exact ⟨rfl, ⟨hn0, hn1, Int.le_refl _⟩, rfl, trivial⟩
    case hQ =>
    intro X4 a0 w1 hF
    refine wp_seq ?_
    apply region_okB hB T82_ok [2, 3] [0] [] hF
    case hex => intro A X; conv => lhs; cbv
    case hob =>
      intro X
      subst hB
      simp [AllOb, Ob.holds, BE.den, std, stdCmp, stdArith] <;> omega
    case hQ =>
    intro X5 a0 w1 hF
    refine wp_ret ?_
    refine (ret_x (fn := Tryd.f82) T82_ok hF (rs := [.tmp 2, .tmp 3]) rfl (rfl) ?_ noAtom [] ?_ ?_ ?_).1
    · subst hB; simp [AllOb, Ob.holds]
    · subst hB; exact Sim.refl _
    · subst hB; rw [← hnr]; exact ⟨rfl, ⟨_, rfl, SimL.refl _⟩, trivial⟩
    · exact trivial
theorem RNum_m (k0 : Nat) (b : Nat) (s : ByteArray) (hs : s.size ≤ 1000000000) : SpecX Tryd.prog 82 [.ptr k0 b 0] [(k0, ⟨b, 88, [.str s]⟩)] (fun _ => ⟨.tup [.int .u64 (numV s), .int .i64 (numE s)], [(k0, [.str (numR s)])], []⟩) :=
  (RNum_m0 b s hs).re (by repeat (first | exact trivial | refine ⟨Sim.ptr, ?_⟩ | refine ⟨Sim.fn ⟨Sim.ptr, trivial⟩ trivial, ?_⟩ | refine ⟨Sim.fn trivial ⟨Sim.ptr, trivial⟩, ?_⟩ | refine ⟨Sim.refl _, ?_⟩)) rfl (fun x => ⟨rfl, rfl, Sim.refl _, rfl⟩)
def T107 : List (Nat × TI) := [(3, ti3), (9, ti9), (22, ti22), (27, ti27), (88, ti88)]
theorem T107_ok : TabOK Tryd.prog T107 := .cons t3 (.cons t9 (.cons t22 (.cons t27 (.cons t88 (.nil)))))
theorem enters107 : Enters Tryd.prog 107 := fun _ _ => by kernel_rfl
theorem RTxt_m0 (b : Nat) (s : ByteArray) (hs : s.size ≤ 1000000000) : SpecX Tryd.prog 107 [.ptr 0 b 0] [(0, ⟨b, 88, [.str s]⟩)] (fun _ => ⟨.tup [.str (txtV s), .int .i64 (txtE s)], [(0, [.str (txtR s)])], []⟩) := by
  intro m w hm hargs hpre
  have S1 := getNum_s s hs
  obtain ⟨hn0, hn1, hnr⟩ := numN_ok s
  have C1 := num_cases s
  have C2 := num_rest s
  obtain ⟨hnv0, hnv1⟩ := numV_u64 s
  replace C2 := C2.1
  generalize numV s = v at S1 C1 hnv0 hnv1
  generalize numE s = e at S1 C1 C2
  generalize numN s = n at S1 hn0 hn1 hnr
  generalize numQ s = q at C1 C2
  generalize numR s = r at C2 hnr
  refine enterX hm hpre hargs Tryd.func107 rfl (by simp [Tryd.ntmps107]) fun a0 hF => ?_
  simp only [Tryd.ntmps107, startT] at hF
  obtain ⟨B, hB⟩ : ∃ B, B = std := ⟨_, rfl⟩
  refine wp_seq ?_
  apply region_okB hB T107_ok [0] [0] [] hF
  case hex => intro A X; conv => lhs; cbv
  case hob =>
    intro X
    subst hB
    simp [AllOb, Ob.holds, BE.den, std, stdCmp, stdArith] <;> omega
  case hQ =>
  intro X0 a0 w1 hF
  refine wp_seq ?_
  apply region_okB hB T107_ok [0, 4, 5, 6] [0] [(4, .r fun _ => .tup [.int .u64 v, .int .i64 n, .int .i64 e])] hF
  case hex => intro A X; conv => lhs; cbv
  case hob =>
    intro X
    subst hB; exact ⟨rfl, ⟨enters101, S1⟩, trivial⟩
  case hQ =>
  intro X1 a0 w1 hF
  refine wp_seq ?_
  refine wp_seq ?_
  apply region_okB hB T107_ok [18, 0, 4, 5, 6] [0] [] hF
  case hex => intro A X; conv => lhs; cbv
  case hob =>
    intro X
    subst hB
    simp [AllOb, Ob.holds, BE.den, std, stdCmp, stdArith] <;> omega
  case hQ =>
  intro X2 a0 w1 hF
  refine test_ok hF rfl (fun hb hF => ?_) (fun hb hF => ?_)
  · skip
    have hd : decN (unB s) = .error e := by
      rcases C1 with ⟨h1, h2, h3⟩ | ⟨h1, n, r, h2, h3, h4⟩
      · exact h2
      · subst hB; rw [h1] at hb; cases hb
    have hV : txtV s = ⟨#[]⟩ := by simp only [txtV, decT, hd]; rfl
    have hE : txtE s = e := by simp only [txtE, decT, hd]; rfl
    have hR : txtR s = s := by simp only [txtR, decT, hd]; exact mk_un s
    refine wp_seq ?_
    apply region_okB hB T107_ok [2, 3] [0] [] hF
    case hex => intro A X; conv => lhs; cbv
    case hob =>
      intro X
      subst hB
      simp [AllOb, Ob.holds, BE.den, std, stdCmp, stdArith] <;> omega
    case hQ =>
    intro X3 a0 w1 hF
    refine wp_ret ?_
    refine (ret_x (fn := Tryd.f107) T107_ok hF (rs := [.tmp 2, .tmp 3]) rfl (rfl) ?_ noAtom [] ?_ ?_ ?_).1
    · subst hB; simp [AllOb, Ob.holds]
    · subst hB; rw [hV, hE]; exact Sim.refl _
    · subst hB; rw [hR]; exact ⟨rfl, ⟨_, rfl, SimL.refl _⟩, trivial⟩
    · exact trivial
  · skip
    have hd : e = 0 ∧ ∃ n r, decN (unB s) = .ok (n, r) ∧ v = (n : Int) ∧ q = mkB r := by
      rcases C1 with ⟨h1, h2, h3⟩ | ⟨h1, h2⟩
      · subst hB; exact absurd (show e = 0 by simpa [std, stdCmp] using hb) h1
      · exact ⟨h1, h2⟩
    obtain ⟨he, m1, r1, hd, hvn, hqr⟩ := hd
    rw [C2 he] at hqr
    rw [hqr] at hnr
    have hr1 : unB s = (unB s).take n.toNat ++ r1 := by
      have h1 := congrArg unB hnr
      rw [un_mk, un_extract, List.take_of_length_le (by rw [un_size]; exact Nat.le_refl _)] at h1
      rw [← h1, List.take_append_drop]
    have hlen : r1.length = s.size - n.toNat := by
      have h1 := congrArg unB hnr
      rw [un_mk, un_extract, List.take_of_length_le (by rw [un_size]; exact Nat.le_refl _)] at h1
      rw [← h1, List.length_drop, un_size]
    refine wp_skip ?_
    refine wp_seq ?_
    refine wp_seq ?_
    apply region_okB hB T107_ok [21, 0, 4, 5] [0] [] hF
    case hex => intro A X; conv => lhs; cbv
    case hob =>
      intro X
      subst hB
      simp [AllOb, Ob.holds, BE.den, std, stdCmp, stdArith] <;> omega
    case hQ =>
    intro X4 a0 w1 hF
    refine test_ok hF rfl (fun hb hF => ?_) (fun hb hF => ?_)
    · skip
      have hn : 4096 < m1 := by
        have : (4096 : Int) < v := by subst hB; simpa [std, stdCmp] using hb
        omega
      have hV : txtV s = ⟨#[]⟩ := by simp only [txtV, decT, hd, hn, if_true]; rfl
      have hE : txtE s = 3 := by simp only [txtE, decT, hd, hn, if_true]; rfl
      have hR : txtR s = s := by simp only [txtR, decT, hd, hn, if_true]; exact mk_un s
      refine wp_seq ?_
      apply region_okB hB T107_ok [2, 3] [0] [] hF
      case hex => intro A X; conv => lhs; cbv
      case hob =>
        intro X
        subst hB
        simp [AllOb, Ob.holds, BE.den, std, stdCmp, stdArith] <;> omega
      case hQ =>
      intro X5 a0 w1 hF
      refine wp_ret ?_
      refine (ret_x (fn := Tryd.f107) T107_ok hF (rs := [.tmp 2, .tmp 3]) rfl (rfl) ?_ noAtom [] ?_ ?_ ?_).1
      · subst hB; simp [AllOb, Ob.holds]
      · subst hB; rw [hV, hE]; exact Sim.refl _
      · subst hB; rw [hR]; exact ⟨rfl, ⟨_, rfl, SimL.refl _⟩, trivial⟩
      · exact trivial
    · skip
      have hn : ¬ 4096 < m1 := by
        have : ¬ (4096 : Int) < v := by subst hB; simpa [std, stdCmp] using hb
        omega
      have ev : IntKind.i64.wrap v = v := wrap_in (by omega) (by omega)
      have esub : IntKind.i64.wrap ((s.size : Int) - n) = (s.size : Int) - n := wrap_in (by omega) (by omega)
      refine wp_skip ?_
      refine wp_seq ?_
      refine wp_seq ?_
      apply region_okB hB T107_ok [31, 0, 4, 5] [0] [] hF
      case hex => intro A X; conv => lhs; cbv
      case hob =>
        intro X
        subst hB; exact ⟨rfl, trivial⟩
      case hQ =>
      intro X6 a0 w1 hF
      refine test_ok hF rfl (fun hb hF => ?_) (fun hb hF => ?_)
      · skip
        have hr : r1.length < m1 := by
          have : IntKind.i64.wrap ((s.size : Int) - n) < IntKind.i64.wrap v := by subst hB; simpa [std, stdCmp, stdArith] using hb
          rw [esub, ev] at this
          omega
        have hV : txtV s = ⟨#[]⟩ := by simp only [txtV, decT, hd, hn, hr, if_true, if_false]; rfl
        have hE : txtE s = 4 := by simp only [txtE, decT, hd, hn, hr, if_true, if_false]; rfl
        have hR : txtR s = s := by simp only [txtR, decT, hd, hn, hr, if_true, if_false]; exact mk_un s
        refine wp_seq ?_
        apply region_okB hB T107_ok [2, 3] [0] [] hF
        case hex => intro A X; conv => lhs; cbv
        case hob =>
          intro X
          subst hB
          simp [AllOb, Ob.holds, BE.den, std, stdCmp, stdArith] <;> omega
        case hQ =>
        intro X7 a0 w1 hF
        refine wp_ret ?_
        refine (ret_x (fn := Tryd.f107) T107_ok hF (rs := [.tmp 2, .tmp 3]) rfl (rfl) ?_ noAtom [] ?_ ?_ ?_).1
        · subst hB; simp [AllOb, Ob.holds]
        · subst hB; rw [hV, hE]; exact Sim.refl _
        · subst hB; rw [hR]; exact ⟨rfl, ⟨_, rfl, SimL.refl _⟩, trivial⟩
        · exact trivial
      · skip
        have hr : ¬ r1.length < m1 := by
          have : ¬ IntKind.i64.wrap ((s.size : Int) - n) < IntKind.i64.wrap v := by subst hB; simpa [std, stdCmp, stdArith] using hb
          rw [esub, ev] at this
          omega
        have eadd : IntKind.i64.wrap (n + IntKind.i64.wrap v) = n + v := by rw [ev]; exact wrap_in (by omega) (by omega)
        have hV : txtV s = s.extract n.toNat (n + v).toNat := by
          simp only [txtV, decT, hd, hn, hr, if_false]
          apply un_inj
          rw [un_extract, hr1]
          show unB (mkB (r1.take m1)) = _
          rw [un_mk, show (n + v).toNat = n.toNat + m1 by omega]
          exact cut_mid ((unB s).take n.toNat) r1 n.toNat m1 (by rw [List.length_take, un_size]; omega)
        have hE : txtE s = 0 := by simp only [txtE, decT, hd, hn, hr, if_false]; rfl
        have hR : txtR s = s.extract (n + v).toNat s.size := by
          simp only [txtR, decT, hd, hn, hr, if_false]
          apply un_inj
          rw [un_extract, show (unB s).take s.size = unB s from List.take_of_length_le (by rw [un_size]; exact Nat.le_refl _), hr1]
          show unB (mkB (r1.drop m1)) = _
          rw [un_mk, show (n + v).toNat = n.toNat + m1 by omega]
          exact cut_end ((unB s).take n.toNat) r1 n.toNat m1 (by rw [List.length_take, un_size]; omega)
        refine wp_skip ?_
        refine wp_seq ?_
        apply region_okB hB T107_ok [0, 4, 5, 7] [0] [] hF
        case hex => intro A X; conv => lhs; cbv
        case hob =>
          intro X
          subst hB
          refine ⟨rfl, ⟨hn0, ?_, ?_⟩, trivial⟩
          · show n ≤ IntKind.i64.wrap (n + IntKind.i64.wrap v); rw [eadd]; omega
          · show IntKind.i64.wrap (n + IntKind.i64.wrap v) ≤ (s.size : Int); rw [eadd]; omega
        case hQ =>
        intro X8 a0 w1 hF
        refine wp_seq ?_
        apply region_okB hB T107_ok [7] [0] [] hF
        case hex => intro A X; conv => lhs; cbv
        case hob =>
          intro X
          subst hB
          refine ⟨rfl, ⟨?_, ?_, Int.le_refl _⟩, rfl, trivial⟩
          · show 0 ≤ IntKind.i64.wrap (n + IntKind.i64.wrap v); rw [eadd]; omega
          · show IntKind.i64.wrap (n + IntKind.i64.wrap v) ≤ (s.size : Int); rw [eadd]; omega
        case hQ =>
        intro X9 a0 w1 hF
        refine wp_seq ?_
        apply region_okB hB T107_ok [2, 3] [0] [] hF
        case hex => intro A X; conv => lhs; cbv
        case hob =>
          intro X
          subst hB
          simp [AllOb, Ob.holds, BE.den, std, stdCmp, stdArith] <;> omega
        case hQ =>
        intro X10 a0 w1 hF
        refine wp_ret ?_
        refine (ret_x (fn := Tryd.f107) T107_ok hF (rs := [.tmp 2, .tmp 3]) rfl (rfl) ?_ noAtom [] ?_ ?_ ?_).1
        · subst hB; simp [AllOb, Ob.holds]
        · subst hB; rw [hV, hE, ← eadd]; exact Sim.refl _
        · subst hB; rw [hR, ← eadd]; exact ⟨rfl, ⟨_, rfl, SimL.refl _⟩, trivial⟩
        · exact trivial
theorem RTxt_m (k0 : Nat) (b : Nat) (s : ByteArray) (hs : s.size ≤ 1000000000) : SpecX Tryd.prog 107 [.ptr k0 b 0] [(k0, ⟨b, 88, [.str s]⟩)] (fun _ => ⟨.tup [.str (txtV s), .int .i64 (txtE s)], [(k0, [.str (txtR s)])], []⟩) :=
  (RTxt_m0 b s hs).re (by repeat (first | exact trivial | refine ⟨Sim.ptr, ?_⟩ | refine ⟨Sim.fn ⟨Sim.ptr, trivial⟩ trivial, ?_⟩ | refine ⟨Sim.fn trivial ⟨Sim.ptr, trivial⟩, ?_⟩ | refine ⟨Sim.refl _, ?_⟩)) rfl (fun x => ⟨rfl, rfl, Sim.refl _, rfl⟩)
end Go.Proofs.YtkamdppnnhjajaaDoor.Sym

namespace Go.Proofs.YtkamdppnnhjajaaDoor.Sym
open Go Go.RowKit
set_option maxRecDepth 100000
set_option maxHeartbeats 1600000
set_option linter.unusedVariables false
set_option linter.unusedSimpArgs false
theorem arr24 : Tryd.prog.underlying 24 = some (.array 20 5) := by kernel_rfl
theorem bsz (w : World) : (sizeOf 5).run Tryd.prog w = .ok 1 w := t5.size w
theorem ub : Tryd.prog.underlying 133 = some (.slice 5) := by kernel_rfl
theorem ui : (Tryd.prog.info? 5).map (·.size) = some 1 := by kernel_rfl
def T59 : List (Nat × TI) := [(9, ti9), (24, ti24), (133, ti133)]
theorem T59_ok : TabOK Tryd.prog T59 := .cons t9 (.cons t24 (.cons t133 (.nil)))
theorem enters59 : Enters Tryd.prog 59 := fun _ _ => by kernel_rfl
theorem putPlace_s (b : ByteArray) (l : List UInt8) (hl : l.length = 20) (hb : b.size ≤ 1000000000) : Spec Tryd.prog 59 [.str b, .agg (keyC (kI l))] (fun _ => .str (b ++ mkB l)) := by
  intro m w hm hargs
  have hk := bytes_key hl
  generalize hK : kI l = K at hargs hk
  refine enter hm hargs Tryd.func59 rfl (by simp [Tryd.ntmps59]) fun a0 hF => ?_
  simp only [Tryd.ntmps59, startT] at hF
  obtain ⟨B, hB⟩ : ∃ B, B = std := ⟨_, rfl⟩
  refine wp_seq ?_
  apply region_okB hB T59_ok [0, 3] [3] [] hF
  case hex => intro A X; conv => lhs; cbv
  case hob =>
    intro X
    subst hB
    simp [AllOb, Ob.holds, BE.den, std, stdCmp, stdArith] <;> omega
  case hQ =>
  intro X0 a0 w1 hF
  refine wp_seq ?_
  refine wp_region_lit ?_
  apply list_preB 0 1 hB T59_ok [5, 3] [3] [] hF
  case hex => intro A X; conv => lhs; cbv
  case hob =>
    intro X
    subst hB
    simp [AllOb, Ob.holds, BE.den, std, stdCmp, stdArith] <;> omega
  case hQ =>
  intro X1_0 a0 w1 hF
  refine man_aslice rfl rfl rfl rfl hF (Nat.le_of_ble_eq_true rfl) rfl [5] [] rfl arr24 bsz rfl rfl rfl (by decide) (fun k bk h => by cases h) (fun o h => ?_) rfl (bytesC l) (fun i hi => ?_) fun a0 hF => ?_
  · exact absurd (hm _ _ h) (by have := (hF.mem 3 _ rfl).2.2; rcases this with h1 | ⟨e, he, _⟩; exact Nat.not_lt.2 h1)
  · show _ = [(keyC K).getD i .undef]
    rw [keyC_getD K hi, ← hK]; rfl
  apply list_endB 2 hB T59_ok [4] [] [] hF
  case hex => intro A X; conv => lhs; cbv
  case hob =>
    intro X
    subst hB
    refine ⟨fun i hi => ⟨_, rfl⟩, ?_, trivial⟩
    show b.size + (rowStr 20 (bytesC l)).size ≤ maxLen
    rw [rowStr_size]; simp only [maxLen]; omega
  case hQ =>
  intro X1 a0 w1 hF
  refine wp_ret ?_
  refine ret_spec (fn := Tryd.f59) T59_ok hF (rs := [.tmp 4]) rfl (rfl) ?_ noAtom ?_
  · subst hB; simp [AllOb, Ob.holds]
  · subst hB
    show AV.str (b ++ rowStr 20 (bytesC l)) = _
    rw [rowStr_C l 20 (by omega), List.take_of_length_le (by omega)]
    rfl
def T25 : List (Nat × TI) := [(3, ti3), (5, ti5), (9, ti9), (22, ti22), (24, ti24)]
theorem T25_ok : TabOK Tryd.prog T25 := .cons t3 (.cons t5 (.cons t9 (.cons t22 (.cons t24 (.nil)))))
theorem enters25 : Enters Tryd.prog 25 := fun _ _ => by kernel_rfl
theorem rplace_s (l : List UInt8) (hl : l.length = 20) : Spec Tryd.prog 25 [.agg (keyC (kI l))] (fun _ => .str (mkB l)) := by
  intro m w hm hargs
  have hKi : ∀ i, kI l i = ((l[i]?.getD 0).toNat : Int) := fun _ => rfl
  generalize hK : kI l = K at hargs hKi
  refine enter hm hargs Tryd.func25 rfl (by simp [Tryd.ntmps25]) fun a0 hF => ?_
  simp only [Tryd.ntmps25, startT] at hF
  obtain ⟨B, hB⟩ : ∃ B, B = std := ⟨_, rfl⟩
  refine wp_seq ?_
  apply region_okB hB T25_ok [1] [1] [] hF
  case hex => intro A X; conv => lhs; cbv
  case hob =>
    intro X
    subst hB
    simp [AllOb, Ob.holds, BE.den, std, stdCmp, stdArith] <;> omega
  case hQ =>
  intro X0 a0 w1 hF
  refine wp_seq ?_
  apply region_okB hB T25_ok [1, 3] [1] [] hF
  case hex => intro A X; conv => lhs; cbv
  case hob =>
    intro X
    subst hB
    simp [AllOb, Ob.holds, BE.den, std, stdCmp, stdArith] <;> omega
  case hQ =>
  intro X1 a0 w1 hF
  refine wp_seq ?_
  refine wp_seq ?_
  apply region_okB hB T25_ok [3, 4, 1] [1] [] hF
  case hex => intro A X; conv => lhs; cbv
  case hob =>
    intro X
    subst hB
    simp [AllOb, Ob.holds, BE.den, std, stdCmp, stdArith] <;> omega
  case hQ =>
  intro X2 a0 w1 hF
  refine wp_block ?_
  refine loop_pre (ι := Nat × ByteArray) (fun p => [(3, .str p.2), (4, .int .i64 (p.1 : Int))]) (fun p => []) (fun p => []) (fun p => p.1 ≤ 20 ∧ p.2 = mkB (l.take p.1)) (fun p => 20 - p.1) (0, mkB []) ⟨Nat.zero_le _, rfl⟩ hF ?_
  rintro ⟨i, o⟩ ⟨hi, ho⟩ a0 w1 hF
  try dsimp only at hi
  try dsimp only at ho
  refine wp_seq ?_
  refine wp_seq ?_
  apply region_okB hB T25_ok [6, 1, 3, 4] [1] [] hF
  case hex => intro A X; conv => lhs; cbv
  case hob =>
    intro X
    subst hB
    simp [AllOb, Ob.holds, BE.den, std, stdCmp, stdArith] <;> omega
  case hQ =>
  intro X3 a0 w1 hF
  refine test_ok hF rfl (fun hb hF => ?_) (fun hb hF => ?_)
  · skip
    have hin : i < 20 := by
      have : (i : Int) < 20 := by subst hB; simpa [std, stdCmp] using hb
      omega
    obtain ⟨g, hg⟩ : ∃ g, g = mkB [l[i]?.getD 0] := ⟨_, rfl⟩
    refine wp_skip ?_
    refine wp_seq ?_
    refine wp_block ?_
    refine wp_region_lit ?_
    apply list_preB 0 2 hB T25_ok [9, 10, 1, 4] [1] [(5, .r fun _ => .str g)] hF
    case hex => intro A X; conv => lhs; cbv
    case hob =>
      intro X
      subst hB
      simp [AllOb, Ob.holds, BE.den, std, stdCmp, stdArith] <;> omega
    case hQ =>
    intro X5_0 a0 w1 hF
    refine man_iaddr (j := (i : Int)) rfl rfl rfl rfl hF (Nat.le_of_ble_eq_true rfl) rfl rfl arr24 bsz ⟨by omega, by omega⟩ fun a0 hF => ?_
    refine man_aload (T := T25) (v := .int .u8 (K i)) rfl rfl rfl rfl hF (Nat.le_of_ble_eq_true rfl) rfl t5 rfl rfl rfl (by rw [Int.toNat_natCast, Nat.zero_add]; exact keyC_get K hin) fun a0 hF => ?_
    apply list_endB 4 hB T25_ok [1, 3, 4] [1] [(5, .r fun _ => .str g)] hF
    case hex => intro A X; conv => lhs; cbv
    case hob =>
      intro X
      subst hB
      have hu : U64 (K i) := by rw [hKi]; have := (l[i]?.getD 0).toNat_lt; exact ⟨by omega, by omega⟩
      refine ⟨⟨enters62, ?_⟩, ?_, trivial⟩
      · show Spec _ _ [.int .u64 (IntKind.u64.wrap (K i))] _
        rw [wrap_u64 _ hu]
        have S := one_s (K i) hu
        rw [hKi, Int.toNat_natCast, show UInt8.ofNat (l[i]?.getD 0).toNat = l[i]?.getD 0 from UInt8.ofNat_toNat, ← hg] at S
        rw [hKi]; exact S
      · show o.size + g.size ≤ maxLen
        rw [ho, hg, mk_size, mk_size, List.length_take]; simp only [maxLen, List.length_singleton]; omega
    case hQ =>
    intro X5 a0 w1 hF
    apply region_okB hB T25_ok [3, 4, 1] [1] [] hF
    case hex => intro A X; conv => lhs; cbv
    case hob =>
      intro X
      subst hB
      simp [AllOb, Ob.holds, BE.den, std, stdCmp, stdArith] <;> omega
    case hQ =>
    intro X4 a0 w1 hF
    have e : B.arith .add .i64 (i : Int) 1 = ((i + 1 : Nat) : Int) := by subst hB; exact wrap_succ (n := 20) hin (by decide)
    refine ⟨(i + 1, B.cat o g), ⟨by simp only; omega, ?_⟩, by simp only; omega, by rw [← e]; exact hF⟩
    subst hB
    show o ++ g = _
    rw [ho, hg, mk_append, List.take_succ_eq_append_getElem (by omega), List.getElem?_eq_getElem (by omega)]; rfl
  · skip
    have hout : i = 20 := by
      have : ¬ (i : Int) < 20 := by subst hB; simpa [std, stdCmp] using hb
      omega
    refine wp_exit ?_
    refine wp_seq ?_
    apply region_okB hB T25_ok [2] [] [] hF
    case hex => intro A X; conv => lhs; cbv
    case hob =>
      intro X
      subst hB
      simp [AllOb, Ob.holds, BE.den, std, stdCmp, stdArith] <;> omega
    case hQ =>
    intro X6 a0 w1 hF
    refine wp_ret ?_
    refine ret_spec (fn := Tryd.f25) T25_ok hF (rs := [.tmp 2]) rfl (rfl) ?_ noAtom ?_
    · subst hB; simp [AllOb, Ob.holds]
    · subst hB; rw [ho, hout, List.take_of_length_le (by omega)]; rfl
def T95 : List (Nat × TI) := [(3, ti3), (9, ti9), (24, ti24), (27, ti27), (66, ti66), (133, ti133)]
theorem T95_ok : TabOK Tryd.prog T95 := .cons t3 (.cons t9 (.cons t24 (.cons t27 (.cons t66 (.cons t133 (.nil))))))
theorem enters95 : Enters Tryd.prog 95 := fun _ _ => by kernel_rfl
theorem place_m0 (b : Nat) (s : ByteArray) : SpecX Tryd.prog 95 [.ptr 0 b 0] [(0, ⟨b, 105, [.str s]⟩)] (fun _ => ⟨.tup [.agg (keyC (kI (plcV s))), .int .i64 (plcE s)], [(0, [.str (plcR s)])], []⟩) := by
  intro m w hm hargs hpre
  have S1 := take_m0 b s 20 (by decide)
  have C1 := take_cases s 20 (by decide)
  generalize takeS s 20 = s1 at S1 C1
  generalize takeE s 20 = e1 at S1 C1
  generalize takeR s 20 = r1 at S1 C1
  have hc : s1.size ≤ 20 ∧ bytesAV s1.data.toList ++ (keyC fun _ => 0).drop s1.size = keyC (kI (plcV s)) ∧ e1 = plcE s ∧ r1 = plcR s := by
    rcases C1 with ⟨h1, h2, h3, h4⟩ | ⟨h1, h2, h3, h4⟩
    · have hn : ¬ 20 ≤ s.size := by omega
      subst h2 h3 h4
      refine ⟨by decide, ?_, by simp [plcE, hn], by simp [plcR, hn]⟩
      simp only [plcV, hn, if_false, kI_zero]; rfl
    · have hn : 20 ≤ s.size := by omega
      have hsz : s1.size = 20 := by rw [h2, mk_size, List.length_take, un_size]; omega
      refine ⟨by omega, ?_, by rw [h3]; simp [plcE, hn], by rw [h4]; simp [plcR, hn]⟩
      rw [hsz, show (keyC fun _ => 0).drop 20 = [] from rfl, List.append_nil]
      have hl : s1.data.toList = (unB s).take 20 := by rw [h2]; exact un_mk _
      rw [hl, bytes_key (by rw [List.length_take, un_size]; omega)]
      simp only [plcV, hn, if_true]
  obtain ⟨hsz, hcells, rfl, rfl⟩ := hc
  generalize plcE s = e1 at S1 ⊢
  generalize plcR s = r1 at S1 ⊢
  generalize kI (plcV s) = K at hcells ⊢
  refine enterX hm hpre hargs Tryd.func95 rfl (by simp [Tryd.ntmps95]) fun a0 hF => ?_
  simp only [Tryd.ntmps95, startT] at hF
  obtain ⟨B, hB⟩ : ∃ B, B = std := ⟨_, rfl⟩
  refine wp_seq ?_
  apply region_okB hB T95_ok [0, 2] [0, 2] [] hF
  case hex => intro A X; conv => lhs; cbv
  case hob =>
    intro X
    subst hB
    simp [AllOb, Ob.holds, BE.den, std, stdCmp, stdArith] <;> omega
  case hQ =>
  intro X0 a0 w1 hF
  refine wp_seq ?_
  apply region_okB hB T95_ok [0, 2, 4] [0, 2, 4] [] hF
  case hex => intro A X; conv => lhs; cbv
  case hob =>
    intro X
    subst hB
    simp [AllOb, Ob.holds, BE.den, std, stdCmp, stdArith] <;> omega
  case hQ =>
  intro X1 a0 w1 hF
  refine wp_seq ?_
  apply region_okB hB T95_ok [5, 6, 4, 2, 0] [0, 2, 4] [(1, .x fun _ => ⟨.tup [.str s1, .int .i64 e1], [(0, [.str r1])], []⟩)] hF
  case hex => intro A X; conv => lhs; cbv
  case hob =>
    intro X
    subst hB; exact ⟨⟨enters106, S1⟩, trivial⟩
  case hQ =>
  intro X2 a0 w1 hF
  refine wp_seq ?_
  refine wp_region_lit ?_
  refine man_aview rfl rfl rfl rfl hF (Nat.le_of_ble_eq_true rfl) rfl arr24 bsz fun a0 hF => ?_
  apply list_preB 1 1 hB T95_ok [12, 13, 2, 4, 6] [0, 2, 4] [] hF
  case hex => intro A X; conv => lhs; cbv
  case hob =>
    intro X
    exact trivial
  case hQ =>
  intro X3_1 a0 w1 hF
  refine man_acopy (key := 4) (blk := ⟨_, 24, keyC fun _ => 0⟩) rfl rfl rfl rfl rfl rfl rfl hF (Nat.le_of_ble_eq_true rfl) rfl rfl ub ui rfl rfl rfl hsz hcells fun a0 w1 hF => ?_
  refine wpList_nil ?_
  refine wp_seq ?_
  apply region_okB hB T95_ok [2, 3] [0, 2] [] hF
  case hex => intro A X; conv => lhs; cbv
  case hob =>
    intro X
    subst hB; exact ⟨rfl, rfl, trivial⟩
  case hQ =>
  intro X4 a0 w1 hF
  refine wp_ret ?_
  refine (ret_x (fn := Tryd.f95) T95_ok hF (rs := [.cell 2 24, .tmp 3]) rfl (by conv => lhs; cbv) ?_ noAtom [] ?_ ?_ ?_).1
  · subst hB; simp [AllOb, Ob.holds]
  · subst hB; exact Sim.refl _
  · subst hB; first | exact trivial | exact ⟨rfl, ⟨_, rfl, SimL.refl _⟩, trivial⟩
  · exact trivial
theorem place_m (k0 : Nat) (b : Nat) (s : ByteArray) : SpecX Tryd.prog 95 [.ptr k0 b 0] [(k0, ⟨b, 105, [.str s]⟩)] (fun _ => ⟨.tup [.agg (keyC (kI (plcV s))), .int .i64 (plcE s)], [(k0, [.str (plcR s)])], []⟩) :=
  (place_m0 b s).re (by repeat (first | exact trivial | refine ⟨Sim.ptr, ?_⟩ | refine ⟨Sim.fn ⟨Sim.ptr, trivial⟩ trivial, ?_⟩ | refine ⟨Sim.fn trivial ⟨Sim.ptr, trivial⟩, ?_⟩ | refine ⟨Sim.refl _, ?_⟩)) rfl (fun x => ⟨rfl, rfl, Sim.refl _, rfl⟩)
def T94 : List (Nat × TI) := [(9, ti9), (24, ti24), (27, ti27), (66, ti66), (105, ti105)]
theorem T94_ok : TabOK Tryd.prog T94 := .cons t9 (.cons t24 (.cons t27 (.cons t66 (.cons t105 (.nil)))))
theorem enters94 : Enters Tryd.prog 94 := fun _ _ => by kernel_rfl
theorem read_plc0 (b : Nat) (s : ByteArray) : SpecX Tryd.prog 94 [.ptr 0 b 0, .fn 95 [.ptr 0 b 0] []] [(0, ⟨b, 105, [.str s]⟩)] (fun _ => ⟨.tup [.agg (keyC (kI (plcV s))), .int .i64 (plcE s)], [(0, [.str (plcR s)])], []⟩) := by
  intro m w hm hargs hpre
  have S1 := place_m0 b s
  have C1 : plcE s ≠ 0 → kI (plcV s) = (fun _ => 0) ∧ plcR s = s := by
    intro h
    by_cases hn : 20 ≤ s.size
    · simp [plcE, hn] at h
    · simp only [plcV, plcR, hn, if_false]; exact ⟨kI_zero, trivial⟩
  generalize kI (plcV s) = K at S1 C1 ⊢
  generalize plcE s = e at S1 C1 ⊢
  generalize plcR s = r at S1 C1 ⊢
  refine enterX hm hpre hargs Tryd.func94 rfl (by simp [Tryd.ntmps94]) fun a0 hF => ?_
  simp only [Tryd.ntmps94, startT] at hF
  obtain ⟨B, hB⟩ : ∃ B, B = std := ⟨_, rfl⟩
  refine wp_seq ?_
  apply region_okB hB T94_ok [0, 1, 4] [0, 4] [] hF
  case hex => intro A X; conv => lhs; cbv
  case hob =>
    intro X
    subst hB
    simp [AllOb, Ob.holds, BE.den, std, stdCmp, stdArith] <;> omega
  case hQ =>
  intro X0 a0 w1 hF
  refine wp_seq ?_
  apply region_okB hB T94_ok [0, 1, 4, 6] [0, 4, 6] [] hF
  case hex => intro A X; conv => lhs; cbv
  case hob =>
    intro X
    subst hB
    simp [AllOb, Ob.holds, BE.den, std, stdCmp, stdArith] <;> omega
  case hQ =>
  intro X1 a0 w1 hF
  refine wp_seq ?_
  refine wp_seq ?_
  apply region_okB hB T94_ok [11, 0, 1, 4, 6] [0, 4, 6] [] hF
  case hex => intro A X; conv => lhs; cbv
  case hob =>
    intro X
    subst hB
    simp [AllOb, Ob.holds, BE.den, std, stdCmp, stdArith] <;> omega
  case hQ =>
  intro X2 a0 w1 hF
  refine test_ff hF rfl (fun hF => ?_)
  refine wp_skip ?_
  refine wp_seq ?_
  apply region_okB hB T94_ok [0, 1, 4, 6, 7] [0, 4, 6] [] hF
  case hex => intro A X; conv => lhs; cbv
  case hob =>
    intro X
    subst hB; exact ⟨rfl, trivial⟩
  case hQ =>
  intro X4 a0 w1 hF
  refine wp_seq ?_
  apply region_okB hB T94_ok [0, 4, 6, 7, 8, 9] [0, 4, 6, 8] [(1, .x fun _ => ⟨.tup [.agg (keyC K), .int .i64 e], [(0, [.str r])], []⟩)] hF
  case hex => intro A X; conv => lhs; cbv
  case hob =>
    intro X
    subst hB; exact ⟨⟨enters95, S1⟩, rfl, trivial⟩
  case hQ =>
  intro X5 a0 w1 hF
  refine wp_seq ?_
  refine wp_seq ?_
  apply region_okB hB T94_ok [23, 0, 4, 6, 7, 8, 9] [0, 4, 6, 8] [] hF
  case hex => intro A X; conv => lhs; cbv
  case hob =>
    intro X
    subst hB
    simp [AllOb, Ob.holds, BE.den, std, stdCmp, stdArith] <;> omega
  case hQ =>
  intro X6 a0 w1 hF
  refine test_ok hF rfl (fun hb hF => ?_) (fun hb hF => ?_)
  · skip
    have he : e ≠ 0 := by subst hB; simpa [std, stdCmp] using hb
    obtain ⟨hv, hr⟩ := C1 he
    subst hv; subst hr
    refine wp_seq ?_
    apply region_okB hB T94_ok [4, 6, 9] [0, 4, 6] [] hF
    case hex => intro A X; conv => lhs; cbv
    case hob =>
      intro X
      subst hB; exact ⟨rfl, trivial⟩
    case hQ =>
    intro X7 a0 w1 hF
    refine wp_seq ?_
    apply region_okB hB T94_ok [4, 5] [0, 4] [] hF
    case hex => intro A X; conv => lhs; cbv
    case hob =>
      intro X
      subst hB; exact ⟨rfl, rfl, trivial⟩
    case hQ =>
    intro X8 a0 w1 hF
    refine wp_ret ?_
    refine (ret_x (fn := Tryd.f94) T94_ok hF (rs := [.cell 4 24, .tmp 5]) rfl (by conv => lhs; cbv) ?_ noAtom [] ?_ ?_ ?_).1
    · subst hB; simp [AllOb, Ob.holds]
    · subst hB; exact Sim.refl _
    · subst hB; first | exact trivial | exact ⟨rfl, ⟨_, rfl, SimL.refl _⟩, trivial⟩
    · exact trivial
  · skip
    have he : e = 0 := by subst hB; simpa [std, stdCmp] using hb
    subst he
    refine wp_skip ?_
    refine wp_seq ?_
    apply region_okB hB T94_ok [4, 5] [0, 4] [] hF
    case hex => intro A X; conv => lhs; cbv
    case hob =>
      intro X
      subst hB; exact ⟨rfl, rfl, trivial⟩
    case hQ =>
    intro X9 a0 w1 hF
    refine wp_ret ?_
    refine (ret_x (fn := Tryd.f94) T94_ok hF (rs := [.cell 4 24, .tmp 5]) rfl (by conv => lhs; cbv) ?_ noAtom [] ?_ ?_ ?_).1
    · subst hB; simp [AllOb, Ob.holds]
    · subst hB; exact Sim.refl _
    · subst hB; first | exact trivial | exact ⟨rfl, ⟨_, rfl, SimL.refl _⟩, trivial⟩
    · exact trivial
theorem read_plc (k0 : Nat) (b : Nat) (s : ByteArray) : SpecX Tryd.prog 94 [.ptr k0 b 0, .fn 95 [.ptr k0 b 0] []] [(k0, ⟨b, 105, [.str s]⟩)] (fun _ => ⟨.tup [.agg (keyC (kI (plcV s))), .int .i64 (plcE s)], [(k0, [.str (plcR s)])], []⟩) :=
  (read_plc0 b s).re (by repeat (first | exact trivial | refine ⟨Sim.ptr, ?_⟩ | refine ⟨Sim.fn ⟨Sim.ptr, trivial⟩ trivial, ?_⟩ | refine ⟨Sim.fn trivial ⟨Sim.ptr, trivial⟩, ?_⟩ | refine ⟨Sim.refl _, ?_⟩)) rfl (fun x => ⟨rfl, rfl, Sim.refl _, rfl⟩)
def T71 : List (Nat × TI) := [(24, ti24), (27, ti27), (66, ti66), (110, ti110)]
theorem T71_ok : TabOK Tryd.prog T71 := .cons t24 (.cons t27 (.cons t66 (.cons t110 (.nil))))
theorem enters71 : Enters Tryd.prog 71 := fun _ _ => by kernel_rfl
theorem Place_m0 (b : Nat) (s : ByteArray) : SpecX Tryd.prog 71 [.ptr 0 b 0] [(0, ⟨b, 105, [.str s]⟩)] (fun _ => ⟨.tup [.agg (keyC (kI (plcV s))), .int .i64 (plcE s)], [(0, [.str (plcR s)])], []⟩) := by
  intro m w hm hargs hpre
  have S1 := read_plc0 b s
  generalize kI (plcV s) = K at S1 ⊢
  generalize plcE s = e at S1 ⊢
  generalize plcR s = r at S1 ⊢
  refine enterX hm hpre hargs Tryd.func71 rfl (by simp [Tryd.ntmps71]) fun a0 hF => ?_
  simp only [Tryd.ntmps71, startT] at hF
  obtain ⟨B, hB⟩ : ∃ B, B = std := ⟨_, rfl⟩
  refine wp_seq ?_
  apply region_okB hB T71_ok [0, 2] [0, 2] [] hF
  case hex => intro A X; conv => lhs; cbv
  case hob =>
    intro X
    subst hB
    simp [AllOb, Ob.holds, BE.den, std, stdCmp, stdArith] <;> omega
  case hQ =>
  intro X0 a0 w1 hF
  refine wp_seq ?_
  apply region_okB hB T71_ok [2, 3] [0, 2] [(3, .x fun _ => ⟨.tup [.agg (keyC K), .int .i64 e], [(0, [.str r])], []⟩)] hF
  case hex => intro A X; conv => lhs; cbv
  case hob =>
    intro X
    subst hB; exact ⟨⟨enters94, S1⟩, rfl, trivial⟩
  case hQ =>
  intro X1 a0 w1 hF
  refine wp_ret ?_
  refine (ret_x (fn := Tryd.f71) T71_ok hF (rs := [.cell 2 24, .tmp 3]) rfl (by conv => lhs; cbv) ?_ noAtom [] ?_ ?_ ?_).1
  · subst hB; simp [AllOb, Ob.holds]
  · subst hB; exact Sim.refl _
  · subst hB; first | exact trivial | exact ⟨rfl, ⟨_, rfl, SimL.refl _⟩, trivial⟩
  · exact trivial
theorem Place_m (k0 : Nat) (b : Nat) (s : ByteArray) : SpecX Tryd.prog 71 [.ptr k0 b 0] [(k0, ⟨b, 105, [.str s]⟩)] (fun _ => ⟨.tup [.agg (keyC (kI (plcV s))), .int .i64 (plcE s)], [(k0, [.str (plcR s)])], []⟩) :=
  (Place_m0 b s).re (by repeat (first | exact trivial | refine ⟨Sim.ptr, ?_⟩ | refine ⟨Sim.fn ⟨Sim.ptr, trivial⟩ trivial, ?_⟩ | refine ⟨Sim.fn trivial ⟨Sim.ptr, trivial⟩, ?_⟩ | refine ⟨Sim.refl _, ?_⟩)) rfl (fun x => ⟨rfl, rfl, Sim.refl _, rfl⟩)
def T83 : List (Nat × TI) := [(3, ti3), (5, ti5), (9, ti9), (24, ti24), (27, ti27), (88, ti88)]
theorem T83_ok : TabOK Tryd.prog T83 := .cons t3 (.cons t5 (.cons t9 (.cons t24 (.cons t27 (.cons t88 (.nil))))))
theorem enters83 : Enters Tryd.prog 83 := fun _ _ => by kernel_rfl
theorem RPlc_m0 (b : Nat) (s : ByteArray) : SpecX Tryd.prog 83 [.ptr 0 b 0] [(0, ⟨b, 88, [.str s]⟩)] (fun _ => ⟨.tup [.agg (keyC (kI (plcV s))), .int .i64 (plcE s)], [(0, [.str (plcR s)])], []⟩) := by
  intro m w hm hargs hpre
  have C1 : ∀ K : Nat → Int, (∀ j, j < 20 → K j = if 20 ≤ s.size then kI (unB s) j else 0) → keyC K = keyC (kI (plcV s)) := by
    intro K h
    rw [keyC_eq, keyC_eq]
    apply List.map_congr_left
    intro j hj
    have hj : j < 20 := List.mem_range.1 hj
    rw [h j hj]
    by_cases hn : 20 ≤ s.size
    · simp only [hn, if_true, plcV, kI, List.getElem?_take, hj]
    · simp only [hn, if_false, plcV, kI_zero]
  have C2 : (20 ≤ s.size → plcE s = 0 ∧ plcR s = mkB ((unB s).drop 20)) ∧ (¬ 20 ≤ s.size → plcE s = 4 ∧ plcR s = s) := ⟨fun h => by simp [plcE, plcR, h], fun h => by simp [plcE, plcR, h]⟩
  generalize plcE s = e at C2 ⊢
  generalize plcR s = r at C2 ⊢
  generalize kI (plcV s) = V at C1 ⊢
  refine enterX hm hpre hargs Tryd.func83 rfl (by simp [Tryd.ntmps83]) fun a0 hF => ?_
  simp only [Tryd.ntmps83, startT] at hF
  obtain ⟨B, hB⟩ : ∃ B, B = std := ⟨_, rfl⟩
  refine wp_seq ?_
  apply region_okB hB T83_ok [0, 2] [0, 2] [] hF
  case hex => intro A X; conv => lhs; cbv
  case hob =>
    intro X
    subst hB
    simp [AllOb, Ob.holds, BE.den, std, stdCmp, stdArith] <;> omega
  case hQ =>
  intro X0 a0 w1 hF
  refine wp_seq ?_
  apply region_okB hB T83_ok [0, 2, 4] [0, 2, 4] [] hF
  case hex => intro A X; conv => lhs; cbv
  case hob =>
    intro X
    subst hB
    simp [AllOb, Ob.holds, BE.den, std, stdCmp, stdArith] <;> omega
  case hQ =>
  intro X1 a0 w1 hF
  refine wp_seq ?_
  refine wp_seq ?_
  apply region_okB hB T83_ok [11, 0, 2, 4] [0, 2, 4] [] hF
  case hex => intro A X; conv => lhs; cbv
  case hob =>
    intro X
    subst hB; exact ⟨rfl, trivial⟩
  case hQ =>
  intro X2 a0 w1 hF
  refine test_ok hF rfl (fun hb hF => ?_) (fun hb hF => ?_)
  · skip
    have hn : ¬ 20 ≤ s.size := by
      have : (s.size : Int) < 20 := by subst hB; simpa [std, stdCmp] using hb
      omega
    obtain ⟨he, hr⟩ := C2.2 hn
    have hV := C1 (fun _ => 0) (fun j hj => by simp [hn])
    subst he; subst hr
    refine wp_seq ?_
    apply region_okB hB T83_ok [2, 3] [0, 2] [] hF
    case hex => intro A X; conv => lhs; cbv
    case hob =>
      intro X
      subst hB; exact ⟨rfl, rfl, trivial⟩
    case hQ =>
    intro X3 a0 w1 hF
    refine wp_ret ?_
    refine (ret_x (fn := Tryd.f83) T83_ok hF (rs := [.cell 2 24, .tmp 3]) rfl (by conv => lhs; cbv) ?_ noAtom [] ?_ ?_ ?_).1
    · subst hB; simp [AllOb, Ob.holds]
    · subst hB; rw [← hV]; exact Sim.refl _
    · subst hB; first | exact trivial | exact ⟨rfl, ⟨_, rfl, SimL.refl _⟩, trivial⟩
    · exact trivial
  · skip
    have hn : 20 ≤ s.size := by
      have : ¬ (s.size : Int) < 20 := by subst hB; simpa [std, stdCmp] using hb
      omega
    obtain ⟨he, hr⟩ := C2.1 hn
    simp only [hn, if_true] at C1
    refine wp_skip ?_
    refine wp_seq ?_
    refine wp_seq ?_
    apply region_okB hB T83_ok [5, 0, 2, 4] [4, 0, 2] [] hF
    case hex => intro A X; conv => lhs; cbv
    case hob =>
      intro X
      subst hB
      simp [AllOb, Ob.holds, BE.den, std, stdCmp, stdArith] <;> omega
    case hQ =>
    intro X4 a0 w1 hF
    refine wp_block ?_
    refine loop_pre (ι := Nat × (Nat → Int)) (fun p => [(5, .int .i64 (p.1 : Int))]) (fun p => [(4, ⟨(X1 0).b, 24, keyC p.2⟩)]) (fun p => []) (fun p => p.1 ≤ 20 ∧ p.2 = fun j => if j < p.1 then kI (unB s) j else 0) (fun p => 20 - p.1) (0, fun _ => 0) ⟨Nat.zero_le _, by funext j; simp⟩ hF ?_
    rintro ⟨i, K⟩ ⟨hi, hK⟩ a0 w1 hF
    try dsimp only at hi
    try dsimp only at hK
    refine wp_seq ?_
    refine wp_seq ?_
    apply region_okB hB T83_ok [14, 0, 2, 4, 5] [0, 2, 4] [] hF
    case hex => intro A X; conv => lhs; cbv
    case hob =>
      intro X
      subst hB
      simp [AllOb, Ob.holds, BE.den, std, stdCmp, stdArith] <;> omega
    case hQ =>
    intro X5 a0 w1 hF
    refine test_ok hF rfl (fun hb hF => ?_) (fun hb hF => ?_)
    · skip
      have hin : i < 20 := by
        have : (i : Int) < 20 := by subst hB; simpa [std, stdCmp] using hb
        omega
      refine wp_skip ?_
      refine wp_seq ?_
      refine wp_block ?_
      refine wp_region_lit ?_
      apply list_preB 0 7 hB T83_ok [17, 23, 0, 2, 4, 5] [4, 0, 2] [] hF
      case hex => intro A X; conv => lhs; cbv
      case hob =>
        intro X
        subst hB
        refine ⟨rfl, ⟨?_, ?_⟩, trivial⟩
        · show (0 : Int) ≤ (i : Int); omega
        · show (i : Int) < (s.size : Int); omega
      case hQ =>
      intro X7_0 a0 w1 hF
      refine man_iaddr (j := (i : Int)) rfl rfl rfl rfl hF (Nat.le_of_ble_eq_true rfl) rfl rfl arr24 bsz ⟨by omega, by omega⟩ fun a0 hF => ?_
      refine man_astore (T := T83) (ti := ti5) (blk := ⟨_, 24, keyC K⟩) (cells' := keyC (fun j => if j = i then B.sat s (B.toNat (i : Int)) else K j)) rfl rfl rfl rfl hF rfl rfl t5 rfl rfl rfl (by rw [Int.toNat_natCast, Nat.zero_add]; exact hin) rfl rfl (by rw [Int.toNat_natCast, Nat.zero_add]; exact keyC_set K i _) fun a0 w1 hF => ?_
      refine wpList_nil ?_
      apply region_okB hB T83_ok [5, 0, 2, 4] [4, 0, 2] [] hF
      case hex => intro A X; conv => lhs; cbv
      case hob =>
        intro X
        subst hB
        simp [AllOb, Ob.holds, BE.den, std, stdCmp, stdArith] <;> omega
      case hQ =>
      intro X6 a0 w1 hF
      have e1 : B.arith .add .i64 (i : Int) 1 = ((i + 1 : Nat) : Int) := by subst hB; exact wrap_succ (n := 20) hin (by decide)
      refine ⟨(i + 1, fun j => if j = i then B.sat s (B.toNat (i : Int)) else K j), ⟨by simp only; omega, ?_⟩, by simp only; omega, by rw [← e1]; exact hF⟩
      subst hB
      funext j
      show (if j = i then ((s[((i : Int)).toNat]?.getD 0).toNat : Int) else K j) = _
      rw [Int.toNat_natCast, hK, un_get]
      by_cases hj : j = i
      · subst hj; simp [kI]
      · by_cases h2 : j < i
        · have h3 : j < i + 1 := by omega
          simp [hj, h2, h3]
        · have h3 : ¬ j < i + 1 := by omega
          simp [hj, h2, h3]
    · skip
      have hout : i = 20 := by
        have : ¬ (i : Int) < 20 := by subst hB; simpa [std, stdCmp] using hb
        omega
      have hV := C1 K (fun j hj => by rw [hK]; exact if_pos (by omega))
      subst he; subst hr
      refine wp_exit ?_
      refine wp_seq ?_
      apply region_okB hB T83_ok [2, 4] [0, 2, 4] [] hF
      case hex => intro A X; conv => lhs; cbv
      case hob =>
        intro X
        subst hB
        exact ⟨rfl, ⟨by decide, by show (20 : Int) ≤ (s.size : Int); omega, Int.le_refl _⟩, rfl, trivial⟩
      case hQ =>
      intro X8 a0 w1 hF
      refine wp_seq ?_
      apply region_okB hB T83_ok [2, 3] [0, 2] [] hF
      case hex => intro A X; conv => lhs; cbv
      case hob =>
        intro X
        subst hB; exact ⟨rfl, rfl, trivial⟩
      case hQ =>
      intro X9 a0 w1 hF
      refine wp_ret ?_
      refine (ret_x (fn := Tryd.f83) T83_ok hF (rs := [.cell 2 24, .tmp 3]) rfl (by conv => lhs; cbv) ?_ noAtom [] ?_ ?_ ?_).1
      · subst hB; simp [AllOb, Ob.holds]
      · subst hB; rw [← hV]; exact Sim.refl _
      · subst hB
        refine ⟨rfl, ⟨_, rfl, ?_⟩, trivial⟩
        show SimL [.str (s.extract 20 s.size)] _
        rw [show s.extract 20 s.size = mkB ((unB s).drop 20) from un_inj (by rw [un_extract, un_mk, List.take_of_length_le (by rw [un_size]; exact Nat.le_refl _)])]
        exact SimL.refl _
      · exact trivial
theorem RPlc_m (k0 : Nat) (b : Nat) (s : ByteArray) : SpecX Tryd.prog 83 [.ptr k0 b 0] [(k0, ⟨b, 88, [.str s]⟩)] (fun _ => ⟨.tup [.agg (keyC (kI (plcV s))), .int .i64 (plcE s)], [(k0, [.str (plcR s)])], []⟩) :=
  (RPlc_m0 b s).re (by repeat (first | exact trivial | refine ⟨Sim.ptr, ?_⟩ | refine ⟨Sim.fn ⟨Sim.ptr, trivial⟩ trivial, ?_⟩ | refine ⟨Sim.fn trivial ⟨Sim.ptr, trivial⟩, ?_⟩ | refine ⟨Sim.refl _, ?_⟩)) rfl (fun x => ⟨rfl, rfl, Sim.refl _, rfl⟩)
end Go.Proofs.YtkamdppnnhjajaaDoor.Sym

namespace Go.Proofs.YtkamdppnnhjajaaDoor.Sym
open Go Go.RowKit
set_option linter.unusedVariables false
set_option linter.unusedSimpArgs false

structure RS where
  e : Int
  s : ByteArray
/-- get: d for none; V, E, R: what is read, the error, what is left then; ok: is it right? -/
def getG {α : Type} (d V : α) (E : Int) (R : ByteArray) (ok : Bool) (r : RS) : α × RS :=
  if r.e ≠ 0 then (d, r) else if E ≠ 0 then (d, ⟨E, R⟩) else if ok = true then (V, ⟨0, R⟩) else (d, ⟨3, R⟩)
def numD (d lo hi : Int) (r : RS) : Int × RS := getG d (numV r.s) (numE r.s) (numR r.s) (decide (lo ≤ numV r.s) && decide (numV r.s ≤ hi)) r
def wholeD (r : RS) : Int × RS := numD 0 0 18446744073709551615 r
def flagD (r : RS) : Bool × RS := let x := numD 0 0 1 r; (decide (x.1 = 1), x.2)
def okV (h : Bool) (s : ByteArray) : Bool := decide (s.size ≤ if h then 2048 else 0)
def valD (h : Bool) (r : RS) : ByteArray × RS := getG ByteArray.empty (txtV r.s) (txtE r.s) (txtR r.s) (okV h (txtV r.s)) r
def plcD (r : RS) : List UInt8 × RS := getG zeroKey (plcV r.s) (plcE r.s) (plcR r.s) true r
def codeD (l : List Int) (r : RS) : Int × RS := getG 0 (numV r.s) (numE r.s) (numR r.s) (decide (numV r.s < 1073741824) && decide (numV r.s ∈ l)) r
def toldD (l : List Int) (r : RS) : Ans × RS :=
  let c := codeD l r
  let v := wholeD c.2
  let h := flagD v.2
  (⟨c.1, v.1, h.1, ByteArray.empty⟩, h.2)
def whoD (r : RS) : Opr × RS :=
  let c := numD 0 0 63 r
  let q := wholeD c.2
  (⟨c.1, q.1, 0, 0, ByteArray.empty⟩, q.2)
def mostD (k : Int) : Int := if k = 3 ∨ k = 4 then 18446744073709551615 else 0
def opD (r : RS) : Opr × RS :=
  let o := whoD r
  let k := numD 0 1 4 o.2
  let v := numD 0 0 (mostD k.1) k.2
  let t := valD (decide (k.1 = 2) || decide (k.1 = 3)) v.2
  (⟨o.1.client, o.1.req, k.1, v.1, t.1⟩, t.2)
def markD (least : Int) (r : RS) : Mark × RS :=
  let c := numD 0 least 63 r
  let q := wholeD c.2
  let a := toldD [0, 8] q.2
  (⟨c.1, q.1, a.1⟩, a.2)
/-- so many marks, or fewer where there is an error -/
def marksD : Nat → Int → RS → List Mark × RS
  | 0, _, r => ([], r)
  | n + 1, least, r => if r.e ≠ 0 then ([], r) else
    let m := markD least r
    let l := marksD n (m.1.client + 1) m.2
    (m.1 :: l.1, l.2)
def cellD (r : RS) : Cel × RS :=
  let v := wholeD r
  let h := flagD v.2
  let t := valD h.1 h.2
  let n := numD 0 0 64 t.2
  let l := marksD n.1.toNat 0 n.2
  (⟨v.1, h.1, t.1, l.1⟩, l.2)
def zeroPar : Par := ⟨0, 0, zeroKey, zeroOp, zeroAns, 0, zeroCel⟩
def bodyD (k ep : Int) (r : RS) : Par × RS :=
  if k = 1 then let y := plcD r; let o := opD y.2; (⟨k, ep, y.1, o.1, zeroAns, 0, zeroCel⟩, o.2)
  else if k = 2 then
    let o := whoD r
    let a := toldD [0, 8, 7, 9] o.2
    let t := valD a.1.has a.2
    (⟨k, ep, zeroKey, o.1, ⟨a.1.code, a.1.version, a.1.has, t.1⟩, 0, zeroCel⟩, t.2)
  else if k = 3 then let y := plcD r; let u := wholeD y.2; let c := cellD u.2; (⟨k, ep, y.1, zeroOp, zeroAns, u.1, c.1⟩, c.2)
  else if k = 4 then let u := wholeD r; (⟨k, ep, zeroKey, zeroOp, zeroAns, u.1, zeroCel⟩, u.2)
  else (⟨k, ep, zeroKey, zeroOp, zeroAns, 0, zeroCel⟩, r)
def allD (s : ByteArray) : Par × RS :=
  let k := numD 0 1 4 ⟨0, s⟩
  let ep := wholeD k.2
  bodyD k.1 ep.1 ep.2
/-- what Get gives -/
def getP (s : ByteArray) : Par × Int :=
  let x := allD s
  if x.2.e ≠ 0 then (zeroPar, x.2.e) else if x.2.s.size = 0 then (x.1, 0) else (zeroPar, 3)
theorem getG_dead {α : Type} {d V : α} {E : Int} {R : ByteArray} {ok : Bool} {r : RS} (h : r.e ≠ 0) : getG d V E R ok r = (d, r) := by simp [getG, h]
/-- the error, as it lies in memory -/
def errC (A : Option Addr) (e : Int) : AV := .opt (decide (e ≠ 0)) 81 (.ep A 0 1 0 [.int .i64 e])
end Go.Proofs.YtkamdppnnhjajaaDoor.Sym

namespace Go.Proofs.YtkamdppnnhjajaaDoor.Sym
open Go Go.RowKit
set_option maxRecDepth 100000
set_option maxHeartbeats 1600000
set_option linter.unusedVariables false
set_option linter.unusedSimpArgs false
def T67 : List (Nat × TI) := [(22, ti22), (27, ti27), (69, ti69), (71, ti71), (81, ti81), (83, ti83)]
theorem T67_ok : TabOK Tryd.prog T67 := .cons t22 (.cons t27 (.cons t69 (.cons t71 (.cons t81 (.cons t83 (.nil))))))
theorem enters67 : Enters Tryd.prog 67 := fun _ _ => by kernel_rfl
theorem get_num0 (b bw : Nat) (s : ByteArray) (e : Int) (A : Option Addr) (F : Nat) (cap : List AV) (ok : Bool) (hen : Enters Tryd.prog F) (hIs : Spec Tryd.prog F (.int .u64 (numV s) :: cap) (fun _ => .bool (.v ok))) : SpecX Tryd.prog 67 [.ptr 0 b 0, .fn 68 [.ptr 1000 bw 0] [], .fn F [] cap] [(0, ⟨b, 71, [.ptr 1000 bw 0, errC A e]⟩), (1000, ⟨bw, 105, [.str s]⟩)] (fun x => ⟨.int .u64 ((getG (0 : Int) (numV s) (numE s) (numR s) ok ⟨e, s⟩).1), [(0, [.ptr 1000 bw 0, errC (x.A 0) (getG (0 : Int) (numV s) (numE s) (numR s) ok ⟨e, s⟩).2.e]), (1000, [.str (getG (0 : Int) (numV s) (numE s) (numR s) ok ⟨e, s⟩).2.s])], []⟩) := by
  intro m w hm hargs hpre
  have S1 := Number_m 1000 bw s
  have hER : numE s ≠ 0 → numR s = s := fun h => ((num_rest s).2 h).2
  obtain ⟨v, hv⟩ : ∃ v, v = numV s := ⟨_, rfl⟩
  obtain ⟨ee, hee⟩ : ∃ v, v = numE s := ⟨_, rfl⟩
  obtain ⟨q, hq⟩ : ∃ v, v = numR s := ⟨_, rfl⟩
  rw [← hv] at S1 hIs ⊢
  rw [← hee] at S1 hER ⊢
  rw [← hq] at S1 hER ⊢
  have hz : ∃ z, z = decide (e ≠ 0) := ⟨_, rfl⟩
  obtain ⟨z, hz⟩ := hz
  have heC : errC A e = .opt z 81 (.ep A 0 1 0 [.int .i64 e]) := by rw [hz]; rfl
  simp only [heC] at hpre ⊢
  refine enterX hm hpre hargs Tryd.func67 rfl (by simp [Tryd.ntmps67]) fun a0 hF => ?_
  simp only [Tryd.ntmps67, startT] at hF
  obtain ⟨B, hB⟩ : ∃ B, B = std := ⟨_, rfl⟩
  refine wp_seq ?_
  apply region_okB hB T67_ok [0, 1, 2] [0, 1000] [] hF
  case hex => intro A X; conv => lhs; cbv
  case hob =>
    intro X
    subst hB
    simp [AllOb, Ob.holds, BE.den, std, stdCmp, stdArith] <;> omega
  case hQ =>
  intro X0 a0 w1 hF
  refine wp_seq ?_
  apply region_okB hB T67_ok [0, 1, 2, 7] [0, 1000] [] hF
  case hex => intro A X; conv => lhs; cbv
  case hob =>
    intro X
    subst hB
    simp [AllOb, Ob.holds, BE.den, std, stdCmp, stdArith] <;> omega
  case hQ =>
  intro X1 a0 w1 hF
  refine wp_seq ?_
  refine wp_seq ?_
  apply region_okB hB T67_ok [14, 0, 1, 2, 7] [0, 1000] [] hF
  case hex => intro A X; conv => lhs; cbv
  case hob =>
    intro X
    subst hB; exact ⟨rfl, trivial⟩
  case hQ =>
  intro X2 a0 w1 hF
  refine test_ok hF rfl (fun hb hF => ?_) (fun hb hF => ?_)
  · skip
    have he : e ≠ 0 := by
      have : z = true := by subst hB; exact hb
      rw [hz] at this; exact of_decide_eq_true this
    have hg : getG (0 : Int) v ee q ok (⟨e, s⟩ : RS) = ((0 : Int), (⟨e, s⟩ : RS)) := by
      simp only [getG]; rw [if_pos he]
    refine wp_seq ?_
    apply region_okB hB T67_ok [6] [0, 1000] [] hF
    case hex => intro A X; conv => lhs; cbv
    case hob =>
      intro X
      subst hB
      simp only [AllOb, Ob.holds, BE.den, List.mem_cons, List.not_mem_nil, or_false, forall_eq_or_imp, forall_eq] <;> (and_intros <;> first | trivial | (intro h; trivial) | rfl | (intro h; rfl))
    case hQ =>
    intro X3 a0 w1 hF
    refine wp_ret ?_
    refine (ret_x (fn := Tryd.f67) T67_ok hF (rs := [.tmp 6]) rfl (rfl) ?_ (⟨0, fun _ => A, fun _ => 0, fun _ => .empty⟩) [] ?_ ?_ ?_).1
    · subst hB; simp [AllOb, Ob.holds]
    · subst hB; rw [hg]; exact Sim.refl _
    · subst hB; rw [hg]
      exact ⟨rfl, ⟨_, rfl, by rw [show errC A e = _ from heC]; exact SimL.refl _⟩, rfl, ⟨_, rfl, SimL.refl _⟩, trivial⟩
    · exact trivial
  · skip
    have he : e = 0 := by
      have : z = false := by subst hB; exact hb
      rw [hz] at this; exact Decidable.not_not.1 (of_decide_eq_false this)
    refine wp_skip ?_
    refine wp_seq ?_
    apply region_okB hB T67_ok [0, 2, 7, 8, 9] [0, 1000] [(1, .x fun _ => ⟨.tup [.int .u64 v, .int .i64 ee], [(1000, [.str q])], []⟩)] hF
    case hex => intro A X; conv => lhs; cbv
    case hob =>
      intro X
      subst hB; exact ⟨⟨enters68, S1⟩, trivial⟩
    case hQ =>
    intro X4 a0 w1 hF
    refine wp_seq ?_
    refine wp_seq ?_
    apply region_okB hB T67_ok [28, 9, 0, 7, 8] [0, 1000] [(5, .r fun _ => .bool (.v ok))] hF
    case hex => intro A X; conv => lhs; cbv
    case hob =>
      intro X
      subst hB
      simp only [AllOb, Ob.holds, BE.den, List.mem_cons, List.not_mem_nil, or_false, forall_eq_or_imp, forall_eq] <;> (and_intros <;> first | trivial | (intro h; trivial) | exact hen | (intro h; exact hen) | exact hIs | (intro h; exact hIs) | (intro h; exact ⟨hen, hIs⟩) | (intro h; (intro h; exact ⟨hen, hIs⟩)) | rfl | (intro h; rfl))
    case hQ =>
    intro X5 a0 w1 hF
    refine cut_one (ι := Int) (S0 := [(28, _), (9, _)]) (M0 := []) (G0 := []) (fun p => [(9, .int .i64 p)]) (fun p => []) (fun p => []) (fun p => p = if ee = 0 ∧ ok = false then 3 else ee) hF ?_ ?_
    · skip
      refine test_ok hF rfl (fun hb hF => ?_) (fun hb hF => ?_)
      · skip
        have hp : ee = 0 ∧ ok = false := by
          subst hB
          simp only [std, stdCmp, BE.den] at hb
          clear hF hargs hm hpre S1 hIs
          grind
        apply region_okB hB T67_ok [9, 0, 7, 8] [0, 1000] [] hF
        case hex => intro A X; conv => lhs; cbv
        case hob =>
          intro X
          subst hB
          simp [AllOb, Ob.holds, BE.den, std, stdCmp, stdArith] <;> omega
        case hQ =>
        intro X6 a0 w1 hF
        refine ⟨3, ?_, hF⟩
        rw [if_pos hp]
      · skip
        have hp : ¬ (ee = 0 ∧ ok = false) := by
          subst hB
          simp only [std, stdCmp, BE.den] at hb
          clear hF hargs hm hpre S1 hIs
          grind
        refine wp_skip ?_
        refine ⟨ee, ?_, hF⟩
        rw [if_neg hp]
    · rintro ec hec a0 w1 hF
      try dsimp only at hec
      refine wp_seq ?_
      refine wp_seq ?_
      apply region_okB hB T67_ok [30, 0, 7, 8, 9] [0, 1000] [] hF
      case hex => intro A X; conv => lhs; cbv
      case hob =>
        intro X
        subst hB
        simp [AllOb, Ob.holds, BE.den, std, stdCmp, stdArith] <;> omega
      case hQ =>
      intro X7 a0 w1 hF
      refine test_ok hF rfl (fun hb hF => ?_) (fun hb hF => ?_)
      · skip
        have hne : ec ≠ 0 := by subst hB; simpa [std, stdCmp] using hb
        have hg : getG (0 : Int) v ee q ok (⟨e, s⟩ : RS) = ((0 : Int), (⟨ec, q⟩ : RS)) := by
          simp only [getG]; rw [if_neg (by simpa using he)]
          by_cases hp : ee = 0 ∧ ok = false
          · rw [if_pos hp] at hec
            rw [if_neg (by simpa using hp.1), if_neg (by simp [hp.2]), hec]
          · rw [if_neg hp] at hec
            subst hec
            rw [if_pos hne]
        refine wp_seq ?_
        apply region_okB hB T67_ok [7] [0, 1000, 34] [] hF
        case hex => intro A X; conv => lhs; cbv
        case hob =>
          intro X
          subst hB; exact ⟨rfl, trivial⟩
        case hQ =>
        intro X8 a0 w1 hF
        have hfz34 := frozen hF (key := 34) rfl [7] [0, 1000] rfl (fun k1 bk1 hk1 => hF.nodup k1 34 _ _ (keepM_look _ _ hk1) rfl (by rintro rfl; cases hk1)) (fresh_of hF (key := 34) rfl (fun e1 he1 => by
          simp only [List.mem_cons, List.not_mem_nil, or_false] at he1
          rcases he1 with rfl | rfl
          · have hnd := hF.nodup 0 34 _ _ rfl rfl (by decide); exact hnd
          · have hnd := hF.nodup 1000 34 _ _ rfl rfl (by decide); exact hnd)) 1
        replace hF := (hF.keep [7] [0, 1000]).recells 0 rfl [.ptr 1000 bw 0, .opt true 81 (.ep (some ⟨_, 0, none⟩) 0 1 0 [.int .i64 ec])] rfl (fun v1 hv1 => by
          simp only [List.mem_cons, List.not_mem_nil, or_false] at hv1
          rcases hv1 with rfl | rfl
          · exact ⟨rfl, .ptr _ _ _⟩
          · exact ⟨rfl, .opt _ _ _ (fun _ => hfz34)⟩)
        refine wp_seq ?_
        apply region_okB hB T67_ok [6] [0, 1000] [] hF
        case hex => intro A X; conv => lhs; cbv
        case hob =>
          intro X
          subst hB
          simp only [AllOb, Ob.holds, BE.den, List.mem_cons, List.not_mem_nil, or_false, forall_eq_or_imp, forall_eq] <;> (and_intros <;> first | trivial | (intro h; trivial) | rfl | (intro h; rfl))
        case hQ =>
        intro X9 a0 w1 hF
        refine wp_ret ?_
        refine (ret_x (fn := Tryd.f67) T67_ok hF (rs := [.tmp 6]) rfl (rfl) ?_ (⟨0, fun _ => some ⟨(X8 3).b, 0, none⟩, fun _ => 0, fun _ => .empty⟩) [] ?_ ?_ ?_).1
        · subst hB; simp [AllOb, Ob.holds]
        · subst hB; rw [hg]; exact Sim.refl _
        · subst hB; rw [hg]
          exact ⟨rfl, ⟨_, rfl, by unfold errC; rw [decide_eq_true hne]; exact SimL.refl _⟩, rfl, ⟨_, rfl, SimL.refl _⟩, trivial⟩
        · exact trivial
      · skip
        have hze : ec = 0 := by subst hB; simpa [std, stdCmp] using hb
        have hg : getG (0 : Int) v ee q ok (⟨e, s⟩ : RS) = (v, (⟨0, q⟩ : RS)) := by
          simp only [getG]; rw [if_neg (by simpa using he)]
          by_cases hp : ee = 0 ∧ ok = false
          · rw [if_pos hp] at hec; omega
          · rw [if_neg hp] at hec
            have h0 : ee = 0 := by omega
            have h1 : ok = true := by
              cases ok with
              | true => rfl
              | false => exact absurd ⟨h0, rfl⟩ hp
            rw [if_neg (by simpa using h0), if_pos h1]
        refine wp_skip ?_
        refine wp_seq ?_
        apply region_okB hB T67_ok [6] [0, 1000] [] hF
        case hex => intro A X; conv => lhs; cbv
        case hob =>
          intro X
          subst hB
          simp only [AllOb, Ob.holds, BE.den, List.mem_cons, List.not_mem_nil, or_false, forall_eq_or_imp, forall_eq] <;> (and_intros <;> first | trivial | (intro h; trivial) | rfl | (intro h; rfl))
        case hQ =>
        intro X10 a0 w1 hF
        refine wp_ret ?_
        refine (ret_x (fn := Tryd.f67) T67_ok hF (rs := [.tmp 6]) rfl (rfl) ?_ (⟨0, fun _ => A, fun _ => 0, fun _ => .empty⟩) [] ?_ ?_ ?_).1
        · subst hB; simp [AllOb, Ob.holds]
        · subst hB; rw [hg]; exact Sim.refl _
        · subst hB; rw [hg]
          exact ⟨rfl, ⟨_, rfl, by rw [show errC A 0 = errC A e from by rw [he], heC]; exact SimL.refl _⟩, rfl, ⟨_, rfl, SimL.refl _⟩, trivial⟩
        · exact trivial
theorem get_num (k0 : Nat) (b bw : Nat) (s : ByteArray) (e : Int) (A : Option Addr) (F : Nat) (cap : List AV) (ok : Bool) (hen : Enters Tryd.prog F) (hIs : Spec Tryd.prog F (.int .u64 (numV s) :: cap) (fun _ => .bool (.v ok))) : SpecX Tryd.prog 67 [.ptr k0 b 0, .fn 68 [.ptr 1000 bw 0] [], .fn F [] cap] [(k0, ⟨b, 71, [.ptr 1000 bw 0, errC A e]⟩), (1000, ⟨bw, 105, [.str s]⟩)] (fun x => ⟨.int .u64 ((getG (0 : Int) (numV s) (numE s) (numR s) ok ⟨e, s⟩).1), [(k0, [.ptr 1000 bw 0, errC (x.A 0) (getG (0 : Int) (numV s) (numE s) (numR s) ok ⟨e, s⟩).2.e]), (1000, [.str (getG (0 : Int) (numV s) (numE s) (numR s) ok ⟨e, s⟩).2.s])], []⟩) :=
  (get_num0 b bw s e A F cap ok hen hIs).re (by repeat (first | exact trivial | refine ⟨Sim.ptr, ?_⟩ | refine ⟨Sim.fn ⟨Sim.ptr, trivial⟩ trivial, ?_⟩ | refine ⟨Sim.fn trivial ⟨Sim.ptr, trivial⟩, ?_⟩ | refine ⟨Sim.refl _, ?_⟩)) rfl (fun x => ⟨rfl, rfl, Sim.refl _, rfl⟩)
def T75 : List (Nat × TI) := [(9, ti9), (27, ti27), (69, ti69), (71, ti71), (81, ti81), (83, ti83)]
theorem T75_ok : TabOK Tryd.prog T75 := .cons t9 (.cons t27 (.cons t69 (.cons t71 (.cons t81 (.cons t83 (.nil))))))
theorem enters75 : Enters Tryd.prog 75 := fun _ _ => by kernel_rfl
theorem get_txt0 (b bw : Nat) (s : ByteArray) (e : Int) (A : Option Addr) (F : Nat) (cap : List AV) (ok : Bool) (hen : Enters Tryd.prog F) (hIs : Spec Tryd.prog F (.str (txtV s) :: cap) (fun _ => .bool (.v ok))) : SpecX Tryd.prog 75 [.ptr 0 b 0, .fn 76 [.ptr 1000 bw 0] [], .fn F [] cap] [(0, ⟨b, 71, [.ptr 1000 bw 0, errC A e]⟩), (1000, ⟨bw, 105, [.str s]⟩)] (fun x => ⟨.str ((getG ByteArray.empty (txtV s) (txtE s) (txtR s) ok ⟨e, s⟩).1), [(0, [.ptr 1000 bw 0, errC (x.A 0) (getG ByteArray.empty (txtV s) (txtE s) (txtR s) ok ⟨e, s⟩).2.e]), (1000, [.str (getG ByteArray.empty (txtV s) (txtE s) (txtR s) ok ⟨e, s⟩).2.s])], []⟩) := by
  intro m w hm hargs hpre
  have S1 := Text_m 1000 bw s
  have hER : txtE s ≠ 0 → txtR s = s := fun h => ((txt_rest s).2 h).2
  obtain ⟨v, hv⟩ : ∃ v, v = txtV s := ⟨_, rfl⟩
  obtain ⟨ee, hee⟩ : ∃ v, v = txtE s := ⟨_, rfl⟩
  obtain ⟨q, hq⟩ : ∃ v, v = txtR s := ⟨_, rfl⟩
  rw [← hv] at S1 hIs ⊢
  rw [← hee] at S1 hER ⊢
  rw [← hq] at S1 hER ⊢
  have hz : ∃ z, z = decide (e ≠ 0) := ⟨_, rfl⟩
  obtain ⟨z, hz⟩ := hz
  have heC : errC A e = .opt z 81 (.ep A 0 1 0 [.int .i64 e]) := by rw [hz]; rfl
  simp only [heC] at hpre ⊢
  refine enterX hm hpre hargs Tryd.func75 rfl (by simp [Tryd.ntmps75]) fun a0 hF => ?_
  simp only [Tryd.ntmps75, startT] at hF
  obtain ⟨B, hB⟩ : ∃ B, B = std := ⟨_, rfl⟩
  refine wp_seq ?_
  apply region_okB hB T75_ok [0, 1, 2] [0, 1000] [] hF
  case hex => intro A X; conv => lhs; cbv
  case hob =>
    intro X
    subst hB
    simp [AllOb, Ob.holds, BE.den, std, stdCmp, stdArith] <;> omega
  case hQ =>
  intro X0 a0 w1 hF
  refine wp_seq ?_
  apply region_okB hB T75_ok [0, 1, 2, 7] [0, 1000] [] hF
  case hex => intro A X; conv => lhs; cbv
  case hob =>
    intro X
    subst hB
    simp [AllOb, Ob.holds, BE.den, std, stdCmp, stdArith] <;> omega
  case hQ =>
  intro X1 a0 w1 hF
  refine wp_seq ?_
  refine wp_seq ?_
  apply region_okB hB T75_ok [14, 0, 1, 2, 7] [0, 1000] [] hF
  case hex => intro A X; conv => lhs; cbv
  case hob =>
    intro X
    subst hB; exact ⟨rfl, trivial⟩
  case hQ =>
  intro X2 a0 w1 hF
  refine test_ok hF rfl (fun hb hF => ?_) (fun hb hF => ?_)
  · skip
    have he : e ≠ 0 := by
      have : z = true := by subst hB; exact hb
      rw [hz] at this; exact of_decide_eq_true this
    have hg : getG ByteArray.empty v ee q ok (⟨e, s⟩ : RS) = (ByteArray.empty, (⟨e, s⟩ : RS)) := by
      simp only [getG]; rw [if_pos he]
    refine wp_seq ?_
    apply region_okB hB T75_ok [6] [0, 1000] [] hF
    case hex => intro A X; conv => lhs; cbv
    case hob =>
      intro X
      subst hB
      simp only [AllOb, Ob.holds, BE.den, List.mem_cons, List.not_mem_nil, or_false, forall_eq_or_imp, forall_eq] <;> (and_intros <;> first | trivial | (intro h; trivial) | rfl | (intro h; rfl))
    case hQ =>
    intro X3 a0 w1 hF
    refine wp_ret ?_
    refine (ret_x (fn := Tryd.f75) T75_ok hF (rs := [.tmp 6]) rfl (rfl) ?_ (⟨0, fun _ => A, fun _ => 0, fun _ => .empty⟩) [] ?_ ?_ ?_).1
    · subst hB; simp [AllOb, Ob.holds]
    · subst hB; rw [hg]; exact Sim.refl _
    · subst hB; rw [hg]
      exact ⟨rfl, ⟨_, rfl, by rw [show errC A e = _ from heC]; exact SimL.refl _⟩, rfl, ⟨_, rfl, SimL.refl _⟩, trivial⟩
    · exact trivial
  · skip
    have he : e = 0 := by
      have : z = false := by subst hB; exact hb
      rw [hz] at this; exact Decidable.not_not.1 (of_decide_eq_false this)
    refine wp_skip ?_
    refine wp_seq ?_
    apply region_okB hB T75_ok [0, 2, 7, 8, 9] [0, 1000] [(1, .x fun _ => ⟨.tup [.str v, .int .i64 ee], [(1000, [.str q])], []⟩)] hF
    case hex => intro A X; conv => lhs; cbv
    case hob =>
      intro X
      subst hB; exact ⟨⟨enters76, S1⟩, trivial⟩
    case hQ =>
    intro X4 a0 w1 hF
    refine wp_seq ?_
    refine wp_seq ?_
    apply region_okB hB T75_ok [28, 9, 0, 7, 8] [0, 1000] [(5, .r fun _ => .bool (.v ok))] hF
    case hex => intro A X; conv => lhs; cbv
    case hob =>
      intro X
      subst hB
      simp only [AllOb, Ob.holds, BE.den, List.mem_cons, List.not_mem_nil, or_false, forall_eq_or_imp, forall_eq] <;> (and_intros <;> first | trivial | (intro h; trivial) | exact hen | (intro h; exact hen) | exact hIs | (intro h; exact hIs) | (intro h; exact ⟨hen, hIs⟩) | (intro h; (intro h; exact ⟨hen, hIs⟩)) | rfl | (intro h; rfl))
    case hQ =>
    intro X5 a0 w1 hF
    refine cut_one (ι := Int) (S0 := [(28, _), (9, _)]) (M0 := []) (G0 := []) (fun p => [(9, .int .i64 p)]) (fun p => []) (fun p => []) (fun p => p = if ee = 0 ∧ ok = false then 3 else ee) hF ?_ ?_
    · skip
      refine test_ok hF rfl (fun hb hF => ?_) (fun hb hF => ?_)
      · skip
        have hp : ee = 0 ∧ ok = false := by
          subst hB
          simp only [std, stdCmp, BE.den] at hb
          clear hF hargs hm hpre S1 hIs
          grind
        apply region_okB hB T75_ok [9, 0, 7, 8] [0, 1000] [] hF
        case hex => intro A X; conv => lhs; cbv
        case hob =>
          intro X
          subst hB
          simp [AllOb, Ob.holds, BE.den, std, stdCmp, stdArith] <;> omega
        case hQ =>
        intro X6 a0 w1 hF
        refine ⟨3, ?_, hF⟩
        rw [if_pos hp]
      · skip
        have hp : ¬ (ee = 0 ∧ ok = false) := by
          subst hB
          simp only [std, stdCmp, BE.den] at hb
          clear hF hargs hm hpre S1 hIs
          grind
        refine wp_skip ?_
        refine ⟨ee, ?_, hF⟩
        rw [if_neg hp]
    · rintro ec hec a0 w1 hF
      try dsimp only at hec
      refine wp_seq ?_
      refine wp_seq ?_
      apply region_okB hB T75_ok [30, 0, 7, 8, 9] [0, 1000] [] hF
      case hex => intro A X; conv => lhs; cbv
      case hob =>
        intro X
        subst hB
        simp [AllOb, Ob.holds, BE.den, std, stdCmp, stdArith] <;> omega
      case hQ =>
      intro X7 a0 w1 hF
      refine test_ok hF rfl (fun hb hF => ?_) (fun hb hF => ?_)
      · skip
        have hne : ec ≠ 0 := by subst hB; simpa [std, stdCmp] using hb
        have hg : getG ByteArray.empty v ee q ok (⟨e, s⟩ : RS) = (ByteArray.empty, (⟨ec, q⟩ : RS)) := by
          simp only [getG]; rw [if_neg (by simpa using he)]
          by_cases hp : ee = 0 ∧ ok = false
          · rw [if_pos hp] at hec
            rw [if_neg (by simpa using hp.1), if_neg (by simp [hp.2]), hec]
          · rw [if_neg hp] at hec
            subst hec
            rw [if_pos hne]
        refine wp_seq ?_
        apply region_okB hB T75_ok [7] [0, 1000, 34] [] hF
        case hex => intro A X; conv => lhs; cbv
        case hob =>
          intro X
          subst hB; exact ⟨rfl, trivial⟩
        case hQ =>
        intro X8 a0 w1 hF
        have hfz34 := frozen hF (key := 34) rfl [7] [0, 1000] rfl (fun k1 bk1 hk1 => hF.nodup k1 34 _ _ (keepM_look _ _ hk1) rfl (by rintro rfl; cases hk1)) (fresh_of hF (key := 34) rfl (fun e1 he1 => by
          simp only [List.mem_cons, List.not_mem_nil, or_false] at he1
          rcases he1 with rfl | rfl
          · have hnd := hF.nodup 0 34 _ _ rfl rfl (by decide); exact hnd
          · have hnd := hF.nodup 1000 34 _ _ rfl rfl (by decide); exact hnd)) 1
        replace hF := (hF.keep [7] [0, 1000]).recells 0 rfl [.ptr 1000 bw 0, .opt true 81 (.ep (some ⟨_, 0, none⟩) 0 1 0 [.int .i64 ec])] rfl (fun v1 hv1 => by
          simp only [List.mem_cons, List.not_mem_nil, or_false] at hv1
          rcases hv1 with rfl | rfl
          · exact ⟨rfl, .ptr _ _ _⟩
          · exact ⟨rfl, .opt _ _ _ (fun _ => hfz34)⟩)
        refine wp_seq ?_
        apply region_okB hB T75_ok [6] [0, 1000] [] hF
        case hex => intro A X; conv => lhs; cbv
        case hob =>
          intro X
          subst hB
          simp only [AllOb, Ob.holds, BE.den, List.mem_cons, List.not_mem_nil, or_false, forall_eq_or_imp, forall_eq] <;> (and_intros <;> first | trivial | (intro h; trivial) | rfl | (intro h; rfl))
        case hQ =>
        intro X9 a0 w1 hF
        refine wp_ret ?_
        refine (ret_x (fn := Tryd.f75) T75_ok hF (rs := [.tmp 6]) rfl (rfl) ?_ (⟨0, fun _ => some ⟨(X8 3).b, 0, none⟩, fun _ => 0, fun _ => .empty⟩) [] ?_ ?_ ?_).1
        · subst hB; simp [AllOb, Ob.holds]
        · subst hB; rw [hg]; exact Sim.refl _
        · subst hB; rw [hg]
          exact ⟨rfl, ⟨_, rfl, by unfold errC; rw [decide_eq_true hne]; exact SimL.refl _⟩, rfl, ⟨_, rfl, SimL.refl _⟩, trivial⟩
        · exact trivial
      · skip
        have hze : ec = 0 := by subst hB; simpa [std, stdCmp] using hb
        have hg : getG ByteArray.empty v ee q ok (⟨e, s⟩ : RS) = (v, (⟨0, q⟩ : RS)) := by
          simp only [getG]; rw [if_neg (by simpa using he)]
          by_cases hp : ee = 0 ∧ ok = false
          · rw [if_pos hp] at hec; omega
          · rw [if_neg hp] at hec
            have h0 : ee = 0 := by omega
            have h1 : ok = true := by
              cases ok with
              | true => rfl
              | false => exact absurd ⟨h0, rfl⟩ hp
            rw [if_neg (by simpa using h0), if_pos h1]
        refine wp_skip ?_
        refine wp_seq ?_
        apply region_okB hB T75_ok [6] [0, 1000] [] hF
        case hex => intro A X; conv => lhs; cbv
        case hob =>
          intro X
          subst hB
          simp only [AllOb, Ob.holds, BE.den, List.mem_cons, List.not_mem_nil, or_false, forall_eq_or_imp, forall_eq] <;> (and_intros <;> first | trivial | (intro h; trivial) | rfl | (intro h; rfl))
        case hQ =>
        intro X10 a0 w1 hF
        refine wp_ret ?_
        refine (ret_x (fn := Tryd.f75) T75_ok hF (rs := [.tmp 6]) rfl (rfl) ?_ (⟨0, fun _ => A, fun _ => 0, fun _ => .empty⟩) [] ?_ ?_ ?_).1
        · subst hB; simp [AllOb, Ob.holds]
        · subst hB; rw [hg]; exact Sim.refl _
        · subst hB; rw [hg]
          exact ⟨rfl, ⟨_, rfl, by rw [show errC A 0 = errC A e from by rw [he], heC]; exact SimL.refl _⟩, rfl, ⟨_, rfl, SimL.refl _⟩, trivial⟩
        · exact trivial
theorem get_txt (k0 : Nat) (b bw : Nat) (s : ByteArray) (e : Int) (A : Option Addr) (F : Nat) (cap : List AV) (ok : Bool) (hen : Enters Tryd.prog F) (hIs : Spec Tryd.prog F (.str (txtV s) :: cap) (fun _ => .bool (.v ok))) : SpecX Tryd.prog 75 [.ptr k0 b 0, .fn 76 [.ptr 1000 bw 0] [], .fn F [] cap] [(k0, ⟨b, 71, [.ptr 1000 bw 0, errC A e]⟩), (1000, ⟨bw, 105, [.str s]⟩)] (fun x => ⟨.str ((getG ByteArray.empty (txtV s) (txtE s) (txtR s) ok ⟨e, s⟩).1), [(k0, [.ptr 1000 bw 0, errC (x.A 0) (getG ByteArray.empty (txtV s) (txtE s) (txtR s) ok ⟨e, s⟩).2.e]), (1000, [.str (getG ByteArray.empty (txtV s) (txtE s) (txtR s) ok ⟨e, s⟩).2.s])], []⟩) :=
  (get_txt0 b bw s e A F cap ok hen hIs).re (by repeat (first | exact trivial | refine ⟨Sim.ptr, ?_⟩ | refine ⟨Sim.fn ⟨Sim.ptr, trivial⟩ trivial, ?_⟩ | refine ⟨Sim.fn trivial ⟨Sim.ptr, trivial⟩, ?_⟩ | refine ⟨Sim.refl _, ?_⟩)) rfl (fun x => ⟨rfl, rfl, Sim.refl _, rfl⟩)
def T70 : List (Nat × TI) := [(24, ti24), (27, ti27), (69, ti69), (71, ti71), (81, ti81), (83, ti83)]
theorem T70_ok : TabOK Tryd.prog T70 := .cons t24 (.cons t27 (.cons t69 (.cons t71 (.cons t81 (.cons t83 (.nil))))))
theorem enters70 : Enters Tryd.prog 70 := fun _ _ => by kernel_rfl
theorem get_plc0 (b bw : Nat) (s : ByteArray) (e : Int) (A : Option Addr) (F : Nat) (cap : List AV) (ok : Bool) (hen : Enters Tryd.prog F) (hIs : Spec Tryd.prog F (.agg (keyC (kI (plcV s))) :: cap) (fun _ => .bool (.v ok))) : SpecX Tryd.prog 70 [.ptr 0 b 0, .fn 71 [.ptr 1000 bw 0] [], .fn F [] cap] [(0, ⟨b, 71, [.ptr 1000 bw 0, errC A e]⟩), (1000, ⟨bw, 105, [.str s]⟩)] (fun x => ⟨.agg (keyC (kI ((getG zeroKey (plcV s) (plcE s) (plcR s) ok ⟨e, s⟩).1))), [(0, [.ptr 1000 bw 0, errC (x.A 0) (getG zeroKey (plcV s) (plcE s) (plcR s) ok ⟨e, s⟩).2.e]), (1000, [.str (getG zeroKey (plcV s) (plcE s) (plcR s) ok ⟨e, s⟩).2.s])], []⟩) := by
  intro m w hm hargs hpre
  have S1 := Place_m 1000 bw s
  have hER : plcE s ≠ 0 → plcR s = s := fun h => (by by_cases hn : 20 ≤ s.size; exact absurd (by simp [plcE, hn]) h; simp [plcR, hn])
  obtain ⟨v, hv⟩ : ∃ v, v = plcV s := ⟨_, rfl⟩
  obtain ⟨ee, hee⟩ : ∃ v, v = plcE s := ⟨_, rfl⟩
  obtain ⟨q, hq⟩ : ∃ v, v = plcR s := ⟨_, rfl⟩
  rw [← hv] at S1 hIs ⊢
  rw [← hee] at S1 hER ⊢
  rw [← hq] at S1 hER ⊢
  obtain ⟨K, hK⟩ : ∃ K, K = kI v := ⟨_, rfl⟩
  rw [← hK] at S1 hIs
  have hz : ∃ z, z = decide (e ≠ 0) := ⟨_, rfl⟩
  obtain ⟨z, hz⟩ := hz
  have heC : errC A e = .opt z 81 (.ep A 0 1 0 [.int .i64 e]) := by rw [hz]; rfl
  simp only [heC] at hpre ⊢
  refine enterX hm hpre hargs Tryd.func70 rfl (by simp [Tryd.ntmps70]) fun a0 hF => ?_
  simp only [Tryd.ntmps70, startT] at hF
  obtain ⟨B, hB⟩ : ∃ B, B = std := ⟨_, rfl⟩
  refine wp_seq ?_
  apply region_okB hB T70_ok [0, 1, 2, 6] [0, 1000, 6] [] hF
  case hex => intro A X; conv => lhs; cbv
  case hob =>
    intro X
    subst hB
    simp [AllOb, Ob.holds, BE.den, std, stdCmp, stdArith] <;> omega
  case hQ =>
  intro X0 a0 w1 hF
  refine wp_seq ?_
  apply region_okB hB T70_ok [0, 1, 2, 6, 7] [0, 1000, 6, 7] [] hF
  case hex => intro A X; conv => lhs; cbv
  case hob =>
    intro X
    subst hB
    simp [AllOb, Ob.holds, BE.den, std, stdCmp, stdArith] <;> omega
  case hQ =>
  intro X1 a0 w1 hF
  refine wp_seq ?_
  refine wp_seq ?_
  apply region_okB hB T70_ok [14, 0, 1, 2, 6, 7] [0, 1000, 6, 7] [] hF
  case hex => intro A X; conv => lhs; cbv
  case hob =>
    intro X
    subst hB; exact ⟨rfl, trivial⟩
  case hQ =>
  intro X2 a0 w1 hF
  refine test_ok hF rfl (fun hb hF => ?_) (fun hb hF => ?_)
  · skip
    have he : e ≠ 0 := by
      have : z = true := by subst hB; exact hb
      rw [hz] at this; exact of_decide_eq_true this
    have hg : getG zeroKey v ee q ok (⟨e, s⟩ : RS) = (zeroKey, (⟨e, s⟩ : RS)) := by
      simp only [getG]; rw [if_pos he]
    refine wp_seq ?_
    apply region_okB hB T70_ok [6] [0, 1000, 6] [] hF
    case hex => intro A X; conv => lhs; cbv
    case hob =>
      intro X
      subst hB
      simp only [AllOb, Ob.holds, BE.den, List.mem_cons, List.not_mem_nil, or_false, forall_eq_or_imp, forall_eq] <;> (and_intros <;> first | trivial | (intro h; trivial) | rfl | (intro h; rfl))
    case hQ =>
    intro X3 a0 w1 hF
    refine wp_ret ?_
    refine (ret_x (fn := Tryd.f70) T70_ok hF (rs := [.cell 6 24]) rfl (by conv => lhs; cbv) ?_ (⟨0, fun _ => A, fun _ => 0, fun _ => .empty⟩) [] ?_ ?_ ?_).1
    · subst hB; simp [AllOb, Ob.holds]
    · subst hB; rw [hg]
      show Sim _ (.agg (keyC (kI zeroKey)))
      rw [show kI zeroKey = _ from kI_zero]; exact Sim.refl _
    · subst hB; rw [hg]
      exact ⟨rfl, ⟨_, rfl, by rw [show errC A e = _ from heC]; exact SimL.refl _⟩, rfl, ⟨_, rfl, SimL.refl _⟩, trivial⟩
    · exact trivial
  · skip
    have he : e = 0 := by
      have : z = false := by subst hB; exact hb
      rw [hz] at this; exact Decidable.not_not.1 (of_decide_eq_false this)
    refine wp_skip ?_
    refine wp_seq ?_
    apply region_okB hB T70_ok [0, 2, 6, 7, 8, 9] [0, 1000, 6, 7, 8] [(1, .x fun _ => ⟨.tup [.agg (keyC K), .int .i64 ee], [(1000, [.str q])], []⟩)] hF
    case hex => intro A X; conv => lhs; cbv
    case hob =>
      intro X
      subst hB; exact ⟨⟨enters71, S1⟩, rfl, trivial⟩
    case hQ =>
    intro X4 a0 w1 hF
    refine wp_seq ?_
    refine wp_seq ?_
    apply region_okB hB T70_ok [28, 9, 0, 7, 8, 6] [0, 1000, 6, 7, 8] [(5, .r fun _ => .bool (.v ok))] hF
    case hex => intro A X; conv => lhs; cbv
    case hob =>
      intro X
      subst hB
      simp only [AllOb, Ob.holds, BE.den, List.mem_cons, List.not_mem_nil, or_false, forall_eq_or_imp, forall_eq] <;> (and_intros <;> first | trivial | (intro h; trivial) | exact hen | (intro h; exact hen) | exact hIs | (intro h; exact hIs) | (intro h; exact ⟨hen, hIs⟩) | (intro h; (intro h; exact ⟨hen, hIs⟩)) | rfl | (intro h; rfl))
    case hQ =>
    intro X5 a0 w1 hF
    refine cut_one (ι := Int) (S0 := [(28, _), (9, _)]) (M0 := []) (G0 := []) (fun p => [(9, .int .i64 p)]) (fun p => []) (fun p => []) (fun p => p = if ee = 0 ∧ ok = false then 3 else ee) hF ?_ ?_
    · skip
      refine test_ok hF rfl (fun hb hF => ?_) (fun hb hF => ?_)
      · skip
        have hp : ee = 0 ∧ ok = false := by
          subst hB
          simp only [std, stdCmp, BE.den] at hb
          clear hF hargs hm hpre S1 hIs
          grind
        apply region_okB hB T70_ok [9, 0, 7, 8, 6] [0, 1000, 6, 7, 8] [] hF
        case hex => intro A X; conv => lhs; cbv
        case hob =>
          intro X
          subst hB
          simp [AllOb, Ob.holds, BE.den, std, stdCmp, stdArith] <;> omega
        case hQ =>
        intro X6 a0 w1 hF
        refine ⟨3, ?_, hF⟩
        rw [if_pos hp]
      · skip
        have hp : ¬ (ee = 0 ∧ ok = false) := by
          subst hB
          simp only [std, stdCmp, BE.den] at hb
          clear hF hargs hm hpre S1 hIs
          grind
        refine wp_skip ?_
        refine ⟨ee, ?_, hF⟩
        rw [if_neg hp]
    · rintro ec hec a0 w1 hF
      try dsimp only at hec
      refine wp_seq ?_
      refine wp_seq ?_
      apply region_okB hB T70_ok [30, 0, 6, 7, 8, 9] [0, 1000, 6, 7, 8] [] hF
      case hex => intro A X; conv => lhs; cbv
      case hob =>
        intro X
        subst hB
        simp [AllOb, Ob.holds, BE.den, std, stdCmp, stdArith] <;> omega
      case hQ =>
      intro X7 a0 w1 hF
      refine test_ok hF rfl (fun hb hF => ?_) (fun hb hF => ?_)
      · skip
        have hne : ec ≠ 0 := by subst hB; simpa [std, stdCmp] using hb
        have hg : getG zeroKey v ee q ok (⟨e, s⟩ : RS) = (zeroKey, (⟨ec, q⟩ : RS)) := by
          simp only [getG]; rw [if_neg (by simpa using he)]
          by_cases hp : ee = 0 ∧ ok = false
          · rw [if_pos hp] at hec
            rw [if_neg (by simpa using hp.1), if_neg (by simp [hp.2]), hec]
          · rw [if_neg hp] at hec
            subst hec
            rw [if_pos hne]
        refine wp_seq ?_
        apply region_okB hB T70_ok [7, 6] [0, 1000, 34, 6, 7, 8] [] hF
        case hex => intro A X; conv => lhs; cbv
        case hob =>
          intro X
          subst hB; exact ⟨rfl, trivial⟩
        case hQ =>
        intro X8 a0 w1 hF
        have hfz34 := frozen hF (key := 34) rfl [7, 6] [0, 1000, 6, 7, 8] rfl (fun k1 bk1 hk1 => hF.nodup k1 34 _ _ (keepM_look _ _ hk1) rfl (by rintro rfl; cases hk1)) (fresh_of hF (key := 34) rfl (fun e1 he1 => by
          simp only [List.mem_cons, List.not_mem_nil, or_false] at he1
          rcases he1 with rfl | rfl
          · have hnd := hF.nodup 0 34 _ _ rfl rfl (by decide); exact hnd
          · have hnd := hF.nodup 1000 34 _ _ rfl rfl (by decide); exact hnd)) 1
        replace hF := (hF.keep [7, 6] [0, 1000, 6, 7, 8]).recells 0 rfl [.ptr 1000 bw 0, .opt true 81 (.ep (some ⟨_, 0, none⟩) 0 1 0 [.int .i64 ec])] rfl (fun v1 hv1 => by
          simp only [List.mem_cons, List.not_mem_nil, or_false] at hv1
          rcases hv1 with rfl | rfl
          · exact ⟨rfl, .ptr _ _ _⟩
          · exact ⟨rfl, .opt _ _ _ (fun _ => hfz34)⟩)
        refine wp_seq ?_
        apply region_okB hB T70_ok [6] [0, 1000, 6] [] hF
        case hex => intro A X; conv => lhs; cbv
        case hob =>
          intro X
          subst hB
          simp only [AllOb, Ob.holds, BE.den, List.mem_cons, List.not_mem_nil, or_false, forall_eq_or_imp, forall_eq] <;> (and_intros <;> first | trivial | (intro h; trivial) | rfl | (intro h; rfl))
        case hQ =>
        intro X9 a0 w1 hF
        refine wp_ret ?_
        refine (ret_x (fn := Tryd.f70) T70_ok hF (rs := [.cell 6 24]) rfl (by conv => lhs; cbv) ?_ (⟨0, fun _ => some ⟨(X8 3).b, 0, none⟩, fun _ => 0, fun _ => .empty⟩) [] ?_ ?_ ?_).1
        · subst hB; simp [AllOb, Ob.holds]
        · subst hB; rw [hg]
          show Sim _ (.agg (keyC (kI zeroKey)))
          rw [show kI zeroKey = _ from kI_zero]; exact Sim.refl _
        · subst hB; rw [hg]
          exact ⟨rfl, ⟨_, rfl, by unfold errC; rw [decide_eq_true hne]; exact SimL.refl _⟩, rfl, ⟨_, rfl, SimL.refl _⟩, trivial⟩
        · exact trivial
      · skip
        have hze : ec = 0 := by subst hB; simpa [std, stdCmp] using hb
        have hg : getG zeroKey v ee q ok (⟨e, s⟩ : RS) = (v, (⟨0, q⟩ : RS)) := by
          simp only [getG]; rw [if_neg (by simpa using he)]
          by_cases hp : ee = 0 ∧ ok = false
          · rw [if_pos hp] at hec; omega
          · rw [if_neg hp] at hec
            have h0 : ee = 0 := by omega
            have h1 : ok = true := by
              cases ok with
              | true => rfl
              | false => exact absurd ⟨h0, rfl⟩ hp
            rw [if_neg (by simpa using h0), if_pos h1]
        refine wp_skip ?_
        refine wp_seq ?_
        apply region_okB hB T70_ok [6] [0, 1000, 6] [] hF
        case hex => intro A X; conv => lhs; cbv
        case hob =>
          intro X
          subst hB
          simp only [AllOb, Ob.holds, BE.den, List.mem_cons, List.not_mem_nil, or_false, forall_eq_or_imp, forall_eq] <;> (and_intros <;> first | trivial | (intro h; trivial) | rfl | (intro h; rfl))
        case hQ =>
        intro X10 a0 w1 hF
        refine wp_ret ?_
        refine (ret_x (fn := Tryd.f70) T70_ok hF (rs := [.cell 6 24]) rfl (by conv => lhs; cbv) ?_ (⟨0, fun _ => A, fun _ => 0, fun _ => .empty⟩) [] ?_ ?_ ?_).1
        · subst hB; simp [AllOb, Ob.holds]
        · subst hB; rw [hg]
          show Sim _ (.agg (keyC (kI v)))
          rw [← hK]; exact Sim.refl _
        · subst hB; rw [hg]
          exact ⟨rfl, ⟨_, rfl, by rw [show errC A 0 = errC A e from by rw [he], heC]; exact SimL.refl _⟩, rfl, ⟨_, rfl, SimL.refl _⟩, trivial⟩
        · exact trivial
theorem get_plc (k0 : Nat) (b bw : Nat) (s : ByteArray) (e : Int) (A : Option Addr) (F : Nat) (cap : List AV) (ok : Bool) (hen : Enters Tryd.prog F) (hIs : Spec Tryd.prog F (.agg (keyC (kI (plcV s))) :: cap) (fun _ => .bool (.v ok))) : SpecX Tryd.prog 70 [.ptr k0 b 0, .fn 71 [.ptr 1000 bw 0] [], .fn F [] cap] [(k0, ⟨b, 71, [.ptr 1000 bw 0, errC A e]⟩), (1000, ⟨bw, 105, [.str s]⟩)] (fun x => ⟨.agg (keyC (kI ((getG zeroKey (plcV s) (plcE s) (plcR s) ok ⟨e, s⟩).1))), [(k0, [.ptr 1000 bw 0, errC (x.A 0) (getG zeroKey (plcV s) (plcE s) (plcR s) ok ⟨e, s⟩).2.e]), (1000, [.str (getG zeroKey (plcV s) (plcE s) (plcR s) ok ⟨e, s⟩).2.s])], []⟩) :=
  (get_plc0 b bw s e A F cap ok hen hIs).re (by repeat (first | exact trivial | refine ⟨Sim.ptr, ?_⟩ | refine ⟨Sim.fn ⟨Sim.ptr, trivial⟩ trivial, ?_⟩ | refine ⟨Sim.fn trivial ⟨Sim.ptr, trivial⟩, ?_⟩ | refine ⟨Sim.refl _, ?_⟩)) rfl (fun x => ⟨rfl, rfl, Sim.refl _, rfl⟩)
end Go.Proofs.YtkamdppnnhjajaaDoor.Sym
