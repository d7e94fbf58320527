/-
  The symbolic executor: what one operation does to a state, and that it is so. Over any program. Conditions: none.
-/
import Derived.Test.YtkamdppnnhjajaaSymApp
namespace Go.Proofs.Ytkamdppnnhjajaa.Sym
open Go.RowKit
set_option linter.unusedVariables false
set_option linter.unusedSimpArgs false

/-- what an operation picks as it goes: a new block's number, the addresses and capacities of what a call hands back -/
structure Atom where
  b : Nat
  A : Nat → Option Addr
  c : Nat → Nat
  s : Nat → ByteArray
/-- the functions on numbers, bools and texts, as a variable (so that they stay as they are while a region is run) -/
structure Alg where
  arith : BinOp → IntKind → Int → Int → Int
  cmp : BinOp → Int → Int → Bool
  scmp : BinOp → ByteArray → ByteArray → Bool
  bcmp : BinOp → Bool → Bool → Bool
  aeq : List AV → List AV → Bool
  not : Bool → Bool
  ite : Bool → Bool → Bool → Bool
  conv : IntKind → Int → Int
  toNat : Int → Nat
  ofNat : Nat → Int
  slen : ByteArray → Nat
  cat : ByteArray → ByteArray → ByteArray
  shift : BinOp → IntKind → Int → Int → Int
  div : BinOp → IntKind → Int → Int → Int
  nadd : Nat → Nat → Nat
  nsub : Nat → Nat → Nat
  adr : Option Addr → Nat → Nat → Nat → Option Addr
  app : Nat → (Nat → List AV) → (Nat → List AV) → Nat → List AV
  from_ : Nat → (Nat → List AV) → Nat → List AV
  ssub : ByteArray → Nat → Nat → ByteArray
  sat : ByteArray → Nat → Int
  bstr : Nat → (Nat → List AV) → ByteArray
/-- what a call gives: a value, the blocks that it changed (by key), those that it made -/
structure CR where
  v : AV
  sets : List (Nat × List AV)
  news : List (Nat × Blk)
inductive CS where
  | r (f : Atom → AV)
  | x (f : Atom → CR)
def eqC : AV → AV → Bool
  | .int _ x, .int _ y => x == y
  | .bool x, .bool y => x.den == y.den
  | .str x, .str y => x == y
  | _, _ => false
def eqL : List AV → List AV → Bool
  | x :: l, y :: r => eqC x y && eqL l r
  | _, _ => true
def stdArith : BinOp → IntKind → Int → Int → Int
  | .add, k, x, y => k.wrap (x + y)
  | .sub, k, x, y => k.wrap (x - y)
  | .mul, k, x, y => k.wrap (x * y)
  | .and, k, x, y => k.wrap (BitVec.ofInt k.bits x &&& BitVec.ofInt k.bits y).toNat
  | .or, k, x, y => k.wrap (BitVec.ofInt k.bits x ||| BitVec.ofInt k.bits y).toNat
  | .xor, k, x, y => k.wrap (BitVec.ofInt k.bits x ^^^ BitVec.ofInt k.bits y).toNat
  | .andNot, k, x, y => k.wrap (BitVec.ofInt k.bits x &&& ~~~BitVec.ofInt k.bits y).toNat
  | _, _, _, _ => 0
def stdCmp : BinOp → Int → Int → Bool
  | .eql, x, y => x == y
  | .neq, x, y => x != y
  | .lss, x, y => decide (x < y)
  | .leq, x, y => decide (x ≤ y)
  | .gtr, x, y => decide (x > y)
  | .geq, x, y => decide (x ≥ y)
  | _, _, _ => false
def stdScmp : BinOp → ByteArray → ByteArray → Bool
  | .eql, x, y => x.toList == y.toList
  | .neq, x, y => !(x.toList == y.toList)
  | .lss, x, y => Op.bytesLess x.toList y.toList
  | .leq, x, y => Op.bytesLess x.toList y.toList || x.toList == y.toList
  | .gtr, x, y => !(Op.bytesLess x.toList y.toList || x.toList == y.toList)
  | .geq, x, y => !Op.bytesLess x.toList y.toList
  | _, _, _ => false
def stdShift : BinOp → IntKind → Int → Int → Int
  | .shl, k, x, y => k.wrap (x * 2 ^ (min y.toNat k.bits))
  | _, k, x, y => x.fdiv (2 ^ (min y.toNat k.bits))
def stdDiv : BinOp → IntKind → Int → Int → Int
  | .quo, k, x, y => k.wrap (x.tdiv y)
  | _, _, x, y => x.tmod y
/-- the address of a slice's rest behind l elements of k cells; c: the capacity that it had -/
def adrOf (A : Option Addr) (c l k : Nat) : Option Addr := if c = l then A else A.map (·.add (l * k))
def fromC (l : Nat) (f : Nat → List AV) : Nat → List AV := fun i => f (l + i)
def chunk (k : Nat) (cs : List AV) (i : Nat) : List AV := (cs.drop (i * k)).take k
def byteAt : List AV → UInt8
  | [.int _ x] => UInt8.ofNat x.toNat
  | _ => 0
/-- a text of bytes that lie in a row -/
def rowStr (n : Nat) (cells : Nat → List AV) : ByteArray := (List.range n).foldl (fun s i => s.push (byteAt (cells i))) .empty
def std : Alg where
  arith := stdArith
  cmp := stdCmp
  scmp := stdScmp
  bcmp := fun op x y => match op with | .eql => x == y | _ => !(x == y)
  aeq := eqL
  not := fun x => !x
  ite := fun c x y => if c then x else y
  conv := fun k x => k.wrap x
  toNat := Int.toNat
  ofNat := fun n => (n : Int)
  slen := ByteArray.size
  cat := fun x y => x ++ y
  shift := stdShift
  div := stdDiv
  nadd := fun x y => x + y
  nsub := fun x y => x - y
  adr := adrOf
  app := appC
  from_ := fromC
  ssub := fun s l h => s.extract l h
  sat := fun s i => ((s[i]?.getD 0).toNat : Int)
  bstr := rowStr

/-- what is known of a type -/
structure TI where
  size : Nat
  agg : Bool
  zero : List AV
  fields : List (Nat × Nat × Bool)
  elem : Option (Nat × Nat)
  str : Bool
  bool : Bool
  ebytes : Nat
  int : Option IntKind
  ptr : Bool
  itf : Bool
  bytes : Bool
def lookT : List (Nat × TI) → Nat → Option TI
  | [], _ => none
  | (k, v) :: l, n => if k == n then some v else lookT l n
structure TyOK (P : Program) (t : Nat) (i : TI) : Prop where
  size : ∀ w, (sizeOf t).run P w = .ok i.size w
  agg : ∀ w, (isAgg t).run P w = .ok i.agg w
  zero : ∃ z : Value, (∀ w, (zeroValue t).run P w = .ok z w) ∧ z.cells = (i.zero.map AV.den).toArray ∧ (∀ v ∈ i.zero, v.one = true ∧ ∀ m w, Ok m w v)
  fields : ∀ (f : Nat) (x : Nat × Nat × Bool), i.fields[f]? = some x → ∃ fs, P.underlying t = some (.struct fs) ∧ ∃ fd : Field, fs[f]? = some fd ∧ fd.offset = x.1 ∧ (∀ w, (sizeOf fd.type).run P w = .ok x.2.1 w) ∧ x.2.1 ≠ 0 ∧ ∀ w, (isAgg fd.type).run P w = .ok x.2.2 w
  places : i.fields.isEmpty = false → ∃ (fs : Array Field) (places : Array (Nat × Nat)), P.underlying t = some (.struct fs) ∧ (∀ w, (fs.mapM fun f => do pure (f.offset, ← sizeOf f.type) : Sem (Array (Nat × Nat))).run P w = .ok places w) ∧ ∀ (f : Nat) (x : Nat × Nat × Bool), i.fields[f]? = some x → places[f]? = some (x.1, x.2.1)
  elem : ∀ e k, i.elem = some (e, k) → P.underlying t = some (.slice e) ∧ ∀ w, (sizeOf e).run P w = .ok k w
  str : i.str = true → P.underlying t = some .string
  bool : i.bool = true → P.underlying t = some .bool
  elty : ∀ e k, i.elem = some (e, k) → i.ebytes ≠ 0 → ∃ z, ElemTy P t e k i.ebytes z
  int : ∀ k, i.int = some k → P.underlying t = some (.int k)
  ptr : i.ptr = true → ∃ e, P.underlying t = some (.pointer e)
  itf : i.itf = true → ∃ ms, P.underlying t = some (.interface ms)
  conc : i.itf = false → ∃ d, P.underlying t = some d ∧ ∀ ms, d ≠ .interface ms
  bytes : i.bytes = true → ∃ e, P.underlying t = some (.slice e) ∧ P.underlying e = some (.int .u8)
def TabOK (P : Program) (T : List (Nat × TI)) : Prop := ∀ e ∈ T, TyOK P e.1 e.2
theorem lookT_ok {P : Program} {T : List (Nat × TI)} (h : TabOK P T) {t : Nat} {i : TI} (hl : lookT T t = some i) : TyOK P t i := by
  have : (t, i) ∈ T := by
    clear h
    induction T with
    | nil => simp [lookT] at hl
    | cons x l ih =>
      obtain ⟨k, v⟩ := x
      simp only [lookT] at hl
      split at hl
      · rename_i hk; simp at hk hl; subst hk; subst hl; simp
      · exact List.mem_cons_of_mem _ (ih hl)
  exact h _ this

/-- what is owed beside -/
inductive Ob where
  | eqN (a b : Nat)
  | idx (i : Int) (n : Nat)
  | sli (lo hi : Int) (n : Nat)
  | ne0 (x : Int)
  | nn (x : Int)
  | cat (x y : ByteArray)
  | eqT (t : Gr) (A : Option Addr) (n c : Nat)
  | room (n b : Nat)
  | eql (t : Nat) (x y : List AV)
  | sl3 (lo hi mx : Int) (n c : Nat)
  | bytes (n : Nat) (cells : Nat → List AV)
  | call (f : Nat) (args : List AV) (res : Atom → AV)
  | callX (f : Nat) (args : List AV) (pre : List (Nat × Blk)) (res : Atom → CR)
  | und (c : List (BE × Bool)) (o : Ob)
def Spec (P : Program) (f : FuncId) (args : List AV) (res : Atom → AV) : Prop :=
  ∀ (m : Nat → Nat → Prop) (w : World), (∀ b o, m b o → b < w.heap.size) → (∀ v ∈ args, Ok m w v) →
    Calls P f (args.map AV.den).toArray w fun e w' => ∃ x, e = .returned (res x).den ∧ Ok m w' (res x) ∧ Below w.heap.size w w'
def XPost (m : Nat → Nat → Prop) (w : World) (pre : List (Nat × Blk)) (res : Atom → CR) (e : Ending) (w' : World) : Prop :=
  ∃ x, e = .returned (res x).v.den ∧ Ok (mN m (res x).news) w' (res x).v ∧ Left m w w' pre (res x).sets (res x).news
def SpecX (P : Program) (f : FuncId) (args : List AV) (pre : List (Nat × Blk)) (res : Atom → CR) : Prop :=
  ∀ (m : Nat → Nat → Prop) (w : World), (∀ b o, m b o → b < w.heap.size) → (∀ v ∈ args, Ok m w v) → PreOk m w pre → Calls P f (args.map AV.den).toArray w (XPost m w pre res)
def Enters (P : Program) (f : FuncId) : Prop := ∀ args w, (callFunc f args).run P w = .ok (.enter f args) w
def Ob.holds (P : Program) : Ob → Prop
  | .eqN a b => a = b
  | .idx i n => 0 ≤ i ∧ i < (n : Int)
  | .sli lo hi n => 0 ≤ lo ∧ lo ≤ hi ∧ hi ≤ (n : Int)
  | .ne0 x => x ≠ 0
  | .nn x => 0 ≤ x
  | .cat x y => x.size + y.size ≤ maxLen
  | .eqT t A n c => t.A = A ∧ t.n = n ∧ t.c = c
  | .room n b => n ≤ maxLen ∧ n * b ≤ 140737488355328
  | .eql t x y => ∀ (w : World) (o1 o2 : Operand),
      (do eqGuard .eql t o1 o2 (.agg (x.map AV.den).toArray) (.agg (y.map AV.den).toArray); binOp .eql t (.agg (x.map AV.den).toArray) (.agg (y.map AV.den).toArray)).run P w = .ok (.bool (eqL x y)) w ∧
      (do eqGuard .neq t o1 o2 (.agg (x.map AV.den).toArray) (.agg (y.map AV.den).toArray); binOp .neq t (.agg (x.map AV.den).toArray) (.agg (y.map AV.den).toArray)).run P w = .ok (.bool (!eqL x y)) w
  | .sl3 lo hi mx n c => 0 ≤ lo ∧ lo ≤ hi ∧ hi ≤ mx ∧ mx ≤ (c : Int) ∧ hi ≤ (n : Int)
  | .bytes n cells => ∀ i, i < n → ∃ x, cells i = [.int .u8 x]
  | .call f args res => Enters P f ∧ Spec P f args res
  | .callX f args pre res => Enters P f ∧ SpecX P f args pre res
  | .und c o => (∀ e ∈ c, e.1.den = e.2) → o.holds P

def ofVal : Value → AV
  | .int k n => .int k n
  | .bool true => .bool .tt
  | .bool false => .bool .ff
  | .string s => if s.size ≤ 65536 then .str s else .undef
  | .pointer none => .nilp
  | .nilIface => .nili
  | .slice none 0 0 => .sl none none 0 0 0 (fun _ => [])
  | v => .raw v
def val (s : St) (q : List (Nat × Bool)) : Operand → AV
  | .tmp t => match lookG s.gs t with
    | some (p, v) => if subP p q then v else .undef
    | none => look s.tmps t
  | .const v => ofVal v
  | .func f => .fn f [] []
  | .global _ => .undef
def isCmp : BinOp → Bool
  | .eql | .neq | .lss | .leq | .gtr | .geq => true
  | _ => false
def isArith : BinOp → Bool
  | .add | .sub | .mul | .and | .or | .xor | .andNot => true
  | _ => false
def stepBin (A : Alg) (T : List (Nat × TI)) (op : BinOp) (t : Nat) : AV → AV → Option (AV × Eff × List Ob)
  | .int k x, .int k' y => if op = .shl ∨ op = .shr then some (.int k (A.shift op k x y), .no, [.nn y]) else if k = k' then (if op = .quo ∨ op = .rem then some (.int k (A.div op k x y), .no, [.ne0 y]) else if isCmp op then some (.bool (.v (A.cmp op x y)), .no, []) else if isArith op then some (.int k (A.arith op k x y), .no, []) else none) else none
  | .str x, .str y => if op = .add then some (.str (A.cat x y), .no, [.cat x y]) else if isCmp op then some (.bool (.v (A.scmp op x y)), .no, []) else none
  | .bool x, .bool y => match op, lookT T t with
    | .eql, some ti => if ti.bool then some (.bool (.v (A.bcmp .eql x.den y.den)), .no, []) else none
    | .neq, some ti => if ti.bool then some (.bool (.v (A.bcmp .neq x.den y.den)), .no, []) else none
    | _, _ => none
  | .ptr _ _ _, .nilp => match op, lookT T t with
    | .eql, some ti => if ti.ptr then some (.bool .ff, .no, []) else none
    | .neq, some ti => if ti.ptr then some (.bool .tt, .no, []) else none
    | _, _ => none
  | .nilp, .nilp => match op, lookT T t with
    | .eql, some ti => if ti.ptr then some (.bool .tt, .no, []) else none
    | .neq, some ti => if ti.ptr then some (.bool .ff, .no, []) else none
    | _, _ => none
  | .ifc _ _, .nili => match op, lookT T t with
    | .eql, some ti => if ti.itf then some (.bool .ff, .no, []) else none
    | .neq, some ti => if ti.itf then some (.bool .tt, .no, []) else none
    | _, _ => none
  | .agg x, .agg y => match op with
    | .eql => some (.bool (.v (A.aeq x y)), .no, [.eql t x y])
    | .neq => some (.bool (.v (A.not (A.aeq x y))), .no, [.eql t x y])
    | _ => none
  | _, _ => none
def pick (A : Alg) : BE → AV → AV → Option AV
  | .tt, a, _ => if a.known then some a else none
  | .ff, _, b => if b.known then some b else none
  | .v c, .bool a, .bool b => some (.bool (.v (A.ite c a.den b.den)))
  | _, _, _ => none
def cut (cells : List AV) (off : Nat) (n : Nat) (agg : Bool) : Option AV :=
  if agg then (if off + n ≤ cells.length then some (.agg ((cells.drop off).take n)) else none) else cells[off]?
def lookC : List (Nat × CS) → Nat → Option CS
  | [], _ => none
  | (k, v) :: l, n => if k == n then some v else lookC l n
def isAggV : AV → Bool
  | .agg _ => true
  | _ => false
def fillAV (fields : List (Nat × Nat × Bool)) (cells : List AV) : List (Nat × AV) → Option (List AV)
  | [] => some cells
  | (f, v) :: rest => match fields[f]? with
    | none => none
    | some (off, n, _) => if v.cells.length = n ∧ off + n ≤ cells.length ∧ (v.one || isAggV v) = true then fillAV fields (cells.take off ++ v.cells ++ cells.drop (off + n)) rest else none
def vals (s : St) (q : List (Nat × Bool)) : List Operand → Option (List AV)
  | [] => some []
  | x :: l => if (val s q x).known then (vals s q l).map ((val s q x) :: ·) else none
def valsP (s : St) (q : List (Nat × Bool)) : List (Nat × Operand) → Option (List (Nat × AV))
  | [] => some []
  | (i, x) :: l => if (val s q x).known then (valsP s q l).map ((i, val s q x) :: ·) else none
def isNilS : Operand → Bool
  | .const (.slice none 0 0) => true
  | _ => false
def isNilL : AV → Bool
  | .sl none none 0 0 _ _ => true
  | _ => false
def places (k : Nat) : Nat → Nat → List (Nat × Nat × Bool)
  | _, 0 => []
  | off, n + 1 => (off, k, false) :: places k (off + k) n
def replL (z : List AV) : Nat → List AV
  | 0 => []
  | n + 1 => z ++ replL z n
def preOf (s : St) : List (Nat × List AV) → Option (List (Nat × Blk))
  | [] => some []
  | (k, _) :: l => match lookM s.mem k, preOf s l with
    | some b, some r => some ((k, b) :: r)
    | _, _ => none
def nodupB : List (Nat × Blk) → Bool
  | [] => true
  | (k, _) :: l => l.all (fun y => !(y.1 == k)) && nodupB l
def stepCall (s : St) (x : Atom) : AV → Option CS → Option (List AV) → Option (AV × Eff × List Ob)
  | .fn f l r, some (.r res), some a => some (res x, .no, [.call f (l ++ a ++ r) res])
  | .fn f l r, some (.x res), some a => match preOf s (res x).sets with
    | some pre => if nodupB pre then some ((res x).v, .sets (upd pre (res x).sets ++ (res x).news), [.callX f (l ++ a ++ r) pre res]) else none
    | none => none
  | _, _, _ => none
def isNilC : Operand → Bool
  | .const .nilIface => true
  | _ => false
/-- two nil interfaces: one of them must be the literal one -/
def stepNil (T : List (Nat × TI)) (op : BinOp) (t : Nat) (b : Operand) : Option (AV × Eff × List Ob) :=
  if isNilC b then (match op, lookT T t with
    | .eql, some ti => if ti.itf then some (.bool .tt, .no, []) else none
    | .neq, some ti => if ti.itf then some (.bool .ff, .no, []) else none
    | _, _ => none) else none
def isNili : AV → Bool
  | .nili => true
  | _ => false
def bound (A : Alg) (s : St) (q : List (Nat × Bool)) (dflt : Int) : Option Operand → Option Int
  | none => some dflt
  | some o => match val s q o with
    | .int _ j => some j
    | _ => none
def stepAppend (A : Alg) (T : List (Nat × TI)) (x : Atom) (s : St) (d t1 : Nat) (v1 v2 : AV) : Option (AV × Eff × List Ob) :=
  match v1, v2, lookT T t1 with
  | .sl g A1 n c k cells, .sl _ A2 n' c' k' cells', some ti => match ti.elem with
    | some (e, ek) => if k' = ek ∧ ti.ebytes ≠ 0 then
        (match g with
          | some key => match lookM s.gr key with
            | some t => if k = ek ∧ t.k = ek ∧ t.e = e then some (.sl (some key) (x.A 0) (A.nadd n n') (x.c 0) ek (A.app n cells cells'), .grow key ⟨x.A 0, A.nadd n n', x.c 0, ek, e⟩, [.eqT t A1 n c, .room (A.nadd n n') ti.ebytes]) else none
            | none => none
          | none => if isNilL v1 then some (.sl (some d) (x.A 0) n' (x.c 0) ek cells', .grow d ⟨x.A 0, n', x.c 0, ek, e⟩, [.room n' ti.ebytes]) else none)
        else none
    | none => none
  | _, _, _ => none
/-- what an operation gives, what it does to memory, and what is owed -/
def step (A : Alg) (T : List (Nat × TI)) (cs : List (Nat × CS)) (x : Atom) (i : Nat) (s : St) (q : List (Nat × Bool)) (d ty : Nat) : Op → Option (AV × Eff × List Ob)
  | .move o => if (val s q o).known then some (val s q o, .no, []) else none
  | .makeFunc fn first cap => match vals s q first.toList, vals s q cap.toList with
    | some l, some r => match fn with
      | .func f => some (.fn f l r, .no, [])
      | _ => none
    | _, _ => none
  | .makeInterface t o => match lookT T t with
    | some ti => if ti.itf then none else if (val s q o).known then some (.ifc t (val s q o), .no, []) else none
    | none => none
  | .nilCheck o => match val s q o with
    | .ptr k b off => some (.ptr k b off, .no, [])
    | .fn f l r => some (.fn f l r, .no, [])
    | _ => none
  | .assign o => if isNilS o then (match lookT T ty with
      | some ti => match ti.elem with
        | some (e, k) => if k = 0 then none else some (.sl (some d) none 0 0 k (fun _ => []), .grow d ⟨none, 0, 0, k, e⟩, [])
        | none => none
      | none => none) else if (val s q o).known then some (val s q o, .no, []) else none
  | .pick (.tmp c) a b => match val s q (.tmp c) with
    | .bool e => (pick A e (val s ((c, true) :: q) a) (val s ((c, false) :: q) b)).map fun v => (v, .no, [])
    | _ => none
  | .alloc t => match lookT T t with
    | some ti => some (.ptr d x.b 0, .new d ⟨x.b, t, ti.zero⟩, [])
    | none => none
  | .box t o => if (val s q o).one || isAggV (val s q o) then some (.ptr d x.b 0, .new d ⟨x.b, t, (val s q o).cells⟩, []) else none
  | .build t parts => match lookT T t, valsP s q parts.toList with
    | some ti, some l => if ti.fields.isEmpty then none else (fillAV ti.fields ti.zero l).map fun cs => (.agg cs, .no, [])
    | _, _ => none
  | .buildSlice t n parts => match lookT T t, valsP s q parts.toList with
    | some ti, some l => match ti.elem with
      | some (e, k) => match lookT T e with
        | some te => if n * k = 0 ∨ te.zero.length ≠ k ∨ ¬ n * k ≤ 4096 then none else (fillAV (places k 0 n) (replL te.zero n) l).map fun cs => if q.isEmpty then (.sl (some d) (some ⟨x.b, 0, none⟩) n n k (chunk k cs), .grow d ⟨some ⟨x.b, 0, none⟩, n, n, k, e⟩, []) else (.sl none (some ⟨x.b, 0, none⟩) n n k (chunk k cs), .no, [])
        | none => none
      | none => none
    | _, _ => none
  | .load t p => match val s q p, lookT T t with
    | .ptr key b off, some ti => match lookM s.mem key with
      | some blk => (cut blk.cells off ti.size ti.agg).map fun v => (v, .no, [.eqN blk.at_ b])
      | none => none
    | .ep _ _ _ off cells, some ti => (cut cells off ti.size ti.agg).map fun v => (v, .no, [])
    | _, _ => none
  | .store t p o => match val s q p, lookT T t with
    | .ptr key b off, some ti => match lookM s.mem key with
      | some blk => if (val s q o).cells.length = ti.size ∧ off + ti.size ≤ blk.cells.length ∧ ((val s q o).one || isAggV (val s q o)) = true then
          some (.undef, .set key ⟨blk.at_, blk.ty, blk.cells.take off ++ (val s q o).cells ++ blk.cells.drop (off + ti.size)⟩, [.eqN blk.at_ b]) else none
      | none => none
    | _, _ => none
  | .fieldAddr t p f => match val s q p, lookT T t with
    | .ptr key b off, some ti => (ti.fields[f]?).map fun y => (.ptr key b (off + y.1), .no, [])
    | .ep A' j k off cells, some ti => (ti.fields[f]?).map fun y => (.ep A' j k (off + y.1) cells, .no, [])
    | _, _ => none
  | .field t o f => match val s q o, lookT T t with
    | .agg l, some ti => match ti.fields[f]? with
      | some (off, n, agg) => (cut l off n agg).map fun v => (v, .no, [])
      | none => none
    | _, _ => none
  | .indexAddr t p ix => match val s q p, val s q ix, lookT T t with
    | .sl _ A' n c k cells, .int _ j, some ti => match ti.elem with
      | some (_, ek) => if ek = k then some (.ep A' (A.toNat j) k 0 (cells (A.toNat j)), .no, [.idx j n]) else none
      | none => none
    | _, _, _ => none
  | .index t p ix => match val s q p, val s q ix, lookT T t with
    | .str y, .int _ j, some ti => if ti.str then some (.int .u8 (A.sat y (A.toNat j)), .no, [.idx j (A.slen y)]) else none
    | _, _, _ => none
  | .slice t p lo hi none => match val s q p, lookT T t with
    | .str y, some ti => match bound A s q 0 lo, bound A s q (A.ofNat (A.slen y)) hi with
      | some l, some h => if ti.str then some (.str (A.ssub y (A.toNat l) (A.toNat h)), .no, [.sli l h (A.slen y)]) else none
      | _, _ => none
    | .sl _ A1 n c k cells, some ti => match ti.elem with
      | some (_, ek) => if ek = k then (match bound A s q 0 lo, bound A s q (A.ofNat n) hi with
        | some l, some h => some (.sl none (A.adr A1 c (A.toNat l) k) (A.nsub (A.toNat h) (A.toNat l)) (A.nsub c (A.toNat l)) k (A.from_ (A.toNat l) cells), .no, [.sli l h n])
        | _, _ => none) else none
      | none => none
    | _, _ => none
  | .extract o n => match val s q o with
    | .tup l => (l[n]?).map fun v => (v, .no, [])
    | _ => none
  | .slice t p lo hi (some mx) => match val s q p, lookT T t with
    | .sl _ A1 n c k cells, some ti => match ti.elem with
      | some (_, ek) => if ek = k then (match bound A s q 0 lo, hi, bound A s q 0 hi, bound A s q 0 (some mx) with
        | some l, some _, some h, some m => some (.sl none (A.adr A1 (A.toNat m) (A.toNat l) k) (A.nsub (A.toNat h) (A.toNat l)) (A.nsub (A.toNat m) (A.toNat l)) k (A.from_ (A.toNat l) cells), .no, [.sl3 l h m n c])
        | _, _, _, _ => none) else none
      | none => none
    | _, _ => none
  | .binOp op t a b _ => if isNili (val s q a) then stepNil T op t b else stepBin A T op t (val s q a) (val s q b)
  | .convert t t' o => match val s q o, lookT T t, lookT T t' with
    | .int _ j, some ti, some ti' => match ti.int, ti'.int with
      | some _, some k => some (.int k (A.conv k j), .no, [])
      | _, _ => none
    | .sl _ _ n _ k cells, some ti, some ti' => if ti.bytes && ti'.str && k == 1 then some (.str (A.bstr n cells), .no, [.bytes n cells]) else none
    | _, _, _ => none
  | .unOp op _ a => match op, val s q a with
    | .not, .bool .tt => some (.bool .ff, .no, [])
    | .not, .bool .ff => some (.bool .tt, .no, [])
    | .not, .bool (.v b) => some (.bool (.v (A.not b)), .no, [])
    | _, _ => none
  | .call c => match c.callee with
    | .builtin .len => match c.args.toList, c.argTypes.toList with
      | [o], [t] => match val s q o, lookT T t with
        | .str x, some ti => if ti.str then some (.int .i64 (A.ofNat (A.slen x)), .no, []) else none
        | .sl _ _ n _ _ _, some ti => match ti.elem with
          | some _ => some (.int .i64 (A.ofNat n), .no, [])
          | none => none
        | _, _ => none
      | _, _ => none
    | .builtin .append => match c.args.toList, c.argTypes.toList with
      | [o1, o2], [t1, t2] => if t1 = t2 then stepAppend A T x s d t1 (val s q o1) (val s q o2) else none
      | _, _ => none
    | .value o => stepCall s x (val s q o) (lookC cs i) (vals s q c.args.toList)
    | _ => none
  | _ => none
end Go.Proofs.Ytkamdppnnhjajaa.Sym
