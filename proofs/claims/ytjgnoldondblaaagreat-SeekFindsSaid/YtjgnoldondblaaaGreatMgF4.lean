/-
  SymRcv, SymNx0, OpenS25, OpenI, OpenC, PlSeek, PlEr, PlWok, ItClone, SymShP, SymShQ, SymShD, SortGen, CmpBase, LaySort, SortBase, CmpRow, SortRow, SymSrt, SymRow0, SymShR, SymRSh3, SymLw0, PlGood, PlRun, SymSk1, SymSk2, SymStl, SymSk3, SymSk4, SymNx1, SymNx2, SymNx3, SymSk5, PlSeekOk, SymRun26, SymEx26, SymL26F: put together by a program of mine (a claim may have 60 files at most). Conditions: none.
-/
import Derived.WalkKit
import Derived.WalkLawsBesides
import Derived.WalkSpells
import Derived.Lib.Hide
import Derived.Deep.QuietTactic
import Derived.BigQuiet
import Derived.Deep.LoopGhost
import Derived.Deep.DeepCutAuto
import Derived.Deep.RegionLaw
import Derived.Lib.Overlaps
import Derived.Laws.CopyOwn
import Derived.IntWalk
import Derived.ProofKit
import Derived.OpenShut
import Derived.ShutString
import Derived.ChangeOld
import Derived.Deep.Slices
import Derived.Test.YtjgnoldondblaaaGreatProg
import Derived.Orders
import Derived.OrdersHeld
import Derived.Defers
import Derived.Recover
import Derived.Lib.BitFns
import Derived.ChangeKeysEq
import Derived.Test.YtjgnoldondblaaaGreatChecked
import Derived.Lib.BufferWrite
import Derived.Maps.OwnSet
import Derived.Maps.RangeWalk
import Derived.Maps.Ext
import Derived.DeepKeys4
import Derived.LoopN
import Derived.Shelf.SlSortCmp.WholeK
import Derived.Shelf.SlSortCmp.NoneTotal
import Derived.Deep.RegionHeld3
import Derived.Ground.SlsfProg
import Derived.Shelf.SlGeneric
import Derived.Test.YtjgnoldondblaaaGreatMgF1
import Derived.Test.YtjgnoldondblaaaGreatMgF2
import Derived.Test.YtjgnoldondblaaaGreatMgF3
set_option linter.unusedVariables false
set_option linter.unusedSimpArgs false
set_option maxRecDepth 100000
set_option maxHeartbeats 1600000
namespace Go.Proofs.YtjgnoldondblaaaGreat.Sym
open Go.RowKit
theorem Sim.of_eq {v v':AV} (h:v=v'):Sim v v':=h ▸ Sim.refl v
inductive Rcv:FrameMode → FrameMode → AV → Prop
 | no:Rcv .returning .returning .nili
 | yes (t:Nat) (v:AV):Rcv (.panicking [{ v:=.iface t v.den,recovered:=false }]) (.panicking [{ v:=.iface t v.den,recovered:=true }]) (.ifc t v)
def SpecU (P:Program) (f:FuncId) (u u':FrameMode) (x:AV) (args:List AV) (pre:List (Nat × Blk)) (res:Atom → CR):Prop:=
 ∀ (m:Nat → Nat → Prop) (w:World),(∀ b o,m b o → b < w.heap.size) → (∀ v ∈ args,Ok m w v) → PreOk m w pre → Ok m w x → CallsD P f (args.map AV.den).toArray u w fun e um w' => um=u' ∧ XPost m w pre res e w'
section
variable {P:Program}
theorem body_mono {fn:Func} {c₀:Frame} {cs:List Frame} {U:FrameMode} {R:Ending → World → Prop} {e:Exit} {a:Act} {w:World} (h:bodyPost P fn R e a w):bodyPostS P fn c₀ cs (fun e u w => u=U ∧ R e w) e a ({ c₀ with mode:=U } :: cs) w:=by
 cases e with
 | normal => obtain ⟨h1,v,h2,h3⟩:=h; exact ⟨h1,U,rfl,v,h2,rfl,h3⟩
 | ret => obtain ⟨h1,v,h2,h3⟩:=h; exact ⟨h1,U,rfl,v,h2,rfl,h3⟩
 | panic ch => obtain ⟨h1,h2⟩:=h; exact ⟨h1,U,rfl,rfl,h2⟩
 | outgrown => exact ⟨U,rfl,h⟩
 | exit id => exact h.elim
 | goto l => exact h.elim
theorem enterRec {u u':FrameMode} {x:AV} (hr:Rcv u u' x) {m:Nat → Nat → Prop} {w:World} {pre:List (Nat × Blk)} (hm:∀ b o,m b o → b < w.heap.size) (hp:PreOk m w pre) {args:List AV} (hargs:∀ v ∈ args,Ok m w v) (hx:Ok m w x) {f:FuncId} {fn:Func} {id:Nat} {o:Oper} {rest after:Code} {ts:Array TypeId} {d:Nat} {R:Ending → World → Prop}
  (hf:P.funcs[f]? = some fn) {ops:Array Oper} (hbd:fn.body=some (.seq (.seq (.region id ops false) rest) after)) (hops:ops = #[o]) (ho:o.op = .call (Call.mk (.builtin .recover) #[] ts)) (hg:o.guard=none) (hd:o.dst=some d) (hn:args.length ≤ fn.ntmps) (hdn:d < fn.ntmps)
  (h:∀ a,Fits ⟨m,w,ats pre,[],noK⟩ (St.put ⟨fn.ntmps,startT 0 args,[],pre,[]⟩ (some d) x) a w → rest.wp P (Exit.then (after.wp P (bodyPost P fn R)) (bodyPost P fn R)) a w):CallsD P f (args.map AV.den).toArray u w fun e um w' => um=u' ∧ R e w':=by
 subst hops
 refine callsD_of_wpS hf hbd fun c₀ cs hu => ?_
 apply wpS_seq
 apply wpS_seq
 apply wpS_region
 have h0:=enterFits hm hp hargs hn
 have mono:Ok (St.m ⟨fn.ntmps,startT 0 args,[],pre,[]⟩ ⟨m,w,ats pre,[],noK⟩) w x:=hx.mono fun b' o u h1 h2 => ⟨h1,fun h => by
  rcases h with h | ⟨k,e,he,hat⟩ | ⟨k,e,he,_⟩
  ·exact h2 h
  ·exact h2 (hat ▸ hp.free _ (lookM_mem he) o)
  cases he⟩
 have h1:=h0.put (some d) (fun t ht => by injection ht with ht; subst ht; exact hdn) x (fun _ => mono) x.den (fun _ => rfl)
 have h2:=h _ h1
 have hrun:∀ a:Act,(execOp a.eval o).run P w = .ok .recover w:=by
  intro a
  simp [execOp,ho,resolve,invoke,builtin]
 have hrg:List.range (#[o]:Array Oper).size=[0]:=rfl
 rw [hrg]
 have hw:∀ tm:Array Value,Region.wanted o (yielded #[o] tm)=true:=by intro tm; simp [Region.wanted,hg]
 have fin1:∀ a w,after.wp P (bodyPost P fn R) a w → after.wpS P (bodyPostS P fn c₀ cs (fun e um w' => um=u' ∧ R e w')) a ({ c₀ with mode:=u' } :: cs) w:=fun a w ha => wpS_of_wp (Code.wp_mono (fun e a w hb => body_mono hb) ha)
 have fin:∀ a,rest.wp P (Exit.then (after.wp P (bodyPost P fn R)) (bodyPost P fn R)) a w → rest.wpS P (Exit.thenS (after.wpS P (bodyPostS P fn c₀ cs (fun e um w' => um=u' ∧ R e w'))) (bodyPostS P fn c₀ cs (fun e um w' => um=u' ∧ R e w'))) a ({ c₀ with mode:=u' } :: cs) w:=fun a ha => wpS_of_wp (Code.wp_mono (fun e a w hb => by
  cases e with
  | normal => exact fin1 a w hb
  | ret => exact body_mono (P:=P) (fn:=fn) (c₀:=c₀) (cs:=cs) (a:=a) (w:=w) (U:=u') (R:=R) (e:=.ret) hb
  | panic ch => exact body_mono (P:=P) (fn:=fn) (c₀:=c₀) (cs:=cs) (a:=a) (w:=w) (U:=u') (R:=R) (e:=.panic ch) hb
  | outgrown => exact body_mono (P:=P) (fn:=fn) (c₀:=c₀) (cs:=cs) (a:=a) (w:=w) (U:=u') (R:=R) (e:=.outgrown) hb
  | exit id => exact body_mono (P:=P) (fn:=fn) (c₀:=c₀) (cs:=cs) (a:=a) (w:=w) (U:=u') (R:=R) (e:=.exit id) hb
  | goto l => exact body_mono (P:=P) (fn:=fn) (c₀:=c₀) (cs:=cs) (a:=a) (w:=w) (U:=u') (R:=R) (e:=.goto l) hb) ha)
 have hsz:(args.map AV.den).toArray.size=args.length:=by simp
 have hact:({ tmps:=(args.map AV.den).toArray ++ Array.replicate (fn.ntmps - (args.map AV.den).toArray.size) undef,defers:=[] }:Act) = { tmps:=(args.map AV.den).toArray ++ Array.replicate (fn.ntmps - args.length) undef,defers:=[] }:=by rw [hsz]
 rw [hact]
 cases hr with
 | no =>
  have hrec:recoverD (c₀ :: cs)=none:=by simp [recoverD,hu]
  have hc:({ c₀ with mode:=.returning }:Frame)=c₀:=by rw [← hu]
  have:=fin _ h2
  rw [hc] at this
  simpa [wpOpsS,hw,hrun,hrec,hd,Exit.thenS,AV.den] using this
 | yes t v =>
  have hrec:recoverD (c₀ :: cs)=some (.iface t v.den,{ c₀ with mode:=.panicking [{ v:=.iface t v.den,recovered:=true }] } :: cs):=by simp [recoverD,hu]
  have:=fin _ h2
  simpa [wpOpsS,hw,hrun,hrec,hd,Exit.thenS,AV.den] using this
variable {C:Cx}
theorem leave_u {s:St} {a:Act} {w:World} {fn:Func} {R:Ending → World → Prop} {u u1:FrameMode} {f:FuncId} {l r:List AV} {ds:List Deferred} {x:AV} (h:Fits ⟨C.m0,C.w0,C.S,{ target:=.fn (.func f) (AV.denL r).toArray,args:=(AV.denL l).toArray } :: ds,C.K⟩ s a w) (hu:u ≠ .run) (hen:Enters P f)
  {pre:List (Nat × Blk)} {sets:List (Nat × List AV)} {v:AV} (hsp:SpecU P f u u1 x (l ++ r) pre (fun _ => ⟨v,sets,[]⟩)) (hok:∀ v ∈ l ++ r,Ok (s.m C) w v) (hx:Ok (s.m C) w x) (hpre:∀ e ∈ pre,lookM s.mem e.1=some e.2) (hnd:nodupB pre=true)
  (K:∀ w',Fits ⟨C.m0,C.w0,C.S,ds,C.K⟩ (s.eff (.sets (upd pre sets))) { tmps:=a.tmps,defers:=ds } w' → Leaves P fn a.tmps R ds (settle u1) w'):Leaves P fn a.tmps R a.defers u w:=by
 have hlt:∀ b o,s.m C b o → b < w.heap.size:=m_lt (C:=⟨C.m0,C.w0,C.S,{ target:=.fn (.func f) (AV.denL r).toArray,args:=(AV.denL l).toArray } :: ds,C.K⟩) h
 refine leave_step h hu hen hpre hnd (fun hp => (hsp (s.m C) w hlt hok hp hx).mono ?_) K
 rintro e u' w' ⟨rfl,x,rfl,_,hl⟩
 exact ⟨⟨_,rfl⟩,rfl,hl⟩
end
section
variable {C:Cx} {P:Program} {Q:Exit → Act → World → Prop} {ops:Array Oper}
theorem man_tassert {s:St} {a:Act} {w:World} {L rest:List Oper} {o:Oper} {x:Operand} {ti t d:Nat} {v:AV} {dd:TypeDesc} (hL:L=o :: rest) (hg:o.guard=none) (hop:o.op = .typeAssert x ti t true) (hdst:o.dst=some d) (h:Fits C s a w) (hd:d < s.nt) (hx:val s [] x = .ifc t v) (hu:P.underlying t=some dd) (hni:∀ ms,dd ≠ .interface ms)
  (K:∀ a',Fits C (s.put (some d) (.tup [v,.bool .tt])) a' w → wpList P ops Q rest a' w):wpList P ops Q L a w:=by
 have hxv:=val_ok h (q:=[]) (fun _ h => by cases h) (x:=x) (by rw [hx]; rfl)
 rw [hx] at hxv
 have hok:Ok (s.m C) w v:=by cases hxv.2 with | ifc _ _ h => exact h
 refine man_val hL hg hdst h hd (v:=.tup [v,.bool .tt]) ?_ (.tup _ (fun y hy => ?_)) K
 ·have e:a.eval x = .iface t v.den:=hxv.1
  simp only [execOp,hop,e,AV.den,AV.denL,BE.den]
  cases dd<;>first | exact absurd rfl (hni _) | simp [Instr.typeAssert,run_underlying hu]
 simp only [List.mem_cons,List.not_mem_nil,or_false] at hy
 rcases hy with rfl | rfl
 ·exact hok
 exact .bool _
end
end Go.Proofs.YtjgnoldondblaaaGreat.Sym
namespace Go.Proofs.YtjgnoldondblaaaGreat.Sym
open Go Go.RowKit
def btw (v lo hi:Int):Bool:=decide (lo ≤ v) && decide (v ≤ hi)
def isJobB (J:JobA):Bool:=btw J.bucket 1 16 && btw J.budget 0 2000 && btw J.how 1 2 && btw J.most 0 500 && decide ((J.pn:Int) ≤ 500) && isL J.lab
def isGotB (g:GotA):Bool:=(decide (g.code=0) || decide (g.code=8)) && (if g.has=true then isRF g.x.r.kd g.x.r.n g.x.r.f g.x.r.nx g.x.r.mrk else decide (g.x.r.kd=0) && decide (g.x.r.n=0) && decide (g.x.r.nx=⟨0,0⟩) && decide (g.x.r.mrk=0))
def allGot (n:Nat) (f:Nat → GotA):Bool:=(List.range n).all fun j => isGotB (f j)
theorem allGot_no {n j:Nat} {f:Nat → GotA} (hj:j < n) (h:isGotB (f j)=false):allGot n f=false:=by
 rw [Bool.eq_false_iff]
 intro h2
 have:=List.all_eq_true.1 h2 j (List.mem_range.2 hj)
 rw [h] at this; cases this
theorem allGot_yes {n:Nat} {f:Nat → GotA} (h:∀ j,j < n → isGotB (f j)=true):allGot n f=true:=List.all_eq_true.2 fun j hj => h j (List.mem_range.1 hj)
theorem allGot_at {n j:Nat} {f:Nat → GotA} (h:allGot n f=true) (hj:j < n):isGotB (f j)=true:=List.all_eq_true.1 h j (List.mem_range.2 hj)
structure InG (g:GotA):Prop where
 nx:U64 g.x.r.nx.bits
 ver:U64 g.ver
 len:g.x.r.n ≤ maxLen
 key:∀ i,i < g.x.r.n → U64 (g.x.r.f i).key
theorem got_ok {g:GotA} (h:InG g) (hg:isGotB g=true):GotOk g:=by
 refine ⟨⟨h.nx,h.key,?_⟩,h.ver⟩
 unfold isGotB at hg
 rw [Bool.and_eq_true] at hg
 obtain ⟨_,h2⟩:=hg
 by_cases hh:g.has=true
 ·rw [if_pos hh] at h2
  exact (isRF_kind h2).2.2.1
 rw [if_neg hh] at h2
 simp only [Bool.and_eq_true,decide_eq_true_eq] at h2
 omega
abbrev gotsV (A:Option Addr) (n c:Nat) (f:Nat → GotA):AV:=.sl none A n c 8 (fun j => gotC (f j))
def nt0:Nt:=⟨11,false,⟨#[]⟩⟩
def pst0 (n:Nat) (f:Nat → GotA):Pst:=⟨n,f,nt0⟩
def JobA.less (J:JobA) (n:Nat):JobA:={ J with budget:=J.budget - n }
structure JobIn (J:JobA):Prop where
 lab:U64 J.lab.bits
 key:U64 J.key
 hi:U64 J.hi
theorem job_ok {J:JobA} {n:Nat} (hJ:JobIn J) (h:isJobB J=true) (hn:n ≤ 900000):JobOk (J.less n):=by
 unfold isJobB btw at h
 simp only [Bool.and_eq_true,decide_eq_true_eq] at h
 refine ⟨?_,?_,hJ.lab,hJ.key,hJ.hi⟩
 ·show -1000000 ≤ J.budget - n; omega
 show J.budget - n ≤ 1000000; omega
theorem got_r {g:GotA} (hg:isGotB g=true):GotR g:=by
 unfold isGotB at hg
 simp only [Bool.and_eq_true,Bool.or_eq_true,decide_eq_true_eq] at hg
 obtain ⟨h1,h2⟩:=hg
 refine ⟨h1,fun hh => ?_,fun hh => ?_⟩
 ·rw [if_pos hh] at h2; exact h2
 rw [if_neg (by rw [hh]; decide)] at h2
 simp only [Bool.and_eq_true,decide_eq_true_eq] at h2
 exact ⟨h2.1.1.1,h2.1.1.2,h2.1.2,h2.2⟩
theorem pst_ok {n:Nat} {f:Nat → GotA} (hin:∀ j,j < n → InG (f j)) (h:allGot n f=true):PstOk (pst0 n f):=fun j hj => ⟨got_ok (hin j hj) (allGot_at h hj),got_r (allGot_at h hj)⟩
abbrev rslV (x:Atom) (r:Rsl):AV:=.agg [.int .i64 r.code,.bool (.v r.had),.str r.val,.sl none (x.A 2) r.items.length (x.c 2) 2 (fun i => itC (itF r.items i)),.int .u64 r.key,.bool (.v r.more)]
abbrev rslZ (r:Rsl):AV:=.agg [.int .i64 r.code,.bool (.v r.had),.str r.val,.sl none none 0 0 2 (fun _ => []),.int .u64 r.key,.bool (.v r.more)]
def RunA (f:FuncId) (k0 b:Nat) (J:JobA) (A:Option Addr) (c:Nat) (p:Pst) (args:List AV) (r:Rs Rsl):Prop:=
 SpecT Tryz.prog f (.ptr k0 b 0 :: args) [(k0,⟨b,148,runC J A c p⟩)] (fun x => match r with
  | .ok a p => .ret ⟨rslV x a,[(k0,runC J (x.A 0) (x.c 0) p)],[]⟩
  | .stop w p => .thr 85 (wntV (wqA x w)) [(k0,runC J (x.A 0) (x.c 0) p)])
theorem RunS.a {f:FuncId} {k0 b:Nat} {J:JobA} {A:Option Addr} {c:Nat} {p:Pst} {args:List AV} {r:Rs Rsl} (h:RunS f k0 b J A c p args rslZ r) (hr:∀ a q,r = .ok a q → a.items=[]):RunA f k0 b J A c p args r:=by
 intro m w h1 h2 h3
 refine (h m w h1 h2 h3).mono ?_
 rintro e w' ⟨x,hx⟩
 cases r with
 | stop wq q => exact ⟨x,hx⟩
 | ok a q =>
  refine ⟨⟨x.b,fun i => if i=2 then none else x.A i,fun i => if i=2 then 0 else x.c i,x.s⟩,?_⟩
  have hi:=hr a q rfl
  obtain ⟨he,hok,hl⟩:=hx
  have hs:Sim (rslZ a) (rslV ⟨x.b,fun i => if i=2 then none else x.A i,fun i => if i=2 then 0 else x.c i,x.s⟩ a):=by
   obtain ⟨c1,h1,v1,it,k1,m1⟩:=a
   simp only at hi
   subst hi
   exact Sim.agg ⟨zr,zr,zr,zq0,zr,zr,trivial⟩
  exact ⟨by rw [he]; exact congrArg _ hs.1,hs.2.2 _ _ hok,hl⟩
theorem RunA.ok {f:FuncId} {k0 b:Nat} {J:JobA} {A:Option Addr} {c:Nat} {p q:Pst} {args:List AV} {r:Rs Rsl} {a:Rsl} (h:RunA f k0 b J A c p args r) (e:r = .ok a q) :
  SpecT Tryz.prog f (.ptr k0 b 0 :: args) [(k0,⟨b,148,runC J A c p⟩)] (fun x => .ret ⟨rslV x a,[(k0,runC J (x.A 0) (x.c 0) q)],[]⟩):=by
 subst e; exact h
theorem RunA.stop {f:FuncId} {k0 b:Nat} {J:JobA} {A:Option Addr} {c:Nat} {p q:Pst} {args:List AV} {r:Rs Rsl} {w:Wq} (h:RunA f k0 b J A c p args r) (e:r = .stop w q) :
  SpecT Tryz.prog f (.ptr k0 b 0 :: args) [(k0,⟨b,148,runC J A c p⟩)] (fun x => .thr 85 (wntV (wqA x w)) [(k0,runC J (x.A 0) (x.c 0) q)]):=by
 subst e; exact h
theorem m_sub {s s':St} {C C':Cx} (h0:∀ b o,C'.m0 b o → C.m0 b o) (h:∀ x ∈ s'.mem,∃ k' e',lookM s.mem k'=some e' ∧ e'.at_=x.2.at_) (hg:s'.gr=[]) {b o:Nat} (hh:s'.m C' b o):s.m C b o:=by
 rcases hh with hh | ⟨k,e,he,hat⟩ | ⟨k,t,ht,_⟩
 ·exact .inl (h0 b o hh)
 ·obtain ⟨k',e',h1,h2⟩:=h _ (lookM_mem he)
  exact .inr (.inl ⟨k',e',h1,h2.trans hat⟩)
 rw [hg] at ht; cases ht
theorem RunA.ok' {f:FuncId} {k0 b:Nat} {J:JobA} {A:Option Addr} {c:Nat} {p q:Pst} {args:List AV} {r:Rs Rsl} {a:Rsl} (h:RunA f k0 b J A c p args r) (e:r = .ok a q) {nn:Nat} {ff:Nat → Itm} (h1:nn=a.items.length) (h2:ff=itF a.items) :
  SpecT Tryz.prog f (.ptr k0 b 0 :: args) [(k0,⟨b,148,runC J A c p⟩)] (fun x => .ret ⟨.agg [.int .i64 a.code,.bool (.v a.had),.str a.val,.sl none (x.A 2) nn (x.c 2) 2 (fun i => itC (ff i)),.int .u64 a.key,.bool (.v a.more)],[(k0,runC J (x.A 0) (x.c 0) q)],[]⟩):=by
 subst h1; subst h2; exact h.ok e
def nextR (ok:Bool) (r:Rs Rsl):Wq × Int:=if ok=true then toldM r else (zWq,1)
abbrev wqB (x:Atom) (w:Wq) (rr:RN) (nn:Nat) (ff:Nat → Itm):WntA:=⟨w.kind,w.lab,w.ver,⟨x.A 1,x.c 1,rr⟩,⟨w.res.code,w.res.had,w.res.val,x.A 2,nn,x.c 2,ff,w.res.key,w.res.more⟩⟩
theorem Spec.wq {P:Program} {f:Nat} {args:List AV} {r:Wq × Int} (h:Spec P f args (fun x => .tup [wntV (wqA x r.1),.int .i64 r.2])) {w:Wq} {e:Int} {rr:RN} {nn:Nat} {ff:Nat → Itm} (h1:w=r.1) (h2:e=r.2) (h3:rr=w.r.rn) (h4:nn=w.res.items.length) (h5:ff=itF w.res.items) :
  Spec P f args (fun x => .tup [wntV (wqB x w rr nn ff),.int .i64 e]):=by
 subst h1; subst h2; subst h3; subst h4; subst h5; exact h
end Go.Proofs.YtjgnoldondblaaaGreat.Sym
namespace Go.Proofs.YtjgnoldondblaaaGreat.Sym
open Go Go.ChangeShapes Go.WideShapes Go.ChangeAt Go.RowKit Go.Deep
def OkL (w:World) (l:List AV):Prop:=∀ v ∈ l,v.one=true ∧ Ok m0 w v
theorem OkL.nil {w:World}:OkL w []:=fun v hv => by cases hv
theorem OkL.cons {w:World} {v:AV} {l:List AV} (h1:v.one=true) (h2:Ok m0 w v) (h:OkL w l):OkL w (v :: l):=by
 intro u hu
 rcases List.mem_cons.1 hu with rfl | hu
 ·exact ⟨h1,h2⟩
 exact h u hu
theorem OkL.int {w:World} {k:IntKind} {x:Int} {l:List AV} (h:OkL w l):OkL w (.int k x :: l):=.cons rfl (.int _ _) h
theorem OkL.bool {w:World} {b:BE} {l:List AV} (h:OkL w l):OkL w (.bool b :: l):=.cons rfl (.bool _) h
theorem OkL.append {w:World} {l l':List AV} (h:OkL w l) (h':OkL w l'):OkL w (l ++ l'):=by
 intro u hu
 rcases List.mem_append.1 hu with hu | hu
 ·exact h u hu
 exact h' u hu
theorem OkL.agg {w:World} {l:List AV} (h:OkL w l):Ok m0 w (.agg l):=.agg _ (fun v hv => (h v hv).1) fun v hv => (h v hv).2
theorem LabOk.u64 {l:Lab} (h:LabOk l):U64 l.bits:=u64_wf h.2
theorem rows_okg {α : Type} [Inhabited α] {k:Nat} {cells:α → List AV} {w:World} {A:Option Addr} {c:Nat} {l:List α} (hk:∀ x,(cells x).length=k) (hl:l.length ≤ c) (hc:c ≤ maxLen) (ho:∀ x ∈ l,OkL w (cells x))
  (h:0 < (l.flatMap fun x => (cells x).map AV.den).length → ∃ b off,A=some ⟨b,off,none⟩ ∧ ∀ j u,(l.flatMap fun x => (cells x).map AV.den)[j]? = some u → w.cell? ⟨b,off + j,none⟩=some u) (hk0:0 < k):Ok m0 w (.sl none A l.length c k (fun i => cells (l.getD i default))):=by
 have hg:∀ i (hi:i < l.length),l.getD i default=l[i]:=fun i hi => by simp [List.getD,hi]
 have hkm:∀ x,((cells x).map AV.den).length=k:=fun x => by rw [List.length_map,hk]
 have hpos:∀ i,i < l.length → 0 < (l.flatMap fun x => (cells x).map AV.den).length:=fun i hi => by rw [flat_length hkm]; exact Nat.mul_pos (by omega) hk0
 refine .sl _ _ _ _ _ _ hl hc (fun i _ => hk _) (fun i hi => ?_) (fun i hi j u hu => ?_) (fun i hi v hv => ?_) (fun i hi v hv => ?_)
 ·obtain ⟨b,off,hA,_⟩:=h (hpos i hi); exact ⟨b,off,hA⟩
 ·obtain ⟨b,off,hA,hcl⟩:=h (hpos i hi)
  rw [hg i hi] at hu
  exact ⟨b,off,hA,hcl _ u (flat_get hkm (List.getElem?_eq_getElem hi) hu),id⟩
 ·rw [hg i hi] at hv; exact (ho _ (List.getElem_mem hi) v hv).1
 rw [hg i hi] at hv; exact (ho _ (List.getElem_mem hi) v hv).2
section
variable {H:Type} {enc:TypeId × Value → H} {w:World} {base:Nat} {spare:Nat → Bool} {held:Bool}
theorem dec_its (n:Nat) (cs:List Value) (y:DataW H × List MemPlace) (h:DataW.trod enc Tryz.prog w base spare held n 22 cs=some y):∃ (A:Option Addr) (c k:Nat) (f:Nat → Itm),cs=[(AV.sl none A k c 2 (fun i => itC (f i))).den] ∧ Ok m0 w (.sl none A k c 2 (fun i => itC (f i))) ∧ k ≤ maxLen ∧ ∀ i,i < k → U64 (f i).key:=by
 obtain ⟨A,c,l,e1,hr,hl,hm,hwf⟩:=trod_list (en:=itmE) Tryz.underlying22 (k:=2) (by kernel_rfl) itmE_len (by decide) dec_itm h
 have hrow:Ok m0 w (rowI A l.length c (itF l)):=rows_ok hl hm (fun x hx => (hwf x hx).1) fun hp => by
  obtain ⟨b,off,hA,_,hc⟩:=hr hp
  exact ⟨b,off,hA,fun j u hu => ⟨hc j u hu,id⟩⟩
 exact ⟨A,c,l.length,itF l,e1,hrow,by omega,fun i hi => by simp only [itF,List.getD,List.getElem?_eq_getElem hi]; exact (hwf _ (List.getElem_mem hi)).2⟩
theorem dec_int1 (n:Nat) (cs:List Value) (y:DataW H × List MemPlace) (h:DataW.trod enc Tryz.prog w base spare held n 3 cs=some y):∃ x:Int,cs=[Value.int .i64 x] ∧ True:=by
 obtain ⟨a,e0,_,_⟩:=DataW.trod_int Tryz.underlying3 h
 exact ⟨a,e0,trivial⟩
theorem dec_ints (n:Nat) (cs:List Value) (y:DataW H × List MemPlace) (h:DataW.trod enc Tryz.prog w base spare held n 42 cs=some y):∃ (A:Option Addr) (c k:Nat) (f:Nat → Int),cs=[(AV.sl none A k c 1 (fun i => [.int .i64 (f i)])).den] ∧ Ok m0 w (.sl none A k c 1 (fun i => [.int .i64 (f i)])):=by
 obtain ⟨A,c,l,e1,hr,hl,hm,hwf⟩:=trod_list (en:=fun x:Int => [Value.int .i64 x]) Tryz.underlying42 (k:=1) (by kernel_rfl) (fun _ => rfl) (by decide) dec_int1 h
 have hrow:Ok m0 w (.sl none A l.length c 1 (fun i => [.int .i64 (l.getD i default)])):=rows_okg (cells:=fun x:Int => [AV.int .i64 x]) (fun _ => rfl) hl hm (fun x _ => .int .nil) (fun hp => by
  obtain ⟨b,off,hA,_,hc⟩:=hr hp
  exact ⟨b,off,hA,fun j u hu => hc j u hu⟩) (by decide)
 exact ⟨A,c,l.length,fun i => l.getD i default,e1,hrow⟩
variable {r:Reach} {b0:Nat} {v:Value} {d:DataW H} {p:List MemPlace}
instance inhGot25 : Inhabited GotA := ⟨zGot⟩
instance inhRow25 : Inhabited RowA := ⟨zRow⟩
end
def InI (w:World) (v:Value):Prop:=∃ n:Int,v = .int .i64 n ∧ (Lit.int .i64 n).wf=true
theorem in_i {H:Type} {enc:TypeId × Value → H} {w:World} {base:Nat} {spare:Nat → Bool} {held:Bool} {r:Reach} {b0:Nat} {v:Value} {d:DataW H} {p:List MemPlace} (hv:Value.okWide Tryz.prog w r b0 3 v) (h:DataW.Trod enc Tryz.prog w base spare held 3 v d p):InI w v:=by
 obtain ⟨n,rfl,hw⟩:=in_int Tryz.underlying3 hv h
 exact ⟨n,rfl,hw⟩
def InIts (w:World) (v:Value):Prop:=∃ (A:Option Addr) (n c:Nat) (f:Nat → Itm),v=(rowI A n c f).den ∧ Ok m0 w (rowI A n c f) ∧ n ≤ maxLen ∧ ∀ i,i < n → U64 (f i).key
def InInts (w:World) (v:Value):Prop:=∃ (A:Option Addr) (n c:Nat) (f:Nat → Int),v=(AV.sl none A n c 1 (fun i => [.int .i64 (f i)])).den ∧ Ok m0 w (.sl none A n c 1 (fun i => [.int .i64 (f i)]))
section
variable {H:Type} {enc:TypeId × Value → H} {w:World} {base:Nat} {spare:Nat → Bool} {held:Bool} {r:Reach} {b0:Nat} {v:Value} {d:DataW H} {p:List MemPlace}
theorem in_its (hv:Value.okWide Tryz.prog w r b0 22 v) (h:DataW.Trod enc Tryz.prog w base spare held 22 v d p):InIts w v:=by
 obtain ⟨a,len,cap,rfl⟩:=okWide_slice Tryz.underlying22 hv
 obtain ⟨fuel,hf⟩:=h
 obtain ⟨A,c,k,f,e1,hr,hm,hk⟩:=dec_its _ _ _ hf
 simp only [Value.cells,List.cons.injEq,and_true] at e1
 rw [e1]
 exact ⟨A,k,c,f,rfl,hr,hm,hk⟩
theorem in_ints (hv:Value.okWide Tryz.prog w r b0 42 v) (h:DataW.Trod enc Tryz.prog w base spare held 42 v d p):InInts w v:=by
 obtain ⟨a,len,cap,rfl⟩:=okWide_slice Tryz.underlying42 hv
 obtain ⟨fuel,hf⟩:=h
 obtain ⟨A,c,k,f,e1,hr⟩:=dec_ints _ _ _ hf
 simp only [Value.cells,List.cons.injEq,and_true] at e1
 rw [e1]
 exact ⟨A,k,c,f,rfl,hr⟩
end
end Go.Proofs.YtjgnoldondblaaaGreat.Sym
namespace Go.Proofs.YtjgnoldondblaaaGreat.Sym
open Go Go.RowKit
def ofE (n:Int):Int:=if n < 0 ∨ 64 < n then 1 else 0
def ofV (key n:Int):Lab:=if n < 0 ∨ 64 < n then ⟨0,0⟩ else ⟨n,(headN key.toNat n.toNat:Nat)⟩
theorem ofV_u {key:Int} (hk:U64 key) (n:Int):U64 (ofV key n).bits:=by
 unfold ofV
 split
 ·exact ⟨by decide,by decide⟩
 exact headN_u hk _
theorem ofV_isL {key:Int} (n:Int):isL (ofV key n)=true:=by
 unfold ofV
 split
 ·decide
 rename_i h
 rw [isL_iff]
 refine ⟨⟨by show 0 ≤ n; omega,by show n ≤ 64; omega⟩,?_⟩
 show ((headN ((headN key.toNat n.toNat:Nat):Int).toNat n.toNat:Nat):Int)=_
 rw [Int.toNat_natCast,headN_head]
abbrev rootL:Lab:=⟨0,0⟩
structure Spt where
 lab:Lab
 g:GotA
def leafR:Rec:=⟨1,[],noneL,0⟩
def linM (bk k key:Int):Nat → Lab → Pst → Rs Spt
 | 0,_,p => .stop zWq p
 | n + 1,l,p => (getM k l p).bind fun g p =>
   if gk g 1=true then .ok ⟨l,g⟩ p
   else if (gk g 3 || gk g 4)=true then (fnsM bk k n l g p).bind fun _ p => linM bk k key n l p
   else if (gk g 2 && decide (l.len < 64))=true then linM bk k key n (ofV key (l.len + 1)) p
   else if gk g 5=true then (thwM bk k n l p).bind fun _ p => linM bk k key n rootL p
   else if (!g.has && decide (l=rootL))=true then (casM k rootL g.ver leafR p).bind fun _ p => linM bk k key n rootL p
   else linM bk k key n rootL p
def lftM (bk k:Int) (n:Nat) (l:Lab) (p:Pst):Rs Bool:=
 if parE l=0 then (getM k (parV l) p).bind fun q p => if (gk q 2 || gk q 3 || gk q 4)=true then (thwM bk k n l p).bind fun _ p => .ok false p else .ok true p else .ok true p
def binM (bk k key:Int):Nat → Int → Int → Pst → Rs Spt
 | 0,_,_,p => .stop zWq p
 | n + 1,lo,hi,p =>
   if lo ≤ hi then (getM k (ofV key ((lo + hi) / 2)) p).bind fun g p =>
    if gk g 1=true then .ok ⟨ofV key ((lo + hi) / 2),g⟩ p
    else if gk g 2=true then binM bk k key n ((lo + hi) / 2 + 1) hi p
    else if (gk g 3 || gk g 4)=true then (fnsM bk k n (ofV key ((lo + hi) / 2)) g p).bind fun _ p => binM bk k key n lo hi p
    else if gk g 5=true then (lftM bk k n (ofV key ((lo + hi) / 2)) p).bind fun b p => if b=true then binM bk k key n lo ((lo + hi) / 2 - 1) p else binM bk k key n lo hi p
    else binM bk k key n lo ((lo + hi) / 2 - 1) p
   else linM bk k key (n + 1) rootL p
def sekM (bk k how key:Int) (n:Nat) (p:Pst):Rs Spt:=if how=1 then linM bk k key n rootL p else binM bk k key n 0 64 p
def finI (x:RA) (key:Int):Int:=idxF (fun t => decide ((x.r.f t).key=key)) x.r.n
def finB (x:RA) (key:Int):Bool:=decide (0 ≤ finI x key)
def finV (x:RA) (key:Int):ByteArray:=if 0 ≤ finI x key then (x.r.f (finI x key).toNat).val else ⟨#[]⟩
def lokM (bk k how key:Int) (n:Nat) (p:Pst):Rs Rsl:=(sekM bk k how key n p).bind fun s p => .ok ⟨0,finB s.g.x key,finV s.g.x key,[],0,false⟩ p
theorem fro_lin (bk k key:Int):∀ n l p,Fro p (linM bk k key n l p)
 | 0,l,p => fro_stop _ _
 | n + 1,l,p => (fro_get _ _ _).bind fun _ _ _ => fro_ite (fro_ok _ _) (fro_ite ((fro_fns _ _ _ _ _ _).bind fun _ _ _ => fro_lin bk k key n _ _) (fro_ite (fro_lin bk k key n _ _) (fro_ite ((fro_thw _ _ _ _ _).bind fun _ _ _ => fro_lin bk k key n _ _) (fro_ite ((fro_cas _ _ _ _ _).bind fun _ _ _ => fro_lin bk k key n _ _) (fro_lin bk k key n _ _)))))
theorem fro_lft (bk k:Int) (n:Nat) (l:Lab) (p:Pst):Fro p (lftM bk k n l p):=
 fro_ite ((fro_get _ _ _).bind fun _ _ _ => fro_ite ((fro_thw _ _ _ _ _).bind fun _ _ _ => fro_ok _ _) (fro_ok _ _)) (fro_ok _ _)
theorem fro_bin (bk k key:Int):∀ n lo hi p,Fro p (binM bk k key n lo hi p)
 | 0,lo,hi,p => fro_stop _ _
 | n + 1,lo,hi,p => fro_ite ((fro_get _ _ _).bind fun _ _ _ => fro_ite (fro_ok _ _) (fro_ite (fro_bin bk k key n _ _ _) (fro_ite ((fro_fns _ _ _ _ _ _).bind fun _ _ _ => fro_bin bk k key n _ _ _) (fro_ite ((fro_lft _ _ _ _ _).bind fun _ _ _ => fro_ite (fro_bin bk k key n _ _ _) (fro_bin bk k key n _ _ _)) (fro_bin bk k key n _ _ _))))) (fro_lin _ _ _ _ _ _)
theorem fro_sek (bk k how key:Int) (n:Nat) (p:Pst):Fro p (sekM bk k how key n p):=fro_ite (fro_lin _ _ _ _ _ _) (fro_bin _ _ _ _ _ _ _)
structure SptOk (s:Spt):Prop where
 ok:GotOk s.g
 r:GotR s.g
 leaf:gk s.g 1=true
 lab:isL s.lab=true ∧ U64 s.lab.bits
theorem lin_ok {bk k key:Int} (hk:U64 key):∀ {n:Nat} {l:Lab} {p q:Pst} {s:Spt},PstOk p → (isL l=true ∧ U64 l.bits) → linM bk k key n l p = .ok s q → SptOk s
 | 0,l,p,q,s,_,_,h => by cases h
 | n + 1,l,p,q,s,hp,hl,h => by
  have hz:isL rootL=true ∧ U64 rootL.bits:=⟨by decide,by decide,by decide⟩
  unfold linM at h
  cases h1:getM k l p with
  | stop w p1 => rw [h1] at h; cases h
  | ok g p1 =>
   rw [h1] at h
   have hp1:=hp.suf ((fro_get k l p).of h1)
   simp only [Rs.bind] at h
   split at h
   ·rename_i hg
    injection h with h _
    subst h
    exact ⟨hp.get h1,hp.getR h1,hg,hl⟩
   split at h
   ·cases h2:fnsM bk k n l g p1 with
    | stop w p2 => rw [h2] at h; cases h
    | ok u p2 => rw [h2] at h; exact lin_ok hk (hp1.suf ((fro_fns _ _ _ _ _ _).of h2)) hl h
   split at h
   ·exact lin_ok hk hp1 ⟨ofV_isL _,ofV_u hk _⟩ h
   split at h
   ·cases h2:thwM bk k n l p1 with
    | stop w p2 => rw [h2] at h; cases h
    | ok u p2 => rw [h2] at h; exact lin_ok hk (hp1.suf ((fro_thw _ _ _ _ _).of h2)) hz h
   split at h
   ·cases h2:casM k rootL g.ver leafR p1 with
    | stop w p2 => rw [h2] at h; cases h
    | ok u p2 => rw [h2] at h; exact lin_ok hk (hp1.suf ((fro_cas _ _ _ _ _).of h2)) hz h
   exact lin_ok hk hp1 hz h
theorem bin_ok {bk k key:Int} (hk:U64 key):∀ {n:Nat} {lo hi:Int} {p q:Pst} {s:Spt},PstOk p → binM bk k key n lo hi p = .ok s q → SptOk s
 | 0,lo,hi,p,q,s,_,h => by cases h
 | n + 1,lo,hi,p,q,s,hp,h => by
  unfold binM at h
  split at h
  ·cases h1:getM k (ofV key ((lo + hi) / 2)) p with
   | stop w p1 => rw [h1] at h; cases h
   | ok g p1 =>
    rw [h1] at h
    have hp1:=hp.suf ((fro_get _ _ _).of h1)
    simp only [Rs.bind] at h
    split at h
    ·rename_i hg
     injection h with h _
     subst h
     exact ⟨hp.get h1,hp.getR h1,hg,ofV_isL _,ofV_u hk _⟩
    split at h
    ·exact bin_ok hk hp1 h
    split at h
    ·cases h2:fnsM bk k n (ofV key ((lo + hi) / 2)) g p1 with
     | stop w p2 => rw [h2] at h; cases h
     | ok u p2 => rw [h2] at h; exact bin_ok hk (hp1.suf ((fro_fns _ _ _ _ _ _).of h2)) h
    split at h
    ·cases h2:lftM bk k n (ofV key ((lo + hi) / 2)) p1 with
     | stop w p2 => rw [h2] at h; cases h
     | ok u p2 =>
      rw [h2] at h
      have hp2:=hp1.suf ((fro_lft _ _ _ _ _).of h2)
      simp only [Rs.bind] at h
      split at h
      ·exact bin_ok hk hp2 h
      exact bin_ok hk hp2 h
    exact bin_ok hk hp1 h
  exact lin_ok hk hp ⟨by decide,by decide,by decide⟩ h
theorem sek_ok {bk k how key:Int} (hk:U64 key) {n:Nat} {p q:Pst} {s:Spt} (hp:PstOk p) (h:sekM bk k how key n p = .ok s q):SptOk s:=by
 unfold sekM at h
 split at h
 ·exact lin_ok hk hp ⟨by decide,by decide,by decide⟩ h
 exact bin_ok hk hp h
def RA.er (x:RA):RA:=⟨none,0,x.r⟩
def GotA.er (g:GotA):GotA:=⟨g.code,g.ver,g.has,g.x.er⟩
def Pst.er (p:Pst):Pst:=⟨p.n,fun j => (p.g j).er,p.note⟩
def Rs.er {α : Type} (e:α → α):Rs α → Rs α
 | .ok a p => .ok (e a) p.er
 | .stop w p => .stop w p.er
def Fz.er:Fz → Fz
 | .over => .over
 | .unfit => .unfit
 | .fr x => .fr x.er
def Spt.er (s:Spt):Spt:=⟨s.lab,s.g.er⟩
section
variable {α β : Type} {e:α → α} {e2:β → β}
theorem er_bind {m m':Rs α} {f f':α → Pst → Rs β} (h:m.er e=m') (hf:∀ a q,(f a q).er e2=f' (e a) q.er):(m.bind f).er e2=m'.bind f':=by
 subst h
 cases m with
 | ok a p => exact hf a p
 | stop w p => rfl
theorem er_ite {c:Prop} [Decidable c] {x y x' y':Rs α} (hx:x.er e=x') (hy:y.er e=y'):(if c then x else y).er e=if c then x' else y':=by
 split<;>assumption
end
theorem er_ask (k:Int) (w:Wq) (p:Pst):(askM k w p).er GotA.er=askM k w p.er:=by
 unfold askM
 by_cases h:0 < p.n ∧ 0 < (p.n:Int) + k
 ·rw [if_pos h,if_pos (show 0 < p.er.n ∧ 0 < (p.er.n:Int) + k from h)]; rfl
 rw [if_neg h,if_neg (show ¬ (0 < p.er.n ∧ 0 < (p.er.n:Int) + k) from h)]; rfl
theorem er_get (k:Int) (l:Lab) (p:Pst):(getM k l p).er GotA.er=getM k l p.er:=er_ask _ _ _
theorem er_cas (k:Int) (l:Lab) (v:Int) (r:Rec) (p:Pst):(casM k l v r p).er id=casM k l v r p.er:=er_bind (er_ask _ _ _) fun _ _ => rfl
theorem er_del (k:Int) (l:Lab) (v:Int) (p:Pst):(drpM k l v p).er id=drpM k l v p.er:=er_bind (er_ask _ _ _) fun _ _ => rfl
theorem er_splC (k:Int) (l:Lab) (v:Int) (c:Lab) (x:Rec):∀ n p,(splC k l v c x n p).er id=splC k l v c x n p.er
 | 0,p => rfl
 | n + 1,p => er_bind (er_get _ _ _) fun _ _ => er_ite rfl (er_bind (er_get _ _ _) fun _ _ => er_ite (er_bind (er_cas _ _ _ _ _) fun _ _ => er_ite rfl (er_splC k l v c x n _)) rfl)
theorem er_split (k:Int) (n:Nat) (l:Lab) (v:Int) (x:RA) (p:Pst):(splitM k n l v x p).er id=splitM k n l v x.er p.er:=
 er_ite (er_bind (er_splC _ _ _ _ _ _ _) fun _ _ => er_ite (er_bind (er_splC _ _ _ _ _ _ _) fun _ _ => er_ite (er_bind (er_cas _ _ _ _ _) fun _ _ => rfl) rfl) rfl) rfl
theorem er_frz (k:Int) (l:Lab) (v:Int) (c:Lab):∀ n p,(frzM k l v c n p).er Fz.er=frzM k l v c n p.er
 | 0,p => rfl
 | n + 1,p => er_bind (er_get _ _ _) fun _ _ => er_ite (er_ite rfl (er_bind (er_get _ _ _) fun _ _ => er_ite (er_bind (er_cas _ _ _ _ _) fun _ _ => er_ite rfl (er_frz k l v c n _)) rfl)) rfl
theorem er_clnC (k:Int) (l:Lab) (cl:Lab → Pst → Rs Unit) (h:∀ c p,(cl c p).er id=cl c p.er) (c:Lab) (p:Pst):(clnC k l cl c p).er id=clnC k l cl c p.er:=
 er_bind (er_get _ _ _) fun _ _ => er_ite (er_bind (h _ _) fun _ _ => er_bind (er_get _ _ _) fun _ _ => er_ite (er_bind (er_del _ _ _ _) fun _ _ => rfl) rfl) rfl
theorem er_cln (k:Int):∀ n l p,(clnM k n l p).er id=clnM k n l p.er
 | 0,l,p => rfl
 | n + 1,l,p => er_ite rfl (er_bind (er_clnC _ _ _ (er_cln k n) _ _) fun _ _ => er_ite (er_bind (er_clnC _ _ _ (er_cln k n) _ _) fun _ _ => rfl) rfl)
theorem er_bck (k:Int) (th:Lab → Pst → Rs Unit) (h:∀ c p,(th c p).er id=th c p.er) (l:Lab) (v:Int) (p:Pst):(bckM k th l v p).er id=bckM k th l v p.er:=
 er_bind (er_cas _ _ _ _ _) fun _ _ => er_ite (er_bind (h _ _) fun _ _ => h _ _) rfl
theorem er_mrg (bk k:Int) (n:Nat) (th:Lab → Pst → Rs Unit) (h:∀ c p,(th c p).er id=th c p.er) (l:Lab) (v:Int) (p:Pst):(mrgM bk k n th l v p).er id=mrgM bk k n th l v p.er:=
 er_bind (er_frz _ _ _ _ _ _) fun a _ => match a with
  | .over => rfl
  | .unfit => er_bck _ _ h _ _ _
  | .fr a => er_bind (er_frz _ _ _ _ _ _) fun b _ => match b with
   | .over => rfl
   | .unfit => er_bck _ _ h _ _ _
   | .fr b => er_ite (er_bind (er_cas _ _ _ _ _) fun _ _ => er_ite (er_cln _ _ _ _) rfl) (er_bck _ _ h _ _ _)
theorem er_fin (bk k:Int) (n:Nat) (th:Lab → Pst → Rs Unit) (h:∀ c p,(th c p).er id=th c p.er) (l:Lab) (g:GotA) (p:Pst):(finM bk k n th l g p).er id=finM bk k n th l g.er p.er:=
 er_ite (er_split _ _ _ _ _ _) (er_ite (er_mrg _ _ _ _ h _ _ _) rfl)
theorem er_thwL (bk k:Int):∀ n l up p,(thwL bk k n l up p).er id=thwL bk k n l up p.er
 | 0,l,up,p => rfl
 | n + 1,l,up,p => by
  unfold thwL
  refine er_bind (er_get _ _ _) fun g q => er_ite (er_bind (er_get _ _ _) fun q2 p2 => ?_) rfl
  have H:=er_fin bk k n (fun c p => if parE c=0 then thwL bk k n c (parV c) p else .ok () p) (fun c p => er_ite (er_thwL bk k n c (parV c) p) rfl) up q2 p2
  refine er_bind (e:=id) (er_ite H rfl) fun _ p3 => ?_
  exact er_ite (er_bind (er_cas _ _ _ _ _) fun _ _ => er_ite rfl (er_thwL bk k n _ _ _)) rfl
theorem er_thw (bk k:Int) (n:Nat) (l:Lab) (p:Pst):(thwM bk k n l p).er id=thwM bk k n l p.er:=er_ite (er_thwL _ _ _ _ _ _) rfl
theorem er_fns (bk k:Int) (n:Nat) (l:Lab) (g:GotA) (p:Pst):(fnsM bk k n l g p).er id=fnsM bk k n l g.er p.er:=er_fin _ _ _ _ (er_thw _ _ _) _ _ _
theorem er_lin (bk k key:Int):∀ n l p,(linM bk k key n l p).er Spt.er=linM bk k key n l p.er
 | 0,l,p => rfl
 | n + 1,l,p => er_bind (er_get _ _ _) fun _ _ => er_ite rfl (er_ite (er_bind (er_fns _ _ _ _ _ _) fun _ _ => er_lin bk k key n _ _) (er_ite (er_lin bk k key n _ _) (er_ite (er_bind (er_thw _ _ _ _ _) fun _ _ => er_lin bk k key n _ _) (er_ite (er_bind (er_cas _ _ _ _ _) fun _ _ => er_lin bk k key n _ _) (er_lin bk k key n _ _)))))
theorem er_lft (bk k:Int) (n:Nat) (l:Lab) (p:Pst):(lftM bk k n l p).er id=lftM bk k n l p.er:=
 er_ite (er_bind (er_get _ _ _) fun _ _ => er_ite (er_bind (er_thw _ _ _ _ _) fun _ _ => rfl) rfl) rfl
theorem er_bin (bk k key:Int):∀ n lo hi p,(binM bk k key n lo hi p).er Spt.er=binM bk k key n lo hi p.er
 | 0,lo,hi,p => rfl
 | n + 1,lo,hi,p => er_ite (er_bind (er_get _ _ _) fun _ _ => er_ite rfl (er_ite (er_bin bk k key n _ _ _) (er_ite (er_bind (er_fns _ _ _ _ _ _) fun _ _ => er_bin bk k key n _ _ _) (er_ite (er_bind (er_lft _ _ _ _ _) fun _ _ => er_ite (er_bin bk k key n _ _ _) (er_bin bk k key n _ _ _)) (er_bin bk k key n _ _ _))))) (er_lin _ _ _ _ _ _)
theorem er_sek (bk k how key:Int) (n:Nat) (p:Pst):(sekM bk k how key n p).er Spt.er=sekM bk k how key n p.er:=er_ite (er_lin _ _ _ _ _ _) (er_bin _ _ _ _ _ _ _)
theorem er_lok (bk k how key:Int) (n:Nat) (p:Pst):(lokM bk k how key n p).er id=lokM bk k how key n p.er:=er_bind (er_sek _ _ _ _ _ _) fun _ _ => rfl
theorem told_er (r:Rs Rsl):toldM (r.er id)=toldM r:=by cases r<;>rfl
structure RecOk (r:Rec):Prop where
 nx:U64 r.next.bits
 few:r.items.length ≤ 16
 key:∀ x ∈ r.items,U64 x.key
structure WqOk (w:Wq):Prop where
 lab:LOk w.lab
 r:RecOk w.r
def WOkR {α : Type} (r:Rs α):Prop:=match r with
 | .ok _ _ => True
 | .stop w _ => WqOk w
theorem rec_z:RecOk zeroRec:=⟨⟨by decide,by decide⟩,by decide,fun x hx => by cases hx⟩
theorem rec_in:RecOk innerR:=⟨⟨by decide,by decide⟩,by decide,fun x hx => by cases hx⟩
theorem RaOk.ro {x:RA} (h:RaOk x):RecOk x.r.abs:=by
 refine ⟨h.nx,?_,fun y hy => ?_⟩
 ·show (firsts x.r.f x.r.n).length ≤ 16
  rw [firsts_len]; exact h.few
 obtain ⟨i,hi,rfl⟩:=List.mem_map.1 hy
 exact h.key i (List.mem_range.1 hi)
theorem wok_z:WqOk zWq:=⟨lok_z,rec_z⟩
theorem wok_bind {α β : Type} {m:Rs α} {f:α → Pst → Rs β} (h:WOkR m) (hf:∀ a q,m = .ok a q → WOkR (f a q)):WOkR (m.bind f):=by
 cases m with
 | ok a q => exact hf a q rfl
 | stop w q => exact h
theorem wok_ite {α : Type} {c:Prop} [Decidable c] {x y:Rs α} (hx:c → WOkR x) (hy:¬ c → WOkR y):WOkR (if c then x else y):=by
 by_cases h:c
 ·rw [if_pos h]; exact hx h
 rw [if_neg h]; exact hy h
theorem wok_ask {k:Int} {w:Wq} {p:Pst} (h:WqOk w):WOkR (askM k w p):=by
 unfold askM
 refine wok_ite (fun _ => trivial) (fun _ => ?_)
 show WqOk _
 split
 ·exact ⟨lok_z,rec_z⟩
 exact h
theorem wok_get {k:Int} {l:Lab} {p:Pst} (h:LOk l):WOkR (getM k l p):=wok_ask ⟨h,rec_z⟩
theorem wok_cas {k:Int} {l:Lab} {v:Int} {r:Rec} {p:Pst} (h:LOk l) (hr:RecOk r):WOkR (casM k l v r p):=wok_bind (wok_ask ⟨h,hr⟩) fun _ _ _ => trivial
theorem wok_del {k:Int} {l:Lab} {v:Int} {p:Pst} (h:LOk l):WOkR (drpM k l v p):=wok_bind (wok_ask ⟨h,rec_z⟩) fun _ _ _ => trivial
theorem wok_splC {k:Int} {l:Lab} {v:Int} {c:Lab} {x:Rec} (hl:LOk l) (hc:LOk c) (hx:RecOk x):∀ n p,WOkR (splC k l v c x n p)
 | 0,p => wok_z
 | n + 1,p => by
  unfold splC
  refine wok_bind (wok_get hc) fun g p1 _ => wok_ite (fun _ => trivial) fun _ => wok_bind (wok_get hl) fun q p2 _ => wok_ite (fun _ => ?_) fun _ => trivial
  exact wok_bind (wok_cas hc hx) fun d p3 _ => wok_ite (fun _ => trivial) fun _ => wok_splC hl hc hx n p3
theorem cov_sub {l:Lab} {its:List Itm} {x:Itm} (h:x ∈ covL l its):x ∈ its:=(List.mem_filter.1 h).1
theorem cov_le (l:Lab) (its:List Itm):(covL l its).length ≤ its.length:=List.length_filter_le _ _
theorem halv_ok {x:RA} {l:Lab} (h:RaOk x) (hl:LOk l):RecOk (halvA x l).1 ∧ RecOk (halvA x l).2.1:=by
 have hr:=h.ro
 unfold halvA halvR
 split
 ·exact ⟨rec_z,rec_z⟩
 split
 ·exact ⟨rec_z,rec_z⟩
 split
 ·exact ⟨rec_z,rec_z⟩
 rename_i h64
 refine ⟨⟨child_u hl.isl hl.u h64 1,Nat.le_trans (cov_le _ _) hr.few,fun y hy => hr.key y (cov_sub hy)⟩,⟨h.nx,Nat.le_trans (cov_le _ _) hr.few,fun y hy => hr.key y (cov_sub hy)⟩⟩
theorem uni_ok {x y:RA} (h:RaOk x) (h':RaOk y):RecOk (uniA x y).1:=by
 have hr:=h.ro
 have hr':=h'.ro
 unfold uniA uniR
 split
 ·exact rec_z
 split
 ·exact rec_z
 split
 ·exact rec_z
 split
 ·exact rec_z
 rename_i h16
 refine ⟨h'.nx,?_,fun z hz => ?_⟩
 ·show (firsts x.r.f x.r.n ++ firsts y.r.f y.r.n).length ≤ 16
  rw [List.length_append,firsts_len,firsts_len]; omega
 rcases List.mem_append.1 hz with hz | hz
 ·exact hr.key z hz
 exact hr'.key z hz
theorem wok_split {k:Int} {n:Nat} {l:Lab} {v:Int} {x:RA} {p:Pst} (hl:LOk l) (hx:RaOk x):WOkR (splitM k n l v x p):=by
 unfold splitM
 refine wok_ite (fun _ => ?_) fun _ => trivial
 refine wok_bind (wok_splC hl (hl.ch 0) (halv_ok hx hl).1 n p) fun go p1 _ => wok_ite (fun _ => ?_) fun _ => trivial
 refine wok_bind (wok_splC hl (hl.ch 1) (halv_ok hx hl).2 n p1) fun go p2 _ => wok_ite (fun _ => ?_) fun _ => trivial
 exact wok_bind (wok_cas hl rec_in) fun _ _ _ => trivial
theorem wok_frz {k:Int} {l:Lab} {v:Int} {c:Lab} (hl:LOk l) (hc:LOk c):∀ n p,PstOk p → WOkR (frzM k l v c n p)
 | 0,p,_ => wok_z
 | n + 1,p,hp => by
  unfold frzM
  refine wok_bind (wok_get hc) fun g p1 e1 => wok_ite (fun _ => wok_ite (fun _ => trivial) fun _ => ?_) fun _ => trivial
  have hp1:=hp.suf ((fro_get k c p).of e1)
  refine wok_bind (wok_get hl) fun q p2 e2 => wok_ite (fun _ => ?_) fun _ => trivial
  have hp2:=hp1.suf ((fro_get k l p1).of e2)
  refine wok_bind (wok_cas hc ((hp.get e1).ra.as 5 v).ro) fun d p3 e3 => wok_ite (fun _ => trivial) fun _ => ?_
  exact wok_frz hl hc n p3 (hp2.suf ((fro_cas _ _ _ _ _).of e3))
theorem wok_clnC {k:Int} {l:Lab} {cl:Lab → Pst → Rs Unit} {c:Lab} (hl:LOk l) (hc:LOk c) (hcl:∀ c p,LOk c → WOkR (cl c p)) (p:Pst):WOkR (clnC k l cl c p):=by
 unfold clnC
 refine wok_bind (wok_get hc) fun g p1 _ => wok_ite (fun _ => ?_) fun _ => trivial
 refine wok_bind (hcl c p1 hc) fun _ p2 _ => wok_bind (wok_get hl) fun q p3 _ => wok_ite (fun _ => ?_) fun _ => trivial
 exact wok_bind (wok_del hc) fun _ _ _ => trivial
theorem wok_cln {k:Int}:∀ (n:Nat) (l:Lab) (p:Pst),LOk l → WOkR (clnM k n l p)
 | 0,l,p,_ => wok_z
 | n + 1,l,p,hl => by
  unfold clnM
  refine wok_ite (fun _ => trivial) fun _ => wok_bind (wok_clnC hl (hl.ch 0) (fun c p hc => wok_cln n c p hc) p) fun go p1 _ => wok_ite (fun _ => ?_) fun _ => trivial
  exact wok_bind (wok_clnC hl (hl.ch 1) (fun c p hc => wok_cln n c p hc) p1) fun _ _ _ => trivial
theorem wok_bck {k:Int} {th:Lab → Pst → Rs Unit} {l:Lab} {v:Int} (hl:LOk l) (hth:∀ c p,LOk c → PstOk p → WOkR (th c p)) (hfr:∀ c p,Fro p (th c p)) {p:Pst} (hp:PstOk p):WOkR (bckM k th l v p):=by
 unfold bckM
 refine wok_bind (wok_cas hl rec_in) fun d p1 e1 => wok_ite (fun _ => ?_) fun _ => trivial
 have hp1:=hp.suf ((fro_cas _ _ _ _ _).of e1)
 exact wok_bind (hth _ _ (hl.ch 0) hp1) fun _ p2 e2 => hth _ _ (hl.ch 1) (hp1.suf ((hfr _ _).of e2))
theorem wok_mrg {bk k:Int} {n:Nat} {th:Lab → Pst → Rs Unit} {l:Lab} {v:Int} (hl:LOk l) (hth:∀ c p,LOk c → PstOk p → WOkR (th c p)) (hfr:∀ c p,Fro p (th c p)) {p:Pst} (hp:PstOk p):WOkR (mrgM bk k n th l v p):=by
 unfold mrgM
 refine wok_bind (wok_frz hl (hl.ch 0) n p hp) fun a p1 e1 => ?_
 have hp1:=hp.suf ((fro_frz _ _ _ _ _ _).of e1)
 cases a with
 | over => trivial
 | unfit => exact wok_bck hl hth hfr hp1
 | fr a =>
  refine wok_bind (wok_frz hl (hl.ch 1) n p1 hp1) fun b p2 e2 => ?_
  have hp2:=hp1.suf ((fro_frz _ _ _ _ _ _).of e2)
  cases b with
  | over => trivial
  | unfit => exact wok_bck hl hth hfr hp2
  | fr b =>
   refine wok_ite (fun _ => ?_) fun _ => wok_bck hl hth hfr hp2
   exact wok_bind (wok_cas hl (uni_ok (frz_ok hp e1) (frz_ok hp1 e2))) fun d p3 _ => wok_ite (fun _ => wok_cln n l p3 hl) fun _ => trivial
theorem wok_fin {bk k:Int} {n:Nat} {th:Lab → Pst → Rs Unit} {l:Lab} {g:GotA} (hl:LOk l) (hg:GotOk g) (hth:∀ c p,LOk c → PstOk p → WOkR (th c p)) (hfr:∀ c p,Fro p (th c p)) {p:Pst} (hp:PstOk p):WOkR (finM bk k n th l g p):=by
 unfold finM
 exact wok_ite (fun _ => wok_split hl hg.ra) fun _ => wok_ite (fun _ => wok_mrg hl hth hfr hp) fun _ => trivial
theorem fro_thwI (bk k:Int) (n:Nat) (c:Lab) (p:Pst):Fro p (if parE c=0 then thwL bk k n c (parV c) p else .ok () p:Rs Unit):=fro_ite (fro_thwL _ _ _ _ _ _) (fro_ok _ _)
theorem wok_thwL {bk k:Int}:∀ (n:Nat) (l up:Lab) (p:Pst),LOk l → LOk up → PstOk p → WOkR (thwL bk k n l up p)
 | 0,l,up,p,_,_,_ => wok_z
 | n + 1,l,up,p,hl,hu,hp => by
  unfold thwL
  refine wok_bind (wok_get hl) fun g p1 e1 => wok_ite (fun _ => ?_) fun _ => trivial
  have hp1:=hp.suf ((fro_get _ _ _).of e1)
  refine wok_bind (wok_get hu) fun q p2 e2 => ?_
  have hp2:=hp1.suf ((fro_get _ _ _).of e2)
  refine wok_bind (wok_ite (fun _ => wok_fin hu (hp1.get e2) (fun c p hc hp => show WOkR (if parE c=0 then thwL bk k n c (parV c) p else .ok () p:Rs Unit) from wok_ite (fun _ => wok_thwL n c (parV c) p hc hc.par hp) fun _ => trivial) (fro_thwI bk k n) hp2) fun _ => trivial) fun _ p3 e3 => wok_ite (fun _ => ?_) fun _ => trivial
  have hp3:=hp2.suf (Fro.of (fro_ite (fro_fin _ _ _ _ (fro_thwI bk k n) _ _ _) (fro_ok _ _)) e3)
  refine wok_bind (wok_cas hl ((hp.get e1).ra.as 1 0).ro) fun d p4 e4 => wok_ite (fun _ => trivial) fun _ => ?_
  exact wok_thwL n l up p4 hl hu (hp3.suf ((fro_cas _ _ _ _ _).of e4))
theorem wok_thw {bk k:Int} {n:Nat} {l:Lab} {p:Pst} (hl:LOk l) (hp:PstOk p):WOkR (thwM bk k n l p):=wok_ite (fun _ => wok_thwL n l _ p hl hl.par hp) fun _ => trivial
theorem wok_fns {bk k:Int} {n:Nat} {l:Lab} {g:GotA} {p:Pst} (hl:LOk l) (hg:GotOk g) (hp:PstOk p):WOkR (fnsM bk k n l g p):=wok_fin hl hg (fun c p hc hp => wok_thw hc hp) (fro_thw _ _ _) hp
theorem wok_told {r:Rs Rsl} (h:WOkR r):WqOk (toldM r).1:=by
 cases r with
 | ok a p =>
  unfold toldM
  simp only
  split
  ·exact wok_z
  exact ⟨lok_z,rec_z⟩
 | stop w p =>
  unfold toldM
  simp only
  split
  ·exact wok_z
  exact h
end Go.Proofs.YtjgnoldondblaaaGreat.Sym
namespace Go.Proofs.YtjgnoldondblaaaGreat.Sym
open Go Go.RowKit
namespace Cl
theorem etyI:ElemTy Tryz.prog 22 63 2 24 (.agg #[.int .u64 0,.string ⟨#[]⟩]):=⟨by kernel_rfl,by kernel_rfl,rfl,by decide⟩
def itmE (x:Itm):List Value:=[.int .u64 x.key,.string x.val]
theorem itmE_len (x:Itm):(itmE x).length=2:=rfl
theorem rows_ok {m:Nat → Nat → Prop} {w:World} {A:Option Addr} {k:Nat} {l:List Itm} (hl:l.length ≤ k) (hk:k ≤ maxLen) (hs:∀ x ∈ l,x.val.size ≤ maxLen)
  (h:0 < (l.flatMap itmE).length → ∃ b off,A=some ⟨b,off,none⟩ ∧ ∀ j u,(l.flatMap itmE)[j]? = some u → w.cell? ⟨b,off + j,none⟩=some u ∧ ¬ m b (off + j)):Ok m w (rowI A l.length k (itF l)):=by
 have hg:∀ i (hi:i < l.length),itF l i=l[i]:=fun i hi => by simp [itF,List.getD,hi]
 have hpos:∀ i,i < l.length → 0 < (l.flatMap itmE).length:=fun i hi => by rw [flat_length itmE_len]; omega
 refine .sl _ _ _ _ _ _ hl hk (fun i _ => rfl) (fun i hi => ?_) (fun i hi j u hu => ?_) (fun i hi v hv => ?_) (fun i hi v hv => ?_)
 ·obtain ⟨b,off,hA,_⟩:=h (hpos i hi); exact ⟨b,off,hA⟩
 ·obtain ⟨b,off,hA,hc⟩:=h (hpos i hi)
  have hu':(itmE (itF l i))[j]? = some u:=hu
  rw [hg i hi] at hu'
  exact ⟨b,off,hA,hc _ u (flat_get itmE_len (List.getElem?_eq_getElem hi) hu')⟩
 ·simp only [itC,List.mem_cons,List.not_mem_nil,or_false] at hv
  rcases hv with rfl | rfl<;>rfl
 simp only [itC,List.mem_cons,List.not_mem_nil,or_false] at hv
 rcases hv with rfl | rfl
 ·exact .int _ _
 exact .str _ (by rw [hg i hi]; exact hs _ (List.getElem_mem hi))
variable {H:Type} {enc:TypeId × Value → H} {w:World} {base:Nat} {spare:Nat → Bool} {held:Bool}
theorem itmE_one (x:Itm):∀ v ∈ itmE x,v.oneCell'=true:=by
 intro v hv
 simp only [itmE,List.mem_cons,List.not_mem_nil,or_false] at hv
 rcases hv with rfl | rfl<;>rfl
theorem rowFlat_its (l:List Itm):rowFlat (fun i => itC (itF l i)) l.length=l.flatMap itmE:=by
 have key:∀ n,n ≤ l.length → rowFlat (fun i => itC (itF l i)) n=(l.take n).flatMap itmE:=by
  intro n
  induction n with
  | zero => intro _; simp [rowFlat]
  | succ n ih =>
   intro h
   rw [rowFlat_succ,ih (by omega),List.take_succ_eq_append_getElem (by omega),List.flatMap_append]
   simp [itF,List.getD,List.getElem?_eq_getElem (show n < l.length by omega)]
   rfl
 have:=key l.length (Nat.le_refl _)
 rwa [List.take_length] at this
theorem its_reads {m:Nat → Nat → Prop} {w:World} {A:Option Addr} {c:Nat} {l:List Itm} (h:Ok m w (rowI A l.length c (itF l))):ReadsL itmE w w.heap.size A l:=by
 have:=row_of_ok h
 rw [rowFlat_its] at this
 exact this
theorem its_vals {m:Nat → Nat → Prop} {w:World} {A:Option Addr} {c:Nat} {l:List Itm} (h:Ok m w (rowI A l.length c (itF l))):∀ x ∈ l,x.val.size ≤ maxLen:=by
 intro x hx
 obtain ⟨i,hi,rfl⟩:=List.mem_iff_getElem.1 hx
 cases h with
 | sl _ _ _ _ _ _ h1 h2 h3 h4 h5 h6 h7 =>
  have:=h7 i hi (.str (itF l i).val) (by simp [itC])
  cases this with | str _ h => simpa [itF,List.getD,hi] using h
theorem own_its {m:Nat → Nat → Prop} {w:World} {B:Nat} {e:TypeId} {A:Option Addr} {n c:Nat} {l:List Itm} (h:OwnL itmE 2 w B e (.slice A n c) l) (hm:∀ b o,m b o → b < B) (hs:∀ x ∈ l,x.val.size ≤ maxLen):Ok m w (rowI A l.length c (itF l)):=by
 obtain ⟨A',c',he,h1,h2⟩:=Own.isSlice h
 injection he with e1 e2 e3; subst e3; subst e2
 refine rows_ok h1 h2 hs fun hp => ?_
 rw [flat_length itmE_len] at hp
 obtain ⟨b,hA,hb⟩:=own_head h (by omega)
 refine ⟨b,0,hA,fun j u hu => ⟨by rw [Nat.zero_add]; exact own_cells h hb j u hu,fun hmm => ?_⟩⟩
 have:=(Own.lt h b hb).1
 have:=hm _ _ hmm
 omega
theorem clone_c (w:World) (A:Option Addr) (k:Nat) (l:List Itm) (hr:ReadsL itmE w w.heap.size A l) (hl:l.length < 2147483000) :
  Calls Tryz.prog 25 #[.slice A l.length k] w fun e w' => ∃ v',e = .returned v' ∧ OwnL itmE 2 w' w.heap.size 63 v' l ∧ Below w.heap.size w w':=by
 have hq:∀ (A:Option Addr) (n k:Nat) (w:World),(binOp .eql 22 (.slice A n k) (.slice none 0 0)).run Tryz.prog w = .ok (.bool A.isNone) w:=fun A n k w => Go.Lib.run_eql_slice_nil w _ _ A n k 0 0 Tryz.underlying22
 cases A with
 | none =>
  obtain rfl:l=[]:=by
   refine List.eq_nil_of_length_eq_zero (Nat.eq_zero_of_not_pos fun h => ?_)
   obtain ⟨b,off,he,_⟩:=hr.at_ (k:=2) itmE_len (by decide) h
   cases he
  clear hr
  go_enter Tryz.func25,Tryz.ntmps25
  go_wp2_with fail
  go_ret
  exact ⟨_,rfl,Own.nil _ _ _ _ _,Below.refl _ _⟩
 | some a =>
  obtain ⟨W1,hW1⟩:=eqv (w.alloc (.cells #[] 63))
  have hb1:Below w.heap.size w W1:=by rw [hW1]; exact (Below.refl _ _).alloc (Nat.le_refl _) _
  obtain ⟨v',w',hr',hO,hG,hv⟩:=run_append_Own (P:=Tryz.prog) etyI 22 (Own.nil W1 w.heap.size 63 2 (some ⟨w.heap.size,0,none⟩)) (some a) l.length k (l.flatMap itmE) (flat_length itmE_len l) (hr.below hb1) (flat_one itmE_one l) (by simp only [maxLen]; omega) (by omega) hb1.size
  rw [Nat.zero_add,List.nil_append] at hO
  have HO:Hid (OwnL itmE 2 w' w.heap.size 63 v' l ∧ Below w.heap.size w w'):=⟨hO,hb1.grown hG hb1.size fun g hg => by simp [ownB] at hg⟩
  rw [hW1] at hr'
  clear hO hG hv hb1 hW1
  go_enter Tryz.func25,Tryz.ntmps25
  go_wp2_with (at_builtin; refine wpList_append_run hr' rfl (.tmp 5) (.tmp 6) rfl rfl rfl rfl ?_)
  go_ret
  exact ⟨_,rfl,HO.out⟩
theorem clone_s (A:Option Addr) (c:Nat) (l:List Itm) (hs:l.length < 2147483000):Spec Tryz.prog 25 [rowI A l.length c (itF l)] (fun y => rowI (y.A 0) l.length (y.c 0) (itF l)):=by
 intro m w hm ha
 have h1:=ha (rowI A l.length c (itF l)) (by simp)
 refine (clone_c w A c l (its_reads h1) hs).mono ?_
 rintro e w' ⟨v',rfl,ho,hb⟩
 obtain ⟨A',c',rfl,_,_⟩:=Own.isSlice ho
 exact ⟨⟨0,fun _ => A',fun _ => c',fun _ => ⟨#[]⟩⟩,rfl,own_its ho hm (its_vals h1),hb⟩
theorem clone_sf (A:Option Addr) (n c:Nat) (f:Nat → Itm) (hs:n < 2147483000):Spec Tryz.prog 25 [rowI A n c f] (fun y => rowI (y.A 0) n (y.c 0) f):=by
 have h:=clone_s A c (firsts f n) (by rw [firsts_len]; exact hs)
 have e:∀ A c,Sim (rowI A (firsts f n).length c (itF (firsts f n))) (rowI A n c f):=fun A c => Sim.resl (firsts_len f n) fun t ht => by rw [firsts_get f n t ht]
 have e':∀ A c,Sim (rowI A n c f) (rowI A (firsts f n).length c (itF (firsts f n))):=fun A c => Sim.resl (firsts_len f n).symm fun t ht => by rw [firsts_len] at ht; rw [firsts_get f n t ht]
 intro m w hm ha
 have h2:Spec Tryz.prog 25 [rowI A n c f] (fun y => rowI (y.A 0) (firsts f n).length (y.c 0) (itF (firsts f n))):=h.sim ⟨e' A c,trivial⟩
 refine (h2 m w hm ha).mono ?_
 rintro en w' ⟨x,rfl,hok,hb⟩
 exact ⟨x,by rw [(e (x.A 0) (x.c 0)).1],(e (x.A 0) (x.c 0)).2.2 _ _ hok,hb⟩
end Cl
end Go.Proofs.YtjgnoldondblaaaGreat.Sym
namespace Go.Proofs.YtjgnoldondblaaaGreat.Sym
open Go Go.RowKit
theorem enters37:Enters Tryz.prog 37:=fun _ _ => by kernel_rfl
theorem own_s (x:RA) (hn:x.r.n ≤ 1000000):Spec Tryz.prog 37 [recV x] (fun y => recV ⟨y.A 0,y.c 0,x.r⟩):=by
 intro m w hm hargs
 have S:=Cl.clone_sf x.A x.r.n x.c x.r.f (by omega)
 simp only [rowI] at S
 refine en 8 hm hargs Tryz.func37 fun B hB a0 hF => ?_
 refine wp_seq (rg hB TA_ok [1,2] [1,2] [] hF fun X0 a0 w1 hF => ?_)
 have O1:=S
 refine wp_seq (rg hB TA_ok [1,2] [1,2] [(2,.r fun y => .sl none (y.A 0) x.r.n (y.c 0) 2 (fun t => itC (x.r.f t)))] hF fun X1 a0 w1 hF => ?_)
 refine wp_seq (rg hB TA_ok [2] [2] [] hF fun X2 a0 w1 hF => ?_)
 refine wp_ret ((rsi hB TA_ok hF (⟨0,fun _ => (X1 2).A 0,fun _ => (X1 2).c 0,fun _ => ⟨#[]⟩⟩) (he:=?_)))
 subst hB
 exact zr
theorem enters8:Enters Tryz.prog 8:=fun _ _ => by kernel_rfl
theorem new_m (A:Option Addr) (n c:Nat) (f:Nat → RowA) (hn:n ≤ maxLen) (hN:∀ i,i < n → (f i).x.r.n ≤ 1000000 ∧ LabOk (f i).lab ∧ U64 (f i).lab.bits ∧ U64 (f i).x.r.nx.bits):SpecM Tryz.prog 8 [rowsV A n c f] [] none noK (fun y => (match newS (rwsA f n) with | none => ⟨.tup [.nilp,.int .i64 1],[],[]⟩ | some L => ⟨.tup [.ptr 14 y.b 0,.int .i64 0],[],[(14,⟨y.b,90,[.raw (.map (some (y.c 0))),.int .i64 0]⟩)]⟩)) (fun N y => (match newS (rwsA f n) with | none => noK | some L => shF N (y.c 0) L)):=by
 intro m w hm hargs hpre hI
 have hmx:maxLen=9223372036854775807:=rfl
 refine enM (bo:=none) 58 hm hpre hI hargs Tryz.func8 fun B hB a0 hF => ?_
 refine wp_seq (rg hB TA_ok [0] [] [] hF fun X0 a0 w1 hF => ?_)
 refine wp_seq (wp_seq (rg hB TA_ok [11,0] [] [] hF fun X1 a0 w1 hF => ?_))
 apply test_ok hF rfl<;>intro hb hF
 ·have hbig:2000 < n:=by
   have:(2000:Int) < (n:Int):=by subst hB; simpa [std,sC] using hb
   omega
  have hW:newS (rwsA f n)=none:=by unfold newS; rw [if_pos (by rw [listA_len]; exact hbig)]
  refine wp_seq (rg hB TA_ok [2,3] [14] [] hF fun X2 a0 w1 hF => ?_)
  refine wp_ret ((rm hB TA_ok hF (⟨0,fun _ => none,fun _ => 0,fun _ => ⟨#[]⟩⟩) [] (he:=?_) (hs:=?_) (hn:=?_) (hJ:=?_)).1)
  ·subst hB; simp only [hW]; exact zr
  ·simp only [hW]; exact trivial
  ·simp only [hW]; exact trivial
  simp only [hW]; exact fun _ _ _ => trivial
 have hbig:n ≤ 2000:=by
  have:¬ (2000:Int) < (n:Int):=by subst hB; simpa [std,sC] using hb
  omega
 have hS:newS (rwsA f n)=newL (rwsA f n) []:=by unfold newS; rw [if_neg (by rw [listA_len]; omega)]
 refine wp_skip (wp_seq (wp_region_lit (man_makeMap (k:=37) (e:=0) rfl rfl rfl rfl hF (Nat.le_of_ble_eq_true rfl) (shK w1.heap.size []) (fun m w' _ _ hM => ⟨_,fun _ => (none,0),ShD.empty hM _⟩) ?_)))
 obtain ⟨bM,hbM⟩:=eqv (w1.heap.size)
 rw [← hbM]
 intro a0 w1 hfresh hF
 have hbfr:w.heap.size ≤ bM:=hfresh
 refine lnd 1 hB TA_ok [4,0] [14] [] hF fun X3 a0 w1 hF => ?_
 refine wp_seq (wp_seq (rg hB TA_ok [17,16,15,4] [14] [] hF fun X4 a0 w1 hF => ?_))
 refine wp_block (loop_preK (ι:=Nat × Shf) (fun p => shK bM p.2) (fun p => [(17,.int .i64 (p.1:Int))]) (fun p => []) (fun p => []) (fun p => p.1 ≤ n ∧ p.2.length ≤ p.1 ∧ newL (rwsA f n) []=newL ((rwsA f n).drop p.1) p.2) (fun p => n - p.1) (0,[]) ⟨Nat.zero_le _,Nat.le_refl _,rfl⟩ hF ?_)
 rintro ⟨i,L⟩ ⟨hi,hk,hnew⟩ a0 w1 hF
 try dsimp only at hi
 try dsimp only at hk
 try dsimp only at hnew
 replace hF:=hF.withK (K':=shK bM L) hF.kept
 refine wp_seq (rg hB TA_ok [18,17,16,15,4] [14] [] hF fun X5 a0 w1 hF => ?_)
 refine wp_seq (test_ok hF rfl (fun hb hF => ?_) (fun hb hF => ?_))
 ·have hin:i < n:=by
   have:(i:Int) < (n:Int):=by subst hB; simpa [std,sC] using hb
   omega
  obtain ⟨hN1,hN2,hN3,hN4⟩:=hN i hin
  have S2:=isL_s (f i).lab hN3
  have S3:=isR_s (f i).x.A (f i).x.r.n (f i).x.c (f i).x.r.f (by omega) (f i).x.r.kd (f i).x.r.nx (f i).x.r.mrk hN4
  rw [← isR_abs] at S3
  simp only [labAV,recI,rowI] at S2 S3
  obtain ⟨il,hil⟩:=eqv (isL (f i).lab)
  obtain ⟨ir,hir⟩:=eqv (isR (f i).x.r.abs)
  rw [← hil] at S2
  rw [← hir] at S3
  have hstep:=newL_step (f:=f) (L:=L) hin
  rw [← hil,← hir] at hstep
  refine wp_skip (wp_seq (wp_block (wp_seq ?_)))
  refine rg hB TA_ok [6,17,16,15,4] [6,14] [] hF (hob:=by intro X; subst hB; simp only [AO,Ob.holds,BE.den]<;>and_intros<;>repeat first | trivial | rfl | exact (show (0:Int) ≤ (i:Int) by omega) | exact (show (i:Int) < (n:Int) by omega) | exact (fun _ _ => by kernel_rfl) | refine ⟨?_,?_⟩ | intro h | exact Int.le_refl _ | decide | omega) fun X6 a0 w1 hF => ?_
  replace hF:=hF.memS (cells':=rowC (f i)) (by subst hB; exact zl)
  obtain ⟨D,E,hSh⟩:=hF.kept
  replace hF:=hF.withK (K':=shD D E bM L) hSh
  have hlab:LabOk (f i).lab:=hN2
  obtain ⟨el,hel⟩:=eqv (elA (adr E L) (f i).lab (spotOf L (f i).lab))
  obtain ⟨hh,hhh⟩:=eqv ((findL (f i).lab L).isSome)
  refine wp_seq (wp_seq ?_)
  apply drawn2_okB hB 13 (some (6,[.tmp 25,.tmp 27],[.raw (.map (some bM)),.agg [.int .i64 (f i).lab.len,.int .u64 (f i).lab.bits]],.tup [.agg [.int .u64 el.w.ver,.bool (.v el.has),.int .i64 el.w.x.r.kd,.sl none el.w.x.A el.w.x.r.n el.w.x.c 2 (fun i => itC (el.w.x.r.f i)),.int .i64 el.w.x.r.nx.len,.int .u64 el.w.x.r.nx.bits,.int .u64 el.w.x.r.mrk],.bool (.v hh)])) ?hH (by kernel_rfl) TA_ok [8,6,17,16,15,4] [6,14] [] hF rfl
  case hH => exact hand_look hlab hel hhh (fun o h => by cases h; rfl)
  case hex => intro A X; conv => lhs; cbv
  case hD => kernel_rfl
  case hZ => kernel_rfl
  case hlen => rfl
  case hob =>
   intro X
   subst hB
   simp only [AO,Ob.holds,BE.den]<;>and_intros<;>intros<;>trivial
  case hQ =>
  intro X7 a0 w1 hF
  replace hF:=hF.withK (K':=shK bM L) ⟨D,E,hF.kept⟩
  have O1:=S2
  have O2:=S3
  refine wpList_nil (wp_seq (rg hB TA_ok [43,6,17,16,15,4] [6,14] [(4,.r fun _ => .bool (.v il)),(10,.r fun _ => .bool (.v ir))] hF fun X8 a0 w1 hF => ?_))
  apply test_ok hF rfl<;>intro hb hF
  ·have h9:(if (if hh=true then true else !il)=true then true else !ir)=true:=by subst hB; exact hb
   have hW:newS (rwsA f n)=none:=by
    rw [hS,hnew,hstep,← hhh]
    cases hh<;>cases il<;>cases ir<;>first | rfl | (simp at h9)
   refine wp_seq (rg hB TA_ok [2,3] [14] [] hF fun X9 a0 w1 hF => ?_)
   refine wp_ret ((rm hB TA_ok hF (⟨0,fun _ => none,fun _ => 0,fun _ => ⟨#[]⟩⟩) [] (he:=?_) (hs:=?_) (hn:=?_) (hJ:=?_)).1)
   ·subst hB; simp only [hW]; exact zr
   ·simp only [hW]; exact trivial
   ·simp only [hW]; exact trivial
   simp only [hW]; exact fun _ _ _ => trivial
  have h9:(if (if hh=true then true else !il)=true then true else !ir)=false:=by subst hB; exact hb
  have h10:(hh || !il || !ir)=false:=by cases hh<;>cases il<;>cases ir<;>first | rfl | (simp at h9)
  rw [← hhh,h10] at hstep
  obtain ⟨L2,hL2⟩:=eqv (putL (f i).lab ⟨(f i).ver,true,(f i).x.r.abs⟩ L)
  have hstep:newL ((rwsA f n).drop i) L=newL ((rwsA f n).drop (i + 1)) L2:=by rw [hL2]; exact hstep
  have SO:=own_s (f i).x hN1
  have hL2n:L2.length ≤ i + 1:=by rw [hL2,put_len _ _ hSh.ris]; split<;>omega
  refine wp_skip ?_
  apply drawn2_okB hB 12 none ?hH (by kernel_rfl) TA_ok [47,49,55,17,16,15,4] [14] [(10,.r fun y => .agg [.int .i64 (f i).x.r.kd,.sl none (y.A 0) (f i).x.r.n (y.c 0) 2 (fun t => itC ((f i).x.r.f t)),.int .i64 (f i).x.r.nx.len,.int .u64 (f i).x.r.nx.bits,.int .u64 (f i).x.r.mrk])] hF rfl
  case hH => exact handOK_none
  case hex => intro A X; conv => lhs; cbv
  case hD => kernel_rfl
  case hZ => kernel_rfl
  case hlen => rfl
  case hob =>
   intro X
   subst hB
   simp only [AO,Ob.holds,BE.den]<;>(and_intros<;>repeat first | trivial | rfl | exact enters37 | exact SO | refine ⟨?_,?_⟩ | intro h)
  case hQ =>
  intro X10 a0 w1 hF
  obtain ⟨D2,E2,hSh2⟩:=hF.kept
  refine man_mapUpdate (k:=37) (e:=92) rfl rfl rfl rfl hF rfl rfl rfl rfl rfl labK map_und' hSh2.map (by omega) (key_lab hlab) (fun h => absurd h (by omega)) (shK bM L2) (fun m w' hk hkb hv hM => ?_) ?_
  ·rw [hL2]
   refine shK_put hSh2.map hlab hk hkb (x:=⟨⟨(f i).lab,(f i).ver,⟨(X10 10).A 0,(X10 10).c 0,(f i).x.r⟩⟩,true⟩) ?_ hv hM
   exact Sim.agg ⟨zr,Sim.tt,zr,zr,zr,zr,zr,trivial⟩
  intro w1 hF
  replace hF:=hF.keep [17,16,15,4] [14]
  refine wpList_nil (rg hB TA_ok [17,16,15,4] [14] [] hF fun X11 a0 w1 hF => ?_)
  have e:B.arith .add .i64 (i:Int) 1=((i + 1:Nat):Int):=by subst hB; exact wrap_succ (n:=n) hin (by omega)
  refine ⟨(i + 1,L2),⟨by simp only; omega,hL2n,hnew.trans hstep⟩,by simp only; omega,by rw [← e]; exact hF⟩
 have hout:i=n:=by
  have:¬ (i:Int) < (n:Int):=by subst hB; simpa [std,sC] using hb
  omega
 have hW:newS (rwsA f n)=some L:=by rw [hS,hnew,List.drop_eq_nil_of_le (by rw [listA_len]; omega)]; rfl
 refine wp_exit (wp_seq (rg hB TA_ok [2,3] [14] [] hF fun X12 a0 w1 hF => ?_))
 refine wp_ret ((rm hB TA_ok hF (⟨(X3 2).b,fun _ => none,fun _ => bM,fun _ => ⟨#[]⟩⟩) [14] (he:=?_) (hs:=?_) (hn:=?_) (hJ:=?_)).1)
 ·subst hB; simp only [hW]; exact zr
 ·simp only [hW]; exact trivial
 ·simp only [hW]
  exact ⟨⟨_,rfl,zl⟩,fun e he => (by cases he),(by simp),trivial⟩
 simp only [hW]; exact fun _ _ h => ⟨hbfr,h⟩
theorem enters59:Enters Tryz.prog 59:=fun _ _ => by kernel_rfl
theorem chg_tt0 (b bM:Nat) (L:Shf) (hL:L.length ≤ 100000) (k:Int) (q:WntA) (hl:LabOk q.lab) (x z:SpA):SpecM Tryz.prog 59 [.ptr 0 b 0,wntV q,.agg (elC x),.agg (elC z),.bool .tt] [(0,⟨b,90,[.raw (.map (some bM)),.int .i64 k]⟩)] (some bM) (shK bM L) (fun y => ⟨.tup [gotV (gotA y (chgL L q.lab q.ver x.w.ver true ⟨z.w.ver,z.has,z.w.x.r.abs⟩).got),.int .i64 (chgL L q.lab q.ver x.w.ver true ⟨z.w.ver,z.has,z.w.x.r.abs⟩).err],[(0,[.raw (.map (some bM)),.int .i64 (if (chgL L q.lab q.ver x.w.ver true ⟨z.w.ver,z.has,z.w.x.r.abs⟩).wrote then IntKind.i64.wrap (k + 1) else k)])],[]⟩) (fun _ _ => shK bM (chgL L q.lab q.ver x.w.ver true ⟨z.w.ver,z.has,z.w.x.r.abs⟩).L):=by
 intro m w hm hargs hpre hI
 have hmx:maxLen=9223372036854775807:=rfl
 have hmp:=shK_map hI
 obtain ⟨CD,hCD⟩:=eqv ((chgL L q.lab q.ver x.w.ver true ⟨z.w.ver,z.has,z.w.x.r.abs⟩))
 rw [← hCD]
 refine enM (bo:=some bM) 50 hm hpre hI hargs Tryz.func59 fun B hB a0 hF => ?_
 refine wp_seq (rg hB TA_ok [0,4,6,7,8,10] [0,6,7,8,10] [] hF fun X0 a0 w1 hF => ?_)
 refine wp_seq (wp_block (wp_seq (rg hB TA_ok [12,0,4,6,7,8,10] [0,6,7,8,10] [] hF fun X1 a0 w1 hF => ?_)))
 apply test_ok hF rfl<;>intro hb hF
 ·have hv:q.ver ≠ x.w.ver:=by subst hB; simpa [std,sC] using hb
  have hW:CD=⟨L,false,⟨8,x.w.ver,false,zeroRec⟩,0⟩:=by rw [hCD]; unfold chgL; rw [if_pos hv]
  refine wp_seq (rg hB TA_ok [10,11] [0,10] [] hF fun X2 a0 w1 hF => ?_)
  refine wp_ret ((rm hB TA_ok hF (⟨0,fun _ => none,fun _ => 0,fun _ => ⟨#[]⟩⟩) [] (hmap:=?_) (he:=?_) (hs:=?_) (hJ:=?_)).1)
  ·intro b hb; cases hb; exact ⟨hmp,fun m h => shK_map h⟩
  ·subst hB; simp only [hW]
   exact Sim.tup ⟨Sim.agg ⟨zr,zr,zr,zr,zq0,zr,zr,zr,trivial⟩,zr,trivial⟩
  ·subst hB; simp only [hW]
   exact ⟨rfl,⟨_,rfl,zl⟩,trivial⟩
  simp only [hW]; exact fun _ _ h => h
 have hv:¬ q.ver ≠ x.w.ver:=by subst hB; simpa [std,sC] using hb
 refine wp_seq (rg hB TA_ok [21,0,6,8,10] [0,6,8,10] [] hF fun X3 a0 w1 hF => ?_)
 obtain ⟨L2,hL2⟩:=eqv (putL q.lab ⟨z.w.ver,z.has,z.w.x.r.abs⟩ L)
 have hW:CD=⟨L2,true,⟨0,z.w.ver,false,zeroRec⟩,0⟩:=by rw [hCD,hL2]; unfold chgL; rw [if_neg hv,if_neg (fun h => by cases h.1)]
 refine test_ff hF rfl (fun hF => ?_)
 refine wp_skip (wp_seq ?_)
 apply drawn2_okB hB 7 none ?hH (by kernel_rfl) TA_ok [36,38,39,0,8,10] [0,8,10] [] hF rfl
 case hH => exact handOK_none
 case hex => intro A X; conv => lhs; cbv
 case hD => kernel_rfl
 case hZ => kernel_rfl
 case hlen => rfl
 case hob =>
  intro X
  subst hB
  simp only [AO,Ob.holds,BE.den]<;>and_intros<;>intros<;>trivial
 case hQ =>
 intro X5 a0 w1 hF
 obtain ⟨D2,E2,hSh2⟩:=hF.kept
 refine man_mapUpdate (k:=37) (e:=92) rfl rfl rfl rfl hF rfl rfl rfl rfl rfl labK map_und' hSh2.map (by omega) (key_lab hl) (fun _ => .inr rfl) (shK bM L2) (fun m w' hk hkb hv hM => ?_) ?_
 ·rw [hL2]; exact shK_put hSh2.map hl hk hkb (x:=⟨⟨q.lab,z.w.ver,z.w.x⟩,z.has⟩) (zr) hv hM
 intro w1 hF
 replace hF:=hF.keep [0,8,10] [0,8,10]
 refine wpList_nil (wp_seq (rg hB TA_ok [8,10] [0,8,10] [] hF fun X6 a0 w1 hF => ?_))
 refine wp_seq (rg hB TA_ok [10,11] [0,10] [] hF fun X7 a0 w1 hF => ?_)
 refine wp_ret ((rm hB TA_ok hF (⟨0,fun _ => none,fun _ => 0,fun _ => ⟨#[]⟩⟩) [] (hmap:=?_) (he:=?_) (hs:=?_) (hJ:=?_)).1)
 ·intro b hb; cases hb; exact ⟨hmp,fun m h => shK_map h⟩
 ·subst hB; simp only [hW]
  exact Sim.tup ⟨Sim.agg ⟨zr,zr,zr,zr,zq0,zr,zr,zr,trivial⟩,zr,trivial⟩
 ·subst hB; simp only [hW]
  exact ⟨rfl,⟨_,rfl,zl⟩,trivial⟩
 simp only [hW]; exact fun _ _ h => h
theorem chg_tt (k0:Nat) (b bM:Nat) (L:Shf) (hL:L.length ≤ 100000) (k:Int) (q:WntA) (hl:LabOk q.lab) (x z:SpA):SpecM Tryz.prog 59 [.ptr k0 b 0,wntV q,.agg (elC x),.agg (elC z),.bool .tt] [(k0,⟨b,90,[.raw (.map (some bM)),.int .i64 k]⟩)] (some bM) (shK bM L) (fun y => ⟨.tup [gotV (gotA y (chgL L q.lab q.ver x.w.ver true ⟨z.w.ver,z.has,z.w.x.r.abs⟩).got),.int .i64 (chgL L q.lab q.ver x.w.ver true ⟨z.w.ver,z.has,z.w.x.r.abs⟩).err],[(k0,[.raw (.map (some bM)),.int .i64 (if (chgL L q.lab q.ver x.w.ver true ⟨z.w.ver,z.has,z.w.x.r.abs⟩).wrote then IntKind.i64.wrap (k + 1) else k)])],[]⟩) (fun _ _ => shK bM (chgL L q.lab q.ver x.w.ver true ⟨z.w.ver,z.has,z.w.x.r.abs⟩).L):=
 (chg_tt0 b bM L hL k q hl x z).re (by repeat (first | exact trivial | refine ⟨Sim.ptr,?_⟩ | refine ⟨Sim.fn ⟨Sim.ptr,trivial⟩ trivial,?_⟩ | refine ⟨Sim.fn trivial ⟨Sim.ptr,trivial⟩,?_⟩ | refine ⟨zr,?_⟩)) rfl (fun x => ⟨rfl,rfl,zr,rfl⟩)
theorem chg_ff0 (b bM:Nat) (L:Shf) (hL:L.length ≤ 100000) (k:Int) (q:WntA) (hl:LabOk q.lab) (x z:SpA):SpecM Tryz.prog 59 [.ptr 0 b 0,wntV q,.agg (elC x),.agg (elC z),.bool .ff] [(0,⟨b,90,[.raw (.map (some bM)),.int .i64 k]⟩)] (some bM) (shK bM L) (fun y => ⟨.tup [gotV (gotA y (chgL L q.lab q.ver x.w.ver false ⟨z.w.ver,z.has,z.w.x.r.abs⟩).got),.int .i64 (chgL L q.lab q.ver x.w.ver false ⟨z.w.ver,z.has,z.w.x.r.abs⟩).err],[(0,[.raw (.map (some bM)),.int .i64 (if (chgL L q.lab q.ver x.w.ver false ⟨z.w.ver,z.has,z.w.x.r.abs⟩).wrote then IntKind.i64.wrap (k + 1) else k)])],[]⟩) (fun _ _ => shK bM (chgL L q.lab q.ver x.w.ver false ⟨z.w.ver,z.has,z.w.x.r.abs⟩).L):=by
 intro m w hm hargs hpre hI
 have hmx:maxLen=9223372036854775807:=rfl
 have hmp:=shK_map hI
 obtain ⟨CD,hCD⟩:=eqv ((chgL L q.lab q.ver x.w.ver false ⟨z.w.ver,z.has,z.w.x.r.abs⟩))
 rw [← hCD]
 refine enM (bo:=some bM) 50 hm hpre hI hargs Tryz.func59 fun B hB a0 hF => ?_
 refine wp_seq (rg hB TA_ok [0,4,6,7,8,10] [0,6,7,8,10] [] hF fun X0 a0 w1 hF => ?_)
 refine wp_seq (wp_block (wp_seq (rg hB TA_ok [12,0,4,6,7,8,10] [0,6,7,8,10] [] hF fun X1 a0 w1 hF => ?_)))
 apply test_ok hF rfl<;>intro hb hF
 ·have hv:q.ver ≠ x.w.ver:=by subst hB; simpa [std,sC] using hb
  have hW:CD=⟨L,false,⟨8,x.w.ver,false,zeroRec⟩,0⟩:=by rw [hCD]; unfold chgL; rw [if_pos hv]
  refine wp_seq (rg hB TA_ok [10,11] [0,10] [] hF fun X2 a0 w1 hF => ?_)
  refine wp_ret ((rm hB TA_ok hF (⟨0,fun _ => none,fun _ => 0,fun _ => ⟨#[]⟩⟩) [] (hmap:=?_) (he:=?_) (hs:=?_) (hJ:=?_)).1)
  ·intro b hb; cases hb; exact ⟨hmp,fun m h => shK_map h⟩
  ·subst hB; simp only [hW]
   exact Sim.tup ⟨Sim.agg ⟨zr,zr,zr,zr,zq0,zr,zr,zr,trivial⟩,zr,trivial⟩
  ·subst hB; simp only [hW]
   exact ⟨rfl,⟨_,rfl,zl⟩,trivial⟩
  simp only [hW]; exact fun _ _ h => h
 have hv:¬ q.ver ≠ x.w.ver:=by subst hB; simpa [std,sC] using hb
 refine wp_seq (wp_region_lit (lpr 0 7 hB TA_ok [24,28,0,6,8,10] [0,6,8,10] [] hF fun X3_0 a0 w1 hF => ?_))
 obtain ⟨D,E,hSh⟩:=hF.kept
 obtain ⟨zz,hzz⟩:=eqv (Maps.size D)
 have hzl:zz=L.length:=hzz.trans hSh.size
 refine unguard (wanted_tt hF rfl rfl rfl) (man_mlen rfl rfl rfl rfl rfl rfl rfl hF (Nat.le_of_ble_eq_true rfl) rfl map_und' hSh.map ?_)
 rw [← hzz]
 intro a0 hF
 refine lnd 8 hB TA_ok [21,0,6,8,10] [0,6,8,10] [] hF fun X3 a0 w1 hF => ?_
 apply test_ok hF rfl<;>intro hb hF
 ·have hfull:2000 ≤ L.length:=by
   have:(2000:Int) ≤ (zz:Int):=by subst hB; simpa [std,sC] using hb
   omega
  have hW:CD=⟨L,false,zeroGot,12⟩:=by rw [hCD]; unfold chgL; rw [if_neg hv,if_pos ⟨rfl,hfull⟩]
  refine wp_seq (rg hB TA_ok [10,11] [0,10] [] hF fun X4 a0 w1 hF => ?_)
  refine wp_ret ((rm hB TA_ok hF (⟨0,fun _ => none,fun _ => 0,fun _ => ⟨#[]⟩⟩) [] (hmap:=?_) (he:=?_) (hs:=?_) (hJ:=?_)).1)
  ·intro b hb; cases hb; exact ⟨hmp,fun m h => shK_map h⟩
  ·subst hB; simp only [hW]
   exact Sim.tup ⟨Sim.agg ⟨zr,zr,zr,zr,zq0,zr,zr,zr,trivial⟩,zr,trivial⟩
  ·subst hB; simp only [hW]
   exact ⟨rfl,⟨_,rfl,zl⟩,trivial⟩
  simp only [hW]; exact fun _ _ h => h
 have hfull:¬ 2000 ≤ L.length:=by
  have:¬ (2000:Int) ≤ (zz:Int):=by subst hB; simpa [std,sC] using hb
  omega
 obtain ⟨L2,hL2⟩:=eqv (putL q.lab ⟨z.w.ver,z.has,z.w.x.r.abs⟩ L)
 have hW:CD=⟨L2,true,⟨0,z.w.ver,false,zeroRec⟩,0⟩:=by rw [hCD,hL2]; unfold chgL; rw [if_neg hv,if_neg (fun h => hfull h.2)]
 refine wp_skip (wp_seq ?_)
 apply drawn2_okB hB 7 none ?hH (by kernel_rfl) TA_ok [36,38,39,0,8,10] [0,8,10] [] hF rfl
 case hH => exact handOK_none
 case hex => intro A X; conv => lhs; cbv
 case hD => kernel_rfl
 case hZ => kernel_rfl
 case hlen => rfl
 case hob =>
  intro X
  subst hB
  simp only [AO,Ob.holds,BE.den]<;>and_intros<;>intros<;>trivial
 case hQ =>
 intro X5 a0 w1 hF
 obtain ⟨D2,E2,hSh2⟩:=hF.kept
 refine man_mapUpdate (k:=37) (e:=92) rfl rfl rfl rfl hF rfl rfl rfl rfl rfl labK map_und' hSh2.map (by omega) (key_lab hl) (fun _ => .inr rfl) (shK bM L2) (fun m w' hk hkb hv hM => ?_) ?_
 ·rw [hL2]; exact shK_put hSh2.map hl hk hkb (x:=⟨⟨q.lab,z.w.ver,z.w.x⟩,z.has⟩) (zr) hv hM
 intro w1 hF
 replace hF:=hF.keep [0,8,10] [0,8,10]
 refine wpList_nil (wp_seq (rg hB TA_ok [8,10] [0,8,10] [] hF fun X6 a0 w1 hF => ?_))
 refine wp_seq (rg hB TA_ok [10,11] [0,10] [] hF fun X7 a0 w1 hF => ?_)
 refine wp_ret ((rm hB TA_ok hF (⟨0,fun _ => none,fun _ => 0,fun _ => ⟨#[]⟩⟩) [] (hmap:=?_) (he:=?_) (hs:=?_) (hJ:=?_)).1)
 ·intro b hb; cases hb; exact ⟨hmp,fun m h => shK_map h⟩
 ·subst hB; simp only [hW]
  exact Sim.tup ⟨Sim.agg ⟨zr,zr,zr,zr,zq0,zr,zr,zr,trivial⟩,zr,trivial⟩
 ·subst hB; simp only [hW]
  exact ⟨rfl,⟨_,rfl,zl⟩,trivial⟩
 simp only [hW]; exact fun _ _ h => h
theorem chg_ff (k0:Nat) (b bM:Nat) (L:Shf) (hL:L.length ≤ 100000) (k:Int) (q:WntA) (hl:LabOk q.lab) (x z:SpA):SpecM Tryz.prog 59 [.ptr k0 b 0,wntV q,.agg (elC x),.agg (elC z),.bool .ff] [(k0,⟨b,90,[.raw (.map (some bM)),.int .i64 k]⟩)] (some bM) (shK bM L) (fun y => ⟨.tup [gotV (gotA y (chgL L q.lab q.ver x.w.ver false ⟨z.w.ver,z.has,z.w.x.r.abs⟩).got),.int .i64 (chgL L q.lab q.ver x.w.ver false ⟨z.w.ver,z.has,z.w.x.r.abs⟩).err],[(k0,[.raw (.map (some bM)),.int .i64 (if (chgL L q.lab q.ver x.w.ver false ⟨z.w.ver,z.has,z.w.x.r.abs⟩).wrote then IntKind.i64.wrap (k + 1) else k)])],[]⟩) (fun _ _ => shK bM (chgL L q.lab q.ver x.w.ver false ⟨z.w.ver,z.has,z.w.x.r.abs⟩).L):=
 (chg_ff0 b bM L hL k q hl x z).re (by repeat (first | exact trivial | refine ⟨Sim.ptr,?_⟩ | refine ⟨Sim.fn ⟨Sim.ptr,trivial⟩ trivial,?_⟩ | refine ⟨Sim.fn trivial ⟨Sim.ptr,trivial⟩,?_⟩ | refine ⟨zr,?_⟩)) rfl (fun x => ⟨rfl,rfl,zr,rfl⟩)
theorem chg_m (k0:Nat) (b bM:Nat) (L:Shf) (hL:L.length ≤ 100000) (k:Int) (q:WntA) (hl:LabOk q.lab) (x z:SpA) (hh:Bool):SpecM Tryz.prog 59 [.ptr k0 b 0,wntV q,.agg (elC x),.agg (elC z),.bool (.v hh)] [(k0,⟨b,90,[.raw (.map (some bM)),.int .i64 k]⟩)] (some bM) (shK bM L) (fun y => ⟨.tup [gotV (gotA y (chgL L q.lab q.ver x.w.ver hh ⟨z.w.ver,z.has,z.w.x.r.abs⟩).got),.int .i64 (chgL L q.lab q.ver x.w.ver hh ⟨z.w.ver,z.has,z.w.x.r.abs⟩).err],[(k0,[.raw (.map (some bM)),.int .i64 (if (chgL L q.lab q.ver x.w.ver hh ⟨z.w.ver,z.has,z.w.x.r.abs⟩).wrote then IntKind.i64.wrap (k + 1) else k)])],[]⟩) (fun _ _ => shK bM (chgL L q.lab q.ver x.w.ver hh ⟨z.w.ver,z.has,z.w.x.r.abs⟩).L):=by
 cases hh with
 | true => exact (chg_tt k0 b bM L hL k q hl x z).args ⟨zr,zr,zr,zr,Sim.bool rfl,trivial⟩
 | false => exact (chg_ff k0 b bM L hL k q hl x z).args ⟨zr,zr,zr,zr,Sim.bool rfl,trivial⟩
theorem doL_chg {L:Shf} {w:Wnt} (hg:(w.kind=1 ∨ w.kind=2 ∨ w.kind=3) ∧ isL w.lab=true ∧ (w.kind=2 → isR w.r=true)) (hk:¬ w.kind=1):doL L w=chgL L w.lab w.ver (spotOf L w.lab).ver (findL w.lab L).isSome ⟨inc (spotOf L w.lab).ver,decide (w.kind=2),if w.kind=2 then w.r else zeroRec⟩:=by
 refine (if_pos hg).trans ((if_neg hk).trans ?_)
 unfold chgL
 by_cases hv:w.ver=(spotOf L w.lab).ver
 ·have h1:¬ w.ver ≠ (spotOf L w.lab).ver:=fun h => h hv
  have e:((findL w.lab L).isNone=true ∧ 2000 ≤ L.length)=((findL w.lab L).isSome=false ∧ 2000 ≤ L.length):=by
   cases findL w.lab L<;>simp
  refine (if_neg h1).trans (Eq.symm ((if_neg h1).trans ?_))
  rw [← hv]
  simp only [← e]
  rfl
 exact (if_pos hv).trans (if_pos hv).symm
theorem enters40:Enters Tryz.prog 40:=fun _ _ => by kernel_rfl
theorem do_m0 (b bM:Nat) (L:Shf) (hL:L.length ≤ 100000) (k:Int) (q:WntA) (hwn:q.x.r.n ≤ maxLen) (hl:LabOk q.lab) (hwb:U64 q.lab.bits) (hwx:U64 q.x.r.nx.bits):SpecM Tryz.prog 40 [.ptr 0 b 0,wntV q] [(0,⟨b,90,[.raw (.map (some bM)),.int .i64 k]⟩)] (some bM) (shK bM L) (fun y => ⟨.tup [gotV (gotA y (doL L q.abs).got),.int .i64 (doL L q.abs).err],[(0,[.raw (.map (some bM)),.int .i64 (if (doL L q.abs).wrote then IntKind.i64.wrap (k + 1) else k)])],[]⟩) (fun _ _ => shK bM (doL L q.abs).L):=by
 intro m w hm hargs hpre hI
 have hmx:maxLen=9223372036854775807:=rfl
 have hmp:=shK_map hI
 have S1:=isL_s q.lab hwb
 have S2:=isR_s q.x.A q.x.r.n q.x.c q.x.r.f (by omega) q.x.r.kd q.x.r.nx q.x.r.mrk hwx
 rw [← isR_abs] at S2
 simp only [labAV,recI,rowI] at S1 S2
 obtain ⟨il,hil⟩:=eqv (isL q.lab)
 obtain ⟨ir,hir⟩:=eqv (isR q.x.r.abs)
 rw [← hil] at S1
 rw [← hir] at S2
 obtain ⟨D0,hD⟩:=eqv ((doL L q.abs))
 rw [← hD]
 skip
 refine enM (bo:=some bM) 70 hm hpre hI hargs Tryz.func40 fun B hB a0 hF => ?_
 refine wp_seq (rg hB TA_ok [0,3,4] [0,3,4] [] hF fun X0 a0 w1 hF => ?_)
 refine wp_seq (wp_seq (rg hB TA_ok [10,0,3,4] [0,3,4] [] hF fun X1 a0 w1 hF => ?_))
 refine test_ff hF rfl (fun hF => ?_)
 obtain ⟨DM,E,hSh⟩:=hF.kept
 replace hF:=hF.withK (K':=shD DM E bM L) hSh
 obtain ⟨el,hel⟩:=eqv (elA (adr E L) q.lab (spotOf L q.lab))
 obtain ⟨hh,hhh⟩:=eqv ((findL q.lab L).isSome)
 refine wp_skip (wp_seq ?_)
 apply drawn2_okB hB 13 (some (6,[.tmp 16,.tmp 18],[.raw (.map (some bM)),.agg [.int .i64 q.lab.len,.int .u64 q.lab.bits]],.tup [.agg [.int .u64 el.w.ver,.bool (.v el.has),.int .i64 el.w.x.r.kd,.sl none el.w.x.A el.w.x.r.n el.w.x.c 2 (fun i => itC (el.w.x.r.f i)),.int .i64 el.w.x.r.nx.len,.int .u64 el.w.x.r.nx.bits,.int .u64 el.w.x.r.mrk],.bool (.v hh)])) ?hH (by kernel_rfl) TA_ok [0,3,4,6,7] [0,3,4,6] [] hF rfl
 case hH => exact hand_look hl hel hhh (fun o h => by cases h; rfl)
 case hex => intro A X; conv => lhs; cbv
 case hD => kernel_rfl
 case hZ => kernel_rfl
 case hlen => rfl
 case hob =>
  intro X
  subst hB
  simp only [AO,Ob.holds,BE.den]<;>and_intros<;>intros<;>trivial
 case hQ =>
 intro X3 a0 w1 hF
 replace hF:=hF.withK (K':=shK bM L) ⟨DM,E,hF.kept⟩
 have hev:el.w.ver=(spotOf L q.lab).ver:=by rw [hel]
 have heh:el.has=(spotOf L q.lab).has:=by rw [hel]
 have her:el.w.x.r.abs=(spotOf L q.lab).r:=by rw [hel]; exact abs_rn _
 refine wpList_nil (wp_seq (rg hB TA_ok [0,3,4,6,7,8] [8,0,3,4,6] [] hF fun X4 a0 w1 hF => ?_))
 obtain ⟨vi,hvi⟩:=eqv (inc (spotOf L q.lab).ver)
 replace hF:=hF.memS (cells':=[.int .u64 vi,.bool .ff,.int .i64 0,.sl none none 0 0 2 (fun _ => []),.int .i64 0,.int .u64 0,.int .u64 0]) ⟨(by subst hB; rw [hvi,← hev]; exact zr),zr,zr,zr,zr,zr,zr,trivial⟩
 refine wp_seq (wp_block (wp_seq (cut_one (ι:=SpA) (S0:=[]) (M0:=[(8,_)]) (G0:=[]) (fun z => []) (fun z => [(8,⟨(X4 4).b,92,elC z⟩)]) (fun z => []) (fun z => ¬ q.kind=1 ∧ z.w.ver=vi ∧ ((q.kind=1 ∨ q.kind=2 ∨ q.kind=3) ∧ isL q.lab=true ∧ (q.kind=2 → isR q.x.r.abs=true)) ∧ z.has=decide (q.kind=2) ∧ z.w.x.r.abs=(if q.kind=2 then q.x.r.abs else zeroRec)) hF ?_ ?_)))
 ·have O1:=S1
  refine wp_block (wp_seq (wp_block (wp_seq (wp_block (wp_seq (wp_block (wp_seq (wp_seq (wp_seq (rg hB TA_ok [26,0,3,4,6,7,8] [8,0,3,4,6] [(2,.r fun _ => .bool (.v il))] hF fun X5 a0 w1 hF => ?_))))))))))
  apply test_ok hF rfl<;>intro hb hF
  ·have h9:(!il)=true:=by subst hB; exact hb
   have hbad:¬ ((q.kind=1 ∨ q.kind=2 ∨ q.kind=3) ∧ isL q.lab=true ∧ (q.kind=2 → isR q.x.r.abs=true)):=by rw [← hil]; intro h; rw [h.2.1] at h9; cases h9
   have hW:D0=⟨L,false,zeroGot,1⟩:=by rw [hD]; exact if_neg hbad
   refine wp_exit (wp_seq (wp_seq (rg hB TA_ok [4,5] [0,4] [] hF fun X9 a0 w1 hF => ?_)))
   refine wp_ret ((rm hB TA_ok hF (⟨0,fun _ => none,fun _ => 0,fun _ => ⟨#[]⟩⟩) [] (hmap:=?_) (he:=?_) (hs:=?_) (hJ:=?_)).1)
   ·intro b hb; cases hb; exact ⟨hmp,fun m h => shK_map h⟩
   ·subst hB; simp only [hW]
    exact Sim.tup ⟨Sim.agg ⟨zr,zr,zr,zr,zq0,zr,zr,zr,trivial⟩,zr,trivial⟩
   ·subst hB; simp only [hW]
    exact ⟨rfl,⟨_,rfl,zl⟩,trivial⟩
   simp only [hW]; exact fun _ _ h => h
  have hl1:isL q.lab=true:=by
   have h9:(!il)=false:=by subst hB; exact hb
   rw [← hil]; simpa using h9
  refine wp_skip (wp_seq (wp_seq (rg hB TA_ok [31,0,3,4,6,7,8] [8,0,3,4,6] [] hF fun X6 a0 w1 hF => ?_)))
  apply test_ok hF rfl<;>intro hb hF
  ·have hk1:q.kind=1:=by subst hB; simpa [std,sC] using hb
   have hgd:((q.kind=1 ∨ q.kind=2 ∨ q.kind=3) ∧ isL q.lab=true ∧ (q.kind=2 → isR q.x.r.abs=true)):=⟨.inl hk1,hl1,fun h => by omega⟩
   have hW:D0=⟨L,false,⟨0,el.w.ver,el.has,el.w.x.r.abs⟩,0⟩:=by rw [hD,hev,heh,her]; refine (if_pos hgd).trans ?_; exact if_pos hk1
   refine wp_exit (wp_seq (wp_seq (rg hB TA_ok [4,5] [0,4] [] hF fun X10 a0 w1 hF => ?_)))
   refine wp_ret ((rm hB TA_ok hF (spY none 0 (fun _ => zSp) el.w.x.A el.w.x.c 0) [] (hmap:=?_) (he:=?_) (hs:=?_) (hJ:=?_)).1)
   ·intro b hb; cases hb; exact ⟨hmp,fun m h => shK_map h⟩
   ·subst hB; simp only [hW]
    exact Sim.tup ⟨Sim.agg (got_sim (v:=⟨0,el.w.ver,el.has,el.w.x⟩) rfl rfl rfl),zr,trivial⟩
   ·subst hB; simp only [hW]
    exact ⟨rfl,⟨_,rfl,zl⟩,trivial⟩
   simp only [hW]; exact fun _ _ h => h
  have hk1:¬ q.kind=1:=by subst hB; simpa [std,sC] using hb
  refine wp_skip (wp_seq (wp_seq (rg hB TA_ok [35,0,3,4,6,7,8] [8,0,3,4,6] [] hF fun X7 a0 w1 hF => ?_)))
  apply test_ok hF rfl<;>intro hb hF
  ·have hk2:q.kind=2:=by subst hB; simpa [std,sC] using hb
   have O1:=S2
   refine wp_exit (wp_seq (wp_seq (rg hB TA_ok [54,0,3,4,6,7,8] [8,0,3,4,6] [(2,.r fun _ => .bool (.v ir))] hF fun X11 a0 w1 hF => ?_)))
   apply test_ok hF rfl<;>intro hb hF
   ·have h9:(!ir)=true:=by subst hB; exact hb
    have hbad:¬ ((q.kind=1 ∨ q.kind=2 ∨ q.kind=3) ∧ isL q.lab=true ∧ (q.kind=2 → isR q.x.r.abs=true)):=by rw [← hir]; intro h; rw [h.2.2 hk2] at h9; cases h9
    have hW:D0=⟨L,false,zeroGot,1⟩:=by rw [hD]; exact if_neg hbad
    refine wp_seq (rg hB TA_ok [4,5] [0,4] [] hF fun X12 a0 w1 hF => ?_)
    refine wp_ret ((rm hB TA_ok hF (⟨0,fun _ => none,fun _ => 0,fun _ => ⟨#[]⟩⟩) [] (hmap:=?_) (he:=?_) (hs:=?_) (hJ:=?_)).1)
    ·intro b hb; cases hb; exact ⟨hmp,fun m h => shK_map h⟩
    ·subst hB; simp only [hW]
     exact Sim.tup ⟨Sim.agg ⟨zr,zr,zr,zr,zq0,zr,zr,zr,trivial⟩,zr,trivial⟩
    ·subst hB; simp only [hW]
     exact ⟨rfl,⟨_,rfl,zl⟩,trivial⟩
    simp only [hW]; exact fun _ _ h => h
   have hr1:isR q.x.r.abs=true:=by
    have h9:(!ir)=false:=by subst hB; exact hb
    rw [← hir]; simpa using h9
   have S3:=own_s q.x (by have h8:=hr1; rw [isR_abs] at h8; have:=(isRF_kind h8).2.2.1; omega)
   have O1:=S3
   refine wp_skip (rg hB TA_ok [0,3,4,6,7,8] [8,0,3,4,6] [(2,.r fun y => .agg [.int .i64 q.x.r.kd,.sl none (y.A 0) q.x.r.n (y.c 0) 2 (fun t => itC (q.x.r.f t)),.int .i64 q.x.r.nx.len,.int .u64 q.x.r.nx.bits,.int .u64 q.x.r.mrk])] hF fun X13 a0 w1 hF => ?_)
   refine ⟨⟨⟨q.lab,vi,⟨(X13 2).A 0,(X13 2).c 0,q.x.r⟩⟩,true⟩,⟨hk1,rfl,⟨.inr (.inl hk2),hl1,fun _ => hr1⟩,?_,?_⟩,hF.memS (cells':=elC ⟨⟨q.lab,vi,⟨(X13 2).A 0,(X13 2).c 0,q.x.r⟩⟩,true⟩) ⟨zr,Sim.tt,zr,zr,zr,zr,zr,trivial⟩⟩
   ·rw [decide_eq_true hk2]
   rw [if_pos hk2]
  have hk2:¬ q.kind=2:=by subst hB; simpa [std,sC] using hb
  refine wp_skip (wp_seq (rg hB TA_ok [39,0,3,4,6,7,8] [8,0,3,4,6] [] hF fun X8 a0 w1 hF => ?_))
  apply test_ok hF rfl<;>intro hb hF
  ·have hk3:q.kind=3:=by subst hB; simpa [std,sC] using hb
   refine wp_exit (⟨⟨⟨q.lab,vi,zRA⟩,false⟩,⟨hk1,rfl,⟨.inr (.inr hk3),hl1,fun h => by omega⟩,?_,?_⟩,hF.memS (cells':=elC ⟨⟨q.lab,vi,zRA⟩,false⟩) ⟨zr,Sim.ff,zr,zq0,zr,zr,zr,trivial⟩⟩)
   ·rw [decide_eq_false (by omega)]
   rw [if_neg (by omega)]; rfl
  have hk3:¬ q.kind=3:=by subst hB; simpa [std,sC] using hb
  have hbad:¬ ((q.kind=1 ∨ q.kind=2 ∨ q.kind=3) ∧ isL q.lab=true ∧ (q.kind=2 → isR q.x.r.abs=true)):=fun h => by rcases h.1 with h | h | h; exact hk1 h; exact hk2 h; exact hk3 h
  have hW:D0=⟨L,false,zeroGot,1⟩:=by rw [hD]; exact if_neg hbad
  refine wp_skip (wp_exit (wp_seq (rg hB TA_ok [4,5] [0,4] [] hF fun X15 a0 w1 hF => ?_)))
  refine wp_ret ((rm hB TA_ok hF (⟨0,fun _ => none,fun _ => 0,fun _ => ⟨#[]⟩⟩) [] (hmap:=?_) (he:=?_) (hs:=?_) (hJ:=?_)).1)
  ·intro b hb; cases hb; exact ⟨hmp,fun m h => shK_map h⟩
  ·subst hB; simp only [hW]
   exact Sim.tup ⟨Sim.agg ⟨zr,zr,zr,zr,zq0,zr,zr,zr,trivial⟩,zr,trivial⟩
  ·subst hB; simp only [hW]
   exact ⟨rfl,⟨_,rfl,zl⟩,trivial⟩
  simp only [hW]; exact fun _ _ h => h
 rintro z ⟨hk1,hz1,hgd,hz2,hz3⟩ a0 w1 hF
 try dsimp only at hk1
 try dsimp only at hz1
 try dsimp only at hgd
 try dsimp only at hz2
 try dsimp only at hz3
 have SC:=chg_m 0 b bM L hL k q hl el z hh
 obtain ⟨CD,hCD⟩:=eqv (chgL L q.lab q.ver el.w.ver hh ⟨z.w.ver,z.has,z.w.x.r.abs⟩)
 rw [← hCD] at SC
 have hDC:D0=CD:=by
  rw [hD,hCD,doL_chg (w:=q.abs) hgd hk1,hz1,hz2,hz3,hvi,hev,hhh]; rfl
 obtain ⟨G,hG⟩:∃ G:Atom → GotA,G=fun y => gotA y CD.got:=⟨_,rfl⟩
 have hGG:∀ y,gotA y CD.got=G y:=fun y => by rw [hG]
 simp only [hGG] at SC
 obtain ⟨k2,hk2⟩:=eqv ((if CD.wrote then IntKind.i64.wrap (k + 1) else k))
 rw [← hk2] at SC
 refine wp_seq (wp_seq (wp_region_lit (lpr 0 5 hB TA_ok [61,62,63,64,65,4] [0,4] [] hF fun X14_0 a0 w1 hF => ?_)))
 refine man_callM rfl rfl rfl rfl hF rfl rfl enters59 SC (fun _ _ h => h) (fun b hb => by cases hb; exact fun _ => .inr rfl) (zl) (by intro e he; simp only [List.mem_singleton] at he; subst he; rfl) rfl rfl (fun _ => shK bM CD.L) (fun _ _ _ _ _ _ _ _ _ h => h) ?_
 intro y a0 w1 hF
 refine lnd 6 hB TA_ok [4,5] [0,4] [] hF fun X14 a0 w1 hF => ?_
 refine wp_ret ((rm hB TA_ok hF (y) [] (hmap:=?_) (he:=?_) (hs:=?_) (hJ:=?_)).1)
 ·intro b hb; cases hb; exact ⟨hmp,fun m h => shK_map h⟩
 ·subst hB; rw [hDC,hGG]; exact zr
 ·rw [hDC,← hk2]
  exact ⟨rfl,⟨_,rfl,zl⟩,trivial⟩
 rw [hDC]; exact fun _ _ h => h
theorem do_m (k0:Nat) (b bM:Nat) (L:Shf) (hL:L.length ≤ 100000) (k:Int) (q:WntA) (hwn:q.x.r.n ≤ maxLen) (hl:LabOk q.lab) (hwb:U64 q.lab.bits) (hwx:U64 q.x.r.nx.bits):SpecM Tryz.prog 40 [.ptr k0 b 0,wntV q] [(k0,⟨b,90,[.raw (.map (some bM)),.int .i64 k]⟩)] (some bM) (shK bM L) (fun y => ⟨.tup [gotV (gotA y (doL L q.abs).got),.int .i64 (doL L q.abs).err],[(k0,[.raw (.map (some bM)),.int .i64 (if (doL L q.abs).wrote then IntKind.i64.wrap (k + 1) else k)])],[]⟩) (fun _ _ => shK bM (doL L q.abs).L):=
 (do_m0 b bM L hL k q hwn hl hwb hwx).re (by repeat (first | exact trivial | refine ⟨Sim.ptr,?_⟩ | refine ⟨Sim.fn ⟨Sim.ptr,trivial⟩ trivial,?_⟩ | refine ⟨Sim.fn trivial ⟨Sim.ptr,trivial⟩,?_⟩ | refine ⟨zr,?_⟩)) rfl (fun x => ⟨rfl,rfl,zr,rfl⟩)
end Go.Proofs.YtjgnoldondblaaaGreat.Sym
namespace Go.Proofs.YtjgnoldondblaaaGreat.Sym
open Go Go.RowKit
open Go.Sort (flatK HoldsK putRowK get_flatK size_flatK)
section
variable {α : Type} [Inhabited α] {k:Nat} {cells:α → List AV} {w w':World} {B e:Nat} {A:Option Addr} {n c:Nat} {h:Nat → α}
abbrev encV (cells:α → List AV):α → List Value:=fun x => (cells x).map AV.den
theorem flat_at (hk:∀ x,(cells x).length=k) (d:Array α) (i j:Nat) (hi:i < d.size) (hj:j < k):(flatK (encV cells) k d)[i * k + j]! = ((cells d[i]!).map AV.den)[j]!:=by
 have hlt:i * k + j < d.size * k:=by
  have:(i + 1) * k ≤ d.size * k:=Nat.mul_le_mul_right k hi
  rw [Nat.add_mul,Nat.one_mul] at this
  omega
 rw [get_flatK _ _ _ _ hlt]
 have h1:(i * k + j) / k=i:=by rw [Nat.mul_comm,Nat.mul_add_div (by omega),Nat.div_eq_of_lt hj,Nat.add_zero]
 have h2:(i * k + j) % k=j:=by rw [Nat.mul_comm,Nat.mul_add_mod,Nat.mod_eq_of_lt hj]
 rw [h1,h2]
theorem holds_of_own (hk:∀ x,(cells x).length=k) (hO:Own w B e k (.slice A n c) n (rowFlat (fun t => cells (h t)) n)) (hn:0 < n):∃ b,A=some ⟨b,0,none⟩ ∧ B ≤ b ∧ b < w.heap.size ∧ HoldsK (encV cells) k w b 0 ((List.range n).map h).toArray:=by
 obtain ⟨b,hA,hb⟩:=own_head hO hn
 obtain ⟨h1,h2⟩:=hO.lt b hb
 refine ⟨b,hA,h1,h2,fun t ht => ?_⟩
 have hsz:((List.range n).map h).toArray.size=n:=by simp
 rw [size_flatK,hsz] at ht
 have hk0:0 < k:=by rcases Nat.eq_zero_or_pos k with h0 | h0; rw [h0] at ht; omega; exact h0
 obtain ⟨i,j,hj,rfl⟩:∃ i j,j < k ∧ t=i * k + j:=⟨t / k,t % k,Nat.mod_lt _ hk0,by rw [Nat.mul_comm]; exact (Nat.div_add_mod t k).symm⟩
 have hi:i < n:=by
  refine Nat.lt_of_not_le fun hle => ?_
  have:=Nat.mul_le_mul_right k hle
  omega
 have hd:((List.range n).map h).toArray[i]! = h i:=by
  rw [getElem!_pos _ i (by rw [hsz]; exact hi)]; simp
 rw [flat_at hk _ i j (by rw [hsz]; exact hi) hj,hd,Nat.zero_add]
 have hg:=rowFlat_get (cells:=fun t => cells (h t)) (n:=n) (fun i _ => hk _) hi hj
 have hjl:j < ((cells (h i)).map AV.den).length:=by rw [List.length_map,hk]; exact hj
 rw [List.getElem?_eq_getElem hjl] at hg
 refine ⟨?_,?_⟩
 ·rw [own_cells hO hb _ _ hg,getElem!_pos _ j hjl]; rfl
 obtain ⟨_,h2 | ⟨g,cap,cur,hv,_,hcur,_⟩⟩:=hO
 ·obtain ⟨h0,_⟩:=h2; omega
 injection hv with e1
 rw [hA] at e1
 injection e1 with e1
 injection e1 with e1
 subst e1
 simp [World.frozen?,hcur]
theorem heap_sort (d':Array α) (m:Nat) (os:Array Obj) {b:Nat} (hb:b < w.heap.size):(sortWorldK (encV cells) k w b 0 m d' os).heap[b]? = (w.heap[b]?).map (Go.Sort.onCells (Go.Sort.putCells id 0 (flatK (encV cells) k d'))) ∧ ∀ x,x < w.heap.size → x ≠ b → (sortWorldK (encV cells) k w b 0 m d' os).heap[x]? = w.heap[x]?:=by
 have hsz:(putRowK (encV cells) k (Go.Sort.ahead w m) b 0 d').heap.size=w.heap.size:=by simp [putRowK,Go.Sort.putRow,Go.Sort.mapBlock,Go.Sort.ahead]
 refine ⟨?_,fun x hx hne => ?_⟩
 ·unfold sortWorldK Go.Sort.grow
  simp only
  rw [Array.getElem?_append_left (by rw [hsz]; exact hb)]
  simp [putRowK,Go.Sort.putRow,Go.Sort.mapBlock,Go.Sort.ahead,Array.getElem?_modify]
 unfold sortWorldK Go.Sort.grow
 simp only
 rw [Array.getElem?_append_left (by rw [hsz]; exact hx)]
 simp [putRowK,Go.Sort.putRow,Go.Sort.mapBlock,Go.Sort.ahead,Array.getElem?_modify]
 intro e; exact absurd e.symm hne
theorem own_sort (hk:∀ x,(cells x).length=k) (hO:Own w B e k (.slice A n c) n (rowFlat (fun t => cells (h t)) n)) (hn:0 < n) {b:Nat} (hA:A=some ⟨b,0,none⟩) (hb:b < w.heap.size) (d':Array α) (hd:d'.size=n) (m:Nat) (os:Array Obj) :
  Own (sortWorldK (encV cells) k w b 0 m d' os) B e k (.slice A n c) n (rowFlat (fun t => cells d'[t]!) n):=by
 have hlen:(rowFlat (fun t => cells d'[t]!) n).length=n * k:=rowFlat_len fun i _ => hk _
 refine ⟨hlen,?_⟩
 rcases hO.2 with ⟨h0,_⟩ | ⟨g,cap,cur,hv,h1,h2,h3,h4,h5,h6,h7⟩
 ·omega
 injection hv with e1 e2 e3
 subst e3
 have:g=b:=by rw [hA] at e1; injection e1 with e1; injection e1 with e1; exact e1.symm
 subst this
 subst e1
 right
 refine ⟨g,c,Go.Sort.putCells id 0 (flatK (encV cells) k d') cur,rfl,h1,?_,h3,h4,h5,?_,?_⟩
 ·rw [(heap_sort d' m os hb).1,h2]; rfl
 ·simp [Go.Sort.putCells,h6]
 apply List.ext_getElem?
 intro t
 by_cases ht:t < n * k
 ·have hcs:t < cur.size:=by
   rw [h6]; have:=Nat.mul_le_mul_right k h3; omega
  rw [List.getElem?_take_of_lt ht]
  have hk0:0 < k:=by rcases Nat.eq_zero_or_pos k with h0 | h0; rw [h0] at ht; omega; exact h0
  obtain ⟨i,j,hj,rfl⟩:∃ i j,j < k ∧ t=i * k + j:=⟨t / k,t % k,Nat.mod_lt _ hk0,by rw [Nat.mul_comm]; exact (Nat.div_add_mod t k).symm⟩
  have hi:i < n:=by
   refine Nat.lt_of_not_le fun hle => ?_
   have:=Nat.mul_le_mul_right k hle
   omega
  rw [rowFlat_get (cells:=fun t => cells d'[t]!) (n:=n) (fun i _ => hk _) hi hj]
  have hf:=flat_at hk d' i j (by rw [hd]; exact hi) hj
  have hjl:j < ((cells d'[i]!).map AV.den).length:=by rw [List.length_map,hk]; exact hj
  rw [getElem!_pos _ j hjl] at hf
  simp only [Array.getElem?_toList,Go.Sort.putCells,Array.getElem?_mapIdx,Array.getElem?_eq_getElem hcs,Option.map_some,Nat.zero_le,true_and,Nat.zero_add,Nat.sub_zero,size_flatK,hd,ht,if_true,id]
  rw [hf,List.getElem?_eq_getElem hjl]
 rw [List.getElem?_eq_none (by rw [List.length_take]; omega),List.getElem?_eq_none (by rw [hlen]; omega)]
theorem sorted_c {P:Program} {f:Nat} {fv:Value} {lt:α → α → Bool} (hk:∀ x,(cells x).length=k) (hO:Own w B e k (.slice A n c) n (rowFlat (fun t => cells (h t)) n))
  (hc:∀ b (d:Array α),d.size=n → HoldsK (encV cells) k w b 0 d → b < w.heap.size → Calls P f #[.slice (some ⟨b,0,none⟩) d.size c,fv] w fun e w' => e = .returned (.tuple #[]) ∧ ∃ d' m os,Go.Sort.PermIn 0 d.size d d' ∧ Go.Sort.SortedIn lt 0 d.size d' ∧ w'=sortWorldK (encV cells) k w b 0 m d' os)
  (h0:n=0 → Calls P f #[.slice A 0 c,fv] w fun e w' => e = .returned (.tuple #[]) ∧ w'=w) :
  Calls P f #[.slice A n c,fv] w fun e' w' => e' = .returned (.tuple #[]) ∧ ∃ h':Nat → α,((List.range n).map h').Perm ((List.range n).map h) ∧ (∀ i j,i < j → j < n → lt (h' j) (h' i)=false) ∧ Own w' B e k (.slice A n c) n (rowFlat (fun t => cells (h' t)) n) ∧ Chg (fun x => ownB (.slice A n c)=some x) w w':=by
 rcases Nat.eq_zero_or_pos n with hn | hn
 ·subst hn
  refine (h0 rfl).mono ?_
  rintro e' w' ⟨rfl,rfl⟩
  exact ⟨rfl,h,.refl _,fun i j _ hj => absurd hj (Nat.not_lt_zero _),hO,Chg.refl _ _⟩
 obtain ⟨b,hA,hB,hb,hH⟩:=holds_of_own hk hO hn
 have hsz:((List.range n).map h).toArray.size=n:=by simp
 have:=hc b _ hsz hH hb
 rw [hsz,← hA] at this
 refine this.mono ?_
 rintro e' w' ⟨rfl,d',m,os,hp,hs,rfl⟩
 have hd:d'.size=n:=by rw [hp.1,hsz]
 refine ⟨rfl,fun i => d'[i]!,?_,fun i j hij hj => hs i j (Nat.zero_le _) hij hj,own_sort hk hO hn hA hb d' hd m os,?_⟩
 ·have h3:=hp.2.2
  have e1:(d'.extract 0 n).toList=(List.range n).map fun i => d'[i]!:=by
   apply List.ext_getElem
   ·simp [hd]
   intro i g1 g2
   have hi:i < n:=by simpa using g2
   simp [getElem!_pos d' i (by rw [hd]; exact hi)]
  have e2:(((List.range n).map h).toArray.extract 0 n).toList=(List.range n).map h:=by
   simp [List.take_of_length_le]
  rw [e1,e2] at h3
  exact h3
 have hown:ownB (.slice A n c)=some b:=by
  obtain ⟨b',hA',hb'⟩:=own_head hO hn
  rw [hA] at hA'
  injection hA' with hA'; injection hA' with hA'
  rw [hA']; exact hb'
 refine ⟨rfl,rfl,rfl,?_,fun x hx hne => (heap_sort d' m os hb).2 x hx (fun e => hne (by rw [e]; exact hown))⟩
 exact size_sortWorldK_c (encV cells) k w b 0 m d' os
end
theorem own_known {m:Nat → Nat → Prop} {w:World} {B e k:Nat} {A:Option Addr} {n c:Nat} {f:Nat → List AV} (hO:Own w B e k (.slice A n c) n (rowFlat f n)) (hk:∀ i,i < n → (f i).length=k) (hm:∀ b,ownB (.slice A n c)=some b → ∀ o,¬ m b o) (h1:∀ i,i < n → ∀ v ∈ f i,v.one=true ∧ Ok m w v) (g:Option Nat):Ok m w (.sl g A n c k f):=by
 obtain ⟨A',c',he,h2,h3⟩:=hO.isSlice
 injection he with e1 e2 e3; subst e3
 refine .sl _ _ _ _ _ _ h2 h3 hk (fun i hi => ?_) (fun i hi => ?_) (fun i hi v hv => (h1 i hi v hv).1) (fun i hi v hv => (h1 i hi v hv).2)
 ·obtain ⟨b,hA,_⟩:=own_head hO (by omega)
  exact ⟨b,0,hA⟩
 obtain ⟨b,hA,hb⟩:=own_head hO (by omega)
 intro j u hu
 have hj:j < k:=by
  have:=(List.getElem?_eq_some_iff.1 hu).1
  rwa [List.length_map,hk i hi] at this
 have hget:=rowFlat_get (cells:=f) hk hi hj
 rw [hu] at hget
 exact ⟨b,0,hA,by rw [Nat.zero_add]; exact own_cells hO hb _ u hget,hm b hb _⟩
theorem Fits.sorted {m0:Nat → Nat → Prop} {w0:World} {S:Nat → Prop} {ds:List Deferred} {K:Kn} {nt key:Nat} {t:Gr} {l l':List (Nat × AV)} {mem:List (Nat × Blk)} {a:Act} {w w':World} (h:Fits ⟨m0,w0,S,ds,K⟩ ⟨nt,l,[],mem,[(key,t)]⟩ a w) (hc:Chg (fun x => ownB t.v=some x) w w')
  (hl:∀ x,(look l' x).known=true → a.tmps[x]? = some (look l' x).den ∧ Ok (St.m ⟨nt,l',[],mem,[]⟩ ⟨m0,w0,S,ds,noK⟩) w' (look l' x)) (hm:∀ k e,lookM mem k=some e → ∀ v ∈ e.cells,Ok (St.m ⟨nt,l',[],mem,[]⟩ ⟨m0,w0,S,ds,noK⟩) w' v):Fits ⟨m0,w0,S,ds,noK⟩ ⟨nt,l',[],mem,[]⟩ a w':=by
 have hlt:∀ b,ownB t.v=some b → w0.heap.size ≤ b:=fun b hb => by
  obtain ⟨_,xs,ho⟩:=h.gr key t (by simp [lookM])
  exact (ho.lt b hb).1
 refine ⟨h.size,h.defers,hl,(fun t p v hg => by cases hg),fun k e he => ?_,h.nodup,(fun k t ht => by cases ht),(fun k t k' e ht => by cases ht),(fun k t k' t' b ht => by cases ht),?_,h.m0,trivial⟩
 ·obtain ⟨h1,h2,h3⟩:=h.mem k e he
  refine ⟨?_,fun v hv => ⟨(h2 v hv).1,hm k e he v hv⟩,h3⟩
  rw [hc.block _ (lt_heap h1) (fun hb => h.sepm key t k e (by simp [lookM]) he hb)]
  exact h1
 exact h.chg.trans hc fun k hk hb => absurd hk (Nat.not_lt.2 (hlt k hb))
theorem Fits.notM {m0:Nat → Nat → Prop} {w0:World} {S:Nat → Prop} {ds:List Deferred} {K:Kn} {nt key:Nat} {t:Gr} {l l':List (Nat × AV)} {mem:List (Nat × Blk)} {a:Act} {w:World} (h:Fits ⟨m0,w0,S,ds,K⟩ ⟨nt,l,[],mem,[(key,t)]⟩ a w):∀ b,ownB t.v=some b → ∀ o,¬ St.m ⟨nt,l',[],mem,[]⟩ ⟨m0,w0,S,ds,noK⟩ b o:=by
 intro b hb o hm
 obtain ⟨_,xs,ho⟩:=h.gr key t (by simp [lookM])
 have h1:=(ho.lt b hb).1
 rcases hm with hm | ⟨k,e,he,hm⟩ | ⟨k,t',ht,_⟩
 ·exact absurd (h.m0 _ _ hm) (Nat.not_lt.2 h1)
 ·subst hm
  exact h.sepm key t k e (by simp [lookM]) he hb
 cases ht
end Go.Proofs.YtjgnoldondblaaaGreat.Sym
namespace Go.Proofs.YtjgnoldondblaaaGreat.Sym
open Go Go.RowKit
def cmpI (x y:Int):Int:=if x < y then -1 else if y < x then 1 else 0
theorem cmpU_c (x y:Int) (w:World):Calls Tryz.prog 23 #[.int .u64 x,.int .u64 y] w fun e w' => e = .returned (.int .i64 (cmpI x y)) ∧ w'=w:=by
 have hn:∀ (x:Int) (w:World),Calls Tryz.prog 50 #[.int .u64 x] w fun e w' => e = .returned (.bool false) ∧ w'=w:=by
  intro x w
  go_enter Tryz.func50,Tryz.ntmps50
  go_wp2_with fail
  go_ret
  simp
 unfold cmpI
 go_enter Tryz.func23,Tryz.ntmps23
 go_wp2_with (go_at_call 50; refine (hn _ _).mono ?_; rintro e w' ⟨rfl,rfl⟩)
 all_goals (go_ret; exact ⟨rfl,rfl⟩)
theorem cmpN_c (x y:Int) (w:World):Calls Tryz.prog 49 #[.int .i64 x,.int .i64 y] w fun e w' => e = .returned (.int .i64 (cmpI x y)) ∧ w'=w:=by
 have hn:∀ (x:Int) (w:World),Calls Tryz.prog 63 #[.int .i64 x] w fun e w' => e = .returned (.bool false) ∧ w'=w:=by
  intro x w
  go_enter Tryz.func63,Tryz.ntmps63
  go_wp2_with fail
  go_ret
  simp
 unfold cmpI
 go_enter Tryz.func49,Tryz.ntmps49
 go_wp2_with (go_at_call 63; refine (hn _ _).mono ?_; rintro e w' ⟨rfl,rfl⟩)
 all_goals (go_ret; exact ⟨rfl,rfl⟩)
theorem or_c (b:Nat) (x y:Int) (w:World) (h0:w.cell? ⟨b,0,none⟩=some (.int .i64 x)) (h1:w.cell? ⟨b,1,none⟩=some (.int .i64 y)):Calls Tryz.prog 48 #[.slice (some ⟨b,0,none⟩) 2 2] w fun e w' => e = .returned (.int .i64 (if x ≠ 0 then x else y)) ∧ w'=w:=by
 go_enter Tryz.func48,Tryz.ntmps48
 go_wp2_with fail
 refine wp_loop_rounds 3 ?_
 simp only [Code.rounds]
 go_wp2_with fail
 all_goals (go_ret; first | exact ⟨rfl,rfl⟩ | (exfalso; simp_all; done) | (refine ⟨?_,rfl⟩; simp_all; done))
def GrF (W w:World):Prop:=∃ q os,w=Go.Sort.grow (W.drewN q) os
theorem GrF.refl (W:World):GrF W W:=⟨0,#[],by simp [Go.Sort.grow,World.drewN]⟩
theorem GrF.drew {W w:World} (h:GrF W w):GrF W w.drew:=by
 obtain ⟨q,os,rfl⟩:=h
 exact ⟨q + 1,os,rfl⟩
theorem GrF.alloc {W w:World} (h:GrF W w) (o:Obj):GrF W (w.alloc o):=by
 obtain ⟨q,os,rfl⟩:=h
 exact ⟨q,os.push o,by simp [Go.Sort.grow,World.alloc,World.drewN]⟩
theorem GrF.size {W w:World} (h:GrF W w):W.heap.size ≤ w.heap.size:=by
 obtain ⟨q,os,rfl⟩:=h
 simp [Go.Sort.grow,World.drewN]
theorem cell_alloc {w:World} {a:Addr} {u:Value} (h:w.cell? a=some u) (o:Obj):(w.alloc o).cell? a=some u:=by
 have hl:=World.block_lt_of_cell? w _ h
 unfold World.cell? at h ⊢
 rw [Below.heap_alloc _ _ _ hl]; exact h
theorem cell_drew {w:World} {a:Addr} {u:Value} (h:w.cell? a=some u):w.drew.cell? a=some u:=h
theorem new2_0 (w:World) (x y:Value) (t:TypeId):(w.alloc (.cells #[x,y] t)).cell? ⟨w.heap.size,0,none⟩=some x:=cell_of_row _ _ 0 _ _ _ (heap_alloc_new w _)
theorem new2_1 (w:World) (x y:Value) (t:TypeId):(w.alloc (.cells #[x,y] t)).cell? ⟨w.heap.size,1,none⟩=some y:=cell_of_row _ _ 1 _ _ _ (heap_alloc_new w _)
theorem size_alloc {n:Nat} {w:World} (h:n ≤ w.heap.size) (o:Obj):n ≤ (w.alloc o).heap.size:=by simp; omega
def cmpLab (a b:Lab):Int:=if cmpI a.bits b.bits ≠ 0 then cmpI a.bits b.bits else cmpI a.len b.len
end Go.Proofs.YtjgnoldondblaaaGreat.Sym
namespace Go.Proofs
open Go.Shelf
def Tryz.sortRow_ren:Go.Shelf.Ren:=⟨fun | 6 => 30 | 15 => 54 | 14 => 53 | 28 => 72 | 29 => 73 | 20 => 64 | 21 => 65 | 22 => 66 | 23 => 67 | 24 => 68 | 25 => 69 | 26 => 70 | 27 => 71 | 46 => 91 | 47 => 92 | 48 => 93 | 49 => 94 | 50 => 95 | 57 => 105 | n => n,fun | 22 => 25 | 24 => 78 | 25 => 81 | 3 => 3 | 39 => 123 | 0 => 0 | 53 => 43 | 55 => 23 | 4 => 4 | 46 => 134 | 45 => 133 | 50 => 138 | 5 => 5 | 9 => 9 | 66 => 159 | 70 => 163 | 76 => 172 | 77 => 173 | n => n,fun | n => n⟩
theorem Tryz.sortRow:Go.Proofs.SlLaysF0.n6 Tryz.prog Tryz.sortRow_ren:={
 mixed:=by kernel_rfl
 f6:=⟨Tryz.f30.name,by decide,Tryz.func30.trans (congrArg some (by kernel_rfl))⟩
 f14:=⟨Tryz.f53.name,by decide,Tryz.func53.trans (congrArg some (by kernel_rfl))⟩
 f15:=Tryz.func54.trans (congrArg some (by kernel_rfl))
 f20:=⟨Tryz.f64.name,by decide,Tryz.func64.trans (congrArg some (by kernel_rfl))⟩
 f21:=⟨Tryz.f65.name,by decide,Tryz.func65.trans (congrArg some (by kernel_rfl))⟩
 f22:=⟨Tryz.f66.name,by decide,Tryz.func66.trans (congrArg some (by kernel_rfl))⟩
 f23:=⟨Tryz.f67.name,by decide,Tryz.func67.trans (congrArg some (by kernel_rfl))⟩
 f24:=⟨Tryz.f68.name,by decide,Tryz.func68.trans (congrArg some (by kernel_rfl))⟩
 f25:=⟨Tryz.f69.name,by decide,Tryz.func69.trans (congrArg some (by kernel_rfl))⟩
 f26:=⟨Tryz.f70.name,by decide,Tryz.func70.trans (congrArg some (by kernel_rfl))⟩
 f27:=⟨Tryz.f71.name,by decide,Tryz.func71.trans (congrArg some (by kernel_rfl))⟩
 f28:=Tryz.func72.trans (congrArg some (by kernel_rfl))
 f29:=Tryz.func73.trans (congrArg some (by kernel_rfl))
 f46:=⟨Tryz.f91.name,by decide,Tryz.func91.trans (congrArg some (by kernel_rfl))⟩
 f47:=Tryz.func92.trans (congrArg some (by kernel_rfl))
 f48:=Tryz.func93.trans (congrArg some (by kernel_rfl))
 f49:=⟨Tryz.f94.name,by decide,Tryz.func94.trans (congrArg some (by kernel_rfl))⟩
 f50:=⟨Tryz.f95.name,by decide,Tryz.func95.trans (congrArg some (by kernel_rfl))⟩
 f57:=⟨Tryz.f105.name,by decide,Tryz.func105.trans (congrArg some (by kernel_rfl))⟩
 t0:=Tryz.underlying0
 a0:=Tryz.isAgg0
 z0:=Tryz.sizeOf0
 v0:=Tryz.zeroValue0
 t3:=Tryz.underlying3
 a3:=Tryz.isAgg3
 z3:=Tryz.sizeOf3
 v3:=Tryz.zeroValue3
 t4:=Tryz.underlying4
 a4:=Tryz.isAgg4
 z4:=Tryz.sizeOf4
 v4:=Tryz.zeroValue4
 t5:=Tryz.underlying5
 a5:=Tryz.isAgg5
 z5:=Tryz.sizeOf5
 v5:=Tryz.zeroValue5
 t9:=Tryz.underlying9
 a9:=Tryz.isAgg9
 z9:=Tryz.sizeOf9
 v9:=Tryz.zeroValue9
 t22:=Tryz.underlying25
 a22:=Tryz.isAgg25
 z22:=Tryz.sizeOf25
 v22:=Tryz.zeroValue25
 t25:=Tryz.underlying81
 a25:=Tryz.isAgg81
 z25:=Tryz.sizeOf81
 v25:=Tryz.zeroValue81
 t39:=Tryz.underlying123
 a39:=Tryz.isAgg123
 z39:=Tryz.sizeOf123
 v39:=Tryz.zeroValue123
 t45:=Tryz.underlying133
 a45:=Tryz.isAgg133
 z45:=Tryz.sizeOf133
 v45:=Tryz.zeroValue133
 t46:=Tryz.underlying134
 a46:=Tryz.isAgg134
 z46:=Tryz.sizeOf134
 v46:=Tryz.zeroValue134
 t50:=Tryz.underlying138
 a50:=Tryz.isAgg138
 z50:=Tryz.sizeOf138
 v50:=Tryz.zeroValue138
 t53:=Tryz.underlying43
 a53:=Tryz.isAgg43
 z53:=Tryz.sizeOf43
 v53:=Tryz.zeroValue43
 t55:=Tryz.underlying23
 a55:=Tryz.isAgg23
 z55:=Tryz.sizeOf23
 v55:=Tryz.zeroValue23
 t66:=Tryz.underlying159
 a66:=Tryz.isAgg159
 z66:=Tryz.sizeOf159
 v66:=Tryz.zeroValue159
 t70:=Tryz.underlying163
 a70:=Tryz.isAgg163
 z70:=Tryz.sizeOf163
 v70:=Tryz.zeroValue163
 t76:=Tryz.underlying172
 a76:=Tryz.isAgg172
 z76:=Tryz.sizeOf172
 v76:=Tryz.zeroValue172
 t77:=Tryz.underlying173
 a77:=Tryz.isAgg173
 z77:=Tryz.sizeOf173
 v77:=Tryz.zeroValue173 }
def Tryz.sortLab_ren:Go.Shelf.Ren:=⟨fun | 6 => 38 | 15 => 54 | 14 => 58 | 28 => 72 | 29 => 73 | 20 => 82 | 21 => 83 | 22 => 84 | 23 => 85 | 24 => 86 | 25 => 87 | 26 => 88 | 27 => 89 | 46 => 102 | 47 => 92 | 48 => 93 | 49 => 103 | 50 => 104 | 57 => 112 | n => n,fun | 22 => 33 | 24 => 37 | 25 => 80 | 3 => 3 | 39 => 123 | 0 => 0 | 53 => 43 | 55 => 23 | 4 => 4 | 46 => 134 | 45 => 133 | 50 => 138 | 5 => 5 | 9 => 9 | 66 => 159 | 70 => 163 | 76 => 172 | 77 => 173 | n => n,fun | n => n⟩
theorem Tryz.sortLab:Go.Proofs.SlLaysF0.n6 Tryz.prog Tryz.sortLab_ren:={
 mixed:=by kernel_rfl
 f6:=⟨Tryz.f38.name,by decide,Tryz.func38.trans (congrArg some (by kernel_rfl))⟩
 f14:=⟨Tryz.f58.name,by decide,Tryz.func58.trans (congrArg some (by kernel_rfl))⟩
 f15:=Tryz.func54.trans (congrArg some (by kernel_rfl))
 f20:=⟨Tryz.f82.name,by decide,Tryz.func82.trans (congrArg some (by kernel_rfl))⟩
 f21:=⟨Tryz.f83.name,by decide,Tryz.func83.trans (congrArg some (by kernel_rfl))⟩
 f22:=⟨Tryz.f84.name,by decide,Tryz.func84.trans (congrArg some (by kernel_rfl))⟩
 f23:=⟨Tryz.f85.name,by decide,Tryz.func85.trans (congrArg some (by kernel_rfl))⟩
 f24:=⟨Tryz.f86.name,by decide,Tryz.func86.trans (congrArg some (by kernel_rfl))⟩
 f25:=⟨Tryz.f87.name,by decide,Tryz.func87.trans (congrArg some (by kernel_rfl))⟩
 f26:=⟨Tryz.f88.name,by decide,Tryz.func88.trans (congrArg some (by kernel_rfl))⟩
 f27:=⟨Tryz.f89.name,by decide,Tryz.func89.trans (congrArg some (by kernel_rfl))⟩
 f28:=Tryz.func72.trans (congrArg some (by kernel_rfl))
 f29:=Tryz.func73.trans (congrArg some (by kernel_rfl))
 f46:=⟨Tryz.f102.name,by decide,Tryz.func102.trans (congrArg some (by kernel_rfl))⟩
 f47:=Tryz.func92.trans (congrArg some (by kernel_rfl))
 f48:=Tryz.func93.trans (congrArg some (by kernel_rfl))
 f49:=⟨Tryz.f103.name,by decide,Tryz.func103.trans (congrArg some (by kernel_rfl))⟩
 f50:=⟨Tryz.f104.name,by decide,Tryz.func104.trans (congrArg some (by kernel_rfl))⟩
 f57:=⟨Tryz.f112.name,by decide,Tryz.func112.trans (congrArg some (by kernel_rfl))⟩
 t0:=Tryz.underlying0
 a0:=Tryz.isAgg0
 z0:=Tryz.sizeOf0
 v0:=Tryz.zeroValue0
 t3:=Tryz.underlying3
 a3:=Tryz.isAgg3
 z3:=Tryz.sizeOf3
 v3:=Tryz.zeroValue3
 t4:=Tryz.underlying4
 a4:=Tryz.isAgg4
 z4:=Tryz.sizeOf4
 v4:=Tryz.zeroValue4
 t5:=Tryz.underlying5
 a5:=Tryz.isAgg5
 z5:=Tryz.sizeOf5
 v5:=Tryz.zeroValue5
 t9:=Tryz.underlying9
 a9:=Tryz.isAgg9
 z9:=Tryz.sizeOf9
 v9:=Tryz.zeroValue9
 t22:=Tryz.underlying33
 a22:=Tryz.isAgg33
 z22:=Tryz.sizeOf33
 v22:=Tryz.zeroValue33
 t25:=Tryz.underlying80
 a25:=Tryz.isAgg80
 z25:=Tryz.sizeOf80
 v25:=Tryz.zeroValue80
 t39:=Tryz.underlying123
 a39:=Tryz.isAgg123
 z39:=Tryz.sizeOf123
 v39:=Tryz.zeroValue123
 t45:=Tryz.underlying133
 a45:=Tryz.isAgg133
 z45:=Tryz.sizeOf133
 v45:=Tryz.zeroValue133
 t46:=Tryz.underlying134
 a46:=Tryz.isAgg134
 z46:=Tryz.sizeOf134
 v46:=Tryz.zeroValue134
 t50:=Tryz.underlying138
 a50:=Tryz.isAgg138
 z50:=Tryz.sizeOf138
 v50:=Tryz.zeroValue138
 t53:=Tryz.underlying43
 a53:=Tryz.isAgg43
 z53:=Tryz.sizeOf43
 v53:=Tryz.zeroValue43
 t55:=Tryz.underlying23
 a55:=Tryz.isAgg23
 z55:=Tryz.sizeOf23
 v55:=Tryz.zeroValue23
 t66:=Tryz.underlying159
 a66:=Tryz.isAgg159
 z66:=Tryz.sizeOf159
 v66:=Tryz.zeroValue159
 t70:=Tryz.underlying163
 a70:=Tryz.isAgg163
 z70:=Tryz.sizeOf163
 v70:=Tryz.zeroValue163
 t76:=Tryz.underlying172
 a76:=Tryz.isAgg172
 z76:=Tryz.sizeOf172
 v76:=Tryz.zeroValue172
 t77:=Tryz.underlying173
 a77:=Tryz.isAgg173
 z77:=Tryz.sizeOf173
 v77:=Tryz.zeroValue173 }
end Go.Proofs
namespace Go.Proofs.YtjgnoldondblaaaGreat.Sym
open Go Go.RowKit Go.Sort
instance : Inhabited RowA := ⟨zRow⟩
def labLt (a b:Lab):Bool:=decide (cmpLab a b < 0)
theorem labLt_iff (a b:Lab):labLt a b=true ↔ a.bits < b.bits ∨ (a.bits=b.bits ∧ a.len < b.len):=by
 unfold labLt cmpLab cmpI
 rw [decide_eq_true_iff]
 split<;>rename_i h<;>(repeat' split at h)<;>(repeat' split)<;>omega
theorem labLt_not (a b:Lab):labLt a b=false ↔ ¬ (a.bits < b.bits ∨ (a.bits=b.bits ∧ a.len < b.len)):=by
 rw [← labLt_iff]; simp
def cfRow (x y:RowA):Int:=cmpLab x.lab y.lab
theorem cfRow_lt (x y:RowA):ltOf cfRow x y=labLt x.lab y.lab:=rfl
theorem swoRow:SWO (ltOf cfRow):=by
 refine ⟨fun x => ?_,fun x y z h1 h2 => ?_,fun x y z h1 h2 => ?_⟩
 ·rw [cfRow_lt,labLt_not]; omega
 ·rw [cfRow_lt,labLt_iff] at *; omega
 rw [cfRow_lt,labLt_not] at *; omega
end Go.Proofs.YtjgnoldondblaaaGreat.Sym
namespace Go.Proofs.YtjgnoldondblaaaGreat.Sym
open Go Go.RowKit
theorem rowCmp_c (a b:RowA) (W:World):Calls Tryz.prog 47 #[.agg ((rowC a).map AV.den).toArray,.agg ((rowC b).map AV.den).toArray] W fun e w' => e = .returned (.int .i64 (cmpLab a.lab b.lab)) ∧ GrF W w':=by
 obtain ⟨⟨al,ab⟩,av,⟨aA,ac,⟨an,af,ak,⟨anl,anb⟩,am⟩⟩⟩:=a
 obtain ⟨⟨bl,bb⟩,bv,⟨bA,bc,⟨bn,bf,bk,⟨bnl,bnb⟩,bm⟩⟩⟩:=b
 simp only [rowC,List.map_cons,List.map_nil,AV.den,cmpLab]
 have hU:=fun w => cmpU_c ab bb w
 have hN:=fun w => cmpN_c al bl w
 generalize cmpI ab bb=x at hU ⊢
 generalize cmpI al bl=y at hN ⊢
 have hO:=fun b w h0 h1 => or_c b x y w h0 h1
 generalize (if x ≠ 0 then x else y)=r at hO ⊢
 go_enter Tryz.func47,Tryz.ntmps47
 go_wp2_with fail
 obtain ⟨W5,hW5⟩:=eqv ((W.alloc (.cells #[.int .i64 al,.int .u64 ab,.int .u64 av,.int .i64 ak,.slice aA an ac,.int .i64 anl,.int .u64 anb,.int .u64 am] 78)).alloc (.cells #[.int .i64 bl,.int .u64 bb,.int .u64 bv,.int .i64 bk,.slice bA bn bc,.int .i64 bnl,.int .u64 bnb,.int .u64 bm] 78))
 have hG:GrF W W5:=by rw [hW5]; exact ((GrF.refl W).alloc _).alloc _
 have hs:W5.heap.size=W.heap.size + 1 + 1:=by rw [hW5]; simp
 have z0:W5.heap[W.heap.size]? = some (.cells #[.int .i64 al,.int .u64 ab,.int .u64 av,.int .i64 ak,.slice aA an ac,.int .i64 anl,.int .u64 anb,.int .u64 am] 78 (0,0)):=by
  rw [hW5,Below.heap_alloc _ _ _ (by simp)]; exact heap_alloc_new W _
 have z1:W5.heap[W.heap.size + 1]? = some (.cells #[.int .i64 bl,.int .u64 bb,.int .u64 bv,.int .i64 bk,.slice bA bn bc,.int .i64 bnl,.int .u64 bnb,.int .u64 bm] 78 (0,0)):=by
  have:=heap_alloc_new (W.alloc (.cells #[.int .i64 al,.int .u64 ab,.int .u64 av,.int .i64 ak,.slice aA an ac,.int .i64 anl,.int .u64 anb,.int .u64 am] 78)) (.cells #[.int .i64 bl,.int .u64 bb,.int .u64 bv,.int .i64 bk,.slice bA bn bc,.int .i64 bnl,.int .u64 bnb,.int .u64 bm] 78)
  rw [hW5]; simpa using this
 have c0:W5.cell? ⟨W.heap.size,0,none⟩=some (.int .i64 al):=cell_of_row W5 _ 0 _ _ _ z0
 have c1:W5.cell? ⟨W.heap.size,1,none⟩=some (.int .u64 ab):=cell_of_row W5 _ 1 _ _ _ z0
 have c2:W5.cell? ⟨W.heap.size + 1,0,none⟩=some (.int .i64 bl):=cell_of_row W5 _ 0 _ _ _ z1
 have c3:W5.cell? ⟨W.heap.size + 1,1,none⟩=some (.int .u64 bb):=cell_of_row W5 _ 1 _ _ _ z1
 clear z0 z1
 rw [← hW5]
 clear hW5
 clear hs
 go_region_held3 (fun w' => w'.cell? ⟨W.heap.size,0,none⟩=some (.int .i64 al) ∧ w'.cell? ⟨W.heap.size,1,none⟩=some (.int .u64 ab) ∧ w'.cell? ⟨W.heap.size + 1,0,none⟩=some (.int .i64 bl) ∧ w'.cell? ⟨W.heap.size + 1,1,none⟩=some (.int .u64 bb) ∧ W5.heap.size ≤ w'.heap.size ∧ GrF W w')
  ((go_split_ands; (repeat' apply And.intro)<;>first | with_reducible assumption | with_reducible exact GrF.drew (by assumption) | with_reducible exact GrF.alloc (by assumption) _ | with_reducible exact GrF.drew (GrF.alloc (by assumption) _) | with_reducible exact cell_alloc (by assumption) _ | with_reducible exact size_alloc (by assumption) _ | go_keep))
  (first | (go_at_call 23; refine (hU _).mono ?_; rintro e w' ⟨rfl,rfl⟩) | (go_at_call 49; refine (hN _).mono ?_; rintro e w' ⟨rfl,rfl⟩) | (go_at_call 48; refine (hO _ _ (by first | exact new2_0 _ _ _ _ | exact cell_drew (new2_0 _ _ _ _)) (by first | exact new2_1 _ _ _ _ | exact cell_drew (new2_1 _ _ _ _))).mono ?_; rintro e w' ⟨rfl,rfl⟩))
 all_goals (go_wp2_with fail; go_ret; exact ⟨rfl,by first | exact (hG.alloc _).drew | exact hG.alloc _⟩)
end Go.Proofs.YtjgnoldondblaaaGreat.Sym
namespace Go.Proofs.YtjgnoldondblaaaGreat.Sym
open Go Go.RowKit Go.Sort
theorem sortRow_c {n B e:Nat} {A:Option Addr} {c:Nat} {h:Nat → RowA} {w:World} (hO:Own w B e 8 (.slice A n c) n (rowFlat (fun t => rowC (h t)) n)) (hn:n < 4611686018427387904) :
  Calls Tryz.prog 30 #[.slice A n c,.func (.func 47) #[] #[]] w fun e' w' => e' = .returned (.tuple #[]) ∧ ∃ h':Nat → RowA,((List.range n).map h').Perm ((List.range n).map h) ∧ (∀ i j,i < j → j < n → labLt (h' j).lab (h' i).lab=false) ∧ Own w' B e 8 (.slice A n c) n (rowFlat (fun t => rowC (h' t)) n) ∧ Chg (fun x => ownB (.slice A n c)=some x) w w':=by
 refine sorted_c (cells:=rowC) (lt:=ltOf cfRow) (k:=8) (fun _ => rfl) hO (fun b d hd hH hb => ?_) (fun h0 => ?_)
 ·have eg:∀ args w,(callFunc 47 args).run Tryz.prog w = .ok (.enter 47 args) w:=enters_of Tryz.func47 (by kernel_rfl) rfl
  have hcmp:CmpLays Tryz.prog 47 #[] (encV rowC) 8 cfRow b 0 d.size w:=by
   intro m os dk hdk x y
   refine (rowCmp_c x y _).mono ?_
   rintro e w' ⟨rfl,q,os',rfl⟩
   exact ⟨rfl,q,os',rfl⟩
  have:=AnyQ.slices_SortFunc Tryz.sortRow 8 (fun _ => by kernel_rfl) (fun _ => by kernel_rfl) (encV rowC) (fun _ => rfl) (fun x v hv => by
   simp only [encV,rowC,List.map_cons,List.map_nil,AV.den,List.mem_cons,List.not_mem_nil,or_false] at hv
   rcases hv with rfl | rfl | rfl | rfl | rfl | rfl | rfl | rfl<;>rfl) cfRow swoRow 47 #[] b 0 c d w eg hcmp hH hb (by omega)
  exact this
 exact AnyF.slices_SortFunc_none (P:=Tryz.prog) (ρ:=Tryz.sortRow_ren) { Tryz.sortRow with } A c _ w
end Go.Proofs.YtjgnoldondblaaaGreat.Sym
namespace Go.Proofs.YtjgnoldondblaaaGreat.Sym
open Go Go.RowKit
section
variable {m0:Nat → Nat → Prop} {w0:World} {S:Nat → Prop} {ds:List Deferred} {K:Kn} {P:Program} {Q:Exit → Act → World → Prop} {ops:Array Oper} {s:St} {a:Act} {w:World} {L rest:List Oper} {o:Oper}
open Go.Maps in
theorem man_next1 {it:Operand} {k:TypeId} {d b r n cnt:Nat} {D:DataW Value} {left:Lit → Bool} (hL:L=o :: rest) (hg:o.guard=none) (hop:o.op = .next it false) (hdst:o.dst=some d) (h:Fits ⟨m0,w0,S,ds,K⟩ s a w) (hd:d < s.nt) (hit:val s [] it = .raw (.pointer (some ⟨r,0,none⟩)))
  (Kd:Keyed P k) (hM:w.ranges P k hR b r n D left cnt) (hC:r < w0.heap.size → S r)
  (K1:Bool → Value → Value → Lit → Nat → Kn) (hK0:∀ m,K.p m w → (∀ kl,left kl=false) → (K1 false (.bool false) (.bool false) (.bool false) 0).p m w) (hK1:∀ key v kl cnt' m w',K.p m w → KeepB (some r) w m w' m → w'.ranges P k hR b r n D (fun x => left x && !x.sameKey kl) cnt' → EntryAt P w' r key v → (K1 true key v kl cnt').p m w')
  (K':∀ a' w' bb rest' key v kl cnt',(bb=false → ∀ kl,left kl=false) → (bb=true → Go.keyOf P k key=some kl ∧ left kl=true ∧ (∀ zd,D.atKey kl zd = .held v) ∧ cnt' < cnt) → Fits ⟨m0,w0,S,ds,K1 bb key v kl cnt'⟩ (s.put (some d) (.tup (.bool (.v bb) :: rest'))) a' w' → wpList P ops Q rest a' w'):wpList P ops Q L a w:=by
 have hiv:=(val_ok h (q:=[]) (fun _ h => by cases h) (x:=it) (by rw [hit]; rfl)).1
 rw [hit] at hiv
 have hr0:∃ o',w.heap[r]? = some o' ∧ ∀ c t f,o' ≠ Obj.cells c t f:=by
  obtain ⟨es,clock,since,seen,c0,_,_,_,_,hr,_⟩:=hM
  exact ⟨_,hr,fun c t f e => by cases e⟩
 obtain ⟨o',hr,hro⟩:=hr0
 refine man_op hL hg ?_
 unfold Oper.wp
 rcases hM.next Kd o.type with ⟨h0,hl,hrun⟩ | ⟨key,v,kl,y,w',cnt',hkey,hlk,hv,hat,hrun,hrg,hlt,hgr,hsz,hen⟩
 ·have e1:(execOp a.eval o).run P w = .ok (.value (.tuple #[.bool false])) w:=by simp [execOp,hop,hiv,hrun,Result.andThen,AV.den]
  rw [e1]
  simp only [Oper.upon]
  rw [hdst]
  exact K' _ _ false [] (.bool false) (.bool false) (.bool false) 0 (fun _ => hl) (fun h => by cases h) ((h.withK (hK0 _ h.kept hl)).put (some d) (fun t ht => by injection ht with ht; subst ht; exact hd) (.tup [.bool (.v false)]) (fun _ => .tup _ fun u hu => by simp at hu; subst hu; exact .bool _) _ fun _ => rfl)
 have e1:(execOp a.eval o).run P w = .ok (.value (.tuple #[.bool true,key,v])) w':=by simp [execOp,hop,hiv,hrun,Result.andThen,AV.den]
 rw [e1]
 simp only [Oper.upon]
 rw [hdst]
 have hv':y.1 = .held v:=by unfold hR at hv; injection hv with hv; rw [← hv]
 have hea:EntryAt P w' r key v:=by
  obtain ⟨es,clock,since,seen,c0,hb',_,_,_,hr',_⟩:=hrg
  exact ⟨⟨_,_,_,_,_,_,hr',hb'⟩,hen⟩
 have h2:=h.turn hr hro hgr hC (hK1 key v kl cnt' _ _ h.kept (turn_keepB hr hro hgr) hrg hea)
 refine K' _ _ true [.raw key,.raw v] key v kl cnt' (fun h => by cases h) (fun _ => ⟨hkey,hlk,fun zd => (hat zd).trans hv',hlt⟩) (h2.put (some d) (fun t ht => by injection ht with ht; subst ht; exact hd) (.tup [.bool (.v true),.raw key,.raw v]) (fun _ => .tup _ fun u hu => ?_) _ fun _ => rfl)
 simp only [List.mem_cons,List.not_mem_nil,or_false] at hu
 rcases hu with rfl | rfl | rfl
 ·exact .bool _
 ·exact .raw _
 exact .raw _
theorem own_flat {m:Nat → Nat → Prop} {w:World} {B e k:Nat} {g:Option Nat} {A:Option Addr} {n c:Nat} {f:Nat → List AV} {xs:List Value} (hO:Own w B e k (.slice A n c) n xs) (hk:Ok m w (.sl g A n c k f)):xs=rowFlat f n:=by
 cases hk with
 | sl _ _ _ _ _ _ h1 h2 h3 h4 h5 h6 h7 =>
  have hl1:=hO.1
  have hl2:=rowFlat_len (cells:=f) (k:=k) (n:=n) h3
  apply List.ext_getElem
  ·rw [hl1,hl2]
  intro t g1 g2
  have ht:t < n * k:=by rw [hl1] at g1; exact g1
  have hk0:0 < k:=by rcases Nat.eq_zero_or_pos k with h0 | h0; rw [h0] at ht; omega; exact h0
  obtain ⟨i,j,hj,rfl⟩:∃ i j,j < k ∧ t=i * k + j:=⟨t / k,t % k,Nat.mod_lt _ hk0,by rw [Nat.mul_comm]; exact (Nat.div_add_mod t k).symm⟩
  have hi:i < n:=by
   refine Nat.lt_of_not_le fun hle => ?_
   have:=Nat.mul_le_mul_right k hle
   omega
  obtain ⟨b,hA,hb⟩:=own_head hO (by omega)
  have e1:=own_cells hO hb (i * k + j) _ (List.getElem?_eq_getElem g1)
  have hjl:j < ((f i).map AV.den).length:=by rw [List.length_map,h3 i hi]; exact hj
  obtain ⟨b',off,hA',e2,_⟩:=h5 i hi j _ (List.getElem?_eq_getElem hjl)
  have hg:=rowFlat_get (cells:=f) h3 hi hj
  rw [List.getElem?_eq_getElem g2,List.getElem?_eq_getElem hjl] at hg
  rw [hA] at hA'
  injection hA' with hA'; injection hA' with q1 q2
  subst q1; subst q2
  rw [Nat.zero_add] at e2
  rw [e1] at e2
  injection e2 with e2
  injection hg with hg
  rw [e2,hg]
theorem man_sorted {nt key d:Nat} {t:Gr} {l:List (Nat × AV)} {mem:List (Nat × Blk)} {c:Call} {g:Operand} {f:FuncId} {args:List AV} (hL:L=o :: rest) (hg:o.guard=none) (hop:o.op = .call c) (hcal:c.callee = .value g) (hdst:o.dst=some d) (h:Fits ⟨m0,w0,S,ds,K⟩ ⟨nt,l,[],mem,[(key,t)]⟩ a w) (hgv:val ⟨nt,l,[],mem,[(key,t)]⟩ [] g = .fn f [] []) (hl:vals ⟨nt,l,[],mem,[(key,t)]⟩ [] c.args.toList=some args) (hen:Enters P f)
  (R:World → Prop) (hc:Calls P f (args.map AV.den).toArray w fun e w' => e = .returned (.tuple #[]) ∧ R w' ∧ Chg (fun x => ownB t.v=some x) w w')
  (K':∀ w',R w' → Chg (fun x => ownB t.v=some x) w w' → wpList P ops Q rest (a.put (some d) (.tuple #[])) w'):wpList P ops Q L a w:=by
 refine man_op hL hg ?_
 obtain ⟨hrun,_⟩:=call_run hop hcal h hgv hl hen
 unfold Oper.wp
 rw [hrun]
 simp only [Oper.upon]
 simp only [List.nil_append,List.append_nil]
 refine hc.mono ?_
 rintro e w' ⟨rfl,h1,h2⟩
 rw [hdst]
 exact K' w' h1 h2
end
def rngK (D:DataW Value) (E:Adr) (b r:Nat) (L:Shf) (left:Lit → Bool) (cnt:Nat):Kn:=⟨fun m w => ShD D E b L m w ∧ w.ranges Tryz.prog 37 hR b r L.length D left cnt,fun k h => ⟨h.1.keep k,ranges_keep k h.2⟩⟩
def stpK (D:DataW Value) (E:Adr) (b r:Nat) (L:Shf) (left:Lit → Bool) (bb:Bool) (key v:Value) (kl:Lit) (cnt:Nat):Kn:=⟨fun m w => ShD D E b L m w ∧ (bb=true → w.ranges Tryz.prog 37 hR b r L.length D (fun x => left x && !x.sameKey kl) cnt ∧ EntryAt Tryz.prog w r key v),fun k h => ⟨h.1.keep k,fun hb => ⟨ranges_keep k (h.2 hb).1,entry_keep k (h.2 hb).2⟩⟩⟩
def entK (D:DataW Value) (E:Adr) (b r:Nat) (L:Shf) (left:Lit → Bool) (key v:Value) (cnt:Nat):Kn:=⟨fun m w => ShD D E b L m w ∧ w.ranges Tryz.prog 37 hR b r L.length D left cnt ∧ EntryAt Tryz.prog w r key v,fun k h => ⟨h.1.keep k,ranges_keep k h.2.1,entry_keep k h.2.2⟩⟩
theorem ShD.entry {D:DataW Value} {E:Adr} {b:Nat} {L:Shf} {m:Nat → Nat → Prop} {w:World} (h:ShD D E b L m w) {key v:Value} {kl:Lit} (hk:Go.keyOf Tryz.prog 37 key=some kl) (hh:Maps.has D kl=true) (ha:∀ zd,D.atKey kl zd = .held v):∃ p ∈ L,keyL p.1=kl ∧ key=(labAV p.1).den ∧ v=(AV.agg (elC (elA E p.1 p.2))).den:=by
 obtain ⟨p,hp,he⟩:=(h.has kl).1 hh
 refine ⟨p,hp,he,?_,?_⟩
 ·exact labK.inj hk (he ▸ key_lab (h.labs p hp))
 have h1:=h.at_ p hp (.held v)
 rw [he,ha] at h1
 injection h1
def rowOf (p:Lab × Spo):Rw:=⟨p.1,p.2.ver,p.2.r⟩
theorem rowsL_eq (L:Shf):rowsL L=(L.filter (fun p => p.2.has)).map rowOf:=rfl
theorem rowsL_cons (p:Lab × Spo) (L:Shf):rowsL (p :: L)=(if p.2.has then [rowOf p] else []) ++ rowsL L:=by
 unfold rowsL
 rw [List.filter_cons]
 split<;>rfl
theorem rowsL_perm {L M:Shf} (h:L.Perm M):(rowsL L).Perm (rowsL M):=(h.filter _).map _
theorem rowsL_len (L:Shf):(rowsL L).length ≤ L.length:=by
 rw [rowsL_eq,List.length_map]; exact List.length_filter_le _ _
theorem same_refl (l:Lab):(keyL l).sameKey (keyL l)=true:=by simp [keyL,Lit.sameKey]
theorem same_iff {l l':Lab} (h:LabOk l) (h':LabOk l'):(keyL l).sameKey (keyL l')=decide (l=l'):=by
 by_cases he:l=l'
 ·subst he; rw [same_refl,decide_eq_true rfl]
 rw [decide_eq_false he]
 have:keyL l ≠ keyL l':=fun e => he (keyL_inj h h' e)
 unfold keyL at this ⊢
 simp only [Lit.sameKey]
 simpa using this
theorem left_step {left:Lit → Bool} {p:Lab × Spo}:∀ {L:Shf},Rises L → (∀ q ∈ L,LabOk q.1) → p ∈ L → left (keyL p.1)=true →
  (L.filter fun q => left (keyL q.1)).Perm (p :: L.filter fun q => left (keyL q.1) && !(keyL q.1).sameKey (keyL p.1))
 | q :: L,hr,hl,hp,h1 => by
  have hr':=List.pairwise_cons.1 hr
  rcases List.mem_cons.1 hp with rfl | hp
  ·rw [List.filter_cons,if_pos h1,List.filter_cons,same_refl]
   simp only [Bool.not_true,Bool.and_false,Bool.false_eq_true,if_false]
   refine List.Perm.cons _ ?_
   have:∀ q ∈ L,(left (keyL q.1))=(left (keyL q.1) && !(keyL q.1).sameKey (keyL p.1)):=by
    intro q hq
    rw [same_iff (hl q (by simp [hq])) (hl p (by simp)),decide_eq_false (fun e => less_ne (hr'.1 q hq) e.symm)]
    simp
   rw [List.filter_congr this]
  have hne:q.1 ≠ p.1:=less_ne (hr'.1 p hp)
  have ih:=left_step hr'.2 (fun q hq => hl q (by simp [hq])) hp h1
  rw [List.filter_cons,List.filter_cons,same_iff (hl q (by simp)) (hl p (by simp [hp])),decide_eq_false hne]
  simp only [Bool.not_false,Bool.and_true]
  split
  ·exact (List.Perm.cons _ ih).trans (List.Perm.swap _ _ _)
  exact ih
theorem rows_step {left:Lit → Bool} {p:Lab × Spo} {L:Shf} (hr:Rises L) (hl:∀ q ∈ L,LabOk q.1) (hp:p ∈ L) (h1:left (keyL p.1)=true) {R:List Rw} (h:(R ++ rowsL (L.filter fun q => left (keyL q.1))).Perm (rowsL L)) :
  ((R ++ if p.2.has=true then [rowOf p] else []) ++ rowsL (L.filter fun q => left (keyL q.1) && !(keyL q.1).sameKey (keyL p.1))).Perm (rowsL L):=by
 refine List.Perm.trans ?_ h
 rw [List.append_assoc]
 refine List.Perm.append_left _ ?_
 have:=rowsL_perm (left_step hr hl hp h1)
 rw [rowsL_cons] at this
 exact this.symm
theorem rowsL_mem {L:Shf} {x:Rw} (h:x ∈ rowsL L):∃ p ∈ L,p.2.has=true ∧ rowOf p=x:=by
 rw [rowsL_eq] at h
 obtain ⟨p,hp,he⟩:=List.mem_map.1 h
 have:=List.mem_filter.1 hp
 exact ⟨p,this.1,this.2,he⟩
theorem rowsL_rises {L:Shf} (h:Rises L):(rowsL L).Pairwise fun a b => lessL a.lab b.lab=true:=by
 rw [rowsL_eq,List.pairwise_map]
 exact (List.Pairwise.filter _ h)
theorem labLt_less (a b:Lab):labLt a b=lessL a b:=by
 rw [Bool.eq_iff_iff,labLt_iff]
 simp [lessL]
def leRw (a b:Rw):Prop:=labLt b.lab a.lab=false
theorem rows_sorted {L:Shf} (hr:Rises L) {R:List Rw} (hp:R.Perm (rowsL L)) (hs:R.Pairwise leRw):R=rowsL L:=by
 refine List.Perm.eq_of_pairwise (le:=leRw) ?_ hs ?_ hp
 ·intro a b ha hb h1 h2
  have hl:a.lab=b.lab:=by
   unfold leRw at h1 h2
   rw [labLt_less] at h1 h2
   rcases less_total a.lab b.lab with h | h | h
   ·rw [h] at h2; cases h2
   ·exact h
   rw [h] at h1; cases h1
  obtain ⟨p,hp1,_,rfl⟩:=rowsL_mem (hp.mem_iff.1 ha)
  obtain ⟨q,hq1,_,rfl⟩:=rowsL_mem hb
  have e1:=mem_find hr hp1
  have e2:=mem_find hr hq1
  have hl':p.1=q.1:=hl
  rw [hl',e2] at e1
  injection e1 with e1
  have:p=q:=Prod.ext hl' e1.symm
  rw [this]
 refine (rowsL_rises hr).imp ?_
 intro a b h
 unfold leRw
 rw [labLt_less]
 rcases hx:lessL b.lab a.lab with _ | _
 ·rfl
 have:=less_trans h hx
 rw [less_irr] at this; cases this
theorem rows_fin {L:Shf} (hr:Rises L) {h h':Nat → RowA} {k:Nat} (hp:(rwsA h k).Perm (rowsL L)) (hp':((List.range k).map h').Perm ((List.range k).map h)) (hs:∀ i j,i < j → j < k → labLt (h' j).lab (h' i).lab=false):rwsA h' k=rowsL L:=by
 refine rows_sorted hr ?_ ?_
 ·refine List.Perm.trans ?_ hp
  have:=hp'.map RowA.abs
  simp only [List.map_map] at this
  exact this
 rw [List.pairwise_iff_getElem]
 intro i j hi hj hij
 have hj':j < k:=by rw [listA_len] at hj; exact hj
 have hi':i < k:=by omega
 have e:∀ t (g:t < (rwsA h' k).length),t < k → (rwsA h' k)[t]=(h' t).abs:=by
  intro t g ht
  have:=listA_get RowA.abs h' ht
  rw [List.getElem?_eq_getElem g] at this
  exact Option.some.inj this
 rw [e i hi hi',e j hj hj']
 exact hs i j hij hj'
theorem one_of_el {m:Nat → Nat → Prop} {w:World} {el:SpA} (h:Ok m w (.agg (elC el))):∀ v ∈ rowC el.w,v.one=true ∧ Ok m w v:=by
 cases h with
 | agg _ h1 h2 =>
  intro v hv
  simp only [rowC,List.mem_cons,List.not_mem_nil,or_false] at hv
  rcases hv with rfl | rfl | rfl | rfl | rfl | rfl | rfl | rfl
  ·exact ⟨rfl,.int _ _⟩
  ·exact ⟨rfl,.int _ _⟩
  ·exact ⟨rfl,.int _ _⟩
  ·exact ⟨rfl,.int _ _⟩
  ·exact ⟨h1 _ (by simp [elC]),h2 _ (by simp [elC])⟩
  ·exact ⟨rfl,.int _ _⟩
  ·exact ⟨rfl,.int _ _⟩
  exact ⟨rfl,.int _ _⟩
theorem sorted_ok {m:Nat → Nat → Prop} {w w1 w':World} {pre:List (Nat × Blk)} {ds:List Deferred} {K:Kn} {nt key:Nat} {t:Gr} {l l':List (Nat × AV)} {mem:List (Nat × Blk)} {a:Act} (h:Fits ⟨m,w,ats pre,ds,K⟩ ⟨nt,l,[],mem,[(key,t)]⟩ a w1) (hp:PreOk m w pre) (hc:Chg (fun x => ownB t.v=some x) w1 w') {v:AV} (hv:Ok m w v):Ok (St.m ⟨nt,l',[],mem,[]⟩ ⟨m,w,ats pre,ds,noK⟩) w' v:=by
 refine hv.mono fun b o u hcell hn => ?_
 have hlt:=World.block_lt_of_cell? w _ hcell
 have hna:¬ ats pre b:=by
  rintro ⟨e,he,rfl⟩
  exact hn (hp.free e he o)
 have hown:ownB t.v ≠ some b:=by
  intro hb
  obtain ⟨_,xs,ho⟩:=h.gr key t (by simp [lookM])
  exact absurd hlt (Nat.not_lt.2 (ho.lt b hb).1)
 refine ⟨?_,?_⟩
 ·have e1:=h.chg.block b hlt hna
  have e2:=hc.block b (Nat.lt_of_lt_of_le hlt h.chg.size) hown
  unfold World.cell? at hcell ⊢
  rw [e2,e1]; exact hcell
 rintro (h1 | ⟨k,e,he,h1⟩ | ⟨k,t',ht,_⟩)
 ·exact hn h1
 ·subst h1
  rcases (h.mem k e he).2.2 with h2 | h2
  ·exact absurd hlt (Nat.not_lt.2 h2)
  exact hna h2
 cases ht
theorem SpecR.re {P:Program} {K:Kn} {f:FuncId} {args args':List AV} {pre pre':List (Nat × Blk)} {res res':Atom → AV} (h:SpecR P K f args pre res) (ha:SimL args' args) (hp:pre'.map (·.2)=pre.map (·.2)) (hr:∀ x,Sim (res x) (res' x)):SpecR P K f args' pre' res':=by
 intro m w h1 h2 h3 hI
 rw [ha.map]
 refine (h m w h1 (ha.ok h2) (h3.re hp.symm) hI).mono ?_
 rintro e w' ⟨x,rfl,hok,hl⟩
 exact ⟨x,by rw [(hr x).1],(hr x).2.2 _ _ hok,hl⟩
theorem lab_ok' {m:Nat → Nat → Prop} {w:World} (x y:Int):Ok m w (.agg [.int .i64 x,.int .u64 y]):=by
 refine .agg _ (fun v hv => ?_) fun v hv => ?_
 ·simp only [List.mem_cons,List.not_mem_nil,or_false] at hv
  rcases hv with rfl | rfl<;>rfl
 simp only [List.mem_cons,List.not_mem_nil,or_false] at hv
 rcases hv with rfl | rfl<;>exact .int _ _
theorem elA_abs (E:Adr) (p:Lab × Spo):(elA E p.1 p.2).w.abs=rowOf p:=by
 unfold elA RowA.abs rowOf
 simp only [rn_abs]
theorem enters30:Enters Tryz.prog 30:=fun _ _ => by kernel_rfl
theorem rows_start {D:DataW Value} {E:Adr} {b:Nat} {L:Shf} {m:Nat → Nat → Prop} {w:World} (h:ShD D E b L m w):(rwsA (fun _ => zRow) 0 ++ rowsL (L.filter fun q => Maps.has D (keyL q.1))).Perm (rowsL L):=by
 have:L.filter (fun q => Maps.has D (keyL q.1))=L:=List.filter_eq_self.2 fun q hq => (h.has _).2 ⟨q,hq,rfl⟩
 rw [this]
 exact List.Perm.refl _
theorem rows_r0 (b bM:Nat) (L:Shf) (hL:L.length ≤ 100000) (k:Int):SpecR Tryz.prog (shK bM L) 19 [.ptr 0 b 0] [(0,⟨b,90,[.raw (.map (some bM)),.int .i64 k]⟩)] (fun y => rowsV (y.A 0) (rowsL L).length (y.c 0) (rwAt y (rowsL L))):=by
 apply SpecR.of
 intro m w hm hargs hpre hI
 have hmx:maxLen=9223372036854775807:=rfl
 obtain ⟨D,E,hI1⟩:=hI
 obtain ⟨es0,cl0,hmap0,_⟩:=hI1.map
 have hlt:bM < w.heap.size:=lt_heap hmap0
 have hI:(shD D E bM L).p m w:=hI1
 refine enR 32 hm hpre hI hargs Tryz.func19 fun B hB a0 hF => ?_
 refine wp_seq (rg hB TA_ok [0] [0] [] hF fun X0 a0 w1 hF => ?_)
 refine wp_seq (wp_seq (rg hB TA_ok [7,0] [0] [] hF fun X1 a0 w1 hF => ?_))
 refine test_ff hF rfl (fun hF => ?_)
 refine wp_skip (wp_seq (rg hB TA_ok [3,0] [0,3] [] hF fun X3 a0 w1 hF => ?_))
 refine wp_seq (wp_seq (wp_region_lit (lpr 0 4 hB TA_ok [11,3] [0,3] [] hF fun X4_0 a0 w1 hF => ?_)))
 have hSh:ShD D E bM L _ _:=hF.kept
 obtain ⟨rr,hrr⟩:=eqv (w1.heap.size)
 refine man_range rfl rfl rfl rfl hF (Nat.le_of_ble_eq_true rfl) rfl labK map_und' hSh.map (rngK D E bM rr L (Maps.has D) (Maps.size D)) (fun m w' h1 h2 h3 => ⟨h1.keep h2,by rw [hrr]; exact h3⟩) ?_
 rw [← hrr]
 intro a0 w1 hfr hF
 have hne:some rr ≠ some bM:=by
  intro e; injection e with e
  have:w.heap.size ≤ rr:=hfr
  omega
 have hF:Fits ⟨m,w,ats [(0,⟨b,90,[.raw (.map (some bM)),.int .i64 k]⟩)],[],rngK D E bM rr L (Maps.has D) (Maps.size D)⟩ ⟨32,[(3,.sl (some 3) none 0 0 8 (fun _ => [])),(12,.raw (.pointer (some ⟨rr,0,none⟩)))],[],[(0,⟨b,90,[.raw (.map (some bM)),.int .i64 k]⟩)],[(3,⟨none,0,0,8,78⟩)]⟩ a0 w1:=hF.keep [3,12] [0,3]
 replace hF:=hF.headS (v':=.sl (some 3) none 0 0 8 (fun t => rowC zRow)) (zq0) rfl
 refine wpList_nil (wp_block (loop_preK (ι:=Nat × (Nat → RowA) × Option Addr × Nat × (Lit → Bool) × Nat) (fun p => rngK D E bM rr L p.2.2.2.2.1 p.2.2.2.2.2) (fun p => [(3,.sl (some 3) p.2.2.1 p.1 p.2.2.2.1 8 (fun t => rowC (p.2.1 t)))]) (fun p => []) (fun p => [(3,⟨p.2.2.1,p.1,p.2.2.2.1,8,78⟩)]) (fun p => (∀ kl,p.2.2.2.2.1 kl=true → Maps.has D kl=true) ∧ (rwsA p.2.1 p.1 ++ rowsL (L.filter fun q => p.2.2.2.2.1 (keyL q.1))).Perm (rowsL L) ∧ ∀ t,t < p.1 → ∃ q ∈ L,p.2.1 t=(elA E q.1 q.2).w) (fun p => p.2.2.2.2.2) (0,fun _ => zRow,none,0,Maps.has D,Maps.size D) ⟨fun _ h => h,rows_start hI,fun t ht => absurd ht (Nat.not_lt_zero _)⟩ hF ?_))
 rintro ⟨k1,h,A1,c1,left,cnt⟩ ⟨hlft,hprm,hels⟩ a0 w1 hF
 try dsimp only at hlft
 try dsimp only at hprm
 try dsimp only at hels
 replace hF:=hF.withK (K':=rngK D E bM rr L left cnt) hF.kept
 refine wp_seq (wp_region_lit (man_next1 rfl rfl rfl rfl hF (Nat.le_of_ble_eq_true rfl) rfl labK hF.kept.2 (fun h => absurd h (Nat.not_lt.2 hfr)) (stpK D E bM rr L left) (fun m h _ => ⟨h.1,fun h => by cases h⟩) (fun key v kl cnt' m w' h1 h2 h3 h4 => ⟨h1.1.keepB h2 hne,fun _ => ⟨h3,h4⟩⟩) ?_))
 intro a0 w1 bb rest' key v kl cnt' hn0 hn1 hF
 refine lnd 1 hB TA_ok [14,3,12] [0,3] [] hF fun X5 a0 w1 hF => ?_
 refine wp_seq (test_ok hF rfl (fun hb hF => ?_) (fun hb hF => ?_))
 ·have hbb:bb=true:=by subst hB; exact hb
  obtain ⟨hnx1,hnx2,hnx3,hnx4⟩:=hn1 hbb
  replace hF:=hF.withK (K':=entK D E bM rr L (fun x => left x && !x.sameKey kl) key v cnt') ⟨hF.kept.1,hF.kept.2 hbb⟩
  obtain ⟨hSh,hrg,hent⟩:=hF.kept
  obtain ⟨p,hp,hpk,hpkey,hpv⟩:=hSh.entry hnx1 (hlft _ hnx2) hnx3
  have hok:=hSh.ok p hp
  obtain ⟨el,hel⟩:=eqv (elA E p.1 p.2)
  rw [← hel] at hok hpv
  have hel_has:el.has=p.2.has:=by rw [hel]
  have hkd:key=(AV.agg [.int .i64 el.w.lab.len,.int .u64 el.w.lab.bits]).den:=by rw [hel]; exact hpkey
  refine wp_skip (wp_block (wp_seq (wp_region_lit ?_)))
  rw [hkd,hpv] at hent
  refine man_entry rfl rfl rfl rfl hF (Nat.le_of_ble_eq_true rfl) rfl hent (lab_ok' _ _) hok ?_
  intro a0 hF
  refine lnd 1 hB TA_ok [3,12,4,5] [0,4,5,3] [] hF fun X6 a0 w1 hF => ?_
  replace hF:=hF.withK (K':=rngK D E bM rr L (fun x => left x && !x.sameKey kl) cnt') ⟨hF.kept.1,hF.kept.2.1⟩
  refine wp_seq (rg hB TA_ok [19,3,12,4,5] [0,4,5,3] [] hF fun X7 a0 w1 hF => ?_)
  apply test_ok hF rfl<;>intro hb hF
  ·have hhas:el.has=true:=by subst hB; exact hb
   refine rg hB TA_ok [3,12] [0,3] [] hF (hob:=?hob) fun X8 a0 w1 hF => ?_
   case hob =>
    intro X
    have hkL:k1 ≤ L.length:=by
     have h9:=hprm.length_eq
     rw [List.length_append,listA_len] at h9
     have:=rowsL_len L
     omega
    subst hB
    repeat (first | exact trivial | refine ⟨⟨rfl,rfl,rfl⟩,?_⟩ | refine ⟨rfl,?_⟩ | refine ⟨⟨show k1 + 1 ≤ maxLen by omega,show (k1 + 1) * _ ≤ _ by omega⟩,?_⟩)
   replace hF:=hF.headS (v':=.sl (some 3) ((X8 8).A 0) (B.nadd k1 1) ((X8 8).c 0) 8 (fun t => rowC (if t=k1 then el.w else h t))) (Sim.resl rfl (fun t ht => by
    subst hB
    have ht2:t < k1 + 1:=ht
    show appC k1 (fun t => rowC (h t)) (chunk 8 (rowC el.w)) t=_
    unfold appC
    split
    ·rw [if_neg (by omega)]
    have:t=k1:=by omega
    subst this
    rw [if_pos rfl]
    simp [chunk])) rfl
   refine ⟨(k1 + 1,fun t => if t=k1 then el.w else h t,_,_,(fun x => left x && !x.sameKey kl),cnt'),⟨?_,?_,?_⟩,hnx4,by rw [show k1 + 1=B.nadd k1 1 by subst hB; rfl]; exact hF⟩
   ·intro x hx
    simp only [Bool.and_eq_true] at hx
    exact hlft _ hx.1
   ·have h9:=rows_step hSh.ris hSh.labs hp (hpk ▸ hnx2) hprm
    rw [hpk,if_pos (by rw [← hel_has]; exact hhas)] at h9
    have e9:rwsA (fun t => if t=k1 then el.w else h t) (k1 + 1)=rwsA h k1 ++ [rowOf p]:=by
     show listA RowA.abs _ (k1 + 1)=listA RowA.abs h k1 ++ _
     rw [listA_succ]
     simp only [if_true]
     congr 1
     ·unfold listA
      apply List.map_congr_left
      intro t ht
      have h5:=List.mem_range.1 ht
      show RowA.abs (if t=k1 then el.w else h t)=_
      rw [if_neg (by omega)]
     rw [hel,elA_abs]
    simp only
    rw [e9]
    exact h9
   intro t ht
   simp only at ht ⊢
   by_cases he:t=k1
   ·rw [if_pos he]; exact ⟨p,hp,by rw [hel]⟩
   rw [if_neg he]; exact hels t (by omega)
  have hhas:¬ el.has=true:=by subst hB; rw [show el.has=false from hb]; simp
  refine wp_skip (⟨(k1,h,A1,c1,(fun x => left x && !x.sameKey kl),cnt'),⟨?_,?_,hels⟩,hnx4,hF.keep [3,12] [0,3]⟩)
  ·intro x hx
   simp only [Bool.and_eq_true] at hx
   exact hlft _ hx.1
  have h9:=rows_step hSh.ris hSh.labs hp (hpk ▸ hnx2) hprm
  rw [hpk,if_neg (by rw [← hel_has]; exact hhas),List.append_nil] at h9
  exact h9
 have hbb:bb=false:=by subst hB; exact hb
 have hall:=hn0 hbb
 replace hF:=hF.withK (K':=shD D E bM L) hF.kept.1
 refine wp_exit (wp_seq (wp_region_lit (lpr 0 1 hB TA_ok [29,3] [0,3] [] hF fun X9_0 a0 w1 hF => ?_)))
 have hSh:ShD D E bM L _ _:=hF.kept
 have hprm2:(rwsA h k1).Perm (rowsL L):=by
  have e9:(L.filter fun q => left (keyL q.1))=[]:=List.filter_eq_nil_iff.2 fun q _ => by rw [hall]; simp
  rw [e9] at hprm
  simpa [rowsL] using hprm
 have hkL:k1 ≤ L.length:=by
  have h9:=hprm2.length_eq
  rw [listA_len] at h9
  have:=rowsL_len L
  omega
 obtain ⟨_,xs,hO⟩:=hF.gr 3 ⟨A1,k1,c1,8,78⟩ rfl
 have hs3:=hF.slot 3 rfl
 have hk3:Ok _ w1 (.sl (some 3) A1 k1 c1 8 (fun t => rowC (h t))):=hs3.2
 have hd3:a0.tmps[3]? = some (AV.sl (some 3) A1 k1 c1 8 (fun t => rowC (h t))).den:=hs3.1
 have hfl:=own_flat hO hk3
 rw [hfl] at hO
 have hO:Own w1 w.heap.size 78 8 (.slice A1 k1 c1) k1 (rowFlat (fun t => rowC (h t)) k1):=hO
 refine man_sorted rfl rfl rfl rfl rfl hF rfl rfl enters30 (fun w' => ∃ h':Nat → RowA,((List.range k1).map h').Perm ((List.range k1).map h) ∧ (∀ i j,i < j → j < k1 → labLt (h' j).lab (h' i).lab=false) ∧ Own w' w.heap.size 78 8 (.slice A1 k1 c1) k1 (rowFlat (fun t => rowC (h' t)) k1)) ((sortRow_c hO (by omega)).mono ?_) ?_
 ·rintro e w2 ⟨he,h',g1,g2,g3,g4⟩
  exact ⟨he,⟨h',g1,g2,g3⟩,g4⟩
 rintro w2 ⟨h',g1,g2,g3⟩ g4
 have hfin:=rows_fin hSh.ris hprm2 g1 g2
 have hF2:=Fits.sorted hF g4 (l':=[(3,.sl none A1 k1 c1 8 (fun t => rowC (h' t)))]) (fun x hx => ?hl) (fun x e he v hv => ?hm)
 case hl =>
  by_cases hx3:x=3
  ·subst hx3
   refine ⟨hd3,own_known g3 (fun _ _ => rfl) (Fits.notM hF) (fun i hi => ?_) none⟩
   have hmem:=g1.mem_iff.1 (List.mem_map.2 ⟨i,List.mem_range.2 hi,rfl⟩)
   obtain ⟨j,hj,hje⟩:=List.mem_map.1 hmem
   obtain ⟨q,hq,hqe⟩:=hels j (List.mem_range.1 hj)
   rw [← hje,hqe]
   exact one_of_el (sorted_ok hF hpre g4 (hI.ok q hq))
  have:look [(3,AV.sl none A1 k1 c1 8 (fun t => rowC (h' t)))] x = .undef:=by rw [look_cons,if_neg (fun e => hx3 e.symm)]; rfl
  rw [this] at hx; cases hx
 case hm =>
  by_cases hx3:0=x
  ·subst hx3
   simp only [lookM,List.lookup,List.find?] at he
   simp at he
   subst he
   simp only [List.mem_cons,List.not_mem_nil,or_false] at hv
   rcases hv with rfl | rfl
   ·exact .raw _
   exact .int _ _
  rw [lookM_cons,if_neg hx3] at he; cases he
 have hF:Fits _ _ (a0.put (some 30) (.tuple #[])) w2:=hF2.put (some 30) (fun t ht => by injection ht with ht; subst ht; exact Nat.le_of_ble_eq_true rfl) (.tup []) (fun _ => .tup _ fun u hu => by cases hu) _ fun _ => rfl
 refine wpList_nil (wp_seq (rg hB TA_ok [2] [0] [] hF fun X10 a0 w1 hF => ?_))
 refine wp_ret ((rx hB TA_ok hF (rwY A1 c1 h' 0) [] (he:=?_) (hs:=?_)).1)
 ·subst hB; exact rws_sim hfin
 exact ⟨rfl,⟨_,rfl,zl⟩,trivial⟩
theorem rows_r (k0:Nat) (b bM:Nat) (L:Shf) (hL:L.length ≤ 100000) (k:Int):SpecR Tryz.prog (shK bM L) 19 [.ptr k0 b 0] [(k0,⟨b,90,[.raw (.map (some bM)),.int .i64 k]⟩)] (fun y => rowsV (y.A 0) (rowsL L).length (y.c 0) (rwAt y (rowsL L))):=
 (rows_r0 b bM L hL k).re (by repeat (first | exact trivial | refine ⟨Sim.ptr,?_⟩ | refine ⟨Sim.fn ⟨Sim.ptr,trivial⟩ trivial,?_⟩ | refine ⟨Sim.fn trivial ⟨Sim.ptr,trivial⟩,?_⟩ | refine ⟨zr,?_⟩)) rfl (fun x => zr)
theorem Fits.swap {C:Cx} {nt i j:Nat} {u v:AV} {l:List (Nat × AV)} {mem:List (Nat × Blk)} {gr:List (Nat × Gr)} {a:Act} {w:World} (h:Fits C ⟨nt,(i,u) :: (j,v) :: l,[],mem,gr⟩ a w) (hne:i ≠ j:=by decide):Fits C ⟨nt,(j,v) :: (i,u) :: l,[],mem,gr⟩ a w:=
 h.alike ⟨rfl,fun k => by
  simp only [look_cons]
  by_cases h1:i=k
  ·by_cases h2:j=k
   ·exact absurd (h1.trans h2.symm) hne
   simp [h1,h2]
  simp [h1],fun _ => rfl,fun _ => rfl,fun _ => rfl⟩
theorem Sim.nils {g g':Option Nat} {k k':Nat} {f f':Nat → List AV}:Sim (.sl g none 0 0 k f) (.sl g' none 0 0 k' f'):=
 ⟨rfl,fun _ => rfl,fun _ _ _ => .sl _ _ _ _ _ _ (Nat.le_refl _) (Nat.zero_le _) (fun i hi => absurd hi (Nat.not_lt_zero _)) (fun i hi => absurd hi (Nat.not_lt_zero _)) (fun i hi => absurd hi (Nat.not_lt_zero _)) (fun i hi => absurd hi (Nat.not_lt_zero _)) (fun i hi => absurd hi (Nat.not_lt_zero _))⟩
theorem gotA_abs (y:Atom) (g:Got):(gotA y g).abs=g:=by
 unfold gotA GotA.abs
 simp only [rn_abs]
section
variable (A:Option Addr) (n c:Nat) (f:Nat → RowA) (hn:n ≤ maxLen) (hN:∀ i,i < n → (f i).x.r.n ≤ 1000000 ∧ LabOk (f i).lab ∧ U64 (f i).lab.bits ∧ U64 (f i).x.r.nx.bits)
include hn hN
theorem new_yes (k0:Nat) {L:Shf} (h:newS (rwsA f n)=some L):SpecM Tryz.prog 8 [rowsV A n c f] [] none noK (fun y => ⟨.tup [.ptr k0 y.b 0,.int .i64 0],[],[(k0,⟨y.b,90,[.raw (.map (some (y.c 0))),.int .i64 0]⟩)]⟩) (fun N y => shF N (y.c 0) L):=by
 have:=new_m A n c f hn hN
 rw [h] at this
 exact this.re ⟨zr,trivial⟩ rfl fun x => ⟨rfl,rfl,Sim.tup ⟨Sim.ptr,zr,trivial⟩,rfl⟩
end
structure ShfOk (L:Shf):Prop where
 ris:Rises L
 len:L.length ≤ 2000
 lab:∀ p ∈ L,LabOk p.1
theorem doL_ok {L:Shf} (h:ShfOk L) {w:Wnt} (hl:LabOk w.lab):ShfOk (doL L w).L:=by
 unfold doL
 split
 ·split
  ·exact h
  split
  ·exact h
  split
  ·exact h
  rename_i hf
  refine ⟨put_rises h.ris,?_,fun p hp => ?_⟩
  ·simp only
   rw [put_len _ _ h.ris]
   split
   ·exact h.len
   rename_i h1
   have:(findL w.lab L).isNone=true:=by
    cases hx:findL w.lab L with
    | none => rfl
    | some x => rw [hx] at h1; exact absurd rfl h1
   have:=fun h2 => hf ⟨this,h2⟩
   have h3:=h.len
   by_cases h4:2000 ≤ L.length
   ·exact absurd h4 this
   omega
  rcases put_mem hp with rfl | hp
  ·exact hl
  exact h.lab p hp
 exact h
theorem newL_ok:∀ {l:List Rw} {L L':Shf},(∀ r ∈ l,LabOk r.lab) → Rises L → (∀ p ∈ L,LabOk p.1) → L.length + l.length ≤ 2000 → newL l L=some L' → ShfOk L'
 | [],L,L',_,h1,h2,h3,h => by
  simp only [newL,Option.some.injEq] at h
  subst h
  exact ⟨h1,by simp at h3; omega,h2⟩
 | r :: l,L,L',hr,h1,h2,h3,h => by
  unfold newL at h
  split at h
  ·cases h
  refine newL_ok (fun r hr' => hr r (by simp [hr'])) (put_rises h1) (fun p hp => ?_) ?_ h
  ·rcases put_mem hp with rfl | hp
   ·exact hr r (by simp)
   exact h2 p hp
  rw [put_len _ _ h1]
  simp only [List.length_cons] at h3
  split<;>omega
theorem newS_ok {l:List Rw} {L:Shf} (hr:∀ r ∈ l,LabOk r.lab) (h:newS l=some L):ShfOk L:=by
 unfold newS at h
 split at h
 ·cases h
 exact newL_ok hr List.Pairwise.nil (fun p hp => by cases hp) (by simp; omega) h
structure SpoOk (p:Lab × Spo):Prop where
 ver:U64 p.2.ver
 r:RecOk p.2.r
structure ShfG (L:Shf):Prop where
 ok:ShfOk L
 sp:∀ p ∈ L,SpoOk p
theorem u64_0:U64 0:=⟨by decide,by decide⟩
theorem isR_few {r:Rec} (h:isR r=true):r.items.length ≤ 16:=by
 have h2:isRF r.kind r.items.length (itF r.items) r.next r.mark=true:=by
  have h3:=isR_abs r.rn
  rw [rn_abs] at h3
  rw [h3] at h
  exact h
 exact (isRF_kind h2).2.2.1
theorem inc_u (v:Int):U64 (inc v):=by
 unfold inc IntKind.wrap
 simp only [IntKind.bits,IntKind.signed]
 unfold U64
 constructor
 ·simp; omega
 simp; omega
theorem find_memL {l:Lab} {x:Spo}:∀ {L:Shf},findL l L=some x → ∃ p ∈ L,p.2=x
 | [],h => by cases h
 | p :: L,h => by
  unfold findL at h
  split at h
  ·exact ⟨p,by simp,Option.some.inj h⟩
  obtain ⟨q,hq,e⟩:=find_memL h
  exact ⟨q,by simp [hq],e⟩
theorem spot_ok {L:Shf} (h:∀ p ∈ L,SpoOk p) (l:Lab):U64 (spotOf L l).ver ∧ RecOk (spotOf L l).r:=by
 unfold spotOf
 cases e:findL l L with
 | none => exact ⟨u64_0,rec_z⟩
 | some x =>
  obtain ⟨p,hp,rfl⟩:=find_memL e
  exact ⟨(h p hp).ver,(h p hp).r⟩
structure WntG (w:Wnt):Prop where
 lab:LabOk w.lab
 nx:U64 w.r.next.bits
 key:∀ x ∈ w.r.items,U64 x.key
theorem doL_good {L:Shf} (h:ShfG L) {w:Wnt} (hw:WntG w):ShfG (doL L w).L ∧ U64 (doL L w).got.ver ∧ RecOk (doL L w).got.r:=by
 refine ⟨⟨doL_ok h.ok hw.lab,?_⟩,?_⟩
 ·unfold doL
  split
  ·rename_i hg
   split
   ·exact h.sp
   split
   ·exact h.sp
   split
   ·exact h.sp
   intro p hp
   rcases put_mem hp with rfl | hp
   ·refine ⟨inc_u _,?_⟩
    show RecOk (if w.kind=2 then w.r else zeroRec)
    split
    ·rename_i h2
     exact ⟨hw.nx,isR_few (hg.2.2 h2),hw.key⟩
    exact rec_z
   exact h.sp p hp
  exact h.sp
 have hs:=spot_ok h.sp w.lab
 unfold doL
 split
 ·split
  ·exact hs
  split
  ·exact ⟨hs.1,rec_z⟩
  split
  ·exact ⟨u64_0,rec_z⟩
  exact ⟨inc_u _,rec_z⟩
 exact ⟨u64_0,rec_z⟩
structure RwG (r:Rw):Prop where
 lab:LabOk r.lab
 ver:U64 r.ver
 nx:U64 r.r.next.bits
 key:∀ x ∈ r.r.items,U64 x.key
theorem newL_good:∀ {l:List Rw} {L L':Shf},(∀ r ∈ l,RwG r) → (∀ p ∈ L,SpoOk p) → newL l L=some L' → ∀ p ∈ L',SpoOk p
 | [],L,L',_,h2,h => by
  simp only [newL,Option.some.injEq] at h
  subst h; exact h2
 | r :: l,L,L',hr,h2,h => by
  unfold newL at h
  split at h
  ·cases h
  rename_i hc
  have hc2:isR r.r=true:=by
   simp only [Bool.or_eq_true,Bool.not_eq_true',not_or] at hc
   simpa using hc.2
  refine newL_good (fun r hr' => hr r (by simp [hr'])) (fun p hp => ?_) h
  rcases put_mem hp with rfl | hp
  ·have:=hr r (by simp)
   exact ⟨this.ver,⟨this.nx,isR_few hc2,this.key⟩⟩
  exact h2 p hp
theorem newS_good {l:List Rw} {L:Shf} (hr:∀ r ∈ l,RwG r) (h:newS l=some L):ShfG L:=by
 refine ⟨newS_ok (fun r hr' => (hr r hr').lab) h,?_⟩
 unfold newS at h
 split at h
 ·cases h
 exact newL_good hr (fun p hp => by cases hp) h
theorem got_in {g:GotA} {G:Got} (h:g.abs=G) (h1:U64 G.ver) (h2:RecOk G.r):InG g:=by
 subst h
 refine ⟨h2.nx,h1,?_,fun i hi => ?_⟩
 ·have:=h2.few
  have e:g.x.r.abs.items.length=g.x.r.n:=firsts_len _ _
  show g.x.r.n ≤ maxLen
  have h3:g.x.r.abs.items.length ≤ 16:=this
  have:maxLen=9223372036854775807:=rfl
  omega
 exact h2.key _ (List.mem_map.2 ⟨i,List.mem_range.2 hi,rfl⟩)
theorem LOk.wf {l:Lab} (h:LOk l):LabOk l:=by
 obtain ⟨h1,h2,_⟩:=lab_parts h.isl
 have hb:=h.u
 unfold U64 at hb
 constructor
 ·simp [Lit.wf,IntKind.min,IntKind.max,IntKind.signed,IntKind.bits]; omega
 simp [Lit.wf,IntKind.min,IntKind.max,IntKind.signed,IntKind.bits]; omega
def gotOf (G:Got):GotA:=⟨G.code,G.ver,G.has,⟨none,0,G.r.rn⟩⟩
abbrev ansF (gs:List Got):Nat → GotA:=fun j => gotOf (gs.getD j zeroGot)
abbrev NextF:=Nat → (Nat → GotA) → Wq × Int
def ErN (N:NextF):Prop:=∀ n f,N n f=N n (fun j => (f j).er)
def Lies (gs:List Got) (f:Nat → GotA):Prop:=∀ j,(f j).er=gotOf (gs.getD j zeroGot)
theorem Lies.nil:Lies [] (fun _ => gotOf zeroGot):=fun _ => rfl
theorem Lies.next {N:NextF} (hN:ErN N) {gs:List Got} {f:Nat → GotA} (h:Lies gs f):N gs.length f=N gs.length (ansF gs):=by
 rw [hN]
 congr 1
 funext j
 exact h j
theorem Lies.add {gs:List Got} {f:Nat → GotA} (h:Lies gs f) {g:GotA} {G:Got} (hg:g.er=gotOf G):Lies (gs ++ [G]) (fun j => if j=gs.length then g else f j):=by
 intro j
 by_cases e:j=gs.length
 ·simp only [if_pos e]; rw [hg,e]; congr 1; simp [List.getD]
 simp only [if_neg e]; rw [h j]; congr 1
 simp only [List.getD_eq_getElem?_getD]
 by_cases hj:j < gs.length
 ·rw [List.getElem?_append_left hj]
 rw [List.getElem?_eq_none (by omega),List.getElem?_eq_none (by simp; omega)]
structure RunR where
 /-- 0: too many wants,1: refused,2: it is over,3: cut off,4: a want was not done -/
 st:Nat
 res:Rsl
 n:Nat
 err:Int
 L:Shf
 k:Int
def wntOf (w:Wq):Wnt:=⟨w.kind,w.lab,w.ver,w.r⟩
def runQ (N:NextF) (most:Int):Nat → List Got → Shf → Int → RunR
 | 0,gs,L,k => ⟨0,zRsl,gs.length,0,L,k⟩
 | n + 1,gs,L,k =>
  if (N gs.length (ansF gs)).2 ≠ 0 then ⟨1,zRsl,gs.length,0,L,k⟩
  else if (N gs.length (ansF gs)).1.kind=4 then ⟨2,(N gs.length (ansF gs)).1.res,gs.length,0,L,k⟩
  else if most ≤ gs.length then ⟨3,zRsl,gs.length,0,L,k⟩
  else if (doL L (wntOf (N gs.length (ansF gs)).1)).err ≠ 0 then ⟨4,zRsl,gs.length,(doL L (wntOf (N gs.length (ansF gs)).1)).err,(doL L (wntOf (N gs.length (ansF gs)).1)).L,if (doL L (wntOf (N gs.length (ansF gs)).1)).wrote then IntKind.i64.wrap (k + 1) else k⟩
  else runQ N most n (gs ++ [(doL L (wntOf (N gs.length (ansF gs)).1)).got]) (doL L (wntOf (N gs.length (ansF gs)).1)).L (if (doL L (wntOf (N gs.length (ansF gs)).1)).wrote then IntKind.i64.wrap (k + 1) else k)
section
variable {N:NextF} {most:Int} {n:Nat} {gs:List Got} {L:Shf} {k:Int} {w:Wq} {e:Int}
theorem run_no (h:N gs.length (ansF gs)=(w,e)) (he:e ≠ 0):runQ N most (n + 1) gs L k=⟨1,zRsl,gs.length,0,L,k⟩:=by
 unfold runQ
 rw [h,if_pos he]
theorem run_end (h:N gs.length (ansF gs)=(w,0)) (hk:w.kind=4):runQ N most (n + 1) gs L k=⟨2,w.res,gs.length,0,L,k⟩:=by
 unfold runQ
 rw [h,if_neg (fun h => h rfl),if_pos hk]
theorem run_cut (h:N gs.length (ansF gs)=(w,0)) (hk:¬ w.kind=4) (hm:most ≤ gs.length):runQ N most (n + 1) gs L k=⟨3,zRsl,gs.length,0,L,k⟩:=by
 unfold runQ
 rw [h,if_neg (fun h => h rfl),if_neg hk,if_pos hm]
theorem run_err (h:N gs.length (ansF gs)=(w,0)) (hk:¬ w.kind=4) (hm:¬ most ≤ gs.length) {D:Did} (hD:D=doL L (wntOf w)) (he:D.err ≠ 0):runQ N most (n + 1) gs L k=⟨4,zRsl,gs.length,D.err,D.L,if D.wrote then IntKind.i64.wrap (k + 1) else k⟩:=by
 subst hD
 unfold runQ
 rw [h,if_neg (fun h => h rfl),if_neg hk,if_neg hm,if_pos he]
theorem run_go (h:N gs.length (ansF gs)=(w,0)) (hk:¬ w.kind=4) (hm:¬ most ≤ gs.length) {D:Did} (hD:D=doL L (wntOf w)) (he:D.err=0):runQ N most (n + 1) gs L k=runQ N most n (gs ++ [D.got]) D.L (if D.wrote then IntKind.i64.wrap (k + 1) else k):=by
 subst hD
 conv => lhs; unfold runQ
 rw [h,if_neg (fun h => h rfl),if_neg hk,if_neg hm,if_neg (fun h => h he)]
end
theorem nextR_er (b:Bool) (r:Rs Rsl):nextR b (r.er id)=nextR b r:=by
 unfold nextR; rw [told_er]
structure NxOk (N:NextF):Prop where
 er:ErN N
 ok:∀ n f,(∀ j,j < n → InG (f j)) → WqOk (N n f).1
theorem lof_s (key n:Int) (hk:U64 key):Spec Tryz.prog 107 [.int .u64 key,.int .i64 n] (fun _ => .tup [labAV (ofV key n),.int .i64 (ofE n)]):=by
 intro m w hm hargs
 refine en 18 hm hargs Tryz.func107 fun B hB a0 hF => ?_
 refine wp_seq (rg hB TA_ok [0,1,4] [4] [] hF fun X0 a0 w1 hF => ?_)
 refine wp_seq (wp_seq (rg hB TA_ok [11,0,1,4] [4] [] hF fun X1 a0 w1 hF => ?_))
 apply test_ok hF rfl<;>intro hb hF
 ·have h9:(if decide (n < 0)=true then true else decide (n > 64))=true:=by subst hB; exact hb
  have hr:n < 0 ∨ 64 < n:=by
   by_cases h:n < 0
   ·exact .inl h
   simp [h] at h9; exact .inr h9
  have hV:ofV key n=⟨0,0⟩:=if_pos hr
  have hE:ofE n=1:=if_pos hr
  refine wp_seq (rg hB TA_ok [4,5] [4] [] hF fun X2 a0 w1 hF => ?_)
  refine wp_ret ((rsi hB TA_ok hF nAt (he:=?_)))
  rw [hV,hE]; subst hB; exact zr
 have h9:(if decide (n < 0)=true then true else decide (n > 64))=false:=by subst hB; exact hb
 have hr:0 ≤ n ∧ n ≤ 64:=by
  by_cases h:n < 0
  ·simp [h] at h9
  simp [h] at h9; omega
 have hV:ofV key n=⟨n,(headN key.toNat n.toNat:Nat)⟩:=if_neg (by omega)
 have hE:ofE n=0:=if_neg (by omega)
 have S:=head_s key n hk hr.1 hr.2
 obtain ⟨hd,hhd⟩:=eqv (((headN key.toNat n.toNat:Nat):Int))
 rw [← hhd] at S hV
 have O1:=S
 refine wp_skip (wp_seq (rg hB TA_ok [4,5] [4] [(3,.r fun _ => .int .u64 hd)] hF fun X3 a0 w1 hF => ?_))
 refine wp_ret ((rsi hB TA_ok hF nAt (he:=?_)))
 rw [hV,hE]; subst hB; exact zr
abbrev leafV:AV:=.agg [.int .i64 1,.sl none none 0 0 2 (fun _ => []),.int .i64 (-1),.int .u64 0,.int .u64 0]
abbrev sptV (s:Spt):AV:=.agg [.int .i64 s.lab.len,.int .u64 s.lab.bits,.int .i64 s.g.code,.int .u64 s.g.ver,.bool (.v s.g.has),.int .i64 s.g.x.r.kd,.sl none s.g.x.A s.g.x.r.n s.g.x.c 2 (fun i => itC (s.g.x.r.f i)),.int .i64 s.g.x.r.nx.len,.int .u64 s.g.x.r.nx.bits,.int .u64 s.g.x.r.mrk]
theorem ofV_ok {key:Int} (hk:U64 key) (n:Int):LOk (ofV key n):=⟨ofV_isL n,ofV_u hk n⟩
theorem leaf_s:Spec Tryz.prog 115 [] (fun _ => leafV):=by
 intro m w hm hargs
 have SN:=none_s
 simp only [labAV,noneL] at SN
 refine en 3 hm hargs Tryz.func115 fun B hB a0 hF => ?_
 refine wp_seq (rg hB TA_ok [0] [0] [] hF fun X0 a0 w1 hF => ?_)
 have O1:=SN
 refine wp_seq (rg hB TA_ok [0] [0] [(0,.r fun _ => .agg [.int .i64 (-1),.int .u64 0])] hF fun X1 a0 w1 hF => ?_)
 exact wp_ret ((rsp hB TA_ok hF nAt).1)
theorem fin1_m0 (b:Nat) (key k:Int) (v:ByteArray):SpecX Tryz.prog 101 [.agg [.int .u64 k,.str v],.ptr 0 b 0] [(0,⟨b,23,[.int .u64 key]⟩)] (fun _ => ⟨.bool (.v (decide (k=key))),[(0,[.int .u64 key])],[]⟩):=by
 intro m w hm hargs hpre
 refine enX 8 hm hpre hargs Tryz.func101 fun B hB a0 hF => ?_
 refine wp_seq (rg hB TA_ok [1,2] [0,2] [] hF fun X0 a0 w1 hF => ?_)
 refine wp_seq (rg hB TA_ok [3] [0] [] hF fun X1 a0 w1 hF => ?_)
 refine wp_ret ((rx hB TA_ok hF nAt [] (he:=?_)).1)
 subst hB; refine Sim.bool ?_
 show (k == key)=decide (k=key)
 exact rfl
theorem idxf_m0 (b:Nat) (A:Option Addr) (n c:Nat) (f:Nat → Itm) (hn:n ≤ 1000000) (key:Int):SpecX Tryz.prog 51 [.sl none A n c 2 (fun i => itC (f i)),.fn 101 [] [.ptr 0 b 0]] [(0,⟨b,23,[.int .u64 key]⟩)] (fun _ => ⟨.int .i64 (idxF (fun t => decide ((f t).key=key)) n),[(0,[.int .u64 key])],[]⟩):=by
 intro m w hm hargs hpre
 have hmx:maxLen=9223372036854775807:=rfl
 refine enX 19 hm hpre hargs Tryz.func51 fun B hB a0 hF => ?_
 refine wp_seq (rg hB TA_ok [0,1] [0] [] hF fun X0 a0 w1 hF => ?_)
 refine wp_seq (wp_seq (rg hB TA_ok [8,0,1,7] [0] [] hF fun X1 a0 w1 hF => ?_))
 refine wp_block (loop_pre (ι:=Nat) (fun p => [(8,.int .i64 (p:Int))]) (fun p => []) (fun p => []) (fun p => p ≤ n ∧ ∀ t,t < p → decide ((f t).key=key)=false) (fun p => n - p) 0 ⟨Nat.zero_le _,fun t ht => absurd ht (Nat.not_lt_zero _)⟩ hF ?_)
 rintro i ⟨hi,hlt⟩ a0 w1 hF
 try dsimp only at hi
 try dsimp only at hlt
 refine wp_seq (rg hB TA_ok [9,8,0,1,7] [0] [] hF fun X2 a0 w1 hF => ?_)
 refine wp_seq (test_ok hF rfl (fun hb hF => ?_) (fun hb hF => ?_))
 ·have hin:i < n:=by
   have:(i:Int) < (n:Int):=by subst hB; simpa [std,sC] using hb
   omega
  have S:=fin1_m0 b key (f i).key (f i).val
  obtain ⟨q,hq⟩:=eqv (decide ((f i).key=key))
  rw [← hq] at S
  refine wp_skip (wp_seq (wp_block (wp_seq (rg hB TA_ok [5,8,0,1,7] [0] [] hF fun X3 a0 w1 hF => ?_))))
  apply wp_seq
  refine rg hB TA_ok [16,5,8,0,1,7] [0] [(5,.x fun _ => ⟨.bool (.v q),[(0,[.int .u64 key])],[]⟩)] hF (hob:=by intro X; subst hB; simp only [AO,Ob.holds,BE.den]<;>and_intros<;>repeat first | trivial | rfl | exact S | exact (show (0:Int) ≤ (i:Int) by omega) | exact (show (i:Int) < (n:Int) by omega) | exact (fun _ _ => by kernel_rfl) | refine ⟨?_,?_⟩ | intro h | exact Int.le_refl _ | decide | omega) fun X4 a0 w1 hF => ?_
  apply test_ok hF rfl<;>intro hb hF
  ·have hqt:q=true:=hb
   refine wp_seq (rg hB TA_ok [4] [0] [] hF fun X5 a0 w1 hF => ?_)
   refine wp_ret ((rx hB TA_ok hF nAt [] (he:=?_)).1)
   rw [idx_hit (p:=(fun t => decide ((f t).key=key))) hin hlt (by show decide ((f i).key=key)=true; rw [← hq]; exact hqt)]; subst hB; exact zr
  have hqf:q=false:=hb
  refine wp_skip (rg hB TA_ok [8,0,1,7] [0] [] hF fun X6 a0 w1 hF => ?_)
  have e:B.arith .add .i64 (i:Int) 1=((i + 1:Nat):Int):=by subst hB; exact wrap_succ (n:=n) hin (by omega)
  refine ⟨i + 1,⟨by omega,fun t ht => ?_⟩,by omega,by rw [← e]; exact hF⟩
  by_cases h:t=i
  ·rw [h,← hq]; exact hqf
  exact hlt t (by omega)
 have hout:i=n:=by
  have:¬ (i:Int) < (n:Int):=by subst hB; simpa [std,sC] using hb
  omega
 rw [hout] at hlt
 refine wp_exit (wp_seq (rg hB TA_ok [4] [0] [] hF fun X7 a0 w1 hF => ?_))
 refine wp_ret ((rx hB TA_ok hF nAt [] (he:=?_)).1)
 rw [idx_miss (p:=(fun t => decide ((f t).key=key))) hlt]; subst hB; exact zr
theorem idxf_m (k0:Nat) (b:Nat) (A:Option Addr) (n c:Nat) (f:Nat → Itm) (hn:n ≤ 1000000) (key:Int):SpecX Tryz.prog 51 [.sl none A n c 2 (fun i => itC (f i)),.fn 101 [] [.ptr k0 b 0]] [(k0,⟨b,23,[.int .u64 key]⟩)] (fun _ => ⟨.int .i64 (idxF (fun t => decide ((f t).key=key)) n),[(k0,[.int .u64 key])],[]⟩):=
 (idxf_m0 b A n c f hn key).re (by repeat (first | exact trivial | refine ⟨Sim.ptr,?_⟩ | refine ⟨Sim.fn ⟨Sim.ptr,trivial⟩ trivial,?_⟩ | refine ⟨Sim.fn trivial ⟨Sim.ptr,trivial⟩,?_⟩ | refine ⟨zr,?_⟩)) rfl (fun x => ⟨rfl,rfl,zr,rfl⟩)
theorem find_s (x:RA) (hx:RaOk x) (key:Int):Spec Tryz.prog 81 [recV x,.int .u64 key] (fun _ => .tup [.str (finV x key),.bool (.v (finB x key))]):=by
 intro m w hm hargs
 have hf:=hx.few
 have HC:=idx_cases (fun t => decide ((x.r.f t).key=key)) x.r.n
 have hV:finV x key=if 0 ≤ finI x key then (x.r.f (finI x key).toNat).val else ⟨#[]⟩:=rfl
 have hI:finB x key=decide (0 ≤ finI x key):=rfl
 refine en 19 hm hargs Tryz.func81 fun B hB a0 hF => ?_
 refine wp_seq (rg hB TA_ok [2,3] [2,3] [] hF fun X0 a0 w1 hF => ?_)
 have S:=idxf_m 3 (X0 1).b x.A x.r.n x.c x.r.f (by omega) key
 rw [show idxF (fun t => decide ((x.r.f t).key=key)) x.r.n=finI x key from rfl] at S HC
 obtain ⟨ix,hix⟩:=eqv (finI x key)
 rw [← hix] at S HC hV hI
 have O1:=S
 refine wp_seq (rg hB TA_ok [2,6] [2] [(3,.x fun _ => ⟨.int .i64 ix,[(3,[.int .u64 key])],[]⟩)] hF fun X1 a0 w1 hF => ?_)
 refine wp_seq (wp_seq (rg hB TA_ok [12,2,6] [2] [] hF fun X2 a0 w1 hF => ?_))
 apply test_ok hF rfl<;>intro hb hF
 ·have hr:ix < 0:=by subst hB; simpa [std,sC] using hb
  refine wp_seq (rg hB TA_ok [4,5] [] [] hF fun X3 a0 w1 hF => ?_)
  refine wp_ret ((rsi hB TA_ok hF nAt (he:=?_)))
  rw [hV,hI,if_neg (by omega),decide_eq_false (by omega)]; subst hB; exact zr
 have hr:¬ ix < 0:=by subst hB; simpa [std,sC] using hb
 obtain ⟨j,hj1,hj2⟩:∃ j,j < x.r.n ∧ ix=(j:Int):=by
  rcases HC with ⟨i,h1,h2,_⟩ | ⟨h1,_⟩
  ·exact ⟨i,h1,h2⟩
  omega
 rw [hj2,if_pos (by omega),Int.toNat_natCast] at hV
 refine wp_skip (wp_seq ?_)
 refine rg hB TA_ok [4,5] [] [] hF (hob:=by intro X; subst hB; simp only [AO,Ob.holds,BE.den]<;>and_intros<;>repeat first | trivial | rfl | exact ⟨(show (0:Int) ≤ ix by omega),(show ix < (x.r.n:Int) by omega)⟩ | exact (show (0:Int) ≤ ix by omega) | exact (show ix < (x.r.n:Int) by omega) | exact (fun _ _ => by kernel_rfl) | refine ⟨?_,?_⟩ | intro h | exact Int.le_refl _ | decide | omega) fun X4 a0 w1 hF => ?_
 refine wp_ret ((rsi hB TA_ok hF nAt (he:=?_)))
 rw [hV,hI,decide_eq_true (by omega)]; subst hB; subst hj2; exact zr
theorem casl_m (k0 b:Nat) (J:JobA) (hJ:JobOk J) (A:Option Addr) (c:Nat) (p:Pst) (hp:PstOk p) (hn:p.n ≤ 1000000) (l:Lab) (v:Int):RunS 114 k0 b J A c p [labAV l,.int .u64 v,leafV] (fun d => .bool (.v d)) (casM J.budget l v leafR p):=
 RunS.re (cas_m 0 b J hJ A c p hp hn l v ⟨none,0,leafR.rn⟩) ⟨zr,zr,Sim.agg ⟨zr,rowz_sim,zr,zr,zr,trivial⟩,trivial⟩
theorem from_m0 (b:Nat) (J:JobA) (hJ:JobOk J) (A:Option Addr) (c:Nat) (p:Pst) (hp:PstOk p) (hn:p.n ≤ 1000000) (key:Int) (hk:U64 key) (l:Lab) (hl:LOk l) (n:Nat) (hf:p.n < n):RunS 106 0 b J A c p [.int .u64 key,labAV l] (sptV) (linM J.bucket J.budget key n l p):=by
 intro m w hm hargs hpre
 refine enX 68 hm hpre hargs Tryz.func106 fun B hB a0 hF => ?_
 refine wp_seq (rg hB TA_ok [0,1,5,6] [0,5,6] [] hF fun X0 a0 w1 hF => ?_)
 refine wp_seq (rg hB TA_ok [0,1,5,6,7] [0,5,6,7] [] hF fun X1 a0 w1 hF => ?_)
 refine wp_block (loop_pre (ι:=Nat × Pst × Option Addr × Nat × Lab) (fun q => []) (fun q => [(0,⟨b,148,runC J q.2.2.1 q.2.2.2.1 q.2.1⟩),(5,⟨(X0 0).b,37,[.int .i64 q.2.2.2.2.len,.int .u64 q.2.2.2.2.bits]⟩)]) (fun q => []) (fun q => linM J.bucket J.budget key n l p=linM J.bucket J.budget key q.1 q.2.2.2.2 q.2.1 ∧ PstOk q.2.1 ∧ q.2.1.n ≤ 1000000 ∧ q.2.1.n < q.1 ∧ LOk q.2.2.2.2) (fun q => q.1) (n,p,A,c,l) ⟨rfl,hp,hn,hf,hl⟩ hF ?_)
 rintro ⟨nn,p0,A0,c0,l0⟩ ⟨hrun,hp0,hn0,hf0,hl0⟩ a0 w1 hF
 try dsimp only at hrun
 try dsimp only at hp0
 try dsimp only at hn0
 try dsimp only at hf0
 try dsimp only at hl0
 obtain ⟨m0,rfl⟩:∃ n2,nn=n2 + 1:=⟨nn - 1,by omega⟩
 refine wp_block (wp_seq ?_)
 rcases (get_m 0 b J hJ A0 c0 p0 hp0 hn0 l0).two (fro_get _ _ _) hp0 hn0 with ⟨w2,p2,hm2,O1⟩ | ⟨g2,p2,hm2,hs2,hp2,hn2,S2⟩
 ·refine stp 2 hB TA_ok [10,11] [0] [] hF O1 fun _ _ _ _ hF hk => ?_
  exact thm (P:=Tryz.prog) (fn:=Tryz.f106) (q:=p2) hF hk (by simp [hrun,linM,Rs.bind,hm2])
 have hl2:=get_lt hm2
 have hg2:=hp0.get hm2
 have O1:=S2
 refine rg hB TA_ok [0,1,5,6,7,8] [0,5,6,7,8] [(2,rc J (gotV g2) p2)] hF fun X2 a0 w1 hF => ?_
 obtain ⟨q3,hq3⟩:=eqv (gk g2 1)
 refine wp_seq (wp_block (wp_seq ?_))
 refine rg hB TA_ok [13,0,1,5,6,7,8] [0,5,6,7,8,15] [(2,.r fun _ => .bool (.v q3))] hF (hob:=by intro X; subst hB; simp only [AO,Ob.holds,BE.den]<;>and_intros<;>repeat first | trivial | rfl | exact (by rw [hq3]; exact is1_s g2 _ _ 1 _ rfl) | exact by rw [hq3]; exact is1_s g2 _ _ 1 _ rfl | exact (fun _ _ => by kernel_rfl) | refine ⟨?_,?_⟩ | intro h | exact Int.le_refl _ | decide | omega) fun X3 a0 w1 hF => ?_
 apply test_ok hF rfl<;>intro hb hF
 ·have tq3:gk g2 1=true:=by rw [← hq3]; exact hb
  refine wp_seq (rg hB TA_ok [6] [0,6] [] hF fun X4 a0 w1 hF => ?_)
  exact wp_ret ((rmm hB TA_ok hF (v:=(⟨l0,g2⟩:Spt)) (q:=p2) ((X2 2).A 0) ((X2 2).c 0) (by simp [hrun,linM,Rs.bind,hm2,tq3])).1)
 have tq3:gk g2 1=false:=by rw [← hq3]; exact hb
 obtain ⟨q5,hq5⟩:=eqv ((gk g2 3 || gk g2 4))
 apply wp_seq
 refine rg hB TA_ok [20,0,1,5,6,7,8] [0,5,6,7,8,22] [(2,.r fun _ => .bool (.v q5))] hF (hob:=by intro X; subst hB; simp only [AO,Ob.holds,BE.den]<;>and_intros<;>repeat first | trivial | rfl | exact (by rw [hq5]; exact is2_s g2 _ _ 3 4 _ rfl rfl) | exact by rw [hq5]; exact is2_s g2 _ _ 3 4 _ rfl rfl | exact (fun _ _ => by kernel_rfl) | refine ⟨?_,?_⟩ | intro h | exact Int.le_refl _ | decide | omega) fun X5 a0 w1 hF => ?_
 apply test_ok hF rfl<;>intro hb hF
 ·have tq5:(gk g2 3 || gk g2 4)=true:=by rw [← hq5]; exact hb
  apply wp_seq
  rcases (fin_c m0 0 b J hJ ((X2 2).A 0) ((X2 2).c 0) p2 hp2 hn2 l0 hl0 g2 hg2 (by have:=hl2; have:=hf0; omega)).two (fro_fns _ _ _ _ _ _) hp2 hn2 with ⟨w6,p6,hm6,O1⟩ | ⟨v6,p6,hm6,hs6,hp6,hn6,S6⟩
  ·refine stp 3 hB TA_ok [24,25,26] [0] [] hF O1 fun _ _ _ _ hF hk => ?_
   exact thm (P:=Tryz.prog) (fn:=Tryz.f106) (q:=p6) hF hk (by simp [hrun,linM,Rs.bind,hm2,tq3,tq5,hm6])
  have O1:=S6
  refine rg hB TA_ok [0,1,5,6,7] [0,5,6,7] [(3,rc J (unitV) p6)] hF fun X6 a0 w1 hF => ?_
  replace hF:=hF.keep [0,1,5,6,7] [0,5,6,7]
  exact wp_exit (⟨(m0,p6,_,_,l0),⟨by rw [hrun]; simp [linM,Rs.bind,hm2,tq3,tq5,hm6],hp6,hn6,by dsimp only; have:=hf0; have:=hl2; have:=hs6.le; omega,hl0⟩,by simp only; omega,hF⟩)
 have tq5:(gk g2 3 || gk g2 4)=false:=by rw [← hq5]; exact hb
 obtain ⟨q7,hq7⟩:=eqv (gk g2 2)
 apply wp_seq
 refine rg hB TA_ok [28,0,1,5,6,7,8] [0,5,6,7,8] [(2,.r fun _ => .bool (.v q7))] hF (hob:=by intro X; subst hB; simp only [AO,Ob.holds,BE.den]<;>and_intros<;>repeat first | trivial | rfl | exact (by rw [hq7]; exact is1_s g2 _ _ 2 _ rfl) | exact by rw [hq7]; exact is1_s g2 _ _ 2 _ rfl | exact (fun _ _ => by kernel_rfl) | refine ⟨?_,?_⟩ | intro h | exact Int.le_refl _ | decide | omega) fun X7 a0 w1 hF => ?_
 apply test_ok hF rfl<;>intro hb hF
 ·have t7:(gk g2 2 && decide (l0.len < 64))=true:=by subst hB; rw [← hq7]; revert hb; cases q7<;>simp [std,sC]
  have h64:l0.len < 64:=by simp at t7; exact t7.2
  have h0l:=(lab_parts hl0.isl).1
  have S8:=lof_s key (l0.len + 1) hk
  simp only [labAV] at S8
  have e1:IntKind.i64.wrap (l0.len + 1)=l0.len + 1:=wrap_in (by omega) (by omega)
  have hk8:=ofV_ok hk (l0.len + 1)
  obtain ⟨k,hk⟩:=eqv (ofV key (l0.len + 1))
  rw [← hk] at S8 hk8
  obtain ⟨ke,hke⟩:=eqv (ofE (l0.len + 1))
  rw [← hke] at S8
  rw [← e1] at S8
  have O1:=S8
  refine wp_seq (rg hB TA_ok [0,1,5,6,7] [0,5,6,7] [(4,.r fun _ => .tup [.agg [.int .i64 k.len,.int .u64 k.bits],.int .i64 ke])] hF fun X8 a0 w1 hF => ?_)
  replace hF:=hF.keep [0,1,5,6,7] [0,5,6,7]
  exact wp_exit (⟨(m0,p2,_,_,k),⟨by rw [hrun]; simp [linM,Rs.bind,hm2,tq3,tq5,t7,← hk],hp2,hn2,by dsimp only; have:=hf0; have:=hl2; omega,hk8⟩,by simp only; omega,hF⟩)
 have t7:(gk g2 2 && decide (l0.len < 64))=false:=by subst hB; rw [← hq7]; revert hb; cases q7<;>simp [std,sC]
 obtain ⟨q9,hq9⟩:=eqv (gk g2 5)
 apply wp_seq
 refine rg hB TA_ok [45,0,1,5,6,7,8] [0,5,6,7,8,47] [(2,.r fun _ => .bool (.v q9))] hF (hob:=by intro X; subst hB; simp only [AO,Ob.holds,BE.den]<;>and_intros<;>repeat first | trivial | rfl | exact (by rw [hq9]; exact is1_s g2 _ _ 5 _ rfl) | exact by rw [hq9]; exact is1_s g2 _ _ 5 _ rfl | exact (fun _ _ => by kernel_rfl) | refine ⟨?_,?_⟩ | intro h | exact Int.le_refl _ | decide | omega) fun X9 a0 w1 hF => ?_
 apply test_ok hF rfl<;>intro hb hF
 ·have tq9:gk g2 5=true:=by rw [← hq9]; exact hb
  rcases (thw_c m0 0 b J hJ ((X2 2).A 0) ((X2 2).c 0) p2 hp2 hn2 l0 hl0 (by have:=hl2; have:=hf0; omega)).two (fro_thw _ _ _ _ _) hp2 hn2 with ⟨w10,p10,hm10,O1⟩ | ⟨v10,p10,hm10,hs10,hp10,hn10,S10⟩
  ·refine stp 2 hB TA_ok [49,50] [0] [] hF O1 fun _ _ _ _ hF hk => ?_
   exact thm (P:=Tryz.prog) (fn:=Tryz.f106) (q:=p10) hF hk (by simp [hrun,linM,Rs.bind,hm2,tq3,tq5,t7,tq9,hm10])
  have O1:=S10
  refine rg hB TA_ok [0,1,5,6,7] [0,5,6,7] [(2,rc J (unitV) p10)] hF fun X10 a0 w1 hF => ?_
  refine rg hB TA_ok [0,1,5,6,7] [0,5,6,7] [] hF fun X13 a0 w1 hF => ?_
  replace hF:=hF.keep [0,1,5,6,7] [0,5,6,7]
  exact ⟨(m0,p10,_,_,rootL),⟨by rw [hrun]; simp [linM,Rs.bind,hm2,tq3,tq5,t7,tq9,hm10],hp10,hn10,by dsimp only; have:=hf0; have:=hl2; have:=hs10.le; omega,lok_z⟩,by simp only; omega,hF⟩
 have tq9:gk g2 5=false:=by rw [← hq9]; exact hb
 apply wp_seq
 refine rg hB TA_ok [52,0,1,5,6,7,8] [0,5,6,7,8] [] hF (hob:=by intro X; subst hB; simp only [AO,Ob.holds,BE.den]<;>and_intros<;>repeat first | trivial | rfl | exact ob_lab (Kk:=noK) _ _ _ _ | exact (fun _ _ => by kernel_rfl) | refine ⟨?_,?_⟩ | intro h | exact Int.le_refl _ | decide | omega) fun X11 a0 w1 hF => ?_
 apply test_ok hF rfl<;>intro hb hF
 ·have t11:(!g2.has && decide (l0=rootL))=true:=by
   have h9:(if (!g2.has)=true then eqL [.int .i64 l0.len,.int .u64 l0.bits] [.int .i64 0,.int .u64 0] else false)=true:=by subst hB; exact hb
   rw [show eqL [.int .i64 l0.len,.int .u64 l0.bits] [.int .i64 0,.int .u64 0]=decide (l0=rootL) from eqL_lab l0 rootL] at h9
   rw [← h9]; cases g2.has<;>rfl
  rcases (casl_m 0 b J hJ ((X2 2).A 0) ((X2 2).c 0) p2 hp2 hn2 rootL g2.ver).two (fro_cas _ _ _ _ _) hp2 hn2 with ⟨w12,p12,hm12,O1⟩ | ⟨d12,p12,hm12,hs12,hp12,hn12,S12⟩
  ·have O2:=leaf_s
   refine stpD 5 hB TA_ok [61,62,64,65] [0] [(4,.r fun _ => leafV)] hF O1 fun _ _ _ _ hF hk => ?_
   exact thm (P:=Tryz.prog) (fn:=Tryz.f106) (q:=p12) hF hk (by simp [hrun,linM,Rs.bind,hm2,tq3,tq5,t7,tq9,t11,hm12])
  have O1:=leaf_s
  have O2:=S12
  refine drg hB TA_ok [0,1,5,6,7] [0,5,6,7] [(4,.r fun _ => leafV),(5,rc J (.bool (.v d12)) p12)] hF fun X12 a0 w1 hF => ?_
  refine rg hB TA_ok [0,1,5,6,7] [0,5,6,7] [] hF fun X13 a0 w1 hF => ?_
  replace hF:=hF.keep [0,1,5,6,7] [0,5,6,7]
  exact ⟨(m0,p12,_,_,rootL),⟨by rw [hrun]; simp [linM,Rs.bind,hm2,tq3,tq5,t7,tq9,t11,hm12],hp12,hn12,by dsimp only; have:=hf0; have:=hl2; have:=hs12.le; omega,lok_z⟩,by simp only; omega,hF⟩
 have t11:(!g2.has && decide (l0=rootL))=false:=by
  have h9:(if (!g2.has)=true then eqL [.int .i64 l0.len,.int .u64 l0.bits] [.int .i64 0,.int .u64 0] else false)=false:=by subst hB; exact hb
  rw [show eqL [.int .i64 l0.len,.int .u64 l0.bits] [.int .i64 0,.int .u64 0]=decide (l0=rootL) from eqL_lab l0 rootL] at h9
  rw [← h9]; cases g2.has<;>rfl
 refine wp_skip (rg hB TA_ok [0,1,5,6,7] [0,5,6,7] [] hF fun X13 a0 w1 hF => ?_)
 replace hF:=hF.keep [0,1,5,6,7] [0,5,6,7]
 exact ⟨(m0,p2,_,_,rootL),⟨by rw [hrun]; simp [linM,Rs.bind,hm2,tq3,tq5,t7,tq9,t11],hp2,hn2,by dsimp only; have:=hf0; have:=hl2; omega,lok_z⟩,by simp only; omega,hF⟩
theorem from_m (k0 b:Nat) (J:JobA) (hJ:JobOk J) (A:Option Addr) (c:Nat) (p:Pst) (hp:PstOk p) (hn:p.n ≤ 1000000) (key:Int) (hk:U64 key) (l:Lab) (hl:LOk l) (n:Nat) (hf:p.n < n):RunS 106 k0 b J A c p [.int .u64 key,labAV l] (sptV) (linM J.bucket J.budget key n l p):=RunS.re (from_m0 b J hJ A c p hp hn key hk l hl n hf) (by repeat (first | exact trivial | refine ⟨zr,?_⟩))
theorem lin_m0 (b:Nat) (J:JobA) (hJ:JobOk J) (A:Option Addr) (c:Nat) (p:Pst) (hp:PstOk p) (hn:p.n ≤ 1000000) (key:Int) (hk:U64 key) (n:Nat) (hf:p.n < n):RunS 99 0 b J A c p [.int .u64 key] (sptV) (linM J.bucket J.budget key n rootL p):=by
 intro m w hm hargs hpre
 refine enX 9 hm hpre hargs Tryz.func99 fun B hB a0 hF => ?_
 refine wp_seq (rg hB TA_ok [0,1,4] [0,4] [] hF fun X0 a0 w1 hF => ?_)
 apply wp_seq
 rcases (from_m 0 b J hJ A c p hp hn key hk rootL lok_z n hf).two (fro_lin _ _ _ _ _ _) hp hn with ⟨w1,p1,hm1,O1⟩ | ⟨s1,p1,hm1,hs1,hp1,hn1,S1⟩
 ·refine stp 3 hB TA_ok [5,6,7] [0] [] hF O1 fun _ _ _ _ hF hk => ?_
  exact thm (P:=Tryz.prog) (fn:=Tryz.f99) (q:=p1) hF hk (by simp [Rs.bind,hm1])
 have O1:=S1
 refine rg hB TA_ok [4] [0,4] [(3,rc J (sptV s1) p1)] hF fun X1 a0 w1 hF => ?_
 exact wp_ret ((rmm hB TA_ok hF (v:=s1) (q:=p1) ((X1 3).A 0) ((X1 3).c 0) (by simp [Rs.bind,hm1])).1)
theorem lin_m (k0 b:Nat) (J:JobA) (hJ:JobOk J) (A:Option Addr) (c:Nat) (p:Pst) (hp:PstOk p) (hn:p.n ≤ 1000000) (key:Int) (hk:U64 key) (n:Nat) (hf:p.n < n):RunS 99 k0 b J A c p [.int .u64 key] (sptV) (linM J.bucket J.budget key n rootL p):=RunS.re (lin_m0 b J hJ A c p hp hn key hk n hf) (by repeat (first | exact trivial | refine ⟨zr,?_⟩))
section
variable {C:Cx} {P:Program} {Q:Exit → Act → World → Prop} {T:List (Nat × TI)} {s:St} {a:Act} {w:World} {B:Alg} {f:FuncId} {k:Nat} {blk:Blk} {ty:Nat} {v:Atom → AV} {sets:Atom → List (Nat × List AV)} {args':List AV} {id:Nat} {all L rest:List Oper} {R:Alg → (Nat → Atom) → St × List Ob} {o:Oper} {c:Call} {g:Operand} {l r args:(Nat → Atom) → List AV}
theorem stl (i n:Nat) (hB:B=std) (hT:TabOK P T) (kp km:List Nat) (cs:List (Nat × CS)) (h:Fits C s a w) (hsp:SpecT P f args' [(k,blk)] (fun x => .thr ty (v x) (sets x)))
  (K:∀ X x a w',Fits C ((R B X).1.eff (.sets (upd [(k,blk)] (sets x)))) a w' → Ok (((R B X).1.eff (.sets (upd [(k,blk)] (sets x)))).m C) w' (v x) → Q (.panic [{ v:=.iface ty (v x).den,recovered:=false }]) a w')
  (hex:∀ A X,(exec A T cs X all (number i (L.take n)) s).map (fun r => (r.1.keep kp km,r.2.1))=some (R A X):=by intro A X; conv => lhs; cbv) (hob:∀ X,AO P C.K (R B X).2:=by
   intro X; subst hB
   first
   | exact trivial
   | (simp only [AO,Ob.holds,BE.den]<;>and_intros<;>(repeat first | trivial | rfl | exact O1 | exact O2 | exact O3 | exact (fun _ _ => by kernel_rfl) | exact O1 _ _ _ rfl | exact O2 _ _ _ rfl | refine ⟨?_,?_⟩ | intro h | decide | omega)<;>done)
   | (simp [AO,Ob.holds,BE.den,std,sC,sAr]<;>omega))
  (hL:L.drop n=o :: rest:=by rfl) (hop:o.op = .call c:=by rfl) (hcal:c.callee = .value g:=by rfl) (hg:∀ X,goes all (R B X).1 o=true:=by intro X; rfl) (hgv:∀ X,val (R B X).1 [] g = .fn f (l X) (r X):=by intro X; rfl) (hl:∀ X,vals (R B X).1 [] c.args.toList=some (args X):=by intro X; rfl) (hsim:∀ X,SimL (l X ++ args X ++ r X) args':=by intro X; subst hB; exact zl)
  (hpre:∀ X,lookM (R B X).1.mem k=some blk:=by intro X; rfl) (hd:∀ X,inNt (R B X).1 o.dst=true:=by intro X; rfl) (hen:Enters P f:=by exact fun _ _ => by kernel_rfl):wpList P all.toArray Q L a w:=
 list_preB i n hB hT kp km cs h hex hob fun X a1 w1 hF => man_outT hL (hg X) hop hcal hF (hgv X) (hl X) hen hsp (hsim X) (mem1 (hpre X)) rfl (hd X) fun x w' hF hok => K X x _ w' hF hok
end
theorem Sim.of_int {k:IntKind} {x y:Int} (h:x=y):Sim (.int k x) (.int k y):=h ▸ zr
theorem anyF3 (f:Nat → Int) (v:Int):anyF 3 f v=(decide (f 0=v) || decide (f 1=v) || decide (f 2=v)):=by
 show (decide (f 0=v) || (decide (f 1=v) || (decide (f 2=v) || false)))=_
 rw [Bool.or_false,Bool.or_assoc]
theorem is30 (g:GotA) (A:Option Addr) (k k2 k3:Int) (f:Nat → Int) (h0:f 0=k) (h1:f 1=k2) (h2:f 2=k3):Spec Tryz.prog 109 [gotV g,.sl none A 3 3 1 (fun i => [.int .i64 (f i)])] (fun _ => .bool (.v (gk g k || gk g k2 || gk g k3))):=by
 intro m w hm hargs
 have S:=coni_s A 3 3 f g.x.r.kd
 obtain ⟨q,hq⟩:=eqv (anyF 3 f g.x.r.kd)
 rw [← hq] at S
 refine en 14 hm hargs Tryz.func109 fun B hB a0 hF => ?_
 refine wp_seq (rg hB TA_ok [1,2] [2] [] hF fun X0 a0 w1 hF => ?_)
 have O1:=S
 refine wp_seq (rg hB TA_ok [4] [] [(7,.r fun _ => .bool (.v q))] hF fun X1 a0 w1 hF => ?_)
 refine wp_ret ((rsi hB TA_ok hF nAt (he:=?_)))
 subst hB
 refine Sim.bool ?_
 show (if g.has=true then q else false)=_
 rw [hq,anyF3,h0,h1,h2]; unfold gk; simp only [dcomm g.x.r.kd]; cases g.has<;>rfl
theorem is3_s (g:GotA) (G:Option Nat) (A:Option Addr) (k k2 k3:Int) (cells:Nat → List AV) (h0:cells 0=[.int .i64 k]) (h1:cells 1=[.int .i64 k2]) (h2:cells 2=[.int .i64 k3]):Spec Tryz.prog 109 [gotV g,.sl G A 3 3 1 cells] (fun _ => .bool (.v (gk g k || gk g k2 || gk g k3))):=
 (is30 g A k k2 k3 (fun i => if i=0 then k else if i=1 then k2 else k3) rfl rfl rfl).sim ⟨zr,Sim.recell (fun i hi => by
  match i,hi with
  | 0,_ => rw [h0]; rfl
  | 1,_ => rw [h1]; rfl
  | 2,_ => rw [h2]; rfl),trivial⟩
theorem lft_m0 (b:Nat) (J:JobA) (hJ:JobOk J) (A:Option Addr) (c:Nat) (p:Pst) (hp:PstOk p) (hn:p.n ≤ 1000000) (l:Lab) (hl:LOk l) (n:Nat) (hf:p.n < n):RunS 111 0 b J A c p [labAV l] (fun b:Bool => .bool (.v b)) (lftM J.bucket J.budget n l p):=by
 intro m w hm hargs hpre
 have SP:=par_s l hl.u
 simp only [labAV] at SP
 obtain ⟨up,hup⟩:=eqv (parV l)
 rw [← hup] at SP
 obtain ⟨ue,hue⟩:=eqv (parE l)
 rw [← hue] at SP
 refine enX 25 hm hpre hargs Tryz.func111 fun B hB a0 hF => ?_
 refine wp_seq (rg hB TA_ok [0,3] [0,3] [] hF fun X0 a0 w1 hF => ?_)
 have O1:=SP
 refine wp_seq (rg hB TA_ok [0,3,5,6] [0,3,5] [(1,.r fun _ => .tup [.agg [.int .i64 up.len,.int .u64 up.bits],.int .i64 ue])] hF fun X1 a0 w1 hF => ?_)
 refine wp_seq (wp_seq ?_)
 rcases Bool.eq_false_or_eq_true (decide (ue=0)) with t8 | t8
 ·have t9:=of_decide_eq_true t8
  refine wp_region_lit (lpr 0 3 hB TA_ok [14,0,3,5] [0,3,5] [] hF fun X2_0 a0 w1 hF => ?_)
  replace hF:=hF.headS (v':=.bool .ff) (Sim.bool (by subst hB; have h9:=t8; simp [std,sC,BE.den] at h9 ⊢; exact h9)) rfl
  rcases (get_m 0 b J hJ A c p hp hn up).two (fro_get _ _ _) hp hn with ⟨w2,p2,hm2,O1⟩ | ⟨q2,p2,hm2,hs2,hp2,hn2,S2⟩
  ·refine stl 3 2 hB TA_ok [14,15,16] [0] [] hF O1 fun _ _ _ _ hF hk => ?_
   exact thm (P:=Tryz.prog) (fn:=Tryz.f111) (q:=p2) hF hk (by simp [lftM,← hup,← hue,Rs.bind,t8,t9,hm2])
  have hl2:=get_lt hm2
  have hg2:=hp.get hm2
  obtain ⟨r2,hr2⟩:=eqv ((gk q2 2 || gk q2 3 || gk q2 4))
  refine lnd 3 hB TA_ok [21,0,3] [0,3] [(7,.r fun _ => .bool (.v r2)),(5,rc J (gotV q2) p2)] hF (hob:=by intro X; subst hB; simp only [AO,Ob.holds,BE.den]<;>and_intros<;>repeat first | trivial | rfl | exact S2 | exact (by rw [hr2]; exact is3_s q2 _ _ 2 3 4 _ rfl rfl rfl) | exact by rw [hr2]; exact is3_s q2 _ _ 2 3 4 _ rfl rfl rfl | exact (fun _ _ => by kernel_rfl) | refine ⟨?_,?_⟩ | intro h | exact Int.le_refl _ | decide | omega) fun X2 a0 w1 hF => ?_
  apply test_ok hF rfl<;>intro hb hF
  ·have tr:(gk q2 2 || gk q2 3 || gk q2 4)=false:=by subst hB; rw [← hr2]; revert hb; cases r2<;>simp [std]
   refine wp_seq (rg hB TA_ok [4] [0] [] hF fun X3 a0 w1 hF => ?_)
   exact wp_ret ((rmm hB TA_ok hF (v:=true) (q:=p2) ((X2 5).A 0) ((X2 5).c 0) (by simp [lftM,← hup,← hue,Rs.bind,t8,t9,hm2,tr])).1)
  have tr:(gk q2 2 || gk q2 3 || gk q2 4)=true:=by subst hB; rw [← hr2]; revert hb; cases r2<;>simp [std]
  refine wp_skip (wp_seq ?_)
  rcases (thw_c n 0 b J hJ ((X2 5).A 0) ((X2 5).c 0) p2 hp2 hn2 l hl (by have:=hs2.le; omega)).two (fro_thw _ _ _ _ _) hp2 hn2 with ⟨w4,p4,hm4,O1⟩ | ⟨v4,p4,hm4,hs4,hp4,hn4,S4⟩
  ·refine stp 2 hB TA_ok [22,23] [0] [] hF O1 fun _ _ _ _ hF hk => ?_
   exact thm (P:=Tryz.prog) (fn:=Tryz.f111) (q:=p4) hF hk (by simp [lftM,← hup,← hue,Rs.bind,t8,t9,hm2,tr,hm4])
  have O1:=S4
  refine rg hB TA_ok [] [0] [(2,rc J (unitV) p4)] hF fun X4 a0 w1 hF => ?_
  refine wp_seq (rg hB TA_ok [4] [0] [] hF fun X5 a0 w1 hF => ?_)
  exact wp_ret ((rmm hB TA_ok hF (v:=false) (q:=p4) ((X4 2).A 0) ((X4 2).c 0) (by simp [lftM,← hup,← hue,Rs.bind,t8,t9,hm2,tr,hm4])).1)
 have t9:=of_decide_eq_false t8
 refine wp_region_lit (lpr 0 3 hB TA_ok [14,0,3,5] [0,3,5] [] hF fun X2_0 a0 w1 hF => ?_)
 replace hF:=hF.headS (v':=.bool .tt) (Sim.bool (by subst hB; have h9:=t8; simp [std,sC,BE.den] at h9 ⊢; exact h9)) rfl
 refine lnd 3 hB TA_ok [21,0,3] [0,3] [] hF fun X2 a0 w1 hF => ?_
 refine test_tt hF rfl (fun hF => ?_)
 refine wp_seq (rg hB TA_ok [4] [0] [] hF fun X3 a0 w1 hF => ?_)
 exact wp_ret ((rmm hB TA_ok hF (v:=true) (q:=p) A c (by simp [lftM,← hup,← hue,Rs.bind,t8,t9])).1)
theorem lft_m (k0 b:Nat) (J:JobA) (hJ:JobOk J) (A:Option Addr) (c:Nat) (p:Pst) (hp:PstOk p) (hn:p.n ≤ 1000000) (l:Lab) (hl:LOk l) (n:Nat) (hf:p.n < n):RunS 111 k0 b J A c p [labAV l] (fun b:Bool => .bool (.v b)) (lftM J.bucket J.budget n l p):=RunS.re (lft_m0 b J hJ A c p hp hn l hl n hf) (by repeat (first | exact trivial | refine ⟨zr,?_⟩))
theorem bin_m0 (b:Nat) (J:JobA) (hJ:JobOk J) (A:Option Addr) (c:Nat) (p:Pst) (hp:PstOk p) (hn:p.n ≤ 1000000) (key:Int) (hk:U64 key) (n:Nat) (hf:p.n < n):RunS 100 0 b J A c p [.int .u64 key] (sptV) (binM J.bucket J.budget key n 0 64 p):=by
 intro m w hm hargs hpre
 refine enX 63 hm hpre hargs Tryz.func100 fun B hB a0 hF => ?_
 refine wp_seq (rg hB TA_ok [0,1,4] [0,4] [] hF fun X0 a0 w1 hF => ?_)
 refine wp_scope_straight (wp_seq (rg hB TA_ok [5,6,0,1,4] [0,4] [] hF fun X1 a0 w1 hF => ?_))
 refine wp_seq (wp_label (wp_seq (wp_block (loop_pre (ι:=Nat × Pst × Option Addr × Nat × Int × Int) (fun q => [(5,.int .i64 q.2.2.2.2.1),(6,.int .i64 q.2.2.2.2.2)]) (fun q => [(0,⟨b,148,runC J q.2.2.1 q.2.2.2.1 q.2.1⟩)]) (fun q => []) (fun q => binM J.bucket J.budget key n 0 64 p=binM J.bucket J.budget key q.1 q.2.2.2.2.1 q.2.2.2.2.2 q.2.1 ∧ PstOk q.2.1 ∧ q.2.1.n ≤ 1000000 ∧ q.2.1.n < q.1 ∧ 0 ≤ q.2.2.2.2.1 ∧ q.2.2.2.2.1 ≤ 65 ∧ -1 ≤ q.2.2.2.2.2 ∧ q.2.2.2.2.2 ≤ 64) (fun q => q.1) (n,p,A,c,0,64) ⟨rfl,hp,hn,hf,(by dsimp only; omega),(by dsimp only; omega),(by dsimp only; omega),(by dsimp only; omega)⟩ hF ?_))))
 rintro ⟨nn,p0,A0,c0,lo0,hi0⟩ ⟨hrun,hp0,hn0,hf0,ha0,ha1,hb0,hb1⟩ a0 w1 hF
 try dsimp only at hrun
 try dsimp only at hp0
 try dsimp only at hn0
 try dsimp only at hf0
 try dsimp only at ha0
 try dsimp only at ha1
 try dsimp only at hb0
 try dsimp only at hb1
 obtain ⟨m0,rfl⟩:∃ n2,nn=n2 + 1:=⟨nn - 1,by omega⟩
 refine wp_seq (wp_seq (rg hB TA_ok [13,0,1,4,5,6] [0,4] [] hF fun X2 a0 w1 hF => ?_))
 apply test_ok hF rfl<;>intro hb hF
 ·have tl:lo0 ≤ hi0:=by subst hB; simpa [std,sC] using hb
  obtain ⟨md,hmd⟩:=eqv ((lo0 + hi0) / 2)
  have hm0:0 ≤ md ∧ md ≤ 64:=by omega
  have e3:stdDiv .quo .i64 (sAr .add .i64 lo0 hi0) 2=md:=by
   show IntKind.i64.wrap (Int.tdiv (IntKind.i64.wrap (lo0 + hi0)) 2)=md
   rw [wrap_in (x:=lo0 + hi0) (by omega) (by omega),Int.tdiv_eq_ediv_of_nonneg (by omega),← hmd]; exact wrap_in (by omega) (by omega)
  have e9:sAr .add .i64 md 1=md + 1:=wrap_in (by omega) (by omega)
  have e13:sAr .sub .i64 md 1=md - 1:=wrap_in (by omega) (by omega)
  have S8:=lof_s key md hk
  simp only [labAV] at S8
  have hk9:=ofV_ok hk md
  obtain ⟨k,hkk⟩:=eqv (ofV key md)
  rw [← hkk] at S8 hk9
  have hk8:=hkk
  obtain ⟨ke,hke⟩:=eqv (ofE md)
  rw [← hke] at S8
  refine wp_skip (wp_block (wp_seq (rg hB TA_ok [7,0,1,4,5,6] [0,4] [] hF fun X3 a0 w1 hF => ?_)))
  replace hF:=hF.headS (v':=.int .i64 md) (by subst hB; exact Sim.of_int e3) rfl
  have O1:=S8
  refine wp_seq (rg hB TA_ok [0,1,4,5,6,7,8] [0,4,8] [(2,.r fun _ => .tup [.agg [.int .i64 k.len,.int .u64 k.bits],.int .i64 ke])] hF fun X4 a0 w1 hF => ?_)
  apply wp_seq
  rcases (get_m 0 b J hJ A0 c0 p0 hp0 hn0 k).two (fro_get _ _ _) hp0 hn0 with ⟨w5,p5,hm5,O1⟩ | ⟨g5,p5,hm5,hs5,hp5,hn5,S5⟩
  ·refine stp 2 hB TA_ok [24,25] [0] [] hF O1 fun _ _ _ _ hF hk => ?_
   exact thm (P:=Tryz.prog) (fn:=Tryz.f100) (q:=p5) hF hk (by simp [hrun,binM,Rs.bind,tl,← hmd,← hk8,hm5])
  have hl5:=get_lt hm5
  have hg5:=hp0.get hm5
  have O1:=S5
  refine rg hB TA_ok [0,1,4,5,6,7,8,10] [0,4,8,10] [(2,rc J (gotV g5) p5)] hF fun X5 a0 w1 hF => ?_
  obtain ⟨q6,hq6⟩:=eqv (gk g5 1)
  refine wp_seq (wp_block (wp_seq ?_))
  refine rg hB TA_ok [27,0,1,4,5,6,7,8,10] [0,4,8,10,29] [(2,.r fun _ => .bool (.v q6))] hF (hob:=by intro X; subst hB; simp only [AO,Ob.holds,BE.den]<;>and_intros<;>repeat first | trivial | rfl | exact (by rw [hq6]; exact is1_s g5 _ _ 1 _ rfl) | exact by rw [hq6]; exact is1_s g5 _ _ 1 _ rfl | exact (fun _ _ => by kernel_rfl) | refine ⟨?_,?_⟩ | intro h | exact Int.le_refl _ | decide | omega) fun X6 a0 w1 hF => ?_
  apply test_ok hF rfl<;>intro hb hF
  ·have tq6:gk g5 1=true:=by rw [← hq6]; exact hb
   refine wp_seq (rg hB TA_ok [4] [0,4] [] hF fun X7 a0 w1 hF => ?_)
   exact wp_ret ((rmm hB TA_ok hF (v:=(⟨k,g5⟩:Spt)) (q:=p5) ((X5 2).A 0) ((X5 2).c 0) (by simp [hrun,binM,Rs.bind,tl,← hmd,← hk8,hm5,tq6])).1)
  have tq6:gk g5 1=false:=by rw [← hq6]; exact hb
  obtain ⟨q8,hq8⟩:=eqv (gk g5 2)
  apply wp_seq
  refine rg hB TA_ok [34,0,1,4,5,6,7,8,10] [0,4,8,10,36] [(2,.r fun _ => .bool (.v q8))] hF (hob:=by intro X; subst hB; simp only [AO,Ob.holds,BE.den]<;>and_intros<;>repeat first | trivial | rfl | exact (by rw [hq8]; exact is1_s g5 _ _ 2 _ rfl) | exact by rw [hq8]; exact is1_s g5 _ _ 2 _ rfl | exact (fun _ _ => by kernel_rfl) | refine ⟨?_,?_⟩ | intro h | exact Int.le_refl _ | decide | omega) fun X8 a0 w1 hF => ?_
  apply test_ok hF rfl<;>intro hb hF
  ·have tq8:gk g5 2=true:=by rw [← hq8]; exact hb
   refine wp_seq (rg hB TA_ok [5,0,1,4,6] [0,4] [] hF fun X9 a0 w1 hF => ?_)
   have e9':B.arith .add .i64 md 1=md + 1:=by subst hB; exact e9
   replace hF:=hF.keep [5,6,0,1,4] [0,4]
   exact wp_exit (⟨(m0,p5,_,_,(md + 1),hi0),⟨by rw [hrun]; simp [binM,Rs.bind,tl,← hmd,← hk8,hm5,tq6,tq8],hp5,hn5,(by dsimp only; have:=hf0; have:=hl5; omega),(by dsimp only; omega),(by dsimp only; omega),(by dsimp only; omega),(by dsimp only; omega)⟩,by simp only; omega,by dsimp only; rw [← e9']; exact hF⟩)
  have tq8:gk g5 2=false:=by rw [← hq8]; exact hb
  obtain ⟨q10,hq10⟩:=eqv ((gk g5 3 || gk g5 4))
  apply wp_seq
  refine rg hB TA_ok [40,0,1,4,5,6,7,8,10] [0,4,8,10,42] [(2,.r fun _ => .bool (.v q10))] hF (hob:=by intro X; subst hB; simp only [AO,Ob.holds,BE.den]<;>and_intros<;>repeat first | trivial | rfl | exact (by rw [hq10]; exact is2_s g5 _ _ 3 4 _ rfl rfl) | exact by rw [hq10]; exact is2_s g5 _ _ 3 4 _ rfl rfl | exact (fun _ _ => by kernel_rfl) | refine ⟨?_,?_⟩ | intro h | exact Int.le_refl _ | decide | omega) fun X10 a0 w1 hF => ?_
  apply test_ok hF rfl<;>intro hb hF
  ·have tq10:(gk g5 3 || gk g5 4)=true:=by rw [← hq10]; exact hb
   apply wp_seq
   rcases (fin_c m0 0 b J hJ ((X5 2).A 0) ((X5 2).c 0) p5 hp5 hn5 k hk9 g5 hg5 (by have:=hl5; have:=hf0; omega)).two (fro_fns _ _ _ _ _ _) hp5 hn5 with ⟨w11,p11,hm11,O1⟩ | ⟨v11,p11,hm11,hs11,hp11,hn11,S11⟩
   ·refine stp 3 hB TA_ok [44,45,46] [0] [] hF O1 fun _ _ _ _ hF hk => ?_
    exact thm (P:=Tryz.prog) (fn:=Tryz.f100) (q:=p11) hF hk (by simp [hrun,binM,Rs.bind,tl,← hmd,← hk8,hm5,tq6,tq8,tq10,hm11])
   have O1:=S11
   refine rg hB TA_ok [0,1,4,5,6] [0,4] [(3,rc J (unitV) p11)] hF fun X11 a0 w1 hF => ?_
   replace hF:=hF.keep [5,6,0,1,4] [0,4]
   exact wp_exit (⟨(m0,p11,_,_,lo0,hi0),⟨by rw [hrun]; simp [binM,Rs.bind,tl,← hmd,← hk8,hm5,tq6,tq8,tq10,hm11],hp11,hn11,(by dsimp only; have:=hf0; have:=hl5; have:=hs11.le; omega),(by dsimp only; omega),(by dsimp only; omega),(by dsimp only; omega),(by dsimp only; omega)⟩,by simp only; omega,by exact hF⟩)
  have tq10:(gk g5 3 || gk g5 4)=false:=by rw [← hq10]; exact hb
  apply wp_seq
  rcases Bool.eq_false_or_eq_true (gk g5 5) with t8 | t8
  ·rcases (lft_m 0 b J hJ ((X5 2).A 0) ((X5 2).c 0) p5 hp5 hn5 k hk9 m0 (by have:=hl5; have:=hf0; omega)).two (fro_lft _ _ _ _ _) hp5 hn5 with ⟨w12,p12,hm12,O1⟩ | ⟨b12,p12,hm12,hs12,hp12,hn12,S12⟩
   ·refine stp 6 hB TA_ok [52,53,54] [0] [(2,.r fun _ => .bool .tt)] hF O1 (hob:=by intro X; subst hB; simp only [AO,Ob.holds,BE.den]<;>and_intros<;>repeat first | trivial | rfl | exact ((is1_s g5 _ _ 5 _ rfl).res fun _ => Sim.bool (by rw [t8]; rfl)) | exact (fun _ _ => by kernel_rfl) | refine ⟨?_,?_⟩ | intro h | exact Int.le_refl _ | decide | omega) fun _ _ _ _ hF hk => ?_
    exact thm (P:=Tryz.prog) (fn:=Tryz.f100) (q:=p12) hF hk (by simp [hrun,binM,Rs.bind,tl,← hmd,← hk8,hm5,tq6,tq8,tq10,t8,hm12])
   refine rg hB TA_ok [48,0,1,4,5,6,7] [0,4] [(2,.r fun _ => .bool .tt),(6,rc J (.bool (.v b12)) p12)] hF (hob:=by intro X; subst hB; simp only [AO,Ob.holds,BE.den]<;>and_intros<;>repeat first | trivial | rfl | exact ((is1_s g5 _ _ 5 _ rfl).res fun _ => Sim.bool (by rw [t8]; rfl)) | exact S12 | exact (fun _ _ => by kernel_rfl) | refine ⟨?_,?_⟩ | intro h | exact Int.le_refl _ | decide | omega) fun X12 a0 w1 hF => ?_
   apply test_ok hF rfl<;>intro hb hF
   ·have tb:b12=false:=by subst hB; revert hb; cases b12<;>simp [std]
    replace hF:=hF.keep [5,6,0,1,4] [0,4]
    exact wp_exit (⟨(m0,p12,_,_,lo0,hi0),⟨by rw [hrun]; simp [binM,Rs.bind,tl,← hmd,← hk8,hm5,tq6,tq8,tq10,t8,hm12,tb],hp12,hn12,(by dsimp only; have:=hf0; have:=hl5; have:=hs12.le; omega),(by dsimp only; omega),(by dsimp only; omega),(by dsimp only; omega),(by dsimp only; omega)⟩,by simp only; omega,by exact hF⟩)
   have tb:b12=true:=by subst hB; revert hb; cases b12<;>simp [std]
   refine wp_skip (rg hB TA_ok [0,1,4,5,6] [0,4] [] hF fun X13 a0 w1 hF => ?_)
   have e13':B.arith .sub .i64 md 1=md - 1:=by subst hB; exact e13
   replace hF:=hF.keep [5,6,0,1,4] [0,4]
   exact ⟨(m0,p12,_,_,lo0,(md - 1)),⟨by rw [hrun]; simp [binM,Rs.bind,tl,← hmd,← hk8,hm5,tq6,tq8,tq10,t8,hm12,tb],hp12,hn12,(by dsimp only; have:=hf0; have:=hl5; have:=hs12.le; omega),(by dsimp only; omega),(by dsimp only; omega),(by dsimp only; omega),(by dsimp only; omega)⟩,by simp only; omega,by dsimp only; rw [← e13']; exact hF⟩
  refine rg hB TA_ok [48,0,1,4,5,6,7] [0,4] [(2,.r fun _ => .bool .ff)] hF (hob:=by intro X; subst hB; simp only [AO,Ob.holds,BE.den]<;>and_intros<;>repeat first | trivial | rfl | exact ((is1_s g5 _ _ 5 _ rfl).res fun _ => Sim.bool (by rw [t8]; rfl)) | exact (fun _ _ => by kernel_rfl) | refine ⟨?_,?_⟩ | intro h | exact Int.le_refl _ | decide | omega) fun X12 a0 w1 hF => ?_
  refine test_ff hF rfl (fun hF => ?_)
  refine wp_skip (rg hB TA_ok [0,1,4,5,6] [0,4] [] hF fun X13 a0 w1 hF => ?_)
  have e13':B.arith .sub .i64 md 1=md - 1:=by subst hB; exact e13
  replace hF:=hF.keep [5,6,0,1,4] [0,4]
  exact ⟨(m0,p5,_,_,lo0,(md - 1)),⟨by rw [hrun]; simp [binM,Rs.bind,tl,← hmd,← hk8,hm5,tq6,tq8,tq10,t8],hp5,hn5,(by dsimp only; have:=hf0; have:=hl5; omega),(by dsimp only; omega),(by dsimp only; omega),(by dsimp only; omega),(by dsimp only; omega)⟩,by simp only; omega,by dsimp only; rw [← e13']; exact hF⟩
 have tl:¬ lo0 ≤ hi0:=by subst hB; simpa [std,sC] using hb
 refine wp_exit (wp_seq ?_)
 rcases (lin_m 0 b J hJ A0 c0 p0 hp0 hn0 key hk (m0 + 1) hf0).two (fro_lin _ _ _ _ _ _) hp0 hn0 with ⟨w14,p14,hm14,O1⟩ | ⟨s14,p14,hm14,hs14,hp14,hn14,S14⟩
 ·refine stp 2 hB TA_ok [60,61] [0] [] hF O1 fun _ _ _ _ hF hk => ?_
  exact thm (P:=Tryz.prog) (fn:=Tryz.f100) (q:=p14) hF hk (by simp [hrun,binM,Rs.bind,tl,hm14])
 have O1:=S14
 refine rg hB TA_ok [4] [0,4] [(2,rc J (sptV s14) p14)] hF fun X14 a0 w1 hF => ?_
 exact wp_ret ((rmm hB TA_ok hF (v:=s14) (q:=p14) ((X14 2).A 0) ((X14 2).c 0) (by simp [hrun,binM,Rs.bind,tl,hm14])).1)
theorem bin_m (k0 b:Nat) (J:JobA) (hJ:JobOk J) (A:Option Addr) (c:Nat) (p:Pst) (hp:PstOk p) (hn:p.n ≤ 1000000) (key:Int) (hk:U64 key) (n:Nat) (hf:p.n < n):RunS 100 k0 b J A c p [.int .u64 key] (sptV) (binM J.bucket J.budget key n 0 64 p):=RunS.re (bin_m0 b J hJ A c p hp hn key hk n hf) (by repeat (first | exact trivial | refine ⟨zr,?_⟩))
theorem sek1_m0 (b:Nat) (J:JobA) (hJ:JobOk J) (A:Option Addr) (c:Nat) (p:Pst) (hp:PstOk p) (hn:p.n ≤ 1000000) (key:Int) (hk:U64 key) (n:Nat) (hf:p.n < n) (hh:J.how=1):RunS 80 0 b J A c p [.int .u64 key] (sptV) (linM J.bucket J.budget key n rootL p):=by
 intro m w hm hargs hpre
 refine enX 17 hm hpre hargs Tryz.func80 fun B hB a0 hF => ?_
 refine wp_seq (rg hB TA_ok [0,1,4] [0,4] [] hF fun X0 a0 w1 hF => ?_)
 refine wp_seq (rg hB TA_ok [0,1,4,5] [0,4,5] [] hF fun X1 a0 w1 hF => ?_)
 refine wp_seq (wp_region_lit (lpr 0 5 hB TA_ok [11,0,1,4,5] [0,4,5] [] hF fun X2_0 a0 w1 hF => ?_))
 replace hF:=hF.headS (v':=.int .i64 1) (Sim.of_int hh) rfl
 rcases (lin_m 0 b J hJ A c p hp hn key hk n hf).two (fro_lin _ _ _ _ _ _) hp hn with ⟨w2,p2,hm2,O1⟩ | ⟨s2,p2,hm2,hs2,hp2,hn2,S2⟩
 ·refine stl 5 4 hB TA_ok [13,14,15] [0] [] hF O1 fun _ _ _ _ hF hk => ?_
  exact thm (P:=Tryz.prog) (fn:=Tryz.f80) (q:=p2) hF hk (by simp [Rs.bind,hm2])
 have O1:=S2
 refine lnd 5 hB TA_ok [4] [0,4] [(9,rc J (sptV s2) p2)] hF fun X2 a0 w1 hF => ?_
 exact wp_ret ((rmm hB TA_ok hF (v:=s2) (q:=p2) ((X2 9).A 0) ((X2 9).c 0) (by simp [Rs.bind,hm2])).1)
theorem sek1_m (k0 b:Nat) (J:JobA) (hJ:JobOk J) (A:Option Addr) (c:Nat) (p:Pst) (hp:PstOk p) (hn:p.n ≤ 1000000) (key:Int) (hk:U64 key) (n:Nat) (hf:p.n < n) (hh:J.how=1):RunS 80 k0 b J A c p [.int .u64 key] (sptV) (linM J.bucket J.budget key n rootL p):=RunS.re (sek1_m0 b J hJ A c p hp hn key hk n hf hh) (by repeat (first | exact trivial | refine ⟨zr,?_⟩))
theorem sek2_m0 (b:Nat) (J:JobA) (hJ:JobOk J) (A:Option Addr) (c:Nat) (p:Pst) (hp:PstOk p) (hn:p.n ≤ 1000000) (key:Int) (hk:U64 key) (n:Nat) (hf:p.n < n) (hh:J.how=2):RunS 80 0 b J A c p [.int .u64 key] (sptV) (binM J.bucket J.budget key n 0 64 p):=by
 intro m w hm hargs hpre
 refine enX 17 hm hpre hargs Tryz.func80 fun B hB a0 hF => ?_
 refine wp_seq (rg hB TA_ok [0,1,4] [0,4] [] hF fun X0 a0 w1 hF => ?_)
 refine wp_seq (rg hB TA_ok [0,1,4,5] [0,4,5] [] hF fun X1 a0 w1 hF => ?_)
 refine wp_seq (wp_region_lit (lpr 0 5 hB TA_ok [11,0,1,4,5] [0,4,5] [] hF fun X2_0 a0 w1 hF => ?_))
 replace hF:=hF.headS (v':=.int .i64 2) (Sim.of_int hh) rfl
 rcases (bin_m 0 b J hJ A c p hp hn key hk n hf).two (fro_bin _ _ _ _ _ _ _) hp hn with ⟨w2,p2,hm2,O1⟩ | ⟨s2,p2,hm2,hs2,hp2,hn2,S2⟩
 ·refine stl 5 4 hB TA_ok [13,14,15] [0] [] hF O1 fun _ _ _ _ hF hk => ?_
  exact thm (P:=Tryz.prog) (fn:=Tryz.f80) (q:=p2) hF hk (by simp [Rs.bind,hm2])
 have O1:=S2
 refine lnd 5 hB TA_ok [4] [0,4] [(9,rc J (sptV s2) p2)] hF fun X2 a0 w1 hF => ?_
 exact wp_ret ((rmm hB TA_ok hF (v:=s2) (q:=p2) ((X2 9).A 0) ((X2 9).c 0) (by simp [Rs.bind,hm2])).1)
theorem sek2_m (k0 b:Nat) (J:JobA) (hJ:JobOk J) (A:Option Addr) (c:Nat) (p:Pst) (hp:PstOk p) (hn:p.n ≤ 1000000) (key:Int) (hk:U64 key) (n:Nat) (hf:p.n < n) (hh:J.how=2):RunS 80 k0 b J A c p [.int .u64 key] (sptV) (binM J.bucket J.budget key n 0 64 p):=RunS.re (sek2_m0 b J hJ A c p hp hn key hk n hf hh) (by repeat (first | exact trivial | refine ⟨zr,?_⟩))
theorem sek_m (k0 b:Nat) (J:JobA) (hJ:JobOk J) (A:Option Addr) (c:Nat) (p:Pst) (hp:PstOk p) (hn:p.n ≤ 1000000) (key:Int) (hk:U64 key) (n:Nat) (hf:p.n < n) (hh:J.how=1 ∨ J.how=2):RunS 80 k0 b J A c p [.int .u64 key] sptV (sekM J.bucket J.budget J.how key n p):=by
 unfold sekM
 rcases hh with hh | hh
 ·rw [if_pos hh]; exact sek1_m k0 b J hJ A c p hp hn key hk n hf hh
 rw [if_neg (by omega)]; exact sek2_m k0 b J hJ A c p hp hn key hk n hf hh
theorem btw_s (v lo hi:Int):Spec Tryz.prog 96 [.int .i64 v,.int .i64 lo,.int .i64 hi] (fun _ => .bool (.v (btw v lo hi))):=by
 intro m w hm hargs
 refine en 15 hm hargs Tryz.func96 fun B hB a0 hF => ?_
 refine wp_seq (rg hB TA_ok [0,1,2] [] [] hF fun X0 a0 w1 hF => ?_)
 refine wp_seq (rg hB TA_ok [6] [] [] hF fun X1 a0 w1 hF => ?_)
 refine wp_ret ((rsi hB TA_ok hF nAt (he:=?_)))
 subst hB
 refine Sim.bool ?_
 show (if decide (lo ≤ v)=true then decide (v ≤ hi) else false)=_
 rw [ite_and]; rfl
theorem isJ_s (J:JobA) (hl:U64 J.lab.bits):Spec Tryz.prog 76 [jobV J] (fun _ => .bool (.v (isJobB J))):=by
 intro m w hm hargs
 have S1:=btw_s J.bucket 1 16
 have S2:=btw_s J.budget 0 2000
 have S3:=btw_s J.how 1 2
 have S4:=btw_s J.most 0 500
 have SL:=isL_s J.lab hl
 simp only [labAV] at SL
 obtain ⟨q1,hq1⟩:=eqv (btw J.bucket 1 16)
 rw [← hq1] at S1
 obtain ⟨q2,hq2⟩:=eqv (btw J.budget 0 2000)
 rw [← hq2] at S2
 obtain ⟨q3,hq3⟩:=eqv (btw J.how 1 2)
 rw [← hq3] at S3
 obtain ⟨q4,hq4⟩:=eqv (btw J.most 0 500)
 rw [← hq4] at S4
 obtain ⟨ql,hql⟩:=eqv (isL J.lab)
 rw [← hql] at SL
 refine en 37 hm hargs Tryz.func76 fun B hB a0 hF => ?_
 refine wp_seq (rg hB TA_ok [1] [1] [] hF fun X0 a0 w1 hF => ?_)
 refine wp_seq (rg hB TA_ok [1,3] [1] [] hF fun X1 a0 w1 hF => ?_)
 apply wp_seq
 refine rg hB TA_ok [2] [] [(3,.r fun _ => .bool (.v q1)),(8,.r fun _ => .bool (.v q2)),(14,.r fun _ => .bool (.v q3)),(20,.r fun _ => .bool (.v q4)),(31,.r fun _ => .bool (.v ql))] hF (hob:=by intro X; subst hB; simp only [AO,Ob.holds,BE.den]<;>and_intros<;>repeat first | trivial | rfl | exact S1 | exact S2 | exact S3 | exact S4 | exact SL | exact (fun _ _ => by kernel_rfl) | refine ⟨?_,?_⟩ | intro h | exact Int.le_refl _ | decide | omega) fun X2 a0 w1 hF => ?_
 refine wp_ret ((rsi hB TA_ok hF nAt (he:=?_)))
 subst hB
 refine Sim.bool ?_
 show (if (if (if (if (if q1=true then q2 else false)=true then q3 else false)=true then q4 else false)=true then decide ((J.pn:Int) ≤ 500) else false)=true then ql else false)=_
 simp only [ite_and]
 unfold isJobB
 rw [← hq1,← hq2,← hq3,← hq4,← hql]; rfl
theorem isG_s (g:GotA) (hg:InG g):Spec Tryz.prog 75 [gotV g] (fun _ => .bool (.v (isGotB g))):=by
 intro m w hm hargs
 have SR:=isR_s g.x.A g.x.r.n g.x.c g.x.r.f hg.len g.x.r.kd g.x.r.nx g.x.r.mrk hg.nx
 unfold recI rowI at SR
 obtain ⟨ir,hir⟩:=eqv (isRF g.x.r.kd g.x.r.n g.x.r.f g.x.r.nx g.x.r.mrk)
 rw [← hir] at SR
 refine en 41 hm hargs Tryz.func75 fun B hB a0 hF => ?_
 refine wp_seq (rg hB TA_ok [1] [1] [] hF fun X0 a0 w1 hF => ?_)
 refine wp_seq (wp_block (wp_seq (rg hB TA_ok [4,1] [1] [] hF fun X1 a0 w1 hF => ?_)))
 apply test_ok hF rfl<;>intro hb hF
 ·have hc:(decide (g.code=0) || decide (g.code=8))=false:=by
   have h9:(if (g.code != 0)=true then (g.code != 8) else false)=true:=by subst hB; exact hb
   rw [ite_and] at h9
   by_cases h1:g.code=0<;>by_cases h2:g.code=8<;>simp [h1,h2] at h9 ⊢
  refine wp_seq (rg hB TA_ok [2] [] [] hF fun X2 a0 w1 hF => ?_)
  refine wp_ret ((rsi hB TA_ok hF nAt (he:=?_)))
  subst hB
  refine Sim.bool ?_
  show false=_
  unfold isGotB; rw [hc]; rfl
 have hc:(decide (g.code=0) || decide (g.code=8))=true:=by
  have h9:(if (g.code != 0)=true then (g.code != 8) else false)=false:=by subst hB; exact hb
  rw [ite_and] at h9
  by_cases h1:g.code=0<;>by_cases h2:g.code=8<;>simp [h1,h2] at h9 ⊢
 refine wp_seq (rg hB TA_ok [13,1] [1] [] hF fun X3 a0 w1 hF => ?_)
 apply test_ok hF rfl<;>intro hb hF
 ·have hh:g.has=true:=hb
  have O1:=SR
  refine wp_seq (rg hB TA_ok [2] [] [(2,.r fun _ => .bool (.v ir))] hF fun X4 a0 w1 hF => ?_)
  refine wp_ret ((rsi hB TA_ok hF nAt (he:=?_)))
  subst hB
  refine Sim.bool ?_
  show ir=_
  unfold isGotB; rw [hc,if_pos hh,← hir]; rfl
 have hh:¬ g.has=true:=by rw [Bool.not_eq_true]; exact hb
 refine wp_skip (wp_seq (rg hB TA_ok [3] [3] [] hF fun X5 a0 w1 hF => ?_))
 apply wp_seq
 refine rg hB TA_ok [2] [] [] hF (hob:=by intro X; subst hB; simp only [AO,Ob.holds,BE.den]<;>and_intros<;>repeat first | trivial | rfl | exact ob_lab (Kk:=noK) _ _ _ _ | exact (fun _ _ => by kernel_rfl) | refine ⟨?_,?_⟩ | intro h | exact Int.le_refl _ | decide | omega) fun X6 a0 w1 hF => ?_
 refine wp_ret ((rsi hB TA_ok hF nAt (he:=?_)))
 subst hB
 refine Sim.bool ?_
 show (if (if (if (g.x.r.kd == 0)=true then (((g.x.r.n:Nat):Int) == 0) else false)=true then eqL [.int .i64 g.x.r.nx.len,.int .u64 g.x.r.nx.bits] [.int .i64 0,.int .u64 0] else false)=true then (g.x.r.mrk == 0) else false)=_
 rw [eqL_lab g.x.r.nx ⟨0,0⟩]
 simp only [ite_and]
 have hn0:(((g.x.r.n:Nat):Int) == 0)=decide (g.x.r.n=0):=by
  rw [Bool.eq_iff_iff,beq_iff_eq,decide_eq_true_eq]; omega
 unfold isGotB; rw [hc,if_neg hh,hn0]; rfl
theorem odd_s (g:GotA) (hg:InG g):Spec Tryz.prog 74 [gotV g] (fun _ => .bool (.v (!isGotB g))):=by
 intro m w hm hargs
 have S:=isG_s g hg
 obtain ⟨q,hq⟩:=eqv (isGotB g)
 rw [← hq] at S ⊢
 refine en 6 hm hargs Tryz.func74 fun B hB a0 hF => ?_
 refine wp_seq (rg hB TA_ok [1] [1] [] hF fun X0 a0 w1 hF => ?_)
 have O1:=S
 refine wp_seq (rg hB TA_ok [2] [] [(1,.r fun _ => .bool (.v q))] hF fun X1 a0 w1 hF => ?_)
 refine wp_ret ((rsi hB TA_ok hF nAt (he:=?_)))
 subst hB
 exact zr
theorem ixG_s (A:Option Addr) (n c:Nat) (f:Nat → GotA) (hin:∀ j,j < n → InG (f j)):Spec Tryz.prog 98 [gotsV A n c f,.fn 74 [] []] (fun x => .int .i64 (if allGot n f=true then -1 else (x.b:Int))):=by
 intro m w hm hargs
 have hlen:=ok_len (hargs (gotsV A n c f) (by simp))
 have hmx:maxLen=9223372036854775807:=rfl
 refine en 19 hm hargs Tryz.func98 fun B hB a0 hF => ?_
 refine wp_seq (rg hB TA_ok [0,1] [] [] hF fun X0 a0 w1 hF => ?_)
 refine wp_seq (wp_seq (rg hB TA_ok [8,0,1,7] [] [] hF fun X1 a0 w1 hF => ?_))
 refine wp_block (loop_pre (ι:=Nat) (fun p => [(8,.int .i64 (p:Int))]) (fun p => []) (fun p => []) (fun p => p ≤ n ∧ ∀ j,j < p → isGotB (f j)=true) (fun p => n - p) 0 ⟨Nat.zero_le _,fun i hi => absurd hi (Nat.not_lt_zero _)⟩ hF ?_)
 rintro i ⟨hi,hall⟩ a0 w1 hF
 try dsimp only at hi
 try dsimp only at hall
 refine wp_seq (rg hB TA_ok [9,0,1,7,8] [] [] hF fun X2 a0 w1 hF => ?_)
 refine wp_seq (test_ok hF rfl (fun hb hF => ?_) (fun hb hF => ?_))
 ·have hin_:i < n:=by
   have:(i:Int) < (n:Int):=by subst hB; simpa [std,sC] using hb
   omega
  have S:=odd_s (f i) (hin i hin_)
  obtain ⟨q,hq⟩:=eqv (isGotB (f i))
  rw [← hq] at S
  refine wp_skip (wp_seq (wp_block (wp_seq (rg hB TA_ok [0,1,5,7,8] [] [] hF fun X3 a0 w1 hF => ?_))))
  apply wp_seq
  refine rg hB TA_ok [16,0,1,5,7,8] [] [(5,.r fun _ => .bool (.v (!q)))] hF (hob:=by intro X; subst hB; simp only [AO,Ob.holds,BE.den]<;>and_intros<;>repeat first | trivial | rfl | exact (show (0:Int) ≤ (i:Int) by omega) | exact (show (i:Int) < (n:Int) by omega) | exact S | exact ⟨(show (0:Int) ≤ (i:Int) by omega),(show (i:Int) < (n:Int) by omega)⟩ | exact (fun _ _ => by kernel_rfl) | refine ⟨?_,?_⟩ | intro h | exact Int.le_refl _ | decide | omega) fun X4 a0 w1 hF => ?_
  apply test_ok hF rfl<;>intro hb hF
  ·have hne:isGotB (f i)=false:=by
    rw [← hq]; have:(!q)=true:=hb
    simpa using this
   refine wp_seq (rg hB TA_ok [4] [] [] hF fun X5 a0 w1 hF => ?_)
   refine wp_ret ((rsp hB TA_ok hF (⟨i,fun _ => none,fun _ => 0,fun _ => .empty⟩) (he:=?_)).1)
   subst hB
   rw [allGot_no hin_ hne]; rfl
  have hne:isGotB (f i)=true:=by
   rw [← hq]; have:(!q)=false:=hb
   simpa using this
  refine wp_skip (rg hB TA_ok [8,0,1,7] [] [] hF fun X6 a0 w1 hF => ?_)
  have e:B.arith .add .i64 (i:Int) 1=((i + 1:Nat):Int):=by subst hB; exact wrap_succ (n:=n) hin_ (by omega)
  refine ⟨i + 1,⟨by omega,fun j hj => ?_⟩,by omega,by rw [← e]; exact hF⟩
  by_cases hij:j=i
  ·rw [hij]; exact hne
  exact hall j (by omega)
 have hout:i=n:=by
  have:¬ (i:Int) < (n:Int):=by subst hB; simpa [std,sC] using hb
  omega
 refine wp_exit (wp_seq (rg hB TA_ok [4] [] [] hF fun X7 a0 w1 hF => ?_))
 refine wp_ret ((rsp hB TA_ok hF nAt (he:=?_)).1)
 subst hB
 rw [hout] at hall
 rw [allGot_yes hall]; rfl
theorem ctG_s (A:Option Addr) (n c:Nat) (f:Nat → GotA) (hin:∀ j,j < n → InG (f j)):Spec Tryz.prog 78 [gotsV A n c f,.fn 74 [] []] (fun _ => .bool (.v (!allGot n f))):=by
 intro m w hm hargs
 have S0:=ixG_s A n c f hin
 obtain ⟨q,hq⟩:=eqv (allGot n f)
 rw [← hq] at S0 ⊢
 refine en 9 hm hargs Tryz.func78 fun B hB a0 hF => ?_
 refine wp_seq (rg hB TA_ok [0,1] [] [] hF fun X0 a0 w1 hF => ?_)
 have O1:=S0
 refine wp_seq (rg hB TA_ok [4] [] [(2,.r fun x => .int .i64 (if q=true then -1 else (x.b:Int)))] hF fun X1 a0 w1 hF => ?_)
 refine wp_ret ((rsi hB TA_ok hF nAt (he:=?_)))
 subst hB
 refine Sim.bool ?_
 show decide ((if q=true then -1 else (((X1 2).b:Nat):Int)) ≥ 0) = !q
 cases q
 ·simp
 rfl
theorem enters79:Enters Tryz.prog 79:=fun _ _ => by kernel_rfl
theorem nx2_no0 (Q q0:WntA) (e:Int) (b8 b9 b11 br:Nat) (J:JobA) (A:Option Addr) (c:Nat) (p:Pst) (hz:p.n=0):SpecU Tryz.prog 79 .returning .returning .nili [.ptr 8 b8 0,.ptr 11 b11 0,.ptr 9 b9 0] [(8,⟨b8,85,wntC q0⟩),(11,⟨b11,146,[.ptr 32 br 0]⟩),(9,⟨b9,26,[.int .i64 e]⟩),(32,⟨br,148,runC J A c p⟩)] (fun _ => ⟨.tup [],[(8,wntC q0),(11,[.ptr 32 br 0]),(9,[.int .i64 e]),(32,runC J A c p)],[]⟩):=by
 intro m w hm hargs hpre hx
 refine enterRec .no hm hpre hargs hx Tryz.func79 (by exact rfl) (by exact rfl) (by exact rfl) (by exact rfl) (by exact rfl) (by simp [Tryz.ntmps79]) (by simp [Tryz.ntmps79]) fun a0 hF => ?_
 simp only [Tryz.ntmps79,startT,St.put] at hF
 obtain ⟨B,hB⟩:=eqv std
 refine wp_block (wp_seq (rg hB TA_ok [8,6,0,1,2] [8,11,9,32] [] hF fun X3 a0 w1 hF => ?_))
 refine test_tt hF rfl (fun hF => ?_)
 refine rg hB TA_ok [0,1,2] [8,11,9,32] [] hF fun X4 a0 w1 hF => ?_
 refine wp_seq (rg hB TA_ok [18,0,2] [8,11,9,32] [] hF fun X8 a0 w1 hF => ?_)
 apply test_ok hF rfl<;>intro hb hF
 ·exfalso
  have ht:0 < p.n:=by
   have:(0:Int) < (p.n:Int):=by subst hB; simpa [std,sC] using hb
   omega
  omega
 skip
 refine wp_skip ((rx hB TA_ok hF nAt [] (hs:=?_)).2)
 subst hB; exact ⟨rfl,⟨_,rfl,zl⟩,rfl,⟨_,rfl,zl⟩,rfl,⟨_,rfl,zl⟩,rfl,⟨_,rfl,zl⟩,trivial⟩
theorem nx2_no1 (Q q0:WntA) (e:Int) (b8 b9 b11 br:Nat) (J:JobA) (A:Option Addr) (c:Nat) (p:Pst) (hz:0 < p.n):SpecU Tryz.prog 79 .returning .returning .nili [.ptr 8 b8 0,.ptr 11 b11 0,.ptr 9 b9 0] [(8,⟨b8,85,wntC q0⟩),(11,⟨b11,146,[.ptr 32 br 0]⟩),(9,⟨b9,26,[.int .i64 e]⟩),(32,⟨br,148,runC J A c p⟩)] (fun _ => ⟨.tup [],[(8,[.int .i64 0,.int .i64 0,.int .u64 0,.int .u64 0,.int .i64 0,.sl none none 0 0 2 (fun _ => []),.int .i64 0,.int .u64 0,.int .u64 0,.int .i64 0,.bool .ff,.str ⟨#[]⟩,.sl none none 0 0 2 (fun _ => []),.int .u64 0,.bool .ff]),(11,[.ptr 32 br 0]),(9,[.int .i64 5]),(32,runC J A c p)],[]⟩):=by
 intro m w hm hargs hpre hx
 refine enterRec .no hm hpre hargs hx Tryz.func79 (by exact rfl) (by exact rfl) (by exact rfl) (by exact rfl) (by exact rfl) (by simp [Tryz.ntmps79]) (by simp [Tryz.ntmps79]) fun a0 hF => ?_
 simp only [Tryz.ntmps79,startT,St.put] at hF
 obtain ⟨B,hB⟩:=eqv std
 refine wp_block (wp_seq (rg hB TA_ok [8,6,0,1,2] [8,11,9,32] [] hF fun X3 a0 w1 hF => ?_))
 refine test_tt hF rfl (fun hF => ?_)
 refine rg hB TA_ok [0,1,2] [8,11,9,32] [] hF fun X4 a0 w1 hF => ?_
 refine wp_seq (rg hB TA_ok [18,0,2] [8,11,9,32] [] hF fun X8 a0 w1 hF => ?_)
 apply test_ok hF rfl<;>intro hb hF
 ·skip
  refine rg hB TA_ok [] [8,11,9,32] [] hF fun X9 a0 w1 hF => ?_
  refine (rx hB TA_ok hF nAt [] (hs:=?_)).2
  subst hB; exact ⟨rfl,⟨_,rfl,zl⟩,rfl,⟨_,rfl,zl⟩,rfl,⟨_,rfl,zl⟩,rfl,⟨_,rfl,zl⟩,trivial⟩
 exfalso
 have ht:¬ 0 < p.n:=by
  have:¬ (0:Int) < (p.n:Int):=by subst hB; simpa [std,sC] using hb
  omega
 exact ht hz
theorem nx2_yes0 (Q q0:WntA) (e:Int) (b8 b9 b11 br:Nat) (J:JobA) (A:Option Addr) (c:Nat) (p:Pst) (hz:p.n=0):SpecU Tryz.prog 79 (.panicking [{ v:=.iface 85 (wntV Q).den,recovered:=false }]) (.panicking [{ v:=.iface 85 (wntV Q).den,recovered:=true }]) (.ifc 85 (wntV Q)) [.ptr 8 b8 0,.ptr 11 b11 0,.ptr 9 b9 0] [(8,⟨b8,85,wntC q0⟩),(11,⟨b11,146,[.ptr 32 br 0]⟩),(9,⟨b9,26,[.int .i64 e]⟩),(32,⟨br,148,runC J A c p⟩)] (fun _ => ⟨.tup [],[(8,wntC Q),(11,[.ptr 32 br 0]),(9,[.int .i64 e]),(32,runC J A c p)],[]⟩):=by
 intro m w hm hargs hpre hx
 refine enterRec (.yes 85 (wntV Q)) hm hpre hargs hx Tryz.func79 (by exact rfl) (by exact rfl) (by exact rfl) (by exact rfl) (by exact rfl) (by simp [Tryz.ntmps79]) (by simp [Tryz.ntmps79]) fun a0 hF => ?_
 simp only [Tryz.ntmps79,startT,St.put] at hF
 obtain ⟨B,hB⟩:=eqv std
 refine wp_block (wp_seq (rg hB TA_ok [8,6,0,1,2] [8,11,9,32] [] hF fun X3 a0 w1 hF => ?_))
 refine test_ff hF rfl (fun hF => ?_)
 obtain ⟨dd,hu,hni⟩:=(lookT_ok TA_ok (t:=85) rfl).conc rfl
 refine wp_seq (wp_region_lit (man_tassert rfl rfl rfl rfl hF (Nat.le_of_ble_eq_true rfl) rfl hu hni ?_))
 intro a0 hF
 refine lnd 1 hB TA_ok [10,11,0,1,2] [8,11,9,32] [] hF fun X5 a0 w1 hF => ?_
 refine test_tt hF rfl (fun hF => ?_)
 refine wp_seq (rg hB TA_ok [0,1,2,4] [8,11,9,32,4] [] hF fun X6 a0 w1 hF => ?_)
 refine rg hB TA_ok [0,1,2] [8,11,9,32] [] hF fun X7 a0 w1 hF => ?_
 refine wp_seq (rg hB TA_ok [18,0,2] [8,11,9,32] [] hF fun X8 a0 w1 hF => ?_)
 apply test_ok hF rfl<;>intro hb hF
 ·exfalso
  have ht:0 < p.n:=by
   have:(0:Int) < (p.n:Int):=by subst hB; simpa [std,sC] using hb
   omega
  omega
 skip
 refine wp_skip ((rx hB TA_ok hF nAt [] (hs:=?_)).2)
 subst hB; exact ⟨rfl,⟨_,rfl,zl⟩,rfl,⟨_,rfl,zl⟩,rfl,⟨_,rfl,zl⟩,rfl,⟨_,rfl,zl⟩,trivial⟩
theorem nx2_yes1 (Q q0:WntA) (e:Int) (b8 b9 b11 br:Nat) (J:JobA) (A:Option Addr) (c:Nat) (p:Pst) (hz:0 < p.n):SpecU Tryz.prog 79 (.panicking [{ v:=.iface 85 (wntV Q).den,recovered:=false }]) (.panicking [{ v:=.iface 85 (wntV Q).den,recovered:=true }]) (.ifc 85 (wntV Q)) [.ptr 8 b8 0,.ptr 11 b11 0,.ptr 9 b9 0] [(8,⟨b8,85,wntC q0⟩),(11,⟨b11,146,[.ptr 32 br 0]⟩),(9,⟨b9,26,[.int .i64 e]⟩),(32,⟨br,148,runC J A c p⟩)] (fun _ => ⟨.tup [],[(8,[.int .i64 0,.int .i64 0,.int .u64 0,.int .u64 0,.int .i64 0,.sl none none 0 0 2 (fun _ => []),.int .i64 0,.int .u64 0,.int .u64 0,.int .i64 0,.bool .ff,.str ⟨#[]⟩,.sl none none 0 0 2 (fun _ => []),.int .u64 0,.bool .ff]),(11,[.ptr 32 br 0]),(9,[.int .i64 5]),(32,runC J A c p)],[]⟩):=by
 intro m w hm hargs hpre hx
 refine enterRec (.yes 85 (wntV Q)) hm hpre hargs hx Tryz.func79 (by exact rfl) (by exact rfl) (by exact rfl) (by exact rfl) (by exact rfl) (by simp [Tryz.ntmps79]) (by simp [Tryz.ntmps79]) fun a0 hF => ?_
 simp only [Tryz.ntmps79,startT,St.put] at hF
 obtain ⟨B,hB⟩:=eqv std
 refine wp_block (wp_seq (rg hB TA_ok [8,6,0,1,2] [8,11,9,32] [] hF fun X3 a0 w1 hF => ?_))
 refine test_ff hF rfl (fun hF => ?_)
 obtain ⟨dd,hu,hni⟩:=(lookT_ok TA_ok (t:=85) rfl).conc rfl
 refine wp_seq (wp_region_lit (man_tassert rfl rfl rfl rfl hF (Nat.le_of_ble_eq_true rfl) rfl hu hni ?_))
 intro a0 hF
 refine lnd 1 hB TA_ok [10,11,0,1,2] [8,11,9,32] [] hF fun X5 a0 w1 hF => ?_
 refine test_tt hF rfl (fun hF => ?_)
 refine wp_seq (rg hB TA_ok [0,1,2,4] [8,11,9,32,4] [] hF fun X6 a0 w1 hF => ?_)
 refine rg hB TA_ok [0,1,2] [8,11,9,32] [] hF fun X7 a0 w1 hF => ?_
 refine wp_seq (rg hB TA_ok [18,0,2] [8,11,9,32] [] hF fun X8 a0 w1 hF => ?_)
 apply test_ok hF rfl<;>intro hb hF
 ·skip
  refine rg hB TA_ok [] [8,11,9,32] [] hF fun X9 a0 w1 hF => ?_
  refine (rx hB TA_ok hF nAt [] (hs:=?_)).2
  subst hB; exact ⟨rfl,⟨_,rfl,zl⟩,rfl,⟨_,rfl,zl⟩,rfl,⟨_,rfl,zl⟩,rfl,⟨_,rfl,zl⟩,trivial⟩
 exfalso
 have ht:¬ 0 < p.n:=by
  have:¬ (0:Int) < (p.n:Int):=by subst hB; simpa [std,sC] using hb
  omega
 exact ht hz
theorem sim_can {v v':AV} (h:Sim v v'):Sim (can v) (can v'):=
 ⟨by rw [can_den,can_den]; exact h.1,by rw [can_one,can_one]; exact h.2.1,fun m w hv => (can_ok _).1 (h.2.2 _ _ ((can_ok _).2 hv))⟩
def dN (b8 b11 b9:Nat):Deferred:={ target:=.fn (.func 79) (AV.denL [.ptr 8 b8 0,.ptr 11 b11 0,.ptr 9 b9 0]).toArray,args:=(AV.denL []).toArray }
def nxOut (r:Rs Rsl):Atom → Out:=fun x => .ret ⟨.tup [wntV (wqA x (toldM r).1),.int .i64 (toldM r).2],[],[]⟩
theorem dptrs_ok {m:Nat → Nat → Prop} {w:World} {b8 b11 b9:Nat}:∀ v ∈ ([]:List AV) ++ [.ptr 8 b8 0,.ptr 11 b11 0,.ptr 9 b9 0],Ok m w v:=by
 intro v hv
 simp only [List.nil_append,List.mem_cons,List.not_mem_nil,or_false] at hv
 rcases hv with rfl | rfl | rfl<;>exact .ptr _ _ _
section
variable {m:Nat → Nat → Prop} {w0 w:World} {a:Act} {b8 b9 b11 br:Nat} {q0 Q:WntA} {J:JobA} {A:Option Addr} {c:Nat} {p:Pst} {r:Rs Rsl}
theorem nx_thr {x:Atom} {wq:Wq} (h:Fits ⟨m,w0,ats [],[dN b8 b11 b9],noK⟩ ⟨49,[(8,.ptr 8 b8 0),(9,.ptr 9 b9 0)],[],[(8,⟨b8,85,wntC q0⟩),(9,⟨b9,26,[.int .i64 0]⟩),(11,⟨b11,146,[.ptr 32 br 0]⟩),(32,⟨br,148,runC J A c p⟩)],[]⟩ a w) (hok:Ok (St.m ⟨49,[(8,.ptr 8 b8 0),(9,.ptr 9 b9 0)],[],[(8,⟨b8,85,wntC q0⟩),(9,⟨b9,26,[.int .i64 0]⟩),(11,⟨b11,146,[.ptr 32 br 0]⟩),(32,⟨br,148,runC J A c p⟩)],[]⟩ ⟨m,w0,ats [],[],noK⟩) w (wntV Q)) (hQ:Q=wqA x wq) (hr:r = .stop wq p) :
  bodyPostD Tryz.prog Tryz.f55 (OPost m w0 [] (nxOut r)) (.panic [{ v:=.iface 85 (wntV Q).den,recovered:=false }]) a w:=by
 subst hr
 show Leaves _ _ a.tmps _ a.defers (.panicking _) w
 by_cases hz:p.n=0
 ·have ht:toldM (.stop wq p)=(wq,0):=by simp [toldM,hz]
  refine leave_u (C:=⟨m,w0,ats [],[],noK⟩) (l:=[]) (r:=[.ptr 8 b8 0,.ptr 11 b11 0,.ptr 9 b9 0]) (ds:=[]) (x:=(.ifc 85 (wntV Q))) h (by simp) enters79 (nx2_yes0 Q q0 0 b8 b9 b11 br J A c p hz) dptrs_ok (.ifc _ _ hok) (by intro e he; simp only [List.mem_cons,List.not_mem_nil,or_false] at he; rcases he with rfl | rfl | rfl | rfl<;>rfl) rfl fun w2 h2 => ?_
  show Leaves _ _ a.tmps _ [] .returning w2
  refine leave_end (a:={ tmps:=a.tmps,defers:=[] }) TA_ok h2 (rs:=[.cell 8 85,.cell 9 26]) rfl (by conv => lhs; cbv) ?_ x rfl [] ?_ trivial trivial
  ·simp [AO,Ob.holds]
  rw [ht,hQ]; exact zr
 have hz:0 < p.n:=by omega
 have ht:toldM (.stop wq p)=(zWq,5):=by simp [toldM,hz]
 refine leave_u (C:=⟨m,w0,ats [],[],noK⟩) (l:=[]) (r:=[.ptr 8 b8 0,.ptr 11 b11 0,.ptr 9 b9 0]) (ds:=[]) (x:=(.ifc 85 (wntV Q))) h (by simp) enters79 (nx2_yes1 Q q0 0 b8 b9 b11 br J A c p hz) dptrs_ok (.ifc _ _ hok) (by intro e he; simp only [List.mem_cons,List.not_mem_nil,or_false] at he; rcases he with rfl | rfl | rfl | rfl<;>rfl) rfl fun w2 h2 => ?_
 show Leaves _ _ a.tmps _ [] .returning w2
 refine leave_end (a:={ tmps:=a.tmps,defers:=[] }) TA_ok h2 (rs:=[.cell 8 85,.cell 9 26]) rfl (by conv => lhs; cbv) ?_ ⟨0,fun _ => none,fun _ => 0,fun _ => .empty⟩ rfl [] ?_ trivial trivial
 ·simp [AO,Ob.holds]
 rw [ht]; exact Sim.tup ⟨Sim.agg ⟨zr,zr,zr,zr,zr,zq0,zr,zr,zr,zr,zr,zr,zq0,zr,zr,trivial⟩,zr,trivial⟩
theorem nx_ret {x:Atom} {r1:Rsl} (h:Fits ⟨m,w0,ats [],[dN b8 b11 b9],noK⟩ ⟨49,[(8,.ptr 8 b8 0),(9,.ptr 9 b9 0)],[],[(8,⟨b8,85,wntC q0⟩),(9,⟨b9,26,[.int .i64 0]⟩),(11,⟨b11,146,[.ptr 32 br 0]⟩),(32,⟨br,148,runC J A c p⟩)],[]⟩ a w) (hq:Sim (wntV q0) (wntV (wqA x ⟨4,⟨0,0⟩,0,zeroRec,r1⟩))) (hr:r = .ok r1 p) :
  bodyPostD Tryz.prog Tryz.f55 (OPost m w0 [] (nxOut r)) .ret a w:=by
 subst hr
 show Leaves _ _ a.tmps _ a.defers .returning w
 by_cases hz:p.n=0
 ·have ht:toldM (.ok r1 p)=(⟨4,⟨0,0⟩,0,zeroRec,r1⟩,0):=by simp [toldM,hz]
  refine leave_u (C:=⟨m,w0,ats [],[],noK⟩) (l:=[]) (r:=[.ptr 8 b8 0,.ptr 11 b11 0,.ptr 9 b9 0]) (ds:=[]) (x:=.nili) h (by simp) enters79 (nx2_no0 q0 q0 0 b8 b9 b11 br J A c p hz) dptrs_ok .nili (by intro e he; simp only [List.mem_cons,List.not_mem_nil,or_false] at he; rcases he with rfl | rfl | rfl | rfl<;>rfl) rfl fun w2 h2 => ?_
  show Leaves _ _ a.tmps _ [] .returning w2
  refine leave_end (a:={ tmps:=a.tmps,defers:=[] }) TA_ok h2 (rs:=[.cell 8 85,.cell 9 26]) rfl (by conv => lhs; cbv) ?_ x rfl [] ?_ trivial trivial
  ·simp [AO,Ob.holds]
  rw [ht]; exact Sim.tup ⟨sim_can hq,zr,trivial⟩
 have hz:0 < p.n:=by omega
 have ht:toldM (.ok r1 p)=(zWq,5):=by simp [toldM,hz]
 refine leave_u (C:=⟨m,w0,ats [],[],noK⟩) (l:=[]) (r:=[.ptr 8 b8 0,.ptr 11 b11 0,.ptr 9 b9 0]) (ds:=[]) (x:=.nili) h (by simp) enters79 (nx2_no1 q0 q0 0 b8 b9 b11 br J A c p hz) dptrs_ok .nili (by intro e he; simp only [List.mem_cons,List.not_mem_nil,or_false] at he; rcases he with rfl | rfl | rfl | rfl<;>rfl) rfl fun w2 h2 => ?_
 show Leaves _ _ a.tmps _ [] .returning w2
 refine leave_end (a:={ tmps:=a.tmps,defers:=[] }) TA_ok h2 (rs:=[.cell 8 85,.cell 9 26]) rfl (by conv => lhs; cbv) ?_ ⟨0,fun _ => none,fun _ => 0,fun _ => .empty⟩ rfl [] ?_ trivial trivial
 ·simp [AO,Ob.holds]
 rw [ht]; exact Sim.tup ⟨Sim.agg ⟨zr,zr,zr,zr,zr,zq0,zr,zr,zr,zr,zr,zr,zq0,zr,zr,trivial⟩,zr,trivial⟩
end
theorem next_d (F:FuncId) (r:Rs Rsl) (J:JobA) (hJ:JobIn J) (A:Option Addr) (n c:Nat) (f:Nat → GotA) (hn:n ≤ 900000) (hin:∀ j,j < n → InG (f j)) (kG:Option Nat) (kA:Option Addr) (kn kc:Nat) (kf:Nat → Int) (hdo:(isJobB J && anyF kn kf J.kind && allGot n f)=true → ∀ k0 b,RunA F k0 b (J.less n) A c (pst0 n f) [] r) (hen:Enters Tryz.prog F):SpecO Tryz.prog 55 [jobV J,gotsV A n c f,.sl kG kA kn kc 1 (fun i => [.int .i64 (kf i)]),.fn F [] []] [] (fun x => .ret ⟨.tup [wntV (wqA x (nextR (isJobB J && anyF kn kf J.kind && allGot n f) r).1),.int .i64 (nextR (isJobB J && anyF kn kf J.kind && allGot n f) r).2],[],[]⟩):=by
 intro m w hm hargs hpre
 have S1:=isJ_s J hJ.lab
 have S2:Spec Tryz.prog 77 [.sl kG kA kn kc 1 (fun i => [.int .i64 (kf i)]),.int .i64 J.kind] (fun _ => .bool (.v (anyF kn kf J.kind))):=(coni_s kA kn kc kf J.kind).sim ⟨Sim.recell (fun _ _ => rfl),zr,trivial⟩
 have S3:=ctG_s A n c f hin
 obtain ⟨okb,hokb⟩:=eqv ((isJobB J && anyF kn kf J.kind && allGot n f))
 rw [← hokb] at hdo ⊢
 obtain ⟨ij,hij⟩:=eqv (isJobB J)
 rw [← hij] at S1 hokb
 obtain ⟨ck,hck⟩:=eqv (anyF kn kf J.kind)
 rw [← hck] at S2 hokb
 obtain ⟨ag,hag⟩:=eqv (allGot n f)
 rw [← hag] at S3 hokb
 refine enterD hm hpre hargs Tryz.func55 rfl (by simp [Tryz.ntmps55]) fun a0 hF => ?_
 simp only [Tryz.ntmps55,startT] at hF
 obtain ⟨B,hB⟩:=eqv std
 refine wp_seq (rg hB TA_ok [1,2,3,4,8,9] [4,8,9] [] hF fun X0 a0 w1 hF => ?_)
 refine wp_seq (rg hB TA_ok [1,2,3,4,8,9,10] [4,8,9] [] hF fun X1 a0 w1 hF => ?_)
 have O1:=S1
 have O2:=S2
 have O3:=S3
 refine wp_seq (wp_seq (rg hB TA_ok [26,1,3,4,8,9] [4,8,9] [(1,.r fun _ => .bool (.v ij)),(7,.r fun _ => .bool (.v ck)),(13,.r fun _ => .bool (.v (!ag)))] hF fun X2 a0 w1 hF => ?_))
 apply test_ok hF rfl<;>intro hb hF
 ·have hf:okb=false:=by
   have h9:(if (if (!ij)=true then true else !ck)=true then true else !ag)=true:=by subst hB; exact hb
   rw [hokb]; cases ij<;>cases ck<;>cases ag<;>first | rfl | cases h9
  refine wp_seq (rg hB TA_ok [8,9] [8,9] [] hF fun X3 a0 w1 hF => ?_)
  refine wp_ret (ret_d (fn:=Tryz.f55) TA_ok hF (rs:=[.cell 8 85,.cell 9 26]) rfl (by conv => lhs; cbv) ?_ ⟨0,fun _ => none,fun _ => 0,fun _ => .empty⟩ rfl [] ?_ trivial trivial)
  ·subst hB; simp [AO,Ob.holds]
  rw [hf]; subst hB; exact Sim.tup ⟨Sim.agg ⟨zr,zr,zr,zr,zr,zq0,zr,zr,zr,zr,zr,zr,zq0,zr,zr,trivial⟩,zr,trivial⟩
 have hf:okb=true:=by
  have h9:(if (if (!ij)=true then true else !ck)=true then true else !ag)=false:=by subst hB; exact hb
  rw [hokb]; cases ij<;>cases ck<;>cases ag<;>first | rfl | cases h9
 have hjb:isJobB J=true:=by
  rw [← hij]; rw [hokb] at hf; revert hf; cases ij<;>simp
 have hjo:=job_ok hJ hjb hn
 have e1:IntKind.i64.wrap (J.budget - (n:Int))=(J.less n).budget:=wrap_in (by have:=hjo.lo; show -9223372036854775808 ≤ (J.less n).budget; omega) (by have:=hjo.hi; show (J.less n).budget ≤ 9223372036854775807; omega)
 refine wp_skip (wp_seq (rg hB TA_ok [1,3,8,9,11] [32,8,9,11] [] hF fun X4 a0 w1 hF => ?_))
 refine wp_seq (rg hB TA_ok [3,8,9,11] [32,8,9,11] [] hF fun X5 a0 w1 hF => ?_)
 replace hF:=hF.memS (cells':=runC (J.less n) A c (pst0 n f)) (by subst hB; exact ⟨zr,zr,zr,zr,zr,zr,zr,zr,zr,zr,zr,zr,zr,zr,Sim.of_eq (congrArg (AV.int .i64) e1),zr,zr,Sim.ff,zr,zr,zr,zr,trivial⟩)
 refine wp_seq (wp_region_lit (lpr 0 1 hB TA_ok [44,3,8,9,11] [32,8,9,11] [] hF fun X6_0 a0 w1 hF => ?_))
 refine man_defer rfl rfl rfl rfl rfl hF rfl rfl ?_
 intro a0 hF
 replace hF:Fits ⟨m,w,ats [],[dN (X0 1).b (X4 5).b (X0 2).b],noK⟩ _ _ _:=hF
 refine wpList_nil (wp_seq (wp_region_lit (lpr 0 2 hB TA_ok [45,46,8,9] [32,8,9,11] [] hF fun X7_0 a0 w1 hF => ?_)))
 have SD:=hdo hf 32 (X4 4).b
 rcases hmd:r with ⟨r1,p1⟩ | ⟨w1_,p1⟩
 ·obtain ⟨rl,hrl⟩:∃ y_,y_=r1.items.length:=⟨_,rfl⟩
  obtain ⟨rf,hrf⟩:=eqv (itF r1.items)
  refine man_outT rfl rfl rfl rfl hF rfl rfl hen (SD.ok' hmd hrl hrf) (by subst hB; exact zl) (mem1 rfl) rfl rfl ?_
  intro x w' a0 hF
  apply leB 3 hB TA_ok [8,9] [8,9,11,32] [] hF
  ·intro A X; conv => lhs; cbv
  ·intro X; subst hB; first | exact trivial | (repeat (first | exact trivial | refine ⟨rfl,?_⟩))
  intro X7 a0 w1 hF
  obtain ⟨q0,hq0⟩:=eqv ((⟨4,⟨0,0⟩,0,zRA,⟨r1.code,r1.had,r1.val,x.A 2,rl,x.c 2,rf,r1.key,r1.more⟩⟩:WntA))
  replace hF:=hF.memS (cells':=wntC q0) (by rw [hq0]; subst hB; exact ⟨zr,zr,zr,zr,zr,zq0,zr,zr,zr,zr,zr,zr,zr,zr,zr,trivial⟩)
  refine wp_ret ?_
  rw [show nextR okb (.ok r1 p1)=toldM (.ok r1 p1) by rw [hf]; rfl]
  exact nx_ret (x:=⟨0,fun i => if i=1 then none else x.A i,fun i => if i=1 then 0 else x.c i,fun _ => .empty⟩) (q0:=q0) (J:=J.less n) (A:=x.A 0) (c:=x.c 0) (p:=p1) hF (by rw [hq0,hrl,hrf]; exact Sim.agg ⟨zr,zr,zr,zr,zr,zq0,zr,zr,zr,zr,zr,zr,zr,zr,zr,trivial⟩) rfl
 refine man_outT rfl rfl rfl rfl hF rfl rfl hen (SD.stop hmd) (by subst hB; exact zl) (mem1 rfl) rfl rfl ?_
 intro x w' hF hok
 replace hF:=hF.keep [8,9] [8,9,11,32]
 replace hF:=hF.memS (cells':=wntC ⟨0,⟨0,0⟩,0,zRA,zRes⟩) (by exact ⟨zr,zr,zr,zr,zr,zq0,zr,zr,zr,zr,Sim.ff,zr,zq0,zr,Sim.ff,trivial⟩)
 rw [show nextR okb (.stop w1_ p1)=toldM (.stop w1_ p1) by rw [hf]; rfl]
 refine nx_thr (x:=x) (wq:=w1_) (q0:=⟨0,⟨0,0⟩,0,zRA,zRes⟩) (J:=J.less n) (A:=x.A 0) (c:=x.c 0) (p:=p1) hF (hok.mono fun b o u h1 h2 => ⟨h1,fun hh => h2 ?_⟩) rfl rfl
 refine m_sub (fun _ _ h => h) ?_ rfl hh
 intro y hy
 simp only [List.mem_cons,List.not_mem_nil,or_false] at hy
 rcases hy with rfl | rfl | rfl | rfl<;>first | exact ⟨8,_,rfl,rfl⟩ | exact ⟨9,_,rfl,rfl⟩ | exact ⟨11,_,rfl,rfl⟩ | exact ⟨32,_,rfl,rfl⟩
theorem enters56:Enters Tryz.prog 56:=fun _ _ => by kernel_rfl
theorem looks_m0 (b:Nat) (J:JobA) (hJ:JobOk J) (A:Option Addr) (c:Nat) (p:Pst) (hp:PstOk p) (hn:p.n ≤ 1000000) (hh:J.how=1 ∨ J.how=2):RunS 56 0 b J A c p [] (rslZ) (lokM J.bucket J.budget J.how J.key (p.n + 1) p):=by
 intro m w hm hargs hpre
 refine enX 28 hm hpre hargs Tryz.func56 fun B hB a0 hF => ?_
 refine wp_seq (rg hB TA_ok [0,2] [0,2] [] hF fun X0 a0 w1 hF => ?_)
 apply wp_seq
 rcases (sek_m 0 b J hJ A c p hp hn J.key hJ.key (p.n + 1) (Nat.lt_succ_self _) hh).two (fro_sek _ _ _ _ _ _) hp hn with ⟨w1,p1,hm1,O1⟩ | ⟨s1,p1,hm1,hs1,hp1,hn1,S1⟩
 ·refine stp 6 hB TA_ok [6,11] [0] [] hF O1 fun _ _ _ _ hF hk => ?_
  exact thm (P:=Tryz.prog) (fn:=Tryz.f56) (q:=p1) hF hk (by simp [lokM,Rs.bind,hm1])
 have hs:=sek_ok hJ.key hp hm1
 have SF:=find_s s1.g.x hs.ok.ra J.key
 obtain ⟨fv,hfv⟩:=eqv (finV s1.g.x J.key)
 rw [← hfv] at SF
 obtain ⟨fb,hfb⟩:=eqv (finB s1.g.x J.key)
 rw [← hfb] at SF
 have O1:=S1
 refine rg hB TA_ok [0,2,3] [0,2,3] [(6,rc J (sptV s1) p1)] hF fun X1 a0 w1 hF => ?_
 have O1:=SF
 refine wp_seq (drg hB TA_ok [2,4,5] [0,2] [(8,.r fun _ => .tup [.str fv,.bool (.v fb)])] hF fun X2 a0 w1 hF => ?_)
 refine wp_seq (rg hB TA_ok [2] [0,2] [] hF fun X3 a0 w1 hF => ?_)
 exact wp_ret ((rmm hB TA_ok hF (v:=(⟨0,fb,fv,[],0,false⟩:Rsl)) (q:=p1) ((X1 6).A 0) ((X1 6).c 0) (by simp [lokM,Rs.bind,hm1,← hfv,← hfb])).1)
theorem looks_m (k0 b:Nat) (J:JobA) (hJ:JobOk J) (A:Option Addr) (c:Nat) (p:Pst) (hp:PstOk p) (hn:p.n ≤ 1000000) (hh:J.how=1 ∨ J.how=2):RunS 56 k0 b J A c p [] (rslZ) (lokM J.bucket J.budget J.how J.key (p.n + 1) p):=RunS.re (looks_m0 b J hJ A c p hp hn hh) (by repeat (first | exact trivial | refine ⟨zr,?_⟩))
def seekN (J:JobA) (n:Nat) (f:Nat → GotA):Wq × Int:=nextR (isJobB J && (decide (J.kind=3)) && allGot n f) (lokM J.bucket (J.budget - n) J.how J.key (n + 1) (pst0 n f))
theorem lok_items {bk k how key:Int} {n:Nat} {p q:Pst} {a:Rsl} (h:lokM bk k how key n p = .ok a q):a.items=[]:=by
 unfold lokM at h
 cases hs:sekM bk k how key n p with
 | ok v p1 => rw [hs] at h; injection h with h _; rw [← h]
 | stop w p1 => rw [hs] at h; cases h
theorem job_how {J:JobA} (h:isJobB J=true):J.how=1 ∨ J.how=2:=by
 unfold isJobB btw at h
 simp only [Bool.and_eq_true,decide_eq_true_eq] at h
 omega
theorem snext_s (J:JobA) (hJ:JobIn J) (A:Option Addr) (n c:Nat) (f:Nat → GotA) (hn:n ≤ 900000) (hin:∀ j,j < n → InG (f j)):Spec Tryz.prog 34 [jobV J,gotsV A n c f] (fun x => .tup [wntV (wqA x (seekN J n f).1),.int .i64 (seekN J n f).2]):=by
 intro m w hm hargs
 have hk:anyF 1 (fun _ => 3) J.kind=(decide (J.kind=3)):=by rw [anyF1]; simp only [dcomm J.kind]<;>rfl
 have hdo:(isJobB J && anyF 1 (fun _ => 3) J.kind && allGot n f)=true → ∀ k0 b,RunA 56 k0 b (J.less n) A c (pst0 n f) [] (lokM J.bucket (J.budget - n) J.how J.key (n + 1) (pst0 n f)):=by
  intro hok k0 b
  rw [hk] at hok
  simp only [Bool.and_eq_true] at hok
  obtain ⟨⟨h1,h2⟩,h3⟩:=hok
  exact (looks_m k0 b (J.less n) (job_ok hJ h1 hn) A c (pst0 n f) (pst_ok hin h3) (by show n ≤ 1000000; omega) (by have h:=job_how h1; exact h)).a fun a q h => lok_items h
 have S:∀ kG kA cells,cells 0=[.int .i64 3] → Spec Tryz.prog 55 [jobV J,gotsV A n c f,.sl kG kA 1 1 1 cells,.fn 56 [] []] (fun x => .tup [wntV (wqA x (seekN J n f).1),.int .i64 (seekN J n f).2]):=by
  intro kG kA cells h10
  unfold seekN
  rw [← hk]
  refine (((next_d 56 _ J hJ A n c f hn hin kG kA 1 1 (fun _ => 3) hdo enters56).x (fun _ => rfl)).pure (fun _ => rfl)).sim ⟨zr,zr,Sim.recell (fun i hi => ?_),zr,trivial⟩
  match i,hi with
  | 0,_ => rw [h10]<;>rfl
 obtain ⟨W9,hW9⟩:=eqv ((seekN J n f).1)
 obtain ⟨E9,hE9⟩:=eqv ((seekN J n f).2)
 obtain ⟨rr9,hrr9⟩:=eqv (W9.r.rn)
 obtain ⟨nn9,hnn9⟩:=eqv (W9.res.items.length)
 obtain ⟨ff9,hff9⟩:=eqv (itF W9.res.items)
 have T9:=Spec.wq (S none none (fun i => [.int .i64 ((fun _ => 3) i)]) rfl) hW9 hE9 hrr9 hnn9 hff9
 have T:∀ kG kA cells,cells 0=[.int .i64 3] → Spec Tryz.prog 55 [jobV J,gotsV A n c f,.sl kG kA 1 1 1 cells,.fn 56 [] []] (fun x => .tup [wntV (wqB x W9 rr9 nn9 ff9),.int .i64 E9]):=fun kG kA cells h10 => Spec.wq (S kG kA cells h10) hW9 hE9 hrr9 hnn9 hff9
 refine en 12 hm hargs Tryz.func34 fun B hB a0 hF => ?_
 refine wp_seq (rg hB TA_ok [1,2,4] [2,4] [] hF fun X0 a0 w1 hF => ?_)
 apply wp_seq
 refine rg hB TA_ok [4,5] [4,8] [(3,.r fun x => .tup [.agg [.int .i64 W9.kind,.int .i64 W9.lab.len,.int .u64 W9.lab.bits,.int .u64 W9.ver,.int .i64 rr9.kd,.sl none (x.A 1) rr9.n (x.c 1) 2 (fun i => itC (rr9.f i)),.int .i64 rr9.nx.len,.int .u64 rr9.nx.bits,.int .u64 rr9.mrk,.int .i64 W9.res.code,.bool (.v W9.res.had),.str W9.res.val,.sl none (x.A 2) nn9 (x.c 2) 2 (fun i => itC (ff9 i)),.int .u64 W9.res.key,.bool (.v W9.res.more)],.int .i64 E9])] hF (hob:=by intro X; subst hB; simp only [AO,Ob.holds,BE.den]<;>and_intros<;>repeat first | trivial | rfl | exact T _ _ _ rfl | exact (fun _ _ => by kernel_rfl) | refine ⟨?_,?_⟩ | intro h | exact Int.le_refl _ | decide | omega) fun X1 a0 w1 hF => ?_
 refine wp_ret ((rsi hB TA_ok hF ((X1 3)) (he:=?_)))
 subst hB
 rw [← hW9,← hE9]
 unfold wqA
 rw [← hrr9,← hnn9,← hff9]
 exact zr
theorem rec_leaf:RecOk leafR:=⟨⟨by decide,by decide⟩,by decide,fun x hx => by cases hx⟩
theorem wok_lin {bk k key:Int} (hk:U64 key):∀ (n:Nat) (l:Lab) (p:Pst),LOk l → PstOk p → WOkR (linM bk k key n l p)
 | 0,l,p,_,_ => wok_z
 | n + 1,l,p,hl,hp => by
  unfold linM
  refine wok_bind (wok_get hl) fun g p1 e1 => ?_
  have hp1:=hp.suf ((fro_get _ _ _).of e1)
  refine wok_ite (fun _ => trivial) fun _ => wok_ite (fun _ => wok_bind (wok_fns hl (hp.get e1) hp1) fun _ p2 e2 => wok_lin hk n l p2 hl (hp1.suf ((fro_fns _ _ _ _ _ _).of e2))) fun _ => wok_ite (fun _ => wok_lin hk n _ p1 (ofV_ok hk _) hp1) fun _ => wok_ite (fun _ => wok_bind (wok_thw hl hp1) fun _ p2 e2 => wok_lin hk n _ p2 lok_z (hp1.suf ((fro_thw _ _ _ _ _).of e2))) fun _ => wok_ite (fun _ => wok_bind (wok_cas lok_z rec_leaf) fun _ p2 e2 => wok_lin hk n _ p2 lok_z (hp1.suf ((fro_cas _ _ _ _ _).of e2))) fun _ => wok_lin hk n _ p1 lok_z hp1
theorem wok_lft {bk k:Int} {n:Nat} {l:Lab} {p:Pst} (hl:LOk l) (hp:PstOk p):WOkR (lftM bk k n l p):=by
 unfold lftM
 refine wok_ite (fun _ => wok_bind (wok_get hl.par) fun q p1 e1 => wok_ite (fun _ => ?_) fun _ => trivial) fun _ => trivial
 exact wok_bind (wok_thw hl (hp.suf ((fro_get _ _ _).of e1))) fun _ _ _ => trivial
theorem wok_bin {bk k key:Int} (hk:U64 key):∀ (n:Nat) (lo hi:Int) (p:Pst),PstOk p → WOkR (binM bk k key n lo hi p)
 | 0,lo,hi,p,_ => wok_z
 | n + 1,lo,hi,p,hp => by
  unfold binM
  refine wok_ite (fun _ => ?_) fun _ => wok_lin hk _ _ p lok_z hp
  have hl:=ofV_ok hk ((lo + hi) / 2)
  refine wok_bind (wok_get hl) fun g p1 e1 => ?_
  have hp1:=hp.suf ((fro_get _ _ _).of e1)
  refine wok_ite (fun _ => trivial) fun _ => wok_ite (fun _ => wok_bin hk n _ _ p1 hp1) fun _ => wok_ite (fun _ => wok_bind (wok_fns hl (hp.get e1) hp1) fun _ p2 e2 => wok_bin hk n _ _ p2 (hp1.suf ((fro_fns _ _ _ _ _ _).of e2))) fun _ => wok_ite (fun _ => wok_bind (wok_lft hl hp1) fun b p2 e2 => ?_) fun _ => wok_bin hk n _ _ p1 hp1
  have hp2:=hp1.suf ((fro_lft _ _ _ _ _).of e2)
  exact wok_ite (fun _ => wok_bin hk n _ _ p2 hp2) fun _ => wok_bin hk n _ _ p2 hp2
theorem wok_sek {bk k how key:Int} (hk:U64 key) {n:Nat} {p:Pst} (hp:PstOk p):WOkR (sekM bk k how key n p):=wok_ite (fun _ => wok_lin hk _ _ _ lok_z hp) fun _ => wok_bin hk _ _ _ _ hp
theorem wok_lok {bk k how key:Int} (hk:U64 key) {n:Nat} {p:Pst} (hp:PstOk p):WOkR (lokM bk k how key n p):=wok_bind (wok_sek hk hp) fun _ _ _ => trivial
theorem seek_ok {J:JobA} (hJ:JobIn J):NxOk (seekN J) where
 er:=fun n f => by
  unfold seekN
  rw [← nextR_er,er_lok]
  rfl
 ok:=fun n f hin => by
  unfold seekN nextR
  split
  ·rename_i h
   simp only [Bool.and_eq_true] at h
   exact wok_told (wok_lok hJ.key (pst_ok hin h.2))
  exact wok_z
theorem enters11:Enters Tryz.prog 11:=fun _ _ => by kernel_rfl
theorem run26_m0 (b bM:Nat) (J:JobA) (hJ:JobIn J) (L:Shf) (hL:ShfG L) (k:Int):SpecM Tryz.prog 11 [.ptr 0 b 0,jobV J] [(0,⟨b,90,[.raw (.map (some bM)),.int .i64 k]⟩)] (some bM) (shK bM L) (fun y => ⟨.tup [rslV y (runQ (seekN J) 3000 2001 [] L k).res,.int .i64 (if (runQ (seekN J) 3000 2001 [] L k).st=2 then ((runQ (seekN J) 3000 2001 [] L k).n:Int) else 0),.bool (.v (decide ((runQ (seekN J) 3000 2001 [] L k).st=2)))],[(0,[.raw (.map (some bM)),.int .i64 (runQ (seekN J) 3000 2001 [] L k).k])],[]⟩) (fun _ _ => shK bM (runQ (seekN J) 3000 2001 [] L k).L):=by
 intro m w hm hargs hpre hI
 have hmx:maxLen=9223372036854775807:=rfl
 have hmp:=shK_map hI
 have hNx:NxOk (seekN J):=seek_ok hJ
 obtain ⟨RQ,hRQ⟩:=eqv (runQ (seekN J) 3000 2001 [] L k)
 rw [← hRQ] at ⊢
 refine enM (bo:=some bM) 47 hm hpre hI hargs Tryz.func11 fun B hB a0 hF => ?_
 refine wp_seq (rg hB TA_ok [0,3,4] [0,3,4] [] hF fun X0 a0 w1 hF => ?_)
 refine wp_seq (rg hB TA_ok [0,3,4,7] [0,3,4,7,45] [] hF fun X1 a0 w1 hF => ?_)
 refine wp_seq (wp_seq (rg hB TA_ok [7,8,0,3,4] [0,3,4,7,45] [] hF fun X2 a0 w1 hF => ?_))
 replace hF:=hF.headS (v':=.sl (some 7) none 0 0 8 (fun t => gotC (gotOf zeroGot))) (zq0) rfl
 refine wp_block (loop_preK (ι:=Nat × (Nat → GotA) × Option Addr × Nat × Shf × Int × List Got) (fun q => shK bM q.2.2.2.2.1) (fun q => [(7,.sl (some 7) q.2.2.1 q.1 q.2.2.2.1 8 (fun t => gotC (q.2.1 t))),(8,.int .i64 (q.1:Int))]) (fun q => [(0,⟨b,90,[.raw (.map (some bM)),.int .i64 q.2.2.2.2.2.1]⟩)]) (fun q => [(7,⟨q.2.2.1,q.1,q.2.2.2.1,8,101⟩)]) (fun q => q.1 ≤ 2001 ∧ ShfG q.2.2.2.2.1 ∧ (∀ j,j < q.1 → InG (q.2.1 j)) ∧ q.2.2.2.2.2.2.length=q.1 ∧ Lies q.2.2.2.2.2.2 q.2.1 ∧ RQ=runQ (seekN J) 3000 (2001 - q.1) q.2.2.2.2.2.2 q.2.2.2.2.1 q.2.2.2.2.2.1) (fun q => 2001 - q.1) (0,fun _ => gotOf zeroGot,none,0,L,k,[]) ⟨Nat.zero_le _,hL,fun j hj => absurd hj (Nat.not_lt_zero _),rfl,Lies.nil,hRQ⟩ hF ?_)
 rintro ⟨i,fz,A1,c1,Lc,kc,gs⟩ ⟨hi,hg,hal,hgl,hlie,hrun⟩ a0 w1 hF
 try dsimp only at hi
 try dsimp only at hg
 try dsimp only at hal
 try dsimp only at hgl
 try dsimp only at hlie
 try dsimp only at hrun
 replace hF:=hF.withK (K':=shK bM Lc) hF.kept
 refine wp_seq (wp_seq (rg hB TA_ok [14,0,3,4,7,8] [0,3,4,7,45] [] hF fun X3 a0 w1 hF => ?_))
 apply test_ok hF rfl<;>intro hb hF
 ·have hi0:i < 2001:=by
   have:(i:Int) ≤ 2000:=by subst hB; simpa [std,sC] using hb
   omega
  obtain ⟨m0,hm0⟩:∃ m,2001 - i=m + 1:=⟨2000 - i,by omega⟩
  rw [hm0] at hrun
  have hwo:=hNx.ok i fz hal
  obtain ⟨W9,hW9⟩:=eqv ((seekN J i fz).1)
  obtain ⟨E9,hE9⟩:=eqv ((seekN J i fz).2)
  obtain ⟨rr9,hrr9⟩:=eqv (W9.r.rn)
  obtain ⟨nn9,hnn9⟩:=eqv (W9.res.items.length)
  obtain ⟨ff9,hff9⟩:=eqv (itF W9.res.items)
  have T9:=Spec.wq (snext_s J hJ A1 i c1 fz (by omega) hal) hW9 hE9 hrr9 hnn9 hff9
  rw [← hW9] at hwo
  have S9:Spec Tryz.prog 34 [jobV J,.sl (some 7) A1 i c1 8 (fun t => gotC (fz t))] (fun x => .tup [wntV (wqB x W9 rr9 nn9 ff9),.int .i64 E9]):=T9.sim ⟨zr,Sim.recell (fun _ _ => rfl),trivial⟩
  have hq9:seekN J gs.length (ansF gs)=(W9,E9):=by
   rw [← hlie.next hNx.er,hgl,hW9,hE9]
  have O1:=S9
  refine wp_skip (wp_seq (wp_block (wp_seq (rg hB TA_ok [0,3,4,7,8,9,10] [0,3,4,7,9,45] [(2,.r fun x => .tup [.agg [.int .i64 W9.kind,.int .i64 W9.lab.len,.int .u64 W9.lab.bits,.int .u64 W9.ver,.int .i64 rr9.kd,.sl none (x.A 1) rr9.n (x.c 1) 2 (fun i => itC (rr9.f i)),.int .i64 rr9.nx.len,.int .u64 rr9.nx.bits,.int .u64 rr9.mrk,.int .i64 W9.res.code,.bool (.v W9.res.had),.str W9.res.val,.sl none (x.A 2) nn9 (x.c 2) 2 (fun i => itC (ff9 i)),.int .u64 W9.res.key,.bool (.v W9.res.more)],.int .i64 E9])] hF fun X5 a0 w1 hF => ?_))))
  refine wp_seq (wp_seq (rg hB TA_ok [24,0,3,4,7,8,9] [0,3,4,7,9,45] [] hF fun X6 a0 w1 hF => ?_))
  apply test_ok hF rfl<;>intro hb hF
  ·have he:E9 ≠ 0:=by subst hB; simpa [std,sC] using hb
   have hq:RQ=⟨1,zRsl,gs.length,0,Lc,kc⟩:=by rw [hrun]; exact run_no hq9 he
   refine wp_seq (rg hB TA_ok [4,5,6] [0,4,7,45] [] hF fun X7 a0 w1 hF => ?_)
   refine wp_ret ((rm hB TA_ok hF (⟨0,fun _ => none,fun _ => 0,fun _ => .empty⟩) [] (hmap:=?_) (he:=?_) (hs:=?_) (hJ:=?_)).1)
   ·intro b hb; cases hb; exact ⟨hmp,fun m h => shK_map h⟩
   ·rw [hq]; subst hB
    exact Sim.tup ⟨Sim.agg ⟨zr,zr,zr,zq0,zr,zr,trivial⟩,zr,zr,trivial⟩
   ·rw [hq]; subst hB; exact ⟨rfl,⟨_,rfl,zl⟩,trivial⟩
   rw [hq]; exact fun _ _ h => h
  have he:E9=0:=by subst hB; simpa [std,sC] using hb
  rw [he] at hq9
  refine wp_skip (wp_seq (wp_seq (rg hB TA_ok [28,0,3,4,7,8,9] [0,3,4,7,9,45] [] hF fun X8 a0 w1 hF => ?_)))
  apply test_ok hF rfl<;>intro hb hF
  ·have hk4:W9.kind=4:=by subst hB; simpa [std,sC] using hb
   have hq:RQ=⟨2,W9.res,gs.length,0,Lc,kc⟩:=by rw [hrun]; exact run_end hq9 hk4
   refine wp_seq (rg hB TA_ok [4,5,6] [0,4,7,45] [] hF fun X9 a0 w1 hF => ?_)
   refine wp_ret ((rm hB TA_ok hF ((X5 2)) [] (hmap:=?_) (he:=?_) (hs:=?_) (hJ:=?_)).1)
   ·intro b hb; cases hb; exact ⟨hmp,fun m h => shK_map h⟩
   ·rw [hq]; subst hB
    rw [show nn9=W9.res.items.length from hnn9,show ff9=itF W9.res.items from hff9]
    exact Sim.tup ⟨zr,Sim.of_int (by show ((i:Nat):Int)=((gs.length:Nat):Int); rw [hgl]),zr,trivial⟩
   ·rw [hq]; subst hB; exact ⟨rfl,⟨_,rfl,zl⟩,trivial⟩
   rw [hq]; exact fun _ _ h => h
  have hk4:¬ W9.kind=4:=by subst hB; simpa [std,sC] using hb
  refine wp_skip (wp_seq (wp_region_lit (lpr 0 2 hB TA_ok [34,35,7,0,8,3,4] [0,4,3,7] [] hF fun X10_0 a0 w1 hF => ?_)))
  have SD:=do_m 0 b bM Lc (by have:=hg.ok.len; omega) kc (wqB (X5 2) W9 rr9 nn9 ff9) (by show rr9.n ≤ _; rw [hrr9]; have:=hwo.r.few; show W9.r.items.length ≤ _; omega) hwo.lab.wf hwo.lab.u (by show U64 rr9.nx.bits; rw [hrr9]; exact hwo.r.nx)
  obtain ⟨D1,hD1⟩:=eqv (doL Lc (WntA.abs (wqB (X5 2) W9 rr9 nn9 ff9)))
  rw [← hD1] at SD
  obtain ⟨GG1,hGG1⟩:∃ G:Atom → GotA,G=fun y => gotA y D1.got:=⟨_,rfl⟩
  have hGf1:∀ y,gotA y D1.got=GG1 y:=fun y => by rw [hGG1]
  simp only [hGf1] at SD
  obtain ⟨k1,hk1⟩:=eqv ((if D1.wrote then IntKind.i64.wrap (kc + 1) else kc))
  rw [← hk1] at SD
  obtain ⟨er1,her1⟩:=eqv (D1.err)
  rw [← her1] at SD
  obtain ⟨L1,hL1⟩:=eqv (D1.L)
  rw [← hL1] at SD
  refine man_callM rfl rfl rfl rfl hF rfl rfl enters40 SD (fun _ _ h => h) (fun b hb => by cases hb; exact fun _ => .inr rfl) ⟨zr,Sim.agg (by repeat (first | exact trivial | refine ⟨zr,?_⟩ | refine ⟨Sim.ff,?_⟩ | refine ⟨zq0,?_⟩)),trivial⟩ (by intro e he; simp only [List.mem_singleton] at he; subst he; rfl) rfl rfl (fun _ => shK bM L1) (fun _ _ _ _ _ _ _ _ _ h => h) ?_
  intro y a0 w1 hF
  obtain ⟨g1,hg1⟩:=eqv (GG1 y)
  rw [← hg1] at hF
  replace hF:=hF.withK (K':=shK bM L1) hF.kept
  have hga1:g1.abs=D1.got:=by rw [hg1,← hGf1,gotA_abs]
  have hra:rr9.abs=W9.r:=by rw [hrr9,rn_abs]
  have hD1w:D1=doL Lc (wntOf W9):=by
   rw [hD1]
   unfold WntA.abs wqB wntOf
   simp only [hra]
  have hgd:ShfG D1.L ∧ U64 D1.got.ver ∧ RecOk D1.got.r:=by
   rw [hD1w]
   exact doL_good hg ⟨hwo.lab.wf,hwo.r.nx,hwo.r.key⟩
  have hgi:InG g1:=got_in hga1 hgd.2.1 hgd.2.2
  have hg1s:ShfG L1:=by rw [hL1]; exact hgd.1
  have hge:g1.er=gotOf D1.got:=by rw [hg1,← hGf1]; rfl
  refine lnd 3 hB TA_ok [0,3,4,7,8,11,12] [0,3,4,7,11,45] [] hF fun X10 a0 w1 hF => ?_
  refine wp_seq (wp_seq (rg hB TA_ok [40,0,3,4,7,8,11] [0,3,4,7,11,45] [] hF fun X11 a0 w1 hF => ?_))
  apply test_ok hF rfl<;>intro hb hF
  ·have he1:er1 ≠ 0:=by subst hB; simpa [std,sC] using hb
   have hq:RQ=⟨4,zRsl,gs.length,D1.err,L1,k1⟩:=by rw [hrun,hL1,hk1]; exact run_err hq9 hk4 (by omega) hD1w (by rw [← her1]; exact he1)
   refine wp_seq (rg hB TA_ok [4,5,6] [0,4,7,45] [] hF fun X12 a0 w1 hF => ?_)
   refine wp_ret ((rm hB TA_ok hF (⟨0,fun _ => none,fun _ => 0,fun _ => .empty⟩) [] (hmap:=?_) (he:=?_) (hs:=?_) (hJ:=?_)).1)
   ·intro b hb; cases hb; exact ⟨hmp,fun m h => shK_map h⟩
   ·rw [hq]; subst hB
    exact Sim.tup ⟨Sim.agg ⟨zr,zr,zr,zq0,zr,zr,trivial⟩,zr,zr,trivial⟩
   ·rw [hq]; subst hB; exact ⟨rfl,⟨_,rfl,zl⟩,trivial⟩
   rw [hq]; exact fun _ _ h => h
  have he1:er1=0:=by subst hB; simpa [std,sC] using hb
  refine wp_skip ?_
  refine rg hB TA_ok [7,8,0,3,4] [0,3,4,7,45] [] hF (hob:=by intro X; subst hB; simp only [AO,Ob.holds,BE.den]<;>and_intros<;>repeat first | trivial | rfl | exact (show i + 1 ≤ maxLen by omega) | exact (show (i + 1) * 80 ≤ 140737488355328 by omega) | exact (fun _ _ => by kernel_rfl) | refine ⟨?_,?_⟩ | intro h | exact Int.le_refl _ | decide | omega) fun X13 a0 w1 hF => ?_
  replace hF:=hF.headS (v':=.sl (some 7) ((X13 3).A 0) (B.nadd i 1) ((X13 3).c 0) 8 (fun t => gotC (if t=i then g1 else fz t))) (Sim.resl rfl (fun t ht => by
   subst hB
   have ht2:t < i + 1:=ht
   show appC i (fun t => gotC (fz t)) (chunk 8 (gotC g1)) t=_
   unfold appC
   split
   ·rw [if_neg (by omega)]
   have:t=i:=by omega
   subst this
   rw [if_pos rfl]
   simp [chunk])) rfl
  refine rg hB TA_ok [7,8,0,3,4] [0,3,4,7,45] [] hF fun X4 a0 w1 hF => ?_
  have e:B.arith .add .i64 (i:Int) 1=((i + 1:Nat):Int):=by subst hB; exact wrap_succ (n:=2001) (by omega) (by omega)
  refine ⟨(i + 1,fun t => if t=i then g1 else fz t,_,_,L1,k1,gs ++ [D1.got]),⟨by simp only; omega,hg1s,fun j hj => ?_,by simp [hgl],?_,?_⟩,by simp only; omega,by rw [← e,show i + 1=B.nadd i 1 by subst hB; rfl]; exact hF⟩
  ·by_cases hji:j=i
   ·simp only [if_pos hji]; exact hgi
   simp only [if_neg hji]; exact hal j (by have h9:j < i + 1:=hj; omega)
  ·have:=hlie.add hge
   rw [hgl] at this; exact this
  rw [hrun,run_go hq9 hk4 (by omega) hD1w (by rw [← her1]; exact he1),hL1,hk1,show 2001 - (i + 1)=m0 by omega]
 have hi0:i=2001:=by
  have:¬ (i:Int) ≤ 2000:=by subst hB; simpa [std,sC] using hb
  omega
 have hq:RQ=⟨0,zRsl,gs.length,0,Lc,kc⟩:=by rw [hrun,hi0]; rfl
 refine wp_exit (wp_seq (rg hB TA_ok [4,5,6] [0,4,7,45] [] hF fun X14 a0 w1 hF => ?_))
 refine wp_ret ((rm hB TA_ok hF (⟨0,fun _ => none,fun _ => 0,fun _ => .empty⟩) [] (hmap:=?_) (he:=?_) (hs:=?_) (hJ:=?_)).1)
 ·intro b hb; cases hb; exact ⟨hmp,fun m h => shK_map h⟩
 ·rw [hq]; subst hB
  exact Sim.tup ⟨Sim.agg ⟨zr,zr,zr,zq0,zr,zr,trivial⟩,zr,zr,trivial⟩
 ·rw [hq]; subst hB; exact ⟨rfl,⟨_,rfl,zl⟩,trivial⟩
 rw [hq]; exact fun _ _ h => h
theorem run26_m (k0:Nat) (b bM:Nat) (J:JobA) (hJ:JobIn J) (L:Shf) (hL:ShfG L) (k:Int):SpecM Tryz.prog 11 [.ptr k0 b 0,jobV J] [(k0,⟨b,90,[.raw (.map (some bM)),.int .i64 k]⟩)] (some bM) (shK bM L) (fun y => ⟨.tup [rslV y (runQ (seekN J) 3000 2001 [] L k).res,.int .i64 (if (runQ (seekN J) 3000 2001 [] L k).st=2 then ((runQ (seekN J) 3000 2001 [] L k).n:Int) else 0),.bool (.v (decide ((runQ (seekN J) 3000 2001 [] L k).st=2)))],[(k0,[.raw (.map (some bM)),.int .i64 (runQ (seekN J) 3000 2001 [] L k).k])],[]⟩) (fun _ _ => shK bM (runQ (seekN J) 3000 2001 [] L k).L):=
 (run26_m0 b bM J hJ L hL k).re (by repeat (first | exact trivial | refine ⟨Sim.ptr,?_⟩ | refine ⟨Sim.fn ⟨Sim.ptr,trivial⟩ trivial,?_⟩ | refine ⟨Sim.fn trivial ⟨Sim.ptr,trivial⟩,?_⟩ | refine ⟨zr,?_⟩)) rfl (fun x => ⟨rfl,rfl,zr,rfl⟩)
def zJ:JobA:=⟨0,⟨0,0⟩,0,0,⟨#[]⟩,0,none,0,0,fun _ => 0,0,0,0,0,0,0,0⟩
theorem zJ_in:JobIn zJ:=⟨⟨by decide,by decide⟩,⟨by decide,by decide⟩,⟨by decide,by decide⟩⟩
theorem zJ_sim (g:Option Nat) (k:Nat) (f:Nat → List AV):SimL [.agg [.int .i64 0,.int .i64 0,.int .u64 0,.int .u64 0,.int .u64 0,.str ⟨#[]⟩,.int .i64 0,.sl none none 0 0 1 (fun _ => []),.int .u32 0,.int .u32 0,.int .u32 0,.int .u32 0,.int .i64 0,.int .i64 0,.int .i64 0],.sl g none 0 0 k f] [jobV zJ,gotsV none 0 0 (fun _ => zGot)]:=⟨Sim.agg ⟨zr,zr,zr,zr,zr,zr,zr,Sim.nils,zr,zr,zr,zr,zr,zr,zr,trivial⟩,Sim.nils,trivial⟩
theorem zJ_26:seekN zJ 0 (fun _ => zGot)=(zWq,1):=by kernel_rfl
def skJ (key:Int) (how b:Int):JobA:=⟨3,⟨0,0⟩,key,0,⟨#[]⟩,0,none,0,0,fun _ => 0,0,0,0,0,how,b,1500⟩
theorem skJ_in {key:Int} (hk:U64 key) (how b:Int):JobIn (skJ key how b):=⟨u64_0,hk,u64_0⟩
def skL:Shf:=[(⟨0,0⟩,⟨1,true,leafR⟩)]
theorem sk_run:runQ (seekN (skJ 7 1 2)) 3000 2001 [] [] 0=⟨2,zRsl,3,0,skL,1⟩:=by kernel_rfl
theorem nil_good:ShfG []:=newS_good (l:=[]) (fun r h => by cases h) rfl
theorem lkp_s (key how b:Int):Spec Tryz.prog 12 [.int .u64 key,.int .i64 how,.int .i64 b] (fun _ => jobV (skJ key how b)):=by
 intro m w hm hargs
 refine en 11 hm hargs Tryz.func12 fun B hB a0 hF => ?_
 refine wp_seq (rg hB TA_ok [0,1,2,6] [6] [] hF fun X0 a0 w1 hF => ?_)
 refine wp_seq (rg hB TA_ok [6] [6] [] hF fun X1 a0 w1 hF => ?_)
 refine wp_ret ((rsi hB TA_ok hF nAt (he:=?_)))
 subst hB
 exact Sim.agg ⟨zr,zr,zr,zr,zr,zr,zr,Sim.nils,zr,zr,zr,zr,zr,zr,zr,trivial⟩
theorem sought_s:Spec Tryz.prog 7 [] (fun _ => .bool .tt):=by
 intro m w hm hargs
 have hmx:maxLen=9223372036854775807:=rfl
 have SL:Spec Tryz.prog 12 [.int .u64 7,.int .i64 1,.int .i64 2] (fun _ => jobV (skJ 7 1 2)):=lkp_s 7 1 2
 obtain ⟨W1,hW1⟩:=eqv (((zWq,(1:Int))).1)
 obtain ⟨E1,hE1⟩:=eqv (((zWq,(1:Int))).2)
 obtain ⟨rr1,hrr1⟩:=eqv (W1.r.rn)
 obtain ⟨nn1,hnn1⟩:=eqv (W1.res.items.length)
 obtain ⟨ff1,hff1⟩:=eqv (itF W1.res.items)
 have T1:=Spec.wq (by have h:=(snext_s zJ zJ_in none 0 0 (fun _ => zGot) (by omega) (fun j hj => absurd hj (Nat.not_lt_zero _))); rw [zJ_26] at h; exact h) hW1 hE1 hrr1 hnn1 hff1
 have S1:∀ g k fz,Spec Tryz.prog 34 [.agg [.int .i64 0,.int .i64 0,.int .u64 0,.int .u64 0,.int .u64 0,.str ⟨#[]⟩,.int .i64 0,.sl none none 0 0 1 (fun _ => []),.int .u32 0,.int .u32 0,.int .u32 0,.int .u32 0,.int .i64 0,.int .i64 0,.int .i64 0],.sl g none 0 0 k fz] (fun x => .tup [wntV (wqB x W1 rr1 nn1 ff1),.int .i64 E1]):=fun g k fz => T1.sim (zJ_sim g k fz)
 refine en 65 hm hargs Tryz.func7 fun B hB a0 hF => ?_
 refine wp_seq (rg hB TA_ok [] [] [] hF fun X0 a0 w1 hF => ?_)
 have SN:=new_yes none 0 0 (fun _ => zRow) (by omega) (fun i hi => absurd hi (Nat.not_lt_zero _)) 14 (L:=[]) rfl
 refine wp_seq (wp_region_lit (man_callM rfl rfl rfl rfl hF rfl rfl enters8 (SN) (fun _ _ _ => trivial) (fun b hb => by cases hb) ⟨Sim.nils,trivial⟩ (by intro e he; cases he) rfl rfl (fun y => shF w.heap.size (y.c 0) ([]:Shf)) (fun n x m w m' w' hn _ _ h => ⟨Nat.le_trans hn h.1,h.2⟩) ?_))
 intro y a0 w1 hF
 obtain ⟨sb,hsb⟩:=eqv (y.b)
 obtain ⟨bM,hbM⟩:=eqv (y.c 0)
 rw [← hsb,← hbM] at hF
 have hbfr:w.heap.size ≤ bM:=hF.kept.1
 replace hF:=hF.withK (K':=shK bM ([]:Shf)) hF.kept.2
 refine lnd 1 hB TA_ok [1,2] [14] [] hF fun X1 a0 w1 hF => ?_
 refine wp_seq (wp_seq (rg hB TA_ok [18,1] [14] [] hF fun X2 a0 w1 hF => ?_))
 apply test_ok hF rfl<;>intro hb hF
 ·exfalso
  subst hB; simp [std,sC,BE.den] at hb
 have O1:=SL
 refine wp_skip (wp_seq (wp_region_lit (lpr 0 2 hB TA_ok [20,21,1,2] [14] [(1,.r fun _ => jobV (skJ 7 1 2))] hF fun X4_0 a0 w1 hF => ?_)))
 have SD:=run26_m 14 sb bM (skJ 7 1 2) (skJ_in ⟨by decide,by decide⟩ 1 2) [] nil_good 0
 rw [sk_run] at SD
 refine man_callM rfl rfl rfl rfl hF rfl rfl enters11 SD (fun _ _ h => h) (fun b hb => by cases hb; exact fun h => absurd h (Nat.not_lt.2 hbfr)) ⟨zr,zr,trivial⟩ (by intro e he; simp only [List.mem_singleton] at he; subst he; rfl) rfl rfl (fun _ => shK bM skL) (fun _ _ _ _ _ _ _ _ _ h => h) ?_
 intro y a0 w1 hF
 replace hF:=hF.withK (K':=shK bM skL) hF.kept
 refine lnd 3 hB TA_ok [1,3,4,5] [14,3] [(1,.r fun _ => jobV (skJ 7 1 2))] hF fun X4 a0 w1 hF => ?_
 have SR1:=rows_r 14 sb bM skL (by decide) 1
 obtain ⟨RR1,hRR1⟩:=eqv (rowsL skL)
 rw [← hRR1] at SR1
 obtain ⟨nR1,hnR1⟩:=eqv (RR1.length)
 rw [← hnR1] at SR1
 have hn3:nR1=1:=by rw [hnR1,hRR1]; kernel_rfl
 have O1:=SR1
 refine wp_seq (rg hB TA_ok [3,4,5,6] [14,3] [(1,.g [14] fun y => .sl none (y.A 0) nR1 (y.c 0) 8 (fun i => rowC (rwAt y RR1 i)))] hF fun X5 a0 w1 hF => ?_)
 obtain ⟨f2,hf2⟩:=eqv (rwAt (X5 1) RR1)
 rw [← hf2] at hF
 apply wp_seq
 refine rg hB TA_ok [3,4,5,6,8] [14,3] [(1,.r fun x => .tup [.agg [.int .i64 W1.kind,.int .i64 W1.lab.len,.int .u64 W1.lab.bits,.int .u64 W1.ver,.int .i64 rr1.kd,.sl none (x.A 1) rr1.n (x.c 1) 2 (fun i => itC (rr1.f i)),.int .i64 rr1.nx.len,.int .u64 rr1.nx.bits,.int .u64 rr1.mrk,.int .i64 W1.res.code,.bool (.v W1.res.had),.str W1.res.val,.sl none (x.A 2) nn1 (x.c 2) 2 (fun i => itC (ff1 i)),.int .u64 W1.res.key,.bool (.v W1.res.more)],.int .i64 E1])] hF (hob:=by intro X; subst hB; simp only [AO,Ob.holds,BE.den]<;>and_intros<;>repeat first | trivial | rfl | exact S1 _ _ _ | exact (fun _ _ => by kernel_rfl) | refine ⟨?_,?_⟩ | intro h | exact Int.le_refl _ | decide | omega) fun X6 a0 w1 hF => ?_
 apply wp_seq
 refine rg hB TA_ok [0] [14,3] [] hF (hob:=by intro X; subst hB; simp only [AO,Ob.holds,BE.den]<;>and_intros<;>repeat first | trivial | rfl | exact ⟨show (0:Int) ≤ 0 by omega,show (0:Int) < (nR1:Int) by omega⟩ | exact (fun _ _ => by kernel_rfl) | refine ⟨?_,?_⟩ | intro h | exact Int.le_refl _ | decide | omega) fun X7 a0 w1 hF => ?_
 refine wp_ret ((rsi hB TA_ok hF nAt (he:=?_)))
 subst hB
 have k0:(f2 0).x.r.kd=1:=by rw [hf2]; unfold rwAt; rw [hRR1]; kernel_rfl
 have t0:std.toNat 0=0:=rfl
 refine Sim.bool ?_
 simp [std,sC,BE.den,canB,k0,hE1,hn3]
def sumV (f:Nat → Itm):Nat → Int
 | 0 => 0
 | i + 1 => IntKind.i64.wrap (sumV f i + ((f i).val.size:Int))
def fewB (n:Nat) (f:Nat → Itm):Bool:=if n ≤ 30 then decide (sumV f n ≤ 3000) else false
theorem few_le {n:Nat} {f:Nat → Itm} (h:fewB n f=true):n ≤ 30:=by
 unfold fewB at h
 split at h
 ·assumption
 cases h
theorem few_s (A:Option Addr) (n c:Nat) (f:Nat → Itm) (hn:n ≤ maxLen):Spec Tryz.prog 5 [rowI A n c f] (fun _ => .bool (.v (fewB n f))):=by
 intro m w hm hargs
 have hmx:maxLen=9223372036854775807:=rfl
 unfold rowI at hargs
 refine en 31 hm hargs Tryz.func5 fun B hB a0 hF => ?_
 refine wp_seq (rg hB TA_ok [0] [] [] hF fun X0 a0 w1 hF => ?_)
 refine wp_seq (rg hB TA_ok [3,0] [] [] hF fun X1 a0 w1 hF => ?_)
 refine wp_seq (wp_seq (rg hB TA_ok [3,4,0] [] [] hF fun X2 a0 w1 hF => ?_))
 refine wp_block (loop_pre (ι:=Nat) (fun p => [(3,.int .i64 (sumV f p)),(4,.int .i64 (p:Int))]) (fun p => []) (fun p => []) (fun p => p ≤ n) (fun p => n - p) 0 (Nat.zero_le _) hF ?_)
 rintro i hi a0 w1 hF
 try dsimp only at hi
 obtain ⟨sv,hsv⟩:=eqv (sumV f i)
 rw [← hsv] at hF
 refine wp_seq (wp_seq (rg hB TA_ok [13,3,4,0] [] [] hF (hob:=?hob) fun X3 a0 w1 hF => ?_))
 case hob =>
  intro X
  subst hB
  repeat (first | exact trivial | refine ⟨rfl,?_⟩ | refine ⟨fun _ => rfl,?_⟩)
 apply test_ok hF rfl<;>intro hb hF
 ·have h9:(i:Int) < (n:Int) ∧ (n:Int) ≤ 30:=by subst hB; simpa [std,sC] using hb
  have hin:i < n:=by omega
  refine wp_skip (wp_seq (wp_block ?_))
  refine rg hB TA_ok [3,4,0] [] [] hF (hob:=by intro X; subst hB; simp only [AO,Ob.holds,BE.den]<;>and_intros<;>repeat first | trivial | rfl | exact (show (0:Int) ≤ (i:Int) by omega) | exact (show (i:Int) < (n:Int) by omega) | exact (fun _ _ => by kernel_rfl) | refine ⟨?_,?_⟩ | intro h | exact Int.le_refl _ | decide | omega) fun X5 a0 w1 hF => ?_
  refine rg hB TA_ok [3,4,0] [] [] hF fun X4 a0 w1 hF => ?_
  have e:B.arith .add .i64 (i:Int) 1=((i + 1:Nat):Int):=by subst hB; exact wrap_succ (n:=n) hin (by omega)
  have e2:B.arith .add .i64 sv (B.ofNat (B.slen (f (B.toNat (i:Int))).val))=sumV f (i + 1):=by subst hB; rw [hsv]; rfl
  refine ⟨i + 1,by omega,by omega,by rw [← e,← e2]; exact hF⟩
 have h9:(i:Int) < (n:Int) → ¬ (n:Int) ≤ 30:=by subst hB; simpa [std,sC] using hb
 have hW:fewB n f=(if decide ((n:Int) ≤ 30)=true then decide (sv ≤ 3000) else false):=by
  unfold fewB
  by_cases h:n ≤ 30
  ·have:i=n:=by by_cases g:i < n; (· exact absurd (show (n:Int) ≤ 30 by omega) (h9 (by omega))); (· omega)
   subst this
   rw [if_pos h,decide_eq_true (show (i:Int) ≤ 30 by omega),if_pos rfl,hsv]
  rw [if_neg h,decide_eq_false (show ¬ (n:Int) ≤ 30 by omega)]; rfl
 refine wp_exit (wp_seq (rg hB TA_ok [2] [] [] hF (hob:=?hob) fun X6 a0 w1 hF => ?_))
 case hob =>
  intro X
  subst hB
  repeat (first | exact trivial | refine ⟨rfl,?_⟩ | refine ⟨fun _ => rfl,?_⟩)
 refine wp_ret ((rsi hB TA_ok hF nAt (he:=?_)))
 subst hB
 rw [hW]
 exact Sim.bool rfl
end Go.Proofs.YtjgnoldondblaaaGreat.Sym
