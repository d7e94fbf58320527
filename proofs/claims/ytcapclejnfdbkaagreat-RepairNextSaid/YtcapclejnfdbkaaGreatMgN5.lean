/-
  SymRng2, SymRng3, SymInl, SymInT, SymInl2, SymVis, SymRow, SymMnd, SymDr0, SymDr1, SymDr2, SymDr3, SymDr4, SymDr5, SymDr6, SymDr7, SymNx1, SymNx2: put together by a program of mine (a claim may have 60 files at most). Conditions: none.
-/
import Derived.WalkKit
import Derived.WalkLawsBesides
import Derived.WalkSpells
import Derived.Lib.Hide
import Derived.Deep.QuietTactic
import Derived.BigQuiet
import Derived.Deep.LoopGhost
import Derived.Deep.DeepCutAuto
import Derived.Deep.RegionLaw
import Derived.Lib.Overlaps
import Derived.Laws.CopyOwn
import Derived.IntWalk
import Derived.ProofKit
import Derived.OpenShut
import Derived.ShutString
import Derived.ChangeOld
import Derived.Deep.Slices
import Derived.Test.YtcapclejnfdbkaaGreatProg
import Derived.Orders
import Derived.OrdersHeld
import Derived.Defers
import Derived.Recover
import Derived.Lib.BitFns
import Derived.ChangeKeysEq
import Derived.Test.YtcapclejnfdbkaaGreatChecked
import Derived.Lib.BufferWrite
import Derived.Maps.OwnSet
import Derived.Maps.RangeWalk
import Derived.Maps.Ext
import Derived.DeepKeys4
import Derived.LoopN
import Derived.Shelf.SlSortCmp.WholeK
import Derived.Shelf.SlSortCmp.NoneTotal
import Derived.Deep.RegionHeld3
import Derived.Ground.SlsfProg
import Derived.Shelf.SlGeneric
import Derived.RangeFuncLeaves
import Derived.RangeFuncCalls
import Derived.OrdersIn
import Derived.Test.YtcapclejnfdbkaaGreatMgN1
import Derived.Test.YtcapclejnfdbkaaGreatMgN2
import Derived.Test.YtcapclejnfdbkaaGreatMgN3
import Derived.Test.YtcapclejnfdbkaaGreatMgN4
set_option linter.unusedVariables false
set_option linter.unusedSimpArgs false
set_option maxRecDepth 100000
set_option maxHeartbeats 1600000
namespace Go.Proofs.YtcapclejnfdbkaaGreat.Sym
open Go Go.RowKit
section
variable {m0:Nat -> Nat -> Prop} {w0 w w':World} {S:Nat -> Prop} {ds:List Deferred} {K:Kn} {s:St} {a:Act} {P:Program}
theorem b4.redefer (h:b4 ⟨m0,w0,S,ds,K⟩ s a w) (ds':List Deferred):b4 ⟨m0,w0,S,ds',K⟩ s { a with defers:=ds' } w:=
 ⟨h.size,rfl,h.slot,h.gs,h.mem,h.nodup,h.gr,h.sepm,h.sepg,h.chg,h.m0,h.kept⟩
abbrev bh (D:Nat):Deferred:={ target:=.collected D,args:=#[] }
theorem iD (fn:FuncId) (a:Act) (ps:Array Tmp) (assign body:Code) (w:World):Below w.heap.size w (bj fn a ps assign body w):=
 ((Below.refl _ w).alloc (Nat.le_refl _) _).alloc (by simp) _
theorem tZ (fn:FuncId) (a:Act) (ps:Array Tmp) (assign body:Code) (w:World):(bj fn a ps assign body w).heap[w.heap.size + 1]? = some (.loop (cG fn a ps assign body w.heap.size .ready none)):=by
 have:=World.alloc_heap_new (w.alloc (.deferred (some []))) (.loop (cG fn a ps assign body w.heap.size .ready none))
 rwa [World.size_alloc] at this
theorem qw (fn:FuncId) (a:Act) (ps:Array Tmp) (assign body:Code) (w:World):(bj fn a ps assign body w).heap[w.heap.size]? = some (.deferred (some [])):=
 (Below.heap_alloc _ _ _ (by simp)).trans (World.alloc_heap_new w _)
theorem b4.loop (h:b4 ⟨m0,w0,S,[],K⟩ s a w) (fn:FuncId) (ps:Array Tmp) (assign body:Code):b4 ⟨m0,w0,S,[bh w.heap.size],K⟩ s { a with defers:=[bh w.heap.size] } (bj fn a ps assign body w):=
 (h.below (iD fn a ps assign body w)).redefer _
end
section
variable {m0:Nat -> Nat -> Prop} {w0 wi w:World} {S:Nat -> Prop} {ds di:List Deferred} {K:Kn} {s si:St} {a ai:Act}
def EK (l:Nat) (r:Loop) (D:Nat):Kn:=⟨fun _ w => w.heap[l]? = some (.loop r)/\w.heap[D]? = some (.deferred (some [])),fun k h => ⟨k.obj _ _ h.1 (fun _ _ _ e => by cases e),k.obj _ _ h.2 (fun _ _ _ e => by cases e)⟩⟩
theorem over (hc:b4 ⟨m0,w0,S,ds,K⟩ s a wi) {pre:List (Nat × Blk)} (hi:b4 ⟨s.m ⟨m0,w0,S,ds,K⟩,wi,ats pre,di,noK⟩ si ai w) (hdist:pre.Pairwise fun e f => e.2.at_ ≠ f.2.at_) (hp:∀ e ∈ pre,f7 s.mem e.1=some e.2) {sets:List (Nat × List AV)} {news:List (Nat × Blk)} {ks:List Nat} (hs:v8 si pre sets) (hn:I7 si pre ks news) :
  b4 ⟨m0,w0,S,ds,K⟩ (s.eff (.sets (upd pre sets ++ news))) a w/\∀ v,Ok (si.m ⟨s.m ⟨m0,w0,S,ds,K⟩,wi,ats pre,di,noK⟩) w v -> Ok ((s.eff (.sets (upd pre sets ++ news))).m ⟨m0,w0,S,ds,K⟩) w v:=by
 obtain ⟨hl,hok⟩:=cI hi hs hn;obtain ⟨f1,f2⟩:=hc.called hdist hp hl;exact ⟨f1,fun v hv => f2 v (hok v hv)⟩
end
section
variable {C:Cx} {P:Program} {Q:Exit -> Act -> World -> Prop} {ops:Array Oper} {s:St} {a:Act} {w:World} {L rest:List Oper} {o:Oper}
abbrev yV (l:Nat):AV:=.raw (.func (.yield l) #[] #[])
theorem tg {c:Call} {g:Operand} {l:Nat} {args:List AV} (hop:o.op = .call c) (hcal:c.callee = .value g) (h:b4 C s a w) (hgv:val s [] g=yV l) (hl:U7 s [] c.args.toList=some args) {rc:Loop} (hr:w.heap[l]? = some (.loop rc)) (hsz:args.length=rc.params.size) :
  (execOp a.eval o).run P w = .ok (.round l rc.fn ((rc.params.zip (args.map AV.den).toArray).foldl (fun tmps (t,a) => tmps.setIfInBounds t a) rc.tmps) rc.assign rc.body) w/\∀ v ∈ args,Ok (s.m C) w v:=by
 obtain ⟨h1,h2⟩:=cu h (fun _ h => by cases h) hl;have hg:=C3 h (q:=[]) (fun _ h => by cases h) (x:=g) (by rw [hgv]; rfl);rw [hgv] at hg;have hargs:c.args.map a.eval=(args.map AV.den).toArray:=by
  apply Array.ext'
  simpa using h1
 have e1:a.eval g = .func (.yield l) #[] #[]:=hg.1;refine ⟨?_,h2⟩;have hy:=run_yield (P:=P) (args:=(args.map AV.den).toArray) hr (by simpa using hsz);simp [execOp,hop,resolve,hcal,e1,Deferred.ofValue,invoke,hargs]
 simpa using hy
theorem tv {i g:Nat} {want:Bool} (hg:o.guard=some (i,want)) (hd:(ops[i]?).bind (·.dst)=some g) (h:b4 C s a w) (hv:look s.tmps g = .bool (if want then .tt else .ff)):Region.wanted o (yielded ops a.tmps)=true:=by
 have h1:=(h.slot g (by rw [hv]; cases want<;>rfl)).1;rw [hv] at h1;simp only [Region.wanted,hg,yielded,hd,Option.bind_some]
 cases want<;>simp [h1,AV.den,BE.den]
theorem qr {c:Call} {g:Operand} {l:Nat} {args:List AV} (hL:L=o :: rest) (hw:Region.wanted o (yielded ops a.tmps)=true) (hop:o.op = .call c) (hcal:c.callee = .value g) (h:b4 C s a w) (hgv:val s [] g=yV l) (hl:U7 s [] c.args.toList=some args) {rc:Loop} (hr:w.heap[l]? = some (.loop rc)) (hsz:args.length=rc.params.size)
  (K:(∀ v ∈ args,Ok (s.m C) w v) -> RoundIn (rF none) 0 P l rc.fn ((rc.params.zip (args.map AV.den).toArray).foldl (fun tmps (t,a) => tmps.setIfInBounds t a) rc.tmps) rc.assign rc.body w fun
   | .returned v,w'' => wpListIn (rF none) 0 P ops Q rest (a.put o.dst v) w''
   | .panicked chain,w'' => Q (.panic chain) a w''
   | .outgrown,_ => LetsOut Q):wpListIn (rF none) 0 P ops Q L a w:=by
 subst hL;obtain ⟨hrun,hok⟩:=tg (P:=P) hop hcal h hgv hl hr hsz
 show (if Region.wanted o (yielded ops a.tmps) then o.wpIn (rF none) 0 P a w (wpListIn (rF none) 0 P ops Q rest) Q else _)
 rw [if_pos hw];refine ⟨fun f _ => jJ none f,?_⟩;rw [Oper.semAt_eq _ _ _ (fun c' e => by rw [hop] at e; cases e),hrun];exact ⟨jK none 0,K hok⟩
end
section
variable {P:Program} {w:World}
def vw (l:Nat) (r:Loop) (R:Ending -> World -> Prop):Exit -> Act -> World -> Prop
 | .normal,_,w => w.heap[l]? = some (.loop { r with state:=.busy })/\R (.returned (.bool true)) (w.putObj l (.loop { r with state:=.ready,pending:=none }))
 | .ret,_,w => w.heap[l]? = some (.loop { r with state:=.busy })/\R (.returned (.bool false)) (w.putObj l (.loop { r with state:=.done,pending:=some .ret }))
 | .exit id,_,w => w.heap[l]? = some (.loop { r with state:=.busy })/\R (.returned (.bool false)) (w.putObj l (.loop { r with state:=.done,pending:=some (.exit id) }))
 | .goto t,_,w => w.heap[l]? = some (.loop { r with state:=.busy })/\R (.returned (.bool false)) (w.putObj l (.loop { r with state:=.done,pending:=some (.goto t) }))
 | .panic chain,a,w => a.defers=[]/\R (.panicked chain) w
 | .outgrown,_,_ => False
theorem vu {l:Nat} {r:Loop} {fd:Func} (hfn:P.funcs[r.fn]? = some fd) (hst:r.state = .ready) {tmps:Array Value} {R:Ending -> World -> Prop}
  (h:r.assign.wpIn (rF (some l)) 0 P (Exit.then (fun a₁ w₁ => w₁.heap[l]? = some (.loop r)/\r.body.wpIn (rF (some l)) 0 P (vw l r R) a₁ (w₁.putObj l (.loop { r with state:=.busy }))) (fun _ _ _ => False)) { tmps:=tmps,defers:=[] } w) :
  RoundIn (rF none) 0 P l r.fn tmps r.assign r.body w R:=by
 refine yF hfn (wpIn_mono h ?_);intro e a₁ w₁ he
 cases e with
 | normal =>
  obtain ⟨hl,hb⟩:=he;refine ⟨_,run_beginRound hl hst,wpIn_mono hb ?_⟩;intro e a w he
  cases e with
  | normal => exact ⟨_,_,run_endRound none he.1,he.2⟩
  | ret => exact ⟨_,_,run_endRound (some .ret) he.1,he.2⟩
  | exit id => exact ⟨_,_,run_endRound (some (.exit id)) he.1,he.2⟩
  | goto t => exact ⟨_,_,run_endRound (some (.goto t)) he.1,he.2⟩
  | panic chain => exact he
  | outgrown => exact he
 | exit id => exact he
 | goto t => exact he
 | ret => exact he
 | panic chain => exact he
 | outgrown => exact he
def St.puts (s:St):List (Nat × AV) -> St
 | [] => s
 | e :: l => (s.put (some e.1) e.2).puts l
theorem b4.puts {C:Cx}:∀ {l:List (Nat × AV)} {s:St} {a:Act},b4 C s a w -> (∀ e ∈ l,e.1 < s.nt/\Ok (s.m C) w e.2) -> b4 C (s.puts l) { a with tmps:=l.foldl (fun t e => t.setIfInBounds e.1 e.2.den) a.tmps } w
 | [],s,a,h,_ => h
 | e :: l,s,a,h,hl => by
  obtain ⟨h1,h2⟩:=hl e (by simp);have hp:=h.put (some e.1) (fun t ht => by injection ht with ht; subst ht; exact h1) e.2 (fun _ => h2) e.2.den (fun _ => rfl);exact b4.puts (l:=l) hp fun e' he' => hl e' (by simp [he'])
end
section
variable {C:Cx} {P:Program} {Q:Exit -> Act -> World -> Prop} {T:List (Nat × TI)} {s:St} {a:Act} {w:World} {B:Alg} {r:Option Nat}
theorem FX {all L:List Oper} {R:Alg -> (Nat -> i3) -> St × List Ob} (i n:Nat) (hB:B=std) (hT:k4 P T) (kp km:List Nat) (cs:List (Nat × CS)) (h:b4 C s a w) (hO:∀ a w,¬ Q .outgrown a w) (hQ:∀ X a' w',b4 C (R B X).1 a' w' -> wpListIn (rF r) 0 P all.toArray Q (L.drop n) a' w')
  (hex:∀ A X,(K4 A T cs X all (j4 i (L.take n)) s).map (fun r => (r.1.keep kp km,r.2.1))=some (R A X)) (hob:∀ X,b5 P C.K (R B X).2) (hd:T5 (L.take n)=true):wpListIn (rF r) 0 P all.toArray Q L a w:=by
 have h1:wpList P all.toArray (Exit.then (fun a w => wpListIn (rF r) 0 P all.toArray Q (L.drop n) a w) Q) (L.take n) a w:=bU i hB hT kp km cs h hex hob fun X a' w' hf => hQ X a' w' hf
 have h2:=cH (r:=r) (n:=0) (ops:=all.toArray) (Q:=Exit.then (fun a w => wpListIn (rF r) 0 P all.toArray Q (L.drop n) a w) Q) (Q':=Q) (rest:=L.drop n) (fun a w h => hO a w h) (fun e a w hne h => by cases e<;>first | exact absurd rfl hne | exact h) (fun a w h => h) (L.take n) a w hd h1
 rwa [List.take_append_drop] at h2
theorem EH {all L:List Oper} {R:Alg -> (Nat -> i3) -> St × List Ob} (i n:Nat) (hB:B=std) (hT:k4 P T) (kp km:List Nat) (cs:List (Nat × CS)) (h:b4 C s a w) (hQ:∀ X a' w',b4 C (R B X).1 a' w' -> wpListIn (rF r) 0 P all.toArray Q (L.drop n) a' w')
  (hO:∀ a w,¬ Q .outgrown a w:=by first | exact fun _ _ h => h | (intro a w h; obtain ⟨x,h,_⟩:=h; cases h))
  (hex:∀ A X,(K4 A T cs X all (j4 i (L.take n)) s).map (fun r => (r.1.keep kp km,r.2.1))=some (R A X):=by intro A X; conv => lhs; cbv) (hob:∀ X,b5 P C.K (R B X).2:=by
   intro X; subst hB
   first
   | exact trivial
   | (simp only [b5,Ob.holds,BE.den]<;>and_intros<;>(repeat first | trivial | rfl | exact O1 | exact O2 | exact O3 | exact (fun _ _ => by kernel_rfl) | exact O1 _ _ _ rfl | exact O2 _ _ _ rfl | refine ⟨?_,?_⟩ | intro h | decide | omega)<;>done)
   | (simp [b5,Ob.holds,BE.den,std,a8,o9]<;>omega)) (hd:T5 (L.take n)=true:=by rfl):wpListIn (rF r) 0 P all.toArray Q L a w:=FX i n hB hT kp km cs h hO hQ hex hob hd
theorem BV {all L:List Oper} {R:Alg -> (Nat -> i3) -> St × List Ob} (i:Nat) (hB:B=std) (hT:k4 P T) (kp km:List Nat) (cs:List (Nat × CS)) (h:b4 C s a w) (hQ:∀ X a' w',b4 C (R B X).1 a' w' -> Q .normal a' w')
  (hO:∀ a w,¬ Q .outgrown a w:=by first | exact fun _ _ h => h | (intro a w h; obtain ⟨x,h,_⟩:=h; cases h))
  (hex:∀ A X,(K4 A T cs X all (j4 i L) s).map (fun r => (r.1.keep kp km,r.2.1))=some (R A X):=by intro A X; conv => lhs; cbv) (hob:∀ X,b5 P C.K (R B X).2:=by
   intro X; subst hB
   first
   | exact trivial
   | (simp only [b5,Ob.holds,BE.den]<;>and_intros<;>(repeat first | trivial | rfl | exact O1 | exact O2 | exact O3 | exact (fun _ _ => by kernel_rfl) | exact O1 _ _ _ rfl | exact O2 _ _ _ rfl | refine ⟨?_,?_⟩ | intro h | decide | omega)<;>done)
   | (simp [b5,Ob.holds,BE.den,std,a8,o9]<;>omega)) (hd:T5 L=true:=by rfl):wpListIn (rF r) 0 P all.toArray Q L a w:=by
 have h1:=cH (r:=r) (n:=0) (Q':=Q) (rest:=[]) (fun a w h => hO a w h) (fun e a w hne h => h) (fun a w h => h) L a w hd (bU (Q:=Q) i hB hT kp km cs h hex hob hQ)
 rwa [List.append_nil] at h1
theorem rrg {id:Nat} {l:List Oper} {R:Alg -> (Nat -> i3) -> St × List Ob} (hB:B=std) (hT:k4 P T) (kp km:List Nat) (cs:List (Nat × CS)) (h:b4 C s a w) (hQ:∀ X a' w',b4 C (R B X).1 a' w' -> Q .normal a' w')
  (hO:∀ a w,¬ Q .outgrown a w:=by first | exact fun _ _ h => h | (intro a w h; obtain ⟨x,h,_⟩:=h; cases h))
  (hex:∀ A X,(K4 A T cs X l (j4 0 l) s).map (fun r => (r.1.keep kp km,r.2.1))=some (R A X):=by intro A X; conv => lhs; cbv) (hob:∀ X,b5 P C.K (R B X).2:=by
   intro X; subst hB
   first
   | exact trivial
   | (simp only [b5,Ob.holds,BE.den]<;>and_intros<;>(repeat first | trivial | rfl | exact O1 | exact O2 | exact O3 | exact (fun _ _ => by kernel_rfl) | exact O1 _ _ _ rfl | exact O2 _ _ _ rfl | refine ⟨?_,?_⟩ | intro h | decide | omega)<;>done)
   | (simp [b5,Ob.holds,BE.den,std,a8,o9]<;>omega)) (hd:T5 l=true:=by rfl):(Code.region id l.toArray false).wpIn (rF r) 0 P Q a w:=
 vD hO hd (bU (all:=l) 0 hB hT kp km cs h hex hob hQ)
end
section
variable {P:Program} {Q:Exit -> Act -> World -> Prop} {C:Cx} {nt t:Nat} {b:Bool} {l:List (Nat × AV)} {mem:List (Nat × Blk)} {gr:List (Nat × Gr)} {a:Act} {w:World} {x y:Code} {r:Option Nat}
theorem EL {s:St} (h:b4 C s a w) (hv:look s.tmps t = .bool (.v b)) (h1:b=true -> x.wpIn (rF r) 0 P Q a w) (h2:b=false -> y.wpIn (rF r) 0 P Q a w):(Code.cond (.tmp t) x y).wpIn (rF r) 0 P Q a w:=by
 have:=(h.slot t (by rw [hv]; rfl)).1;rw [hv] at this;refine wpIn_cond_split (t:=b) ?_ h1 h2;simp [Act.eval,this,AV.den,BE.den]
theorem vH {s:St} (h:b4 C s a w) (hv:look s.tmps t = .bool .tt) (h1:x.wpIn (rF r) 0 P Q a w):(Code.cond (.tmp t) x y).wpIn (rF r) 0 P Q a w:=by
 have:=(h.slot t (by rw [hv]; rfl)).1;rw [hv] at this;exact wpIn_cond_true (by simp [Act.eval,this,AV.den,BE.den]) h1
theorem vI {s:St} (h:b4 C s a w) (hv:look s.tmps t = .bool .ff) (h1:y.wpIn (rF r) 0 P Q a w):(Code.cond (.tmp t) x y).wpIn (rF r) 0 P Q a w:=by
 have:=(h.slot t (by rw [hv]; rfl)).1;rw [hv] at this;exact wpIn_cond_false (by simp [Act.eval,this,AV.den,BE.den]) h1
theorem jG (h:b4 C ⟨nt,(t,.bool (.v b)) :: l,[],mem,gr⟩ a w) (hd:(look l t).known=false) (h1:b=true -> b4 C ⟨nt,l,[],mem,gr⟩ a w -> x.wpIn (rF r) 0 P Q a w) (h2:b=false -> b4 C ⟨nt,l,[],mem,gr⟩ a w -> y.wpIn (rF r) 0 P Q a w):(Code.cond (.tmp t) x y).wpIn (rF r) 0 P Q a w:=
 EL h (by show look ((t,_) :: l) t=_; rw [o6,if_pos rfl]) (fun hb => h1 hb (h.tail hd)) (fun hb => h2 hb (h.tail hd))
theorem oG (h:b4 C ⟨nt,(t,.bool .tt) :: l,[],mem,gr⟩ a w) (hd:(look l t).known=false) (h1:b4 C ⟨nt,l,[],mem,gr⟩ a w -> x.wpIn (rF r) 0 P Q a w):(Code.cond (.tmp t) x y).wpIn (rF r) 0 P Q a w:=
 vH h (by show look ((t,_) :: l) t=_; rw [o6,if_pos rfl]) (h1 (h.tail hd))
theorem vo (h:b4 C ⟨nt,(t,.bool .ff) :: l,[],mem,gr⟩ a w) (hd:(look l t).known=false) (h1:b4 C ⟨nt,l,[],mem,gr⟩ a w -> y.wpIn (rF r) 0 P Q a w):(Code.cond (.tmp t) x y).wpIn (rF r) 0 P Q a w:=
 vI h (by show look ((t,_) :: l) t=_; rw [o6,if_pos rfl]) (h1 (h.tail hd))
end
section
variable {P:Program} {Q:Exit -> Act -> World -> Prop} {r:Option Nat} {m0:Nat -> Nat -> Prop} {w0:World} {S:Nat -> Prop} {ds:List Deferred}
theorem tH {ι : Type} (I:ι -> Act -> World -> Prop) (J:ι -> Prop) (μ : ι -> Nat) {c:Code} {a:Act} {w:World} (p₀:ι) (h₀:J p₀) (hf:I p₀ a w)
  (round:∀ p,J p -> ∀ a w,I p a w -> c.wpIn (rF r) 0 P (Exit.then (fun a' w' => ∃ p',J p'/\μ p' < μ p/\I p' a' w') Q) a w):(Code.loop c).wpIn (rF r) 0 P Q a w:=by
 intro b k fs hro hb hr;have key:∀ n p a w,μ p=n -> J p -> I p a w →
   ∃ e a' w',Q e a' w'/\ArrivesIn (Machine.fenced P (rF r)) P (lone (b.atR a (.code c :: .inLoop c :: k)) fs w) b k fs e a' w':=by
  intro n
  induction n using Nat.strongRecOn with
  | _ n ih =>
   intro p a w hn hJ hF;obtain ⟨e,a₁,w₁,hq,harr⟩:=round p hJ a w hF b (.inLoop c :: k) fs hro hb hr
   cases e with
   | normal =>
    obtain ⟨p',hJ',hlt,hF'⟩:=hq;obtain ⟨e₂,a₂,w₂,hq₂,harr₂⟩:=ih (μ p') (hn ▸ hlt) p' a₁ w₁ rfl hJ' hF';exact ⟨e₂,a₂,w₂,hq₂,.of_steps (StepsIn.trans harr (.one (fenced_wide P _) stepR_inLoop)) harr₂⟩
   | exit id => exact ⟨_,a₁,w₁,hq,.pass (x:=.inLoop c) rfl (fun _ _ => .inl (by simp)) harr⟩
   | goto l => exact ⟨_,a₁,w₁,hq,.pass (x:=.inLoop c) rfl (fun _ _ => .inl (by simp)) harr⟩
   | ret => exact ⟨_,a₁,w₁,hq,.pass (x:=.inLoop c) rfl (fun _ _ => .inl (by simp)) harr⟩
   | panic ch => exact ⟨_,a₁,w₁,hq,.pass (x:=.inLoop c) rfl (fun _ _ => .inl (by simp)) harr⟩
   | outgrown => exact ⟨_,a₁,w₁,hq,.pass (x:=.inLoop c) rfl (fun _ _ => .inl (by simp)) harr⟩
 obtain ⟨e,a',w',hq,harr⟩:=key _ p₀ a w rfl h₀ hf;exact ⟨e,a',w',hq,.of_steps (.one (fenced_wide P _) stepR_loop) harr⟩
end
section
variable {P:Program} {f:FuncId} {fn:Func} {c:Code} {R:Ending -> World -> Prop} {m:Nat -> Nat -> Prop} {w:World} {pre:List (Nat × Blk)} {args:List AV}
theorem enY (nt:Nat) (hm:∀ b o,m b o -> b < w.heap.size) (hp:I9 m w pre) (hargs:∀ v ∈ args,Ok m w v) (hf:P.funcs[f]? = some fn) (h:∀ B,B=std -> ∀ a,b4 ⟨m,w,ats pre,[],noK⟩ ⟨nt,B1 0 args,[],pre,[]⟩ a w -> c.wpIn (rF none) 0 P (bodyPost P fn R) a w) (hb:fn.body=some c:=by rfl) (hnt:fn.ntmps=nt:=by rfl) (hn:args.length<=nt:=by exact Nat.le_of_ble_eq_true rfl):Calls P f (args.map AV.den).toArray w R:=
 enX nt hm hp hargs hf (fun B hB a hF => (wpIn_wide (n:=0)).1 (h B hB a hF)) hb hnt hn
theorem enN (nt:Nat) (hm:∀ b o,m b o -> b < w.heap.size) (hp:I9 m w pre) (hargs:∀ v ∈ args,Ok m w v) (hf:P.funcs[f]? = some fn) (h:∀ B,B=std -> ∀ a,b4 ⟨m,w,ats pre,[],noK⟩ ⟨nt,B1 0 args,[],pre,[]⟩ a w -> wpN f P c (bodyPostM Fence.wide 0 P fn R) a w) (hb:fn.body=some c:=by rfl) (hnt:fn.ntmps=nt:=by rfl) (hn:args.length<=nt:=by exact Nat.le_of_ble_eq_true rfl):Calls P f (args.map AV.den).toArray w R:=by
 refine iL hf hb ?_;have:=h std rfl _ (au hm hp hargs hn)
 simpa [hnt] using this
end
section
variable {C:Cx} {P:Program} {Q:Exit -> Act -> World -> Prop} {T:List (Nat × TI)} {B:Alg} {r:Option Nat} {ops:Array Oper}
theorem EP {l:List Oper} (h:T5 l=true) {o:Oper} (ho:o ∈ l):∀ c,o.op ≠ .defer c:=fun c e => by
 have:=List.all_eq_true.1 h o ho;rw [e] at this; cases this
theorem sS (hO:∀ a w,¬ Q .outgrown a w) (hd:∀ o ∈ ops,∀ c,o.op ≠ .defer c) {md:Region.Mode}:∀ (fuel:Nat) (listed:Array Bool) (a:Act) (w:World),wpAny P md ops Q fuel listed a w -> wpAnyIn (rF r) 0 P md ops Q fuel listed a w
 | 0,listed,a,w,h => h
 | fuel + 1,listed,a,w,h => by
  refine ⟨h.1,fun i hi => ?_⟩;have h2:=h.2 i hi;unfold wpOp at h2;unfold wpOpIn
  cases ho:ops[i]? with
  | none => rw [ho] at h2; exact sS hO hd fuel _ _ _ h2
  | some o =>
   rw [ho] at h2;simp only at h2 ⊢
   by_cases hw:Region.wanted o (yielded ops a.tmps)=true
   .rw [if_pos hw] at h2 ⊢
    rcases h2 with h2 | ⟨_,a',w',h2⟩
    .exact vQ (hd o (Array.mem_of_getElem? ho)) (fun a w h => sS hO hd fuel _ a w h) (fun _ _ _ h => h) h2
    exact absurd h2 (hO _ _)
   rw [if_neg hw] at h2 ⊢;exact ⟨fun f _ => jJ r f,sS hO hd fuel _ _ _ h2⟩
end
def okT (tm:List (Nat × AV)):Kn:=⟨fun m w => ∀ t,(look tm t).known=true -> Ok m w (look tm t),fun k h t ht => k.ok (h t ht)⟩
def aP (nt:Nat) (tm:List (Nat × AV)) (ds:List Deferred) (a:Act):Prop:=a.tmps.size=nt/\a.defers=ds/\∀ t,(look tm t).known=true -> a.tmps[t]? = some (look tm t).den
def Kn.under (K:Kn) (n:Nat):Prop:=∀ l,n<=l -> ∀ {w m w' m'},P2 (some l) w m w' m' -> K.p m w -> K.p m' w'
def Kn.off (K:Kn) (l:Nat):Prop:=∀ {w m w' m'},P2 (some l) w m w' m' -> K.p m w -> K.p m' w'
theorem Kn.under.off {K:Kn} {n l:Nat} (h:K.under n) (hl:n<=l):K.off l:=h l hl
theorem Kn.under.mono {K:Kn} {n n':Nat} (h:K.under n) (hl:n<=n'):K.under n':=fun l h' => h l (Nat.le_trans hl h')
theorem tT (tm:List (Nat × AV)) (n:Nat):(okT tm).under n:=fun _ _ _ _ _ _ k h t ht => k.ok (h t ht)
theorem uJ {K K':Kn} {n:Nat} (h:K.under n) (h':K'.under n):(K.and K').under n:=fun l hl _ _ _ _ k x => ⟨h l hl k x.1,h' l hl k x.2⟩
theorem bd (tm:List (Nat × AV)) (n:Nat):(okT tm).off n:=fun k h t ht => k.ok (h t ht)
theorem sV {K K':Kn} {n:Nat} (h:K.off n) (h':K'.off n):(K.and K').off n:=fun k x => ⟨h k x.1,h' k x.2⟩
theorem vF {l D n:Nat} {r:Loop} (h1:l ≠ n) (h2:D ≠ n):(EK l r D).off n:=fun k x => ⟨k.obj _ _ (by intro e; injection e with e; exact h1 e.symm) x.1 (fun _ _ _ e => by cases e),k.obj _ _ (by intro e; injection e with e; exact h2 e.symm) x.2 (fun _ _ _ e => by cases e)⟩
def Kn.self (K:Kn):Prop:=∀ m w,K.p m w -> K.under w.heap.size
theorem vT (tm:List (Nat × AV)):(okT tm).self:=fun _ _ _ => tT _ _
theorem mF {K K':Kn} (h:K.self) (h':K'.self):(K.and K').self:=fun m w x => uJ (h m w x.1) (h' m w x.2)
def C5 (Ds:List Nat):Kn:=⟨fun _ w => (∀ D ∈ Ds,w.heap[D]? = some (.deferred (some [])))/\Ds.Nodup,fun k h => ⟨fun D hD => k.obj _ _ (h.1 D hD) (fun _ _ _ e => by cases e),h.2⟩⟩
theorem jW {Ds:List Nat} {n:Nat} (h:n ∉ Ds):(C5 Ds).off n:=fun k x => ⟨fun D hD => k.obj _ _ (by intro e; injection e with e; exact h (e ▸ hD)) (x.1 D hD) (fun _ _ _ e => by cases e),x.2⟩
section
variable {m0:Nat -> Nat -> Prop} {w0 w w':World} {S:Nat -> Prop} {ds:List Deferred} {K:Kn} {nt:Nat} {tm:List (Nat × AV)} {gs:List (Nat × List (Nat × Bool) × AV)} {mem:List (Nat × Blk)} {gr:List (Nat × Gr)} {a:Act} {P:Program}
abbrev Mem (m0:Nat -> Nat -> Prop) (w0:World) (S:Nat -> Prop) (K:Kn) (mem:List (Nat × Blk)) (gr:List (Nat × Gr)) (w:World):Prop:=b4 ⟨m0,w0,S,[],K⟩ ⟨0,[],[],mem,gr⟩ ⟨#[],[]⟩ w
abbrev mT (m0:Nat -> Nat -> Prop) (mem:List (Nat × Blk)) (gr:List (Nat × Gr)):Nat -> Nat -> Prop:=St.m ⟨0,[],[],mem,gr⟩ ⟨m0,default,fun _ => False,[],noK⟩
theorem b4.leave (h:b4 ⟨m0,w0,S,ds,K⟩ ⟨nt,tm,gs,mem,gr⟩ a w):Mem m0 w0 S (K.and (okT tm)) mem gr w/\aP nt tm ds a:=
 ⟨⟨rfl,rfl,(fun t ht => by cases ht),(fun t p v he => by cases he),h.mem,h.nodup,h.gr,h.sepm,h.sepg,h.chg,h.m0,⟨h.kept,fun t ht => (h.slot t ht).2⟩⟩,h.size,h.defers,fun t ht => (h.slot t ht).1⟩
theorem b4.bare (h:b4 ⟨m0,w0,S,ds,K⟩ ⟨nt,tm,gs,mem,gr⟩ a w):Mem m0 w0 S K mem gr w:=
 ⟨rfl,rfl,(fun t ht => by cases ht),(fun t p v he => by cases he),h.mem,h.nodup,h.gr,h.sepm,h.sepg,h.chg,h.m0,h.kept⟩
theorem fN (h:Mem m0 w0 S K mem gr w) (ha:aP nt tm ds a) (hok:(okT tm).p (mT m0 mem gr) w):b4 ⟨m0,w0,S,ds,K⟩ ⟨nt,tm,[],mem,gr⟩ a w:=
 ⟨ha.1,ha.2.1,fun t ht => ⟨ha.2.2 t ht,hok t ht⟩,(fun t p v he => by cases he),h.mem,h.nodup,h.gr,h.sepm,h.sepg,h.chg,h.m0,h.kept⟩
theorem ah (h:Mem m0 w0 S (K.and (okT tm)) mem gr w) (ha:aP nt tm ds a):b4 ⟨m0,w0,S,ds,K⟩ ⟨nt,tm,[],mem,gr⟩ a w:=
 fN (K:=K) (b4.withK (K:=K.and (okT tm)) h h.kept.1) ha h.kept.2
theorem rX {K':Kn} (h:Mem m0 w0 S K mem gr w) (hK:K'.p (mT m0 mem gr) w):Mem m0 w0 S K' mem gr w:=b4.withK (K:=K) h hK
theorem jU {b:Nat} {o:Obj} (h:Mem m0 w0 S K mem gr w) (hb:w.heap[b]? = some o) (ho:∀ c t f,o ≠ Obj.cells c t f) (hg:w.grownBy w' (some b)) (hC:b < w0.heap.size -> S b) {K':Kn} (hK:P2 (some b) w (mT m0 mem gr) w' (mT m0 mem gr) -> K'.p (mT m0 mem gr) w'):Mem m0 w0 S K' mem gr w':=
 b4.turn (K:=K) h hb ho hg hC (hK (cx hb ho hg))
end
section
variable {m0:Nat -> Nat -> Prop} {w0 w:World} {S:Nat -> Prop} {ds:List Deferred} {K:Kn} {mem:List (Nat × Blk)} {gr:List (Nat × Gr)} {a:Act} {P:Program} {f:FuncId} {fn:Func} {c:Code} {R:Ending -> World -> Prop} {args:List AV} {B:Alg} {T:List (Nat × TI)} {s:St} {rs:List ResultVar} {r:List AV × List Ob} {Q:Exit -> Act -> World -> Prop} {ops:Array Oper}
theorem BM (hargs:∀ v ∈ args,Ok (mT m0 mem gr) w v) {n:Nat} (hn:args.length<=n):aP n (B1 0 args) [] { tmps:=(args.map AV.den).toArray ++ Array.replicate (n - args.length) Go.undef,defers:=[] }/\(okT (B1 0 args)).p (mT m0 mem gr) w:=by
 have key:∀ t,(look (B1 0 args) t).known=true -> args[t]? = some (look (B1 0 args) t):=fun t ht => by
  have:=(dq args 0 t ht).2
  rwa [Nat.sub_zero] at this
 refine ⟨⟨by simp; omega,rfl,fun t ht => ?_⟩,fun t ht => hargs _ (List.mem_of_getElem? (key t ht))⟩;have h1:=key t ht;have hlt:=(List.getElem?_eq_some_iff.1 h1).1;rw [Array.getElem?_append_left (by simpa using hlt)];simp [h1]
theorem enI (nt:Nat) (h:Mem m0 w0 S K mem gr w) (hargs:∀ v ∈ args,Ok (mT m0 mem gr) w v) (hf:P.funcs[f]? = some fn) (body:∀ B,B=std -> ∀ a,b4 ⟨m0,w0,S,[],K⟩ ⟨nt,B1 0 args,[],mem,gr⟩ a w -> c.wp P (bodyPost P fn R) a w) (hb:fn.body=some c:=by rfl) (hnt:fn.ntmps=nt:=by rfl) (hn:args.length<=nt:=by exact Nat.le_of_ble_eq_true rfl):Calls P f (args.map AV.den).toArray w R:=by
 refine calls_of_wp hf hb ?_;obtain ⟨h1,h2⟩:=BM hargs hn;have:=body std rfl _ (fN h h1 h2)
 simpa [hnt] using this
theorem da (hB:B=std) (hT:k4 P T) {nt:Nat} {tm:List (Nat × AV)} (h:b4 ⟨m0,w0,S,[],K⟩ ⟨nt,tm,[],mem,gr⟩ a w) (hR:Mem m0 w0 S K mem gr w -> Ok (mT m0 mem gr) w (I5 r.1) -> R (.returned (I5 r.1).den) w) (hfn:fn.results=rs.toArray:=by rfl) (hr:P9 T ⟨nt,tm,[],mem,gr⟩ rs=some r:=by first | rfl | (conv => lhs; cbv)) (ho:b5 P K r.2:=by first | exact trivial | (subst hB; simp [b5,Ob.holds])):bodyPost P fn R .ret a w/\bodyPost P fn R .normal a w:=
 eX hT h rfl hfn hr ho fun hv => hR h.bare hv
theorem ns {nt:Nat} {tm:List (Nat × AV)} {L rest:List Oper} {o:Oper} {cl:Call} {g:Operand} {l r args:List AV} (hL:L=o :: rest) (hg:o.guard=none) (hop:o.op = .call cl) (hcal:cl.callee = .value g) (h:b4 ⟨m0,w0,S,ds,K⟩ ⟨nt,tm,[],mem,gr⟩ a w) (hgv:val ⟨nt,tm,[],mem,gr⟩ [] g = .fn f l r) (hl:U7 ⟨nt,tm,[],mem,gr⟩ [] cl.args.toList=some args) (hen:j3 P f) (hd:∀ t,o.dst=some t -> t < nt)
  (Kc:Mem m0 w0 S (K.and (okT tm)) mem gr w -> aP nt tm ds a -> (∀ v ∈ l ++ args ++ r,Ok (mT m0 mem gr) w v) -> Calls P f ((l ++ args ++ r).map AV.den).toArray w fun e w' => ∃ v,e = .returned v.den/\∃ mem' gr' K',Ok (mT m0 mem' gr') w' v/\Mem m0 w0 S (K'.and (okT tm)) mem' gr' w' ∧
   ∀ a' ,b4 ⟨m0,w0,S,ds,K'⟩ (St.put ⟨nt,tm,[],mem',gr'⟩ o.dst v) a' w' -> wpList P ops Q rest a' w'):wpList P ops Q L a w:=by
 refine R0 hL hg ?_;obtain ⟨hrun,hok⟩:=cp hop hcal h hgv hl hen;obtain ⟨h1,h2⟩:=h.leave;unfold Oper.wp;rw [hrun];simp only [Oper.upon];refine (Kc h1 h2 hok).mono ?_
 rintro e w' ⟨v,rfl,mem',gr',K',hv,hm,k⟩
 have hf:=ah hm h2;exact k _ (hf.put o.dst hd v (fun _ => hv) _ fun _ => rfl)
end
section
variable {m0:Nat -> Nat -> Prop} {w0 w:World} {S:Nat -> Prop} {ds:List Deferred} {K:Kn} {mem:List (Nat × Blk)} {gr:List (Nat × Gr)} {a:Act} {P:Program} {fn:FuncId}
def iR (rc:Loop) (st:LoopState) (pe:Option Code):Loop:={ rc with state:=st,pending:=pe }
def KL (K:Kn) (tm:List (Nat × AV)) (l:Nat) (rc:Loop) (D:Nat) (st:LoopState) (pe:Option Code):Kn:=(K.and (okT tm)).and (EK l (iR rc st pe) D)
theorem AD {K:Kn} {tm:List (Nat × AV)} {l D:Nat} {rc:Loop} {st st':LoopState} {pe pe':Option Code} {w w':World} {m:Nat -> Nat -> Prop} (hD:D ≠ l) (hK:K.off l) (hk:P2 (some l) w m w' m) (hl:w'.heap[l]? = some (.loop (iR rc st' pe'))) (h:(KL K tm l rc D st pe).p m w):(KL K tm l rc D st' pe').p m w':=
 ⟨⟨hK hk h.1.1,bd tm l hk h.1.2⟩,hl,hk.obj _ _ (by intro e; injection e with e; exact hD e.symm) h.2.2 (fun _ _ _ e => by cases e)⟩
theorem tO {w:World} {l:Nat} {o o':Obj} (h:w.heap[l]? = some o):(w.putObj l o').heap[l]? = some o':=by
 have:=(Array.getElem?_eq_some_iff.1 h).1;simp [World.putObj,this]
theorem oM {K E:Kn} {tm:List (Nat × AV)} {l D:Nat} {rc:Loop} {st st':LoopState} {pe pe':Option Code} {nt:Nat} {tm':List (Nat × AV)} (hl0:w0.heap.size<=l) (hD:D ≠ l) (hK:K.off l) (hE:E.off l) (h:b4 ⟨m0,w0,S,ds,(KL K tm l rc D st pe).and E⟩ ⟨nt,tm',[],mem,gr⟩ a w):b4 ⟨m0,w0,S,ds,(KL K tm l rc D st' pe').and E⟩ ⟨nt,tm',[],mem,gr⟩ a (w.putObj l (.loop (iR rc st' pe'))):=by
 obtain ⟨h1,h2⟩:=h.leave;have hk:=h1.kept;have hl:w.heap[l]? = some (.loop (iR rc st pe)):=hk.1.1.2.1;have:=jU (K':=(((KL K tm l rc D st' pe').and E).and (okT tm'))) h1 hl (fun _ _ _ e => by cases e) (grownBy_putObj' w l (.loop (iR rc st' pe'))) (fun h => by omega) (fun kb => ⟨⟨AD hD hK kb (tO hl) hk.1.1,hE kb hk.1.2⟩,bd tm' l kb hk.2⟩);exact ah this h2
def xT (m0:Nat -> Nat -> Prop) (w0:World) (S:Nat -> Prop) (tm:List (Nat × AV)) (l:Nat) (rc:Loop) (D:Nat) (E:Kn) (N:Kn -> List (Nat × Blk) -> List (Nat × Gr) -> Prop) (X:Code -> Kn -> List (Nat × Blk) -> List (Nat × Gr) -> Prop):Exit -> Act -> World -> Prop
 | .normal,_,w => ∃ K mem gr,N K mem gr/\K.off l/\Mem m0 w0 S ((KL K tm l rc D .busy none).and E) mem gr w
 | .ret,_,w => ∃ K mem gr,X .ret K mem gr/\K.off l/\Mem m0 w0 S ((KL K tm l rc D .busy none).and E) mem gr w
 | .exit id,_,w => ∃ K mem gr,X (.exit id) K mem gr/\K.off l/\Mem m0 w0 S ((KL K tm l rc D .busy none).and E) mem gr w
 | .goto t,_,w => ∃ K mem gr,X (.goto t) K mem gr/\K.off l/\Mem m0 w0 S ((KL K tm l rc D .busy none).and E) mem gr w
 | _,_,_ => False
theorem BU {fd:Func} {rc:Loop} (hfn:P.funcs[rc.fn]? = some fd) {l D ntc nti:Nat} {tmc tmi:List (Nat × AV)} {ac ai:Act} (hl0:w0.heap.size<=l) (hD:D ≠ l) (hK:K.off l) (hst:rc.pending=none) (htm:rc.tmps=ac.tmps)
  (hi:b4 ⟨m0,w0,S,[],KL K tmc l rc D .ready none⟩ ⟨nti,tmi,[],mem,gr⟩ ai w) (hc:∃ d,aP ntc tmc d ac) {ps:List (Nat × AV)} (hps:∀ e ∈ ps,e.1 < ntc/\Ok (mT m0 mem gr) w e.2) {R:Ending -> World -> Prop}
  (N:Kn -> List (Nat × Blk) -> List (Nat × Gr) -> Prop) (X:Code -> Kn -> List (Nat × Blk) -> List (Nat × Gr) -> Prop)
  (hN:∀ K' mem' gr' w',N K' mem' gr' -> K'.off l -> b4 ⟨m0,w0,S,[],KL K' tmc l rc D .ready none⟩ ⟨nti,tmi,[],mem',gr'⟩ ai w' -> R (.returned (.bool true)) w')
  (hX:∀ c K' mem' gr' w',X c K' mem' gr' -> K'.off l -> b4 ⟨m0,w0,S,[],KL K' tmc l rc D .done (some c)⟩ ⟨nti,tmi,[],mem',gr'⟩ ai w' -> R (.returned (.bool false)) w')
  (hbody:∀ a,b4 ⟨m0,w0,S,[],(KL K tmc l rc D .ready none).and (okT tmi)⟩ (St.puts ⟨ntc,tmc,[],mem,gr⟩ ps) a w -> rc.assign.wpIn (rF (some l)) 0 P (Exit.then (fun a₁ w₁ => ∃ nt1 tm1 jV gr1,b4 ⟨m0,w0,S,[],(KL K tmc l rc D .ready none).and (okT tmi)⟩ ⟨nt1,tm1,[],jV,gr1⟩ a₁ w₁ ∧
   ∀ w₂,b4 ⟨m0,w0,S,[],(KL K tmc l rc D .busy none).and (okT tmi)⟩ ⟨nt1,tm1,[],jV,gr1⟩ a₁ w₂ -> rc.body.wpIn (rF (some l)) 0 P (xT m0 w0 S tmc l rc D (okT tmi) N X) a₁ w₂) (fun _ _ _ => False)) a w) :
  RoundIn (rF none) 0 P l rc.fn (ps.foldl (fun t e => t.setIfInBounds e.1 e.2.den) rc.tmps) rc.assign rc.body w R:=by
 obtain ⟨hm,hai⟩:=hi.leave;have hk:=hm.kept;obtain ⟨dc,hac⟩:=hc;have hact:aP ntc tmc [] { tmps:=ac.tmps,defers:=[] }:=⟨hac.1,rfl,hac.2.2⟩;have hF0:b4 ⟨m0,w0,S,[],(KL K tmc l rc D .ready none).and (okT tmi)⟩ ⟨ntc,tmc,[],mem,gr⟩ { tmps:=ac.tmps,defers:=[] } w:=fN hm hact hk.1.1.2;have hF1:=hF0.puts (l:=ps) hps;have hb:=hbody _ hF1;have key:=vu (P:=P) (l:=l) (r:=iR rc .ready none) (fd:=fd) hfn rfl (tmps:=ps.foldl (fun t e => t.setIfInBounds e.1 e.2.den) rc.tmps) (R:=R) (w:=w) ?_
 .exact key
 rw [htm];refine wpIn_mono hb ?_;intro e a₁ w₁ he
 cases e with
 | normal =>
  obtain ⟨nt1,tm1,jV,gr1,hf1,hb1⟩:=he;refine ⟨hf1.kept.1.2.1,?_⟩;have hf2:=oM (st':=.busy) (pe':=none) hl0 hD hK (bd tmi l) hf1;refine wpIn_mono (hb1 _ hf2) ?_;have fin:∀ {K':Kn} {mem':List (Nat × Blk)} {gr':List (Nat × Gr)} {w':World} (st:LoopState) (pe:Option Code),K'.off l -> Mem m0 w0 S ((KL K' tmc l rc D .busy none).and (okT tmi)) mem' gr' w' -> w'.heap[l]? = some (.loop { iR rc .ready none with state:=.busy })/\b4 ⟨m0,w0,S,[],KL K' tmc l rc D st pe⟩ ⟨nti,tmi,[],mem',gr'⟩ ai (w'.putObj l (.loop (iR rc st pe))):=fun {K' mem' gr' w'} st pe ho hm' => by
   refine ⟨hm'.kept.1.2.1,?_⟩;have h3:=oM (st':=st) (pe':=pe) (nt:=0) (tm':=[]) hl0 hD ho (bd tmi l) hm';exact ah h3 hai
  intro e a₂ w₂ he
  cases e with
  | normal =>
   obtain ⟨K',mem',gr',hn,ho,hm'⟩:=he;obtain ⟨g1,g2⟩:=fin .ready none ho hm';exact ⟨g1,hN _ _ _ _ hn ho g2⟩
  | ret =>
   obtain ⟨K',mem',gr',hn,ho,hm'⟩:=he;obtain ⟨g1,g2⟩:=fin .done (some .ret) ho hm';exact ⟨g1,hX _ _ _ _ _ hn ho g2⟩
  | exit id =>
   obtain ⟨K',mem',gr',hn,ho,hm'⟩:=he;obtain ⟨g1,g2⟩:=fin .done (some (.exit id)) ho hm';exact ⟨g1,hX _ _ _ _ _ hn ho g2⟩
  | goto t =>
   obtain ⟨K',mem',gr',hn,ho,hm'⟩:=he;obtain ⟨g1,g2⟩:=fin .done (some (.goto t)) ho hm';exact ⟨g1,hX _ _ _ _ _ hn ho g2⟩
  | panic chain => exact he.elim
  | outgrown => exact he.elim
 | _ => exact he
theorem vJ {Q:Exit -> Act -> World -> Prop} {g:Operand} {ps:Array Tmp} {assign body:Code} {gf nt:Nat} {tm:List (Nat × AV)} {lb:List AV} (h:b4 ⟨m0,w0,S,ds,K⟩ ⟨nt,tm,[],mem,gr⟩ a w) (hgv:val ⟨nt,tm,[],mem,gr⟩ [] g = .fn gf [] lb) (hen:j3 P gf) (hK:K.under w.heap.size)
  (hc:∀ l D rc w1,l=D + 1 -> D=w.heap.size -> rc=cG fn a ps assign body D .ready none -> w0.heap.size<=D -> w1.heap.size=D + 2 -> aP nt tm ds a -> Mem m0 w0 S (KL K tm l rc D .ready none) mem gr w1 -> (∀ v ∈ lb,Ok (mT m0 mem gr) w1 v) →
   Calls P gf ((yV l :: lb).map AV.den).toArray w1 fun e w3 => ∃ v,e = .returned v/\∃ K' mem' gr',K'.off l ∧
    ((Mem m0 w0 S (KL K' tm l rc D .ready none) mem' gr' w3/\∀ a' w',b4 ⟨m0,w0,S,bh D :: ds,K'.and (C5 [D])⟩ ⟨nt,tm,[],mem',gr'⟩ a' w' -> Q .normal a' w') ∨
     ∃ c,Mem m0 w0 S (KL K' tm l rc D .done (some c)) mem' gr' w3/\∀ a' w',b4 ⟨m0,w0,S,bh D :: ds,K'.and (C5 [D])⟩ ⟨nt,tm,[],mem',gr'⟩ a' w' -> c.wp P Q a' w')) :
  wpN fn P (Code.rangeFunc g ps assign body) Q a w:=by
 obtain ⟨hm,ha⟩:=h.leave;have hgd:=C3 h (q:=[]) (fun _ h => by cases h) (x:=g) (by rw [hgv]; rfl);rw [hgv] at hgd;have hg1:a.eval g = .func (.func gf) #[] (lb.map AV.den).toArray:=by
  have:=hgd.1
  simpa [AV.den,C7,AV.denL] using this
 have hlb:∀ v ∈ lb,Ok (mT m0 mem gr) w v:=by
  cases hgd.2 with
  | fn _ _ _ k1 k2 => exact k2
 have hbl:=iD fn a ps assign body w;have hsz:(bj fn a ps assign body w).heap.size=w.heap.size + 2:=by simp [bj]
 have hm1:Mem m0 w0 S (KL K tm (w.heap.size + 1) (cG fn a ps assign body w.heap.size .ready none) w.heap.size .ready none) mem gr (bj fn a ps assign body w):=
  rX (hm.below hbl) ⟨(hm.below hbl).kept,tZ fn a ps assign body w,qw fn a ps assign body w⟩
 have hlb1:∀ v ∈ lb,Ok (mT m0 mem gr) (bj fn a ps assign body w) v:=fun v hv => (fq hbl (mT m0 mem gr)).ok (hlb v hv)
 refine tk (gf:=gf) (lb:=(lb.map AV.den).toArray) hg1 (fun args w => hen args w) ?_;have hcall:=hc _ _ _ _ rfl rfl rfl h.chg.size hsz ha hm1 hlb1;have eargs:((yV (w.heap.size + 1) :: lb).map AV.den).toArray = #[.func (.yield (w.heap.size + 1)) #[] #[]] ++ (lb.map AV.den).toArray:=by
  simp [AV.den]
 rw [eargs] at hcall;refine hcall.mono ?_
 rintro e w3 ⟨v,rfl,K',mem',gr',ho,hh⟩
 have ha':aP nt tm (bh w.heap.size :: ds) { a with defers:={ target:=.collected w.heap.size,args:=#[] } :: a.defers }:=⟨ha.1,by rw [ha.2.1],ha.2.2⟩;have fin:∀ {st:LoopState} {pe:Option Code},st ≠ .busy -> Mem m0 w0 S (KL K' tm (w.heap.size + 1) (cG fn a ps assign body w.heap.size .ready none) w.heap.size st pe) mem' gr' w3 →
   ∃ w4,(Instr.endLoop (w.heap.size + 1)).run P w3 = .ok pe w4/\b4 ⟨m0,w0,S,bh w.heap.size :: ds,K'.and (C5 [w.heap.size])⟩ ⟨nt,tm,[],mem',gr'⟩ { a with defers:={ target:=.collected w.heap.size,args:=#[] } :: a.defers } w4:=fun {st pe} hst h3 => by
  have hk:=h3.kept;have hl:=hk.2.1;refine ⟨_,run_endLoop hl hst,?_⟩;have h4:=jU (K':=(K'.and (C5 [w.heap.size])).and (okT tm)) h3 hl (fun _ _ _ e => by cases e) (grownBy_putObj' w3 _ (.loop { iR (cG fn a ps assign body w.heap.size .ready none) st pe with state:=.exhausted })) (fun hh => absurd h.chg.size (by simp only at hh ⊢; omega))
   (fun kb => ⟨⟨ho kb hk.1.1,⟨fun D hD => by
    simp only [List.mem_singleton] at hD;subst hD;exact kb.obj _ _ (by intro e; injection e with e; omega) hk.2.2 (fun _ _ _ e => by cases e),by simp⟩⟩,bd tm _ kb hk.1.2⟩)
  exact ah h4 ha'
 rcases hh with ⟨h3,hq⟩ | ⟨c,h3,hq⟩
 .obtain ⟨w4,e4,h4⟩:=fin (by simp) h3
  exact ⟨none,w4,e4,hq _ _ h4⟩
 obtain ⟨w4,e4,h4⟩:=fin (by simp) h3;exact ⟨some c,w4,e4,hq _ _ h4⟩
end
section
variable {m0:Nat -> Nat -> Prop} {w0 w:World} {S:Nat -> Prop} {K:Kn} {mem:List (Nat × Blk)} {gr:List (Nat × Gr)} {a:Act} {P:Program} {fn:Func} {R:Ending -> World -> Prop} {B:Alg} {T:List (Nat × TI)} {rs:List ResultVar} {r:List AV × List Ob} {nt:Nat} {tm:List (Nat × AV)}
theorem iB {tmps:Array Value}:∀ (Ds:List Nat) (w:World),Mem m0 w0 S (K.and (C5 Ds)) mem gr w -> (∀ D ∈ Ds,K.off D/\w0.heap.size<=D) -> (∀ w',Mem m0 w0 S K mem gr w' -> ∃ v,(results fn tmps).run P w' = .ok v w'/\R (.returned v) w') -> LeavesInM Fence.wide 0 P fn tmps R (Ds.map bh) .returning w
 | [],w,h,_,hR => hR w (rX h h.kept.1)
 | D :: Ds,w,h,ho,hR => by
  have hk:=h.kept.2;have hD:w.heap[D]? = some (.deferred (some [])):=hk.1 D (by simp);have hnd:=List.nodup_cons.1 hk.2;refine ⟨by simp,.inl ⟨D,_,rfl,run_takeDeferred hD,iB Ds _ ?_ (fun E hE => ho E (by simp [hE])) hR⟩⟩;refine jU h hD (fun _ _ _ e => by cases e) (grownBy_putObj' w D _) (fun hh => absurd (ho D (by simp)).2 (by omega)) fun kb => ⟨(ho D (by simp)).1 kb h.kept.1,fun E hE => ?_,hnd.2⟩
  exact kb.obj _ _ (by intro e; injection e with e; subst e; exact hnd.1 hE) (hk.1 E (by simp [hE])) (fun _ _ _ e => by cases e)
theorem Be (hB:B=std) (hT:k4 P T) (Ds:List Nat) (h:b4 ⟨m0,w0,S,Ds.map bh,K.and (C5 Ds)⟩ ⟨nt,tm,[],mem,gr⟩ a w) (hof:∀ D ∈ Ds,K.off D/\w0.heap.size<=D) (hR:∀ w',Mem m0 w0 S K mem gr w' -> Ok (mT m0 mem gr) w' (I5 r.1) -> R (.returned (I5 r.1).den) w') (hfn:fn.results=rs.toArray:=by rfl) (hr:P9 T ⟨nt,tm,[],mem,gr⟩ rs=some r:=by first | rfl | (conv => lhs; cbv)) (ho:b5 P (K.and (okT tm)) r.2:=by first | exact trivial | (subst hB; simp [b5,Ob.holds])):bodyPostM Fence.wide 0 P fn R .ret a w/\bodyPostM Fence.wide 0 P fn R .normal a w:=by
 obtain ⟨h1,h2⟩:=h.leave;have key:LeavesInM Fence.wide 0 P fn a.tmps R a.defers .returning w:=by
  rw [h2.2.1];refine iB (K:=K.and (okT tm)) Ds w (rX h1 ⟨⟨h1.kept.1.1,h1.kept.2⟩,h1.kept.1.2⟩) (fun D hD => ⟨sV (hof D hD).1 (bd tm D),(hof D hD).2⟩) fun w' hm => ?_
  have hf:=fN (ds:=Ds.map bh) hm h2 hm.kept.2;obtain ⟨g1,g2⟩:=eY hT hf hfn hr ho;exact ⟨_,g1,hR w' (rX hm hm.kept.1) g2⟩
 exact ⟨key,key⟩
end
section
variable {m0:Nat -> Nat -> Prop} {w0 w:World} {S:Nat -> Prop} {ds:List Deferred} {K:Kn} {mem:List (Nat × Blk)} {gr:List (Nat × Gr)} {a:Act} {P:Program} {f:FuncId} {fn:Func} {R:Ending -> World -> Prop} {ops:Array Oper} {Q:Exit -> Act -> World -> Prop}
theorem fQ {nt:Nat} {tm:List (Nat × AV)} {L rest:List Oper} {o:Oper} {cl:Call} {g:Operand} {l r args:List AV} (hL:L=o :: rest) (hg:o.guard=none) (hop:o.op = .call cl) (hcal:cl.callee = .value g) (h:b4 ⟨m0,w0,S,ds,K⟩ ⟨nt,tm,[],mem,gr⟩ a w) (hgv:val ⟨nt,tm,[],mem,gr⟩ [] g = .fn f l r) (hl:U7 ⟨nt,tm,[],mem,gr⟩ [] cl.args.toList=some args) (hen:j3 P f) (hd:∀ t,o.dst=some t -> t < nt)
  (Kc:Mem m0 w0 S (K.and (okT tm)) mem gr w -> aP nt tm ds a -> (∀ v ∈ l ++ args ++ r,Ok (mT m0 mem gr) w v) -> Calls P f ((l ++ args ++ r).map AV.den).toArray w fun e w' =>
   (∃ v,e = .returned v.den/\∃ mem' gr' K',Ok (mT m0 mem' gr') w' v/\Mem m0 w0 S (K'.and (okT tm)) mem' gr' w'/\∀ a' ,b4 ⟨m0,w0,S,ds,K'⟩ (St.put ⟨nt,tm,[],mem',gr'⟩ o.dst v) a' w' -> wpList P ops Q rest a' w') ∨
   (∃ chain,e = .panicked chain/\∃ mem' gr' K',Mem m0 w0 S (K'.and (okT tm)) mem' gr' w'/\(b4 ⟨m0,w0,S,ds,K'⟩ ⟨nt,tm,[],mem',gr'⟩ a w' -> Q (.panic chain) a w'))):wpList P ops Q L a w:=by
 refine R0 hL hg ?_;obtain ⟨hrun,hok⟩:=cp hop hcal h hgv hl hen;obtain ⟨h1,h2⟩:=h.leave;unfold Oper.wp;rw [hrun];simp only [Oper.upon];refine (Kc h1 h2 hok).mono ?_
 rintro e w' (⟨v,rfl,mem',gr',K',hv,hm,k⟩ | ⟨chain,rfl,mem',gr',K',hm,k⟩)
 .have hf:=ah hm h2
  exact k _ (hf.put o.dst hd v (fun _ => hv) _ fun _ => rfl)
 exact k (ah hm h2)
theorem ox {nt:Nat} {tm:List (Nat × AV)} {gs:List (Nat × List (Nat × Bool) × AV)} {chain:List PanicEntry} (h:b4 ⟨m0,w0,S,[],K⟩ ⟨nt,tm,gs,mem,gr⟩ a w) (hR:Mem m0 w0 S K mem gr w -> R (.panicked chain) w):bodyPost P fn R (.panic chain) a w:=⟨h.defers,hR h.bare⟩
end
section
variable {m0:Nat -> Nat -> Prop} {w0 wi w:World} {S:Nat -> Prop} {ds:List Deferred} {K:Kn} {nt:Nat} {tm tm':List (Nat × AV)} {gs:List (Nat × List (Nat × Bool) × AV)} {mem memi:List (Nat × Blk)} {gr gri:List (Nat × Gr)} {a:Act} {P:Program}
def FzV (b:Nat) (cells:List AV) (v v':AV):Prop:=v'.den=v.den/\(v'.known=true -> v.known=true)/\(v'.one=v.one)/\∀ m w,Ok m w (.ep (some ⟨b,0,none⟩) 0 0 0 cells) -> Ok m w v -> Ok m w v'
theorem u9 {b:Nat} {cells:List AV} {v:AV}:FzV b cells v v:=⟨rfl,id,rfl,fun _ _ _ h => h⟩
theorem CT {m:Nat -> Nat -> Prop} {w:World} {A:Option Addr} {i k off off':Nat} {cells:List AV} (h:Ok m w (.ep A i k off cells)):Ok m w (.ep A i k off' cells):=by
 cases h with | ep _ _ _ _ _ h1 h2 h3 h4 => exact .ep _ _ _ _ _ h1 h2 h3 h4
theorem Z1 {b key off:Nat} {cells:List AV}:FzV b cells (.ptr key b off) (.ep (some ⟨b,0,none⟩) 0 0 off cells):=
 ⟨by simp [AV.den],fun _ => rfl,rfl,fun _ _ h _ => CT h⟩
theorem qI {b b' key key' off:Nat} {cells:List AV}:FzV b cells (.ptr key b' off) (.ptr key' b' off):=⟨rfl,id,rfl,fun _ _ _ _ => .ptr _ _ _⟩
def AE (b:Nat) (cells:List AV):List AV -> List AV -> Prop
 | [],[] => True
 | v :: l,v' :: l' => FzV b cells v v'/\AE b cells l l'
 | _,_ => False
theorem dJ {b:Nat} {cells:List AV}:∀ {l l':List AV},AE b cells l l' -> l'.map AV.den=l.map AV.den/\∀ m w,Ok m w (.ep (some ⟨b,0,none⟩) 0 0 0 cells) -> (∀ v ∈ l,Ok m w v) -> ∀ v ∈ l',Ok m w v
 | [],[],_ => ⟨rfl,fun _ _ _ h => h⟩
 | v :: l,v' :: l',⟨h1,h2⟩ => by
  obtain ⟨g1,g2⟩:=dJ h2;refine ⟨by simp [h1.1,g1],fun m w he h u hu => ?_⟩
  rcases List.mem_cons.1 hu with rfl | hu
  .exact h1.2.2.2 m w he (h v (by simp))
  exact g2 m w he (fun x hx => h x (by simp [hx])) u hu
theorem Fd {b f:Nat} {cells l l' r r':List AV} (hl:AE b cells l l') (hr:AE b cells r r'):FzV b cells (.fn f l r) (.fn f l' r'):=by
 refine ⟨by simp [AV.den,C7,(dJ hl).1,(dJ hr).1],fun _ => rfl,rfl,fun m w he h => ?_⟩
 cases h with
 | fn _ _ _ h1 h2 => exact .fn _ _ _ ((dJ hl).2 m w he h1) ((dJ hr).2 m w he h2)
def FzT (b:Nat) (cells:List AV):List (Nat × AV) -> List (Nat × AV) -> Prop
 | [],[] => True
 | e :: l,e' :: l' => e.1=e'.1/\FzV b cells e.2 e'.2/\FzT b cells l l'
 | _,_ => False
theorem kC {b:Nat} {cells:List AV}:∀ {l l':List (Nat × AV)},FzT b cells l l' -> ∀ t,FzV b cells (look l t) (look l' t)
 | [],[],_,t => u9
 | (k,v) :: l,(k',v') :: l',⟨h1,h2,h3⟩,t => by
  simp only at h1 h2;subst h1;simp only [o6]
  by_cases h:k=t
  .rw [if_pos h,if_pos h]; exact h2
  rw [if_neg h,if_neg h]; exact kC h3 t
theorem b4.fz {key b ty:Nat} {cells:List AV} (h:b4 ⟨m0,w0,S,ds,K⟩ ⟨nt,tm,[],(key,⟨b,ty,cells⟩) :: mem,gr⟩ a w) (hf:FzT b cells tm tm') (hn:f7 mem key=none:=by rfl) (hS:S b -> w0.heap.size<=b:=by first | exact fun h => h.elim | (rintro ⟨_,h,_⟩; cases h)):b4 ⟨m0,w0,S,ds,K⟩ ⟨nt,tm',[],mem,gr⟩ a w:=by
 have hk:f7 ((key,(⟨b,ty,cells⟩:Blk)) :: mem) key=some ⟨b,ty,cells⟩:=by simp [f7]
 have hup:∀ {k e},f7 mem k=some e -> f7 ((key,(⟨b,ty,cells⟩:Blk)) :: mem) k=some e/\k ≠ key:=fun {k e} he => by
  have hne:k ≠ key:=fun e' => by rw [e',hn] at he; cases he
  exact ⟨by rw [r9,if_neg (fun e => hne e.symm)]; exact he,hne⟩
 obtain ⟨h1,h2,h3⟩:=h.mem _ _ hk;have hb0:w0.heap.size<=b:=h3.elim id hS;have hnm:∀ o,¬ St.m ⟨nt,tm',[],mem,gr⟩ ⟨m0,w0,S,ds,K⟩ b o:=by
  intro o hm
  rcases hm with hm | ⟨k,e,he,hat⟩ | ⟨k,t,ht,hv,_⟩
  .exact Nat.lt_irrefl _ (Nat.lt_of_lt_of_le (h.m0 _ _ hm) hb0)
  .exact h.nodup _ _ _ _ (hup he).1 hk (hup he).2 hat
  exact h.sepm _ _ _ _ ht hk hv
 have hle:∀ b o,St.m ⟨nt,tm',[],mem,gr⟩ ⟨m0,w0,S,ds,K⟩ b o -> St.m ⟨nt,tm,[],(key,⟨b,ty,cells⟩) :: mem,gr⟩ ⟨m0,w0,S,ds,K⟩ b o:=by
  intro b o hm
  rcases hm with hm | ⟨k,e,he,hat⟩ | hm
  .exact .inl hm
  .rcases Classical.em (k=key) with rfl | hne
   .rw [hn] at he; cases he
   exact .inr (.inl ⟨k,e,by rw [r9,if_neg (fun e => hne e.symm)]; exact he,hat⟩)
  exact .inr (.inr hm)
 have hle':∀ b' o,St.m ⟨nt,tm',[],mem,gr⟩ ⟨m0,w0,S,ds,K⟩ b' o -> St.m ⟨nt,tm,[],(key,⟨b,ty,cells⟩) :: mem,gr⟩ ⟨m0,w0,S,ds,K⟩ b' o:=by
  intro b' o hm
  rcases hm with hm | ⟨k,e,he,hat⟩ | hm
  .exact .inl hm
  .exact .inr (.inl ⟨k,e,(hup he).1,hat⟩)
  exact .inr (.inr hm)
 have kp:R3 w (St.m ⟨nt,tm,[],(key,⟨b,ty,cells⟩) :: mem,gr⟩ ⟨m0,w0,S,ds,K⟩) w (St.m ⟨nt,tm',[],mem,gr⟩ ⟨m0,w0,S,ds,K⟩):=⟨fun b' o u g1 g2 => ⟨g1,fun hm => g2 (hle' b' o hm)⟩,fun _ _ h _ => h⟩;have hep:Ok (St.m ⟨nt,tm',[],mem,gr⟩ ⟨m0,w0,S,ds,K⟩) w (.ep (some ⟨b,0,none⟩) 0 0 0 cells):=by
  refine .ep _ _ _ _ _ ⟨_,_,rfl⟩ (fun j u hj => ⟨b,0,rfl,?_,hnm _⟩) (fun v hv => (h2 v hv).1) (fun v hv => kp.ok (h2 v hv).2);rw [cell_of_row w _ _ _ _ _ h1,List.getElem?_toArray,Nat.zero_mul,Nat.zero_add,Nat.zero_add];exact hj
 refine ⟨h.size,h.defers,fun t ht => ?_,(fun t p v he => by cases he),fun k e he => ⟨(h.mem _ _ (hup he).1).1,fun v hv => ⟨((h.mem _ _ (hup he).1).2.1 v hv).1,kp.ok ((h.mem _ _ (hup he).1).2.1 v hv).2⟩,(h.mem _ _ (hup he).1).2.2⟩,fun k k' e e' he he' hne => h.nodup _ _ _ _ (hup he).1 (hup he').1 hne,h.gr,fun k t k' e ht he => h.sepm _ _ _ _ ht (hup he).1,h.sepg,h.chg,h.m0,K.st kp h.kept⟩;have hz:=kC hf t;obtain ⟨g1,g2⟩:=h.slot t (hz.2.1 ht);exact ⟨by rw [g1]; exact congrArg some hz.1.symm,hz.2.2.2 _ _ hep (kp.ok g2)⟩
theorem b4.rekey {key key' b ty:Nat} {cells:List AV} (h:b4 ⟨m0,w0,S,ds,K⟩ ⟨nt,tm,[],(key,⟨b,ty,cells⟩) :: mem,gr⟩ a w) (hf:FzT b [] tm tm') (hn:f7 mem key=none:=by rfl) (hn':f7 mem key'=none:=by rfl):b4 ⟨m0,w0,S,ds,K⟩ ⟨nt,tm',[],(key',⟨b,ty,cells⟩) :: mem,gr⟩ a w:=by
 have hup:∀ {k e},f7 ((key',(⟨b,ty,cells⟩:Blk)) :: mem) k=some e -> ∃ k0,f7 ((key,(⟨b,ty,cells⟩:Blk)) :: mem) k0=some e/\((k=key'/\k0=key) \/ (k0=k/\k ≠ key'/\k ≠ key)):=fun {k e} he => by
  rw [r9] at he
  split at he
  .rename_i hk; injection he with he; subst he
   exact ⟨key,by simp [f7],.inl ⟨hk.symm,rfl⟩⟩
  rename_i hk
  have hne:k ≠ key:=fun e' => by rw [e',hn] at he; cases he
  exact ⟨k,by rw [r9,if_neg (fun e => hne e.symm)]; exact he,.inr ⟨rfl,fun e => hk e.symm,hne⟩⟩
 have hdn:∀ {k e},f7 ((key,(⟨b,ty,cells⟩:Blk)) :: mem) k=some e -> ∃ k0,f7 ((key',(⟨b,ty,cells⟩:Blk)) :: mem) k0=some e:=fun {k e} he => by
  rw [r9] at he
  split at he
  .injection he with he; subst he
   exact ⟨key',by simp [f7]⟩
  have hne:k ≠ key':=fun e' => by rw [e',hn'] at he; cases he
  exact ⟨k,by rw [r9,if_neg (fun e => hne e.symm)]; exact he⟩
 have em:St.m ⟨nt,tm',[],(key',⟨b,ty,cells⟩) :: mem,gr⟩ ⟨m0,w0,S,ds,K⟩=St.m ⟨nt,tm,[],(key,⟨b,ty,cells⟩) :: mem,gr⟩ ⟨m0,w0,S,ds,K⟩:=by
  funext b' o
  apply propext
  constructor
  .rintro (hm | ⟨k,e,he,hat⟩ | hm)
   .exact .inl hm
   .obtain ⟨k0,h1,_⟩:=hup he; exact .inr (.inl ⟨k0,e,h1,hat⟩)
   exact .inr (.inr hm)
  rintro (hm | ⟨k,e,he,hat⟩ | hm)
  .exact .inl hm
  .obtain ⟨k0,h1⟩:=hdn he; exact .inr (.inl ⟨k0,e,h1,hat⟩)
  exact .inr (.inr hm)
 have hnil:∀ m w,Ok m w (.ep (some ⟨b,0,none⟩) 0 0 0 ([]:List AV)):=fun m w => .ep _ _ _ _ _ ⟨_,_,rfl⟩ (fun j u hj => by simp at hj) (fun v hv => by cases hv) (fun v hv => by cases hv)
 refine ⟨h.size,h.defers,fun t ht => ?_,(fun t p v he => by cases he),fun k e he => ?_,fun k k' e e' he he' hne => ?_,h.gr,fun k t k' e ht he => ?_,h.sepg,h.chg,h.m0,?_⟩
 .have hz:=kC hf t
  obtain ⟨g1,g2⟩:=h.slot t (hz.2.1 ht);exact ⟨by rw [g1]; exact congrArg some hz.1.symm,by rw [em]; exact hz.2.2.2 _ _ (hnil _ _) g2⟩
 .obtain ⟨k0,h1,_⟩:=hup he
  rw [em]; exact h.mem _ _ h1
 .obtain ⟨k0,h1,g1⟩:=hup he
  obtain ⟨k1,h2,g2⟩:=hup he';refine h.nodup _ _ _ _ h1 h2 ?_
  rcases g1 with ⟨rfl,rfl⟩ | ⟨rfl,a1,a2⟩<;>rcases g2 with ⟨rfl,rfl⟩ | ⟨rfl,b1,b2⟩
  .exact absurd rfl hne
  .exact fun e => b2 e.symm
  .exact a2
  exact hne
 .obtain ⟨k0,h1,_⟩:=hup he
  exact h.sepm _ _ _ _ ht h1
 rw [em]; exact h.kept
theorem b4.rem {mem':List (Nat × Blk)} (h:b4 ⟨m0,w0,S,ds,K⟩ ⟨nt,tm,[],mem,gr⟩ a w) (hl:∀ k e,f7 mem' k=some e -> f7 mem k=some e):b4 ⟨m0,w0,S,ds,K⟩ ⟨nt,tm,[],mem',gr⟩ a w:=by
 have kp:R3 w (St.m ⟨nt,tm,[],mem,gr⟩ ⟨m0,w0,S,ds,K⟩) w (St.m ⟨nt,tm,[],mem',gr⟩ ⟨m0,w0,S,ds,K⟩):=⟨fun b' o u g1 g2 => ⟨g1,fun hm => by
  rcases hm with hm | ⟨k,e,he,hat⟩ | hm
  .exact g2 (.inl hm)
  .exact g2 (.inr (.inl ⟨k,e,hl k e he,hat⟩))
  exact g2 (.inr (.inr hm))⟩,fun _ _ h _ => h⟩
 exact ⟨h.size,h.defers,fun t ht => ⟨(h.slot t ht).1,kp.ok (h.slot t ht).2⟩,(fun t p v he => by cases he),fun k e he => ⟨(h.mem _ _ (hl k e he)).1,fun v hv => ⟨((h.mem _ _ (hl k e he)).2.1 v hv).1,kp.ok ((h.mem _ _ (hl k e he)).2.1 v hv).2⟩,(h.mem _ _ (hl k e he)).2.2⟩,fun k k' e e' he he' hne => h.nodup _ _ _ _ (hl _ _ he) (hl _ _ he') hne,h.gr,fun k t k' e ht he => h.sepm _ _ _ _ ht (hl _ _ he),h.sepg,h.chg,h.m0,K.st kp h.kept⟩
theorem qf (h:b4 ⟨m0,w0,S,ds,K⟩ ⟨nt,tm,[],mem,gr⟩ a w):b4 ⟨mT m0 mem gr,w,ats [],ds,noK⟩ ⟨nt,tm,[],[],[]⟩ a w:=by
 have mono:∀ v,Ok (mT m0 mem gr) w v -> Ok (St.m ⟨nt,tm,[],[],[]⟩ ⟨mT m0 mem gr,w,ats [],ds,noK⟩) w v:=fun v hv => hv.mono fun b' o u h1 h2 => ⟨h1,fun h => by
  rcases h with h | ⟨k,e,he,hat⟩ | ⟨k,e,he,_⟩
  .exact h2 h
  .cases he
  cases he⟩
 exact ⟨h.size,h.defers,fun t ht => ⟨(h.slot t ht).1,mono _ (h.slot t ht).2⟩,(fun t p v he => by cases he),(fun k e he => by cases he),(fun k k' e e' he => by cases he),(fun k t ht => by cases ht),(fun k t k' e ht => by cases ht),(fun k t k' t' b ht => by cases ht),Chg.refl _ _,fun b o hb => nu h b o hb,trivial⟩
theorem fF (h:Mem m0 w0 S K mem gr wi) (hi:b4 ⟨mT m0 mem gr,wi,ats [],ds,noK⟩ ⟨nt,tm,gs,memi,gri⟩ a w):b4 ⟨m0,w0,S,ds,K⟩ ⟨nt,tm,[],mem,gr⟩ a w:=by
 have hb:Below wi.heap.size wi w:=hi.chg.below (Nat.le_refl _) fun k ⟨e,he,_⟩ => (by cases he)
 exact fN (h.below hb) ⟨hi.size,hi.defers,fun t ht => (hi.slot t ht).1⟩ fun t ht => (hi.slot t ht).2.mono fun b o u h1 h2 => ⟨h1,fun hm => h2 (.inl hm)⟩
end
abbrev lbC (x:Lab):List AV:=[.int .i64 x.len,.int .u64 x.bits]
abbrev DT (bR bO bV:Nat):AV:=.fn 132 [] [.ptr 902 bR 0,.ptr 901 bO 0,.ptr 900 bV 0]
abbrev ot (b bR bO bV:Nat) (J:i7) (A:Option Addr) (c:Nat) (p:Pst) (A1:Option Addr) (n1 c1:Nat) (g:Nat -> Lab):List (Nat × Blk):=[(0,⟨b,103,C1 J A c p⟩),(901,⟨bO,87,[.sl (some 77) A1 n1 c1 2 (fun i => lbC (g i))]⟩),(900,⟨bV,128,[DT bR bO bV]⟩),(902,⟨bR,64,[.ptr 0 b 0]⟩)]
abbrev bF (A1:Option Addr) (n1 c1:Nat):List (Nat × Gr):=[(77,⟨A1,n1,c1,2,24⟩)]
def DL (b bR bO bV:Nat) (J:i7) (A:Option Addr) (c:Nat) (p:Pst) (o:List Lab) (mem:List (Nat × Blk)) (gr:List (Nat × Gr)):Prop:=∃ A1 n1 c1 g,(List.range n1).map g=o/\mem=ot b bR bO bV J A c p A1 n1 c1 g/\gr=bF A1 n1 c1
def dg (m0:Nat -> Nat -> Prop) (w0:World) (S:Nat -> Prop) (K:Kn) (b bR bO bV:Nat) (J:i7) (r:Rs (List Lab)) (e:Ending) (w':World):Prop:=match r with
 | .ok o q => e = .returned (.tuple #[])/\∃ A c mem gr,DL b bR bO bV J A c q o mem gr/\Mem m0 w0 S K mem gr w'
 | .stop wq q => ∃ x:i3,e = .panicked [{ v:=.iface 40 (B8 (wqA x wq)).den,recovered:=false }]/\∃ o mem gr,DL b bR bO bV J (x.A 0) (x.c 0) q o mem gr/\Mem m0 w0 S K mem gr w'/\Ok (mT m0 mem gr) w' (B8 (wqA x wq))
theorem dg.stop {m0:Nat -> Nat -> Prop} {w0:World} {S:Nat -> Prop} {K:Kn} {b bR bO bV:Nat} {J:i7} {r:Rs (List Lab)} {wq:Wq} {q:Pst} {w':World} (hr:r = .stop wq q) (x:i3) (o:List Lab) {A1:Option Addr} {n1 c1:Nat} {g:Nat -> Lab} (hg:(List.range n1).map g=o) (hm:Mem m0 w0 S K (ot b bR bO bV J (x.A 0) (x.c 0) q A1 n1 c1 g) (bF A1 n1 c1) w') (hk:Ok (mT m0 (ot b bR bO bV J (x.A 0) (x.c 0) q A1 n1 c1 g) (bF A1 n1 c1)) w' (B8 (wqA x wq))):dg m0 w0 S K b bR bO bV J r (.panicked [{ v:=.iface 40 (B8 (wqA x wq)).den,recovered:=false }]) w':=by
 subst hr;exact ⟨x,rfl,o,_,_,⟨A1,n1,c1,g,hg,rfl,rfl⟩,hm,hk⟩
theorem dg.ok {m0:Nat -> Nat -> Prop} {w0:World} {S:Nat -> Prop} {K:Kn} {b bR bO bV:Nat} {J:i7} {r:Rs (List Lab)} {q:Pst} {w':World} {o:List Lab} (hr:r = .ok o q) {A:Option Addr} {c:Nat} {A1:Option Addr} {n1 c1:Nat} {g:Nat -> Lab} (hg:(List.range n1).map g=o) (hm:Mem m0 w0 S K (ot b bR bO bV J A c q A1 n1 c1 g) (bF A1 n1 c1) w'):dg m0 w0 S K b bR bO bV J r (.returned (.tuple #[])) w':=by
 subst hr;exact ⟨rfl,A,c,_,_,⟨A1,n1,c1,g,hg,rfl,rfl⟩,hm⟩
theorem b4.fzB {m0:Nat -> Nat -> Prop} {w0 w:World} {S:Nat -> Prop} {ds:List Deferred} {K:Kn} {nt:Nat} {tm tm':List (Nat × AV)} {mem:List (Nat × Blk)} {gr:List (Nat × Gr)} {a:Act} {key b ty b0:Nat} {cells:List AV} (h:b4 ⟨m0,w0,S,ds,K⟩ ⟨nt,tm,[],(key,⟨b,ty,cells⟩) :: mem,gr⟩ a w) (hS:∀ x,S x -> x=b0) (hf:FzT b cells tm tm') {ty0:Nat} {c0:List AV} (h0:f7 ((key,(⟨b,ty,cells⟩:Blk)) :: mem) 0=some ⟨b0,ty0,c0⟩:=by rfl) (hk:key ≠ 0:=by decide) (hn:f7 mem key=none:=by rfl):b4 ⟨m0,w0,S,ds,K⟩ ⟨nt,tm',[],mem,gr⟩ a w:=
 h.fz hf hn fun hs => absurd (hS b hs) (h.nodup key 0 ⟨b,ty,cells⟩ ⟨b0,ty0,c0⟩ (by simp [f7]) h0 hk)
theorem sn (m:Nat -> Nat -> Prop) (w:World) (q:Lab):Ok m w (b6 q):=
 .agg _ (by intro v hv; simp only [List.mem_cons,List.not_mem_nil,or_false] at hv; rcases hv with rfl | rfl<;>rfl) (by intro v hv; simp only [List.mem_cons,List.not_mem_nil,or_false] at hv; rcases hv with rfl | rfl<;>exact .int _ _)
theorem oW (g:Nat -> Lab) (n:Nat) (l:Lab):(List.range (n + 1)).map (fun t => if t=n then l else g t)=(List.range n).map g ++ [l]:=by
 rw [List.range_succ,List.map_append]
 congr 1
 .exact List.map_congr_left fun t ht => if_neg (by have:=List.mem_range.1 ht; omega)
 simp
theorem et:j3 Tryz.prog 132:=fun _ _ => by kernel_rfl
theorem DS {m0:Nat -> Nat -> Prop} {w0:World} {S:Nat -> Prop} {b bR bO bV:Nat} (hS:∀ x,S x -> x=b) (J:i7) (hJ:k8 J):∀ (n:Nat) (l:Lab),LOk l -> ∀ (p:Pst),i6 p -> p.n<=1000000 -> p.n < n -> ∀ (K:Kn) (w:World) (A:Option Addr) (c:Nat) (o:List Lab) (mem:List (Nat × Blk)) (gr:List (Nat × Gr)),DL b bR bO bV J A c p o mem gr -> o.length + p.n<=2000000 -> Mem m0 w0 S K mem gr w →
  Calls Tryz.prog 132 ([b6 l,.ptr 902 bR 0,.ptr 901 bO 0,.ptr 900 bV 0].map AV.den).toArray w (dg m0 w0 S K b bR bO bV J (D7 J.bucket J.budget n l o p)):=by
 intro n
 induction n with
 | zero => intro l hl p hp hn hf; exact absurd hf (Nat.not_lt_zero _)
 | succ n ih =>
  intro l hl p hp hn hf K w A c o mem gr hO hlen hm;have hmx:maxLen=9223372036854775807:=rfl;obtain ⟨A1,n1,c1,g,hg,rfl,rfl⟩:=hO;have hn1:n1=o.length:=by rw [<-hg]; simp
  have hargs:∀ v ∈ [b6 l,.ptr 902 bR 0,.ptr 901 bO 0,.ptr 900 bV 0],Ok (mT m0 (ot b bR bO bV J A c p A1 n1 c1 g) (bF A1 n1 c1)) w v:=by
   intro v hv;simp only [List.mem_cons,List.not_mem_nil,or_false] at hv
   rcases hv with rfl | rfl | rfl | rfl
   .exact sn _ _ _
   .exact .ptr _ _ _
   .exact .ptr _ _ _
   exact .ptr _ _ _
  refine enI 70 hm hargs Tryz.func132 fun B hB a0 hF => ?_
  refine wp_seq (rg hB a6 [4,1,2,3] [4,0,901,900,902,77] [] hF fun X0 a0 w1 hF => ?_);have hF:=hF.fzB (tm':=[(4,.ep (some ⟨(X0 0).b,0,none⟩) 0 0 0 (lbC l)),(1,.ptr 902 bR 0),(2,.ptr 901 bO 0),(3,.ptr 900 bV 0)]) hS ⟨rfl,Z1,rfl,u9,rfl,u9,rfl,u9,trivial⟩;apply wp_seq
  rcases (aK 0 b J hJ A c p hp hn l).two (j2 _ _ _) hp hn with ⟨wq,q,h1,O1⟩ | ⟨g0,q,h1,hs1,hq,hnq,S1⟩
  .refine stp 2 hB a6 [9,10] [0,901,900,902,77] [] hF O1 fun X x _ _ hF hk => ?_
   exact ox (P:=Tryz.prog) (fn:=Tryz.f132) hF fun hm' => dg.stop (by unfold D7; rw [h1]; rfl) x o hg hm' hk
  have hlt:=z8 h1;have hgo:=hp.get h1;have O1:=S1;refine rg hB a6 [5,4,1,2,3] [5,0,901,900,902,77] [(2,rc J (s5 g0) q)] hF fun X1 a0 w1 hF => ?_
  have hF:=hF.fzB (tm':=[(5,.ep (some ⟨(X1 3).b,0,none⟩) 0 0 0 (Z0 g0)),(4,.ep (some ⟨(X0 0).b,0,none⟩) 0 0 0 (lbC l)),(1,.ptr 902 bR 0),(2,.ptr 901 bO 0),(3,.ptr 900 bV 0)]) hS ⟨rfl,Z1,rfl,u9,rfl,u9,rfl,u9,rfl,u9,trivial⟩;have hv1:∀ {r},((fun g p => if gk g 1=true then (C8 J.budget n l p).bind fun _ p => .ok (o ++ [l]) p
   else if gk g 2=true then (if chE l 0=0 then (D7 J.bucket J.budget n (chV l 0) o p).bind fun o p => D7 J.bucket J.budget n (chV l 1) o p else .ok o p)
   else if (gk g 3 || gk g 4)=true then (Y2 J.bucket J.budget n l g p).bind fun _ p => D7 J.bucket J.budget n l o p
   else if gk g 5=true then (G3 J.bucket J.budget n l p).bind fun _ p => D7 J.bucket J.budget n l o p
   else if 0 < l.len then .ok o p
   else (R9 J.budget l g.ver eO p).bind fun _ p => D7 J.bucket J.budget n l o p):l5 -> Pst -> Rs (List Lab)) g0 q=r -> D7 J.bucket J.budget (n + 1) l o p=r:=fun h => by
   unfold D7; rw [h1]; exact h
  obtain ⟨q3,hq3⟩:=eqv (gk g0 1);have O1:=fun (G:Option Nat) (A:Option Addr) (cells:Nat -> List AV) (h0:cells 0=[.int .i64 1]) => P0 g0 G A 1 cells h0
  simp only [<-hq3] at O1;refine yv (ι:=Option Addr × Nat × Pst) (S0:=[(5,_)]) (M0:=[(0,_)]) (G0:=[]) (fun _ => []) (fun z => [(0,⟨b,103,C1 J z.1 z.2.1 z.2.2⟩)]) (fun _ => []) (fun z => D7 J.bucket J.budget (n + 1) l o p=D7 J.bucket J.budget n l o z.2.2/\i6 z.2.2/\z.2.2.n<=1000000/\z.2.2.n < n/\z.2.2.n<=p.n) hF ?_ ?_
  .refine wp_block (wp_seq ?_)
   refine rg hB a6 [18,5,4,1,2,3] [0,901,900,902,77] [(2,.r fun _ => .bool (.v q3))] hF fun X3 a0 w1 hF => ?_
   apply a7 hF rfl<;>intro hb hF
   .have t3:gk g0 1=true:=by rw [<-hq3]; exact hb
    apply wp_seq
    rcases (xI n 0 b J hJ ((X1 2).A 0) ((X1 2).c 0) q hq hnq l hl (by omega)).two (J1 _ _ _ _) hq hnq with ⟨wq,q2,h2,O1⟩ | ⟨_,q2,h2,hs2,hq2,hnq2,S2⟩
    .refine stp 2 hB a6 [22,23] [0,901,900,902,77] [] hF O1 fun X x _ _ hF hk => ?_
     exact ox (P:=Tryz.prog) (fn:=Tryz.f132) hF fun hm' => dg.stop (hv1 (by simp [t3,h2,Rs.bind])) x o hg hm' hk
    have O1:=S2;refine rg hB a6 [4,1,2,3] [901,0,900,902,77] [(2,rc J i8 q2)] hF fun X4 a0 w1 hF => ?_
    refine wp_seq (rg hB a6 [] [901,0,900,902,77] [] hF (fun X5 a0 w1 hF => ?_) (hob:=?hob))
    case hob =>
     intro X; subst hB
     repeat (first | exact trivial | refine ⟨⟨rfl,rfl,rfl⟩,?_⟩ | refine ⟨rfl,?_⟩ | refine ⟨⟨show n1 + 1<=maxLen by omega,show (n1 + 1) * _<=_ by omega⟩,?_⟩)
    have hF:=hF.memS (cells':=[.sl (some 77) ((X5 3).A 0) (n1 + 1) ((X5 3).c 0) 2 (fun t => lbC (if t=n1 then l else g t))]) (by
     subst hB;refine ⟨Sim.resl rfl (fun t ht => ?_),trivial⟩;have ht2:t < n1 + 1:=ht
     show I0 n1 (fun t => lbC (g t)) (K5 2 (lbC l)) t=_
     unfold I0
     split
     .rw [if_neg (by omega)]
     have:t=n1:=by omega
     subst this;rw [if_pos rfl];simp [K5])
    have hF:=hF.regr (n':=n1 + 1) (by subst hB; rfl);have hF:=hF.keep [] [0,901,900,902,77];exact wp_ret (da hB a6 hF (fun hm' _ => dg.ok (o:=o ++ [l]) (hv1 (by simp [t3,h2,Rs.bind])) (by rw [oW,hg]) hm')).1
   have t3:gk g0 1=false:=by rw [<-hq3]; exact hb
   obtain ⟨q6,hq6⟩:=eqv (gk g0 2);have O1:=fun (G:Option Nat) (A:Option Addr) (cells:Nat -> List AV) (h0:cells 0=[.int .i64 2]) => P0 g0 G A 2 cells h0
   simp only [<-hq6] at O1;refine wp_seq (rg hB a6 [29,5,4,1,2,3] [0,901,900,902,77] [(2,.r fun _ => .bool (.v q6))] hF fun X6 a0 w1 hF => ?_);apply a7 hF rfl<;>intro hb hF
   .have t6:gk g0 2=true:=by rw [<-hq6]; exact hb
    refine wp_seq (wp_seq (rg hB a6 [33,4,3] [0,901,900,902,77] [] hF fun X7 a0 w1 hF => ?_));refine wp_block (wp_loop_rounds 3 (C4 (wp_seq (rg hB a6 [34,33,4,3] [0,901,900,902,77] [] hF fun X8 a0 w1 hF => ?_))));replace hF:=hF.headS (v':=.bool .tt) (Sim.bool (by subst hB; rfl)) rfl;refine wp_seq (j1 hF rfl (fun hF => ?_));refine wp_skip (wp_seq (wp_block (wp_seq (rg hB a6 [6,33,4,3] [0,901,900,902,77] [] hF fun X9 a0 w1 hF => ?_))));have hx0k:=hl.ch 0;have hx1k:=hl.ch 1;have SC0:=eC l hl.u 0 (.inl rfl);have SC1:=eC l hl.u 1 (.inr rfl);obtain ⟨x0,hx0⟩:=eqv (chV l 0);rw [<-hx0] at SC0 hx0k;obtain ⟨x1,hx1⟩:=eqv (chV l 1);rw [<-hx1] at SC1 hx1k;obtain ⟨ee,hee⟩:=eqv (chE l 0);have hee1:chE l 1=ee:=by rw [hee]; unfold chE; rfl
    rw [<-hee] at SC0;rw [hee1] at SC1;simp only [b6] at SC0 SC1;have O1:=SC0;refine wp_seq (rg hB a6 [8,7,33,4,3] [7,0,901,900,902,77] [(2,.r fun _ => .tup [.agg (lbC x0),.int .i64 ee])] hF fun X10 a0 w1 hF => ?_);refine wp_seq (rg hB a6 [43,7,33,4,3] [7,0,901,900,902,77] [] hF fun X11 a0 w1 hF => ?_);apply a7 hF rfl<;>intro hb hF
    .have hce:ee=0:=by subst hB; simpa [std,a8] using hb
     have hce':chE l 0=0:=by rw [<-hee]; exact hce
     refine wp_region_lit ?_;refine lpr 0 2 hB a6 [44,45,33,4,3] [0,901,900,902,77] [] hF (fun X12 a0 w1 hF => ?_);refine fQ rfl rfl rfl rfl hF rfl rfl et (fun t ht => by injection ht with ht; subst ht; decide) (fun hmm haa hargs => ?_);refine Calls.mono (ih x0 hx0k q hq hnq (by omega) _ _ _ _ o _ _ ⟨A1,n1,c1,g,hg,rfl,rfl⟩ (by omega) hmm) ?_
     rintro e w' hv
     cases hr:D7 J.bucket J.budget n x0 o q with
     | stop wq q2 =>
      rw [hr] at hv;obtain ⟨x,rfl,o2,mem',gr',⟨A3,n3,c3,g3,hg3,rfl,rfl⟩,hm2,hk2⟩:=hv;exact .inr ⟨_,rfl,_,_,_,hm2,fun hF => ox (P:=Tryz.prog) (fn:=Tryz.f132) hF fun hm' => dg.stop (hv1 (by simp [t3,t6,hce',<-hx0,hr,Rs.bind])) x o2 hg3 hm' hk2⟩
     | ok o2 q2 =>
      rw [hr] at hv;obtain ⟨rfl,A2,c2,mem',gr',⟨A3,n3,c3,g3,hg3,rfl,rfl⟩,hm2⟩:=hv;have hs2:=(U1 _ _ _ _ _ _).of hr;have hq2:=hq.suf hs2;have hle2:=hs2.le;have hln2:=Z5 hr;refine .inl ⟨.tup [],rfl,_,_,_,.tup _ (fun u hu => by cases hu),hm2,fun a' hF => ?_⟩;refine lnd 3 hB a6 [33,4,3] [0,901,900,902,77] [] hF fun X13 a0 w1 hF => ?_
      refine rg hB a6 [33,4,3] [0,901,900,902,77] [] hF fun X14 a0 w1 hF => ?_
      replace hF:=hF.headS (v':=.int .i64 1) (by subst hB; exact zr) rfl;refine i5 (wp_seq (rg hB a6 [34,33,4,3] [0,901,900,902,77] [] hF fun X8 a0 w1 hF => ?_));replace hF:=hF.headS (v':=.bool .tt) (Sim.bool (by subst hB; rfl)) rfl;refine wp_seq (j1 hF rfl (fun hF => ?_));refine wp_skip (wp_seq (wp_block (wp_seq (rg hB a6 [6,33,4,3] [0,901,900,902,77] [] hF fun X9 a0 w1 hF => ?_))));have O1:=SC1;refine wp_seq (rg hB a6 [8,7,33,4,3] [7,0,901,900,902,77] [(2,.r fun _ => .tup [.agg (lbC x1),.int .i64 ee])] hF fun X10 a0 w1 hF => ?_);refine wp_seq (rg hB a6 [43,7,33,4,3] [7,0,901,900,902,77] [] hF fun X11 a0 w1 hF => ?_);apply a7 hF rfl<;>intro hb hF
      .refine wp_region_lit ?_
       refine lpr 0 2 hB a6 [44,45,33,4,3] [0,901,900,902,77] [] hF (fun X12 a0 w1 hF => ?_);refine fQ rfl rfl rfl rfl hF rfl rfl et (fun t ht => by injection ht with ht; subst ht; decide) (fun hmm haa hargs => ?_);refine Calls.mono (ih x1 hx1k q2 hq2 (by omega) (by omega) _ _ _ _ o2 _ _ ⟨A3,n3,c3,g3,hg3,rfl,rfl⟩ (by omega) hmm) ?_
       rintro e w' hv
       cases hr4:D7 J.bucket J.budget n x1 o2 q2 with
       | stop wq q4 =>
        rw [hr4] at hv;obtain ⟨x,rfl,o4,mem',gr',⟨A5,n5,c5,g5,hg5,rfl,rfl⟩,hm4,hk4⟩:=hv;exact .inr ⟨_,rfl,_,_,_,hm4,fun hF => ox (P:=Tryz.prog) (fn:=Tryz.f132) hF fun hm' => dg.stop (hv1 (by simp [t3,t6,hce',<-hx0,<-hx1,hr,hr4,Rs.bind])) x o4 hg5 hm' hk4⟩
       | ok o4 q4 =>
        rw [hr4] at hv;obtain ⟨rfl,A4,c4,mem',gr',⟨A5,n5,c5,g5,hg5,rfl,rfl⟩,hm4⟩:=hv;refine .inl ⟨.tup [],rfl,_,_,_,.tup _ (fun u hu => by cases hu),hm4,fun a' hF => ?_⟩;refine lnd 3 hB a6 [33,4,3] [0,901,900,902,77] [] hF fun X13 a0 w1 hF => ?_
        refine rg hB a6 [33,4,3] [0,901,900,902,77] [] hF fun X14 a0 w1 hF => ?_
        replace hF:=hF.headS (v':=.int .i64 2) (by subst hB; exact zr) rfl;refine i5 (wp_seq (rg hB a6 [34,33,4,3] [0,901,900,902,77] [] hF fun X8 a0 w1 hF => ?_));replace hF:=hF.headS (v':=.bool .ff) (Sim.bool (by subst hB; rfl)) rfl;refine wp_seq (j0 hF rfl (fun hF => ?_));refine wp_exit ?_;have hF:=hF.keep [] [0,901,900,902,77];exact wp_ret (da hB a6 hF (fun hm' _ => dg.ok (hv1 (by simp [t3,t6,hce',<-hx0,<-hx1,hr,hr4,Rs.bind])) hg5 hm')).1
      exfalso
      subst hB; simp [std,a8,hce] at hb
    have hce:¬ ee=0:=by subst hB; simpa [std,a8] using hb
    have hce':¬ chE l 0=0:=by rw [<-hee]; exact hce
    refine wp_skip ?_;refine rg hB a6 [33,4,3] [0,901,900,902,77] [] hF fun X14 a0 w1 hF => ?_
    replace hF:=hF.headS (v':=.int .i64 1) (by subst hB; exact zr) rfl;refine i5 (wp_seq (rg hB a6 [34,33,4,3] [0,901,900,902,77] [] hF fun X8 a0 w1 hF => ?_));replace hF:=hF.headS (v':=.bool .tt) (Sim.bool (by subst hB; rfl)) rfl;refine wp_seq (j1 hF rfl (fun hF => ?_));refine wp_skip (wp_seq (wp_block (wp_seq (rg hB a6 [6,33,4,3] [0,901,900,902,77] [] hF fun X9 a0 w1 hF => ?_))));have O1:=SC1;refine wp_seq (rg hB a6 [8,7,33,4,3] [7,0,901,900,902,77] [(2,.r fun _ => .tup [.agg (lbC x1),.int .i64 ee])] hF fun X10 a0 w1 hF => ?_);refine wp_seq (rg hB a6 [43,7,33,4,3] [7,0,901,900,902,77] [] hF fun X11 a0 w1 hF => ?_);apply a7 hF rfl<;>intro hb hF
    .exfalso
     subst hB; simp [std,a8,hce] at hb
    refine wp_skip ?_;refine rg hB a6 [33,4,3] [0,901,900,902,77] [] hF fun X14 a0 w1 hF => ?_
    replace hF:=hF.headS (v':=.int .i64 2) (by subst hB; exact zr) rfl;refine i5 (wp_seq (rg hB a6 [34,33,4,3] [0,901,900,902,77] [] hF fun X8 a0 w1 hF => ?_));replace hF:=hF.headS (v':=.bool .ff) (Sim.bool (by subst hB; rfl)) rfl;refine wp_seq (j0 hF rfl (fun hF => ?_));refine wp_exit ?_;have hF:=hF.keep [] [0,901,900,902,77];exact wp_ret (da hB a6 hF (fun hm' _ => dg.ok (hv1 (by simp [t3,t6,hce'])) hg hm')).1
   have t6:gk g0 2=false:=by rw [<-hq6]; exact hb
   obtain ⟨qc,hqc⟩:=eqv (gk g0 3 || gk g0 4);have O1:=fun (G:Option Nat) (A:Option Addr) (cells:Nat -> List AV) (h0:cells 0=[.int .i64 3]) (h1:cells 1=[.int .i64 4]) => dG g0 G A 3 4 cells h0 h1
   simp only [<-hqc] at O1;refine wp_seq (rg hB a6 [48,5,4,1,2,3] [0,901,900,902,77] [(2,.r fun _ => .bool (.v qc))] hF (fun X7 a0 w1 hF => ?_) (hob:=by intro X; subst hB; simp only [b5,Ob.holds,BE.den]<;>and_intros<;>repeat first | trivial | rfl | exact O1 _ _ _ rfl rfl | exact (fun _ _ => by kernel_rfl) | refine ⟨?_,?_⟩ | intro h));apply a7 hF rfl<;>intro hb hF
   .have tc:(gk g0 3 || gk g0 4)=true:=by rw [<-hqc]; exact hb
    rcases (Fj n 0 b J hJ ((X1 2).A 0) ((X1 2).c 0) q hq hnq l hl g0 hgo (by omega)).two (bw _ _ _ _ _ _) hq hnq with ⟨wq,q2,h2,O1⟩ | ⟨_,q2,h2,hs2,hq2,hnq2,S2⟩
    .refine stp 3 hB a6 [52,53,54] [0,901,900,902,77] [] hF O1 fun X x _ _ hF hk => ?_
     exact ox (P:=Tryz.prog) (fn:=Tryz.f132) hF fun hm' => dg.stop (hv1 (by simp [t3,t6,tc,h2,Rs.bind])) x o hg hm' hk
    have O1:=S2;refine rg hB a6 [4,1,2,3] [0,901,900,902,77] [(3,rc J i8 q2)] hF fun X8 a0 w1 hF => ?_
    have hle2:=hs2.le;exact ⟨(_,_,q2),⟨hv1 (by simp [t3,t6,tc,h2,Rs.bind]),hq2,hnq2,by dsimp only; omega,by dsimp only; omega⟩,hF⟩
   have tc:(gk g0 3 || gk g0 4)=false:=by rw [<-hqc]; exact hb
   obtain ⟨qd,hqd⟩:=eqv (gk g0 5);have O1:=fun (G:Option Nat) (A:Option Addr) (cells:Nat -> List AV) (h0:cells 0=[.int .i64 5]) => P0 g0 G A 5 cells h0
   simp only [<-hqd] at O1;refine wp_seq (rg hB a6 [56,5,4,1,2,3] [0,901,900,902,77] [(2,.r fun _ => .bool (.v qd))] hF fun X8 a0 w1 hF => ?_);apply a7 hF rfl<;>intro hb hF
   .have td:gk g0 5=true:=by rw [<-hqd]; exact hb
    rcases (Ez n 0 b J hJ ((X1 2).A 0) ((X1 2).c 0) q hq hnq l hl (by omega)).two (F5 _ _ _ _ _) hq hnq with ⟨wq,q2,h2,O1⟩ | ⟨_,q2,h2,hs2,hq2,hnq2,S2⟩
    .refine stp 2 hB a6 [60,61] [0,901,900,902,77] [] hF O1 fun X x _ _ hF hk => ?_
     exact ox (P:=Tryz.prog) (fn:=Tryz.f132) hF fun hm' => dg.stop (hv1 (by simp [t3,t6,tc,td,h2,Rs.bind])) x o hg hm' hk
    have O1:=S2;refine rg hB a6 [4,1,2,3] [0,901,900,902,77] [(2,rc J i8 q2)] hF fun X9 a0 w1 hF => ?_
    have hle2:=hs2.le;exact ⟨(_,_,q2),⟨hv1 (by simp [t3,t6,tc,td,h2,Rs.bind]),hq2,hnq2,by dsimp only; omega,by dsimp only; omega⟩,hF⟩
   have td:gk g0 5=false:=by rw [<-hqd]; exact hb
   refine wp_seq (rg hB a6 [63,5,4,1,2,3] [0,901,900,902,77] [] hF fun X9 a0 w1 hF => ?_);apply a7 hF rfl<;>intro hb hF
   .have te:0 < l.len:=by subst hB; simpa [std,a8] using hb
    have hF:=hF.keep [] [0,901,900,902,77];exact wp_ret (da hB a6 hF (fun hm' _ => dg.ok (hv1 (by simp [t3,t6,tc,td,te])) hg hm')).1
   have te:¬ 0 < l.len:=by subst hB; simpa [std,a8] using hb
   rcases (Dz 0 b J hJ ((X1 2).A 0) ((X1 2).c 0) q hq hnq l g0.ver).two (l3 _ _ _ _ _) hq hnq with ⟨wq,q2,h2,O1⟩ | ⟨d2,q2,h2,hs2,hq2,hnq2,S2⟩
   .have O2:=wC
    refine iP 5 hB a6 [12,13,15,16] [0,901,900,902,77] [(4,.r fun _ => pd)] hF O1 fun X x _ _ hF hk => ?_
    exact ox (P:=Tryz.prog) (fn:=Tryz.f132) hF fun hm' => dg.stop (hv1 (by simp [t3,t6,tc,td,te,h2,Rs.bind])) x o hg hm' hk
   have O1:=wC;have O2:=S2;refine drg hB a6 [4,1,2,3] [0,901,900,902,77] [(4,.r fun _ => pd),(5,rc J (.bool (.v d2)) q2)] hF fun X10 a0 w1 hF => ?_
   have hle2:=hs2.le;exact ⟨(_,_,q2),⟨hv1 (by simp [t3,t6,tc,td,te,h2,Rs.bind]),hq2,hnq2,by dsimp only; omega,by dsimp only; omega⟩,hF⟩
  rintro ⟨A7,c7,q7⟩ ⟨e7,hq7,hnq7,hlt7,hle7⟩ a0 w1 hF
  dsimp only at e7 hq7 hnq7 hlt7 hle7;refine wp_region_lit ?_;refine lpr 0 2 hB a6 [67,68] [0,901,900,902,77] [] hF (fun X19 a0 w1 hF => ?_);refine fQ rfl rfl rfl rfl hF rfl rfl et (fun t ht => by injection ht with ht; subst ht; decide) (fun hmm haa hargs => ?_);refine Calls.mono (ih l hl q7 hq7 hnq7 hlt7 _ _ _ _ o _ _ ⟨A1,n1,c1,g,hg,rfl,rfl⟩ (by omega) hmm) ?_
  rintro e w' hv
  cases hr:D7 J.bucket J.budget n l o q7 with
  | stop wq q2 =>
   rw [hr] at hv;obtain ⟨x,rfl,o2,mem',gr',⟨A3,n3,c3,g3,hg3,rfl,rfl⟩,hm2,hk2⟩:=hv;exact .inr ⟨_,rfl,_,_,_,hm2,fun hF => ox (P:=Tryz.prog) (fn:=Tryz.f132) hF fun hm' => dg.stop (e7.trans hr) x o2 hg3 hm' hk2⟩
  | ok o2 q2 =>
   rw [hr] at hv;obtain ⟨rfl,A2,c2,mem',gr',⟨A3,n3,c3,g3,hg3,rfl,rfl⟩,hm2⟩:=hv;refine .inl ⟨.tup [],rfl,_,_,_,.tup _ (fun u hu => by cases hu),hm2,fun a' hF => wpList_nil ?_⟩;have hF:=hF.keep [] [0,901,900,902,77];exact (da hB a6 hF (fun hm' _ => dg.ok (e7.trans hr) hg3 hm')).2
abbrev lu (o:List Lab) (i:Nat):Lab:=o.getD i cT
theorem ny {g:Nat -> Lab} {n:Nat} {o:List Lab} (h:(List.range n).map g=o):∀ i,i < n -> g i=lu o i:=fun i hi => by
 subst h;simp [List.getD,hi]
abbrev EG (x:i3) (o:List Lab):AV:=.sl none (x.A 1) o.length (x.c 1) 2 (fun i => lbC (lu o i))
def FY (J:i7) (r:Rs (List Lab)) (x:i3):fw:=match r with
 | .ok o q => .ret ⟨EG x o,[(0,C1 J (x.A 0) (x.c 0) q)],[]⟩
 | .stop wq q => .thr 40 (B8 (wqA x wq)) [(0,C1 J (x.A 0) (x.c 0) q)]
theorem rtt {P:Program} {T:List (Nat × TI)} {s:St} {a:Act} {w:World} {Kk:Kn} {m:Nat -> Nat -> Prop} {w0:World} {pre:List (Nat × Blk)} {fn:Func} {out:i3 -> fw} {rs:List ResultVar} {r:List AV × List Ob} {B:Alg} {v:AV} {sets:List (Nat × List AV)} (hB:B=std) (hT:k4 P T) (h:b4 ⟨m,w0,ats pre,[],Kk⟩ s a w) (x:i3) (hout:out x = .ret ⟨v,sets,[]⟩) (hfn:fn.results=rs.toArray:=by rfl) (hr:P9 T s rs=some r:=by first | rfl | (conv => lhs; cbv)) (ho:b5 P Kk r.2:=by first | exact trivial | (subst hB; simp [b5,Ob.holds])) (he:Sim (can (I5 r.1)) (can v):=by subst hB; exact zr) (hs:v8 s pre sets:=by subst hB; exact ⟨rfl,⟨_,rfl,zl⟩,trivial⟩) :
  bodyPost P fn (cW m w0 pre out) .ret a w/\bodyPost P fn (cW m w0 pre out) .normal a w:=Bd hT h hfn hr ho x hout [] he hs trivial
theorem EE (b:Nat) (J:i7) (hJ:k8 J) (A:Option Addr) (c:Nat) (p:Pst) (hp:i6 p) (hn:p.n<=1000000):M6 Tryz.prog 79 [.ptr 0 b 0] [(0,⟨b,103,C1 J A c p⟩)] (fun x => FY J (D7 J.bucket J.budget (p.n + 1) cT [] p) x):=by
 intro m w hm hargs hpre;have hS:∀ x,ats [(0,(⟨b,103,C1 J A c p⟩:Blk))] x -> x=b:=by
  rintro x ⟨e,he,h1⟩
  simp only [List.mem_singleton] at he;subst he;exact h1.symm
 refine enX 10 hm hpre hargs Tryz.func79 fun B hB a0 hF => ?_
 refine wp_seq (rg hB a6 [1] [1,0] [] hF fun X0 a0 w1 hF => ?_);refine wp_seq (rg hB a6 [3,1] [3,1,0] [] hF fun X1 a0 w1 hF => ?_);refine wp_seq (rg hB a6 [4,3,1] [4,3,1,0] [] hF fun X2 a0 w1 hF => ?_);refine wp_seq (rg hB a6 [4,3,1] [4,3,1,0] [] hF fun X3 a0 w1 hF => ?_);have hF:=hF.rekey (key':=900) (tm':=[(4,.ptr 900 (X2 0).b 0),(3,.ptr 3 (X1 0).b 0),(1,.ptr 1 (X0 0).b 0)]) ⟨rfl,qI,rfl,u9,rfl,u9,trivial⟩;have hF:=hF.memS (cells':=[DT (X0 0).b (X1 0).b (X2 0).b]) ⟨Sim.fn trivial ⟨Sim.ptr,Sim.ptr,Sim.ptr,trivial⟩,trivial⟩;have hF:=hF.keep [4,3,1] [3,900,1,0];have hF:=hF.rekey (key':=901) (tm':=[(4,.ptr 900 (X2 0).b 0),(3,.ptr 901 (X1 0).b 0),(1,.ptr 1 (X0 0).b 0)]) ⟨rfl,u9,rfl,qI,rfl,u9,trivial⟩;have hF:=hF.keep [4,3,1] [1,901,900,0];have hF:=hF.rekey (key':=902) (tm':=[(4,.ptr 900 (X2 0).b 0),(3,.ptr 901 (X1 0).b 0),(1,.ptr 902 (X0 0).b 0)]) ⟨rfl,u9,rfl,u9,rfl,qI,trivial⟩;have hF:=hF.keep [4,3] [901,900,902,0];have hF:=hF.fresh (Below.refl _ _) 77 (t:=⟨none,0,0,2,24⟩) (by decide) (Own.nil _ _ _ _ none);have hF:=b4.memS (cells':=[.sl (some 77) none 0 0 2 (fun i => lbC ((fun _ => cT) i))]) hF ⟨zq0,trivial⟩;have hF:=hF.keep [4,3] [0,901,900,902,77];refine wp_seq (wp_region_lit ?_);refine lpr 0 2 hB a6 [6,7,3] [0,901,900,902,77] [] hF (fun X4 a0 w1 hF => ?_);refine fQ rfl rfl rfl rfl hF rfl rfl et (fun t ht => by injection ht with ht; subst ht; decide) (fun hmm haa hargs => ?_);refine Calls.mono (DS hS J hJ (p.n + 1) cT ka p hp hn (Nat.lt_succ_self _) _ _ _ _ [] _ _ ⟨none,0,0,fun _ => cT,rfl,rfl,rfl⟩ (by simp; omega) hmm) ?_
 rintro e w' hv
 cases hr:D7 J.bucket J.budget (p.n + 1) cT [] p with
 | stop wq q2 =>
  rw [hr] at hv;obtain ⟨x,rfl,o2,mem',gr',⟨A3,n3,c3,g3,hg3,rfl,rfl⟩,hm2,hk2⟩:=hv;exact .inr ⟨_,rfl,_,_,_,hm2,fun hF => rD (P:=Tryz.prog) (fn:=Tryz.f79) hF hk2 x rfl (zr) ⟨rfl,⟨_,rfl,zl⟩,trivial⟩⟩
 | ok o2 q2 =>
  rw [hr] at hv;obtain ⟨rfl,A2,c2,mem',gr',⟨A3,n3,c3,g3,hg3,rfl,rfl⟩,hm2⟩:=hv;have hg4:=ny hg3;have hn3:n3=o2.length:=by rw [<-hg3]; simp
  refine .inl ⟨.tup [],rfl,_,_,_,.tup _ (fun u hu => by cases hu),hm2,fun a' hF => ?_⟩;refine lnd 3 hB a6 [3] [0,901,77] [] hF fun X5 a0 w1 hF => ?_
  refine wp_seq (rg hB a6 [2] [0,77] [] hF fun X6 a0 w1 hF => ?_);refine wp_ret (rtt hB a6 hF ⟨0,fun i => if i=0 then A2 else A3,fun i => if i=0 then c2 else c3,fun _ => .empty⟩ rfl (he:=?_)).1;subst hB;exact Sim.resl hn3 (fun t ht => by show lbC (g3 t)=lbC (lu o2 t); rw [hg4 t (by omega)])
theorem wI {n:Nat} {f:Nat -> Itm} {nx:Lab} {mk:Int} (h:L6 1 n f nx mk=true):mk=0:=by
 unfold L6 lq M4 at h;simp at h;exact h.2.1
theorem sK {o:List Lab} {i:Nat} (hi:i < o.length):o.drop i=lu o i :: o.drop (i + 1):=by
 rw [List.drop_eq_getElem_cons hi];simp [List.getD,hi]
theorem zb (b:Nat) (J:i7) (hJ:k8 J) (A:Option Addr) (c:Nat) (p:Pst) (hp:i6 p) (hn:p.n<=1000000):B7 36 0 b J A c p [] yA (V9 J.bucket J.budget p):=by
 intro m w hm hargs hpre;have hmx:maxLen=9223372036854775807:=rfl;refine enX 59 hm hpre hargs Tryz.func36 fun B hB a0 hF => ?_
 refine wp_seq (rg hB a6 [2,0] [0,2] [] hF fun X0 a0 w1 hF => ?_);apply wp_seq;have SR:=EE b J hJ A c p hp hn
 cases hr:D7 J.bucket J.budget (p.n + 1) cT [] p with
 | stop wq q =>
  have O1:M6 Tryz.prog 79 [.ptr 0 b 0] [(0,⟨b,103,C1 J A c p⟩)] (fun x => .thr 40 (B8 (wqA x wq)) [(0,C1 J (x.A 0) (x.c 0) q)]):=by rw [hr] at SR; exact SR
  refine stp 1 hB a6 [7] [0] [] hF O1 fun _ _ _ _ hF hk => ?_
  exact thm (P:=Tryz.prog) (fn:=Tryz.f36) (q:=q) hF hk (by simp [V9,hr,Rs.bind])
 | ok o q =>
  have hs:=(U1 _ _ _ _ _ _).of hr;have hq:=hp.suf hs;have hnq:q.n<=1000000:=Nat.le_trans hs.le hn;have hlo:=Z5 hr;simp only [List.length_nil,Nat.zero_add] at hlo;have O1:u2 Tryz.prog 79 [.ptr 0 b 0] [(0,⟨b,103,C1 J A c p⟩)] (fun x => ⟨EG x o,[(0,C1 J (x.A 0) (x.c 0) q)],[]⟩):=by rw [hr] at SR; exact SR.x fun _ => rfl
  have hdr:=fun {i} (hi:i < o.length) => sK hi
  obtain ⟨on,hon⟩:=eqv o.length;obtain ⟨of,hof⟩:=eqv (lu o);have O1:u2 Tryz.prog 79 [.ptr 0 b 0] [(0,⟨b,103,C1 J A c p⟩)] (fun x => ⟨.sl none (x.A 1) on (x.c 1) 2 (fun i => lbC (of i)),[(0,C1 J (x.A 0) (x.c 0) q)],[]⟩):=by rw [hon,hof]; exact O1
  rw [<-hon] at hlo;simp only [<-hon] at hdr;have hof':∀ i,lu o i=of i:=fun i => by rw [hof]
  refine rg hB a6 [3,2,0] [0,2] [(1,.x fun x => ⟨.sl none (x.A 1) on (x.c 1) 2 (fun i => lbC (of i)),[(0,C1 J (x.A 0) (x.c 0) q)],[]⟩)] hF fun X1 a0 w1 hF => ?_
  refine wp_seq (wp_seq (rg hB a6 [11,10,3,2,0] [0,2] [] hF fun X2 a0 w1 hF => ?_));refine wp_block (k9 (ι:=Nat × Pst × Option Addr × Nat) (fun z => [(11,.int .i64 (z.1:Int))]) (fun z => [(0,⟨b,103,C1 J z.2.2.1 z.2.2.2 z.2.1⟩)]) (fun z => []) (fun z => z.1<=on/\V9 J.bucket J.budget p=(aT J.budget (o.drop z.1) z.2.1).bind (fun _ p => .ok ⟨0,false,⟨#[]⟩,[],(on:Int),false⟩ p)/\i6 z.2.1/\z.2.1.n<=1000000) (fun z => on - z.1) (0,q,_,_) ⟨Nat.zero_le _,by simp [V9,hr,Rs.bind,hon],hq,hnq⟩ hF ?_)
  rintro ⟨i,p1,A1,c1⟩ ⟨hi,hrun,hp1,hn1⟩ a0 w1 hF
  dsimp only at hi hrun hp1 hn1;refine wp_seq (rg hB a6 [12,11,10,3,2,0] [0,2] [] hF fun X3 a0 w1 hF => ?_);refine wp_seq (a7 hF rfl (fun hb hF => ?_) (fun hb hF => ?_))
  .have hin:i < on:=by
    have:(i:Int) < (on:Int):=by subst hB; simpa [std,a8] using hb
    omega
   have e:B.arith .add .i64 (i:Int) 1=((i + 1:Nat):Int):=by subst hB; exact j5 (n:=on) hin (by omega)
   have hd:=hdr hin;rw [hof'] at hd;refine wp_skip (wp_seq (wp_block (wp_seq (rg hB a6 [4,11,10,3,2,0] [0,2] [] hF fun X4 a0 w1 hF => ?_))));have O1:=gQ;obtain ⟨nl,hnl⟩:=eqv B0;rw [<-hnl] at O1;refine wp_seq (rg hB a6 [5,4,11,10,3,2,0] [5,0,2] [(0,.r fun _ => .agg (lbC nl))] hF fun X5 a0 w1 hF => ?_);obtain ⟨nx,hnx⟩:=eqv ((o.drop (i + 1)).headD B0);refine wp_seq (wp_seq (rg hB a6 [19,5,4,11,10,3,2,0] [5,0,2] [] hF fun X6 a0 w1 hF => ?_));refine eB (ι:=Unit) (S0:=[(19,_)]) (M0:=[(5,_)]) (G0:=[]) (fun _ => []) (fun _ => [(5,⟨(X5 1).b,24,lbC nx⟩)]) (fun _ => []) (fun _ => True) hF ?_ ?_
   .apply a7 hF rfl<;>intro hb hF
    .have hin2:i + 1 < on:=by
      have hb2:B.cmp .lss (B.arith .add .i64 (i:Int) 1) (B.ofNat on)=true:=hb;rw [e] at hb2;have:((i + 1:Nat):Int) < (on:Int):=by subst hB; simpa [std,a8] using hb2
      omega
     have e0:(0:Int)<=B.arith .add .i64 (i:Int) 1/\B.arith .add .i64 (i:Int) 1 < (on:Int):=by rw [e]; omega
     have e1:=e0.1;have e2:=e0.2;refine rg hB a6 [4,11,10,3,2,0,5] [5,0,2] [] hF (fun X7 a0 w1 hF => ?_) (hob:=by intro X; subst hB; simp only [b5,Ob.holds,BE.den]<;>and_intros<;>repeat first | trivial | rfl | exact e1 | exact e2 | refine ⟨?_,?_⟩ | intro h);have e3:of (B.toNat (B.arith .add .i64 (i:Int) 1))=nx:=by
      have hd2:=hdr hin2;rw [hnx,hd2,e];subst hB
      show of (i + 1)=lu o (i + 1)
      rw [hof']
     have hF:=hF.memS (cells':=lbC nx) (by rw [<-e3]; subst hB; exact zl);have hF:=hF.keep [5,4,11,10,3,2,0] [5,0,2];exact ⟨(),trivial,hF⟩
    have hout2:i + 1=on:=by
     have hb2:B.cmp .lss (B.arith .add .i64 (i:Int) 1) (B.ofNat on)=false:=hb;rw [e] at hb2;have:¬ ((i + 1:Nat):Int) < (on:Int):=by subst hB; simpa [std,a8] using hb2
     omega
    have e3:nx=nl:=by rw [hnx,List.drop_eq_nil_of_le (by omega),hnl]; rfl
    refine wp_skip ⟨(),trivial,?_⟩;rw [e3];exact hF
   rintro ⟨⟩ _ a0 w1 hF
   apply wp_seq
   rcases (aK 0 b J hJ A1 c1 p1 hp1 hn1 (of i)).two (j2 _ _ _) hp1 hn1 with ⟨wq,q2,h2,O1⟩ | ⟨g,q2,h2,hs2,hq2,hnq2,S2⟩
   .refine stp 5 hB a6 [25,29] [0] [] hF O1 (fun _ _ _ _ hF hk => ?_) (hob:=by intro X; subst hB; simp only [b5,Ob.holds,BE.den]<;>and_intros<;>repeat first | trivial | rfl | exact O1 | exact O2 | exact (show (0:Int)<=(i:Int) by omega) | exact (show (i:Int) < (on:Int) by omega) | exact (fun _ _ => by kernel_rfl) | refine ⟨?_,?_⟩ | intro h)
    exact thm (P:=Tryz.prog) (fn:=Tryz.f36) (q:=q2) hF hk (by rw [hrun,hd]; simp [aT,Rs.bind,h2])
   have hgr:=hp1.getR h2;have O1:=S2;refine rg hB a6 [6,5,4,11,10,3,2,0] [6,5,0,2] [(5,rc J (s5 g) q2)] hF (fun X8 a0 w1 hF => ?_) (hob:=by intro X; subst hB; simp only [b5,Ob.holds,BE.den]<;>and_intros<;>repeat first | trivial | rfl | exact O1 | exact O2 | exact (show (0:Int)<=(i:Int) by omega) | exact (show (i:Int) < (on:Int) by omega) | exact (fun _ _ => by kernel_rfl) | refine ⟨?_,?_⟩ | intro h)
   obtain ⟨q9,hq9⟩:=eqv (gk g 1);have O1:=fun (G:Option Nat) (A:Option Addr) (cells:Nat -> List AV) (h0:cells 0=[.int .i64 1]) => P0 g G A 1 cells h0
   simp only [<-hq9] at O1;refine wp_seq (rg hB a6 [40,6,5,4,11,10,3,2,0] [6,5,0,2] [(2,.r fun _ => .bool (.v q9))] hF (fun X9 a0 w1 hF => ?_) (hob:=by intro X; subst hB; simp only [b5,Ob.holds,BE.den]<;>and_intros<;>repeat first | trivial | rfl | exact f8 (Kk:=noK) _ _ _ _ | exact O1 _ _ _ rfl | exact (fun _ _ => by kernel_rfl) | refine ⟨?_,?_⟩ | intro h));have hE:eqL [.int .i64 g.x.r.nx.len,.int .u64 g.x.r.nx.bits] [.int .i64 nx.len,.int .u64 nx.bits]=decide (g.x.r.nx=nx):=bC _ _;apply a7 hF rfl<;>intro hb hF
   .have t9:gk g 1=true/\g.x.r.nx ≠ nx:=by
     have h9:(if q9=true then !(eqL [.int .i64 g.x.r.nx.len,.int .u64 g.x.r.nx.bits] [.int .i64 nx.len,.int .u64 nx.bits]) else false)=true:=by subst hB; exact hb
     rw [hE] at h9;rw [<-hq9]
     revert h9
     cases q9<;>simp
    have hk1:=(wT t9.1).2;have hmk:g.x.r.mrk=0:=wI (hk1 ▸ hgr.rf (wT t9.1).1);refine wp_seq (rg hB a6 [6,4,11,10,3,2,0] [6,0,2] [] hF fun X10 a0 w1 hF => ?_);have hab:(⟨g.x.A,g.x.c,⟨g.x.r.n,g.x.r.f,g.x.r.kd,nx,g.x.r.mrk⟩⟩:RA).r.abs=ww g.x nx:=by
     unfold RN.abs ww;simp only [hk1,hmk]
    have hcm:=eQ 0 b J hJ ((X8 5).A 0) ((X8 5).c 0) q2 hq2 hnq2 (of i) g.ver ⟨g.x.A,g.x.c,⟨g.x.r.n,g.x.r.f,g.x.r.kd,nx,g.x.r.mrk⟩⟩;rw [hab] at hcm
    rcases hcm.two (l3 _ _ _ _ _) hq2 hnq2 with ⟨wq,q3,h3,O1⟩ | ⟨d3,q3,h3,hs3,hq3,hnq3,S3⟩
    .refine iP 9 hB a6 [44,48,50,52] [0] [] hF O1 (fun _ _ _ _ hF hk => ?_) (hob:=by intro X; subst hB; simp only [b5,Ob.holds,BE.den]<;>and_intros<;>repeat first | trivial | rfl | exact O1 | exact O2 | exact (show (0:Int)<=(i:Int) by omega) | exact (show (i:Int) < (on:Int) by omega) | exact (fun _ _ => by kernel_rfl) | refine ⟨?_,?_⟩ | intro h)
     exact thm (P:=Tryz.prog) (fn:=Tryz.f36) (q:=q3) hF hk (by rw [hrun,hd]; simp only [aT,Rs.bind,h2,<-hnx]; rw [if_pos t9]; simp only [h3])
    have O1:=S3;refine drg hB a6 [11,10,3,2,0] [0,2] [(9,rc J (.bool (.v d3)) q3)] hF (fun X11 a0 w1 hF => ?_) (hob:=by intro X; subst hB; simp only [b5,Ob.holds,BE.den]<;>and_intros<;>repeat first | trivial | rfl | exact O1 | exact O2 | exact (show (0:Int)<=(i:Int) by omega) | exact (show (i:Int) < (on:Int) by omega) | exact (fun _ _ => by kernel_rfl) | refine ⟨?_,?_⟩ | intro h)
    refine rg hB a6 [11,10,3,2,0] [0,2] [] hF fun X12 a0 w1 hF => ?_
    exact ⟨(i + 1,q3,_,_),⟨by simp only; omega,by rw [hrun,hd]; simp only [aT,Rs.bind,h2,<-hnx]; rw [if_pos t9]; simp only [h3],hq3,hnq3⟩,by simp only; omega,by rw [<-e]; exact hF⟩
   have t9:¬ (gk g 1=true/\g.x.r.nx ≠ nx):=by
    have h9:(if q9=true then !(eqL [.int .i64 g.x.r.nx.len,.int .u64 g.x.r.nx.bits] [.int .i64 nx.len,.int .u64 nx.bits]) else false)=false:=by subst hB; exact hb
    rw [hE] at h9;rw [<-hq9]
    revert h9
    cases q9<;>simp
   refine wp_skip (rg hB a6 [11,10,3,2,0] [0,2] [] hF fun X12 a0 w1 hF => ?_);exact ⟨(i + 1,q2,_,_),⟨by simp only; omega,by rw [hrun,hd]; simp only [aT,Rs.bind,h2,<-hnx,if_neg t9],hq2,hnq2⟩,by simp only; omega,by rw [<-e]; exact hF⟩
  have hout:i=on:=by
   have:¬ (i:Int) < (on:Int):=by subst hB; simpa [std,a8] using hb
   omega
  rw [hout,List.drop_eq_nil_of_le (by omega)] at hrun;refine wp_exit ?_;refine wp_seq (rg hB a6 [2] [0,2] [] hF fun X13 a0 w1 hF => ?_);exact wp_ret ((rmm hB a6 hF (v:=(⟨0,false,⟨#[]⟩,[],(on:Int),false⟩:Rsl)) (q:=p1) A1 c1 (by rw [hrun]; rfl) (he:=by
   subst hB;have ew:IntKind.u64.wrap (on:Int)=(on:Int):=by
    rw [IntKind.wrap_u64];omega
   exact Sim.agg ⟨zr,zr,zr,zr,(show Sim (.int .u64 (IntKind.u64.wrap (on:Int))) (.int .u64 (on:Int)) from by rw [ew]; exact zr),zr,trivial⟩)).1)
structure s6 where
 A:Option Addr
 n:Nat
 c:Nat
 f:Nat -> l5
structure Rel (E:s6) (N:Nat) (p:Pst):Prop where
 n:p.n + N=E.n
 g:∀ j,p.g j=E.f (N + j)
theorem Rel.suf {E:s6} {N:Nat} {p q:Pst} (h:Rel E N p) (hs:Suf p q):Rel E (E.n - q.n) q:=by
 obtain ⟨d,h1,h2⟩:=hs;have h3:=h.n;refine ⟨by omega,fun j => ?_⟩;rw [h2,h.g]
 congr 1
 omega
abbrev D3 (J:i7) (E:s6) (N:Nat) (t:Nt):List AV:=[.int .i64 J.kind,.int .i64 J.lab.len,.int .u64 J.lab.bits,.int .u64 J.key,.int .u64 J.hi,.str J.val,.int .i64 J.most,.sl none J.pA J.pn J.pc 1 (fun i => [.int .i64 (J.pf i)]),.int .u32 J.x1,.int .u32 J.x2,.int .u32 J.y1,.int .u32 J.y2,.int .i64 J.how,.int .i64 J.bucket,.int .i64 J.budget,
 .sl none E.A E.n E.c 8 (fun j => Z0 (E.f j)),.int .i64 (N:Int),.bool .ff,
 .int .i64 0,.int .i64 0,.int .u64 0,.int .u64 0,.int .i64 0,.sl none none 0 0 2 (fun _ => []),.int .i64 0,.int .u64 0,.int .u64 0,.int .i64 0,.bool .ff,.str ⟨#[]⟩,.sl none none 0 0 2 (fun _ => []),.int .u64 0,.bool .ff,
 .int .i64 t.code,.bool (.v t.had),.str t.val,.sl none none 0 0 2 (fun _ => []),.int .u64 0,.bool .ff]
abbrev z6 (J:i7) (E:s6) (N:Nat) (w:B5) (t:Nt):List AV:=[.int .i64 J.kind,.int .i64 J.lab.len,.int .u64 J.lab.bits,.int .u64 J.key,.int .u64 J.hi,.str J.val,.int .i64 J.most,.sl none J.pA J.pn J.pc 1 (fun i => [.int .i64 (J.pf i)]),.int .u32 J.x1,.int .u32 J.x2,.int .u32 J.y1,.int .u32 J.y2,.int .i64 J.how,.int .i64 J.bucket,.int .i64 J.budget,
 .sl none E.A E.n E.c 8 (fun j => Z0 (E.f j)),.int .i64 (N:Int),.bool .tt,
 .int .i64 w.kind,.int .i64 w.lab.len,.int .u64 w.lab.bits,.int .u64 w.ver,.int .i64 w.x.r.kd,.sl none w.x.A w.x.r.n w.x.c 2 (fun i => itC (w.x.r.f i)),.int .i64 w.x.r.nx.len,.int .u64 w.x.r.nx.bits,.int .u64 w.x.r.mrk,.int .i64 w.s.code,.bool (.v w.s.had),.str w.s.val,.sl none w.s.A w.s.n w.s.c 2 (fun i => itC (w.s.f i)),.int .u64 w.s.key,.bool (.v w.s.more),
 .int .i64 t.code,.bool (.v t.had),.str t.val,.sl none none 0 0 2 (fun _ => []),.int .u64 0,.bool .ff]
abbrev Bt (b:Bool) (J:i7) (E:s6) (N:Nat) (w:B5) (t:Nt):List AV:=[.int .i64 J.kind,.int .i64 J.lab.len,.int .u64 J.lab.bits,.int .u64 J.key,.int .u64 J.hi,.str J.val,.int .i64 J.most,.sl none J.pA J.pn J.pc 1 (fun i => [.int .i64 (J.pf i)]),.int .u32 J.x1,.int .u32 J.x2,.int .u32 J.y1,.int .u32 J.y2,.int .i64 J.how,.int .i64 J.bucket,.int .i64 J.budget,
 .sl none E.A E.n E.c 8 (fun j => Z0 (E.f j)),.int .i64 (N:Int),.bool (.v b),
 .int .i64 w.kind,.int .i64 w.lab.len,.int .u64 w.lab.bits,.int .u64 w.ver,.int .i64 w.x.r.kd,.sl none w.x.A w.x.r.n w.x.c 2 (fun i => itC (w.x.r.f i)),.int .i64 w.x.r.nx.len,.int .u64 w.x.r.nx.bits,.int .u64 w.x.r.mrk,.int .i64 w.s.code,.bool (.v w.s.had),.str w.s.val,.sl none w.s.A w.s.n w.s.c 2 (fun i => itC (w.s.f i)),.int .u64 w.s.key,.bool (.v w.s.more),
 .int .i64 t.code,.bool (.v t.had),.str t.val,.sl none none 0 0 2 (fun _ => []),.int .u64 0,.bool .ff]
theorem cm {b:Bool} (h:b=true) (J:i7) (E:s6) (N:Nat) (w:B5) (t:Nt):D9 (z6 J E N w t) (Bt b J E N w t):=by
 subst h;exact ⟨zr,zr,zr,zr,zr,zr,zr,zr,zr,zr,zr,zr,zr,zr,zr,zr,zr,Sim.bool rfl,zr,zr,zr,zr,zr,zr,zr,zr,zr,zr,zr,zr,zr,zr,zr,zr,zr,zr,zr,zr,zr,trivial⟩
theorem co {b:Bool} (h:b=true) (J:i7) (E:s6) (N:Nat) (w:B5) (t:Nt):D9 (Bt b J E N w t) (z6 J E N w t):=by
 subst h;exact ⟨zr,zr,zr,zr,zr,zr,zr,zr,zr,zr,zr,zr,zr,zr,zr,zr,zr,Sim.bool rfl,zr,zr,zr,zr,zr,zr,zr,zr,zr,zr,zr,zr,zr,zr,zr,zr,zr,zr,zr,zr,zr,trivial⟩
def kT {α : Type} (k0:Nat) (J:i7) (E:s6) (enc:α -> AV) (dfl:AV) (r:Rs α) (x:i3):CR:=match r with
 | .ok a p => ⟨enc a,[(k0,D3 J E (E.n - p.n) p.note)],[]⟩
 | .stop w p => ⟨dfl,[(k0,z6 J E (E.n - p.n) (wqA x w) p.note)],[]⟩
def D6 {α : Type} (f:FuncId) (k0 b:Nat) (J:i7) (E:s6) (N:Nat) (p:Pst) (args:List AV) (enc:α -> AV) (dfl:AV) (r:Rs α):Prop:=
 u2 Tryz.prog f (.ptr k0 b 0 :: args) [(k0,⟨b,105,D3 J E N p.note⟩)] (fun x => kT k0 J E enc dfl r x)
theorem D6.ok {α : Type} {f:FuncId} {k0 b:Nat} {J:i7} {E:s6} {N M:Nat} {p q:Pst} {args:List AV} {enc:α -> AV} {dfl:AV} {r:Rs α} {a:α} (h:D6 f k0 b J E N p args enc dfl r) (e:r = .ok a q) (hM:M=E.n - q.n) :
  u2 Tryz.prog f (.ptr k0 b 0 :: args) [(k0,⟨b,105,D3 J E N p.note⟩)] (fun x => ⟨enc a,[(k0,D3 J E M q.note)],[]⟩):=by
 subst e; subst hM;exact h
theorem D6.stop {α : Type} {f:FuncId} {k0 b:Nat} {J:i7} {E:s6} {N M:Nat} {p q:Pst} {args:List AV} {enc:α -> AV} {dfl:AV} {r:Rs α} {w:Wq} (h:D6 f k0 b J E N p args enc dfl r) (e:r = .stop w q) (hM:M=E.n - q.n)
  {rr:RN} {nn:Nat} {ff:Nat -> Itm} (h1:rr=w.r.rn) (h2:nn=w.res.items.length) (h3:ff=itF w.res.items) :
  u2 Tryz.prog f (.ptr k0 b 0 :: args) [(k0,⟨b,105,D3 J E N p.note⟩)] (fun x => ⟨dfl,[(k0,z6 J E M ⟨w.kind,w.lab,w.ver,⟨x.A 1,x.c 1,rr⟩,⟨w.res.code,w.res.had,w.res.val,x.A 2,nn,x.c 2,ff,w.res.key,w.res.more⟩⟩ q.note)],[]⟩):=by
 subst e; subst hM; subst h1; subst h2; subst h3;exact h
theorem D6.re {α : Type} {f:FuncId} {k0 b:Nat} {J:i7} {E:s6} {N:Nat} {p:Pst} {args args':List AV} {enc:α -> AV} {dfl:AV} {r:Rs α} (h:D6 f 0 b J E N p args enc dfl r) (ha:D9 args' args):D6 f k0 b J E N p args' enc dfl r:=
 u2.re h ⟨Sim.ptr,ha⟩ rfl fun x => by
  cases r with
  | ok a p => exact ⟨rfl,rfl,zr,rfl⟩
  | stop w p => exact ⟨rfl,rfl,zr,rfl⟩
def K6 (f:FuncId) (k0 b:Nat) (J:i7) (E:s6) (N:Nat) (q:B5) (t:Nt) (args:List AV) (dfl:AV):Prop:=
 u2 Tryz.prog f (.ptr k0 b 0 :: args) [(k0,⟨b,105,z6 J E N q t⟩)] (fun _ => ⟨dfl,[(k0,z6 J E N q t)],[]⟩)
theorem K6.re {f:FuncId} {k0 b:Nat} {J:i7} {E:s6} {N:Nat} {q:B5} {t:Nt} {args args':List AV} {dfl:AV} (h:K6 f 0 b J E N q t args dfl) (ha:D9 args' args):K6 f k0 b J E N q t args' dfl:=
 u2.re h ⟨Sim.ptr,ha⟩ rfl fun x => ⟨rfl,rfl,zr,rfl⟩
section
variable {P:Program} {T:List (Nat × TI)} {s:St} {a:Act} {w:World} {α : Type} {Kk:Kn} {m:Nat -> Nat -> Prop} {w0:World} {b k0 ty:Nat} {cs:List AV} {fn:Func} {enc:α -> AV} {dfl:AV} {J:i7} {E:s6} {r:Rs α}
theorem BZ (hT:k4 P T) (h:b4 ⟨m,w0,ats [(k0,⟨b,ty,cs⟩)],[],Kk⟩ s a w) {rs:List ResultVar} (hfn:fn.results=rs.toArray) {rr:List AV × List Ob} (hrr:P9 T s rs=some rr) (ho:b5 P Kk rr.2)
  {v:α} {q:Pst} {M:Nat} (hr:r = .ok v q) (hM:M=E.n - q.n) (he:Sim (can (I5 rr.1)) (can (enc v))) (hs:v8 s [(k0,⟨b,ty,cs⟩)] [(k0,D3 J E M q.note)]) :
  bodyPost P fn (U4 m w0 [(k0,⟨b,ty,cs⟩)] (fun x => kT k0 J E enc dfl r x)) .ret a w/\bodyPost P fn (U4 m w0 [(k0,⟨b,ty,cs⟩)] (fun x => kT k0 J E enc dfl r x)) .normal a w:=by
 subst hr; subst hM;exact rK (res:=fun x => kT k0 J E enc dfl (.ok v q) x) hT h hfn hrr ho ⟨0,fun _ => none,fun _ => 0,fun _ => .empty⟩ [] he hs trivial
theorem BX (hT:k4 P T) (h:b4 ⟨m,w0,ats [(k0,⟨b,ty,cs⟩)],[],Kk⟩ s a w) {rs:List ResultVar} (hfn:fn.results=rs.toArray) {rr:List AV × List Ob} (hrr:P9 T s rs=some rr) (ho:b5 P Kk rr.2)
  {q:Pst} {wq:Wq} {Q:B5} {M:Nat} (x:i3) (hr:r = .stop wq q) (hM:M=E.n - q.n) (hq:Q=wqA x wq) (he:Sim (can (I5 rr.1)) (can dfl)) (hs:v8 s [(k0,⟨b,ty,cs⟩)] [(k0,z6 J E M Q q.note)]) :
  bodyPost P fn (U4 m w0 [(k0,⟨b,ty,cs⟩)] (fun x => kT k0 J E enc dfl r x)) .ret a w/\bodyPost P fn (U4 m w0 [(k0,⟨b,ty,cs⟩)] (fun x => kT k0 J E enc dfl r x)) .normal a w:=by
 subst hr; subst hM; subst hq;exact rK (res:=fun x => kT k0 J E enc dfl (.stop wq q) x) hT h hfn hrr ho x [] he hs trivial
theorem vC (hT:k4 P T) (h:b4 ⟨m,w0,ats [(k0,⟨b,ty,cs⟩)],[],Kk⟩ s a w) {rs:List ResultVar} (hfn:fn.results=rs.toArray) {rr:List AV × List Ob} (hrr:P9 T s rs=some rr) (ho:b5 P Kk rr.2)
  {sets:List (Nat × List AV)} (he:Sim (can (I5 rr.1)) (can dfl)) (hs:v8 s [(k0,⟨b,ty,cs⟩)] sets) :
  bodyPost P fn (U4 m w0 [(k0,⟨b,ty,cs⟩)] (fun _ => ⟨dfl,sets,[]⟩)) .ret a w/\bodyPost P fn (U4 m w0 [(k0,⟨b,ty,cs⟩)] (fun _ => ⟨dfl,sets,[]⟩)) .normal a w:=
 rK (res:=fun _ => ⟨dfl,sets,[]⟩) hT h hfn hrr ho ⟨0,fun _ => none,fun _ => 0,fun _ => .empty⟩ [] he hs trivial
end
abbrev T2:AV:=.agg [.int .i64 0,.int .u64 0,.bool .ff,.int .i64 0,.sl none none 0 0 2 (fun _ => []),.int .i64 0,.int .u64 0,.int .u64 0]
theorem yK {J:i7} {E:s6} {N:Nat} {p:Pst} (h:Rel E N p):((p.n:Int) + (J.budget - E.n)<=0 ↔ J.budget<=(N:Int))/\(0 < p.n ↔ N < E.n):=by
 have:=h.n;omega
inductive LSt where
 | go (n:Nat) (p:Pst) (N:Nat)
 | dn (p:Pst) (N:Nat)
 | sp (N:Nat) (Q:B5) (t:Nt)
abbrev lsC (J:i7) (E:s6):LSt -> List AV
 | .go _ p N => D3 J E N p.note
 | .dn p N => D3 J E N p.note
 | .sp N Q t => z6 J E N Q t
abbrev lsB:LSt -> BE
 | .dn .. => .tt
 | _ => .ff
def lsM:LSt -> Nat
 | .go n _ _ => n + 1
 | _ => 0
abbrev BS (x:pO):AV:=.agg [.int .i64 x.code,.bool (.v x.had),.str x.val,.sl none x.A x.n x.c 2 (fun i => itC (x.f i)),.int .u64 x.key,.bool (.v x.more)]
section
variable {P:Program} {T:List (Nat × TI)} {s:St} {a:Act} {w:World} {α : Type} {Kk:Kn} {m:Nat -> Nat -> Prop} {w0:World} {b k0 ty:Nat} {cs:List AV} {fn:Func} {enc:α -> AV} {dfl:AV} {J:i7} {E:s6} {r:Rs α} {rs:List ResultVar} {rr:List AV × List Ob} {B:Alg}
theorem D6.two {f:FuncId} {N:Nat} {p:Pst} {args:List AV} (h:D6 f k0 b J E N p args enc dfl r) (hf:Fro p r) (hp:i6 p) (hn:p.n<=1000000) (hR:Rel E N p) :
  (∃ v q M,r = .ok v q/\Suf p q/\i6 q/\q.n<=1000000/\Rel E M q/\M=E.n - q.n/\u2 Tryz.prog f (.ptr k0 b 0 :: args) [(k0,⟨b,105,D3 J E N p.note⟩)] (fun _ => ⟨enc v,[(k0,D3 J E M q.note)],[]⟩)) ∨
  ∃ wq q M,∃ W:i3 -> B5,r = .stop wq q/\Suf p q/\M=E.n - q.n/\(∀ x,W x=wqA x wq)/\u2 Tryz.prog f (.ptr k0 b 0 :: args) [(k0,⟨b,105,D3 J E N p.note⟩)] (fun x => ⟨dfl,[(k0,z6 J E M (W x) q.note)],[]⟩):=by
 cases hr:r with
 | ok v q => have hs:=hf.of hr; exact .inl ⟨v,q,_,rfl,hs,hp.suf hs,Nat.le_trans hs.le hn,hR.suf hs,rfl,h.ok hr rfl⟩
 | stop wq q => exact .inr ⟨wq,q,_,fun x => wqA x wq,rfl,hf.ofs hr,rfl,fun _ => rfl,h.stop hr rfl rfl rfl rfl⟩
abbrev lc (J:i7) (E:s6) (v:AV) (N:Nat) (p:Pst):CS:=.x fun _ => ⟨v,[(0,D3 J E N p.note)],[]⟩
abbrev sc (J:i7) (E:s6) (v:AV) (N:Nat) (W:i3 -> B5) (t:Nt):CS:=.x fun x => ⟨v,[(0,z6 J E N (W x) t)],[]⟩
abbrev dc (J:i7) (E:s6) (v:AV) (N:Nat) (W:B5) (t:Nt):CS:=.x fun _ => ⟨v,[(0,z6 J E N W t)],[]⟩
theorem rgo (hB:B=std) (hT:k4 P T) (h:b4 ⟨m,w0,ats [(k0,⟨b,ty,cs⟩)],[],Kk⟩ s a w) {v:α} {q:Pst} {M:Nat} (hr0:r = .ok v q) (hM:M=E.n - q.n) (hfn:fn.results=rs.toArray:=by rfl) (hr:P9 T s rs=some rr:=by first | rfl | (conv => lhs; cbv)) (ho:b5 P Kk rr.2:=by first | exact trivial | (subst hB; simp [b5,Ob.holds])) (he:Sim (can (I5 rr.1)) (can (enc v)):=by subst hB; exact zr) (hs:v8 s [(k0,⟨b,ty,cs⟩)] [(k0,D3 J E M q.note)]:=by subst hB; exact ⟨rfl,⟨_,rfl,zl⟩,trivial⟩) :
  bodyPost P fn (U4 m w0 [(k0,⟨b,ty,cs⟩)] (fun x => kT k0 J E enc dfl r x)) .ret a w/\bodyPost P fn (U4 m w0 [(k0,⟨b,ty,cs⟩)] (fun x => kT k0 J E enc dfl r x)) .normal a w:=BZ hT h hfn hr ho hr0 hM he hs
theorem rst (hB:B=std) (hT:k4 P T) (h:b4 ⟨m,w0,ats [(k0,⟨b,ty,cs⟩)],[],Kk⟩ s a w) {q:Pst} {wq:Wq} {Q:B5} {M:Nat} (x:i3) (hr0:r = .stop wq q) (hM:M=E.n - q.n) (hq:Q=wqA x wq) (hfn:fn.results=rs.toArray:=by rfl) (hr:P9 T s rs=some rr:=by first | rfl | (conv => lhs; cbv)) (ho:b5 P Kk rr.2:=by first | exact trivial | (subst hB; simp [b5,Ob.holds])) (he:Sim (can (I5 rr.1)) (can dfl):=by subst hB; exact zr) (hs:v8 s [(k0,⟨b,ty,cs⟩)] [(k0,z6 J E M Q q.note)]:=by subst hB; exact ⟨rfl,⟨_,rfl,zl⟩,trivial⟩) :
  bodyPost P fn (U4 m w0 [(k0,⟨b,ty,cs⟩)] (fun x => kT k0 J E enc dfl r x)) .ret a w/\bodyPost P fn (U4 m w0 [(k0,⟨b,ty,cs⟩)] (fun x => kT k0 J E enc dfl r x)) .normal a w:=BX hT h hfn hr ho x hr0 hM hq he hs
theorem rdd (hB:B=std) (hT:k4 P T) (h:b4 ⟨m,w0,ats [(k0,⟨b,ty,cs⟩)],[],Kk⟩ s a w) {sets:List (Nat × List AV)} (hfn:fn.results=rs.toArray:=by rfl) (hr:P9 T s rs=some rr:=by first | rfl | (conv => lhs; cbv)) (ho:b5 P Kk rr.2:=by first | exact trivial | (subst hB; simp [b5,Ob.holds])) (he:Sim (can (I5 rr.1)) (can dfl):=by subst hB; exact zr) (hs:v8 s [(k0,⟨b,ty,cs⟩)] sets:=by subst hB; exact ⟨rfl,⟨_,rfl,zl⟩,trivial⟩) :
  bodyPost P fn (U4 m w0 [(k0,⟨b,ty,cs⟩)] (fun _ => ⟨dfl,sets,[]⟩)) .ret a w/\bodyPost P fn (U4 m w0 [(k0,⟨b,ty,cs⟩)] (fun _ => ⟨dfl,sets,[]⟩)) .normal a w:=vC hT h hfn hr ho he hs
end
theorem yM (b:Nat) (J:i7) (E:s6) (hE:E.n<=1000000) (N:Nat) (q:B5) (t:Nt) (x:pO):u2 Tryz.prog 39 [.ptr 0 b 0,BS x] [(0,⟨b,105,D3 J E N t⟩)] (fun _ => ⟨i8,[(0,z6 J E N ⟨4,⟨0,0⟩,0,zRA,x⟩ t)],[]⟩):=by
 intro m w hm hargs hpre;refine enX 17 hm hpre hargs Tryz.func39 fun B hB a0 hF => ?_
 refine wp_seq (rg hB a6 [0,3] [0,3] [] hF fun X0 a0 w1 hF => ?_);refine wp_seq (rg hB a6 [8,0,3] [0,3] [] hF fun X1 a0 w1 hF => ?_);refine j1 hF rfl (fun hF => ?_);refine wp_seq (rg hB a6 [0,3] [0,3] [] hF fun X2 a0 w1 hF => ?_);refine rg hB a6 [] [0] [] hF fun X3 a0 w1 hF => ?_
 refine (rx hB a6 hF f4 [] (hs:=?_)).2;subst hB; exact ⟨rfl,⟨_,rfl,⟨zr,zr,zr,zr,zr,zr,zr,zr,zr,zr,zr,zr,zr,zr,zr,zr,zr,zr,zr,zr,zr,zr,zr,zq0,zr,zr,zr,zr,zr,zr,zr,zr,zr,zr,zr,zr,zr,zr,zr,trivial⟩⟩,trivial⟩
theorem vM (k0 b:Nat) (J:i7) (E:s6) (hE:E.n<=1000000) (N:Nat) (q:B5) (t:Nt) (x:pO):u2 Tryz.prog 39 [.ptr k0 b 0,BS x] [(k0,⟨b,105,D3 J E N t⟩)] (fun _ => ⟨i8,[(k0,z6 J E N ⟨4,⟨0,0⟩,0,zRA,x⟩ t)],[]⟩):=
 u2.re (yM b J E hE N q t x) ⟨Sim.ptr,zr,trivial⟩ rfl fun x => ⟨rfl,rfl,zr,rfl⟩
theorem rP (b:Nat) (J:i7) (E:s6) (hE:E.n<=1000000) (N:Nat) (q:B5) (t:Nt) (x:pO):K6 39 0 b J E N q t [BS x] (i8):=by
 intro m w hm hargs hpre;refine enX 17 hm hpre hargs Tryz.func39 fun B hB a0 hF => ?_
 refine wp_seq (rg hB a6 [0,3] [0,3] [] hF fun X0 a0 w1 hF => ?_);refine wp_seq (rg hB a6 [8,0,3] [0,3] [] hF fun X1 a0 w1 hF => ?_);refine j0 hF rfl (fun hF => ?_);exact wp_skip ((rdd hB a6 hF).2)
theorem Ak (b:Nat) (J:i7) (hJ:k8 J) (E:s6) (hE:E.n<=1000000) (N:Nat) (p:Pst) (hR:Rel E N p) (hp:i6 p) (hn:p.n<=1000000) (q:B5):D6 119 0 b J E N p [B8 q] (s5) (T2) (U3 (J.budget - E.n) q.absQ p):=by
 intro m w hm hargs hpre;have hN0:N=E.n - p.n:=by have:=hR.n; omega
 obtain ⟨ha,hbu,_,_,_⟩:=hJ;have hmx:maxLen=9223372036854775807:=rfl;obtain ⟨hq1,hq2⟩:=yK (J:=J) hR;have hrn:=hR.n;have e1:IntKind.i64.wrap ((N:Int) + 1)=((N + 1:Nat):Int):=by rw [r7 (by omega) (by omega)]; omega
 have e2:IntKind.i64.wrap (((N + 1:Nat):Int) - 1)=(N:Int):=by rw [r7 (by omega) (by omega)]; omega
 refine enX 64 hm hpre hargs Tryz.func119 fun B hB a0 hF => ?_
 refine wp_seq (rg hB a6 [0,3,4] [0,3,4] [] hF fun X0 a0 w1 hF => ?_);refine wp_seq (wp_seq (rg hB a6 [8,0,3,4] [0,3,4] [] hF fun X1 a0 w1 hF => ?_));refine j0 hF rfl (fun hF => ?_);refine wp_skip (wp_seq (wp_seq (drg hB a6 [19,0,3,4] [0,3,4] [] hF fun X3 a0 w1 hF => ?_)));apply a7 hF rfl<;>intro hb hF
 .have ho:J.budget<=(N:Int):=by subst hB; simpa [std,a8] using hb
  have SO:u2 Tryz.prog 39 [.ptr 0 b 0,.agg [.int .i64 p.note.code,.bool (.v p.note.had),.str p.note.val,.sl none none 0 0 2 (fun _ => []),.int .u64 0,.bool .ff]] [(0,⟨b,105,D3 J E N p.note⟩)] (fun _ => ⟨i8,[(0,z6 J E N ⟨4,⟨0,0⟩,0,zRA,⟨p.note.code,p.note.had,p.note.val,none,0,0,fun _ => r8,0,false⟩⟩ p.note)],[]⟩):=u2.re (vM 0 b J E hE N q p.note ⟨p.note.code,p.note.had,p.note.val,none,0,0,fun _ => r8,0,false⟩) ⟨zr,Sim.agg ⟨zr,zr,zr,zq0,zr,Sim.ff,trivial⟩,trivial⟩ rfl fun x => ⟨rfl,rfl,zr,rfl⟩
  have O1:=SO;refine wp_seq (rg hB a6 [4] [0,4] [(5,.x fun _ => ⟨i8,[(0,z6 J E N ⟨4,⟨0,0⟩,0,zRA,⟨p.note.code,p.note.had,p.note.val,none,0,0,fun _ => r8,0,false⟩⟩ p.note)],[]⟩)] hF fun X4 a0 w1 hF => ?_);refine wp_seq (rg hB a6 [4] [0,4] [] hF fun X5 a0 w1 hF => ?_);refine wp_ret ((rst hB a6 hF (q:=p) (wq:=(Bi p)) ⟨0,fun _ => none,fun _ => 0,fun _ => .empty⟩ (by unfold U3; rw [if_neg (by omega),if_pos (hq1.2 ho)]) hN0 rfl (hs:=?_)).1);subst hB; exact ⟨rfl,⟨_,rfl,⟨zr,zr,zr,zr,zr,zr,zr,zr,zr,zr,zr,zr,zr,zr,zr,zr,zr,zr,zr,zr,zr,zr,zr,zq0,zr,zr,zr,zr,zr,zr,zq0,zr,zr,zr,zr,zr,zr,zr,zr,trivial⟩⟩,trivial⟩
 have ho:¬ J.budget<=(N:Int):=by subst hB; simpa [std,a8] using hb
 refine wp_skip (wp_seq (wp_seq (drg hB a6 [36,0,3,4] [0,3,4] [] hF fun X6 a0 w1 hF => ?_)));apply a7 hF rfl<;>intro hb hF
 .have hl:¬ 0 < p.n:=by
   have:(N:Int) ≥ (E.n:Int):=by subst hB; simpa [std,a8] using hb
   omega
  refine wp_seq (rg hB a6 [0,3,4] [0,3,4] [] hF fun X7 a0 w1 hF => ?_);refine wp_seq (rg hB a6 [4] [0,4] [] hF fun X8 a0 w1 hF => ?_);refine wp_seq (rg hB a6 [4] [0,4] [] hF fun X9 a0 w1 hF => ?_);refine wp_ret ((rst hB a6 hF (q:=p) (wq:=q.absQ) ⟨0,fun i => if i=1 then q.x.A else q.s.A,fun i => if i=1 then q.x.c else q.s.c,fun _ => .empty⟩ (by unfold U3; rw [if_neg (by omega),if_neg (fun h => ho (hq1.1 h))]) hN0 rfl (hs:=?_)).1);subst hB; exact ⟨rfl,⟨_,rfl,⟨zr,zr,zr,zr,zr,zr,zr,zr,zr,zr,zr,zr,zr,zr,zr,zr,zr,zr,zr,zr,zr,zr,zr,je _ _ _ _,zr,zr,zr,zr,zr,zr,je _ _ _ _,zr,zr,zr,zr,zr,zr,zr,zr,trivial⟩⟩,trivial⟩
 have hl:0 < p.n:=by
  have:¬ (N:Int) ≥ (E.n:Int):=by subst hB; simpa [std,a8] using hb
  omega
 refine wp_skip (wp_seq (rg hB a6 [0,4] [0,4] [] hF fun X10 a0 w1 hF => ?_));apply wp_seq;refine drg hB a6 [4] [0,4] [] hF (hob:=by intro X; subst hB; simp only [b5,Ob.holds,BE.den]<;>and_intros<;>repeat first | trivial | rfl | exact ⟨(show (0:Int)<=IntKind.i64.wrap (IntKind.i64.wrap ((N:Int) + 1) - 1) by rw [e1,e2]; omega),(show IntKind.i64.wrap (IntKind.i64.wrap ((N:Int) + 1) - 1) < (E.n:Int) by rw [e1,e2]; omega)⟩ | exact (show (0:Int)<=IntKind.i64.wrap (IntKind.i64.wrap ((N:Int) + 1) - 1) by rw [e1,e2]; omega) | exact (show IntKind.i64.wrap (IntKind.i64.wrap ((N:Int) + 1) - 1) < (E.n:Int) by rw [e1,e2]; omega) | exact (fun _ _ => by kernel_rfl) | refine ⟨?_,?_⟩ | intro h | exact Int.le_refl _ | decide | omega) fun X11 a0 w1 hF => ?_
 refine wp_ret ((rgo hB a6 hF (v:=(p.g 0)) (q:=p.tl) (by unfold U3; rw [if_pos (by omega)]) (by show N + 1=E.n - (p.n - 1); omega) (he:=?_) (hs:=?_)).1)
 .subst hB
  rw [hR.g 0]
  show Sim (.agg (Z0 (E.f (IntKind.i64.wrap (IntKind.i64.wrap ((N:Int) + 1) - 1)).toNat))) (s5 (E.f (N + 0)))
  rw [e1,e2];exact zr
 subst hB;refine ⟨rfl,⟨_,rfl,⟨zr,zr,zr,zr,zr,zr,zr,zr,zr,zr,zr,zr,zr,zr,zr,zr,?_,zr,zr,zr,zr,zr,zr,zr,zr,zr,zr,zr,zr,zr,zr,zr,zr,zr,zr,zr,zr,zr,zr,trivial⟩⟩,trivial⟩
 show Sim (.int .i64 (IntKind.i64.wrap ((N:Int) + 1))) _
 rw [e1]; exact zr
theorem qV (k0 b:Nat) (J:i7) (hJ:k8 J) (E:s6) (hE:E.n<=1000000) (N:Nat) (p:Pst) (hR:Rel E N p) (hp:i6 p) (hn:p.n<=1000000) (q:B5):D6 119 k0 b J E N p [B8 q] (s5) (T2) (U3 (J.budget - E.n) q.absQ p):=D6.re (Ak b J hJ E hE N p hR hp hn q) (by repeat (first | exact trivial | refine ⟨zr,?_⟩))
theorem Al (b:Nat) (J:i7) (E:s6) (hE:E.n<=1000000) (N:Nat) (q:B5) (t:Nt) (r:B5):K6 119 0 b J E N q t [B8 r] (T2):=by
 intro m w hm hargs hpre;refine enX 64 hm hpre hargs Tryz.func119 fun B hB a0 hF => ?_
 refine wp_seq (rg hB a6 [0,3,4] [0,3,4] [] hF fun X0 a0 w1 hF => ?_);refine wp_seq (wp_seq (rg hB a6 [8,0,3,4] [0,3,4] [] hF fun X1 a0 w1 hF => ?_));refine j1 hF rfl (fun hF => ?_);refine wp_seq (rg hB a6 [4] [0,4] [] hF fun X2 a0 w1 hF => ?_);exact wp_ret ((rdd hB a6 hF).1)
theorem xy (k0 b:Nat) (J:i7) (E:s6) (hE:E.n<=1000000) (N:Nat) (q:B5) (t:Nt) (r:B5):K6 119 k0 b J E N q t [B8 r] (T2):=K6.re (Al b J E hE N q t r) (by repeat (first | exact trivial | refine ⟨zr,?_⟩))
theorem Af (k0 b:Nat) (J:i7) (hJ:k8 J) (E:s6) (hE:E.n<=1000000) (N:Nat) (p:Pst) (hR:Rel E N p) (hp:i6 p) (hn:p.n<=1000000) (l:Lab):D6 119 k0 b J E N p [.agg [.int .i64 1,.int .i64 l.len,.int .u64 l.bits,.int .u64 0,.int .i64 0,.sl none none 0 0 2 (fun _ => []),.int .i64 0,.int .u64 0,.int .u64 0,.int .i64 0,.bool .ff,.str ⟨#[]⟩,.sl none none 0 0 2 (fun _ => []),.int .u64 0,.bool .ff]] s5 T2 (R1 (J.budget - E.n) l p):=
 D6.re (qV 0 b J hJ E hE N p hR hp hn ⟨1,l,0,zRA,jo⟩) ⟨Sim.agg ⟨zr,zr,zr,zr,zr,zq0,zr,zr,zr,zr,Sim.ff,zr,zq0,zr,Sim.ff,trivial⟩,trivial⟩
theorem Ag (k0 b:Nat) (J:i7) (E:s6) (hE:E.n<=1000000) (N:Nat) (q:B5) (t:Nt) (l:Lab):K6 119 k0 b J E N q t [.agg [.int .i64 1,.int .i64 l.len,.int .u64 l.bits,.int .u64 0,.int .i64 0,.sl none none 0 0 2 (fun _ => []),.int .i64 0,.int .u64 0,.int .u64 0,.int .i64 0,.bool .ff,.str ⟨#[]⟩,.sl none none 0 0 2 (fun _ => []),.int .u64 0,.bool .ff]] T2:=
 K6.re (xy 0 b J E hE N q t ⟨1,l,0,zRA,jo⟩) ⟨Sim.agg ⟨zr,zr,zr,zr,zr,zq0,zr,zr,zr,zr,Sim.ff,zr,zq0,zr,Sim.ff,trivial⟩,trivial⟩
theorem Ai (k0 b:Nat) (J:i7) (hJ:k8 J) (E:s6) (hE:E.n<=1000000) (N:Nat) (p:Pst) (hR:Rel E N p) (hp:i6 p) (hn:p.n<=1000000) (l:Lab) (v:Int) (x:RA):D6 119 k0 b J E N p [.agg [.int .i64 2,.int .i64 l.len,.int .u64 l.bits,.int .u64 v,.int .i64 x.r.kd,.sl none x.A x.r.n x.c 2 (fun i => itC (x.r.f i)),.int .i64 x.r.nx.len,.int .u64 x.r.nx.bits,.int .u64 x.r.mrk,.int .i64 0,.bool .ff,.str ⟨#[]⟩,.sl none none 0 0 2 (fun _ => []),.int .u64 0,.bool .ff]] s5 T2 (U3 (J.budget - E.n) ⟨2,l,v,x.r.abs,dj⟩ p):=
 D6.re (qV 0 b J hJ E hE N p hR hp hn ⟨2,l,v,x,jo⟩) ⟨Sim.agg ⟨zr,zr,zr,zr,zr,zr,zr,zr,zr,zr,Sim.ff,zr,zq0,zr,Sim.ff,trivial⟩,trivial⟩
theorem Aj (k0 b:Nat) (J:i7) (E:s6) (hE:E.n<=1000000) (N:Nat) (q:B5) (t:Nt) (l:Lab) (v:Int) (x:RA):K6 119 k0 b J E N q t [.agg [.int .i64 2,.int .i64 l.len,.int .u64 l.bits,.int .u64 v,.int .i64 x.r.kd,.sl none x.A x.r.n x.c 2 (fun i => itC (x.r.f i)),.int .i64 x.r.nx.len,.int .u64 x.r.nx.bits,.int .u64 x.r.mrk,.int .i64 0,.bool .ff,.str ⟨#[]⟩,.sl none none 0 0 2 (fun _ => []),.int .u64 0,.bool .ff]] T2:=
 K6.re (xy 0 b J E hE N q t ⟨2,l,v,x,jo⟩) ⟨Sim.agg ⟨zr,zr,zr,zr,zr,zr,zr,zr,zr,zr,Sim.ff,zr,zq0,zr,Sim.ff,trivial⟩,trivial⟩
theorem Ah (k0 b:Nat) (J:i7) (hJ:k8 J) (E:s6) (hE:E.n<=1000000) (N:Nat) (p:Pst) (hR:Rel E N p) (hp:i6 p) (hn:p.n<=1000000) (l:Lab) (v:Int):D6 119 k0 b J E N p [.agg [.int .i64 3,.int .i64 l.len,.int .u64 l.bits,.int .u64 v,.int .i64 0,.sl none none 0 0 2 (fun _ => []),.int .i64 0,.int .u64 0,.int .u64 0,.int .i64 0,.bool .ff,.str ⟨#[]⟩,.sl none none 0 0 2 (fun _ => []),.int .u64 0,.bool .ff]] s5 T2 (U3 (J.budget - E.n) ⟨3,l,v,i9,dj⟩ p):=
 D6.re (qV 0 b J hJ E hE N p hR hp hn ⟨3,l,v,zRA,jo⟩) ⟨Sim.agg ⟨zr,zr,zr,zr,zr,zq0,zr,zr,zr,zr,Sim.ff,zr,zq0,zr,Sim.ff,trivial⟩,trivial⟩
theorem zQ (b:Nat) (J:i7) (hJ:k8 J) (E:s6) (hE:E.n<=1000000) (N:Nat) (p:Pst) (hR:Rel E N p) (hp:i6 p) (hn:p.n<=1000000) (l:Lab):D6 83 0 b J E N p [b6 l] (s5) (T2) (R1 (J.budget - E.n) l p):=by
 intro m w hm hargs hpre;have hN0:N=E.n - p.n:=by have:=hR.n; omega
 refine enX 9 hm hpre hargs Tryz.func83 fun B hB a0 hF => ?_
 refine wp_seq (rg hB a6 [0,3,4] [0,3,4] [] hF fun X0 a0 w1 hF => ?_);apply wp_seq
 rcases (Af 0 b J hJ E hE N p hR hp hn l).two (bz _ _ _) hp hn hR with ⟨g1,p1,N1,hm1,hs1,hp1,hn1,hR1,hN1,S1⟩ | ⟨wq1,p1,N1,W1,hm1,hs1,hN1,hW1,S1⟩
 .have O1:=S1
  refine rg hB a6 [4] [0,4] [(3,lc J E (s5 g1) N1 p1)] hF fun X1 a0 w1 hF => ?_
  exact wp_ret ((rgo hB a6 hF (v:=g1) (q:=p1) (by simp [Rs.bind,hm1]) hN1).1)
 have O1:=S1;refine rg hB a6 [4] [0,4] [(3,sc J E (.agg [.int .i64 0,.int .u64 0,.bool .ff,.int .i64 0,.sl none none 0 0 2 (fun _ => []),.int .i64 0,.int .u64 0,.int .u64 0]) N1 W1 p1.note)] hF fun X1 a0 w1 hF => ?_
 exact wp_ret ((rst hB a6 hF (q:=p1) (wq:=wq1) (X1 3) (by simp [Rs.bind,hm1]) hN1 (hW1 _)).1)
theorem P7 (k0 b:Nat) (J:i7) (hJ:k8 J) (E:s6) (hE:E.n<=1000000) (N:Nat) (p:Pst) (hR:Rel E N p) (hp:i6 p) (hn:p.n<=1000000) (l:Lab):D6 83 k0 b J E N p [b6 l] (s5) (T2) (R1 (J.budget - E.n) l p):=D6.re (zQ b J hJ E hE N p hR hp hn l) (by repeat (first | exact trivial | refine ⟨zr,?_⟩))
theorem zR (b:Nat) (J:i7) (E:s6) (hE:E.n<=1000000) (N:Nat) (q:B5) (t:Nt) (l:Lab):K6 83 0 b J E N q t [b6 l] (T2):=by
 intro m w hm hargs hpre;refine enX 9 hm hpre hargs Tryz.func83 fun B hB a0 hF => ?_
 refine wp_seq (rg hB a6 [0,3,4] [0,3,4] [] hF fun X0 a0 w1 hF => ?_);have O1:=Ag 0 b J E hE N q t l;refine wp_seq (rg hB a6 [4] [0,4] [(3,dc J E (.agg [.int .i64 0,.int .u64 0,.bool .ff,.int .i64 0,.sl none none 0 0 2 (fun _ => []),.int .i64 0,.int .u64 0,.int .u64 0]) N q t)] hF fun X1 a0 w1 hF => ?_);exact wp_ret ((rdd hB a6 hF).1)
theorem dP (k0 b:Nat) (J:i7) (E:s6) (hE:E.n<=1000000) (N:Nat) (q:B5) (t:Nt) (l:Lab):K6 83 k0 b J E N q t [b6 l] (T2):=K6.re (zR b J E hE N q t l) (by repeat (first | exact trivial | refine ⟨zr,?_⟩))
theorem Ac (b:Nat) (J:i7) (hJ:k8 J) (E:s6) (hE:E.n<=1000000) (N:Nat) (p:Pst) (hR:Rel E N p) (hp:i6 p) (hn:p.n<=1000000) (l:Lab) (v:Int) (x:RA):D6 60 0 b J E N p [b6 l,.int .u64 v,u7 x] (fun d => .bool (.v d)) (.bool .ff) (R9 (J.budget - E.n) l v x.r.abs p):=by
 intro m w hm hargs hpre;have hN0:N=E.n - p.n:=by have:=hR.n; omega
 refine enX 26 hm hpre hargs Tryz.func60 fun B hB a0 hF => ?_
 refine wp_seq (rg hB a6 [0,2,5,7] [0,5,7] [] hF fun X0 a0 w1 hF => ?_);apply wp_seq
 rcases (Ai 0 b J hJ E hE N p hR hp hn l v x).two (bz _ _ _) hp hn hR with ⟨g1,p1,N1,hm1,hs1,hp1,hn1,hR1,hN1,S1⟩ | ⟨wq1,p1,N1,W1,hm1,hs1,hN1,hW1,S1⟩
 .have O1:=S1
  refine rg hB a6 [0,9] [0,9] [(5,lc J E (s5 g1) N1 p1)] hF fun X1 a0 w1 hF => ?_
  refine wp_seq (rg hB a6 [8] [0] [] hF fun X2 a0 w1 hF => ?_);refine wp_ret ((rgo hB a6 hF (v:=decide (g1.code=0)) (q:=p1) (by simp [R9,Rs.bind,hm1]) hN1 (he:=?_)).1);subst hB; exact zr
 have O1:=S1;refine rg hB a6 [0,9] [0,9] [(5,sc J E (.agg [.int .i64 0,.int .u64 0,.bool .ff,.int .i64 0,.sl none none 0 0 2 (fun _ => []),.int .i64 0,.int .u64 0,.int .u64 0]) N1 W1 p1.note)] hF fun X1 a0 w1 hF => ?_
 refine wp_seq (rg hB a6 [8] [0] [] hF fun X2 a0 w1 hF => ?_);exact wp_ret ((rst hB a6 hF (q:=p1) (wq:=wq1) (X1 5) (by simp [R9,Rs.bind,hm1]) hN1 (hW1 _)).1)
theorem dQ (k0 b:Nat) (J:i7) (hJ:k8 J) (E:s6) (hE:E.n<=1000000) (N:Nat) (p:Pst) (hR:Rel E N p) (hp:i6 p) (hn:p.n<=1000000) (l:Lab) (v:Int) (x:RA):D6 60 k0 b J E N p [b6 l,.int .u64 v,u7 x] (fun d => .bool (.v d)) (.bool .ff) (R9 (J.budget - E.n) l v x.r.abs p):=D6.re (Ac b J hJ E hE N p hR hp hn l v x) (by repeat (first | exact trivial | refine ⟨zr,?_⟩))
theorem Ad (b:Nat) (J:i7) (E:s6) (hE:E.n<=1000000) (N:Nat) (q:B5) (t:Nt) (l:Lab) (v:Int) (x:RA):K6 60 0 b J E N q t [b6 l,.int .u64 v,u7 x] (.bool .ff):=by
 intro m w hm hargs hpre;refine enX 26 hm hpre hargs Tryz.func60 fun B hB a0 hF => ?_
 refine wp_seq (rg hB a6 [0,2,5,7] [0,5,7] [] hF fun X0 a0 w1 hF => ?_);have O1:=Aj 0 b J E hE N q t l v x;refine wp_seq (rg hB a6 [0,9] [0,9] [(5,dc J E (.agg [.int .i64 0,.int .u64 0,.bool .ff,.int .i64 0,.sl none none 0 0 2 (fun _ => []),.int .i64 0,.int .u64 0,.int .u64 0]) N q t)] hF fun X1 a0 w1 hF => ?_);refine wp_seq (rg hB a6 [8] [0] [] hF fun X2 a0 w1 hF => ?_);exact wp_ret ((rdd hB a6 hF).1)
theorem Dr (k0 b:Nat) (J:i7) (E:s6) (hE:E.n<=1000000) (N:Nat) (q:B5) (t:Nt) (l:Lab) (v:Int) (x:RA):K6 60 k0 b J E N q t [b6 l,.int .u64 v,u7 x] (.bool .ff):=K6.re (Ad b J E hE N q t l v x) (by repeat (first | exact trivial | refine ⟨zr,?_⟩))
theorem zZ (b:Nat) (J:i7) (hJ:k8 J) (E:s6) (hE:E.n<=1000000) (N:Nat) (p:Pst) (hR:Rel E N p) (hp:i6 p) (hn:p.n<=1000000) (l:Lab) (v:Int):D6 137 0 b J E N p [b6 l,.int .u64 v] (fun d => .bool (.v d)) (.bool .ff) (io (J.budget - E.n) l v p):=by
 intro m w hm hargs hpre;have hN0:N=E.n - p.n:=by have:=hR.n; omega
 refine enX 23 hm hpre hargs Tryz.func137 fun B hB a0 hF => ?_
 refine wp_seq (rg hB a6 [0,2,4] [0,4] [] hF fun X0 a0 w1 hF => ?_);apply wp_seq
 rcases (Ah 0 b J hJ E hE N p hR hp hn l v).two (bz _ _ _) hp hn hR with ⟨g1,p1,N1,hm1,hs1,hp1,hn1,hR1,hN1,S1⟩ | ⟨wq1,p1,N1,W1,hm1,hs1,hN1,hW1,S1⟩
 .have O1:=S1
  refine rg hB a6 [0,7] [0,7] [(4,lc J E (s5 g1) N1 p1)] hF fun X1 a0 w1 hF => ?_
  refine wp_seq (rg hB a6 [6] [0] [] hF fun X2 a0 w1 hF => ?_);refine wp_ret ((rgo hB a6 hF (v:=decide (g1.code=0)) (q:=p1) (by simp [io,Rs.bind,hm1]) hN1 (he:=?_)).1);subst hB; exact zr
 have O1:=S1;refine rg hB a6 [0,7] [0,7] [(4,sc J E (.agg [.int .i64 0,.int .u64 0,.bool .ff,.int .i64 0,.sl none none 0 0 2 (fun _ => []),.int .i64 0,.int .u64 0,.int .u64 0]) N1 W1 p1.note)] hF fun X1 a0 w1 hF => ?_
 refine wp_seq (rg hB a6 [6] [0] [] hF fun X2 a0 w1 hF => ?_);exact wp_ret ((rst hB a6 hF (q:=p1) (wq:=wq1) (X1 4) (by simp [io,Rs.bind,hm1]) hN1 (hW1 _)).1)
theorem qT (k0 b:Nat) (J:i7) (hJ:k8 J) (E:s6) (hE:E.n<=1000000) (N:Nat) (p:Pst) (hR:Rel E N p) (hp:i6 p) (hn:p.n<=1000000) (l:Lab) (v:Int):D6 137 k0 b J E N p [b6 l,.int .u64 v] (fun d => .bool (.v d)) (.bool .ff) (io (J.budget - E.n) l v p):=D6.re (zZ b J hJ E hE N p hR hp hn l v) (by repeat (first | exact trivial | refine ⟨zr,?_⟩))
theorem E7 (g:l5) (k:Int):j8 Tryz.prog 87 [s5 g,.int .i64 k] (fun _ => .bool (.v (gk g k))):=by
 intro m w hm hargs;refine en 14 hm hargs Tryz.func87 fun B hB a0 hF => ?_
 refine wp_seq (rg hB a6 [1,2] [2] [] hF fun X0 a0 w1 hF => ?_);refine wp_seq (rg hB a6 [4] [] [] hF fun X1 a0 w1 hF => ?_);refine wp_ret ((rsi hB a6 hF f4 (he:=?_)));subst hB;refine Sim.bool ?_
 show (if g.has=true then decide (g.x.r.kd=k) else false)=_
 unfold gk; cases g.has<;>rfl
theorem iq:j8 Tryz.prog 163 [] (fun _ => wM):=by
 intro m w hm hargs;have SN:=fJ;simp only [b6,B0] at SN;refine en 3 hm hargs Tryz.func163 fun B hB a0 hF => ?_
 refine wp_seq (rg hB a6 [0] [0] [] hF fun X0 a0 w1 hF => ?_);have O1:=SN;refine wp_seq (rg hB a6 [0] [0] [(0,.r fun _ => .agg [.int .i64 (-1),.int .u64 0])] hF fun X1 a0 w1 hF => ?_);exact wp_ret ((rsp hB a6 hF f4).1)
theorem ip (k:Int):j8 Tryz.prog 87 [T2,.int .i64 k] (fun _ => .bool .ff):=
 have h:j8 Tryz.prog 87 [T2,.int .i64 k] (fun _ => .bool (.v (gk tf k))):=(E7 tf k).sim ⟨Sim.agg ⟨zr,zr,Sim.ff,zr,zq0,zr,zr,zr,trivial⟩,zr,trivial⟩
 h.res fun _ => Sim.bool rfl
theorem sL (k0 b:Nat) (J:i7) (hJ:k8 J) (E:s6) (hE:E.n<=1000000) (N:Nat) (p:Pst) (hR:Rel E N p) (hp:i6 p) (hn:p.n<=1000000) (l:Lab) (v:Int):D6 60 k0 b J E N p [b6 l,.int .u64 v,wM] (fun d => .bool (.v d)) (.bool .ff) (R9 (J.budget - E.n) l v dH p):=
 D6.re (dQ 0 b J hJ E hE N p hR hp hn l v ⟨none,0,dH.rn⟩) ⟨zr,zr,Sim.agg ⟨zr,P8,zr,zr,zr,trivial⟩,trivial⟩
theorem sM (k0 b:Nat) (J:i7) (E:s6) (hE:E.n<=1000000) (N:Nat) (q:B5) (t:Nt) (l:Lab) (v:Int):K6 60 k0 b J E N q t [b6 l,.int .u64 v,wM] (.bool .ff):=
 K6.re (Dr 0 b J E hE N q t l v ⟨none,0,dH.rn⟩) ⟨zr,zr,Sim.agg ⟨zr,P8,zr,zr,zr,trivial⟩,trivial⟩
def fzJ:Fz -> Int
 | .over => -1
 | .unfit => 0
 | .fr _ => 1
def sI (z:Fz):AV:=.tup [u7 (fzR z),.int .i64 (fzJ z)]
theorem Fl {z:Fz} (h:fzJ z < 0):z = .over:=by cases z<;>first | rfl | (simp [fzJ] at h)
theorem Fk {z:Fz} (h:fzJ z=0):z = .unfit:=by cases z<;>first | rfl | (simp [fzJ] at h)
theorem CY {z:Fz} (h0:¬ fzJ z < 0) (h1:¬ fzJ z=0):z = .fr (fzR z):=by cases z<;>first | rfl | exact absurd rfl h1 | exact absurd (by decide) h0
theorem uM:U5 zRA:=⟨⟨by decide,by decide⟩,fun i hi => absurd hi (Nat.not_lt_zero _),by decide⟩
theorem zS (b:Nat) (J:i7) (hJ:k8 J) (E:s6) (hE:E.n<=1000000) (N:Nat) (p:Pst) (hR:Rel E N p) (hp:i6 p) (hn:p.n<=1000000) (l:Lab) (v:Int) (d:Lab) (n:Nat) (hf:p.n < n):D6 164 0 b J E N p [b6 l,.int .u64 v,b6 d] (sI) (.tup [.agg [.int .i64 0,.sl none none 0 0 2 (fun _ => []),.int .i64 0,.int .u64 0,.int .u64 0],.int .i64 (-1)]) (L7 (J.budget - E.n) l v d n p):=by
 intro m w hm hargs hpre;have hN0:N=E.n - p.n:=by have:=hR.n; omega
 refine enX 76 hm hpre hargs Tryz.func164 fun B hB a0 hF => ?_
 refine wp_seq (rg hB a6 [0,2,5,7,8] [0,5,7,8] [] hF fun X0 a0 w1 hF => ?_);refine wp_seq (wp_block (k9 (ι:=LSt) (fun q => []) (fun q => [(0,⟨b,105,lsC J E q⟩)]) (fun q => []) (fun q => match q with | .go a r M => L7 (J.budget - E.n) l v d n p=L7 (J.budget - E.n) l v d a r/\i6 r/\r.n<=1000000/\Rel E M r/\r.n < a/\r.n<=p.n | .dn r M => False | .sp M Q u => ∃ (X:i3) (wq:Wq) (pp:Pst),L7 (J.budget - E.n) l v d n p = .stop wq pp/\M=E.n - pp.n/\Q=wqA X wq/\u=pp.note) (fun q => lsM q) (.go n p N) ⟨rfl,hp,hn,hR,(by skip; omega),(by skip; omega)⟩ hF ?_))
 rintro q hJ a0 w1 hF
 rcases q with ⟨nn0,p0,N0⟩ | ⟨p9,N9⟩ | ⟨N0,Q0,t0⟩
 .dsimp only [lsC,lsB] at hJ hF
  obtain ⟨hrun0,hp0,hn0,hR0,hf0,hle0⟩:=hJ;obtain ⟨m0,rfl⟩:∃ n2,nn0=n2 + 1:=⟨nn0 - 1,by omega⟩
  have hN0:N0=E.n - p0.n:=by have:=hR0.n; omega
  refine wp_seq (wp_seq (rg hB a6 [17,0,2,5,7,8] [0,5,7,8] [] hF fun X1 a0 w1 hF => ?_));refine j1 hF rfl (fun hF => ?_);refine wp_skip (wp_block (wp_seq ?_))
  rcases (P7 0 b J hJ E hE N0 p0 hR0 hp0 hn0 d).two (j2 _ _ _) hp0 hn0 hR0 with ⟨g1,p2,N2,hm2,hs2,hp2,hn2,hR2,hN2,S2⟩ | ⟨wq2,p2,N2,W2,hm2,hs2,hN2,hW2,S2⟩
  .have hl2:=z8 hm2
   have hg2:=hp0.get hm2;have O1:=S2;refine rg hB a6 [0,2,5,7,8,10] [0,5,7,8,10] [(2,lc J E (s5 g1) N2 p2)] hF fun X2 a0 w1 hF => ?_
   refine wp_seq (wp_seq (rg hB a6 [24,0,2,5,7,8,10] [0,5,7,8,10] [] hF fun X3 a0 w1 hF => ?_));refine j0 hF rfl (fun hF => ?_);obtain ⟨q5,hq5⟩:=eqv (gk g1 1);obtain ⟨r5,hr5⟩:=eqv (gk g1 5);refine wp_skip (wp_seq (wp_seq ?_));refine rg hB a6 [33,0,2,5,7,8,10] [0,5,7,8,10] [(1,.r fun _ => .bool (.v q5)),(5,.r fun _ => .bool (.v r5))] hF (hob:=by intro X; subst hB; simp only [b5,Ob.holds,BE.den]<;>and_intros<;>repeat first | trivial | rfl | exact (by rw [hq5]; exact E7 g1 1) | exact by rw [hq5]; exact E7 g1 1 | exact (by rw [hr5]; exact E7 g1 5) | exact by rw [hr5]; exact E7 g1 5 | exact (fun _ _ => by kernel_rfl) | refine ⟨?_,?_⟩ | intro h | exact Int.le_refl _ | decide | omega) fun X5 a0 w1 hF => ?_
   apply a7 hF rfl<;>intro hb hF
   .have t5:(gk g1 1 || gk g1 5)=false:=by subst hB; rw [<-hq5,<-hr5]; revert hb; cases q5<;>cases r5<;>simp [std]
    refine wp_seq (rg hB a6 [8,9] [0,8] [] hF fun X6 a0 w1 hF => ?_);refine wp_ret ((rgo hB a6 hF (v:=Fz.unfit) (q:=p2) (by simp [Rs.bind,hrun0,L7,hm2,t5]) hN2 (he:=?_)).1);subst hB; exact Sim.tup ⟨Sim.agg ⟨zr,P8,zr,zr,zr,trivial⟩,zr,trivial⟩
   have t5:(gk g1 1 || gk g1 5)=true:=by subst hB; rw [<-hq5,<-hr5]; revert hb; cases q5<;>cases r5<;>simp [std]
   obtain ⟨q7,hq7⟩:=eqv (gk g1 5);refine wp_skip (wp_seq (wp_seq ?_));refine rg hB a6 [43,0,2,5,7,8,10] [0,5,7,8,10] [(1,.r fun _ => .bool (.v q7))] hF (hob:=by intro X; subst hB; simp only [b5,Ob.holds,BE.den]<;>and_intros<;>repeat first | trivial | rfl | exact (by rw [hq7]; exact E7 g1 5) | exact by rw [hq7]; exact E7 g1 5 | exact (fun _ _ => by kernel_rfl) | refine ⟨?_,?_⟩ | intro h | exact Int.le_refl _ | decide | omega) fun X7 a0 w1 hF => ?_
   apply a7 hF rfl<;>intro hb hF
   .have t7:(gk g1 5 && decide (g1.x.r.mrk=v))=true:=by subst hB; rw [<-hq7]; revert hb; cases q7<;>simp [std,a8]
    refine wp_seq (rg hB a6 [8,9] [0,8] [] hF fun X8 a0 w1 hF => ?_);exact wp_ret ((rgo hB a6 hF (v:=(Fz.fr g1.x)) (q:=p2) (by simp [Rs.bind,hrun0,L7,hm2,t5,t7]) hN2).1)
   have t7:(gk g1 5 && decide (g1.x.r.mrk=v))=false:=by subst hB; rw [<-hq7]; revert hb; cases q7<;>simp [std,a8]
   refine wp_skip (wp_seq ?_)
   rcases (P7 0 b J hJ E hE N2 p2 hR2 hp2 hn2 l).two (j2 _ _ _) hp2 hn2 hR2 with ⟨g9,p9,N9,hm9,hs9,hp9,hn9,hR9,hN9,S9⟩ | ⟨wq9,p9,N9,W9,hm9,hs9,hN9,hW9,S9⟩
   .have hl9:=z8 hm9
    have hg9:=hp2.get hm9;have O1:=S9;refine rg hB a6 [0,2,5,7,8,10,11] [0,5,7,8,10,11] [(2,lc J E (s5 g9) N9 p9)] hF fun X9 a0 w1 hF => ?_
    refine wp_seq (wp_seq (rg hB a6 [58,0,2,5,7,8,10] [0,5,7,8,10] [] hF fun X10 a0 w1 hF => ?_));apply a7 hF rfl<;>intro hb hF
    .have t10:¬ g9.ver=v:=by
      have h9:(g9.ver != v)=true:=by subst hB; exact hb
      simpa using h9
     refine wp_seq (rg hB a6 [8,9] [0,8] [] hF fun X11 a0 w1 hF => ?_);refine wp_ret ((rgo hB a6 hF (v:=Fz.over) (q:=p9) (by simp [Rs.bind,hrun0,L7,hm2,t5,t7,hm9,t10]) hN9 (he:=?_)).1);subst hB; exact Sim.tup ⟨Sim.agg ⟨zr,P8,zr,zr,zr,trivial⟩,zr,trivial⟩
    have t10:g9.ver=v:=by
     have h9:(g9.ver != v)=false:=by subst hB; exact hb
     simpa using h9
    refine wp_skip (wp_seq (rg hB a6 [0,2,5,7,8,10,12] [0,5,7,8,10,12] [] hF fun X12 a0 w1 hF => ?_));apply wp_seq
    rcases (dQ 0 b J hJ E hE N9 p9 hR9 hp9 hn9 d g1.ver (asR 5 g1.x v)).two (l3 _ _ _ _ _) hp9 hn9 hR9 with ⟨d9,p13,N13,hm13,hs13,hp13,hn13,hR13,hN13,S13⟩ | ⟨wq13,p13,N13,W13,hm13,hs13,hN13,hW13,S13⟩
    .have O1:=S13
     refine rg hB a6 [73,0,2,5,7,8,12] [0,5,7,8,12] [(5,lc J E (.bool (.v d9)) N13 p13)] hF fun X13 a0 w1 hF => ?_
     apply a7 hF rfl<;>intro hb hF
     .have t13:d9=true:=by exact hb
      refine wp_seq (rg hB a6 [8,9] [0,8] [] hF fun X14 a0 w1 hF => ?_);exact wp_ret ((rgo hB a6 hF (v:=(Fz.fr (asR 5 g1.x v))) (q:=p13) (by simp [Rs.bind,hrun0,L7,hm2,t5,t7,hm9,t10,hm13,t13]) hN13).1)
     have t13:d9=false:=by exact hb
     replace hF:=hF.keep [0,2,5,7,8] [0,5,7,8];exact wp_skip (⟨.go m0 p13 N13,⟨by rw [hrun0]; simp [L7,Rs.bind,hrun0,L7,hm2,t5,t7,hm9,t10,hm13,t13],hp13,hn13,hR13,by have:=hl2; have:=hs9.le; have:=hs13.le; have:=hf0; omega,by have:=hl2; have:=hs9.le; have:=hs13.le; have:=hle0; omega⟩,by simp [lsM],hF⟩)
    have O1:=S13;refine rg hB a6 [73,0,2,5,7,8,12] [0,5,7,8,12] [(5,sc J E (.bool .ff) N13 W13 p13.note)] hF fun X13 a0 w1 hF => ?_
    refine j0 hF rfl (fun hF => ?_);replace hF:=hF.keep [0,2,5,7,8] [0,5,7,8];exact wp_skip (⟨.sp N13 (W13 (X13 5)) p13.note,⟨(X13 5),wq13,p13,by simp [Rs.bind,hrun0,L7,hm2,t5,t7,hm9,t10,hm13],hN13,(hW13 _),rfl⟩,by simp [lsM],hF⟩)
   have O1:=S9;refine rg hB a6 [0,2,5,7,8,10,11] [0,5,7,8,10,11] [(2,sc J E (.agg [.int .i64 0,.int .u64 0,.bool .ff,.int .i64 0,.sl none none 0 0 2 (fun _ => []),.int .i64 0,.int .u64 0,.int .u64 0]) N9 W9 p9.note)] hF fun X9 a0 w1 hF => ?_
   refine wp_seq (wp_seq (rg hB a6 [58,0,2,5,7,8,10] [0,5,7,8,10] [] hF fun X10 a0 w1 hF => ?_));refine j1 hF rfl (fun hF => ?_);refine wp_seq (rg hB a6 [8,9] [0,8] [] hF fun X11 a0 w1 hF => ?_);exact wp_ret ((rst hB a6 hF (q:=p9) (wq:=wq9) (X9 2) (by simp [Rs.bind,hrun0,L7,hm2,t5,t7,hm9]) hN9 (hW9 _)).1)
  have O1:=S2;refine rg hB a6 [0,2,5,7,8,10] [0,5,7,8,10] [(2,sc J E (.agg [.int .i64 0,.int .u64 0,.bool .ff,.int .i64 0,.sl none none 0 0 2 (fun _ => []),.int .i64 0,.int .u64 0,.int .u64 0]) N2 W2 p2.note)] hF fun X2 a0 w1 hF => ?_
  refine wp_seq (wp_seq (rg hB a6 [24,0,2,5,7,8,10] [0,5,7,8,10] [] hF fun X3 a0 w1 hF => ?_));refine j1 hF rfl (fun hF => ?_);refine wp_seq (rg hB a6 [8,9] [0,8] [] hF fun X4 a0 w1 hF => ?_);exact wp_ret ((rst hB a6 hF (q:=p2) (wq:=wq2) (X2 2) (by simp [Rs.bind,hrun0,L7,hm2]) hN2 (hW2 _)).1)
 .exact (hJ:False).elim
 dsimp only [lsC,lsB] at hJ hF;obtain ⟨X0,wq0,pp0,hsp0,hN0,hW0,ht0⟩:=hJ;subst ht0;refine wp_seq (wp_seq (rg hB a6 [17,0,2,5,7,8] [0,5,7,8] [] hF fun X1 a0 w1 hF => ?_));refine j0 hF rfl (fun hF => ?_);refine wp_exit (wp_seq (rg hB a6 [8,9] [0,8] [] hF fun X15 a0 w1 hF => ?_));exact wp_ret ((rst hB a6 hF (q:=pp0) (wq:=wq0) X0 (hsp0) hN0 hW0).1)
theorem xm (k0 b:Nat) (J:i7) (hJ:k8 J) (E:s6) (hE:E.n<=1000000) (N:Nat) (p:Pst) (hR:Rel E N p) (hp:i6 p) (hn:p.n<=1000000) (l:Lab) (v:Int) (d:Lab) (n:Nat) (hf:p.n < n):D6 164 k0 b J E N p [b6 l,.int .u64 v,b6 d] (sI) (.tup [.agg [.int .i64 0,.sl none none 0 0 2 (fun _ => []),.int .i64 0,.int .u64 0,.int .u64 0],.int .i64 (-1)]) (L7 (J.budget - E.n) l v d n p):=D6.re (zS b J hJ E hE N p hR hp hn l v d n hf) (by repeat (first | exact trivial | refine ⟨zr,?_⟩))
def oe (n:Nat):Prop:=∀ (k0 b:Nat) (J:i7) (hJ:k8 J) (E:s6) (hE:E.n<=1000000) (N:Nat) (p:Pst) (hR:Rel E N p) (hp:i6 p) (hn:p.n<=1000000) (l:Lab) (hl:LOk l),p.n < n -> D6 86 k0 b J E N p [b6 l] (fun _ => i8) i8 (G3 J.bucket (J.budget - E.n) n l p)
def DP (n:Nat):Prop:=∀ (k0 b:Nat) (J:i7) (hJ:k8 J) (E:s6) (hE:E.n<=1000000) (N:Nat) (p:Pst) (hR:Rel E N p) (hp:i6 p) (hn:p.n<=1000000) (l:Lab) (hl:LOk l),p.n < n -> D6 84 k0 b J E N p [b6 l] (fun _ => i8) i8 (C8 (J.budget - E.n) n l p)
def sZ (n:Nat):Prop:=∀ (k0 b:Nat) (J:i7) (hJ:k8 J) (E:s6) (hE:E.n<=1000000) (N:Nat) (p:Pst) (hR:Rel E N p) (hp:i6 p) (hn:p.n<=1000000) (l:Lab) (hl:LOk l) (g:l5) (hg:dV g) (hgh:g.has=true),p.n < n -> D6 61 k0 b J E N p [b6 l,s5 g] (fun _ => i8) i8 (Y2 J.bucket (J.budget - E.n) n l g p)
theorem zK (b:Nat) (J:i7) (E:s6) (hE:E.n<=1000000) (N:Nat) (q:B5) (t:Nt) (l:Lab) (hl:LOk l):K6 86 0 b J E N q t [b6 l] (i8):=by
 intro m w hm hargs hpre;have SP:=vq l hl.u;simp only [b6] at SP;obtain ⟨up,hup⟩:=eqv (P6 l);rw [<-hup] at SP;obtain ⟨ue,hue⟩:=eqv (Q9 l);rw [<-hue] at SP;refine enX 66 hm hpre hargs Tryz.func86 fun B hB a0 hF => ?_
 refine wp_seq (rg hB a6 [0,3] [0,3] [] hF fun X0 a0 w1 hF => ?_);have O1:=SP;refine wp_seq (rg hB a6 [0,3,4,5] [0,3,4] [(1,.r fun _ => .tup [.agg [.int .i64 up.len,.int .u64 up.bits],.int .i64 ue])] hF fun X1 a0 w1 hF => ?_);refine wp_seq (wp_seq (rg hB a6 [14,0,3,4] [0,3,4] [] hF fun X2 a0 w1 hF => ?_));apply a7 hF rfl<;>intro hb hF
 .have t0:¬ ue=0:=by subst hB; simpa [std,a8] using hb
  exact wp_ret ((rdd hB a6 hF).1)
 have t0:ue=0:=by subst hB; simpa [std,a8] using hb
 refine wp_skip (wp_block (wp_loop_rounds 2 (C4 (wp_seq (wp_seq (rg hB a6 [19,0,3,4] [0,3,4] [] hF fun X3 a0 w1 hF => ?_))))));refine j0 hF rfl (fun hF => ?_);exact wp_exit ((rdd hB a6 hF).2)
theorem Dd (k0 b:Nat) (J:i7) (E:s6) (hE:E.n<=1000000) (N:Nat) (q:B5) (t:Nt) (l:Lab) (hl:LOk l):K6 86 k0 b J E N q t [b6 l] (i8):=K6.re (zK b J E hE N q t l hl) (by repeat (first | exact trivial | refine ⟨zr,?_⟩))
theorem Ae (b:Nat) (J:i7) (hJ:k8 J) (E:s6) (hE:E.n<=1000000) (N:Nat) (p:Pst) (hR:Rel E N p) (hp:i6 p) (hn:p.n<=1000000) (l:Lab) (hl:LOk l) (v:Int) (x0 x1:Lab) (hx0:x0=chV l 0) (hx1:x1=chV l 1) (n:Nat) (hth:oe n) (hf:p.n < n):D6 165 0 b J E N p [b6 l,.int .u64 v,b6 x0,b6 x1] (fun _ => i8) (i8) (aN (J.budget - E.n) (G3 J.bucket (J.budget - E.n) n) l v p):=by
 intro m w hm hargs hpre;have hN0:N=E.n - p.n:=by have:=hR.n; omega
 have hk0:LOk x0:=by rw [hx0]; exact hl.ch 0
 have hk1:LOk x1:=by rw [hx1]; exact hl.ch 1
 refine enX 21 hm hpre hargs Tryz.func165 fun B hB a0 hF => ?_
 refine wp_seq (rg hB a6 [0,2,6,8,9] [0,6,8,9] [] hF fun X0 a0 w1 hF => ?_);apply wp_seq
 rcases (sL 0 b J hJ E hE N p hR hp hn l v).two (l3 _ _ _ _ _) hp hn hR with ⟨d1,p1,N1,hm1,hs1,hp1,hn1,hR1,hN1,S1⟩ | ⟨wq1,p1,N1,W1,hm1,hs1,hN1,hW1,S1⟩
 .have O1:=iq
  have O2:=S1;refine drg hB a6 [14,0,8,9] [0,8,9] [(3,.r fun _ => .agg [.int .i64 2,.sl none none 0 0 2 (fun _ => []),.int .i64 (-1),.int .u64 0,.int .u64 0]),(4,lc J E (.bool (.v d1)) N1 p1)] hF fun X1 a0 w1 hF => ?_
  apply a7 hF rfl<;>intro hb hF
  .have t1:d1=true:=by exact hb
   apply wp_seq
   rcases (hth 0 b J hJ E hE N1 p1 hR1 hp1 hn1 x0 hk0 (by have:=hs1.le; omega)).two (F5 _ _ _ _ _) hp1 hn1 hR1 with ⟨v2,p2,N2,hm2,hs2,hp2,hn2,hR2,hN2,S2⟩ | ⟨wq2,p2,N2,W2,hm2,hs2,hN2,hW2,S2⟩
   .have O1:=S2
    refine rg hB a6 [0,9] [0,9] [(2,lc J E (i8) N2 p2)] hF fun X2 a0 w1 hF => ?_
    rcases (hth 0 b J hJ E hE N2 p2 hR2 hp2 hn2 x1 hk1 (by have:=hs1.le; have:=hs2.le; omega)).two (F5 _ _ _ _ _) hp2 hn2 hR2 with ⟨v3,p3,N3,hm3,hs3,hp3,hn3,hR3,hN3,S3⟩ | ⟨wq3,p3,N3,W3,hm3,hs3,hN3,hW3,S3⟩
    .have O1:=S3
     refine rg hB a6 [] [0] [(2,lc J E (i8) N3 p3)] hF fun X3 a0 w1 hF => ?_
     exact (rgo hB a6 hF (v:=()) (q:=p3) (by simp [aN,<-hx0,<-hx1,Rs.bind,hm1,t1,hm2,hm3]) hN3).2
    have O1:=S3;refine rg hB a6 [] [0] [(2,sc J E (i8) N3 W3 p3.note)] hF fun X3 a0 w1 hF => ?_
    exact (rst hB a6 hF (q:=p3) (wq:=wq3) (X3 2) (by simp [aN,<-hx0,<-hx1,Rs.bind,hm1,t1,hm2,hm3]) hN3 (hW3 _)).2
   have O1:=S2;refine rg hB a6 [0,9] [0,9] [(2,sc J E (i8) N2 W2 p2.note)] hF fun X2 a0 w1 hF => ?_
   have O1:=Dd 0 b J E hE N2 (W2 (X2 2)) p2.note x1 hk1;refine rg hB a6 [] [0] [(2,dc J E (i8) N2 (W2 (X2 2)) p2.note)] hF fun X3 a0 w1 hF => ?_
   exact (rst hB a6 hF (q:=p2) (wq:=wq2) (X2 2) (by simp [aN,<-hx0,<-hx1,Rs.bind,hm1,t1,hm2]) hN2 (hW2 _)).2
  have t1:d1=false:=by exact hb
  exact wp_skip ((rgo hB a6 hF (v:=()) (q:=p1) (by simp [aN,<-hx0,<-hx1,Rs.bind,hm1,t1]) hN1).2)
 have O1:=iq;have O2:=S1;refine drg hB a6 [14,0,8,9] [0,8,9] [(3,.r fun _ => .agg [.int .i64 2,.sl none none 0 0 2 (fun _ => []),.int .i64 (-1),.int .u64 0,.int .u64 0]),(4,sc J E (.bool .ff) N1 W1 p1.note)] hF fun X1 a0 w1 hF => ?_
 refine j0 hF rfl (fun hF => ?_);exact wp_skip ((rst hB a6 hF (q:=p1) (wq:=wq1) (X1 4) (by simp [aN,<-hx0,<-hx1,Rs.bind,hm1]) hN1 (hW1 _)).2)
theorem xx (k0 b:Nat) (J:i7) (hJ:k8 J) (E:s6) (hE:E.n<=1000000) (N:Nat) (p:Pst) (hR:Rel E N p) (hp:i6 p) (hn:p.n<=1000000) (l:Lab) (hl:LOk l) (v:Int) (x0 x1:Lab) (hx0:x0=chV l 0) (hx1:x1=chV l 1) (n:Nat) (hth:oe n) (hf:p.n < n):D6 165 k0 b J E N p [b6 l,.int .u64 v,b6 x0,b6 x1] (fun _ => i8) (i8) (aN (J.budget - E.n) (G3 J.bucket (J.budget - E.n) n) l v p):=D6.re (Ae b J hJ E hE N p hR hp hn l hl v x0 x1 hx0 hx1 n hth hf) (by repeat (first | exact trivial | refine ⟨zr,?_⟩))
theorem xw (b:Nat) (J:i7) (hJ:k8 J) (E:s6) (hE:E.n<=1000000) (N:Nat) (p:Pst) (hR:Rel E N p) (hp:i6 p) (hn:p.n<=1000000) (l:Lab) (hl:LOk l) (n:Nat) (ih:DP n) (hf:p.n < n + 1):D6 84 0 b J E N p [b6 l] (fun _ => i8) (i8) (C8 (J.budget - E.n) (n + 1) l p):=by
 intro m w hm hargs hpre;have hN0:N=E.n - p.n:=by have:=hR.n; omega
 have SC0:=Q6 l hl.u 0 (.inl rfl);have SC1:=Q6 l hl.u 1 (.inr rfl);have hk0:=hl.ch 0;have hk1:=hl.ch 1;simp only [b6] at SC0 SC1;obtain ⟨x0,hx0⟩:=eqv (chV l 0);rw [<-hx0] at SC0 hk0;obtain ⟨x1,hx1⟩:=eqv (chV l 1);rw [<-hx1] at SC1 hk1;obtain ⟨y0,hy0⟩:=eqv (chE l 0);rw [<-hy0] at SC0;obtain ⟨y1,hy1⟩:=eqv (chE l 1);rw [<-hy1] at SC1;have hlp:=s7 hl.isl;refine enX 59 hm hpre hargs Tryz.func84 fun B hB a0 hF => ?_
 refine wp_seq (rg hB a6 [0,3] [0,3] [] hF fun X0 a0 w1 hF => ?_);refine wp_seq (rg hB a6 [4,0,3] [0,3] [] hF fun X1 a0 w1 hF => ?_);refine wp_block (wp_loop_rounds 3 (C4 (wp_seq (wp_seq (rg hB a6 [15,0,3,4] [0,3] [] hF fun X2 a0 w1 hF => ?_)))));apply a7 hF rfl<;>intro hb hF
 .have h6:l.len < 64:=by subst hB; simpa [std,a8] using hb
  have t64:¬ l.len=64:=by omega
  have O1:=SC0;refine wp_skip (wp_seq (wp_block (wp_seq (rg hB a6 [0,3,4,5] [0,3,5] [(2,.r fun _ => .tup [.agg [.int .i64 x0.len,.int .u64 x0.bits],.int .i64 y0])] hF fun X4 a0 w1 hF => ?_))));apply wp_seq
  rcases (P7 0 b J hJ E hE N p hR hp hn x0).two (j2 _ _ _) hp hn hR with ⟨g0,p50,N50,hm50,hs50,hp50,hn50,hR50,hN50,S50⟩ | ⟨wq50,p50,N50,W50,hm50,hs50,hN50,hW50,S50⟩
  .have hl50:=z8 hm50
   have hg50:=hp.get hm50;have O1:=S50;refine rg hB a6 [0,3,4,5,7] [0,3,5,7] [(2,lc J E (s5 g0) N50 p50)] hF fun X5 a0 w1 hF => ?_
   refine wp_seq (wp_seq (rg hB a6 [30,0,3,4,5,7] [0,3,5,7] [] hF fun X6 a0 w1 hF => ?_));refine j0 hF rfl (fun hF => ?_);obtain ⟨q0,hq0⟩:=eqv (gk g0 5);refine wp_skip (wp_seq (wp_seq ?_));refine rg hB a6 [33,0,3,4,5,7] [0,3,5,7] [(1,.r fun _ => .bool (.v q0))] hF (hob:=by intro X; subst hB; simp only [b5,Ob.holds,BE.den]<;>and_intros<;>repeat first | trivial | rfl | exact (by rw [hq0]; exact E7 g0 5) | exact by rw [hq0]; exact E7 g0 5 | exact (fun _ _ => by kernel_rfl) | refine ⟨?_,?_⟩ | intro h | exact Int.le_refl _ | decide | omega) fun X7 a0 w1 hF => ?_
   apply a7 hF rfl<;>intro hb hF
   .have tq0:gk g0 5=false:=by subst hB; rw [<-hq0]; revert hb; cases q0<;>simp [std]
    refine wp_exit (rg hB a6 [4,0,3] [0,3] [] hF fun X3 a0 w1 hF => ?_);replace hF:=hF.headS (v':=.int .i64 1) (by subst hB; exact zr) rfl;refine i5 (wp_seq (wp_seq (rg hB a6 [15,0,3,4] [0,3] [] hF fun X2 a0 w1 hF => ?_)));apply a7 hF rfl<;>intro hb hF
    .skip
     have O1:=SC1;refine wp_skip (wp_seq (wp_block (wp_seq (rg hB a6 [0,3,4,5] [0,3,5] [(2,.r fun _ => .tup [.agg [.int .i64 x1.len,.int .u64 x1.bits],.int .i64 y1])] hF fun X4 a0 w1 hF => ?_))));apply wp_seq
     rcases (P7 0 b J hJ E hE N50 p50 hR50 hp50 hn50 x1).two (j2 _ _ _) hp50 hn50 hR50 with ⟨g1,p51,N51,hm51,hs51,hp51,hn51,hR51,hN51,S51⟩ | ⟨wq51,p51,N51,W51,hm51,hs51,hN51,hW51,S51⟩
     .have hl51:=z8 hm51
      have hg51:=hp50.get hm51;have O1:=S51;refine rg hB a6 [0,3,4,5,7] [0,3,5,7] [(2,lc J E (s5 g1) N51 p51)] hF fun X5 a0 w1 hF => ?_
      refine wp_seq (wp_seq (rg hB a6 [30,0,3,4,5,7] [0,3,5,7] [] hF fun X6 a0 w1 hF => ?_));refine j0 hF rfl (fun hF => ?_);obtain ⟨q1,hq1⟩:=eqv (gk g1 5);refine wp_skip (wp_seq (wp_seq ?_));refine rg hB a6 [33,0,3,4,5,7] [0,3,5,7] [(1,.r fun _ => .bool (.v q1))] hF (hob:=by intro X; subst hB; simp only [b5,Ob.holds,BE.den]<;>and_intros<;>repeat first | trivial | rfl | exact (by rw [hq1]; exact E7 g1 5) | exact by rw [hq1]; exact E7 g1 5 | exact (fun _ _ => by kernel_rfl) | refine ⟨?_,?_⟩ | intro h | exact Int.le_refl _ | decide | omega) fun X7 a0 w1 hF => ?_
      apply a7 hF rfl<;>intro hb hF
      .have tq1:gk g1 5=false:=by subst hB; rw [<-hq1]; revert hb; cases q1<;>simp [std]
       refine wp_exit (rg hB a6 [4,0,3] [0,3] [] hF fun X3 a0 w1 hF => ?_);replace hF:=hF.headS (v':=.int .i64 2) (by subst hB; exact zr) rfl;refine i5 (wp_seq (wp_seq (rg hB a6 [15,0,3,4] [0,3] [] hF fun X2 a0 w1 hF => ?_)));replace hF:=hF.headS (v':=.bool .ff) (Sim.bool (by subst hB; rfl)) rfl;refine j0 hF rfl (fun hF => ?_);exact wp_exit ((rgo hB a6 hF (v:=()) (q:=p51) (by simp [C8,G6,<-hx0,<-hx1,Rs.bind,t64,hm50,tq0,hm51,tq1]) hN51).2)
      have tq1:gk g1 5=true:=by subst hB; rw [<-hq1]; revert hb; cases q1<;>simp [std]
      refine wp_skip (wp_seq ?_)
      rcases (ih 0 b J hJ E hE N51 p51 hR51 hp51 hn51 x1 hk1 (by skip; have:=hl50; have:=hl51; omega)).two (J1 _ _ _ _) hp51 hn51 hR51 with ⟨v81,p81,N81,hm81,hs81,hp81,hn81,hR81,hN81,S81⟩ | ⟨wq81,p81,N81,W81,hm81,hs81,hN81,hW81,S81⟩
      .have O1:=S81
       refine rg hB a6 [0,3,4,5,7] [0,3,5,7] [(2,lc J E (i8) N81 p81)] hF fun X8 a0 w1 hF => ?_
       apply wp_seq
       rcases (P7 0 b J hJ E hE N81 p81 hR81 hp81 hn81 l).two (j2 _ _ _) hp81 hn81 hR81 with ⟨h1,p91,N91,hm91,hs91,hp91,hn91,hR91,hN91,S91⟩ | ⟨wq91,p91,N91,W91,hm91,hs91,hN91,hW91,S91⟩
       .have hl91:=z8 hm91
        have hg91:=hp81.get hm91;have O1:=S91;refine rg hB a6 [0,3,4,5,7,8] [0,3,5,7,8] [(2,lc J E (s5 h1) N91 p91)] hF fun X9 a0 w1 hF => ?_
        obtain ⟨r1,hr1⟩:=eqv (gk h1 1);obtain ⟨s1,hs1⟩:=eqv (gk h1 5);refine wp_seq (wp_seq ?_);refine rg hB a6 [53,0,3,4,5,7] [0,3,5,7] [(6,.r fun _ => .bool (.v r1)),(10,.r fun _ => .bool (.v s1))] hF (hob:=by intro X; subst hB; simp only [b5,Ob.holds,BE.den]<;>and_intros<;>repeat first | trivial | rfl | exact (by rw [hr1]; exact E7 h1 1) | exact by rw [hr1]; exact E7 h1 1 | exact (by rw [hs1]; exact E7 h1 5) | exact by rw [hs1]; exact E7 h1 5 | exact (fun _ _ => by kernel_rfl) | refine ⟨?_,?_⟩ | intro h | exact Int.le_refl _ | decide | omega) fun X10 a0 w1 hF => ?_
        apply a7 hF rfl<;>intro hb hF
        .have tr1:(gk h1 1 || gk h1 5)=false:=by subst hB; rw [<-hr1,<-hs1]; revert hb; cases r1<;>cases s1<;>simp [std]
         exact wp_ret ((rgo hB a6 hF (v:=()) (q:=p91) (by simp [C8,G6,<-hx0,<-hx1,Rs.bind,t64,hm50,tq0,hm51,tq1,hm81,hm91,tr1]) hN91).1)
        have tr1:(gk h1 1 || gk h1 5)=true:=by subst hB; rw [<-hr1,<-hs1]; revert hb; cases r1<;>cases s1<;>simp [std]
        refine wp_skip ?_
        rcases (qT 0 b J hJ E hE N91 p91 hR91 hp91 hn91 x1 g1.ver).two (cL _ _ _ _) hp91 hn91 hR91 with ⟨d1,p111,N111,hm111,hs111,hp111,hn111,hR111,hN111,S111⟩ | ⟨wq111,p111,N111,W111,hm111,hs111,hN111,hW111,S111⟩
        .have O1:=S111
         refine rg hB a6 [0,3,4] [0,3] [(4,lc J E (.bool (.v d1)) N111 p111)] hF fun X11 a0 w1 hF => ?_
         refine rg hB a6 [4,0,3] [0,3] [] hF fun X3 a0 w1 hF => ?_
         replace hF:=hF.headS (v':=.int .i64 2) (by subst hB; exact zr) rfl;refine i5 (wp_seq (wp_seq (rg hB a6 [15,0,3,4] [0,3] [] hF fun X2 a0 w1 hF => ?_)));replace hF:=hF.headS (v':=.bool .ff) (Sim.bool (by subst hB; rfl)) rfl;refine j0 hF rfl (fun hF => ?_);exact wp_exit ((rgo hB a6 hF (v:=()) (q:=p111) (by simp [C8,G6,<-hx0,<-hx1,Rs.bind,t64,hm50,tq0,hm51,tq1,hm81,hm91,tr1,hm111]) hN111).2)
        have O1:=S111;refine rg hB a6 [0,3,4] [0,3] [(4,sc J E (.bool .ff) N111 W111 p111.note)] hF fun X11 a0 w1 hF => ?_
        refine rg hB a6 [4,0,3] [0,3] [] hF fun X3 a0 w1 hF => ?_
        replace hF:=hF.headS (v':=.int .i64 2) (by subst hB; exact zr) rfl;refine i5 (wp_seq (wp_seq (rg hB a6 [15,0,3,4] [0,3] [] hF fun X2 a0 w1 hF => ?_)));replace hF:=hF.headS (v':=.bool .ff) (Sim.bool (by subst hB; rfl)) rfl;refine j0 hF rfl (fun hF => ?_);exact wp_exit ((rst hB a6 hF (q:=p111) (wq:=wq111) (X11 4) (by simp [C8,G6,<-hx0,<-hx1,Rs.bind,t64,hm50,tq0,hm51,tq1,hm81,hm91,tr1,hm111]) hN111 (hW111 _)).2)
       have O1:=S91;refine rg hB a6 [0,3,4,5,7,8] [0,3,5,7,8] [(2,sc J E (.agg [.int .i64 0,.int .u64 0,.bool .ff,.int .i64 0,.sl none none 0 0 2 (fun _ => []),.int .i64 0,.int .u64 0,.int .u64 0]) N91 W91 p91.note)] hF fun X9 a0 w1 hF => ?_
       obtain ⟨bs,hbs⟩:∃ b:Bool,b=true:=⟨_,rfl⟩
       replace hF:=hF.memS (cm hbs J E N91 (W91 (X9 2)) p91.note);refine wp_seq (wp_seq ?_);refine rg hB a6 [53,0,3,4,5,7] [0,3,5,7] [(6,.r fun _ => .bool .ff),(10,.r fun _ => .bool .ff)] hF (hob:=by intro X; subst hB; simp only [b5,Ob.holds,BE.den]<;>and_intros<;>repeat first | trivial | rfl | exact ip _ | exact (fun _ _ => by kernel_rfl) | refine ⟨?_,?_⟩ | intro h | exact Int.le_refl _ | decide | omega) fun X10 a0 w1 hF => ?_
       replace hF:=hF.headS (v':=.bool .tt) (Sim.bool (by subst hB; rw [hbs]; rfl)) rfl;replace hF:=hF.memS (co hbs J E N91 (W91 (X9 2)) p91.note);refine j1 hF rfl (fun hF => ?_);exact wp_ret ((rst hB a6 hF (q:=p91) (wq:=wq91) (X9 2) (by simp [C8,G6,<-hx0,<-hx1,Rs.bind,t64,hm50,tq0,hm51,tq1,hm81,hm91]) hN91 (hW91 _)).1)
      have O1:=S81;refine rg hB a6 [0,3,4,5,7] [0,3,5,7] [(2,sc J E (i8) N81 W81 p81.note)] hF fun X8 a0 w1 hF => ?_
      have O1:=dP 0 b J E hE N81 (W81 (X8 2)) p81.note l;refine wp_seq (rg hB a6 [0,3,4,5,7,8] [0,3,5,7,8] [(2,dc J E (.agg [.int .i64 0,.int .u64 0,.bool .ff,.int .i64 0,.sl none none 0 0 2 (fun _ => []),.int .i64 0,.int .u64 0,.int .u64 0]) N81 (W81 (X8 2)) p81.note)] hF fun X9 a0 w1 hF => ?_);obtain ⟨bs,hbs⟩:∃ b:Bool,b=true:=⟨_,rfl⟩
      replace hF:=hF.memS (cm hbs J E N81 (W81 (X8 2)) p81.note);refine wp_seq (wp_seq ?_);refine rg hB a6 [53,0,3,4,5,7] [0,3,5,7] [(6,.r fun _ => .bool .ff),(10,.r fun _ => .bool .ff)] hF (hob:=by intro X; subst hB; simp only [b5,Ob.holds,BE.den]<;>and_intros<;>repeat first | trivial | rfl | exact ip _ | exact (fun _ _ => by kernel_rfl) | refine ⟨?_,?_⟩ | intro h | exact Int.le_refl _ | decide | omega) fun X10 a0 w1 hF => ?_
      replace hF:=hF.headS (v':=.bool .tt) (Sim.bool (by subst hB; rw [hbs]; rfl)) rfl;replace hF:=hF.memS (co hbs J E N81 (W81 (X8 2)) p81.note);refine j1 hF rfl (fun hF => ?_);exact wp_ret ((rst hB a6 hF (q:=p81) (wq:=wq81) (X8 2) (by simp [C8,G6,<-hx0,<-hx1,Rs.bind,t64,hm50,tq0,hm51,tq1,hm81]) hN81 (hW81 _)).1)
     have O1:=S51;refine rg hB a6 [0,3,4,5,7] [0,3,5,7] [(2,sc J E (.agg [.int .i64 0,.int .u64 0,.bool .ff,.int .i64 0,.sl none none 0 0 2 (fun _ => []),.int .i64 0,.int .u64 0,.int .u64 0]) N51 W51 p51.note)] hF fun X5 a0 w1 hF => ?_
     refine wp_seq (wp_seq (rg hB a6 [30,0,3,4,5,7] [0,3,5,7] [] hF fun X6 a0 w1 hF => ?_));refine j1 hF rfl (fun hF => ?_);exact wp_ret ((rst hB a6 hF (q:=p51) (wq:=wq51) (X5 2) (by simp [C8,G6,<-hx0,<-hx1,Rs.bind,t64,hm50,tq0,hm51]) hN51 (hW51 _)).1)
    exfalso
    have h7:¬ l.len < 64:=by subst hB; simpa [std,a8] using hb
    exact h7 h6
   have tq0:gk g0 5=true:=by subst hB; rw [<-hq0]; revert hb; cases q0<;>simp [std]
   refine wp_skip (wp_seq ?_)
   rcases (ih 0 b J hJ E hE N50 p50 hR50 hp50 hn50 x0 hk0 (by skip; have:=hl50; omega)).two (J1 _ _ _ _) hp50 hn50 hR50 with ⟨v80,p80,N80,hm80,hs80,hp80,hn80,hR80,hN80,S80⟩ | ⟨wq80,p80,N80,W80,hm80,hs80,hN80,hW80,S80⟩
   .have O1:=S80
    refine rg hB a6 [0,3,4,5,7] [0,3,5,7] [(2,lc J E (i8) N80 p80)] hF fun X8 a0 w1 hF => ?_
    apply wp_seq
    rcases (P7 0 b J hJ E hE N80 p80 hR80 hp80 hn80 l).two (j2 _ _ _) hp80 hn80 hR80 with ⟨h0,p90,N90,hm90,hs90,hp90,hn90,hR90,hN90,S90⟩ | ⟨wq90,p90,N90,W90,hm90,hs90,hN90,hW90,S90⟩
    .have hl90:=z8 hm90
     have hg90:=hp80.get hm90;have O1:=S90;refine rg hB a6 [0,3,4,5,7,8] [0,3,5,7,8] [(2,lc J E (s5 h0) N90 p90)] hF fun X9 a0 w1 hF => ?_
     obtain ⟨r0,hr0⟩:=eqv (gk h0 1);obtain ⟨s0,hs0⟩:=eqv (gk h0 5);refine wp_seq (wp_seq ?_);refine rg hB a6 [53,0,3,4,5,7] [0,3,5,7] [(6,.r fun _ => .bool (.v r0)),(10,.r fun _ => .bool (.v s0))] hF (hob:=by intro X; subst hB; simp only [b5,Ob.holds,BE.den]<;>and_intros<;>repeat first | trivial | rfl | exact (by rw [hr0]; exact E7 h0 1) | exact by rw [hr0]; exact E7 h0 1 | exact (by rw [hs0]; exact E7 h0 5) | exact by rw [hs0]; exact E7 h0 5 | exact (fun _ _ => by kernel_rfl) | refine ⟨?_,?_⟩ | intro h | exact Int.le_refl _ | decide | omega) fun X10 a0 w1 hF => ?_
     apply a7 hF rfl<;>intro hb hF
     .have tr0:(gk h0 1 || gk h0 5)=false:=by subst hB; rw [<-hr0,<-hs0]; revert hb; cases r0<;>cases s0<;>simp [std]
      exact wp_ret ((rgo hB a6 hF (v:=()) (q:=p90) (by simp [C8,G6,<-hx0,<-hx1,Rs.bind,t64,hm50,tq0,hm80,hm90,tr0]) hN90).1)
     have tr0:(gk h0 1 || gk h0 5)=true:=by subst hB; rw [<-hr0,<-hs0]; revert hb; cases r0<;>cases s0<;>simp [std]
     refine wp_skip ?_
     rcases (qT 0 b J hJ E hE N90 p90 hR90 hp90 hn90 x0 g0.ver).two (cL _ _ _ _) hp90 hn90 hR90 with ⟨d0,p110,N110,hm110,hs110,hp110,hn110,hR110,hN110,S110⟩ | ⟨wq110,p110,N110,W110,hm110,hs110,hN110,hW110,S110⟩
     .have O1:=S110
      refine rg hB a6 [0,3,4] [0,3] [(4,lc J E (.bool (.v d0)) N110 p110)] hF fun X11 a0 w1 hF => ?_
      refine rg hB a6 [4,0,3] [0,3] [] hF fun X3 a0 w1 hF => ?_
      replace hF:=hF.headS (v':=.int .i64 1) (by subst hB; exact zr) rfl;refine i5 (wp_seq (wp_seq (rg hB a6 [15,0,3,4] [0,3] [] hF fun X2 a0 w1 hF => ?_)));apply a7 hF rfl<;>intro hb hF
      .skip
       have O1:=SC1;refine wp_skip (wp_seq (wp_block (wp_seq (rg hB a6 [0,3,4,5] [0,3,5] [(2,.r fun _ => .tup [.agg [.int .i64 x1.len,.int .u64 x1.bits],.int .i64 y1])] hF fun X4 a0 w1 hF => ?_))));apply wp_seq
       rcases (P7 0 b J hJ E hE N110 p110 hR110 hp110 hn110 x1).two (j2 _ _ _) hp110 hn110 hR110 with ⟨g1,p51,N51,hm51,hs51,hp51,hn51,hR51,hN51,S51⟩ | ⟨wq51,p51,N51,W51,hm51,hs51,hN51,hW51,S51⟩
       .have hl51:=z8 hm51
        have hg51:=hp110.get hm51;have O1:=S51;refine rg hB a6 [0,3,4,5,7] [0,3,5,7] [(2,lc J E (s5 g1) N51 p51)] hF fun X5 a0 w1 hF => ?_
        refine wp_seq (wp_seq (rg hB a6 [30,0,3,4,5,7] [0,3,5,7] [] hF fun X6 a0 w1 hF => ?_));refine j0 hF rfl (fun hF => ?_);obtain ⟨q1,hq1⟩:=eqv (gk g1 5);refine wp_skip (wp_seq (wp_seq ?_));refine rg hB a6 [33,0,3,4,5,7] [0,3,5,7] [(1,.r fun _ => .bool (.v q1))] hF (hob:=by intro X; subst hB; simp only [b5,Ob.holds,BE.den]<;>and_intros<;>repeat first | trivial | rfl | exact (by rw [hq1]; exact E7 g1 5) | exact by rw [hq1]; exact E7 g1 5 | exact (fun _ _ => by kernel_rfl) | refine ⟨?_,?_⟩ | intro h | exact Int.le_refl _ | decide | omega) fun X7 a0 w1 hF => ?_
        apply a7 hF rfl<;>intro hb hF
        .have tq1:gk g1 5=false:=by subst hB; rw [<-hq1]; revert hb; cases q1<;>simp [std]
         refine wp_exit (rg hB a6 [4,0,3] [0,3] [] hF fun X3 a0 w1 hF => ?_);replace hF:=hF.headS (v':=.int .i64 2) (by subst hB; exact zr) rfl;refine i5 (wp_seq (wp_seq (rg hB a6 [15,0,3,4] [0,3] [] hF fun X2 a0 w1 hF => ?_)));replace hF:=hF.headS (v':=.bool .ff) (Sim.bool (by subst hB; rfl)) rfl;refine j0 hF rfl (fun hF => ?_);exact wp_exit ((rgo hB a6 hF (v:=()) (q:=p51) (by simp [C8,G6,<-hx0,<-hx1,Rs.bind,t64,hm50,tq0,hm80,hm90,tr0,hm110,hm51,tq1]) hN51).2)
        have tq1:gk g1 5=true:=by subst hB; rw [<-hq1]; revert hb; cases q1<;>simp [std]
        refine wp_skip (wp_seq ?_)
        rcases (ih 0 b J hJ E hE N51 p51 hR51 hp51 hn51 x1 hk1 (by skip; have:=hl50; have:=hs80.le; have:=hs90.le; have:=hs110.le; have:=hl51; omega)).two (J1 _ _ _ _) hp51 hn51 hR51 with ⟨v81,p81,N81,hm81,hs81,hp81,hn81,hR81,hN81,S81⟩ | ⟨wq81,p81,N81,W81,hm81,hs81,hN81,hW81,S81⟩
        .have O1:=S81
         refine rg hB a6 [0,3,4,5,7] [0,3,5,7] [(2,lc J E (i8) N81 p81)] hF fun X8 a0 w1 hF => ?_
         apply wp_seq
         rcases (P7 0 b J hJ E hE N81 p81 hR81 hp81 hn81 l).two (j2 _ _ _) hp81 hn81 hR81 with ⟨h1,p91,N91,hm91,hs91,hp91,hn91,hR91,hN91,S91⟩ | ⟨wq91,p91,N91,W91,hm91,hs91,hN91,hW91,S91⟩
         .have hl91:=z8 hm91
          have hg91:=hp81.get hm91;have O1:=S91;refine rg hB a6 [0,3,4,5,7,8] [0,3,5,7,8] [(2,lc J E (s5 h1) N91 p91)] hF fun X9 a0 w1 hF => ?_
          obtain ⟨r1,hr1⟩:=eqv (gk h1 1);obtain ⟨s1,hs1⟩:=eqv (gk h1 5);refine wp_seq (wp_seq ?_);refine rg hB a6 [53,0,3,4,5,7] [0,3,5,7] [(6,.r fun _ => .bool (.v r1)),(10,.r fun _ => .bool (.v s1))] hF (hob:=by intro X; subst hB; simp only [b5,Ob.holds,BE.den]<;>and_intros<;>repeat first | trivial | rfl | exact (by rw [hr1]; exact E7 h1 1) | exact by rw [hr1]; exact E7 h1 1 | exact (by rw [hs1]; exact E7 h1 5) | exact by rw [hs1]; exact E7 h1 5 | exact (fun _ _ => by kernel_rfl) | refine ⟨?_,?_⟩ | intro h | exact Int.le_refl _ | decide | omega) fun X10 a0 w1 hF => ?_
          apply a7 hF rfl<;>intro hb hF
          .have tr1:(gk h1 1 || gk h1 5)=false:=by subst hB; rw [<-hr1,<-hs1]; revert hb; cases r1<;>cases s1<;>simp [std]
           exact wp_ret ((rgo hB a6 hF (v:=()) (q:=p91) (by simp [C8,G6,<-hx0,<-hx1,Rs.bind,t64,hm50,tq0,hm80,hm90,tr0,hm110,hm51,tq1,hm81,hm91,tr1]) hN91).1)
          have tr1:(gk h1 1 || gk h1 5)=true:=by subst hB; rw [<-hr1,<-hs1]; revert hb; cases r1<;>cases s1<;>simp [std]
          refine wp_skip ?_
          rcases (qT 0 b J hJ E hE N91 p91 hR91 hp91 hn91 x1 g1.ver).two (cL _ _ _ _) hp91 hn91 hR91 with ⟨d1,p111,N111,hm111,hs111,hp111,hn111,hR111,hN111,S111⟩ | ⟨wq111,p111,N111,W111,hm111,hs111,hN111,hW111,S111⟩
          .have O1:=S111
           refine rg hB a6 [0,3,4] [0,3] [(4,lc J E (.bool (.v d1)) N111 p111)] hF fun X11 a0 w1 hF => ?_
           refine rg hB a6 [4,0,3] [0,3] [] hF fun X3 a0 w1 hF => ?_
           replace hF:=hF.headS (v':=.int .i64 2) (by subst hB; exact zr) rfl;refine i5 (wp_seq (wp_seq (rg hB a6 [15,0,3,4] [0,3] [] hF fun X2 a0 w1 hF => ?_)));replace hF:=hF.headS (v':=.bool .ff) (Sim.bool (by subst hB; rfl)) rfl;refine j0 hF rfl (fun hF => ?_);exact wp_exit ((rgo hB a6 hF (v:=()) (q:=p111) (by simp [C8,G6,<-hx0,<-hx1,Rs.bind,t64,hm50,tq0,hm80,hm90,tr0,hm110,hm51,tq1,hm81,hm91,tr1,hm111]) hN111).2)
          have O1:=S111;refine rg hB a6 [0,3,4] [0,3] [(4,sc J E (.bool .ff) N111 W111 p111.note)] hF fun X11 a0 w1 hF => ?_
          refine rg hB a6 [4,0,3] [0,3] [] hF fun X3 a0 w1 hF => ?_
          replace hF:=hF.headS (v':=.int .i64 2) (by subst hB; exact zr) rfl;refine i5 (wp_seq (wp_seq (rg hB a6 [15,0,3,4] [0,3] [] hF fun X2 a0 w1 hF => ?_)));replace hF:=hF.headS (v':=.bool .ff) (Sim.bool (by subst hB; rfl)) rfl;refine j0 hF rfl (fun hF => ?_);exact wp_exit ((rst hB a6 hF (q:=p111) (wq:=wq111) (X11 4) (by simp [C8,G6,<-hx0,<-hx1,Rs.bind,t64,hm50,tq0,hm80,hm90,tr0,hm110,hm51,tq1,hm81,hm91,tr1,hm111]) hN111 (hW111 _)).2)
         have O1:=S91;refine rg hB a6 [0,3,4,5,7,8] [0,3,5,7,8] [(2,sc J E (.agg [.int .i64 0,.int .u64 0,.bool .ff,.int .i64 0,.sl none none 0 0 2 (fun _ => []),.int .i64 0,.int .u64 0,.int .u64 0]) N91 W91 p91.note)] hF fun X9 a0 w1 hF => ?_
         obtain ⟨bs,hbs⟩:∃ b:Bool,b=true:=⟨_,rfl⟩
         replace hF:=hF.memS (cm hbs J E N91 (W91 (X9 2)) p91.note);refine wp_seq (wp_seq ?_);refine rg hB a6 [53,0,3,4,5,7] [0,3,5,7] [(6,.r fun _ => .bool .ff),(10,.r fun _ => .bool .ff)] hF (hob:=by intro X; subst hB; simp only [b5,Ob.holds,BE.den]<;>and_intros<;>repeat first | trivial | rfl | exact ip _ | exact (fun _ _ => by kernel_rfl) | refine ⟨?_,?_⟩ | intro h | exact Int.le_refl _ | decide | omega) fun X10 a0 w1 hF => ?_
         replace hF:=hF.headS (v':=.bool .tt) (Sim.bool (by subst hB; rw [hbs]; rfl)) rfl;replace hF:=hF.memS (co hbs J E N91 (W91 (X9 2)) p91.note);refine j1 hF rfl (fun hF => ?_);exact wp_ret ((rst hB a6 hF (q:=p91) (wq:=wq91) (X9 2) (by simp [C8,G6,<-hx0,<-hx1,Rs.bind,t64,hm50,tq0,hm80,hm90,tr0,hm110,hm51,tq1,hm81,hm91]) hN91 (hW91 _)).1)
        have O1:=S81;refine rg hB a6 [0,3,4,5,7] [0,3,5,7] [(2,sc J E (i8) N81 W81 p81.note)] hF fun X8 a0 w1 hF => ?_
        have O1:=dP 0 b J E hE N81 (W81 (X8 2)) p81.note l;refine wp_seq (rg hB a6 [0,3,4,5,7,8] [0,3,5,7,8] [(2,dc J E (.agg [.int .i64 0,.int .u64 0,.bool .ff,.int .i64 0,.sl none none 0 0 2 (fun _ => []),.int .i64 0,.int .u64 0,.int .u64 0]) N81 (W81 (X8 2)) p81.note)] hF fun X9 a0 w1 hF => ?_);obtain ⟨bs,hbs⟩:∃ b:Bool,b=true:=⟨_,rfl⟩
        replace hF:=hF.memS (cm hbs J E N81 (W81 (X8 2)) p81.note);refine wp_seq (wp_seq ?_);refine rg hB a6 [53,0,3,4,5,7] [0,3,5,7] [(6,.r fun _ => .bool .ff),(10,.r fun _ => .bool .ff)] hF (hob:=by intro X; subst hB; simp only [b5,Ob.holds,BE.den]<;>and_intros<;>repeat first | trivial | rfl | exact ip _ | exact (fun _ _ => by kernel_rfl) | refine ⟨?_,?_⟩ | intro h | exact Int.le_refl _ | decide | omega) fun X10 a0 w1 hF => ?_
        replace hF:=hF.headS (v':=.bool .tt) (Sim.bool (by subst hB; rw [hbs]; rfl)) rfl;replace hF:=hF.memS (co hbs J E N81 (W81 (X8 2)) p81.note);refine j1 hF rfl (fun hF => ?_);exact wp_ret ((rst hB a6 hF (q:=p81) (wq:=wq81) (X8 2) (by simp [C8,G6,<-hx0,<-hx1,Rs.bind,t64,hm50,tq0,hm80,hm90,tr0,hm110,hm51,tq1,hm81]) hN81 (hW81 _)).1)
       have O1:=S51;refine rg hB a6 [0,3,4,5,7] [0,3,5,7] [(2,sc J E (.agg [.int .i64 0,.int .u64 0,.bool .ff,.int .i64 0,.sl none none 0 0 2 (fun _ => []),.int .i64 0,.int .u64 0,.int .u64 0]) N51 W51 p51.note)] hF fun X5 a0 w1 hF => ?_
       refine wp_seq (wp_seq (rg hB a6 [30,0,3,4,5,7] [0,3,5,7] [] hF fun X6 a0 w1 hF => ?_));refine j1 hF rfl (fun hF => ?_);exact wp_ret ((rst hB a6 hF (q:=p51) (wq:=wq51) (X5 2) (by simp [C8,G6,<-hx0,<-hx1,Rs.bind,t64,hm50,tq0,hm80,hm90,tr0,hm110,hm51]) hN51 (hW51 _)).1)
      exfalso
      have h7:¬ l.len < 64:=by subst hB; simpa [std,a8] using hb
      exact h7 h6
     have O1:=S110;refine rg hB a6 [0,3,4] [0,3] [(4,sc J E (.bool .ff) N110 W110 p110.note)] hF fun X11 a0 w1 hF => ?_
     refine rg hB a6 [4,0,3] [0,3] [] hF fun X3 a0 w1 hF => ?_
     replace hF:=hF.headS (v':=.int .i64 1) (by subst hB; exact zr) rfl;refine i5 (wp_seq (wp_seq (rg hB a6 [15,0,3,4] [0,3] [] hF fun X2 a0 w1 hF => ?_)));apply a7 hF rfl<;>intro hb hF
     .skip
      have O1:=SC1;refine wp_skip (wp_seq (wp_block (wp_seq (rg hB a6 [0,3,4,5] [0,3,5] [(2,.r fun _ => .tup [.agg [.int .i64 x1.len,.int .u64 x1.bits],.int .i64 y1])] hF fun X4 a0 w1 hF => ?_))));have O1:=dP 0 b J E hE N110 (W110 (X11 4)) p110.note x1;refine wp_seq (rg hB a6 [0,3,4,5,7] [0,3,5,7] [(2,dc J E (.agg [.int .i64 0,.int .u64 0,.bool .ff,.int .i64 0,.sl none none 0 0 2 (fun _ => []),.int .i64 0,.int .u64 0,.int .u64 0]) N110 (W110 (X11 4)) p110.note)] hF fun X5 a0 w1 hF => ?_);refine wp_seq (wp_seq (rg hB a6 [30,0,3,4,5,7] [0,3,5,7] [] hF fun X6 a0 w1 hF => ?_));refine j1 hF rfl (fun hF => ?_);exact wp_ret ((rst hB a6 hF (q:=p110) (wq:=wq110) (X11 4) (by simp [C8,G6,<-hx0,<-hx1,Rs.bind,t64,hm50,tq0,hm80,hm90,tr0,hm110]) hN110 (hW110 _)).1)
     exfalso
     have h7:¬ l.len < 64:=by subst hB; simpa [std,a8] using hb
     exact h7 h6
    have O1:=S90;refine rg hB a6 [0,3,4,5,7,8] [0,3,5,7,8] [(2,sc J E (.agg [.int .i64 0,.int .u64 0,.bool .ff,.int .i64 0,.sl none none 0 0 2 (fun _ => []),.int .i64 0,.int .u64 0,.int .u64 0]) N90 W90 p90.note)] hF fun X9 a0 w1 hF => ?_
    obtain ⟨bs,hbs⟩:∃ b:Bool,b=true:=⟨_,rfl⟩
    replace hF:=hF.memS (cm hbs J E N90 (W90 (X9 2)) p90.note);refine wp_seq (wp_seq ?_);refine rg hB a6 [53,0,3,4,5,7] [0,3,5,7] [(6,.r fun _ => .bool .ff),(10,.r fun _ => .bool .ff)] hF (hob:=by intro X; subst hB; simp only [b5,Ob.holds,BE.den]<;>and_intros<;>repeat first | trivial | rfl | exact ip _ | exact (fun _ _ => by kernel_rfl) | refine ⟨?_,?_⟩ | intro h | exact Int.le_refl _ | decide | omega) fun X10 a0 w1 hF => ?_
    replace hF:=hF.headS (v':=.bool .tt) (Sim.bool (by subst hB; rw [hbs]; rfl)) rfl;replace hF:=hF.memS (co hbs J E N90 (W90 (X9 2)) p90.note);refine j1 hF rfl (fun hF => ?_);exact wp_ret ((rst hB a6 hF (q:=p90) (wq:=wq90) (X9 2) (by simp [C8,G6,<-hx0,<-hx1,Rs.bind,t64,hm50,tq0,hm80,hm90]) hN90 (hW90 _)).1)
   have O1:=S80;refine rg hB a6 [0,3,4,5,7] [0,3,5,7] [(2,sc J E (i8) N80 W80 p80.note)] hF fun X8 a0 w1 hF => ?_
   have O1:=dP 0 b J E hE N80 (W80 (X8 2)) p80.note l;refine wp_seq (rg hB a6 [0,3,4,5,7,8] [0,3,5,7,8] [(2,dc J E (.agg [.int .i64 0,.int .u64 0,.bool .ff,.int .i64 0,.sl none none 0 0 2 (fun _ => []),.int .i64 0,.int .u64 0,.int .u64 0]) N80 (W80 (X8 2)) p80.note)] hF fun X9 a0 w1 hF => ?_);obtain ⟨bs,hbs⟩:∃ b:Bool,b=true:=⟨_,rfl⟩
   replace hF:=hF.memS (cm hbs J E N80 (W80 (X8 2)) p80.note);refine wp_seq (wp_seq ?_);refine rg hB a6 [53,0,3,4,5,7] [0,3,5,7] [(6,.r fun _ => .bool .ff),(10,.r fun _ => .bool .ff)] hF (hob:=by intro X; subst hB; simp only [b5,Ob.holds,BE.den]<;>and_intros<;>repeat first | trivial | rfl | exact ip _ | exact (fun _ _ => by kernel_rfl) | refine ⟨?_,?_⟩ | intro h | exact Int.le_refl _ | decide | omega) fun X10 a0 w1 hF => ?_
   replace hF:=hF.headS (v':=.bool .tt) (Sim.bool (by subst hB; rw [hbs]; rfl)) rfl;replace hF:=hF.memS (co hbs J E N80 (W80 (X8 2)) p80.note);refine j1 hF rfl (fun hF => ?_);exact wp_ret ((rst hB a6 hF (q:=p80) (wq:=wq80) (X8 2) (by simp [C8,G6,<-hx0,<-hx1,Rs.bind,t64,hm50,tq0,hm80]) hN80 (hW80 _)).1)
  have O1:=S50;refine rg hB a6 [0,3,4,5,7] [0,3,5,7] [(2,sc J E (.agg [.int .i64 0,.int .u64 0,.bool .ff,.int .i64 0,.sl none none 0 0 2 (fun _ => []),.int .i64 0,.int .u64 0,.int .u64 0]) N50 W50 p50.note)] hF fun X5 a0 w1 hF => ?_
  refine wp_seq (wp_seq (rg hB a6 [30,0,3,4,5,7] [0,3,5,7] [] hF fun X6 a0 w1 hF => ?_));refine j1 hF rfl (fun hF => ?_);exact wp_ret ((rst hB a6 hF (q:=p50) (wq:=wq50) (X5 2) (by simp [C8,G6,<-hx0,<-hx1,Rs.bind,t64,hm50]) hN50 (hW50 _)).1)
 have h6:¬ l.len < 64:=by subst hB; simpa [std,a8] using hb
 have t64:l.len=64:=by omega
 exact wp_exit ((rgo hB a6 hF (v:=()) (q:=p) (by simp [C8,G6,<-hx0,<-hx1,Rs.bind,t64]) hN0).2)
theorem Aa (k0 b:Nat) (J:i7) (hJ:k8 J) (E:s6) (hE:E.n<=1000000) (N:Nat) (p:Pst) (hR:Rel E N p) (hp:i6 p) (hn:p.n<=1000000) (l:Lab) (hl:LOk l) (n:Nat) (ih:DP n) (hf:p.n < n + 1):D6 84 k0 b J E N p [b6 l] (fun _ => i8) (i8) (C8 (J.budget - E.n) (n + 1) l p):=D6.re (xw b J hJ E hE N p hR hp hn l hl n ih hf) (by repeat (first | exact trivial | refine ⟨zr,?_⟩))
theorem qU:∀ n,DP n
 | 0 => fun _ _ _ _ _ _ _ _ _ _ _ _ _ h => absurd h (Nat.not_lt_zero _)
 | n + 1 => fun k0 b J hJ E hE N p hR hp hn l hl hf => Aa k0 b J hJ E hE N p hR hp hn l hl n (qU n) hf
theorem zP (x:RA) (h:U5 x) (l:Lab) (hl:U64 l.bits):j8 Tryz.prog 162 [u7 x,b6 l] (fun y => .tup [u7 ⟨y.A 0,y.c 0,(P1 x l).1.rn⟩,u7 ⟨y.A 1,y.c 1,(P1 x l).2.1.rn⟩,.int .i64 (P1 x l).2.2]):=by
 have hf:=h.few;exact tI x.A x.r.n x.c x.r.f (by omega) x.r.kd x.r.nx x.r.mrk h.nx h.key l hl
theorem Db (x y:RA) (h:U5 x) (h':U5 y):j8 Tryz.prog 166 [u7 x,u7 y] (fun z => .tup [u7 ⟨z.A 0,z.c 0,(cw x y).1.rn⟩,.int .i64 (cw x y).2]):=by
 have hf:=h.few;have hf':=h'.few;exact vm x.A x.r.n x.c x.r.f (by omega) x.r.kd x.r.nx x.r.mrk h.nx y.A y.r.n y.c y.r.f (by omega) y.r.kd y.r.nx y.r.mrk h'.nx
theorem zL (b:Nat) (J:i7) (hJ:k8 J) (E:s6) (hE:E.n<=1000000) (N:Nat) (p:Pst) (hR:Rel E N p) (hp:i6 p) (hn:p.n<=1000000) (l:Lab) (hl:LOk l) (v:Int) (x:RA) (hx:U5 x) (n:Nat) (hf:p.n < n):D6 120 0 b J E N p [b6 l,.int .u64 v,u7 x] (fun _ => i8) (i8) (l8 (J.budget - E.n) n l v x p):=by
 intro m w hm hargs hpre;have hN0:N=E.n - p.n:=by have:=hR.n; omega
 have SC0:=Q6 l hl.u 0 (.inl rfl);have SC1:=Q6 l hl.u 1 (.inr rfl);have hk0:=hl.ch 0;have hk1:=hl.ch 1;simp only [b6] at SC0 SC1;obtain ⟨x0,hx0⟩:=eqv (chV l 0);rw [<-hx0] at SC0 hk0;obtain ⟨x1,hx1⟩:=eqv (chV l 1);rw [<-hx1] at SC1 hk1;obtain ⟨y0,hy0⟩:=eqv (chE l 0);rw [<-hy0] at SC0;obtain ⟨y1,hy1⟩:=eqv (chE l 1);rw [<-hy1] at SC1;have SH:=zP x hx l hl.u;obtain ⟨e,he⟩:=eqv ((P1 x l).2.2);rw [<-he] at SH;obtain ⟨r0,hr0⟩:=eqv ((P1 x l).1.rn);rw [<-hr0] at SH;obtain ⟨r1,hr1⟩:=eqv ((P1 x l).2.1.rn);rw [<-hr1] at SH;simp only [b6] at SH;refine enX 87 hm hpre hargs Tryz.func120 fun B hB a0 hF => ?_
 refine wp_seq (rg hB a6 [0,2,5,7] [0,5,7] [] hF fun X0 a0 w1 hF => ?_);have O1:=SH;refine wp_seq (rg hB a6 [0,2,5,8,9,10] [0,5,8,9] [(2,.r fun y => .tup [.agg [.int .i64 r0.kd,.sl none (y.A 0) r0.n (y.c 0) 2 (fun i => itC (r0.f i)),.int .i64 r0.nx.len,.int .u64 r0.nx.bits,.int .u64 r0.mrk],.agg [.int .i64 r1.kd,.sl none (y.A 1) r1.n (y.c 1) 2 (fun i => itC (r1.f i)),.int .i64 r1.nx.len,.int .u64 r1.nx.bits,.int .u64 r1.mrk],.int .i64 e])] hF fun X1 a0 w1 hF => ?_);refine wp_seq (wp_seq (rg hB a6 [26,0,2,5,8,9] [0,5,8,9] [] hF fun X2 a0 w1 hF => ?_));apply a7 hF rfl<;>intro hb hF
 .have t0:¬ e=0:=by subst hB; simpa [std,a8] using hb
  exact wp_ret ((rgo hB a6 hF (v:=()) (q:=p) (by simp [l8,s8,<-hx0,<-hx1,<-he,Rs.bind,t0]) hN0).1)
 have t0:e=0:=by subst hB; simpa [std,a8] using hb
 refine wp_skip (wp_seq (rg hB a6 [11,0,2,5] [0,5,29] [] hF fun X3 a0 w1 hF => ?_));obtain ⟨hv,hhv⟩:∃ f:Nat -> RA,f=fun i => if i=0 then ⟨(X1 2).A 0,(X1 2).c 0,r0⟩ else ⟨(X1 2).A 1,(X1 2).c 1,r1⟩:=⟨_,rfl⟩
 have hv0:(hv 0).r.abs=(P1 x l).1:=by rw [hhv]; show r0.abs=_; rw [hr0]; exact aB _
 have hv1:(hv 1).r.abs=(P1 x l).2.1:=by rw [hhv]; show r1.abs=_; rw [hr1]; exact aB _
 replace hF:=hF.headS (v':=.sl (some 11) (some ⟨(X3 2).b,0,none⟩) 2 2 5 (fun i => gJ (hv i))) (Sim.recell (fun i hi => by
   subst hhv
   match i,hi with
   | 0,_ => rfl
   | 1,_ => rfl)) rfl
 refine wp_seq (wp_seq (rg hB a6 [12,0,2,5,11] [0,5,29] [] hF fun X4 a0 w1 hF => ?_));refine wp_block (wp_loop_rounds 3 (C4 (wp_seq (wp_seq (rg hB a6 [31,0,2,5,11,12] [0,5,29] [] hF fun X5 a0 w1 hF => ?_)))));replace hF:=hF.headS (v':=.bool .tt) (Sim.bool (by subst hB; rfl)) rfl;refine j1 hF rfl (fun hF => ?_);have O1:=SC0;refine wp_skip (wp_seq (wp_block (wp_seq (rg hB a6 [0,2,5,11,12,13] [0,5,13,29] [(2,.r fun _ => .tup [.agg [.int .i64 x0.len,.int .u64 x0.bits],.int .i64 y0])] hF fun X7 a0 w1 hF => ?_))));refine wp_seq (rg hB a6 [15,0,2,5,11,12,13] [0,5,13,29] [] hF fun X8 a0 w1 hF => ?_);refine wp_block (k9 (ι:=LSt) (fun q => [(15,.bool (lsB q))]) (fun q => [(0,⟨b,105,lsC J E q⟩)]) (fun q => []) (fun q => match q with | .go a r M => s8 (J.budget - E.n) l v x0 (hv 0).r.abs n p=s8 (J.budget - E.n) l v x0 (hv 0).r.abs a r/\i6 r/\r.n<=1000000/\Rel E M r/\r.n < a/\r.n<=p.n | .dn r M => s8 (J.budget - E.n) l v x0 (hv 0).r.abs n p = .ok true r/\i6 r/\r.n<=1000000/\Rel E M r/\r.n<=p.n | .sp M Q u => ∃ (X:i3) (wq:Wq) (pp:Pst),l8 (J.budget - E.n) n l v x p = .stop wq pp/\M=E.n - pp.n/\Q=wqA X wq/\u=pp.note) (fun q => lsM q) (.go n p N) ⟨rfl,hp,hn,hR,(by skip; omega),(by skip; omega)⟩ hF ?_)
 rintro q hJ a0 w1 hF
 rcases q with ⟨nn0,p0,N0⟩ | ⟨p0,N0⟩ | ⟨N0,Q0,t0⟩
 .dsimp only [lsC,lsB] at hJ hF
  obtain ⟨hrun0,hp0,hn0,hR0,hf0,hle0⟩:=hJ;obtain ⟨m0,rfl⟩:∃ n2,nn0=n2 + 1:=⟨nn0 - 1,by omega⟩
  have hN0:N0=E.n - p0.n:=by have:=hR0.n; omega
  refine wp_seq (wp_seq (rg hB a6 [48,0,2,5,11,12,13] [0,5,13,29] [] hF fun X9 a0 w1 hF => ?_));refine j1 hF rfl (fun hF => ?_);refine wp_skip (wp_block (wp_seq ?_))
  rcases (P7 0 b J hJ E hE N0 p0 hR0 hp0 hn0 x0).two (j2 _ _ _) hp0 hn0 hR0 with ⟨g0,p100,N100,hm100,hs100,hp100,hn100,hR100,hN100,S100⟩ | ⟨wq100,p100,N100,W100,hm100,hs100,hN100,hW100,S100⟩
  .have hl100:=z8 hm100
   have hg100:=hp0.get hm100;have O1:=S100;refine rg hB a6 [0,2,5,11,12,13,16] [0,5,13,16,29] [(2,lc J E (s5 g0) N100 p100)] hF fun X10 a0 w1 hF => ?_
   refine wp_seq (wp_seq (rg hB a6 [59,0,2,5,11,12,13,16] [0,5,13,16,29] [] hF fun X11 a0 w1 hF => ?_));apply a7 hF rfl<;>intro hb hF
   .have tq0:(g0.has && !decide (g0.x.r.kd=5))=true:=by
     have h9:(if g0.has=true then !decide (g0.x.r.kd=5) else false)=true:=by
      have h8:(if g0.has=true then (g0.x.r.kd != 5) else false)=true:=by subst hB; exact hb
      exact h8
     rw [<-h9]; cases g0.has<;>rfl
    refine wp_seq (rg hB a6 [0,2,5,11,12,13,15] [0,5,13,29] [] hF fun X12 a0 w1 hF => ?_);replace hF:=hF.keep [15,0,2,5,11,12,13] [0,5,13,29];exact wp_exit (⟨.dn p100 N100,⟨by rw [hrun0]; simp [s8,Rs.bind,t0,<-hv0,<-hv1,hrun0,s8,hm100,tq0],hp100,hn100,hR100,by have:=hl100; have:=hle0; omega⟩,by simp [lsM],hF⟩)
   have tq0:(g0.has && !decide (g0.x.r.kd=5))=false:=by
    have h9:(if g0.has=true then !decide (g0.x.r.kd=5) else false)=false:=by
     have h8:(if g0.has=true then (g0.x.r.kd != 5) else false)=false:=by subst hB; exact hb
     exact h8
    rw [<-h9]; cases g0.has<;>rfl
   refine wp_skip (wp_seq ?_)
   rcases (P7 0 b J hJ E hE N100 p100 hR100 hp100 hn100 l).two (j2 _ _ _) hp100 hn100 hR100 with ⟨h0,p130,N130,hm130,hs130,hp130,hn130,hR130,hN130,S130⟩ | ⟨wq130,p130,N130,W130,hm130,hs130,hN130,hW130,S130⟩
   .have hl130:=z8 hm130
    have hg130:=hp100.get hm130;have O1:=S130;refine rg hB a6 [0,2,5,11,12,13,16,17] [0,5,13,16,17,29] [(2,lc J E (s5 h0) N130 p130)] hF fun X13 a0 w1 hF => ?_
    refine wp_seq (wp_seq (rg hB a6 [72,0,2,5,11,12,13,16] [0,5,13,16,29] [] hF fun X14 a0 w1 hF => ?_));apply a7 hF rfl<;>intro hb hF
    .have tv0:¬ h0.ver=v:=by
      have h9:(h0.ver != v)=true:=by subst hB; exact hb
      simpa using h9
     exact wp_ret ((rgo hB a6 hF (v:=()) (q:=p130) (by simp [l8,s8,<-hx0,<-hx1,<-he,Rs.bind,t0,<-hv0,<-hv1,hrun0,s8,hm100,tq0,hm130,tv0]) hN130).1)
    have tv0:h0.ver=v:=by
     have h9:(h0.ver != v)=false:=by subst hB; exact hb
     simpa using h9
    refine wp_skip ?_
    rcases (dQ 0 b J hJ E hE N130 p130 hR130 hp130 hn130 x0 g0.ver (hv 0)).two (l3 _ _ _ _ _) hp130 hn130 hR130 with ⟨d0,p150,N150,hm150,hs150,hp150,hn150,hR150,hN150,S150⟩ | ⟨wq150,p150,N150,W150,hm150,hs150,hN150,hW150,S150⟩
    .have O1:=S150
     refine drg hB a6 [0,2,5,11,12,13,15] [0,5,13,29] [(8,lc J E (.bool (.v d0)) N150 p150)] hF fun X15 a0 w1 hF => ?_
     replace hF:=hF.keep [15,0,2,5,11,12,13] [0,5,13,29]
     rcases Bool.eq_false_or_eq_true d0 with hd | hd
     .exact ⟨.dn p150 N150,⟨by rw [hrun0]; simp [s8,Rs.bind,hd,t0,<-hv0,<-hv1,hrun0,s8,hm100,tq0,hm130,tv0,hm150],hp150,hn150,hR150,by have:=hl100; have:=hs130.le; have:=hs150.le; have:=hle0; omega⟩,by simp [lsM],hF.headS (v':=.bool .tt) (Sim.bool hd) rfl⟩
     exact ⟨.go m0 p150 N150,⟨by rw [hrun0]; simp [s8,Rs.bind,hd,t0,<-hv0,<-hv1,hrun0,s8,hm100,tq0,hm130,tv0,hm150],hp150,hn150,hR150,by have:=hl100; have:=hs130.le; have:=hs150.le; have:=hf0; omega,by have:=hl100; have:=hs130.le; have:=hs150.le; have:=hle0; omega⟩,by simp [lsM],hF.headS (v':=.bool .ff) (Sim.bool hd) rfl⟩
    have O1:=S150;refine drg hB a6 [0,2,5,11,12,13,15] [0,5,13,29] [(8,sc J E (.bool .ff) N150 W150 p150.note)] hF fun X15 a0 w1 hF => ?_
    replace hF:=hF.keep [15,0,2,5,11,12,13] [0,5,13,29];exact ⟨.sp N150 (W150 (X15 8)) p150.note,⟨(X15 8),wq150,p150,by simp [l8,s8,<-hx0,<-hx1,<-he,Rs.bind,t0,<-hv0,<-hv1,hrun0,s8,hm100,tq0,hm130,tv0,hm150],hN150,(hW150 _),rfl⟩,by simp [lsM],hF⟩
   have O1:=S130;refine rg hB a6 [0,2,5,11,12,13,16,17] [0,5,13,16,17,29] [(2,sc J E (.agg [.int .i64 0,.int .u64 0,.bool .ff,.int .i64 0,.sl none none 0 0 2 (fun _ => []),.int .i64 0,.int .u64 0,.int .u64 0]) N130 W130 p130.note)] hF fun X13 a0 w1 hF => ?_
   refine wp_seq (wp_seq (rg hB a6 [72,0,2,5,11,12,13,16] [0,5,13,16,29] [] hF fun X14 a0 w1 hF => ?_));refine j1 hF rfl (fun hF => ?_);exact wp_ret ((rst hB a6 hF (q:=p130) (wq:=wq130) (X13 2) (by simp [l8,s8,<-hx0,<-hx1,<-he,Rs.bind,t0,<-hv0,<-hv1,hrun0,s8,hm100,tq0,hm130]) hN130 (hW130 _)).1)
  have O1:=S100;refine rg hB a6 [0,2,5,11,12,13,16] [0,5,13,16,29] [(2,sc J E (.agg [.int .i64 0,.int .u64 0,.bool .ff,.int .i64 0,.sl none none 0 0 2 (fun _ => []),.int .i64 0,.int .u64 0,.int .u64 0]) N100 W100 p100.note)] hF fun X10 a0 w1 hF => ?_
  refine wp_seq (wp_seq (rg hB a6 [59,0,2,5,11,12,13,16] [0,5,13,16,29] [] hF fun X11 a0 w1 hF => ?_));refine j0 hF rfl (fun hF => ?_);have O1:=dP 0 b J E hE N100 (W100 (X10 2)) p100.note l;refine wp_skip (wp_seq (rg hB a6 [0,2,5,11,12,13,16,17] [0,5,13,16,17,29] [(2,dc J E (.agg [.int .i64 0,.int .u64 0,.bool .ff,.int .i64 0,.sl none none 0 0 2 (fun _ => []),.int .i64 0,.int .u64 0,.int .u64 0]) N100 (W100 (X10 2)) p100.note)] hF fun X13 a0 w1 hF => ?_));refine wp_seq (wp_seq (rg hB a6 [72,0,2,5,11,12,13,16] [0,5,13,16,29] [] hF fun X14 a0 w1 hF => ?_));refine j1 hF rfl (fun hF => ?_);exact wp_ret ((rst hB a6 hF (q:=p100) (wq:=wq100) (X10 2) (by simp [l8,s8,<-hx0,<-hx1,<-he,Rs.bind,t0,<-hv0,<-hv1,hrun0,s8,hm100]) hN100 (hW100 _)).1)
 .dsimp only [lsC,lsB] at hJ hF
  obtain ⟨hdn0,hp0,hn0,hR0,hle0⟩:=hJ;have hN0:N0=E.n - p0.n:=by have:=hR0.n; omega
  refine wp_seq (wp_seq (rg hB a6 [48,0,2,5,11,12,13] [0,5,13,29] [] hF fun X9 a0 w1 hF => ?_));refine j0 hF rfl (fun hF => ?_);refine wp_exit (rg hB a6 [12,0,2,5,11] [0,5,29] [] hF fun X6 a0 w1 hF => ?_);replace hF:=hF.headS (v':=.int .i64 1) (by subst hB; exact zr) rfl;refine i5 (wp_seq (wp_seq (rg hB a6 [31,0,2,5,11,12] [0,5,29] [] hF fun X5 a0 w1 hF => ?_)));replace hF:=hF.headS (v':=.bool .tt) (Sim.bool (by subst hB; rfl)) rfl;refine j1 hF rfl (fun hF => ?_);have O1:=SC1;refine wp_skip (wp_seq (wp_block (wp_seq (rg hB a6 [0,2,5,11,12,13] [0,5,13,29] [(2,.r fun _ => .tup [.agg [.int .i64 x1.len,.int .u64 x1.bits],.int .i64 y1])] hF fun X7 a0 w1 hF => ?_))));refine wp_seq (rg hB a6 [15,0,2,5,11,12,13] [0,5,13,29] [] hF fun X8 a0 w1 hF => ?_);refine wp_block (k9 (ι:=LSt) (fun q => [(15,.bool (lsB q))]) (fun q => [(0,⟨b,105,lsC J E q⟩)]) (fun q => []) (fun q => match q with | .go a r M => s8 (J.budget - E.n) l v x1 (hv 1).r.abs n p0=s8 (J.budget - E.n) l v x1 (hv 1).r.abs a r/\i6 r/\r.n<=1000000/\Rel E M r/\r.n < a/\r.n<=p.n | .dn r M => s8 (J.budget - E.n) l v x1 (hv 1).r.abs n p0 = .ok true r/\i6 r/\r.n<=1000000/\Rel E M r/\r.n<=p.n | .sp M Q u => ∃ (X:i3) (wq:Wq) (pp:Pst),l8 (J.budget - E.n) n l v x p = .stop wq pp/\M=E.n - pp.n/\Q=wqA X wq/\u=pp.note) (fun q => lsM q) (.go n p0 N0) ⟨rfl,hp0,hn0,hR0,(by have:=hle0; omega),(by have:=hle0; omega)⟩ hF ?_)
  rintro q hJ a0 w1 hF
  rcases q with ⟨nn1,p1,N1⟩ | ⟨p1,N1⟩ | ⟨N1,Q1,t1⟩
  .dsimp only [lsC,lsB] at hJ hF
   obtain ⟨hrun1,hp1,hn1,hR1,hf1,hle1⟩:=hJ;obtain ⟨m1,rfl⟩:∃ n2,nn1=n2 + 1:=⟨nn1 - 1,by omega⟩
   have hN1:N1=E.n - p1.n:=by have:=hR1.n; omega
   refine wp_seq (wp_seq (rg hB a6 [48,0,2,5,11,12,13] [0,5,13,29] [] hF fun X9 a0 w1 hF => ?_));refine j1 hF rfl (fun hF => ?_);refine wp_skip (wp_block (wp_seq ?_))
   rcases (P7 0 b J hJ E hE N1 p1 hR1 hp1 hn1 x1).two (j2 _ _ _) hp1 hn1 hR1 with ⟨g1,p101,N101,hm101,hs101,hp101,hn101,hR101,hN101,S101⟩ | ⟨wq101,p101,N101,W101,hm101,hs101,hN101,hW101,S101⟩
   .have hl101:=z8 hm101
    have hg101:=hp1.get hm101;have O1:=S101;refine rg hB a6 [0,2,5,11,12,13,16] [0,5,13,16,29] [(2,lc J E (s5 g1) N101 p101)] hF fun X10 a0 w1 hF => ?_
    refine wp_seq (wp_seq (rg hB a6 [59,0,2,5,11,12,13,16] [0,5,13,16,29] [] hF fun X11 a0 w1 hF => ?_));apply a7 hF rfl<;>intro hb hF
    .have tq1:(g1.has && !decide (g1.x.r.kd=5))=true:=by
      have h9:(if g1.has=true then !decide (g1.x.r.kd=5) else false)=true:=by
       have h8:(if g1.has=true then (g1.x.r.kd != 5) else false)=true:=by subst hB; exact hb
       exact h8
      rw [<-h9]; cases g1.has<;>rfl
     refine wp_seq (rg hB a6 [0,2,5,11,12,13,15] [0,5,13,29] [] hF fun X12 a0 w1 hF => ?_);replace hF:=hF.keep [15,0,2,5,11,12,13] [0,5,13,29];exact wp_exit (⟨.dn p101 N101,⟨by rw [hrun1]; simp [s8,Rs.bind,t0,<-hv0,<-hv1,hdn0,hrun1,s8,hm101,tq1],hp101,hn101,hR101,by have:=hl101; have:=hle1; omega⟩,by simp [lsM],hF⟩)
    have tq1:(g1.has && !decide (g1.x.r.kd=5))=false:=by
     have h9:(if g1.has=true then !decide (g1.x.r.kd=5) else false)=false:=by
      have h8:(if g1.has=true then (g1.x.r.kd != 5) else false)=false:=by subst hB; exact hb
      exact h8
     rw [<-h9]; cases g1.has<;>rfl
    refine wp_skip (wp_seq ?_)
    rcases (P7 0 b J hJ E hE N101 p101 hR101 hp101 hn101 l).two (j2 _ _ _) hp101 hn101 hR101 with ⟨h1,p131,N131,hm131,hs131,hp131,hn131,hR131,hN131,S131⟩ | ⟨wq131,p131,N131,W131,hm131,hs131,hN131,hW131,S131⟩
    .have hl131:=z8 hm131
     have hg131:=hp101.get hm131;have O1:=S131;refine rg hB a6 [0,2,5,11,12,13,16,17] [0,5,13,16,17,29] [(2,lc J E (s5 h1) N131 p131)] hF fun X13 a0 w1 hF => ?_
     refine wp_seq (wp_seq (rg hB a6 [72,0,2,5,11,12,13,16] [0,5,13,16,29] [] hF fun X14 a0 w1 hF => ?_));apply a7 hF rfl<;>intro hb hF
     .have tv1:¬ h1.ver=v:=by
       have h9:(h1.ver != v)=true:=by subst hB; exact hb
       simpa using h9
      exact wp_ret ((rgo hB a6 hF (v:=()) (q:=p131) (by simp [l8,s8,<-hx0,<-hx1,<-he,Rs.bind,t0,<-hv0,<-hv1,hdn0,hrun1,s8,hm101,tq1,hm131,tv1]) hN131).1)
     have tv1:h1.ver=v:=by
      have h9:(h1.ver != v)=false:=by subst hB; exact hb
      simpa using h9
     refine wp_skip ?_
     rcases (dQ 0 b J hJ E hE N131 p131 hR131 hp131 hn131 x1 g1.ver (hv 1)).two (l3 _ _ _ _ _) hp131 hn131 hR131 with ⟨d1,p151,N151,hm151,hs151,hp151,hn151,hR151,hN151,S151⟩ | ⟨wq151,p151,N151,W151,hm151,hs151,hN151,hW151,S151⟩
     .have O1:=S151
      refine drg hB a6 [0,2,5,11,12,13,15] [0,5,13,29] [(8,lc J E (.bool (.v d1)) N151 p151)] hF fun X15 a0 w1 hF => ?_
      replace hF:=hF.keep [15,0,2,5,11,12,13] [0,5,13,29]
      rcases Bool.eq_false_or_eq_true d1 with hd | hd
      .exact ⟨.dn p151 N151,⟨by rw [hrun1]; simp [s8,Rs.bind,hd,t0,<-hv0,<-hv1,hdn0,hrun1,s8,hm101,tq1,hm131,tv1,hm151],hp151,hn151,hR151,by have:=hl101; have:=hs131.le; have:=hs151.le; have:=hle1; omega⟩,by simp [lsM],hF.headS (v':=.bool .tt) (Sim.bool hd) rfl⟩
      exact ⟨.go m1 p151 N151,⟨by rw [hrun1]; simp [s8,Rs.bind,hd,t0,<-hv0,<-hv1,hdn0,hrun1,s8,hm101,tq1,hm131,tv1,hm151],hp151,hn151,hR151,by have:=hl101; have:=hs131.le; have:=hs151.le; have:=hf1; omega,by have:=hl101; have:=hs131.le; have:=hs151.le; have:=hle1; omega⟩,by simp [lsM],hF.headS (v':=.bool .ff) (Sim.bool hd) rfl⟩
     have O1:=S151;refine drg hB a6 [0,2,5,11,12,13,15] [0,5,13,29] [(8,sc J E (.bool .ff) N151 W151 p151.note)] hF fun X15 a0 w1 hF => ?_
     replace hF:=hF.keep [15,0,2,5,11,12,13] [0,5,13,29];exact ⟨.sp N151 (W151 (X15 8)) p151.note,⟨(X15 8),wq151,p151,by simp [l8,s8,<-hx0,<-hx1,<-he,Rs.bind,t0,<-hv0,<-hv1,hdn0,hrun1,s8,hm101,tq1,hm131,tv1,hm151],hN151,(hW151 _),rfl⟩,by simp [lsM],hF⟩
    have O1:=S131;refine rg hB a6 [0,2,5,11,12,13,16,17] [0,5,13,16,17,29] [(2,sc J E (.agg [.int .i64 0,.int .u64 0,.bool .ff,.int .i64 0,.sl none none 0 0 2 (fun _ => []),.int .i64 0,.int .u64 0,.int .u64 0]) N131 W131 p131.note)] hF fun X13 a0 w1 hF => ?_
    refine wp_seq (wp_seq (rg hB a6 [72,0,2,5,11,12,13,16] [0,5,13,16,29] [] hF fun X14 a0 w1 hF => ?_));refine j1 hF rfl (fun hF => ?_);exact wp_ret ((rst hB a6 hF (q:=p131) (wq:=wq131) (X13 2) (by simp [l8,s8,<-hx0,<-hx1,<-he,Rs.bind,t0,<-hv0,<-hv1,hdn0,hrun1,s8,hm101,tq1,hm131]) hN131 (hW131 _)).1)
   have O1:=S101;refine rg hB a6 [0,2,5,11,12,13,16] [0,5,13,16,29] [(2,sc J E (.agg [.int .i64 0,.int .u64 0,.bool .ff,.int .i64 0,.sl none none 0 0 2 (fun _ => []),.int .i64 0,.int .u64 0,.int .u64 0]) N101 W101 p101.note)] hF fun X10 a0 w1 hF => ?_
   refine wp_seq (wp_seq (rg hB a6 [59,0,2,5,11,12,13,16] [0,5,13,16,29] [] hF fun X11 a0 w1 hF => ?_));refine j0 hF rfl (fun hF => ?_);have O1:=dP 0 b J E hE N101 (W101 (X10 2)) p101.note l;refine wp_skip (wp_seq (rg hB a6 [0,2,5,11,12,13,16,17] [0,5,13,16,17,29] [(2,dc J E (.agg [.int .i64 0,.int .u64 0,.bool .ff,.int .i64 0,.sl none none 0 0 2 (fun _ => []),.int .i64 0,.int .u64 0,.int .u64 0]) N101 (W101 (X10 2)) p101.note)] hF fun X13 a0 w1 hF => ?_));refine wp_seq (wp_seq (rg hB a6 [72,0,2,5,11,12,13,16] [0,5,13,16,29] [] hF fun X14 a0 w1 hF => ?_));refine j1 hF rfl (fun hF => ?_);exact wp_ret ((rst hB a6 hF (q:=p101) (wq:=wq101) (X10 2) (by simp [l8,s8,<-hx0,<-hx1,<-he,Rs.bind,t0,<-hv0,<-hv1,hdn0,hrun1,s8,hm101]) hN101 (hW101 _)).1)
  .dsimp only [lsC,lsB] at hJ hF
   obtain ⟨hdn1,hp1,hn1,hR1,hle1⟩:=hJ;have hN1:N1=E.n - p1.n:=by have:=hR1.n; omega
   refine wp_seq (wp_seq (rg hB a6 [48,0,2,5,11,12,13] [0,5,13,29] [] hF fun X9 a0 w1 hF => ?_));refine j0 hF rfl (fun hF => ?_);refine wp_exit (rg hB a6 [12,0,2,5,11] [0,5,29] [] hF fun X6 a0 w1 hF => ?_);replace hF:=hF.headS (v':=.int .i64 2) (by subst hB; exact zr) rfl;refine i5 (wp_seq (wp_seq (rg hB a6 [31,0,2,5,11,12] [0,5,29] [] hF fun X5 a0 w1 hF => ?_)));replace hF:=hF.headS (v':=.bool .ff) (Sim.bool (by subst hB; rfl)) rfl;refine j0 hF rfl (fun hF => ?_);refine wp_exit ?_
   rcases (sL 0 b J hJ E hE N1 p1 hR1 hp1 hn1 l v).two (l3 _ _ _ _ _) hp1 hn1 hR1 with ⟨d2,p16,N16,hm16,hs16,hp16,hn16,hR16,hN16,S16⟩ | ⟨wq16,p16,N16,W16,hm16,hs16,hN16,hW16,S16⟩
   .have O1:=iq
    have O2:=S16;refine drg hB a6 [] [0] [(3,.r fun _ => .agg [.int .i64 2,.sl none none 0 0 2 (fun _ => []),.int .i64 (-1),.int .u64 0,.int .u64 0]),(4,lc J E (.bool (.v d2)) N16 p16)] hF fun X16 a0 w1 hF => ?_
    exact (rgo hB a6 hF (v:=()) (q:=p16) (by simp [l8,s8,<-hx0,<-hx1,<-he,Rs.bind,t0,<-hv0,<-hv1,hdn0,hdn1,hm16]) hN16).2
   have O1:=iq;have O2:=S16;refine drg hB a6 [] [0] [(3,.r fun _ => .agg [.int .i64 2,.sl none none 0 0 2 (fun _ => []),.int .i64 (-1),.int .u64 0,.int .u64 0]),(4,sc J E (.bool .ff) N16 W16 p16.note)] hF fun X16 a0 w1 hF => ?_
   exact (rst hB a6 hF (q:=p16) (wq:=wq16) (X16 4) (by simp [l8,s8,<-hx0,<-hx1,<-he,Rs.bind,t0,<-hv0,<-hv1,hdn0,hdn1,hm16]) hN16 (hW16 _)).2
  dsimp only [lsC,lsB] at hJ hF;obtain ⟨X1,wq1,pp1,hsp1,hN1,hW1,ht1⟩:=hJ;subst ht1;refine wp_seq (wp_seq (rg hB a6 [48,0,2,5,11,12,13] [0,5,13,29] [] hF fun X9 a0 w1 hF => ?_));refine j0 hF rfl (fun hF => ?_);refine wp_exit (rg hB a6 [12,0,2,5,11] [0,5,29] [] hF fun X6 a0 w1 hF => ?_);replace hF:=hF.headS (v':=.int .i64 2) (by subst hB; exact zr) rfl;refine i5 (wp_seq (wp_seq (rg hB a6 [31,0,2,5,11,12] [0,5,29] [] hF fun X5 a0 w1 hF => ?_)));replace hF:=hF.headS (v':=.bool .ff) (Sim.bool (by subst hB; rfl)) rfl;refine j0 hF rfl (fun hF => ?_);have O1:=iq;have O2:=sM 0 b J E hE N1 Q1 pp1.note l v;refine wp_exit (drg hB a6 [] [0] [(3,.r fun _ => .agg [.int .i64 2,.sl none none 0 0 2 (fun _ => []),.int .i64 (-1),.int .u64 0,.int .u64 0]),(4,dc J E (.bool .ff) N1 Q1 pp1.note)] hF fun X16 a0 w1 hF => ?_);exact (rst hB a6 hF (q:=pp1) (wq:=wq1) X1 (hsp1) hN1 hW1).2
 dsimp only [lsC,lsB] at hJ hF;obtain ⟨X0,wq0,pp0,hsp0,hN0,hW0,ht0⟩:=hJ;subst ht0;refine wp_seq (wp_seq (rg hB a6 [48,0,2,5,11,12,13] [0,5,13,29] [] hF fun X9 a0 w1 hF => ?_));refine j0 hF rfl (fun hF => ?_);refine wp_exit (rg hB a6 [12,0,2,5,11] [0,5,29] [] hF fun X6 a0 w1 hF => ?_);replace hF:=hF.headS (v':=.int .i64 1) (by subst hB; exact zr) rfl;refine i5 (wp_seq (wp_seq (rg hB a6 [31,0,2,5,11,12] [0,5,29] [] hF fun X5 a0 w1 hF => ?_)));replace hF:=hF.headS (v':=.bool .tt) (Sim.bool (by subst hB; rfl)) rfl;refine j1 hF rfl (fun hF => ?_);have O1:=SC1;refine wp_skip (wp_seq (wp_block (wp_seq (rg hB a6 [0,2,5,11,12,13] [0,5,13,29] [(2,.r fun _ => .tup [.agg [.int .i64 x1.len,.int .u64 x1.bits],.int .i64 y1])] hF fun X7 a0 w1 hF => ?_))));refine wp_seq (rg hB a6 [15,0,2,5,11,12,13] [0,5,13,29] [] hF fun X8 a0 w1 hF => ?_);refine wp_block (k9 (ι:=LSt) (fun q => [(15,.bool (lsB q))]) (fun q => [(0,⟨b,105,lsC J E q⟩)]) (fun q => []) (fun q => match q with | .sp M Q u => N0=M/\Q0=Q/\pp0.note=u | _ => False) (fun q => lsM q) (.sp N0 Q0 pp0.note) ⟨rfl,rfl,rfl⟩ hF ?_)
 rintro q hJ a0 w1 hF
 rcases q with ⟨nn,pp,NN⟩ | ⟨pp,NN⟩ | ⟨NN,QQ,tt⟩
 .exact (hJ:False).elim
 .exact (hJ:False).elim
 dsimp only [lsC,lsB] at hJ hF;obtain ⟨rfl,rfl,rfl⟩:=hJ;refine wp_seq (wp_seq (rg hB a6 [48,0,2,5,11,12,13] [0,5,13,29] [] hF fun X9 a0 w1 hF => ?_));refine j0 hF rfl (fun hF => ?_);refine wp_exit (rg hB a6 [12,0,2,5,11] [0,5,29] [] hF fun X6 a0 w1 hF => ?_);replace hF:=hF.headS (v':=.int .i64 2) (by subst hB; exact zr) rfl;refine i5 (wp_seq (wp_seq (rg hB a6 [31,0,2,5,11,12] [0,5,29] [] hF fun X5 a0 w1 hF => ?_)));replace hF:=hF.headS (v':=.bool .ff) (Sim.bool (by subst hB; rfl)) rfl;refine j0 hF rfl (fun hF => ?_);have O1:=iq;have O2:=sM 0 b J E hE N0 Q0 pp0.note l v;refine wp_exit (drg hB a6 [] [0] [(3,.r fun _ => .agg [.int .i64 2,.sl none none 0 0 2 (fun _ => []),.int .i64 (-1),.int .u64 0,.int .u64 0]),(4,dc J E (.bool .ff) N0 Q0 pp0.note)] hF fun X16 a0 w1 hF => ?_);exact (rst hB a6 hF (q:=pp0) (wq:=wq0) X0 (hsp0) hN0 hW0).2
theorem Df (k0 b:Nat) (J:i7) (hJ:k8 J) (E:s6) (hE:E.n<=1000000) (N:Nat) (p:Pst) (hR:Rel E N p) (hp:i6 p) (hn:p.n<=1000000) (l:Lab) (hl:LOk l) (v:Int) (x:RA) (hx:U5 x) (n:Nat) (hf:p.n < n):D6 120 k0 b J E N p [b6 l,.int .u64 v,u7 x] (fun _ => i8) (i8) (l8 (J.budget - E.n) n l v x p):=D6.re (zL b J hJ E hE N p hR hp hn l hl v x hx n hf) (by repeat (first | exact trivial | refine ⟨zr,?_⟩))
theorem zN (b:Nat) (J:i7) (hJ:k8 J) (E:s6) (hE:E.n<=1000000) (N:Nat) (p:Pst) (hR:Rel E N p) (hp:i6 p) (hn:p.n<=1000000) (l:Lab) (hl:LOk l) (v:Int) (n:Nat) (hth:oe n) (hf:p.n < n):D6 121 0 b J E N p [b6 l,.int .u64 v] (fun _ => i8) (i8) (L3 J.bucket (J.budget - E.n) n (G3 J.bucket (J.budget - E.n) n) l v p):=by
 intro m w hm hargs hpre;have hN0:N=E.n - p.n:=by have:=hR.n; omega
 have SC0:=Q6 l hl.u 0 (.inl rfl);have SC1:=Q6 l hl.u 1 (.inr rfl);have hk0:=hl.ch 0;have hk1:=hl.ch 1;simp only [b6] at SC0 SC1;obtain ⟨x0,hx0⟩:=eqv (chV l 0);rw [<-hx0] at SC0 hk0;obtain ⟨x1,hx1⟩:=eqv (chV l 1);rw [<-hx1] at SC1 hk1;obtain ⟨y0,hy0⟩:=eqv (chE l 0);rw [<-hy0] at SC0;obtain ⟨y1,hy1⟩:=eqv (chE l 1);rw [<-hy1] at SC1;refine enX 91 hm hpre hargs Tryz.func121 fun B hB a0 hF => ?_
 refine wp_seq (rg hB a6 [0,2,4] [0,4] [] hF fun X0 a0 w1 hF => ?_);have O1:=SC0;refine wp_seq (rg hB a6 [0,2,4,6] [0,4,6] [(1,.r fun _ => .tup [.agg [.int .i64 x0.len,.int .u64 x0.bits],.int .i64 y0])] hF fun X1 a0 w1 hF => ?_);have O1:=SC1;refine wp_seq (rg hB a6 [0,2,4,6,8] [0,4,6,8] [(1,.r fun _ => .tup [.agg [.int .i64 x1.len,.int .u64 x1.bits],.int .i64 y1])] hF fun X2 a0 w1 hF => ?_);apply wp_seq
 rcases (xm 0 b J hJ E hE N p hR hp hn l v x0 n (by skip; omega)).two (Z7 _ _ _ _ _ _) hp hn hR with ⟨z0,p3,N3,hm3,hs3,hp3,hn3,hR3,hN3,S3⟩ | ⟨wq3,p3,N3,W3,hm3,hs3,hN3,hW3,S3⟩
 .have hz0:∀ y,z0 = .fr y -> U5 y:=fun y hy => fl hp (by rw [hm3,hy])
  have T3:=S3;unfold sI at T3;obtain ⟨y0_,hy0_⟩:=eqv (fzR z0);rw [<-hy0_] at T3;obtain ⟨i0,hi0⟩:=eqv (fzJ z0);rw [<-hi0] at T3;have O1:=T3;have O2:=S3;refine rg hB a6 [0,2,4,6,8,10,11] [0,4,6,8,10] [(4,lc J E (.tup [.agg [.int .i64 y0_.r.kd,.sl none y0_.A y0_.r.n y0_.c 2 (fun i => itC (y0_.r.f i)),.int .i64 y0_.r.nx.len,.int .u64 y0_.r.nx.bits,.int .u64 y0_.r.mrk],.int .i64 i0]) N3 p3)] hF fun X3 a0 w1 hF => ?_
  refine wp_seq (wp_seq (rg hB a6 [35,0,2,4,6,8,10,11] [0,4,6,8,10] [] hF fun X4 a0 w1 hF => ?_));apply a7 hF rfl<;>intro hb hF
  .have tz0:z0 = .over:=Fl (by rw [<-hi0]; subst hB; simpa [std,a8] using hb)
   exact wp_ret ((rgo hB a6 hF (v:=()) (q:=p3) (by simp [L3,<-hx0,<-hx1,Rs.bind,hm3,tz0]) hN3).1)
  have ta0:¬ fzJ z0 < 0:=by
   have:¬ i0 < 0:=by subst hB; simpa [std,a8] using hb
   rw [<-hi0]; exact this
  refine wp_skip (wp_seq (wp_seq (rg hB a6 [37,0,2,4,6,8,10] [0,4,6,8,10] [] hF fun X5 a0 w1 hF => ?_)));apply a7 hF rfl<;>intro hb hF
  .have tz0:z0 = .unfit:=Fk (by rw [<-hi0]; subst hB; simpa [std,a8] using hb)
   apply wp_seq
   rcases (xx 0 b J hJ E hE N3 p3 hR3 hp3 hn3 l hl v x0 x1 hx0 hx1 n hth (by skip; have:=hs3.le; omega)).two (bx _ _ (F5 _ _ _) _ _ _) hp3 hn3 hR3 with ⟨v6,p6,N6,hm6,hs6,hp6,hn6,hR6,hN6,S6⟩ | ⟨wq6,p6,N6,W6,hm6,hs6,hN6,hW6,S6⟩
   .have O1:=S6
    refine rg hB a6 [] [0] [(5,lc J E (i8) N6 p6)] hF fun X6 a0 w1 hF => ?_
    exact wp_ret ((rgo hB a6 hF (v:=()) (q:=p6) (by simp [L3,<-hx0,<-hx1,Rs.bind,hm3,tz0,hm6]) hN6).1)
   have O1:=S6;refine rg hB a6 [] [0] [(5,sc J E (i8) N6 W6 p6.note)] hF fun X6 a0 w1 hF => ?_
   exact wp_ret ((rst hB a6 hF (q:=p6) (wq:=wq6) (X6 5) (by simp [L3,<-hx0,<-hx1,Rs.bind,hm3,tz0,hm6]) hN6 (hW6 _)).1)
  have tz0:z0 = .fr y0_:=by
   rw [hy0_];refine CY ta0 ?_;have:¬ i0=0:=by subst hB; simpa [std,a8] using hb
   rw [<-hi0]; exact this
  have ty0:=hz0 _ tz0;refine wp_skip (wp_seq ?_)
  rcases (xm 0 b J hJ E hE N3 p3 hR3 hp3 hn3 l v x1 n (by skip; have:=hs3.le; omega)).two (Z7 _ _ _ _ _ _) hp3 hn3 hR3 with ⟨z1,p7,N7,hm7,hs7,hp7,hn7,hR7,hN7,S7⟩ | ⟨wq7,p7,N7,W7,hm7,hs7,hN7,hW7,S7⟩
  .have hz1:∀ y,z1 = .fr y -> U5 y:=fun y hy => fl hp3 (by rw [hm7,hy])
   have T7:=S7;unfold sI at T7;obtain ⟨y1_,hy1_⟩:=eqv (fzR z1);rw [<-hy1_] at T7;obtain ⟨i1,hi1⟩:=eqv (fzJ z1);rw [<-hi1] at T7;have O1:=T7;have O2:=S7;refine rg hB a6 [0,2,4,6,8,10,12,13] [0,4,6,8,10,12] [(4,lc J E (.tup [.agg [.int .i64 y1_.r.kd,.sl none y1_.A y1_.r.n y1_.c 2 (fun i => itC (y1_.r.f i)),.int .i64 y1_.r.nx.len,.int .u64 y1_.r.nx.bits,.int .u64 y1_.r.mrk],.int .i64 i1]) N7 p7)] hF fun X7 a0 w1 hF => ?_
   refine wp_seq (wp_seq (rg hB a6 [53,0,2,4,6,8,10,12,13] [0,4,6,8,10,12] [] hF fun X8 a0 w1 hF => ?_));apply a7 hF rfl<;>intro hb hF
   .have tz1:z1 = .over:=Fl (by rw [<-hi1]; subst hB; simpa [std,a8] using hb)
    exact wp_ret ((rgo hB a6 hF (v:=()) (q:=p7) (by simp [L3,<-hx0,<-hx1,Rs.bind,hm3,tz0,hm7,tz1]) hN7).1)
   have ta1:¬ fzJ z1 < 0:=by
    have:¬ i1 < 0:=by subst hB; simpa [std,a8] using hb
    rw [<-hi1]; exact this
   have ty1:U5 y1_:=by
    rw [hy1_]
    cases hz:z1 with
    | fr y => exact hz1 y hz
    | over => exact uM
    | unfit => exact uM
   have SU:=Db y0_ y1_ ty0 ty1;obtain ⟨r2,hr2⟩:=eqv ((cw y0_ y1_).1.rn);rw [<-hr2] at SU;obtain ⟨e2,he2⟩:=eqv ((cw y0_ y1_).2);rw [<-he2] at SU;have ha2:r2.abs=(cw y0_ y1_).1:=by rw [hr2]; exact aB _
   have hl2:r2.abs.items.length=r2.n:=by rw [ha2,hr2]; rfl
   have O1:=SU;refine wp_skip (wp_seq (rg hB a6 [0,2,4,6,8,13,14,15] [0,4,6,8,14] [(2,.r fun z => .tup [.agg [.int .i64 r2.kd,.sl none (z.A 0) r2.n (z.c 0) 2 (fun i => itC (r2.f i)),.int .i64 r2.nx.len,.int .u64 r2.nx.bits,.int .u64 r2.mrk],.int .i64 e2])] hF fun X9 a0 w1 hF => ?_));refine wp_seq (wp_seq (drg hB a6 [76,0,2,4,6,8,14] [0,4,6,8,14] [] hF fun X10 a0 w1 hF => ?_));apply a7 hF rfl<;>intro hb hF
   .have h9:(if (if decide (i1=0)=true then true else !decide (e2=0))=true then true else decide ((r2.n:Int) > J.bucket))=true:=by subst hB; exact hb
    have htot:L3 J.bucket (J.budget - E.n) n (G3 J.bucket (J.budget - E.n) n) l v p=aN (J.budget - E.n) (G3 J.bucket (J.budget - E.n) n) l v p7:=by
     by_cases hi:i1=0
     .have hz:=Fk (by rw [<-hi1]; exact hi)
      simp [L3,Rs.bind,<-hx0,<-hx1,hm3,tz0,hm7,hz]
     have hz:z1 = .fr y1_:=by rw [hy1_]; exact CY ta1 (by rw [<-hi1]; exact hi)
     have tu:¬ ((cw y0_ y1_).2=0/\(r2.abs.items.length:Int)<=J.bucket):=by
      rw [<-he2,hl2];intro h; simp [hi,h.1] at h9; omega
     simp [L3,Rs.bind,<-hx0,<-hx1,hm3,tz0,hm7,hz,<-ha2,if_neg tu]
    apply wp_seq
    rcases (xx 0 b J hJ E hE N7 p7 hR7 hp7 hn7 l hl v x0 x1 hx0 hx1 n hth (by skip; have:=hs3.le; have:=hs7.le; omega)).two (bx _ _ (F5 _ _ _) _ _ _) hp7 hn7 hR7 with ⟨v11,p11,N11,hm11,hs11,hp11,hn11,hR11,hN11,S11⟩ | ⟨wq11,p11,N11,W11,hm11,hs11,hN11,hW11,S11⟩
    .have O1:=S11
     refine rg hB a6 [] [0] [(5,lc J E (i8) N11 p11)] hF fun X11 a0 w1 hF => ?_
     exact wp_ret ((rgo hB a6 hF (v:=()) (q:=p11) (by rw [htot,hm11]) hN11).1)
    have O1:=S11;refine rg hB a6 [] [0] [(5,sc J E (i8) N11 W11 p11.note)] hF fun X11 a0 w1 hF => ?_
    exact wp_ret ((rst hB a6 hF (q:=p11) (wq:=wq11) (X11 5) (by rw [htot,hm11]) hN11 (hW11 _)).1)
   have h9:(if (if decide (i1=0)=true then true else !decide (e2=0))=true then true else decide ((r2.n:Int) > J.bucket))=false:=by subst hB; exact hb
   have hi:¬ i1=0:=by intro h; simp [h] at h9
   have tz1:z1 = .fr y1_:=by rw [hy1_]; exact CY ta1 (by rw [<-hi1]; exact hi)
   have tu:(cw y0_ y1_).2=0/\(r2.abs.items.length:Int)<=J.bucket:=by
    rw [<-he2,hl2];simp [hi] at h9; exact ⟨h9.1,by omega⟩
   refine wp_skip (wp_seq ?_)
   rcases (dQ 0 b J hJ E hE N7 p7 hR7 hp7 hn7 l v ⟨(X9 2).A 0,(X9 2).c 0,r2⟩).two (l3 _ _ _ _ _) hp7 hn7 hR7 with ⟨d5,p12,N12,hm12,hs12,hp12,hn12,hR12,hN12,S12⟩ | ⟨wq12,p12,N12,W12,hm12,hs12,hN12,hW12,S12⟩
   .have O1:=S12
    refine rg hB a6 [87,0,4] [0,4] [(4,lc J E (.bool (.v d5)) N12 p12)] hF fun X12 a0 w1 hF => ?_
    apply a7 hF rfl<;>intro hb hF
    .have t5:d5=true:=by exact hb
     rcases (qU n 0 b J hJ E hE N12 p12 hR12 hp12 hn12 l hl (by skip; have:=hs3.le; have:=hs7.le; have:=hs12.le; omega)).two (J1 _ _ _ _) hp12 hn12 hR12 with ⟨v13,p13,N13,hm13,hs13,hp13,hn13,hR13,hN13,S13⟩ | ⟨wq13,p13,N13,W13,hm13,hs13,hN13,hW13,S13⟩
     .have O1:=S13
      refine rg hB a6 [] [0] [(2,lc J E (i8) N13 p13)] hF fun X13 a0 w1 hF => ?_
      exact (rgo hB a6 hF (v:=()) (q:=p13) (by simp [L3,<-hx0,<-hx1,Rs.bind,hm3,tz0,hm7,<-ha2,tz1,if_pos tu,hm12,t5,hm13]) hN13).2
     have O1:=S13;refine rg hB a6 [] [0] [(2,sc J E (i8) N13 W13 p13.note)] hF fun X13 a0 w1 hF => ?_
     exact (rst hB a6 hF (q:=p13) (wq:=wq13) (X13 2) (by simp [L3,<-hx0,<-hx1,Rs.bind,hm3,tz0,hm7,<-ha2,tz1,if_pos tu,hm12,t5,hm13]) hN13 (hW13 _)).2
    have t5:d5=false:=by exact hb
    exact wp_skip ((rgo hB a6 hF (v:=()) (q:=p12) (by simp [L3,<-hx0,<-hx1,Rs.bind,hm3,tz0,hm7,<-ha2,tz1,if_pos tu,hm12,t5]) hN12).2)
   have O1:=S12;refine rg hB a6 [87,0,4] [0,4] [(4,sc J E (.bool .ff) N12 W12 p12.note)] hF fun X12 a0 w1 hF => ?_
   refine j0 hF rfl (fun hF => ?_);exact wp_skip ((rst hB a6 hF (q:=p12) (wq:=wq12) (X12 4) (by simp [L3,<-hx0,<-hx1,Rs.bind,hm3,tz0,hm7,<-ha2,tz1,if_pos tu,hm12]) hN12 (hW12 _)).2)
  have O1:=S7;refine rg hB a6 [0,2,4,6,8,10,12,13] [0,4,6,8,10,12] [(4,sc J E (.tup [.agg [.int .i64 0,.sl none none 0 0 2 (fun _ => []),.int .i64 0,.int .u64 0,.int .u64 0],.int .i64 (-1)]) N7 W7 p7.note)] hF fun X7 a0 w1 hF => ?_
  refine wp_seq (wp_seq (rg hB a6 [53,0,2,4,6,8,10,12,13] [0,4,6,8,10,12] [] hF fun X8 a0 w1 hF => ?_));apply a7 hF rfl<;>intro hb hF
  .skip
   exact wp_ret ((rst hB a6 hF (q:=p7) (wq:=wq7) (X7 4) (by simp [L3,<-hx0,<-hx1,Rs.bind,hm3,tz0,hm7]) hN7 (hW7 _)).1)
  exfalso
  have h9:decide ((-1:Int) < 0)=false:=by subst hB; exact hb
  exact absurd h9 (by decide)
 have O1:=S3;refine rg hB a6 [0,2,4,6,8,10,11] [0,4,6,8,10] [(4,sc J E (.tup [.agg [.int .i64 0,.sl none none 0 0 2 (fun _ => []),.int .i64 0,.int .u64 0,.int .u64 0],.int .i64 (-1)]) N3 W3 p3.note)] hF fun X3 a0 w1 hF => ?_
 refine wp_seq (wp_seq (rg hB a6 [35,0,2,4,6,8,10,11] [0,4,6,8,10] [] hF fun X4 a0 w1 hF => ?_));apply a7 hF rfl<;>intro hb hF
 .skip
  exact wp_ret ((rst hB a6 hF (q:=p3) (wq:=wq3) (X3 4) (by simp [L3,<-hx0,<-hx1,Rs.bind,hm3]) hN3 (hW3 _)).1)
 exfalso
 have h9:decide ((-1:Int) < 0)=false:=by subst hB; exact hb
 exact absurd h9 (by decide)
theorem Di (k0 b:Nat) (J:i7) (hJ:k8 J) (E:s6) (hE:E.n<=1000000) (N:Nat) (p:Pst) (hR:Rel E N p) (hp:i6 p) (hn:p.n<=1000000) (l:Lab) (hl:LOk l) (v:Int) (n:Nat) (hth:oe n) (hf:p.n < n):D6 121 k0 b J E N p [b6 l,.int .u64 v] (fun _ => i8) (i8) (L3 J.bucket (J.budget - E.n) n (G3 J.bucket (J.budget - E.n) n) l v p):=D6.re (zN b J hJ E hE N p hR hp hn l hl v n hth hf) (by repeat (first | exact trivial | refine ⟨zr,?_⟩))
theorem zT (b:Nat) (J:i7) (hJ:k8 J) (E:s6) (hE:E.n<=1000000) (N:Nat) (p:Pst) (hR:Rel E N p) (hp:i6 p) (hn:p.n<=1000000) (l:Lab) (hl:LOk l) (g:l5) (hg:dV g) (hgh:g.has=true) (n:Nat) (hth:oe n) (hf:p.n < n):D6 61 0 b J E N p [b6 l,s5 g] (fun _ => i8) (i8) (Y2 J.bucket (J.budget - E.n) n l g p):=by
 intro m w hm hargs hpre;have hN0:N=E.n - p.n:=by have:=hR.n; omega
 refine enX 25 hm hpre hargs Tryz.func61 fun B hB a0 hF => ?_
 refine wp_seq (rg hB a6 [0,4,5] [0,4,5] [] hF fun X0 a0 w1 hF => ?_);refine wp_seq (rg hB a6 [9,0,4,5] [0,4,5] [] hF fun X1 a0 w1 hF => ?_);apply a7 hF rfl<;>intro hb hF
 .have t1:gk g 3=true:=by
   have h:decide (g.x.r.kd=3)=true:=by subst hB; exact hb
   unfold gk; rw [hgh,h]; rfl
  rcases (Df 0 b J hJ E hE N p hR hp hn l hl g.ver g.x hg.ra n hf).two (ib _ _ _ _ _ _) hp hn hR with ⟨v2,p2,N2,hm2,hs2,hp2,hn2,hR2,hN2,S2⟩ | ⟨wq2,p2,N2,W2,hm2,hs2,hN2,hW2,S2⟩
  .have O1:=S2
   refine rg hB a6 [] [0] [(6,lc J E (i8) N2 p2)] hF fun X2 a0 w1 hF => ?_
   exact (rgo hB a6 hF (v:=()) (q:=p2) (by simp [Y2,dL,Rs.bind,t1,hm2]) hN2).2
  have O1:=S2;refine rg hB a6 [] [0] [(6,sc J E (i8) N2 W2 p2.note)] hF fun X2 a0 w1 hF => ?_
  exact (rst hB a6 hF (q:=p2) (wq:=wq2) (X2 6) (by simp [Y2,dL,Rs.bind,t1,hm2]) hN2 (hW2 _)).2
 have t1:gk g 3=false:=by
  have h:decide (g.x.r.kd=3)=false:=by subst hB; exact hb
  unfold gk; rw [hgh,h]; rfl
 refine wp_seq (rg hB a6 [19,0,4,5] [0,4,5] [] hF fun X3 a0 w1 hF => ?_);apply a7 hF rfl<;>intro hb hF
 .have t2:l.len < 64:=by subst hB; simpa [std,a8] using hb
  rcases (Di 0 b J hJ E hE N p hR hp hn l hl g.ver n hth hf).two (nG _ _ _ _ (F5 _ _ _) _ _ _) hp hn hR with ⟨v4,p4,N4,hm4,hs4,hp4,hn4,hR4,hN4,S4⟩ | ⟨wq4,p4,N4,W4,hm4,hs4,hN4,hW4,S4⟩
  .have O1:=S4
   refine rg hB a6 [] [0] [(4,lc J E (i8) N4 p4)] hF fun X4 a0 w1 hF => ?_
   exact (rgo hB a6 hF (v:=()) (q:=p4) (by simp [Y2,dL,Rs.bind,t1,t2,hm4]) hN4).2
  have O1:=S4;refine rg hB a6 [] [0] [(4,sc J E (i8) N4 W4 p4.note)] hF fun X4 a0 w1 hF => ?_
  exact (rst hB a6 hF (q:=p4) (wq:=wq4) (X4 4) (by simp [Y2,dL,Rs.bind,t1,t2,hm4]) hN4 (hW4 _)).2
 have t2:¬ l.len < 64:=by subst hB; simpa [std,a8] using hb
 exact wp_skip ((rgo hB a6 hF (v:=()) (q:=p) (by simp [Y2,dL,Rs.bind,t1,t2]) hN0).2)
theorem Do (k0 b:Nat) (J:i7) (hJ:k8 J) (E:s6) (hE:E.n<=1000000) (N:Nat) (p:Pst) (hR:Rel E N p) (hp:i6 p) (hn:p.n<=1000000) (l:Lab) (hl:LOk l) (g:l5) (hg:dV g) (hgh:g.has=true) (n:Nat) (hth:oe n) (hf:p.n < n):D6 61 k0 b J E N p [b6 l,s5 g] (fun _ => i8) (i8) (Y2 J.bucket (J.budget - E.n) n l g p):=D6.re (zT b J hJ E hE N p hR hp hn l hl g hg hgh n hth hf) (by repeat (first | exact trivial | refine ⟨zr,?_⟩))
theorem zI (b:Nat) (J:i7) (hJ:k8 J) (E:s6) (hE:E.n<=1000000) (N:Nat) (p:Pst) (hR:Rel E N p) (hp:i6 p) (hn:p.n<=1000000) (l:Lab) (hl:LOk l) (n:Nat) (hfin:∀ j,j < n -> sZ j) (hf:p.n < n):D6 86 0 b J E N p [b6 l] (fun _ => i8) (i8) (G3 J.bucket (J.budget - E.n) n l p):=by
 intro m w hm hargs hpre;have hN0:N=E.n - p.n:=by have:=hR.n; omega
 have SP:=vq l hl.u;have hpar:=hl.par;simp only [b6] at SP;obtain ⟨up,hup⟩:=eqv (P6 l);rw [<-hup] at SP hpar;obtain ⟨ue,hue⟩:=eqv (Q9 l);rw [<-hue] at SP;refine enX 66 hm hpre hargs Tryz.func86 fun B hB a0 hF => ?_
 refine wp_seq (rg hB a6 [0,3] [0,3] [] hF fun X0 a0 w1 hF => ?_);have O1:=SP;refine wp_seq (rg hB a6 [0,3,4,5] [0,3,4] [(1,.r fun _ => .tup [.agg [.int .i64 up.len,.int .u64 up.bits],.int .i64 ue])] hF fun X1 a0 w1 hF => ?_);refine wp_seq (wp_seq (rg hB a6 [14,0,3,4] [0,3,4] [] hF fun X2 a0 w1 hF => ?_));apply a7 hF rfl<;>intro hb hF
 .have t0:¬ ue=0:=by subst hB; simpa [std,a8] using hb
  exact wp_ret ((rgo hB a6 hF (v:=()) (q:=p) (by simp [G3,<-hup,<-hue,Rs.bind,t0]) hN0).1)
 have t0:ue=0:=by subst hB; simpa [std,a8] using hb
 refine wp_skip (wp_block (k9 (ι:=LSt) (fun q => []) (fun q => [(0,⟨b,105,lsC J E q⟩)]) (fun q => []) (fun q => match q with | .go a r M => cZ J.bucket (J.budget - E.n) n l up p=cZ J.bucket (J.budget - E.n) a l up r/\i6 r/\r.n<=1000000/\Rel E M r/\r.n < a/\r.n<=p.n/\a<=n | .dn r M => False | .sp M Q u => ∃ (X:i3) (wq:Wq) (pp:Pst),G3 J.bucket (J.budget - E.n) n l p = .stop wq pp/\M=E.n - pp.n/\Q=wqA X wq/\u=pp.note) (fun q => lsM q) (.go n p N) ⟨rfl,hp,hn,hR,(by skip; omega),(by skip; omega),Nat.le_refl _⟩ hF ?_))
 rintro q hJ a0 w1 hF
 rcases q with ⟨nn0,p0,N0⟩ | ⟨p9,N9⟩ | ⟨N0,Q0,t0⟩
 .dsimp only [lsC,lsB] at hJ hF
  obtain ⟨hrun0,hp0,hn0,hR0,hf0,hle0,hnn0⟩:=hJ;obtain ⟨m0,rfl⟩:∃ n2,nn0=n2 + 1:=⟨nn0 - 1,by omega⟩
  have hN0:N0=E.n - p0.n:=by have:=hR0.n; omega
  refine wp_seq (wp_seq (rg hB a6 [19,0,3,4] [0,3,4] [] hF fun X3 a0 w1 hF => ?_));refine j1 hF rfl (fun hF => ?_);refine wp_skip (wp_block (wp_seq ?_))
  rcases (P7 0 b J hJ E hE N0 p0 hR0 hp0 hn0 l).two (j2 _ _ _) hp0 hn0 hR0 with ⟨g3,p4,N4,hm4,hs4,hp4,hn4,hR4,hN4,S4⟩ | ⟨wq4,p4,N4,W4,hm4,hs4,hN4,hW4,S4⟩
  .have hl4:=z8 hm4
   have hg4:=hp0.get hm4;have O1:=S4;refine rg hB a6 [0,3,4,6] [0,3,4,6] [(2,lc J E (s5 g3) N4 p4)] hF fun X4 a0 w1 hF => ?_
   obtain ⟨q4,hq4⟩:=eqv (gk g3 5);refine wp_seq (wp_seq ?_);refine rg hB a6 [31,0,3,4,6] [0,3,4,6] [(6,.r fun _ => .bool (.v q4))] hF (hob:=by intro X; subst hB; simp only [b5,Ob.holds,BE.den]<;>and_intros<;>repeat first | trivial | rfl | exact (by rw [hq4]; exact E7 g3 5) | exact by rw [hq4]; exact E7 g3 5 | exact (fun _ _ => by kernel_rfl) | refine ⟨?_,?_⟩ | intro h | exact Int.le_refl _ | decide | omega) fun X5 a0 w1 hF => ?_
   apply a7 hF rfl<;>intro hb hF
   .have tq4:gk g3 5=false:=by subst hB; rw [<-hq4]; revert hb; cases q4<;>simp [std]
    exact wp_ret ((rgo hB a6 hF (v:=()) (q:=p4) (by simp [G3,<-hup,<-hue,Rs.bind,t0,hrun0,o5,hm4,tq4]) hN4).1)
   have tq4:gk g3 5=true:=by subst hB; rw [<-hq4]; revert hb; cases q4<;>simp [std]
   refine wp_skip (wp_seq ?_)
   rcases (P7 0 b J hJ E hE N4 p4 hR4 hp4 hn4 up).two (j2 _ _ _) hp4 hn4 hR4 with ⟨g5,p6,N6,hm6,hs6,hp6,hn6,hR6,hN6,S6⟩ | ⟨wq6,p6,N6,W6,hm6,hs6,hN6,hW6,S6⟩
   .have hl6:=z8 hm6
    have hg6:=hp4.get hm6;have O1:=S6;refine rg hB a6 [0,3,4,6,7] [0,3,4,6,7] [(2,lc J E (s5 g5) N6 p6)] hF fun X6 a0 w1 hF => ?_
    refine wp_seq (wp_seq (rg hB a6 [38,0,3,4,6,7] [0,3,4,6,7] [] hF fun X7 a0 w1 hF => ?_));refine j0 hF rfl (fun hF => ?_);obtain ⟨q6,hq6⟩:=eqv (gk g5 3);obtain ⟨r6,hr6⟩:=eqv (gk g5 4);refine wp_skip (wp_seq (wp_seq ?_));refine rg hB a6 [44,0,3,4,6,7] [0,3,4,6,7] [(1,.r fun _ => .bool (.v q6)),(4,.r fun _ => .bool (.v r6))] hF (hob:=by intro X; subst hB; simp only [b5,Ob.holds,BE.den]<;>and_intros<;>repeat first | trivial | rfl | exact (by rw [hq6]; exact E7 g5 3) | exact by rw [hq6]; exact E7 g5 3 | exact (by rw [hr6]; exact E7 g5 4) | exact by rw [hr6]; exact E7 g5 4 | exact (fun _ _ => by kernel_rfl) | refine ⟨?_,?_⟩ | intro h | exact Int.le_refl _ | decide | omega) fun X8 a0 w1 hF => ?_
    apply a7 hF rfl<;>intro hb hF
    .have tq6:(gk g5 3 || gk g5 4)=true:=by
      have h9:(if q6=true then true else r6)=true:=by subst hB; exact hb
      rw [<-hq6,<-hr6,<-h9]; cases q6<;>rfl
     have hgh:g5.has=true:=by
      unfold gk at tq6; revert tq6; cases g5.has<;>simp
     have tn2:gk g5 2=false:=by
      unfold gk at tq6 ⊢; revert tq6; cases g5.has<;>simp<;>omega
     apply wp_seq
     rcases (hfin m0 (by omega) 0 b J hJ E hE N6 p6 hR6 hp6 hn6 up hpar g5 hg6 hgh (by have:=hl4; have:=hl6; omega)).two (bw _ _ _ _ _ _) hp6 hn6 hR6 with ⟨v9,p9,N9,hm9,hs9,hp9,hn9,hR9,hN9,S9⟩ | ⟨wq9,p9,N9,W9,hm9,hs9,hN9,hW9,S9⟩
     .have O1:=S9
      refine rg hB a6 [] [0] [(3,lc J E (i8) N9 p9)] hF fun X9 a0 w1 hF => ?_
      exact wp_ret ((rgo hB a6 hF (v:=()) (q:=p9) (by simp [G3,<-hup,<-hue,Rs.bind,t0,hrun0,o5,hm4,tq4,hm6,tq6,tn2,hm9]) hN9).1)
     have O1:=S9;refine rg hB a6 [] [0] [(3,sc J E (i8) N9 W9 p9.note)] hF fun X9 a0 w1 hF => ?_
     exact wp_ret ((rst hB a6 hF (q:=p9) (wq:=wq9) (X9 3) (by simp [G3,<-hup,<-hue,Rs.bind,t0,hrun0,o5,hm4,tq4,hm6,tq6,tn2,hm9]) hN9 (hW9 _)).1)
    have tq6:(gk g5 3 || gk g5 4)=false:=by
     have h9:(if q6=true then true else r6)=false:=by subst hB; exact hb
     rw [<-hq6,<-hr6,<-h9]; cases q6<;>rfl
    refine wp_skip (wp_seq ?_)
    rcases Bool.eq_false_or_eq_true (gk g5 2) with t8 | t8
    .rcases (dQ 0 b J hJ E hE N6 p6 hR6 hp6 hn6 l g3.ver (asR 1 g3.x 0)).two (l3 _ _ _ _ _) hp6 hn6 hR6 with ⟨d8,p10,N10,hm10,hs10,hp10,hn10,hR10,hN10,S10⟩ | ⟨wq10,p10,N10,W10,hm10,hs10,hN10,hW10,S10⟩
     .refine rg hB a6 [65,0,3,4] [0,3,4] [(1,.r fun _ => .bool .tt),(15,lc J E (.bool (.v d8)) N10 p10)] hF (hob:=by intro X; subst hB; simp only [b5,Ob.holds,BE.den]<;>and_intros<;>repeat first | trivial | rfl | exact ((E7 g5 2).res fun _ => Sim.bool (by rw [t8]; rfl)) | exact S10 | exact (fun _ _ => by kernel_rfl) | refine ⟨?_,?_⟩ | intro h | exact Int.le_refl _ | decide | omega) fun X10 a0 w1 hF => ?_
      apply a7 hF rfl<;>intro hb hF
      .have t9:d8=true:=by exact hb
       exact wp_ret ((rgo hB a6 hF (v:=()) (q:=p10) (by simp [G3,<-hup,<-hue,Rs.bind,t0,hrun0,o5,hm4,tq4,hm6,tq6,t8,hm10,t9]) hN10).1)
      have t9:d8=false:=by exact hb
      replace hF:=hF.keep [0,3,4] [0,3,4];exact wp_skip (⟨.go m0 p10 N10,⟨by rw [hrun0]; simp [o5,Rs.bind,t0,hrun0,o5,hm4,tq4,hm6,tq6,t8,hm10,t9],hp10,hn10,hR10,by have:=hl4; have:=hs6.le; have:=hs10.le; have:=hf0; omega,by have:=hl4; have:=hs6.le; have:=hs10.le; have:=hle0; omega,by omega⟩,by simp [lsM],hF⟩)
     refine rg hB a6 [65,0,3,4] [0,3,4] [(1,.r fun _ => .bool .tt),(15,sc J E (.bool .ff) N10 W10 p10.note)] hF (hob:=by intro X; subst hB; simp only [b5,Ob.holds,BE.den]<;>and_intros<;>repeat first | trivial | rfl | exact ((E7 g5 2).res fun _ => Sim.bool (by rw [t8]; rfl)) | exact S10 | exact (fun _ _ => by kernel_rfl) | refine ⟨?_,?_⟩ | intro h | exact Int.le_refl _ | decide | omega) fun X10 a0 w1 hF => ?_
     refine j0 hF rfl (fun hF => ?_);replace hF:=hF.keep [0,3,4] [0,3,4];exact wp_skip (⟨.sp N10 (W10 (X10 15)) p10.note,⟨(X10 15),wq10,p10,by simp [G3,<-hup,<-hue,Rs.bind,t0,hrun0,o5,hm4,tq4,hm6,tq6,t8,hm10],hN10,(hW10 _),rfl⟩,by simp [lsM],hF⟩)
    refine rg hB a6 [65,0,3,4] [0,3,4] [(1,.r fun _ => .bool .ff)] hF (hob:=by intro X; subst hB; simp only [b5,Ob.holds,BE.den]<;>and_intros<;>repeat first | trivial | rfl | exact ((E7 g5 2).res fun _ => Sim.bool (by rw [t8]; rfl)) | exact (fun _ _ => by kernel_rfl) | refine ⟨?_,?_⟩ | intro h | exact Int.le_refl _ | decide | omega) fun X10 a0 w1 hF => ?_
    refine j1 hF rfl (fun hF => ?_);exact wp_ret ((rgo hB a6 hF (v:=()) (q:=p6) (by simp [G3,<-hup,<-hue,Rs.bind,t0,hrun0,o5,hm4,tq4,hm6,tq6,t8]) hN6).1)
   have O1:=S6;refine rg hB a6 [0,3,4,6,7] [0,3,4,6,7] [(2,sc J E (.agg [.int .i64 0,.int .u64 0,.bool .ff,.int .i64 0,.sl none none 0 0 2 (fun _ => []),.int .i64 0,.int .u64 0,.int .u64 0]) N6 W6 p6.note)] hF fun X6 a0 w1 hF => ?_
   refine wp_seq (wp_seq (rg hB a6 [38,0,3,4,6,7] [0,3,4,6,7] [] hF fun X7 a0 w1 hF => ?_));refine j1 hF rfl (fun hF => ?_);exact wp_ret ((rst hB a6 hF (q:=p6) (wq:=wq6) (X6 2) (by simp [G3,<-hup,<-hue,Rs.bind,t0,hrun0,o5,hm4,tq4,hm6]) hN6 (hW6 _)).1)
  have O1:=S4;refine rg hB a6 [0,3,4,6] [0,3,4,6] [(2,sc J E (.agg [.int .i64 0,.int .u64 0,.bool .ff,.int .i64 0,.sl none none 0 0 2 (fun _ => []),.int .i64 0,.int .u64 0,.int .u64 0]) N4 W4 p4.note)] hF fun X4 a0 w1 hF => ?_
  refine wp_seq (wp_seq (rg hB a6 [31,0,3,4,6] [0,3,4,6] [] hF fun X5 a0 w1 hF => ?_));refine j1 hF rfl (fun hF => ?_);exact wp_ret ((rst hB a6 hF (q:=p4) (wq:=wq4) (X4 2) (by simp [G3,<-hup,<-hue,Rs.bind,t0,hrun0,o5,hm4]) hN4 (hW4 _)).1)
 .exact (hJ:False).elim
 dsimp only [lsC,lsB] at hJ hF;obtain ⟨X0,wq0,pp0,hsp0,hN0,hW0,ht0⟩:=hJ;subst ht0;refine wp_seq (wp_seq (rg hB a6 [19,0,3,4] [0,3,4] [] hF fun X3 a0 w1 hF => ?_));refine j0 hF rfl (fun hF => ?_);exact wp_exit ((rst hB a6 hF (q:=pp0) (wq:=wq0) X0 (hsp0) hN0 hW0).2)
theorem Dc (k0 b:Nat) (J:i7) (hJ:k8 J) (E:s6) (hE:E.n<=1000000) (N:Nat) (p:Pst) (hR:Rel E N p) (hp:i6 p) (hn:p.n<=1000000) (l:Lab) (hl:LOk l) (n:Nat) (hfin:∀ j,j < n -> sZ j) (hf:p.n < n):D6 86 k0 b J E N p [b6 l] (fun _ => i8) (i8) (G3 J.bucket (J.budget - E.n) n l p):=D6.re (zI b J hJ E hE N p hR hp hn l hl n hfin hf) (by repeat (first | exact trivial | refine ⟨zr,?_⟩))
theorem sJ:∀ n,oe n/\sZ n:=by
 intro n
 induction n using Nat.strongRecOn with
 | _ n ih =>
  have h1:oe n:=fun k0 b J hJ E hE N p hR hp hn l hl hf => Dc k0 b J hJ E hE N p hR hp hn l hl n (fun j hj => (ih j hj).2) hf
  exact ⟨h1,fun k0 b J hJ E hE N p hR hp hn l hl g hg hgh hf => Do k0 b J hJ E hE N p hR hp hn l hl g hg hgh n h1 hf⟩
theorem De (n:Nat):oe n:=(sJ n).1
theorem Dp (n:Nat):sZ n:=(sJ n).2
theorem sR (v lo hi:Int):j8 Tryz.prog 110 [.int .i64 v,.int .i64 lo,.int .i64 hi] (fun _ => .bool (.v (btw v lo hi))):=by
 intro m w hm hargs;refine en 15 hm hargs Tryz.func110 fun B hB a0 hF => ?_
 refine wp_seq (rg hB a6 [0,1,2] [] [] hF fun X0 a0 w1 hF => ?_);refine wp_seq (rg hB a6 [6] [] [] hF fun X1 a0 w1 hF => ?_);refine wp_ret ((rsi hB a6 hF f4 (he:=?_)));subst hB;refine Sim.bool ?_
 show (if decide (lo<=v)=true then decide (v<=hi) else false)=_
 rw [B6]; rfl
theorem Fa (J:i7) (hl:U64 J.lab.bits):j8 Tryz.prog 49 [Z6 J] (fun _ => .bool (.v (G5 J))):=by
 intro m w hm hargs;have S1:=sR J.bucket 1 16;have S2:=sR J.budget 0 2000;have S3:=sR J.how 1 2;have S4:=sR J.most 0 500;have SL:=fX J.lab hl;simp only [b6] at SL;obtain ⟨q1,hq1⟩:=eqv (btw J.bucket 1 16);rw [<-hq1] at S1;obtain ⟨q2,hq2⟩:=eqv (btw J.budget 0 2000);rw [<-hq2] at S2;obtain ⟨q3,hq3⟩:=eqv (btw J.how 1 2);rw [<-hq3] at S3;obtain ⟨q4,hq4⟩:=eqv (btw J.most 0 500);rw [<-hq4] at S4;obtain ⟨ql,hql⟩:=eqv (isL J.lab);rw [<-hql] at SL;refine en 37 hm hargs Tryz.func49 fun B hB a0 hF => ?_
 refine wp_seq (rg hB a6 [1] [1] [] hF fun X0 a0 w1 hF => ?_);refine wp_seq (rg hB a6 [1,3] [1] [] hF fun X1 a0 w1 hF => ?_);apply wp_seq;refine rg hB a6 [2] [] [(3,.r fun _ => .bool (.v q1)),(8,.r fun _ => .bool (.v q2)),(14,.r fun _ => .bool (.v q3)),(20,.r fun _ => .bool (.v q4)),(31,.r fun _ => .bool (.v ql))] hF (hob:=by intro X; subst hB; simp only [b5,Ob.holds,BE.den]<;>and_intros<;>repeat first | trivial | rfl | exact S1 | exact S2 | exact S3 | exact S4 | exact SL | exact (fun _ _ => by kernel_rfl) | refine ⟨?_,?_⟩ | intro h | exact Int.le_refl _ | decide | omega) fun X2 a0 w1 hF => ?_
 refine wp_ret ((rsi hB a6 hF f4 (he:=?_)));subst hB;refine Sim.bool ?_
 show (if (if (if (if (if q1=true then q2 else false)=true then q3 else false)=true then q4 else false)=true then decide ((J.pn:Int)<=500) else false)=true then ql else false)=_
 simp only [B6];unfold G5;rw [<-hq1,<-hq2,<-hq3,<-hq4,<-hql]; rfl
theorem Dm (J:i7) (hl:U64 J.lab.bits):j8 Tryz.prog 54 [Z6 J] (fun _ => .bool (.v (G5 J))):=by
 intro m w hm hargs;have SL:=gG J.lab hl;simp only [b6] at SL;obtain ⟨ql,hql⟩:=eqv (isL J.lab);rw [<-hql] at SL;refine en 52 hm hargs Tryz.func54 fun B hB a0 hF => ?_
 refine wp_seq (rg hB a6 [1] [1] [] hF fun X0 a0 w1 hF => ?_);have O1:=SL;refine wp_seq (rg hB a6 [2] [] [(47,.r fun _ => .bool (.v ql))] hF fun X1 a0 w1 hF => ?_);refine wp_ret ((rsi hB a6 hF f4 (he:=?_)));subst hB;refine Sim.bool ?_
 show (if (if (if (if (if (if (if (if decide (J.bucket ≥ 1)=true then decide (J.bucket<=16) else false)=true then decide (J.budget ≥ 0) else false)=true then decide (J.budget<=2000) else false)=true then (if (J.how == 1)=true then true else (J.how == 2)) else false)=true then decide (J.most ≥ 0) else false)=true then decide (J.most<=500) else false)=true then decide ((J.pn:Int)<=500) else false)=true then ql else false)=G5 J
 simp only [B6,U0];unfold G5 btw;rw [<-hql,Bool.eq_iff_iff]
 cases ql
 .simp
 simp only [Bool.and_eq_true,Bool.or_eq_true,decide_eq_true_eq,beq_iff_eq,and_true];omega
theorem Fb (g:l5) (hg:InG g):j8 Tryz.prog 48 [s5 g] (fun _ => .bool (.v (E6 g))):=by
 intro m w hm hargs;have SR:=kv g.x.A g.x.r.n g.x.c g.x.r.f hg.len g.x.r.kd g.x.r.nx g.x.r.mrk hg.nx;unfold Q5 l4 at SR;obtain ⟨ir,hir⟩:=eqv (L6 g.x.r.kd g.x.r.n g.x.r.f g.x.r.nx g.x.r.mrk);rw [<-hir] at SR;refine en 41 hm hargs Tryz.func48 fun B hB a0 hF => ?_
 refine wp_seq (rg hB a6 [1] [1] [] hF fun X0 a0 w1 hF => ?_);refine wp_seq (wp_block (wp_seq (rg hB a6 [4,1] [1] [] hF fun X1 a0 w1 hF => ?_)));apply a7 hF rfl<;>intro hb hF
 .have hc:(decide (g.code=0) || decide (g.code=8))=false:=by
   have h9:(if (g.code != 0)=true then (g.code != 8) else false)=true:=by subst hB; exact hb
   rw [B6] at h9
   by_cases h1:g.code=0<;>by_cases h2:g.code=8<;>simp [h1,h2] at h9 ⊢
  refine wp_seq (rg hB a6 [2] [] [] hF fun X2 a0 w1 hF => ?_);refine wp_ret ((rsi hB a6 hF f4 (he:=?_)));subst hB;refine Sim.bool ?_
  show false=_
  unfold E6; rw [hc]; rfl
 have hc:(decide (g.code=0) || decide (g.code=8))=true:=by
  have h9:(if (g.code != 0)=true then (g.code != 8) else false)=false:=by subst hB; exact hb
  rw [B6] at h9
  by_cases h1:g.code=0<;>by_cases h2:g.code=8<;>simp [h1,h2] at h9 ⊢
 refine wp_seq (rg hB a6 [13,1] [1] [] hF fun X3 a0 w1 hF => ?_);apply a7 hF rfl<;>intro hb hF
 .have hh:g.has=true:=hb
  have O1:=SR;refine wp_seq (rg hB a6 [2] [] [(2,.r fun _ => .bool (.v ir))] hF fun X4 a0 w1 hF => ?_);refine wp_ret ((rsi hB a6 hF f4 (he:=?_)));subst hB;refine Sim.bool ?_
  show ir=_
  unfold E6; rw [hc,if_pos hh,<-hir]; rfl
 have hh:¬ g.has=true:=by rw [Bool.not_eq_true]; exact hb
 refine wp_skip (wp_seq (rg hB a6 [3] [3] [] hF fun X5 a0 w1 hF => ?_));apply wp_seq;refine rg hB a6 [2] [] [] hF (hob:=by intro X; subst hB; simp only [b5,Ob.holds,BE.den]<;>and_intros<;>repeat first | trivial | rfl | exact f8 (Kk:=noK) _ _ _ _ | exact (fun _ _ => by kernel_rfl) | refine ⟨?_,?_⟩ | intro h | exact Int.le_refl _ | decide | omega) fun X6 a0 w1 hF => ?_
 refine wp_ret ((rsi hB a6 hF f4 (he:=?_)));subst hB;refine Sim.bool ?_
 show (if (if (if (g.x.r.kd == 0)=true then (((g.x.r.n:Nat):Int) == 0) else false)=true then eqL [.int .i64 g.x.r.nx.len,.int .u64 g.x.r.nx.bits] [.int .i64 0,.int .u64 0] else false)=true then (g.x.r.mrk == 0) else false)=_
 rw [bC g.x.r.nx ⟨0,0⟩];simp only [B6];have hn0:(((g.x.r.n:Nat):Int) == 0)=decide (g.x.r.n=0):=by
  rw [Bool.eq_iff_iff,beq_iff_eq,decide_eq_true_eq]; omega
 unfold E6; rw [hc,if_neg hh,hn0]; rfl
theorem Dn (g:l5) (hg:InG g):j8 Tryz.prog 53 [s5 g] (fun _ => .bool (.v (E6 g))):=by
 intro m w hm hargs;have SR:=nf g.x.A g.x.r.n g.x.c g.x.r.f hg.len g.x.r.kd g.x.r.nx g.x.r.mrk hg.nx;unfold Q5 l4 at SR;obtain ⟨ir,hir⟩:=eqv (L6 g.x.r.kd g.x.r.n g.x.r.f g.x.r.nx g.x.r.mrk);rw [<-hir] at SR;have SS0:=vj g.x.A g.x.r.n g.x.c g.x.r.f hg.len g.x.r.kd g.x.r.nx g.x.r.mrk none 0 0 (fun _ => r8) 0 ⟨0,0⟩ 0;unfold Q5 l4 at SS0;have SS:j8 Tryz.prog 30 [u7 g.x,.agg [.int .i64 0,.sl none none 0 0 2 (fun _ => []),.int .i64 0,.int .u64 0,.int .u64 0]] (fun _ => .bool (.v (dv g.x.r.kd g.x.r.n g.x.r.f g.x.r.nx g.x.r.mrk 0 0 (fun _ => r8) ⟨0,0⟩ 0))):=SS0.sim ⟨zr,Sim.agg ⟨zr,P8,zr,zr,zr,trivial⟩,trivial⟩;obtain ⟨sr,hsr⟩:=eqv (dv g.x.r.kd g.x.r.n g.x.r.f g.x.r.nx g.x.r.mrk 0 0 (fun _ => r8) ⟨0,0⟩ 0);rw [<-hsr] at SS;refine en 20 hm hargs Tryz.func53 fun B hB a0 hF => ?_
 refine wp_seq (rg hB a6 [1] [1] [] hF fun X0 a0 w1 hF => ?_);refine wp_seq (wp_seq (rg hB a6 [10,1] [1] [] hF fun X1 a0 w1 hF => ?_));apply a7 hF rfl<;>intro hb hF
 .have hc:(decide (g.code=0) || decide (g.code=8))=false:=by
   have h9:(if (g.code != 0)=true then (g.code != 8) else false)=true:=by subst hB; exact hb
   rw [B6] at h9
   by_cases h1:g.code=0<;>by_cases h2:g.code=8<;>simp [h1,h2] at h9 ⊢
  refine wp_seq (rg hB a6 [2] [] [] hF fun X2 a0 w1 hF => ?_);refine wp_ret ((rsi hB a6 hF f4 (he:=?_)));subst hB;refine Sim.bool ?_
  show false=_
  unfold E6; rw [hc]; rfl
 have hc:(decide (g.code=0) || decide (g.code=8))=true:=by
  have h9:(if (g.code != 0)=true then (g.code != 8) else false)=false:=by subst hB; exact hb
  rw [B6] at h9
  by_cases h1:g.code=0<;>by_cases h2:g.code=8<;>simp [h1,h2] at h9 ⊢
 refine wp_skip (wp_seq (wp_seq (rg hB a6 [12,1] [1] [] hF fun X3 a0 w1 hF => ?_)));apply a7 hF rfl<;>intro hb hF
 .have hh:g.has=true:=hb
  have O1:=SR;refine wp_seq (rg hB a6 [2] [] [(2,.r fun _ => .bool (.v ir))] hF fun X4 a0 w1 hF => ?_);refine wp_ret ((rsi hB a6 hF f4 (he:=?_)));subst hB;refine Sim.bool ?_
  show ir=_
  unfold E6; rw [hc,if_pos hh,<-hir]; rfl
 have hh:¬ g.has=true:=by rw [Bool.not_eq_true]; exact hb
 have O1:=SS;refine wp_skip (wp_seq (rg hB a6 [2] [] [(3,.r fun _ => .bool (.v sr))] hF fun X5 a0 w1 hF => ?_));refine wp_ret ((rsi hB a6 hF f4 (he:=?_)));subst hB;refine Sim.bool ?_
 show sr=_
 have hs:dv g.x.r.kd g.x.r.n g.x.r.f g.x.r.nx g.x.r.mrk 0 0 (fun _ => r8) ⟨0,0⟩ 0=(decide (g.x.r.kd=0) && decide (g.x.r.n=0) && decide (g.x.r.nx=⟨0,0⟩) && decide (g.x.r.mrk=0)):=by
  unfold dv cS
  by_cases hn0:g.x.r.n=0
  .simp [hn0]
  simp [hn0]
 rw [hsr,hs];unfold E6; rw [hc,if_neg hh]; rfl
theorem EO (g:l5) (hg:InG g):j8 Tryz.prog 47 [s5 g] (fun _ => .bool (.v (!E6 g))):=by
 intro m w hm hargs;have S:=Fb g hg;obtain ⟨q,hq⟩:=eqv (E6 g);rw [<-hq] at S ⊢;refine en 6 hm hargs Tryz.func47 fun B hB a0 hF => ?_
 refine wp_seq (rg hB a6 [1] [1] [] hF fun X0 a0 w1 hF => ?_);have O1:=S;refine wp_seq (rg hB a6 [2] [] [(1,.r fun _ => .bool (.v q))] hF fun X1 a0 w1 hF => ?_);refine wp_ret ((rsi hB a6 hF f4 (he:=?_)));subst hB;exact zr
theorem EZ (A:Option Addr) (n c:Nat) (f:Nat -> l5) (hin:∀ j,j < n -> InG (f j)):j8 Tryz.prog 112 [Y0 A n c f,.fn 47 [] []] (fun x => .int .i64 (if I6 n f=true then -1 else (x.b:Int))):=by
 intro m w hm hargs;have hlen:=gO (hargs (Y0 A n c f) (by simp));have hmx:maxLen=9223372036854775807:=rfl;refine en 19 hm hargs Tryz.func112 fun B hB a0 hF => ?_
 refine wp_seq (rg hB a6 [0,1] [] [] hF fun X0 a0 w1 hF => ?_);refine wp_seq (wp_seq (rg hB a6 [8,0,1,7] [] [] hF fun X1 a0 w1 hF => ?_));refine wp_block (k9 (ι:=Nat) (fun p => [(8,.int .i64 (p:Int))]) (fun p => []) (fun p => []) (fun p => p<=n/\∀ j,j < p -> E6 (f j)=true) (fun p => n - p) 0 ⟨Nat.zero_le _,fun i hi => absurd hi (Nat.not_lt_zero _)⟩ hF ?_)
 rintro i ⟨hi,hall⟩ a0 w1 hF
 try dsimp only at hi
 try dsimp only at hall
 refine wp_seq (rg hB a6 [9,0,1,7,8] [] [] hF fun X2 a0 w1 hF => ?_);refine wp_seq (a7 hF rfl (fun hb hF => ?_) (fun hb hF => ?_))
 .have hin_:i < n:=by
   have:(i:Int) < (n:Int):=by subst hB; simpa [std,a8] using hb
   omega
  have S:=EO (f i) (hin i hin_);obtain ⟨q,hq⟩:=eqv (E6 (f i));rw [<-hq] at S;refine wp_skip (wp_seq (wp_block (wp_seq (rg hB a6 [0,1,5,7,8] [] [] hF fun X3 a0 w1 hF => ?_))));apply wp_seq;refine rg hB a6 [16,0,1,5,7,8] [] [(5,.r fun _ => .bool (.v (!q)))] hF (hob:=by intro X; subst hB; simp only [b5,Ob.holds,BE.den]<;>and_intros<;>repeat first | trivial | rfl | exact (show (0:Int)<=(i:Int) by omega) | exact (show (i:Int) < (n:Int) by omega) | exact S | exact ⟨(show (0:Int)<=(i:Int) by omega),(show (i:Int) < (n:Int) by omega)⟩ | exact (fun _ _ => by kernel_rfl) | refine ⟨?_,?_⟩ | intro h | exact Int.le_refl _ | decide | omega) fun X4 a0 w1 hF => ?_
  apply a7 hF rfl<;>intro hb hF
  .have hne:E6 (f i)=false:=by
    rw [<-hq]; have:(!q)=true:=hb
    simpa using this
   refine wp_seq (rg hB a6 [4] [] [] hF fun X5 a0 w1 hF => ?_);refine wp_ret ((rsp hB a6 hF (⟨i,fun _ => none,fun _ => 0,fun _ => .empty⟩) (he:=?_)).1);subst hB;rw [mH hin_ hne]; rfl
  have hne:E6 (f i)=true:=by
   rw [<-hq]; have:(!q)=false:=hb
   simpa using this
  refine wp_skip (rg hB a6 [8,0,1,7] [] [] hF fun X6 a0 w1 hF => ?_);have e:B.arith .add .i64 (i:Int) 1=((i + 1:Nat):Int):=by subst hB; exact j5 (n:=n) hin_ (by omega)
  refine ⟨i + 1,⟨by omega,fun j hj => ?_⟩,by omega,by rw [<-e]; exact hF⟩
  by_cases hij:j=i
  .rw [hij]; exact hne
  exact hall j (by omega)
 have hout:i=n:=by
  have:¬ (i:Int) < (n:Int):=by subst hB; simpa [std,a8] using hb
  omega
 refine wp_exit (wp_seq (rg hB a6 [4] [] [] hF fun X7 a0 w1 hF => ?_));refine wp_ret ((rsp hB a6 hF f4 (he:=?_)).1);subst hB;rw [hout] at hall;rw [lk hall]; rfl
theorem Fp (A:Option Addr) (n c:Nat) (f:Nat -> l5) (hin:∀ j,j < n -> InG (f j)):j8 Tryz.prog 51 [Y0 A n c f,.fn 47 [] []] (fun _ => .bool (.v (!I6 n f))):=by
 intro m w hm hargs;have S0:=EZ A n c f hin;obtain ⟨q,hq⟩:=eqv (I6 n f);rw [<-hq] at S0 ⊢;refine en 9 hm hargs Tryz.func51 fun B hB a0 hF => ?_
 refine wp_seq (rg hB a6 [0,1] [] [] hF fun X0 a0 w1 hF => ?_);have O1:=S0;refine wp_seq (rg hB a6 [4] [] [(2,.r fun x => .int .i64 (if q=true then -1 else (x.b:Int)))] hF fun X1 a0 w1 hF => ?_);refine wp_ret ((rsi hB a6 hF f4 (he:=?_)));subst hB;refine Sim.bool ?_
 show decide ((if q=true then -1 else (((X1 2).b:Nat):Int)) ≥ 0) = !q
 cases q
 .simp
 rfl
theorem Fm (J:i7) (hl:U64 J.lab.bits) (A:Option Addr) (n c:Nat) (f:Nat -> l5) (hin:∀ j,j < n -> InG (f j)):j8 Tryz.prog 22 [Z6 J,Y0 A n c f] (fun _ => .bool (.v (I6 n f && G5 J))):=by
 intro m w hm hargs;have hlen:=gO (hargs (Y0 A n c f) (by simp));have hmx:maxLen=9223372036854775807:=rfl;have SJ:=Dm J hl;obtain ⟨ij,hij⟩:=eqv (G5 J);rw [<-hij] at SJ;refine en 20 hm hargs Tryz.func22 fun B hB a0 hF => ?_
 refine wp_seq (rg hB a6 [1,2] [2] [] hF fun X0 a0 w1 hF => ?_);refine wp_seq (wp_seq (rg hB a6 [5,1,2] [2] [] hF fun X1 a0 w1 hF => ?_));refine wp_block (k9 (ι:=Nat) (fun p => [(5,.int .i64 (p:Int))]) (fun p => []) (fun p => []) (fun p => p<=n/\∀ j,j < p -> E6 (f j)=true) (fun p => n - p) 0 ⟨Nat.zero_le _,fun i hi => absurd hi (Nat.not_lt_zero _)⟩ hF ?_)
 rintro i ⟨hi,hall⟩ a0 w1 hF
 try dsimp only at hi
 try dsimp only at hall
 refine wp_seq (wp_seq (rg hB a6 [9,1,2,5] [2] [] hF fun X2 a0 w1 hF => ?_));apply a7 hF rfl<;>intro hb hF
 .have hin_:i < n:=by
   have:(i:Int) < (n:Int):=by subst hB; simpa [std,a8] using hb
   omega
  have S:=Dn (f i) (hin i hin_);obtain ⟨q,hq⟩:=eqv (E6 (f i));rw [<-hq] at S;refine wp_skip (wp_seq (wp_block (wp_seq ?_)));refine rg hB a6 [17,1,2,5] [2] [(4,.r fun _ => .bool (.v q))] hF (hob:=by intro X; subst hB; simp only [b5,Ob.holds,BE.den]<;>and_intros<;>repeat first | trivial | rfl | exact (show (0:Int)<=(i:Int) by omega) | exact (show (i:Int) < (n:Int) by omega) | exact S | exact ⟨(show (0:Int)<=(i:Int) by omega),(show (i:Int) < (n:Int) by omega)⟩ | exact (fun _ _ => by kernel_rfl) | refine ⟨?_,?_⟩ | intro h | exact Int.le_refl _ | decide | omega) fun X4 a0 w1 hF => ?_
  apply a7 hF rfl<;>intro hb hF
  .have hne:E6 (f i)=false:=by
    rw [<-hq]; have:(!q)=true:=by subst hB; exact hb
    simpa using this
   refine wp_seq (rg hB a6 [4] [] [] hF fun X5 a0 w1 hF => ?_);refine wp_ret ((rsp hB a6 hF f4 (he:=?_)).1);subst hB;rw [mH hin_ hne]; rfl
  have hne:E6 (f i)=true:=by
   rw [<-hq]; have:(!q)=false:=by subst hB; exact hb
   simpa using this
  refine wp_skip (rg hB a6 [5,1,2] [2] [] hF fun X3 a0 w1 hF => ?_);have e:B.arith .add .i64 (i:Int) 1=((i + 1:Nat):Int):=by subst hB; exact j5 (n:=n) hin_ (by omega)
  refine ⟨i + 1,⟨by omega,fun j hj => ?_⟩,by omega,by rw [<-e]; exact hF⟩
  by_cases hij:j=i
  .rw [hij]; exact hne
  exact hall j (by omega)
 have hout:i=n:=by
  have:¬ (i:Int) < (n:Int):=by subst hB; simpa [std,a8] using hb
  omega
 have O1:=SJ;refine wp_exit (wp_seq (rg hB a6 [4] [] [(1,.r fun _ => .bool (.v ij))] hF fun X6 a0 w1 hF => ?_));refine wp_ret ((rsp hB a6 hF f4 (he:=?_)).1);subst hB;rw [hout] at hall;rw [lk hall,<-hij]; rfl
theorem gj:j3 Tryz.prog 52:=fun _ _ => by kernel_rfl
theorem yT (Q q0:B5) (e:Int) (b8 b9 b11 br:Nat) (J:i7) (A:Option Addr) (c:Nat) (p:Pst) (hz:p.n=0):pM Tryz.prog 52 .returning .returning .nili [.ptr 8 b8 0,.ptr 11 b11 0,.ptr 9 b9 0] [(8,⟨b8,40,iO q0⟩),(11,⟨b11,64,[.ptr 32 br 0]⟩),(9,⟨b9,36,[.int .i64 e]⟩),(32,⟨br,103,C1 J A c p⟩)] (fun _ => ⟨.tup [],[(8,iO q0),(11,[.ptr 32 br 0]),(9,[.int .i64 e]),(32,C1 J A c p)],[]⟩):=by
 intro m w hm hargs hpre hx;refine gl .no hm hpre hargs hx Tryz.func52 (by exact rfl) (by exact rfl) (by exact rfl) (by exact rfl) (by exact rfl) (by simp [Tryz.ntmps52]) (by simp [Tryz.ntmps52]) fun a0 hF => ?_
 simp only [Tryz.ntmps52,B1,St.put] at hF;obtain ⟨B,hB⟩:=eqv std;refine wp_block (wp_seq (rg hB a6 [8,6,0,1,2] [8,11,9,32] [] hF fun X3 a0 w1 hF => ?_));refine j1 hF rfl (fun hF => ?_);refine rg hB a6 [0,1,2] [8,11,9,32] [] hF fun X4 a0 w1 hF => ?_
 refine wp_seq (rg hB a6 [18,0,2] [8,11,9,32] [] hF fun X8 a0 w1 hF => ?_);apply a7 hF rfl<;>intro hb hF
 .exfalso
  have ht:0 < p.n:=by
   have:(0:Int) < (p.n:Int):=by subst hB; simpa [std,a8] using hb
   omega
  omega
 skip
 refine wp_skip ((rx hB a6 hF f4 [] (hs:=?_)).2);subst hB; exact ⟨rfl,⟨_,rfl,zl⟩,rfl,⟨_,rfl,zl⟩,rfl,⟨_,rfl,zl⟩,rfl,⟨_,rfl,zl⟩,trivial⟩
theorem yS (Q q0:B5) (e:Int) (b8 b9 b11 br:Nat) (J:i7) (A:Option Addr) (c:Nat) (p:Pst) (hz:0 < p.n):pM Tryz.prog 52 .returning .returning .nili [.ptr 8 b8 0,.ptr 11 b11 0,.ptr 9 b9 0] [(8,⟨b8,40,iO q0⟩),(11,⟨b11,64,[.ptr 32 br 0]⟩),(9,⟨b9,36,[.int .i64 e]⟩),(32,⟨br,103,C1 J A c p⟩)] (fun _ => ⟨.tup [],[(8,[.int .i64 0,.int .i64 0,.int .u64 0,.int .u64 0,.int .i64 0,.sl none none 0 0 2 (fun _ => []),.int .i64 0,.int .u64 0,.int .u64 0,.int .i64 0,.bool .ff,.str ⟨#[]⟩,.sl none none 0 0 2 (fun _ => []),.int .u64 0,.bool .ff]),(11,[.ptr 32 br 0]),(9,[.int .i64 5]),(32,C1 J A c p)],[]⟩):=by
 intro m w hm hargs hpre hx;refine gl .no hm hpre hargs hx Tryz.func52 (by exact rfl) (by exact rfl) (by exact rfl) (by exact rfl) (by exact rfl) (by simp [Tryz.ntmps52]) (by simp [Tryz.ntmps52]) fun a0 hF => ?_
 simp only [Tryz.ntmps52,B1,St.put] at hF;obtain ⟨B,hB⟩:=eqv std;refine wp_block (wp_seq (rg hB a6 [8,6,0,1,2] [8,11,9,32] [] hF fun X3 a0 w1 hF => ?_));refine j1 hF rfl (fun hF => ?_);refine rg hB a6 [0,1,2] [8,11,9,32] [] hF fun X4 a0 w1 hF => ?_
 refine wp_seq (rg hB a6 [18,0,2] [8,11,9,32] [] hF fun X8 a0 w1 hF => ?_);apply a7 hF rfl<;>intro hb hF
 .skip
  refine rg hB a6 [] [8,11,9,32] [] hF fun X9 a0 w1 hF => ?_
  refine (rx hB a6 hF f4 [] (hs:=?_)).2;subst hB; exact ⟨rfl,⟨_,rfl,zl⟩,rfl,⟨_,rfl,zl⟩,rfl,⟨_,rfl,zl⟩,rfl,⟨_,rfl,zl⟩,trivial⟩
 exfalso
 have ht:¬ 0 < p.n:=by
  have:¬ (0:Int) < (p.n:Int):=by subst hB; simpa [std,a8] using hb
  omega
 exact ht hz
theorem vX (Q q0:B5) (e:Int) (b8 b9 b11 br:Nat) (J:i7) (A:Option Addr) (c:Nat) (p:Pst) (hz:p.n=0):pM Tryz.prog 52 (.panicking [{ v:=.iface 40 (B8 Q).den,recovered:=false }]) (.panicking [{ v:=.iface 40 (B8 Q).den,recovered:=true }]) (.ifc 40 (B8 Q)) [.ptr 8 b8 0,.ptr 11 b11 0,.ptr 9 b9 0] [(8,⟨b8,40,iO q0⟩),(11,⟨b11,64,[.ptr 32 br 0]⟩),(9,⟨b9,36,[.int .i64 e]⟩),(32,⟨br,103,C1 J A c p⟩)] (fun _ => ⟨.tup [],[(8,iO Q),(11,[.ptr 32 br 0]),(9,[.int .i64 e]),(32,C1 J A c p)],[]⟩):=by
 intro m w hm hargs hpre hx;refine gl (.yes 40 (B8 Q)) hm hpre hargs hx Tryz.func52 (by exact rfl) (by exact rfl) (by exact rfl) (by exact rfl) (by exact rfl) (by simp [Tryz.ntmps52]) (by simp [Tryz.ntmps52]) fun a0 hF => ?_
 simp only [Tryz.ntmps52,B1,St.put] at hF;obtain ⟨B,hB⟩:=eqv std;refine wp_block (wp_seq (rg hB a6 [8,6,0,1,2] [8,11,9,32] [] hF fun X3 a0 w1 hF => ?_));refine j0 hF rfl (fun hF => ?_);obtain ⟨dd,hu,hni⟩:=(j7 a6 (t:=40) rfl).conc rfl;refine wp_seq (wp_region_lit (iC rfl rfl rfl rfl hF (Nat.le_of_ble_eq_true rfl) rfl hu hni ?_));intro a0 hF;refine lnd 1 hB a6 [10,11,0,1,2] [8,11,9,32] [] hF fun X5 a0 w1 hF => ?_
 refine j1 hF rfl (fun hF => ?_);refine wp_seq (rg hB a6 [0,1,2,4] [8,11,9,32,4] [] hF fun X6 a0 w1 hF => ?_);refine rg hB a6 [0,1,2] [8,11,9,32] [] hF fun X7 a0 w1 hF => ?_
 refine wp_seq (rg hB a6 [18,0,2] [8,11,9,32] [] hF fun X8 a0 w1 hF => ?_);apply a7 hF rfl<;>intro hb hF
 .exfalso
  have ht:0 < p.n:=by
   have:(0:Int) < (p.n:Int):=by subst hB; simpa [std,a8] using hb
   omega
  omega
 skip
 refine wp_skip ((rx hB a6 hF f4 [] (hs:=?_)).2);subst hB; exact ⟨rfl,⟨_,rfl,zl⟩,rfl,⟨_,rfl,zl⟩,rfl,⟨_,rfl,zl⟩,rfl,⟨_,rfl,zl⟩,trivial⟩
theorem vW (Q q0:B5) (e:Int) (b8 b9 b11 br:Nat) (J:i7) (A:Option Addr) (c:Nat) (p:Pst) (hz:0 < p.n):pM Tryz.prog 52 (.panicking [{ v:=.iface 40 (B8 Q).den,recovered:=false }]) (.panicking [{ v:=.iface 40 (B8 Q).den,recovered:=true }]) (.ifc 40 (B8 Q)) [.ptr 8 b8 0,.ptr 11 b11 0,.ptr 9 b9 0] [(8,⟨b8,40,iO q0⟩),(11,⟨b11,64,[.ptr 32 br 0]⟩),(9,⟨b9,36,[.int .i64 e]⟩),(32,⟨br,103,C1 J A c p⟩)] (fun _ => ⟨.tup [],[(8,[.int .i64 0,.int .i64 0,.int .u64 0,.int .u64 0,.int .i64 0,.sl none none 0 0 2 (fun _ => []),.int .i64 0,.int .u64 0,.int .u64 0,.int .i64 0,.bool .ff,.str ⟨#[]⟩,.sl none none 0 0 2 (fun _ => []),.int .u64 0,.bool .ff]),(11,[.ptr 32 br 0]),(9,[.int .i64 5]),(32,C1 J A c p)],[]⟩):=by
 intro m w hm hargs hpre hx;refine gl (.yes 40 (B8 Q)) hm hpre hargs hx Tryz.func52 (by exact rfl) (by exact rfl) (by exact rfl) (by exact rfl) (by exact rfl) (by simp [Tryz.ntmps52]) (by simp [Tryz.ntmps52]) fun a0 hF => ?_
 simp only [Tryz.ntmps52,B1,St.put] at hF;obtain ⟨B,hB⟩:=eqv std;refine wp_block (wp_seq (rg hB a6 [8,6,0,1,2] [8,11,9,32] [] hF fun X3 a0 w1 hF => ?_));refine j0 hF rfl (fun hF => ?_);obtain ⟨dd,hu,hni⟩:=(j7 a6 (t:=40) rfl).conc rfl;refine wp_seq (wp_region_lit (iC rfl rfl rfl rfl hF (Nat.le_of_ble_eq_true rfl) rfl hu hni ?_));intro a0 hF;refine lnd 1 hB a6 [10,11,0,1,2] [8,11,9,32] [] hF fun X5 a0 w1 hF => ?_
 refine j1 hF rfl (fun hF => ?_);refine wp_seq (rg hB a6 [0,1,2,4] [8,11,9,32,4] [] hF fun X6 a0 w1 hF => ?_);refine rg hB a6 [0,1,2] [8,11,9,32] [] hF fun X7 a0 w1 hF => ?_
 refine wp_seq (rg hB a6 [18,0,2] [8,11,9,32] [] hF fun X8 a0 w1 hF => ?_);apply a7 hF rfl<;>intro hb hF
 .skip
  refine rg hB a6 [] [8,11,9,32] [] hF fun X9 a0 w1 hF => ?_
  refine (rx hB a6 hF f4 [] (hs:=?_)).2;subst hB; exact ⟨rfl,⟨_,rfl,zl⟩,rfl,⟨_,rfl,zl⟩,rfl,⟨_,rfl,zl⟩,rfl,⟨_,rfl,zl⟩,trivial⟩
 exfalso
 have ht:¬ 0 < p.n:=by
  have:¬ (0:Int) < (p.n:Int):=by subst hB; simpa [std,a8] using hb
  omega
 exact ht hz
end Go.Proofs.YtcapclejnfdbkaaGreat.Sym
