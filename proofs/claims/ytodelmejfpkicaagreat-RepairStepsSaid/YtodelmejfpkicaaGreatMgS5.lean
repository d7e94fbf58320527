/-
  SymRng, SymRng2, SymRng3, SymInl, SymInT, SymInl2, SymVis, SymRow, SymMnd, SymDr0, SymDr1, SymDr2, SymDr3, SymDr4, SymDr5, SymDr6, SymDr7: put together by a program of mine (a claim may have 60 files at most). Conditions: none.
-/
import Derived.WalkKit
import Derived.WalkLawsBesides
import Derived.WalkSpells
import Derived.Lib.Hide
import Derived.Deep.QuietTactic
import Derived.BigQuiet
import Derived.Deep.LoopGhost
import Derived.Deep.DeepCutAuto
import Derived.Deep.RegionLaw
import Derived.Lib.Overlaps
import Derived.Laws.CopyOwn
import Derived.IntWalk
import Derived.ProofKit
import Derived.OpenShut
import Derived.ShutString
import Derived.ChangeOld
import Derived.Deep.Slices
import Derived.Test.YtodelmejfpkicaaGreatProg
import Derived.Orders
import Derived.OrdersHeld
import Derived.Defers
import Derived.Recover
import Derived.Lib.BitFns
import Derived.ChangeKeysEq
import Derived.Test.YtodelmejfpkicaaGreatChecked
import Derived.Lib.BufferWrite
import Derived.Maps.OwnSet
import Derived.Maps.RangeWalk
import Derived.Maps.Ext
import Derived.DeepKeys4
import Derived.LoopN
import Derived.Shelf.SlSortCmp.WholeK
import Derived.Shelf.SlSortCmp.NoneTotal
import Derived.Deep.RegionHeld3
import Derived.Ground.SlsfProg
import Derived.Shelf.SlGeneric
import Derived.RangeFuncLeaves
import Derived.RangeFuncCalls
import Derived.OrdersIn
import Derived.Test.YtodelmejfpkicaaGreatMgS1
import Derived.Test.YtodelmejfpkicaaGreatMgS2
import Derived.Test.YtodelmejfpkicaaGreatMgS3
import Derived.Test.YtodelmejfpkicaaGreatMgS4
set_option linter.unusedVariables false
set_option linter.unusedSimpArgs false
set_option maxRecDepth 100000
set_option maxHeartbeats 1600000
namespace Go.Proofs.YtodelmejfpkicaaGreat.Sym
open Go Go.RowKit
def rF (r:Option Nat):Fence:={ Fence.wide with round:=r }
@[simp] theorem rF_round (r : Option Nat) : (rF r).round = r := rfl
theorem rW (r:Option Nat) (n:Nat):(rF r).room n:=fun d hd => by cases hd
theorem jT (r:Option Nat) (f:FuncId):(rF r).fn f:=trivial
theorem jU (r:Option Nat) (n:Nat):(rF r).depth.isSome=true -> 1<=n:=fun h => by cases h
section
variable {P:Program} {n:Nat} {r:Option Nat}
theorem AN {f:FuncId} {args:Array Value} {w:World} {R:Ending -> World -> Prop} (h:Calls P f args w R):CallsIn (rF r) n P f args w R:=callsIn_wide (n:=n).2 h
theorem yS {row:String} {args:Array Value} {w:World} {R:Value -> World -> Prop} (h:Rows P row args w R):RowsIn (rF r) n P row args w R:=fun c cs _ => by
 obtain ⟨v,w',hr,hs⟩:=h c cs;exact ⟨v,w',hr,stepsIn_wide.2 hs⟩
def T8 (l:List Oper):Bool:=l.all fun o => match o.op with | .defer _ => false | _ => true
theorem wt {o:Oper} (hd:∀ c,o.op ≠ .defer c) {a:Act} {w:World} {next next':Act -> World -> Prop} {Q Q':Exit -> Act -> World -> Prop} (hN:∀ a w,next a w -> next' a w) (hQ:∀ e a w,Q e a w -> Q' e a w) (h:o.wp P a w next Q):o.wpIn (rF r) n P a w next' Q':=by
 refine ⟨fun f _ => jT r f,?_⟩;rw [Oper.semAt_eq _ _ _ hd];unfold Oper.wp at h
 generalize (execOp a.eval o).run P w=res at h
 have hmap:∀ f args w',Calls P f args w' (fun | .returned v,w'' => next (a.put o.dst v) w'' | .panicked chain,w'' => Q (.panic chain) a w'' | .outgrown,_ => LetsOut Q) →
   Calls P f args w' (fun | .returned v,w'' => next' (a.put o.dst v) w'' | .panicked chain,w'' => Q' (.panic chain) a w'' | .outgrown,_ => LetsOut Q'):=fun f args w' h => by
  refine h.mono ?_;intro e w'' he
  cases e with
  | returned v => exact hN _ _ he
  | panicked chain => exact hQ _ _ _ he
  | outgrown => obtain ⟨a,w,he⟩:=he; exact ⟨a,w,hQ _ _ _ he⟩
 cases res with
 | ok nx w' =>
  cases nx with
  | value v => exact hN _ _ h
  | skip => exact hN _ _ h
  | defer d => exact hN _ _ h
  | enter f args => exact ⟨jU r n,AN (hmap _ _ _ h)⟩
  | row row args => exact ⟨jU r n,yS (h.mono fun v w' hv => hN _ _ hv)⟩
  | _ => exact h.elim
 | halt hh w' =>
  cases hh with
  | panic v => exact hQ _ _ _ h
  | _ => exact h.elim
theorem cI {ops:Array Oper} {Q Q':Exit -> Act -> World -> Prop} {rest:List Oper} (hO:∀ a w,¬ Q .outgrown a w) (hQ:∀ e a w,e ≠ .normal -> Q e a w -> Q' e a w) (hN:∀ a w,Q .normal a w -> wpListIn (rF r) n P ops Q' rest a w) :
  ∀ (L:List Oper) (a:Act) (w:World),T8 L=true -> wpList P ops Q L a w -> wpListIn (rF r) n P ops Q' (L ++ rest) a w
 | [],a,w,_,h => hN a w h
 | o :: L,a,w,hd,h => by
  have hd1:∀ c,o.op ≠ .defer c:=fun c e => by unfold T8 at hd; simp [e] at hd
  have hd2:T8 L=true:=by unfold T8 at hd ⊢; rw [List.all_cons,Bool.and_eq_true] at hd; exact hd.2
  show (if Region.wanted o (yielded ops a.tmps) then o.wpIn (rF r) n P a w (wpListIn (rF r) n P ops Q' (L ++ rest)) Q' else (∀ f,o.about P w a.eval=some f -> (rF r).fn f)/\wpListIn (rF r) n P ops Q' (L ++ rest) (a.put o.dst undef) w)
  unfold wpList at h
  by_cases hw:Region.wanted o (yielded ops a.tmps)=true
  .rw [if_pos hw] at h ⊢
   rcases h with h | ⟨_,a',w',h⟩
   .-- Q may be met at .normal by the list's end only
    have H:o.wp P a w (wpListIn (rF r) n P ops Q' (L ++ rest)) Q:=by
     unfold Oper.wp at h ⊢
     generalize (execOp a.eval o).run P w=res at h
     cases res with
     | ok nx w' =>
      cases nx with
      | value v => exact cI hO hQ hN L _ _ hd2 h
      | skip => exact cI hO hQ hN L _ _ hd2 h
      | defer d => exact cI hO hQ hN L _ _ hd2 h
      | enter f args =>
       refine Calls.mono h ?_;intro e w'' he
       cases e with
       | returned v => exact cI hO hQ hN L _ _ hd2 he
       | panicked chain => exact he
       | outgrown => exact he
      | row row args => exact Rows.mono h fun v w' hv => cI hO hQ hN L _ _ hd2 hv
      | _ => exact h.elim
     | halt hh w' =>
      cases hh with
      | panic v => exact h
      | _ => exact h.elim
    have H2:o.wp P a w (wpListIn (rF r) n P ops Q' (L ++ rest)) (fun e a w => e ≠ .normal/\Q e a w):=by
     unfold Oper.wp at H ⊢
     generalize (execOp a.eval o).run P w=res at H
     cases res with
     | ok nx w' =>
      cases nx with
      | value v => exact H
      | skip => exact H
      | defer d => exact H
      | enter f args =>
       refine Calls.mono H ?_;intro e w'' he
       cases e with
       | returned v => exact he
       | panicked chain => exact ⟨by simp,he⟩
       | outgrown => obtain ⟨a,w,he⟩:=he; exact absurd he (hO a w)
      | row row args => exact H
      | _ => exact H.elim
     | halt hh w' =>
      cases hh with
      | panic v => exact ⟨by simp,H⟩
      | _ => exact H.elim
    exact wt hd1 (fun _ _ h => h) (fun e a w h => hQ e a w h.1 h.2) H2
   exact absurd h (hO _ _)
  rw [if_neg hw] at h ⊢;exact ⟨fun f _ => jT r f,cI hO hQ hN L _ _ hd2 h⟩
theorem vV {id:Nat} {l:List Oper} {Q:Exit -> Act -> World -> Prop} {a:Act} {w:World} (hO:∀ a w,¬ Q .outgrown a w) (hd:T8 l=true) (h:wpList P l.toArray Q l a w):(Code.region id l.toArray false).wpIn (rF r) n P Q a w:=by
 refine wpIn_region_lit ?_;have:=cI (r:=r) (n:=n) (Q':=Q) (rest:=[]) hO (fun _ _ _ _ h => h) (fun _ _ h => h) l a w hd h
 rwa [List.append_nil] at this
def qu (P:Program) (l:Nat) (R:Ending -> World -> Prop):Exit -> Act -> World -> Prop
 | .normal,_,w => ∃ v w',(Instr.endRound l none).run P w = .ok v w'/\R (.returned v) w'
 | .ret,_,w => ∃ v w',(Instr.endRound l (some .ret)).run P w = .ok v w'/\R (.returned v) w'
 | .exit id,_,w => ∃ v w',(Instr.endRound l (some (.exit id))).run P w = .ok v w'/\R (.returned v) w'
 | .goto t,_,w => ∃ v w',(Instr.endRound l (some (.goto t))).run P w = .ok v w'/\R (.returned v) w'
 | .panic chain,a,w => a.defers=[]/\R (.panicked chain) w
 | .outgrown,_,_ => False
theorem yW {l:Nat} {f:FuncId} {fn:Func} (hfn:P.funcs[f]? = some fn) {tmps:Array Value} {assign body:Code} {w:World} {R:Ending -> World -> Prop}
  (h:assign.wpIn (rF (some l)) n P (Exit.then (fun a₁ w₁ => ∃ w₂,(Instr.beginRound l).run P w₁ = .ok () w₂/\body.wpIn (rF (some l)) n P (qu P l R) a₁ w₂) (fun _ _ _ => False)) { tmps:=tmps,defers:=[] } w) :
  RoundIn (rF none) n P l f tmps assign body w R:=by
 refine ⟨jT none f,fun c cs hr => ?_⟩
 let b:Frame:={ (default:Frame) with fn:=f,kind:=.normal,roundOf:=some l }
 have hb0:Frame.round l f tmps assign body .normal=b.atR { tmps:=tmps,defers:=[] } [.code assign,.beginRound,.code body]:=by
  simp [Frame.round,Frame.atR,b]
 have hro:b.roundOf=(rF (some l)).round:=rfl;obtain ⟨e,a₁,w₁,hq,harr⟩:=h b [.beginRound,.code body] (c :: cs) hro (jT _ _) (rW _ _);rw [<-hb0] at harr
 cases e with
 | normal =>
  obtain ⟨w₂,hbr,hbody⟩:=hq;have s1:StepsIn (Machine.fenced P (rF (some l))) P (lone (b.atR a₁ [.beginRound,.code body]) (c :: cs) w₁) (lone (b.atR a₁ [.code body]) (c :: cs) w₂):=
   .one (fenced_wide P _) (stepR_beginRound rfl hbr)
  obtain ⟨e₂,a₂,w₃,hq₂,harr₂⟩:=hbody b [] (c :: cs) hro (jT _ _) (rW _ _)
  cases e₂ with
  | normal =>
   obtain ⟨v,w₄,hend,hR⟩:=hq₂;exact ⟨.returned v,w₄,hR,(StepsIn.trans harr s1).trans (StepsIn.trans harr₂ (.one (fenced_wide P _) (stepR_round_end rfl rfl hend)))⟩
  | ret =>
   obtain ⟨v,w₄,hend,hR⟩:=hq₂;obtain ⟨k₁,hs⟩:=harr₂.2 rfl;exact ⟨.returned v,w₄,hR,(StepsIn.trans harr s1).trans (StepsIn.trans hs (.one (fenced_wide P _) (stepR_round_ret rfl rfl hend)))⟩
  | exit id =>
   obtain ⟨v,w₄,hend,hR⟩:=hq₂;obtain ⟨k₁,hk,hs⟩:=harr₂.2 rfl rfl;exact ⟨.returned v,w₄,hR,(StepsIn.trans harr s1).trans (StepsIn.trans hs (.one (fenced_wide P _) (stepR_round_exit rfl rfl hk hend)))⟩
  | goto t =>
   obtain ⟨v,w₄,hend,hR⟩:=hq₂;obtain ⟨k₁,hk,hs⟩:=harr₂.2 rfl rfl;exact ⟨.returned v,w₄,hR,(StepsIn.trans harr s1).trans (StepsIn.trans hs (.one (fenced_wide P _) (stepR_round_goto rfl rfl hk hend)))⟩
  | panic chain =>
   obtain ⟨hd,hR⟩:=hq₂;obtain ⟨todo,hs⟩:=harr₂;exact ⟨.panicked chain,w₃,hR,(StepsIn.trans harr s1).trans (StepsIn.trans hs (.one (fenced_wide P _) (step_leave_panicked (fr:={ b.atR a₂ todo with mode:=.panicking chain }) ⟨rfl,hd,fn,hfn⟩)))⟩
  | outgrown => exact hq₂.elim
 | exit id => exact hq.elim
 | goto t => exact hq.elim
 | ret => exact hq.elim
 | panic chain => exact hq.elim
 | outgrown => exact hq.elim
end
def wpN (fn:FuncId) (P:Program) (c:Code) (Q:Exit -> Act -> World -> Prop) (a:Act) (w:World):Prop:=
 ∀ (b:Frame) (k:List Item) (cs:List Frame),b.fn=fn -> ∃ e a' w',Q e a' w'/\Arrives P (lone (b.at a (.code c :: k)) cs w) b k cs e a' w'
section
variable {P:Program} {fn:FuncId} {Q:Exit -> Act -> World -> Prop} {a:Act} {w:World}
theorem E3 {c:Code} (h:c.wp P Q a w):wpN fn P c Q a w:=fun b k cs _ => h b k cs
theorem C1 {x y:Code} (h:wpN fn P x (Exit.then (wpN fn P y Q) Q) a w):wpN fn P (Code.seq x y) Q a w:=by
 intro b k cs hb;obtain ⟨e,a₁,w₁,hq,harr⟩:=h b (.code y :: k) cs hb
 cases e with
 | normal =>
  obtain ⟨e₂,a₂,w₂,hq₂,harr₂⟩:=hq b k cs hb;exact ⟨e₂,a₂,w₂,hq₂,.of_steps (.head step_seq harr) harr₂⟩
 | exit id => exact ⟨_,a₁,w₁,hq,.of_steps (.one step_seq) (.pass (x:=.code y) rfl (fun _ _ => .inl (by simp)) harr)⟩
 | goto l => exact ⟨_,a₁,w₁,hq,.of_steps (.one step_seq) (.pass (x:=.code y) rfl (fun _ _ => .inl (by simp)) harr)⟩
 | ret => exact ⟨_,a₁,w₁,hq,.of_steps (.one step_seq) (.pass (x:=.code y) rfl (fun _ _ => .inl (by simp)) harr)⟩
 | panic ch => exact ⟨_,a₁,w₁,hq,.of_steps (.one step_seq) (.pass (x:=.code y) rfl (fun _ _ => .inl (by simp)) harr)⟩
 | outgrown => exact ⟨_,a₁,w₁,hq,.of_steps (.one step_seq) (.pass (x:=.code y) rfl (fun _ _ => .inl (by simp)) harr)⟩
theorem vg {c:Operand} {x y:Code} {t:Bool} (hc:a.eval c = .bool t) (h:wpN fn P (if t then x else y) Q a w):wpN fn P (Code.cond c x y) Q a w:=
 fun b k cs hb => let ⟨e,a',w',q,r⟩:=h b k cs hb; ⟨e,a',w',q,.of_steps (.one (step_cond hc)) r⟩
def CA (P:Program) (l:Nat) (Q:Exit -> Act -> World -> Prop) (a':Act):Ending -> World -> Prop
 | .returned _,w₃ => ∃ jump w₄,(Instr.endLoop l).run P w₃ = .ok jump w₄/\(match jump with
   | none => Q .normal a' w₄
   | some c => c.wp P Q a' w₄)
 | .panicked chain,w₃ => Q (.panic chain) a' w₃
 | .outgrown,_ => LetsOut Q
def cH (fn:FuncId) (a:Act) (ps:Array Tmp) (assign body:Code) (D:Nat) (st:LoopState) (pe:Option Code):Loop:={ state:=st,pending:=pe,fn,tmps:=a.tmps,params:=ps,assign,body,defers:=D }
def bp (fn:FuncId) (a:Act) (ps:Array Tmp) (assign body:Code) (w:World):World:=(w.alloc (.deferred (some []))).alloc (.loop (cH fn a ps assign body w.heap.size .ready none))
theorem tG {g:Operand} {ps:Array Tmp} {assign body:Code} {gf:Nat} {lb:Array Value} (hg:a.eval g = .func (.func gf) #[] lb) (eg:∀ args w,(callFunc gf args).run P w = .ok (.enter gf args) w)
  (h:Calls P gf (#[.func (.yield (w.heap.size + 1)) #[] #[]] ++ lb) (bp fn a ps assign body w) (CA P (w.heap.size + 1) Q { a with defers:={ target:=.collected w.heap.size,args:=#[] } :: a.defers })) :
  wpN fn P (Code.rangeFunc g ps assign body) Q a w:=by
 intro b0 k cs hb;have hat:∀ a k,b0.at a k=({ b0 with roundOf:=none }:Frame).atR a k:=fun a k => (Frame.atR_of_none (b:={ b0 with roundOf:=none }) rfl a k).symm
 obtain ⟨b,hbd⟩:=eqv (({ b0 with roundOf:=none }:Frame));have hro:b.roundOf=none:=by rw [hbd]
 have hbf:b.fn=fn:=by rw [hbd]; exact hb
 have he:(Instr.enterLoop b.fn a.tmps ps assign body b.roundOf).run P w = .ok (w.heap.size + 1,[{ target:=.collected w.heap.size,args:=#[] }]) (bp fn a ps assign body w):=by
  rw [hro,hbf]; exact run_enterLoop_outer _ _ _ _ _
 have hres:(resolve a.eval (rangeCall g (w.heap.size + 1)) 0).run P (bp fn a ps assign body w) = .ok { target:=.fn (.func gf) lb,args:=#[.func (.yield (w.heap.size + 1)) #[] #[]] } (bp fn a ps assign body w):=by
  simp only [resolve,hg];simp [go_sem]
 have hinv:(invoke (.fn (.func gf) lb) #[.func (.yield (w.heap.size + 1)) #[] #[]]).run P (bp fn a ps assign body w) = .ok (.enter gf (#[.func (.yield (w.heap.size + 1)) #[] #[]] ++ lb)) (bp fn a ps assign body w):=by
  simp [invoke,go_sem,eg]
 have henter:=stepR_rangeFunc (P:=P) (b:=b) (a:=a) (k:=k) (cs:=cs) (w:=w) he hres hinv;obtain ⟨e,w₃,fr,hR,hsteps,hfn,hleave⟩:=h (b.atR { a with defers:=[{ target:=.collected w.heap.size,args:=#[] }] ++ a.defers } (.inRangeFunc (w.heap.size + 1) :: k) :: cs);have hbk:∀ a k,b.atR a k=b0.at a k:=fun a k => by rw [hbd,hat]
 rw [<-hbk]
 cases e with
 | outgrown =>
  obtain ⟨a₀,w₀,hq⟩:=hR;exact ⟨.outgrown,a₀,w₀,hq,.inr (Outgrown.of_steps (.one henter) hsteps)⟩
 | returned v =>
  obtain ⟨jump,w₄,hend,hj⟩:=hR;have sback:Steps P (lone (b.atR a (.code (.rangeFunc g ps assign body) :: k)) cs w) (lone (b.atR { a with defers:=[{ target:=.collected w.heap.size,args:=#[] }] ++ a.defers } ((jump.map Item.code).toList ++ k)) cs w₄):=by
   refine .head henter (Steps.trans hsteps (.head ?_ (.one (stepR_endRangeFunc hend))));rw [<-finish_atR_inRangeFunc (w.heap.size + 1) v]; exact step_leave_returned hleave
  cases jump with
  | none => exact ⟨.normal,_,w₄,hj,by rw [hbk] at sback ⊢; rw [hbk] at sback; exact sback⟩
  | some c =>
   obtain ⟨e',a'',w₅,hq,harr⟩:=hj b0 k cs;refine ⟨e',a'',w₅,hq,.of_steps sback ?_⟩;rw [hbk]; exact harr
 | panicked chain =>
  refine ⟨.panic chain,_,w₃,hR,.inRangeFunc (w.heap.size + 1) :: k,.head henter (Steps.trans hsteps (.one ?_))⟩;rw [<-hbk,<-Frame.raise_atR]; exact step_leave_panicked hleave
theorem iV {f:FuncId} {fd:Func} {c:Code} {args:Array Value} {R:Ending -> World -> Prop} (hf:P.funcs[f]? = some fd) (hb:fd.body=some c)
  (h:wpN f P c (bodyPostM Fence.wide 0 P fd R) { tmps:=args ++ Array.replicate (fd.ntmps - args.size) undef,defers:=[] } w):Calls P f args w R:=by
 intro cs
 let b:Frame:={ (default:Frame) with fn:=f,kind:=.normal }
 have henter:Frame.enter P f args .normal=b.at { tmps:=args ++ Array.replicate (fd.ntmps - args.size) undef,defers:=[] } [.code c]:=by
  simp [Frame.enter,Frame.at,hf,hb,b]
 obtain ⟨e,a',w',hq,harr⟩:=h b [] cs rfl;rw [<-henter] at harr
 cases e with
 | normal =>
  obtain ⟨e',w'',fr',hR,hs,hfn,hl⟩:=leaves_stepsInM (F:=Fence.wide) a'.defers .returning w' { b.at a' [] with mode:=.returning } cs rfl rfl rfl hf rfl trivial (room_wide _) hq;exact ⟨e',w'',fr',hR,Comes.of_steps (Steps.trans harr (.one step_end)) (comesIn_wide.1 hs),hfn,hl⟩
 | ret =>
  obtain ⟨todo,hs₀⟩:=harr;obtain ⟨e',w'',fr',hR,hs,hfn,hl⟩:=leaves_stepsInM (F:=Fence.wide) a'.defers .returning w' { b.at a' todo with mode:=.returning } cs rfl rfl rfl hf rfl trivial (room_wide _) hq;exact ⟨e',w'',fr',hR,Comes.of_steps hs₀ (comesIn_wide.1 hs),hfn,hl⟩
 | panic chain =>
  obtain ⟨todo,hs₀⟩:=harr;obtain ⟨e',w'',fr',hR,hs,hfn,hl⟩:=leaves_stepsInM (F:=Fence.wide) a'.defers (.panicking chain) w' { b.at a' todo with mode:=.panicking chain } cs rfl rfl rfl hf rfl trivial (room_wide _) hq;exact ⟨e',w'',fr',hR,Comes.of_steps hs₀ (comesIn_wide.1 hs),hfn,hl⟩
 | exit id => exact hq.elim
 | goto l => exact hq.elim
 | outgrown => exact ⟨.outgrown,w',b,hq,harr.resolve_left (by simp [b]),rfl,trivial⟩
end
section
variable {m0:Nat -> Nat -> Prop} {w0 w w':World} {S:Nat -> Prop} {ds:List Deferred} {K:Kn} {s:St} {a:Act} {P:Program}
theorem b4.redefer (h:b4 ⟨m0,w0,S,ds,K⟩ s a w) (ds':List Deferred):b4 ⟨m0,w0,S,ds',K⟩ s { a with defers:=ds' } w:=
 ⟨h.size,rfl,h.slot,h.gs,h.mem,h.nodup,h.gr,h.sepm,h.sepg,h.chg,h.m0,h.kept⟩
abbrev bi (D:Nat):Deferred:={ target:=.collected D,args:=#[] }
theorem iN (fn:FuncId) (a:Act) (ps:Array Tmp) (assign body:Code) (w:World):Below w.heap.size w (bp fn a ps assign body w):=
 ((Below.refl _ w).alloc (Nat.le_refl _) _).alloc (by simp) _
theorem un (fn:FuncId) (a:Act) (ps:Array Tmp) (assign body:Code) (w:World):(bp fn a ps assign body w).heap[w.heap.size + 1]? = some (.loop (cH fn a ps assign body w.heap.size .ready none)):=by
 have:=World.alloc_heap_new (w.alloc (.deferred (some []))) (.loop (cH fn a ps assign body w.heap.size .ready none))
 rwa [World.size_alloc] at this
theorem qF (fn:FuncId) (a:Act) (ps:Array Tmp) (assign body:Code) (w:World):(bp fn a ps assign body w).heap[w.heap.size]? = some (.deferred (some [])):=
 (Below.heap_alloc _ _ _ (by simp)).trans (World.alloc_heap_new w _)
theorem b4.loop (h:b4 ⟨m0,w0,S,[],K⟩ s a w) (fn:FuncId) (ps:Array Tmp) (assign body:Code):b4 ⟨m0,w0,S,[bi w.heap.size],K⟩ s { a with defers:=[bi w.heap.size] } (bp fn a ps assign body w):=
 (h.below (iN fn a ps assign body w)).redefer _
end
section
variable {m0:Nat -> Nat -> Prop} {w0 wi w:World} {S:Nat -> Prop} {ds di:List Deferred} {K:Kn} {s si:St} {a ai:Act}
def Fb (l:Nat) (r:Loop) (D:Nat):Kn:=⟨fun _ w => w.heap[l]? = some (.loop r)/\w.heap[D]? = some (.deferred (some [])),fun k h => ⟨k.obj _ _ h.1 (fun _ _ _ e => by cases e),k.obj _ _ h.2 (fun _ _ _ e => by cases e)⟩⟩
theorem over (hc:b4 ⟨m0,w0,S,ds,K⟩ s a wi) {pre:List (Nat × Blk)} (hi:b4 ⟨s.m ⟨m0,w0,S,ds,K⟩,wi,ats pre,di,noK⟩ si ai w) (hdist:pre.Pairwise fun e f => e.2.at_ ≠ f.2.at_) (hp:∀ e ∈ pre,f5 s.mem e.1=some e.2) {sets:List (Nat × List AV)} {news:List (Nat × Blk)} {ks:List Nat} (hs:z6 si pre sets) (hn:I8 si pre ks news) :
  b4 ⟨m0,w0,S,ds,K⟩ (s.eff (.sets (upd pre sets ++ news))) a w/\∀ v,Ok (si.m ⟨s.m ⟨m0,w0,S,ds,K⟩,wi,ats pre,di,noK⟩) w v -> Ok ((s.eff (.sets (upd pre sets ++ news))).m ⟨m0,w0,S,ds,K⟩) w v:=by
 obtain ⟨hl,hok⟩:=cJ hi hs hn;obtain ⟨f1,f2⟩:=hc.called hdist hp hl;exact ⟨f1,fun v hv => f2 v (hok v hv)⟩
end
section
variable {C:Cx} {P:Program} {Q:Exit -> Act -> World -> Prop} {ops:Array Oper} {s:St} {a:Act} {w:World} {L rest:List Oper} {o:Oper}
abbrev yV (l:Nat):AV:=.raw (.func (.yield l) #[] #[])
theorem tE {c:Call} {g:Operand} {l:Nat} {args:List AV} (hop:o.op = .call c) (hcal:c.callee = .value g) (h:b4 C s a w) (hgv:val s [] g=yV l) (hl:V0 s [] c.args.toList=some args) {rc:Loop} (hr:w.heap[l]? = some (.loop rc)) (hsz:args.length=rc.params.size) :
  (execOp a.eval o).run P w = .ok (.round l rc.fn ((rc.params.zip (args.map AV.den).toArray).foldl (fun tmps (t,a) => tmps.setIfInBounds t a) rc.tmps) rc.assign rc.body) w/\∀ v ∈ args,Ok (s.m C) w v:=by
 obtain ⟨h1,h2⟩:=cw h (fun _ h => by cases h) hl;have hg:=C2 h (q:=[]) (fun _ h => by cases h) (x:=g) (by rw [hgv]; rfl);rw [hgv] at hg;have hargs:c.args.map a.eval=(args.map AV.den).toArray:=by
  apply Array.ext'
  simpa using h1
 have e1:a.eval g = .func (.yield l) #[] #[]:=hg.1;refine ⟨?_,h2⟩;have hy:=run_yield (P:=P) (args:=(args.map AV.den).toArray) hr (by simpa using hsz);simp [execOp,hop,resolve,hcal,e1,Deferred.ofValue,invoke,hargs]
 simpa using hy
theorem tJ {i g:Nat} {want:Bool} (hg:o.guard=some (i,want)) (hd:(ops[i]?).bind (·.dst)=some g) (h:b4 C s a w) (hv:look s.tmps g = .bool (if want then .tt else .ff)):Region.wanted o (yielded ops a.tmps)=true:=by
 have h1:=(h.slot g (by rw [hv]; cases want<;>rfl)).1;rw [hv] at h1;simp only [Region.wanted,hg,yielded,hd,Option.bind_some]
 cases want<;>simp [h1,AV.den,BE.den]
theorem qB {c:Call} {g:Operand} {l:Nat} {args:List AV} (hL:L=o :: rest) (hw:Region.wanted o (yielded ops a.tmps)=true) (hop:o.op = .call c) (hcal:c.callee = .value g) (h:b4 C s a w) (hgv:val s [] g=yV l) (hl:V0 s [] c.args.toList=some args) {rc:Loop} (hr:w.heap[l]? = some (.loop rc)) (hsz:args.length=rc.params.size)
  (K:(∀ v ∈ args,Ok (s.m C) w v) -> RoundIn (rF none) 0 P l rc.fn ((rc.params.zip (args.map AV.den).toArray).foldl (fun tmps (t,a) => tmps.setIfInBounds t a) rc.tmps) rc.assign rc.body w fun
   | .returned v,w'' => wpListIn (rF none) 0 P ops Q rest (a.put o.dst v) w''
   | .panicked chain,w'' => Q (.panic chain) a w''
   | .outgrown,_ => LetsOut Q):wpListIn (rF none) 0 P ops Q L a w:=by
 subst hL;obtain ⟨hrun,hok⟩:=tE (P:=P) hop hcal h hgv hl hr hsz
 show (if Region.wanted o (yielded ops a.tmps) then o.wpIn (rF none) 0 P a w (wpListIn (rF none) 0 P ops Q rest) Q else _)
 rw [if_pos hw];refine ⟨fun f _ => jT none f,?_⟩;rw [Oper.semAt_eq _ _ _ (fun c' e => by rw [hop] at e; cases e),hrun];exact ⟨jU none 0,K hok⟩
end
section
variable {P:Program} {w:World}
def vQ (l:Nat) (r:Loop) (R:Ending -> World -> Prop):Exit -> Act -> World -> Prop
 | .normal,_,w => w.heap[l]? = some (.loop { r with state:=.busy })/\R (.returned (.bool true)) (w.putObj l (.loop { r with state:=.ready,pending:=none }))
 | .ret,_,w => w.heap[l]? = some (.loop { r with state:=.busy })/\R (.returned (.bool false)) (w.putObj l (.loop { r with state:=.done,pending:=some .ret }))
 | .exit id,_,w => w.heap[l]? = some (.loop { r with state:=.busy })/\R (.returned (.bool false)) (w.putObj l (.loop { r with state:=.done,pending:=some (.exit id) }))
 | .goto t,_,w => w.heap[l]? = some (.loop { r with state:=.busy })/\R (.returned (.bool false)) (w.putObj l (.loop { r with state:=.done,pending:=some (.goto t) }))
 | .panic chain,a,w => a.defers=[]/\R (.panicked chain) w
 | .outgrown,_,_ => False
theorem vP {l:Nat} {r:Loop} {fd:Func} (hfn:P.funcs[r.fn]? = some fd) (hst:r.state = .ready) {tmps:Array Value} {R:Ending -> World -> Prop}
  (h:r.assign.wpIn (rF (some l)) 0 P (Exit.then (fun a₁ w₁ => w₁.heap[l]? = some (.loop r)/\r.body.wpIn (rF (some l)) 0 P (vQ l r R) a₁ (w₁.putObj l (.loop { r with state:=.busy }))) (fun _ _ _ => False)) { tmps:=tmps,defers:=[] } w) :
  RoundIn (rF none) 0 P l r.fn tmps r.assign r.body w R:=by
 refine yW hfn (wpIn_mono h ?_);intro e a₁ w₁ he
 cases e with
 | normal =>
  obtain ⟨hl,hb⟩:=he;refine ⟨_,run_beginRound hl hst,wpIn_mono hb ?_⟩;intro e a w he
  cases e with
  | normal => exact ⟨_,_,run_endRound none he.1,he.2⟩
  | ret => exact ⟨_,_,run_endRound (some .ret) he.1,he.2⟩
  | exit id => exact ⟨_,_,run_endRound (some (.exit id)) he.1,he.2⟩
  | goto t => exact ⟨_,_,run_endRound (some (.goto t)) he.1,he.2⟩
  | panic chain => exact he
  | outgrown => exact he
 | exit id => exact he
 | goto t => exact he
 | ret => exact he
 | panic chain => exact he
 | outgrown => exact he
def St.puts (s:St):List (Nat × AV) -> St
 | [] => s
 | e :: l => (s.put (some e.1) e.2).puts l
theorem b4.puts {C:Cx}:∀ {l:List (Nat × AV)} {s:St} {a:Act},b4 C s a w -> (∀ e ∈ l,e.1 < s.nt/\Ok (s.m C) w e.2) -> b4 C (s.puts l) { a with tmps:=l.foldl (fun t e => t.setIfInBounds e.1 e.2.den) a.tmps } w
 | [],s,a,h,_ => h
 | e :: l,s,a,h,hl => by
  obtain ⟨h1,h2⟩:=hl e (by simp);have hp:=h.put (some e.1) (fun t ht => by injection ht with ht; subst ht; exact h1) e.2 (fun _ => h2) e.2.den (fun _ => rfl);exact b4.puts (l:=l) hp fun e' he' => hl e' (by simp [he'])
end
section
variable {C:Cx} {P:Program} {Q:Exit -> Act -> World -> Prop} {T:List (Nat × TI)} {s:St} {a:Act} {w:World} {B:Alg} {r:Option Nat}
theorem Gw {all L:List Oper} {R:Alg -> (Nat -> f9) -> St × List Ob} (i n:Nat) (hB:B=std) (hT:j9 P T) (kp km:List Nat) (cs:List (Nat × CS)) (h:b4 C s a w) (hO:∀ a w,¬ Q .outgrown a w) (hQ:∀ X a' w',b4 C (R B X).1 a' w' -> wpListIn (rF r) 0 P all.toArray Q (L.drop n) a' w')
  (hex:∀ A X,(K5 A T cs X all (j4 i (L.take n)) s).map (fun r => (r.1.keep kp km,r.2.1))=some (R A X)) (hob:∀ X,b5 P C.K (R B X).2) (hd:T8 (L.take n)=true):wpListIn (rF r) 0 P all.toArray Q L a w:=by
 have h1:wpList P all.toArray (Exit.then (fun a w => wpListIn (rF r) 0 P all.toArray Q (L.drop n) a w) Q) (L.take n) a w:=bU i hB hT kp km cs h hex hob fun X a' w' hf => hQ X a' w' hf
 have h2:=cI (r:=r) (n:=0) (ops:=all.toArray) (Q:=Exit.then (fun a w => wpListIn (rF r) 0 P all.toArray Q (L.drop n) a w) Q) (Q':=Q) (rest:=L.drop n) (fun a w h => hO a w h) (fun e a w hne h => by cases e<;>first | exact absurd rfl hne | exact h) (fun a w h => h) (L.take n) a w hd h1
 rwa [List.take_append_drop] at h2
theorem EY {all L:List Oper} {R:Alg -> (Nat -> f9) -> St × List Ob} (i n:Nat) (hB:B=std) (hT:j9 P T) (kp km:List Nat) (cs:List (Nat × CS)) (h:b4 C s a w) (hQ:∀ X a' w',b4 C (R B X).1 a' w' -> wpListIn (rF r) 0 P all.toArray Q (L.drop n) a' w')
  (hO:∀ a w,¬ Q .outgrown a w:=by first | exact fun _ _ h => h | (intro a w h; obtain ⟨x,h,_⟩:=h; cases h))
  (hex:∀ A X,(K5 A T cs X all (j4 i (L.take n)) s).map (fun r => (r.1.keep kp km,r.2.1))=some (R A X):=by intro A X; conv => lhs; cbv) (hob:∀ X,b5 P C.K (R B X).2:=by
   intro X; subst hB
   first
   | exact trivial
   | (simp only [b5,Ob.holds,BE.den]<;>and_intros<;>(repeat first | trivial | rfl | exact O1 | exact O2 | exact O3 | exact (fun _ _ => by kernel_rfl) | exact O1 _ _ _ rfl | exact O2 _ _ _ rfl | refine ⟨?_,?_⟩ | intro h | decide | omega)<;>done)
   | (simp [b5,Ob.holds,BE.den,std,a8,o9]<;>omega)) (hd:T8 (L.take n)=true:=by rfl):wpListIn (rF r) 0 P all.toArray Q L a w:=Gw i n hB hT kp km cs h hO hQ hex hob hd
theorem Cs {all L:List Oper} {R:Alg -> (Nat -> f9) -> St × List Ob} (i:Nat) (hB:B=std) (hT:j9 P T) (kp km:List Nat) (cs:List (Nat × CS)) (h:b4 C s a w) (hQ:∀ X a' w',b4 C (R B X).1 a' w' -> Q .normal a' w')
  (hO:∀ a w,¬ Q .outgrown a w:=by first | exact fun _ _ h => h | (intro a w h; obtain ⟨x,h,_⟩:=h; cases h))
  (hex:∀ A X,(K5 A T cs X all (j4 i L) s).map (fun r => (r.1.keep kp km,r.2.1))=some (R A X):=by intro A X; conv => lhs; cbv) (hob:∀ X,b5 P C.K (R B X).2:=by
   intro X; subst hB
   first
   | exact trivial
   | (simp only [b5,Ob.holds,BE.den]<;>and_intros<;>(repeat first | trivial | rfl | exact O1 | exact O2 | exact O3 | exact (fun _ _ => by kernel_rfl) | exact O1 _ _ _ rfl | exact O2 _ _ _ rfl | refine ⟨?_,?_⟩ | intro h | decide | omega)<;>done)
   | (simp [b5,Ob.holds,BE.den,std,a8,o9]<;>omega)) (hd:T8 L=true:=by rfl):wpListIn (rF r) 0 P all.toArray Q L a w:=by
 have h1:=cI (r:=r) (n:=0) (Q':=Q) (rest:=[]) (fun a w h => hO a w h) (fun e a w hne h => h) (fun a w h => h) L a w hd (bU (Q:=Q) i hB hT kp km cs h hex hob hQ)
 rwa [List.append_nil] at h1
theorem rrg {id:Nat} {l:List Oper} {R:Alg -> (Nat -> f9) -> St × List Ob} (hB:B=std) (hT:j9 P T) (kp km:List Nat) (cs:List (Nat × CS)) (h:b4 C s a w) (hQ:∀ X a' w',b4 C (R B X).1 a' w' -> Q .normal a' w')
  (hO:∀ a w,¬ Q .outgrown a w:=by first | exact fun _ _ h => h | (intro a w h; obtain ⟨x,h,_⟩:=h; cases h))
  (hex:∀ A X,(K5 A T cs X l (j4 0 l) s).map (fun r => (r.1.keep kp km,r.2.1))=some (R A X):=by intro A X; conv => lhs; cbv) (hob:∀ X,b5 P C.K (R B X).2:=by
   intro X; subst hB
   first
   | exact trivial
   | (simp only [b5,Ob.holds,BE.den]<;>and_intros<;>(repeat first | trivial | rfl | exact O1 | exact O2 | exact O3 | exact (fun _ _ => by kernel_rfl) | exact O1 _ _ _ rfl | exact O2 _ _ _ rfl | refine ⟨?_,?_⟩ | intro h | decide | omega)<;>done)
   | (simp [b5,Ob.holds,BE.den,std,a8,o9]<;>omega)) (hd:T8 l=true:=by rfl):(Code.region id l.toArray false).wpIn (rF r) 0 P Q a w:=
 vV hO hd (bU (all:=l) 0 hB hT kp km cs h hex hob hQ)
end
section
variable {P:Program} {Q:Exit -> Act -> World -> Prop} {C:Cx} {nt t:Nat} {b:Bool} {l:List (Nat × AV)} {mem:List (Nat × Blk)} {gr:List (Nat × Gr)} {a:Act} {w:World} {x y:Code} {r:Option Nat}
theorem Fc {s:St} (h:b4 C s a w) (hv:look s.tmps t = .bool (.v b)) (h1:b=true -> x.wpIn (rF r) 0 P Q a w) (h2:b=false -> y.wpIn (rF r) 0 P Q a w):(Code.cond (.tmp t) x y).wpIn (rF r) 0 P Q a w:=by
 have:=(h.slot t (by rw [hv]; rfl)).1;rw [hv] at this;refine wpIn_cond_split (t:=b) ?_ h1 h2;simp [Act.eval,this,AV.den,BE.den]
theorem vZ {s:St} (h:b4 C s a w) (hv:look s.tmps t = .bool .tt) (h1:x.wpIn (rF r) 0 P Q a w):(Code.cond (.tmp t) x y).wpIn (rF r) 0 P Q a w:=by
 have:=(h.slot t (by rw [hv]; rfl)).1;rw [hv] at this;exact wpIn_cond_true (by simp [Act.eval,this,AV.den,BE.den]) h1
theorem wc {s:St} (h:b4 C s a w) (hv:look s.tmps t = .bool .ff) (h1:y.wpIn (rF r) 0 P Q a w):(Code.cond (.tmp t) x y).wpIn (rF r) 0 P Q a w:=by
 have:=(h.slot t (by rw [hv]; rfl)).1;rw [hv] at this;exact wpIn_cond_false (by simp [Act.eval,this,AV.den,BE.den]) h1
theorem jP (h:b4 C ⟨nt,(t,.bool (.v b)) :: l,[],mem,gr⟩ a w) (hd:(look l t).known=false) (h1:b=true -> b4 C ⟨nt,l,[],mem,gr⟩ a w -> x.wpIn (rF r) 0 P Q a w) (h2:b=false -> b4 C ⟨nt,l,[],mem,gr⟩ a w -> y.wpIn (rF r) 0 P Q a w):(Code.cond (.tmp t) x y).wpIn (rF r) 0 P Q a w:=
 Fc h (by show look ((t,_) :: l) t=_; rw [o6,if_pos rfl]) (fun hb => h1 hb (h.tail hd)) (fun hb => h2 hb (h.tail hd))
theorem oO (h:b4 C ⟨nt,(t,.bool .tt) :: l,[],mem,gr⟩ a w) (hd:(look l t).known=false) (h1:b4 C ⟨nt,l,[],mem,gr⟩ a w -> x.wpIn (rF r) 0 P Q a w):(Code.cond (.tmp t) x y).wpIn (rF r) 0 P Q a w:=
 vZ h (by show look ((t,_) :: l) t=_; rw [o6,if_pos rfl]) (h1 (h.tail hd))
theorem vJ (h:b4 C ⟨nt,(t,.bool .ff) :: l,[],mem,gr⟩ a w) (hd:(look l t).known=false) (h1:b4 C ⟨nt,l,[],mem,gr⟩ a w -> y.wpIn (rF r) 0 P Q a w):(Code.cond (.tmp t) x y).wpIn (rF r) 0 P Q a w:=
 wc h (by show look ((t,_) :: l) t=_; rw [o6,if_pos rfl]) (h1 (h.tail hd))
end
section
variable {P:Program} {Q:Exit -> Act -> World -> Prop} {r:Option Nat} {m0:Nat -> Nat -> Prop} {w0:World} {S:Nat -> Prop} {ds:List Deferred}
theorem tT {ι : Type} (I:ι -> Act -> World -> Prop) (J:ι -> Prop) (μ : ι -> Nat) {c:Code} {a:Act} {w:World} (p₀:ι) (h₀:J p₀) (hf:I p₀ a w)
  (round:∀ p,J p -> ∀ a w,I p a w -> c.wpIn (rF r) 0 P (Exit.then (fun a' w' => ∃ p',J p'/\μ p' < μ p/\I p' a' w') Q) a w):(Code.loop c).wpIn (rF r) 0 P Q a w:=by
 intro b k fs hro hb hr;have key:∀ n p a w,μ p=n -> J p -> I p a w →
   ∃ e a' w',Q e a' w'/\ArrivesIn (Machine.fenced P (rF r)) P (lone (b.atR a (.code c :: .inLoop c :: k)) fs w) b k fs e a' w':=by
  intro n
  induction n using Nat.strongRecOn with
  | _ n ih =>
   intro p a w hn hJ hF;obtain ⟨e,a₁,w₁,hq,harr⟩:=round p hJ a w hF b (.inLoop c :: k) fs hro hb hr
   cases e with
   | normal =>
    obtain ⟨p',hJ',hlt,hF'⟩:=hq;obtain ⟨e₂,a₂,w₂,hq₂,harr₂⟩:=ih (μ p') (hn ▸ hlt) p' a₁ w₁ rfl hJ' hF';exact ⟨e₂,a₂,w₂,hq₂,.of_steps (StepsIn.trans harr (.one (fenced_wide P _) stepR_inLoop)) harr₂⟩
   | exit id => exact ⟨_,a₁,w₁,hq,.pass (x:=.inLoop c) rfl (fun _ _ => .inl (by simp)) harr⟩
   | goto l => exact ⟨_,a₁,w₁,hq,.pass (x:=.inLoop c) rfl (fun _ _ => .inl (by simp)) harr⟩
   | ret => exact ⟨_,a₁,w₁,hq,.pass (x:=.inLoop c) rfl (fun _ _ => .inl (by simp)) harr⟩
   | panic ch => exact ⟨_,a₁,w₁,hq,.pass (x:=.inLoop c) rfl (fun _ _ => .inl (by simp)) harr⟩
   | outgrown => exact ⟨_,a₁,w₁,hq,.pass (x:=.inLoop c) rfl (fun _ _ => .inl (by simp)) harr⟩
 obtain ⟨e,a',w',hq,harr⟩:=key _ p₀ a w rfl h₀ hf;exact ⟨e,a',w',hq,.of_steps (.one (fenced_wide P _) stepR_loop) harr⟩
end
section
variable {P:Program} {f:FuncId} {fn:Func} {c:Code} {R:Ending -> World -> Prop} {m:Nat -> Nat -> Prop} {w:World} {pre:List (Nat × Blk)} {args:List AV}
theorem enY (nt:Nat) (hm:∀ b o,m b o -> b < w.heap.size) (hp:J0 m w pre) (hargs:∀ v ∈ args,Ok m w v) (hf:P.funcs[f]? = some fn) (h:∀ B,B=std -> ∀ a,b4 ⟨m,w,ats pre,[],noK⟩ ⟨nt,B3 0 args,[],pre,[]⟩ a w -> c.wpIn (rF none) 0 P (bodyPost P fn R) a w) (hb:fn.body=some c:=by rfl) (hnt:fn.ntmps=nt:=by rfl) (hn:args.length<=nt:=by exact Nat.le_of_ble_eq_true rfl):Calls P f (args.map AV.den).toArray w R:=
 enX nt hm hp hargs hf (fun B hB a hF => (wpIn_wide (n:=0)).1 (h B hB a hF)) hb hnt hn
theorem enN (nt:Nat) (hm:∀ b o,m b o -> b < w.heap.size) (hp:J0 m w pre) (hargs:∀ v ∈ args,Ok m w v) (hf:P.funcs[f]? = some fn) (h:∀ B,B=std -> ∀ a,b4 ⟨m,w,ats pre,[],noK⟩ ⟨nt,B3 0 args,[],pre,[]⟩ a w -> wpN f P c (bodyPostM Fence.wide 0 P fn R) a w) (hb:fn.body=some c:=by rfl) (hnt:fn.ntmps=nt:=by rfl) (hn:args.length<=nt:=by exact Nat.le_of_ble_eq_true rfl):Calls P f (args.map AV.den).toArray w R:=by
 refine iV hf hb ?_;have:=h std rfl _ (ax hm hp hargs hn)
 simpa [hnt] using this
end
section
variable {C:Cx} {P:Program} {Q:Exit -> Act -> World -> Prop} {T:List (Nat × TI)} {B:Alg} {r:Option Nat} {ops:Array Oper}
theorem Fg {l:List Oper} (h:T8 l=true) {o:Oper} (ho:o ∈ l):∀ c,o.op ≠ .defer c:=fun c e => by
 have:=List.all_eq_true.1 h o ho;rw [e] at this; cases this
theorem tp (hO:∀ a w,¬ Q .outgrown a w) (hd:∀ o ∈ ops,∀ c,o.op ≠ .defer c) {md:Region.Mode}:∀ (fuel:Nat) (listed:Array Bool) (a:Act) (w:World),wpAny P md ops Q fuel listed a w -> wpAnyIn (rF r) 0 P md ops Q fuel listed a w
 | 0,listed,a,w,h => h
 | fuel + 1,listed,a,w,h => by
  refine ⟨h.1,fun i hi => ?_⟩;have h2:=h.2 i hi;unfold wpOp at h2;unfold wpOpIn
  cases ho:ops[i]? with
  | none => rw [ho] at h2; exact tp hO hd fuel _ _ _ h2
  | some o =>
   rw [ho] at h2;simp only at h2 ⊢
   by_cases hw:Region.wanted o (yielded ops a.tmps)=true
   .rw [if_pos hw] at h2 ⊢
    rcases h2 with h2 | ⟨_,a',w',h2⟩
    .exact wt (hd o (Array.mem_of_getElem? ho)) (fun a w h => tp hO hd fuel _ a w h) (fun _ _ _ h => h) h2
    exact absurd h2 (hO _ _)
   rw [if_neg hw] at h2 ⊢;exact ⟨fun f _ => jT r f,tp hO hd fuel _ _ _ h2⟩
end
def okT (tm:List (Nat × AV)):Kn:=⟨fun m w => ∀ t,(look tm t).known=true -> Ok m w (look tm t),fun k h t ht => k.ok (h t ht)⟩
def Z3 (nt:Nat) (tm:List (Nat × AV)) (ds:List Deferred) (a:Act):Prop:=a.tmps.size=nt/\a.defers=ds/\∀ t,(look tm t).known=true -> a.tmps[t]? = some (look tm t).den
def Kn.under (K:Kn) (n:Nat):Prop:=∀ l,n<=l -> ∀ {w m w' m'},P1 (some l) w m w' m' -> K.p m w -> K.p m' w'
def Kn.off (K:Kn) (l:Nat):Prop:=∀ {w m w' m'},P1 (some l) w m w' m' -> K.p m w -> K.p m' w'
theorem Kn.under.off {K:Kn} {n l:Nat} (h:K.under n) (hl:n<=l):K.off l:=h l hl
theorem Kn.under.mono {K:Kn} {n n':Nat} (h:K.under n) (hl:n<=n'):K.under n':=fun l h' => h l (Nat.le_trans hl h')
theorem ug (tm:List (Nat × AV)) (n:Nat):(okT tm).under n:=fun _ _ _ _ _ _ k h t ht => k.ok (h t ht)
theorem uY {K K':Kn} {n:Nat} (h:K.under n) (h':K'.under n):(K.and K').under n:=fun l hl _ _ _ _ k x => ⟨h l hl k x.1,h' l hl k x.2⟩
theorem bh (tm:List (Nat × AV)) (n:Nat):(okT tm).off n:=fun k h t ht => k.ok (h t ht)
theorem tw {K K':Kn} {n:Nat} (h:K.off n) (h':K'.off n):(K.and K').off n:=fun k x => ⟨h k x.1,h' k x.2⟩
theorem vX {l D n:Nat} {r:Loop} (h1:l ≠ n) (h2:D ≠ n):(Fb l r D).off n:=fun k x => ⟨k.obj _ _ (by intro e; injection e with e; exact h1 e.symm) x.1 (fun _ _ _ e => by cases e),k.obj _ _ (by intro e; injection e with e; exact h2 e.symm) x.2 (fun _ _ _ e => by cases e)⟩
def Kn.self (K:Kn):Prop:=∀ m w,K.p m w -> K.under w.heap.size
theorem wx (tm:List (Nat × AV)):(okT tm).self:=fun _ _ _ => ug _ _
theorem mM {K K':Kn} (h:K.self) (h':K'.self):(K.and K').self:=fun m w x => uY (h m w x.1) (h' m w x.2)
def C4 (Ds:List Nat):Kn:=⟨fun _ w => (∀ D ∈ Ds,w.heap[D]? = some (.deferred (some [])))/\Ds.Nodup,fun k h => ⟨fun D hD => k.obj _ _ (h.1 D hD) (fun _ _ _ e => by cases e),h.2⟩⟩
theorem ko {Ds:List Nat} {n:Nat} (h:n ∉ Ds):(C4 Ds).off n:=fun k x => ⟨fun D hD => k.obj _ _ (by intro e; injection e with e; exact h (e ▸ hD)) (x.1 D hD) (fun _ _ _ e => by cases e),x.2⟩
section
variable {m0:Nat -> Nat -> Prop} {w0 w w':World} {S:Nat -> Prop} {ds:List Deferred} {K:Kn} {nt:Nat} {tm:List (Nat × AV)} {gs:List (Nat × List (Nat × Bool) × AV)} {mem:List (Nat × Blk)} {gr:List (Nat × Gr)} {a:Act} {P:Program}
abbrev Mem (m0:Nat -> Nat -> Prop) (w0:World) (S:Nat -> Prop) (K:Kn) (mem:List (Nat × Blk)) (gr:List (Nat × Gr)) (w:World):Prop:=b4 ⟨m0,w0,S,[],K⟩ ⟨0,[],[],mem,gr⟩ ⟨#[],[]⟩ w
abbrev mT (m0:Nat -> Nat -> Prop) (mem:List (Nat × Blk)) (gr:List (Nat × Gr)):Nat -> Nat -> Prop:=St.m ⟨0,[],[],mem,gr⟩ ⟨m0,default,fun _ => False,[],noK⟩
theorem b4.leave (h:b4 ⟨m0,w0,S,ds,K⟩ ⟨nt,tm,gs,mem,gr⟩ a w):Mem m0 w0 S (K.and (okT tm)) mem gr w/\Z3 nt tm ds a:=
 ⟨⟨rfl,rfl,(fun t ht => by cases ht),(fun t p v he => by cases he),h.mem,h.nodup,h.gr,h.sepm,h.sepg,h.chg,h.m0,⟨h.kept,fun t ht => (h.slot t ht).2⟩⟩,h.size,h.defers,fun t ht => (h.slot t ht).1⟩
theorem b4.bare (h:b4 ⟨m0,w0,S,ds,K⟩ ⟨nt,tm,gs,mem,gr⟩ a w):Mem m0 w0 S K mem gr w:=
 ⟨rfl,rfl,(fun t ht => by cases ht),(fun t p v he => by cases he),h.mem,h.nodup,h.gr,h.sepm,h.sepg,h.chg,h.m0,h.kept⟩
theorem fV (h:Mem m0 w0 S K mem gr w) (ha:Z3 nt tm ds a) (hok:(okT tm).p (mT m0 mem gr) w):b4 ⟨m0,w0,S,ds,K⟩ ⟨nt,tm,[],mem,gr⟩ a w:=
 ⟨ha.1,ha.2.1,fun t ht => ⟨ha.2.2 t ht,hok t ht⟩,(fun t p v he => by cases he),h.mem,h.nodup,h.gr,h.sepm,h.sepg,h.chg,h.m0,h.kept⟩
theorem aj (h:Mem m0 w0 S (K.and (okT tm)) mem gr w) (ha:Z3 nt tm ds a):b4 ⟨m0,w0,S,ds,K⟩ ⟨nt,tm,[],mem,gr⟩ a w:=
 fV (K:=K) (b4.withK (K:=K.and (okT tm)) h h.kept.1) ha h.kept.2
theorem pb {K':Kn} (h:Mem m0 w0 S K mem gr w) (hK:K'.p (mT m0 mem gr) w):Mem m0 w0 S K' mem gr w:=b4.withK (K:=K) h hK
theorem kj {b:Nat} {o:Obj} (h:Mem m0 w0 S K mem gr w) (hb:w.heap[b]? = some o) (ho:∀ c t f,o ≠ Obj.cells c t f) (hg:w.grownBy w' (some b)) (hC:b < w0.heap.size -> S b) {K':Kn} (hK:P1 (some b) w (mT m0 mem gr) w' (mT m0 mem gr) -> K'.p (mT m0 mem gr) w'):Mem m0 w0 S K' mem gr w':=
 b4.turn (K:=K) h hb ho hg hC (hK (cy hb ho hg))
end
section
variable {m0:Nat -> Nat -> Prop} {w0 w:World} {S:Nat -> Prop} {ds:List Deferred} {K:Kn} {mem:List (Nat × Blk)} {gr:List (Nat × Gr)} {a:Act} {P:Program} {f:FuncId} {fn:Func} {c:Code} {R:Ending -> World -> Prop} {args:List AV} {B:Alg} {T:List (Nat × TI)} {s:St} {rs:List ResultVar} {r:List AV × List Ob} {Q:Exit -> Act -> World -> Prop} {ops:Array Oper}
theorem Ch (hargs:∀ v ∈ args,Ok (mT m0 mem gr) w v) {n:Nat} (hn:args.length<=n):Z3 n (B3 0 args) [] { tmps:=(args.map AV.den).toArray ++ Array.replicate (n - args.length) Go.undef,defers:=[] }/\(okT (B3 0 args)).p (mT m0 mem gr) w:=by
 have key:∀ t,(look (B3 0 args) t).known=true -> args[t]? = some (look (B3 0 args) t):=fun t ht => by
  have:=(dr args 0 t ht).2
  rwa [Nat.sub_zero] at this
 refine ⟨⟨by simp; omega,rfl,fun t ht => ?_⟩,fun t ht => hargs _ (List.mem_of_getElem? (key t ht))⟩;have h1:=key t ht;have hlt:=(List.getElem?_eq_some_iff.1 h1).1;rw [Array.getElem?_append_left (by simpa using hlt)];simp [h1]
theorem enI (nt:Nat) (h:Mem m0 w0 S K mem gr w) (hargs:∀ v ∈ args,Ok (mT m0 mem gr) w v) (hf:P.funcs[f]? = some fn) (body:∀ B,B=std -> ∀ a,b4 ⟨m0,w0,S,[],K⟩ ⟨nt,B3 0 args,[],mem,gr⟩ a w -> c.wp P (bodyPost P fn R) a w) (hb:fn.body=some c:=by rfl) (hnt:fn.ntmps=nt:=by rfl) (hn:args.length<=nt:=by exact Nat.le_of_ble_eq_true rfl):Calls P f (args.map AV.den).toArray w R:=by
 refine calls_of_wp hf hb ?_;obtain ⟨h1,h2⟩:=Ch hargs hn;have:=body std rfl _ (fV h h1 h2)
 simpa [hnt] using this
theorem de (hB:B=std) (hT:j9 P T) {nt:Nat} {tm:List (Nat × AV)} (h:b4 ⟨m0,w0,S,[],K⟩ ⟨nt,tm,[],mem,gr⟩ a w) (hR:Mem m0 w0 S K mem gr w -> Ok (mT m0 mem gr) w (I6 r.1) -> R (.returned (I6 r.1).den) w) (hfn:fn.results=rs.toArray:=by rfl) (hr:P8 T ⟨nt,tm,[],mem,gr⟩ rs=some r:=by first | rfl | (conv => lhs; cbv)) (ho:b5 P K r.2:=by first | exact trivial | (subst hB; simp [b5,Ob.holds])):bodyPost P fn R .ret a w/\bodyPost P fn R .normal a w:=
 fg hT h rfl hfn hr ho fun hv => hR h.bare hv
theorem nA {nt:Nat} {tm:List (Nat × AV)} {L rest:List Oper} {o:Oper} {cl:Call} {g:Operand} {l r args:List AV} (hL:L=o :: rest) (hg:o.guard=none) (hop:o.op = .call cl) (hcal:cl.callee = .value g) (h:b4 ⟨m0,w0,S,ds,K⟩ ⟨nt,tm,[],mem,gr⟩ a w) (hgv:val ⟨nt,tm,[],mem,gr⟩ [] g = .fn f l r) (hl:V0 ⟨nt,tm,[],mem,gr⟩ [] cl.args.toList=some args) (hen:j3 P f) (hd:∀ t,o.dst=some t -> t < nt)
  (Kc:Mem m0 w0 S (K.and (okT tm)) mem gr w -> Z3 nt tm ds a -> (∀ v ∈ l ++ args ++ r,Ok (mT m0 mem gr) w v) -> Calls P f ((l ++ args ++ r).map AV.den).toArray w fun e w' => ∃ v,e = .returned v.den/\∃ mem' gr' K',Ok (mT m0 mem' gr') w' v/\Mem m0 w0 S (K'.and (okT tm)) mem' gr' w' ∧
   ∀ a' ,b4 ⟨m0,w0,S,ds,K'⟩ (St.put ⟨nt,tm,[],mem',gr'⟩ o.dst v) a' w' -> wpList P ops Q rest a' w'):wpList P ops Q L a w:=by
 refine Q9 hL hg ?_;obtain ⟨hrun,hok⟩:=cu hop hcal h hgv hl hen;obtain ⟨h1,h2⟩:=h.leave;unfold Oper.wp;rw [hrun];simp only [Oper.upon];refine (Kc h1 h2 hok).mono ?_
 rintro e w' ⟨v,rfl,mem',gr',K',hv,hm,k⟩
 have hf:=aj hm h2;exact k _ (hf.put o.dst hd v (fun _ => hv) _ fun _ => rfl)
end
section
variable {m0:Nat -> Nat -> Prop} {w0 w:World} {S:Nat -> Prop} {ds:List Deferred} {K:Kn} {mem:List (Nat × Blk)} {gr:List (Nat × Gr)} {a:Act} {P:Program} {fn:FuncId}
def jb (rc:Loop) (st:LoopState) (pe:Option Code):Loop:={ rc with state:=st,pending:=pe }
def KL (K:Kn) (tm:List (Nat × AV)) (l:Nat) (rc:Loop) (D:Nat) (st:LoopState) (pe:Option Code):Kn:=(K.and (okT tm)).and (Fb l (jb rc st pe) D)
theorem AS {K:Kn} {tm:List (Nat × AV)} {l D:Nat} {rc:Loop} {st st':LoopState} {pe pe':Option Code} {w w':World} {m:Nat -> Nat -> Prop} (hD:D ≠ l) (hK:K.off l) (hk:P1 (some l) w m w' m) (hl:w'.heap[l]? = some (.loop (jb rc st' pe'))) (h:(KL K tm l rc D st pe).p m w):(KL K tm l rc D st' pe').p m w':=
 ⟨⟨hK hk h.1.1,bh tm l hk h.1.2⟩,hl,hk.obj _ _ (by intro e; injection e with e; exact hD e.symm) h.2.2 (fun _ _ _ e => by cases e)⟩
theorem ua {w:World} {l:Nat} {o o':Obj} (h:w.heap[l]? = some o):(w.putObj l o').heap[l]? = some o':=by
 have:=(Array.getElem?_eq_some_iff.1 h).1;simp [World.putObj,this]
theorem oT {K E:Kn} {tm:List (Nat × AV)} {l D:Nat} {rc:Loop} {st st':LoopState} {pe pe':Option Code} {nt:Nat} {tm':List (Nat × AV)} (hl0:w0.heap.size<=l) (hD:D ≠ l) (hK:K.off l) (hE:E.off l) (h:b4 ⟨m0,w0,S,ds,(KL K tm l rc D st pe).and E⟩ ⟨nt,tm',[],mem,gr⟩ a w):b4 ⟨m0,w0,S,ds,(KL K tm l rc D st' pe').and E⟩ ⟨nt,tm',[],mem,gr⟩ a (w.putObj l (.loop (jb rc st' pe'))):=by
 obtain ⟨h1,h2⟩:=h.leave;have hk:=h1.kept;have hl:w.heap[l]? = some (.loop (jb rc st pe)):=hk.1.1.2.1;have:=kj (K':=(((KL K tm l rc D st' pe').and E).and (okT tm'))) h1 hl (fun _ _ _ e => by cases e) (grownBy_putObj' w l (.loop (jb rc st' pe'))) (fun h => by omega) (fun kb => ⟨⟨AS hD hK kb (ua hl) hk.1.1,hE kb hk.1.2⟩,bh tm' l kb hk.2⟩);exact aj this h2
def yj (m0:Nat -> Nat -> Prop) (w0:World) (S:Nat -> Prop) (tm:List (Nat × AV)) (l:Nat) (rc:Loop) (D:Nat) (E:Kn) (N:Kn -> List (Nat × Blk) -> List (Nat × Gr) -> Prop) (X:Code -> Kn -> List (Nat × Blk) -> List (Nat × Gr) -> Prop) (T:List PanicEntry -> Kn -> List (Nat × Blk) -> List (Nat × Gr) -> Prop):Exit -> Act -> World -> Prop
 | .normal,_,w => ∃ K mem gr,N K mem gr/\K.off l/\Mem m0 w0 S ((KL K tm l rc D .busy none).and E) mem gr w
 | .ret,_,w => ∃ K mem gr,X .ret K mem gr/\K.off l/\Mem m0 w0 S ((KL K tm l rc D .busy none).and E) mem gr w
 | .exit id,_,w => ∃ K mem gr,X (.exit id) K mem gr/\K.off l/\Mem m0 w0 S ((KL K tm l rc D .busy none).and E) mem gr w
 | .goto t,_,w => ∃ K mem gr,X (.goto t) K mem gr/\K.off l/\Mem m0 w0 S ((KL K tm l rc D .busy none).and E) mem gr w
 | .panic ch,a,w => a.defers=[]/\∃ K mem gr,T ch K mem gr/\K.off l/\Mem m0 w0 S ((KL K tm l rc D .busy none).and E) mem gr w
 | .outgrown,_,_ => False
def yi (m0:Nat -> Nat -> Prop) (w0:World) (S:Nat -> Prop) (tm:List (Nat × AV)) (l:Nat) (rc:Loop) (D:Nat) (E:Kn) (N:Kn -> List (Nat × Blk) -> List (Nat × Gr) -> Prop) (X:Code -> Kn -> List (Nat × Blk) -> List (Nat × Gr) -> Prop):Exit -> Act -> World -> Prop:=yj m0 w0 S tm l rc D E N X fun _ _ _ _ => False
theorem Cq {fd:Func} {rc:Loop} (hfn:P.funcs[rc.fn]? = some fd) {l D ntc nti:Nat} {tmc tmi:List (Nat × AV)} {ac ai:Act} (hl0:w0.heap.size<=l) (hD:D ≠ l) (hK:K.off l) (hst:rc.pending=none) (htm:rc.tmps=ac.tmps)
  (hi:b4 ⟨m0,w0,S,[],KL K tmc l rc D .ready none⟩ ⟨nti,tmi,[],mem,gr⟩ ai w) (hc:∃ d,Z3 ntc tmc d ac) {ps:List (Nat × AV)} (hps:∀ e ∈ ps,e.1 < ntc/\Ok (mT m0 mem gr) w e.2) {R:Ending -> World -> Prop}
  (N:Kn -> List (Nat × Blk) -> List (Nat × Gr) -> Prop) (X:Code -> Kn -> List (Nat × Blk) -> List (Nat × Gr) -> Prop) (T:List PanicEntry -> Kn -> List (Nat × Blk) -> List (Nat × Gr) -> Prop)
  (hN:∀ K' mem' gr' w',N K' mem' gr' -> K'.off l -> b4 ⟨m0,w0,S,[],KL K' tmc l rc D .ready none⟩ ⟨nti,tmi,[],mem',gr'⟩ ai w' -> R (.returned (.bool true)) w')
  (hX:∀ c K' mem' gr' w',X c K' mem' gr' -> K'.off l -> b4 ⟨m0,w0,S,[],KL K' tmc l rc D .done (some c)⟩ ⟨nti,tmi,[],mem',gr'⟩ ai w' -> R (.returned (.bool false)) w')
  (hT:∀ ch K' mem' gr' w',T ch K' mem' gr' -> K'.off l -> Mem m0 w0 S (KL K' tmc l rc D .busy none) mem' gr' w' -> R (.panicked ch) w')
  (hbody:∀ a,b4 ⟨m0,w0,S,[],(KL K tmc l rc D .ready none).and (okT tmi)⟩ (St.puts ⟨ntc,tmc,[],mem,gr⟩ ps) a w -> rc.assign.wpIn (rF (some l)) 0 P (Exit.then (fun a₁ w₁ => ∃ nt1 tm1 fW gr1,b4 ⟨m0,w0,S,[],(KL K tmc l rc D .ready none).and (okT tmi)⟩ ⟨nt1,tm1,[],fW,gr1⟩ a₁ w₁ ∧
   ∀ w₂,b4 ⟨m0,w0,S,[],(KL K tmc l rc D .busy none).and (okT tmi)⟩ ⟨nt1,tm1,[],fW,gr1⟩ a₁ w₂ -> rc.body.wpIn (rF (some l)) 0 P (yj m0 w0 S tmc l rc D (okT tmi) N X T) a₁ w₂) (fun _ _ _ => False)) a w) :
  RoundIn (rF none) 0 P l rc.fn (ps.foldl (fun t e => t.setIfInBounds e.1 e.2.den) rc.tmps) rc.assign rc.body w R:=by
 obtain ⟨hm,hai⟩:=hi.leave;have hk:=hm.kept;obtain ⟨dc,hac⟩:=hc;have hact:Z3 ntc tmc [] { tmps:=ac.tmps,defers:=[] }:=⟨hac.1,rfl,hac.2.2⟩;have hF0:b4 ⟨m0,w0,S,[],(KL K tmc l rc D .ready none).and (okT tmi)⟩ ⟨ntc,tmc,[],mem,gr⟩ { tmps:=ac.tmps,defers:=[] } w:=fV hm hact hk.1.1.2;have hF1:=hF0.puts (l:=ps) hps;have hb:=hbody _ hF1;have key:=vP (P:=P) (l:=l) (r:=jb rc .ready none) (fd:=fd) hfn rfl (tmps:=ps.foldl (fun t e => t.setIfInBounds e.1 e.2.den) rc.tmps) (R:=R) (w:=w) ?_
 .exact key
 rw [htm];refine wpIn_mono hb ?_;intro e a₁ w₁ he
 cases e with
 | normal =>
  obtain ⟨nt1,tm1,fW,gr1,hf1,hb1⟩:=he;refine ⟨hf1.kept.1.2.1,?_⟩;have hf2:=oT (st':=.busy) (pe':=none) hl0 hD hK (bh tmi l) hf1;refine wpIn_mono (hb1 _ hf2) ?_;have fin:∀ {K':Kn} {mem':List (Nat × Blk)} {gr':List (Nat × Gr)} {w':World} (st:LoopState) (pe:Option Code),K'.off l -> Mem m0 w0 S ((KL K' tmc l rc D .busy none).and (okT tmi)) mem' gr' w' -> w'.heap[l]? = some (.loop { jb rc .ready none with state:=.busy })/\b4 ⟨m0,w0,S,[],KL K' tmc l rc D st pe⟩ ⟨nti,tmi,[],mem',gr'⟩ ai (w'.putObj l (.loop (jb rc st pe))):=fun {K' mem' gr' w'} st pe ho hm' => by
   refine ⟨hm'.kept.1.2.1,?_⟩;have h3:=oT (st':=st) (pe':=pe) (nt:=0) (tm':=[]) hl0 hD ho (bh tmi l) hm';exact aj h3 hai
  intro e a₂ w₂ he
  cases e with
  | normal =>
   obtain ⟨K',mem',gr',hn,ho,hm'⟩:=he;obtain ⟨g1,g2⟩:=fin .ready none ho hm';exact ⟨g1,hN _ _ _ _ hn ho g2⟩
  | ret =>
   obtain ⟨K',mem',gr',hn,ho,hm'⟩:=he;obtain ⟨g1,g2⟩:=fin .done (some .ret) ho hm';exact ⟨g1,hX _ _ _ _ _ hn ho g2⟩
  | exit id =>
   obtain ⟨K',mem',gr',hn,ho,hm'⟩:=he;obtain ⟨g1,g2⟩:=fin .done (some (.exit id)) ho hm';exact ⟨g1,hX _ _ _ _ _ hn ho g2⟩
  | goto t =>
   obtain ⟨K',mem',gr',hn,ho,hm'⟩:=he;obtain ⟨g1,g2⟩:=fin .done (some (.goto t)) ho hm';exact ⟨g1,hX _ _ _ _ _ hn ho g2⟩
  | panic chain =>
   obtain ⟨hd,K',mem',gr',hn,ho,hm'⟩:=he;exact ⟨hd,hT _ _ _ _ _ hn ho (pb hm' hm'.kept.1)⟩
  | outgrown => exact he.elim
 | _ => exact he
theorem Cr {fd:Func} {rc:Loop} (hfn:P.funcs[rc.fn]? = some fd) {l D ntc nti:Nat} {tmc tmi:List (Nat × AV)} {ac ai:Act} (hl0:w0.heap.size<=l) (hD:D ≠ l) (hK:K.off l) (hst:rc.pending=none) (htm:rc.tmps=ac.tmps)
  (hi:b4 ⟨m0,w0,S,[],KL K tmc l rc D .ready none⟩ ⟨nti,tmi,[],mem,gr⟩ ai w) (hc:∃ d,Z3 ntc tmc d ac) {ps:List (Nat × AV)} (hps:∀ e ∈ ps,e.1 < ntc/\Ok (mT m0 mem gr) w e.2) {R:Ending -> World -> Prop}
  (N:Kn -> List (Nat × Blk) -> List (Nat × Gr) -> Prop) (X:Code -> Kn -> List (Nat × Blk) -> List (Nat × Gr) -> Prop)
  (hN:∀ K' mem' gr' w',N K' mem' gr' -> K'.off l -> b4 ⟨m0,w0,S,[],KL K' tmc l rc D .ready none⟩ ⟨nti,tmi,[],mem',gr'⟩ ai w' -> R (.returned (.bool true)) w')
  (hX:∀ c K' mem' gr' w',X c K' mem' gr' -> K'.off l -> b4 ⟨m0,w0,S,[],KL K' tmc l rc D .done (some c)⟩ ⟨nti,tmi,[],mem',gr'⟩ ai w' -> R (.returned (.bool false)) w')
  (hbody:∀ a,b4 ⟨m0,w0,S,[],(KL K tmc l rc D .ready none).and (okT tmi)⟩ (St.puts ⟨ntc,tmc,[],mem,gr⟩ ps) a w -> rc.assign.wpIn (rF (some l)) 0 P (Exit.then (fun a₁ w₁ => ∃ nt1 tm1 fW gr1,b4 ⟨m0,w0,S,[],(KL K tmc l rc D .ready none).and (okT tmi)⟩ ⟨nt1,tm1,[],fW,gr1⟩ a₁ w₁ ∧
   ∀ w₂,b4 ⟨m0,w0,S,[],(KL K tmc l rc D .busy none).and (okT tmi)⟩ ⟨nt1,tm1,[],fW,gr1⟩ a₁ w₂ -> rc.body.wpIn (rF (some l)) 0 P (yi m0 w0 S tmc l rc D (okT tmi) N X) a₁ w₂) (fun _ _ _ => False)) a w) :
  RoundIn (rF none) 0 P l rc.fn (ps.foldl (fun t e => t.setIfInBounds e.1 e.2.den) rc.tmps) rc.assign rc.body w R:=
 Cq hfn hl0 hD hK hst htm hi hc hps N X (fun _ _ _ _ => False) hN hX (fun _ _ _ _ _ h => h.elim) hbody
theorem wd {Q:Exit -> Act -> World -> Prop} {g:Operand} {ps:Array Tmp} {assign body:Code} {gf nt:Nat} {tm:List (Nat × AV)} {lb:List AV} (h:b4 ⟨m0,w0,S,ds,K⟩ ⟨nt,tm,[],mem,gr⟩ a w) (hgv:val ⟨nt,tm,[],mem,gr⟩ [] g = .fn gf [] lb) (hen:j3 P gf) (hK:K.under w.heap.size)
  (hc:∀ l D rc w1,l=D + 1 -> D=w.heap.size -> rc=cH fn a ps assign body D .ready none -> w0.heap.size<=D -> w1.heap.size=D + 2 -> Z3 nt tm ds a -> Mem m0 w0 S (KL K tm l rc D .ready none) mem gr w1 -> (∀ v ∈ lb,Ok (mT m0 mem gr) w1 v) →
   Calls P gf ((yV l :: lb).map AV.den).toArray w1 fun e w3 => ∃ v,e = .returned v/\∃ K' mem' gr',K'.off l ∧
    ((Mem m0 w0 S (KL K' tm l rc D .ready none) mem' gr' w3/\∀ a' w',b4 ⟨m0,w0,S,bi D :: ds,K'.and (C4 [D])⟩ ⟨nt,tm,[],mem',gr'⟩ a' w' -> Q .normal a' w') ∨
     ∃ c,Mem m0 w0 S (KL K' tm l rc D .done (some c)) mem' gr' w3/\∀ a' w',b4 ⟨m0,w0,S,bi D :: ds,K'.and (C4 [D])⟩ ⟨nt,tm,[],mem',gr'⟩ a' w' -> c.wp P Q a' w')) :
  wpN fn P (Code.rangeFunc g ps assign body) Q a w:=by
 obtain ⟨hm,ha⟩:=h.leave;have hgd:=C2 h (q:=[]) (fun _ h => by cases h) (x:=g) (by rw [hgv]; rfl);rw [hgv] at hgd;have hg1:a.eval g = .func (.func gf) #[] (lb.map AV.den).toArray:=by
  have:=hgd.1
  simpa [AV.den,C6,AV.denL] using this
 have hlb:∀ v ∈ lb,Ok (mT m0 mem gr) w v:=by
  cases hgd.2 with
  | fn _ _ _ k1 k2 => exact k2
 have hbl:=iN fn a ps assign body w;have hsz:(bp fn a ps assign body w).heap.size=w.heap.size + 2:=by simp [bp]
 have hm1:Mem m0 w0 S (KL K tm (w.heap.size + 1) (cH fn a ps assign body w.heap.size .ready none) w.heap.size .ready none) mem gr (bp fn a ps assign body w):=
  pb (hm.below hbl) ⟨(hm.below hbl).kept,un fn a ps assign body w,qF fn a ps assign body w⟩
 have hlb1:∀ v ∈ lb,Ok (mT m0 mem gr) (bp fn a ps assign body w) v:=fun v hv => (fB hbl (mT m0 mem gr)).ok (hlb v hv)
 refine tG (gf:=gf) (lb:=(lb.map AV.den).toArray) hg1 (fun args w => hen args w) ?_;have hcall:=hc _ _ _ _ rfl rfl rfl h.chg.size hsz ha hm1 hlb1;have eargs:((yV (w.heap.size + 1) :: lb).map AV.den).toArray = #[.func (.yield (w.heap.size + 1)) #[] #[]] ++ (lb.map AV.den).toArray:=by
  simp [AV.den]
 rw [eargs] at hcall;refine hcall.mono ?_
 rintro e w3 ⟨v,rfl,K',mem',gr',ho,hh⟩
 have ha':Z3 nt tm (bi w.heap.size :: ds) { a with defers:={ target:=.collected w.heap.size,args:=#[] } :: a.defers }:=⟨ha.1,by rw [ha.2.1],ha.2.2⟩;have fin:∀ {st:LoopState} {pe:Option Code},st ≠ .busy -> Mem m0 w0 S (KL K' tm (w.heap.size + 1) (cH fn a ps assign body w.heap.size .ready none) w.heap.size st pe) mem' gr' w3 →
   ∃ w4,(Instr.endLoop (w.heap.size + 1)).run P w3 = .ok pe w4/\b4 ⟨m0,w0,S,bi w.heap.size :: ds,K'.and (C4 [w.heap.size])⟩ ⟨nt,tm,[],mem',gr'⟩ { a with defers:={ target:=.collected w.heap.size,args:=#[] } :: a.defers } w4:=fun {st pe} hst h3 => by
  have hk:=h3.kept;have hl:=hk.2.1;refine ⟨_,run_endLoop hl hst,?_⟩;have h4:=kj (K':=(K'.and (C4 [w.heap.size])).and (okT tm)) h3 hl (fun _ _ _ e => by cases e) (grownBy_putObj' w3 _ (.loop { jb (cH fn a ps assign body w.heap.size .ready none) st pe with state:=.exhausted })) (fun hh => absurd h.chg.size (by simp only at hh ⊢; omega))
   (fun kb => ⟨⟨ho kb hk.1.1,⟨fun D hD => by
    simp only [List.mem_singleton] at hD;subst hD;exact kb.obj _ _ (by intro e; injection e with e; omega) hk.2.2 (fun _ _ _ e => by cases e),by simp⟩⟩,bh tm _ kb hk.1.2⟩)
  exact aj h4 ha'
 rcases hh with ⟨h3,hq⟩ | ⟨c,h3,hq⟩
 .obtain ⟨w4,e4,h4⟩:=fin (by simp) h3
  exact ⟨none,w4,e4,hq _ _ h4⟩
 obtain ⟨w4,e4,h4⟩:=fin (by simp) h3;exact ⟨some c,w4,e4,hq _ _ h4⟩
end
section
variable {m0:Nat -> Nat -> Prop} {w0 w:World} {S:Nat -> Prop} {K:Kn} {mem:List (Nat × Blk)} {gr:List (Nat × Gr)} {a:Act} {P:Program} {fn:Func} {R:Ending -> World -> Prop} {B:Alg} {T:List (Nat × TI)} {rs:List ResultVar} {r:List AV × List Ob} {nt:Nat} {tm:List (Nat × AV)}
theorem iL {tmps:Array Value}:∀ (Ds:List Nat) (w:World),Mem m0 w0 S (K.and (C4 Ds)) mem gr w -> (∀ D ∈ Ds,K.off D/\w0.heap.size<=D) -> (∀ w',Mem m0 w0 S K mem gr w' -> ∃ v,(results fn tmps).run P w' = .ok v w'/\R (.returned v) w') -> LeavesInM Fence.wide 0 P fn tmps R (Ds.map bi) .returning w
 | [],w,h,_,hR => hR w (pb h h.kept.1)
 | D :: Ds,w,h,ho,hR => by
  have hk:=h.kept.2;have hD:w.heap[D]? = some (.deferred (some [])):=hk.1 D (by simp);have hnd:=List.nodup_cons.1 hk.2;refine ⟨by simp,.inl ⟨D,_,rfl,run_takeDeferred hD,iL Ds _ ?_ (fun E hE => ho E (by simp [hE])) hR⟩⟩;refine kj h hD (fun _ _ _ e => by cases e) (grownBy_putObj' w D _) (fun hh => absurd (ho D (by simp)).2 (by omega)) fun kb => ⟨(ho D (by simp)).1 kb h.kept.1,fun E hE => ?_,hnd.2⟩
  exact kb.obj _ _ (by intro e; injection e with e; subst e; exact hnd.1 hE) (hk.1 E (by simp [hE])) (fun _ _ _ e => by cases e)
theorem Bz (hB:B=std) (hT:j9 P T) (Ds:List Nat) (h:b4 ⟨m0,w0,S,Ds.map bi,K.and (C4 Ds)⟩ ⟨nt,tm,[],mem,gr⟩ a w) (hof:∀ D ∈ Ds,K.off D/\w0.heap.size<=D) (hR:∀ w',Mem m0 w0 S K mem gr w' -> Ok (mT m0 mem gr) w' (I6 r.1) -> R (.returned (I6 r.1).den) w') (hfn:fn.results=rs.toArray:=by rfl) (hr:P8 T ⟨nt,tm,[],mem,gr⟩ rs=some r:=by first | rfl | (conv => lhs; cbv)) (ho:b5 P (K.and (okT tm)) r.2:=by first | exact trivial | (subst hB; simp [b5,Ob.holds])):bodyPostM Fence.wide 0 P fn R .ret a w/\bodyPostM Fence.wide 0 P fn R .normal a w:=by
 obtain ⟨h1,h2⟩:=h.leave;have key:LeavesInM Fence.wide 0 P fn a.tmps R a.defers .returning w:=by
  rw [h2.2.1];refine iL (K:=K.and (okT tm)) Ds w (pb h1 ⟨⟨h1.kept.1.1,h1.kept.2⟩,h1.kept.1.2⟩) (fun D hD => ⟨tw (hof D hD).1 (bh tm D),(hof D hD).2⟩) fun w' hm => ?_
  have hf:=fV (ds:=Ds.map bi) hm h2 hm.kept.2;obtain ⟨g1,g2⟩:=fh hT hf hfn hr ho;exact ⟨_,g1,hR w' (pb hm hm.kept.1) g2⟩
 exact ⟨key,key⟩
end
section
variable {m0:Nat -> Nat -> Prop} {w0 w:World} {S:Nat -> Prop} {ds:List Deferred} {K:Kn} {mem:List (Nat × Blk)} {gr:List (Nat × Gr)} {a:Act} {P:Program} {f:FuncId} {fn:Func} {R:Ending -> World -> Prop} {ops:Array Oper} {Q:Exit -> Act -> World -> Prop}
theorem fZ {nt:Nat} {tm:List (Nat × AV)} {L rest:List Oper} {o:Oper} {cl:Call} {g:Operand} {l r args:List AV} (hL:L=o :: rest) (hg:o.guard=none) (hop:o.op = .call cl) (hcal:cl.callee = .value g) (h:b4 ⟨m0,w0,S,ds,K⟩ ⟨nt,tm,[],mem,gr⟩ a w) (hgv:val ⟨nt,tm,[],mem,gr⟩ [] g = .fn f l r) (hl:V0 ⟨nt,tm,[],mem,gr⟩ [] cl.args.toList=some args) (hen:j3 P f) (hd:∀ t,o.dst=some t -> t < nt)
  (Kc:Mem m0 w0 S (K.and (okT tm)) mem gr w -> Z3 nt tm ds a -> (∀ v ∈ l ++ args ++ r,Ok (mT m0 mem gr) w v) -> Calls P f ((l ++ args ++ r).map AV.den).toArray w fun e w' =>
   (∃ v,e = .returned v.den/\∃ mem' gr' K',Ok (mT m0 mem' gr') w' v/\Mem m0 w0 S (K'.and (okT tm)) mem' gr' w'/\∀ a' ,b4 ⟨m0,w0,S,ds,K'⟩ (St.put ⟨nt,tm,[],mem',gr'⟩ o.dst v) a' w' -> wpList P ops Q rest a' w') ∨
   (∃ chain,e = .panicked chain/\∃ mem' gr' K',Mem m0 w0 S (K'.and (okT tm)) mem' gr' w'/\(b4 ⟨m0,w0,S,ds,K'⟩ ⟨nt,tm,[],mem',gr'⟩ a w' -> Q (.panic chain) a w'))):wpList P ops Q L a w:=by
 refine Q9 hL hg ?_;obtain ⟨hrun,hok⟩:=cu hop hcal h hgv hl hen;obtain ⟨h1,h2⟩:=h.leave;unfold Oper.wp;rw [hrun];simp only [Oper.upon];refine (Kc h1 h2 hok).mono ?_
 rintro e w' (⟨v,rfl,mem',gr',K',hv,hm,k⟩ | ⟨chain,rfl,mem',gr',K',hm,k⟩)
 .have hf:=aj hm h2
  exact k _ (hf.put o.dst hd v (fun _ => hv) _ fun _ => rfl)
 exact k (aj hm h2)
theorem oF {nt:Nat} {tm:List (Nat × AV)} {gs:List (Nat × List (Nat × Bool) × AV)} {chain:List PanicEntry} (h:b4 ⟨m0,w0,S,[],K⟩ ⟨nt,tm,gs,mem,gr⟩ a w) (hR:Mem m0 w0 S K mem gr w -> R (.panicked chain) w):bodyPost P fn R (.panic chain) a w:=⟨h.defers,hR h.bare⟩
end
section
variable {m0:Nat -> Nat -> Prop} {w0 wi w:World} {S:Nat -> Prop} {ds:List Deferred} {K:Kn} {nt:Nat} {tm tm':List (Nat × AV)} {gs:List (Nat × List (Nat × Bool) × AV)} {mem memi:List (Nat × Blk)} {gr gri:List (Nat × Gr)} {a:Act} {P:Program}
def FzV (b:Nat) (cells:List AV) (v v':AV):Prop:=v'.den=v.den/\(v'.known=true -> v.known=true)/\(v'.one=v.one)/\∀ m w,Ok m w (.ep (some ⟨b,0,none⟩) 0 0 0 cells) -> Ok m w v -> Ok m w v'
theorem v8 {b:Nat} {cells:List AV} {v:AV}:FzV b cells v v:=⟨rfl,id,rfl,fun _ _ _ h => h⟩
theorem Dr {m:Nat -> Nat -> Prop} {w:World} {A:Option Addr} {i k off off':Nat} {cells:List AV} (h:Ok m w (.ep A i k off cells)):Ok m w (.ep A i k off' cells):=by
 cases h with | ep _ _ _ _ _ h1 h2 h3 h4 => exact .ep _ _ _ _ _ h1 h2 h3 h4
theorem Z2 {b key off:Nat} {cells:List AV}:FzV b cells (.ptr key b off) (.ep (some ⟨b,0,none⟩) 0 0 off cells):=
 ⟨by simp [AV.den],fun _ => rfl,rfl,fun _ _ h _ => Dr h⟩
theorem qS {b b' key key' off:Nat} {cells:List AV}:FzV b cells (.ptr key b' off) (.ptr key' b' off):=⟨rfl,id,rfl,fun _ _ _ _ => .ptr _ _ _⟩
def AT (b:Nat) (cells:List AV):List AV -> List AV -> Prop
 | [],[] => True
 | v :: l,v' :: l' => FzV b cells v v'/\AT b cells l l'
 | _,_ => False
theorem dK {b:Nat} {cells:List AV}:∀ {l l':List AV},AT b cells l l' -> l'.map AV.den=l.map AV.den/\∀ m w,Ok m w (.ep (some ⟨b,0,none⟩) 0 0 0 cells) -> (∀ v ∈ l,Ok m w v) -> ∀ v ∈ l',Ok m w v
 | [],[],_ => ⟨rfl,fun _ _ _ h => h⟩
 | v :: l,v' :: l',⟨h1,h2⟩ => by
  obtain ⟨g1,g2⟩:=dK h2;refine ⟨by simp [h1.1,g1],fun m w he h u hu => ?_⟩
  rcases List.mem_cons.1 hu with rfl | hu
  .exact h1.2.2.2 m w he (h v (by simp))
  exact g2 m w he (fun x hx => h x (by simp [hx])) u hu
theorem Fv {b f:Nat} {cells l l' r r':List AV} (hl:AT b cells l l') (hr:AT b cells r r'):FzV b cells (.fn f l r) (.fn f l' r'):=by
 refine ⟨by simp [AV.den,C6,(dK hl).1,(dK hr).1],fun _ => rfl,rfl,fun m w he h => ?_⟩
 cases h with
 | fn _ _ _ h1 h2 => exact .fn _ _ _ ((dK hl).2 m w he h1) ((dK hr).2 m w he h2)
def FzT (b:Nat) (cells:List AV):List (Nat × AV) -> List (Nat × AV) -> Prop
 | [],[] => True
 | e :: l,e' :: l' => e.1=e'.1/\FzV b cells e.2 e'.2/\FzT b cells l l'
 | _,_ => False
theorem kM {b:Nat} {cells:List AV}:∀ {l l':List (Nat × AV)},FzT b cells l l' -> ∀ t,FzV b cells (look l t) (look l' t)
 | [],[],_,t => v8
 | (k,v) :: l,(k',v') :: l',⟨h1,h2,h3⟩,t => by
  simp only at h1 h2;subst h1;simp only [o6]
  by_cases h:k=t
  .rw [if_pos h,if_pos h]; exact h2
  rw [if_neg h,if_neg h]; exact kM h3 t
theorem b4.fz {key b ty:Nat} {cells:List AV} (h:b4 ⟨m0,w0,S,ds,K⟩ ⟨nt,tm,[],(key,⟨b,ty,cells⟩) :: mem,gr⟩ a w) (hf:FzT b cells tm tm') (hn:f5 mem key=none:=by rfl) (hS:S b -> w0.heap.size<=b:=by first | exact fun h => h.elim | (rintro ⟨_,h,_⟩; cases h)):b4 ⟨m0,w0,S,ds,K⟩ ⟨nt,tm',[],mem,gr⟩ a w:=by
 have hk:f5 ((key,(⟨b,ty,cells⟩:Blk)) :: mem) key=some ⟨b,ty,cells⟩:=by simp [f5]
 have hup:∀ {k e},f5 mem k=some e -> f5 ((key,(⟨b,ty,cells⟩:Blk)) :: mem) k=some e/\k ≠ key:=fun {k e} he => by
  have hne:k ≠ key:=fun e' => by rw [e',hn] at he; cases he
  exact ⟨by rw [s3,if_neg (fun e => hne e.symm)]; exact he,hne⟩
 obtain ⟨h1,h2,h3⟩:=h.mem _ _ hk;have hb0:w0.heap.size<=b:=h3.elim id hS;have hnm:∀ o,¬ St.m ⟨nt,tm',[],mem,gr⟩ ⟨m0,w0,S,ds,K⟩ b o:=by
  intro o hm
  rcases hm with hm | ⟨k,e,he,hat⟩ | ⟨k,t,ht,hv,_⟩
  .exact Nat.lt_irrefl _ (Nat.lt_of_lt_of_le (h.m0 _ _ hm) hb0)
  .exact h.nodup _ _ _ _ (hup he).1 hk (hup he).2 hat
  exact h.sepm _ _ _ _ ht hk hv
 have hle:∀ b o,St.m ⟨nt,tm',[],mem,gr⟩ ⟨m0,w0,S,ds,K⟩ b o -> St.m ⟨nt,tm,[],(key,⟨b,ty,cells⟩) :: mem,gr⟩ ⟨m0,w0,S,ds,K⟩ b o:=by
  intro b o hm
  rcases hm with hm | ⟨k,e,he,hat⟩ | hm
  .exact .inl hm
  .rcases Classical.em (k=key) with rfl | hne
   .rw [hn] at he; cases he
   exact .inr (.inl ⟨k,e,by rw [s3,if_neg (fun e => hne e.symm)]; exact he,hat⟩)
  exact .inr (.inr hm)
 have hle':∀ b' o,St.m ⟨nt,tm',[],mem,gr⟩ ⟨m0,w0,S,ds,K⟩ b' o -> St.m ⟨nt,tm,[],(key,⟨b,ty,cells⟩) :: mem,gr⟩ ⟨m0,w0,S,ds,K⟩ b' o:=by
  intro b' o hm
  rcases hm with hm | ⟨k,e,he,hat⟩ | hm
  .exact .inl hm
  .exact .inr (.inl ⟨k,e,(hup he).1,hat⟩)
  exact .inr (.inr hm)
 have kp:R3 w (St.m ⟨nt,tm,[],(key,⟨b,ty,cells⟩) :: mem,gr⟩ ⟨m0,w0,S,ds,K⟩) w (St.m ⟨nt,tm',[],mem,gr⟩ ⟨m0,w0,S,ds,K⟩):=⟨fun b' o u g1 g2 => ⟨g1,fun hm => g2 (hle' b' o hm)⟩,fun _ _ h _ => h⟩;have hep:Ok (St.m ⟨nt,tm',[],mem,gr⟩ ⟨m0,w0,S,ds,K⟩) w (.ep (some ⟨b,0,none⟩) 0 0 0 cells):=by
  refine .ep _ _ _ _ _ ⟨_,_,rfl⟩ (fun j u hj => ⟨b,0,rfl,?_,hnm _⟩) (fun v hv => (h2 v hv).1) (fun v hv => kp.ok (h2 v hv).2);rw [cell_of_row w _ _ _ _ _ h1,List.getElem?_toArray,Nat.zero_mul,Nat.zero_add,Nat.zero_add];exact hj
 refine ⟨h.size,h.defers,fun t ht => ?_,(fun t p v he => by cases he),fun k e he => ⟨(h.mem _ _ (hup he).1).1,fun v hv => ⟨((h.mem _ _ (hup he).1).2.1 v hv).1,kp.ok ((h.mem _ _ (hup he).1).2.1 v hv).2⟩,(h.mem _ _ (hup he).1).2.2⟩,fun k k' e e' he he' hne => h.nodup _ _ _ _ (hup he).1 (hup he').1 hne,h.gr,fun k t k' e ht he => h.sepm _ _ _ _ ht (hup he).1,h.sepg,h.chg,h.m0,K.st kp h.kept⟩;have hz:=kM hf t;obtain ⟨g1,g2⟩:=h.slot t (hz.2.1 ht);exact ⟨by rw [g1]; exact congrArg some hz.1.symm,hz.2.2.2 _ _ hep (kp.ok g2)⟩
theorem b4.rekey {key key' b ty:Nat} {cells:List AV} (h:b4 ⟨m0,w0,S,ds,K⟩ ⟨nt,tm,[],(key,⟨b,ty,cells⟩) :: mem,gr⟩ a w) (hf:FzT b [] tm tm') (hn:f5 mem key=none:=by rfl) (hn':f5 mem key'=none:=by rfl):b4 ⟨m0,w0,S,ds,K⟩ ⟨nt,tm',[],(key',⟨b,ty,cells⟩) :: mem,gr⟩ a w:=by
 have hup:∀ {k e},f5 ((key',(⟨b,ty,cells⟩:Blk)) :: mem) k=some e -> ∃ k0,f5 ((key,(⟨b,ty,cells⟩:Blk)) :: mem) k0=some e/\((k=key'/\k0=key) \/ (k0=k/\k ≠ key'/\k ≠ key)):=fun {k e} he => by
  rw [s3] at he
  split at he
  .rename_i hk; injection he with he; subst he
   exact ⟨key,by simp [f5],.inl ⟨hk.symm,rfl⟩⟩
  rename_i hk
  have hne:k ≠ key:=fun e' => by rw [e',hn] at he; cases he
  exact ⟨k,by rw [s3,if_neg (fun e => hne e.symm)]; exact he,.inr ⟨rfl,fun e => hk e.symm,hne⟩⟩
 have hdn:∀ {k e},f5 ((key,(⟨b,ty,cells⟩:Blk)) :: mem) k=some e -> ∃ k0,f5 ((key',(⟨b,ty,cells⟩:Blk)) :: mem) k0=some e:=fun {k e} he => by
  rw [s3] at he
  split at he
  .injection he with he; subst he
   exact ⟨key',by simp [f5]⟩
  have hne:k ≠ key':=fun e' => by rw [e',hn'] at he; cases he
  exact ⟨k,by rw [s3,if_neg (fun e => hne e.symm)]; exact he⟩
 have em:St.m ⟨nt,tm',[],(key',⟨b,ty,cells⟩) :: mem,gr⟩ ⟨m0,w0,S,ds,K⟩=St.m ⟨nt,tm,[],(key,⟨b,ty,cells⟩) :: mem,gr⟩ ⟨m0,w0,S,ds,K⟩:=by
  funext b' o
  apply propext
  constructor
  .rintro (hm | ⟨k,e,he,hat⟩ | hm)
   .exact .inl hm
   .obtain ⟨k0,h1,_⟩:=hup he; exact .inr (.inl ⟨k0,e,h1,hat⟩)
   exact .inr (.inr hm)
  rintro (hm | ⟨k,e,he,hat⟩ | hm)
  .exact .inl hm
  .obtain ⟨k0,h1⟩:=hdn he; exact .inr (.inl ⟨k0,e,h1,hat⟩)
  exact .inr (.inr hm)
 have hnil:∀ m w,Ok m w (.ep (some ⟨b,0,none⟩) 0 0 0 ([]:List AV)):=fun m w => .ep _ _ _ _ _ ⟨_,_,rfl⟩ (fun j u hj => by simp at hj) (fun v hv => by cases hv) (fun v hv => by cases hv)
 refine ⟨h.size,h.defers,fun t ht => ?_,(fun t p v he => by cases he),fun k e he => ?_,fun k k' e e' he he' hne => ?_,h.gr,fun k t k' e ht he => ?_,h.sepg,h.chg,h.m0,?_⟩
 .have hz:=kM hf t
  obtain ⟨g1,g2⟩:=h.slot t (hz.2.1 ht);exact ⟨by rw [g1]; exact congrArg some hz.1.symm,by rw [em]; exact hz.2.2.2 _ _ (hnil _ _) g2⟩
 .obtain ⟨k0,h1,_⟩:=hup he
  rw [em]; exact h.mem _ _ h1
 .obtain ⟨k0,h1,g1⟩:=hup he
  obtain ⟨k1,h2,g2⟩:=hup he';refine h.nodup _ _ _ _ h1 h2 ?_
  rcases g1 with ⟨rfl,rfl⟩ | ⟨rfl,a1,a2⟩<;>rcases g2 with ⟨rfl,rfl⟩ | ⟨rfl,b1,b2⟩
  .exact absurd rfl hne
  .exact fun e => b2 e.symm
  .exact a2
  exact hne
 .obtain ⟨k0,h1,_⟩:=hup he
  exact h.sepm _ _ _ _ ht h1
 rw [em]; exact h.kept
theorem b4.rem {mem':List (Nat × Blk)} (h:b4 ⟨m0,w0,S,ds,K⟩ ⟨nt,tm,[],mem,gr⟩ a w) (hl:∀ k e,f5 mem' k=some e -> f5 mem k=some e):b4 ⟨m0,w0,S,ds,K⟩ ⟨nt,tm,[],mem',gr⟩ a w:=by
 have kp:R3 w (St.m ⟨nt,tm,[],mem,gr⟩ ⟨m0,w0,S,ds,K⟩) w (St.m ⟨nt,tm,[],mem',gr⟩ ⟨m0,w0,S,ds,K⟩):=⟨fun b' o u g1 g2 => ⟨g1,fun hm => by
  rcases hm with hm | ⟨k,e,he,hat⟩ | hm
  .exact g2 (.inl hm)
  .exact g2 (.inr (.inl ⟨k,e,hl k e he,hat⟩))
  exact g2 (.inr (.inr hm))⟩,fun _ _ h _ => h⟩
 exact ⟨h.size,h.defers,fun t ht => ⟨(h.slot t ht).1,kp.ok (h.slot t ht).2⟩,(fun t p v he => by cases he),fun k e he => ⟨(h.mem _ _ (hl k e he)).1,fun v hv => ⟨((h.mem _ _ (hl k e he)).2.1 v hv).1,kp.ok ((h.mem _ _ (hl k e he)).2.1 v hv).2⟩,(h.mem _ _ (hl k e he)).2.2⟩,fun k k' e e' he he' hne => h.nodup _ _ _ _ (hl _ _ he) (hl _ _ he') hne,h.gr,fun k t k' e ht he => h.sepm _ _ _ _ ht (hl _ _ he),h.sepg,h.chg,h.m0,K.st kp h.kept⟩
theorem qp (h:b4 ⟨m0,w0,S,ds,K⟩ ⟨nt,tm,[],mem,gr⟩ a w):b4 ⟨mT m0 mem gr,w,ats [],ds,noK⟩ ⟨nt,tm,[],[],[]⟩ a w:=by
 have mono:∀ v,Ok (mT m0 mem gr) w v -> Ok (St.m ⟨nt,tm,[],[],[]⟩ ⟨mT m0 mem gr,w,ats [],ds,noK⟩) w v:=fun v hv => hv.mono fun b' o u h1 h2 => ⟨h1,fun h => by
  rcases h with h | ⟨k,e,he,hat⟩ | ⟨k,e,he,_⟩
  .exact h2 h
  .cases he
  cases he⟩
 exact ⟨h.size,h.defers,fun t ht => ⟨(h.slot t ht).1,mono _ (h.slot t ht).2⟩,(fun t p v he => by cases he),(fun k e he => by cases he),(fun k k' e e' he => by cases he),(fun k t ht => by cases ht),(fun k t k' e ht => by cases ht),(fun k t k' t' b ht => by cases ht),Chg.refl _ _,fun b o hb => nB h b o hb,trivial⟩
theorem fM (h:Mem m0 w0 S K mem gr wi) (hi:b4 ⟨mT m0 mem gr,wi,ats [],ds,noK⟩ ⟨nt,tm,gs,memi,gri⟩ a w):b4 ⟨m0,w0,S,ds,K⟩ ⟨nt,tm,[],mem,gr⟩ a w:=by
 have hb:Below wi.heap.size wi w:=hi.chg.below (Nat.le_refl _) fun k ⟨e,he,_⟩ => (by cases he)
 exact fV (h.below hb) ⟨hi.size,hi.defers,fun t ht => (hi.slot t ht).1⟩ fun t ht => (hi.slot t ht).2.mono fun b o u h1 h2 => ⟨h1,fun hm => h2 (.inl hm)⟩
end
abbrev lbC (x:Lab):List AV:=[.int .i64 x.len,.int .u64 x.bits]
abbrev Ep (bR bO bV:Nat):AV:=.fn 234 [] [.ptr 902 bR 0,.ptr 901 bO 0,.ptr 900 bV 0]
abbrev oC (b bR bO bV:Nat) (J:i6) (A:Option Addr) (c:Nat) (p:Pst) (A1:Option Addr) (n1 c1:Nat) (g:Nat -> Lab):List (Nat × Blk):=[(0,⟨b,166,C0 J A c p⟩),(901,⟨bO,57,[.sl (some 77) A1 n1 c1 2 (fun i => lbC (g i))]⟩),(900,⟨bV,152,[Ep bR bO bV]⟩),(902,⟨bR,126,[.ptr 0 b 0]⟩)]
abbrev bG (A1:Option Addr) (n1 c1:Nat):List (Nat × Gr):=[(77,⟨A1,n1,c1,2,24⟩)]
def Ei (b bR bO bV:Nat) (J:i6) (A:Option Addr) (c:Nat) (p:Pst) (o:List Lab) (mem:List (Nat × Blk)) (gr:List (Nat × Gr)):Prop:=∃ A1 n1 c1 g,(List.range n1).map g=o/\mem=oC b bR bO bV J A c p A1 n1 c1 g/\gr=bG A1 n1 c1
def dh (m0:Nat -> Nat -> Prop) (w0:World) (S:Nat -> Prop) (K:Kn) (b bR bO bV:Nat) (J:i6) (r:Rs (List Lab)) (e:Ending) (w':World):Prop:=match r with
 | .ok o q => e = .returned (.tuple #[])/\∃ A c mem gr,Ei b bR bO bV J A c q o mem gr/\Mem m0 w0 S K mem gr w'
 | .stop wq q => ∃ x:f9,e = .panicked [{ v:=.iface 40 (B5 (wqA x wq)).den,recovered:=false }]/\∃ o mem gr,Ei b bR bO bV J (x.A 0) (x.c 0) q o mem gr/\Mem m0 w0 S K mem gr w'/\Ok (mT m0 mem gr) w' (B5 (wqA x wq))
theorem dh.stop {m0:Nat -> Nat -> Prop} {w0:World} {S:Nat -> Prop} {K:Kn} {b bR bO bV:Nat} {J:i6} {r:Rs (List Lab)} {wq:Wq} {q:Pst} {w':World} (hr:r = .stop wq q) (x:f9) (o:List Lab) {A1:Option Addr} {n1 c1:Nat} {g:Nat -> Lab} (hg:(List.range n1).map g=o) (hm:Mem m0 w0 S K (oC b bR bO bV J (x.A 0) (x.c 0) q A1 n1 c1 g) (bG A1 n1 c1) w') (hk:Ok (mT m0 (oC b bR bO bV J (x.A 0) (x.c 0) q A1 n1 c1 g) (bG A1 n1 c1)) w' (B5 (wqA x wq))):dh m0 w0 S K b bR bO bV J r (.panicked [{ v:=.iface 40 (B5 (wqA x wq)).den,recovered:=false }]) w':=by
 subst hr;exact ⟨x,rfl,o,_,_,⟨A1,n1,c1,g,hg,rfl,rfl⟩,hm,hk⟩
theorem dh.ok {m0:Nat -> Nat -> Prop} {w0:World} {S:Nat -> Prop} {K:Kn} {b bR bO bV:Nat} {J:i6} {r:Rs (List Lab)} {q:Pst} {w':World} {o:List Lab} (hr:r = .ok o q) {A:Option Addr} {c:Nat} {A1:Option Addr} {n1 c1:Nat} {g:Nat -> Lab} (hg:(List.range n1).map g=o) (hm:Mem m0 w0 S K (oC b bR bO bV J A c q A1 n1 c1 g) (bG A1 n1 c1) w'):dh m0 w0 S K b bR bO bV J r (.returned (.tuple #[])) w':=by
 subst hr;exact ⟨rfl,A,c,_,_,⟨A1,n1,c1,g,hg,rfl,rfl⟩,hm⟩
theorem b4.fzB {m0:Nat -> Nat -> Prop} {w0 w:World} {S:Nat -> Prop} {ds:List Deferred} {K:Kn} {nt:Nat} {tm tm':List (Nat × AV)} {mem:List (Nat × Blk)} {gr:List (Nat × Gr)} {a:Act} {key b ty b0:Nat} {cells:List AV} (h:b4 ⟨m0,w0,S,ds,K⟩ ⟨nt,tm,[],(key,⟨b,ty,cells⟩) :: mem,gr⟩ a w) (hS:∀ x,S x -> x=b0) (hf:FzT b cells tm tm') {ty0:Nat} {c0:List AV} (h0:f5 ((key,(⟨b,ty,cells⟩:Blk)) :: mem) 0=some ⟨b0,ty0,c0⟩:=by rfl) (hk:key ≠ 0:=by decide) (hn:f5 mem key=none:=by rfl):b4 ⟨m0,w0,S,ds,K⟩ ⟨nt,tm',[],mem,gr⟩ a w:=
 h.fz hf hn fun hs => absurd (hS b hs) (h.nodup key 0 ⟨b,ty,cells⟩ ⟨b0,ty0,c0⟩ (by simp [f5]) h0 hk)
theorem sF (m:Nat -> Nat -> Prop) (w:World) (q:Lab):Ok m w (b6 q):=
 .agg _ (by intro v hv; simp only [List.mem_cons,List.not_mem_nil,or_false] at hv; rcases hv with rfl | rfl<;>rfl) (by intro v hv; simp only [List.mem_cons,List.not_mem_nil,or_false] at hv; rcases hv with rfl | rfl<;>exact .int _ _)
theorem ph (g:Nat -> Lab) (n:Nat) (l:Lab):(List.range (n + 1)).map (fun t => if t=n then l else g t)=(List.range n).map g ++ [l]:=by
 rw [List.range_succ,List.map_append]
 congr 1
 .exact List.map_congr_left fun t ht => if_neg (by have:=List.mem_range.1 ht; omega)
 simp
theorem eB:j3 Tryz.prog 234:=fun _ _ => by kernel_rfl
theorem Eo {m0:Nat -> Nat -> Prop} {w0:World} {S:Nat -> Prop} {b bR bO bV:Nat} (hS:∀ x,S x -> x=b) (J:i6) (hJ:k8 J):∀ (n:Nat) (l:Lab),LOk l -> ∀ (p:Pst),i5 p -> p.n<=1000000 -> p.n < n -> ∀ (K:Kn) (w:World) (A:Option Addr) (c:Nat) (o:List Lab) (mem:List (Nat × Blk)) (gr:List (Nat × Gr)),Ei b bR bO bV J A c p o mem gr -> o.length + p.n<=2000000 -> Mem m0 w0 S K mem gr w →
  Calls Tryz.prog 234 ([b6 l,.ptr 902 bR 0,.ptr 901 bO 0,.ptr 900 bV 0].map AV.den).toArray w (dh m0 w0 S K b bR bO bV J (D6 J.bucket J.budget n l o p)):=by
 intro n
 induction n with
 | zero => intro l hl p hp hn hf; exact absurd hf (Nat.not_lt_zero _)
 | succ n ih =>
  intro l hl p hp hn hf K w A c o mem gr hO hlen hm;have hmx:maxLen=9223372036854775807:=rfl;obtain ⟨A1,n1,c1,g,hg,rfl,rfl⟩:=hO;have hn1:n1=o.length:=by rw [<-hg]; simp
  have hargs:∀ v ∈ [b6 l,.ptr 902 bR 0,.ptr 901 bO 0,.ptr 900 bV 0],Ok (mT m0 (oC b bR bO bV J A c p A1 n1 c1 g) (bG A1 n1 c1)) w v:=by
   intro v hv;simp only [List.mem_cons,List.not_mem_nil,or_false] at hv
   rcases hv with rfl | rfl | rfl | rfl
   .exact sF _ _ _
   .exact .ptr _ _ _
   .exact .ptr _ _ _
   exact .ptr _ _ _
  refine enI 70 hm hargs Tryz.func234 fun B hB a0 hF => ?_
  refine wp_seq (rg hB a6 [4,1,2,3] [4,0,901,900,902,77] [] hF fun X0 a0 w1 hF => ?_);have hF:=hF.fzB (tm':=[(4,.ep (some ⟨(X0 0).b,0,none⟩) 0 0 0 (lbC l)),(1,.ptr 902 bR 0),(2,.ptr 901 bO 0),(3,.ptr 900 bV 0)]) hS ⟨rfl,Z2,rfl,v8,rfl,v8,rfl,v8,trivial⟩;apply wp_seq
  rcases (aL 0 b J hJ A c p hp hn l).two (j1 _ _ _) hp hn with ⟨wq,q,h1,O1⟩ | ⟨g0,q,h1,hs1,hq,hnq,S1⟩
  .refine stp 2 hB a6 [9,10] [0,901,900,902,77] [] hF O1 fun X x _ _ hF hk => ?_
   exact oF (P:=Tryz.prog) (fn:=Tryz.f234) hF fun hm' => dh.stop (by unfold D6; rw [h1]; rfl) x o hg hm' hk
  have hlt:=B0 h1;have hgo:=hp.get h1;have O1:=S1;refine rg hB a6 [5,4,1,2,3] [5,0,901,900,902,77] [(2,rc J (s5 g0) q)] hF fun X1 a0 w1 hF => ?_
  have hF:=hF.fzB (tm':=[(5,.ep (some ⟨(X1 3).b,0,none⟩) 0 0 0 (R8 g0)),(4,.ep (some ⟨(X0 0).b,0,none⟩) 0 0 0 (lbC l)),(1,.ptr 902 bR 0),(2,.ptr 901 bO 0),(3,.ptr 900 bV 0)]) hS ⟨rfl,Z2,rfl,v8,rfl,v8,rfl,v8,rfl,v8,trivial⟩;have hv1:∀ {r},((fun g p => if gk g 1=true then (C7 J.budget n l p).bind fun _ p => .ok (o ++ [l]) p
   else if gk g 2=true then (if chE l 0=0 then (D6 J.bucket J.budget n (chV l 0) o p).bind fun o p => D6 J.bucket J.budget n (chV l 1) o p else .ok o p)
   else if (gk g 3 || gk g 4)=true then (Y5 J.bucket J.budget n l g p).bind fun _ p => D6 J.bucket J.budget n l o p
   else if gk g 5=true then (G4 J.bucket J.budget n l p).bind fun _ p => D6 J.bucket J.budget n l o p
   else if 0 < l.len then .ok o p
   else (T0 J.budget l g.ver eU p).bind fun _ p => D6 J.bucket J.budget n l o p):l9 -> Pst -> Rs (List Lab)) g0 q=r -> D6 J.bucket J.budget (n + 1) l o p=r:=fun h => by
   unfold D6; rw [h1]; exact h
  obtain ⟨q3,hq3⟩:=eqv (gk g0 1);have O1:=fun (G:Option Nat) (A:Option Addr) (cells:Nat -> List AV) (h0:cells 0=[.int .i64 1]) => N8 g0 G A 1 cells h0
  simp only [<-hq3] at O1;refine yL (ι:=Option Addr × Nat × Pst) (S0:=[(5,_)]) (M0:=[(0,_)]) (G0:=[]) (fun _ => []) (fun z => [(0,⟨b,166,C0 J z.1 z.2.1 z.2.2⟩)]) (fun _ => []) (fun z => D6 J.bucket J.budget (n + 1) l o p=D6 J.bucket J.budget n l o z.2.2/\i5 z.2.2/\z.2.2.n<=1000000/\z.2.2.n < n/\z.2.2.n<=p.n) hF ?_ ?_
  .refine wp_block (wp_seq ?_)
   refine rg hB a6 [18,5,4,1,2,3] [0,901,900,902,77] [(2,.r fun _ => .bool (.v q3))] hF fun X3 a0 w1 hF => ?_
   apply a7 hF rfl<;>intro hb hF
   .have t3:gk g0 1=true:=by rw [<-hq3]; exact hb
    apply wp_seq
    rcases (xV n 0 b J hJ ((X1 2).A 0) ((X1 2).c 0) q hq hnq l hl (by omega)).two (J2 _ _ _ _) hq hnq with ⟨wq,q2,h2,O1⟩ | ⟨_,q2,h2,hs2,hq2,hnq2,S2⟩
    .refine stp 2 hB a6 [22,23] [0,901,900,902,77] [] hF O1 fun X x _ _ hF hk => ?_
     exact oF (P:=Tryz.prog) (fn:=Tryz.f234) hF fun hm' => dh.stop (hv1 (by simp [t3,h2,Rs.bind])) x o hg hm' hk
    have O1:=S2;refine rg hB a6 [4,1,2,3] [901,0,900,902,77] [(2,rc J i7 q2)] hF fun X4 a0 w1 hF => ?_
    refine wp_seq (rg hB a6 [] [901,0,900,902,77] [] hF (fun X5 a0 w1 hF => ?_) (hob:=?hob))
    case hob =>
     intro X; subst hB
     repeat (first | exact trivial | refine ⟨⟨rfl,rfl,rfl⟩,?_⟩ | refine ⟨rfl,?_⟩ | refine ⟨⟨show n1 + 1<=maxLen by omega,show (n1 + 1) * _<=_ by omega⟩,?_⟩)
    have hF:=hF.memS (cells':=[.sl (some 77) ((X5 3).A 0) (n1 + 1) ((X5 3).c 0) 2 (fun t => lbC (if t=n1 then l else g t))]) (by
     subst hB;refine ⟨Sim.resl rfl (fun t ht => ?_),trivial⟩;have ht2:t < n1 + 1:=ht
     show F8 n1 (fun t => lbC (g t)) (I4 2 (lbC l)) t=_
     unfold F8
     split
     .rw [if_neg (by omega)]
     have:t=n1:=by omega
     subst this;rw [if_pos rfl];simp [I4])
    have hF:=hF.regr (n':=n1 + 1) (by subst hB; rfl);have hF:=hF.keep [] [0,901,900,902,77];exact wp_ret (de hB a6 hF (fun hm' _ => dh.ok (o:=o ++ [l]) (hv1 (by simp [t3,h2,Rs.bind])) (by rw [ph,hg]) hm')).1
   have t3:gk g0 1=false:=by rw [<-hq3]; exact hb
   obtain ⟨q6,hq6⟩:=eqv (gk g0 2);have O1:=fun (G:Option Nat) (A:Option Addr) (cells:Nat -> List AV) (h0:cells 0=[.int .i64 2]) => N8 g0 G A 2 cells h0
   simp only [<-hq6] at O1;refine wp_seq (rg hB a6 [29,5,4,1,2,3] [0,901,900,902,77] [(2,.r fun _ => .bool (.v q6))] hF fun X6 a0 w1 hF => ?_);apply a7 hF rfl<;>intro hb hF
   .have t6:gk g0 2=true:=by rw [<-hq6]; exact hb
    refine wp_seq (wp_seq (rg hB a6 [33,4,3] [0,901,900,902,77] [] hF fun X7 a0 w1 hF => ?_));refine wp_block (wp_loop_rounds 3 (C3 (wp_seq (rg hB a6 [34,33,4,3] [0,901,900,902,77] [] hF fun X8 a0 w1 hF => ?_))));replace hF:=hF.headS (v':=.bool .tt) (Sim.bool (by subst hB; rfl)) rfl;refine wp_seq (j0 hF rfl (fun hF => ?_));refine wp_skip (wp_seq (wp_block (wp_seq (rg hB a6 [6,33,4,3] [0,901,900,902,77] [] hF fun X9 a0 w1 hF => ?_))));have hx0k:=hl.ch 0;have hx1k:=hl.ch 1;have SC0:=eL l hl.u 0 (.inl rfl);have SC1:=eL l hl.u 1 (.inr rfl);obtain ⟨x0,hx0⟩:=eqv (chV l 0);rw [<-hx0] at SC0 hx0k;obtain ⟨x1,hx1⟩:=eqv (chV l 1);rw [<-hx1] at SC1 hx1k;obtain ⟨ee,hee⟩:=eqv (chE l 0);have hee1:chE l 1=ee:=by rw [hee]; unfold chE; rfl
    rw [<-hee] at SC0;rw [hee1] at SC1;simp only [b6] at SC0 SC1;have O1:=SC0;refine wp_seq (rg hB a6 [8,7,33,4,3] [7,0,901,900,902,77] [(2,.r fun _ => .tup [.agg (lbC x0),.int .i64 ee])] hF fun X10 a0 w1 hF => ?_);refine wp_seq (rg hB a6 [43,7,33,4,3] [7,0,901,900,902,77] [] hF fun X11 a0 w1 hF => ?_);apply a7 hF rfl<;>intro hb hF
    .have hce:ee=0:=by subst hB; simpa [std,a8] using hb
     have hce':chE l 0=0:=by rw [<-hee]; exact hce
     refine wp_region_lit ?_;refine lpr 0 2 hB a6 [44,45,33,4,3] [0,901,900,902,77] [] hF (fun X12 a0 w1 hF => ?_);refine fZ rfl rfl rfl rfl hF rfl rfl eB (fun t ht => by injection ht with ht; subst ht; decide) (fun hmm haa hargs => ?_);refine Calls.mono (ih x0 hx0k q hq hnq (by omega) _ _ _ _ o _ _ ⟨A1,n1,c1,g,hg,rfl,rfl⟩ (by omega) hmm) ?_
     rintro e w' hv
     cases hr:D6 J.bucket J.budget n x0 o q with
     | stop wq q2 =>
      rw [hr] at hv;obtain ⟨x,rfl,o2,mem',gr',⟨A3,n3,c3,g3,hg3,rfl,rfl⟩,hm2,hk2⟩:=hv;exact .inr ⟨_,rfl,_,_,_,hm2,fun hF => oF (P:=Tryz.prog) (fn:=Tryz.f234) hF fun hm' => dh.stop (hv1 (by simp [t3,t6,hce',<-hx0,hr,Rs.bind])) x o2 hg3 hm' hk2⟩
     | ok o2 q2 =>
      rw [hr] at hv;obtain ⟨rfl,A2,c2,mem',gr',⟨A3,n3,c3,g3,hg3,rfl,rfl⟩,hm2⟩:=hv;have hs2:=(U3 _ _ _ _ _ _).of hr;have hq2:=hq.suf hs2;have hle2:=hs2.le;have hln2:=Z7 hr;refine .inl ⟨.tup [],rfl,_,_,_,.tup _ (fun u hu => by cases hu),hm2,fun a' hF => ?_⟩;refine lnd 3 hB a6 [33,4,3] [0,901,900,902,77] [] hF fun X13 a0 w1 hF => ?_
      refine rg hB a6 [33,4,3] [0,901,900,902,77] [] hF fun X14 a0 w1 hF => ?_
      replace hF:=hF.headS (v':=.int .i64 1) (by subst hB; exact zr) rfl;refine i4 (wp_seq (rg hB a6 [34,33,4,3] [0,901,900,902,77] [] hF fun X8 a0 w1 hF => ?_));replace hF:=hF.headS (v':=.bool .tt) (Sim.bool (by subst hB; rfl)) rfl;refine wp_seq (j0 hF rfl (fun hF => ?_));refine wp_skip (wp_seq (wp_block (wp_seq (rg hB a6 [6,33,4,3] [0,901,900,902,77] [] hF fun X9 a0 w1 hF => ?_))));have O1:=SC1;refine wp_seq (rg hB a6 [8,7,33,4,3] [7,0,901,900,902,77] [(2,.r fun _ => .tup [.agg (lbC x1),.int .i64 ee])] hF fun X10 a0 w1 hF => ?_);refine wp_seq (rg hB a6 [43,7,33,4,3] [7,0,901,900,902,77] [] hF fun X11 a0 w1 hF => ?_);apply a7 hF rfl<;>intro hb hF
      .refine wp_region_lit ?_
       refine lpr 0 2 hB a6 [44,45,33,4,3] [0,901,900,902,77] [] hF (fun X12 a0 w1 hF => ?_);refine fZ rfl rfl rfl rfl hF rfl rfl eB (fun t ht => by injection ht with ht; subst ht; decide) (fun hmm haa hargs => ?_);refine Calls.mono (ih x1 hx1k q2 hq2 (by omega) (by omega) _ _ _ _ o2 _ _ ⟨A3,n3,c3,g3,hg3,rfl,rfl⟩ (by omega) hmm) ?_
       rintro e w' hv
       cases hr4:D6 J.bucket J.budget n x1 o2 q2 with
       | stop wq q4 =>
        rw [hr4] at hv;obtain ⟨x,rfl,o4,mem',gr',⟨A5,n5,c5,g5,hg5,rfl,rfl⟩,hm4,hk4⟩:=hv;exact .inr ⟨_,rfl,_,_,_,hm4,fun hF => oF (P:=Tryz.prog) (fn:=Tryz.f234) hF fun hm' => dh.stop (hv1 (by simp [t3,t6,hce',<-hx0,<-hx1,hr,hr4,Rs.bind])) x o4 hg5 hm' hk4⟩
       | ok o4 q4 =>
        rw [hr4] at hv;obtain ⟨rfl,A4,c4,mem',gr',⟨A5,n5,c5,g5,hg5,rfl,rfl⟩,hm4⟩:=hv;refine .inl ⟨.tup [],rfl,_,_,_,.tup _ (fun u hu => by cases hu),hm4,fun a' hF => ?_⟩;refine lnd 3 hB a6 [33,4,3] [0,901,900,902,77] [] hF fun X13 a0 w1 hF => ?_
        refine rg hB a6 [33,4,3] [0,901,900,902,77] [] hF fun X14 a0 w1 hF => ?_
        replace hF:=hF.headS (v':=.int .i64 2) (by subst hB; exact zr) rfl;refine i4 (wp_seq (rg hB a6 [34,33,4,3] [0,901,900,902,77] [] hF fun X8 a0 w1 hF => ?_));replace hF:=hF.headS (v':=.bool .ff) (Sim.bool (by subst hB; rfl)) rfl;refine wp_seq (i9 hF rfl (fun hF => ?_));refine wp_exit ?_;have hF:=hF.keep [] [0,901,900,902,77];exact wp_ret (de hB a6 hF (fun hm' _ => dh.ok (hv1 (by simp [t3,t6,hce',<-hx0,<-hx1,hr,hr4,Rs.bind])) hg5 hm')).1
      exfalso
      subst hB; simp [std,a8,hce] at hb
    have hce:¬ ee=0:=by subst hB; simpa [std,a8] using hb
    have hce':¬ chE l 0=0:=by rw [<-hee]; exact hce
    refine wp_skip ?_;refine rg hB a6 [33,4,3] [0,901,900,902,77] [] hF fun X14 a0 w1 hF => ?_
    replace hF:=hF.headS (v':=.int .i64 1) (by subst hB; exact zr) rfl;refine i4 (wp_seq (rg hB a6 [34,33,4,3] [0,901,900,902,77] [] hF fun X8 a0 w1 hF => ?_));replace hF:=hF.headS (v':=.bool .tt) (Sim.bool (by subst hB; rfl)) rfl;refine wp_seq (j0 hF rfl (fun hF => ?_));refine wp_skip (wp_seq (wp_block (wp_seq (rg hB a6 [6,33,4,3] [0,901,900,902,77] [] hF fun X9 a0 w1 hF => ?_))));have O1:=SC1;refine wp_seq (rg hB a6 [8,7,33,4,3] [7,0,901,900,902,77] [(2,.r fun _ => .tup [.agg (lbC x1),.int .i64 ee])] hF fun X10 a0 w1 hF => ?_);refine wp_seq (rg hB a6 [43,7,33,4,3] [7,0,901,900,902,77] [] hF fun X11 a0 w1 hF => ?_);apply a7 hF rfl<;>intro hb hF
    .exfalso
     subst hB; simp [std,a8,hce] at hb
    refine wp_skip ?_;refine rg hB a6 [33,4,3] [0,901,900,902,77] [] hF fun X14 a0 w1 hF => ?_
    replace hF:=hF.headS (v':=.int .i64 2) (by subst hB; exact zr) rfl;refine i4 (wp_seq (rg hB a6 [34,33,4,3] [0,901,900,902,77] [] hF fun X8 a0 w1 hF => ?_));replace hF:=hF.headS (v':=.bool .ff) (Sim.bool (by subst hB; rfl)) rfl;refine wp_seq (i9 hF rfl (fun hF => ?_));refine wp_exit ?_;have hF:=hF.keep [] [0,901,900,902,77];exact wp_ret (de hB a6 hF (fun hm' _ => dh.ok (hv1 (by simp [t3,t6,hce'])) hg hm')).1
   have t6:gk g0 2=false:=by rw [<-hq6]; exact hb
   obtain ⟨qc,hqc⟩:=eqv (gk g0 3 || gk g0 4);have O1:=fun (G:Option Nat) (A:Option Addr) (cells:Nat -> List AV) (h0:cells 0=[.int .i64 3]) (h1:cells 1=[.int .i64 4]) => dH g0 G A 3 4 cells h0 h1
   simp only [<-hqc] at O1;refine wp_seq (rg hB a6 [48,5,4,1,2,3] [0,901,900,902,77] [(2,.r fun _ => .bool (.v qc))] hF (fun X7 a0 w1 hF => ?_) (hob:=by intro X; subst hB; simp only [b5,Ob.holds,BE.den]<;>and_intros<;>repeat first | trivial | rfl | exact O1 _ _ _ rfl rfl | exact (fun _ _ => by kernel_rfl) | refine ⟨?_,?_⟩ | intro h));apply a7 hF rfl<;>intro hb hF
   .have tc:(gk g0 3 || gk g0 4)=true:=by rw [<-hqc]; exact hb
    rcases (FC n 0 b J hJ ((X1 2).A 0) ((X1 2).c 0) q hq hnq l hl g0 hgo (by omega)).two (bw _ _ _ _ _ _) hq hnq with ⟨wq,q2,h2,O1⟩ | ⟨_,q2,h2,hs2,hq2,hnq2,S2⟩
    .refine stp 3 hB a6 [52,53,54] [0,901,900,902,77] [] hF O1 fun X x _ _ hF hk => ?_
     exact oF (P:=Tryz.prog) (fn:=Tryz.f234) hF fun hm' => dh.stop (hv1 (by simp [t3,t6,tc,h2,Rs.bind])) x o hg hm' hk
    have O1:=S2;refine rg hB a6 [4,1,2,3] [0,901,900,902,77] [(3,rc J i7 q2)] hF fun X8 a0 w1 hF => ?_
    have hle2:=hs2.le;exact ⟨(_,_,q2),⟨hv1 (by simp [t3,t6,tc,h2,Rs.bind]),hq2,hnq2,by dsimp only; omega,by dsimp only; omega⟩,hF⟩
   have tc:(gk g0 3 || gk g0 4)=false:=by rw [<-hqc]; exact hb
   obtain ⟨qd,hqd⟩:=eqv (gk g0 5);have O1:=fun (G:Option Nat) (A:Option Addr) (cells:Nat -> List AV) (h0:cells 0=[.int .i64 5]) => N8 g0 G A 5 cells h0
   simp only [<-hqd] at O1;refine wp_seq (rg hB a6 [56,5,4,1,2,3] [0,901,900,902,77] [(2,.r fun _ => .bool (.v qd))] hF fun X8 a0 w1 hF => ?_);apply a7 hF rfl<;>intro hb hF
   .have td:gk g0 5=true:=by rw [<-hqd]; exact hb
    rcases (EQ n 0 b J hJ ((X1 2).A 0) ((X1 2).c 0) q hq hnq l hl (by omega)).two (F5 _ _ _ _ _) hq hnq with ⟨wq,q2,h2,O1⟩ | ⟨_,q2,h2,hs2,hq2,hnq2,S2⟩
    .refine stp 2 hB a6 [60,61] [0,901,900,902,77] [] hF O1 fun X x _ _ hF hk => ?_
     exact oF (P:=Tryz.prog) (fn:=Tryz.f234) hF fun hm' => dh.stop (hv1 (by simp [t3,t6,tc,td,h2,Rs.bind])) x o hg hm' hk
    have O1:=S2;refine rg hB a6 [4,1,2,3] [0,901,900,902,77] [(2,rc J i7 q2)] hF fun X9 a0 w1 hF => ?_
    have hle2:=hs2.le;exact ⟨(_,_,q2),⟨hv1 (by simp [t3,t6,tc,td,h2,Rs.bind]),hq2,hnq2,by dsimp only; omega,by dsimp only; omega⟩,hF⟩
   have td:gk g0 5=false:=by rw [<-hqd]; exact hb
   refine wp_seq (rg hB a6 [63,5,4,1,2,3] [0,901,900,902,77] [] hF fun X9 a0 w1 hF => ?_);apply a7 hF rfl<;>intro hb hF
   .have te:0 < l.len:=by subst hB; simpa [std,a8] using hb
    have hF:=hF.keep [] [0,901,900,902,77];exact wp_ret (de hB a6 hF (fun hm' _ => dh.ok (hv1 (by simp [t3,t6,tc,td,te])) hg hm')).1
   have te:¬ 0 < l.len:=by subst hB; simpa [std,a8] using hb
   rcases (DX 0 b J hJ ((X1 2).A 0) ((X1 2).c 0) q hq hnq l g0.ver).two (l3 _ _ _ _ _) hq hnq with ⟨wq,q2,h2,O1⟩ | ⟨d2,q2,h2,hs2,hq2,hnq2,S2⟩
   .have O2:=wW
    refine iZ 5 hB a6 [12,13,15,16] [0,901,900,902,77] [(4,.r fun _ => po)] hF O1 fun X x _ _ hF hk => ?_
    exact oF (P:=Tryz.prog) (fn:=Tryz.f234) hF fun hm' => dh.stop (hv1 (by simp [t3,t6,tc,td,te,h2,Rs.bind])) x o hg hm' hk
   have O1:=wW;have O2:=S2;refine drg hB a6 [4,1,2,3] [0,901,900,902,77] [(4,.r fun _ => po),(5,rc J (.bool (.v d2)) q2)] hF fun X10 a0 w1 hF => ?_
   have hle2:=hs2.le;exact ⟨(_,_,q2),⟨hv1 (by simp [t3,t6,tc,td,te,h2,Rs.bind]),hq2,hnq2,by dsimp only; omega,by dsimp only; omega⟩,hF⟩
  rintro ⟨A7,c7,q7⟩ ⟨e7,hq7,hnq7,hlt7,hle7⟩ a0 w1 hF
  dsimp only at e7 hq7 hnq7 hlt7 hle7;refine wp_region_lit ?_;refine lpr 0 2 hB a6 [67,68] [0,901,900,902,77] [] hF (fun X19 a0 w1 hF => ?_);refine fZ rfl rfl rfl rfl hF rfl rfl eB (fun t ht => by injection ht with ht; subst ht; decide) (fun hmm haa hargs => ?_);refine Calls.mono (ih l hl q7 hq7 hnq7 hlt7 _ _ _ _ o _ _ ⟨A1,n1,c1,g,hg,rfl,rfl⟩ (by omega) hmm) ?_
  rintro e w' hv
  cases hr:D6 J.bucket J.budget n l o q7 with
  | stop wq q2 =>
   rw [hr] at hv;obtain ⟨x,rfl,o2,mem',gr',⟨A3,n3,c3,g3,hg3,rfl,rfl⟩,hm2,hk2⟩:=hv;exact .inr ⟨_,rfl,_,_,_,hm2,fun hF => oF (P:=Tryz.prog) (fn:=Tryz.f234) hF fun hm' => dh.stop (e7.trans hr) x o2 hg3 hm' hk2⟩
  | ok o2 q2 =>
   rw [hr] at hv;obtain ⟨rfl,A2,c2,mem',gr',⟨A3,n3,c3,g3,hg3,rfl,rfl⟩,hm2⟩:=hv;refine .inl ⟨.tup [],rfl,_,_,_,.tup _ (fun u hu => by cases hu),hm2,fun a' hF => wpList_nil ?_⟩;have hF:=hF.keep [] [0,901,900,902,77];exact (de hB a6 hF (fun hm' _ => dh.ok (e7.trans hr) hg3 hm')).2
abbrev lE (o:List Lab) (i:Nat):Lab:=o.getD i cU
theorem nF {g:Nat -> Lab} {n:Nat} {o:List Lab} (h:(List.range n).map g=o):∀ i,i < n -> g i=lE o i:=fun i hi => by
 subst h;simp [List.getD,hi]
abbrev EX (x:f9) (o:List Lab):AV:=.sl none (x.A 1) o.length (x.c 1) 2 (fun i => lbC (lE o i))
def Gx (J:i6) (r:Rs (List Lab)) (x:f9):fE:=match r with
 | .ok o q => .ret ⟨EX x o,[(0,C0 J (x.A 0) (x.c 0) q)],[]⟩
 | .stop wq q => .thr 40 (B5 (wqA x wq)) [(0,C0 J (x.A 0) (x.c 0) q)]
theorem rtt {P:Program} {T:List (Nat × TI)} {s:St} {a:Act} {w:World} {Kk:Kn} {m:Nat -> Nat -> Prop} {w0:World} {pre:List (Nat × Blk)} {fn:Func} {out:f9 -> fE} {rs:List ResultVar} {r:List AV × List Ob} {B:Alg} {v:AV} {sets:List (Nat × List AV)} (hB:B=std) (hT:j9 P T) (h:b4 ⟨m,w0,ats pre,[],Kk⟩ s a w) (x:f9) (hout:out x = .ret ⟨v,sets,[]⟩) (hfn:fn.results=rs.toArray:=by rfl) (hr:P8 T s rs=some r:=by first | rfl | (conv => lhs; cbv)) (ho:b5 P Kk r.2:=by first | exact trivial | (subst hB; simp [b5,Ob.holds])) (he:Sim (can (I6 r.1)) (can v):=by subst hB; exact zr) (hs:z6 s pre sets:=by subst hB; exact ⟨rfl,⟨_,rfl,zl⟩,trivial⟩) :
  bodyPost P fn (cX m w0 pre out) .ret a w/\bodyPost P fn (cX m w0 pre out) .normal a w:=By hT h hfn hr ho x hout [] he hs trivial
theorem EV (b:Nat) (J:i6) (hJ:k8 J) (A:Option Addr) (c:Nat) (p:Pst) (hp:i5 p) (hn:p.n<=1000000):M5 Tryz.prog 161 [.ptr 0 b 0] [(0,⟨b,166,C0 J A c p⟩)] (fun x => Gx J (D6 J.bucket J.budget (p.n + 1) cU [] p) x):=by
 intro m w hm hargs hpre;have hS:∀ x,ats [(0,(⟨b,166,C0 J A c p⟩:Blk))] x -> x=b:=by
  rintro x ⟨e,he,h1⟩
  simp only [List.mem_singleton] at he;subst he;exact h1.symm
 refine enX 10 hm hpre hargs Tryz.func161 fun B hB a0 hF => ?_
 refine wp_seq (rg hB a6 [1] [1,0] [] hF fun X0 a0 w1 hF => ?_);refine wp_seq (rg hB a6 [3,1] [3,1,0] [] hF fun X1 a0 w1 hF => ?_);refine wp_seq (rg hB a6 [4,3,1] [4,3,1,0] [] hF fun X2 a0 w1 hF => ?_);refine wp_seq (rg hB a6 [4,3,1] [4,3,1,0] [] hF fun X3 a0 w1 hF => ?_);have hF:=hF.rekey (key':=900) (tm':=[(4,.ptr 900 (X2 0).b 0),(3,.ptr 3 (X1 0).b 0),(1,.ptr 1 (X0 0).b 0)]) ⟨rfl,qS,rfl,v8,rfl,v8,trivial⟩;have hF:=hF.memS (cells':=[Ep (X0 0).b (X1 0).b (X2 0).b]) ⟨Sim.fn trivial ⟨Sim.ptr,Sim.ptr,Sim.ptr,trivial⟩,trivial⟩;have hF:=hF.keep [4,3,1] [3,900,1,0];have hF:=hF.rekey (key':=901) (tm':=[(4,.ptr 900 (X2 0).b 0),(3,.ptr 901 (X1 0).b 0),(1,.ptr 1 (X0 0).b 0)]) ⟨rfl,v8,rfl,qS,rfl,v8,trivial⟩;have hF:=hF.keep [4,3,1] [1,901,900,0];have hF:=hF.rekey (key':=902) (tm':=[(4,.ptr 900 (X2 0).b 0),(3,.ptr 901 (X1 0).b 0),(1,.ptr 902 (X0 0).b 0)]) ⟨rfl,v8,rfl,v8,rfl,qS,trivial⟩;have hF:=hF.keep [4,3] [901,900,902,0];have hF:=hF.fresh (Below.refl _ _) 77 (t:=⟨none,0,0,2,24⟩) (by decide) (Own.nil _ _ _ _ none);have hF:=b4.memS (cells':=[.sl (some 77) none 0 0 2 (fun i => lbC ((fun _ => cU) i))]) hF ⟨zq0,trivial⟩;have hF:=hF.keep [4,3] [0,901,900,902,77];refine wp_seq (wp_region_lit ?_);refine lpr 0 2 hB a6 [6,7,3] [0,901,900,902,77] [] hF (fun X4 a0 w1 hF => ?_);refine fZ rfl rfl rfl rfl hF rfl rfl eB (fun t ht => by injection ht with ht; subst ht; decide) (fun hmm haa hargs => ?_);refine Calls.mono (Eo hS J hJ (p.n + 1) cU kv p hp hn (Nat.lt_succ_self _) _ _ _ _ [] _ _ ⟨none,0,0,fun _ => cU,rfl,rfl,rfl⟩ (by simp; omega) hmm) ?_
 rintro e w' hv
 cases hr:D6 J.bucket J.budget (p.n + 1) cU [] p with
 | stop wq q2 =>
  rw [hr] at hv;obtain ⟨x,rfl,o2,mem',gr',⟨A3,n3,c3,g3,hg3,rfl,rfl⟩,hm2,hk2⟩:=hv;exact .inr ⟨_,rfl,_,_,_,hm2,fun hF => rO (P:=Tryz.prog) (fn:=Tryz.f161) hF hk2 x rfl (zr) ⟨rfl,⟨_,rfl,zl⟩,trivial⟩⟩
 | ok o2 q2 =>
  rw [hr] at hv;obtain ⟨rfl,A2,c2,mem',gr',⟨A3,n3,c3,g3,hg3,rfl,rfl⟩,hm2⟩:=hv;have hg4:=nF hg3;have hn3:n3=o2.length:=by rw [<-hg3]; simp
  refine .inl ⟨.tup [],rfl,_,_,_,.tup _ (fun u hu => by cases hu),hm2,fun a' hF => ?_⟩;refine lnd 3 hB a6 [3] [0,901,77] [] hF fun X5 a0 w1 hF => ?_
  refine wp_seq (rg hB a6 [2] [0,77] [] hF fun X6 a0 w1 hF => ?_);refine wp_ret (rtt hB a6 hF ⟨0,fun i => if i=0 then A2 else A3,fun i => if i=0 then c2 else c3,fun _ => .empty⟩ rfl (he:=?_)).1;subst hB;exact Sim.resl hn3 (fun t ht => by show lbC (g3 t)=lbC (lE o2 t); rw [hg4 t (by omega)])
theorem xc {n:Nat} {f:Nat -> Itm} {nx:Lab} {mk:Int} (h:L5 1 n f nx mk=true):mk=0:=by
 unfold L5 lC M3 at h;simp at h;exact h.2.1
theorem sV {o:List Lab} {i:Nat} (hi:i < o.length):o.drop i=lE o i :: o.drop (i + 1):=by
 rw [List.drop_eq_getElem_cons hi];simp [List.getD,hi]
theorem zw (b:Nat) (J:i6) (hJ:k8 J) (A:Option Addr) (c:Nat) (p:Pst) (hp:i5 p) (hn:p.n<=1000000):B7 99 0 b J A c p [] yQ (Y1 J.bucket J.budget p):=by
 intro m w hm hargs hpre;have hmx:maxLen=9223372036854775807:=rfl;refine enX 59 hm hpre hargs Tryz.func99 fun B hB a0 hF => ?_
 refine wp_seq (rg hB a6 [2,0] [0,2] [] hF fun X0 a0 w1 hF => ?_);apply wp_seq;have SR:=EV b J hJ A c p hp hn
 cases hr:D6 J.bucket J.budget (p.n + 1) cU [] p with
 | stop wq q =>
  have O1:M5 Tryz.prog 161 [.ptr 0 b 0] [(0,⟨b,166,C0 J A c p⟩)] (fun x => .thr 40 (B5 (wqA x wq)) [(0,C0 J (x.A 0) (x.c 0) q)]):=by rw [hr] at SR; exact SR
  refine stp 1 hB a6 [7] [0] [] hF O1 fun _ _ _ _ hF hk => ?_
  exact thm (P:=Tryz.prog) (fn:=Tryz.f99) (q:=q) hF hk (by simp [Y1,hr,Rs.bind])
 | ok o q =>
  have hs:=(U3 _ _ _ _ _ _).of hr;have hq:=hp.suf hs;have hnq:q.n<=1000000:=Nat.le_trans hs.le hn;have hlo:=Z7 hr;simp only [List.length_nil,Nat.zero_add] at hlo;have O1:u2 Tryz.prog 161 [.ptr 0 b 0] [(0,⟨b,166,C0 J A c p⟩)] (fun x => ⟨EX x o,[(0,C0 J (x.A 0) (x.c 0) q)],[]⟩):=by rw [hr] at SR; exact SR.x fun _ => rfl
  have hdr:=fun {i} (hi:i < o.length) => sV hi
  obtain ⟨on,hon⟩:=eqv o.length;obtain ⟨of,hof⟩:=eqv (lE o);have O1:u2 Tryz.prog 161 [.ptr 0 b 0] [(0,⟨b,166,C0 J A c p⟩)] (fun x => ⟨.sl none (x.A 1) on (x.c 1) 2 (fun i => lbC (of i)),[(0,C0 J (x.A 0) (x.c 0) q)],[]⟩):=by rw [hon,hof]; exact O1
  rw [<-hon] at hlo;simp only [<-hon] at hdr;have hof':∀ i,lE o i=of i:=fun i => by rw [hof]
  refine rg hB a6 [3,2,0] [0,2] [(1,.x fun x => ⟨.sl none (x.A 1) on (x.c 1) 2 (fun i => lbC (of i)),[(0,C0 J (x.A 0) (x.c 0) q)],[]⟩)] hF fun X1 a0 w1 hF => ?_
  refine wp_seq (wp_seq (rg hB a6 [11,10,3,2,0] [0,2] [] hF fun X2 a0 w1 hF => ?_));refine wp_block (l0 (ι:=Nat × Pst × Option Addr × Nat) (fun z => [(11,.int .i64 (z.1:Int))]) (fun z => [(0,⟨b,166,C0 J z.2.2.1 z.2.2.2 z.2.1⟩)]) (fun z => []) (fun z => z.1<=on/\Y1 J.bucket J.budget p=(aU J.budget (o.drop z.1) z.2.1).bind (fun _ p => .ok ⟨0,false,⟨#[]⟩,[],(on:Int),false⟩ p)/\i5 z.2.1/\z.2.1.n<=1000000) (fun z => on - z.1) (0,q,_,_) ⟨Nat.zero_le _,by simp [Y1,hr,Rs.bind,hon],hq,hnq⟩ hF ?_)
  rintro ⟨i,p1,A1,c1⟩ ⟨hi,hrun,hp1,hn1⟩ a0 w1 hF
  dsimp only at hi hrun hp1 hn1;refine wp_seq (rg hB a6 [12,11,10,3,2,0] [0,2] [] hF fun X3 a0 w1 hF => ?_);refine wp_seq (a7 hF rfl (fun hb hF => ?_) (fun hb hF => ?_))
  .have hin:i < on:=by
    have:(i:Int) < (on:Int):=by subst hB; simpa [std,a8] using hb
    omega
   have e:B.arith .add .i64 (i:Int) 1=((i + 1:Nat):Int):=by subst hB; exact j2 (n:=on) hin (by omega)
   have hd:=hdr hin;rw [hof'] at hd;refine wp_skip (wp_seq (wp_block (wp_seq (rg hB a6 [4,11,10,3,2,0] [0,2] [] hF fun X4 a0 w1 hF => ?_))));have O1:=gZ;obtain ⟨nl,hnl⟩:=eqv B2;rw [<-hnl] at O1;refine wp_seq (rg hB a6 [5,4,11,10,3,2,0] [5,0,2] [(0,.r fun _ => .agg (lbC nl))] hF fun X5 a0 w1 hF => ?_);obtain ⟨nx,hnx⟩:=eqv ((o.drop (i + 1)).headD B2);refine wp_seq (wp_seq (rg hB a6 [19,5,4,11,10,3,2,0] [5,0,2] [] hF fun X6 a0 w1 hF => ?_));refine eH (ι:=Unit) (S0:=[(19,_)]) (M0:=[(5,_)]) (G0:=[]) (fun _ => []) (fun _ => [(5,⟨(X5 1).b,24,lbC nx⟩)]) (fun _ => []) (fun _ => True) hF ?_ ?_
   .apply a7 hF rfl<;>intro hb hF
    .have hin2:i + 1 < on:=by
      have hb2:B.cmp .lss (B.arith .add .i64 (i:Int) 1) (B.ofNat on)=true:=hb;rw [e] at hb2;have:((i + 1:Nat):Int) < (on:Int):=by subst hB; simpa [std,a8] using hb2
      omega
     have e0:(0:Int)<=B.arith .add .i64 (i:Int) 1/\B.arith .add .i64 (i:Int) 1 < (on:Int):=by rw [e]; omega
     have e1:=e0.1;have e2:=e0.2;refine rg hB a6 [4,11,10,3,2,0,5] [5,0,2] [] hF (fun X7 a0 w1 hF => ?_) (hob:=by intro X; subst hB; simp only [b5,Ob.holds,BE.den]<;>and_intros<;>repeat first | trivial | rfl | exact e1 | exact e2 | refine ⟨?_,?_⟩ | intro h);have e3:of (B.toNat (B.arith .add .i64 (i:Int) 1))=nx:=by
      have hd2:=hdr hin2;rw [hnx,hd2,e];subst hB
      show of (i + 1)=lE o (i + 1)
      rw [hof']
     have hF:=hF.memS (cells':=lbC nx) (by rw [<-e3]; subst hB; exact zl);have hF:=hF.keep [5,4,11,10,3,2,0] [5,0,2];exact ⟨(),trivial,hF⟩
    have hout2:i + 1=on:=by
     have hb2:B.cmp .lss (B.arith .add .i64 (i:Int) 1) (B.ofNat on)=false:=hb;rw [e] at hb2;have:¬ ((i + 1:Nat):Int) < (on:Int):=by subst hB; simpa [std,a8] using hb2
     omega
    have e3:nx=nl:=by rw [hnx,List.drop_eq_nil_of_le (by omega),hnl]; rfl
    refine wp_skip ⟨(),trivial,?_⟩;rw [e3];exact hF
   rintro ⟨⟩ _ a0 w1 hF
   apply wp_seq
   rcases (aL 0 b J hJ A1 c1 p1 hp1 hn1 (of i)).two (j1 _ _ _) hp1 hn1 with ⟨wq,q2,h2,O1⟩ | ⟨g,q2,h2,hs2,hq2,hnq2,S2⟩
   .refine stp 5 hB a6 [25,29] [0] [] hF O1 (fun _ _ _ _ hF hk => ?_) (hob:=by intro X; subst hB; simp only [b5,Ob.holds,BE.den]<;>and_intros<;>repeat first | trivial | rfl | exact O1 | exact O2 | exact (show (0:Int)<=(i:Int) by omega) | exact (show (i:Int) < (on:Int) by omega) | exact (fun _ _ => by kernel_rfl) | refine ⟨?_,?_⟩ | intro h)
    exact thm (P:=Tryz.prog) (fn:=Tryz.f99) (q:=q2) hF hk (by rw [hrun,hd]; simp [aU,Rs.bind,h2])
   have hgr:=hp1.getR h2;have O1:=S2;refine rg hB a6 [6,5,4,11,10,3,2,0] [6,5,0,2] [(5,rc J (s5 g) q2)] hF (fun X8 a0 w1 hF => ?_) (hob:=by intro X; subst hB; simp only [b5,Ob.holds,BE.den]<;>and_intros<;>repeat first | trivial | rfl | exact O1 | exact O2 | exact (show (0:Int)<=(i:Int) by omega) | exact (show (i:Int) < (on:Int) by omega) | exact (fun _ _ => by kernel_rfl) | refine ⟨?_,?_⟩ | intro h)
   obtain ⟨q9,hq9⟩:=eqv (gk g 1);have O1:=fun (G:Option Nat) (A:Option Addr) (cells:Nat -> List AV) (h0:cells 0=[.int .i64 1]) => N8 g G A 1 cells h0
   simp only [<-hq9] at O1;refine wp_seq (rg hB a6 [40,6,5,4,11,10,3,2,0] [6,5,0,2] [(2,.r fun _ => .bool (.v q9))] hF (fun X9 a0 w1 hF => ?_) (hob:=by intro X; subst hB; simp only [b5,Ob.holds,BE.den]<;>and_intros<;>repeat first | trivial | rfl | exact f8 (Kk:=noK) _ _ _ _ | exact O1 _ _ _ rfl | exact (fun _ _ => by kernel_rfl) | refine ⟨?_,?_⟩ | intro h));have hE:eqL [.int .i64 g.x.r.nx.len,.int .u64 g.x.r.nx.bits] [.int .i64 nx.len,.int .u64 nx.bits]=decide (g.x.r.nx=nx):=bC _ _;apply a7 hF rfl<;>intro hb hF
   .have t9:gk g 1=true/\g.x.r.nx ≠ nx:=by
     have h9:(if q9=true then !(eqL [.int .i64 g.x.r.nx.len,.int .u64 g.x.r.nx.bits] [.int .i64 nx.len,.int .u64 nx.bits]) else false)=true:=by subst hB; exact hb
     rw [hE] at h9;rw [<-hq9]
     revert h9
     cases q9<;>simp
    have hk1:=(xk t9.1).2;have hmk:g.x.r.mrk=0:=xc (hk1 ▸ hgr.rf (xk t9.1).1);refine wp_seq (rg hB a6 [6,4,11,10,3,2,0] [6,0,2] [] hF fun X10 a0 w1 hF => ?_);have hab:(⟨g.x.A,g.x.c,⟨g.x.r.n,g.x.r.f,g.x.r.kd,nx,g.x.r.mrk⟩⟩:RA).r.abs=wR g.x nx:=by
     unfold RN.abs wR;simp only [hk1,hmk]
    have hcm:=eW 0 b J hJ ((X8 5).A 0) ((X8 5).c 0) q2 hq2 hnq2 (of i) g.ver ⟨g.x.A,g.x.c,⟨g.x.r.n,g.x.r.f,g.x.r.kd,nx,g.x.r.mrk⟩⟩;rw [hab] at hcm
    rcases hcm.two (l3 _ _ _ _ _) hq2 hnq2 with ⟨wq,q3,h3,O1⟩ | ⟨d3,q3,h3,hs3,hq3,hnq3,S3⟩
    .refine iZ 9 hB a6 [44,48,50,52] [0] [] hF O1 (fun _ _ _ _ hF hk => ?_) (hob:=by intro X; subst hB; simp only [b5,Ob.holds,BE.den]<;>and_intros<;>repeat first | trivial | rfl | exact O1 | exact O2 | exact (show (0:Int)<=(i:Int) by omega) | exact (show (i:Int) < (on:Int) by omega) | exact (fun _ _ => by kernel_rfl) | refine ⟨?_,?_⟩ | intro h)
     exact thm (P:=Tryz.prog) (fn:=Tryz.f99) (q:=q3) hF hk (by rw [hrun,hd]; simp only [aU,Rs.bind,h2,<-hnx]; rw [if_pos t9]; simp only [h3])
    have O1:=S3;refine drg hB a6 [11,10,3,2,0] [0,2] [(9,rc J (.bool (.v d3)) q3)] hF (fun X11 a0 w1 hF => ?_) (hob:=by intro X; subst hB; simp only [b5,Ob.holds,BE.den]<;>and_intros<;>repeat first | trivial | rfl | exact O1 | exact O2 | exact (show (0:Int)<=(i:Int) by omega) | exact (show (i:Int) < (on:Int) by omega) | exact (fun _ _ => by kernel_rfl) | refine ⟨?_,?_⟩ | intro h)
    refine rg hB a6 [11,10,3,2,0] [0,2] [] hF fun X12 a0 w1 hF => ?_
    exact ⟨(i + 1,q3,_,_),⟨by simp only; omega,by rw [hrun,hd]; simp only [aU,Rs.bind,h2,<-hnx]; rw [if_pos t9]; simp only [h3],hq3,hnq3⟩,by simp only; omega,by rw [<-e]; exact hF⟩
   have t9:¬ (gk g 1=true/\g.x.r.nx ≠ nx):=by
    have h9:(if q9=true then !(eqL [.int .i64 g.x.r.nx.len,.int .u64 g.x.r.nx.bits] [.int .i64 nx.len,.int .u64 nx.bits]) else false)=false:=by subst hB; exact hb
    rw [hE] at h9;rw [<-hq9]
    revert h9
    cases q9<;>simp
   refine wp_skip (rg hB a6 [11,10,3,2,0] [0,2] [] hF fun X12 a0 w1 hF => ?_);exact ⟨(i + 1,q2,_,_),⟨by simp only; omega,by rw [hrun,hd]; simp only [aU,Rs.bind,h2,<-hnx,if_neg t9],hq2,hnq2⟩,by simp only; omega,by rw [<-e]; exact hF⟩
  have hout:i=on:=by
   have:¬ (i:Int) < (on:Int):=by subst hB; simpa [std,a8] using hb
   omega
  rw [hout,List.drop_eq_nil_of_le (by omega)] at hrun;refine wp_exit ?_;refine wp_seq (rg hB a6 [2] [0,2] [] hF fun X13 a0 w1 hF => ?_);exact wp_ret ((rmm hB a6 hF (v:=(⟨0,false,⟨#[]⟩,[],(on:Int),false⟩:Rsl)) (q:=p1) A1 c1 (by rw [hrun]; rfl) (he:=by
   subst hB;have ew:IntKind.u64.wrap (on:Int)=(on:Int):=by
    rw [IntKind.wrap_u64];omega
   exact Sim.agg ⟨zr,zr,zr,zr,(show Sim (.int .u64 (IntKind.u64.wrap (on:Int))) (.int .u64 (on:Int)) from by rw [ew]; exact zr),zr,trivial⟩)).1)
structure s6 where
 A:Option Addr
 n:Nat
 c:Nat
 f:Nat -> l9
structure Rel (E:s6) (N:Nat) (p:Pst):Prop where
 n:p.n + N=E.n
 g:∀ j,p.g j=E.f (N + j)
theorem Rel.suf {E:s6} {N:Nat} {p q:Pst} (h:Rel E N p) (hs:Suf p q):Rel E (E.n - q.n) q:=by
 obtain ⟨d,h1,h2⟩:=hs;have h3:=h.n;refine ⟨by omega,fun j => ?_⟩;rw [h2,h.g]
 congr 1
 omega
abbrev C9 (J:i6) (E:s6) (N:Nat) (t:Nt):List AV:=[.int .i64 J.kind,.int .i64 J.lab.len,.int .u64 J.lab.bits,.int .u64 J.key,.int .u64 J.hi,.str J.val,.int .i64 J.most,.sl none J.pA J.pn J.pc 1 (fun i => [.int .i64 (J.pf i)]),.int .u32 J.x1,.int .u32 J.x2,.int .u32 J.y1,.int .u32 J.y2,.int .i64 J.how,.int .i64 J.bucket,.int .i64 J.budget,
 .sl none E.A E.n E.c 8 (fun j => R8 (E.f j)),.int .i64 (N:Int),.bool .ff,
 .int .i64 0,.int .i64 0,.int .u64 0,.int .u64 0,.int .i64 0,.sl none none 0 0 2 (fun _ => []),.int .i64 0,.int .u64 0,.int .u64 0,.int .i64 0,.bool .ff,.str ⟨#[]⟩,.sl none none 0 0 2 (fun _ => []),.int .u64 0,.bool .ff,
 .int .i64 t.code,.bool (.v t.had),.str t.val,.sl none none 0 0 2 (fun _ => []),.int .u64 0,.bool .ff]
abbrev z7 (J:i6) (E:s6) (N:Nat) (w:u0) (t:Nt):List AV:=[.int .i64 J.kind,.int .i64 J.lab.len,.int .u64 J.lab.bits,.int .u64 J.key,.int .u64 J.hi,.str J.val,.int .i64 J.most,.sl none J.pA J.pn J.pc 1 (fun i => [.int .i64 (J.pf i)]),.int .u32 J.x1,.int .u32 J.x2,.int .u32 J.y1,.int .u32 J.y2,.int .i64 J.how,.int .i64 J.bucket,.int .i64 J.budget,
 .sl none E.A E.n E.c 8 (fun j => R8 (E.f j)),.int .i64 (N:Int),.bool .tt,
 .int .i64 w.kind,.int .i64 w.lab.len,.int .u64 w.lab.bits,.int .u64 w.ver,.int .i64 w.x.r.kd,.sl none w.x.A w.x.r.n w.x.c 2 (fun i => itC (w.x.r.f i)),.int .i64 w.x.r.nx.len,.int .u64 w.x.r.nx.bits,.int .u64 w.x.r.mrk,.int .i64 w.s.code,.bool (.v w.s.had),.str w.s.val,.sl none w.s.A w.s.n w.s.c 2 (fun i => itC (w.s.f i)),.int .u64 w.s.key,.bool (.v w.s.more),
 .int .i64 t.code,.bool (.v t.had),.str t.val,.sl none none 0 0 2 (fun _ => []),.int .u64 0,.bool .ff]
abbrev BO (b:Bool) (J:i6) (E:s6) (N:Nat) (w:u0) (t:Nt):List AV:=[.int .i64 J.kind,.int .i64 J.lab.len,.int .u64 J.lab.bits,.int .u64 J.key,.int .u64 J.hi,.str J.val,.int .i64 J.most,.sl none J.pA J.pn J.pc 1 (fun i => [.int .i64 (J.pf i)]),.int .u32 J.x1,.int .u32 J.x2,.int .u32 J.y1,.int .u32 J.y2,.int .i64 J.how,.int .i64 J.bucket,.int .i64 J.budget,
 .sl none E.A E.n E.c 8 (fun j => R8 (E.f j)),.int .i64 (N:Int),.bool (.v b),
 .int .i64 w.kind,.int .i64 w.lab.len,.int .u64 w.lab.bits,.int .u64 w.ver,.int .i64 w.x.r.kd,.sl none w.x.A w.x.r.n w.x.c 2 (fun i => itC (w.x.r.f i)),.int .i64 w.x.r.nx.len,.int .u64 w.x.r.nx.bits,.int .u64 w.x.r.mrk,.int .i64 w.s.code,.bool (.v w.s.had),.str w.s.val,.sl none w.s.A w.s.n w.s.c 2 (fun i => itC (w.s.f i)),.int .u64 w.s.key,.bool (.v w.s.more),
 .int .i64 t.code,.bool (.v t.had),.str t.val,.sl none none 0 0 2 (fun _ => []),.int .u64 0,.bool .ff]
theorem cp {b:Bool} (h:b=true) (J:i6) (E:s6) (N:Nat) (w:u0) (t:Nt):D9 (z7 J E N w t) (BO b J E N w t):=by
 subst h;exact ⟨zr,zr,zr,zr,zr,zr,zr,zr,zr,zr,zr,zr,zr,zr,zr,zr,zr,Sim.bool rfl,zr,zr,zr,zr,zr,zr,zr,zr,zr,zr,zr,zr,zr,zr,zr,zr,zr,zr,zr,zr,zr,trivial⟩
theorem ct {b:Bool} (h:b=true) (J:i6) (E:s6) (N:Nat) (w:u0) (t:Nt):D9 (BO b J E N w t) (z7 J E N w t):=by
 subst h;exact ⟨zr,zr,zr,zr,zr,zr,zr,zr,zr,zr,zr,zr,zr,zr,zr,zr,zr,Sim.bool rfl,zr,zr,zr,zr,zr,zr,zr,zr,zr,zr,zr,zr,zr,zr,zr,zr,zr,zr,zr,zr,zr,trivial⟩
def lh {α : Type} (k0:Nat) (J:i6) (E:s6) (enc:α -> AV) (dfl:AV) (r:Rs α) (x:f9):CR:=match r with
 | .ok a p => ⟨enc a,[(k0,C9 J E (E.n - p.n) p.note)],[]⟩
 | .stop w p => ⟨dfl,[(k0,z7 J E (E.n - p.n) (wqA x w) p.note)],[]⟩
def D5 {α : Type} (f:FuncId) (k0 b:Nat) (J:i6) (E:s6) (N:Nat) (p:Pst) (args:List AV) (enc:α -> AV) (dfl:AV) (r:Rs α):Prop:=
 u2 Tryz.prog f (.ptr k0 b 0 :: args) [(k0,⟨b,174,C9 J E N p.note⟩)] (fun x => lh k0 J E enc dfl r x)
theorem D5.ok {α : Type} {f:FuncId} {k0 b:Nat} {J:i6} {E:s6} {N M:Nat} {p q:Pst} {args:List AV} {enc:α -> AV} {dfl:AV} {r:Rs α} {a:α} (h:D5 f k0 b J E N p args enc dfl r) (e:r = .ok a q) (hM:M=E.n - q.n) :
  u2 Tryz.prog f (.ptr k0 b 0 :: args) [(k0,⟨b,174,C9 J E N p.note⟩)] (fun x => ⟨enc a,[(k0,C9 J E M q.note)],[]⟩):=by
 subst e; subst hM;exact h
theorem D5.stop {α : Type} {f:FuncId} {k0 b:Nat} {J:i6} {E:s6} {N M:Nat} {p q:Pst} {args:List AV} {enc:α -> AV} {dfl:AV} {r:Rs α} {w:Wq} (h:D5 f k0 b J E N p args enc dfl r) (e:r = .stop w q) (hM:M=E.n - q.n)
  {rr:RN} {nn:Nat} {ff:Nat -> Itm} (h1:rr=w.r.rn) (h2:nn=w.res.items.length) (h3:ff=itF w.res.items) :
  u2 Tryz.prog f (.ptr k0 b 0 :: args) [(k0,⟨b,174,C9 J E N p.note⟩)] (fun x => ⟨dfl,[(k0,z7 J E M ⟨w.kind,w.lab,w.ver,⟨x.A 1,x.c 1,rr⟩,⟨w.res.code,w.res.had,w.res.val,x.A 2,nn,x.c 2,ff,w.res.key,w.res.more⟩⟩ q.note)],[]⟩):=by
 subst e; subst hM; subst h1; subst h2; subst h3;exact h
theorem D5.re {α : Type} {f:FuncId} {k0 b:Nat} {J:i6} {E:s6} {N:Nat} {p:Pst} {args args':List AV} {enc:α -> AV} {dfl:AV} {r:Rs α} (h:D5 f 0 b J E N p args enc dfl r) (ha:D9 args' args):D5 f k0 b J E N p args' enc dfl r:=
 u2.re h ⟨Sim.ptr,ha⟩ rfl fun x => by
  cases r with
  | ok a p => exact ⟨rfl,rfl,zr,rfl⟩
  | stop w p => exact ⟨rfl,rfl,zr,rfl⟩
def K6 (f:FuncId) (k0 b:Nat) (J:i6) (E:s6) (N:Nat) (q:u0) (t:Nt) (args:List AV) (dfl:AV):Prop:=
 u2 Tryz.prog f (.ptr k0 b 0 :: args) [(k0,⟨b,174,z7 J E N q t⟩)] (fun _ => ⟨dfl,[(k0,z7 J E N q t)],[]⟩)
theorem K6.re {f:FuncId} {k0 b:Nat} {J:i6} {E:s6} {N:Nat} {q:u0} {t:Nt} {args args':List AV} {dfl:AV} (h:K6 f 0 b J E N q t args dfl) (ha:D9 args' args):K6 f k0 b J E N q t args' dfl:=
 u2.re h ⟨Sim.ptr,ha⟩ rfl fun x => ⟨rfl,rfl,zr,rfl⟩
section
variable {P:Program} {T:List (Nat × TI)} {s:St} {a:Act} {w:World} {α : Type} {Kk:Kn} {m:Nat -> Nat -> Prop} {w0:World} {b k0 ty:Nat} {cs:List AV} {fn:Func} {enc:α -> AV} {dfl:AV} {J:i6} {E:s6} {r:Rs α}
theorem Cw (hT:j9 P T) (h:b4 ⟨m,w0,ats [(k0,⟨b,ty,cs⟩)],[],Kk⟩ s a w) {rs:List ResultVar} (hfn:fn.results=rs.toArray) {rr:List AV × List Ob} (hrr:P8 T s rs=some rr) (ho:b5 P Kk rr.2)
  {v:α} {q:Pst} {M:Nat} (hr:r = .ok v q) (hM:M=E.n - q.n) (he:Sim (can (I6 rr.1)) (can (enc v))) (hs:z6 s [(k0,⟨b,ty,cs⟩)] [(k0,C9 J E M q.note)]) :
  bodyPost P fn (U6 m w0 [(k0,⟨b,ty,cs⟩)] (fun x => lh k0 J E enc dfl r x)) .ret a w/\bodyPost P fn (U6 m w0 [(k0,⟨b,ty,cs⟩)] (fun x => lh k0 J E enc dfl r x)) .normal a w:=by
 subst hr; subst hM;exact rU (res:=fun x => lh k0 J E enc dfl (.ok v q) x) hT h hfn hrr ho ⟨0,fun _ => none,fun _ => 0,fun _ => .empty⟩ [] he hs trivial
theorem Cu (hT:j9 P T) (h:b4 ⟨m,w0,ats [(k0,⟨b,ty,cs⟩)],[],Kk⟩ s a w) {rs:List ResultVar} (hfn:fn.results=rs.toArray) {rr:List AV × List Ob} (hrr:P8 T s rs=some rr) (ho:b5 P Kk rr.2)
  {q:Pst} {wq:Wq} {Q:u0} {M:Nat} (x:f9) (hr:r = .stop wq q) (hM:M=E.n - q.n) (hq:Q=wqA x wq) (he:Sim (can (I6 rr.1)) (can dfl)) (hs:z6 s [(k0,⟨b,ty,cs⟩)] [(k0,z7 J E M Q q.note)]) :
  bodyPost P fn (U6 m w0 [(k0,⟨b,ty,cs⟩)] (fun x => lh k0 J E enc dfl r x)) .ret a w/\bodyPost P fn (U6 m w0 [(k0,⟨b,ty,cs⟩)] (fun x => lh k0 J E enc dfl r x)) .normal a w:=by
 subst hr; subst hM; subst hq;exact rU (res:=fun x => lh k0 J E enc dfl (.stop wq q) x) hT h hfn hrr ho x [] he hs trivial
theorem vU (hT:j9 P T) (h:b4 ⟨m,w0,ats [(k0,⟨b,ty,cs⟩)],[],Kk⟩ s a w) {rs:List ResultVar} (hfn:fn.results=rs.toArray) {rr:List AV × List Ob} (hrr:P8 T s rs=some rr) (ho:b5 P Kk rr.2)
  {sets:List (Nat × List AV)} (he:Sim (can (I6 rr.1)) (can dfl)) (hs:z6 s [(k0,⟨b,ty,cs⟩)] sets) :
  bodyPost P fn (U6 m w0 [(k0,⟨b,ty,cs⟩)] (fun _ => ⟨dfl,sets,[]⟩)) .ret a w/\bodyPost P fn (U6 m w0 [(k0,⟨b,ty,cs⟩)] (fun _ => ⟨dfl,sets,[]⟩)) .normal a w:=
 rU (res:=fun _ => ⟨dfl,sets,[]⟩) hT h hfn hrr ho ⟨0,fun _ => none,fun _ => 0,fun _ => .empty⟩ [] he hs trivial
end
abbrev T4:AV:=.agg [.int .i64 0,.int .u64 0,.bool .ff,.int .i64 0,.sl none none 0 0 2 (fun _ => []),.int .i64 0,.int .u64 0,.int .u64 0]
theorem zb {J:i6} {E:s6} {N:Nat} {p:Pst} (h:Rel E N p):((p.n:Int) + (J.budget - E.n)<=0 ↔ J.budget<=(N:Int))/\(0 < p.n ↔ N < E.n):=by
 have:=h.n;omega
inductive LSt where
 | go (n:Nat) (p:Pst) (N:Nat)
 | dn (p:Pst) (N:Nat)
 | sp (N:Nat) (Q:u0) (t:Nt)
abbrev lsC (J:i6) (E:s6):LSt -> List AV
 | .go _ p N => C9 J E N p.note
 | .dn p N => C9 J E N p.note
 | .sp N Q t => z7 J E N Q t
abbrev lsB:LSt -> BE
 | .dn .. => .tt
 | _ => .ff
def lsM:LSt -> Nat
 | .go n _ _ => n + 1
 | _ => 0
abbrev Co (x:lI):AV:=.agg [.int .i64 x.code,.bool (.v x.had),.str x.val,.sl none x.A x.n x.c 2 (fun i => itC (x.f i)),.int .u64 x.key,.bool (.v x.more)]
section
variable {P:Program} {T:List (Nat × TI)} {s:St} {a:Act} {w:World} {α : Type} {Kk:Kn} {m:Nat -> Nat -> Prop} {w0:World} {b k0 ty:Nat} {cs:List AV} {fn:Func} {enc:α -> AV} {dfl:AV} {J:i6} {E:s6} {r:Rs α} {rs:List ResultVar} {rr:List AV × List Ob} {B:Alg}
theorem D5.two {f:FuncId} {N:Nat} {p:Pst} {args:List AV} (h:D5 f k0 b J E N p args enc dfl r) (hf:Fro p r) (hp:i5 p) (hn:p.n<=1000000) (hR:Rel E N p) :
  (∃ v q M,r = .ok v q/\Suf p q/\i5 q/\q.n<=1000000/\Rel E M q/\M=E.n - q.n/\u2 Tryz.prog f (.ptr k0 b 0 :: args) [(k0,⟨b,174,C9 J E N p.note⟩)] (fun _ => ⟨enc v,[(k0,C9 J E M q.note)],[]⟩)) ∨
  ∃ wq q M,∃ W:f9 -> u0,r = .stop wq q/\Suf p q/\M=E.n - q.n/\(∀ x,W x=wqA x wq)/\u2 Tryz.prog f (.ptr k0 b 0 :: args) [(k0,⟨b,174,C9 J E N p.note⟩)] (fun x => ⟨dfl,[(k0,z7 J E M (W x) q.note)],[]⟩):=by
 cases hr:r with
 | ok v q => have hs:=hf.of hr; exact .inl ⟨v,q,_,rfl,hs,hp.suf hs,Nat.le_trans hs.le hn,hR.suf hs,rfl,h.ok hr rfl⟩
 | stop wq q => exact .inr ⟨wq,q,_,fun x => wqA x wq,rfl,hf.ofs hr,rfl,fun _ => rfl,h.stop hr rfl rfl rfl rfl⟩
abbrev lc (J:i6) (E:s6) (v:AV) (N:Nat) (p:Pst):CS:=.x fun _ => ⟨v,[(0,C9 J E N p.note)],[]⟩
abbrev sc (J:i6) (E:s6) (v:AV) (N:Nat) (W:f9 -> u0) (t:Nt):CS:=.x fun x => ⟨v,[(0,z7 J E N (W x) t)],[]⟩
abbrev dc (J:i6) (E:s6) (v:AV) (N:Nat) (W:u0) (t:Nt):CS:=.x fun _ => ⟨v,[(0,z7 J E N W t)],[]⟩
theorem rgo (hB:B=std) (hT:j9 P T) (h:b4 ⟨m,w0,ats [(k0,⟨b,ty,cs⟩)],[],Kk⟩ s a w) {v:α} {q:Pst} {M:Nat} (hr0:r = .ok v q) (hM:M=E.n - q.n) (hfn:fn.results=rs.toArray:=by rfl) (hr:P8 T s rs=some rr:=by first | rfl | (conv => lhs; cbv)) (ho:b5 P Kk rr.2:=by first | exact trivial | (subst hB; simp [b5,Ob.holds])) (he:Sim (can (I6 rr.1)) (can (enc v)):=by subst hB; exact zr) (hs:z6 s [(k0,⟨b,ty,cs⟩)] [(k0,C9 J E M q.note)]:=by subst hB; exact ⟨rfl,⟨_,rfl,zl⟩,trivial⟩) :
  bodyPost P fn (U6 m w0 [(k0,⟨b,ty,cs⟩)] (fun x => lh k0 J E enc dfl r x)) .ret a w/\bodyPost P fn (U6 m w0 [(k0,⟨b,ty,cs⟩)] (fun x => lh k0 J E enc dfl r x)) .normal a w:=Cw hT h hfn hr ho hr0 hM he hs
theorem rst (hB:B=std) (hT:j9 P T) (h:b4 ⟨m,w0,ats [(k0,⟨b,ty,cs⟩)],[],Kk⟩ s a w) {q:Pst} {wq:Wq} {Q:u0} {M:Nat} (x:f9) (hr0:r = .stop wq q) (hM:M=E.n - q.n) (hq:Q=wqA x wq) (hfn:fn.results=rs.toArray:=by rfl) (hr:P8 T s rs=some rr:=by first | rfl | (conv => lhs; cbv)) (ho:b5 P Kk rr.2:=by first | exact trivial | (subst hB; simp [b5,Ob.holds])) (he:Sim (can (I6 rr.1)) (can dfl):=by subst hB; exact zr) (hs:z6 s [(k0,⟨b,ty,cs⟩)] [(k0,z7 J E M Q q.note)]:=by subst hB; exact ⟨rfl,⟨_,rfl,zl⟩,trivial⟩) :
  bodyPost P fn (U6 m w0 [(k0,⟨b,ty,cs⟩)] (fun x => lh k0 J E enc dfl r x)) .ret a w/\bodyPost P fn (U6 m w0 [(k0,⟨b,ty,cs⟩)] (fun x => lh k0 J E enc dfl r x)) .normal a w:=Cu hT h hfn hr ho x hr0 hM hq he hs
theorem rdd (hB:B=std) (hT:j9 P T) (h:b4 ⟨m,w0,ats [(k0,⟨b,ty,cs⟩)],[],Kk⟩ s a w) {sets:List (Nat × List AV)} (hfn:fn.results=rs.toArray:=by rfl) (hr:P8 T s rs=some rr:=by first | rfl | (conv => lhs; cbv)) (ho:b5 P Kk rr.2:=by first | exact trivial | (subst hB; simp [b5,Ob.holds])) (he:Sim (can (I6 rr.1)) (can dfl):=by subst hB; exact zr) (hs:z6 s [(k0,⟨b,ty,cs⟩)] sets:=by subst hB; exact ⟨rfl,⟨_,rfl,zl⟩,trivial⟩) :
  bodyPost P fn (U6 m w0 [(k0,⟨b,ty,cs⟩)] (fun _ => ⟨dfl,sets,[]⟩)) .ret a w/\bodyPost P fn (U6 m w0 [(k0,⟨b,ty,cs⟩)] (fun _ => ⟨dfl,sets,[]⟩)) .normal a w:=vU hT h hfn hr ho he hs
end
theorem zf (b:Nat) (J:i6) (E:s6) (hE:E.n<=1000000) (N:Nat) (q:u0) (t:Nt) (x:lI):u2 Tryz.prog 59 [.ptr 0 b 0,Co x] [(0,⟨b,174,C9 J E N t⟩)] (fun _ => ⟨i7,[(0,z7 J E N ⟨4,⟨0,0⟩,0,zRA,x⟩ t)],[]⟩):=by
 intro m w hm hargs hpre;refine enX 17 hm hpre hargs Tryz.func59 fun B hB a0 hF => ?_
 refine wp_seq (rg hB a6 [0,3] [0,3] [] hF fun X0 a0 w1 hF => ?_);refine wp_seq (rg hB a6 [8,0,3] [0,3] [] hF fun X1 a0 w1 hF => ?_);refine j0 hF rfl (fun hF => ?_);refine wp_seq (rg hB a6 [0,3] [0,3] [] hF fun X2 a0 w1 hF => ?_);refine rg hB a6 [] [0] [] hF fun X3 a0 w1 hF => ?_
 refine (rx hB a6 hF f4 [] (hs:=?_)).2;subst hB; exact ⟨rfl,⟨_,rfl,⟨zr,zr,zr,zr,zr,zr,zr,zr,zr,zr,zr,zr,zr,zr,zr,zr,zr,zr,zr,zr,zr,zr,zr,zq0,zr,zr,zr,zr,zr,zr,zr,zr,zr,zr,zr,zr,zr,zr,zr,trivial⟩⟩,trivial⟩
theorem wl (k0 b:Nat) (J:i6) (E:s6) (hE:E.n<=1000000) (N:Nat) (q:u0) (t:Nt) (x:lI):u2 Tryz.prog 59 [.ptr k0 b 0,Co x] [(k0,⟨b,174,C9 J E N t⟩)] (fun _ => ⟨i7,[(k0,z7 J E N ⟨4,⟨0,0⟩,0,zRA,x⟩ t)],[]⟩):=
 u2.re (zf b J E hE N q t x) ⟨Sim.ptr,zr,trivial⟩ rfl fun x => ⟨rfl,rfl,zr,rfl⟩
theorem rZ (b:Nat) (J:i6) (E:s6) (hE:E.n<=1000000) (N:Nat) (q:u0) (t:Nt) (x:lI):K6 59 0 b J E N q t [Co x] (i7):=by
 intro m w hm hargs hpre;refine enX 17 hm hpre hargs Tryz.func59 fun B hB a0 hF => ?_
 refine wp_seq (rg hB a6 [0,3] [0,3] [] hF fun X0 a0 w1 hF => ?_);refine wp_seq (rg hB a6 [8,0,3] [0,3] [] hF fun X1 a0 w1 hF => ?_);refine i9 hF rfl (fun hF => ?_);exact wp_skip ((rdd hB a6 hF).2)
theorem AC (b:Nat) (J:i6) (hJ:k8 J) (E:s6) (hE:E.n<=1000000) (N:Nat) (p:Pst) (hR:Rel E N p) (hp:i5 p) (hn:p.n<=1000000) (q:u0):D5 198 0 b J E N p [B5 q] (s5) (T4) (U5 (J.budget - E.n) q.absQ p):=by
 intro m w hm hargs hpre;have hN0:N=E.n - p.n:=by have:=hR.n; omega
 obtain ⟨ha,hbu,_,_,_⟩:=hJ;have hmx:maxLen=9223372036854775807:=rfl;obtain ⟨hq1,hq2⟩:=zb (J:=J) hR;have hrn:=hR.n;have e1:IntKind.i64.wrap ((N:Int) + 1)=((N + 1:Nat):Int):=by rw [r8 (by omega) (by omega)]; omega
 have e2:IntKind.i64.wrap (((N + 1:Nat):Int) - 1)=(N:Int):=by rw [r8 (by omega) (by omega)]; omega
 refine enX 64 hm hpre hargs Tryz.func198 fun B hB a0 hF => ?_
 refine wp_seq (rg hB a6 [0,3,4] [0,3,4] [] hF fun X0 a0 w1 hF => ?_);refine wp_seq (wp_seq (rg hB a6 [8,0,3,4] [0,3,4] [] hF fun X1 a0 w1 hF => ?_));refine i9 hF rfl (fun hF => ?_);refine wp_skip (wp_seq (wp_seq (drg hB a6 [19,0,3,4] [0,3,4] [] hF fun X3 a0 w1 hF => ?_)));apply a7 hF rfl<;>intro hb hF
 .have ho:J.budget<=(N:Int):=by subst hB; simpa [std,a8] using hb
  have SO:u2 Tryz.prog 59 [.ptr 0 b 0,.agg [.int .i64 p.note.code,.bool (.v p.note.had),.str p.note.val,.sl none none 0 0 2 (fun _ => []),.int .u64 0,.bool .ff]] [(0,⟨b,174,C9 J E N p.note⟩)] (fun _ => ⟨i7,[(0,z7 J E N ⟨4,⟨0,0⟩,0,zRA,⟨p.note.code,p.note.had,p.note.val,none,0,0,fun _ => r7,0,false⟩⟩ p.note)],[]⟩):=u2.re (wl 0 b J E hE N q p.note ⟨p.note.code,p.note.had,p.note.val,none,0,0,fun _ => r7,0,false⟩) ⟨zr,Sim.agg ⟨zr,zr,zr,zq0,zr,Sim.ff,trivial⟩,trivial⟩ rfl fun x => ⟨rfl,rfl,zr,rfl⟩
  have O1:=SO;refine wp_seq (rg hB a6 [4] [0,4] [(5,.x fun _ => ⟨i7,[(0,z7 J E N ⟨4,⟨0,0⟩,0,zRA,⟨p.note.code,p.note.had,p.note.val,none,0,0,fun _ => r7,0,false⟩⟩ p.note)],[]⟩)] hF fun X4 a0 w1 hF => ?_);refine wp_seq (rg hB a6 [4] [0,4] [] hF fun X5 a0 w1 hF => ?_);refine wp_ret ((rst hB a6 hF (q:=p) (wq:=(BD p)) ⟨0,fun _ => none,fun _ => 0,fun _ => .empty⟩ (by unfold U5; rw [if_neg (by omega),if_pos (hq1.2 ho)]) hN0 rfl (hs:=?_)).1);subst hB; exact ⟨rfl,⟨_,rfl,⟨zr,zr,zr,zr,zr,zr,zr,zr,zr,zr,zr,zr,zr,zr,zr,zr,zr,zr,zr,zr,zr,zr,zr,zq0,zr,zr,zr,zr,zr,zr,zq0,zr,zr,zr,zr,zr,zr,zr,zr,trivial⟩⟩,trivial⟩
 have ho:¬ J.budget<=(N:Int):=by subst hB; simpa [std,a8] using hb
 refine wp_skip (wp_seq (wp_seq (drg hB a6 [36,0,3,4] [0,3,4] [] hF fun X6 a0 w1 hF => ?_)));apply a7 hF rfl<;>intro hb hF
 .have hl:¬ 0 < p.n:=by
   have:(N:Int) ≥ (E.n:Int):=by subst hB; simpa [std,a8] using hb
   omega
  refine wp_seq (rg hB a6 [0,3,4] [0,3,4] [] hF fun X7 a0 w1 hF => ?_);refine wp_seq (rg hB a6 [4] [0,4] [] hF fun X8 a0 w1 hF => ?_);refine wp_seq (rg hB a6 [4] [0,4] [] hF fun X9 a0 w1 hF => ?_);refine wp_ret ((rst hB a6 hF (q:=p) (wq:=q.absQ) ⟨0,fun i => if i=1 then q.x.A else q.s.A,fun i => if i=1 then q.x.c else q.s.c,fun _ => .empty⟩ (by unfold U5; rw [if_neg (by omega),if_neg (fun h => ho (hq1.1 h))]) hN0 rfl (hs:=?_)).1);subst hB; exact ⟨rfl,⟨_,rfl,⟨zr,zr,zr,zr,zr,zr,zr,zr,zr,zr,zr,zr,zr,zr,zr,zr,zr,zr,zr,zr,zr,zr,zr,jo _ _ _ _,zr,zr,zr,zr,zr,zr,jo _ _ _ _,zr,zr,zr,zr,zr,zr,zr,zr,trivial⟩⟩,trivial⟩
 have hl:0 < p.n:=by
  have:¬ (N:Int) ≥ (E.n:Int):=by subst hB; simpa [std,a8] using hb
  omega
 refine wp_skip (wp_seq (rg hB a6 [0,4] [0,4] [] hF fun X10 a0 w1 hF => ?_));apply wp_seq;refine drg hB a6 [4] [0,4] [] hF (hob:=by intro X; subst hB; simp only [b5,Ob.holds,BE.den]<;>and_intros<;>repeat first | trivial | rfl | exact ⟨(show (0:Int)<=IntKind.i64.wrap (IntKind.i64.wrap ((N:Int) + 1) - 1) by rw [e1,e2]; omega),(show IntKind.i64.wrap (IntKind.i64.wrap ((N:Int) + 1) - 1) < (E.n:Int) by rw [e1,e2]; omega)⟩ | exact (show (0:Int)<=IntKind.i64.wrap (IntKind.i64.wrap ((N:Int) + 1) - 1) by rw [e1,e2]; omega) | exact (show IntKind.i64.wrap (IntKind.i64.wrap ((N:Int) + 1) - 1) < (E.n:Int) by rw [e1,e2]; omega) | exact (fun _ _ => by kernel_rfl) | refine ⟨?_,?_⟩ | intro h | exact Int.le_refl _ | decide | omega) fun X11 a0 w1 hF => ?_
 refine wp_ret ((rgo hB a6 hF (v:=(p.g 0)) (q:=p.tl) (by unfold U5; rw [if_pos (by omega)]) (by show N + 1=E.n - (p.n - 1); omega) (he:=?_) (hs:=?_)).1)
 .subst hB
  rw [hR.g 0]
  show Sim (.agg (R8 (E.f (IntKind.i64.wrap (IntKind.i64.wrap ((N:Int) + 1) - 1)).toNat))) (s5 (E.f (N + 0)))
  rw [e1,e2];exact zr
 subst hB;refine ⟨rfl,⟨_,rfl,⟨zr,zr,zr,zr,zr,zr,zr,zr,zr,zr,zr,zr,zr,zr,zr,zr,?_,zr,zr,zr,zr,zr,zr,zr,zr,zr,zr,zr,zr,zr,zr,zr,zr,zr,zr,zr,zr,zr,zr,trivial⟩⟩,trivial⟩
 show Sim (.int .i64 (IntKind.i64.wrap ((N:Int) + 1))) _
 rw [e1]; exact zr
theorem rq (k0 b:Nat) (J:i6) (hJ:k8 J) (E:s6) (hE:E.n<=1000000) (N:Nat) (p:Pst) (hR:Rel E N p) (hp:i5 p) (hn:p.n<=1000000) (q:u0):D5 198 k0 b J E N p [B5 q] (s5) (T4) (U5 (J.budget - E.n) q.absQ p):=D5.re (AC b J hJ E hE N p hR hp hn q) (by repeat (first | exact trivial | refine ⟨zr,?_⟩))
theorem AD (b:Nat) (J:i6) (E:s6) (hE:E.n<=1000000) (N:Nat) (q:u0) (t:Nt) (r:u0):K6 198 0 b J E N q t [B5 r] (T4):=by
 intro m w hm hargs hpre;refine enX 64 hm hpre hargs Tryz.func198 fun B hB a0 hF => ?_
 refine wp_seq (rg hB a6 [0,3,4] [0,3,4] [] hF fun X0 a0 w1 hF => ?_);refine wp_seq (wp_seq (rg hB a6 [8,0,3,4] [0,3,4] [] hF fun X1 a0 w1 hF => ?_));refine j0 hF rfl (fun hF => ?_);refine wp_seq (rg hB a6 [4] [0,4] [] hF fun X2 a0 w1 hF => ?_);exact wp_ret ((rdd hB a6 hF).1)
theorem xL (k0 b:Nat) (J:i6) (E:s6) (hE:E.n<=1000000) (N:Nat) (q:u0) (t:Nt) (r:u0):K6 198 k0 b J E N q t [B5 r] (T4):=K6.re (AD b J E hE N q t r) (by repeat (first | exact trivial | refine ⟨zr,?_⟩))
theorem Aw (k0 b:Nat) (J:i6) (hJ:k8 J) (E:s6) (hE:E.n<=1000000) (N:Nat) (p:Pst) (hR:Rel E N p) (hp:i5 p) (hn:p.n<=1000000) (l:Lab):D5 198 k0 b J E N p [.agg [.int .i64 1,.int .i64 l.len,.int .u64 l.bits,.int .u64 0,.int .i64 0,.sl none none 0 0 2 (fun _ => []),.int .i64 0,.int .u64 0,.int .u64 0,.int .i64 0,.bool .ff,.str ⟨#[]⟩,.sl none none 0 0 2 (fun _ => []),.int .u64 0,.bool .ff]] s5 T4 (R1 (J.budget - E.n) l p):=
 D5.re (rq 0 b J hJ E hE N p hR hp hn ⟨1,l,0,zRA,jz⟩) ⟨Sim.agg ⟨zr,zr,zr,zr,zr,zq0,zr,zr,zr,zr,Sim.ff,zr,zq0,zr,Sim.ff,trivial⟩,trivial⟩
theorem Ax (k0 b:Nat) (J:i6) (E:s6) (hE:E.n<=1000000) (N:Nat) (q:u0) (t:Nt) (l:Lab):K6 198 k0 b J E N q t [.agg [.int .i64 1,.int .i64 l.len,.int .u64 l.bits,.int .u64 0,.int .i64 0,.sl none none 0 0 2 (fun _ => []),.int .i64 0,.int .u64 0,.int .u64 0,.int .i64 0,.bool .ff,.str ⟨#[]⟩,.sl none none 0 0 2 (fun _ => []),.int .u64 0,.bool .ff]] T4:=
 K6.re (xL 0 b J E hE N q t ⟨1,l,0,zRA,jz⟩) ⟨Sim.agg ⟨zr,zr,zr,zr,zr,zq0,zr,zr,zr,zr,Sim.ff,zr,zq0,zr,Sim.ff,trivial⟩,trivial⟩
theorem Az (k0 b:Nat) (J:i6) (hJ:k8 J) (E:s6) (hE:E.n<=1000000) (N:Nat) (p:Pst) (hR:Rel E N p) (hp:i5 p) (hn:p.n<=1000000) (l:Lab) (v:Int) (x:RA):D5 198 k0 b J E N p [.agg [.int .i64 2,.int .i64 l.len,.int .u64 l.bits,.int .u64 v,.int .i64 x.r.kd,.sl none x.A x.r.n x.c 2 (fun i => itC (x.r.f i)),.int .i64 x.r.nx.len,.int .u64 x.r.nx.bits,.int .u64 x.r.mrk,.int .i64 0,.bool .ff,.str ⟨#[]⟩,.sl none none 0 0 2 (fun _ => []),.int .u64 0,.bool .ff]] s5 T4 (U5 (J.budget - E.n) ⟨2,l,v,x.r.abs,dm⟩ p):=
 D5.re (rq 0 b J hJ E hE N p hR hp hn ⟨2,l,v,x,jz⟩) ⟨Sim.agg ⟨zr,zr,zr,zr,zr,zr,zr,zr,zr,zr,Sim.ff,zr,zq0,zr,Sim.ff,trivial⟩,trivial⟩
theorem AB (k0 b:Nat) (J:i6) (E:s6) (hE:E.n<=1000000) (N:Nat) (q:u0) (t:Nt) (l:Lab) (v:Int) (x:RA):K6 198 k0 b J E N q t [.agg [.int .i64 2,.int .i64 l.len,.int .u64 l.bits,.int .u64 v,.int .i64 x.r.kd,.sl none x.A x.r.n x.c 2 (fun i => itC (x.r.f i)),.int .i64 x.r.nx.len,.int .u64 x.r.nx.bits,.int .u64 x.r.mrk,.int .i64 0,.bool .ff,.str ⟨#[]⟩,.sl none none 0 0 2 (fun _ => []),.int .u64 0,.bool .ff]] T4:=
 K6.re (xL 0 b J E hE N q t ⟨2,l,v,x,jz⟩) ⟨Sim.agg ⟨zr,zr,zr,zr,zr,zr,zr,zr,zr,zr,Sim.ff,zr,zq0,zr,Sim.ff,trivial⟩,trivial⟩
theorem Ay (k0 b:Nat) (J:i6) (hJ:k8 J) (E:s6) (hE:E.n<=1000000) (N:Nat) (p:Pst) (hR:Rel E N p) (hp:i5 p) (hn:p.n<=1000000) (l:Lab) (v:Int):D5 198 k0 b J E N p [.agg [.int .i64 3,.int .i64 l.len,.int .u64 l.bits,.int .u64 v,.int .i64 0,.sl none none 0 0 2 (fun _ => []),.int .i64 0,.int .u64 0,.int .u64 0,.int .i64 0,.bool .ff,.str ⟨#[]⟩,.sl none none 0 0 2 (fun _ => []),.int .u64 0,.bool .ff]] s5 T4 (U5 (J.budget - E.n) ⟨3,l,v,i8,dm⟩ p):=
 D5.re (rq 0 b J hJ E hE N p hR hp hn ⟨3,l,v,zRA,jz⟩) ⟨Sim.agg ⟨zr,zr,zr,zr,zr,zq0,zr,zr,zr,zr,Sim.ff,zr,zq0,zr,Sim.ff,trivial⟩,trivial⟩
theorem Ag (b:Nat) (J:i6) (hJ:k8 J) (E:s6) (hE:E.n<=1000000) (N:Nat) (p:Pst) (hR:Rel E N p) (hp:i5 p) (hn:p.n<=1000000) (l:Lab):D5 150 0 b J E N p [b6 l] (s5) (T4) (R1 (J.budget - E.n) l p):=by
 intro m w hm hargs hpre;have hN0:N=E.n - p.n:=by have:=hR.n; omega
 refine enX 9 hm hpre hargs Tryz.func150 fun B hB a0 hF => ?_
 refine wp_seq (rg hB a6 [0,3,4] [0,3,4] [] hF fun X0 a0 w1 hF => ?_);apply wp_seq
 rcases (Aw 0 b J hJ E hE N p hR hp hn l).two (bz _ _ _) hp hn hR with ⟨g1,p1,N1,hm1,hs1,hp1,hn1,hR1,hN1,S1⟩ | ⟨wq1,p1,N1,W1,hm1,hs1,hN1,hW1,S1⟩
 .have O1:=S1
  refine rg hB a6 [4] [0,4] [(3,lc J E (s5 g1) N1 p1)] hF fun X1 a0 w1 hF => ?_
  exact wp_ret ((rgo hB a6 hF (v:=g1) (q:=p1) (by simp [Rs.bind,hm1]) hN1).1)
 have O1:=S1;refine rg hB a6 [4] [0,4] [(3,sc J E (.agg [.int .i64 0,.int .u64 0,.bool .ff,.int .i64 0,.sl none none 0 0 2 (fun _ => []),.int .i64 0,.int .u64 0,.int .u64 0]) N1 W1 p1.note)] hF fun X1 a0 w1 hF => ?_
 exact wp_ret ((rst hB a6 hF (q:=p1) (wq:=wq1) (X1 3) (by simp [Rs.bind,hm1]) hN1 (hW1 _)).1)
theorem P6 (k0 b:Nat) (J:i6) (hJ:k8 J) (E:s6) (hE:E.n<=1000000) (N:Nat) (p:Pst) (hR:Rel E N p) (hp:i5 p) (hn:p.n<=1000000) (l:Lab):D5 150 k0 b J E N p [b6 l] (s5) (T4) (R1 (J.budget - E.n) l p):=D5.re (Ag b J hJ E hE N p hR hp hn l) (by repeat (first | exact trivial | refine ⟨zr,?_⟩))
theorem Ah (b:Nat) (J:i6) (E:s6) (hE:E.n<=1000000) (N:Nat) (q:u0) (t:Nt) (l:Lab):K6 150 0 b J E N q t [b6 l] (T4):=by
 intro m w hm hargs hpre;refine enX 9 hm hpre hargs Tryz.func150 fun B hB a0 hF => ?_
 refine wp_seq (rg hB a6 [0,3,4] [0,3,4] [] hF fun X0 a0 w1 hF => ?_);have O1:=Ax 0 b J E hE N q t l;refine wp_seq (rg hB a6 [4] [0,4] [(3,dc J E (.agg [.int .i64 0,.int .u64 0,.bool .ff,.int .i64 0,.sl none none 0 0 2 (fun _ => []),.int .i64 0,.int .u64 0,.int .u64 0]) N q t)] hF fun X1 a0 w1 hF => ?_);exact wp_ret ((rdd hB a6 hF).1)
theorem dQ (k0 b:Nat) (J:i6) (E:s6) (hE:E.n<=1000000) (N:Nat) (q:u0) (t:Nt) (l:Lab):K6 150 k0 b J E N q t [b6 l] (T4):=K6.re (Ah b J E hE N q t l) (by repeat (first | exact trivial | refine ⟨zr,?_⟩))
theorem At (b:Nat) (J:i6) (hJ:k8 J) (E:s6) (hE:E.n<=1000000) (N:Nat) (p:Pst) (hR:Rel E N p) (hp:i5 p) (hn:p.n<=1000000) (l:Lab) (v:Int) (x:RA):D5 140 0 b J E N p [b6 l,.int .u64 v,u9 x] (fun d => .bool (.v d)) (.bool .ff) (T0 (J.budget - E.n) l v x.r.abs p):=by
 intro m w hm hargs hpre;have hN0:N=E.n - p.n:=by have:=hR.n; omega
 refine enX 26 hm hpre hargs Tryz.func140 fun B hB a0 hF => ?_
 refine wp_seq (rg hB a6 [0,2,5,7] [0,5,7] [] hF fun X0 a0 w1 hF => ?_);apply wp_seq
 rcases (Az 0 b J hJ E hE N p hR hp hn l v x).two (bz _ _ _) hp hn hR with ⟨g1,p1,N1,hm1,hs1,hp1,hn1,hR1,hN1,S1⟩ | ⟨wq1,p1,N1,W1,hm1,hs1,hN1,hW1,S1⟩
 .have O1:=S1
  refine rg hB a6 [0,9] [0,9] [(5,lc J E (s5 g1) N1 p1)] hF fun X1 a0 w1 hF => ?_
  refine wp_seq (rg hB a6 [8] [0] [] hF fun X2 a0 w1 hF => ?_);refine wp_ret ((rgo hB a6 hF (v:=decide (g1.code=0)) (q:=p1) (by simp [T0,Rs.bind,hm1]) hN1 (he:=?_)).1);subst hB; exact zr
 have O1:=S1;refine rg hB a6 [0,9] [0,9] [(5,sc J E (.agg [.int .i64 0,.int .u64 0,.bool .ff,.int .i64 0,.sl none none 0 0 2 (fun _ => []),.int .i64 0,.int .u64 0,.int .u64 0]) N1 W1 p1.note)] hF fun X1 a0 w1 hF => ?_
 refine wp_seq (rg hB a6 [8] [0] [] hF fun X2 a0 w1 hF => ?_);exact wp_ret ((rst hB a6 hF (q:=p1) (wq:=wq1) (X1 5) (by simp [T0,Rs.bind,hm1]) hN1 (hW1 _)).1)
theorem dR (k0 b:Nat) (J:i6) (hJ:k8 J) (E:s6) (hE:E.n<=1000000) (N:Nat) (p:Pst) (hR:Rel E N p) (hp:i5 p) (hn:p.n<=1000000) (l:Lab) (v:Int) (x:RA):D5 140 k0 b J E N p [b6 l,.int .u64 v,u9 x] (fun d => .bool (.v d)) (.bool .ff) (T0 (J.budget - E.n) l v x.r.abs p):=D5.re (At b J hJ E hE N p hR hp hn l v x) (by repeat (first | exact trivial | refine ⟨zr,?_⟩))
theorem Au (b:Nat) (J:i6) (E:s6) (hE:E.n<=1000000) (N:Nat) (q:u0) (t:Nt) (l:Lab) (v:Int) (x:RA):K6 140 0 b J E N q t [b6 l,.int .u64 v,u9 x] (.bool .ff):=by
 intro m w hm hargs hpre;refine enX 26 hm hpre hargs Tryz.func140 fun B hB a0 hF => ?_
 refine wp_seq (rg hB a6 [0,2,5,7] [0,5,7] [] hF fun X0 a0 w1 hF => ?_);have O1:=AB 0 b J E hE N q t l v x;refine wp_seq (rg hB a6 [0,9] [0,9] [(5,dc J E (.agg [.int .i64 0,.int .u64 0,.bool .ff,.int .i64 0,.sl none none 0 0 2 (fun _ => []),.int .i64 0,.int .u64 0,.int .u64 0]) N q t)] hF fun X1 a0 w1 hF => ?_);refine wp_seq (rg hB a6 [8] [0] [] hF fun X2 a0 w1 hF => ?_);exact wp_ret ((rdd hB a6 hF).1)
theorem DQ (k0 b:Nat) (J:i6) (E:s6) (hE:E.n<=1000000) (N:Nat) (q:u0) (t:Nt) (l:Lab) (v:Int) (x:RA):K6 140 k0 b J E N q t [b6 l,.int .u64 v,u9 x] (.bool .ff):=K6.re (Au b J E hE N q t l v x) (by repeat (first | exact trivial | refine ⟨zr,?_⟩))
theorem Aq (b:Nat) (J:i6) (hJ:k8 J) (E:s6) (hE:E.n<=1000000) (N:Nat) (p:Pst) (hR:Rel E N p) (hp:i5 p) (hn:p.n<=1000000) (l:Lab) (v:Int):D5 239 0 b J E N p [b6 l,.int .u64 v] (fun d => .bool (.v d)) (.bool .ff) (iD (J.budget - E.n) l v p):=by
 intro m w hm hargs hpre;have hN0:N=E.n - p.n:=by have:=hR.n; omega
 refine enX 23 hm hpre hargs Tryz.func239 fun B hB a0 hF => ?_
 refine wp_seq (rg hB a6 [0,2,4] [0,4] [] hF fun X0 a0 w1 hF => ?_);apply wp_seq
 rcases (Ay 0 b J hJ E hE N p hR hp hn l v).two (bz _ _ _) hp hn hR with ⟨g1,p1,N1,hm1,hs1,hp1,hn1,hR1,hN1,S1⟩ | ⟨wq1,p1,N1,W1,hm1,hs1,hN1,hW1,S1⟩
 .have O1:=S1
  refine rg hB a6 [0,7] [0,7] [(4,lc J E (s5 g1) N1 p1)] hF fun X1 a0 w1 hF => ?_
  refine wp_seq (rg hB a6 [6] [0] [] hF fun X2 a0 w1 hF => ?_);refine wp_ret ((rgo hB a6 hF (v:=decide (g1.code=0)) (q:=p1) (by simp [iD,Rs.bind,hm1]) hN1 (he:=?_)).1);subst hB; exact zr
 have O1:=S1;refine rg hB a6 [0,7] [0,7] [(4,sc J E (.agg [.int .i64 0,.int .u64 0,.bool .ff,.int .i64 0,.sl none none 0 0 2 (fun _ => []),.int .i64 0,.int .u64 0,.int .u64 0]) N1 W1 p1.note)] hF fun X1 a0 w1 hF => ?_
 refine wp_seq (rg hB a6 [6] [0] [] hF fun X2 a0 w1 hF => ?_);exact wp_ret ((rst hB a6 hF (q:=p1) (wq:=wq1) (X1 4) (by simp [iD,Rs.bind,hm1]) hN1 (hW1 _)).1)
theorem rj (k0 b:Nat) (J:i6) (hJ:k8 J) (E:s6) (hE:E.n<=1000000) (N:Nat) (p:Pst) (hR:Rel E N p) (hp:i5 p) (hn:p.n<=1000000) (l:Lab) (v:Int):D5 239 k0 b J E N p [b6 l,.int .u64 v] (fun d => .bool (.v d)) (.bool .ff) (iD (J.budget - E.n) l v p):=D5.re (Aq b J hJ E hE N p hR hp hn l v) (by repeat (first | exact trivial | refine ⟨zr,?_⟩))
theorem E7 (g:l9) (k:Int):j5 Tryz.prog 151 [s5 g,.int .i64 k] (fun _ => .bool (.v (gk g k))):=by
 intro m w hm hargs;refine en 14 hm hargs Tryz.func151 fun B hB a0 hF => ?_
 refine wp_seq (rg hB a6 [1,2] [2] [] hF fun X0 a0 w1 hF => ?_);refine wp_seq (rg hB a6 [4] [] [] hF fun X1 a0 w1 hF => ?_);refine wp_ret ((rsi hB a6 hF f4 (he:=?_)));subst hB;refine Sim.bool ?_
 show (if g.has=true then decide (g.x.r.kd=k) else false)=_
 unfold gk; cases g.has<;>rfl
theorem iF:j5 Tryz.prog 261 [] (fun _ => xf):=by
 intro m w hm hargs;have SN:=fQ;simp only [b6,B2] at SN;refine en 3 hm hargs Tryz.func261 fun B hB a0 hF => ?_
 refine wp_seq (rg hB a6 [0] [0] [] hF fun X0 a0 w1 hF => ?_);have O1:=SN;refine wp_seq (rg hB a6 [0] [0] [(0,.r fun _ => .agg [.int .i64 (-1),.int .u64 0])] hF fun X1 a0 w1 hF => ?_);exact wp_ret ((rsp hB a6 hF f4).1)
theorem iE (k:Int):j5 Tryz.prog 151 [T4,.int .i64 k] (fun _ => .bool .ff):=
 have h:j5 Tryz.prog 151 [T4,.int .i64 k] (fun _ => .bool (.v (gk ox k))):=(E7 ox k).sim ⟨Sim.agg ⟨zr,zr,Sim.ff,zr,zq0,zr,zr,zr,trivial⟩,zr,trivial⟩
 h.res fun _ => Sim.bool rfl
theorem sX (k0 b:Nat) (J:i6) (hJ:k8 J) (E:s6) (hE:E.n<=1000000) (N:Nat) (p:Pst) (hR:Rel E N p) (hp:i5 p) (hn:p.n<=1000000) (l:Lab) (v:Int):D5 140 k0 b J E N p [b6 l,.int .u64 v,xf] (fun d => .bool (.v d)) (.bool .ff) (T0 (J.budget - E.n) l v dI p):=
 D5.re (dR 0 b J hJ E hE N p hR hp hn l v ⟨none,0,dI.rn⟩) ⟨zr,zr,Sim.agg ⟨zr,P7,zr,zr,zr,trivial⟩,trivial⟩
theorem sY (k0 b:Nat) (J:i6) (E:s6) (hE:E.n<=1000000) (N:Nat) (q:u0) (t:Nt) (l:Lab) (v:Int):K6 140 k0 b J E N q t [b6 l,.int .u64 v,xf] (.bool .ff):=
 K6.re (DQ 0 b J E hE N q t l v ⟨none,0,dI.rn⟩) ⟨zr,zr,Sim.agg ⟨zr,P7,zr,zr,zr,trivial⟩,trivial⟩
def fzJ:Fz -> Int
 | .over => -1
 | .unfit => 0
 | .fr _ => 1
def sT (z:Fz):AV:=.tup [u9 (fzR z),.int .i64 (fzJ z)]
theorem FE {z:Fz} (h:fzJ z < 0):z = .over:=by cases z<;>first | rfl | (simp [fzJ] at h)
theorem FD {z:Fz} (h:fzJ z=0):z = .unfit:=by cases z<;>first | rfl | (simp [fzJ] at h)
theorem Dw {z:Fz} (h0:¬ fzJ z < 0) (h1:¬ fzJ z=0):z = .fr (fzR z):=by cases z<;>first | rfl | exact absurd rfl h1 | exact absurd (by decide) h0
theorem vb:U8 zRA:=⟨⟨by decide,by decide⟩,fun i hi => absurd hi (Nat.not_lt_zero _),by decide⟩
theorem Ai (b:Nat) (J:i6) (hJ:k8 J) (E:s6) (hE:E.n<=1000000) (N:Nat) (p:Pst) (hR:Rel E N p) (hp:i5 p) (hn:p.n<=1000000) (l:Lab) (v:Int) (d:Lab) (n:Nat) (hf:p.n < n):D5 262 0 b J E N p [b6 l,.int .u64 v,b6 d] (sT) (.tup [.agg [.int .i64 0,.sl none none 0 0 2 (fun _ => []),.int .i64 0,.int .u64 0,.int .u64 0],.int .i64 (-1)]) (L6 (J.budget - E.n) l v d n p):=by
 intro m w hm hargs hpre;have hN0:N=E.n - p.n:=by have:=hR.n; omega
 refine enX 76 hm hpre hargs Tryz.func262 fun B hB a0 hF => ?_
 refine wp_seq (rg hB a6 [0,2,5,7,8] [0,5,7,8] [] hF fun X0 a0 w1 hF => ?_);refine wp_seq (wp_block (l0 (ι:=LSt) (fun q => []) (fun q => [(0,⟨b,174,lsC J E q⟩)]) (fun q => []) (fun q => match q with | .go a r M => L6 (J.budget - E.n) l v d n p=L6 (J.budget - E.n) l v d a r/\i5 r/\r.n<=1000000/\Rel E M r/\r.n < a/\r.n<=p.n | .dn r M => False | .sp M Q u => ∃ (X:f9) (wq:Wq) (pp:Pst),L6 (J.budget - E.n) l v d n p = .stop wq pp/\M=E.n - pp.n/\Q=wqA X wq/\u=pp.note) (fun q => lsM q) (.go n p N) ⟨rfl,hp,hn,hR,(by skip; omega),(by skip; omega)⟩ hF ?_))
 rintro q hJ a0 w1 hF
 rcases q with ⟨nn0,p0,N0⟩ | ⟨p9,N9⟩ | ⟨N0,Q0,t0⟩
 .dsimp only [lsC,lsB] at hJ hF
  obtain ⟨hrun0,hp0,hn0,hR0,hf0,hle0⟩:=hJ;obtain ⟨m0,rfl⟩:∃ n2,nn0=n2 + 1:=⟨nn0 - 1,by omega⟩
  have hN0:N0=E.n - p0.n:=by have:=hR0.n; omega
  refine wp_seq (wp_seq (rg hB a6 [17,0,2,5,7,8] [0,5,7,8] [] hF fun X1 a0 w1 hF => ?_));refine j0 hF rfl (fun hF => ?_);refine wp_skip (wp_block (wp_seq ?_))
  rcases (P6 0 b J hJ E hE N0 p0 hR0 hp0 hn0 d).two (j1 _ _ _) hp0 hn0 hR0 with ⟨g1,p2,N2,hm2,hs2,hp2,hn2,hR2,hN2,S2⟩ | ⟨wq2,p2,N2,W2,hm2,hs2,hN2,hW2,S2⟩
  .have hl2:=B0 hm2
   have hg2:=hp0.get hm2;have O1:=S2;refine rg hB a6 [0,2,5,7,8,10] [0,5,7,8,10] [(2,lc J E (s5 g1) N2 p2)] hF fun X2 a0 w1 hF => ?_
   refine wp_seq (wp_seq (rg hB a6 [24,0,2,5,7,8,10] [0,5,7,8,10] [] hF fun X3 a0 w1 hF => ?_));refine i9 hF rfl (fun hF => ?_);obtain ⟨q5,hq5⟩:=eqv (gk g1 1);obtain ⟨r5,hr5⟩:=eqv (gk g1 5);refine wp_skip (wp_seq (wp_seq ?_));refine rg hB a6 [33,0,2,5,7,8,10] [0,5,7,8,10] [(1,.r fun _ => .bool (.v q5)),(5,.r fun _ => .bool (.v r5))] hF (hob:=by intro X; subst hB; simp only [b5,Ob.holds,BE.den]<;>and_intros<;>repeat first | trivial | rfl | exact (by rw [hq5]; exact E7 g1 1) | exact by rw [hq5]; exact E7 g1 1 | exact (by rw [hr5]; exact E7 g1 5) | exact by rw [hr5]; exact E7 g1 5 | exact (fun _ _ => by kernel_rfl) | refine ⟨?_,?_⟩ | intro h | exact Int.le_refl _ | decide | omega) fun X5 a0 w1 hF => ?_
   apply a7 hF rfl<;>intro hb hF
   .have t5:(gk g1 1 || gk g1 5)=false:=by subst hB; rw [<-hq5,<-hr5]; revert hb; cases q5<;>cases r5<;>simp [std]
    refine wp_seq (rg hB a6 [8,9] [0,8] [] hF fun X6 a0 w1 hF => ?_);refine wp_ret ((rgo hB a6 hF (v:=Fz.unfit) (q:=p2) (by simp [Rs.bind,hrun0,L6,hm2,t5]) hN2 (he:=?_)).1);subst hB; exact Sim.tup ⟨Sim.agg ⟨zr,P7,zr,zr,zr,trivial⟩,zr,trivial⟩
   have t5:(gk g1 1 || gk g1 5)=true:=by subst hB; rw [<-hq5,<-hr5]; revert hb; cases q5<;>cases r5<;>simp [std]
   obtain ⟨q7,hq7⟩:=eqv (gk g1 5);refine wp_skip (wp_seq (wp_seq ?_));refine rg hB a6 [43,0,2,5,7,8,10] [0,5,7,8,10] [(1,.r fun _ => .bool (.v q7))] hF (hob:=by intro X; subst hB; simp only [b5,Ob.holds,BE.den]<;>and_intros<;>repeat first | trivial | rfl | exact (by rw [hq7]; exact E7 g1 5) | exact by rw [hq7]; exact E7 g1 5 | exact (fun _ _ => by kernel_rfl) | refine ⟨?_,?_⟩ | intro h | exact Int.le_refl _ | decide | omega) fun X7 a0 w1 hF => ?_
   apply a7 hF rfl<;>intro hb hF
   .have t7:(gk g1 5 && decide (g1.x.r.mrk=v))=true:=by subst hB; rw [<-hq7]; revert hb; cases q7<;>simp [std,a8]
    refine wp_seq (rg hB a6 [8,9] [0,8] [] hF fun X8 a0 w1 hF => ?_);exact wp_ret ((rgo hB a6 hF (v:=(Fz.fr g1.x)) (q:=p2) (by simp [Rs.bind,hrun0,L6,hm2,t5,t7]) hN2).1)
   have t7:(gk g1 5 && decide (g1.x.r.mrk=v))=false:=by subst hB; rw [<-hq7]; revert hb; cases q7<;>simp [std,a8]
   refine wp_skip (wp_seq ?_)
   rcases (P6 0 b J hJ E hE N2 p2 hR2 hp2 hn2 l).two (j1 _ _ _) hp2 hn2 hR2 with ⟨g9,p9,N9,hm9,hs9,hp9,hn9,hR9,hN9,S9⟩ | ⟨wq9,p9,N9,W9,hm9,hs9,hN9,hW9,S9⟩
   .have hl9:=B0 hm9
    have hg9:=hp2.get hm9;have O1:=S9;refine rg hB a6 [0,2,5,7,8,10,11] [0,5,7,8,10,11] [(2,lc J E (s5 g9) N9 p9)] hF fun X9 a0 w1 hF => ?_
    refine wp_seq (wp_seq (rg hB a6 [58,0,2,5,7,8,10] [0,5,7,8,10] [] hF fun X10 a0 w1 hF => ?_));apply a7 hF rfl<;>intro hb hF
    .have t10:¬ g9.ver=v:=by
      have h9:(g9.ver != v)=true:=by subst hB; exact hb
      simpa using h9
     refine wp_seq (rg hB a6 [8,9] [0,8] [] hF fun X11 a0 w1 hF => ?_);refine wp_ret ((rgo hB a6 hF (v:=Fz.over) (q:=p9) (by simp [Rs.bind,hrun0,L6,hm2,t5,t7,hm9,t10]) hN9 (he:=?_)).1);subst hB; exact Sim.tup ⟨Sim.agg ⟨zr,P7,zr,zr,zr,trivial⟩,zr,trivial⟩
    have t10:g9.ver=v:=by
     have h9:(g9.ver != v)=false:=by subst hB; exact hb
     simpa using h9
    refine wp_skip (wp_seq (rg hB a6 [0,2,5,7,8,10,12] [0,5,7,8,10,12] [] hF fun X12 a0 w1 hF => ?_));apply wp_seq
    rcases (dR 0 b J hJ E hE N9 p9 hR9 hp9 hn9 d g1.ver (asR 5 g1.x v)).two (l3 _ _ _ _ _) hp9 hn9 hR9 with ⟨d9,p13,N13,hm13,hs13,hp13,hn13,hR13,hN13,S13⟩ | ⟨wq13,p13,N13,W13,hm13,hs13,hN13,hW13,S13⟩
    .have O1:=S13
     refine rg hB a6 [73,0,2,5,7,8,12] [0,5,7,8,12] [(5,lc J E (.bool (.v d9)) N13 p13)] hF fun X13 a0 w1 hF => ?_
     apply a7 hF rfl<;>intro hb hF
     .have t13:d9=true:=by exact hb
      refine wp_seq (rg hB a6 [8,9] [0,8] [] hF fun X14 a0 w1 hF => ?_);exact wp_ret ((rgo hB a6 hF (v:=(Fz.fr (asR 5 g1.x v))) (q:=p13) (by simp [Rs.bind,hrun0,L6,hm2,t5,t7,hm9,t10,hm13,t13]) hN13).1)
     have t13:d9=false:=by exact hb
     replace hF:=hF.keep [0,2,5,7,8] [0,5,7,8];exact wp_skip (⟨.go m0 p13 N13,⟨by rw [hrun0]; simp [L6,Rs.bind,hrun0,L6,hm2,t5,t7,hm9,t10,hm13,t13],hp13,hn13,hR13,by have:=hl2; have:=hs9.le; have:=hs13.le; have:=hf0; omega,by have:=hl2; have:=hs9.le; have:=hs13.le; have:=hle0; omega⟩,by simp [lsM],hF⟩)
    have O1:=S13;refine rg hB a6 [73,0,2,5,7,8,12] [0,5,7,8,12] [(5,sc J E (.bool .ff) N13 W13 p13.note)] hF fun X13 a0 w1 hF => ?_
    refine i9 hF rfl (fun hF => ?_);replace hF:=hF.keep [0,2,5,7,8] [0,5,7,8];exact wp_skip (⟨.sp N13 (W13 (X13 5)) p13.note,⟨(X13 5),wq13,p13,by simp [Rs.bind,hrun0,L6,hm2,t5,t7,hm9,t10,hm13],hN13,(hW13 _),rfl⟩,by simp [lsM],hF⟩)
   have O1:=S9;refine rg hB a6 [0,2,5,7,8,10,11] [0,5,7,8,10,11] [(2,sc J E (.agg [.int .i64 0,.int .u64 0,.bool .ff,.int .i64 0,.sl none none 0 0 2 (fun _ => []),.int .i64 0,.int .u64 0,.int .u64 0]) N9 W9 p9.note)] hF fun X9 a0 w1 hF => ?_
   refine wp_seq (wp_seq (rg hB a6 [58,0,2,5,7,8,10] [0,5,7,8,10] [] hF fun X10 a0 w1 hF => ?_));refine j0 hF rfl (fun hF => ?_);refine wp_seq (rg hB a6 [8,9] [0,8] [] hF fun X11 a0 w1 hF => ?_);exact wp_ret ((rst hB a6 hF (q:=p9) (wq:=wq9) (X9 2) (by simp [Rs.bind,hrun0,L6,hm2,t5,t7,hm9]) hN9 (hW9 _)).1)
  have O1:=S2;refine rg hB a6 [0,2,5,7,8,10] [0,5,7,8,10] [(2,sc J E (.agg [.int .i64 0,.int .u64 0,.bool .ff,.int .i64 0,.sl none none 0 0 2 (fun _ => []),.int .i64 0,.int .u64 0,.int .u64 0]) N2 W2 p2.note)] hF fun X2 a0 w1 hF => ?_
  refine wp_seq (wp_seq (rg hB a6 [24,0,2,5,7,8,10] [0,5,7,8,10] [] hF fun X3 a0 w1 hF => ?_));refine j0 hF rfl (fun hF => ?_);refine wp_seq (rg hB a6 [8,9] [0,8] [] hF fun X4 a0 w1 hF => ?_);exact wp_ret ((rst hB a6 hF (q:=p2) (wq:=wq2) (X2 2) (by simp [Rs.bind,hrun0,L6,hm2]) hN2 (hW2 _)).1)
 .exact (hJ:False).elim
 dsimp only [lsC,lsB] at hJ hF;obtain ⟨X0,wq0,pp0,hsp0,hN0,hW0,ht0⟩:=hJ;subst ht0;refine wp_seq (wp_seq (rg hB a6 [17,0,2,5,7,8] [0,5,7,8] [] hF fun X1 a0 w1 hF => ?_));refine i9 hF rfl (fun hF => ?_);refine wp_exit (wp_seq (rg hB a6 [8,9] [0,8] [] hF fun X15 a0 w1 hF => ?_));exact wp_ret ((rst hB a6 hF (q:=pp0) (wq:=wq0) X0 (hsp0) hN0 hW0).1)
theorem xD (k0 b:Nat) (J:i6) (hJ:k8 J) (E:s6) (hE:E.n<=1000000) (N:Nat) (p:Pst) (hR:Rel E N p) (hp:i5 p) (hn:p.n<=1000000) (l:Lab) (v:Int) (d:Lab) (n:Nat) (hf:p.n < n):D5 262 k0 b J E N p [b6 l,.int .u64 v,b6 d] (sT) (.tup [.agg [.int .i64 0,.sl none none 0 0 2 (fun _ => []),.int .i64 0,.int .u64 0,.int .u64 0],.int .i64 (-1)]) (L6 (J.budget - E.n) l v d n p):=D5.re (Ai b J hJ E hE N p hR hp hn l v d n hf) (by repeat (first | exact trivial | refine ⟨zr,?_⟩))
def oq (n:Nat):Prop:=∀ (k0 b:Nat) (J:i6) (hJ:k8 J) (E:s6) (hE:E.n<=1000000) (N:Nat) (p:Pst) (hR:Rel E N p) (hp:i5 p) (hn:p.n<=1000000) (l:Lab) (hl:LOk l),p.n < n -> D5 167 k0 b J E N p [b6 l] (fun _ => i7) i7 (G4 J.bucket (J.budget - E.n) n l p)
def El (n:Nat):Prop:=∀ (k0 b:Nat) (J:i6) (hJ:k8 J) (E:s6) (hE:E.n<=1000000) (N:Nat) (p:Pst) (hR:Rel E N p) (hp:i5 p) (hn:p.n<=1000000) (l:Lab) (hl:LOk l),p.n < n -> D5 165 k0 b J E N p [b6 l] (fun _ => i7) i7 (C7 (J.budget - E.n) n l p)
def tC (n:Nat):Prop:=∀ (k0 b:Nat) (J:i6) (hJ:k8 J) (E:s6) (hE:E.n<=1000000) (N:Nat) (p:Pst) (hR:Rel E N p) (hp:i5 p) (hn:p.n<=1000000) (l:Lab) (hl:LOk l) (g:l9) (hg:dX g) (hgh:g.has=true),p.n < n -> D5 141 k0 b J E N p [b6 l,s5 g] (fun _ => i7) i7 (Y5 J.bucket (J.budget - E.n) n l g p)
theorem zZ (b:Nat) (J:i6) (E:s6) (hE:E.n<=1000000) (N:Nat) (q:u0) (t:Nt) (l:Lab) (hl:LOk l):K6 167 0 b J E N q t [b6 l] (i7):=by
 intro m w hm hargs hpre;have SP:=vL l hl.u;simp only [b6] at SP;obtain ⟨up,hup⟩:=eqv (P5 l);rw [<-hup] at SP;obtain ⟨ue,hue⟩:=eqv (Q8 l);rw [<-hue] at SP;refine enX 66 hm hpre hargs Tryz.func167 fun B hB a0 hF => ?_
 refine wp_seq (rg hB a6 [0,3] [0,3] [] hF fun X0 a0 w1 hF => ?_);have O1:=SP;refine wp_seq (rg hB a6 [0,3,4,5] [0,3,4] [(1,.r fun _ => .tup [.agg [.int .i64 up.len,.int .u64 up.bits],.int .i64 ue])] hF fun X1 a0 w1 hF => ?_);refine wp_seq (wp_seq (rg hB a6 [14,0,3,4] [0,3,4] [] hF fun X2 a0 w1 hF => ?_));apply a7 hF rfl<;>intro hb hF
 .have t0:¬ ue=0:=by subst hB; simpa [std,a8] using hb
  exact wp_ret ((rdd hB a6 hF).1)
 have t0:ue=0:=by subst hB; simpa [std,a8] using hb
 refine wp_skip (wp_block (wp_loop_rounds 2 (C3 (wp_seq (wp_seq (rg hB a6 [19,0,3,4] [0,3,4] [] hF fun X3 a0 w1 hF => ?_))))));refine i9 hF rfl (fun hF => ?_);exact wp_exit ((rdd hB a6 hF).2)
theorem DB (k0 b:Nat) (J:i6) (E:s6) (hE:E.n<=1000000) (N:Nat) (q:u0) (t:Nt) (l:Lab) (hl:LOk l):K6 167 k0 b J E N q t [b6 l] (i7):=K6.re (zZ b J E hE N q t l hl) (by repeat (first | exact trivial | refine ⟨zr,?_⟩))
theorem Av (b:Nat) (J:i6) (hJ:k8 J) (E:s6) (hE:E.n<=1000000) (N:Nat) (p:Pst) (hR:Rel E N p) (hp:i5 p) (hn:p.n<=1000000) (l:Lab) (hl:LOk l) (v:Int) (x0 x1:Lab) (hx0:x0=chV l 0) (hx1:x1=chV l 1) (n:Nat) (hth:oq n) (hf:p.n < n):D5 263 0 b J E N p [b6 l,.int .u64 v,b6 x0,b6 x1] (fun _ => i7) (i7) (aO (J.budget - E.n) (G4 J.bucket (J.budget - E.n) n) l v p):=by
 intro m w hm hargs hpre;have hN0:N=E.n - p.n:=by have:=hR.n; omega
 have hk0:LOk x0:=by rw [hx0]; exact hl.ch 0
 have hk1:LOk x1:=by rw [hx1]; exact hl.ch 1
 refine enX 21 hm hpre hargs Tryz.func263 fun B hB a0 hF => ?_
 refine wp_seq (rg hB a6 [0,2,6,8,9] [0,6,8,9] [] hF fun X0 a0 w1 hF => ?_);apply wp_seq
 rcases (sX 0 b J hJ E hE N p hR hp hn l v).two (l3 _ _ _ _ _) hp hn hR with ⟨d1,p1,N1,hm1,hs1,hp1,hn1,hR1,hN1,S1⟩ | ⟨wq1,p1,N1,W1,hm1,hs1,hN1,hW1,S1⟩
 .have O1:=iF
  have O2:=S1;refine drg hB a6 [14,0,8,9] [0,8,9] [(3,.r fun _ => .agg [.int .i64 2,.sl none none 0 0 2 (fun _ => []),.int .i64 (-1),.int .u64 0,.int .u64 0]),(4,lc J E (.bool (.v d1)) N1 p1)] hF fun X1 a0 w1 hF => ?_
  apply a7 hF rfl<;>intro hb hF
  .have t1:d1=true:=by exact hb
   apply wp_seq
   rcases (hth 0 b J hJ E hE N1 p1 hR1 hp1 hn1 x0 hk0 (by have:=hs1.le; omega)).two (F5 _ _ _ _ _) hp1 hn1 hR1 with ⟨v2,p2,N2,hm2,hs2,hp2,hn2,hR2,hN2,S2⟩ | ⟨wq2,p2,N2,W2,hm2,hs2,hN2,hW2,S2⟩
   .have O1:=S2
    refine rg hB a6 [0,9] [0,9] [(2,lc J E (i7) N2 p2)] hF fun X2 a0 w1 hF => ?_
    rcases (hth 0 b J hJ E hE N2 p2 hR2 hp2 hn2 x1 hk1 (by have:=hs1.le; have:=hs2.le; omega)).two (F5 _ _ _ _ _) hp2 hn2 hR2 with ⟨v3,p3,N3,hm3,hs3,hp3,hn3,hR3,hN3,S3⟩ | ⟨wq3,p3,N3,W3,hm3,hs3,hN3,hW3,S3⟩
    .have O1:=S3
     refine rg hB a6 [] [0] [(2,lc J E (i7) N3 p3)] hF fun X3 a0 w1 hF => ?_
     exact (rgo hB a6 hF (v:=()) (q:=p3) (by simp [aO,<-hx0,<-hx1,Rs.bind,hm1,t1,hm2,hm3]) hN3).2
    have O1:=S3;refine rg hB a6 [] [0] [(2,sc J E (i7) N3 W3 p3.note)] hF fun X3 a0 w1 hF => ?_
    exact (rst hB a6 hF (q:=p3) (wq:=wq3) (X3 2) (by simp [aO,<-hx0,<-hx1,Rs.bind,hm1,t1,hm2,hm3]) hN3 (hW3 _)).2
   have O1:=S2;refine rg hB a6 [0,9] [0,9] [(2,sc J E (i7) N2 W2 p2.note)] hF fun X2 a0 w1 hF => ?_
   have O1:=DB 0 b J E hE N2 (W2 (X2 2)) p2.note x1 hk1;refine rg hB a6 [] [0] [(2,dc J E (i7) N2 (W2 (X2 2)) p2.note)] hF fun X3 a0 w1 hF => ?_
   exact (rst hB a6 hF (q:=p2) (wq:=wq2) (X2 2) (by simp [aO,<-hx0,<-hx1,Rs.bind,hm1,t1,hm2]) hN2 (hW2 _)).2
  have t1:d1=false:=by exact hb
  exact wp_skip ((rgo hB a6 hF (v:=()) (q:=p1) (by simp [aO,<-hx0,<-hx1,Rs.bind,hm1,t1]) hN1).2)
 have O1:=iF;have O2:=S1;refine drg hB a6 [14,0,8,9] [0,8,9] [(3,.r fun _ => .agg [.int .i64 2,.sl none none 0 0 2 (fun _ => []),.int .i64 (-1),.int .u64 0,.int .u64 0]),(4,sc J E (.bool .ff) N1 W1 p1.note)] hF fun X1 a0 w1 hF => ?_
 refine i9 hF rfl (fun hF => ?_);exact wp_skip ((rst hB a6 hF (q:=p1) (wq:=wq1) (X1 4) (by simp [aO,<-hx0,<-hx1,Rs.bind,hm1]) hN1 (hW1 _)).2)
theorem xK (k0 b:Nat) (J:i6) (hJ:k8 J) (E:s6) (hE:E.n<=1000000) (N:Nat) (p:Pst) (hR:Rel E N p) (hp:i5 p) (hn:p.n<=1000000) (l:Lab) (hl:LOk l) (v:Int) (x0 x1:Lab) (hx0:x0=chV l 0) (hx1:x1=chV l 1) (n:Nat) (hth:oq n) (hf:p.n < n):D5 263 k0 b J E N p [b6 l,.int .u64 v,b6 x0,b6 x1] (fun _ => i7) (i7) (aO (J.budget - E.n) (G4 J.bucket (J.budget - E.n) n) l v p):=D5.re (Av b J hJ E hE N p hR hp hn l hl v x0 x1 hx0 hx1 n hth hf) (by repeat (first | exact trivial | refine ⟨zr,?_⟩))
theorem xJ (b:Nat) (J:i6) (hJ:k8 J) (E:s6) (hE:E.n<=1000000) (N:Nat) (p:Pst) (hR:Rel E N p) (hp:i5 p) (hn:p.n<=1000000) (l:Lab) (hl:LOk l) (n:Nat) (ih:El n) (hf:p.n < n + 1):D5 165 0 b J E N p [b6 l] (fun _ => i7) (i7) (C7 (J.budget - E.n) (n + 1) l p):=by
 intro m w hm hargs hpre;have hN0:N=E.n - p.n:=by have:=hR.n; omega
 have SC0:=Q5 l hl.u 0 (.inl rfl);have SC1:=Q5 l hl.u 1 (.inr rfl);have hk0:=hl.ch 0;have hk1:=hl.ch 1;simp only [b6] at SC0 SC1;obtain ⟨x0,hx0⟩:=eqv (chV l 0);rw [<-hx0] at SC0 hk0;obtain ⟨x1,hx1⟩:=eqv (chV l 1);rw [<-hx1] at SC1 hk1;obtain ⟨y0,hy0⟩:=eqv (chE l 0);rw [<-hy0] at SC0;obtain ⟨y1,hy1⟩:=eqv (chE l 1);rw [<-hy1] at SC1;have hlp:=s7 hl.isl;refine enX 59 hm hpre hargs Tryz.func165 fun B hB a0 hF => ?_
 refine wp_seq (rg hB a6 [0,3] [0,3] [] hF fun X0 a0 w1 hF => ?_);refine wp_seq (rg hB a6 [4,0,3] [0,3] [] hF fun X1 a0 w1 hF => ?_);refine wp_block (wp_loop_rounds 3 (C3 (wp_seq (wp_seq (rg hB a6 [15,0,3,4] [0,3] [] hF fun X2 a0 w1 hF => ?_)))));apply a7 hF rfl<;>intro hb hF
 .have h6:l.len < 64:=by subst hB; simpa [std,a8] using hb
  have t64:¬ l.len=64:=by omega
  have O1:=SC0;refine wp_skip (wp_seq (wp_block (wp_seq (rg hB a6 [0,3,4,5] [0,3,5] [(2,.r fun _ => .tup [.agg [.int .i64 x0.len,.int .u64 x0.bits],.int .i64 y0])] hF fun X4 a0 w1 hF => ?_))));apply wp_seq
  rcases (P6 0 b J hJ E hE N p hR hp hn x0).two (j1 _ _ _) hp hn hR with ⟨g0,p50,N50,hm50,hs50,hp50,hn50,hR50,hN50,S50⟩ | ⟨wq50,p50,N50,W50,hm50,hs50,hN50,hW50,S50⟩
  .have hl50:=B0 hm50
   have hg50:=hp.get hm50;have O1:=S50;refine rg hB a6 [0,3,4,5,7] [0,3,5,7] [(2,lc J E (s5 g0) N50 p50)] hF fun X5 a0 w1 hF => ?_
   refine wp_seq (wp_seq (rg hB a6 [30,0,3,4,5,7] [0,3,5,7] [] hF fun X6 a0 w1 hF => ?_));refine i9 hF rfl (fun hF => ?_);obtain ⟨q0,hq0⟩:=eqv (gk g0 5);refine wp_skip (wp_seq (wp_seq ?_));refine rg hB a6 [33,0,3,4,5,7] [0,3,5,7] [(1,.r fun _ => .bool (.v q0))] hF (hob:=by intro X; subst hB; simp only [b5,Ob.holds,BE.den]<;>and_intros<;>repeat first | trivial | rfl | exact (by rw [hq0]; exact E7 g0 5) | exact by rw [hq0]; exact E7 g0 5 | exact (fun _ _ => by kernel_rfl) | refine ⟨?_,?_⟩ | intro h | exact Int.le_refl _ | decide | omega) fun X7 a0 w1 hF => ?_
   apply a7 hF rfl<;>intro hb hF
   .have tq0:gk g0 5=false:=by subst hB; rw [<-hq0]; revert hb; cases q0<;>simp [std]
    refine wp_exit (rg hB a6 [4,0,3] [0,3] [] hF fun X3 a0 w1 hF => ?_);replace hF:=hF.headS (v':=.int .i64 1) (by subst hB; exact zr) rfl;refine i4 (wp_seq (wp_seq (rg hB a6 [15,0,3,4] [0,3] [] hF fun X2 a0 w1 hF => ?_)));apply a7 hF rfl<;>intro hb hF
    .skip
     have O1:=SC1;refine wp_skip (wp_seq (wp_block (wp_seq (rg hB a6 [0,3,4,5] [0,3,5] [(2,.r fun _ => .tup [.agg [.int .i64 x1.len,.int .u64 x1.bits],.int .i64 y1])] hF fun X4 a0 w1 hF => ?_))));apply wp_seq
     rcases (P6 0 b J hJ E hE N50 p50 hR50 hp50 hn50 x1).two (j1 _ _ _) hp50 hn50 hR50 with ⟨g1,p51,N51,hm51,hs51,hp51,hn51,hR51,hN51,S51⟩ | ⟨wq51,p51,N51,W51,hm51,hs51,hN51,hW51,S51⟩
     .have hl51:=B0 hm51
      have hg51:=hp50.get hm51;have O1:=S51;refine rg hB a6 [0,3,4,5,7] [0,3,5,7] [(2,lc J E (s5 g1) N51 p51)] hF fun X5 a0 w1 hF => ?_
      refine wp_seq (wp_seq (rg hB a6 [30,0,3,4,5,7] [0,3,5,7] [] hF fun X6 a0 w1 hF => ?_));refine i9 hF rfl (fun hF => ?_);obtain ⟨q1,hq1⟩:=eqv (gk g1 5);refine wp_skip (wp_seq (wp_seq ?_));refine rg hB a6 [33,0,3,4,5,7] [0,3,5,7] [(1,.r fun _ => .bool (.v q1))] hF (hob:=by intro X; subst hB; simp only [b5,Ob.holds,BE.den]<;>and_intros<;>repeat first | trivial | rfl | exact (by rw [hq1]; exact E7 g1 5) | exact by rw [hq1]; exact E7 g1 5 | exact (fun _ _ => by kernel_rfl) | refine ⟨?_,?_⟩ | intro h | exact Int.le_refl _ | decide | omega) fun X7 a0 w1 hF => ?_
      apply a7 hF rfl<;>intro hb hF
      .have tq1:gk g1 5=false:=by subst hB; rw [<-hq1]; revert hb; cases q1<;>simp [std]
       refine wp_exit (rg hB a6 [4,0,3] [0,3] [] hF fun X3 a0 w1 hF => ?_);replace hF:=hF.headS (v':=.int .i64 2) (by subst hB; exact zr) rfl;refine i4 (wp_seq (wp_seq (rg hB a6 [15,0,3,4] [0,3] [] hF fun X2 a0 w1 hF => ?_)));replace hF:=hF.headS (v':=.bool .ff) (Sim.bool (by subst hB; rfl)) rfl;refine i9 hF rfl (fun hF => ?_);exact wp_exit ((rgo hB a6 hF (v:=()) (q:=p51) (by simp [C7,G7,<-hx0,<-hx1,Rs.bind,t64,hm50,tq0,hm51,tq1]) hN51).2)
      have tq1:gk g1 5=true:=by subst hB; rw [<-hq1]; revert hb; cases q1<;>simp [std]
      refine wp_skip (wp_seq ?_)
      rcases (ih 0 b J hJ E hE N51 p51 hR51 hp51 hn51 x1 hk1 (by skip; have:=hl50; have:=hl51; omega)).two (J2 _ _ _ _) hp51 hn51 hR51 with ⟨v81,p81,N81,hm81,hs81,hp81,hn81,hR81,hN81,S81⟩ | ⟨wq81,p81,N81,W81,hm81,hs81,hN81,hW81,S81⟩
      .have O1:=S81
       refine rg hB a6 [0,3,4,5,7] [0,3,5,7] [(2,lc J E (i7) N81 p81)] hF fun X8 a0 w1 hF => ?_
       apply wp_seq
       rcases (P6 0 b J hJ E hE N81 p81 hR81 hp81 hn81 l).two (j1 _ _ _) hp81 hn81 hR81 with ⟨h1,p91,N91,hm91,hs91,hp91,hn91,hR91,hN91,S91⟩ | ⟨wq91,p91,N91,W91,hm91,hs91,hN91,hW91,S91⟩
       .have hl91:=B0 hm91
        have hg91:=hp81.get hm91;have O1:=S91;refine rg hB a6 [0,3,4,5,7,8] [0,3,5,7,8] [(2,lc J E (s5 h1) N91 p91)] hF fun X9 a0 w1 hF => ?_
        obtain ⟨r1,hr1⟩:=eqv (gk h1 1);obtain ⟨s1,hs1⟩:=eqv (gk h1 5);refine wp_seq (wp_seq ?_);refine rg hB a6 [53,0,3,4,5,7] [0,3,5,7] [(6,.r fun _ => .bool (.v r1)),(10,.r fun _ => .bool (.v s1))] hF (hob:=by intro X; subst hB; simp only [b5,Ob.holds,BE.den]<;>and_intros<;>repeat first | trivial | rfl | exact (by rw [hr1]; exact E7 h1 1) | exact by rw [hr1]; exact E7 h1 1 | exact (by rw [hs1]; exact E7 h1 5) | exact by rw [hs1]; exact E7 h1 5 | exact (fun _ _ => by kernel_rfl) | refine ⟨?_,?_⟩ | intro h | exact Int.le_refl _ | decide | omega) fun X10 a0 w1 hF => ?_
        apply a7 hF rfl<;>intro hb hF
        .have tr1:(gk h1 1 || gk h1 5)=false:=by subst hB; rw [<-hr1,<-hs1]; revert hb; cases r1<;>cases s1<;>simp [std]
         exact wp_ret ((rgo hB a6 hF (v:=()) (q:=p91) (by simp [C7,G7,<-hx0,<-hx1,Rs.bind,t64,hm50,tq0,hm51,tq1,hm81,hm91,tr1]) hN91).1)
        have tr1:(gk h1 1 || gk h1 5)=true:=by subst hB; rw [<-hr1,<-hs1]; revert hb; cases r1<;>cases s1<;>simp [std]
        refine wp_skip ?_
        rcases (rj 0 b J hJ E hE N91 p91 hR91 hp91 hn91 x1 g1.ver).two (cM _ _ _ _) hp91 hn91 hR91 with ⟨d1,p111,N111,hm111,hs111,hp111,hn111,hR111,hN111,S111⟩ | ⟨wq111,p111,N111,W111,hm111,hs111,hN111,hW111,S111⟩
        .have O1:=S111
         refine rg hB a6 [0,3,4] [0,3] [(4,lc J E (.bool (.v d1)) N111 p111)] hF fun X11 a0 w1 hF => ?_
         refine rg hB a6 [4,0,3] [0,3] [] hF fun X3 a0 w1 hF => ?_
         replace hF:=hF.headS (v':=.int .i64 2) (by subst hB; exact zr) rfl;refine i4 (wp_seq (wp_seq (rg hB a6 [15,0,3,4] [0,3] [] hF fun X2 a0 w1 hF => ?_)));replace hF:=hF.headS (v':=.bool .ff) (Sim.bool (by subst hB; rfl)) rfl;refine i9 hF rfl (fun hF => ?_);exact wp_exit ((rgo hB a6 hF (v:=()) (q:=p111) (by simp [C7,G7,<-hx0,<-hx1,Rs.bind,t64,hm50,tq0,hm51,tq1,hm81,hm91,tr1,hm111]) hN111).2)
        have O1:=S111;refine rg hB a6 [0,3,4] [0,3] [(4,sc J E (.bool .ff) N111 W111 p111.note)] hF fun X11 a0 w1 hF => ?_
        refine rg hB a6 [4,0,3] [0,3] [] hF fun X3 a0 w1 hF => ?_
        replace hF:=hF.headS (v':=.int .i64 2) (by subst hB; exact zr) rfl;refine i4 (wp_seq (wp_seq (rg hB a6 [15,0,3,4] [0,3] [] hF fun X2 a0 w1 hF => ?_)));replace hF:=hF.headS (v':=.bool .ff) (Sim.bool (by subst hB; rfl)) rfl;refine i9 hF rfl (fun hF => ?_);exact wp_exit ((rst hB a6 hF (q:=p111) (wq:=wq111) (X11 4) (by simp [C7,G7,<-hx0,<-hx1,Rs.bind,t64,hm50,tq0,hm51,tq1,hm81,hm91,tr1,hm111]) hN111 (hW111 _)).2)
       have O1:=S91;refine rg hB a6 [0,3,4,5,7,8] [0,3,5,7,8] [(2,sc J E (.agg [.int .i64 0,.int .u64 0,.bool .ff,.int .i64 0,.sl none none 0 0 2 (fun _ => []),.int .i64 0,.int .u64 0,.int .u64 0]) N91 W91 p91.note)] hF fun X9 a0 w1 hF => ?_
       obtain ⟨bs,hbs⟩:∃ b:Bool,b=true:=⟨_,rfl⟩
       replace hF:=hF.memS (cp hbs J E N91 (W91 (X9 2)) p91.note);refine wp_seq (wp_seq ?_);refine rg hB a6 [53,0,3,4,5,7] [0,3,5,7] [(6,.r fun _ => .bool .ff),(10,.r fun _ => .bool .ff)] hF (hob:=by intro X; subst hB; simp only [b5,Ob.holds,BE.den]<;>and_intros<;>repeat first | trivial | rfl | exact iE _ | exact (fun _ _ => by kernel_rfl) | refine ⟨?_,?_⟩ | intro h | exact Int.le_refl _ | decide | omega) fun X10 a0 w1 hF => ?_
       replace hF:=hF.headS (v':=.bool .tt) (Sim.bool (by subst hB; rw [hbs]; rfl)) rfl;replace hF:=hF.memS (ct hbs J E N91 (W91 (X9 2)) p91.note);refine j0 hF rfl (fun hF => ?_);exact wp_ret ((rst hB a6 hF (q:=p91) (wq:=wq91) (X9 2) (by simp [C7,G7,<-hx0,<-hx1,Rs.bind,t64,hm50,tq0,hm51,tq1,hm81,hm91]) hN91 (hW91 _)).1)
      have O1:=S81;refine rg hB a6 [0,3,4,5,7] [0,3,5,7] [(2,sc J E (i7) N81 W81 p81.note)] hF fun X8 a0 w1 hF => ?_
      have O1:=dQ 0 b J E hE N81 (W81 (X8 2)) p81.note l;refine wp_seq (rg hB a6 [0,3,4,5,7,8] [0,3,5,7,8] [(2,dc J E (.agg [.int .i64 0,.int .u64 0,.bool .ff,.int .i64 0,.sl none none 0 0 2 (fun _ => []),.int .i64 0,.int .u64 0,.int .u64 0]) N81 (W81 (X8 2)) p81.note)] hF fun X9 a0 w1 hF => ?_);obtain ⟨bs,hbs⟩:∃ b:Bool,b=true:=⟨_,rfl⟩
      replace hF:=hF.memS (cp hbs J E N81 (W81 (X8 2)) p81.note);refine wp_seq (wp_seq ?_);refine rg hB a6 [53,0,3,4,5,7] [0,3,5,7] [(6,.r fun _ => .bool .ff),(10,.r fun _ => .bool .ff)] hF (hob:=by intro X; subst hB; simp only [b5,Ob.holds,BE.den]<;>and_intros<;>repeat first | trivial | rfl | exact iE _ | exact (fun _ _ => by kernel_rfl) | refine ⟨?_,?_⟩ | intro h | exact Int.le_refl _ | decide | omega) fun X10 a0 w1 hF => ?_
      replace hF:=hF.headS (v':=.bool .tt) (Sim.bool (by subst hB; rw [hbs]; rfl)) rfl;replace hF:=hF.memS (ct hbs J E N81 (W81 (X8 2)) p81.note);refine j0 hF rfl (fun hF => ?_);exact wp_ret ((rst hB a6 hF (q:=p81) (wq:=wq81) (X8 2) (by simp [C7,G7,<-hx0,<-hx1,Rs.bind,t64,hm50,tq0,hm51,tq1,hm81]) hN81 (hW81 _)).1)
     have O1:=S51;refine rg hB a6 [0,3,4,5,7] [0,3,5,7] [(2,sc J E (.agg [.int .i64 0,.int .u64 0,.bool .ff,.int .i64 0,.sl none none 0 0 2 (fun _ => []),.int .i64 0,.int .u64 0,.int .u64 0]) N51 W51 p51.note)] hF fun X5 a0 w1 hF => ?_
     refine wp_seq (wp_seq (rg hB a6 [30,0,3,4,5,7] [0,3,5,7] [] hF fun X6 a0 w1 hF => ?_));refine j0 hF rfl (fun hF => ?_);exact wp_ret ((rst hB a6 hF (q:=p51) (wq:=wq51) (X5 2) (by simp [C7,G7,<-hx0,<-hx1,Rs.bind,t64,hm50,tq0,hm51]) hN51 (hW51 _)).1)
    exfalso
    have h7:¬ l.len < 64:=by subst hB; simpa [std,a8] using hb
    exact h7 h6
   have tq0:gk g0 5=true:=by subst hB; rw [<-hq0]; revert hb; cases q0<;>simp [std]
   refine wp_skip (wp_seq ?_)
   rcases (ih 0 b J hJ E hE N50 p50 hR50 hp50 hn50 x0 hk0 (by skip; have:=hl50; omega)).two (J2 _ _ _ _) hp50 hn50 hR50 with ⟨v80,p80,N80,hm80,hs80,hp80,hn80,hR80,hN80,S80⟩ | ⟨wq80,p80,N80,W80,hm80,hs80,hN80,hW80,S80⟩
   .have O1:=S80
    refine rg hB a6 [0,3,4,5,7] [0,3,5,7] [(2,lc J E (i7) N80 p80)] hF fun X8 a0 w1 hF => ?_
    apply wp_seq
    rcases (P6 0 b J hJ E hE N80 p80 hR80 hp80 hn80 l).two (j1 _ _ _) hp80 hn80 hR80 with ⟨h0,p90,N90,hm90,hs90,hp90,hn90,hR90,hN90,S90⟩ | ⟨wq90,p90,N90,W90,hm90,hs90,hN90,hW90,S90⟩
    .have hl90:=B0 hm90
     have hg90:=hp80.get hm90;have O1:=S90;refine rg hB a6 [0,3,4,5,7,8] [0,3,5,7,8] [(2,lc J E (s5 h0) N90 p90)] hF fun X9 a0 w1 hF => ?_
     obtain ⟨r0,hr0⟩:=eqv (gk h0 1);obtain ⟨s0,hs0⟩:=eqv (gk h0 5);refine wp_seq (wp_seq ?_);refine rg hB a6 [53,0,3,4,5,7] [0,3,5,7] [(6,.r fun _ => .bool (.v r0)),(10,.r fun _ => .bool (.v s0))] hF (hob:=by intro X; subst hB; simp only [b5,Ob.holds,BE.den]<;>and_intros<;>repeat first | trivial | rfl | exact (by rw [hr0]; exact E7 h0 1) | exact by rw [hr0]; exact E7 h0 1 | exact (by rw [hs0]; exact E7 h0 5) | exact by rw [hs0]; exact E7 h0 5 | exact (fun _ _ => by kernel_rfl) | refine ⟨?_,?_⟩ | intro h | exact Int.le_refl _ | decide | omega) fun X10 a0 w1 hF => ?_
     apply a7 hF rfl<;>intro hb hF
     .have tr0:(gk h0 1 || gk h0 5)=false:=by subst hB; rw [<-hr0,<-hs0]; revert hb; cases r0<;>cases s0<;>simp [std]
      exact wp_ret ((rgo hB a6 hF (v:=()) (q:=p90) (by simp [C7,G7,<-hx0,<-hx1,Rs.bind,t64,hm50,tq0,hm80,hm90,tr0]) hN90).1)
     have tr0:(gk h0 1 || gk h0 5)=true:=by subst hB; rw [<-hr0,<-hs0]; revert hb; cases r0<;>cases s0<;>simp [std]
     refine wp_skip ?_
     rcases (rj 0 b J hJ E hE N90 p90 hR90 hp90 hn90 x0 g0.ver).two (cM _ _ _ _) hp90 hn90 hR90 with ⟨d0,p110,N110,hm110,hs110,hp110,hn110,hR110,hN110,S110⟩ | ⟨wq110,p110,N110,W110,hm110,hs110,hN110,hW110,S110⟩
     .have O1:=S110
      refine rg hB a6 [0,3,4] [0,3] [(4,lc J E (.bool (.v d0)) N110 p110)] hF fun X11 a0 w1 hF => ?_
      refine rg hB a6 [4,0,3] [0,3] [] hF fun X3 a0 w1 hF => ?_
      replace hF:=hF.headS (v':=.int .i64 1) (by subst hB; exact zr) rfl;refine i4 (wp_seq (wp_seq (rg hB a6 [15,0,3,4] [0,3] [] hF fun X2 a0 w1 hF => ?_)));apply a7 hF rfl<;>intro hb hF
      .skip
       have O1:=SC1;refine wp_skip (wp_seq (wp_block (wp_seq (rg hB a6 [0,3,4,5] [0,3,5] [(2,.r fun _ => .tup [.agg [.int .i64 x1.len,.int .u64 x1.bits],.int .i64 y1])] hF fun X4 a0 w1 hF => ?_))));apply wp_seq
       rcases (P6 0 b J hJ E hE N110 p110 hR110 hp110 hn110 x1).two (j1 _ _ _) hp110 hn110 hR110 with ⟨g1,p51,N51,hm51,hs51,hp51,hn51,hR51,hN51,S51⟩ | ⟨wq51,p51,N51,W51,hm51,hs51,hN51,hW51,S51⟩
       .have hl51:=B0 hm51
        have hg51:=hp110.get hm51;have O1:=S51;refine rg hB a6 [0,3,4,5,7] [0,3,5,7] [(2,lc J E (s5 g1) N51 p51)] hF fun X5 a0 w1 hF => ?_
        refine wp_seq (wp_seq (rg hB a6 [30,0,3,4,5,7] [0,3,5,7] [] hF fun X6 a0 w1 hF => ?_));refine i9 hF rfl (fun hF => ?_);obtain ⟨q1,hq1⟩:=eqv (gk g1 5);refine wp_skip (wp_seq (wp_seq ?_));refine rg hB a6 [33,0,3,4,5,7] [0,3,5,7] [(1,.r fun _ => .bool (.v q1))] hF (hob:=by intro X; subst hB; simp only [b5,Ob.holds,BE.den]<;>and_intros<;>repeat first | trivial | rfl | exact (by rw [hq1]; exact E7 g1 5) | exact by rw [hq1]; exact E7 g1 5 | exact (fun _ _ => by kernel_rfl) | refine ⟨?_,?_⟩ | intro h | exact Int.le_refl _ | decide | omega) fun X7 a0 w1 hF => ?_
        apply a7 hF rfl<;>intro hb hF
        .have tq1:gk g1 5=false:=by subst hB; rw [<-hq1]; revert hb; cases q1<;>simp [std]
         refine wp_exit (rg hB a6 [4,0,3] [0,3] [] hF fun X3 a0 w1 hF => ?_);replace hF:=hF.headS (v':=.int .i64 2) (by subst hB; exact zr) rfl;refine i4 (wp_seq (wp_seq (rg hB a6 [15,0,3,4] [0,3] [] hF fun X2 a0 w1 hF => ?_)));replace hF:=hF.headS (v':=.bool .ff) (Sim.bool (by subst hB; rfl)) rfl;refine i9 hF rfl (fun hF => ?_);exact wp_exit ((rgo hB a6 hF (v:=()) (q:=p51) (by simp [C7,G7,<-hx0,<-hx1,Rs.bind,t64,hm50,tq0,hm80,hm90,tr0,hm110,hm51,tq1]) hN51).2)
        have tq1:gk g1 5=true:=by subst hB; rw [<-hq1]; revert hb; cases q1<;>simp [std]
        refine wp_skip (wp_seq ?_)
        rcases (ih 0 b J hJ E hE N51 p51 hR51 hp51 hn51 x1 hk1 (by skip; have:=hl50; have:=hs80.le; have:=hs90.le; have:=hs110.le; have:=hl51; omega)).two (J2 _ _ _ _) hp51 hn51 hR51 with ⟨v81,p81,N81,hm81,hs81,hp81,hn81,hR81,hN81,S81⟩ | ⟨wq81,p81,N81,W81,hm81,hs81,hN81,hW81,S81⟩
        .have O1:=S81
         refine rg hB a6 [0,3,4,5,7] [0,3,5,7] [(2,lc J E (i7) N81 p81)] hF fun X8 a0 w1 hF => ?_
         apply wp_seq
         rcases (P6 0 b J hJ E hE N81 p81 hR81 hp81 hn81 l).two (j1 _ _ _) hp81 hn81 hR81 with ⟨h1,p91,N91,hm91,hs91,hp91,hn91,hR91,hN91,S91⟩ | ⟨wq91,p91,N91,W91,hm91,hs91,hN91,hW91,S91⟩
         .have hl91:=B0 hm91
          have hg91:=hp81.get hm91;have O1:=S91;refine rg hB a6 [0,3,4,5,7,8] [0,3,5,7,8] [(2,lc J E (s5 h1) N91 p91)] hF fun X9 a0 w1 hF => ?_
          obtain ⟨r1,hr1⟩:=eqv (gk h1 1);obtain ⟨s1,hs1⟩:=eqv (gk h1 5);refine wp_seq (wp_seq ?_);refine rg hB a6 [53,0,3,4,5,7] [0,3,5,7] [(6,.r fun _ => .bool (.v r1)),(10,.r fun _ => .bool (.v s1))] hF (hob:=by intro X; subst hB; simp only [b5,Ob.holds,BE.den]<;>and_intros<;>repeat first | trivial | rfl | exact (by rw [hr1]; exact E7 h1 1) | exact by rw [hr1]; exact E7 h1 1 | exact (by rw [hs1]; exact E7 h1 5) | exact by rw [hs1]; exact E7 h1 5 | exact (fun _ _ => by kernel_rfl) | refine ⟨?_,?_⟩ | intro h | exact Int.le_refl _ | decide | omega) fun X10 a0 w1 hF => ?_
          apply a7 hF rfl<;>intro hb hF
          .have tr1:(gk h1 1 || gk h1 5)=false:=by subst hB; rw [<-hr1,<-hs1]; revert hb; cases r1<;>cases s1<;>simp [std]
           exact wp_ret ((rgo hB a6 hF (v:=()) (q:=p91) (by simp [C7,G7,<-hx0,<-hx1,Rs.bind,t64,hm50,tq0,hm80,hm90,tr0,hm110,hm51,tq1,hm81,hm91,tr1]) hN91).1)
          have tr1:(gk h1 1 || gk h1 5)=true:=by subst hB; rw [<-hr1,<-hs1]; revert hb; cases r1<;>cases s1<;>simp [std]
          refine wp_skip ?_
          rcases (rj 0 b J hJ E hE N91 p91 hR91 hp91 hn91 x1 g1.ver).two (cM _ _ _ _) hp91 hn91 hR91 with ⟨d1,p111,N111,hm111,hs111,hp111,hn111,hR111,hN111,S111⟩ | ⟨wq111,p111,N111,W111,hm111,hs111,hN111,hW111,S111⟩
          .have O1:=S111
           refine rg hB a6 [0,3,4] [0,3] [(4,lc J E (.bool (.v d1)) N111 p111)] hF fun X11 a0 w1 hF => ?_
           refine rg hB a6 [4,0,3] [0,3] [] hF fun X3 a0 w1 hF => ?_
           replace hF:=hF.headS (v':=.int .i64 2) (by subst hB; exact zr) rfl;refine i4 (wp_seq (wp_seq (rg hB a6 [15,0,3,4] [0,3] [] hF fun X2 a0 w1 hF => ?_)));replace hF:=hF.headS (v':=.bool .ff) (Sim.bool (by subst hB; rfl)) rfl;refine i9 hF rfl (fun hF => ?_);exact wp_exit ((rgo hB a6 hF (v:=()) (q:=p111) (by simp [C7,G7,<-hx0,<-hx1,Rs.bind,t64,hm50,tq0,hm80,hm90,tr0,hm110,hm51,tq1,hm81,hm91,tr1,hm111]) hN111).2)
          have O1:=S111;refine rg hB a6 [0,3,4] [0,3] [(4,sc J E (.bool .ff) N111 W111 p111.note)] hF fun X11 a0 w1 hF => ?_
          refine rg hB a6 [4,0,3] [0,3] [] hF fun X3 a0 w1 hF => ?_
          replace hF:=hF.headS (v':=.int .i64 2) (by subst hB; exact zr) rfl;refine i4 (wp_seq (wp_seq (rg hB a6 [15,0,3,4] [0,3] [] hF fun X2 a0 w1 hF => ?_)));replace hF:=hF.headS (v':=.bool .ff) (Sim.bool (by subst hB; rfl)) rfl;refine i9 hF rfl (fun hF => ?_);exact wp_exit ((rst hB a6 hF (q:=p111) (wq:=wq111) (X11 4) (by simp [C7,G7,<-hx0,<-hx1,Rs.bind,t64,hm50,tq0,hm80,hm90,tr0,hm110,hm51,tq1,hm81,hm91,tr1,hm111]) hN111 (hW111 _)).2)
         have O1:=S91;refine rg hB a6 [0,3,4,5,7,8] [0,3,5,7,8] [(2,sc J E (.agg [.int .i64 0,.int .u64 0,.bool .ff,.int .i64 0,.sl none none 0 0 2 (fun _ => []),.int .i64 0,.int .u64 0,.int .u64 0]) N91 W91 p91.note)] hF fun X9 a0 w1 hF => ?_
         obtain ⟨bs,hbs⟩:∃ b:Bool,b=true:=⟨_,rfl⟩
         replace hF:=hF.memS (cp hbs J E N91 (W91 (X9 2)) p91.note);refine wp_seq (wp_seq ?_);refine rg hB a6 [53,0,3,4,5,7] [0,3,5,7] [(6,.r fun _ => .bool .ff),(10,.r fun _ => .bool .ff)] hF (hob:=by intro X; subst hB; simp only [b5,Ob.holds,BE.den]<;>and_intros<;>repeat first | trivial | rfl | exact iE _ | exact (fun _ _ => by kernel_rfl) | refine ⟨?_,?_⟩ | intro h | exact Int.le_refl _ | decide | omega) fun X10 a0 w1 hF => ?_
         replace hF:=hF.headS (v':=.bool .tt) (Sim.bool (by subst hB; rw [hbs]; rfl)) rfl;replace hF:=hF.memS (ct hbs J E N91 (W91 (X9 2)) p91.note);refine j0 hF rfl (fun hF => ?_);exact wp_ret ((rst hB a6 hF (q:=p91) (wq:=wq91) (X9 2) (by simp [C7,G7,<-hx0,<-hx1,Rs.bind,t64,hm50,tq0,hm80,hm90,tr0,hm110,hm51,tq1,hm81,hm91]) hN91 (hW91 _)).1)
        have O1:=S81;refine rg hB a6 [0,3,4,5,7] [0,3,5,7] [(2,sc J E (i7) N81 W81 p81.note)] hF fun X8 a0 w1 hF => ?_
        have O1:=dQ 0 b J E hE N81 (W81 (X8 2)) p81.note l;refine wp_seq (rg hB a6 [0,3,4,5,7,8] [0,3,5,7,8] [(2,dc J E (.agg [.int .i64 0,.int .u64 0,.bool .ff,.int .i64 0,.sl none none 0 0 2 (fun _ => []),.int .i64 0,.int .u64 0,.int .u64 0]) N81 (W81 (X8 2)) p81.note)] hF fun X9 a0 w1 hF => ?_);obtain ⟨bs,hbs⟩:∃ b:Bool,b=true:=⟨_,rfl⟩
        replace hF:=hF.memS (cp hbs J E N81 (W81 (X8 2)) p81.note);refine wp_seq (wp_seq ?_);refine rg hB a6 [53,0,3,4,5,7] [0,3,5,7] [(6,.r fun _ => .bool .ff),(10,.r fun _ => .bool .ff)] hF (hob:=by intro X; subst hB; simp only [b5,Ob.holds,BE.den]<;>and_intros<;>repeat first | trivial | rfl | exact iE _ | exact (fun _ _ => by kernel_rfl) | refine ⟨?_,?_⟩ | intro h | exact Int.le_refl _ | decide | omega) fun X10 a0 w1 hF => ?_
        replace hF:=hF.headS (v':=.bool .tt) (Sim.bool (by subst hB; rw [hbs]; rfl)) rfl;replace hF:=hF.memS (ct hbs J E N81 (W81 (X8 2)) p81.note);refine j0 hF rfl (fun hF => ?_);exact wp_ret ((rst hB a6 hF (q:=p81) (wq:=wq81) (X8 2) (by simp [C7,G7,<-hx0,<-hx1,Rs.bind,t64,hm50,tq0,hm80,hm90,tr0,hm110,hm51,tq1,hm81]) hN81 (hW81 _)).1)
       have O1:=S51;refine rg hB a6 [0,3,4,5,7] [0,3,5,7] [(2,sc J E (.agg [.int .i64 0,.int .u64 0,.bool .ff,.int .i64 0,.sl none none 0 0 2 (fun _ => []),.int .i64 0,.int .u64 0,.int .u64 0]) N51 W51 p51.note)] hF fun X5 a0 w1 hF => ?_
       refine wp_seq (wp_seq (rg hB a6 [30,0,3,4,5,7] [0,3,5,7] [] hF fun X6 a0 w1 hF => ?_));refine j0 hF rfl (fun hF => ?_);exact wp_ret ((rst hB a6 hF (q:=p51) (wq:=wq51) (X5 2) (by simp [C7,G7,<-hx0,<-hx1,Rs.bind,t64,hm50,tq0,hm80,hm90,tr0,hm110,hm51]) hN51 (hW51 _)).1)
      exfalso
      have h7:¬ l.len < 64:=by subst hB; simpa [std,a8] using hb
      exact h7 h6
     have O1:=S110;refine rg hB a6 [0,3,4] [0,3] [(4,sc J E (.bool .ff) N110 W110 p110.note)] hF fun X11 a0 w1 hF => ?_
     refine rg hB a6 [4,0,3] [0,3] [] hF fun X3 a0 w1 hF => ?_
     replace hF:=hF.headS (v':=.int .i64 1) (by subst hB; exact zr) rfl;refine i4 (wp_seq (wp_seq (rg hB a6 [15,0,3,4] [0,3] [] hF fun X2 a0 w1 hF => ?_)));apply a7 hF rfl<;>intro hb hF
     .skip
      have O1:=SC1;refine wp_skip (wp_seq (wp_block (wp_seq (rg hB a6 [0,3,4,5] [0,3,5] [(2,.r fun _ => .tup [.agg [.int .i64 x1.len,.int .u64 x1.bits],.int .i64 y1])] hF fun X4 a0 w1 hF => ?_))));have O1:=dQ 0 b J E hE N110 (W110 (X11 4)) p110.note x1;refine wp_seq (rg hB a6 [0,3,4,5,7] [0,3,5,7] [(2,dc J E (.agg [.int .i64 0,.int .u64 0,.bool .ff,.int .i64 0,.sl none none 0 0 2 (fun _ => []),.int .i64 0,.int .u64 0,.int .u64 0]) N110 (W110 (X11 4)) p110.note)] hF fun X5 a0 w1 hF => ?_);refine wp_seq (wp_seq (rg hB a6 [30,0,3,4,5,7] [0,3,5,7] [] hF fun X6 a0 w1 hF => ?_));refine j0 hF rfl (fun hF => ?_);exact wp_ret ((rst hB a6 hF (q:=p110) (wq:=wq110) (X11 4) (by simp [C7,G7,<-hx0,<-hx1,Rs.bind,t64,hm50,tq0,hm80,hm90,tr0,hm110]) hN110 (hW110 _)).1)
     exfalso
     have h7:¬ l.len < 64:=by subst hB; simpa [std,a8] using hb
     exact h7 h6
    have O1:=S90;refine rg hB a6 [0,3,4,5,7,8] [0,3,5,7,8] [(2,sc J E (.agg [.int .i64 0,.int .u64 0,.bool .ff,.int .i64 0,.sl none none 0 0 2 (fun _ => []),.int .i64 0,.int .u64 0,.int .u64 0]) N90 W90 p90.note)] hF fun X9 a0 w1 hF => ?_
    obtain ⟨bs,hbs⟩:∃ b:Bool,b=true:=⟨_,rfl⟩
    replace hF:=hF.memS (cp hbs J E N90 (W90 (X9 2)) p90.note);refine wp_seq (wp_seq ?_);refine rg hB a6 [53,0,3,4,5,7] [0,3,5,7] [(6,.r fun _ => .bool .ff),(10,.r fun _ => .bool .ff)] hF (hob:=by intro X; subst hB; simp only [b5,Ob.holds,BE.den]<;>and_intros<;>repeat first | trivial | rfl | exact iE _ | exact (fun _ _ => by kernel_rfl) | refine ⟨?_,?_⟩ | intro h | exact Int.le_refl _ | decide | omega) fun X10 a0 w1 hF => ?_
    replace hF:=hF.headS (v':=.bool .tt) (Sim.bool (by subst hB; rw [hbs]; rfl)) rfl;replace hF:=hF.memS (ct hbs J E N90 (W90 (X9 2)) p90.note);refine j0 hF rfl (fun hF => ?_);exact wp_ret ((rst hB a6 hF (q:=p90) (wq:=wq90) (X9 2) (by simp [C7,G7,<-hx0,<-hx1,Rs.bind,t64,hm50,tq0,hm80,hm90]) hN90 (hW90 _)).1)
   have O1:=S80;refine rg hB a6 [0,3,4,5,7] [0,3,5,7] [(2,sc J E (i7) N80 W80 p80.note)] hF fun X8 a0 w1 hF => ?_
   have O1:=dQ 0 b J E hE N80 (W80 (X8 2)) p80.note l;refine wp_seq (rg hB a6 [0,3,4,5,7,8] [0,3,5,7,8] [(2,dc J E (.agg [.int .i64 0,.int .u64 0,.bool .ff,.int .i64 0,.sl none none 0 0 2 (fun _ => []),.int .i64 0,.int .u64 0,.int .u64 0]) N80 (W80 (X8 2)) p80.note)] hF fun X9 a0 w1 hF => ?_);obtain ⟨bs,hbs⟩:∃ b:Bool,b=true:=⟨_,rfl⟩
   replace hF:=hF.memS (cp hbs J E N80 (W80 (X8 2)) p80.note);refine wp_seq (wp_seq ?_);refine rg hB a6 [53,0,3,4,5,7] [0,3,5,7] [(6,.r fun _ => .bool .ff),(10,.r fun _ => .bool .ff)] hF (hob:=by intro X; subst hB; simp only [b5,Ob.holds,BE.den]<;>and_intros<;>repeat first | trivial | rfl | exact iE _ | exact (fun _ _ => by kernel_rfl) | refine ⟨?_,?_⟩ | intro h | exact Int.le_refl _ | decide | omega) fun X10 a0 w1 hF => ?_
   replace hF:=hF.headS (v':=.bool .tt) (Sim.bool (by subst hB; rw [hbs]; rfl)) rfl;replace hF:=hF.memS (ct hbs J E N80 (W80 (X8 2)) p80.note);refine j0 hF rfl (fun hF => ?_);exact wp_ret ((rst hB a6 hF (q:=p80) (wq:=wq80) (X8 2) (by simp [C7,G7,<-hx0,<-hx1,Rs.bind,t64,hm50,tq0,hm80]) hN80 (hW80 _)).1)
  have O1:=S50;refine rg hB a6 [0,3,4,5,7] [0,3,5,7] [(2,sc J E (.agg [.int .i64 0,.int .u64 0,.bool .ff,.int .i64 0,.sl none none 0 0 2 (fun _ => []),.int .i64 0,.int .u64 0,.int .u64 0]) N50 W50 p50.note)] hF fun X5 a0 w1 hF => ?_
  refine wp_seq (wp_seq (rg hB a6 [30,0,3,4,5,7] [0,3,5,7] [] hF fun X6 a0 w1 hF => ?_));refine j0 hF rfl (fun hF => ?_);exact wp_ret ((rst hB a6 hF (q:=p50) (wq:=wq50) (X5 2) (by simp [C7,G7,<-hx0,<-hx1,Rs.bind,t64,hm50]) hN50 (hW50 _)).1)
 have h6:¬ l.len < 64:=by subst hB; simpa [std,a8] using hb
 have t64:l.len=64:=by omega
 exact wp_exit ((rgo hB a6 hF (v:=()) (q:=p) (by simp [C7,G7,<-hx0,<-hx1,Rs.bind,t64]) hN0).2)
theorem Ar (k0 b:Nat) (J:i6) (hJ:k8 J) (E:s6) (hE:E.n<=1000000) (N:Nat) (p:Pst) (hR:Rel E N p) (hp:i5 p) (hn:p.n<=1000000) (l:Lab) (hl:LOk l) (n:Nat) (ih:El n) (hf:p.n < n + 1):D5 165 k0 b J E N p [b6 l] (fun _ => i7) (i7) (C7 (J.budget - E.n) (n + 1) l p):=D5.re (xJ b J hJ E hE N p hR hp hn l hl n ih hf) (by repeat (first | exact trivial | refine ⟨zr,?_⟩))
theorem rp:∀ n,El n
 | 0 => fun _ _ _ _ _ _ _ _ _ _ _ _ _ h => absurd h (Nat.not_lt_zero _)
 | n + 1 => fun k0 b J hJ E hE N p hR hp hn l hl hf => Ar k0 b J hJ E hE N p hR hp hn l hl n (rp n) hf
theorem Af (x:RA) (h:U8 x) (l:Lab) (hl:U64 l.bits):j5 Tryz.prog 260 [u9 x,b6 l] (fun y => .tup [u9 ⟨y.A 0,y.c 0,(P0 x l).1.rn⟩,u9 ⟨y.A 1,y.c 1,(P0 x l).2.1.rn⟩,.int .i64 (P0 x l).2.2]):=by
 have hf:=h.few;exact tU x.A x.r.n x.c x.r.f (by omega) x.r.kd x.r.nx x.r.mrk h.nx h.key l hl
theorem Dz (x y:RA) (h:U8 x) (h':U8 y):j5 Tryz.prog 264 [u9 x,u9 y] (fun z => .tup [u9 ⟨z.A 0,z.c 0,(cx x y).1.rn⟩,.int .i64 (cx x y).2]):=by
 have hf:=h.few;have hf':=h'.few;exact vH x.A x.r.n x.c x.r.f (by omega) x.r.kd x.r.nx x.r.mrk h.nx y.A y.r.n y.c y.r.f (by omega) y.r.kd y.r.nx y.r.mrk h'.nx
theorem Aa (b:Nat) (J:i6) (hJ:k8 J) (E:s6) (hE:E.n<=1000000) (N:Nat) (p:Pst) (hR:Rel E N p) (hp:i5 p) (hn:p.n<=1000000) (l:Lab) (hl:LOk l) (v:Int) (x:RA) (hx:U8 x) (n:Nat) (hf:p.n < n):D5 199 0 b J E N p [b6 l,.int .u64 v,u9 x] (fun _ => i7) (i7) (l7 (J.budget - E.n) n l v x p):=by
 intro m w hm hargs hpre;have hN0:N=E.n - p.n:=by have:=hR.n; omega
 have SC0:=Q5 l hl.u 0 (.inl rfl);have SC1:=Q5 l hl.u 1 (.inr rfl);have hk0:=hl.ch 0;have hk1:=hl.ch 1;simp only [b6] at SC0 SC1;obtain ⟨x0,hx0⟩:=eqv (chV l 0);rw [<-hx0] at SC0 hk0;obtain ⟨x1,hx1⟩:=eqv (chV l 1);rw [<-hx1] at SC1 hk1;obtain ⟨y0,hy0⟩:=eqv (chE l 0);rw [<-hy0] at SC0;obtain ⟨y1,hy1⟩:=eqv (chE l 1);rw [<-hy1] at SC1;have SH:=Af x hx l hl.u;obtain ⟨e,he⟩:=eqv ((P0 x l).2.2);rw [<-he] at SH;obtain ⟨r0,hr0⟩:=eqv ((P0 x l).1.rn);rw [<-hr0] at SH;obtain ⟨r1,hr1⟩:=eqv ((P0 x l).2.1.rn);rw [<-hr1] at SH;simp only [b6] at SH;refine enX 87 hm hpre hargs Tryz.func199 fun B hB a0 hF => ?_
 refine wp_seq (rg hB a6 [0,2,5,7] [0,5,7] [] hF fun X0 a0 w1 hF => ?_);have O1:=SH;refine wp_seq (rg hB a6 [0,2,5,8,9,10] [0,5,8,9] [(2,.r fun y => .tup [.agg [.int .i64 r0.kd,.sl none (y.A 0) r0.n (y.c 0) 2 (fun i => itC (r0.f i)),.int .i64 r0.nx.len,.int .u64 r0.nx.bits,.int .u64 r0.mrk],.agg [.int .i64 r1.kd,.sl none (y.A 1) r1.n (y.c 1) 2 (fun i => itC (r1.f i)),.int .i64 r1.nx.len,.int .u64 r1.nx.bits,.int .u64 r1.mrk],.int .i64 e])] hF fun X1 a0 w1 hF => ?_);refine wp_seq (wp_seq (rg hB a6 [26,0,2,5,8,9] [0,5,8,9] [] hF fun X2 a0 w1 hF => ?_));apply a7 hF rfl<;>intro hb hF
 .have t0:¬ e=0:=by subst hB; simpa [std,a8] using hb
  exact wp_ret ((rgo hB a6 hF (v:=()) (q:=p) (by simp [l7,s8,<-hx0,<-hx1,<-he,Rs.bind,t0]) hN0).1)
 have t0:e=0:=by subst hB; simpa [std,a8] using hb
 refine wp_skip (wp_seq (rg hB a6 [11,0,2,5] [0,5,29] [] hF fun X3 a0 w1 hF => ?_));obtain ⟨hv,hhv⟩:∃ f:Nat -> RA,f=fun i => if i=0 then ⟨(X1 2).A 0,(X1 2).c 0,r0⟩ else ⟨(X1 2).A 1,(X1 2).c 1,r1⟩:=⟨_,rfl⟩
 have hv0:(hv 0).r.abs=(P0 x l).1:=by rw [hhv]; show r0.abs=_; rw [hr0]; exact V1 _
 have hv1:(hv 1).r.abs=(P0 x l).2.1:=by rw [hhv]; show r1.abs=_; rw [hr1]; exact V1 _
 replace hF:=hF.headS (v':=.sl (some 11) (some ⟨(X3 2).b,0,none⟩) 2 2 5 (fun i => fR (hv i))) (Sim.recell (fun i hi => by
   subst hhv
   match i,hi with
   | 0,_ => rfl
   | 1,_ => rfl)) rfl
 refine wp_seq (wp_seq (rg hB a6 [12,0,2,5,11] [0,5,29] [] hF fun X4 a0 w1 hF => ?_));refine wp_block (wp_loop_rounds 3 (C3 (wp_seq (wp_seq (rg hB a6 [31,0,2,5,11,12] [0,5,29] [] hF fun X5 a0 w1 hF => ?_)))));replace hF:=hF.headS (v':=.bool .tt) (Sim.bool (by subst hB; rfl)) rfl;refine j0 hF rfl (fun hF => ?_);have O1:=SC0;refine wp_skip (wp_seq (wp_block (wp_seq (rg hB a6 [0,2,5,11,12,13] [0,5,13,29] [(2,.r fun _ => .tup [.agg [.int .i64 x0.len,.int .u64 x0.bits],.int .i64 y0])] hF fun X7 a0 w1 hF => ?_))));refine wp_seq (rg hB a6 [15,0,2,5,11,12,13] [0,5,13,29] [] hF fun X8 a0 w1 hF => ?_);refine wp_block (l0 (ι:=LSt) (fun q => [(15,.bool (lsB q))]) (fun q => [(0,⟨b,174,lsC J E q⟩)]) (fun q => []) (fun q => match q with | .go a r M => s8 (J.budget - E.n) l v x0 (hv 0).r.abs n p=s8 (J.budget - E.n) l v x0 (hv 0).r.abs a r/\i5 r/\r.n<=1000000/\Rel E M r/\r.n < a/\r.n<=p.n | .dn r M => s8 (J.budget - E.n) l v x0 (hv 0).r.abs n p = .ok true r/\i5 r/\r.n<=1000000/\Rel E M r/\r.n<=p.n | .sp M Q u => ∃ (X:f9) (wq:Wq) (pp:Pst),l7 (J.budget - E.n) n l v x p = .stop wq pp/\M=E.n - pp.n/\Q=wqA X wq/\u=pp.note) (fun q => lsM q) (.go n p N) ⟨rfl,hp,hn,hR,(by skip; omega),(by skip; omega)⟩ hF ?_)
 rintro q hJ a0 w1 hF
 rcases q with ⟨nn0,p0,N0⟩ | ⟨p0,N0⟩ | ⟨N0,Q0,t0⟩
 .dsimp only [lsC,lsB] at hJ hF
  obtain ⟨hrun0,hp0,hn0,hR0,hf0,hle0⟩:=hJ;obtain ⟨m0,rfl⟩:∃ n2,nn0=n2 + 1:=⟨nn0 - 1,by omega⟩
  have hN0:N0=E.n - p0.n:=by have:=hR0.n; omega
  refine wp_seq (wp_seq (rg hB a6 [48,0,2,5,11,12,13] [0,5,13,29] [] hF fun X9 a0 w1 hF => ?_));refine j0 hF rfl (fun hF => ?_);refine wp_skip (wp_block (wp_seq ?_))
  rcases (P6 0 b J hJ E hE N0 p0 hR0 hp0 hn0 x0).two (j1 _ _ _) hp0 hn0 hR0 with ⟨g0,p100,N100,hm100,hs100,hp100,hn100,hR100,hN100,S100⟩ | ⟨wq100,p100,N100,W100,hm100,hs100,hN100,hW100,S100⟩
  .have hl100:=B0 hm100
   have hg100:=hp0.get hm100;have O1:=S100;refine rg hB a6 [0,2,5,11,12,13,16] [0,5,13,16,29] [(2,lc J E (s5 g0) N100 p100)] hF fun X10 a0 w1 hF => ?_
   refine wp_seq (wp_seq (rg hB a6 [59,0,2,5,11,12,13,16] [0,5,13,16,29] [] hF fun X11 a0 w1 hF => ?_));apply a7 hF rfl<;>intro hb hF
   .have tq0:(g0.has && !decide (g0.x.r.kd=5))=true:=by
     have h9:(if g0.has=true then !decide (g0.x.r.kd=5) else false)=true:=by
      have h8:(if g0.has=true then (g0.x.r.kd != 5) else false)=true:=by subst hB; exact hb
      exact h8
     rw [<-h9]; cases g0.has<;>rfl
    refine wp_seq (rg hB a6 [0,2,5,11,12,13,15] [0,5,13,29] [] hF fun X12 a0 w1 hF => ?_);replace hF:=hF.keep [15,0,2,5,11,12,13] [0,5,13,29];exact wp_exit (⟨.dn p100 N100,⟨by rw [hrun0]; simp [s8,Rs.bind,t0,<-hv0,<-hv1,hrun0,s8,hm100,tq0],hp100,hn100,hR100,by have:=hl100; have:=hle0; omega⟩,by simp [lsM],hF⟩)
   have tq0:(g0.has && !decide (g0.x.r.kd=5))=false:=by
    have h9:(if g0.has=true then !decide (g0.x.r.kd=5) else false)=false:=by
     have h8:(if g0.has=true then (g0.x.r.kd != 5) else false)=false:=by subst hB; exact hb
     exact h8
    rw [<-h9]; cases g0.has<;>rfl
   refine wp_skip (wp_seq ?_)
   rcases (P6 0 b J hJ E hE N100 p100 hR100 hp100 hn100 l).two (j1 _ _ _) hp100 hn100 hR100 with ⟨h0,p130,N130,hm130,hs130,hp130,hn130,hR130,hN130,S130⟩ | ⟨wq130,p130,N130,W130,hm130,hs130,hN130,hW130,S130⟩
   .have hl130:=B0 hm130
    have hg130:=hp100.get hm130;have O1:=S130;refine rg hB a6 [0,2,5,11,12,13,16,17] [0,5,13,16,17,29] [(2,lc J E (s5 h0) N130 p130)] hF fun X13 a0 w1 hF => ?_
    refine wp_seq (wp_seq (rg hB a6 [72,0,2,5,11,12,13,16] [0,5,13,16,29] [] hF fun X14 a0 w1 hF => ?_));apply a7 hF rfl<;>intro hb hF
    .have tv0:¬ h0.ver=v:=by
      have h9:(h0.ver != v)=true:=by subst hB; exact hb
      simpa using h9
     exact wp_ret ((rgo hB a6 hF (v:=()) (q:=p130) (by simp [l7,s8,<-hx0,<-hx1,<-he,Rs.bind,t0,<-hv0,<-hv1,hrun0,s8,hm100,tq0,hm130,tv0]) hN130).1)
    have tv0:h0.ver=v:=by
     have h9:(h0.ver != v)=false:=by subst hB; exact hb
     simpa using h9
    refine wp_skip ?_
    rcases (dR 0 b J hJ E hE N130 p130 hR130 hp130 hn130 x0 g0.ver (hv 0)).two (l3 _ _ _ _ _) hp130 hn130 hR130 with ⟨d0,p150,N150,hm150,hs150,hp150,hn150,hR150,hN150,S150⟩ | ⟨wq150,p150,N150,W150,hm150,hs150,hN150,hW150,S150⟩
    .have O1:=S150
     refine drg hB a6 [0,2,5,11,12,13,15] [0,5,13,29] [(8,lc J E (.bool (.v d0)) N150 p150)] hF fun X15 a0 w1 hF => ?_
     replace hF:=hF.keep [15,0,2,5,11,12,13] [0,5,13,29]
     rcases Bool.eq_false_or_eq_true d0 with hd | hd
     .exact ⟨.dn p150 N150,⟨by rw [hrun0]; simp [s8,Rs.bind,hd,t0,<-hv0,<-hv1,hrun0,s8,hm100,tq0,hm130,tv0,hm150],hp150,hn150,hR150,by have:=hl100; have:=hs130.le; have:=hs150.le; have:=hle0; omega⟩,by simp [lsM],hF.headS (v':=.bool .tt) (Sim.bool hd) rfl⟩
     exact ⟨.go m0 p150 N150,⟨by rw [hrun0]; simp [s8,Rs.bind,hd,t0,<-hv0,<-hv1,hrun0,s8,hm100,tq0,hm130,tv0,hm150],hp150,hn150,hR150,by have:=hl100; have:=hs130.le; have:=hs150.le; have:=hf0; omega,by have:=hl100; have:=hs130.le; have:=hs150.le; have:=hle0; omega⟩,by simp [lsM],hF.headS (v':=.bool .ff) (Sim.bool hd) rfl⟩
    have O1:=S150;refine drg hB a6 [0,2,5,11,12,13,15] [0,5,13,29] [(8,sc J E (.bool .ff) N150 W150 p150.note)] hF fun X15 a0 w1 hF => ?_
    replace hF:=hF.keep [15,0,2,5,11,12,13] [0,5,13,29];exact ⟨.sp N150 (W150 (X15 8)) p150.note,⟨(X15 8),wq150,p150,by simp [l7,s8,<-hx0,<-hx1,<-he,Rs.bind,t0,<-hv0,<-hv1,hrun0,s8,hm100,tq0,hm130,tv0,hm150],hN150,(hW150 _),rfl⟩,by simp [lsM],hF⟩
   have O1:=S130;refine rg hB a6 [0,2,5,11,12,13,16,17] [0,5,13,16,17,29] [(2,sc J E (.agg [.int .i64 0,.int .u64 0,.bool .ff,.int .i64 0,.sl none none 0 0 2 (fun _ => []),.int .i64 0,.int .u64 0,.int .u64 0]) N130 W130 p130.note)] hF fun X13 a0 w1 hF => ?_
   refine wp_seq (wp_seq (rg hB a6 [72,0,2,5,11,12,13,16] [0,5,13,16,29] [] hF fun X14 a0 w1 hF => ?_));refine j0 hF rfl (fun hF => ?_);exact wp_ret ((rst hB a6 hF (q:=p130) (wq:=wq130) (X13 2) (by simp [l7,s8,<-hx0,<-hx1,<-he,Rs.bind,t0,<-hv0,<-hv1,hrun0,s8,hm100,tq0,hm130]) hN130 (hW130 _)).1)
  have O1:=S100;refine rg hB a6 [0,2,5,11,12,13,16] [0,5,13,16,29] [(2,sc J E (.agg [.int .i64 0,.int .u64 0,.bool .ff,.int .i64 0,.sl none none 0 0 2 (fun _ => []),.int .i64 0,.int .u64 0,.int .u64 0]) N100 W100 p100.note)] hF fun X10 a0 w1 hF => ?_
  refine wp_seq (wp_seq (rg hB a6 [59,0,2,5,11,12,13,16] [0,5,13,16,29] [] hF fun X11 a0 w1 hF => ?_));refine i9 hF rfl (fun hF => ?_);have O1:=dQ 0 b J E hE N100 (W100 (X10 2)) p100.note l;refine wp_skip (wp_seq (rg hB a6 [0,2,5,11,12,13,16,17] [0,5,13,16,17,29] [(2,dc J E (.agg [.int .i64 0,.int .u64 0,.bool .ff,.int .i64 0,.sl none none 0 0 2 (fun _ => []),.int .i64 0,.int .u64 0,.int .u64 0]) N100 (W100 (X10 2)) p100.note)] hF fun X13 a0 w1 hF => ?_));refine wp_seq (wp_seq (rg hB a6 [72,0,2,5,11,12,13,16] [0,5,13,16,29] [] hF fun X14 a0 w1 hF => ?_));refine j0 hF rfl (fun hF => ?_);exact wp_ret ((rst hB a6 hF (q:=p100) (wq:=wq100) (X10 2) (by simp [l7,s8,<-hx0,<-hx1,<-he,Rs.bind,t0,<-hv0,<-hv1,hrun0,s8,hm100]) hN100 (hW100 _)).1)
 .dsimp only [lsC,lsB] at hJ hF
  obtain ⟨hdn0,hp0,hn0,hR0,hle0⟩:=hJ;have hN0:N0=E.n - p0.n:=by have:=hR0.n; omega
  refine wp_seq (wp_seq (rg hB a6 [48,0,2,5,11,12,13] [0,5,13,29] [] hF fun X9 a0 w1 hF => ?_));refine i9 hF rfl (fun hF => ?_);refine wp_exit (rg hB a6 [12,0,2,5,11] [0,5,29] [] hF fun X6 a0 w1 hF => ?_);replace hF:=hF.headS (v':=.int .i64 1) (by subst hB; exact zr) rfl;refine i4 (wp_seq (wp_seq (rg hB a6 [31,0,2,5,11,12] [0,5,29] [] hF fun X5 a0 w1 hF => ?_)));replace hF:=hF.headS (v':=.bool .tt) (Sim.bool (by subst hB; rfl)) rfl;refine j0 hF rfl (fun hF => ?_);have O1:=SC1;refine wp_skip (wp_seq (wp_block (wp_seq (rg hB a6 [0,2,5,11,12,13] [0,5,13,29] [(2,.r fun _ => .tup [.agg [.int .i64 x1.len,.int .u64 x1.bits],.int .i64 y1])] hF fun X7 a0 w1 hF => ?_))));refine wp_seq (rg hB a6 [15,0,2,5,11,12,13] [0,5,13,29] [] hF fun X8 a0 w1 hF => ?_);refine wp_block (l0 (ι:=LSt) (fun q => [(15,.bool (lsB q))]) (fun q => [(0,⟨b,174,lsC J E q⟩)]) (fun q => []) (fun q => match q with | .go a r M => s8 (J.budget - E.n) l v x1 (hv 1).r.abs n p0=s8 (J.budget - E.n) l v x1 (hv 1).r.abs a r/\i5 r/\r.n<=1000000/\Rel E M r/\r.n < a/\r.n<=p.n | .dn r M => s8 (J.budget - E.n) l v x1 (hv 1).r.abs n p0 = .ok true r/\i5 r/\r.n<=1000000/\Rel E M r/\r.n<=p.n | .sp M Q u => ∃ (X:f9) (wq:Wq) (pp:Pst),l7 (J.budget - E.n) n l v x p = .stop wq pp/\M=E.n - pp.n/\Q=wqA X wq/\u=pp.note) (fun q => lsM q) (.go n p0 N0) ⟨rfl,hp0,hn0,hR0,(by have:=hle0; omega),(by have:=hle0; omega)⟩ hF ?_)
  rintro q hJ a0 w1 hF
  rcases q with ⟨nn1,p1,N1⟩ | ⟨p1,N1⟩ | ⟨N1,Q1,t1⟩
  .dsimp only [lsC,lsB] at hJ hF
   obtain ⟨hrun1,hp1,hn1,hR1,hf1,hle1⟩:=hJ;obtain ⟨m1,rfl⟩:∃ n2,nn1=n2 + 1:=⟨nn1 - 1,by omega⟩
   have hN1:N1=E.n - p1.n:=by have:=hR1.n; omega
   refine wp_seq (wp_seq (rg hB a6 [48,0,2,5,11,12,13] [0,5,13,29] [] hF fun X9 a0 w1 hF => ?_));refine j0 hF rfl (fun hF => ?_);refine wp_skip (wp_block (wp_seq ?_))
   rcases (P6 0 b J hJ E hE N1 p1 hR1 hp1 hn1 x1).two (j1 _ _ _) hp1 hn1 hR1 with ⟨g1,p101,N101,hm101,hs101,hp101,hn101,hR101,hN101,S101⟩ | ⟨wq101,p101,N101,W101,hm101,hs101,hN101,hW101,S101⟩
   .have hl101:=B0 hm101
    have hg101:=hp1.get hm101;have O1:=S101;refine rg hB a6 [0,2,5,11,12,13,16] [0,5,13,16,29] [(2,lc J E (s5 g1) N101 p101)] hF fun X10 a0 w1 hF => ?_
    refine wp_seq (wp_seq (rg hB a6 [59,0,2,5,11,12,13,16] [0,5,13,16,29] [] hF fun X11 a0 w1 hF => ?_));apply a7 hF rfl<;>intro hb hF
    .have tq1:(g1.has && !decide (g1.x.r.kd=5))=true:=by
      have h9:(if g1.has=true then !decide (g1.x.r.kd=5) else false)=true:=by
       have h8:(if g1.has=true then (g1.x.r.kd != 5) else false)=true:=by subst hB; exact hb
       exact h8
      rw [<-h9]; cases g1.has<;>rfl
     refine wp_seq (rg hB a6 [0,2,5,11,12,13,15] [0,5,13,29] [] hF fun X12 a0 w1 hF => ?_);replace hF:=hF.keep [15,0,2,5,11,12,13] [0,5,13,29];exact wp_exit (⟨.dn p101 N101,⟨by rw [hrun1]; simp [s8,Rs.bind,t0,<-hv0,<-hv1,hdn0,hrun1,s8,hm101,tq1],hp101,hn101,hR101,by have:=hl101; have:=hle1; omega⟩,by simp [lsM],hF⟩)
    have tq1:(g1.has && !decide (g1.x.r.kd=5))=false:=by
     have h9:(if g1.has=true then !decide (g1.x.r.kd=5) else false)=false:=by
      have h8:(if g1.has=true then (g1.x.r.kd != 5) else false)=false:=by subst hB; exact hb
      exact h8
     rw [<-h9]; cases g1.has<;>rfl
    refine wp_skip (wp_seq ?_)
    rcases (P6 0 b J hJ E hE N101 p101 hR101 hp101 hn101 l).two (j1 _ _ _) hp101 hn101 hR101 with ⟨h1,p131,N131,hm131,hs131,hp131,hn131,hR131,hN131,S131⟩ | ⟨wq131,p131,N131,W131,hm131,hs131,hN131,hW131,S131⟩
    .have hl131:=B0 hm131
     have hg131:=hp101.get hm131;have O1:=S131;refine rg hB a6 [0,2,5,11,12,13,16,17] [0,5,13,16,17,29] [(2,lc J E (s5 h1) N131 p131)] hF fun X13 a0 w1 hF => ?_
     refine wp_seq (wp_seq (rg hB a6 [72,0,2,5,11,12,13,16] [0,5,13,16,29] [] hF fun X14 a0 w1 hF => ?_));apply a7 hF rfl<;>intro hb hF
     .have tv1:¬ h1.ver=v:=by
       have h9:(h1.ver != v)=true:=by subst hB; exact hb
       simpa using h9
      exact wp_ret ((rgo hB a6 hF (v:=()) (q:=p131) (by simp [l7,s8,<-hx0,<-hx1,<-he,Rs.bind,t0,<-hv0,<-hv1,hdn0,hrun1,s8,hm101,tq1,hm131,tv1]) hN131).1)
     have tv1:h1.ver=v:=by
      have h9:(h1.ver != v)=false:=by subst hB; exact hb
      simpa using h9
     refine wp_skip ?_
     rcases (dR 0 b J hJ E hE N131 p131 hR131 hp131 hn131 x1 g1.ver (hv 1)).two (l3 _ _ _ _ _) hp131 hn131 hR131 with ⟨d1,p151,N151,hm151,hs151,hp151,hn151,hR151,hN151,S151⟩ | ⟨wq151,p151,N151,W151,hm151,hs151,hN151,hW151,S151⟩
     .have O1:=S151
      refine drg hB a6 [0,2,5,11,12,13,15] [0,5,13,29] [(8,lc J E (.bool (.v d1)) N151 p151)] hF fun X15 a0 w1 hF => ?_
      replace hF:=hF.keep [15,0,2,5,11,12,13] [0,5,13,29]
      rcases Bool.eq_false_or_eq_true d1 with hd | hd
      .exact ⟨.dn p151 N151,⟨by rw [hrun1]; simp [s8,Rs.bind,hd,t0,<-hv0,<-hv1,hdn0,hrun1,s8,hm101,tq1,hm131,tv1,hm151],hp151,hn151,hR151,by have:=hl101; have:=hs131.le; have:=hs151.le; have:=hle1; omega⟩,by simp [lsM],hF.headS (v':=.bool .tt) (Sim.bool hd) rfl⟩
      exact ⟨.go m1 p151 N151,⟨by rw [hrun1]; simp [s8,Rs.bind,hd,t0,<-hv0,<-hv1,hdn0,hrun1,s8,hm101,tq1,hm131,tv1,hm151],hp151,hn151,hR151,by have:=hl101; have:=hs131.le; have:=hs151.le; have:=hf1; omega,by have:=hl101; have:=hs131.le; have:=hs151.le; have:=hle1; omega⟩,by simp [lsM],hF.headS (v':=.bool .ff) (Sim.bool hd) rfl⟩
     have O1:=S151;refine drg hB a6 [0,2,5,11,12,13,15] [0,5,13,29] [(8,sc J E (.bool .ff) N151 W151 p151.note)] hF fun X15 a0 w1 hF => ?_
     replace hF:=hF.keep [15,0,2,5,11,12,13] [0,5,13,29];exact ⟨.sp N151 (W151 (X15 8)) p151.note,⟨(X15 8),wq151,p151,by simp [l7,s8,<-hx0,<-hx1,<-he,Rs.bind,t0,<-hv0,<-hv1,hdn0,hrun1,s8,hm101,tq1,hm131,tv1,hm151],hN151,(hW151 _),rfl⟩,by simp [lsM],hF⟩
    have O1:=S131;refine rg hB a6 [0,2,5,11,12,13,16,17] [0,5,13,16,17,29] [(2,sc J E (.agg [.int .i64 0,.int .u64 0,.bool .ff,.int .i64 0,.sl none none 0 0 2 (fun _ => []),.int .i64 0,.int .u64 0,.int .u64 0]) N131 W131 p131.note)] hF fun X13 a0 w1 hF => ?_
    refine wp_seq (wp_seq (rg hB a6 [72,0,2,5,11,12,13,16] [0,5,13,16,29] [] hF fun X14 a0 w1 hF => ?_));refine j0 hF rfl (fun hF => ?_);exact wp_ret ((rst hB a6 hF (q:=p131) (wq:=wq131) (X13 2) (by simp [l7,s8,<-hx0,<-hx1,<-he,Rs.bind,t0,<-hv0,<-hv1,hdn0,hrun1,s8,hm101,tq1,hm131]) hN131 (hW131 _)).1)
   have O1:=S101;refine rg hB a6 [0,2,5,11,12,13,16] [0,5,13,16,29] [(2,sc J E (.agg [.int .i64 0,.int .u64 0,.bool .ff,.int .i64 0,.sl none none 0 0 2 (fun _ => []),.int .i64 0,.int .u64 0,.int .u64 0]) N101 W101 p101.note)] hF fun X10 a0 w1 hF => ?_
   refine wp_seq (wp_seq (rg hB a6 [59,0,2,5,11,12,13,16] [0,5,13,16,29] [] hF fun X11 a0 w1 hF => ?_));refine i9 hF rfl (fun hF => ?_);have O1:=dQ 0 b J E hE N101 (W101 (X10 2)) p101.note l;refine wp_skip (wp_seq (rg hB a6 [0,2,5,11,12,13,16,17] [0,5,13,16,17,29] [(2,dc J E (.agg [.int .i64 0,.int .u64 0,.bool .ff,.int .i64 0,.sl none none 0 0 2 (fun _ => []),.int .i64 0,.int .u64 0,.int .u64 0]) N101 (W101 (X10 2)) p101.note)] hF fun X13 a0 w1 hF => ?_));refine wp_seq (wp_seq (rg hB a6 [72,0,2,5,11,12,13,16] [0,5,13,16,29] [] hF fun X14 a0 w1 hF => ?_));refine j0 hF rfl (fun hF => ?_);exact wp_ret ((rst hB a6 hF (q:=p101) (wq:=wq101) (X10 2) (by simp [l7,s8,<-hx0,<-hx1,<-he,Rs.bind,t0,<-hv0,<-hv1,hdn0,hrun1,s8,hm101]) hN101 (hW101 _)).1)
  .dsimp only [lsC,lsB] at hJ hF
   obtain ⟨hdn1,hp1,hn1,hR1,hle1⟩:=hJ;have hN1:N1=E.n - p1.n:=by have:=hR1.n; omega
   refine wp_seq (wp_seq (rg hB a6 [48,0,2,5,11,12,13] [0,5,13,29] [] hF fun X9 a0 w1 hF => ?_));refine i9 hF rfl (fun hF => ?_);refine wp_exit (rg hB a6 [12,0,2,5,11] [0,5,29] [] hF fun X6 a0 w1 hF => ?_);replace hF:=hF.headS (v':=.int .i64 2) (by subst hB; exact zr) rfl;refine i4 (wp_seq (wp_seq (rg hB a6 [31,0,2,5,11,12] [0,5,29] [] hF fun X5 a0 w1 hF => ?_)));replace hF:=hF.headS (v':=.bool .ff) (Sim.bool (by subst hB; rfl)) rfl;refine i9 hF rfl (fun hF => ?_);refine wp_exit ?_
   rcases (sX 0 b J hJ E hE N1 p1 hR1 hp1 hn1 l v).two (l3 _ _ _ _ _) hp1 hn1 hR1 with ⟨d2,p16,N16,hm16,hs16,hp16,hn16,hR16,hN16,S16⟩ | ⟨wq16,p16,N16,W16,hm16,hs16,hN16,hW16,S16⟩
   .have O1:=iF
    have O2:=S16;refine drg hB a6 [] [0] [(3,.r fun _ => .agg [.int .i64 2,.sl none none 0 0 2 (fun _ => []),.int .i64 (-1),.int .u64 0,.int .u64 0]),(4,lc J E (.bool (.v d2)) N16 p16)] hF fun X16 a0 w1 hF => ?_
    exact (rgo hB a6 hF (v:=()) (q:=p16) (by simp [l7,s8,<-hx0,<-hx1,<-he,Rs.bind,t0,<-hv0,<-hv1,hdn0,hdn1,hm16]) hN16).2
   have O1:=iF;have O2:=S16;refine drg hB a6 [] [0] [(3,.r fun _ => .agg [.int .i64 2,.sl none none 0 0 2 (fun _ => []),.int .i64 (-1),.int .u64 0,.int .u64 0]),(4,sc J E (.bool .ff) N16 W16 p16.note)] hF fun X16 a0 w1 hF => ?_
   exact (rst hB a6 hF (q:=p16) (wq:=wq16) (X16 4) (by simp [l7,s8,<-hx0,<-hx1,<-he,Rs.bind,t0,<-hv0,<-hv1,hdn0,hdn1,hm16]) hN16 (hW16 _)).2
  dsimp only [lsC,lsB] at hJ hF;obtain ⟨X1,wq1,pp1,hsp1,hN1,hW1,ht1⟩:=hJ;subst ht1;refine wp_seq (wp_seq (rg hB a6 [48,0,2,5,11,12,13] [0,5,13,29] [] hF fun X9 a0 w1 hF => ?_));refine i9 hF rfl (fun hF => ?_);refine wp_exit (rg hB a6 [12,0,2,5,11] [0,5,29] [] hF fun X6 a0 w1 hF => ?_);replace hF:=hF.headS (v':=.int .i64 2) (by subst hB; exact zr) rfl;refine i4 (wp_seq (wp_seq (rg hB a6 [31,0,2,5,11,12] [0,5,29] [] hF fun X5 a0 w1 hF => ?_)));replace hF:=hF.headS (v':=.bool .ff) (Sim.bool (by subst hB; rfl)) rfl;refine i9 hF rfl (fun hF => ?_);have O1:=iF;have O2:=sY 0 b J E hE N1 Q1 pp1.note l v;refine wp_exit (drg hB a6 [] [0] [(3,.r fun _ => .agg [.int .i64 2,.sl none none 0 0 2 (fun _ => []),.int .i64 (-1),.int .u64 0,.int .u64 0]),(4,dc J E (.bool .ff) N1 Q1 pp1.note)] hF fun X16 a0 w1 hF => ?_);exact (rst hB a6 hF (q:=pp1) (wq:=wq1) X1 (hsp1) hN1 hW1).2
 dsimp only [lsC,lsB] at hJ hF;obtain ⟨X0,wq0,pp0,hsp0,hN0,hW0,ht0⟩:=hJ;subst ht0;refine wp_seq (wp_seq (rg hB a6 [48,0,2,5,11,12,13] [0,5,13,29] [] hF fun X9 a0 w1 hF => ?_));refine i9 hF rfl (fun hF => ?_);refine wp_exit (rg hB a6 [12,0,2,5,11] [0,5,29] [] hF fun X6 a0 w1 hF => ?_);replace hF:=hF.headS (v':=.int .i64 1) (by subst hB; exact zr) rfl;refine i4 (wp_seq (wp_seq (rg hB a6 [31,0,2,5,11,12] [0,5,29] [] hF fun X5 a0 w1 hF => ?_)));replace hF:=hF.headS (v':=.bool .tt) (Sim.bool (by subst hB; rfl)) rfl;refine j0 hF rfl (fun hF => ?_);have O1:=SC1;refine wp_skip (wp_seq (wp_block (wp_seq (rg hB a6 [0,2,5,11,12,13] [0,5,13,29] [(2,.r fun _ => .tup [.agg [.int .i64 x1.len,.int .u64 x1.bits],.int .i64 y1])] hF fun X7 a0 w1 hF => ?_))));refine wp_seq (rg hB a6 [15,0,2,5,11,12,13] [0,5,13,29] [] hF fun X8 a0 w1 hF => ?_);refine wp_block (l0 (ι:=LSt) (fun q => [(15,.bool (lsB q))]) (fun q => [(0,⟨b,174,lsC J E q⟩)]) (fun q => []) (fun q => match q with | .sp M Q u => N0=M/\Q0=Q/\pp0.note=u | _ => False) (fun q => lsM q) (.sp N0 Q0 pp0.note) ⟨rfl,rfl,rfl⟩ hF ?_)
 rintro q hJ a0 w1 hF
 rcases q with ⟨nn,pp,NN⟩ | ⟨pp,NN⟩ | ⟨NN,QQ,tt⟩
 .exact (hJ:False).elim
 .exact (hJ:False).elim
 dsimp only [lsC,lsB] at hJ hF;obtain ⟨rfl,rfl,rfl⟩:=hJ;refine wp_seq (wp_seq (rg hB a6 [48,0,2,5,11,12,13] [0,5,13,29] [] hF fun X9 a0 w1 hF => ?_));refine i9 hF rfl (fun hF => ?_);refine wp_exit (rg hB a6 [12,0,2,5,11] [0,5,29] [] hF fun X6 a0 w1 hF => ?_);replace hF:=hF.headS (v':=.int .i64 2) (by subst hB; exact zr) rfl;refine i4 (wp_seq (wp_seq (rg hB a6 [31,0,2,5,11,12] [0,5,29] [] hF fun X5 a0 w1 hF => ?_)));replace hF:=hF.headS (v':=.bool .ff) (Sim.bool (by subst hB; rfl)) rfl;refine i9 hF rfl (fun hF => ?_);have O1:=iF;have O2:=sY 0 b J E hE N0 Q0 pp0.note l v;refine wp_exit (drg hB a6 [] [0] [(3,.r fun _ => .agg [.int .i64 2,.sl none none 0 0 2 (fun _ => []),.int .i64 (-1),.int .u64 0,.int .u64 0]),(4,dc J E (.bool .ff) N0 Q0 pp0.note)] hF fun X16 a0 w1 hF => ?_);exact (rst hB a6 hF (q:=pp0) (wq:=wq0) X0 (hsp0) hN0 hW0).2
theorem DD (k0 b:Nat) (J:i6) (hJ:k8 J) (E:s6) (hE:E.n<=1000000) (N:Nat) (p:Pst) (hR:Rel E N p) (hp:i5 p) (hn:p.n<=1000000) (l:Lab) (hl:LOk l) (v:Int) (x:RA) (hx:U8 x) (n:Nat) (hf:p.n < n):D5 199 k0 b J E N p [b6 l,.int .u64 v,u9 x] (fun _ => i7) (i7) (l7 (J.budget - E.n) n l v x p):=D5.re (Aa b J hJ E hE N p hR hp hn l hl v x hx n hf) (by repeat (first | exact trivial | refine ⟨zr,?_⟩))
theorem Ad (b:Nat) (J:i6) (hJ:k8 J) (E:s6) (hE:E.n<=1000000) (N:Nat) (p:Pst) (hR:Rel E N p) (hp:i5 p) (hn:p.n<=1000000) (l:Lab) (hl:LOk l) (v:Int) (n:Nat) (hth:oq n) (hf:p.n < n):D5 200 0 b J E N p [b6 l,.int .u64 v] (fun _ => i7) (i7) (L0 J.bucket (J.budget - E.n) n (G4 J.bucket (J.budget - E.n) n) l v p):=by
 intro m w hm hargs hpre;have hN0:N=E.n - p.n:=by have:=hR.n; omega
 have SC0:=Q5 l hl.u 0 (.inl rfl);have SC1:=Q5 l hl.u 1 (.inr rfl);have hk0:=hl.ch 0;have hk1:=hl.ch 1;simp only [b6] at SC0 SC1;obtain ⟨x0,hx0⟩:=eqv (chV l 0);rw [<-hx0] at SC0 hk0;obtain ⟨x1,hx1⟩:=eqv (chV l 1);rw [<-hx1] at SC1 hk1;obtain ⟨y0,hy0⟩:=eqv (chE l 0);rw [<-hy0] at SC0;obtain ⟨y1,hy1⟩:=eqv (chE l 1);rw [<-hy1] at SC1;refine enX 91 hm hpre hargs Tryz.func200 fun B hB a0 hF => ?_
 refine wp_seq (rg hB a6 [0,2,4] [0,4] [] hF fun X0 a0 w1 hF => ?_);have O1:=SC0;refine wp_seq (rg hB a6 [0,2,4,6] [0,4,6] [(1,.r fun _ => .tup [.agg [.int .i64 x0.len,.int .u64 x0.bits],.int .i64 y0])] hF fun X1 a0 w1 hF => ?_);have O1:=SC1;refine wp_seq (rg hB a6 [0,2,4,6,8] [0,4,6,8] [(1,.r fun _ => .tup [.agg [.int .i64 x1.len,.int .u64 x1.bits],.int .i64 y1])] hF fun X2 a0 w1 hF => ?_);apply wp_seq
 rcases (xD 0 b J hJ E hE N p hR hp hn l v x0 n (by skip; omega)).two (Z8 _ _ _ _ _ _) hp hn hR with ⟨z0,p3,N3,hm3,hs3,hp3,hn3,hR3,hN3,S3⟩ | ⟨wq3,p3,N3,W3,hm3,hs3,hN3,hW3,S3⟩
 .have hz0:∀ y,z0 = .fr y -> U8 y:=fun y hy => fw hp (by rw [hm3,hy])
  have T3:=S3;unfold sT at T3;obtain ⟨y0_,hy0_⟩:=eqv (fzR z0);rw [<-hy0_] at T3;obtain ⟨i0,hi0⟩:=eqv (fzJ z0);rw [<-hi0] at T3;have O1:=T3;have O2:=S3;refine rg hB a6 [0,2,4,6,8,10,11] [0,4,6,8,10] [(4,lc J E (.tup [.agg [.int .i64 y0_.r.kd,.sl none y0_.A y0_.r.n y0_.c 2 (fun i => itC (y0_.r.f i)),.int .i64 y0_.r.nx.len,.int .u64 y0_.r.nx.bits,.int .u64 y0_.r.mrk],.int .i64 i0]) N3 p3)] hF fun X3 a0 w1 hF => ?_
  refine wp_seq (wp_seq (rg hB a6 [35,0,2,4,6,8,10,11] [0,4,6,8,10] [] hF fun X4 a0 w1 hF => ?_));apply a7 hF rfl<;>intro hb hF
  .have tz0:z0 = .over:=FE (by rw [<-hi0]; subst hB; simpa [std,a8] using hb)
   exact wp_ret ((rgo hB a6 hF (v:=()) (q:=p3) (by simp [L0,<-hx0,<-hx1,Rs.bind,hm3,tz0]) hN3).1)
  have ta0:¬ fzJ z0 < 0:=by
   have:¬ i0 < 0:=by subst hB; simpa [std,a8] using hb
   rw [<-hi0]; exact this
  refine wp_skip (wp_seq (wp_seq (rg hB a6 [37,0,2,4,6,8,10] [0,4,6,8,10] [] hF fun X5 a0 w1 hF => ?_)));apply a7 hF rfl<;>intro hb hF
  .have tz0:z0 = .unfit:=FD (by rw [<-hi0]; subst hB; simpa [std,a8] using hb)
   apply wp_seq
   rcases (xK 0 b J hJ E hE N3 p3 hR3 hp3 hn3 l hl v x0 x1 hx0 hx1 n hth (by skip; have:=hs3.le; omega)).two (bx _ _ (F5 _ _ _) _ _ _) hp3 hn3 hR3 with ⟨v6,p6,N6,hm6,hs6,hp6,hn6,hR6,hN6,S6⟩ | ⟨wq6,p6,N6,W6,hm6,hs6,hN6,hW6,S6⟩
   .have O1:=S6
    refine rg hB a6 [] [0] [(5,lc J E (i7) N6 p6)] hF fun X6 a0 w1 hF => ?_
    exact wp_ret ((rgo hB a6 hF (v:=()) (q:=p6) (by simp [L0,<-hx0,<-hx1,Rs.bind,hm3,tz0,hm6]) hN6).1)
   have O1:=S6;refine rg hB a6 [] [0] [(5,sc J E (i7) N6 W6 p6.note)] hF fun X6 a0 w1 hF => ?_
   exact wp_ret ((rst hB a6 hF (q:=p6) (wq:=wq6) (X6 5) (by simp [L0,<-hx0,<-hx1,Rs.bind,hm3,tz0,hm6]) hN6 (hW6 _)).1)
  have tz0:z0 = .fr y0_:=by
   rw [hy0_];refine Dw ta0 ?_;have:¬ i0=0:=by subst hB; simpa [std,a8] using hb
   rw [<-hi0]; exact this
  have ty0:=hz0 _ tz0;refine wp_skip (wp_seq ?_)
  rcases (xD 0 b J hJ E hE N3 p3 hR3 hp3 hn3 l v x1 n (by skip; have:=hs3.le; omega)).two (Z8 _ _ _ _ _ _) hp3 hn3 hR3 with ⟨z1,p7,N7,hm7,hs7,hp7,hn7,hR7,hN7,S7⟩ | ⟨wq7,p7,N7,W7,hm7,hs7,hN7,hW7,S7⟩
  .have hz1:∀ y,z1 = .fr y -> U8 y:=fun y hy => fw hp3 (by rw [hm7,hy])
   have T7:=S7;unfold sT at T7;obtain ⟨y1_,hy1_⟩:=eqv (fzR z1);rw [<-hy1_] at T7;obtain ⟨i1,hi1⟩:=eqv (fzJ z1);rw [<-hi1] at T7;have O1:=T7;have O2:=S7;refine rg hB a6 [0,2,4,6,8,10,12,13] [0,4,6,8,10,12] [(4,lc J E (.tup [.agg [.int .i64 y1_.r.kd,.sl none y1_.A y1_.r.n y1_.c 2 (fun i => itC (y1_.r.f i)),.int .i64 y1_.r.nx.len,.int .u64 y1_.r.nx.bits,.int .u64 y1_.r.mrk],.int .i64 i1]) N7 p7)] hF fun X7 a0 w1 hF => ?_
   refine wp_seq (wp_seq (rg hB a6 [53,0,2,4,6,8,10,12,13] [0,4,6,8,10,12] [] hF fun X8 a0 w1 hF => ?_));apply a7 hF rfl<;>intro hb hF
   .have tz1:z1 = .over:=FE (by rw [<-hi1]; subst hB; simpa [std,a8] using hb)
    exact wp_ret ((rgo hB a6 hF (v:=()) (q:=p7) (by simp [L0,<-hx0,<-hx1,Rs.bind,hm3,tz0,hm7,tz1]) hN7).1)
   have ta1:¬ fzJ z1 < 0:=by
    have:¬ i1 < 0:=by subst hB; simpa [std,a8] using hb
    rw [<-hi1]; exact this
   have ty1:U8 y1_:=by
    rw [hy1_]
    cases hz:z1 with
    | fr y => exact hz1 y hz
    | over => exact vb
    | unfit => exact vb
   have SU:=Dz y0_ y1_ ty0 ty1;obtain ⟨r2,hr2⟩:=eqv ((cx y0_ y1_).1.rn);rw [<-hr2] at SU;obtain ⟨e2,he2⟩:=eqv ((cx y0_ y1_).2);rw [<-he2] at SU;have ha2:r2.abs=(cx y0_ y1_).1:=by rw [hr2]; exact V1 _
   have hl2:r2.abs.items.length=r2.n:=by rw [ha2,hr2]; rfl
   have O1:=SU;refine wp_skip (wp_seq (rg hB a6 [0,2,4,6,8,13,14,15] [0,4,6,8,14] [(2,.r fun z => .tup [.agg [.int .i64 r2.kd,.sl none (z.A 0) r2.n (z.c 0) 2 (fun i => itC (r2.f i)),.int .i64 r2.nx.len,.int .u64 r2.nx.bits,.int .u64 r2.mrk],.int .i64 e2])] hF fun X9 a0 w1 hF => ?_));refine wp_seq (wp_seq (drg hB a6 [76,0,2,4,6,8,14] [0,4,6,8,14] [] hF fun X10 a0 w1 hF => ?_));apply a7 hF rfl<;>intro hb hF
   .have h9:(if (if decide (i1=0)=true then true else !decide (e2=0))=true then true else decide ((r2.n:Int) > J.bucket))=true:=by subst hB; exact hb
    have htot:L0 J.bucket (J.budget - E.n) n (G4 J.bucket (J.budget - E.n) n) l v p=aO (J.budget - E.n) (G4 J.bucket (J.budget - E.n) n) l v p7:=by
     by_cases hi:i1=0
     .have hz:=FD (by rw [<-hi1]; exact hi)
      simp [L0,Rs.bind,<-hx0,<-hx1,hm3,tz0,hm7,hz]
     have hz:z1 = .fr y1_:=by rw [hy1_]; exact Dw ta1 (by rw [<-hi1]; exact hi)
     have tu:¬ ((cx y0_ y1_).2=0/\(r2.abs.items.length:Int)<=J.bucket):=by
      rw [<-he2,hl2];intro h; simp [hi,h.1] at h9; omega
     simp [L0,Rs.bind,<-hx0,<-hx1,hm3,tz0,hm7,hz,<-ha2,if_neg tu]
    apply wp_seq
    rcases (xK 0 b J hJ E hE N7 p7 hR7 hp7 hn7 l hl v x0 x1 hx0 hx1 n hth (by skip; have:=hs3.le; have:=hs7.le; omega)).two (bx _ _ (F5 _ _ _) _ _ _) hp7 hn7 hR7 with ⟨v11,p11,N11,hm11,hs11,hp11,hn11,hR11,hN11,S11⟩ | ⟨wq11,p11,N11,W11,hm11,hs11,hN11,hW11,S11⟩
    .have O1:=S11
     refine rg hB a6 [] [0] [(5,lc J E (i7) N11 p11)] hF fun X11 a0 w1 hF => ?_
     exact wp_ret ((rgo hB a6 hF (v:=()) (q:=p11) (by rw [htot,hm11]) hN11).1)
    have O1:=S11;refine rg hB a6 [] [0] [(5,sc J E (i7) N11 W11 p11.note)] hF fun X11 a0 w1 hF => ?_
    exact wp_ret ((rst hB a6 hF (q:=p11) (wq:=wq11) (X11 5) (by rw [htot,hm11]) hN11 (hW11 _)).1)
   have h9:(if (if decide (i1=0)=true then true else !decide (e2=0))=true then true else decide ((r2.n:Int) > J.bucket))=false:=by subst hB; exact hb
   have hi:¬ i1=0:=by intro h; simp [h] at h9
   have tz1:z1 = .fr y1_:=by rw [hy1_]; exact Dw ta1 (by rw [<-hi1]; exact hi)
   have tu:(cx y0_ y1_).2=0/\(r2.abs.items.length:Int)<=J.bucket:=by
    rw [<-he2,hl2];simp [hi] at h9; exact ⟨h9.1,by omega⟩
   refine wp_skip (wp_seq ?_)
   rcases (dR 0 b J hJ E hE N7 p7 hR7 hp7 hn7 l v ⟨(X9 2).A 0,(X9 2).c 0,r2⟩).two (l3 _ _ _ _ _) hp7 hn7 hR7 with ⟨d5,p12,N12,hm12,hs12,hp12,hn12,hR12,hN12,S12⟩ | ⟨wq12,p12,N12,W12,hm12,hs12,hN12,hW12,S12⟩
   .have O1:=S12
    refine rg hB a6 [87,0,4] [0,4] [(4,lc J E (.bool (.v d5)) N12 p12)] hF fun X12 a0 w1 hF => ?_
    apply a7 hF rfl<;>intro hb hF
    .have t5:d5=true:=by exact hb
     rcases (rp n 0 b J hJ E hE N12 p12 hR12 hp12 hn12 l hl (by skip; have:=hs3.le; have:=hs7.le; have:=hs12.le; omega)).two (J2 _ _ _ _) hp12 hn12 hR12 with ⟨v13,p13,N13,hm13,hs13,hp13,hn13,hR13,hN13,S13⟩ | ⟨wq13,p13,N13,W13,hm13,hs13,hN13,hW13,S13⟩
     .have O1:=S13
      refine rg hB a6 [] [0] [(2,lc J E (i7) N13 p13)] hF fun X13 a0 w1 hF => ?_
      exact (rgo hB a6 hF (v:=()) (q:=p13) (by simp [L0,<-hx0,<-hx1,Rs.bind,hm3,tz0,hm7,<-ha2,tz1,if_pos tu,hm12,t5,hm13]) hN13).2
     have O1:=S13;refine rg hB a6 [] [0] [(2,sc J E (i7) N13 W13 p13.note)] hF fun X13 a0 w1 hF => ?_
     exact (rst hB a6 hF (q:=p13) (wq:=wq13) (X13 2) (by simp [L0,<-hx0,<-hx1,Rs.bind,hm3,tz0,hm7,<-ha2,tz1,if_pos tu,hm12,t5,hm13]) hN13 (hW13 _)).2
    have t5:d5=false:=by exact hb
    exact wp_skip ((rgo hB a6 hF (v:=()) (q:=p12) (by simp [L0,<-hx0,<-hx1,Rs.bind,hm3,tz0,hm7,<-ha2,tz1,if_pos tu,hm12,t5]) hN12).2)
   have O1:=S12;refine rg hB a6 [87,0,4] [0,4] [(4,sc J E (.bool .ff) N12 W12 p12.note)] hF fun X12 a0 w1 hF => ?_
   refine i9 hF rfl (fun hF => ?_);exact wp_skip ((rst hB a6 hF (q:=p12) (wq:=wq12) (X12 4) (by simp [L0,<-hx0,<-hx1,Rs.bind,hm3,tz0,hm7,<-ha2,tz1,if_pos tu,hm12]) hN12 (hW12 _)).2)
  have O1:=S7;refine rg hB a6 [0,2,4,6,8,10,12,13] [0,4,6,8,10,12] [(4,sc J E (.tup [.agg [.int .i64 0,.sl none none 0 0 2 (fun _ => []),.int .i64 0,.int .u64 0,.int .u64 0],.int .i64 (-1)]) N7 W7 p7.note)] hF fun X7 a0 w1 hF => ?_
  refine wp_seq (wp_seq (rg hB a6 [53,0,2,4,6,8,10,12,13] [0,4,6,8,10,12] [] hF fun X8 a0 w1 hF => ?_));apply a7 hF rfl<;>intro hb hF
  .skip
   exact wp_ret ((rst hB a6 hF (q:=p7) (wq:=wq7) (X7 4) (by simp [L0,<-hx0,<-hx1,Rs.bind,hm3,tz0,hm7]) hN7 (hW7 _)).1)
  exfalso
  have h9:decide ((-1:Int) < 0)=false:=by subst hB; exact hb
  exact absurd h9 (by decide)
 have O1:=S3;refine rg hB a6 [0,2,4,6,8,10,11] [0,4,6,8,10] [(4,sc J E (.tup [.agg [.int .i64 0,.sl none none 0 0 2 (fun _ => []),.int .i64 0,.int .u64 0,.int .u64 0],.int .i64 (-1)]) N3 W3 p3.note)] hF fun X3 a0 w1 hF => ?_
 refine wp_seq (wp_seq (rg hB a6 [35,0,2,4,6,8,10,11] [0,4,6,8,10] [] hF fun X4 a0 w1 hF => ?_));apply a7 hF rfl<;>intro hb hF
 .skip
  exact wp_ret ((rst hB a6 hF (q:=p3) (wq:=wq3) (X3 4) (by simp [L0,<-hx0,<-hx1,Rs.bind,hm3]) hN3 (hW3 _)).1)
 exfalso
 have h9:decide ((-1:Int) < 0)=false:=by subst hB; exact hb
 exact absurd h9 (by decide)
theorem DG (k0 b:Nat) (J:i6) (hJ:k8 J) (E:s6) (hE:E.n<=1000000) (N:Nat) (p:Pst) (hR:Rel E N p) (hp:i5 p) (hn:p.n<=1000000) (l:Lab) (hl:LOk l) (v:Int) (n:Nat) (hth:oq n) (hf:p.n < n):D5 200 k0 b J E N p [b6 l,.int .u64 v] (fun _ => i7) (i7) (L0 J.bucket (J.budget - E.n) n (G4 J.bucket (J.budget - E.n) n) l v p):=D5.re (Ad b J hJ E hE N p hR hp hn l hl v n hth hf) (by repeat (first | exact trivial | refine ⟨zr,?_⟩))
theorem Aj (b:Nat) (J:i6) (hJ:k8 J) (E:s6) (hE:E.n<=1000000) (N:Nat) (p:Pst) (hR:Rel E N p) (hp:i5 p) (hn:p.n<=1000000) (l:Lab) (hl:LOk l) (g:l9) (hg:dX g) (hgh:g.has=true) (n:Nat) (hth:oq n) (hf:p.n < n):D5 141 0 b J E N p [b6 l,s5 g] (fun _ => i7) (i7) (Y5 J.bucket (J.budget - E.n) n l g p):=by
 intro m w hm hargs hpre;have hN0:N=E.n - p.n:=by have:=hR.n; omega
 refine enX 25 hm hpre hargs Tryz.func141 fun B hB a0 hF => ?_
 refine wp_seq (rg hB a6 [0,4,5] [0,4,5] [] hF fun X0 a0 w1 hF => ?_);refine wp_seq (rg hB a6 [9,0,4,5] [0,4,5] [] hF fun X1 a0 w1 hF => ?_);apply a7 hF rfl<;>intro hb hF
 .have t1:gk g 3=true:=by
   have h:decide (g.x.r.kd=3)=true:=by subst hB; exact hb
   unfold gk; rw [hgh,h]; rfl
  rcases (DD 0 b J hJ E hE N p hR hp hn l hl g.ver g.x hg.ra n hf).two (iq _ _ _ _ _ _) hp hn hR with ⟨v2,p2,N2,hm2,hs2,hp2,hn2,hR2,hN2,S2⟩ | ⟨wq2,p2,N2,W2,hm2,hs2,hN2,hW2,S2⟩
  .have O1:=S2
   refine rg hB a6 [] [0] [(6,lc J E (i7) N2 p2)] hF fun X2 a0 w1 hF => ?_
   exact (rgo hB a6 hF (v:=()) (q:=p2) (by simp [Y5,dM,Rs.bind,t1,hm2]) hN2).2
  have O1:=S2;refine rg hB a6 [] [0] [(6,sc J E (i7) N2 W2 p2.note)] hF fun X2 a0 w1 hF => ?_
  exact (rst hB a6 hF (q:=p2) (wq:=wq2) (X2 6) (by simp [Y5,dM,Rs.bind,t1,hm2]) hN2 (hW2 _)).2
 have t1:gk g 3=false:=by
  have h:decide (g.x.r.kd=3)=false:=by subst hB; exact hb
  unfold gk; rw [hgh,h]; rfl
 refine wp_seq (rg hB a6 [19,0,4,5] [0,4,5] [] hF fun X3 a0 w1 hF => ?_);apply a7 hF rfl<;>intro hb hF
 .have t2:l.len < 64:=by subst hB; simpa [std,a8] using hb
  rcases (DG 0 b J hJ E hE N p hR hp hn l hl g.ver n hth hf).two (nN _ _ _ _ (F5 _ _ _) _ _ _) hp hn hR with ⟨v4,p4,N4,hm4,hs4,hp4,hn4,hR4,hN4,S4⟩ | ⟨wq4,p4,N4,W4,hm4,hs4,hN4,hW4,S4⟩
  .have O1:=S4
   refine rg hB a6 [] [0] [(4,lc J E (i7) N4 p4)] hF fun X4 a0 w1 hF => ?_
   exact (rgo hB a6 hF (v:=()) (q:=p4) (by simp [Y5,dM,Rs.bind,t1,t2,hm4]) hN4).2
  have O1:=S4;refine rg hB a6 [] [0] [(4,sc J E (i7) N4 W4 p4.note)] hF fun X4 a0 w1 hF => ?_
  exact (rst hB a6 hF (q:=p4) (wq:=wq4) (X4 4) (by simp [Y5,dM,Rs.bind,t1,t2,hm4]) hN4 (hW4 _)).2
 have t2:¬ l.len < 64:=by subst hB; simpa [std,a8] using hb
 exact wp_skip ((rgo hB a6 hF (v:=()) (q:=p) (by simp [Y5,dM,Rs.bind,t1,t2]) hN0).2)
theorem DN (k0 b:Nat) (J:i6) (hJ:k8 J) (E:s6) (hE:E.n<=1000000) (N:Nat) (p:Pst) (hR:Rel E N p) (hp:i5 p) (hn:p.n<=1000000) (l:Lab) (hl:LOk l) (g:l9) (hg:dX g) (hgh:g.has=true) (n:Nat) (hth:oq n) (hf:p.n < n):D5 141 k0 b J E N p [b6 l,s5 g] (fun _ => i7) (i7) (Y5 J.bucket (J.budget - E.n) n l g p):=D5.re (Aj b J hJ E hE N p hR hp hn l hl g hg hgh n hth hf) (by repeat (first | exact trivial | refine ⟨zr,?_⟩))
theorem zY (b:Nat) (J:i6) (hJ:k8 J) (E:s6) (hE:E.n<=1000000) (N:Nat) (p:Pst) (hR:Rel E N p) (hp:i5 p) (hn:p.n<=1000000) (l:Lab) (hl:LOk l) (n:Nat) (hfin:∀ j,j < n -> tC j) (hf:p.n < n):D5 167 0 b J E N p [b6 l] (fun _ => i7) (i7) (G4 J.bucket (J.budget - E.n) n l p):=by
 intro m w hm hargs hpre;have hN0:N=E.n - p.n:=by have:=hR.n; omega
 have SP:=vL l hl.u;have hpar:=hl.par;simp only [b6] at SP;obtain ⟨up,hup⟩:=eqv (P5 l);rw [<-hup] at SP hpar;obtain ⟨ue,hue⟩:=eqv (Q8 l);rw [<-hue] at SP;refine enX 66 hm hpre hargs Tryz.func167 fun B hB a0 hF => ?_
 refine wp_seq (rg hB a6 [0,3] [0,3] [] hF fun X0 a0 w1 hF => ?_);have O1:=SP;refine wp_seq (rg hB a6 [0,3,4,5] [0,3,4] [(1,.r fun _ => .tup [.agg [.int .i64 up.len,.int .u64 up.bits],.int .i64 ue])] hF fun X1 a0 w1 hF => ?_);refine wp_seq (wp_seq (rg hB a6 [14,0,3,4] [0,3,4] [] hF fun X2 a0 w1 hF => ?_));apply a7 hF rfl<;>intro hb hF
 .have t0:¬ ue=0:=by subst hB; simpa [std,a8] using hb
  exact wp_ret ((rgo hB a6 hF (v:=()) (q:=p) (by simp [G4,<-hup,<-hue,Rs.bind,t0]) hN0).1)
 have t0:ue=0:=by subst hB; simpa [std,a8] using hb
 refine wp_skip (wp_block (l0 (ι:=LSt) (fun q => []) (fun q => [(0,⟨b,174,lsC J E q⟩)]) (fun q => []) (fun q => match q with | .go a r M => db J.bucket (J.budget - E.n) n l up p=db J.bucket (J.budget - E.n) a l up r/\i5 r/\r.n<=1000000/\Rel E M r/\r.n < a/\r.n<=p.n/\a<=n | .dn r M => False | .sp M Q u => ∃ (X:f9) (wq:Wq) (pp:Pst),G4 J.bucket (J.budget - E.n) n l p = .stop wq pp/\M=E.n - pp.n/\Q=wqA X wq/\u=pp.note) (fun q => lsM q) (.go n p N) ⟨rfl,hp,hn,hR,(by skip; omega),(by skip; omega),Nat.le_refl _⟩ hF ?_))
 rintro q hJ a0 w1 hF
 rcases q with ⟨nn0,p0,N0⟩ | ⟨p9,N9⟩ | ⟨N0,Q0,t0⟩
 .dsimp only [lsC,lsB] at hJ hF
  obtain ⟨hrun0,hp0,hn0,hR0,hf0,hle0,hnn0⟩:=hJ;obtain ⟨m0,rfl⟩:∃ n2,nn0=n2 + 1:=⟨nn0 - 1,by omega⟩
  have hN0:N0=E.n - p0.n:=by have:=hR0.n; omega
  refine wp_seq (wp_seq (rg hB a6 [19,0,3,4] [0,3,4] [] hF fun X3 a0 w1 hF => ?_));refine j0 hF rfl (fun hF => ?_);refine wp_skip (wp_block (wp_seq ?_))
  rcases (P6 0 b J hJ E hE N0 p0 hR0 hp0 hn0 l).two (j1 _ _ _) hp0 hn0 hR0 with ⟨g3,p4,N4,hm4,hs4,hp4,hn4,hR4,hN4,S4⟩ | ⟨wq4,p4,N4,W4,hm4,hs4,hN4,hW4,S4⟩
  .have hl4:=B0 hm4
   have hg4:=hp0.get hm4;have O1:=S4;refine rg hB a6 [0,3,4,6] [0,3,4,6] [(2,lc J E (s5 g3) N4 p4)] hF fun X4 a0 w1 hF => ?_
   obtain ⟨q4,hq4⟩:=eqv (gk g3 5);refine wp_seq (wp_seq ?_);refine rg hB a6 [31,0,3,4,6] [0,3,4,6] [(6,.r fun _ => .bool (.v q4))] hF (hob:=by intro X; subst hB; simp only [b5,Ob.holds,BE.den]<;>and_intros<;>repeat first | trivial | rfl | exact (by rw [hq4]; exact E7 g3 5) | exact by rw [hq4]; exact E7 g3 5 | exact (fun _ _ => by kernel_rfl) | refine ⟨?_,?_⟩ | intro h | exact Int.le_refl _ | decide | omega) fun X5 a0 w1 hF => ?_
   apply a7 hF rfl<;>intro hb hF
   .have tq4:gk g3 5=false:=by subst hB; rw [<-hq4]; revert hb; cases q4<;>simp [std]
    exact wp_ret ((rgo hB a6 hF (v:=()) (q:=p4) (by simp [G4,<-hup,<-hue,Rs.bind,t0,hrun0,o5,hm4,tq4]) hN4).1)
   have tq4:gk g3 5=true:=by subst hB; rw [<-hq4]; revert hb; cases q4<;>simp [std]
   refine wp_skip (wp_seq ?_)
   rcases (P6 0 b J hJ E hE N4 p4 hR4 hp4 hn4 up).two (j1 _ _ _) hp4 hn4 hR4 with ⟨g5,p6,N6,hm6,hs6,hp6,hn6,hR6,hN6,S6⟩ | ⟨wq6,p6,N6,W6,hm6,hs6,hN6,hW6,S6⟩
   .have hl6:=B0 hm6
    have hg6:=hp4.get hm6;have O1:=S6;refine rg hB a6 [0,3,4,6,7] [0,3,4,6,7] [(2,lc J E (s5 g5) N6 p6)] hF fun X6 a0 w1 hF => ?_
    refine wp_seq (wp_seq (rg hB a6 [38,0,3,4,6,7] [0,3,4,6,7] [] hF fun X7 a0 w1 hF => ?_));refine i9 hF rfl (fun hF => ?_);obtain ⟨q6,hq6⟩:=eqv (gk g5 3);obtain ⟨r6,hr6⟩:=eqv (gk g5 4);refine wp_skip (wp_seq (wp_seq ?_));refine rg hB a6 [44,0,3,4,6,7] [0,3,4,6,7] [(1,.r fun _ => .bool (.v q6)),(4,.r fun _ => .bool (.v r6))] hF (hob:=by intro X; subst hB; simp only [b5,Ob.holds,BE.den]<;>and_intros<;>repeat first | trivial | rfl | exact (by rw [hq6]; exact E7 g5 3) | exact by rw [hq6]; exact E7 g5 3 | exact (by rw [hr6]; exact E7 g5 4) | exact by rw [hr6]; exact E7 g5 4 | exact (fun _ _ => by kernel_rfl) | refine ⟨?_,?_⟩ | intro h | exact Int.le_refl _ | decide | omega) fun X8 a0 w1 hF => ?_
    apply a7 hF rfl<;>intro hb hF
    .have tq6:(gk g5 3 || gk g5 4)=true:=by
      have h9:(if q6=true then true else r6)=true:=by subst hB; exact hb
      rw [<-hq6,<-hr6,<-h9]; cases q6<;>rfl
     have hgh:g5.has=true:=by
      unfold gk at tq6; revert tq6; cases g5.has<;>simp
     have tn2:gk g5 2=false:=by
      unfold gk at tq6 ⊢; revert tq6; cases g5.has<;>simp<;>omega
     apply wp_seq
     rcases (hfin m0 (by omega) 0 b J hJ E hE N6 p6 hR6 hp6 hn6 up hpar g5 hg6 hgh (by have:=hl4; have:=hl6; omega)).two (bw _ _ _ _ _ _) hp6 hn6 hR6 with ⟨v9,p9,N9,hm9,hs9,hp9,hn9,hR9,hN9,S9⟩ | ⟨wq9,p9,N9,W9,hm9,hs9,hN9,hW9,S9⟩
     .have O1:=S9
      refine rg hB a6 [] [0] [(3,lc J E (i7) N9 p9)] hF fun X9 a0 w1 hF => ?_
      exact wp_ret ((rgo hB a6 hF (v:=()) (q:=p9) (by simp [G4,<-hup,<-hue,Rs.bind,t0,hrun0,o5,hm4,tq4,hm6,tq6,tn2,hm9]) hN9).1)
     have O1:=S9;refine rg hB a6 [] [0] [(3,sc J E (i7) N9 W9 p9.note)] hF fun X9 a0 w1 hF => ?_
     exact wp_ret ((rst hB a6 hF (q:=p9) (wq:=wq9) (X9 3) (by simp [G4,<-hup,<-hue,Rs.bind,t0,hrun0,o5,hm4,tq4,hm6,tq6,tn2,hm9]) hN9 (hW9 _)).1)
    have tq6:(gk g5 3 || gk g5 4)=false:=by
     have h9:(if q6=true then true else r6)=false:=by subst hB; exact hb
     rw [<-hq6,<-hr6,<-h9]; cases q6<;>rfl
    refine wp_skip (wp_seq ?_)
    rcases Bool.eq_false_or_eq_true (gk g5 2) with t8 | t8
    .rcases (dR 0 b J hJ E hE N6 p6 hR6 hp6 hn6 l g3.ver (asR 1 g3.x 0)).two (l3 _ _ _ _ _) hp6 hn6 hR6 with ⟨d8,p10,N10,hm10,hs10,hp10,hn10,hR10,hN10,S10⟩ | ⟨wq10,p10,N10,W10,hm10,hs10,hN10,hW10,S10⟩
     .refine rg hB a6 [65,0,3,4] [0,3,4] [(1,.r fun _ => .bool .tt),(15,lc J E (.bool (.v d8)) N10 p10)] hF (hob:=by intro X; subst hB; simp only [b5,Ob.holds,BE.den]<;>and_intros<;>repeat first | trivial | rfl | exact ((E7 g5 2).res fun _ => Sim.bool (by rw [t8]; rfl)) | exact S10 | exact (fun _ _ => by kernel_rfl) | refine ⟨?_,?_⟩ | intro h | exact Int.le_refl _ | decide | omega) fun X10 a0 w1 hF => ?_
      apply a7 hF rfl<;>intro hb hF
      .have t9:d8=true:=by exact hb
       exact wp_ret ((rgo hB a6 hF (v:=()) (q:=p10) (by simp [G4,<-hup,<-hue,Rs.bind,t0,hrun0,o5,hm4,tq4,hm6,tq6,t8,hm10,t9]) hN10).1)
      have t9:d8=false:=by exact hb
      replace hF:=hF.keep [0,3,4] [0,3,4];exact wp_skip (⟨.go m0 p10 N10,⟨by rw [hrun0]; simp [o5,Rs.bind,t0,hrun0,o5,hm4,tq4,hm6,tq6,t8,hm10,t9],hp10,hn10,hR10,by have:=hl4; have:=hs6.le; have:=hs10.le; have:=hf0; omega,by have:=hl4; have:=hs6.le; have:=hs10.le; have:=hle0; omega,by omega⟩,by simp [lsM],hF⟩)
     refine rg hB a6 [65,0,3,4] [0,3,4] [(1,.r fun _ => .bool .tt),(15,sc J E (.bool .ff) N10 W10 p10.note)] hF (hob:=by intro X; subst hB; simp only [b5,Ob.holds,BE.den]<;>and_intros<;>repeat first | trivial | rfl | exact ((E7 g5 2).res fun _ => Sim.bool (by rw [t8]; rfl)) | exact S10 | exact (fun _ _ => by kernel_rfl) | refine ⟨?_,?_⟩ | intro h | exact Int.le_refl _ | decide | omega) fun X10 a0 w1 hF => ?_
     refine i9 hF rfl (fun hF => ?_);replace hF:=hF.keep [0,3,4] [0,3,4];exact wp_skip (⟨.sp N10 (W10 (X10 15)) p10.note,⟨(X10 15),wq10,p10,by simp [G4,<-hup,<-hue,Rs.bind,t0,hrun0,o5,hm4,tq4,hm6,tq6,t8,hm10],hN10,(hW10 _),rfl⟩,by simp [lsM],hF⟩)
    refine rg hB a6 [65,0,3,4] [0,3,4] [(1,.r fun _ => .bool .ff)] hF (hob:=by intro X; subst hB; simp only [b5,Ob.holds,BE.den]<;>and_intros<;>repeat first | trivial | rfl | exact ((E7 g5 2).res fun _ => Sim.bool (by rw [t8]; rfl)) | exact (fun _ _ => by kernel_rfl) | refine ⟨?_,?_⟩ | intro h | exact Int.le_refl _ | decide | omega) fun X10 a0 w1 hF => ?_
    refine j0 hF rfl (fun hF => ?_);exact wp_ret ((rgo hB a6 hF (v:=()) (q:=p6) (by simp [G4,<-hup,<-hue,Rs.bind,t0,hrun0,o5,hm4,tq4,hm6,tq6,t8]) hN6).1)
   have O1:=S6;refine rg hB a6 [0,3,4,6,7] [0,3,4,6,7] [(2,sc J E (.agg [.int .i64 0,.int .u64 0,.bool .ff,.int .i64 0,.sl none none 0 0 2 (fun _ => []),.int .i64 0,.int .u64 0,.int .u64 0]) N6 W6 p6.note)] hF fun X6 a0 w1 hF => ?_
   refine wp_seq (wp_seq (rg hB a6 [38,0,3,4,6,7] [0,3,4,6,7] [] hF fun X7 a0 w1 hF => ?_));refine j0 hF rfl (fun hF => ?_);exact wp_ret ((rst hB a6 hF (q:=p6) (wq:=wq6) (X6 2) (by simp [G4,<-hup,<-hue,Rs.bind,t0,hrun0,o5,hm4,tq4,hm6]) hN6 (hW6 _)).1)
  have O1:=S4;refine rg hB a6 [0,3,4,6] [0,3,4,6] [(2,sc J E (.agg [.int .i64 0,.int .u64 0,.bool .ff,.int .i64 0,.sl none none 0 0 2 (fun _ => []),.int .i64 0,.int .u64 0,.int .u64 0]) N4 W4 p4.note)] hF fun X4 a0 w1 hF => ?_
  refine wp_seq (wp_seq (rg hB a6 [31,0,3,4,6] [0,3,4,6] [] hF fun X5 a0 w1 hF => ?_));refine j0 hF rfl (fun hF => ?_);exact wp_ret ((rst hB a6 hF (q:=p4) (wq:=wq4) (X4 2) (by simp [G4,<-hup,<-hue,Rs.bind,t0,hrun0,o5,hm4]) hN4 (hW4 _)).1)
 .exact (hJ:False).elim
 dsimp only [lsC,lsB] at hJ hF;obtain ⟨X0,wq0,pp0,hsp0,hN0,hW0,ht0⟩:=hJ;subst ht0;refine wp_seq (wp_seq (rg hB a6 [19,0,3,4] [0,3,4] [] hF fun X3 a0 w1 hF => ?_));refine i9 hF rfl (fun hF => ?_);exact wp_exit ((rst hB a6 hF (q:=pp0) (wq:=wq0) X0 (hsp0) hN0 hW0).2)
theorem DA (k0 b:Nat) (J:i6) (hJ:k8 J) (E:s6) (hE:E.n<=1000000) (N:Nat) (p:Pst) (hR:Rel E N p) (hp:i5 p) (hn:p.n<=1000000) (l:Lab) (hl:LOk l) (n:Nat) (hfin:∀ j,j < n -> tC j) (hf:p.n < n):D5 167 k0 b J E N p [b6 l] (fun _ => i7) (i7) (G4 J.bucket (J.budget - E.n) n l p):=D5.re (zY b J hJ E hE N p hR hp hn l hl n hfin hf) (by repeat (first | exact trivial | refine ⟨zr,?_⟩))
theorem sU:∀ n,oq n/\tC n:=by
 intro n
 induction n using Nat.strongRecOn with
 | _ n ih =>
  have h1:oq n:=fun k0 b J hJ E hE N p hR hp hn l hl hf => DA k0 b J hJ E hE N p hR hp hn l hl n (fun j hj => (ih j hj).2) hf
  exact ⟨h1,fun k0 b J hJ E hE N p hR hp hn l hl g hg hgh hf => DN k0 b J hJ E hE N p hR hp hn l hl g hg hgh n h1 hf⟩
theorem DC (n:Nat):oq n:=(sU n).1
theorem DO (n:Nat):tC n:=(sU n).2
end Go.Proofs.YtodelmejfpkicaaGreat.Sym
