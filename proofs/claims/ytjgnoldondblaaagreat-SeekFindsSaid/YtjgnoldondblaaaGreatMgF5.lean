/-
  SymRng, SymRng2, SymRng3, SymInl, SymLm, SymTr1, SymSet, CmpOrd, SymTr8, SymInl2, SymKid, PlTrie, SymTr2, SymTr3, SymTr9, SortOrd, PlTrie2, SymTr4, SymTr5, SymInl3, SymTr6, SymInl4, SymTr7, SymTrA: put together by a program of mine (a claim may have 60 files at most). Conditions: none.
-/
import Derived.WalkKit
import Derived.WalkLawsBesides
import Derived.WalkSpells
import Derived.Lib.Hide
import Derived.Deep.QuietTactic
import Derived.BigQuiet
import Derived.Deep.LoopGhost
import Derived.Deep.DeepCutAuto
import Derived.Deep.RegionLaw
import Derived.Lib.Overlaps
import Derived.Laws.CopyOwn
import Derived.IntWalk
import Derived.ProofKit
import Derived.OpenShut
import Derived.ShutString
import Derived.ChangeOld
import Derived.Deep.Slices
import Derived.Test.YtjgnoldondblaaaGreatProg
import Derived.Orders
import Derived.OrdersHeld
import Derived.Defers
import Derived.Recover
import Derived.Lib.BitFns
import Derived.ChangeKeysEq
import Derived.Test.YtjgnoldondblaaaGreatChecked
import Derived.Lib.BufferWrite
import Derived.Maps.OwnSet
import Derived.Maps.RangeWalk
import Derived.Maps.Ext
import Derived.DeepKeys4
import Derived.LoopN
import Derived.Shelf.SlSortCmp.WholeK
import Derived.Shelf.SlSortCmp.NoneTotal
import Derived.Deep.RegionHeld3
import Derived.Ground.SlsfProg
import Derived.Shelf.SlGeneric
import Derived.RangeFuncLeaves
import Derived.RangeFuncCalls
import Derived.OrdersIn
import Derived.Test.YtjgnoldondblaaaGreatMgF1
import Derived.Test.YtjgnoldondblaaaGreatMgF2
import Derived.Test.YtjgnoldondblaaaGreatMgF3
import Derived.Test.YtjgnoldondblaaaGreatMgF4
set_option linter.unusedVariables false
set_option linter.unusedSimpArgs false
set_option maxRecDepth 100000
set_option maxHeartbeats 1600000
namespace Go.Proofs.YtjgnoldondblaaaGreat.Sym
open Go Go.RowKit
def rF (r:Option Nat):Fence:={ Fence.wide with round:=r }
@[simp] theorem rF_round (r : Option Nat) : (rF r).round = r := rfl
theorem rF_room (r:Option Nat) (n:Nat):(rF r).room n:=fun d hd => by cases hd
theorem rF_fn (r:Option Nat) (f:FuncId):(rF r).fn f:=trivial
theorem rF_depth (r:Option Nat) (n:Nat):(rF r).depth.isSome=true → 1 ≤ n:=fun h => by cases h
section
variable {P:Program} {n:Nat} {r:Option Nat}
theorem calls_r {f:FuncId} {args:Array Value} {w:World} {R:Ending → World → Prop} (h:Calls P f args w R):CallsIn (rF r) n P f args w R:=callsIn_wide (n:=n).2 h
theorem rowsR_r {row:String} {args:Array Value} {w:World} {R:Value → World → Prop} (h:Rows P row args w R):RowsIn (rF r) n P row args w R:=fun c cs _ => by
 obtain ⟨v,w',hr,hs⟩:=h c cs
 exact ⟨v,w',hr,stepsIn_wide.2 hs⟩
def noDefer (l:List Oper):Bool:=l.all fun o => match o.op with | .defer _ => false | _ => true
theorem oper_r {o:Oper} (hd:∀ c,o.op ≠ .defer c) {a:Act} {w:World} {next next':Act → World → Prop} {Q Q':Exit → Act → World → Prop} (hN:∀ a w,next a w → next' a w) (hQ:∀ e a w,Q e a w → Q' e a w) (h:o.wp P a w next Q):o.wpIn (rF r) n P a w next' Q':=by
 refine ⟨fun f _ => rF_fn r f,?_⟩
 rw [Oper.semAt_eq _ _ _ hd]
 unfold Oper.wp at h
 generalize (execOp a.eval o).run P w=res at h
 have hmap:∀ f args w',Calls P f args w' (fun | .returned v,w'' => next (a.put o.dst v) w'' | .panicked chain,w'' => Q (.panic chain) a w'' | .outgrown,_ => LetsOut Q) →
   Calls P f args w' (fun | .returned v,w'' => next' (a.put o.dst v) w'' | .panicked chain,w'' => Q' (.panic chain) a w'' | .outgrown,_ => LetsOut Q'):=fun f args w' h => by
  refine h.mono ?_
  intro e w'' he
  cases e with
  | returned v => exact hN _ _ he
  | panicked chain => exact hQ _ _ _ he
  | outgrown => obtain ⟨a,w,he⟩:=he; exact ⟨a,w,hQ _ _ _ he⟩
 cases res with
 | ok nx w' =>
  cases nx with
  | value v => exact hN _ _ h
  | skip => exact hN _ _ h
  | defer d => exact hN _ _ h
  | enter f args => exact ⟨rF_depth r n,calls_r (hmap _ _ _ h)⟩
  | row row args => exact ⟨rF_depth r n,rowsR_r (h.mono fun v w' hv => hN _ _ hv)⟩
  | _ => exact h.elim
 | halt hh w' =>
  cases hh with
  | panic v => exact hQ _ _ _ h
  | _ => exact h.elim
theorem list_r {ops:Array Oper} {Q Q':Exit → Act → World → Prop} {rest:List Oper} (hO:∀ a w,¬ Q .outgrown a w) (hQ:∀ e a w,e ≠ .normal → Q e a w → Q' e a w) (hN:∀ a w,Q .normal a w → wpListIn (rF r) n P ops Q' rest a w) :
  ∀ (L:List Oper) (a:Act) (w:World),noDefer L=true → wpList P ops Q L a w → wpListIn (rF r) n P ops Q' (L ++ rest) a w
 | [],a,w,_,h => hN a w h
 | o :: L,a,w,hd,h => by
  have hd1:∀ c,o.op ≠ .defer c:=fun c e => by unfold noDefer at hd; simp [e] at hd
  have hd2:noDefer L=true:=by unfold noDefer at hd ⊢; rw [List.all_cons,Bool.and_eq_true] at hd; exact hd.2
  show (if Region.wanted o (yielded ops a.tmps) then o.wpIn (rF r) n P a w (wpListIn (rF r) n P ops Q' (L ++ rest)) Q' else (∀ f,o.about P w a.eval=some f → (rF r).fn f) ∧ wpListIn (rF r) n P ops Q' (L ++ rest) (a.put o.dst undef) w)
  unfold wpList at h
  by_cases hw:Region.wanted o (yielded ops a.tmps)=true
  ·rw [if_pos hw] at h ⊢
   rcases h with h | ⟨_,a',w',h⟩
   ·-- Q may be met at .normal by the list's end only
    have H:o.wp P a w (wpListIn (rF r) n P ops Q' (L ++ rest)) Q:=by
     unfold Oper.wp at h ⊢
     generalize (execOp a.eval o).run P w=res at h
     cases res with
     | ok nx w' =>
      cases nx with
      | value v => exact list_r hO hQ hN L _ _ hd2 h
      | skip => exact list_r hO hQ hN L _ _ hd2 h
      | defer d => exact list_r hO hQ hN L _ _ hd2 h
      | enter f args =>
       refine Calls.mono h ?_
       intro e w'' he
       cases e with
       | returned v => exact list_r hO hQ hN L _ _ hd2 he
       | panicked chain => exact he
       | outgrown => exact he
      | row row args => exact Rows.mono h fun v w' hv => list_r hO hQ hN L _ _ hd2 hv
      | _ => exact h.elim
     | halt hh w' =>
      cases hh with
      | panic v => exact h
      | _ => exact h.elim
    have H2:o.wp P a w (wpListIn (rF r) n P ops Q' (L ++ rest)) (fun e a w => e ≠ .normal ∧ Q e a w):=by
     unfold Oper.wp at H ⊢
     generalize (execOp a.eval o).run P w=res at H
     cases res with
     | ok nx w' =>
      cases nx with
      | value v => exact H
      | skip => exact H
      | defer d => exact H
      | enter f args =>
       refine Calls.mono H ?_
       intro e w'' he
       cases e with
       | returned v => exact he
       | panicked chain => exact ⟨by simp,he⟩
       | outgrown => obtain ⟨a,w,he⟩:=he; exact absurd he (hO a w)
      | row row args => exact H
      | _ => exact H.elim
     | halt hh w' =>
      cases hh with
      | panic v => exact ⟨by simp,H⟩
      | _ => exact H.elim
    exact oper_r hd1 (fun _ _ h => h) (fun e a w h => hQ e a w h.1 h.2) H2
   exact absurd h (hO _ _)
  rw [if_neg hw] at h ⊢
  exact ⟨fun f _ => rF_fn r f,list_r hO hQ hN L _ _ hd2 h⟩
theorem region_r {id:Nat} {l:List Oper} {Q:Exit → Act → World → Prop} {a:Act} {w:World} (hO:∀ a w,¬ Q .outgrown a w) (hd:noDefer l=true) (h:wpList P l.toArray Q l a w):(Code.region id l.toArray false).wpIn (rF r) n P Q a w:=by
 refine wpIn_region_lit ?_
 have:=list_r (r:=r) (n:=n) (Q':=Q) (rest:=[]) hO (fun _ _ _ _ h => h) (fun _ _ h => h) l a w hd h
 rwa [List.append_nil] at this
def roundPostP (P:Program) (l:Nat) (R:Ending → World → Prop):Exit → Act → World → Prop
 | .normal,_,w => ∃ v w',(Instr.endRound l none).run P w = .ok v w' ∧ R (.returned v) w'
 | .ret,_,w => ∃ v w',(Instr.endRound l (some .ret)).run P w = .ok v w' ∧ R (.returned v) w'
 | .exit id,_,w => ∃ v w',(Instr.endRound l (some (.exit id))).run P w = .ok v w' ∧ R (.returned v) w'
 | .goto t,_,w => ∃ v w',(Instr.endRound l (some (.goto t))).run P w = .ok v w' ∧ R (.returned v) w'
 | .panic chain,a,w => a.defers=[] ∧ R (.panicked chain) w
 | .outgrown,_,_ => False
theorem round_p {l:Nat} {f:FuncId} {fn:Func} (hfn:P.funcs[f]? = some fn) {tmps:Array Value} {assign body:Code} {w:World} {R:Ending → World → Prop}
  (h:assign.wpIn (rF (some l)) n P (Exit.then (fun a₁ w₁ => ∃ w₂,(Instr.beginRound l).run P w₁ = .ok () w₂ ∧ body.wpIn (rF (some l)) n P (roundPostP P l R) a₁ w₂) (fun _ _ _ => False)) { tmps:=tmps,defers:=[] } w) :
  RoundIn (rF none) n P l f tmps assign body w R:=by
 refine ⟨rF_fn none f,fun c cs hr => ?_⟩
 let b:Frame:={ (default:Frame) with fn:=f,kind:=.normal,roundOf:=some l }
 have hb0:Frame.round l f tmps assign body .normal=b.atR { tmps:=tmps,defers:=[] } [.code assign,.beginRound,.code body]:=by
  simp [Frame.round,Frame.atR,b]
 have hro:b.roundOf=(rF (some l)).round:=rfl
 obtain ⟨e,a₁,w₁,hq,harr⟩:=h b [.beginRound,.code body] (c :: cs) hro (rF_fn _ _) (rF_room _ _)
 rw [← hb0] at harr
 cases e with
 | normal =>
  obtain ⟨w₂,hbr,hbody⟩:=hq
  have s1:StepsIn (Machine.fenced P (rF (some l))) P (lone (b.atR a₁ [.beginRound,.code body]) (c :: cs) w₁) (lone (b.atR a₁ [.code body]) (c :: cs) w₂):=
   .one (fenced_wide P _) (stepR_beginRound rfl hbr)
  obtain ⟨e₂,a₂,w₃,hq₂,harr₂⟩:=hbody b [] (c :: cs) hro (rF_fn _ _) (rF_room _ _)
  cases e₂ with
  | normal =>
   obtain ⟨v,w₄,hend,hR⟩:=hq₂
   exact ⟨.returned v,w₄,hR,(StepsIn.trans harr s1).trans (StepsIn.trans harr₂ (.one (fenced_wide P _) (stepR_round_end rfl rfl hend)))⟩
  | ret =>
   obtain ⟨v,w₄,hend,hR⟩:=hq₂
   obtain ⟨k₁,hs⟩:=harr₂.2 rfl
   exact ⟨.returned v,w₄,hR,(StepsIn.trans harr s1).trans (StepsIn.trans hs (.one (fenced_wide P _) (stepR_round_ret rfl rfl hend)))⟩
  | exit id =>
   obtain ⟨v,w₄,hend,hR⟩:=hq₂
   obtain ⟨k₁,hk,hs⟩:=harr₂.2 rfl rfl
   exact ⟨.returned v,w₄,hR,(StepsIn.trans harr s1).trans (StepsIn.trans hs (.one (fenced_wide P _) (stepR_round_exit rfl rfl hk hend)))⟩
  | goto t =>
   obtain ⟨v,w₄,hend,hR⟩:=hq₂
   obtain ⟨k₁,hk,hs⟩:=harr₂.2 rfl rfl
   exact ⟨.returned v,w₄,hR,(StepsIn.trans harr s1).trans (StepsIn.trans hs (.one (fenced_wide P _) (stepR_round_goto rfl rfl hk hend)))⟩
  | panic chain =>
   obtain ⟨hd,hR⟩:=hq₂
   obtain ⟨todo,hs⟩:=harr₂
   exact ⟨.panicked chain,w₃,hR,(StepsIn.trans harr s1).trans (StepsIn.trans hs (.one (fenced_wide P _) (step_leave_panicked (fr:={ b.atR a₂ todo with mode:=.panicking chain }) ⟨rfl,hd,fn,hfn⟩)))⟩
  | outgrown => exact hq₂.elim
 | exit id => exact hq.elim
 | goto t => exact hq.elim
 | ret => exact hq.elim
 | panic chain => exact hq.elim
 | outgrown => exact hq.elim
end
def wpN (fn:FuncId) (P:Program) (c:Code) (Q:Exit → Act → World → Prop) (a:Act) (w:World):Prop:=
 ∀ (b:Frame) (k:List Item) (cs:List Frame),b.fn=fn → ∃ e a' w',Q e a' w' ∧ Arrives P (lone (b.at a (.code c :: k)) cs w) b k cs e a' w'
section
variable {P:Program} {fn:FuncId} {Q:Exit → Act → World → Prop} {a:Act} {w:World}
theorem wpN_of {c:Code} (h:c.wp P Q a w):wpN fn P c Q a w:=fun b k cs _ => h b k cs
theorem wpN_seq {x y:Code} (h:wpN fn P x (Exit.then (wpN fn P y Q) Q) a w):wpN fn P (Code.seq x y) Q a w:=by
 intro b k cs hb
 obtain ⟨e,a₁,w₁,hq,harr⟩:=h b (.code y :: k) cs hb
 cases e with
 | normal =>
  obtain ⟨e₂,a₂,w₂,hq₂,harr₂⟩:=hq b k cs hb
  exact ⟨e₂,a₂,w₂,hq₂,.of_steps (.head step_seq harr) harr₂⟩
 | exit id => exact ⟨_,a₁,w₁,hq,.of_steps (.one step_seq) (.pass (x:=.code y) rfl (fun _ _ => .inl (by simp)) harr)⟩
 | goto l => exact ⟨_,a₁,w₁,hq,.of_steps (.one step_seq) (.pass (x:=.code y) rfl (fun _ _ => .inl (by simp)) harr)⟩
 | ret => exact ⟨_,a₁,w₁,hq,.of_steps (.one step_seq) (.pass (x:=.code y) rfl (fun _ _ => .inl (by simp)) harr)⟩
 | panic ch => exact ⟨_,a₁,w₁,hq,.of_steps (.one step_seq) (.pass (x:=.code y) rfl (fun _ _ => .inl (by simp)) harr)⟩
 | outgrown => exact ⟨_,a₁,w₁,hq,.of_steps (.one step_seq) (.pass (x:=.code y) rfl (fun _ _ => .inl (by simp)) harr)⟩
def rangeN (P:Program) (l:Nat) (Q:Exit → Act → World → Prop) (a':Act):Ending → World → Prop
 | .returned _,w₃ => ∃ jump w₄,(Instr.endLoop l).run P w₃ = .ok jump w₄ ∧ (match jump with
   | none => Q .normal a' w₄
   | some c => c.wp P Q a' w₄)
 | .panicked chain,w₃ => Q (.panic chain) a' w₃
 | .outgrown,_ => LetsOut Q
def loopRec (fn:FuncId) (a:Act) (ps:Array Tmp) (assign body:Code) (D:Nat) (st:LoopState) (pe:Option Code):Loop:={ state:=st,pending:=pe,fn,tmps:=a.tmps,params:=ps,assign,body,defers:=D }
def loopW (fn:FuncId) (a:Act) (ps:Array Tmp) (assign body:Code) (w:World):World:=(w.alloc (.deferred (some []))).alloc (.loop (loopRec fn a ps assign body w.heap.size .ready none))
theorem wpN_range {g:Operand} {ps:Array Tmp} {assign body:Code} {gf:Nat} {lb:Array Value} (hg:a.eval g = .func (.func gf) #[] lb) (eg:∀ args w,(callFunc gf args).run P w = .ok (.enter gf args) w)
  (h:Calls P gf (#[.func (.yield (w.heap.size + 1)) #[] #[]] ++ lb) (loopW fn a ps assign body w) (rangeN P (w.heap.size + 1) Q { a with defers:={ target:=.collected w.heap.size,args:=#[] } :: a.defers })) :
  wpN fn P (Code.rangeFunc g ps assign body) Q a w:=by
 intro b0 k cs hb
 have hat:∀ a k,b0.at a k=({ b0 with roundOf:=none }:Frame).atR a k:=fun a k => (Frame.atR_of_none (b:={ b0 with roundOf:=none }) rfl a k).symm
 obtain ⟨b,hbd⟩:=eqv (({ b0 with roundOf:=none }:Frame))
 have hro:b.roundOf=none:=by rw [hbd]
 have hbf:b.fn=fn:=by rw [hbd]; exact hb
 have he:(Instr.enterLoop b.fn a.tmps ps assign body b.roundOf).run P w = .ok (w.heap.size + 1,[{ target:=.collected w.heap.size,args:=#[] }]) (loopW fn a ps assign body w):=by
  rw [hro,hbf]; exact run_enterLoop_outer _ _ _ _ _
 have hres:(resolve a.eval (rangeCall g (w.heap.size + 1)) 0).run P (loopW fn a ps assign body w) = .ok { target:=.fn (.func gf) lb,args:=#[.func (.yield (w.heap.size + 1)) #[] #[]] } (loopW fn a ps assign body w):=by
  simp only [resolve,hg]
  simp [go_sem]
 have hinv:(invoke (.fn (.func gf) lb) #[.func (.yield (w.heap.size + 1)) #[] #[]]).run P (loopW fn a ps assign body w) = .ok (.enter gf (#[.func (.yield (w.heap.size + 1)) #[] #[]] ++ lb)) (loopW fn a ps assign body w):=by
  simp [invoke,go_sem,eg]
 have henter:=stepR_rangeFunc (P:=P) (b:=b) (a:=a) (k:=k) (cs:=cs) (w:=w) he hres hinv
 obtain ⟨e,w₃,fr,hR,hsteps,hfn,hleave⟩:=h (b.atR { a with defers:=[{ target:=.collected w.heap.size,args:=#[] }] ++ a.defers } (.inRangeFunc (w.heap.size + 1) :: k) :: cs)
 have hbk:∀ a k,b.atR a k=b0.at a k:=fun a k => by rw [hbd,hat]
 rw [← hbk]
 cases e with
 | outgrown =>
  obtain ⟨a₀,w₀,hq⟩:=hR
  exact ⟨.outgrown,a₀,w₀,hq,.inr (Outgrown.of_steps (.one henter) hsteps)⟩
 | returned v =>
  obtain ⟨jump,w₄,hend,hj⟩:=hR
  have sback:Steps P (lone (b.atR a (.code (.rangeFunc g ps assign body) :: k)) cs w) (lone (b.atR { a with defers:=[{ target:=.collected w.heap.size,args:=#[] }] ++ a.defers } ((jump.map Item.code).toList ++ k)) cs w₄):=by
   refine .head henter (Steps.trans hsteps (.head ?_ (.one (stepR_endRangeFunc hend))))
   rw [← finish_atR_inRangeFunc (w.heap.size + 1) v]; exact step_leave_returned hleave
  cases jump with
  | none => exact ⟨.normal,_,w₄,hj,by rw [hbk] at sback ⊢; rw [hbk] at sback; exact sback⟩
  | some c =>
   obtain ⟨e',a'',w₅,hq,harr⟩:=hj b0 k cs
   refine ⟨e',a'',w₅,hq,.of_steps sback ?_⟩
   rw [hbk]; exact harr
 | panicked chain =>
  refine ⟨.panic chain,_,w₃,hR,.inRangeFunc (w.heap.size + 1) :: k,.head henter (Steps.trans hsteps (.one ?_))⟩
  rw [← hbk,← Frame.raise_atR]; exact step_leave_panicked hleave
theorem calls_marks {f:FuncId} {fd:Func} {c:Code} {args:Array Value} {R:Ending → World → Prop} (hf:P.funcs[f]? = some fd) (hb:fd.body=some c)
  (h:wpN f P c (bodyPostM Fence.wide 0 P fd R) { tmps:=args ++ Array.replicate (fd.ntmps - args.size) undef,defers:=[] } w):Calls P f args w R:=by
 intro cs
 let b:Frame:={ (default:Frame) with fn:=f,kind:=.normal }
 have henter:Frame.enter P f args .normal=b.at { tmps:=args ++ Array.replicate (fd.ntmps - args.size) undef,defers:=[] } [.code c]:=by
  simp [Frame.enter,Frame.at,hf,hb,b]
 obtain ⟨e,a',w',hq,harr⟩:=h b [] cs rfl
 rw [← henter] at harr
 cases e with
 | normal =>
  obtain ⟨e',w'',fr',hR,hs,hfn,hl⟩:=leaves_stepsInM (F:=Fence.wide) a'.defers .returning w' { b.at a' [] with mode:=.returning } cs rfl rfl rfl hf rfl trivial (room_wide _) hq
  exact ⟨e',w'',fr',hR,Comes.of_steps (Steps.trans harr (.one step_end)) (comesIn_wide.1 hs),hfn,hl⟩
 | ret =>
  obtain ⟨todo,hs₀⟩:=harr
  obtain ⟨e',w'',fr',hR,hs,hfn,hl⟩:=leaves_stepsInM (F:=Fence.wide) a'.defers .returning w' { b.at a' todo with mode:=.returning } cs rfl rfl rfl hf rfl trivial (room_wide _) hq
  exact ⟨e',w'',fr',hR,Comes.of_steps hs₀ (comesIn_wide.1 hs),hfn,hl⟩
 | panic chain =>
  obtain ⟨todo,hs₀⟩:=harr
  obtain ⟨e',w'',fr',hR,hs,hfn,hl⟩:=leaves_stepsInM (F:=Fence.wide) a'.defers (.panicking chain) w' { b.at a' todo with mode:=.panicking chain } cs rfl rfl rfl hf rfl trivial (room_wide _) hq
  exact ⟨e',w'',fr',hR,Comes.of_steps hs₀ (comesIn_wide.1 hs),hfn,hl⟩
 | exit id => exact hq.elim
 | goto l => exact hq.elim
 | outgrown => exact ⟨.outgrown,w',b,hq,harr.resolve_left (by simp [b]),rfl,trivial⟩
end
section
variable {m0:Nat → Nat → Prop} {w0 w w':World} {S:Nat → Prop} {ds:List Deferred} {K:Kn} {s:St} {a:Act} {P:Program}
theorem Fits.redefer (h:Fits ⟨m0,w0,S,ds,K⟩ s a w) (ds':List Deferred):Fits ⟨m0,w0,S,ds',K⟩ s { a with defers:=ds' } w:=
 ⟨h.size,rfl,h.slot,h.gs,h.mem,h.nodup,h.gr,h.sepm,h.sepg,h.chg,h.m0,h.kept⟩
abbrev markD (D:Nat):Deferred:={ target:=.collected D,args:=#[] }
theorem loopW_below (fn:FuncId) (a:Act) (ps:Array Tmp) (assign body:Code) (w:World):Below w.heap.size w (loopW fn a ps assign body w):=
 ((Below.refl _ w).alloc (Nat.le_refl _) _).alloc (by simp) _
theorem loopW_rec (fn:FuncId) (a:Act) (ps:Array Tmp) (assign body:Code) (w:World):(loopW fn a ps assign body w).heap[w.heap.size + 1]? = some (.loop (loopRec fn a ps assign body w.heap.size .ready none)):=by
 have:=World.alloc_heap_new (w.alloc (.deferred (some []))) (.loop (loopRec fn a ps assign body w.heap.size .ready none))
 rwa [World.size_alloc] at this
theorem loopW_mark (fn:FuncId) (a:Act) (ps:Array Tmp) (assign body:Code) (w:World):(loopW fn a ps assign body w).heap[w.heap.size]? = some (.deferred (some [])):=
 (Below.heap_alloc _ _ _ (by simp)).trans (World.alloc_heap_new w _)
theorem Fits.loop (h:Fits ⟨m0,w0,S,[],K⟩ s a w) (fn:FuncId) (ps:Array Tmp) (assign body:Code):Fits ⟨m0,w0,S,[markD w.heap.size],K⟩ s { a with defers:=[markD w.heap.size] } (loopW fn a ps assign body w):=
 (h.below (loopW_below fn a ps assign body w)).redefer _
end
section
variable {m0:Nat → Nat → Prop} {w0 wi w:World} {S:Nat → Prop} {ds di:List Deferred} {K:Kn} {s si:St} {a ai:Act}
def recK (l:Nat) (r:Loop) (D:Nat):Kn:=⟨fun _ w => w.heap[l]? = some (.loop r) ∧ w.heap[D]? = some (.deferred (some [])),fun k h => ⟨k.obj _ _ h.1 (fun _ _ _ e => by cases e),k.obj _ _ h.2 (fun _ _ _ e => by cases e)⟩⟩
theorem over (hc:Fits ⟨m0,w0,S,ds,K⟩ s a wi) {pre:List (Nat × Blk)} (hi:Fits ⟨s.m ⟨m0,w0,S,ds,K⟩,wi,ats pre,di,noK⟩ si ai w) (hdist:pre.Pairwise fun e f => e.2.at_ ≠ f.2.at_) (hp:∀ e ∈ pre,lookM s.mem e.1=some e.2) {sets:List (Nat × List AV)} {news:List (Nat × Blk)} {ks:List Nat} (hs:SetsOk si pre sets) (hn:NewsOk si pre ks news) :
  Fits ⟨m0,w0,S,ds,K⟩ (s.eff (.sets (upd pre sets ++ news))) a w ∧ ∀ v,Ok (si.m ⟨s.m ⟨m0,w0,S,ds,K⟩,wi,ats pre,di,noK⟩) w v → Ok ((s.eff (.sets (upd pre sets ++ news))).m ⟨m0,w0,S,ds,K⟩) w v:=by
 obtain ⟨hl,hok⟩:=left_ok hi hs hn
 obtain ⟨f1,f2⟩:=hc.called hdist hp hl
 exact ⟨f1,fun v hv => f2 v (hok v hv)⟩
end
section
variable {C:Cx} {P:Program} {Q:Exit → Act → World → Prop} {ops:Array Oper} {s:St} {a:Act} {w:World} {L rest:List Oper} {o:Oper}
abbrev yV (l:Nat):AV:=.raw (.func (.yield l) #[] #[])
theorem yield_run {c:Call} {g:Operand} {l:Nat} {args:List AV} (hop:o.op = .call c) (hcal:c.callee = .value g) (h:Fits C s a w) (hgv:val s [] g=yV l) (hl:vals s [] c.args.toList=some args) {rc:Loop} (hr:w.heap[l]? = some (.loop rc)) (hsz:args.length=rc.params.size) :
  (execOp a.eval o).run P w = .ok (.round l rc.fn ((rc.params.zip (args.map AV.den).toArray).foldl (fun tmps (t,a) => tmps.setIfInBounds t a) rc.tmps) rc.assign rc.body) w ∧ ∀ v ∈ args,Ok (s.m C) w v:=by
 obtain ⟨h1,h2⟩:=vals_ok h (fun _ h => by cases h) hl
 have hg:=val_ok h (q:=[]) (fun _ h => by cases h) (x:=g) (by rw [hgv]; rfl)
 rw [hgv] at hg
 have hargs:c.args.map a.eval=(args.map AV.den).toArray:=by
  apply Array.ext'
  simpa using h1
 have e1:a.eval g = .func (.yield l) #[] #[]:=hg.1
 refine ⟨?_,h2⟩
 have hy:=run_yield (P:=P) (args:=(args.map AV.den).toArray) hr (by simpa using hsz)
 simp [execOp,hop,resolve,hcal,e1,Deferred.ofValue,invoke,hargs]
 simpa using hy
theorem wanted_of {i g:Nat} {want:Bool} (hg:o.guard=some (i,want)) (hd:(ops[i]?).bind (·.dst)=some g) (h:Fits C s a w) (hv:look s.tmps g = .bool (if want then .tt else .ff)):Region.wanted o (yielded ops a.tmps)=true:=by
 have h1:=(h.slot g (by rw [hv]; cases want<;>rfl)).1
 rw [hv] at h1
 simp only [Region.wanted,hg,yielded,hd,Option.bind_some]
 cases want<;>simp [h1,AV.den,BE.den]
theorem man_yieldW {c:Call} {g:Operand} {l:Nat} {args:List AV} (hL:L=o :: rest) (hw:Region.wanted o (yielded ops a.tmps)=true) (hop:o.op = .call c) (hcal:c.callee = .value g) (h:Fits C s a w) (hgv:val s [] g=yV l) (hl:vals s [] c.args.toList=some args) {rc:Loop} (hr:w.heap[l]? = some (.loop rc)) (hsz:args.length=rc.params.size)
  (K:(∀ v ∈ args,Ok (s.m C) w v) → RoundIn (rF none) 0 P l rc.fn ((rc.params.zip (args.map AV.den).toArray).foldl (fun tmps (t,a) => tmps.setIfInBounds t a) rc.tmps) rc.assign rc.body w fun
   | .returned v,w'' => wpListIn (rF none) 0 P ops Q rest (a.put o.dst v) w''
   | .panicked chain,w'' => Q (.panic chain) a w''
   | .outgrown,_ => LetsOut Q):wpListIn (rF none) 0 P ops Q L a w:=by
 subst hL
 obtain ⟨hrun,hok⟩:=yield_run (P:=P) hop hcal h hgv hl hr hsz
 show (if Region.wanted o (yielded ops a.tmps) then o.wpIn (rF none) 0 P a w (wpListIn (rF none) 0 P ops Q rest) Q else _)
 rw [if_pos hw]
 refine ⟨fun f _ => rF_fn none f,?_⟩
 rw [Oper.semAt_eq _ _ _ (fun c' e => by rw [hop] at e; cases e),hrun]
 exact ⟨rF_depth none 0,K hok⟩
end
section
variable {P:Program} {w:World}
def roundEnd (l:Nat) (r:Loop) (R:Ending → World → Prop):Exit → Act → World → Prop
 | .normal,_,w => w.heap[l]? = some (.loop { r with state:=.busy }) ∧ R (.returned (.bool true)) (w.putObj l (.loop { r with state:=.ready,pending:=none }))
 | .ret,_,w => w.heap[l]? = some (.loop { r with state:=.busy }) ∧ R (.returned (.bool false)) (w.putObj l (.loop { r with state:=.done,pending:=some .ret }))
 | .exit id,_,w => w.heap[l]? = some (.loop { r with state:=.busy }) ∧ R (.returned (.bool false)) (w.putObj l (.loop { r with state:=.done,pending:=some (.exit id) }))
 | .goto t,_,w => w.heap[l]? = some (.loop { r with state:=.busy }) ∧ R (.returned (.bool false)) (w.putObj l (.loop { r with state:=.done,pending:=some (.goto t) }))
 | .panic chain,a,w => a.defers=[] ∧ R (.panicked chain) w
 | .outgrown,_,_ => False
theorem round_of {l:Nat} {r:Loop} {fd:Func} (hfn:P.funcs[r.fn]? = some fd) (hst:r.state = .ready) {tmps:Array Value} {R:Ending → World → Prop}
  (h:r.assign.wpIn (rF (some l)) 0 P (Exit.then (fun a₁ w₁ => w₁.heap[l]? = some (.loop r) ∧ r.body.wpIn (rF (some l)) 0 P (roundEnd l r R) a₁ (w₁.putObj l (.loop { r with state:=.busy }))) (fun _ _ _ => False)) { tmps:=tmps,defers:=[] } w) :
  RoundIn (rF none) 0 P l r.fn tmps r.assign r.body w R:=by
 refine round_p hfn (wpIn_mono h ?_)
 intro e a₁ w₁ he
 cases e with
 | normal =>
  obtain ⟨hl,hb⟩:=he
  refine ⟨_,run_beginRound hl hst,wpIn_mono hb ?_⟩
  intro e a w he
  cases e with
  | normal => exact ⟨_,_,run_endRound none he.1,he.2⟩
  | ret => exact ⟨_,_,run_endRound (some .ret) he.1,he.2⟩
  | exit id => exact ⟨_,_,run_endRound (some (.exit id)) he.1,he.2⟩
  | goto t => exact ⟨_,_,run_endRound (some (.goto t)) he.1,he.2⟩
  | panic chain => exact he
  | outgrown => exact he
 | exit id => exact he
 | goto t => exact he
 | ret => exact he
 | panic chain => exact he
 | outgrown => exact he
def St.puts (s:St):List (Nat × AV) → St
 | [] => s
 | e :: l => (s.put (some e.1) e.2).puts l
theorem Fits.puts {C:Cx}:∀ {l:List (Nat × AV)} {s:St} {a:Act},Fits C s a w → (∀ e ∈ l,e.1 < s.nt ∧ Ok (s.m C) w e.2) → Fits C (s.puts l) { a with tmps:=l.foldl (fun t e => t.setIfInBounds e.1 e.2.den) a.tmps } w
 | [],s,a,h,_ => h
 | e :: l,s,a,h,hl => by
  obtain ⟨h1,h2⟩:=hl e (by simp)
  have hp:=h.put (some e.1) (fun t ht => by injection ht with ht; subst ht; exact h1) e.2 (fun _ => h2) e.2.den (fun _ => rfl)
  exact Fits.puts (l:=l) hp fun e' he' => hl e' (by simp [he'])
end
section
variable {C:Cx} {P:Program} {Q:Exit → Act → World → Prop} {T:List (Nat × TI)} {s:St} {a:Act} {w:World} {B:Alg} {r:Option Nat}
theorem rpre {all L:List Oper} {R:Alg → (Nat → Atom) → St × List Ob} (i n:Nat) (hB:B=std) (hT:TabOK P T) (kp km:List Nat) (cs:List (Nat × CS)) (h:Fits C s a w) (hO:∀ a w,¬ Q .outgrown a w) (hQ:∀ X a' w',Fits C (R B X).1 a' w' → wpListIn (rF r) 0 P all.toArray Q (L.drop n) a' w')
  (hex:∀ A X,(exec A T cs X all (number i (L.take n)) s).map (fun r => (r.1.keep kp km,r.2.1))=some (R A X)) (hob:∀ X,AO P C.K (R B X).2) (hd:noDefer (L.take n)=true):wpListIn (rF r) 0 P all.toArray Q L a w:=by
 have h1:wpList P all.toArray (Exit.then (fun a w => wpListIn (rF r) 0 P all.toArray Q (L.drop n) a w) Q) (L.take n) a w:=leB i hB hT kp km cs h hex hob fun X a' w' hf => hQ X a' w' hf
 have h2:=list_r (r:=r) (n:=0) (ops:=all.toArray) (Q:=Exit.then (fun a w => wpListIn (rF r) 0 P all.toArray Q (L.drop n) a w) Q) (Q':=Q) (rest:=L.drop n) (fun a w h => hO a w h) (fun e a w hne h => by cases e<;>first | exact absurd rfl hne | exact h) (fun a w h => h) (L.take n) a w hd h1
 rwa [List.take_append_drop] at h2
theorem rlpr {all L:List Oper} {R:Alg → (Nat → Atom) → St × List Ob} (i n:Nat) (hB:B=std) (hT:TabOK P T) (kp km:List Nat) (cs:List (Nat × CS)) (h:Fits C s a w) (hQ:∀ X a' w',Fits C (R B X).1 a' w' → wpListIn (rF r) 0 P all.toArray Q (L.drop n) a' w')
  (hO:∀ a w,¬ Q .outgrown a w:=by first | exact fun _ _ h => h | (intro a w h; obtain ⟨x,h,_⟩:=h; cases h))
  (hex:∀ A X,(exec A T cs X all (number i (L.take n)) s).map (fun r => (r.1.keep kp km,r.2.1))=some (R A X):=by intro A X; conv => lhs; cbv) (hob:∀ X,AO P C.K (R B X).2:=by
   intro X; subst hB
   first
   | exact trivial
   | (simp only [AO,Ob.holds,BE.den]<;>and_intros<;>(repeat first | trivial | rfl | exact O1 | exact O2 | exact O3 | exact (fun _ _ => by kernel_rfl) | exact O1 _ _ _ rfl | exact O2 _ _ _ rfl | refine ⟨?_,?_⟩ | intro h | decide | omega)<;>done)
   | (simp [AO,Ob.holds,BE.den,std,sC,sAr]<;>omega)) (hd:noDefer (L.take n)=true:=by rfl):wpListIn (rF r) 0 P all.toArray Q L a w:=rpre i n hB hT kp km cs h hO hQ hex hob hd
theorem rlnd {all L:List Oper} {R:Alg → (Nat → Atom) → St × List Ob} (i:Nat) (hB:B=std) (hT:TabOK P T) (kp km:List Nat) (cs:List (Nat × CS)) (h:Fits C s a w) (hQ:∀ X a' w',Fits C (R B X).1 a' w' → Q .normal a' w')
  (hO:∀ a w,¬ Q .outgrown a w:=by first | exact fun _ _ h => h | (intro a w h; obtain ⟨x,h,_⟩:=h; cases h))
  (hex:∀ A X,(exec A T cs X all (number i L) s).map (fun r => (r.1.keep kp km,r.2.1))=some (R A X):=by intro A X; conv => lhs; cbv) (hob:∀ X,AO P C.K (R B X).2:=by
   intro X; subst hB
   first
   | exact trivial
   | (simp only [AO,Ob.holds,BE.den]<;>and_intros<;>(repeat first | trivial | rfl | exact O1 | exact O2 | exact O3 | exact (fun _ _ => by kernel_rfl) | exact O1 _ _ _ rfl | exact O2 _ _ _ rfl | refine ⟨?_,?_⟩ | intro h | decide | omega)<;>done)
   | (simp [AO,Ob.holds,BE.den,std,sC,sAr]<;>omega)) (hd:noDefer L=true:=by rfl):wpListIn (rF r) 0 P all.toArray Q L a w:=by
 have h1:=list_r (r:=r) (n:=0) (Q':=Q) (rest:=[]) (fun a w h => hO a w h) (fun e a w hne h => h) (fun a w h => h) L a w hd (leB (Q:=Q) i hB hT kp km cs h hex hob hQ)
 rwa [List.append_nil] at h1
theorem rrg {id:Nat} {l:List Oper} {R:Alg → (Nat → Atom) → St × List Ob} (hB:B=std) (hT:TabOK P T) (kp km:List Nat) (cs:List (Nat × CS)) (h:Fits C s a w) (hQ:∀ X a' w',Fits C (R B X).1 a' w' → Q .normal a' w')
  (hO:∀ a w,¬ Q .outgrown a w:=by first | exact fun _ _ h => h | (intro a w h; obtain ⟨x,h,_⟩:=h; cases h))
  (hex:∀ A X,(exec A T cs X l (number 0 l) s).map (fun r => (r.1.keep kp km,r.2.1))=some (R A X):=by intro A X; conv => lhs; cbv) (hob:∀ X,AO P C.K (R B X).2:=by
   intro X; subst hB
   first
   | exact trivial
   | (simp only [AO,Ob.holds,BE.den]<;>and_intros<;>(repeat first | trivial | rfl | exact O1 | exact O2 | exact O3 | exact (fun _ _ => by kernel_rfl) | exact O1 _ _ _ rfl | exact O2 _ _ _ rfl | refine ⟨?_,?_⟩ | intro h | decide | omega)<;>done)
   | (simp [AO,Ob.holds,BE.den,std,sC,sAr]<;>omega)) (hd:noDefer l=true:=by rfl):(Code.region id l.toArray false).wpIn (rF r) 0 P Q a w:=
 region_r hO hd (leB (all:=l) 0 hB hT kp km cs h hex hob hQ)
end
section
variable {P:Program} {Q:Exit → Act → World → Prop} {C:Cx} {nt t:Nat} {b:Bool} {l:List (Nat × AV)} {mem:List (Nat × Blk)} {gr:List (Nat × Gr)} {a:Act} {w:World} {x y:Code} {r:Option Nat}
theorem rcond {s:St} (h:Fits C s a w) (hv:look s.tmps t = .bool (.v b)) (h1:b=true → x.wpIn (rF r) 0 P Q a w) (h2:b=false → y.wpIn (rF r) 0 P Q a w):(Code.cond (.tmp t) x y).wpIn (rF r) 0 P Q a w:=by
 have:=(h.slot t (by rw [hv]; rfl)).1
 rw [hv] at this
 refine wpIn_cond_split (t:=b) ?_ h1 h2
 simp [Act.eval,this,AV.den,BE.den]
theorem rcond_tt {s:St} (h:Fits C s a w) (hv:look s.tmps t = .bool .tt) (h1:x.wpIn (rF r) 0 P Q a w):(Code.cond (.tmp t) x y).wpIn (rF r) 0 P Q a w:=by
 have:=(h.slot t (by rw [hv]; rfl)).1
 rw [hv] at this
 exact wpIn_cond_true (by simp [Act.eval,this,AV.den,BE.den]) h1
theorem rcond_ff {s:St} (h:Fits C s a w) (hv:look s.tmps t = .bool .ff) (h1:y.wpIn (rF r) 0 P Q a w):(Code.cond (.tmp t) x y).wpIn (rF r) 0 P Q a w:=by
 have:=(h.slot t (by rw [hv]; rfl)).1
 rw [hv] at this
 exact wpIn_cond_false (by simp [Act.eval,this,AV.den,BE.den]) h1
theorem rtest_ok (h:Fits C ⟨nt,(t,.bool (.v b)) :: l,[],mem,gr⟩ a w) (hd:(look l t).known=false) (h1:b=true → Fits C ⟨nt,l,[],mem,gr⟩ a w → x.wpIn (rF r) 0 P Q a w) (h2:b=false → Fits C ⟨nt,l,[],mem,gr⟩ a w → y.wpIn (rF r) 0 P Q a w):(Code.cond (.tmp t) x y).wpIn (rF r) 0 P Q a w:=
 rcond h (by show look ((t,_) :: l) t=_; rw [look_cons,if_pos rfl]) (fun hb => h1 hb (h.tail hd)) (fun hb => h2 hb (h.tail hd))
theorem rtest_tt (h:Fits C ⟨nt,(t,.bool .tt) :: l,[],mem,gr⟩ a w) (hd:(look l t).known=false) (h1:Fits C ⟨nt,l,[],mem,gr⟩ a w → x.wpIn (rF r) 0 P Q a w):(Code.cond (.tmp t) x y).wpIn (rF r) 0 P Q a w:=
 rcond_tt h (by show look ((t,_) :: l) t=_; rw [look_cons,if_pos rfl]) (h1 (h.tail hd))
theorem rtest_ff (h:Fits C ⟨nt,(t,.bool .ff) :: l,[],mem,gr⟩ a w) (hd:(look l t).known=false) (h1:Fits C ⟨nt,l,[],mem,gr⟩ a w → y.wpIn (rF r) 0 P Q a w):(Code.cond (.tmp t) x y).wpIn (rF r) 0 P Q a w:=
 rcond_ff h (by show look ((t,_) :: l) t=_; rw [look_cons,if_pos rfl]) (h1 (h.tail hd))
end
section
variable {P:Program} {Q:Exit → Act → World → Prop} {r:Option Nat} {m0:Nat → Nat → Prop} {w0:World} {S:Nat → Prop} {ds:List Deferred}
theorem rloop_any {ι : Type} (I:ι → Act → World → Prop) (J:ι → Prop) (μ : ι → Nat) {c:Code} {a:Act} {w:World} (p₀:ι) (h₀:J p₀) (hf:I p₀ a w)
  (round:∀ p,J p → ∀ a w,I p a w → c.wpIn (rF r) 0 P (Exit.then (fun a' w' => ∃ p',J p' ∧ μ p' < μ p ∧ I p' a' w') Q) a w):(Code.loop c).wpIn (rF r) 0 P Q a w:=by
 intro b k fs hro hb hr
 have key:∀ n p a w,μ p=n → J p → I p a w →
   ∃ e a' w',Q e a' w' ∧ ArrivesIn (Machine.fenced P (rF r)) P (lone (b.atR a (.code c :: .inLoop c :: k)) fs w) b k fs e a' w':=by
  intro n
  induction n using Nat.strongRecOn with
  | _ n ih =>
   intro p a w hn hJ hF
   obtain ⟨e,a₁,w₁,hq,harr⟩:=round p hJ a w hF b (.inLoop c :: k) fs hro hb hr
   cases e with
   | normal =>
    obtain ⟨p',hJ',hlt,hF'⟩:=hq
    obtain ⟨e₂,a₂,w₂,hq₂,harr₂⟩:=ih (μ p') (hn ▸ hlt) p' a₁ w₁ rfl hJ' hF'
    exact ⟨e₂,a₂,w₂,hq₂,.of_steps (StepsIn.trans harr (.one (fenced_wide P _) stepR_inLoop)) harr₂⟩
   | exit id => exact ⟨_,a₁,w₁,hq,.pass (x:=.inLoop c) rfl (fun _ _ => .inl (by simp)) harr⟩
   | goto l => exact ⟨_,a₁,w₁,hq,.pass (x:=.inLoop c) rfl (fun _ _ => .inl (by simp)) harr⟩
   | ret => exact ⟨_,a₁,w₁,hq,.pass (x:=.inLoop c) rfl (fun _ _ => .inl (by simp)) harr⟩
   | panic ch => exact ⟨_,a₁,w₁,hq,.pass (x:=.inLoop c) rfl (fun _ _ => .inl (by simp)) harr⟩
   | outgrown => exact ⟨_,a₁,w₁,hq,.pass (x:=.inLoop c) rfl (fun _ _ => .inl (by simp)) harr⟩
 obtain ⟨e,a',w',hq,harr⟩:=key _ p₀ a w rfl h₀ hf
 exact ⟨e,a',w',hq,.of_steps (.one (fenced_wide P _) stepR_loop) harr⟩
end
section
variable {P:Program} {f:FuncId} {fn:Func} {c:Code} {R:Ending → World → Prop} {m:Nat → Nat → Prop} {w:World} {pre:List (Nat × Blk)} {args:List AV}
theorem enY (nt:Nat) (hm:∀ b o,m b o → b < w.heap.size) (hp:PreOk m w pre) (hargs:∀ v ∈ args,Ok m w v) (hf:P.funcs[f]? = some fn) (h:∀ B,B=std → ∀ a,Fits ⟨m,w,ats pre,[],noK⟩ ⟨nt,startT 0 args,[],pre,[]⟩ a w → c.wpIn (rF none) 0 P (bodyPost P fn R) a w) (hb:fn.body=some c:=by rfl) (hnt:fn.ntmps=nt:=by rfl) (hn:args.length ≤ nt:=by exact Nat.le_of_ble_eq_true rfl):Calls P f (args.map AV.den).toArray w R:=
 enX nt hm hp hargs hf (fun B hB a hF => (wpIn_wide (n:=0)).1 (h B hB a hF)) hb hnt hn
end
section
variable {C:Cx} {P:Program} {Q:Exit → Act → World → Prop} {T:List (Nat × TI)} {B:Alg} {r:Option Nat} {ops:Array Oper}
theorem nd_at {l:List Oper} (h:noDefer l=true) {o:Oper} (ho:o ∈ l):∀ c,o.op ≠ .defer c:=fun c e => by
 have:=List.all_eq_true.1 h o ho
 rw [e] at this; cases this
theorem any_r (hO:∀ a w,¬ Q .outgrown a w) (hd:∀ o ∈ ops,∀ c,o.op ≠ .defer c) {md:Region.Mode}:∀ (fuel:Nat) (listed:Array Bool) (a:Act) (w:World),wpAny P md ops Q fuel listed a w → wpAnyIn (rF r) 0 P md ops Q fuel listed a w
 | 0,listed,a,w,h => h
 | fuel + 1,listed,a,w,h => by
  refine ⟨h.1,fun i hi => ?_⟩
  have h2:=h.2 i hi
  unfold wpOp at h2
  unfold wpOpIn
  cases ho:ops[i]? with
  | none => rw [ho] at h2; exact any_r hO hd fuel _ _ _ h2
  | some o =>
   rw [ho] at h2
   simp only at h2 ⊢
   by_cases hw:Region.wanted o (yielded ops a.tmps)=true
   ·rw [if_pos hw] at h2 ⊢
    rcases h2 with h2 | ⟨_,a',w',h2⟩
    ·exact oper_r (hd o (Array.mem_of_getElem? ho)) (fun a w h => any_r hO hd fuel _ a w h) (fun _ _ _ h => h) h2
    exact absurd h2 (hO _ _)
   rw [if_neg hw] at h2 ⊢
   exact ⟨fun f _ => rF_fn r f,any_r hO hd fuel _ _ _ h2⟩
theorem rdrawn_ok {s:St} {a:Act} {w:World} {id:Nat} {l:List Oper} (hm:P.follows .mixedOrders=true) (hT:TabOK P T) (kp km:List Nat) (cs:List (Nat × CS)) (h:Fits C s a w) (hgs:s.gs=[]) (fs:List Foot) (hD:drawB l fs=true) (hlen:l.length=fs.length)
  {R:Alg → (Nat → Atom) → St × List Ob}
  (hex:∀ A X,(exec A T cs X l (number 0 l) s).map (fun r => ((r.1.keep kp km,r.2.1),r.2.2))=some (R A X,fs)) (hO:∀ a w,¬ Q .outgrown a w) (hnd:noDefer l=true) (hob:∀ X,AO P C.K (R std X).2) (hQ:∀ X a' w',Fits C (R std X).1 a' w' → Q .normal a' w'):(Code.region id l.toArray true).wpIn (rF r) 0 P Q a w:=by
 simp only [drawB,Bool.and_eq_true] at hD
 obtain ⟨⟨d1,d2⟩,d3⟩:=hD
 refine wpIn_region_any hm (any_r hO (fun o ho => nd_at hnd (by simpa using ho)) _ _ _ _ ?_)
 have hf:Fits C s a { w with drawn:=w.drawn + 1 }:=h.world (fun _ _ _ => rfl) (fun _ _ _ _ _ => rfl) ⟨h.chg.os,h.chg.tape,h.chg.output,h.chg.size,h.chg.block⟩ (fun _ _ _ hc _ => hc) (fun _ _ h _ => h)
 have hnl:∀ (l:List Oper) (i:Nat),(number i l).length=l.length:=by
  intro l
  induction l with
  | nil => intro i; rfl
  | cons o l ih => intro i; simp [number,ih]
 have hsz:l.toArray.size=(number 0 l).length:=by simp [hnl]
 rw [hsz]
 refine any_ok (cs:=cs) (all:=l) (tb:=masks l []) hT rfl (masks_ok (l:=l) (tb:=[]) rfl (fun i j h => by simp at h)) _ (number 0 l) fs _ s a _ rfl hf (fun t p v hl => by rw [hgs] at hl; cases hl) ?_ ⟨by rw [hnl]; exact hlen,d1⟩ ?_ (number_sorted l 0) ?_ ?_ (by simp [hnl]) ?_ ?_
 ·exact ordB_ok d3
 ·intro k o hk hu
  exfalso
  by_cases hk':k < (number 0 l).length
  ·simp [Array.getD_eq_getD_getElem?,hk'] at hu
  simp [Array.getD_eq_getD_getElem?,hk'] at hu
 ·intro x hx
  obtain ⟨h1,h2⟩:=number_get hx
  rw [Nat.sub_zero] at h2
  refine ⟨by simpa using h2,?_⟩
  have hlt:=(List.getElem?_eq_some_iff.1 h2).1
  simp [Array.getD_eq_getD_getElem?,hnl,hlt]
 ·intro k o hk _
  have:=number_mem (i:=0) (l:=l) (k:=k) (o:=o) (by simpa using hk)
  rwa [Nat.zero_add] at this
 ·have ed:∀ (L:List (Nat × Oper)),edgesB L=true → ∀ x ∈ L,∀ e ∈ x.2.after.toList,Region.binds .any e=true → e.on < x.1:=by
   intro L
   induction L with
   | nil => intro _ x hx; cases hx
   | cons y L ih =>
    obtain ⟨i,o⟩:=y
    intro hL x hx e he hb
    simp only [edgesB,Bool.and_eq_true] at hL
    rcases List.mem_cons.1 hx with rfl | hx
    ·have:=List.all_eq_true.1 hL.1 e he
     simpa [hb] using this
    exact ih hL.2 x hx e he hb
  exact ed _ d2
 intro X
 obtain ⟨r,hr,e⟩:=Option.map_eq_some_iff.1 (hex std X)
 obtain ⟨τ,obs,fs'⟩:=r
 simp only [Prod.mk.injEq] at e
 obtain ⟨e1,rfl⟩:=e
 refine ⟨τ,obs,hr,?_,fun a' w' hf' => hQ X a' w' ?_⟩
 ·have:=hob X; rw [← e1] at this; exact this
 rw [← e1]; exact hf'.keep kp km
theorem rdrg {s:St} {a:Act} {w:World} {id:Nat} {l:List Oper} {R:Alg → (Nat → Atom) → St × List Ob} {fs:List Foot} (hB:B=std) (hT:TabOK P T) (kp km:List Nat) (cs:List (Nat × CS)) (h:Fits C s a w) (hQ:∀ X a' w',Fits C (R B X).1 a' w' → Q .normal a' w')
  (hO:∀ a w,¬ Q .outgrown a w:=by first | exact fun _ _ h => h | (intro a w h; obtain ⟨x,h,_⟩:=h; cases h)) (hm:P.follows .mixedOrders=true:=by kernel_rfl) (hgs:s.gs=[]:=by rfl)
  (hex:∀ A X,(exec A T cs X l (number 0 l) s).map (fun r => ((r.1.keep kp km,r.2.1),r.2.2))=some (R A X,fs):=by intro A X; conv => lhs; cbv) (hD:drawB l fs=true:=by kernel_rfl) (hlen:l.length=fs.length:=by rfl) (hob:∀ X,AO P C.K (R B X).2:=by
   intro X; subst hB
   first
   | exact trivial
   | (simp only [AO,Ob.holds,BE.den]<;>and_intros<;>(repeat first | trivial | rfl | exact O1 | exact O2 | exact O3 | exact (fun _ _ => by kernel_rfl) | exact O1 _ _ _ rfl | exact O2 _ _ _ rfl | refine ⟨?_,?_⟩ | intro h | decide | omega)<;>done)
   | (simp [AO,Ob.holds,BE.den,std,sC,sAr]<;>omega)) (hd:noDefer l=true:=by rfl):(Code.region id l.toArray true).wpIn (rF r) 0 P Q a w:=by
 subst hB
 exact rdrawn_ok hm hT kp km cs h hgs fs hD hlen hex hO hd hob hQ
theorem rreg {a:Act} {w:World} {id:Nat} {l:List Oper} (h:wpList P l.toArray Q l a w) (hO:∀ a w,¬ Q .outgrown a w:=by first | exact fun _ _ h => h | (intro a w h; obtain ⟨x,h,_⟩:=h; cases h)) (hd:noDefer l=true:=by rfl):(Code.region id l.toArray false).wpIn (rF r) 0 P Q a w:=region_r hO hd h
end
def okT (tm:List (Nat × AV)):Kn:=⟨fun m w => ∀ t,(look tm t).known=true → Ok m w (look tm t),fun k h t ht => k.ok (h t ht)⟩
def SlotsA (nt:Nat) (tm:List (Nat × AV)) (ds:List Deferred) (a:Act):Prop:=a.tmps.size=nt ∧ a.defers=ds ∧ ∀ t,(look tm t).known=true → a.tmps[t]? = some (look tm t).den
def Kn.under (K:Kn) (n:Nat):Prop:=∀ l,n ≤ l → ∀ {w m w' m'},KeepB (some l) w m w' m' → K.p m w → K.p m' w'
def Kn.off (K:Kn) (l:Nat):Prop:=∀ {w m w' m'},KeepB (some l) w m w' m' → K.p m w → K.p m' w'
theorem Kn.under.off {K:Kn} {n l:Nat} (h:K.under n) (hl:n ≤ l):K.off l:=h l hl
theorem Kn.under.mono {K:Kn} {n n':Nat} (h:K.under n) (hl:n ≤ n'):K.under n':=fun l h' => h l (Nat.le_trans hl h')
theorem okT_under (tm:List (Nat × AV)) (n:Nat):(okT tm).under n:=fun _ _ _ _ _ _ k h t ht => k.ok (h t ht)
theorem and_under {K K':Kn} {n:Nat} (h:K.under n) (h':K'.under n):(K.and K').under n:=fun l hl _ _ _ _ k x => ⟨h l hl k x.1,h' l hl k x.2⟩
theorem okT_off (tm:List (Nat × AV)) (n:Nat):(okT tm).off n:=fun k h t ht => k.ok (h t ht)
theorem and_off {K K':Kn} {n:Nat} (h:K.off n) (h':K'.off n):(K.and K').off n:=fun k x => ⟨h k x.1,h' k x.2⟩
theorem recK_under {l D n:Nat} {r:Loop} (h1:l < n) (h2:D < n):(recK l r D).under n:=fun b hb _ _ _ _ k x => ⟨k.obj _ _ (by intro e; injection e with e; omega) x.1 (fun _ _ _ e => by cases e),k.obj _ _ (by intro e; injection e with e; omega) x.2 (fun _ _ _ e => by cases e)⟩
theorem recK_off {l D n:Nat} {r:Loop} (h1:l ≠ n) (h2:D ≠ n):(recK l r D).off n:=fun k x => ⟨k.obj _ _ (by intro e; injection e with e; exact h1 e.symm) x.1 (fun _ _ _ e => by cases e),k.obj _ _ (by intro e; injection e with e; exact h2 e.symm) x.2 (fun _ _ _ e => by cases e)⟩
def Kn.self (K:Kn):Prop:=∀ m w,K.p m w → K.under w.heap.size
theorem okT_self (tm:List (Nat × AV)):(okT tm).self:=fun _ _ _ => okT_under _ _
theorem and_self' {K K':Kn} (h:K.self) (h':K'.self):(K.and K').self:=fun m w x => and_under (h m w x.1) (h' m w x.2)
theorem recK_self {l D:Nat} {r:Loop}:(recK l r D).self:=fun m w x => recK_under (Array.getElem?_eq_some_iff.1 x.1).1 (Array.getElem?_eq_some_iff.1 x.2).1
def marksK (Ds:List Nat):Kn:=⟨fun _ w => (∀ D ∈ Ds,w.heap[D]? = some (.deferred (some []))) ∧ Ds.Nodup,fun k h => ⟨fun D hD => k.obj _ _ (h.1 D hD) (fun _ _ _ e => by cases e),h.2⟩⟩
section
variable {m0:Nat → Nat → Prop} {w0 w w':World} {S:Nat → Prop} {ds:List Deferred} {K:Kn} {nt:Nat} {tm:List (Nat × AV)} {gs:List (Nat × List (Nat × Bool) × AV)} {mem:List (Nat × Blk)} {gr:List (Nat × Gr)} {a:Act} {P:Program}
abbrev Mem (m0:Nat → Nat → Prop) (w0:World) (S:Nat → Prop) (K:Kn) (mem:List (Nat × Blk)) (gr:List (Nat × Gr)) (w:World):Prop:=Fits ⟨m0,w0,S,[],K⟩ ⟨0,[],[],mem,gr⟩ ⟨#[],[]⟩ w
abbrev mT (m0:Nat → Nat → Prop) (mem:List (Nat × Blk)) (gr:List (Nat × Gr)):Nat → Nat → Prop:=St.m ⟨0,[],[],mem,gr⟩ ⟨m0,default,fun _ => False,[],noK⟩
theorem Fits.leave (h:Fits ⟨m0,w0,S,ds,K⟩ ⟨nt,tm,gs,mem,gr⟩ a w):Mem m0 w0 S (K.and (okT tm)) mem gr w ∧ SlotsA nt tm ds a:=
 ⟨⟨rfl,rfl,(fun t ht => by cases ht),(fun t p v he => by cases he),h.mem,h.nodup,h.gr,h.sepm,h.sepg,h.chg,h.m0,⟨h.kept,fun t ht => (h.slot t ht).2⟩⟩,h.size,h.defers,fun t ht => (h.slot t ht).1⟩
theorem Fits.bare (h:Fits ⟨m0,w0,S,ds,K⟩ ⟨nt,tm,gs,mem,gr⟩ a w):Mem m0 w0 S K mem gr w:=
 ⟨rfl,rfl,(fun t ht => by cases ht),(fun t p v he => by cases he),h.mem,h.nodup,h.gr,h.sepm,h.sepg,h.chg,h.m0,h.kept⟩
theorem mem_act (h:Mem m0 w0 S K mem gr w) (ha:SlotsA nt tm ds a) (hok:(okT tm).p (mT m0 mem gr) w):Fits ⟨m0,w0,S,ds,K⟩ ⟨nt,tm,[],mem,gr⟩ a w:=
 ⟨ha.1,ha.2.1,fun t ht => ⟨ha.2.2 t ht,hok t ht⟩,(fun t p v he => by cases he),h.mem,h.nodup,h.gr,h.sepm,h.sepg,h.chg,h.m0,h.kept⟩
theorem mem_enter (h:Mem m0 w0 S (K.and (okT tm)) mem gr w) (ha:SlotsA nt tm ds a):Fits ⟨m0,w0,S,ds,K⟩ ⟨nt,tm,[],mem,gr⟩ a w:=
 mem_act (K:=K) (Fits.withK (K:=K.and (okT tm)) h h.kept.1) ha h.kept.2
theorem mem_K {K':Kn} (h:Mem m0 w0 S K mem gr w) (hK:K'.p (mT m0 mem gr) w):Mem m0 w0 S K' mem gr w:=Fits.withK (K:=K) h hK
theorem mem_turn {b:Nat} {o:Obj} (h:Mem m0 w0 S K mem gr w) (hb:w.heap[b]? = some o) (ho:∀ c t f,o ≠ Obj.cells c t f) (hg:w.grownBy w' (some b)) (hC:b < w0.heap.size → S b) {K':Kn} (hK:KeepB (some b) w (mT m0 mem gr) w' (mT m0 mem gr) → K'.p (mT m0 mem gr) w'):Mem m0 w0 S K' mem gr w':=
 Fits.turn (K:=K) h hb ho hg hC (hK (turn_keepB hb ho hg))
end
section
variable {m0:Nat → Nat → Prop} {w0 w:World} {S:Nat → Prop} {ds:List Deferred} {K:Kn} {mem:List (Nat × Blk)} {gr:List (Nat × Gr)} {a:Act} {P:Program} {f:FuncId} {fn:Func} {c:Code} {R:Ending → World → Prop} {args:List AV} {B:Alg} {T:List (Nat × TI)} {s:St} {rs:List ResultVar} {r:List AV × List Ob} {Q:Exit → Act → World → Prop} {ops:Array Oper}
theorem startA (hargs:∀ v ∈ args,Ok (mT m0 mem gr) w v) {n:Nat} (hn:args.length ≤ n):SlotsA n (startT 0 args) [] { tmps:=(args.map AV.den).toArray ++ Array.replicate (n - args.length) Go.undef,defers:=[] } ∧ (okT (startT 0 args)).p (mT m0 mem gr) w:=by
 have key:∀ t,(look (startT 0 args) t).known=true → args[t]? = some (look (startT 0 args) t):=fun t ht => by
  have:=(startT_look args 0 t ht).2
  rwa [Nat.sub_zero] at this
 refine ⟨⟨by simp; omega,rfl,fun t ht => ?_⟩,fun t ht => hargs _ (List.mem_of_getElem? (key t ht))⟩
 have h1:=key t ht
 have hlt:=(List.getElem?_eq_some_iff.1 h1).1
 rw [Array.getElem?_append_left (by simpa using hlt)]
 simp [h1]
theorem enI (nt:Nat) (h:Mem m0 w0 S K mem gr w) (hargs:∀ v ∈ args,Ok (mT m0 mem gr) w v) (hf:P.funcs[f]? = some fn) (body:∀ B,B=std → ∀ a,Fits ⟨m0,w0,S,[],K⟩ ⟨nt,startT 0 args,[],mem,gr⟩ a w → c.wp P (bodyPost P fn R) a w) (hb:fn.body=some c:=by rfl) (hnt:fn.ntmps=nt:=by rfl) (hn:args.length ≤ nt:=by exact Nat.le_of_ble_eq_true rfl):Calls P f (args.map AV.den).toArray w R:=by
 refine calls_of_wp hf hb ?_
 obtain ⟨h1,h2⟩:=startA hargs hn
 have:=body std rfl _ (mem_act h h1 h2)
 simpa [hnt] using this
theorem enIN (nt:Nat) (h:Mem m0 w0 S K mem gr w) (hargs:∀ v ∈ args,Ok (mT m0 mem gr) w v) (hf:P.funcs[f]? = some fn) (body:∀ B,B=std → ∀ a,Fits ⟨m0,w0,S,[],K⟩ ⟨nt,startT 0 args,[],mem,gr⟩ a w → wpN f P c (bodyPostM Fence.wide 0 P fn R) a w) (hb:fn.body=some c:=by rfl) (hnt:fn.ntmps=nt:=by rfl) (hn:args.length ≤ nt:=by exact Nat.le_of_ble_eq_true rfl):Calls P f (args.map AV.den).toArray w R:=by
 refine calls_marks hf hb ?_
 obtain ⟨h1,h2⟩:=startA hargs hn
 have:=body std rfl _ (mem_act h h1 h2)
 simpa [hnt] using this
theorem retI (hB:B=std) (hT:TabOK P T) {nt:Nat} {tm:List (Nat × AV)} (h:Fits ⟨m0,w0,S,[],K⟩ ⟨nt,tm,[],mem,gr⟩ a w) (hR:Mem m0 w0 S K mem gr w → Ok (mT m0 mem gr) w (resA r.1) → R (.returned (resA r.1).den) w) (hfn:fn.results=rs.toArray:=by rfl) (hr:resL T ⟨nt,tm,[],mem,gr⟩ rs=some r:=by first | rfl | (conv => lhs; cbv)) (ho:AO P K r.2:=by first | exact trivial | (subst hB; simp [AO,Ob.holds])):bodyPost P fn R .ret a w ∧ bodyPost P fn R .normal a w:=
 ret_ok hT h rfl hfn hr ho fun hv => hR h.bare hv
theorem man_inl {nt:Nat} {tm:List (Nat × AV)} {L rest:List Oper} {o:Oper} {cl:Call} {g:Operand} {l r args:List AV} (hL:L=o :: rest) (hg:o.guard=none) (hop:o.op = .call cl) (hcal:cl.callee = .value g) (h:Fits ⟨m0,w0,S,ds,K⟩ ⟨nt,tm,[],mem,gr⟩ a w) (hgv:val ⟨nt,tm,[],mem,gr⟩ [] g = .fn f l r) (hl:vals ⟨nt,tm,[],mem,gr⟩ [] cl.args.toList=some args) (hen:Enters P f) (hd:∀ t,o.dst=some t → t < nt)
  (Kc:Mem m0 w0 S (K.and (okT tm)) mem gr w → SlotsA nt tm ds a → (∀ v ∈ l ++ args ++ r,Ok (mT m0 mem gr) w v) → Calls P f ((l ++ args ++ r).map AV.den).toArray w fun e w' => ∃ v,e = .returned v.den ∧ ∃ mem' gr' K',Ok (mT m0 mem' gr') w' v ∧ Mem m0 w0 S (K'.and (okT tm)) mem' gr' w' ∧
   ∀ a' ,Fits ⟨m0,w0,S,ds,K'⟩ (St.put ⟨nt,tm,[],mem',gr'⟩ o.dst v) a' w' → wpList P ops Q rest a' w'):wpList P ops Q L a w:=by
 refine man_op hL hg ?_
 obtain ⟨hrun,hok⟩:=call_run hop hcal h hgv hl hen
 obtain ⟨h1,h2⟩:=h.leave
 unfold Oper.wp
 rw [hrun]
 simp only [Oper.upon]
 refine (Kc h1 h2 hok).mono ?_
 rintro e w' ⟨v,rfl,mem',gr',K',hv,hm,k⟩
 have hf:=mem_enter hm h2
 exact k _ (hf.put o.dst hd v (fun _ => hv) _ fun _ => rfl)
end
section
variable {m0:Nat → Nat → Prop} {w0 w:World} {S:Nat → Prop} {ds:List Deferred} {K:Kn} {mem:List (Nat × Blk)} {gr:List (Nat × Gr)} {a:Act} {P:Program} {fn:FuncId}
def recS (rc:Loop) (st:LoopState) (pe:Option Code):Loop:={ rc with state:=st,pending:=pe }
def KL (K:Kn) (tm:List (Nat × AV)) (l:Nat) (rc:Loop) (D:Nat) (st:LoopState) (pe:Option Code):Kn:=(K.and (okT tm)).and (recK l (recS rc st pe) D)
theorem KL_self {K:Kn} (h:K.self) (tm:List (Nat × AV)) (l:Nat) (rc:Loop) (D:Nat) (st:LoopState) (pe:Option Code):(KL K tm l rc D st pe).self:=and_self' (and_self' h (okT_self tm)) recK_self
theorem KL_turn {K:Kn} {tm:List (Nat × AV)} {l D:Nat} {rc:Loop} {st st':LoopState} {pe pe':Option Code} {w w':World} {m:Nat → Nat → Prop} (hD:D ≠ l) (hK:K.off l) (hk:KeepB (some l) w m w' m) (hl:w'.heap[l]? = some (.loop (recS rc st' pe'))) (h:(KL K tm l rc D st pe).p m w):(KL K tm l rc D st' pe').p m w':=
 ⟨⟨hK hk h.1.1,okT_off tm l hk h.1.2⟩,hl,hk.obj _ _ (by intro e; injection e with e; exact hD e.symm) h.2.2 (fun _ _ _ e => by cases e)⟩
theorem putObj_at {w:World} {l:Nat} {o o':Obj} (h:w.heap[l]? = some o):(w.putObj l o').heap[l]? = some o':=by
 have:=(Array.getElem?_eq_some_iff.1 h).1
 simp [World.putObj,this]
theorem rec_turn {K E:Kn} {tm:List (Nat × AV)} {l D:Nat} {rc:Loop} {st st':LoopState} {pe pe':Option Code} {nt:Nat} {tm':List (Nat × AV)} (hl0:w0.heap.size ≤ l) (hD:D ≠ l) (hK:K.off l) (hE:E.off l) (h:Fits ⟨m0,w0,S,ds,(KL K tm l rc D st pe).and E⟩ ⟨nt,tm',[],mem,gr⟩ a w):Fits ⟨m0,w0,S,ds,(KL K tm l rc D st' pe').and E⟩ ⟨nt,tm',[],mem,gr⟩ a (w.putObj l (.loop (recS rc st' pe'))):=by
 obtain ⟨h1,h2⟩:=h.leave
 have hk:=h1.kept
 have hl:w.heap[l]? = some (.loop (recS rc st pe)):=hk.1.1.2.1
 have:=mem_turn (K':=(((KL K tm l rc D st' pe').and E).and (okT tm'))) h1 hl (fun _ _ _ e => by cases e) (grownBy_putObj' w l (.loop (recS rc st' pe'))) (fun h => by omega) (fun kb => ⟨⟨KL_turn hD hK kb (putObj_at hl) hk.1.1,hE kb hk.1.2⟩,okT_off tm' l kb hk.2⟩)
 exact mem_enter this h2
def RoundQ (m0:Nat → Nat → Prop) (w0:World) (S:Nat → Prop) (tm:List (Nat × AV)) (l:Nat) (rc:Loop) (D:Nat) (E:Kn) (N:Kn → List (Nat × Blk) → List (Nat × Gr) → Prop) (X:Code → Kn → List (Nat × Blk) → List (Nat × Gr) → Prop):Exit → Act → World → Prop
 | .normal,_,w => ∃ K mem gr,N K mem gr ∧ K.off l ∧ Mem m0 w0 S ((KL K tm l rc D .busy none).and E) mem gr w
 | .ret,_,w => ∃ K mem gr,X .ret K mem gr ∧ K.off l ∧ Mem m0 w0 S ((KL K tm l rc D .busy none).and E) mem gr w
 | .exit id,_,w => ∃ K mem gr,X (.exit id) K mem gr ∧ K.off l ∧ Mem m0 w0 S ((KL K tm l rc D .busy none).and E) mem gr w
 | .goto t,_,w => ∃ K mem gr,X (.goto t) K mem gr ∧ K.off l ∧ Mem m0 w0 S ((KL K tm l rc D .busy none).and E) mem gr w
 | _,_,_ => False
theorem roundI {fd:Func} {rc:Loop} (hfn:P.funcs[rc.fn]? = some fd) {l D ntc nti:Nat} {tmc tmi:List (Nat × AV)} {ac ai:Act} (hl0:w0.heap.size ≤ l) (hD:D ≠ l) (hK:K.off l) (hst:rc.pending=none) (htm:rc.tmps=ac.tmps)
  (hi:Fits ⟨m0,w0,S,[],KL K tmc l rc D .ready none⟩ ⟨nti,tmi,[],mem,gr⟩ ai w) (hc:∃ d,SlotsA ntc tmc d ac) {ps:List (Nat × AV)} (hps:∀ e ∈ ps,e.1 < ntc ∧ Ok (mT m0 mem gr) w e.2) {R:Ending → World → Prop}
  (N:Kn → List (Nat × Blk) → List (Nat × Gr) → Prop) (X:Code → Kn → List (Nat × Blk) → List (Nat × Gr) → Prop)
  (hN:∀ K' mem' gr' w',N K' mem' gr' → K'.off l → Fits ⟨m0,w0,S,[],KL K' tmc l rc D .ready none⟩ ⟨nti,tmi,[],mem',gr'⟩ ai w' → R (.returned (.bool true)) w')
  (hX:∀ c K' mem' gr' w',X c K' mem' gr' → K'.off l → Fits ⟨m0,w0,S,[],KL K' tmc l rc D .done (some c)⟩ ⟨nti,tmi,[],mem',gr'⟩ ai w' → R (.returned (.bool false)) w')
  (hbody:∀ a,Fits ⟨m0,w0,S,[],(KL K tmc l rc D .ready none).and (okT tmi)⟩ (St.puts ⟨ntc,tmc,[],mem,gr⟩ ps) a w → rc.assign.wpIn (rF (some l)) 0 P (Exit.then (fun a₁ w₁ => ∃ nt1 tm1 mem1 gr1,Fits ⟨m0,w0,S,[],(KL K tmc l rc D .ready none).and (okT tmi)⟩ ⟨nt1,tm1,[],mem1,gr1⟩ a₁ w₁ ∧
   ∀ w₂,Fits ⟨m0,w0,S,[],(KL K tmc l rc D .busy none).and (okT tmi)⟩ ⟨nt1,tm1,[],mem1,gr1⟩ a₁ w₂ → rc.body.wpIn (rF (some l)) 0 P (RoundQ m0 w0 S tmc l rc D (okT tmi) N X) a₁ w₂) (fun _ _ _ => False)) a w) :
  RoundIn (rF none) 0 P l rc.fn (ps.foldl (fun t e => t.setIfInBounds e.1 e.2.den) rc.tmps) rc.assign rc.body w R:=by
 obtain ⟨hm,hai⟩:=hi.leave
 have hk:=hm.kept
 obtain ⟨dc,hac⟩:=hc
 have hact:SlotsA ntc tmc [] { tmps:=ac.tmps,defers:=[] }:=⟨hac.1,rfl,hac.2.2⟩
 have hF0:Fits ⟨m0,w0,S,[],(KL K tmc l rc D .ready none).and (okT tmi)⟩ ⟨ntc,tmc,[],mem,gr⟩ { tmps:=ac.tmps,defers:=[] } w:=mem_act hm hact hk.1.1.2
 have hF1:=hF0.puts (l:=ps) hps
 have hb:=hbody _ hF1
 have key:=round_of (P:=P) (l:=l) (r:=recS rc .ready none) (fd:=fd) hfn rfl (tmps:=ps.foldl (fun t e => t.setIfInBounds e.1 e.2.den) rc.tmps) (R:=R) (w:=w) ?_
 ·exact key
 rw [htm]
 refine wpIn_mono hb ?_
 intro e a₁ w₁ he
 cases e with
 | normal =>
  obtain ⟨nt1,tm1,mem1,gr1,hf1,hb1⟩:=he
  refine ⟨hf1.kept.1.2.1,?_⟩
  have hf2:=rec_turn (st':=.busy) (pe':=none) hl0 hD hK (okT_off tmi l) hf1
  refine wpIn_mono (hb1 _ hf2) ?_
  have fin:∀ {K':Kn} {mem':List (Nat × Blk)} {gr':List (Nat × Gr)} {w':World} (st:LoopState) (pe:Option Code),K'.off l → Mem m0 w0 S ((KL K' tmc l rc D .busy none).and (okT tmi)) mem' gr' w' → w'.heap[l]? = some (.loop { recS rc .ready none with state:=.busy }) ∧ Fits ⟨m0,w0,S,[],KL K' tmc l rc D st pe⟩ ⟨nti,tmi,[],mem',gr'⟩ ai (w'.putObj l (.loop (recS rc st pe))):=fun {K' mem' gr' w'} st pe ho hm' => by
   refine ⟨hm'.kept.1.2.1,?_⟩
   have h3:=rec_turn (st':=st) (pe':=pe) (nt:=0) (tm':=[]) hl0 hD ho (okT_off tmi l) hm'
   exact mem_enter h3 hai
  intro e a₂ w₂ he
  cases e with
  | normal =>
   obtain ⟨K',mem',gr',hn,ho,hm'⟩:=he
   obtain ⟨g1,g2⟩:=fin .ready none ho hm'
   exact ⟨g1,hN _ _ _ _ hn ho g2⟩
  | ret =>
   obtain ⟨K',mem',gr',hn,ho,hm'⟩:=he
   obtain ⟨g1,g2⟩:=fin .done (some .ret) ho hm'
   exact ⟨g1,hX _ _ _ _ _ hn ho g2⟩
  | exit id =>
   obtain ⟨K',mem',gr',hn,ho,hm'⟩:=he
   obtain ⟨g1,g2⟩:=fin .done (some (.exit id)) ho hm'
   exact ⟨g1,hX _ _ _ _ _ hn ho g2⟩
  | goto t =>
   obtain ⟨K',mem',gr',hn,ho,hm'⟩:=he
   obtain ⟨g1,g2⟩:=fin .done (some (.goto t)) ho hm'
   exact ⟨g1,hX _ _ _ _ _ hn ho g2⟩
  | panic chain => exact he.elim
  | outgrown => exact he.elim
 | _ => exact he
theorem rangeI {Q:Exit → Act → World → Prop} {g:Operand} {ps:Array Tmp} {assign body:Code} {gf nt:Nat} {tm:List (Nat × AV)} {lb:List AV} (h:Fits ⟨m0,w0,S,ds,K⟩ ⟨nt,tm,[],mem,gr⟩ a w) (hgv:val ⟨nt,tm,[],mem,gr⟩ [] g = .fn gf [] lb) (hen:Enters P gf) (hK:K.under w.heap.size)
  (hc:∀ l D rc w1,l=D + 1 → D=w.heap.size → rc=loopRec fn a ps assign body D .ready none → w0.heap.size ≤ D → w1.heap.size=D + 2 → SlotsA nt tm ds a → Mem m0 w0 S (KL K tm l rc D .ready none) mem gr w1 → (∀ v ∈ lb,Ok (mT m0 mem gr) w1 v) →
   Calls P gf ((yV l :: lb).map AV.den).toArray w1 fun e w3 => ∃ v,e = .returned v ∧ ∃ K' mem' gr',K'.off l ∧
    ((Mem m0 w0 S (KL K' tm l rc D .ready none) mem' gr' w3 ∧ ∀ a' w',Fits ⟨m0,w0,S,markD D :: ds,K'.and (marksK [D])⟩ ⟨nt,tm,[],mem',gr'⟩ a' w' → Q .normal a' w') ∨
     ∃ c,Mem m0 w0 S (KL K' tm l rc D .done (some c)) mem' gr' w3 ∧ ∀ a' w',Fits ⟨m0,w0,S,markD D :: ds,K'.and (marksK [D])⟩ ⟨nt,tm,[],mem',gr'⟩ a' w' → c.wp P Q a' w')) :
  wpN fn P (Code.rangeFunc g ps assign body) Q a w:=by
 obtain ⟨hm,ha⟩:=h.leave
 have hgd:=val_ok h (q:=[]) (fun _ h => by cases h) (x:=g) (by rw [hgv]; rfl)
 rw [hgv] at hgd
 have hg1:a.eval g = .func (.func gf) #[] (lb.map AV.den).toArray:=by
  have:=hgd.1
  simpa [AV.den,denL_map,AV.denL] using this
 have hlb:∀ v ∈ lb,Ok (mT m0 mem gr) w v:=by
  cases hgd.2 with
  | fn _ _ _ k1 k2 => exact k2
 have hbl:=loopW_below fn a ps assign body w
 have hsz:(loopW fn a ps assign body w).heap.size=w.heap.size + 2:=by simp [loopW]
 have hm1:Mem m0 w0 S (KL K tm (w.heap.size + 1) (loopRec fn a ps assign body w.heap.size .ready none) w.heap.size .ready none) mem gr (loopW fn a ps assign body w):=
  mem_K (hm.below hbl) ⟨(hm.below hbl).kept,loopW_rec fn a ps assign body w,loopW_mark fn a ps assign body w⟩
 have hlb1:∀ v ∈ lb,Ok (mT m0 mem gr) (loopW fn a ps assign body w) v:=fun v hv => (below_keep hbl (mT m0 mem gr)).ok (hlb v hv)
 refine wpN_range (gf:=gf) (lb:=(lb.map AV.den).toArray) hg1 (fun args w => hen args w) ?_
 have hcall:=hc _ _ _ _ rfl rfl rfl h.chg.size hsz ha hm1 hlb1
 have eargs:((yV (w.heap.size + 1) :: lb).map AV.den).toArray = #[.func (.yield (w.heap.size + 1)) #[] #[]] ++ (lb.map AV.den).toArray:=by
  simp [AV.den]
 rw [eargs] at hcall
 refine hcall.mono ?_
 rintro e w3 ⟨v,rfl,K',mem',gr',ho,hh⟩
 have ha':SlotsA nt tm (markD w.heap.size :: ds) { a with defers:={ target:=.collected w.heap.size,args:=#[] } :: a.defers }:=⟨ha.1,by rw [ha.2.1],ha.2.2⟩
 have fin:∀ {st:LoopState} {pe:Option Code},st ≠ .busy → Mem m0 w0 S (KL K' tm (w.heap.size + 1) (loopRec fn a ps assign body w.heap.size .ready none) w.heap.size st pe) mem' gr' w3 →
   ∃ w4,(Instr.endLoop (w.heap.size + 1)).run P w3 = .ok pe w4 ∧ Fits ⟨m0,w0,S,markD w.heap.size :: ds,K'.and (marksK [w.heap.size])⟩ ⟨nt,tm,[],mem',gr'⟩ { a with defers:={ target:=.collected w.heap.size,args:=#[] } :: a.defers } w4:=fun {st pe} hst h3 => by
  have hk:=h3.kept
  have hl:=hk.2.1
  refine ⟨_,run_endLoop hl hst,?_⟩
  have h4:=mem_turn (K':=(K'.and (marksK [w.heap.size])).and (okT tm)) h3 hl (fun _ _ _ e => by cases e) (grownBy_putObj' w3 _ (.loop { recS (loopRec fn a ps assign body w.heap.size .ready none) st pe with state:=.exhausted })) (fun hh => absurd h.chg.size (by simp only at hh ⊢; omega))
   (fun kb => ⟨⟨ho kb hk.1.1,⟨fun D hD => by
    simp only [List.mem_singleton] at hD
    subst hD
    exact kb.obj _ _ (by intro e; injection e with e; omega) hk.2.2 (fun _ _ _ e => by cases e),by simp⟩⟩,okT_off tm _ kb hk.1.2⟩)
  exact mem_enter h4 ha'
 rcases hh with ⟨h3,hq⟩ | ⟨c,h3,hq⟩
 ·obtain ⟨w4,e4,h4⟩:=fin (by simp) h3
  exact ⟨none,w4,e4,hq _ _ h4⟩
 obtain ⟨w4,e4,h4⟩:=fin (by simp) h3
 exact ⟨some c,w4,e4,hq _ _ h4⟩
end
section
variable {m0:Nat → Nat → Prop} {w0 w:World} {S:Nat → Prop} {K:Kn} {mem:List (Nat × Blk)} {gr:List (Nat × Gr)} {a:Act} {P:Program} {fn:Func} {R:Ending → World → Prop} {B:Alg} {T:List (Nat × TI)} {rs:List ResultVar} {r:List AV × List Ob} {nt:Nat} {tm:List (Nat × AV)}
theorem marks_leave {tmps:Array Value}:∀ (Ds:List Nat) (w:World),Mem m0 w0 S (K.and (marksK Ds)) mem gr w → (∀ D ∈ Ds,K.off D ∧ w0.heap.size ≤ D) → (∀ w',Mem m0 w0 S K mem gr w' → ∃ v,(results fn tmps).run P w' = .ok v w' ∧ R (.returned v) w') → LeavesInM Fence.wide 0 P fn tmps R (Ds.map markD) .returning w
 | [],w,h,_,hR => hR w (mem_K h h.kept.1)
 | D :: Ds,w,h,ho,hR => by
  have hk:=h.kept.2
  have hD:w.heap[D]? = some (.deferred (some [])):=hk.1 D (by simp)
  have hnd:=List.nodup_cons.1 hk.2
  refine ⟨by simp,.inl ⟨D,_,rfl,run_takeDeferred hD,marks_leave Ds _ ?_ (fun E hE => ho E (by simp [hE])) hR⟩⟩
  refine mem_turn h hD (fun _ _ _ e => by cases e) (grownBy_putObj' w D _) (fun hh => absurd (ho D (by simp)).2 (by omega)) fun kb => ⟨(ho D (by simp)).1 kb h.kept.1,fun E hE => ?_,hnd.2⟩
  exact kb.obj _ _ (by intro e; injection e with e; subst e; exact hnd.1 hE) (hk.1 E (by simp [hE])) (fun _ _ _ e => by cases e)
theorem retIM (hB:B=std) (hT:TabOK P T) (Ds:List Nat) (h:Fits ⟨m0,w0,S,Ds.map markD,K.and (marksK Ds)⟩ ⟨nt,tm,[],mem,gr⟩ a w) (hof:∀ D ∈ Ds,K.off D ∧ w0.heap.size ≤ D) (hR:∀ w',Mem m0 w0 S K mem gr w' → Ok (mT m0 mem gr) w' (resA r.1) → R (.returned (resA r.1).den) w') (hfn:fn.results=rs.toArray:=by rfl) (hr:resL T ⟨nt,tm,[],mem,gr⟩ rs=some r:=by first | rfl | (conv => lhs; cbv)) (ho:AO P (K.and (okT tm)) r.2:=by first | exact trivial | (subst hB; simp [AO,Ob.holds])):bodyPostM Fence.wide 0 P fn R .ret a w ∧ bodyPostM Fence.wide 0 P fn R .normal a w:=by
 obtain ⟨h1,h2⟩:=h.leave
 have key:LeavesInM Fence.wide 0 P fn a.tmps R a.defers .returning w:=by
  rw [h2.2.1]
  refine marks_leave (K:=K.and (okT tm)) Ds w (mem_K h1 ⟨⟨h1.kept.1.1,h1.kept.2⟩,h1.kept.1.2⟩) (fun D hD => ⟨and_off (hof D hD).1 (okT_off tm D),(hof D hD).2⟩) fun w' hm => ?_
  have hf:=mem_act (ds:=Ds.map markD) hm h2 hm.kept.2
  obtain ⟨g1,g2⟩:=results_ok hT hf hfn hr ho
  exact ⟨_,g1,hR w' (mem_K hm hm.kept.1) g2⟩
 exact ⟨key,key⟩
theorem retI0 (hB:B=std) (hT:TabOK P T) (h:Fits ⟨m0,w0,S,[],K⟩ ⟨nt,tm,[],mem,gr⟩ a w) (hR:∀ w',Mem m0 w0 S K mem gr w' → Ok (mT m0 mem gr) w' (resA r.1) → R (.returned (resA r.1).den) w') (hfn:fn.results=rs.toArray:=by rfl) (hr:resL T ⟨nt,tm,[],mem,gr⟩ rs=some r:=by first | rfl | (conv => lhs; cbv)) (ho:AO P (K.and (okT tm)) r.2:=by first | exact trivial | (subst hB; simp [AO,Ob.holds])):bodyPostM Fence.wide 0 P fn R .ret a w ∧ bodyPostM Fence.wide 0 P fn R .normal a w:=
 retIM hB hT [] (h.withK (K':=K.and (marksK [])) ⟨h.kept,(⟨fun D hD => (by cases hD),List.nodup_nil⟩:(∀ D ∈ ([]:List Nat),w.heap[D]? = some (.deferred (some []))) ∧ ([]:List Nat).Nodup)⟩) (fun D hD => by cases hD) hR hfn hr ho
end
section
variable {α : Type}
def getA (l:Lab):List (Lab × α) → Option α
 | [] => none
 | p :: L => if p.1=l then some p.2 else getA l L
def setA (l:Lab) (x:α):List (Lab × α) → List (Lab × α)
 | [] => [(l,x)]
 | p :: L => if p.1=l then (l,x) :: L else p :: setA l x L
theorem getA_mem {l:Lab} {x:α}:∀ {L:List (Lab × α)},getA l L=some x → (l,x) ∈ L
 | p :: L,h => by
  unfold getA at h
  split at h
  ·rename_i he; injection h with h; subst h; subst he; exact List.mem_cons_self ..
  exact List.mem_cons_of_mem _ (getA_mem h)
theorem mem_getA {p:Lab × α}:∀ {L:List (Lab × α)},(L.map (·.1)).Nodup → p ∈ L → getA p.1 L=some p.2
 | q :: L,h,hp => by
  have h':=List.nodup_cons.1 h
  unfold getA
  rcases List.mem_cons.1 hp with rfl | hp
  ·rw [if_pos rfl]
  rw [if_neg (fun e => h'.1 (List.mem_map.2 ⟨p,hp,e.symm⟩))]
  exact mem_getA h'.2 hp
theorem getA_set {l k:Lab} {x:α}:∀ {L:List (Lab × α)},getA k (setA l x L)=if l=k then some x else getA k L
 | [] => by simp [setA,getA]
 | p :: L => by
  unfold setA
  by_cases h:p.1=l
  ·rw [if_pos h]
   unfold getA
   by_cases hk:l=k
   ·simp [hk]
   simp [hk,h]
  rw [if_neg h]
  unfold getA
  rw [getA_set]
  by_cases hk:l=k
  ·subst hk; simp [h]
  simp [hk]
theorem set_keys {l:Lab} {x:α}:∀ {L:List (Lab × α)},(setA l x L).map (·.1)=if (getA l L).isSome then L.map (·.1) else L.map (·.1) ++ [l]
 | [] => by simp [setA,getA]
 | p :: L => by
  unfold setA getA
  by_cases h:p.1=l
  ·simp [h]
  simp only [if_neg h,List.map_cons,set_keys]
  split<;>simp
theorem set_len {l:Lab} {x:α} (L:List (Lab × α)):(setA l x L).length=if (getA l L).isSome then L.length else L.length + 1:=by
 have:=congrArg List.length (set_keys (l:=l) (x:=x) (L:=L))
 rw [List.length_map] at this
 rw [this]
 split<;>simp
theorem getA_none {l:Lab}:∀ {L:List (Lab × α)},getA l L=none → l ∉ L.map (·.1)
 | [],_ => by simp
 | p :: L,h => by
  unfold getA at h
  split at h
  ·cases h
  rename_i hn
  simp only [List.map_cons,List.mem_cons,not_or]
  exact ⟨fun e => hn e.symm,getA_none h⟩
theorem set_nodup {l:Lab} {x:α} {L:List (Lab × α)} (h:(L.map (·.1)).Nodup):((setA l x L).map (·.1)).Nodup:=by
 rw [set_keys]
 split
 ·exact h
 rename_i hn
 have:=getA_none (by simpa using hn:getA l L=none)
 exact List.nodup_append.2 ⟨h,by simp,fun a ha b hb => by simp at hb; subst hb; exact fun e => this (e ▸ ha)⟩
theorem set_mem {l:Lab} {x:α} {L:List (Lab × α)} (h:(L.map (·.1)).Nodup) (p:Lab × α):p ∈ setA l x L ↔ p=(l,x) ∨ (p ∈ L ∧ p.1 ≠ l):=by
 constructor
 ·intro hp
  have h1:=mem_getA (set_nodup (l:=l) (x:=x) h) hp
  rw [getA_set] at h1
  by_cases he:l=p.1
  ·rw [if_pos he] at h1
   injection h1 with h1
   obtain ⟨p1,p2⟩:=p
   simp only at he h1
   subst he; subst h1
   exact .inl rfl
  rw [if_neg he] at h1
  exact .inr ⟨getA_mem h1,fun e => he e.symm⟩
 rintro (rfl | ⟨hp,hne⟩)
 ·exact getA_mem (by rw [getA_set,if_pos rfl])
 exact getA_mem (x:=p.2) (l:=p.1) (by rw [getA_set,if_neg (fun e => hne e.symm)]; exact mem_getA h hp)
structure LmD (el:α → AV) (D:DataW Value) (b:Nat) (L:List (Lab × α)) (m:Nat → Nat → Prop) (w:World):Prop where
 map:MapW Tryz.prog 37 w b L.length D
 nd:(L.map (·.1)).Nodup
 labs:∀ p ∈ L,LabOk p.1
 has:∀ kl,Maps.has D kl=true ↔ ∃ p ∈ L,keyL p.1=kl
 size:Maps.size D=L.length
 at_:∀ p ∈ L,∀ zd,D.atKey (keyL p.1) zd = .held (el p.2).den
 ok:∀ p ∈ L,Ok m w (el p.2)
variable {el:α → AV} {D:DataW Value} {b:Nat} {L:List (Lab × α)} {m m':Nat → Nat → Prop} {w w':World} {l:Lab}
theorem LmD.keepB {bo:Option Nat} (h:LmD el D b L m w) (k:KeepB bo w m w' m') (hb:bo ≠ some b):LmD el D b L m' w':=
 ⟨mapW_keepB k hb h.map,h.nd,h.labs,h.has,h.size,h.at_,fun p hp => k.ok (h.ok p hp)⟩
theorem LmD.keep (h:LmD el D b L m w) (k:Keep w m w' m'):LmD el D b L m' w':=
 ⟨mapW_keep k h.map,h.nd,h.labs,h.has,h.size,h.at_,fun p hp => k.ok (h.ok p hp)⟩
def lmK (el:α → AV) (b:Nat) (L:List (Lab × α)):Kn:=⟨fun m w => ∃ D,LmD el D b L m w,fun k ⟨D,h⟩ => ⟨D,h.keep k⟩⟩
def lmF (el:α → AV) (n b:Nat) (L:List (Lab × α)):Kn:=⟨fun m w => n ≤ b ∧ (lmK el b L).p m w,fun k h => ⟨h.1,(lmK el b L).st k h.2⟩⟩
theorem lmK_off {n:Nat} (h:b ≠ n):(lmK el b L).off n:=fun k ⟨D,x⟩ => ⟨D,x.keepB k (fun e => h (by injection e with e; exact e.symm))⟩
theorem lmK_under {n:Nat} (h:b < n):(lmK el b L).under n:=fun l hl => lmK_off (by omega)
theorem lmK_map (h:(lmK el b L).p m w):∃ es cl,w.heap[b]? = some (.map es cl):=by
 obtain ⟨D,h⟩:=h
 obtain ⟨es,cl,hb,_⟩:=h.map
 exact ⟨es,cl,hb⟩
theorem lmK_lt (h:(lmK el b L).p m w):b < w.heap.size:=by
 obtain ⟨es,cl,hb⟩:=lmK_map h
 exact lt_heap hb
theorem lmK_self:(lmK el b L).self:=fun _ _ h => lmK_under (lmK_lt h)
theorem LmD.empty (h:MapW Tryz.prog 37 w b 0 (.map [])):LmD el (.map []) b [] m w:=
 ⟨h,.nil,fun p hp => (by cases hp),fun kl => ⟨fun h => (by cases h),fun ⟨p,hp,_⟩ => (by cases hp)⟩,rfl,fun p hp => (by cases hp),fun p hp => (by cases hp)⟩
theorem LmD.hasL (h:LmD el D b L m w) (hl:LabOk l):Maps.has D (keyL l)=(getA l L).isSome:=by
 cases hf:getA l L with
 | some x => exact (h.has _).2 ⟨(l,x),getA_mem hf,rfl⟩
 | none =>
  rw [Option.isSome_none,Bool.eq_false_iff]
  intro hh
  obtain ⟨p,hp,he⟩:=(h.has _).1 hh
  have:p.1=l:=keyL_inj (h.labs p hp) hl he
  rw [← this,mem_getA h.nd hp] at hf
  cases hf
theorem LmD.look (h:LmD el D b L m w) (hl:LabOk l) {mt e:TypeId} (ht:Tryz.prog.underlying mt=some (.map 37 e)) {z:α} (hz:(zeroValue e).run Tryz.prog w = .ok (el z).den w) (hzo:Ok m w (el z)) (c:Bool) :
  (Instr.lookup mt (.map (some b)) (labAV l).den c).run Tryz.prog w = .ok (if c then .tuple #[(el ((getA l L).getD z)).den,.bool (getA l L).isSome] else (el ((getA l L).getD z)).den) w ∧ Ok m w (el ((getA l L).getD z)):=by
 have hh:=h.hasL hl
 obtain ⟨es,clock,hb,F,_,hD⟩:=h.map
 rcases Maps.fit_look c labK ht hz hb F (key_lab hl) with ⟨hrun,_,hat⟩ | ⟨e0,y,_,_,hrun,hRv,hat,_⟩
 ·rw [← hD] at hat
  have hf:=Maps.has_false_of_atKey hat
  rw [hh] at hf
  have hn:getA l L=none:=by cases hg:getA l L with
   | none => rfl
   | some x => rw [hg] at hf; cases hf
  rw [hn]
  exact ⟨hrun,hzo⟩
 rw [← hD] at hat
 have hf:=Maps.has_true_of_atKey hat
 rw [hh] at hf
 obtain ⟨x,hx⟩:=Option.isSome_iff_exists.1 hf
 have hm:=getA_mem hx
 have e1:=h.at_ _ hm (.held Go.undef)
 rw [hat] at e1
 have e2:y.1 = .held e0.val:=by unfold hR at hRv; injection hRv with hRv; rw [← hRv]
 rw [e2] at e1
 injection e1 with e1
 rw [hx]
 simp only at e1
 simp only [Option.getD_some,Option.isSome_some]
 exact ⟨by rw [← e1]; exact hrun,h.ok _ hm⟩
theorem look_tt {K:Kn} (hK:∀ m w,K.p m w → (lmK el b L).p m w) (hl:LabOk l) {mt e:TypeId} (ht:Tryz.prog.underlying mt=some (.map 37 e)) {z:α} (hz:∀ w,(zeroValue e).run Tryz.prog w = .ok (el z).den w) (hzo:∀ m w,Ok m w (el z)) {v:AV} (hv:el ((getA l L).getD z)=v) {h:Bool} (hh:(getA l L).isSome=h):Ob.holds Tryz.prog K (.look mt true (.raw (.map (some b))) (labAV l) (.tup [v,.bool (.v h)])):=by
 intro m w hk
 obtain ⟨D,hD⟩:=hK m w hk
 obtain ⟨h1,h2⟩:=hD.look hl ht (hz w) (hzo m w) true
 rw [hv] at h1 h2
 rw [hh] at h1
 refine ⟨by rw [show AV.den (.raw (.map (some b)))=Value.map (some b) from rfl,h1]; simp [AV.den,AV.denL,BE.den],.tup _ fun u hu => ?_⟩
 simp only [List.mem_cons,List.not_mem_nil,or_false] at hu
 rcases hu with rfl | rfl
 ·exact h2
 exact .bool _
theorem look_ff {K:Kn} (hK:∀ m w,K.p m w → (lmK el b L).p m w) (hl:LabOk l) {mt e:TypeId} (ht:Tryz.prog.underlying mt=some (.map 37 e)) {z:α} (hz:∀ w,(zeroValue e).run Tryz.prog w = .ok (el z).den w) (hzo:∀ m w,Ok m w (el z)) {v:AV} (hv:el ((getA l L).getD z)=v):Ob.holds Tryz.prog K (.look mt false (.raw (.map (some b))) (labAV l) v):=by
 intro m w hk
 obtain ⟨D,hD⟩:=hK m w hk
 obtain ⟨h1,h2⟩:=hD.look hl ht (hz w) (hzo m w) false
 rw [hv] at h1 h2
 exact ⟨h1,h2⟩
theorem LmD.put (h:LmD el D b L m w) (hl:LabOk l) (k:KeepB (some b) w m w' m) {x:α} (hv:Ok m w (el x)) (hM:MapW Tryz.prog 37 w' b (L.length + 1) (D.put (keyL l) (.held (el x).den))):∃ D',LmD el D' b (setA l x L) m w':=by
 have hkey:WideAt.IsKeyLit (keyL l):=labK.key (key_lab hl)
 have hmp:Maps.IsMap D:=(h.map.tidy labK).isMap
 have hsz:=mapW_size hM
 have hlen:Maps.size (D.put (keyL l) (.held (el x).den))=(setA l x L).length:=by
  rw [Maps.size_put (h.map.tidy labK),h.hasL hl,set_len]
  rw [h.size]
 have hin:=set_mem (l:=l) (x:=x) h.nd
 refine ⟨_,?_,set_nodup h.nd,fun p hp => ?_,fun kl => ?_,hlen,fun p hp zd => ?_,fun p hp => ?_⟩
 ·rw [hlen] at hsz; exact hsz
 ·rcases (hin p).1 hp with rfl | ⟨hp,_⟩
  ·exact hl
  exact h.labs p hp
 ·by_cases he:kl=keyL l
  ·subst he
   rw [Maps.has_put_same hmp hkey]
   exact ⟨fun _ => ⟨_,(hin _).2 (.inl rfl),rfl⟩,fun _ => rfl⟩
  rw [Maps.has_put_other he,h.has]
  constructor
  ·rintro ⟨p,hp,hk⟩
   exact ⟨p,(hin p).2 (.inr ⟨hp,fun e => he (by rw [← hk,e])⟩),hk⟩
  rintro ⟨p,hp,hk⟩
  rcases (hin p).1 hp with rfl | ⟨hp,_⟩
  ·exact absurd hk.symm he
  exact ⟨p,hp,hk⟩
 ·rcases (hin p).1 hp with rfl | ⟨hp,hne⟩
  ·rw [Maps.atKey_put_same hmp hkey]
  rw [Maps.atKey_put_other (fun e => hne (keyL_inj (h.labs p hp) hl e))]
  exact h.at_ p hp zd
 rcases (hin p).1 hp with rfl | ⟨hp,hne⟩
 ·exact k.ok hv
 exact k.ok (h.ok p hp)
theorem lmK_put {n:Nat} (h0:MapW Tryz.prog 37 w b n D) (hl:LabOk l) (h:(lmK el b L).p m w) (k:KeepB (some b) w m w' m) {v:AV} {x:α} (hs:Sim v (el x)) (hv:Ok m w v) (hM:MapW Tryz.prog 37 w' b (L.length + 1) (D.put (keyL l) (.held v.den))):(lmK el b (setA l x L)).p m w':=by
 obtain ⟨D1,h1⟩:=h
 have:=mapW_fun h0 h1.map
 subst this
 rw [hs.1] at hM
 exact h1.put hl k (hs.2.2 _ _ hv) hM
end
theorem mapr_und:Tryz.prog.underlying 73=some (.map 37 76):=by kernel_rfl
theorem mapl_und:Tryz.prog.underlying 82=some (.map 37 37):=by kernel_rfl
theorem cov_stp (l:Lab) (f:Nat → Itm) (i:Nat):covL l (firsts f (i + 1))=covL l (firsts f i) ++ (if coverB l (f i).key=true then [f i] else []):=by
 unfold firsts covL
 rw [List.range_succ,List.map_append,List.filter_append]
 congr 1
 by_cases h:coverB l (f i).key=true<;>simp [h]
def treeA (f:Nat → RowA):Nat → List (Lab × RA)
 | 0 => []
 | n + 1 => setA (f n).lab (f n).x (treeA f n)
theorem treeA_len (f:Nat → RowA):∀ n,(treeA f n).length ≤ n
 | 0 => Nat.le_refl _
 | n + 1 => by
  have:=treeA_len f n
  unfold treeA
  rw [set_len]
  split<;>omega
theorem tcov_s (A:Option Addr) (n c:Nat) (f:Nat → Itm) (hn:n ≤ 1000000) (l:Lab) (hb0:U64 l.bits) (hki:∀ i,i < n → U64 (f i).key):Spec Tryz.prog 46 [rowI A n c f,labAV l] (fun x => rowI (x.A 0) (covL l (firsts f n)).length (x.c 0) (itF (covL l (firsts f n)))):=by
 intro m w hm hargs
 have hmx:maxLen=9223372036854775807:=rfl
 unfold rowI at hargs ⊢
 simp only [labAV] at hargs ⊢
 refine en 24 hm hargs Tryz.func46 fun B hB a0 hF => ?_
 refine wp_seq (rg hB TA_ok [0,3] [3] [] hF fun X0 a0 w1 hF => ?_)
 refine wp_seq (rg hB TA_ok [5,3,0] [3,5] [] hF fun X1 a0 w1 hF => ?_)
 refine wp_seq (wp_seq (rg hB TA_ok [5,10,3,8,9] [3,5] [] hF fun X2 a0 w1 hF => ?_))
 replace hF:=hF.headS (v':=.sl (some 5) none 0 0 2 (fun t => itC zeroItm)) (zq0) rfl
 refine wp_block (loop_pre (ι:=Nat × Nat × (Nat → Itm) × Option Addr × Nat) (fun p => [(5,.sl (some 5) p.2.2.2.1 p.2.1 p.2.2.2.2 2 (fun t => itC (p.2.2.1 t))),(10,.int .i64 (p.1:Int))]) (fun p => []) (fun p => [(5,⟨p.2.2.2.1,p.2.1,p.2.2.2.2,2,63⟩)]) (fun p => p.1 ≤ n ∧ p.2.1 ≤ p.1 ∧ firsts p.2.2.1 p.2.1=covL l (firsts f p.1)) (fun p => n - p.1) (0,0,fun _ => zeroItm,none,0) ⟨Nat.zero_le _,Nat.le_refl _,rfl⟩ hF ?_)
 rintro ⟨i,q,g,A1,c1⟩ ⟨hi,hq,hg⟩ a0 w1 hF
 try dsimp only at hi
 try dsimp only at hq
 try dsimp only at hg
 refine wp_seq (rg hB TA_ok [11,5,10,3,8,9] [3,5] [] hF fun X3 a0 w1 hF => ?_)
 refine wp_seq (test_ok hF rfl (fun hb hF => ?_) (fun hb hF => ?_))
 ·have hin:i < n:=by
   have:(i:Int) < (n:Int):=by subst hB; simpa [std,sC] using hb
   omega
  have S:=cov_s l hb0 (f i).key (hki i hin)
  simp only [labAV] at S
  obtain ⟨cq,hcq⟩:=eqv (coverB l (f i).key)
  rw [← hcq] at S
  refine wp_skip (wp_seq (wp_block (wp_seq ?_)))
  refine rg hB TA_ok [7,5,10,3,8,9] [7,3,5] [] hF (hob:=by intro X; subst hB; simp only [AO,Ob.holds,BE.den]<;>and_intros<;>repeat first | trivial | rfl | exact (show (0:Int) ≤ (i:Int) by omega) | exact (show (i:Int) < (n:Int) by omega) | exact (fun _ _ => by kernel_rfl) | refine ⟨?_,?_⟩ | intro h | exact Int.le_refl _ | decide | omega) fun X4 a0 w1 hF => ?_
  replace hF:=hF.memS (cells':=itC (f i)) (by subst hB; exact zl)
  have O1:=S
  refine wp_seq (rg hB TA_ok [17,7,5,10,3,8,9] [7,3,5] [(3,.r fun _ => .bool (.v cq))] hF fun X5 a0 w1 hF => ?_)
  apply test_ok hF rfl<;>intro hb hF
  ·have hct:cq=true:=hb
   rw [hct] at hcq
   refine rg hB TA_ok [5,10,3,8,9] [3,5] [] hF (hob:=?hob) fun X6 a0 w1 hF => ?_
   case hob =>
    intro X
    subst hB
    repeat (first | exact trivial | refine ⟨⟨rfl,rfl,rfl⟩,?_⟩ | refine ⟨rfl,?_⟩ | refine ⟨⟨show q + 1 ≤ maxLen by omega,show (q + 1) * _ ≤ _ by omega⟩,?_⟩)
   replace hF:=hF.headS (v':=.sl (some 5) ((X6 3).A 0) (B.nadd q 1) ((X6 3).c 0) 2 (fun t => itC (fSet g q (f i) t))) (Sim.resl rfl (fun t ht => by
    subst hB
    have ht2:t < q + 1:=ht
    show appC q (fun t => itC (g t)) (chunk 2 [.int .u64 (f i).key,.str (f i).val]) t=_
    unfold appC fSet
    split
    ·rw [if_neg (by omega)]
    have:t=q:=by omega
    subst this
    simp [chunk,itC])) rfl
   refine rg hB TA_ok [5,10,3,8,9] [3,5] [] hF fun X7 a0 w1 hF => ?_
   have e:B.arith .add .i64 (i:Int) 1=((i + 1:Nat):Int):=by subst hB; exact wrap_succ (n:=n) hin (by omega)
   refine ⟨(i + 1,q + 1,fSet g q (f i),_,_),⟨by simp only; omega,by simp only; omega,?_⟩,by simp only; omega,by rw [← e,show q + 1=B.nadd q 1 by subst hB; rfl]; exact hF⟩
   simp only
   rw [firsts_set,hg,cov_stp,if_pos hcq.symm]
  have hcf:cq=false:=hb
  rw [hcf] at hcq
  refine wp_skip (rg hB TA_ok [5,10,3,8,9] [3,5] [] hF fun X7 a0 w1 hF => ?_)
  have e:B.arith .add .i64 (i:Int) 1=((i + 1:Nat):Int):=by subst hB; exact wrap_succ (n:=n) hin (by omega)
  refine ⟨(i + 1,q,g,_,_),⟨by simp only; omega,by simp only; omega,?_⟩,by simp only; omega,by rw [← e]; exact hF⟩
  simp only
  rw [hg,cov_stp,if_neg (by rw [← hcq]; decide),List.append_nil]
 have hout:i=n:=by
  have:¬ (i:Int) < (n:Int):=by subst hB; simpa [std,sC] using hb
  omega
 rw [hout] at hg
 refine wp_exit (wp_seq (rg hB TA_ok [4] [5] [] hF fun X8 a0 w1 hF => ?_))
 refine wp_ret ((rsi hB TA_ok hF (⟨0,fun _ => A1,fun _ => c1,fun _ => ⟨#[]⟩⟩) (he:=?_)))
 subst hB
 exact Sim.resl (by rw [← hg,firsts_len]) (fun t ht => by rw [← hg,firsts_len] at ht; rw [← hg,firsts_get _ _ t ht])
theorem enters43:Enters Tryz.prog 43:=fun _ _ => by kernel_rfl
theorem tof_m (A:Option Addr) (n c:Nat) (f:Nat → RowA) (hn:n ≤ 100000) (hN:∀ i,i < n → LabOk (f i).lab):SpecM Tryz.prog 43 [rowsV A n c f] [] none noK (fun y => ⟨.raw (.map (some (y.c 0))),[],[]⟩) (fun N y => lmF recV N (y.c 0) (treeA f n)):=by
 intro m w hm hargs hpre hI
 have hmx:maxLen=9223372036854775807:=rfl
 refine enM (bo:=none) 20 hm hpre hI hargs Tryz.func43 fun B hB a0 hF => ?_
 refine wp_seq (rg hB TA_ok [0] [] [] hF fun X0 a0 w1 hF => ?_)
 refine wp_seq (wp_region_lit (man_makeMap (k:=37) (e:=0) rfl rfl rfl rfl hF (Nat.le_of_ble_eq_true rfl) (lmK recV w1.heap.size []) (fun m w' _ _ hM => ⟨_,LmD.empty hM⟩) ?_))
 obtain ⟨bM,hbM⟩:=eqv (w1.heap.size)
 rw [← hbM]
 intro a0 w1 hfresh hF
 have hbfr:w.heap.size ≤ bM:=hfresh
 refine lnd 1 hB TA_ok [3,0] [] [] hF fun X1 a0 w1 hF => ?_
 refine wp_seq (wp_seq (rg hB TA_ok [9,3,7,8] [] [] hF fun X2 a0 w1 hF => ?_))
 refine wp_block (loop_preK (ι:=Nat) (fun p => lmK recV bM (treeA f p)) (fun p => [(9,.int .i64 (p:Int))]) (fun p => []) (fun p => []) (fun p => p ≤ n) (fun p => n - p) 0 (Nat.zero_le _) hF ?_)
 rintro i hi a0 w1 hF
 try dsimp only at hi
 replace hF:=hF.withK (K':=lmK recV bM (treeA f i)) hF.kept
 have hLn:=treeA_len f i
 refine wp_seq (rg hB TA_ok [10,9,3,7,8] [] [] hF fun X3 a0 w1 hF => ?_)
 refine wp_seq (test_ok hF rfl (fun hb hF => ?_) (fun hb hF => ?_))
 ·have hin:i < n:=by
   have:(i:Int) < (n:Int):=by subst hB; simpa [std,sC] using hb
   omega
  have hlab:=hN i hin
  refine wp_skip (wp_seq (wp_block (wp_seq ?_)))
  refine rg hB TA_ok [5,9,3,7,8] [5] [] hF (hob:=by intro X; subst hB; simp only [AO,Ob.holds,BE.den]<;>and_intros<;>repeat first | trivial | rfl | exact (show (0:Int) ≤ (i:Int) by omega) | exact (show (i:Int) < (n:Int) by omega) | exact (fun _ _ => by kernel_rfl) | refine ⟨?_,?_⟩ | intro h | exact Int.le_refl _ | decide | omega) fun X4 a0 w1 hF => ?_
  replace hF:=hF.memS (cells':=rowC (f i)) (by subst hB; exact zl)
  refine wp_region_lit (lpr 0 5 hB TA_ok [13,15,17,9,3,7,8] [5] [] hF fun X5_0 a0 w1 hF => ?_)
  obtain ⟨D2,hD2⟩:=hF.kept
  refine man_mapUpdate (k:=37) (e:=76) rfl rfl rfl rfl hF rfl rfl rfl rfl rfl labK mapr_und hD2.map (by omega) (key_lab hlab) (fun h => absurd h (by omega)) (lmK recV bM (treeA f (i + 1))) (fun m w' hk hkb hv hM => ?_) ?_
  ·exact lmK_put (x:=(f i).x) hD2.map hlab hk hkb (zr) hv hM
  intro w1 hF
  refine wpList_nil (rg hB TA_ok [9,3,7,8] [] [] hF fun X6 a0 w1 hF => ?_)
  have e:B.arith .add .i64 (i:Int) 1=((i + 1:Nat):Int):=by subst hB; exact wrap_succ (n:=n) hin (by omega)
  refine ⟨i + 1,by omega,by omega,by rw [← e]; exact hF⟩
 have hout:i=n:=by
  have:¬ (i:Int) < (n:Int):=by subst hB; simpa [std,sC] using hb
  omega
 subst hout
 refine wp_exit (wp_seq (rg hB TA_ok [2] [] [] hF fun X7 a0 w1 hF => ?_))
 refine wp_ret ((rm hB TA_ok hF (⟨0,fun _ => none,fun _ => bM,fun _ => ⟨#[]⟩⟩) [] (hJ:=?_)).1)
 exact fun _ _ h => ⟨hbfr,h⟩
theorem own_known2 {m:Nat → Nat → Prop} {w:World} {B e k:Nat} {A:Option Addr} {n c:Nat} {f:Nat → List AV} (hO:Own w B e k (.slice A n c) n (rowFlat f n)) (hk:∀ i,i < n → (f i).length=k) (hm:∀ b,ownB (.slice A n c)=some b → ∀ o,o < n * k → ¬ m b o) (h1:∀ i,i < n → ∀ v ∈ f i,v.one=true ∧ Ok m w v) (g:Option Nat):Ok m w (.sl g A n c k f):=by
 obtain ⟨A',c',he,h2,h3⟩:=hO.isSlice
 injection he with e1 e2 e3; subst e3
 refine .sl _ _ _ _ _ _ h2 h3 hk (fun i hi => ?_) (fun i hi => ?_) (fun i hi v hv => (h1 i hi v hv).1) (fun i hi v hv => (h1 i hi v hv).2)
 ·obtain ⟨b,hA,_⟩:=own_head hO (by omega)
  exact ⟨b,0,hA⟩
 obtain ⟨b,hA,hb⟩:=own_head hO (by omega)
 intro j u hu
 have hj:j < k:=by
  have:=(List.getElem?_eq_some_iff.1 hu).1
  rwa [List.length_map,hk i hi] at this
 have hget:=rowFlat_get (cells:=f) hk hi hj
 rw [hu] at hget
 refine ⟨b,0,hA,by rw [Nat.zero_add]; exact own_cells hO hb _ u hget,hm b hb _ ?_⟩
 have:=Nat.mul_le_mul_right k (Nat.succ_le_of_lt hi)
 rw [Nat.succ_mul] at this
 omega
section
variable {m0:Nat → Nat → Prop} {w0 w w':World} {S:Nat → Prop} {ds:List Deferred} {K K':Kn} {nt key:Nat} {t:Gr} {l l':List (Nat × AV)} {mem:List (Nat × Blk)} {a:Act}
abbrev mG (m0:Nat → Nat → Prop) (mem:List (Nat × Blk)) (gr:List (Nat × Gr)):Nat → Nat → Prop:=St.m ⟨0,[],[],mem,gr⟩ ⟨m0,default,fun _ => False,[],noK⟩
theorem Fits.rowset (h:Fits ⟨m0,w0,S,ds,K⟩ ⟨nt,l,[],mem,[(key,t)]⟩ a w) (hc:Chg (fun x => ownB t.v=some x) w w') {xs':List Value} (hO:Own w' w0.heap.size t.e t.k t.v t.n xs')
  (hl:∀ x,(look l' x).known=true → a.tmps[x]? = some (look l' x).den ∧ Ok (mG m0 mem [(key,t)]) w' (look l' x)) (hm:∀ k e,lookM mem k=some e → ∀ v ∈ e.cells,Ok (mG m0 mem [(key,t)]) w' v) (hK:K'.p (mG m0 mem [(key,t)]) w'):Fits ⟨m0,w0,S,ds,K'⟩ ⟨nt,l',[],mem,[(key,t)]⟩ a w':=by
 have hlt:∀ b,ownB t.v=some b → w0.heap.size ≤ b:=fun b hb => by
  obtain ⟨_,xs,ho⟩:=h.gr key t (by simp [lookM])
  exact (ho.lt b hb).1
 refine ⟨h.size,h.defers,hl,(fun t p v hg => by cases hg),fun k e he => ?_,h.nodup,fun k t' ht => ?_,h.sepm,h.sepg,?_,h.m0,hK⟩
 ·obtain ⟨h1,h2,h3⟩:=h.mem k e he
  refine ⟨?_,fun v hv => ⟨(h2 v hv).1,hm k e he v hv⟩,h3⟩
  rw [hc.block _ (lt_heap h1) (fun hb => h.sepm key t k e (by simp [lookM]) he hb)]
  exact h1
 ·have hk:=(h.gr k t' ht).1
  have:t'=t:=by
   simp only [lookM] at ht
   split at ht
   ·injection ht with ht; exact ht.symm
   cases ht
  subst this
  exact ⟨hk,xs',hO⟩
 exact h.chg.trans hc fun k hk hb => absurd hk (Nat.not_lt.2 (hlt k hb))
theorem grown_free (h:Fits ⟨m0,w0,S,ds,K⟩ ⟨nt,l,[],mem,[(key,t)]⟩ a w):∀ b,ownB t.v=some b → ∀ o,o < t.n * t.k → ¬ mG m0 mem [(key,t)] b o:=by
 intro b hb o ho hm
 obtain ⟨_,xs,hO⟩:=h.gr key t (by simp [lookM])
 have h1:=(hO.lt b hb).1
 rcases hm with hm | ⟨k,e,he,hm⟩ | ⟨k,t',ht,_,hle⟩
 ·exact absurd (h.m0 _ _ hm) (Nat.not_lt.2 h1)
 ·subst hm
  exact h.sepm key t k e (by simp [lookM]) he hb
 have:t'=t:=by
  simp only [lookM] at ht
  split at ht
  ·injection ht with ht; exact ht.symm
  cases ht
 subst this
 omega
end
theorem three {α : Type} (L M N:List α) (x:Nat):(L ++ M ++ N)[x]? = if x < L.length then L[x]? else if x < L.length + M.length then M[x - L.length]? else N[x - (L.length + M.length)]?:=by
 by_cases h1:x < L.length
 ·rw [if_pos h1,List.append_assoc,List.getElem?_append_left h1]
 rw [if_neg h1]
 by_cases h2:x < L.length + M.length
 ·rw [if_pos h2,List.append_assoc,List.getElem?_append_right (by omega),List.getElem?_append_left (by omega)]
 rw [if_neg h2,List.getElem?_append_right (by rw [List.length_append]; omega),List.length_append]
def wrC (f:Nat → List AV) (i off:Nat) (vs:List AV):Nat → List AV:=fun j => if j=i then (f i).take off ++ vs ++ (f i).drop (off + vs.length) else f j
theorem wrC_len {f:Nat → List AV} {i off k n:Nat} {vs:List AV} (hk:∀ j,j < n → (f j).length=k) (hi:i < n) (hfit:off + vs.length ≤ k):∀ j,j < n → (wrC f i off vs j).length=k:=by
 intro j hj
 unfold wrC
 split
 ·have:=hk i hi
  simp only [List.length_append,List.length_take,List.length_drop]
  omega
 exact hk j hj
theorem wr_flat {f:Nat → List AV} {i off k n:Nat} {vs:List AV} (hk:∀ j,j < n → (f j).length=k) (hi:i < n) (hfit:off + vs.length ≤ k) :
  rowFlat (wrC f i off vs) n=(rowFlat f n).take (i * k + off) ++ vs.map AV.den ++ (rowFlat f n).drop (i * k + off + vs.length):=by
 have hlen:=rowFlat_len hk
 have hik:i * k + k ≤ n * k:=by
  have:=Nat.mul_le_mul_right k (Nat.succ_le_of_lt hi)
  rwa [Nat.succ_mul] at this
 apply List.ext_getElem?
 intro x
 by_cases hx:x < n * k
 ·obtain ⟨j,p,hj,hp,rfl⟩:=rowFlat_split (cells:=f) hx
  rw [rowFlat_get (wrC_len hk hi hfit) hj hp]
  have hb:∀ {j':Nat},j' < i → j' * k + k ≤ i * k:=fun {j'} h => by
   have:=Nat.mul_le_mul_right k (Nat.succ_le_of_lt h)
   rwa [Nat.succ_mul] at this
  have ha:∀ {j':Nat},i < j' → i * k + k ≤ j' * k:=fun {j'} h => by
   have:=Nat.mul_le_mul_right k (Nat.succ_le_of_lt h)
   rwa [Nat.succ_mul] at this
  have hl1:((rowFlat f n).take (i * k + off)).length=i * k + off:=by rw [List.length_take,hlen]; omega
  rcases Nat.lt_trichotomy j i with h | h | h
  ·have:=hb h
   unfold wrC
   rw [if_neg (by omega),List.append_assoc,List.getElem?_append_left (by rw [hl1]; omega),List.getElem?_take,if_pos (by omega),rowFlat_get hk hj hp]
  ·subst h
   have hfl:=hk j hj
   unfold wrC
   rw [if_pos rfl]
   simp only [List.map_append,List.map_take,List.map_drop]
   have hl2:(((f j).map AV.den).take off).length=off:=by simp; omega
   rw [three,three,hl1,hl2,List.length_map]
   rcases Nat.lt_or_ge p off with h1 | h1
   ·rw [if_pos h1,if_pos (by omega),List.getElem?_take,List.getElem?_take,if_pos h1,if_pos (by omega),rowFlat_get hk hj hp]
   rcases Nat.lt_or_ge p (off + vs.length) with h2 | h2
   ·rw [if_neg (by omega),if_pos h2,if_neg (by omega),if_pos (by omega)]
    congr 1
    omega
   rw [if_neg (by omega),if_neg (by omega),if_neg (by omega),if_neg (by omega),List.getElem?_drop,List.getElem?_drop]
   rw [show j * k + off + vs.length + (j * k + p - (j * k + off + vs.length))=j * k + p by omega,rowFlat_get hk hj hp]
   congr 1
   omega
  have:=ha h
  unfold wrC
  rw [if_neg (by omega),List.getElem?_append_right (by rw [List.length_append,hl1]; simp; omega),List.length_append,hl1,List.length_map,List.getElem?_drop]
  rw [show i * k + off + vs.length + (j * k + p - (i * k + off + vs.length))=j * k + p by omega,rowFlat_get hk hj hp]
 rw [List.getElem?_eq_none (by rw [rowFlat_len (wrC_len hk hi hfit)]; omega),List.getElem?_eq_none ?_]
 simp only [List.length_append,List.length_take,List.length_drop,List.length_map,hlen]
 omega
theorem own_set {w:World} {B e k:Nat} {A:Option Addr} {n c:Nat} {xs:List Value} (hO:Own w B e k (.slice A n c) n xs) {o:Nat} {vs:List Value} (ho:o + vs.length ≤ n * k) (hn:0 < n) :
  ∃ g cur,A=some ⟨g,0,none⟩ ∧ w.heap[g]? = some (.cells cur e (0,0)) ∧ cur.size=c * k ∧ n * k ≤ c * k ∧ ownB (.slice A n c)=some g ∧
   Own (w.setRow g (cur.toList.take o ++ vs ++ cur.toList.drop (o + vs.length)).toArray) B e k (.slice A n c) n (xs.take o ++ vs ++ xs.drop (o + vs.length)) ∧ Chg (fun x => ownB (.slice A n c)=some x) w (w.setRow g (cur.toList.take o ++ vs ++ cur.toList.drop (o + vs.length)).toArray):=by
 rcases hO.2 with ⟨rfl,_⟩ | ⟨g,cap,cur,hv,hB,hg,hnc,hc0,hcm,hcs,ht⟩
 ·omega
 injection hv with e1 e2 e3
 subst e1; subst e3
 have hnk:n * k ≤ c * k:=Nat.mul_le_mul_right _ hnc
 have hob:ownB (.slice (some ⟨g,0,none⟩) n c)=some g:=by simp [ownB]; omega
 have hcl:cur.toList.length=c * k:=by simp [hcs]
 refine ⟨g,cur,rfl,hg,hcs,hnk,hob,⟨?_,.inr ⟨g,c,_,rfl,hB,setRow_heap w g cur _ e _ hg,hnc,hc0,hcm,?_,?_⟩⟩,⟨rfl,rfl,rfl,by simp [World.setRow],fun x _ hx => setRow_other w g x _ (fun e => hx (by rw [hob,e]))⟩⟩
 ·have:=hO.1
  simp only [List.length_append,List.length_take,List.length_drop]
  omega
 ·simp only [List.size_toArray,List.length_append,List.length_take,List.length_drop,hcl]
  omega
 rw [← ht]
 apply List.ext_getElem?
 intro x
 rw [List.getElem?_take]
 by_cases hx:x < n * k
 ·rw [if_pos hx]
  rw [three,three]
  have l1:(cur.toList.take o).length=o:=by rw [List.length_take,hcl]; omega
  have l2:((cur.toList.take (n * k)).take o).length=o:=by rw [List.length_take,List.length_take,hcl]; omega
  rw [l1,l2]
  rcases Nat.lt_or_ge x o with h2 | h2
  ·rw [if_pos h2,if_pos h2,List.getElem?_take,List.getElem?_take,List.getElem?_take,if_pos h2,if_pos h2,if_pos hx]
  rcases Nat.lt_or_ge x (o + vs.length) with h3 | h3
  ·rw [if_neg (by omega),if_pos h3,if_neg (by omega),if_pos h3]
  rw [if_neg (by omega),if_neg (by omega),if_neg (by omega),if_neg (by omega),List.getElem?_drop,List.getElem?_drop,List.getElem?_take,if_pos (by omega)]
 rw [if_neg hx,List.getElem?_eq_none]
 simp only [List.length_append,List.length_take,List.length_drop,hcl]
 omega
section
variable {m0:Nat → Nat → Prop} {w0 w:World} {S:Nat → Prop} {ds:List Deferred} {K:Kn} {nt key:Nat} {l:List (Nat × AV)} {mem:List (Nat × Blk)} {a:Act} {P:Program} {T:List (Nat × TI)} {Q:Exit → Act → World → Prop} {ops:Array Oper}
theorem gr_own {A:Option Addr} {n c k e:Nat} {f:Nat → List AV} {g:Option Nat} (h:Fits ⟨m0,w0,S,ds,K⟩ ⟨nt,l,[],mem,[(key,⟨A,n,c,k,e⟩)]⟩ a w) {m:Nat → Nat → Prop} (hrow:Ok m w (.sl g A n c k f)):Own w w0.heap.size e k (.slice A n c) n (rowFlat f n):=by
 obtain ⟨_,xs,hO⟩:=h.gr key ⟨A,n,c,k,e⟩ (by simp [lookM])
 have hO':Own w w0.heap.size e k (.slice A n c) n xs:=hO
 have:=own_flat hO' hrow
 rw [← this]; exact hO'
theorem man_rstore {L rest:List Oper} {o:Oper} {A:Option Addr} {n c k e i off ty:Nat} {f:Nat → List AV} {g:Option Nat} {cells:List AV} {p x:Operand} {v:AV} {ti:TI} (hL:L=o :: rest) (hg:o.guard=none) (hop:o.op = .store ty p x) (hdst:o.dst=none) (h:Fits ⟨m0,w0,S,ds,K⟩ ⟨nt,l,[],mem,[(key,⟨A,n,c,k,e⟩)]⟩ a w)
  (hp:val ⟨nt,l,[],mem,[(key,⟨A,n,c,k,e⟩)]⟩ [] p = .ep A i k off cells) (hx:val ⟨nt,l,[],mem,[(key,⟨A,n,c,k,e⟩)]⟩ [] x=v) (hv:v.one=true ∨ isAggV v=true) (hT:TabOK P T) (hti:lookT T ty=some ti) (hsz:v.cells.length=ti.size) {m:Nat → Nat → Prop} (hrow:Ok m w (.sl g A n c k f)) (hk:∀ j,j < n → (f j).length=k) (hi:i < n) (hfit:off + v.cells.length ≤ k)
  (Kc:∀ w',Own w' w0.heap.size e k (.slice A n c) n (rowFlat (wrC f i off v.cells) n) → Chg (fun b => ownB (.slice A n c)=some b) w w' → (∀ u ∈ v.cells,u.one=true) → wpList P ops Q rest a w'):wpList P ops Q L a w:=by
 have hO:=gr_own h hrow
 have hik:i * k + k ≤ n * k:=by
  have:=Nat.mul_le_mul_right k (Nat.succ_le_of_lt hi)
  rwa [Nat.succ_mul] at this
 have hv1:v.one || isAggV v=true:=by rcases hv with hv | hv<;>simp [hv]
 have hvk:v.known=true:=known_of_or (by simpa using hv1)
 have hpv:=(val_ok h (q:=[]) (fun _ h => by cases h) (x:=p) (by rw [hp]; rfl)).1
 have hxv:=val_ok h (q:=[]) (fun _ h => by cases h) (x:=x) (by rw [hx]; exact hvk)
 rw [hp] at hpv
 rw [hx] at hxv
 have hxc:=ok_cells hxv.2 (by simpa using hv1)
 obtain ⟨b,cur,hA,hb,hcs,hnc,hob,hO2,hchg⟩:=own_set hO (o:=i * k + off) (vs:=v.cells.map AV.den) (by rw [List.length_map]; omega) (by omega)
 have hst:=run_storeCells_at P b (i * k + off) e (v.cells.map AV.den) 0 cur w hb (by rw [List.length_map,hcs]; omega) (by
  intro u hu
  obtain ⟨y,hy,rfl⟩:=List.mem_map.1 hu
  exact one_of (hxc y hy).1)
 simp only [Nat.add_zero] at hst
 have hdc:=den_cells (one_or (by simpa using hv1):v.one=true ∨ ∃ l,v = .agg l)
 have hszr:=(lookT_ok hT hti).size w
 have hpd:a.eval p = .pointer (some ⟨b,i * k + off,none⟩):=by
  rw [hpv,hA]
  simp [AV.den]
 refine man_op hL hg ?_
 refine wp_skip' (w':=w.setRow b (cur.toList.take (i * k + off) ++ v.cells.map AV.den ++ cur.toList.drop (i * k + off + (v.cells.map AV.den).length)).toArray) ?_ ?_
 ·simp only [List.length_map] at hst
  simp [execOp,hop,hpd,hxv.1,Instr.storeAt,Instr.sureAddr,storeVar,hdc,hszr,hsz,hst]
 rw [hdst]
 refine Kc _ ?_ hchg fun u hu => (hxc u hu).1
 rw [wr_flat hk hi hfit]
 simpa using hO2
end
theorem order_c (a b:Lab) (W:World):Calls Tryz.prog 32 #[(labAV a).den,(labAV b).den] W fun e w' => e = .returned (.int .i64 (cmpLab a b)) ∧ GrF W w':=by
 obtain ⟨al,ab⟩:=a
 obtain ⟨bl,bb⟩:=b
 simp only [labAV,AV.den,AV.denL,cmpLab]
 have hU:=fun w => cmpU_c ab bb w
 have hN:=fun w => cmpN_c al bl w
 generalize cmpI ab bb=x at hU ⊢
 generalize cmpI al bl=y at hN ⊢
 have hO:=fun b w h0 h1 => or_c b x y w h0 h1
 generalize (if x ≠ 0 then x else y)=r at hO ⊢
 go_enter Tryz.func32,Tryz.ntmps32
 go_wp2_with fail
 obtain ⟨W5,hW5⟩:=eqv ((W.alloc (.cells #[.int .i64 al,.int .u64 ab] 37)).alloc (.cells #[.int .i64 bl,.int .u64 bb] 37))
 have hG:GrF W W5:=by rw [hW5]; exact ((GrF.refl W).alloc _).alloc _
 have hs:W5.heap.size=W.heap.size + 1 + 1:=by rw [hW5]; simp
 have z0:W5.heap[W.heap.size]? = some (.cells #[.int .i64 al,.int .u64 ab] 37 (0,0)):=by
  rw [hW5,Below.heap_alloc _ _ _ (by simp)]; exact heap_alloc_new W _
 have z1:W5.heap[W.heap.size + 1]? = some (.cells #[.int .i64 bl,.int .u64 bb] 37 (0,0)):=by
  have:=heap_alloc_new (W.alloc (.cells #[.int .i64 al,.int .u64 ab] 37)) (.cells #[.int .i64 bl,.int .u64 bb] 37)
  rw [hW5]; simpa using this
 have c0:W5.cell? ⟨W.heap.size,0,none⟩=some (.int .i64 al):=cell_of_row W5 _ 0 _ _ _ z0
 have c1:W5.cell? ⟨W.heap.size,1,none⟩=some (.int .u64 ab):=cell_of_row W5 _ 1 _ _ _ z0
 have c2:W5.cell? ⟨W.heap.size + 1,0,none⟩=some (.int .i64 bl):=cell_of_row W5 _ 0 _ _ _ z1
 have c3:W5.cell? ⟨W.heap.size + 1,1,none⟩=some (.int .u64 bb):=cell_of_row W5 _ 1 _ _ _ z1
 clear z0 z1
 rw [← hW5]
 clear hW5
 clear hs
 go_region_held3 (fun w' => w'.cell? ⟨W.heap.size,0,none⟩=some (.int .i64 al) ∧ w'.cell? ⟨W.heap.size,1,none⟩=some (.int .u64 ab) ∧ w'.cell? ⟨W.heap.size + 1,0,none⟩=some (.int .i64 bl) ∧ w'.cell? ⟨W.heap.size + 1,1,none⟩=some (.int .u64 bb) ∧ W5.heap.size ≤ w'.heap.size ∧ GrF W w')
  ((go_split_ands; (repeat' apply And.intro)<;>first | with_reducible assumption | with_reducible exact GrF.drew (by assumption) | with_reducible exact GrF.alloc (by assumption) _ | with_reducible exact GrF.drew (GrF.alloc (by assumption) _) | with_reducible exact cell_alloc (by assumption) _ | with_reducible exact size_alloc (by assumption) _ | go_keep))
  (first | (go_at_call 23; refine (hU _).mono ?_; rintro e w' ⟨rfl,rfl⟩) | (go_at_call 49; refine (hN _).mono ?_; rintro e w' ⟨rfl,rfl⟩) | (go_at_call 48; refine (hO _ _ (by first | exact new2_0 _ _ _ _ | exact cell_drew (new2_0 _ _ _ _)) (by first | exact new2_1 _ _ _ _ | exact cell_drew (new2_1 _ _ _ _))).mono ?_; rintro e w' ⟨rfl,rfl⟩))
 all_goals (go_wp2_with fail; go_ret; exact ⟨rfl,by first | exact (hG.alloc _).drew | exact hG.alloc _⟩)
theorem GrF.trans {W w w':World} (h:GrF W w) (h':GrF w w'):GrF W w':=by
 obtain ⟨q,os,rfl⟩:=h
 obtain ⟨q',os',rfl⟩:=h'
 exact ⟨q + q',os ++ os',by simp [Go.Sort.grow,World.drewN,Array.append_assoc,Nat.add_assoc]⟩
theorem bord_c (a b:RowA) (W:World):Calls Tryz.prog 31 #[.agg ((rowC a).map AV.den).toArray,.agg ((rowC b).map AV.den).toArray] W fun e w' => e = .returned (.int .i64 (cmpLab a.lab b.lab)) ∧ GrF W w':=by
 obtain ⟨⟨al,ab⟩,av,⟨aA,ac,⟨an,af,ak,⟨anl,anb⟩,am⟩⟩⟩:=a
 obtain ⟨⟨bl,bb⟩,bv,⟨bA,bc,⟨bn,bf,bk,⟨bnl,bnb⟩,bm⟩⟩⟩:=b
 simp only [rowC,List.map_cons,List.map_nil,AV.den]
 have hO:=fun w => order_c ⟨al,ab⟩ ⟨bl,bb⟩ w
 simp only [labAV,AV.den,AV.denL] at hO
 generalize cmpLab ⟨al,ab⟩ ⟨bl,bb⟩=r at hO ⊢
 go_enter Tryz.func31,Tryz.ntmps31
 go_wp2_with (go_at_call 32; refine (hO _).mono ?_; rintro e w' ⟨rfl,hG⟩)
 all_goals (go_ret; exact ⟨rfl,GrF.trans (((GrF.refl W).alloc _).alloc _) hG⟩)
def oddB (n:Nat) (f:Nat → Itm):Bool:=(List.range n).any fun t => decide (64 < (f t).val.size)
def srtB (n:Nat) (f:Nat → Itm):Bool:=(List.range (n - 1)).all fun t => decide (¬ (f (t + 1)).key < (f t).key)
def dupB (n:Nat) (f:Nat → Itm):Bool:=(List.range (n - 1)).any fun t => decide ((f (t + 1)).key=(f t).key)
theorem nanU_s (x:Int):Spec Tryz.prog 50 [.int .u64 x] (fun _ => .bool .ff):=by
 intro m w hm hargs
 refine en 6 hm hargs Tryz.func50 fun B hB a0 hF => ?_
 refine wp_seq (rg hB TA_ok [0] [] [] hF fun X0 a0 w1 hF => ?_)
 refine wp_seq (rg hB TA_ok [2] [] [] hF fun X1 a0 w1 hF => ?_)
 refine wp_ret ((rsi hB TA_ok hF nAt (he:=?_)))
 subst hB
 exact Sim.bool (by show (x != x)=false; simp)
theorem cmpU_s (x y:Int):Spec Tryz.prog 23 [.int .u64 x,.int .u64 y] (fun _ => .int .i64 (cmpI x y)):=by
 intro m w hm hargs
 have S1:=nanU_s x
 have S2:=nanU_s y
 refine en 20 hm hargs Tryz.func23 fun B hB a0 hF => ?_
 refine wp_seq (rg hB TA_ok [0,1] [] [] hF fun X0 a0 w1 hF => ?_)
 have O1:=S1
 refine wp_seq (rg hB TA_ok [0,1,5] [] [(1,.r fun _ => .bool .ff)] hF fun X1 a0 w1 hF => ?_)
 have O1:=S2
 refine wp_seq (rg hB TA_ok [0,1,5,6] [] [(1,.r fun _ => .bool .ff)] hF fun X2 a0 w1 hF => ?_)
 refine wp_seq (wp_seq (rg hB TA_ok [11,0,1,6] [] [] hF fun X3 a0 w1 hF => ?_))
 refine test_ff hF rfl (fun hF => ?_)
 refine wp_skip (wp_seq (wp_seq (rg hB TA_ok [13,0,1] [] [] hF fun X7 a0 w1 hF => ?_)))
 refine test_ff hF rfl (fun hF => ?_)
 refine wp_skip (wp_seq (wp_seq (rg hB TA_ok [16,0,1] [] [] hF fun X9 a0 w1 hF => ?_)))
 apply test_ok hF rfl<;>intro hb hF
 ·have h1:x < y:=by subst hB; simpa [std,sC] using hb
  refine wp_seq (rg hB TA_ok [4] [] [] hF fun X10 a0 w1 hF => ?_)
  refine wp_ret ((rsi hB TA_ok hF nAt (he:=?_)))
  subst hB
  unfold cmpI
  rw [if_pos h1]
  exact zr
 have h1:¬ x < y:=by subst hB; simpa [std,sC] using hb
 refine wp_skip (wp_seq (wp_seq (rg hB TA_ok [19] [] [] hF fun X11 a0 w1 hF => ?_)))
 apply test_ok hF rfl<;>intro hb hF
 ·have h2:y < x:=by subst hB; simpa [std,sC] using hb
  refine wp_seq (rg hB TA_ok [4] [] [] hF fun X12 a0 w1 hF => ?_)
  refine wp_ret ((rsi hB TA_ok hF nAt (he:=?_)))
  subst hB
  unfold cmpI
  rw [if_neg h1,if_pos h2]
  exact zr
 have h2:¬ y < x:=by subst hB; simpa [std,sC] using hb
 refine wp_skip (wp_seq (rg hB TA_ok [4] [] [] hF fun X13 a0 w1 hF => ?_))
 refine wp_ret ((rsi hB TA_ok hF nAt (he:=?_)))
 subst hB
 unfold cmpI
 rw [if_neg h1,if_neg h2]
 exact zr
theorem oddI_s (x:Itm):Spec Tryz.prog 21 [.agg (itC x)] (fun _ => .bool (.v (decide (64 < x.val.size)))):=by
 intro m w hm hargs
 simp only [itC] at hargs ⊢
 refine en 7 hm hargs Tryz.func21 fun B hB a0 hF => ?_
 refine wp_seq (rg hB TA_ok [1] [1] [] hF fun X0 a0 w1 hF => ?_)
 refine wp_seq (rg hB TA_ok [2] [] [] hF fun X1 a0 w1 hF => ?_)
 refine wp_ret ((rsi hB TA_ok hF nAt (he:=?_)))
 subst hB
 exact Sim.bool (by show decide ((64:Int) < (x.val.size:Int))=decide (64 < x.val.size); rw [decide_eq_decide]; omega)
theorem risI_s (x y:Itm):Spec Tryz.prog 22 [.agg (itC x),.agg (itC y)] (fun _ => .int .i64 (cmpI x.key y.key)):=by
 intro m w hm hargs
 simp only [itC] at hargs ⊢
 have S:=cmpU_s x.key y.key
 obtain ⟨z,hz⟩:=eqv (cmpI x.key y.key)
 rw [← hz] at S ⊢
 refine en 10 hm hargs Tryz.func22 fun B hB a0 hF => ?_
 refine wp_seq (rg hB TA_ok [2,3] [2,3] [] hF fun X0 a0 w1 hF => ?_)
 have O1:=S
 refine wp_seq (rg hB TA_ok [4] [] [(4,.r fun _ => .int .i64 z)] hF fun X1 a0 w1 hF => ?_)
 exact wp_ret ((rsp hB TA_ok hF nAt).1)
theorem eqkI_s (x y:Itm):Spec Tryz.prog 26 [.agg (itC x),.agg (itC y)] (fun _ => .bool (.v (decide (x.key=y.key)))):=by
 intro m w hm hargs
 simp only [itC] at hargs ⊢
 refine en 10 hm hargs Tryz.func26 fun B hB a0 hF => ?_
 refine wp_seq (rg hB TA_ok [2,3] [2,3] [] hF fun X0 a0 w1 hF => ?_)
 refine wp_seq (rg hB TA_ok [4] [] [] hF fun X1 a0 w1 hF => ?_)
 refine wp_ret ((rsi hB TA_ok hF nAt (he:=?_)))
 subst hB
 exact Sim.bool (by show (x.key == y.key)=decide (x.key=y.key); rw [Bool.eq_iff_iff]; simp)
theorem idxO_s (A:Option Addr) (n c:Nat) (f:Nat → Itm) (hn:n ≤ 1000000):Spec Tryz.prog 51 [rowI A n c f,.fn 21 [] []] (fun _ => .int .i64 (idxF (fun t => decide (64 < (f t).val.size)) n)):=by
 intro m w hm hargs
 have hmx:maxLen=9223372036854775807:=rfl
 unfold rowI at hargs
 refine en 19 hm hargs Tryz.func51 fun B hB a0 hF => ?_
 refine wp_seq (rg hB TA_ok [0,1] [] [] hF fun X0 a0 w1 hF => ?_)
 refine wp_seq (wp_seq (rg hB TA_ok [8,0,1,7] [] [] hF fun X1 a0 w1 hF => ?_))
 refine wp_block (loop_pre (ι:=Nat) (fun p => [(8,.int .i64 (p:Int))]) (fun p => []) (fun p => []) (fun p => p ≤ n ∧ ∀ t,t < p → decide (64 < (f t).val.size)=false) (fun p => n - p) 0 ⟨Nat.zero_le _,fun t ht => absurd ht (Nat.not_lt_zero _)⟩ hF ?_)
 rintro i ⟨hi,hlt⟩ a0 w1 hF
 try dsimp only at hi
 try dsimp only at hlt
 refine wp_seq (rg hB TA_ok [9,8,0,1,7] [] [] hF fun X2 a0 w1 hF => ?_)
 refine wp_seq (test_ok hF rfl (fun hb hF => ?_) (fun hb hF => ?_))
 ·have hin:i < n:=by
   have:(i:Int) < (n:Int):=by subst hB; simpa [std,sC] using hb
   omega
  have S:=oddI_s (f i)
  obtain ⟨q,hq⟩:=eqv (decide (64 < (f i).val.size))
  rw [← hq] at S
  refine wp_skip (wp_seq (wp_block (wp_seq (rg hB TA_ok [5,8,0,1,7] [] [] hF fun X3 a0 w1 hF => ?_))))
  apply wp_seq
  refine rg hB TA_ok [16,5,8,0,1,7] [] [(5,.r fun _ => .bool (.v q))] hF (hob:=by intro X; subst hB; simp only [AO,Ob.holds,BE.den]<;>and_intros<;>repeat first | trivial | rfl | exact (show (0:Int) ≤ (i:Int) by omega) | exact (show (i:Int) < (n:Int) by omega) | exact S | exact (fun _ _ => by kernel_rfl) | refine ⟨?_,?_⟩ | intro h | exact Int.le_refl _ | decide | omega) fun X4 a0 w1 hF => ?_
  apply test_ok hF rfl<;>intro hb hF
  ·have hqt:q=true:=hb
   refine wp_seq (rg hB TA_ok [4] [] [] hF fun X5 a0 w1 hF => ?_)
   refine wp_ret ((rsi hB TA_ok hF nAt (he:=?_)))
   subst hB
   rw [idx_hit (p:=(fun t => decide (64 < (f t).val.size))) hin hlt (hq.symm.trans hqt)]
   exact zr
  have hqf:q=false:=hb
  refine wp_skip (rg hB TA_ok [8,0,1,7] [] [] hF fun X6 a0 w1 hF => ?_)
  have e:B.arith .add .i64 (i:Int) 1=((i + 1:Nat):Int):=by subst hB; exact wrap_succ (n:=n) hin (by omega)
  refine ⟨i + 1,⟨by omega,fun t ht => ?_⟩,by omega,by rw [← e]; exact hF⟩
  by_cases h:t=i
  ·rw [h,← hq]; exact hqf
  exact hlt t (by omega)
 have hout:i=n:=by
  have:¬ (i:Int) < (n:Int):=by subst hB; simpa [std,sC] using hb
  omega
 rw [hout] at hlt
 refine wp_exit (wp_seq (rg hB TA_ok [4] [] [] hF fun X7 a0 w1 hF => ?_))
 refine wp_ret ((rsi hB TA_ok hF nAt (he:=?_)))
 subst hB
 rw [idx_miss (p:=(fun t => decide (64 < (f t).val.size))) hlt]
 exact zr
theorem conO_s (A:Option Addr) (n c:Nat) (f:Nat → Itm) (hn:n ≤ 1000000):Spec Tryz.prog 27 [rowI A n c f,.fn 21 [] []] (fun _ => .bool (.v (oddB n f))):=by
 intro m w hm hargs
 have S:=idxO_s A n c f hn
 have HC:=idx_cases (fun t => decide (64 < (f t).val.size)) n
 generalize (idxF (fun t => decide (64 < (f t).val.size)) n)=ix at S HC
 unfold rowI at S hargs
 refine en 9 hm hargs Tryz.func27 fun B hB a0 hF => ?_
 refine wp_seq (rg hB TA_ok [0,1] [] [] hF fun X0 a0 w1 hF => ?_)
 have O1:=S
 refine wp_seq (rg hB TA_ok [4] [] [(2,.r fun _ => .int .i64 ix)] hF fun X1 a0 w1 hF => ?_)
 refine wp_ret ((rsi hB TA_ok hF nAt (he:=?_)))
 subst hB
 refine Sim.bool ?_
 show decide (ix ≥ 0)=oddB n f
 unfold oddB
 rcases HC with ⟨i,h1,h2,h3,h4⟩ | ⟨h1,h2⟩
 ·rw [decide_eq_true (by omega)]; exact (List.any_eq_true.2 ⟨i,List.mem_range.2 h1,h3⟩).symm
 rw [h1]; symm; rw [show decide ((-1:Int) ≥ 0)=false from rfl,List.any_eq_false]; intro t ht; rw [h2 t (List.mem_range.1 ht)]; decide
theorem srtI_s (A:Option Addr) (n c:Nat) (f:Nat → Itm) (hn:n ≤ 1000000):Spec Tryz.prog 28 [rowI A n c f,.fn 22 [] []] (fun _ => .bool (.v (srtB n f))):=by
 intro m w hm hargs
 have hmx:maxLen=9223372036854775807:=rfl
 unfold rowI at hargs
 refine en 25 hm hargs Tryz.func28 fun B hB a0 hF => ?_
 refine wp_seq (rg hB TA_ok [0,1] [] [] hF fun X0 a0 w1 hF => ?_)
 refine wp_seq (wp_seq (rg hB TA_ok [5,0,1] [] [] hF fun X1 a0 w1 hF => ?_))
 replace hF:=hF.headS (v':=.int .i64 ((n:Int) - 1)) (by subst hB; show Sim (.int .i64 (IntKind.i64.wrap ((n:Int) - 1))) _; rw [wrap_in (by omega) (by omega)]; exact zr) rfl
 refine wp_block (loop_pre (ι:=Nat) (fun p => [(5,.int .i64 ((p:Int) - 1))]) (fun p => []) (fun p => []) (fun p => p ≤ n ∧ ∀ t,p ≤ t + 1 → t + 1 < n → ¬ (f (t + 1)).key < (f t).key) (fun p => p) n ⟨Nat.le_refl _,fun t h1 h2 => absurd h2 (by omega)⟩ hF ?_)
 rintro p ⟨hp,hlt⟩ a0 w1 hF
 try dsimp only at hp
 try dsimp only at hlt
 obtain ⟨iv,hiv⟩:=eqv ((p:Int) - 1)
 rw [← hiv] at hF
 refine wp_seq (wp_seq (rg hB TA_ok [10,5,0,1] [] [] hF fun X2 a0 w1 hF => ?_))
 apply test_ok hF rfl<;>intro hb hF
 ·have hin:2 ≤ p:=by
   have:(0:Int) < iv:=by subst hB; simpa [std,sC] using hb
   omega
  have e1:std.toNat iv=p - 1:=by show iv.toNat=p - 1; omega
  have e2:std.arith .sub .i64 iv 1=(p:Int) - 2:=by show IntKind.i64.wrap (iv - 1)=_; rw [wrap_in (by omega) (by omega)]; omega
  have e3:std.toNat (std.arith .sub .i64 iv 1)=p - 2:=by rw [e2]; show ((p:Int) - 2).toNat=p - 2; omega
  have S:=risI_s (f (std.toNat iv)) (f (std.toNat (std.arith .sub .i64 iv 1)))
  obtain ⟨z,hz⟩:=eqv (cmpI (f (p - 1)).key (f (p - 2)).key)
  have hz2:cmpI (f (std.toNat iv)).key (f (std.toNat (std.arith .sub .i64 iv 1))).key=z:=by rw [hz,e1,e3]
  rw [hz2] at S
  refine wp_skip (wp_seq (wp_block (wp_seq (drg hB TA_ok [24,5,0,1] [] [(10,.r fun _ => .int .i64 z)] hF (hob:=?hob) fun X4 a0 w1 hF => ?_))))
  case hob =>
   intro X
   subst hB
   repeat (first | exact trivial | refine ⟨rfl,?_⟩ | refine ⟨(show (0:Int) ≤ iv ∧ iv < (n:Int) by omega),?_⟩ | refine ⟨(show (0:Int) ≤ std.arith .sub .i64 iv 1 ∧ std.arith .sub .i64 iv 1 < (n:Int) by rw [e2]; omega),?_⟩ | refine ⟨⟨fun _ _ => by kernel_rfl,S⟩,?_⟩)
  apply test_ok hF rfl<;>intro hb hF
  ·have hlt2:(f (p - 1)).key < (f (p - 2)).key:=by
    have h5:z < 0:=by subst hB; simpa [std,sC] using hb
    rw [hz] at h5; unfold cmpI at h5; split at h5; assumption; split at h5<;>omega
   have hW:srtB n f=false:=by unfold srtB; rw [List.all_eq_false]; refine ⟨p - 2,List.mem_range.2 (by omega),?_⟩; rw [show p - 2 + 1=p - 1 by omega]; simpa using hlt2
   refine wp_seq (rg hB TA_ok [4] [] [] hF fun X5 a0 w1 hF => ?_)
   refine wp_ret ((rsi hB TA_ok hF nAt (he:=?_)))
   subst hB
   rw [hW]
   exact Sim.bool rfl
  have hge:¬ (f (p - 1)).key < (f (p - 2)).key:=by
   have h5:¬ z < 0:=by subst hB; simpa [std,sC] using hb
   rw [hz] at h5; unfold cmpI at h5; intro h6; rw [if_pos h6] at h5; exact h5 (by decide)
  refine wp_skip (rg hB TA_ok [5,0,1] [] [] hF fun X3 a0 w1 hF => ?_)
  have e:B.arith .sub .i64 iv 1=((p - 1:Nat):Int) - 1:=by subst hB; show IntKind.i64.wrap (iv - 1)=_; rw [wrap_in (by omega) (by omega)]; omega
  refine ⟨p - 1,⟨by omega,fun t h1 h2 => ?_⟩,by omega,by rw [← e]; exact hF⟩
  rcases Nat.lt_or_ge (t + 1) p with h3 | h3
  ·have:t=p - 2:=by omega
   subst this
   rw [show p - 2 + 1=p - 1 by omega]; exact hge
  exact hlt t h3 h2
 have hout:p ≤ 1:=by
  have:¬ (0:Int) < iv:=by subst hB; simpa [std,sC] using hb
  omega
 have hW:srtB n f=true:=by unfold srtB; rw [List.all_eq_true]; intro t ht; have h5:=List.mem_range.1 ht; exact decide_eq_true (hlt t (by omega) (by omega))
 refine wp_exit (wp_seq (rg hB TA_ok [4] [] [] hF fun X6 a0 w1 hF => ?_))
 refine wp_ret ((rsi hB TA_ok hF nAt (he:=?_)))
 subst hB
 rw [hW]
 exact Sim.bool rfl
section
variable {m0:Nat → Nat → Prop} {w0 wi w:World} {S:Nat → Prop} {ds:List Deferred} {K:Kn} {nt:Nat} {tm tm':List (Nat × AV)} {gs:List (Nat × List (Nat × Bool) × AV)} {mem memi:List (Nat × Blk)} {gr gri:List (Nat × Gr)} {a:Act} {P:Program}
def FzV (b:Nat) (cells:List AV) (v v':AV):Prop:=v'.den=v.den ∧ (v'.known=true → v.known=true) ∧ (v'.one=v.one) ∧ ∀ m w,Ok m w (.ep (some ⟨b,0,none⟩) 0 0 0 cells) → Ok m w v → Ok m w v'
theorem fz_id {b:Nat} {cells:List AV} {v:AV}:FzV b cells v v:=⟨rfl,id,rfl,fun _ _ _ h => h⟩
theorem ep_off {m:Nat → Nat → Prop} {w:World} {A:Option Addr} {i k off off':Nat} {cells:List AV} (h:Ok m w (.ep A i k off cells)):Ok m w (.ep A i k off' cells):=by
 cases h with | ep _ _ _ _ _ h1 h2 h3 h4 => exact .ep _ _ _ _ _ h1 h2 h3 h4
theorem fz_ptr {b key off:Nat} {cells:List AV}:FzV b cells (.ptr key b off) (.ep (some ⟨b,0,none⟩) 0 0 off cells):=
 ⟨by simp [AV.den],fun _ => rfl,rfl,fun _ _ h _ => ep_off h⟩
theorem fz_key {b b' key key' off:Nat} {cells:List AV}:FzV b cells (.ptr key b' off) (.ptr key' b' off):=⟨rfl,id,rfl,fun _ _ _ _ => .ptr _ _ _⟩
def FzVs (b:Nat) (cells:List AV):List AV → List AV → Prop
 | [],[] => True
 | v :: l,v' :: l' => FzV b cells v v' ∧ FzVs b cells l l'
 | _,_ => False
theorem fzVs_den {b:Nat} {cells:List AV}:∀ {l l':List AV},FzVs b cells l l' → l'.map AV.den=l.map AV.den ∧ ∀ m w,Ok m w (.ep (some ⟨b,0,none⟩) 0 0 0 cells) → (∀ v ∈ l,Ok m w v) → ∀ v ∈ l',Ok m w v
 | [],[],_ => ⟨rfl,fun _ _ _ h => h⟩
 | v :: l,v' :: l',⟨h1,h2⟩ => by
  obtain ⟨g1,g2⟩:=fzVs_den h2
  refine ⟨by simp [h1.1,g1],fun m w he h u hu => ?_⟩
  rcases List.mem_cons.1 hu with rfl | hu
  ·exact h1.2.2.2 m w he (h v (by simp))
  exact g2 m w he (fun x hx => h x (by simp [hx])) u hu
theorem fz_fn {b f:Nat} {cells l l' r r':List AV} (hl:FzVs b cells l l') (hr:FzVs b cells r r'):FzV b cells (.fn f l r) (.fn f l' r'):=by
 refine ⟨by simp [AV.den,denL_map,(fzVs_den hl).1,(fzVs_den hr).1],fun _ => rfl,rfl,fun m w he h => ?_⟩
 cases h with
 | fn _ _ _ h1 h2 => exact .fn _ _ _ ((fzVs_den hl).2 m w he h1) ((fzVs_den hr).2 m w he h2)
def FzT (b:Nat) (cells:List AV):List (Nat × AV) → List (Nat × AV) → Prop
 | [],[] => True
 | e :: l,e' :: l' => e.1=e'.1 ∧ FzV b cells e.2 e'.2 ∧ FzT b cells l l'
 | _,_ => False
theorem fzT_look {b:Nat} {cells:List AV}:∀ {l l':List (Nat × AV)},FzT b cells l l' → ∀ t,FzV b cells (look l t) (look l' t)
 | [],[],_,t => fz_id
 | (k,v) :: l,(k',v') :: l',⟨h1,h2,h3⟩,t => by
  simp only at h1 h2
  subst h1
  simp only [look_cons]
  by_cases h:k=t
  ·rw [if_pos h,if_pos h]; exact h2
  rw [if_neg h,if_neg h]; exact fzT_look h3 t
theorem Fits.fz {key b ty:Nat} {cells:List AV} (h:Fits ⟨m0,w0,S,ds,K⟩ ⟨nt,tm,[],(key,⟨b,ty,cells⟩) :: mem,gr⟩ a w) (hf:FzT b cells tm tm') (hn:lookM mem key=none:=by rfl) (hS:S b → w0.heap.size ≤ b:=by first | exact fun h => h.elim | (rintro ⟨_,h,_⟩; cases h)):Fits ⟨m0,w0,S,ds,K⟩ ⟨nt,tm',[],mem,gr⟩ a w:=by
 have hk:lookM ((key,(⟨b,ty,cells⟩:Blk)) :: mem) key=some ⟨b,ty,cells⟩:=by simp [lookM]
 have hup:∀ {k e},lookM mem k=some e → lookM ((key,(⟨b,ty,cells⟩:Blk)) :: mem) k=some e ∧ k ≠ key:=fun {k e} he => by
  have hne:k ≠ key:=fun e' => by rw [e',hn] at he; cases he
  exact ⟨by rw [lookM_cons,if_neg (fun e => hne e.symm)]; exact he,hne⟩
 obtain ⟨h1,h2,h3⟩:=h.mem _ _ hk
 have hb0:w0.heap.size ≤ b:=h3.elim id hS
 have hnm:∀ o,¬ St.m ⟨nt,tm',[],mem,gr⟩ ⟨m0,w0,S,ds,K⟩ b o:=by
  intro o hm
  rcases hm with hm | ⟨k,e,he,hat⟩ | ⟨k,t,ht,hv,_⟩
  ·exact Nat.lt_irrefl _ (Nat.lt_of_lt_of_le (h.m0 _ _ hm) hb0)
  ·exact h.nodup _ _ _ _ (hup he).1 hk (hup he).2 hat
  exact h.sepm _ _ _ _ ht hk hv
 have hle:∀ b o,St.m ⟨nt,tm',[],mem,gr⟩ ⟨m0,w0,S,ds,K⟩ b o → St.m ⟨nt,tm,[],(key,⟨b,ty,cells⟩) :: mem,gr⟩ ⟨m0,w0,S,ds,K⟩ b o:=by
  intro b o hm
  rcases hm with hm | ⟨k,e,he,hat⟩ | hm
  ·exact .inl hm
  ·rcases Classical.em (k=key) with rfl | hne
   ·rw [hn] at he; cases he
   exact .inr (.inl ⟨k,e,by rw [lookM_cons,if_neg (fun e => hne e.symm)]; exact he,hat⟩)
  exact .inr (.inr hm)
 have hle':∀ b' o,St.m ⟨nt,tm',[],mem,gr⟩ ⟨m0,w0,S,ds,K⟩ b' o → St.m ⟨nt,tm,[],(key,⟨b,ty,cells⟩) :: mem,gr⟩ ⟨m0,w0,S,ds,K⟩ b' o:=by
  intro b' o hm
  rcases hm with hm | ⟨k,e,he,hat⟩ | hm
  ·exact .inl hm
  ·exact .inr (.inl ⟨k,e,(hup he).1,hat⟩)
  exact .inr (.inr hm)
 have kp:Keep w (St.m ⟨nt,tm,[],(key,⟨b,ty,cells⟩) :: mem,gr⟩ ⟨m0,w0,S,ds,K⟩) w (St.m ⟨nt,tm',[],mem,gr⟩ ⟨m0,w0,S,ds,K⟩):=⟨fun b' o u g1 g2 => ⟨g1,fun hm => g2 (hle' b' o hm)⟩,fun _ _ h _ => h⟩
 have hep:Ok (St.m ⟨nt,tm',[],mem,gr⟩ ⟨m0,w0,S,ds,K⟩) w (.ep (some ⟨b,0,none⟩) 0 0 0 cells):=by
  refine .ep _ _ _ _ _ ⟨_,_,rfl⟩ (fun j u hj => ⟨b,0,rfl,?_,hnm _⟩) (fun v hv => (h2 v hv).1) (fun v hv => kp.ok (h2 v hv).2)
  rw [cell_of_row w _ _ _ _ _ h1,List.getElem?_toArray,Nat.zero_mul,Nat.zero_add,Nat.zero_add]
  exact hj
 refine ⟨h.size,h.defers,fun t ht => ?_,(fun t p v he => by cases he),fun k e he => ⟨(h.mem _ _ (hup he).1).1,fun v hv => ⟨((h.mem _ _ (hup he).1).2.1 v hv).1,kp.ok ((h.mem _ _ (hup he).1).2.1 v hv).2⟩,(h.mem _ _ (hup he).1).2.2⟩,fun k k' e e' he he' hne => h.nodup _ _ _ _ (hup he).1 (hup he').1 hne,h.gr,fun k t k' e ht he => h.sepm _ _ _ _ ht (hup he).1,h.sepg,h.chg,h.m0,K.st kp h.kept⟩
 have hz:=fzT_look hf t
 obtain ⟨g1,g2⟩:=h.slot t (hz.2.1 ht)
 exact ⟨by rw [g1]; exact congrArg some hz.1.symm,hz.2.2.2 _ _ hep (kp.ok g2)⟩
theorem Fits.rekey {key key' b ty:Nat} {cells:List AV} (h:Fits ⟨m0,w0,S,ds,K⟩ ⟨nt,tm,[],(key,⟨b,ty,cells⟩) :: mem,gr⟩ a w) (hf:FzT b [] tm tm') (hn:lookM mem key=none:=by rfl) (hn':lookM mem key'=none:=by rfl):Fits ⟨m0,w0,S,ds,K⟩ ⟨nt,tm',[],(key',⟨b,ty,cells⟩) :: mem,gr⟩ a w:=by
 have hup:∀ {k e},lookM ((key',(⟨b,ty,cells⟩:Blk)) :: mem) k=some e → ∃ k0,lookM ((key,(⟨b,ty,cells⟩:Blk)) :: mem) k0=some e ∧ ((k=key' ∧ k0=key) ∨ (k0=k ∧ k ≠ key' ∧ k ≠ key)):=fun {k e} he => by
  rw [lookM_cons] at he
  split at he
  ·rename_i hk; injection he with he; subst he
   exact ⟨key,by simp [lookM],.inl ⟨hk.symm,rfl⟩⟩
  rename_i hk
  have hne:k ≠ key:=fun e' => by rw [e',hn] at he; cases he
  exact ⟨k,by rw [lookM_cons,if_neg (fun e => hne e.symm)]; exact he,.inr ⟨rfl,fun e => hk e.symm,hne⟩⟩
 have hdn:∀ {k e},lookM ((key,(⟨b,ty,cells⟩:Blk)) :: mem) k=some e → ∃ k0,lookM ((key',(⟨b,ty,cells⟩:Blk)) :: mem) k0=some e:=fun {k e} he => by
  rw [lookM_cons] at he
  split at he
  ·injection he with he; subst he
   exact ⟨key',by simp [lookM]⟩
  have hne:k ≠ key':=fun e' => by rw [e',hn'] at he; cases he
  exact ⟨k,by rw [lookM_cons,if_neg (fun e => hne e.symm)]; exact he⟩
 have em:St.m ⟨nt,tm',[],(key',⟨b,ty,cells⟩) :: mem,gr⟩ ⟨m0,w0,S,ds,K⟩=St.m ⟨nt,tm,[],(key,⟨b,ty,cells⟩) :: mem,gr⟩ ⟨m0,w0,S,ds,K⟩:=by
  funext b' o
  apply propext
  constructor
  ·rintro (hm | ⟨k,e,he,hat⟩ | hm)
   ·exact .inl hm
   ·obtain ⟨k0,h1,_⟩:=hup he; exact .inr (.inl ⟨k0,e,h1,hat⟩)
   exact .inr (.inr hm)
  rintro (hm | ⟨k,e,he,hat⟩ | hm)
  ·exact .inl hm
  ·obtain ⟨k0,h1⟩:=hdn he; exact .inr (.inl ⟨k0,e,h1,hat⟩)
  exact .inr (.inr hm)
 have hnil:∀ m w,Ok m w (.ep (some ⟨b,0,none⟩) 0 0 0 ([]:List AV)):=fun m w => .ep _ _ _ _ _ ⟨_,_,rfl⟩ (fun j u hj => by simp at hj) (fun v hv => by cases hv) (fun v hv => by cases hv)
 refine ⟨h.size,h.defers,fun t ht => ?_,(fun t p v he => by cases he),fun k e he => ?_,fun k k' e e' he he' hne => ?_,h.gr,fun k t k' e ht he => ?_,h.sepg,h.chg,h.m0,?_⟩
 ·have hz:=fzT_look hf t
  obtain ⟨g1,g2⟩:=h.slot t (hz.2.1 ht)
  exact ⟨by rw [g1]; exact congrArg some hz.1.symm,by rw [em]; exact hz.2.2.2 _ _ (hnil _ _) g2⟩
 ·obtain ⟨k0,h1,_⟩:=hup he
  rw [em]; exact h.mem _ _ h1
 ·obtain ⟨k0,h1,g1⟩:=hup he
  obtain ⟨k1,h2,g2⟩:=hup he'
  refine h.nodup _ _ _ _ h1 h2 ?_
  rcases g1 with ⟨rfl,rfl⟩ | ⟨rfl,a1,a2⟩<;>rcases g2 with ⟨rfl,rfl⟩ | ⟨rfl,b1,b2⟩
  ·exact absurd rfl hne
  ·exact fun e => b2 e.symm
  ·exact a2
  exact hne
 ·obtain ⟨k0,h1,_⟩:=hup he
  exact h.sepm _ _ _ _ ht h1
 rw [em]; exact h.kept
theorem Fits.rem {mem':List (Nat × Blk)} (h:Fits ⟨m0,w0,S,ds,K⟩ ⟨nt,tm,[],mem,gr⟩ a w) (hl:∀ k e,lookM mem' k=some e → lookM mem k=some e):Fits ⟨m0,w0,S,ds,K⟩ ⟨nt,tm,[],mem',gr⟩ a w:=by
 have kp:Keep w (St.m ⟨nt,tm,[],mem,gr⟩ ⟨m0,w0,S,ds,K⟩) w (St.m ⟨nt,tm,[],mem',gr⟩ ⟨m0,w0,S,ds,K⟩):=⟨fun b' o u g1 g2 => ⟨g1,fun hm => by
  rcases hm with hm | ⟨k,e,he,hat⟩ | hm
  ·exact g2 (.inl hm)
  ·exact g2 (.inr (.inl ⟨k,e,hl k e he,hat⟩))
  exact g2 (.inr (.inr hm))⟩,fun _ _ h _ => h⟩
 exact ⟨h.size,h.defers,fun t ht => ⟨(h.slot t ht).1,kp.ok (h.slot t ht).2⟩,(fun t p v he => by cases he),fun k e he => ⟨(h.mem _ _ (hl k e he)).1,fun v hv => ⟨((h.mem _ _ (hl k e he)).2.1 v hv).1,kp.ok ((h.mem _ _ (hl k e he)).2.1 v hv).2⟩,(h.mem _ _ (hl k e he)).2.2⟩,fun k k' e e' he he' hne => h.nodup _ _ _ _ (hl _ _ he) (hl _ _ he') hne,h.gr,fun k t k' e ht he => h.sepm _ _ _ _ ht (hl _ _ he),h.sepg,h.chg,h.m0,K.st kp h.kept⟩
theorem seg_of (h:Fits ⟨m0,w0,S,ds,K⟩ ⟨nt,tm,[],mem,gr⟩ a w):Fits ⟨mT m0 mem gr,w,ats [],ds,noK⟩ ⟨nt,tm,[],[],[]⟩ a w:=by
 have mono:∀ v,Ok (mT m0 mem gr) w v → Ok (St.m ⟨nt,tm,[],[],[]⟩ ⟨mT m0 mem gr,w,ats [],ds,noK⟩) w v:=fun v hv => hv.mono fun b' o u h1 h2 => ⟨h1,fun h => by
  rcases h with h | ⟨k,e,he,hat⟩ | ⟨k,e,he,_⟩
  ·exact h2 h
  ·cases he
  cases he⟩
 exact ⟨h.size,h.defers,fun t ht => ⟨(h.slot t ht).1,mono _ (h.slot t ht).2⟩,(fun t p v he => by cases he),(fun k e he => by cases he),(fun k k' e e' he => by cases he),(fun k t ht => by cases ht),(fun k t k' e ht => by cases ht),(fun k t k' t' b ht => by cases ht),Chg.refl _ _,fun b o hb => m_lt h b o hb,trivial⟩
theorem seg_end (h:Mem m0 w0 S K mem gr wi) (hi:Fits ⟨mT m0 mem gr,wi,ats [],ds,noK⟩ ⟨nt,tm,gs,memi,gri⟩ a w):Fits ⟨m0,w0,S,ds,K⟩ ⟨nt,tm,[],mem,gr⟩ a w:=by
 have hb:Below wi.heap.size wi w:=hi.chg.below (Nat.le_refl _) fun k ⟨e,he,_⟩ => (by cases he)
 exact mem_act (h.below hb) ⟨hi.size,hi.defers,fun t ht => (hi.slot t ht).1⟩ fun t ht => (hi.slot t ht).2.mono fun b o u h1 h2 => ⟨h1,fun hm => h2 (.inl hm)⟩
end
theorem kids_s (q:Lab):Spec Tryz.prog 45 [labAV q] (fun y => .fn 61 [] [.ep (some ⟨y.b,0,none⟩) 0 0 0 [.int .i64 q.len,.int .u64 q.bits]]):=by
 intro m w hm hargs
 simp only [labAV] at hargs ⊢
 refine en 4 hm hargs Tryz.func45 fun B hB a0 hF => ?_
 refine wp_seq (rg hB TA_ok [1] [1] [] hF fun X0 a0 w1 hF => ?_)
 refine wp_seq (rg hB TA_ok [2] [1] [] hF fun X1 a0 w1 hF => ?_)
 have hF:=hF.fz (tm':=[(2,.fn 61 [] [.ep (some ⟨(X0 0).b,0,none⟩) 0 0 0 [.int .i64 q.len,.int .u64 q.bits]])]) ⟨rfl,fz_fn trivial ⟨fz_ptr,trivial⟩,trivial⟩
 exact wp_ret (rsp hB TA_ok hF ⟨(X0 0).b,fun _ => none,fun _ => 0,fun _ => .empty⟩).1
theorem enters61:Enters Tryz.prog 61:=fun _ _ => by kernel_rfl
theorem cast_round {F:Fence} {P:Program} {l:Nat} {f:FuncId} {T T':Array Value} {c c':Code} {w:World} {R:Ending → World → Prop} (h:T=T') (h2:RoundIn F 0 P l f T' c c' w R):RoundIn F 0 P l f T c c' w R:=h ▸ h2
theorem ret_nil {P:Program} {C:Cx} {s:St} {a:Act} {w:World} {fn:Func} {R:Ending → World → Prop} (h:Fits C s a w) (hds:C.ds=[]) (hR:R (.returned (.tuple #[])) w) (hfn:fn.results = #[]:=by rfl):bodyPost P fn R .ret a w ∧ bodyPost P fn R .normal a w:=by
 have e:(results fn a.tmps).run P w = .ok (.tuple #[]) w:=by simp [results,hfn]
 exact ⟨⟨h.defers.trans hds,_,e,hR⟩,⟨h.defers.trans hds,_,e,hR⟩⟩
def EndsI (m0:Nat → Nat → Prop) (w0:World) (S:Nat → Prop) (tmc:List (Nat × AV)) (l:Nat) (rc:Loop) (D:Nat) (N:Kn → List (Nat × Blk) → List (Nat × Gr) → Prop) (X:Code → Kn → List (Nat × Blk) → List (Nat × Gr) → Prop) (e:Ending) (w3:World):Prop:=
 ∃ v,e = .returned v ∧ ∃ K' mem' gr',K'.off l ∧ ((Mem m0 w0 S (KL K' tmc l rc D .ready none) mem' gr' w3 ∧ N K' mem' gr') ∨ ∃ c,X c K' mem' gr' ∧ Mem m0 w0 S (KL K' tmc l rc D .done (some c)) mem' gr' w3)
theorem kids_c {m0:Nat → Nat → Prop} {w0:World} {S:Nat → Prop} {l D ntc p:Nat} {tmc:List (Nat × AV)} {ac:Act} {rc:Loop} {fd:Func} (hfn:Tryz.prog.funcs[rc.fn]? = some fd) (hl0:w0.heap.size ≤ l) (hD:D ≠ l) (hst:rc.pending=none) (htm:rc.tmps=ac.tmps) (hps:rc.params = #[p]) (hpn:p < ntc) (hac:∃ d,SlotsA ntc tmc d ac)
  (q:Lab) (hb0:U64 q.bits) (J:Nat → Kn → List (Nat × Blk) → List (Nat × Gr) → Prop) (X:Code → Kn → List (Nat × Blk) → List (Nat × Gr) → Prop)
  (hbody:∀ i:Nat,i < 2 → chE q 0=0 → ∀ (E:Kn),E.self → (∀ n,E.off n) → ∀ K mem gr a w,J i K mem gr → K.off l → Fits ⟨m0,w0,S,[],(KL K tmc l rc D .ready none).and E⟩ ⟨ntc,(p,labAV (chV q i)) :: tmc,[],mem,gr⟩ a w → rc.assign.wpIn (rF (some l)) 0 Tryz.prog (Exit.then (fun a₁ w₁ => ∃ nt1 tm1 mem1 gr1,Fits ⟨m0,w0,S,[],(KL K tmc l rc D .ready none).and E⟩ ⟨nt1,tm1,[],mem1,gr1⟩ a₁ w₁ ∧
   ∀ w₂,Fits ⟨m0,w0,S,[],(KL K tmc l rc D .busy none).and E⟩ ⟨nt1,tm1,[],mem1,gr1⟩ a₁ w₂ → rc.body.wpIn (rF (some l)) 0 Tryz.prog (RoundQ m0 w0 S tmc l rc D E (J (i + 1)) X) a₁ w₂) (fun _ _ _ => False)) a w)
  {K:Kn} {mem:List (Nat × Blk)} {gr:List (Nat × Gr)} {w:World} {A:Option Addr} (hJ:J 0 K mem gr) (hK:K.off l) (hm:Mem m0 w0 S (KL K tmc l rc D .ready none) mem gr w) (hA:Ok (mT m0 mem gr) w (.ep A 0 0 0 [.int .i64 q.len,.int .u64 q.bits])) :
  Calls Tryz.prog 61 ([yV l,.ep A 0 0 0 [.int .i64 q.len,.int .u64 q.bits]].map AV.den).toArray w (EndsI m0 w0 S tmc l rc D (J (if chE q 0=0 then 2 else 0)) X):=by
 have hargs:∀ v ∈ [yV l,.ep A 0 0 0 [.int .i64 q.len,.int .u64 q.bits]],Ok (mT m0 mem gr) w v:=by
  intro v hv
  simp only [List.mem_cons,List.not_mem_nil,or_false] at hv
  rcases hv with rfl | rfl
  ·exact .raw _
  exact hA
 refine enY 24 (pre:=[]) (fun b o hb => m_lt hm b o hb) ⟨fun e he => (by cases he),fun e he => (by cases he),fun e he => (by cases he),.nil⟩ hargs Tryz.func61 fun B hB a0 hF => ?_
 refine wpIn_seq (rrg hB TA_ok [6,0,1] [] [] hF fun X0 a0 w1 hF => ?_)
 refine wpIn_block (rloop_any (ι:=Nat) (fun i a w => ∃ K mem gr wi,J i K mem gr ∧ K.off l ∧ Mem m0 w0 S (KL K tmc l rc D .ready none) mem gr wi ∧ Fits ⟨mT m0 mem gr,wi,ats [],[],noK⟩ ⟨24,[(6,.int .i64 (i:Int)),(0,yV l),(1,.ep A 0 0 0 [.int .i64 q.len,.int .u64 q.bits])],[],[],[]⟩ a w) (fun i => i ≤ 2 ∧ (i=0 ∨ chE q 0=0)) (fun i => 2 - i) 0 ⟨by omega,.inl rfl⟩ ⟨K,mem,gr,w,hJ,hK,hm,hF⟩ ?_)
 rintro i ⟨hi2,hi0⟩ a w ⟨K,mem,gr,wi,hJ,hK,hm,hF⟩
 refine wpIn_seq (rrg hB TA_ok [7,6,0,1] [] [] hF fun X1 a0 w1 hF => ?_)
 refine wpIn_seq (rtest_ok hF rfl (fun hb hF => ?_) (fun hb hF => ?_))
 ·have hin:i < 2:=by
   have:(i:Int) < (2:Int):=by subst hB; simpa [std,sC] using hb
   omega
  refine wpIn_skip (wpIn_seq (wpIn_block (wpIn_seq (rrg hB TA_ok [3,6,0,1] [] [] hF fun X2 a0 w1 hF => ?_))))
  have SC:=child_s q hb0 i (by omega)
  have hCE:chE q i=chE q 0:=rfl
  rw [hCE] at SC
  obtain ⟨e,he⟩:=eqv (chE q 0)
  obtain ⟨c,hc⟩:=eqv (chV q i)
  simp only [labAV,← hc,← he] at SC
  have O1:=SC
  refine wpIn_seq (rrg hB TA_ok [5,4,6,0,1] [4] [(2,.r fun _ => .tup [.agg [.int .i64 c.len,.int .u64 c.bits],.int .i64 e])] hF fun X3 a0 w1 hF => ?_)
  have hF:=hF.fz (tm':=[(5,.int .i64 e),(4,.ep (some ⟨(X3 6).b,0,none⟩) 0 0 0 [.int .i64 c.len,.int .u64 c.bits]),(6,.int .i64 (i:Int)),(0,yV l),(1,.ep A 0 0 0 [.int .i64 q.len,.int .u64 q.bits])]) ⟨rfl,fz_id,rfl,fz_ptr,rfl,fz_id,rfl,fz_id,rfl,fz_id,trivial⟩
  refine wpIn_seq (wpIn_region_lit ?_)
  refine rlpr 0 3 hB TA_ok [17,4,6,0,1] [] [] hF (fun X4 a0 w1 hF => ?_)
  by_cases he0:e=0
  ·have hF:=hF.headS (v':=.bool .ff) (by subst hB; subst he0; exact Sim.bool rfl) rfl
   refine rlpr 3 2 hB TA_ok [19,18,17,6,0,1] [] [] hF (fun X5 a0 w1 hF => ?_)
   have hfit:=seg_end hm hF
   refine man_yieldW rfl (wanted_of rfl rfl hfit rfl) rfl rfl hfit rfl rfl (rc:=recS rc .ready none) hfit.kept.2.1 (by simp [recS,hps]) (fun _ => ?_)
   refine cast_round (T':=([(p,labAV c)]:List (Nat × AV)).foldl (fun t e => t.setIfInBounds e.1 e.2.den) rc.tmps) (by simp [recS,hps,labAV]; rfl) ?_
   refine roundI (P:=Tryz.prog) hfn hl0 hD hK hst htm hfit hac (by
     intro x hx
     simp only [List.mem_singleton] at hx
     subst hx
     exact ⟨hpn,.agg _ (by intro v hv; simp only [List.mem_cons,List.not_mem_nil,or_false] at hv; rcases hv with rfl | rfl<;>rfl) (by intro v hv; simp only [List.mem_cons,List.not_mem_nil,or_false] at hv; rcases hv with rfl | rfl<;>exact .int _ _)⟩) (J (i + 1)) X ?_ ?_ ?_
   ·intro K' mem' gr' w' hj' ho' hf'
    have hF:=seg_of (hf'.put (some 20) (fun t ht => by injection ht with ht; subst ht; exact Nat.le_of_ble_eq_true rfl) (.bool .tt) (fun _ => .bool _) (.bool true) fun _ => rfl)
    refine rlnd 6 hB TA_ok [22,6,0,1] [] [] hF (fun X6 a0 w1 hF => ?_)
    refine rtest_ff hF rfl (fun hF => ?_)
    refine wpIn_skip (rrg hB TA_ok [6,0,1] [] [] hF fun X7 a0 w1 hF => ?_)
    have e:B.arith .add .i64 (i:Int) 1=((i + 1:Nat):Int):=by subst hB; exact wrap_succ (n:=2) hin (by simp only [maxLen]; omega)
    exact ⟨i + 1,⟨by omega,.inr (he.symm.trans he0)⟩,by omega,K',mem',gr',w',hj',ho',hf'.bare,by rw [← e]; exact hF⟩
   ·intro cc K' mem' gr' w' hx' ho' hf'
    have hF:=seg_of (hf'.put (some 20) (fun t ht => by injection ht with ht; subst ht; exact Nat.le_of_ble_eq_true rfl) (.bool .ff) (fun _ => .bool _) (.bool false) fun _ => rfl)
    refine rlnd 6 hB TA_ok [22,6,0,1] [] [] hF (fun X6 a0 w1 hF => ?_)
    refine rtest_tt hF rfl (fun hF => ?_)
    exact wpIn_ret (ret_nil (P:=Tryz.prog) (R:=EndsI m0 w0 S tmc l rc D (J (if chE q 0=0 then 2 else 0)) X) hF rfl (⟨_,rfl,K',mem',gr',ho',.inr ⟨cc,hx',(seg_end hf'.bare hF).bare⟩⟩)).1
   intro a hFa
   have:=hbody i hin (he.symm.trans he0) (okT _) (okT_self _) (okT_off _) K mem gr a _ hJ hK (by rw [← hc]; exact hFa)
   exact this
  have hF:=hF.headS (v':=.bool .tt) (by subst hB; exact Sim.bool (by simp [std,sC,he0,BE.den])) rfl
  refine rlnd 3 hB TA_ok [22,6,0,1] [] [] hF (fun X5 a0 w1 hF => ?_)
  refine rtest_tt hF rfl (fun hF => ?_)
  have hne:¬ chE q 0=0:=fun h => he0 (he.trans h)
  have hi:i=0:=hi0.resolve_right hne
  exact wpIn_ret (ret_nil (P:=Tryz.prog) (R:=EndsI m0 w0 S tmc l rc D (J (if chE q 0=0 then 2 else 0)) X) hF rfl (⟨_,rfl,K,mem,gr,hK,.inl ⟨(seg_end hm hF).bare,by rw [if_neg hne,← hi]; exact hJ⟩⟩)).1
 have hi:i=2:=by
  have:¬ (i:Int) < (2:Int):=by subst hB; simpa [std,sC] using hb
  omega
 refine wpIn_exit ?_
 have h0:chE q 0=0:=hi0.resolve_left (by omega)
 exact (ret_nil (P:=Tryz.prog) (R:=EndsI m0 w0 S tmc l rc D (J (if chE q 0=0 then 2 else 0)) X) hF rfl (⟨_,rfl,K,mem,gr,hK,.inl ⟨(seg_end hm hF).bare,by rw [if_pos h0,← hi]; exact hJ⟩⟩)).2
abbrev Tre:=Lab → Option Rec
def frozP (T:Tre) (c:Lab):Bool:=match T c with
 | none => true
 | some x => decide (x.kind=5)
def kidP (T:Tre) (f:Lab → List Itm) (r:Rec) (c:Lab):List Itm:=if r.kind=3 ∧ frozP T c=true then covL c r.items else f c
def meansP (T:Tre):Nat → Lab → List Itm
 | 0,_ => []
 | n + 1,l => match T l with
  | none => []
  | some r => if r.kind=1 ∨ r.kind=5 then r.items else if chE l 0=0 then kidP T (meansP T n) r (chV l 0) ++ kidP T (meansP T n) r (chV l 1) else []
def cntB (ks:List Lab) (l:Lab):Nat:=ks.countP fun k => coverB l k.bits && decide (l.len ≤ k.len)
theorem cov_self {l:Lab} (hl:isL l=true) (hb:U64 l.bits):coverB l l.bits=true:=by
 unfold coverB
 simp only [Bool.and_eq_true,decide_eq_true_eq]
 exact ⟨hl,(lab_parts hl).2.2⟩
theorem headN_down {v n:Nat} (hn:n < 64):headN (headN v (n + 1)) n=headN v n:=by
 apply Nat.eq_of_testBit_eq
 intro i
 rw [testBit_head,testBit_head,testBit_head]
 by_cases h:64 - n ≤ i
 ·have:64 - (n + 1) ≤ i:=by omega
  rw [decide_eq_true h,decide_eq_true this]; simp
 rw [decide_eq_false h]; simp
theorem cov_up {l:Lab} (hl:isL l=true) (hb:U64 l.bits) (h64:l.len ≠ 64) (b:Int) {key:Int} (hc:coverB (childL l b) key=true):coverB l key=true:=by
 obtain ⟨q,h1,h2⟩:=lab_mul hl hb h64
 obtain ⟨h3,h4,h5⟩:=lab_parts hl
 unfold coverB at hc ⊢
 simp only [Bool.and_eq_true,decide_eq_true_eq] at hc ⊢
 refine ⟨hl,?_⟩
 have hlen:(childL l b).len.toNat=l.len.toNat + 1:=by unfold childL; simp only; omega
 have e:=hc.2
 rw [hlen] at e
 have hn:l.len.toNat < 64:=by omega
 have e2:headN (headN key.toNat (l.len.toNat + 1)) l.len.toNat=headN key.toNat l.len.toNat:=headN_down hn
 have e3:headN key.toNat (l.len.toNat + 1)=(childL l b).bits.toNat:=by omega
 rw [e3] at e2
 rw [← e2,h1]
 have hp:0 < 2 ^ (63 - l.len.toNat):=Nat.pow_pos (by decide)
 have hpow:=half_pow hn
 have hpp:0 < 2 * 2 ^ (63 - l.len.toNat):=by omega
 unfold headN childL
 simp only
 rw [hpow]
 congr 1
 split
 ·have:(l.bits + ((2 ^ (63 - l.len.toNat):Nat):Int)).toNat=2 ^ (63 - l.len.toNat) + q * (2 * 2 ^ (63 - l.len.toNat)):=by rw [h1]; omega
  rw [this,Nat.add_mul_div_right _ _ hpp,Nat.div_eq_of_lt (by omega),Nat.zero_add]
 have:l.bits.toNat=q * (2 * 2 ^ (63 - l.len.toNat)):=by rw [h1]; omega
 rw [this,Nat.mul_div_cancel _ hpp]
theorem ch_okT {l:Lab} (h:chE l 0=0):isL l=true ∧ l.len ≠ 64 ∧ ∀ b,chV l b=childL l b:=by
 have hc:∀ b,chE l b=0:=fun b => h
 refine ⟨?_,?_,fun b => by unfold chV; rw [if_pos (hc b)]⟩
 ·cases hl:isL l with
  | true => rfl
  | false => unfold chE at h; rw [hl,if_pos rfl] at h; cases h
 intro h64
 unfold chE at h
 simp only [h64,if_true] at h
 split at h<;>simp at h
theorem ch_is {l:Lab} (hb:U64 l.bits) (h:chE l 0=0) (b:Int):isL (chV l b)=true ∧ U64 (chV l b).bits ∧ (chV l b).len=l.len + 1:=by
 obtain ⟨h1,h2,h3⟩:=ch_okT h
 rw [h3]
 exact ⟨child_isL h1 hb h2 b,child_u h1 hb h2 b,rfl⟩
theorem cnt_kids {l:Lab} (hl:isL l=true) (hb:U64 l.bits) (h64:l.len ≠ 64):∀ {ks:List Lab},(∀ k ∈ ks,U64 k.bits) → cntB ks (childL l 0) + cntB ks (childL l 1) + ks.countP (fun k => decide (k=l)) ≤ cntB ks l
 | [],_ => Nat.le_refl _
 | k :: ks,hk => by
  have ih:=cnt_kids hl hb h64 (ks:=ks) fun k' h => hk k' (by simp [h])
  unfold cntB at ih ⊢
  simp only [List.countP_cons]
  have hku:=hk k (by simp)
  have hlen:∀ b,(childL l b).len=l.len + 1:=fun b => rfl
  have key:(if (coverB (childL l 0) k.bits && decide ((childL l 0).len ≤ k.len))=true then 1 else 0) + (if (coverB (childL l 1) k.bits && decide ((childL l 1).len ≤ k.len))=true then 1 else 0) + (if decide (k=l)=true then 1 else 0) ≤ (if (coverB l k.bits && decide (l.len ≤ k.len))=true then 1 else 0):=by
   by_cases e:k=l
   ·subst e
    have n0:¬ ((coverB (childL k 0) k.bits && decide ((childL k 0).len ≤ k.len))=true):=by
     simp only [hlen,Bool.and_eq_true,decide_eq_true_eq]
     rintro ⟨_,h⟩
     omega
    have n1:¬ ((coverB (childL k 1) k.bits && decide ((childL k 1).len ≤ k.len))=true):=by
     simp only [hlen,Bool.and_eq_true,decide_eq_true_eq]
     rintro ⟨_,h⟩
     omega
    rw [if_neg n0,if_neg n1,if_pos (by simp),if_pos (by simp [cov_self hl hb])]
    omega
   rw [if_neg (show ¬ decide (k=l)=true by simpa using e)]
   by_cases c:coverB l k.bits=true
   ·obtain ⟨a0,a1⟩:=child_cov hl hb h64 hku c
    rw [a0,a1,c]
    generalize (childL l 1).bits=z
    rw [hlen,hlen]
    by_cases hlt:k.bits < z
    ·rw [decide_eq_true hlt,decide_eq_false (show ¬ z ≤ k.bits by omega)]
     simp only [Bool.true_and,Bool.false_and,decide_eq_true_eq]
     by_cases g1:l.len ≤ k.len
     ·rw [if_pos g1]; by_cases g2:l.len + 1 ≤ k.len<;>simp [g2]
     rw [if_neg g1,if_neg (by omega)]; simp
    rw [decide_eq_false hlt,decide_eq_true (show z ≤ k.bits by omega)]
    simp only [Bool.true_and,Bool.false_and,decide_eq_true_eq]
    by_cases g1:l.len ≤ k.len
    ·rw [if_pos g1]; by_cases g2:l.len + 1 ≤ k.len<;>simp [g2]
    rw [if_neg g1,if_neg (show ¬ l.len + 1 ≤ k.len by omega)]; simp
   have c0:coverB (childL l 0) k.bits=false:=by
    cases h:coverB (childL l 0) k.bits with
    | false => rfl
    | true => exact absurd (cov_up hl hb h64 0 h) c
   have c1:coverB (childL l 1) k.bits=false:=by
    cases h:coverB (childL l 1) k.bits with
    | false => rfl
    | true => exact absurd (cov_up hl hb h64 1 h) c
   rw [c0,c1]
   simp
  omega
theorem cov_len (l:Lab) (its:List Itm):(covL l its).length ≤ its.length:=List.length_filter_le _ _
structure TreOk (T:Tre) (ks:List Lab):Prop where
 us:∀ k ∈ ks,U64 k.bits
 at_:∀ l r,T l=some r → l ∈ ks ∧ r.items.length ≤ 16
theorem cnt_pos {T:Tre} {ks:List Lab} (h:TreOk T ks) {l:Lab} {r:Rec} (hb:U64 l.bits) (hr:T l=some r) (hc:chE l 0=0):cntB ks (chV l 0) + cntB ks (chV l 1) + 1 ≤ cntB ks l:=by
 obtain ⟨h1,h2,h3⟩:=ch_okT hc
 have:=cnt_kids h1 hb h2 h.us
 rw [h3,h3]
 have hp:0 < ks.countP (fun k => decide (k=l)):=List.countP_pos_iff.2 ⟨l,(h.at_ _ _ hr).1,by simp⟩
 omega
theorem cnt_in {ks:List Lab} {l:Lab} (hl:isL l=true) (hb:U64 l.bits) (h:l ∈ ks):1 ≤ cntB ks l:=
 List.countP_pos_iff.2 ⟨l,h,by simp [cov_self hl hb]⟩
theorem kid_len {T:Tre} {ks:List Lab} (h:TreOk T ks) {n:Nat} {l:Lab} {r:Rec} (hr:T l=some r) {c:Lab} (hf:(meansP T n c).length ≤ 32 * cntB ks c):(kidP T (meansP T n) r c).length ≤ 16 + 32 * cntB ks c:=by
 unfold kidP
 split
 ·have:=cov_len c r.items
  have:=(h.at_ _ _ hr).2
  omega
 omega
theorem means_len {T:Tre} {ks:List Lab} (h:TreOk T ks):∀ (n:Nat) (l:Lab),isL l=true → U64 l.bits → (meansP T n l).length ≤ 32 * cntB ks l
 | 0,l,_,_ => by simp [meansP]
 | n + 1,l,hl,hb => by
  unfold meansP
  cases hr:T l with
  | none => simp
  | some r =>
   simp only
   have h1:=cnt_in hl hb (h.at_ _ _ hr).1
   have h2:=(h.at_ _ _ hr).2
   split
   ·omega
   split
   ·rename_i hc
    have h3:=cnt_pos h hb hr hc
    obtain ⟨a1,a2,_⟩:=ch_is hb hc 0
    obtain ⟨b1,b2,_⟩:=ch_is hb hc 1
    have k0:=kid_len h hr (means_len h n (chV l 0) a1 a2)
    have k1:=kid_len h hr (means_len h n (chV l 1) b1 b2)
    rw [List.length_append]
    omega
   simp
theorem cnt_le (ks:List Lab) (l:Lab):cntB ks l ≤ ks.length:=List.countP_le_length
theorem wpN_block {P:Program} {fn:FuncId} {Q:Exit → Act → World → Prop} {a:Act} {w:World} {id:Nat} {c:Code} (h:wpN fn P c (Exit.inBlock id Q) a w):wpN fn P (Code.block id c) Q a w:=by
 intro b k cs hb
 obtain ⟨e,a₁,w₁,hq,harr⟩:=h b (.inBlock id :: k) cs hb
 cases e with
 | normal => exact ⟨.normal,a₁,w₁,hq,.head step_block (Steps.trans harr (.one step_inBlock))⟩
 | exit id' =>
  by_cases hid:id'=id
  ·simp only [Exit.inBlock,hid,if_true] at hq
   exact ⟨.normal,a₁,w₁,hq,.head step_block (harr k (by simp [exitTo,hid]))⟩
  simp only [Exit.inBlock,hid,if_false] at hq
  refine ⟨.exit id',a₁,w₁,hq,fun k' hk => .head step_block (harr k' ?_)⟩
  have:(id == id')=false:=by simp; exact fun h => hid h.symm
  simp [exitTo,this,hk]
 | goto l => exact ⟨_,a₁,w₁,hq,fun k' hk => .head step_block (harr k' (by simp [gotoIn,hk]))⟩
 | ret => exact ⟨_,a₁,w₁,hq,.of_steps (.one step_block) harr⟩
 | panic ch => exact ⟨_,a₁,w₁,hq,.of_steps (.one step_block) harr⟩
 | outgrown => exact ⟨_,a₁,w₁,hq,.of_steps (b:=b) (k:=k) (cs:=cs) (e:=.outgrown) (.one step_block) harr⟩
theorem enters44:Enters Tryz.prog 44:=fun _ _ => by kernel_rfl
theorem zRA_run (w:World):(zeroValue 76).run Tryz.prog w = .ok (recV zRA).den w:=by kernel_rfl
theorem zRA_ok (m:Nat → Nat → Prop) (w:World):Ok m w (recV zRA):=by
 refine .agg _ (fun v hv => ?_) fun v hv => ?_
 ·simp only [recC,List.mem_cons,List.not_mem_nil,or_false] at hv
  rcases hv with rfl | rfl | rfl | rfl | rfl<;>rfl
 simp only [recC,List.mem_cons,List.not_mem_nil,or_false] at hv
 rcases hv with rfl | rfl | rfl | rfl | rfl
 ·exact .int _ _
 ·exact .sl _ _ _ _ _ _ (Nat.le_refl _) (Nat.zero_le _) (fun i hi => absurd hi (Nat.not_lt_zero _)) (fun i hi => absurd hi (Nat.not_lt_zero _)) (fun i hi => absurd hi (Nat.not_lt_zero _)) (fun i hi => absurd hi (Nat.not_lt_zero _)) (fun i hi => absurd hi (Nat.not_lt_zero _))
 ·exact .int _ _
 ·exact .int _ _
 exact .int _ _
theorem labOk_is {q:Lab} (hl:isL q=true) (hb:U64 q.bits):LabOk q:=by
 obtain ⟨h1,h2,_⟩:=lab_parts hl
 obtain ⟨h3,h4⟩:=hb
 constructor
 ·simp [Lit.wf,IntKind.min,IntKind.max,IntKind.signed,IntKind.bits]; omega
 simp [Lit.wf,IntKind.min,IntKind.max,IntKind.signed,IntKind.bits]; omega
def treF (T:List (Lab × RA)):Tre:=fun l => (getA l T).map fun x => x.r.abs
structure TreA (T:List (Lab × RA)):Prop where
 labs:∀ p ∈ T,LabOk p.1 ∧ U64 p.1.bits
 recs:∀ p ∈ T,p.2.r.n ≤ 16 ∧ ∀ i,i < p.2.r.n → U64 (p.2.r.f i).key
theorem TreA.ok {T:List (Lab × RA)} (h:TreA T):TreOk (treF T) (T.map (·.1)):=by
 refine ⟨fun k hk => ?_,fun l r hr => ?_⟩
 ·obtain ⟨p,hp,rfl⟩:=List.mem_map.1 hk
  exact (h.labs p hp).2
 obtain ⟨x,hx,rfl⟩:=Option.map_eq_some_iff.1 hr
 have hm:=getA_mem hx
 refine ⟨List.mem_map.2 ⟨_,hm,rfl⟩,?_⟩
 have:=(h.recs _ hm).1
 unfold RN.abs
 rw [firsts_len]
 exact this
theorem TreA.el {T:List (Lab × RA)} (h:TreA T) (q:Lab):((getA q T).getD zRA).r.n ≤ 16 ∧ ∀ i,i < ((getA q T).getD zRA).r.n → U64 (((getA q T).getD zRA).r.f i).key:=by
 cases hx:getA q T with
 | none => exact ⟨Nat.zero_le _,fun i hi => absurd hi (Nat.not_lt_zero _)⟩
 | some x => exact h.recs _ (getA_mem hx)
def appG (n:Nat) (g f:Nat → Itm):Nat → Itm:=fun i => if i < n then g i else f (i - n)
theorem firsts_app (g f:Nat → Itm) (n k:Nat):firsts (appG n g f) (n + k)=firsts g n ++ firsts f k:=by
 apply List.ext_getElem?
 intro i
 unfold firsts appG
 by_cases h:i < n
 ·rw [List.getElem?_append_left (by simpa using h)]
  simp [h,show i < n + k by omega]
 rw [List.getElem?_append_right (by simpa using h)]
 by_cases h2:i < n + k
 ·simp [h,h2,show i - n < k by omega]
 simp [show ¬ i < n + k from h2,show ¬ i - n < k by omega]
abbrev tEp (bt bT:Nat):AV:=.ep (some ⟨bt,0,none⟩) 0 0 0 [.raw (.map (some bT))]
abbrev outMT (bt bT bO bM n c:Nat) (A:Option Addr) (g:Nat → Itm):List (Nat × Blk):=[(901,⟨bO,22,[.sl (some 77) A n c 2 (fun i => itC (g i))]⟩),(900,⟨bM,110,[.fn 44 [] [tEp bt bT,.ptr 901 bO 0,.ptr 900 bM 0]]⟩)]
abbrev outG (n c:Nat) (A:Option Addr):List (Nat × Gr):=[(77,⟨A,n,c,2,63⟩)]
def OutS (bt bT bO bM:Nat) (xs:List Itm) (mem:List (Nat × Blk)) (gr:List (Nat × Gr)):Prop:=∃ A n c g,firsts g n=xs ∧ mem=outMT bt bT bO bM n c A g ∧ gr=outG n c A
def MeansE (m0:Nat → Nat → Prop) (w0:World) (K:Kn) (bt bT bO bM:Nat) (xs:List Itm) (e:Ending) (w':World):Prop:=∃ v,e = .returned v ∧ v = .tuple #[] ∧ ∃ mem' gr',OutS bt bT bO bM xs mem' gr' ∧ Mem m0 w0 (fun _ => False) K mem' gr' w'
theorem app_sim {A:Option Addr} {n k c:Nat} {g f:Nat → Itm} {d:Option Nat}:Sim (.sl d A (std.nadd n k) c 2 (std.app n (fun i => itC (g i)) (fun i => itC (f i)))) (.sl d A (n + k) c 2 (fun i => itC (appG n g f i))):=
 Sim.resl rfl fun t ht => by
  show appC n (fun i => itC (g i)) (fun i => itC (f i)) t=itC (appG n g f t)
  unfold appC appG
  split<;>rfl
def partP (T:Tre) (n:Nat) (r:Rec) (q:Lab):Nat → List Itm
 | 0 => []
 | 1 => kidP T (meansP T n) r (chV q 0)
 | _ => kidP T (meansP T n) r (chV q 0) ++ kidP T (meansP T n) r (chV q 1)
theorem means_leaf {T:Tre} {n:Nat} {r:Rec} {q:Lab} (h:T q=some r) (hk:r.kind=1 ∨ r.kind=5):meansP T (n + 1) q=r.items:=by
 unfold meansP
 rw [h]
 exact if_pos hk
theorem means_in {T:Tre} {n:Nat} {r:Rec} {q:Lab} (h:T q=some r) (hk:¬ (r.kind=1 ∨ r.kind=5)):meansP T (n + 1) q=partP T n r q (if chE q 0=0 then 2 else 0):=by
 unfold meansP
 rw [h]
 refine (if_neg hk).trans ?_
 by_cases hc:chE q 0=0
 ·rw [if_pos hc,if_pos hc]; rfl
 rw [if_neg hc,if_neg hc]; rfl
theorem part_succ {T:Tre} {n:Nat} {r:Rec} {q:Lab} {i:Nat} (hi:i < 2):partP T n r q (i + 1)=partP T n r q i ++ kidP T (meansP T n) r (chV q (i:Nat)):=by
 rcases i with _ | _ | i
 ·rfl
 ·rfl
 omega
theorem part_len {T:Tre} {ks:List Lab} (h:TreOk T ks) {n:Nat} {q:Lab} {r:Rec} (hb:U64 q.bits) (hr:T q=some r) (hc:chE q 0=0) {i:Nat} (hi:i < 2):(partP T n r q i).length + 16 + 32 * cntB ks (chV q (i:Nat)) ≤ 32 * cntB ks q:=by
 have h3:=cnt_pos h hb hr hc
 rcases i with _ | _ | i
 ·simp only [partP,List.length_nil,Int.ofNat_zero]
  have:((0:Nat):Int)=0:=rfl
  omega
 ·obtain ⟨a1,a2,_⟩:=ch_is hb hc 0
  have k0:=kid_len h hr (means_len h n (chV q 0) a1 a2)
  simp only [partP]
  have:(((0 + 1:Nat)):Int)=1:=rfl
  rw [this]
  omega
 omega
theorem means_c {m0:Nat → Nat → Prop} {w0:World} {bt bT bO bM:Nat} (T:List (Lab × RA)) (hT:TreA T) (hT2:T.length ≤ 2000):∀ (n:Nat) (q:Lab),U64 q.bits → isL q=true → 65 ≤ q.len + n → ∀ (K:Kn),(∀ m w,K.p m w → (lmK recV bT T).p m w) → K.self → ∀ w xs mem gr,OutS bt bT bO bM xs mem gr → xs.length + 32 * cntB (T.map (·.1)) q ≤ 1000000 → Mem m0 w0 (fun _ => False) K mem gr w → Ok (mT m0 mem gr) w (tEp bt bT) →
  Calls Tryz.prog 44 ([labAV q,tEp bt bT,.ptr 901 bO 0,.ptr 900 bM 0].map AV.den).toArray w (MeansE m0 w0 K bt bT bO bM (xs ++ meansP (treF T) n q)):=by
 intro n
 induction n with
 | zero =>
  intro q hb0 hl hn
  have:=(lab_parts hl).2.1
  exact absurd hn (by omega)
 | succ n ih =>
  intro q hb0 hl hn K hKT hKs w xs mem gr hO hlen hm htE
  have hmx:maxLen=9223372036854775807:=rfl
  obtain ⟨Ao,no,co,g,hg,rfl,rfl⟩:=hO
  have hargs:∀ v ∈ [labAV q,tEp bt bT,.ptr 901 bO 0,.ptr 900 bM 0],Ok (mT m0 (outMT bt bT bO bM no co Ao g) (outG no co Ao)) w v:=by
   intro v hv
   simp only [List.mem_cons,List.not_mem_nil,or_false] at hv
   rcases hv with rfl | rfl | rfl | rfl
   ·exact .agg _ (by intro v hv; simp only [List.mem_cons,List.not_mem_nil,or_false] at hv; rcases hv with rfl | rfl<;>rfl) (by intro v hv; simp only [List.mem_cons,List.not_mem_nil,or_false] at hv; rcases hv with rfl | rfl<;>exact .int _ _)
   ·exact htE
   ·exact .ptr _ _ _
   exact .ptr _ _ _
  have hlq:LabOk q:=labOk_is hl hb0
  obtain ⟨el,hel⟩:=eqv ((getA q T).getD zRA)
  obtain ⟨hh,hhh⟩:=eqv ((getA q T).isSome)
  obtain ⟨he1,he2⟩:=hT.el q
  rw [← hel] at he1 he2
  have O1:=look_tt (el:=recV) hKT hlq mapr_und zRA_run zRA_ok (v:=recV el) (by rw [← hel]) hhh.symm
  simp only [labAV] at O1
  refine enIN 60 hm hargs Tryz.func44 fun B hB a0 hF => ?_
  refine wpN_seq (wpN_of (rg hB TA_ok [4,1,2,3] [4,901,900,77] [] hF fun X0 a0 w1 hF => ?_))
  refine wpN_seq (wpN_of (rg hB TA_ok [6,5,4,1,2,3] [5,4,901,900,77] [(2,.r fun _ => .tup [recV el,.bool (.v hh)])] hF fun X1 a0 w1 hF => ?_))
  obtain ⟨qE,hqE⟩:=eqv (AV.ep (some ⟨(X0 0).b,0,none⟩) 0 0 0 [.int .i64 q.len,.int .u64 q.bits])
  have hF:=hF.fz (tm':=[(6,.bool (.v hh)),(5,.ep (some ⟨(X1 6).b,0,none⟩) 0 0 0 (recC el)),(4,.ptr 4 (X0 0).b 0),(1,tEp bt bT),(2,.ptr 901 bO 0),(3,.ptr 900 bM 0)]) ⟨rfl,fz_id,rfl,fz_ptr,rfl,fz_id,rfl,fz_id,rfl,fz_id,rfl,fz_id,trivial⟩
  have hF:=hF.fz (tm':=[(6,.bool (.v hh)),(5,.ep (some ⟨(X1 6).b,0,none⟩) 0 0 0 (recC el)),(4,.ep (some ⟨(X0 0).b,0,none⟩) 0 0 0 [.int .i64 q.len,.int .u64 q.bits]),(1,tEp bt bT),(2,.ptr 901 bO 0),(3,.ptr 900 bM 0)]) ⟨rfl,fz_id,rfl,fz_id,rfl,fz_ptr,rfl,fz_id,rfl,fz_id,rfl,fz_id,trivial⟩
  refine wpN_seq (wpN_of (wp_seq (rg hB TA_ok [17,6,5,4,1,2,3] [901,900,77] [] hF fun X2 a0 w1 hF => ?_)))
  apply test_ok hF rfl<;>intro hb hF
  ·have hno:treF T q=none:=by
    have:hh=false:=by subst hB; cases hh<;>first | rfl | cases hb
    rw [this] at hhh
    unfold treF
    cases hg2:getA q T with
    | none => rfl
    | some x => rw [hg2] at hhh; cases hhh
   refine wp_ret (retI0 hB TA_ok hF (fun w' hm' _ => ⟨_,rfl,rfl,_,_,⟨Ao,no,co,g,?_,rfl,rfl⟩,hm'⟩)).1
   unfold meansP
   rw [hno,hg,List.append_nil]
  have hso:treF T q=some el.r.abs:=by
   have:hh=true:=by subst hB; cases hh<;>first | rfl | cases hb
   rw [this] at hhh
   obtain ⟨x,hx⟩:=Option.isSome_iff_exists.1 hhh.symm
   unfold treF
   rw [hx] at hel ⊢
   rw [hel]; rfl
  refine wp_skip ?_
  refine wpN_seq (wpN_of (wp_seq (rg hB TA_ok [25,5,4,1,2,3] [901,900,77] [] hF fun X3 a0 w1 hF => ?_)))
  apply test_ok hF rfl<;>intro hb hF
  ·have hk:el.r.kd=1 ∨ el.r.kd=5:=by
    have h9:(if decide (el.r.kd=1)=true then true else decide (el.r.kd=5))=true:=by subst hB; exact hb
    by_cases h1:el.r.kd=1
    ·exact .inl h1
    rw [decide_eq_false h1] at h9; exact .inr (by simpa using h9)
   have hli:no ≤ 1000000:=by rw [← hg,firsts_len] at hlen; omega
   refine wp_seq (rg hB TA_ok [] [901,900,77] [] hF (fun X4 a0 w1 hF => ?_) (hob:=?hob))
   case hob =>
    intro X; subst hB
    repeat (first | exact trivial | refine ⟨⟨rfl,rfl,rfl⟩,?_⟩ | refine ⟨rfl,?_⟩ | refine ⟨⟨show no + el.r.n ≤ maxLen by omega,show (no + el.r.n) * _ ≤ _ by omega⟩,?_⟩)
   have hF:=hF.memS (cells':=[.sl (some 77) ((X4 3).A 0) (no + el.r.n) ((X4 3).c 0) 2 (fun i => itC (appG no g el.r.f i))]) (by subst hB; exact ⟨app_sim,trivial⟩)
   have hF:=hF.regr (n':=no + el.r.n) (by subst hB; rfl)
   refine wp_ret (retI0 hB TA_ok hF (fun w' hm' _ => ⟨_,rfl,rfl,_,_,⟨_,no + el.r.n,_,appG no g el.r.f,?_,rfl,rfl⟩,hm'⟩)).1
   rw [means_leaf hso hk,firsts_app,hg]
   rfl
  have hnk:¬ (el.r.kd=1 ∨ el.r.kd=5):=by
   have h9:(if decide (el.r.kd=1)=true then true else decide (el.r.kd=5))=false:=by subst hB; exact hb
   rintro (h1 | h1)<;>simp [h1] at h9
  refine wp_skip ?_
  have SK:=kids_s q
  simp only [labAV] at SK
  have O1:=SK
  refine wpN_seq (wpN_of (rg hB TA_ok [31,5,1,2,3] [901,900,77] [(1,.r fun y => .fn 61 [] [.ep (some ⟨y.b,0,none⟩) 0 0 0 [.int .i64 q.len,.int .u64 q.bits]])] hF fun X5 a0 w1 hF => ?_))
  refine wpN_block ?_
  have hKu:=hKs _ _ hF.kept
  have hTk:=hT.ok
  refine rangeI hF rfl enters61 hKu (fun l D rc w1 hl hD hrc hD0 hsz ha hm1 hlb => ?_)
  subst hrc
  refine (kids_c (l:=l) (D:=D) (ntc:=60) (p:=32) Tryz.func44 (by omega) (by omega) rfl rfl rfl (by decide) ⟨_,ha⟩ q hb0 (fun i K' mem gr => K'=K ∧ OutS bt bT bO bM (xs ++ partP (treF T) n el.r.abs q i) mem gr) (fun _ _ _ _ => False) ?_ ⟨rfl,Ao,no,co,g,by rw [hg]; simp [partP],rfl,rfl⟩ (hKu.off (by omega)) hm1 (hlb _ (by simp))).mono ?_
  ·intro i hi hce E hE hE2 K' mem gr a w ⟨hK',hO⟩ hoff hF
   subst hK'
   obtain ⟨A1,n1,c1,g1,hg1,rfl,rfl⟩:=hO
   obtain ⟨hc1,hc2,hc3⟩:=ch_is hb0 hce (i:Nat)
   have hpl:=part_len (n:=n) hTk hb0 hso hce hi
   obtain ⟨c,hc⟩:=eqv (chV q (i:Nat))
   rw [← hc] at hc1 hc2 hc3 hF hpl
   simp only [labAV] at hF
   have hn1:n1 ≤ 1000000:=by
    have:=congrArg List.length hg1
    rw [firsts_len,List.length_append] at this
    omega
   refine rrg hB TA_ok [7,5,1,2,3] [7,901,900,77] [] hF fun X6 a0 w1 hF => ?_
   have hF:=hF.fz (tm':=[(7,.ep (some ⟨(X6 0).b,0,none⟩) 0 0 0 [.int .i64 c.len,.int .u64 c.bits]),(5,.ep (some ⟨(X1 6).b,0,none⟩) 0 0 0 (recC el)),(1,tEp bt bT),(2,.ptr 901 bO 0),(3,.ptr 900 bM 0)]) ⟨rfl,fz_ptr,rfl,fz_id,rfl,fz_id,rfl,fz_id,rfl,fz_id,trivial⟩
   refine ⟨60,_,_,_,hF,fun w2 hF => ?_⟩
   obtain ⟨ei,hei⟩:=eqv ((getA c T).getD zRA)
   obtain ⟨hi2,hhi2⟩:=eqv ((getA c T).isSome)
   have OL:=fun (Kx:Kn) (hx:∀ m w,Kx.p m w → K'.p m w) => look_tt (K:=Kx) (el:=recV) (b:=bT) (L:=T) (l:=c) (fun m w h => hKT m w (hx m w h)) (labOk_is hc1 hc2) mapr_und zRA_run zRA_ok (v:=recV ei) (by rw [← hei]) hhi2.symm
   simp only [labAV] at OL
   refine wpIn_block (wpIn_seq (wpIn_seq (rrg hB TA_ok [9,8,7,5,1,2,3] [8,901,900,77] [(2,.r fun _ => .tup [recV ei,.bool (.v hi2)])] hF (fun X7 a0 w1 hF => ?_) (hob:=?hob7))))
   case hob7 =>
    intro X; subst hB
    repeat (first | exact trivial | refine ⟨rfl,?_⟩ | refine ⟨OL _ (fun m w h => h.1.1.1),?_⟩)
   have hF:=hF.fz (tm':=[(9,.bool (.v hi2)),(8,.ep (some ⟨(X7 6).b,0,none⟩) 0 0 0 (recC ei)),(7,.ep (some ⟨(X6 0).b,0,none⟩) 0 0 0 [.int .i64 c.len,.int .u64 c.bits]),(5,.ep (some ⟨(X1 6).b,0,none⟩) 0 0 0 (recC el)),(1,tEp bt bT),(2,.ptr 901 bO 0),(3,.ptr 900 bM 0)]) ⟨rfl,fz_id,rfl,fz_ptr,rfl,fz_id,rfl,fz_id,rfl,fz_id,rfl,fz_id,rfl,fz_id,trivial⟩
   have hfz:frozP (treF T) c=(if (!hi2)=true then true else decide (ei.r.kd=5)):=by
    unfold frozP treF
    cases hg2:getA c T with
    | none => rw [hg2] at hhi2; rw [hhi2]; rfl
    | some x => rw [hg2] at hhi2 hei; rw [hhi2,hei]; rfl
   refine wpIn_seq (rrg hB TA_ok [50,7,5,1,2,3] [901,900,77] [] hF fun X8 a0 w1 hF => ?_)
   refine rtest_ok hF rfl (fun hb hF => ?_) (fun hb hF => ?_)
   ·have h9:(if decide (el.r.kd=3)=true then (if (!hi2)=true then true else decide (ei.r.kd=5)) else false)=true:=by subst hB; exact hb
    rw [← hfz] at h9
    have hkid:kidP (treF T) (meansP (treF T) n) el.r.abs c=covL c (firsts el.r.f el.r.n):=by
     unfold kidP
     refine if_pos ⟨?_,?_⟩
     ·show el.r.kd=3
      by_cases h3:el.r.kd=3
      ·exact h3
      rw [decide_eq_false h3] at h9; cases h9
     split at h9
     ·exact h9
     cases h9
    have SCV:=tcov_s el.A el.r.n el.c el.r.f (by omega) c hc2 he2
    have hcl:=cov_len c (firsts el.r.f el.r.n)
    rw [firsts_len] at hcl
    obtain ⟨CV,hCV⟩:=eqv (covL c (firsts el.r.f el.r.n))
    rw [← hCV] at SCV hkid hcl
    obtain ⟨cf,hcf⟩:=eqv (itF CV)
    obtain ⟨cn,hcn⟩:=eqv (CV.length)
    rw [← hcf,← hcn] at SCV
    rw [← hcn] at hcl
    simp only [rowI,labAV] at SCV
    refine wpIn_seq (rdrg hB TA_ok [] [901,900,77] [(4,.r fun x => .sl none (x.A 0) cn (x.c 0) 2 (fun i => itC (cf i)))] hF (fun X9 a0 w1 hF => ?_) (hob:=?hob))
    case hob =>
     intro X; subst hB
     repeat (first | exact trivial | refine ⟨⟨fun _ _ => by kernel_rfl,SCV⟩,?_⟩ | refine ⟨⟨rfl,rfl,rfl⟩,?_⟩ | refine ⟨rfl,?_⟩ | refine ⟨⟨show n1 + cn ≤ maxLen by omega,show (n1 + cn) * _ ≤ _ by omega⟩,?_⟩)
    have hF:=hF.memS (cells':=[.sl (some 77) ((X9 5).A 0) (n1 + cn) ((X9 5).c 0) 2 (fun i => itC (appG n1 g1 cf i))]) (by subst hB; exact ⟨app_sim,trivial⟩)
    have hF:=hF.regr (n':=n1 + cn) (by subst hB; rfl)
    refine wpIn_exit ?_
    refine ⟨K',_,_,⟨rfl,_,n1 + cn,_,appG n1 g1 cf,?_,rfl,rfl⟩,hoff,hF.bare⟩
    rw [firsts_app,hg1,part_succ hi,← hc,hkid,List.append_assoc,hcn,hcf,firsts_itF']
   have h9:(if decide (el.r.kd=3)=true then (if (!hi2)=true then true else decide (ei.r.kd=5)) else false)=false:=by subst hB; exact hb
   rw [← hfz] at h9
   have hkid:kidP (treF T) (meansP (treF T) n) el.r.abs c=meansP (treF T) n c:=by
    unfold kidP
    refine if_neg ?_
    rintro ⟨h1,h2⟩
    rw [decide_eq_true (show el.r.kd=3 from h1),h2] at h9
    cases h9
   have hst:=hF.slot 1 rfl
   refine wpIn_skip (rreg ?_)
   refine lpr 0 2 hB TA_ok [57,58,7,5,1,2,3] [901,900,77] [] hF (fun X10 a0 w1 hF => ?_)
   have hst:=hF.slot 1 rfl
   refine man_inl rfl rfl rfl rfl hF rfl rfl enters44 (fun t ht => by injection ht with ht; subst ht; decide) (fun hmm haa hargs => ?_)
   have hself:∀ tmX rcX tmY,(((KL K' tmX l rcX D .busy none).and E).and (okT tmY)).self:=fun tmX rcX tmY => and_self' (and_self' (KL_self hKs tmX l rcX D .busy none) hE) (okT_self tmY)
   refine Calls.mono (ih c hc2 hc1 (by omega) _ ?hx ?hs w1 (xs ++ partP (treF T) n el.r.abs q i) _ _ ⟨A1,n1,c1,g1,hg1,rfl,rfl⟩ (by rw [List.length_append]; omega) hmm hst.2) ?_
   case hx => exact fun m w h => hKT m w h.1.1.1.1
   case hs => exact hself _ _ _
   rintro e w' ⟨v,rfl,rfl,mem',gr',hO',hm'⟩
   refine ⟨.tup [],rfl,mem',gr',_,.tup _ (fun u hu => by cases hu),hm',fun a' hF' => wpList_nil ?_⟩
   obtain ⟨A2,n2,c2,g2,hg2,rfl,rfl⟩:=hO'
   exact ⟨K',_,_,⟨rfl,A2,n2,c2,g2,by rw [hg2,part_succ hi,← hc,hkid,List.append_assoc],rfl,rfl⟩,hoff,hF'.bare⟩
  rintro e w3 ⟨v,rfl,K',mem',gr',ho,hh⟩
  rcases hh with ⟨hm',rfl,hO'⟩ | ⟨c,hx,_⟩
  ·refine ⟨v,rfl,K',mem',gr',ho,.inl ⟨hm',fun a' w' hF' => ?_⟩⟩
   obtain ⟨A',n',c',g',hg',rfl,rfl⟩:=hO'
   refine (retIM hB TA_ok [D] hF' (fun D' hD' => ?_) (fun w'' hm'' _ => ⟨_,rfl,rfl,_,_,⟨A',n',c',g',?_,rfl,rfl⟩,hm''⟩)).2
   ·simp only [List.mem_singleton] at hD'
    subst hD'
    exact ⟨hKu.off (by omega),hD0⟩
   rw [hg',means_in hso hnk]
  exact hx.elim
theorem SpecM.x {P:Program} {f:FuncId} {args:List AV} {pre:List (Nat × Blk)} {res:Atom → CR} {J:Nat → Atom → Kn} (h:SpecM P f args pre none noK res J):SpecX P f args pre res:=by
 intro m w h1 h2 h3
 refine (h m w h1 h2 h3 trivial).mono ?_
 rintro e w' ⟨x,rfl,g1,g2,_,_⟩
 exact ⟨x,rfl,g1,g2.plain⟩
theorem sim_nils {g g':Option Nat} {k k':Nat} {f f':Nat → List AV}:Sim (.sl g none 0 0 k f) (.sl g' none 0 0 k' f'):=
 ⟨rfl,fun _ => rfl,fun _ _ _ => .sl _ _ _ _ _ _ (Nat.le_refl _) (Nat.zero_le _) (fun i hi => absurd hi (Nat.not_lt_zero _)) (fun i hi => absurd hi (Nat.not_lt_zero _)) (fun i hi => absurd hi (Nat.not_lt_zero _)) (fun i hi => absurd hi (Nat.not_lt_zero _)) (fun i hi => absurd hi (Nat.not_lt_zero _))⟩
def RwN (n:Nat) (f:Nat → RowA):Prop:=∀ i,i < n → (f i).x.r.n ≤ 1000000 ∧ LabOk (f i).lab ∧ U64 (f i).lab.bits ∧ U64 (f i).x.r.nx.bits
def RwK (n:Nat) (f:Nat → RowA):Prop:=∀ i,i < n → ∀ t,t < (f i).x.r.n → U64 ((f i).x.r.f t).key
def isRw (l:List Rw):Bool:=(newS l).isSome
theorem tis_s (A:Option Addr) (n c:Nat) (f:Nat → RowA) (hn:n ≤ maxLen) (hN:RwN n f):Spec Tryz.prog 42 [rowsV A n c f] (fun _ => .bool (.v (isRw (rwsA f n)))):=by
 intro m w hm hargs
 have hmx:maxLen=9223372036854775807:=rfl
 have SN:=(new_m A n c f hn hN).x
 obtain ⟨ir,hir⟩:=eqv (isRw (rwsA f n))
 rw [← hir]
 refine en 12 hm hargs Tryz.func42 fun B hB a0 hF => ?_
 refine wp_seq (rg hB TA_ok [0] [] [] hF fun X0 a0 w1 hF => ?_)
 unfold isRw at hir
 cases hs:newS (rwsA f n) with
 | none =>
  rw [hs] at SN hir
  have O1:=SN
  refine wp_seq (rg hB TA_ok [4] [] [(1,.x fun y => ⟨.tup [.nilp,.int .i64 1],[],[]⟩)] hF fun X1 a0 w1 hF => ?_)
  refine wp_seq (rg hB TA_ok [2] [] [] hF fun X2 a0 w1 hF => ?_)
  exact wp_ret (rsp hB TA_ok hF ⟨0,fun _ => none,fun _ => 0,fun _ => .empty⟩ (he:=by subst hB; rw [hir]; rfl)).1
 | some L =>
  rw [hs] at SN hir
  have O1:=SN
  refine wp_seq (rg hB TA_ok [4] [] [(1,.x fun y => ⟨.tup [.ptr 14 y.b 0,.int .i64 0],[],[(14,⟨y.b,90,[.raw (.map (some (y.c 0))),.int .i64 0]⟩)]⟩)] hF fun X1 a0 w1 hF => ?_)
  refine wp_seq (rg hB TA_ok [2] [] [] hF fun X2 a0 w1 hF => ?_)
  exact wp_ret (rsp hB TA_ok hF ⟨0,fun _ => none,fun _ => 0,fun _ => .empty⟩ (he:=by subst hB; rw [hir]; rfl)).1
def treP (l:List Rw):Tre:=fun q => (l.reverse.find? fun w => decide (w.lab=q)).map (·.r)
def itemsP (l:List Rw):List Itm:=if isRw l=true then meansP (treP l) 65 ⟨0,0⟩ else []
def itemsE (l:List Rw):Int:=if isRw l=true then 0 else 1
theorem set_sub {α : Type} {l:Lab} {x:α} {p:Lab × α}:∀ {L:List (Lab × α)},p ∈ setA l x L → p=(l,x) ∨ p ∈ L
 | [],h => by simp [setA] at h; exact .inl h
 | y :: L,h => by
  unfold setA at h
  split at h
  ·rcases List.mem_cons.1 h with h | h
   ·exact .inl h
   exact .inr (List.mem_cons_of_mem _ h)
  rcases List.mem_cons.1 h with h | h
  ·exact .inr (by rw [h]; exact List.mem_cons_self ..)
  exact (set_sub h).imp id (List.mem_cons_of_mem _)
theorem tre_eq (f:Nat → RowA):∀ n,treF (treeA f n)=treP (rwsA f n)
 | 0 => rfl
 | n + 1 => by
  funext q
  have ih:=congrFun (tre_eq f n) q
  unfold treF treP at ih ⊢
  unfold treeA
  rw [getA_set,show rwsA f (n + 1)=rwsA f n ++ [RowA.abs (f n)] from listA_succ _ _ _,List.reverse_append,List.reverse_singleton,List.singleton_append,List.find?_cons]
  by_cases h:(f n).lab=q
  ·rw [if_pos h]
   simp [RowA.abs,h]
  rw [if_neg h]
  rw [show decide ((RowA.abs (f n)).lab=q)=false from decide_eq_false h]
  exact ih
theorem newL_is:∀ {l:List Rw} {L L':Shf},newL l L=some L' → ∀ w ∈ l,isL w.lab=true ∧ isR w.r=true
 | [],_,_,_,w,hw => by cases hw
 | v :: l,L,L',h,w,hw => by
  unfold newL at h
  split at h
  ·cases h
  rename_i hn
  simp only [Bool.or_eq_true,Bool.not_eq_true',not_or,Bool.not_eq_false] at hn
  rcases List.mem_cons.1 hw with rfl | hw
  ·exact ⟨hn.1.2,hn.2⟩
  exact newL_is h w hw
theorem newS_is {l:List Rw} (h:isRw l=true):l.length ≤ 2000 ∧ ∀ w ∈ l,isL w.lab=true ∧ isR w.r=true:=by
 unfold isRw newS at h
 split at h
 ·cases h
 obtain ⟨L,hL⟩:=Option.isSome_iff_exists.1 h
 exact ⟨by omega,newL_is hL⟩
theorem treeA_mem (f:Nat → RowA):∀ (n:Nat) (p:Lab × RA),p ∈ treeA f n → ∃ i,i < n ∧ p=((f i).lab,(f i).x)
 | 0,p,h => by cases h
 | n + 1,p,h => by
  unfold treeA at h
  have h':=set_sub h
  rcases h' with h' | h'
  ·exact ⟨n,by omega,h'⟩
  obtain ⟨i,hi,e⟩:=treeA_mem f n p h'
  exact ⟨i,by omega,e⟩
theorem treeA_ok {f:Nat → RowA} {n:Nat} (hN:RwN n f) (hK:RwK n f) (h:isRw (rwsA f n)=true):TreA (treeA f n):=by
 obtain ⟨_,h2⟩:=newS_is h
 refine ⟨fun p hp => ?_,fun p hp => ?_⟩
 ·obtain ⟨i,hi,rfl⟩:=treeA_mem f n p hp
  exact ⟨(hN i hi).2.1,(hN i hi).2.2.1⟩
 obtain ⟨i,hi,rfl⟩:=treeA_mem f n p hp
 have hm:RowA.abs (f i) ∈ rwsA f n:=by
  simp only [rwsA,listA,List.mem_map,List.mem_range]
  exact ⟨i,hi,rfl⟩
 have h3:=(h2 _ hm).2
 have h4:isR (f i).x.r.abs=true:=h3
 rw [isR_abs] at h4
 exact ⟨(isRF_kind h4).2.2.1,hK i hi⟩
theorem items_s (A:Option Addr) (n c:Nat) (f:Nat → RowA) (hn:n ≤ 100000) (hN:RwN n f) (hK:RwK n f):Spec Tryz.prog 18 [rowsV A n c f] (fun y => .tup [rowI (y.A 0) (itemsP (rwsA f n)).length (y.c 0) (itF (itemsP (rwsA f n))),.int .i64 (itemsE (rwsA f n))]):=by
 intro m w hm hargs
 have hmx:maxLen=9223372036854775807:=rfl
 have SI:=tis_s A n c f (by omega) hN
 obtain ⟨ir,hir⟩:=eqv (isRw (rwsA f n))
 rw [← hir] at SI
 have O1:=SI
 refine en 17 hm hargs Tryz.func18 fun B hB a0 hF => ?_
 refine wp_seq (rg hB TA_ok [0] [] [] hF fun X0 a0 w1 hF => ?_)
 refine wp_seq (wp_seq (rg hB TA_ok [9,0] [] [(1,.r fun _ => .bool (.v ir))] hF fun X1 a0 w1 hF => ?_))
 apply test_ok hF rfl<;>intro hb hF
 ·have hif:isRw (rwsA f n)=false:=by rw [← hir]; subst hB; cases ir<;>first | rfl | cases hb
  refine wp_seq (rg hB TA_ok [2,3] [2] [] hF fun X2 a0 w1 hF => ?_)
  refine wp_ret (rsi hB TA_ok hF ⟨0,fun _ => none,fun _ => 0,fun _ => .empty⟩ (he:=?_))
  subst hB
  unfold itemsP itemsE rowI
  rw [hif]
  exact Sim.tup ⟨sim_nils,zr,trivial⟩
 have hit:isRw (rwsA f n)=true:=by rw [← hir]; subst hB; cases ir<;>first | rfl | cases hb
 have hTA:=treeA_ok hN hK hit
 have hTl:(treeA f n).length ≤ 2000:=by
  have h1:=(newS_is hit).1
  rw [listA_len] at h1
  exact Nat.le_trans (treeA_len f n) h1
 refine wp_skip (wp_seq (wp_region_lit ?_))
 refine lpr 0 1 hB TA_ok [10] [] [] hF (fun X2 a0 w1 hF => ?_)
 refine man_callM rfl rfl rfl rfl hF rfl rfl enters43 (tof_m A n c f hn fun i hi => (hN i hi).2.1) (fun _ _ h => h) (fun b hb => by cases hb) (zl) (fun e he => by cases he) rfl rfl (fun y => lmK recV (y.c 0) (treeA f n)) (fun _ _ _ _ _ _ _ _ _ h => h.2) ?_
 intro y a0 w1 hF
 obtain ⟨bT,hbT⟩:=eqv (y.c 0)
 rw [← hbT] at hF
 refine lnd 2 hB TA_ok [4] [4] [] hF (fun X3 a0 w1 hF => ?_)
 have hF:=hF.fz (tm':=[(4,tEp (X3 2).b bT)]) ⟨rfl,fz_ptr,trivial⟩
 refine wp_seq (rg hB TA_ok [5,4] [5] [] hF fun X4 a0 w1 hF => ?_)
 refine wp_seq (rg hB TA_ok [6,5,4] [6,5] [] hF fun X5 a0 w1 hF => ?_)
 refine wp_seq (rg hB TA_ok [6,5] [6,5] [] hF fun X6 a0 w1 hF => ?_)
 obtain ⟨bt,hbt⟩:=eqv ((X3 2).b)
 obtain ⟨bO,hbO⟩:=eqv ((X4 0).b)
 obtain ⟨bM,hbM⟩:=eqv ((X5 0).b)
 have hF:=hF.rekey (key':=900) (tm':=[(6,.ptr 900 (X5 0).b 0),(5,.ptr 5 (X4 0).b 0)]) ⟨rfl,fz_key,rfl,fz_id,trivial⟩
 have hF:=hF.memS (cells':=[.fn 44 [] [tEp (X3 2).b bT,.ptr 901 (X4 0).b 0,.ptr 900 (X5 0).b 0]]) ⟨Sim.fn trivial ⟨zr,Sim.ptr,Sim.ptr,trivial⟩,trivial⟩
 have hF:=hF.keep [6,5] [5,900]
 have hF:=hF.rekey (key':=901) (tm':=[(6,.ptr 900 (X5 0).b 0),(5,.ptr 901 (X4 0).b 0)]) ⟨rfl,fz_id,rfl,fz_key,trivial⟩
 have hF:=hF.fresh (Below.refl _ _) 77 (t:=⟨none,0,0,2,63⟩) (by decide) (Own.nil _ _ _ _ none)
 have hF:=Fits.memS (cells':=[.sl (some 77) none 0 0 2 (fun i => itC ((fun _ => zeroItm) i))]) hF ⟨sim_nils,trivial⟩
 refine wp_seq (wp_region_lit ?_)
 refine lpr 0 2 hB TA_ok [13,14,5,6] [901,900,77] [] hF (fun X7 a0 w1 hF => ?_)
 refine man_inl rfl rfl rfl rfl hF rfl rfl enters44 (fun t ht => by injection ht with ht; subst ht; decide) (fun hmm haa hargs => ?_)
 have htE:=hargs (tEp (X3 2).b bT) (by simp)
 have hself:∀ tm,((lmK recV bT (treeA f n)).and (okT tm)).self:=fun tm => and_self' lmK_self (okT_self tm)
 refine Calls.mono (means_c (treeA f n) hTA hTl 65 ⟨0,0⟩ ⟨by decide,by decide⟩ (by decide) (by decide) _ ?hx ?hs w1 [] _ _ ⟨none,0,0,fun _ => zeroItm,rfl,rfl,rfl⟩ ?hl hmm htE) ?_
 case hx => exact fun m w h => h.1
 case hs => exact hself _
 case hl =>
  have:=cnt_le ((treeA f n).map (·.1)) ⟨0,0⟩
  rw [List.length_map] at this
  simp only [List.length_nil]
  omega
 rintro e w' ⟨v,rfl,rfl,mem',gr',hO',hm'⟩
 refine ⟨.tup [],rfl,mem',gr',_,.tup _ (fun u hu => by cases hu),hm',fun a' hF => wpList_nil ?_⟩
 obtain ⟨A2,n2,c2,g2,hg2,rfl,rfl⟩:=hO'
 refine wp_seq (rg hB TA_ok [2,3] [901,77] [] hF fun X8 a0 w1 hF => ?_)
 refine wp_ret (rsi hB TA_ok hF ⟨0,fun _ => A2,fun _ => c2,fun _ => .empty⟩ (he:=?_))
 subst hB
 have hI:itemsP (rwsA f n)=firsts g2 n2:=by
  unfold itemsP
  rw [if_pos hit,hg2,List.nil_append,tre_eq]
 have hE:itemsE (rwsA f n)=0:=by unfold itemsE; rw [if_pos hit]
 rw [hI,hE]
 unfold rowI
 exact Sim.tup ⟨Sim.resl (by rw [firsts_len]) (fun t ht => by rw [firsts_len] at ht; rw [firsts_get _ _ t ht]),zr,trivial⟩
structure OldB (B:Nat) (w w':World):Prop where
 os:w'.os=w.os
 tape:w'.tape=w.tape
 output:w'.output=w.output
 size:B ≤ w'.heap.size
 block:∀ k,k < B → w'.heap[k]? = w.heap[k]?
def CompE (B n:Nat) (f:Nat → Itm) (w:World) (e:Ending) (w':World):Prop:=∃ A m c,e = .returned (.slice A m c) ∧ decide (m < n)=dupB n f ∧ m ≤ n ∧ OldB B w w'
def cutW (w:World) (B:Nat):World:={ w with heap:=w.heap.extract 0 B }
theorem cut_size {w:World} {B:Nat} (h:B ≤ w.heap.size):(cutW w B).heap.size=B:=by
 simp [cutW]; omega
theorem cut_at {w:World} {B k:Nat} (hk:k < B):(cutW w B).heap[k]? = w.heap[k]?:=by
 simp [cutW,Array.getElem?_extract]
 intro h; omega
theorem old_of {w w':World} {B:Nat} (hB:B ≤ w.heap.size) {S:Nat → Prop} (hS:∀ k,¬ S k) (h:Chg S (cutW w B) w'):OldB B w w':=
 ⟨h.os,h.tape,h.output,by have:=h.size; rwa [cut_size hB] at this,fun k hk => by
  have:=h.block k (by rw [cut_size hB]; exact hk) (hS k)
  rw [this,cut_at hk]⟩
abbrev eqF:AV:=.fn 26 [] []
theorem item_cells (x:Itm):∀ v ∈ itC x,v.one=true:=by
 intro v hv
 simp only [itC,List.mem_cons,List.not_mem_nil,or_false] at hv
 rcases hv with rfl | rfl<;>rfl
theorem sub_ok {m:Nat → Nat → Prop} {w:World} {g:Option Nat} {A:Option Addr} {n c k i:Nat} {f:Nat → List AV} (h:Ok m w (.sl g A n c k f)) (hi:i ≤ n):Ok m w (.sl none (adrOf A c i k) (n - i) (c - i) k (fun t => f (i + t))):=by
 cases h with
 | sl _ _ _ _ _ _ h1 h2 h3 h4 h5 h6 h7 =>
  have hA:∀ t,t < n - i → ∃ b off,A=some ⟨b,off,none⟩ ∧ adrOf A c i k=some ⟨b,off + i * k,none⟩:=by
   intro t ht
   obtain ⟨b,off,hA⟩:=h4 (i + t) (by omega)
   refine ⟨b,off,hA,?_⟩
   unfold adrOf
   rw [if_neg (by omega),hA]
   simp [Addr.add]
  refine .sl _ _ _ _ _ _ (by omega) (by omega) (fun t ht => h3 _ (by omega)) (fun t ht => ?_) (fun t ht j u hu => ?_) (fun t ht => h6 _ (by omega)) (fun t ht => h7 _ (by omega))
  ·obtain ⟨b,off,_,h⟩:=hA t ht
   exact ⟨b,_,h⟩
  obtain ⟨b,off,hA1,hA2⟩:=hA t ht
  obtain ⟨b',off',e1,e2,e3⟩:=h5 (i + t) (by omega) j u hu
  rw [hA1] at e1
  injection e1 with e1; injection e1 with e4 e5
  subst e4; subst e5
  have:off + i * k + (t * k + j)=off + ((i + t) * k + j):=by rw [Nat.add_mul]; omega
  exact ⟨b,_,hA2,by rw [this]; exact e2,by rw [this]; exact e3⟩
section
variable {a:Act} {m:Nat → Nat → Prop} {w:World}
theorem hl_nil:∀ x,(look ([]:List (Nat × AV)) x).known=true → a.tmps[x]? = some (look ([]:List (Nat × AV)) x).den ∧ Ok m w (look ([]:List (Nat × AV)) x):=fun x h => by cases h
theorem hl_cons {k:Nat} {v:AV} {l:List (Nat × AV)} (h1:a.tmps[k]? = some v.den ∧ Ok m w v) (h2:∀ x,(look l x).known=true → a.tmps[x]? = some (look l x).den ∧ Ok m w (look l x)):∀ x,(look ((k,v) :: l) x).known=true → a.tmps[x]? = some (look ((k,v) :: l) x).den ∧ Ok m w (look ((k,v) :: l) x):=by
 intro x hx
 rw [look_cons] at hx ⊢
 by_cases h:k=x
 ·subst h; rw [if_pos rfl]; exact h1
 rw [if_neg h] at hx ⊢; exact h2 x hx
end
theorem zeroCells_flat {cs:Array Value} {zc:List AV} (h:cs.toList=zc.map AV.den):∀ m,(Builtin.zeroCells cs m).toList=rowFlat (fun _ => zc) m
 | 0 => by simp [Builtin.zeroCells,rowFlat]
 | m + 1 => by
  have ih:=zeroCells_flat h m
  have hs:cs.size=zc.length:=by rw [← Array.length_toList,h,List.length_map]
  rw [rowFlat_succ,← ih,← h]
  unfold Builtin.zeroCells
  rw [Array.toList_map,Array.toList_map,Array.toList_range,Array.toList_range,Nat.add_mul,Nat.one_mul,List.range_add,List.map_append]
  congr 1
  apply List.ext_getElem
  ·simp
  intro i h1 h2
  have hi:i < cs.size:=by simpa using h2
  simp [Nat.mod_eq_of_lt hi,hi]
theorem man_rclear {m0:Nat → Nat → Prop} {w0 w:World} {S:Nat → Prop} {ds:List Deferred} {K:Kn} {nt key:Nat} {l:List (Nat × AV)} {mem:List (Nat × Blk)} {a:Act} {P:Program} {Q:Exit → Act → World → Prop} {ops:Array Oper} {L rest:List Oper} {o:Oper} {cl:Call} {x:Operand} {A:Option Addr} {n c k e t bytes lo:Nat} {f:Nat → List AV} {g:Option Nat} {cells:Nat → List AV} {z:Value} {zc:List AV} (hL:L=o :: rest) (hg:o.guard=none) (hop:o.op = .call cl) (hc1:cl.callee = .builtin .clear) (hc2:cl.args = #[x]) (hc3:cl.argTypes = #[t]) (hdst:o.dst=none)
  (h:Fits ⟨m0,w0,S,ds,K⟩ ⟨nt,l,[],mem,[(key,⟨A,n,c,k,e⟩)]⟩ a w) (hx:val ⟨nt,l,[],mem,[(key,⟨A,n,c,k,e⟩)]⟩ [] x = .sl none (adrOf A c lo k) (n - lo) (c - lo) k cells) (E:ElemTy P t e k bytes z) (hz:z.cells.toList=zc.map AV.den) (hz1:∀ v ∈ zc,v.one=true) (hzl:zc.length=k) {m:Nat → Nat → Prop} (hrow:Ok m w (.sl g A n c k f)) (hk:∀ j,j < n → (f j).length=k) (hlo:lo < n)
  (Kc:∀ w',Own w' w0.heap.size e k (.slice A n c) n (rowFlat (appC lo f (fun _ => zc)) n) → Chg (fun b => ownB (.slice A n c)=some b) w w' → wpList P ops Q rest a w'):wpList P ops Q L a w:=by
 have hO:=gr_own h hrow
 have hflen:=rowFlat_len hk
 have hzf:=zeroCells_flat hz (n - lo)
 have hzfl:(rowFlat (fun _ => zc) (n - lo)).length=(n - lo) * k:=rowFlat_len (fun _ _ => hzl)
 have hmul:lo * k + (n - lo) * k=n * k:=by rw [← Nat.add_mul]; congr 1; omega
 obtain ⟨b,cur,hA,hb,hcs,hnc,hob,hO2,hchg⟩:=own_set hO (o:=lo * k) (vs:=rowFlat (fun _ => zc) (n - lo)) (by rw [hzfl]; omega) (by omega)
 have hxv:=(val_ok h (q:=[]) (fun _ h => by cases h) (x:=x) (by rw [hx]; rfl)).1
 rw [hx] at hxv
 have hcn:n ≤ c:=by cases hrow with | sl _ _ _ _ _ _ h1 => exact h1
 have hden:a.eval x = .slice (some ⟨b,lo * k,none⟩) (n - lo) (c - lo):=by
  rw [hxv]
  simp only [AV.den]
  unfold adrOf
  rw [if_neg (by omega),hA]
  simp [Addr.add]
  try exact fun h => h.symm
 have hrun:=run_clear_in (P:=P) (w:=w) E o.type hb (o:=lo * k) (len:=n - lo) (cap:=c - lo) (by rw [hcs]; omega) (fun v hv => by
  rw [hz] at hv
  obtain ⟨y,hy,rfl⟩:=List.mem_map.1 hv
  exact one_of (hz1 y hy))
 rw [hzf] at hrun
 refine man_op hL hg ?_
 unfold Oper.wp
 have e1:(execOp a.eval o).run P w = .ok (.value (.tuple #[])) (w.setRow b (cur.toList.take (lo * k) ++ rowFlat (fun _ => zc) (n - lo) ++ cur.toList.drop (lo * k + (n - lo) * k)).toArray):=by
  simp [execOp,hop,hc1,hc2,hc3,resolve,invoke,builtin,hden,hrun,Result.andThen]
 rw [e1]
 simp only [Oper.upon]
 rw [hdst]
 rw [hzfl] at hO2 hchg
 refine Kc _ ?_ hchg
 have hfl:rowFlat (appC lo f (fun _ => zc)) n=(rowFlat f n).take (lo * k) ++ rowFlat (fun _ => zc) (n - lo) ++ (rowFlat f n).drop (lo * k + (n - lo) * k):=by
  rw [show rowFlat (appC lo f (fun _ => zc)) n=rowFlat (appC lo f (fun _ => zc)) (lo + (n - lo)) by congr 1; omega,rowFlat_app,List.drop_eq_nil_of_le (by rw [hflen]; omega),List.append_nil]
  congr 1
  have:=rowFlat_app f (fun i => f (lo + i)) lo (n - lo)
  have e2:appC lo f (fun i => f (lo + i))=f:=by
   funext i
   unfold appC
   split
   ·rfl
   show f (lo + (i - lo))=f i
   rw [show lo + (i - lo)=i by omega]
  rw [e2,show lo + (n - lo)=n by omega] at this
  rw [this,List.take_append_of_le_length (by rw [rowFlat_len (fun i hi => hk i (by omega))]; omega),List.take_of_length_le (by rw [rowFlat_len (fun i hi => hk i (by omega))]; omega)]
 rw [hfl]
 exact hO2
theorem compact_c {B n c:Nat} {A:Option Addr} {f:Nat → Itm} {w:World} (hO:Own w B 63 2 (.slice A n c) n (rowFlat (fun t => itC (f t)) n)) (hBw:B ≤ w.heap.size) (hn:n ≤ 1000000) (hs:∀ i,i < n → (f i).val.size ≤ maxLen) :
  Calls Tryz.prog 24 ([.sl (some 77) A n c 2 (fun t => itC (f t)),eqF].map AV.den).toArray w (CompE B n f w):=by
 have hmx:maxLen=9223372036854775807:=rfl
 obtain ⟨wB,hwB⟩:=eqv (cutW w B)
 have hsz:wB.heap.size=B:=by rw [hwB]; exact cut_size hBw
 have hitok:∀ (m:Nat → Nat → Prop) (w:World) (x:Itm),x.val.size ≤ maxLen → ∀ v ∈ itC x,v.one=true ∧ Ok m w v:=fun m w x hx v hv => by
  simp only [itC,List.mem_cons,List.not_mem_nil,or_false] at hv
  rcases hv with rfl | rfl
  ·exact ⟨rfl,.int _ _⟩
  exact ⟨rfl,.str _ hx⟩
 have hgrm:∀ b,ownB (.slice A n c)=some b → ∀ o,o < n * 2 → ¬ mG (fun _ _ => False) [] [(77,⟨A,n,c,2,63⟩)] b o:=by
  intro b hb o ho hm
  rcases hm with hm | ⟨k,e,he,_⟩ | ⟨k,t',ht,_,hle⟩
  ·exact hm
  ·cases he
  simp only [lookM] at ht
  split at ht
  ·injection ht with ht; subst ht; simp only at hle; omega
  cases ht
 have hrow:Ok (mG (fun _ _ => False) [] [(77,⟨A,n,c,2,63⟩)]) w (.sl (some 77) A n c 2 (fun t => itC (f t))):=
  own_known2 hO (fun _ _ => rfl) hgrm (fun i hi => hitok _ _ _ (hs i hi)) _
 have hmem:Mem (fun _ _ => False) wB (fun _ => False) noK [] [(77,⟨A,n,c,2,63⟩)] w:=by
  refine ⟨rfl,rfl,(fun t ht => by cases ht),(fun t p v he => by cases he),(fun k e he => by cases he),(fun k k' e e' he => by cases he),fun k t ht => ?_,(fun k t k' e _ he => by cases he),fun k t k' t' b ht ht' hne => ?_,?_,fun b o h => h.elim,trivial⟩
  ·simp only [lookM] at ht
   split at ht
   ·injection ht with ht; subst ht
    exact ⟨Nat.succ_pos 1,_,by show Own w wB.heap.size _ _ _ _ _; rw [hsz]; exact hO⟩
   cases ht
  ·simp only [lookM] at ht ht'
   split at ht
   ·split at ht'
    ·rename_i h1 h2
     exact absurd (by simp at h1 h2; omega) hne
    cases ht'
   cases ht
  rw [hwB]
  exact ⟨rfl,rfl,rfl,by show (cutW w B).heap.size ≤ _; rw [cut_size hBw]; exact hBw,fun k hk _ => by rw [cut_at (by rw [cut_size hBw] at hk; exact hk)]⟩
 have hargs:∀ v ∈ [AV.sl (some 77) A n c 2 (fun t => itC (f t)),eqF],Ok (mT (fun _ _ => False) [] [(77,⟨A,n,c,2,63⟩)]) w v:=by
  intro v hv
  simp only [List.mem_cons,List.not_mem_nil,or_false] at hv
  rcases hv with rfl | rfl
  ·exact hrow
  exact .fn _ _ _ (fun v hv => by cases hv) (fun v hv => by cases hv)
 refine enI 66 hmem hargs Tryz.func24 fun B' hB a0 hF => ?_
 refine wp_seq (rg hB TA_ok [0,1] [77] [] hF fun X0 a0 w1 hF => ?_)
 refine wp_seq (wp_seq (rg hB TA_ok [10,0,1] [77] [] hF fun X1 a0 w1 hF => ?_))
 apply test_ok hF rfl<;>intro hb hF
 ·have hn2:n < 2:=by
   have:(n:Int) < 2:=by subst hB; simpa [std,sC] using hb
   omega
  refine wp_seq (rg hB TA_ok [4] [77] [] hF fun X2 a0 w1 hF => ?_)
  refine wp_ret (retI (R:=CompE B n f w) hB TA_ok hF (fun hm' _ => ⟨A,n,c,rfl,?_,Nat.le_refl _,old_of hBw (fun _ h => h) (by rw [← hwB]; exact hm'.chg)⟩)).1
  rw [decide_eq_false (Nat.lt_irrefl _)]
  unfold dupB
  rw [show n - 1=0 by omega]
  rfl
 have hn2:¬ n < 2:=by
  have:¬ (n:Int) < 2:=by subst hB; simpa [std,sC] using hb
  omega
 refine wp_skip (wp_seq (wp_seq (rg hB TA_ok [5,0,1] [77] [] hF fun X2 a0 w1 hF => ?_)))
 refine (wp_block (loop_pre (ι:=Nat) (fun p => [(5,.int .i64 (p:Int))]) (fun p => []) (fun p => []) (fun p => 1 ≤ p ∧ p ≤ n ∧ ∀ t,t + 1 < p → ¬ (f (t + 1)).key=(f t).key) (fun p => n - p) 1 ⟨Nat.le_refl _,by omega,fun t ht => absurd ht (by omega)⟩ hF ?_))
 rintro i ⟨hi1,hi,hlt⟩ a0 w1 hF
 refine wp_seq (wp_seq (rg hB TA_ok [15,5,0,1] [77] [] hF fun X3 a0 w1 hF => ?_))
 refine test_ok hF rfl (fun hb2 hF => ?_) (fun hb2 hF => ?_)
 ·have hin:i < n:=by
   have:(i:Int) < (n:Int):=by subst hB; simpa [std,sC] using hb2
   omega
  have e2:std.arith .sub .i64 (i:Int) 1=((i - 1:Nat):Int):=by show IntKind.i64.wrap ((i:Int) - 1)=_; rw [wrap_in (by omega) (by omega)]; omega
  have e3:std.toNat (std.arith .sub .i64 (i:Int) 1)=i - 1:=by rw [e2]; rfl
  have S:=eqkI_s (f i) (f (std.toNat (std.arith .sub .i64 (i:Int) 1)))
  obtain ⟨q,hq⟩:=eqv (decide ((f i).key=(f (i - 1)).key))
  have hq2:decide ((f i).key=(f (std.toNat (std.arith .sub .i64 (i:Int) 1))).key)=q:=by rw [hq,e3]
  rw [hq2] at S
  refine wp_skip (wp_seq (wp_block (wp_seq (drg hB TA_ok [28,5,0,1] [77] [(10,.r fun _ => .bool (.v q))] hF (fun X4 a0 w1 hF => ?_) (hob:=?hob)))))
  case hob =>
   intro X; subst hB
   repeat (first | exact trivial | refine ⟨rfl,?_⟩ | refine ⟨(show (0:Int) ≤ (i:Int) ∧ (i:Int) < (n:Int) by omega),?_⟩ | refine ⟨(show (0:Int) ≤ std.arith .sub .i64 (i:Int) 1 ∧ std.arith .sub .i64 (i:Int) 1 < (n:Int) by rw [e2]; omega),?_⟩ | refine ⟨⟨fun _ _ => by kernel_rfl,S⟩,?_⟩)
  refine test_ok hF rfl (fun hb3 hF => ?_) (fun hb3 hF => ?_)
  ·have hdup:dupB n f=true:=by
    have h5:q=true:=by subst hB; exact hb3
    rw [hq,decide_eq_true_eq] at h5
    unfold dupB
    rw [List.any_eq_true]
    exact ⟨i - 1,List.mem_range.2 (by omega),by rw [show i - 1 + 1=i by omega,decide_eq_true_eq]; exact h5⟩
   refine wp_seq (rg hB TA_ok [6,5,0,1] [77] [] hF (fun X5 a0 w1 hF => ?_))
   obtain ⟨A6,hA6⟩:=eqv (adrOf A c i 2)
   obtain ⟨n6,hn6⟩:=eqv (n - i)
   obtain ⟨c6,hc6⟩:=eqv (c - i)
   have hF:=hF.headS (v':=.sl none A6 n6 c6 2 (fun t => itC (f (i + t)))) (by subst hB; rw [hA6,hn6,hc6]; exact zr) rfl
   refine wp_seq (wp_seq (rg hB TA_ok [7,5,0,6,1] [77] [] hF fun X6 a0 w1 hF => ?_))
   refine wp_block (loop_any (ι:=Nat × Nat × (Nat → Itm)) (fun p a w1 => Fits ⟨fun _ _ => False,wB,fun _ => False,[],noK⟩ ⟨66,[(7,.int .i64 (p.1:Int)),(5,.int .i64 (p.2.1:Int)),(0,.sl (some 77) A n c 2 (fun t => itC (p.2.2 t))),(6,.sl none A6 n6 c6 2 (fun t => itC (p.2.2 (i + t)))),(1,eqF)],[],[],[(77,⟨A,n,c,2,63⟩)]⟩ a w1) (fun p => 1 ≤ p.1 ∧ p.1 ≤ n6 ∧ i ≤ p.2.1 ∧ p.2.1 + 1 ≤ i + p.1 ∧ ∀ t,t < n → (p.2.2 t).val.size ≤ maxLen) (fun p => n6 - p.1) (1,i,f) ⟨Nat.le_refl _,by omega,Nat.le_refl _,Nat.le_refl _,hs⟩ hF ?_)
   rintro ⟨j,k,g⟩ ⟨hj1,hj,hk0,hk1,hsg⟩ a0 w1 hF
   dsimp only at hj1 hj hk0 hk1 hsg hF
   obtain ⟨gs,hgs⟩:∃ x:Nat → Itm,x=fun t => g (i + t):=⟨_,rfl⟩
   have egs:(fun t => itC (g (i + t)))=fun t => itC (gs t):=by rw [hgs]
   rw [egs] at hF
   refine wp_seq (wp_seq (rg hB TA_ok [35,7,5,0,6,1] [77] [] hF fun X7 a0 w1 hF => ?_))
   refine test_ok hF rfl (fun hb4 hF => ?_) (fun hb4 hF => ?_)
   ·have hjn:j < n6:=by
     have:(j:Int) < (n6:Int):=by subst hB; simpa [std,sC] using hb4
     omega
    have ej2:std.arith .sub .i64 (j:Int) 1=((j - 1:Nat):Int):=by show IntKind.i64.wrap ((j:Int) - 1)=_; rw [wrap_in (by omega) (by omega)]; omega
    have ej3:std.toNat (std.arith .sub .i64 (j:Int) 1)=j - 1:=by rw [ej2]; rfl
    have S2:=eqkI_s (gs j) (gs (std.toNat (std.arith .sub .i64 (j:Int) 1)))
    obtain ⟨q2,hq2⟩:=eqv (decide ((gs j).key=(gs (std.toNat (std.arith .sub .i64 (j:Int) 1))).key))
    rw [← hq2] at S2
    refine wp_skip (wp_seq (wp_block (wp_seq (drg hB TA_ok [49,7,5,0,6,1] [77] [(10,.r fun _ => .bool (.v q2))] hF (fun X8 a0 w1 hF => ?_) (hob:=?hob3)))))
    case hob3 =>
     intro X; subst hB
     repeat (first | exact trivial | refine ⟨rfl,?_⟩ | refine ⟨(show (0:Int) ≤ (j:Int) ∧ (j:Int) < (n6:Int) by omega),?_⟩ | refine ⟨(show (0:Int) ≤ std.arith .sub .i64 (j:Int) 1 ∧ std.arith .sub .i64 (j:Int) 1 < (n6:Int) by rw [ej2]; omega),?_⟩ | refine ⟨⟨fun _ _ => by kernel_rfl,S2⟩,?_⟩)
    have eJ:B'.arith .add .i64 (j:Int) 1=((j + 1:Nat):Int):=by subst hB; exact wrap_succ (n:=n6) hjn (by omega)
    refine test_ok hF rfl (fun hb5 hF => ?_) (fun hb5 hF => ?_)
    ·refine wp_seq (wp_region_lit ?_)
     refine lpr 0 7 hB TA_ok [56,55,7,5,0,6,1] [77] [] hF (fun X9 a0 w1 hF => ?_) (hob:=?hob4)
     case hob4 =>
      intro X; subst hB
      repeat (first | exact trivial | refine ⟨rfl,?_⟩ | refine ⟨(show (0:Int) ≤ (j:Int) ∧ (j:Int) < (n6:Int) by omega),?_⟩ | refine ⟨(show (0:Int) ≤ (k:Int) ∧ (k:Int) < (n:Int) by omega),?_⟩)
     have hj6:j < n6:=hjn
     have hF:=hF.headS (v':=.ep A k 2 0 (itC (g k))) (by subst hB; exact zr) rfl
     have hrowk:Ok _ w1 (.sl (some 77) A n c 2 (fun t => itC (g t))):=(hF.slot 0 rfl).2
     have hF:=hF.reslot 55 (.agg (itC (gs j))) rfl (by subst hB; rfl) (.agg _ (fun v hv => (hitok (fun _ _ => False) w1 (gs j) (by rw [hgs]; exact hsg _ (by omega)) v hv).1) (fun v hv => (hitok _ w1 (gs j) (by rw [hgs]; exact hsg _ (by omega)) v hv).2))
     refine man_rstore rfl rfl rfl rfl hF rfl rfl (.inr rfl) TA_ok rfl rfl hrowk (fun _ _ => rfl) (show k < n by omega) (Nat.le_refl 2) (fun w2 hO2 hc2 _ => ?_)
     obtain ⟨g2,hg2⟩:∃ x:Nat → Itm,x=fun t => if t=k then gs j else g t:=⟨_,rfl⟩
     have efl:wrC (fun t => itC (g t)) k 0 (itC (gs j))=fun t => itC (g2 t):=by
      funext t
      rw [hg2]
      unfold wrC
      by_cases h:t=k
      ·simp [h,itC]
      simp [h]
     have hO2:Own w2 wB.heap.size 63 2 (.slice A n c) n (rowFlat (fun t => itC (g2 t)) n):=by rw [← efl]; exact hO2
     have hsg2:∀ t,t < n → (g2 t).val.size ≤ maxLen:=fun t ht => by
      rw [hg2]
      dsimp only
      split
      ·rw [hgs]; exact hsg _ (by omega)
      exact hsg t ht
     have hrow2:Ok (mG (fun _ _ => False) [] [(77,⟨A,n,c,2,63⟩)]) w2 (.sl (some 77) A n c 2 (fun t => itC (g2 t))):=own_known2 hO2 (fun _ _ => rfl) hgrm (fun i hi => hitok _ _ _ (hsg2 i hi)) _
     have hsub2:Ok (mG (fun _ _ => False) [] [(77,⟨A,n,c,2,63⟩)]) w2 (.sl none A6 n6 c6 2 (fun t => itC (g2 (i + t)))):=by
      rw [hA6,hn6,hc6]
      exact sub_ok hrow2 (by omega)
     have hF:=Fits.rowset (K':=noK) (l':=[(7,.int .i64 (j:Int)),(5,.int .i64 (k:Int)),(0,.sl (some 77) A n c 2 (fun t => itC (g2 t))),(6,.sl none A6 n6 c6 2 (fun t => itC (g2 (i + t)))),(1,eqF)]) hF hc2 hO2 (hl_cons ⟨(hF.slot 7 rfl).1,.int _ _⟩ (hl_cons ⟨(hF.slot 5 rfl).1,.int _ _⟩ (hl_cons ⟨(hF.slot 0 rfl).1,hrow2⟩ (hl_cons ⟨(hF.slot 6 rfl).1,hsub2⟩ (hl_cons ⟨(hF.slot 1 rfl).1,.fn _ _ _ (fun v hv => by cases hv) (fun v hv => by cases hv)⟩ hl_nil))))) (fun k e he => by cases he) trivial
     refine wpList_nil ?_
     refine rg hB TA_ok [5,7,0,6,1] [77] [] hF fun X10 a0 w1 hF => ?_
     have eK:B'.arith .add .i64 (k:Int) 1=((k + 1:Nat):Int):=by subst hB; exact wrap_succ (n:=n) (by omega) (by omega)
     refine rg hB TA_ok [7,5,0,6,1] [77] [] hF fun X11 a0 w1 hF => ?_
     exact ⟨(j + 1,k + 1,g2),⟨by simp only; omega,by simp only; omega,by simp only; omega,by simp only; omega,hsg2⟩,by simp only; omega,by simp only; rw [← eJ,← eK]; exact hF⟩
    refine wp_skip (rg hB TA_ok [7,5,0,6,1] [77] [] hF fun X9 a0 w1 hF => ?_)
    exact ⟨(j + 1,k,g),⟨by simp only; omega,by simp only; omega,hk0,by simp only; omega,hsg⟩,by simp only; omega,by simp only; rw [egs,← eJ]; exact hF⟩
   have hjn:j=n6:=by
    have:¬ (j:Int) < (n6:Int):=by subst hB; simpa [std,sC] using hb4
    omega
   refine wp_exit (wp_seq (wp_region_lit ?_))
   refine lpr 0 3 hB TA_ok [61,5,0,1] [77] [] hF (fun X8 a0 w1 hF => ?_)
   have hrowk:Ok _ w1 (.sl (some 77) A n c 2 (fun t => itC (g t))):=(hF.slot 0 rfl).2
   have hkn:k < n:=by omega
   have hF:=hF.headS (v':=.sl none (adrOf A c k 2) (n - k) (c - k) 2 (fun t => itC (g (k + t)))) (by subst hB; exact zr) rfl
   refine man_rclear (zc:=itC zeroItm) rfl rfl rfl rfl rfl rfl rfl hF rfl Cl.etyI rfl (item_cells _) rfl hrowk (fun _ _ => rfl) hkn (fun w2 hO2 hc2 => ?_)
   have hrow2:Ok (mG (fun _ _ => False) [] [(77,⟨A,n,c,2,63⟩)]) w2 (.sl (some 77) A n c 2 (appC k (fun t => itC (g t)) (fun _ => itC zeroItm))):=own_known2 (by rw [← hsz] at *; exact hO2) (fun j hj => by unfold appC; split<;>rfl) hgrm (fun j hj => by
    unfold appC
    split
    ·exact hitok _ _ _ (hsg j hj)
    exact hitok _ _ _ (Nat.zero_le _)) _
   have hF:=Fits.rowset (K':=noK) (l':=[(0,.sl (some 77) A n c 2 (appC k (fun t => itC (g t)) (fun _ => itC zeroItm))),(5,.int .i64 (k:Int))]) hF hc2 hO2 (hl_cons ⟨(hF.slot 0 rfl).1,hrow2⟩ (hl_cons ⟨(hF.slot 5 rfl).1,.int _ _⟩ hl_nil)) (fun k e he => by cases he) trivial
   refine wpList_nil ?_
   obtain ⟨fz,hfz⟩:=eqv (appC k (fun t => itC (g t)) (fun _ => itC zeroItm))
   rw [← hfz] at hF
   refine wp_seq (rg hB TA_ok [4] [77] [] hF fun X9 a0 w1 hF => ?_)
   subst hB
   refine wp_ret (retI (B:=std) (R:=CompE B n f w) rfl TA_ok hF (fun hm' _ => ⟨_,k,_,rfl,?_,by omega,old_of hBw (fun _ h => h) (by rw [← hwB]; exact hm'.chg)⟩)).1
   rw [hdup,decide_eq_true (by omega)]
  have hbq:q=false:=by subst hB; exact hb3
  have eI:B'.arith .add .i64 (i:Int) 1=((i + 1:Nat):Int):=by subst hB; exact wrap_succ (n:=n) hin (by omega)
  refine wp_skip (rg hB TA_ok [5,0,1] [77] [] hF fun X5 a0 w1 hF => ?_)
  refine ⟨i + 1,⟨by omega,by omega,fun t ht => ?_⟩,by omega,by rw [← eI]; exact hF⟩
  rcases Nat.lt_or_ge (t + 1) i with h5 | h5
  ·exact hlt t h5
  have:t=i - 1:=by omega
  subst this
  rw [show i - 1 + 1=i by omega]
  rw [hq] at hbq
  exact of_decide_eq_false hbq
 have hin:i=n:=by
  have:¬ (i:Int) < (n:Int):=by subst hB; simpa [std,sC] using hb2
  omega
 refine wp_exit (wp_seq (rg hB TA_ok [4] [77] [] hF fun X4 a0 w1 hF => ?_))
 refine wp_ret (retI (R:=CompE B n f w) hB TA_ok hF (fun hm' _ => ⟨A,n,c,rfl,?_,Nat.le_refl _,old_of hBw (fun _ h => h) (by rw [← hwB]; exact hm'.chg)⟩)).1
 rw [decide_eq_false (Nat.lt_irrefl _)]
 symm
 unfold dupB
 rw [List.any_eq_false]
 intro t ht
 have h5:=List.mem_range.1 ht
 rw [decide_eq_true_eq]
 exact hlt t (by omega)
end Go.Proofs.YtjgnoldondblaaaGreat.Sym
namespace Go.Proofs.YtjgnoldondblaaaGreat.Sym
open Go Go.RowKit Go.Sort
theorem sortRowO_c {n B e:Nat} {A:Option Addr} {c:Nat} {h:Nat → RowA} {w:World} (hO:Own w B e 8 (.slice A n c) n (rowFlat (fun t => rowC (h t)) n)) (hn:n < 4611686018427387904) :
  Calls Tryz.prog 30 #[.slice A n c,.func (.func 31) #[] #[]] w fun e' w' => e' = .returned (.tuple #[]) ∧ ∃ h':Nat → RowA,((List.range n).map h').Perm ((List.range n).map h) ∧ (∀ i j,i < j → j < n → labLt (h' j).lab (h' i).lab=false) ∧ Own w' B e 8 (.slice A n c) n (rowFlat (fun t => rowC (h' t)) n) ∧ Chg (fun x => ownB (.slice A n c)=some x) w w':=by
 refine sorted_c (cells:=rowC) (lt:=ltOf cfRow) (k:=8) (fun _ => rfl) hO (fun b d hd hH hb => ?_) (fun h0 => ?_)
 ·have eg:∀ args w,(callFunc 31 args).run Tryz.prog w = .ok (.enter 31 args) w:=enters_of Tryz.func31 (by kernel_rfl) rfl
  have hcmp:CmpLays Tryz.prog 31 #[] (encV rowC) 8 cfRow b 0 d.size w:=by
   intro m os dk hdk x y
   refine (bord_c x y _).mono ?_
   rintro e w' ⟨rfl,q,os',rfl⟩
   exact ⟨rfl,q,os',rfl⟩
  have:=AnyQ.slices_SortFunc Tryz.sortRow 8 (fun _ => by kernel_rfl) (fun _ => by kernel_rfl) (encV rowC) (fun _ => rfl) (fun x v hv => by
   simp only [encV,rowC,List.map_cons,List.map_nil,AV.den,List.mem_cons,List.not_mem_nil,or_false] at hv
   rcases hv with rfl | rfl | rfl | rfl | rfl | rfl | rfl | rfl<;>rfl) cfRow swoRow 31 #[] b 0 c d w eg hcmp hH hb (by omega)
  exact this
 exact AnyF.slices_SortFunc_none (P:=Tryz.prog) (ρ:=Tryz.sortRow_ren) { Tryz.sortRow with } A c _ w
instance : Inhabited Lab := ⟨⟨0, 0⟩⟩
abbrev labC (x:Lab):List AV:=[.int .i64 x.len,.int .u64 x.bits]
def cfLab (x y:Lab):Int:=cmpLab x y
theorem cfLab_lt (x y:Lab):ltOf cfLab x y=labLt x y:=rfl
theorem swoLab:SWO (ltOf cfLab):=by
 refine ⟨fun x => ?_,fun x y z h1 h2 => ?_,fun x y z h1 h2 => ?_⟩
 ·rw [cfLab_lt,labLt_not]; omega
 ·rw [cfLab_lt,labLt_iff] at *; omega
 rw [cfLab_lt,labLt_not] at *; omega
theorem sortLab_c {n B e:Nat} {A:Option Addr} {c:Nat} {h:Nat → Lab} {w:World} (hO:Own w B e 2 (.slice A n c) n (rowFlat (fun t => labC (h t)) n)) (hn:n < 4611686018427387904) :
  Calls Tryz.prog 38 #[.slice A n c,.func (.func 32) #[] #[]] w fun e' w' => e' = .returned (.tuple #[]) ∧ ∃ h':Nat → Lab,((List.range n).map h').Perm ((List.range n).map h) ∧ (∀ i j,i < j → j < n → labLt (h' j) (h' i)=false) ∧ Own w' B e 2 (.slice A n c) n (rowFlat (fun t => labC (h' t)) n) ∧ Chg (fun x => ownB (.slice A n c)=some x) w w':=by
 refine sorted_c (cells:=labC) (lt:=ltOf cfLab) (k:=2) (fun _ => rfl) hO (fun b d hd hH hb => ?_) (fun h0 => ?_)
 ·have eg:∀ args w,(callFunc 32 args).run Tryz.prog w = .ok (.enter 32 args) w:=enters_of Tryz.func32 (by kernel_rfl) rfl
  have hcmp:CmpLays Tryz.prog 32 #[] (encV labC) 2 cfLab b 0 d.size w:=by
   intro m os dk hdk x y
   refine (order_c x y _).mono ?_
   rintro e w' ⟨rfl,q,os',rfl⟩
   exact ⟨rfl,q,os',rfl⟩
  have:=AnyQ.slices_SortFunc Tryz.sortLab 2 (fun _ => by kernel_rfl) (fun _ => by kernel_rfl) (encV labC) (fun _ => rfl) (fun x v hv => by
   simp only [encV,labC,List.map_cons,List.map_nil,AV.den,List.mem_cons,List.not_mem_nil,or_false] at hv
   rcases hv with rfl | rfl<;>rfl) cfLab swoLab 32 #[] b 0 c d w eg hcmp hH hb (by omega)
  exact this
 exact AnyF.slices_SortFunc_none (P:=Tryz.prog) (ρ:=Tryz.sortLab_ren) { Tryz.sortLab with } A c _ w
end Go.Proofs.YtjgnoldondblaaaGreat.Sym
namespace Go.Proofs.YtjgnoldondblaaaGreat.Sym
open Go Go.RowKit
def insL (x:Lab):List Lab → List Lab
 | [] => [x]
 | y :: l => if lessL x y=true then x :: y :: l else y :: insL x l
def sortL (l:List Lab):List Lab:=l.foldl (fun o x => insL x o) []
def leafs (l:List Rw):List Lab:=(l.filter fun w => decide (w.r.kind=1)).map (·.lab)
def leavesP (l:List Rw):List Lab:=sortL (leafs l)
def leL (a b:Lab):Prop:=lessL b a=false
theorem leL_trans {a b c:Lab} (h:leL a b) (h':leL b c):leL a c:=by
 unfold leL at *
 cases hx:lessL c a with
 | false => rfl
 | true =>
  rcases less_total a b with h1 | h1 | h1
  ·have:=less_trans hx h1
   rw [h'] at this; cases this
  ·subst h1
   rw [h'] at hx; cases hx
  rw [h] at h1; cases h1
theorem less_le {a b:Lab} (h:lessL a b=true):leL a b:=by
 unfold leL
 cases hx:lessL b a with
 | false => rfl
 | true => have:=less_trans h hx; rw [less_irr] at this; cases this
theorem leL_anti {a b:Lab} (h:leL a b) (h':leL b a):a=b:=by
 unfold leL at *
 rcases less_total a b with h1 | h1 | h1
 ·rw [h'] at h1; cases h1
 ·exact h1
 rw [h] at h1; cases h1
theorem insL_perm (x:Lab):∀ l:List Lab,(insL x l).Perm (x :: l)
 | [] => List.Perm.refl _
 | y :: l => by
  unfold insL
  split
  ·exact List.Perm.refl _
  exact (List.Perm.cons _ (insL_perm x l)).trans (List.Perm.swap _ _ _)
theorem insL_sorted (x:Lab):∀ {l:List Lab},l.Pairwise leL → (insL x l).Pairwise leL
 | [],_ => List.pairwise_singleton _ _
 | y :: l,h => by
  have h':=List.pairwise_cons.1 h
  unfold insL
  split
  ·rename_i hx
   refine List.pairwise_cons.2 ⟨fun z hz => ?_,h⟩
   rcases List.mem_cons.1 hz with rfl | hz
   ·exact less_le hx
   exact leL_trans (less_le hx) (h'.1 z hz)
  rename_i hx
  refine List.pairwise_cons.2 ⟨fun z hz => ?_,insL_sorted x h'.2⟩
  rcases List.mem_cons.1 ((insL_perm x l).mem_iff.1 hz) with rfl | hz
  ·exact (Bool.not_eq_true _).mp hx
  exact h'.1 z hz
theorem sortL_go (l:List Lab):∀ (o:List Lab),(l.foldl (fun o x => insL x o) o).Perm (l ++ o) ∧ (o.Pairwise leL → (l.foldl (fun o x => insL x o) o).Pairwise leL):=by
 induction l with
 | nil => exact fun o => ⟨List.Perm.refl _,id⟩
 | cons x l ih =>
  intro o
  obtain ⟨h1,h2⟩:=ih (insL x o)
  refine ⟨?_,fun ho => h2 (insL_sorted x ho)⟩
  refine h1.trans ?_
  have:=(insL_perm x o).append_left l
  exact this.trans List.perm_middle
theorem sortL_perm (l:List Lab):(sortL l).Perm l:=by
 have:=(sortL_go l []).1
 rwa [List.append_nil] at this
theorem sortL_sorted (l:List Lab):(sortL l).Pairwise leL:=(sortL_go l []).2 .nil
theorem sorted_uniq {l l':List Lab} (hp:l.Perm l') (h:l.Pairwise leL) (h':l'.Pairwise leL):l=l':=
 List.Perm.eq_of_pairwise (le:=leL) (fun a b _ _ h1 h2 => leL_anti h1 h2) h h' hp
theorem sortL_eq {l l':List Lab} (hp:l.Perm l') (h:l.Pairwise leL):sortL l'=l:=(sorted_uniq (hp.trans (sortL_perm l').symm) h (sortL_sorted l')).symm
theorem sortL_len (l:List Lab):(sortL l).length=l.length:=(sortL_perm l).length_eq
theorem leafs_len (l:List Rw):(leafs l).length ≤ l.length:=by
 unfold leafs
 rw [List.length_map]
 exact List.length_filter_le _ _
theorem leaves_len (l:List Rw):(leavesP l).length ≤ l.length:=by
 unfold leavesP
 rw [sortL_len]
 exact leafs_len l
abbrev labsV (A:Option Addr) (n c:Nat) (g:Nat → Lab):AV:=.sl none A n c 2 (fun t => labC (g t))
def labF (l:List Lab):Nat → Lab:=fun t => l.getD t ⟨0,0⟩
def lSet (g:Nat → Lab) (p:Nat) (x:Lab):Nat → Lab:=fun i => if i=p then x else g i
theorem leafs_step (f:Nat → RowA) (i:Nat):leafs (rwsA f (i + 1))=leafs (rwsA f i) ++ (if (f i).x.r.kd=1 then [(f i).lab] else []):=by
 show leafs (listA RowA.abs f (i + 1))=leafs (listA RowA.abs f i) ++ _
 rw [listA_succ]
 unfold leafs
 rw [List.filter_append,List.map_append]
 congr 1
 by_cases h:(f i).x.r.kd=1
 ·simp [RowA.abs,RN.abs,h]
 simp [RowA.abs,RN.abs,h]
theorem map_lSet (g:Nat → Lab) (q:Nat) (x:Lab):(List.range (q + 1)).map (lSet g q x)=(List.range q).map g ++ [x]:=by
 rw [List.range_succ,List.map_append]
 congr 1
 ·apply List.map_congr_left
  intro t ht
  have:=List.mem_range.1 ht
  unfold lSet
  rw [if_neg (by omega)]
 simp [lSet]
theorem labLt_le (a b:Lab):labLt a b=lessL a b:=by
 rw [Bool.eq_iff_iff,labLt_iff]
 simp [lessL]
theorem leaves_fin {l:List Rw} {h h':Nat → Lab} {k:Nat} (hl:(List.range k).map h=leafs l) (hp:((List.range k).map h').Perm ((List.range k).map h)) (hs:∀ i j,i < j → j < k → labLt (h' j) (h' i)=false):leavesP l=(List.range k).map h':=by
 unfold leavesP
 rw [← hl]
 refine sortL_eq hp ?_
 rw [List.pairwise_map]
 refine List.Pairwise.imp_of_mem ?_ (List.pairwise_lt_range (n:=k))
 intro a b ha hb hab
 unfold leL
 rw [← labLt_le]
 exact hs a b hab (List.mem_range.1 hb)
theorem labF_map {h:Nat → Lab} {k t:Nat} (ht:t < k):labF ((List.range k).map h) t=h t:=by
 unfold labF
 simp [List.getD_eq_getElem?_getD,ht]
theorem enters38:Enters Tryz.prog 38:=fun _ _ => by kernel_rfl
theorem leaves_s (A:Option Addr) (n c:Nat) (f:Nat → RowA) (hn:n ≤ 100000):Spec Tryz.prog 9 [rowsV A n c f] (fun y => labsV (y.A 0) (leavesP (rwsA f n)).length (y.c 0) (labF (leavesP (rwsA f n)))):=by
 intro m w hm hargs
 have hmx:maxLen=9223372036854775807:=rfl
 refine en 25 hm hargs Tryz.func9 fun B hB a0 hF => ?_
 refine wp_seq (rg hB TA_ok [0] [] [] hF fun X0 a0 w1 hF => ?_)
 refine wp_seq (rg hB TA_ok [3,0] [3] [] hF fun X1 a0 w1 hF => ?_)
 refine wp_seq (wp_seq (rg hB TA_ok [3,8,6,7] [3] [] hF fun X2 a0 w1 hF => ?_))
 replace hF:=hF.headS (v':=.sl (some 3) none 0 0 2 (fun t => labC ⟨0,0⟩)) (zq0) rfl
 refine wp_block (loop_pre (ι:=Nat × Nat × (Nat → Lab) × Option Addr × Nat) (fun p => [(3,.sl (some 3) p.2.2.2.1 p.2.1 p.2.2.2.2 2 (fun t => labC (p.2.2.1 t))),(8,.int .i64 (p.1:Int))]) (fun p => []) (fun p => [(3,⟨p.2.2.2.1,p.2.1,p.2.2.2.2,2,37⟩)]) (fun p => p.1 ≤ n ∧ p.2.1 ≤ p.1 ∧ (List.range p.2.1).map p.2.2.1=leafs (rwsA f p.1)) (fun p => n - p.1) (0,0,fun _ => ⟨0,0⟩,none,0) ⟨Nat.zero_le _,Nat.le_refl _,rfl⟩ hF ?_)
 rintro ⟨i,q,g,A1,c1⟩ ⟨hi,hq,hg⟩ a0 w1 hF
 try dsimp only at hi
 try dsimp only at hq
 try dsimp only at hg
 refine wp_seq (rg hB TA_ok [9,3,8,6,7] [3] [] hF fun X3 a0 w1 hF => ?_)
 refine wp_seq (test_ok hF rfl (fun hb hF => ?_) (fun hb hF => ?_))
 ·have hin:i < n:=by
   have:(i:Int) < (n:Int):=by subst hB; simpa [std,sC] using hb
   omega
  refine wp_skip (wp_seq (wp_block (wp_seq ?_)))
  refine rg hB TA_ok [5,3,8,6,7] [5,3] [] hF (hob:=by intro X; subst hB; simp only [AO,Ob.holds,BE.den]<;>and_intros<;>repeat first | trivial | rfl | exact (show (0:Int) ≤ (i:Int) by omega) | exact (show (i:Int) < (n:Int) by omega) | exact (fun _ _ => by kernel_rfl) | refine ⟨?_,?_⟩ | intro h | exact Int.le_refl _ | decide | omega) fun X4 a0 w1 hF => ?_
  replace hF:=hF.memS (cells':=rowC (f i)) (by subst hB; exact zl)
  refine wp_seq (rg hB TA_ok [15,5,3,8,6,7] [5,3] [] hF fun X5 a0 w1 hF => ?_)
  apply test_ok hF rfl<;>intro hb hF
  ·have hk:(f i).x.r.kd=1:=by subst hB; simpa [std,sC] using hb
   refine rg hB TA_ok [3,8,6,7] [3] [] hF (hob:=?hob) fun X6 a0 w1 hF => ?_
   case hob =>
    intro X
    subst hB
    repeat (first | exact trivial | refine ⟨⟨rfl,rfl,rfl⟩,?_⟩ | refine ⟨rfl,?_⟩ | refine ⟨⟨show q + 1 ≤ maxLen by omega,show (q + 1) * _ ≤ _ by omega⟩,?_⟩)
   replace hF:=hF.headS (v':=.sl (some 3) ((X6 4).A 0) (B.nadd q 1) ((X6 4).c 0) 2 (fun t => labC (lSet g q (f i).lab t))) (Sim.resl rfl (fun t ht => by
    subst hB
    have ht2:t < q + 1:=ht
    show appC q (fun t => labC (g t)) (chunk 2 [.int .i64 (f i).lab.len,.int .u64 (f i).lab.bits]) t=_
    unfold appC lSet
    split
    ·rw [if_neg (by omega)]
    have:t=q:=by omega
    subst this
    simp [chunk,labC])) rfl
   refine rg hB TA_ok [3,8,6,7] [3] [] hF fun X7 a0 w1 hF => ?_
   have e:B.arith .add .i64 (i:Int) 1=((i + 1:Nat):Int):=by subst hB; exact wrap_succ (n:=n) hin (by omega)
   refine ⟨(i + 1,q + 1,lSet g q (f i).lab,_,_),⟨by simp only; omega,by simp only; omega,?_⟩,by simp only; omega,by rw [← e,show q + 1=B.nadd q 1 by subst hB; rfl]; exact hF⟩
   simp only
   rw [map_lSet,hg,leafs_step,if_pos hk]
  have hk:¬ (f i).x.r.kd=1:=by subst hB; simpa [std,sC] using hb
  refine wp_skip (rg hB TA_ok [3,8,6,7] [3] [] hF fun X7 a0 w1 hF => ?_)
  have e:B.arith .add .i64 (i:Int) 1=((i + 1:Nat):Int):=by subst hB; exact wrap_succ (n:=n) hin (by omega)
  refine ⟨(i + 1,q,g,_,_),⟨by simp only; omega,by simp only; omega,?_⟩,by simp only; omega,by rw [← e]; exact hF⟩
  simp only
  rw [hg,leafs_step,if_neg hk,List.append_nil]
 have hout:i=n:=by
  have:¬ (i:Int) < (n:Int):=by subst hB; simpa [std,sC] using hb
  omega
 rw [hout] at hg
 refine wp_exit (wp_seq (wp_region_lit (lpr 0 1 hB TA_ok [22,3] [3] [] hF fun X8_0 a0 w1 hF => ?_)))
 obtain ⟨_,xs,hO⟩:=hF.gr 3 ⟨A1,q,c1,2,37⟩ rfl
 have hs3:=hF.slot 3 rfl
 have hk3:Ok _ w1 (.sl (some 3) A1 q c1 2 (fun t => labC (g t))):=hs3.2
 have hd3:a0.tmps[3]? = some (AV.sl (some 3) A1 q c1 2 (fun t => labC (g t))).den:=hs3.1
 have hfl:=own_flat hO hk3
 rw [hfl] at hO
 have hO:Own w1 w.heap.size 37 2 (.slice A1 q c1) q (rowFlat (fun t => labC (g t)) q):=hO
 refine man_sorted rfl rfl rfl rfl rfl hF rfl rfl enters38 (fun w' => ∃ h':Nat → Lab,((List.range q).map h').Perm ((List.range q).map g) ∧ (∀ i j,i < j → j < q → labLt (h' j) (h' i)=false) ∧ Own w' w.heap.size 37 2 (.slice A1 q c1) q (rowFlat (fun t => labC (h' t)) q)) ((sortLab_c hO (by omega)).mono ?_) ?_
 ·rintro e w2 ⟨he,h',g1,g2,g3,g4⟩
  exact ⟨he,⟨h',g1,g2,g3⟩,g4⟩
 rintro w2 ⟨h',g1,g2,g3⟩ g4
 have hfin:=leaves_fin hg g1 g2
 have hF2:=Fits.sorted hF g4 (l':=[(3,.sl none A1 q c1 2 (fun t => labC (h' t)))]) (fun x hx => ?hl) (fun x e he v hv => ?hm)
 case hl =>
  by_cases hx3:x=3
  ·subst hx3
   refine ⟨hd3,own_known g3 (fun _ _ => rfl) (Fits.notM hF) (fun i hi v hv => ?_) none⟩
   simp only [labC,List.mem_cons,List.not_mem_nil,or_false] at hv
   rcases hv with rfl | rfl<;>exact ⟨rfl,.int _ _⟩
  have:look [(3,AV.sl none A1 q c1 2 (fun t => labC (h' t)))] x = .undef:=by rw [look_cons,if_neg (fun e => hx3 e.symm)]; rfl
  rw [this] at hx; cases hx
 case hm => cases he
 have hF:Fits _ _ (a0.put (some 23) (.tuple #[])) w2:=hF2.put (some 23) (fun t ht => by injection ht with ht; subst ht; exact Nat.le_of_ble_eq_true rfl) (.tup []) (fun _ => .tup _ fun u hu => by cases hu) _ fun _ => rfl
 refine wpList_nil (wp_seq (rg hB TA_ok [2] [2,3,20] [] hF fun X9 a0 w1 hF => ?_))
 refine wp_ret ((rsi hB TA_ok hF (⟨0,fun _ => A1,fun _ => c1,fun _ => ⟨#[]⟩⟩) (he:=?_)))
 subst hB
 rw [hfin,List.length_map,List.length_range]
 exact Sim.resl rfl (fun t ht => by rw [labF_map ht])
theorem setA_setA {α : Type} {l:Lab} {x y:α}:∀ {L:List (Lab × α)},setA l y (setA l x L)=setA l y L
 | [] => by simp [setA]
 | p :: L => by
  by_cases h:p.1=l
  ·simp [setA,h]
  have:=setA_setA (l:=l) (x:=x) (y:=y) (L:=L)
  simp [setA,h,this]
def nexA (g:Nat → Lab) (n:Nat):Nat → List (Lab × Lab)
 | 0 => []
 | i + 1 => setA (g i) (if i + 1 < n then g (i + 1) else noneL) (nexA g n i)
theorem nexA_len (g:Nat → Lab) (n:Nat):∀ i,(nexA g n i).length ≤ i
 | 0 => Nat.le_refl _
 | i + 1 => by
  have:=nexA_len g n i
  unfold nexA
  rw [set_len]
  split<;>omega
theorem nexts_m (A:Option Addr) (n c:Nat) (g:Nat → Lab) (hn:n ≤ 100000) (hN:∀ i,i < n → LabOk (g i)):SpecM Tryz.prog 33 [labsV A n c g] [] none noK (fun y => ⟨.raw (.map (some (y.c 0))),[],[]⟩) (fun N y => lmF labAV N (y.c 0) (nexA g n n)):=by
 intro m w hm hargs hpre hI
 have hmx:maxLen=9223372036854775807:=rfl
 have SNo:=none_s
 simp only [labAV] at SNo
 refine enM (bo:=none) 31 hm hpre hI hargs Tryz.func33 fun B hB a0 hF => ?_
 refine wp_seq (rg hB TA_ok [0] [] [] hF fun X0 a0 w1 hF => ?_)
 refine wp_seq (wp_region_lit (man_makeMap (k:=37) (e:=0) rfl rfl rfl rfl hF (Nat.le_of_ble_eq_true rfl) (lmK labAV w1.heap.size []) (fun m w' _ _ hM => ⟨_,LmD.empty hM⟩) ?_))
 obtain ⟨bM,hbM⟩:=eqv (w1.heap.size)
 rw [← hbM]
 intro a0 w1 hfresh hF
 have hbfr:w.heap.size ≤ bM:=hfresh
 refine lnd 1 hB TA_ok [3,0] [] [] hF fun X1 a0 w1 hF => ?_
 refine wp_seq (wp_seq (rg hB TA_ok [9,0,3,7,8] [] [] hF fun X2 a0 w1 hF => ?_))
 refine wp_block (loop_preK (ι:=Nat) (fun p => lmK labAV bM (nexA g n p)) (fun p => [(9,.int .i64 (p:Int))]) (fun p => []) (fun p => []) (fun p => p ≤ n) (fun p => n - p) 0 (Nat.zero_le _) hF ?_)
 rintro i hi a0 w1 hF
 try dsimp only at hi
 replace hF:=hF.withK (K':=lmK labAV bM (nexA g n i)) hF.kept
 have hLn:=nexA_len g n i
 have hLn2:(setA (g i) noneL (nexA g n i)).length ≤ i + 1:=by rw [set_len]; split<;>omega
 refine wp_seq (rg hB TA_ok [10,9,0,3,7,8] [] [] hF fun X3 a0 w1 hF => ?_)
 refine wp_seq (test_ok hF rfl (fun hb hF => ?_) (fun hb hF => ?_))
 ·have hin:i < n:=by
   have:(i:Int) < (n:Int):=by subst hB; simpa [std,sC] using hb
   omega
  have hlab:=hN i hin
  refine wp_skip (wp_seq (wp_block (wp_seq ?_)))
  refine rg hB TA_ok [4,5,9,0,3,7,8] [5] [] hF (hob:=by intro X; subst hB; simp only [AO,Ob.holds,BE.den]<;>and_intros<;>repeat first | trivial | rfl | exact (show (0:Int) ≤ (i:Int) by omega) | exact (show (i:Int) < (n:Int) by omega) | exact (fun _ _ => by kernel_rfl) | refine ⟨?_,?_⟩ | intro h | exact Int.le_refl _ | decide | omega) fun X4 a0 w1 hF => ?_
  replace hF:=hF.memS (cells':=labC (g i)) (by subst hB; exact zl)
  apply wp_seq
  apply drawn2_okB hB 3 none ?hH (by kernel_rfl) TA_ok [14,15,16,4,5,9,0,3,7,8] [5] [(2,.r fun _ => .agg [.int .i64 noneL.len,.int .u64 noneL.bits])] hF rfl
  case hH => exact handOK_none
  case hex => intro A X; conv => lhs; cbv
  case hD => kernel_rfl
  case hZ => kernel_rfl
  case hlen => rfl
  case hob =>
   intro X
   subst hB
   simp only [AO,Ob.holds,BE.den]<;>(and_intros<;>repeat first | trivial | rfl | exact enters52 | exact SNo | refine ⟨?_,?_⟩ | intro h)
  case hQ =>
  intro X5 a0 w1 hF
  obtain ⟨D2,hD2⟩:=hF.kept
  refine man_mapUpdate (k:=37) (e:=37) rfl rfl rfl rfl hF rfl rfl rfl rfl rfl labK mapl_und hD2.map (by omega) (key_lab hlab) (fun h => absurd h (by omega)) (lmK labAV bM (setA (g i) noneL (nexA g n i))) (fun m w' hk hkb hv hM => ?_) ?_
  ·exact lmK_put (x:=noneL) hD2.map hlab hk hkb (zr) hv hM
  intro w1 hF
  replace hF:=hF.keep [4,5,9,0,3,7,8] [5]
  refine wpList_nil (wp_seq (rg hB TA_ok [21,4,5,9,0,3,7,8] [5] [] hF fun X6 a0 w1 hF => ?_))
  apply test_ok hF rfl<;>intro hb hF
  ·have hlt:i + 1 < n:=by
    have h9:(IntKind.i64.wrap ((i:Int) + 1)) < (n:Int):=by subst hB; simpa [std,sC,sAr] using hb
    rw [wrap_in (by omega) (by omega)] at h9; omega
   apply drawn2_okB hB 7 none ?hH (by kernel_rfl) TA_ok [22,23,28,9,0,3,7,8] [] [] hF rfl
   case hH => exact handOK_none
   case hex => intro A X; conv => lhs; cbv
   case hD => kernel_rfl
   case hZ => kernel_rfl
   case hlen => rfl
   case hob =>
    intro X
    subst hB
    have e2:std.arith .add .i64 (i:Int) 1=((i + 1:Nat):Int):=by show IntKind.i64.wrap ((i:Int) + 1)=_; rw [wrap_in (by omega) (by omega)]; rfl
    have e3:0 ≤ std.arith .add .i64 (i:Int) 1 ∧ std.arith .add .i64 (i:Int) 1 < (n:Int):=by rw [e2]; omega
    repeat (first | exact trivial | refine ⟨rfl,?_⟩ | refine ⟨e3,?_⟩)
   case hQ =>
   intro X7 a0 w1 hF
   have e2:std.toNat (std.arith .add .i64 (i:Int) 1)=i + 1:=by show (IntKind.i64.wrap ((i:Int) + 1)).toNat=i + 1; rw [wrap_in (by omega) (by omega)]; rfl
   obtain ⟨D2,hD2⟩:=hF.kept
   refine man_mapUpdate (k:=37) (e:=37) rfl rfl rfl rfl hF rfl rfl rfl rfl rfl labK mapl_und hD2.map (by omega) (key_lab hlab) (fun h => absurd h (by omega)) (lmK labAV bM (setA (g i) (g (i + 1)) (setA (g i) noneL (nexA g n i)))) (fun m w' hk hkb hv hM => ?_) ?_
   ·exact lmK_put (x:=g (i + 1)) hD2.map hlab hk hkb (by subst hB; show Sim (.agg [.int .i64 (g (std.toNat (std.arith .add .i64 (i:Int) 1))).len,.int .u64 (g (std.toNat (std.arith .add .i64 (i:Int) 1))).bits]) _; rw [e2]; exact zr) hv hM
   intro w1 hF
   replace hF:=hF.keep [9,0,3,7,8] []
   refine wpList_nil (rg hB TA_ok [9,0,3,7,8] [] [] hF fun X8 a0 w1 hF => ?_)
   have e:B.arith .add .i64 (i:Int) 1=((i + 1:Nat):Int):=by subst hB; exact wrap_succ (n:=n) hin (by omega)
   refine ⟨i + 1,by omega,by omega,?_⟩
   rw [← e]
   refine hF.withK ?_
   show (lmK labAV bM (nexA g n (i + 1))).p _ _
   unfold nexA
   rw [if_pos hlt,← setA_setA (x:=noneL)]
   exact hF.kept
  have hlt:¬ i + 1 < n:=by
   have h9:¬ (IntKind.i64.wrap ((i:Int) + 1)) < (n:Int):=by subst hB; simpa [std,sC,sAr] using hb
   rw [wrap_in (by omega) (by omega)] at h9; omega
  refine wp_skip (rg hB TA_ok [9,0,3,7,8] [] [] hF fun X8 a0 w1 hF => ?_)
  have e:B.arith .add .i64 (i:Int) 1=((i + 1:Nat):Int):=by subst hB; exact wrap_succ (n:=n) hin (by omega)
  refine ⟨i + 1,by omega,by omega,?_⟩
  rw [← e]
  refine hF.withK ?_
  show (lmK labAV bM (nexA g n (i + 1))).p _ _
  unfold nexA
  rw [if_neg hlt]
  exact hF.kept
 have hout:i=n:=by
  have:¬ (i:Int) < (n:Int):=by subst hB; simpa [std,sC] using hb
  omega
 subst hout
 refine wp_exit (wp_seq (rg hB TA_ok [2] [] [] hF fun X9 a0 w1 hF => ?_))
 refine wp_ret ((rm hB TA_ok hF (⟨0,fun _ => none,fun _ => bM,fun _ => ⟨#[]⟩⟩) [] (hJ:=?_)).1)
 exact fun _ _ h => ⟨hbfr,h⟩
section
variable {C:Cx} {P:Program} {Q:Exit → Act → World → Prop} {T:List (Nat × TI)} {s:St} {a:Act} {w:World} {B:Alg} {r:Option Nat}
theorem rd3 {id:Nat} {all:List Oper} {R:Alg → (Nat → Atom) → St × List Ob} {fs:List Foot} (n0:Nat) (hB:B=std) (hT:TabOK P T) (kp km:List Nat) (cs:List (Nat × CS)) (h:Fits C s a w) (hQ:∀ X a' w',Fits C (R B X).1 a' w' → wpList P all.toArray Q (all.drop n0) a' w')
  (hO:∀ a w,¬ Q .outgrown a w:=by first | exact fun _ _ h => h | (intro a w h; obtain ⟨x,h,_⟩:=h; cases h)) (hm:P.follows .mixedOrders=true:=by kernel_rfl) (hgs:s.gs=[]:=by rfl)
  (hex:∀ A X,(exec2 A T cs none X all (number 0 (all.take n0)) s).map (fun r => ((r.1.keep kp km,r.2.1),r.2.2))=some (R A X,fs):=by intro A X; conv => lhs; cbv) (hD:drawB (all.take n0) fs=true:=by kernel_rfl) (hZ:tail3B all n0=true:=by kernel_rfl) (hlen:(all.take n0).length=fs.length:=by rfl) (hob:∀ X,AO P C.K (R B X).2:=by
   intro X; subst hB
   first
   | exact trivial
   | (simp only [AO,Ob.holds,BE.den]<;>and_intros<;>(repeat first | trivial | rfl | exact O1 | exact O2 | exact O3 | exact (fun _ _ => by kernel_rfl) | exact O1 _ _ _ rfl | exact O2 _ _ _ rfl | refine ⟨?_,?_⟩ | intro h | decide | omega)<;>done)
   | (simp [AO,Ob.holds,BE.den,std,sC,sAr]<;>omega)) (hd:noDefer all=true:=by rfl):(Code.region id all.toArray true).wpIn (rF r) 0 P Q a w:=by
 subst hB
 exact wpIn_region_any hm (any_r hO (fun o ho => nd_at hd (by simpa using ho)) _ _ _ _ (drawn3_any n0 none handOK_none hT kp km cs h hgs fs hD hZ hlen hex hob hQ))
end
section
variable {m0:Nat → Nat → Prop} {w0:World} {S:Nat → Prop} {ds:List Deferred} {K:Kn} {P:Program} {Q:Exit → Act → World → Prop} {ops:Array Oper}
theorem man_callKL {K1 E:Kn} {J:Kn} {tmc:List (Nat × AV)} {l D bo:Nat} {rc:Loop} {st:LoopState} {pe:Option Code} {s:St} {a:Act} {w:World} {L rest:List Oper} {o:Oper} {c:Call} {g:Operand} {f:FuncId} {lf r args args':List AV} (hL:L=o :: rest) (hg:o.guard=none) (hop:o.op = .call c) (hcal:c.callee = .value g) (h:Fits ⟨m0,w0,S,ds,(KL K1 tmc l rc D st pe).and E⟩ s a w) (hgv:val s [] g = .fn f lf r) (hl:vals s [] c.args.toList=some args) (hen:Enters P f)
  {res:Atom → CR} (hsp:SpecM P f args' [] (some bo) K1 res (fun _ _ => J)) (hlb:l ≠ bo) (hDb:D ≠ bo) (hE:E.off bo) (hC:bo < w0.heap.size → S bo) (hsim:SimL (lf ++ args ++ r) args') (hd:inNt s o.dst=true)
  (Kc:∀ x a' w',Fits ⟨m0,w0,S,ds,(KL J tmc l rc D st pe).and E⟩ ((s.eff (.sets (upd [] (res x).sets ++ (res x).news))).put o.dst (res x).v) a' w' → wpList P ops Q rest a' w'):wpList P ops Q L a w:=
 man_callM hL hg hop hcal h hgv hl hen hsp (fun _ _ h => h.1.1.1) (fun b hb => by cases hb; exact hC) hsim (fun e he => by cases he) rfl hd (fun _ => (KL J tmc l rc D st pe).and E)
  (fun n x m w m' w' _ hk hkb hJ => ⟨⟨⟨hJ,okT_off tmc bo hkb hk.1.1.2⟩,recK_off hlb hDb hkb hk.1.2⟩,hE hkb hk.2⟩) Kc
end
section
variable {P:Program} {f:FuncId} {fn:Func} {c:Code} {R:Ending → World → Prop} {m:Nat → Nat → Prop} {w:World} {pre:List (Nat × Blk)} {args:List AV} {I:Kn} {bo:Option Nat}
theorem preFits {n:Nat} (hm:∀ b o,m b o → b < w.heap.size) (hp:PreOk m w pre) (hI:I.p m w) (hargs:∀ v ∈ args,Ok m w v) (hn:args.length ≤ n):Fits ⟨m,w,fun k => ats pre k ∨ bo=some k,[],I⟩ ⟨n,startT 0 args,[],pre,[]⟩ { tmps:=(args.map AV.den).toArray ++ Array.replicate (n - args.length) Go.undef,defers:=[] } w:=
 ((enterFits hm hp hargs hn).wider fun k hk => .inl hk).withK (I.st ⟨fun b o u h1 h2 => ⟨h1,fun hm' => by
  rcases hm' with h3 | ⟨k,e,he,hat⟩ | ⟨k,e,he,_⟩
  ·exact h2 h3
  ·exact h2 (hat ▸ hp.free _ (lookM_mem he) o)
  cases he⟩,fun _ _ h _ => h⟩ hI)
theorem enMN (nt:Nat) (hm:∀ b o,m b o → b < w.heap.size) (hp:PreOk m w pre) (hI:I.p m w) (hargs:∀ v ∈ args,Ok m w v) (hf:P.funcs[f]? = some fn) (h:∀ B,B=std → ∀ a,Fits ⟨m,w,fun k => ats pre k ∨ bo=some k,[],I⟩ ⟨nt,startT 0 args,[],pre,[]⟩ a w → wpN f P c (bodyPostM Fence.wide 0 P fn R) a w) (hb:fn.body=some c:=by rfl) (hnt:fn.ntmps=nt:=by rfl) (hn:args.length ≤ nt:=by exact Nat.le_of_ble_eq_true rfl):Calls P f (args.map AV.den).toArray w R:=by
 refine calls_marks hf hb ?_
 have:=h std rfl _ (preFits hm hp hI hargs hn)
 simpa [hnt] using this
end
def MPost (bo:Option Nat) (m:Nat → Nat → Prop) (w:World) (pre:List (Nat × Blk)) (res:Atom → CR) (J:Atom → Kn) (e:Ending) (w':World):Prop:=
 ∃ x,e = .returned (res x).v.den ∧ Ok (mN m (res x).news) w' (res x).v ∧ LeftS bo m w w' pre (res x).sets (res x).news ∧ (∀ b,bo=some b → ∃ es cl es' cl',w.heap[b]? = some (.map es cl) ∧ w'.heap[b]? = some (.map es' cl')) ∧ (J x).p (mN m (res x).news) w'
section
variable {P:Program} {fn:Func} {m:Nat → Nat → Prop} {w0 w:World} {bo:Option Nat} {K:Kn} {nt:Nat} {tm:List (Nat × AV)} {mem:List (Nat × Blk)} {a:Act} {B:Alg} {T:List (Nat × TI)} {rs:List ResultVar} {r:List AV × List Ob} {pre:List (Nat × Blk)}
theorem mpost_of {res:Atom → CR} {J:Atom → Kn} (hm:Mem m w0 (fun k => ats pre k ∨ bo=some k) K mem [] w) (hv:Ok (mT m mem []) w (resA r.1)) (x:Atom) (ks:List Nat)
  (hmap:∀ b,bo=some b → (∃ es cl,w0.heap[b]? = some (.map es cl)) ∧ ∀ m,K.p m w → ∃ es cl,w.heap[b]? = some (.map es cl)) (he:Sim (can (resA r.1)) (can (res x).v)) (hs:SetsOk ⟨0,[],[],mem,[]⟩ pre (res x).sets) (hn:NewsOk ⟨0,[],[],mem,[]⟩ pre ks (res x).news) (hJ:∀ m w,K.p m w → (J x).p m w):MPost bo m w0 pre res J (.returned (resA r.1).den) w:=by
 obtain ⟨h1,h2⟩:=left_okS hm (fun b hb => (hmap b hb).2 _ hm.kept) hs hn
 refine ⟨x,?_,(can_ok _).2 (he.2.2 _ _ ((can_ok _).1 (h2.ok hv))),h1,fun b hb => ?_,hJ _ _ (K.st h2 hm.kept)⟩
 ·rw [← can_den (resA r.1),he.1,can_den]
 obtain ⟨⟨es,cl,h3⟩,h4⟩:=hmap b hb
 obtain ⟨es',cl',h4⟩:=h4 _ hm.kept
 exact ⟨_,_,_,_,h3,h4⟩
theorem rmM {res:Atom → CR} {J:Atom → Kn} (hB:B=std) (hT:TabOK P T) (Ds:List Nat) (h:Fits ⟨m,w0,fun k => ats pre k ∨ bo=some k,Ds.map markD,K.and (marksK Ds)⟩ ⟨nt,tm,[],mem,[]⟩ a w) (hof:∀ D ∈ Ds,K.off D ∧ w0.heap.size ≤ D) (x:Atom) (ks:List Nat)
  (hmap:∀ b,bo=some b → (∃ es cl,w0.heap[b]? = some (.map es cl)) ∧ ∀ m w,K.p m w → ∃ es cl,w.heap[b]? = some (.map es cl)) (he:Sim (can (resA r.1)) (can (res x).v)) (hs:SetsOk ⟨0,[],[],mem,[]⟩ pre (res x).sets:=by exact trivial) (hn:NewsOk ⟨0,[],[],mem,[]⟩ pre ks (res x).news:=by exact trivial) (hJ:∀ m w,K.p m w → (J x).p m w:=by exact fun m w h => h) (hfn:fn.results=rs.toArray:=by rfl) (hr:resL T ⟨nt,tm,[],mem,[]⟩ rs=some r:=by first | rfl | (conv => lhs; cbv)) (ho:AO P (K.and (okT tm)) r.2:=by first | exact trivial | (subst hB; simp [AO,Ob.holds])) :
  bodyPostM Fence.wide 0 P fn (MPost bo m w0 pre res J) .ret a w ∧ bodyPostM Fence.wide 0 P fn (MPost bo m w0 pre res J) .normal a w:=
 retIM hB hT Ds h hof (fun w' hm' hv => mpost_of hm' hv x ks (fun b hb => ⟨(hmap b hb).1,fun m h => (hmap b hb).2 m _ h⟩) he hs hn hJ) hfn hr ho
end
def leafT (l:List Itm):Rec:=⟨1,l,⟨0,0⟩,0⟩
def innR:Rec:=⟨2,[],noneL,0⟩
def growP (b:Int):Nat → List Itm → Lab → List (Lab × Rec) → Bool × List (Lab × Rec)
 | 0,_,_,T => (true,T)
 | n + 1,l,q,T =>
  if 2000 ≤ T.length then (false,T)
  else if (l.length:Int) ≤ b ∨ q.len=64 then (true,setA q (leafT l) T)
  else if chE q 0=0 then
   (if (growP b n (covL (chV q 0) l) (chV q 0) (setA q innR T)).1=true then growP b n (covL (chV q 1) l) (chV q 1) (growP b n (covL (chV q 0) l) (chV q 0) (setA q innR T)).2
    else (false,(growP b n (covL (chV q 0) l) (chV q 0) (setA q innR T)).2))
  else (true,setA q innR T)
def gT (b:Int) (n:Nat) (l:List Itm) (q:Lab) (T:List (Lab × Rec)):Nat → List (Lab × Rec)
 | 0 => setA q innR T
 | i + 1 => (growP b n (covL (chV q (i:Nat)) l) (chV q (i:Nat)) (gT b n l q T i)).2
def gB (b:Int) (n:Nat) (l:List Itm) (q:Lab) (T:List (Lab × Rec)) (i:Nat):Bool:=(growP b n (covL (chV q (i:Nat)) l) (chV q (i:Nat)) (gT b n l q T i)).1
section
variable {b:Int} {n:Nat} {l:List Itm} {q:Lab} {T:List (Lab × Rec)}
theorem grow_full (h:2000 ≤ T.length):growP b (n + 1) l q T=(false,T):=by
 rw [growP.eq_2]; exact if_pos h
theorem grow_leaf (h:¬ 2000 ≤ T.length) (h1:(l.length:Int) ≤ b ∨ q.len=64):growP b (n + 1) l q T=(true,setA q (leafT l) T):=by
 rw [growP.eq_2]; exact (if_neg h).trans (if_pos h1)
theorem grow_none (h:¬ 2000 ≤ T.length) (h1:¬ ((l.length:Int) ≤ b ∨ q.len=64)) (hc:¬ chE q 0=0):growP b (n + 1) l q T=(true,gT b n l q T 0):=by
 rw [growP.eq_2]; exact (if_neg h).trans ((if_neg h1).trans (if_neg hc))
theorem grow_in (h:¬ 2000 ≤ T.length) (h1:¬ ((l.length:Int) ≤ b ∨ q.len=64)) (hc:chE q 0=0):growP b (n + 1) l q T=if gB b n l q T 0=true then (gB b n l q T 1,gT b n l q T 2) else (false,gT b n l q T 1):=by
 rw [growP.eq_2]; exact (if_neg h).trans ((if_neg h1).trans (if_pos hc))
end
def absT (TA:List (Lab × RA)):List (Lab × Rec):=TA.map fun p => (p.1,p.2.r.abs)
theorem absT_set {q:Lab} {x:RA}:∀ {TA:List (Lab × RA)},absT (setA q x TA)=setA q x.r.abs (absT TA)
 | [] => rfl
 | p :: TA => by
  have ih:=absT_set (q:=q) (x:=x) (TA:=TA)
  unfold absT at ih ⊢
  by_cases h:p.1=q
  ·simp [setA,h]
  simp [setA,h,ih]
theorem absT_len (TA:List (Lab × RA)):(absT TA).length=TA.length:=List.length_map _
def lmR (b:Nat) (T:List (Lab × Rec)):Kn:=⟨fun m w => ∃ TA:List (Lab × RA),absT TA=T ∧ (lmK recV b TA).p m w,fun k ⟨TA,h1,h2⟩ => ⟨TA,h1,(lmK recV b TA).st k h2⟩⟩
theorem lmR_off {b n:Nat} {T:List (Lab × Rec)} (h:b ≠ n):(lmR b T).off n:=fun k ⟨TA,h1,h2⟩ => ⟨TA,h1,lmK_off h k h2⟩
theorem lmR_self {b:Nat} {T:List (Lab × Rec)}:(lmR b T).self:=fun m w ⟨TA,h1,h2⟩ l hl _ _ _ _ k ⟨TA',h1',h2'⟩ => ⟨TA',h1',lmK_off (by have:=lmK_lt h2; omega) k h2'⟩
theorem lmR_map {b:Nat} {T:List (Lab × Rec)} {m:Nat → Nat → Prop} {w:World} (h:(lmR b T).p m w):∃ es cl,w.heap[b]? = some (.map es cl):=by
 obtain ⟨TA,_,h⟩:=h
 exact lmK_map h
theorem lmR_put {b n:Nat} {T:List (Lab × Rec)} {D:DataW Value} {m:Nat → Nat → Prop} {w w':World} {q:Lab} (h0:MapW Tryz.prog 37 w b n D) (hq:LabOk q) (h:(lmR b T).p m w) (k:KeepB (some b) w m w' m) {v:AV} {x:RA} (hs:Sim v (recV x)) (hv:Ok m w v) (hM:MapW Tryz.prog 37 w' b (T.length + 1) (D.put (keyL q) (.held v.den))):(lmR b (setA q x.r.abs T)).p m w':=by
 obtain ⟨TA,rfl,h⟩:=h
 rw [absT_len] at hM
 exact ⟨setA q x TA,absT_set,lmK_put h0 hq h k hs hv hM⟩
theorem cov_keys {l:Lab} {its:List Itm} (h:∀ x ∈ its,U64 x.key):∀ i,i < (covL l its).length → U64 (itF (covL l its) i).key:=by
 intro i hi
 have:itF (covL l its) i ∈ covL l its:=by
  unfold itF
  rw [List.getD_eq_getElem?_getD,List.getElem?_eq_getElem hi]
  exact List.getElem_mem hi
 exact h _ (List.mem_filter.1 this).1
theorem firsts_all {f:Nat → Itm} {n:Nat} {p:Itm → Prop} (h:∀ i,i < n → p (f i)):∀ x ∈ firsts f n,p x:=by
 intro x hx
 unfold firsts at hx
 obtain ⟨i,hi,rfl⟩:=List.mem_map.1 hx
 exact h i (List.mem_range.1 hi)
theorem grow_m (bT:Nat) (b:Int):∀ (n:Nat) (A:Option Addr) (ln c:Nat) (f:Nat → Itm) (q:Lab) (T:List (Lab × Rec)),ln ≤ 1000000 → (∀ i,i < ln → U64 (f i).key) → U64 q.bits → isL q=true → 65 ≤ q.len + n → SpecM Tryz.prog 29 [.raw (.map (some bT)),rowI A ln c f,labAV q,.int .i64 b] [] (some bT) (lmR bT T) (fun _ => ⟨.bool (.v (growP b n (firsts f ln) q T).1),[],[]⟩) (fun _ _ => lmR bT (growP b n (firsts f ln) q T).2):=by
 intro n
 induction n with
 | zero =>
  intro A ln c f q T _ _ _ hl hn
  have:=(lab_parts hl).2.1
  exact absurd hn (by omega)
 | succ n ih =>
  intro A ln c f q T hln hki hb0 hl hn m w hm hargs hpre hI
  have hmx:maxLen=9223372036854775807:=rfl
  have hlq:LabOk q:=labOk_is hl hb0
  have hmap0:=lmR_map hI
  have hbT:bT < w.heap.size:=by obtain ⟨es,cl,h⟩:=hmap0; exact lt_heap h
  obtain ⟨G,hG⟩:=eqv (growP b (n + 1) (firsts f ln) q T)
  rw [← hG]
  simp only [rowI,labAV] at hargs ⊢
  show Calls _ _ _ w (MPost (some bT) m w [] (fun _ => ⟨.bool (.v G.1),[],[]⟩) (fun _ => lmR bT G.2))
  refine enMN (bo:=some bT) 42 hm hpre hI hargs Tryz.func29 fun B hB a0 hF => ?_
  refine wpN_seq (wpN_of (rg hB TA_ok [4,5,6,7,8] [4,5,6,7,8] [] hF fun X0 a0 w1 hF => ?_))
  refine wpN_seq (wpN_of (wp_seq (wp_region_lit ?_)))
  refine lpr 0 1 hB TA_ok [10,4,5,6,7,8] [4,5,6,7,8] [] hF (fun X1 a0 w1 hF => ?_)
  obtain ⟨TA,hTA,D,hD⟩:=hF.kept
  have hTl:Maps.size D=T.length:=by rw [hD.size,← hTA,absT_len]
  refine man_mlen rfl rfl rfl rfl rfl rfl rfl hF (Nat.le_of_ble_eq_true rfl) rfl mapr_und hD.map fun a0 hF => ?_
  rw [hTl] at hF
  obtain ⟨tn,htn⟩:=eqv (T.length)
  rw [← htn] at hF
  refine lnd 2 hB TA_ok [12,4,5,6,7,8] [4,5,6,7,8] [] hF (fun X2 a0 w1 hF => ?_)
  have hhm:∀ T',∀ b',some bT=some b' → (∃ es cl,w.heap[b']? = some (.map es cl)) ∧ ∀ m w,(lmR bT T').p m w → ∃ es cl,w.heap[b']? = some (.map es cl):=fun T' b' hb' => by cases hb'; exact ⟨hmap0,fun m w h => lmR_map h⟩
  apply test_ok hF rfl<;>intro hb hF
  ·have hfull:2000 ≤ T.length:=by
    have:(2000:Int) ≤ (tn:Int):=by subst hB; simpa [std,sC] using hb
    omega
   refine wp_seq (rg hB TA_ok [8] [8] [] hF fun X3 a0 w1 hF => ?_)
   have hG:=hG.trans (grow_full hfull)
   refine wp_ret (rmM (res:=fun _ => ⟨.bool (.v G.1),[],[]⟩) (J:=fun _ => lmR bT G.2) hB TA_ok [] (hF.withK (K':=(lmR bT T).and (marksK [])) ⟨hF.kept,⟨fun D hD => (by cases hD),List.nodup_nil⟩⟩) (fun D hD => by cases hD) ⟨0,fun _ => none,fun _ => 0,fun _ => .empty⟩ [] (hhm _) (he:=?he) (hJ:=by rw [hG]; exact fun _ _ h => h)).1
   case he => rw [hG]; subst hB; exact Sim.bool rfl
  have hnf:¬ 2000 ≤ T.length:=by
   have:¬ (2000:Int) ≤ (tn:Int):=by subst hB; simpa [std,sC] using hb
   omega
  refine wp_skip ?_
  refine wpN_seq (wpN_of (wp_seq (rg hB TA_ok [21,4,5,6,7,8] [4,5,6,7,8] [] hF fun X3 a0 w1 hF => ?_)))
  apply test_ok hF rfl<;>intro hb hF
  ·have h9:(if decide ((ln:Int) ≤ b)=true then true else decide (q.len=64))=true:=by subst hB; exact hb
   have hlf:((firsts f ln).length:Int) ≤ b ∨ q.len=64:=by
    rw [firsts_len]
    by_cases h1:(ln:Int) ≤ b
    ·exact .inl h1
    rw [decide_eq_false h1] at h9; exact .inr (by simpa using h9)
   have hG:=hG.trans (grow_leaf hnf hlf)
   have SCl:=Cl.clone_sf A ln c f (by omega)
   simp only [rowI] at SCl
   have O1:=SCl
   refine wp_seq (d3 5 hB TA_ok [22,23,26,8] [8] [(3,.r fun y => .sl none (y.A 0) ln (y.c 0) 2 (fun t => itC (f t)))] hF fun X4 a0 w1 hF => ?_)
   obtain ⟨TA2,hTA2,D2,hD2⟩:=hF.kept
   have hT2:TA2.length=T.length:=by rw [← hTA2,absT_len]
   refine man_mapUpdate (k:=37) (e:=76) rfl rfl rfl rfl hF rfl rfl rfl rfl rfl labK mapr_und hD2.map (by omega) (key_lab hlq) (fun _ => .inr rfl) (lmR bT (setA q (leafT (firsts f ln)) T)) (fun m' w' hk hkb hv hM => ?_) ?_
   ·have:=lmR_put (x:=⟨(X4 3).A 0,(X4 3).c 0,⟨ln,f,1,⟨0,0⟩,0⟩⟩) hD2.map hlq hk hkb ?_ hv (by rw [← hT2]; exact hM)
    ·exact this
    exact Sim.agg ⟨zr,zr,zr,zr,zr,trivial⟩
   intro w1 hF
   refine wpList_nil ?_
   refine wp_seq (rg hB TA_ok [8] [8] [] hF fun X5 a0 w1 hF => ?_)
   refine wp_ret (rmM (res:=fun _ => ⟨.bool (.v G.1),[],[]⟩) (J:=fun _ => lmR bT G.2) hB TA_ok [] (hF.withK (K':=(lmR bT (setA q (leafT (firsts f ln)) T)).and (marksK [])) ⟨hF.kept,⟨fun D hD => (by cases hD),List.nodup_nil⟩⟩) (fun D hD => by cases hD) ⟨0,fun _ => none,fun _ => 0,fun _ => .empty⟩ [] (hhm _) (he:=?he) (hJ:=by rw [hG]; exact fun _ _ h => h)).1
   case he => rw [hG]; subst hB; exact Sim.bool rfl
  have hnl:¬ (((firsts f ln).length:Int) ≤ b ∨ q.len=64):=by
   have h9:(if decide ((ln:Int) ≤ b)=true then true else decide (q.len=64))=false:=by subst hB; exact hb
   rw [firsts_len]
   rintro (h1 | h1)<;>simp [h1] at h9
  refine wp_skip ?_
  have SNo:=none_s
  simp only [labAV] at SNo
  have O1:=SNo
  refine wpN_seq (wpN_of (d3 4 hB TA_ok [27,28,30,4,5,6,7,8] [4,5,6,7,8] [(2,.r fun _ => .agg [.int .i64 noneL.len,.int .u64 noneL.bits])] hF fun X4 a0 w1 hF => ?_))
  obtain ⟨TA2,hTA2,D2,hD2⟩:=hF.kept
  have hT2:TA2.length=T.length:=by rw [← hTA2,absT_len]
  refine man_mapUpdate (k:=37) (e:=76) rfl rfl rfl rfl hF rfl rfl rfl rfl rfl labK mapr_und hD2.map (by omega) (key_lab hlq) (fun _ => .inr rfl) (lmR bT (gT b n (firsts f ln) q T 0)) (fun m' w' hk hkb hv hM => ?_) ?_
  ·have:=lmR_put (x:=⟨none,0,⟨0,fun _ => zeroItm,2,noneL,0⟩⟩) hD2.map hlq hk hkb ?_ hv (by rw [← hT2]; exact hM)
   ·exact this
   exact Sim.agg ⟨zr,sim_nils,zr,zr,zr,trivial⟩
  intro w1 hF
  refine wpList_nil ?_
  replace hF:=hF.keep [6,5,7,4,8] [4,5,6,7,8]
  have SK:=kids_s q
  simp only [labAV] at SK
  have O1:=SK
  refine wpN_seq (wpN_seq (wpN_of (rg hB TA_ok [32,4,5,6,7,8] [4,5,6,7,8] [(1,.r fun y => .fn 61 [] [.ep (some ⟨y.b,0,none⟩) 0 0 0 [.int .i64 q.len,.int .u64 q.bits]])] hF fun X5 a0 w1 hF => ?_)))
  refine wpN_block ?_
  have hKu:=lmR_self _ _ hF.kept
  refine rangeI hF rfl enters61 hKu (fun l D rc w1 hl hD hrc hD0 hsz ha hm1 hlb => ?_)
  subst hrc
  obtain ⟨memc,hmemc⟩:=eqv ([(4,(⟨(X0 0).b,73,[.raw (.map (some bT))]⟩:Blk)),(5,⟨(X0 1).b,22,[.sl none A ln c 2 (fun i => itC (f i))]⟩),(6,⟨(X0 2).b,37,[.int .i64 q.len,.int .u64 q.bits]⟩),(7,⟨(X0 3).b,3,[.int .i64 b]⟩),(8,⟨(X0 4).b,4,[.bool .ff]⟩)])
  refine (kids_c (l:=l) (D:=D) (ntc:=42) (p:=33) Tryz.func29 (by omega) (by omega) rfl rfl rfl (by decide) ⟨_,ha⟩ q hb0 (fun i K' mem gr => (∀ j,j < i → gB b n (firsts f ln) q T j=true) ∧ K'=lmR bT (gT b n (firsts f ln) q T i) ∧ mem=memc ∧ gr=[]) (fun cc K' mem gr => cc = .ret ∧ ∃ i,i < 2 ∧ chE q 0=0 ∧ (∀ j,j < i → gB b n (firsts f ln) q T j=true) ∧ gB b n (firsts f ln) q T i=false ∧ K'=lmR bT (gT b n (firsts f ln) q T (i + 1)) ∧ mem=memc ∧ gr=[]) ?_ ⟨fun j hj => absurd hj (Nat.not_lt_zero _),rfl,hmemc.symm,rfl⟩ (hKu.off (by omega)) hm1 (hlb _ (by simp))).mono ?_
  ·intro i hi hce E hE hE2 K' mem gr a w2 ⟨hgb,hK',hmem,hgr⟩ hoff hF
   subst hK' hmem hgr
   obtain ⟨hc1,hc2,hc3⟩:=ch_is hb0 hce (i:Nat)
   obtain ⟨cl,hcl⟩:=eqv (chV q (i:Nat))
   rw [← hcl] at hc1 hc2 hc3 hF
   simp only [labAV] at hF
   rw [hmemc] at hF
   refine rrg hB TA_ok [9,4,5,6,7,8] [9,4,5,6,7,8] [] hF fun X6 a0 w1 hF => ?_
   refine ⟨42,_,_,_,hF,fun w2 hF => ?_⟩
   have SCV:=tcov_s A ln c f (by omega) cl hc2 hki
   have hcln:=cov_len cl (firsts f ln)
   have hcvk:=cov_keys (l:=cl) (firsts_all (p:=fun x => U64 x.key) hki)
   rw [firsts_len] at hcln
   obtain ⟨CV,hCV⟩:=eqv (covL cl (firsts f ln))
   rw [← hCV] at SCV hcln hcvk
   obtain ⟨cf,hcf⟩:=eqv (itF CV)
   obtain ⟨cn,hcn⟩:=eqv (CV.length)
   have hfc:firsts cf cn=CV:=by rw [hcf,hcn,firsts_itF']
   rw [← hcf,← hcn] at SCV hcvk
   rw [← hcn] at hcln
   simp only [rowI,labAV] at SCV
   refine wpIn_block (wpIn_seq (rd3 6 hB TA_ok [34,37,38,39,8] [4,5,6,7,8] [(3,.r fun x => .sl none (x.A 0) cn (x.c 0) 2 (fun i => itC (cf i)))] hF (fun X7 a0 w1 hF => ?_) (hob:=?hob)))
   case hob =>
    intro X; subst hB
    repeat (first | exact trivial | refine ⟨⟨fun _ _ => by kernel_rfl,SCV⟩,?_⟩ | refine ⟨rfl,?_⟩)
   have IH:=ih ((X7 3).A 0) cn ((X7 3).c 0) cf cl (gT b n (firsts f ln) q T i) (by omega) hcvk hc2 hc1 (by omega)
   have hgBi:(growP b n (firsts cf cn) cl (gT b n (firsts f ln) q T i)).1=gB b n (firsts f ln) q T i:=by rw [hfc,hCV,hcl]; rfl
   have hgTi:(growP b n (firsts cf cn) cl (gT b n (firsts f ln) q T i)).2=gT b n (firsts f ln) q T (i + 1):=by rw [hfc,hCV,hcl]; rfl
   rw [hgBi,hgTi] at IH
   obtain ⟨gb,hgbb⟩:=eqv (gB b n (firsts f ln) q T i)
   rw [← hgbb] at IH
   simp only [rowI,labAV] at IH
   refine man_callKL rfl rfl rfl rfl hF rfl rfl (fun _ _ => by kernel_rfl) IH (by omega) (by omega) (hE2 _) (fun _ => .inr rfl) (zl) rfl (fun x a0 w1 hF => ?_)
   refine lnd 7 hB TA_ok [41,8] [4,5,6,7,8] [] hF (fun X8 a0 w1 hF => ?_)
   have hoff2:∀ T',(lmR bT T').off l:=fun T' => lmR_off (by omega)
   refine rtest_ok hF rfl (fun hb hF => ?_) (fun hb hF => ?_)
   ·have hgf:gB b n (firsts f ln) q T i=false:=by rw [← hgbb]; subst hB; cases gb<;>first | rfl | cases hb
    refine wpIn_seq (rrg hB TA_ok [] [4,5,6,7,8] [] hF fun X9 a0 w1 hF => ?_)
    refine wpIn_ret ?_
    exact ⟨lmR bT (gT b n (firsts f ln) q T (i + 1)),_,[],⟨rfl,i,hi,hce,hgb,hgf,rfl,hmemc.symm,rfl⟩,hoff2 _,hF.bare⟩
   have hgt:gB b n (firsts f ln) q T i=true:=by rw [← hgbb]; subst hB; cases gb<;>first | rfl | cases hb
   refine wpIn_skip ?_
   refine ⟨lmR bT (gT b n (firsts f ln) q T (i + 1)),_,[],⟨fun j hj => ?_,rfl,hmemc.symm,rfl⟩,hoff2 _,hF.bare⟩
   rcases Nat.lt_or_ge j i with h1 | h1
   ·exact hgb j h1
   rw [show j=i by omega]; exact hgt
  rintro e w3 ⟨v,rfl,K',mem',gr',ho,hh⟩
  have hDo:∀ T',∀ D' ∈ [D],(lmR bT T').off D' ∧ w.heap.size ≤ D':=fun T' D' hD' => by
   simp only [List.mem_singleton] at hD'
   subst hD'
   exact ⟨lmR_off (by omega),hD0⟩
  rcases hh with ⟨hm',hgb,rfl,rfl,rfl⟩ | ⟨cc,⟨rfl,i,hi,hce,hgb,hgf,rfl,rfl,rfl⟩,hm'⟩
  ·refine ⟨v,rfl,_,_,_,ho,.inl ⟨hm',fun a' w' hF => ?_⟩⟩
   rw [hmemc] at hF
   refine wpN_of (wp_seq (rg hB TA_ok [8] [8] [] hF fun X9 a0 w1 hF => ?_))
   have hGe:G=(true,gT b n (firsts f ln) q T (if chE q 0=0 then 2 else 0)):=by
    by_cases hce:chE q 0=0
    ·rw [if_pos hce] at hgb ⊢
     rw [hG,grow_in hnf hnl hce,if_pos (hgb 0 (by decide)),hgb 1 (by decide)]
    rw [if_neg hce]
    rw [hG,grow_none hnf hnl hce]
   refine wp_ret (rmM (res:=fun _ => ⟨.bool (.v G.1),[],[]⟩) (J:=fun _ => lmR bT G.2) hB TA_ok [D] hF (hDo _) ⟨0,fun _ => none,fun _ => 0,fun _ => .empty⟩ [] (hhm _) (he:=?he) (hJ:=by rw [hGe]; exact fun _ _ h => h)).1
   case he => rw [hGe]; subst hB; exact Sim.bool rfl
  refine ⟨v,rfl,_,_,_,ho,.inr ⟨.ret,hm',fun a' w' hF => ?_⟩⟩
  rw [hmemc] at hF
  have hGe:G=(false,gT b n (firsts f ln) q T (i + 1)):=by
   rw [hG,grow_in hnf hnl hce]
   rcases i with _ | _ | i
   ·rw [if_neg (by rw [hgf]; decide)]
   ·rw [if_pos (hgb 0 (by decide)),hgf]
   omega
  refine wp_ret (rmM (res:=fun _ => ⟨.bool (.v G.1),[],[]⟩) (J:=fun _ => lmR bT G.2) hB TA_ok [D] (hF.keep [8] [8]) (hDo _) ⟨0,fun _ => none,fun _ => 0,fun _ => .empty⟩ [] (hhm _) (he:=?he2) (hJ:=by rw [hGe]; exact fun _ _ h => h)).1
  case he2 => rw [hGe]; subst hB; exact Sim.bool rfl
section
variable {P:Program} {fn:FuncId} {Q:Exit → Act → World → Prop} {C:Cx} {nt t:Nat} {b:Bool} {l:List (Nat × AV)} {mem:List (Nat × Blk)} {gr:List (Nat × Gr)} {a:Act} {w:World} {x y:Code}
end
section
variable {α : Type} {el:α → AV} {D:DataW Value} {b r:Nat} {L:List (Lab × α)} {left:Lit → Bool} {cnt:Nat} {m m':Nat → Nat → Prop} {w w':World}
def rgK (el:α → AV) (D:DataW Value) (b r:Nat) (L:List (Lab × α)) (left:Lit → Bool) (cnt:Nat):Kn:=⟨fun m w => LmD el D b L m w ∧ w.ranges Tryz.prog 37 hR b r L.length D left cnt,fun k h => ⟨h.1.keep k,ranges_keep k h.2⟩⟩
def spK (el:α → AV) (D:DataW Value) (b r:Nat) (L:List (Lab × α)) (left:Lit → Bool) (bb:Bool) (key v:Value) (kl:Lit) (cnt:Nat):Kn:=⟨fun m w => LmD el D b L m w ∧ (bb=true → w.ranges Tryz.prog 37 hR b r L.length D (fun x => left x && !x.sameKey kl) cnt ∧ EntryAt Tryz.prog w r key v),fun k h => ⟨h.1.keep k,fun hb => ⟨ranges_keep k (h.2 hb).1,entry_keep k (h.2 hb).2⟩⟩⟩
def etK (el:α → AV) (D:DataW Value) (b r:Nat) (L:List (Lab × α)) (left:Lit → Bool) (key v:Value) (cnt:Nat):Kn:=⟨fun m w => LmD el D b L m w ∧ w.ranges Tryz.prog 37 hR b r L.length D left cnt ∧ EntryAt Tryz.prog w r key v,fun k h => ⟨h.1.keep k,ranges_keep k h.2.1,entry_keep k h.2.2⟩⟩
theorem LmD.entry (h:LmD el D b L m w) {key v:Value} {kl:Lit} (hk:Go.keyOf Tryz.prog 37 key=some kl) (hh:Maps.has D kl=true) (ha:∀ zd,D.atKey kl zd = .held v):∃ p ∈ L,keyL p.1=kl ∧ key=(labAV p.1).den ∧ v=(el p.2).den:=by
 obtain ⟨p,hp,he⟩:=(h.has kl).1 hh
 refine ⟨p,hp,he,?_,?_⟩
 ·exact labK.inj hk (he ▸ key_lab (h.labs p hp))
 have h1:=h.at_ p hp (.held v)
 rw [he,ha] at h1
 injection h1
theorem keyL_same_refl (l:Lab):(keyL l).sameKey (keyL l)=true:=by simp [keyL,Lit.sameKey]
theorem keyL_same {l l':Lab} (h:LabOk l) (h':LabOk l'):(keyL l).sameKey (keyL l')=decide (l=l'):=by
 by_cases he:l=l'
 ·subst he; rw [keyL_same_refl,decide_eq_true rfl]
 rw [decide_eq_false he]
 have:keyL l ≠ keyL l':=fun e => he (keyL_inj h h' e)
 unfold keyL at this ⊢
 simp only [Lit.sameKey]
 simpa using this
end
def nxP (l:List Lab) (q:Lab):Lab:=(getA q (nexA (labF l) l.length l.length)).getD ⟨0,0⟩
theorem leaves_mem {l:List Rw} {p:Lab → Prop} (h:∀ w ∈ l,p w.lab):∀ i,i < (leavesP l).length → p (labF (leavesP l) i):=by
 intro i hi
 have hm:labF (leavesP l) i ∈ leavesP l:=by
  unfold labF
  rw [List.getD_eq_getElem?_getD,List.getElem?_eq_getElem hi]
  exact List.getElem_mem hi
 have h2:labF (leavesP l) i ∈ leafs l:=(sortL_perm _).mem_iff.1 hm
 unfold leafs at h2
 obtain ⟨w,hw,he⟩:=List.mem_map.1 h2
 rw [← he]
 exact h w (List.mem_filter.1 hw).1
section
variable {K:Kn} {P:Program} {T:List (Nat × TI)} {a:Act} {w:World} {m:Nat → Nat → Prop} {w0:World} {fn:Func} {rs:List ResultVar} {r:List AV × List Ob} {B:Alg} {nt:Nat} {tm:List (Nat × AV)} {mem:List (Nat × Blk)} {gr:List (Nat × Gr)}
end
def ldK {α : Type} (el:α → AV) (D:DataW Value) (b:Nat) (L:List (Lab × α)):Kn:=⟨LmD el D b L,fun k h => h.keep k⟩
theorem zLab_run (w:World):(zeroValue 37).run Tryz.prog w = .ok (labAV ⟨0,0⟩).den w:=by kernel_rfl
theorem zLab_ok (m:Nat → Nat → Prop) (w:World) (q:Lab):Ok m w (labAV q):=by
 unfold labAV
 exact .agg _ (by intro v hv; simp only [List.mem_cons,List.not_mem_nil,or_false] at hv; rcases hv with rfl | rfl<;>rfl) (by intro v hv; simp only [List.mem_cons,List.not_mem_nil,or_false] at hv; rcases hv with rfl | rfl<;>exact .int _ _)
def rwOf (p:Lab × Rec):Rw:=⟨p.1,1,p.2⟩
def insE (p:Lab × Rec):List (Lab × Rec) → List (Lab × Rec)
 | [] => [p]
 | q :: l => if lessL p.1 q.1=true then p :: q :: l else q :: insE p l
def sortE (l:List (Lab × Rec)):List (Lab × Rec):=l.foldl (fun o x => insE x o) []
def leE (a b:Lab × Rec):Prop:=leL a.1 b.1
theorem insE_perm (x:Lab × Rec):∀ l:List (Lab × Rec),(insE x l).Perm (x :: l)
 | [] => List.Perm.refl _
 | y :: l => by
  unfold insE
  split
  ·exact List.Perm.refl _
  exact (List.Perm.cons _ (insE_perm x l)).trans (List.Perm.swap _ _ _)
theorem insE_sorted (x:Lab × Rec):∀ {l:List (Lab × Rec)},l.Pairwise leE → (insE x l).Pairwise leE
 | [],_ => List.pairwise_singleton _ _
 | y :: l,h => by
  have h':=List.pairwise_cons.1 h
  unfold insE
  split
  ·rename_i hx
   refine List.pairwise_cons.2 ⟨fun z hz => ?_,h⟩
   rcases List.mem_cons.1 hz with rfl | hz
   ·exact less_le hx
   exact leL_trans (less_le hx) (h'.1 z hz)
  rename_i hx
  refine List.pairwise_cons.2 ⟨fun z hz => ?_,insE_sorted x h'.2⟩
  rcases List.mem_cons.1 ((insE_perm x l).mem_iff.1 hz) with rfl | hz
  ·exact (Bool.not_eq_true _).mp hx
  exact h'.1 z hz
theorem sortE_go (l:List (Lab × Rec)):∀ (o:List (Lab × Rec)),(l.foldl (fun o x => insE x o) o).Perm (l ++ o) ∧ (o.Pairwise leE → (l.foldl (fun o x => insE x o) o).Pairwise leE):=by
 induction l with
 | nil => exact fun o => ⟨List.Perm.refl _,id⟩
 | cons x l ih =>
  intro o
  obtain ⟨h1,h2⟩:=ih (insE x o)
  exact ⟨h1.trans (((insE_perm x o).append_left l).trans List.perm_middle),fun ho => h2 (insE_sorted x ho)⟩
theorem sortE_perm (l:List (Lab × Rec)):(sortE l).Perm l:=by
 have:=(sortE_go l []).1
 rwa [List.append_nil] at this
theorem sortE_sorted (l:List (Lab × Rec)):(sortE l).Pairwise leE:=(sortE_go l []).2 .nil
def fixN (NX:Lab → Lab) (w:Rw):Rw:=if w.r.kind=1 then { w with r:={ w.r with next:=NX w.lab } } else w
def growT (n:Nat) (f:Nat → Itm) (b:Int):Bool × List (Lab × Rec):=growP b 65 (firsts f n) ⟨0,0⟩ []
def bldE (n:Nat) (f:Nat → Itm) (b:Int):Int:=
 if b < 1 ∨ b > 16 ∨ oddB n f=true ∨ srtB n f=false ∨ dupB n f=true then 1 else if 500 < n then 2 else if (growT n f b).1=true then 0 else 2
def bld0 (n:Nat) (f:Nat → Itm) (b:Int):List Rw:=(sortE (growT n f b).2).map rwOf
def bldR (n:Nat) (f:Nat → Itm) (b:Int):List Rw:=if bldE n f b=0 then (bld0 n f b).map (fixN (nxP (leavesP (bld0 n f b)))) else []
theorem fresh_left {left:Lit → Bool} {p:Lab × RA}:∀ {L:List (Lab × RA)},(L.map (·.1)).Nodup → (∀ q ∈ L,LabOk q.1) → p ∈ L → left (keyL p.1)=true →
  (L.filter fun q => left (keyL q.1)).Perm (p :: L.filter fun q => left (keyL q.1) && !(keyL q.1).sameKey (keyL p.1))
 | q :: L,hr,hl,hp,h1 => by
  have hr':=List.nodup_cons.1 hr
  rcases List.mem_cons.1 hp with rfl | hp
  ·rw [List.filter_cons,if_pos h1,List.filter_cons,keyL_same_refl]
   simp only [Bool.not_true,Bool.and_false,Bool.false_eq_true,if_false]
   refine List.Perm.cons _ ?_
   have:∀ q ∈ L,(left (keyL q.1))=(left (keyL q.1) && !(keyL q.1).sameKey (keyL p.1)):=by
    intro q hq
    rw [keyL_same (hl q (by simp [hq])) (hl p (by simp)),decide_eq_false (fun e => hr'.1 (List.mem_map.2 ⟨q,hq,e⟩))]
    simp
   rw [List.filter_congr this]
  have hne:q.1 ≠ p.1:=fun e => hr'.1 (List.mem_map.2 ⟨p,hp,e.symm⟩)
  have ih:=fresh_left hr'.2 (fun q hq => hl q (by simp [hq])) hp h1
  rw [List.filter_cons,List.filter_cons,keyL_same (hl q (by simp)) (hl p (by simp [hp])),decide_eq_false hne]
  simp only [Bool.not_false,Bool.and_true]
  split
  ·exact (List.Perm.cons _ ih).trans (List.Perm.swap _ _ _)
  exact ih
def rwA (p:Lab × RA):RowA:=⟨p.1,1,p.2⟩
theorem build_fin {TA:List (Lab × RA)} (hnd:(TA.map (·.1)).Nodup) {h h':Nat → RowA} {k:Nat} (hp:(rwsA h k).Perm (TA.map fun p => (rwA p).abs)) (hp':((List.range k).map h').Perm ((List.range k).map h)) (hs:∀ i j,i < j → j < k → labLt (h' j).lab (h' i).lab=false):rwsA h' k=(sortE (absT TA)).map rwOf:=by
 have e1:(TA.map fun p => (rwA p).abs)=(absT TA).map rwOf:=by unfold absT; rw [List.map_map]; rfl
 have hperm:(rwsA h' k).Perm ((sortE (absT TA)).map rwOf):=by
  refine List.Perm.trans ?_ (hp.trans (by rw [e1]; exact ((sortE_perm (absT TA)).map rwOf).symm))
  have:=hp'.map RowA.abs
  simp only [List.map_map] at this
  exact this
 have hlabs:((absT TA).map rwOf).map (·.lab)=TA.map (·.1):=by unfold absT; rw [List.map_map,List.map_map]; rfl
 have hnd2:(((sortE (absT TA)).map rwOf).map (·.lab)).Nodup:=by
  have:=((sortE_perm (absT TA)).map rwOf).map (·.lab)
  exact this.nodup_iff.2 (by rw [hlabs]; exact hnd)
 refine List.Perm.eq_of_pairwise (le:=fun a b:Rw => leL a.lab b.lab) ?_ ?_ ?_ hperm
 ·intro a b ha hb h1 h2
  have hl:a.lab=b.lab:=leL_anti h1 h2
  have ha':=hperm.mem_iff.1 ha
  have key:∀ {l:List Rw},(l.map (·.lab)).Nodup → ∀ {a b:Rw},a ∈ l → b ∈ l → a.lab=b.lab → a=b:=by
   intro l
   induction l with
   | nil => intro _ a b ha; cases ha
   | cons x l ih =>
    intro hn a b ha hb hab
    have hn':=List.nodup_cons.1 hn
    rcases List.mem_cons.1 ha with hax | hax
    ·rcases List.mem_cons.1 hb with hbx | hbx
     ·rw [hax,hbx]
     exact (hn'.1 (List.mem_map.2 ⟨b,hbx,by rw [← hab,hax]⟩)).elim
    rcases List.mem_cons.1 hb with hbx | hbx
    ·exact (hn'.1 (List.mem_map.2 ⟨a,hax,by rw [hab,hbx]⟩)).elim
    exact ih hn'.2 hax hbx hab
  exact key hnd2 ha' hb hl
 ·rw [List.pairwise_iff_getElem]
  intro i j hi hj hij
  have hj':j < k:=by rw [listA_len] at hj; exact hj
  have hi':i < k:=by omega
  have e:∀ t (g:t < (rwsA h' k).length),t < k → (rwsA h' k)[t]=(h' t).abs:=by
   intro t g ht
   have:=listA_get RowA.abs h' ht
   rw [List.getElem?_eq_getElem g] at this
   exact Option.some.inj this
  rw [e i hi hi',e j hj hj']
  show lessL (h' j).lab (h' i).lab=false
  rw [← labLt_le]
  exact hs i j hij hj'
 rw [List.pairwise_map]
 exact sortE_sorted _
theorem man_raw {C:Cx} {P:Program} {Q:Exit → Act → World → Prop} {ops:Array Oper} {s:St} {a:Act} {w:World} {L rest:List Oper} {o:Oper} {cl:Call} {g:Operand} {f:FuncId} {l r args:List AV} {d:Nat} (hL:L=o :: rest) (hg:o.guard=none) (hop:o.op = .call cl) (hcal:cl.callee = .value g) (hdst:o.dst=some d) (h:Fits C s a w) (hgv:val s [] g = .fn f l r) (hl:vals s [] cl.args.toList=some args) (hen:Enters P f)
  (R:Value → World → Prop) (hc:Calls P f ((l ++ args ++ r).map AV.den).toArray w fun e w' => ∃ v,e = .returned v ∧ R v w') (K:∀ v w',R v w' → wpList P ops Q rest (a.put (some d) v) w'):wpList P ops Q L a w:=by
 refine man_op hL hg ?_
 obtain ⟨hrun,_⟩:=call_run hop hcal h hgv hl hen
 unfold Oper.wp
 rw [hrun]
 simp only [Oper.upon]
 refine hc.mono ?_
 rintro e w' ⟨v,rfl,h1⟩
 rw [hdst]
 exact K v w' h1
theorem Spec.args' {P:Program} {f:FuncId} {args args':List AV} {res:Atom → AV} (h:Spec P f args' res) (hs:SimL args args'):Spec P f args res:=by
 intro m w hm ha
 rw [hs.map]
 exact h m w hm (hs.ok ha)
theorem clone_own (A:Option Addr) (n c:Nat) (f:Nat → Itm) (hn:n ≤ 1000000) {m:Nat → Nat → Prop} {w:World} (hok:Ok m w (rowI A n c f)):Calls Tryz.prog 25 ([rowI A n c f].map AV.den).toArray w fun e w' => ∃ v,e = .returned v ∧ ∃ A' c',v = .slice A' n c' ∧ Own w' w.heap.size 63 2 (.slice A' n c') n (rowFlat (fun t => itC (f t)) n) ∧ Below w.heap.size w w':=by
 have hsim:Sim (rowI A n c f) (rowI A (firsts f n).length c (itF (firsts f n))):=Sim.resl (firsts_len f n).symm fun t ht => by rw [firsts_len] at ht; rw [firsts_get f n t ht]
 have hr:=Cl.its_reads (hsim.2.2 _ _ hok)
 have:=Cl.clone_c w A c (firsts f n) hr (by rw [firsts_len]; omega)
 rw [firsts_len] at this
 refine this.mono ?_
 rintro e w' ⟨v,rfl,hO,hb⟩
 obtain ⟨A',c',rfl,_,_⟩:=hO.isSlice
 rw [firsts_len] at hO
 refine ⟨_,rfl,A',c',by rw [firsts_len],?_,hb⟩
 unfold OwnL at hO
 rw [firsts_len] at hO
 have e:rowFlat (fun t => itC (f t)) n=(firsts f n).flatMap Cl.itmE:=by
  have:=Cl.rowFlat_its (firsts f n)
  rw [firsts_len] at this
  rw [← this]
  unfold rowFlat
  rw [List.flatMap_def,List.flatMap_def]
  congr 1
  apply List.map_congr_left
  intro t ht
  show (itC (f t)).map AV.den=(itC (itF (firsts f n) t)).map AV.den
  rw [firsts_get f n t (List.mem_range.1 ht)]
 rw [e]
 exact hO
end Go.Proofs.YtjgnoldondblaaaGreat.Sym
