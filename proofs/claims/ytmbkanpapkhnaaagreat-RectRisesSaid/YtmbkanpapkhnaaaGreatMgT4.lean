/-
  SymRcv, SymNx0, OpenS25, OpenW25, PlSeek, PlHas, PlSpan, PlMor, PlMorD, PlMorW, PlRect, OpenR30, PlEr, PlWok, ItClone, SymShP, SymShQ, SymShD, SortGen, CmpBase, LaySort, SortBase, SymSrt, SymRSh3, SymLw0, PlGood, PlRun, PlTree, PlDir, PlEnds, PlHasT, SymSk1, SymSk2, SymStl: put together by a program of mine (a claim may have 60 files at most). Conditions: none.
-/
import Derived.Test.YtmbkanpapkhnaaaGreatMgT3
import Derived.Shelf.SlSortCmp.WholeK
import Derived.Shelf.SlSortCmp.NoneTotal
import Derived.Deep.RegionHeld3
import Derived.Ground.SlsfProg
import Derived.Shelf.SlGeneric
set_option linter.unusedVariables false
set_option linter.unusedSimpArgs false
set_option maxRecDepth 100000
set_option maxHeartbeats 1600000
namespace Go.Proofs.YtmbkanpapkhnaaaGreat.Sym
open Go.RowKit
theorem Sim.of_eq{v v':AV}(h:v=v'):Sim v v':=h ▸ Sim.refl v
inductive Rcv:FrameMode->FrameMode->AV->Prop
 |no:Rcv .returning .returning .nili
 |yes (t:Nat) (v:AV):Rcv (.panicking [{ v:=.iface t v.den,recovered:=false }]) (.panicking [{ v:=.iface t v.den,recovered:=true }]) (.ifc t v)
def rh(P:Program)(f:FuncId)(u u':FrameMode)(x:AV)(args:List AV)(pre:List (Nat×Blk))(res:j1->CR):Prop:=
 ∀(m:Nat->Nat->Prop) (w:World),(∀b o,m b o->b<w.heap.size)->(∀v∈args,Ok m w v)->M4 m w pre->Ok m w x->CallsD P f (args.map AV.den).toArray u w fun e um w'=>um=u'/\nm m w pre res e w'
section
variable {P:Program}
theorem Z1{fn:Func}{c₀:Frame}{cs:List Frame}{U:FrameMode}{R:Ending->World->Prop}{e:Exit}{a:Act}{w:World}(h:bodyPost P fn R e a w):bodyPostS P fn c₀ cs (fun e u w=>u=U/\R e w) e a ({ c₀ with mode:=U }::cs) w:=by
 cases e with
 |normal=>obtain⟨h1,v,h2,h3⟩:=h;exact⟨h1,U,rfl,v,h2,rfl,h3⟩
 |ret=>obtain⟨h1,v,h2,h3⟩:=h;exact⟨h1,U,rfl,v,h2,rfl,h3⟩
 |panic ch=>obtain⟨h1,h2⟩:=h;exact⟨h1,U,rfl,rfl,h2⟩
 |outgrown=>exact⟨U,rfl,h⟩
 |exit id=>exact h.elim
 |goto l=>exact h.elim
theorem gn{u u':FrameMode}{x:AV}(hr:Rcv u u' x){m:Nat->Nat->Prop}{w:World}{pre:List (Nat×Blk)}(hm:∀b o,m b o->b<w.heap.size)(hp:M4 m w pre){args:List AV}(hargs:∀v∈args,Ok m w v)(hx:Ok m w x){f:FuncId}{fn:Func}{id:Nat}{o:Oper}{rest after:Code}{ts:Array TypeId}{d:Nat}{R:Ending->World->Prop}
  (hf:P.funcs[f]? = some fn) {ops:Array Oper} (hbd:fn.body=some (.seq (.seq (.region id ops false) rest) after)) (hops:ops = #[o]) (ho:o.op = .call (Call.mk (.builtin .recover) #[] ts)) (hg:o.guard=none) (hd:o.dst=some d) (hn:args.length<=fn.ntmps) (hdn:d<fn.ntmps)
  (h:∀a,f7 ⟨m,w,ats pre,[],noK⟩ (St.put ⟨fn.ntmps,A8 0 args,[],pre,[]⟩ (some d) x) a w->rest.wp P (Exit.then (after.wp P (bodyPost P fn R)) (bodyPost P fn R)) a w):CallsD P f (args.map AV.den).toArray u w fun e um w'=>um=u'/\R e w':=by
 subst hops;refine callsD_of_wpS hf hbd fun c₀ cs hu=>?_
 apply wpS_seq;apply wpS_seq;apply wpS_region;have h0:=bp hm hp hargs hn;have mono:Ok (St.m ⟨fn.ntmps,A8 0 args,[],pre,[]⟩ ⟨m,w,ats pre,[],noK⟩) w x:=hx.mono fun b' o u h1 h2=>⟨h1,fun h=>by
  rcases h with h|⟨k,e,he,hat⟩|⟨k,e,he,_⟩
  .exact h2 h
  .exact h2 (hat ▸ hp.free _ (F9 he) o)
  cases he⟩
 have h1:=h0.put (some d) (fun t ht=>by injection ht with ht;subst ht;exact hdn) x (fun _=>mono) x.den (fun _=>rfl);have h2:=h _ h1;have hrun:∀a:Act,(execOp a.eval o).run P w = .ok .recover w:=by
  intro a;simp[execOp,ho,resolve,invoke,builtin]
 have hrg:List.range (#[o]:Array Oper).size=[0]:=rfl;rw[hrg];have hw:∀tm:Array Value,Region.wanted o (yielded #[o] tm)=true:=by intro tm;simp[Region.wanted,hg]
 have fin1:∀a w,after.wp P (bodyPost P fn R) a w->after.wpS P (bodyPostS P fn c₀ cs (fun e um w'=>um=u'/\R e w')) a ({ c₀ with mode:=u' }::cs) w:=fun a w ha=>wpS_of_wp (Code.wp_mono (fun e a w hb=>Z1 hb) ha)
 have fin:∀a,rest.wp P (Exit.then (after.wp P (bodyPost P fn R)) (bodyPost P fn R)) a w->rest.wpS P (Exit.thenS (after.wpS P (bodyPostS P fn c₀ cs (fun e um w'=>um=u'/\R e w'))) (bodyPostS P fn c₀ cs (fun e um w'=>um=u'/\R e w'))) a ({ c₀ with mode:=u' }::cs) w:=fun a ha=>wpS_of_wp (Code.wp_mono (fun e a w hb=>by
  cases e with
  |normal=>exact fin1 a w hb
  |ret=>exact Z1 (P:=P) (fn:=fn) (c₀:=c₀) (cs:=cs) (a:=a) (w:=w) (U:=u') (R:=R) (e:=.ret) hb
  |panic ch=>exact Z1 (P:=P) (fn:=fn) (c₀:=c₀) (cs:=cs) (a:=a) (w:=w) (U:=u') (R:=R) (e:=.panic ch) hb
  |outgrown=>exact Z1 (P:=P) (fn:=fn) (c₀:=c₀) (cs:=cs) (a:=a) (w:=w) (U:=u') (R:=R) (e:=.outgrown) hb
  |exit id=>exact Z1 (P:=P) (fn:=fn) (c₀:=c₀) (cs:=cs) (a:=a) (w:=w) (U:=u') (R:=R) (e:=.exit id) hb
  |goto l=>exact Z1 (P:=P) (fn:=fn) (c₀:=c₀) (cs:=cs) (a:=a) (w:=w) (U:=u') (R:=R) (e:=.goto l) hb) ha)
 have hsz:(args.map AV.den).toArray.size=args.length:=by simp
 have hact:({ tmps:=(args.map AV.den).toArray++Array.replicate (fn.ntmps-(args.map AV.den).toArray.size) undef,defers:=[] }:Act) = { tmps:=(args.map AV.den).toArray++Array.replicate (fn.ntmps-args.length) undef,defers:=[] }:=by rw[hsz]
 rw[hact]
 cases hr with
 |no=>
  have hrec:recoverD (c₀::cs)=none:=by simp[recoverD,hu]
  have hc:({ c₀ with mode:=.returning }:Frame)=c₀:=by rw[<-hu]
  have:=fin _ h2;rw[hc]at this
  simpa[wpOpsS,hw,hrun,hrec,hd,Exit.thenS,AV.den]using this
 |yes t v=>
  have hrec:recoverD (c₀::cs)=some (.iface t v.den,{ c₀ with mode:=.panicking [{ v:=.iface t v.den,recovered:=true }] }::cs):=by simp[recoverD,hu]
  have:=fin _ h2
  simpa[wpOpsS,hw,hrun,hrec,hd,Exit.thenS,AV.den]using this
variable {C:Cx}
theorem jh{s:St}{a:Act}{w:World}{fn:Func}{R:Ending->World->Prop}{u u1:FrameMode}{f:FuncId}{l r:List AV}{ds:List Deferred}{x:AV}(h:f7 ⟨C.m0,C.w0,C.S,{ target:=.fn (.func f) (AV.denL r).toArray,args:=(AV.denL l).toArray }::ds,C.K⟩ s a w)(hu:u ≠ .run)(hen:o3 P f)
  {pre:List (Nat×Blk)} {sets:List (Nat×List AV)} {v:AV} (hsp:rh P f u u1 x (l++r) pre (fun _=>⟨v,sets,[]⟩)) (hok:∀v∈l++r,Ok (s.m C) w v) (hx:Ok (s.m C) w x) (hpre:∀e∈pre,i8 s.mem e.1=some e.2) (hnd:bU pre=true)
  (K:∀w',f7 ⟨C.m0,C.w0,C.S,ds,C.K⟩ (s.eff (.sets (upd pre sets))) { tmps:=a.tmps,defers:=ds } w'->Leaves P fn a.tmps R ds (settle u1) w'):Leaves P fn a.tmps R a.defers u w:=by
 have hlt:∀b o,s.m C b o->b<w.heap.size:=oi (C:=⟨C.m0,C.w0,C.S,{ target:=.fn (.func f) (AV.denL r).toArray,args:=(AV.denL l).toArray }::ds,C.K⟩) h
 refine sj h hu hen hpre hnd (fun hp=>(hsp (s.m C) w hlt hok hp hx).mono ?_) K
 rintro e u' w' ⟨rfl,x,rfl,_,hl⟩
 exact⟨⟨_,rfl⟩,rfl,hl⟩
end
section
variable {C:Cx} {P:Program} {Q:Exit->Act->World->Prop} {ops:Array Oper}
theorem ip{s:St}{a:Act}{w:World}{L rest:List Oper}{o:Oper}{x:Operand}{ti t d:Nat}{v:AV}{dd:TypeDesc}(hL:L=o::rest)(hg:o.guard=none)(hop:o.op = .typeAssert x ti t true)(hdst:o.dst=some d)(h:f7 C s a w)(hd:d<s.nt)(hx:val s [] x = .ifc t v)(hu:P.underlying t=some dd)(hni:∀ms,dd ≠ .interface ms)
  (K:∀a',f7 C (s.put (some d) (.tup [v,.bool .tt])) a' w->wpList P ops Q rest a' w):wpList P ops Q L a w:=by
 have hxv:=A7 h (q:=[]) (fun _ h=>by cases h) (x:=x) (by rw[hx];rfl);rw[hx]at hxv;have hok:Ok (s.m C) w v:=by cases hxv.2 with|ifc _ _ h=>exact h
 refine dW hL hg hdst h hd (v:=.tup [v,.bool .tt]) ?_ (.tup _ (fun y hy=>?_)) K
 .have e:a.eval x = .iface t v.den:=hxv.1
  simp only[execOp,hop,e,AV.den,AV.denL,BE.den]
  cases dd<;>first|exact absurd rfl (hni _)|simp[Instr.typeAssert,run_underlying hu]
 simp only[List.mem_cons,List.not_mem_nil,or_false]at hy
 rcases hy with rfl|rfl
 .exact hok
 exact .bool _
end
end Go.Proofs.YtmbkanpapkhnaaaGreat.Sym
namespace Go.Proofs.YtmbkanpapkhnaaaGreat.Sym
open Go Go.RowKit
def btw(v lo hi:Int):Bool:=decide (lo<=v)&&decide (v<=hi)
def E6(J:l4):Bool:=btw J.bucket 1 16&&btw J.budget 0 2000&&btw J.how 1 2&&btw J.most 0 500&&decide ((J.pn:Int)<=500)&&isL J.lab
def D8(g:r5):Bool:=(decide (g.code=0)||decide (g.code=8))&&(if g.has=true then N7 g.x.r.kd g.x.r.n g.x.r.f g.x.r.nx g.x.r.mrk else decide (g.x.r.kd=0)&&decide (g.x.r.n=0)&&decide (g.x.r.nx=⟨0,0⟩)&&decide (g.x.r.mrk=0))
def Q1(n:Nat)(f:Nat->r5):Bool:=(List.range n).all fun j=>D8 (f j)
theorem wZ{n j:Nat}{f:Nat->r5}(hj:j<n)(h:D8 (f j)=false):Q1 n f=false:=by
 rw[Bool.eq_false_iff];intro h2;have:=List.all_eq_true.1 h2 j (List.mem_range.2 hj);rw[h]at this;cases this
theorem lF{n:Nat}{f:Nat->r5}(h:∀j,j<n->D8 (f j)=true):Q1 n f=true:=List.all_eq_true.2 fun j hj=>h j (List.mem_range.1 hj)
theorem nj{n j:Nat}{f:Nat->r5}(h:Q1 n f=true)(hj:j<n):D8 (f j)=true:=List.all_eq_true.1 h j (List.mem_range.2 hj)
structure InG(g:r5):Prop where
 nx:U64 g.x.r.nx.bits
 ver:U64 g.ver
 len:g.x.r.n<=maxLen
 key:∀i,i<g.x.r.n->U64 (g.x.r.f i).key
theorem yZ{g:r5}(h:InG g)(hg:D8 g=true):eD g:=by
 refine⟨⟨h.nx,h.key,?_⟩,h.ver⟩;unfold D8 at hg;rw[Bool.and_eq_true]at hg;obtain⟨_,h2⟩:=hg
 by_cases hh:g.has=true
 .rw [if_pos hh]at h2
  exact(M8 h2).2.2.1
 rw[if_neg hh]at h2;simp only[Bool.and_eq_true,decide_eq_true_eq]at h2;omega
abbrev iz(A:Option Addr)(n c:Nat)(f:Nat->r5):AV:=.sl none A n c 8 (fun j=>N9 (f j))
def nt0:Nt:=⟨11,false,⟨#[]⟩⟩
def nY(n:Nat)(f:Nat->r5):Pst:=⟨n,f,nt0⟩
def l4.less(J:l4)(n:Nat):l4:={ J with budget:=J.budget-n }
structure bG(J:l4):Prop where
 lab:U64 J.lab.bits
 key:U64 J.key
 hi:U64 J.hi
theorem yQ{J:l4}{n:Nat}(hJ:bG J)(h:E6 J=true)(hn:n<=900000):u7 (J.less n):=by
 unfold E6 btw at h;simp only[Bool.and_eq_true,decide_eq_true_eq]at h;refine⟨?_,?_,hJ.lab,hJ.key,hJ.hi⟩
 .show -1000000<=J.budget-n;omega
 show J.budget-n<=1000000;omega
theorem Eg{g:r5}(hg:D8 g=true):xb g:=by
 unfold D8 at hg;simp only[Bool.and_eq_true,Bool.or_eq_true,decide_eq_true_eq]at hg;obtain⟨h1,h2⟩:=hg;refine⟨h1,fun hh=>?_,fun hh=>?_⟩
 .rw [if_pos hh]at h2;exact h2
 rw[if_neg (by rw[hh];decide)]at h2;simp only[Bool.and_eq_true,decide_eq_true_eq]at h2;exact⟨h2.1.1.1,h2.1.1.2,h2.1.2,h2.2⟩
theorem xZ{n:Nat}{f:Nat->r5}(hin:∀j,j<n->InG (f j))(h:Q1 n f=true):j8 (nY n f):=fun j hj=>⟨yZ (hin j hj) (nj h hj),Eg (nj h hj)⟩
abbrev nV(x:j1)(r:Rsl):AV:=.agg [.int .i64 r.code,.bool (.v r.had),.str r.val,.sl none (x.A 2) r.items.length (x.c 2) 2 (fun i=>itC (itF r.items i)),.int .u64 r.key,.bool (.v r.more)]
abbrev HK(r:Rsl):AV:=.agg [.int .i64 r.code,.bool (.v r.had),.str r.val,.sl none none 0 0 2 (fun _=>[]),.int .u64 r.key,.bool (.v r.more)]
def lI(f:FuncId)(k0 b:Nat)(J:l4)(A:Option Addr)(c:Nat)(p:Pst)(args:List AV)(r:Rs Rsl):Prop:=
 P2 Tryz.prog f (.ptr k0 b 0::args) [(k0,⟨b,139,D4 J A c p⟩)] (fun x=>match r with
  | .ok a p=>.ret ⟨nV x a,[(k0,D4 J (x.A 0) (x.c 0) p)],[]⟩
  | .stop w p=>.thr 40 (E8 (wqA x w)) [(k0,D4 J (x.A 0) (x.c 0) p)])
theorem s8.a{f:FuncId}{k0 b:Nat}{J:l4}{A:Option Addr}{c:Nat}{p:Pst}{args:List AV}{r:Rs Rsl}(h:s8 f k0 b J A c p args HK r)(hr:∀a q,r = .ok a q->a.items=[]):lI f k0 b J A c p args r:=by
 intro m w h1 h2 h3;refine(h m w h1 h2 h3).mono ?_
 rintro e w' ⟨x,hx⟩
 cases r with
 |stop wq q=>exact⟨x,hx⟩
 |ok a q=>
  refine⟨⟨x.b,fun i=>if i=2 then none else x.A i,fun i=>if i=2 then 0 else x.c i,x.s⟩,?_⟩;have hi:=hr a q rfl;obtain⟨he,hok,hl⟩:=hx;have hs:Sim (HK a) (nV ⟨x.b,fun i=>if i=2 then none else x.A i,fun i=>if i=2 then 0 else x.c i,x.s⟩ a):=by
   obtain⟨c1,h1,v1,it,k1,m1⟩:=a;simp only at hi;subst hi;exact Sim.agg ⟨zr,zr,zr,zq0,zr,zr,trivial⟩
  exact⟨by rw[he];exact congrArg _ hs.1,hs.2.2 _ _ hok,hl⟩
theorem lI.ok{f:FuncId}{k0 b:Nat}{J:l4}{A:Option Addr}{c:Nat}{p q:Pst}{args:List AV}{r:Rs Rsl}{a:Rsl}(h:lI f k0 b J A c p args r)(e:r = .ok a q) :
  P2 Tryz.prog f (.ptr k0 b 0::args) [(k0,⟨b,139,D4 J A c p⟩)] (fun x=>.ret ⟨nV x a,[(k0,D4 J (x.A 0) (x.c 0) q)],[]⟩):=by
 subst e;exact h
theorem lI.stop{f:FuncId}{k0 b:Nat}{J:l4}{A:Option Addr}{c:Nat}{p q:Pst}{args:List AV}{r:Rs Rsl}{w:Wq}(h:lI f k0 b J A c p args r)(e:r = .stop w q) :
  P2 Tryz.prog f (.ptr k0 b 0::args) [(k0,⟨b,139,D4 J A c p⟩)] (fun x=>.thr 40 (E8 (wqA x w)) [(k0,D4 J (x.A 0) (x.c 0) q)]):=by
 subst e;exact h
theorem Id{s s':St}{C C':Cx}(h0:∀b o,C'.m0 b o->C.m0 b o)(h:∀x∈s'.mem,∃k' e',i8 s.mem k'=some e'/\e'.at_=x.2.at_)(hg:s'.gr=[]){b o:Nat}(hh:s'.m C' b o):s.m C b o:=by
 rcases hh with hh|⟨k,e,he,hat⟩|⟨k,t,ht,_⟩
 .exact .inl (h0 b o hh)
 .obtain ⟨k',e',h1,h2⟩:=h _ (F9 he)
  exact .inr (.inl ⟨k',e',h1,h2.trans hat⟩)
 rw[hg]at ht;cases ht
theorem lI.ok'{f:FuncId}{k0 b:Nat}{J:l4}{A:Option Addr}{c:Nat}{p q:Pst}{args:List AV}{r:Rs Rsl}{a:Rsl}(h:lI f k0 b J A c p args r)(e:r = .ok a q){nn:Nat}{ff:Nat->Itm}(h1:nn=a.items.length)(h2:ff=itF a.items) :
  P2 Tryz.prog f (.ptr k0 b 0::args) [(k0,⟨b,139,D4 J A c p⟩)] (fun x=>.ret ⟨.agg [.int .i64 a.code,.bool (.v a.had),.str a.val,.sl none (x.A 2) nn (x.c 2) 2 (fun i=>itC (ff i)),.int .u64 a.key,.bool (.v a.more)],[(k0,D4 J (x.A 0) (x.c 0) q)],[]⟩):=by
 subst h1;subst h2;exact h.ok e
def dq(ok:Bool)(r:Rs Rsl):Wq×Int:=if ok=true then K6 r else(zWq,1)
abbrev wqB(x:j1)(w:Wq)(rr:RN)(nn:Nat)(ff:Nat->Itm):F7:=⟨w.kind,w.lab,w.ver,⟨x.A 1,x.c 1,rr⟩,⟨w.res.code,w.res.had,w.res.val,x.A 2,nn,x.c 2,ff,w.res.key,w.res.more⟩⟩
theorem l7.wq{P:Program}{f:Nat}{args:List AV}{r:Wq×Int}(h:l7 P f args (fun x=>.tup [E8 (wqA x r.1),.int .i64 r.2])){w:Wq}{e:Int}{rr:RN}{nn:Nat}{ff:Nat->Itm}(h1:w=r.1)(h2:e=r.2)(h3:rr=w.r.rn)(h4:nn=w.res.items.length)(h5:ff=itF w.res.items) :
  l7 P f args (fun x=>.tup [E8 (wqB x w rr nn ff),.int .i64 e]):=by
 subst h1;subst h2;subst h3;subst h4;subst h5;exact h
end Go.Proofs.YtmbkanpapkhnaaaGreat.Sym
namespace Go.Proofs.YtmbkanpapkhnaaaGreat.Sym
open Go Go.ChangeShapes Go.WideShapes Go.ChangeAt Go.RowKit Go.Deep
def OkL(w:World)(l:List AV):Prop:=∀v∈l,v.one=true/\Ok m0 w v
theorem OkL.nil{w:World}:OkL w []:=fun v hv=>by cases hv
theorem OkL.cons{w:World}{v:AV}{l:List AV}(h1:v.one=true)(h2:Ok m0 w v)(h:OkL w l):OkL w (v::l):=by
 intro u hu
 rcases List.mem_cons.1 hu with rfl|hu
 .exact ⟨h1,h2⟩
 exact h u hu
theorem OkL.int{w:World}{k:IntKind}{x:Int}{l:List AV}(h:OkL w l):OkL w (.int k x::l):=.cons rfl (.int _ _) h
theorem OkL.bool{w:World}{b:BE}{l:List AV}(h:OkL w l):OkL w (.bool b::l):=.cons rfl (.bool _) h
theorem OkL.append{w:World}{l l':List AV}(h:OkL w l)(h':OkL w l'):OkL w (l++l'):=by
 intro u hu
 rcases List.mem_append.1 hu with hu|hu
 .exact h u hu
 exact h' u hu
theorem OkL.agg{w:World}{l:List AV}(h:OkL w l):Ok m0 w (.agg l):=.agg _ (fun v hv=>(h v hv).1) fun v hv=>(h v hv).2
def Ao(w:World)(x:B1):Prop:=OkL w (G2 x)/\x.x.r.n<=maxLen/\o9 x.lab/\o9 x.x.r.nx/\U64 x.ver/\∀i,i<x.x.r.n->U64 (x.x.r.f i).key
theorem o9.u64{l:Lab}(h:o9 l):U64 l.bits:=jB h.2
theorem jU{α : Type} [Inhabited α]{k:Nat}{cells:α->List AV}{w:World}{A:Option Addr}{c:Nat}{l:List α}(hk:∀x,(cells x).length=k)(hl:l.length<=c)(hc:c<=maxLen)(ho:∀x∈l,OkL w (cells x))
  (h:0<(l.flatMap fun x=>(cells x).map AV.den).length->∃b off,A=some ⟨b,off,none⟩/\∀j u,(l.flatMap fun x=>(cells x).map AV.den)[j]? = some u->w.cell? ⟨b,off+j,none⟩=some u) (hk0:0<k):Ok m0 w (.sl none A l.length c k (fun i=>cells (l.getD i default))):=by
 have hg:∀i (hi:i<l.length),l.getD i default=l[i]:=fun i hi=>by simp[List.getD,hi]
 have hkm:∀x,((cells x).map AV.den).length=k:=fun x=>by rw[List.length_map,hk]
 have hpos:∀i,i<l.length->0<(l.flatMap fun x=>(cells x).map AV.den).length:=fun i hi=>by rw[F8 hkm];exact Nat.mul_pos (by omega) hk0
 refine .sl _ _ _ _ _ _ hl hc (fun i _=>hk _) (fun i hi=>?_) (fun i hi j u hu=>?_) (fun i hi v hv=>?_) (fun i hi v hv=>?_)
 .obtain ⟨b,off,hA,_⟩:=h (hpos i hi);exact⟨b,off,hA⟩
 .obtain ⟨b,off,hA,hcl⟩:=h (hpos i hi)
  rw[hg i hi]at hu;exact⟨b,off,hA,hcl _ u (gd hkm (List.getElem?_eq_getElem hi) hu),id⟩
 .rw [hg i hi]at hv;exact(ho _ (List.getElem_mem hi) v hv).1
 rw[hg i hi]at hv;exact(ho _ (List.getElem_mem hi) v hv).2
section
variable {H:Type} {enc:TypeId×Value->H} {w:World} {base:Nat} {spare:Nat->Bool} {held:Bool}
theorem gy(n:Nat)(cs:List Value)(y:DataW H×List MemPlace)(h:DataW.trod enc Tryz.prog w base spare held n 24 cs=some y):∃x:Lab,cs=[.int .i64 x.len,.int .u64 x.bits]/\o9 x:=by
 obtain⟨xs,m,rfl,rfl,hlen,hxl,hf⟩:=DataW.trod_struct Tryz.underlying24 h;have hC:Tryz.prog.cellsOf 24=2:=by kernel_rfl
 have h0:DataW.trod enc Tryz.prog w base spare held m 3 ((cs.drop 0).take (Tryz.prog.cellsOf 3))=xs[0]?:=hf 0 _ rfl;have h1:DataW.trod enc Tryz.prog w base spare held m 22 ((cs.drop 1).take (Tryz.prog.cellsOf 22))=xs[1]?:=hf 1 _ rfl;rw[hC]at hlen;rw[show Tryz.prog.cellsOf 3=1 by kernel_rfl]at h0;rw[show Tryz.prog.cellsOf 22=1 by kernel_rfl]at h1
 match cs,hlen with
 | [c0,c1],_=>
  match xs,hxl with
  | [y0,y1],_=>
   obtain⟨a,e0,_,wa⟩:=DataW.trod_int Tryz.underlying3 h0;obtain⟨b,e1,_,wb⟩:=DataW.trod_int Tryz.underlying22 h1;simp at e0 e1;subst e0;subst e1;exact⟨⟨a,b⟩,rfl,wa,wb⟩
theorem uI(n:Nat)(cs:List Value)(y:DataW H×List MemPlace)(h:DataW.trod enc Tryz.prog w base spare held n 33 cs=some y):∃(A:Option Addr) (c k:Nat) (f:Nat->Itm),cs=[(AV.sl none A k c 2 (fun i=>itC (f i))).den]/\Ok m0 w (.sl none A k c 2 (fun i=>itC (f i)))/\k<=maxLen/\∀i,i<k->U64 (f i).key:=by
 obtain⟨A,c,l,e1,hr,hl,hm,hwf⟩:=dQ (en:=itmE) Tryz.underlying33 (k:=2) (by kernel_rfl) K0 (by decide) Cu h;have hrow:Ok m0 w (r6 A l.length c (itF l)):=jb hl hm (fun x hx=>(hwf x hx).1) fun hp=>by
  obtain⟨b,off,hA,_,hc⟩:=hr hp;exact⟨b,off,hA,fun j u hu=>⟨hc j u hu,id⟩⟩
 exact⟨A,c,l.length,itF l,e1,hrow,by omega,fun i hi=>by simp only[itF,List.getD,List.getElem?_eq_getElem hi];exact(hwf _ (List.getElem_mem hi)).2⟩
theorem qJ(n:Nat)(cs:List Value)(y:DataW H×List MemPlace)(h:DataW.trod enc Tryz.prog w base spare held n 35 cs=some y):∃x:RA,cs=(nX x).map AV.den/\OkL w (nX x)/\x.r.n<=maxLen/\o9 x.r.nx/\∀i,i<x.r.n->U64 (x.r.f i).key:=by
 obtain⟨xs,m,rfl,rfl,hlen,hxl,hf⟩:=DataW.trod_struct Tryz.underlying35 h;have hC:Tryz.prog.cellsOf 35=5:=by kernel_rfl
 have h0:DataW.trod enc Tryz.prog w base spare held m 3 ((cs.drop 0).take (Tryz.prog.cellsOf 3))=xs[0]?:=hf 0 _ rfl;have h1:DataW.trod enc Tryz.prog w base spare held m 33 ((cs.drop 1).take (Tryz.prog.cellsOf 33))=xs[1]?:=hf 1 _ rfl;have h2:DataW.trod enc Tryz.prog w base spare held m 24 ((cs.drop 2).take (Tryz.prog.cellsOf 24))=xs[2]?:=hf 2 _ rfl;have h3:DataW.trod enc Tryz.prog w base spare held m 22 ((cs.drop 4).take (Tryz.prog.cellsOf 22))=xs[3]?:=hf 3 _ rfl;rw[hC]at hlen;rw[show Tryz.prog.cellsOf 3=1 by kernel_rfl]at h0;rw[show Tryz.prog.cellsOf 33=1 by kernel_rfl]at h1;rw[show Tryz.prog.cellsOf 24=2 by kernel_rfl]at h2;rw[show Tryz.prog.cellsOf 22=1 by kernel_rfl]at h3
 match cs,hlen with
 | [c0,c1,c2,c3,c4],_=>
  match xs,hxl with
  | [y0,y1,y2,y3],_=>
   obtain⟨kd,e0,_,_⟩:=DataW.trod_int Tryz.underlying3 h0;obtain⟨A,c,k,f,e1,hrow,hk,hky⟩:=uI _ _ _ h1;obtain⟨nx,e2,hb⟩:=gy _ _ _ h2;obtain⟨mk,e3,_,wm⟩:=DataW.trod_int Tryz.underlying22 h3;simp only[List.drop_zero,List.drop_succ_cons,List.take_succ_cons,List.take_zero,List.cons.injEq,and_true]at e0 e1 e2 e3;obtain⟨e2,e4⟩:=e2;subst e0;subst e1;subst e2;subst e3;subst e4;exact⟨⟨A,c,⟨k,f,kd,nx,mk⟩⟩,rfl,.int (.cons rfl hrow (.int (.int (.int .nil)))),hk,hb,hky⟩
theorem Cs(n:Nat)(cs:List Value)(y:DataW H×List MemPlace)(h:DataW.trod enc Tryz.prog w base spare held n 92 cs=some y):∃x:B1,cs=(G2 x).map AV.den/\Ao w x:=by
 obtain⟨xs,m,rfl,rfl,hlen,hxl,hf⟩:=DataW.trod_struct Tryz.underlying92 h;have hC:Tryz.prog.cellsOf 92=8:=by kernel_rfl
 have h0:DataW.trod enc Tryz.prog w base spare held m 24 ((cs.drop 0).take (Tryz.prog.cellsOf 24))=xs[0]?:=hf 0 _ rfl;have h1:DataW.trod enc Tryz.prog w base spare held m 22 ((cs.drop 2).take (Tryz.prog.cellsOf 22))=xs[1]?:=hf 1 _ rfl;have h2:DataW.trod enc Tryz.prog w base spare held m 35 ((cs.drop 3).take (Tryz.prog.cellsOf 35))=xs[2]?:=hf 2 _ rfl;rw[hC]at hlen;rw[show Tryz.prog.cellsOf 24=2 by kernel_rfl]at h0;rw[show Tryz.prog.cellsOf 22=1 by kernel_rfl]at h1;rw[show Tryz.prog.cellsOf 35=5 by kernel_rfl]at h2
 match cs,hlen with
 | [c0,c1,c2,c3,c4,c5,c6,c7],_=>
  match xs,hxl with
  | [y0,y1,y2],_=>
   obtain⟨l,e0,hl⟩:=gy _ _ _ h0;obtain⟨v,e1,_,wv⟩:=DataW.trod_int Tryz.underlying22 h1;obtain⟨x,e2,hx,hn,hnx,hky⟩:=qJ _ _ _ h2;simp only[List.drop_zero,List.drop_succ_cons,List.take_succ_cons,List.take_zero,List.cons.injEq,and_true,nX,List.map_cons,List.map_nil]at e0 e1 e2;obtain⟨e0,e3⟩:=e0;obtain⟨e4,e5,e6,e7,e8⟩:=e2;subst e0;subst e1;subst e3;subst e4;subst e5;subst e6;subst e7;subst e8;exact⟨⟨l,v,x⟩,rfl,.int (.int (.int hx)),hn,hl,hnx,jB wv,hky⟩
theorem zH(n:Nat)(cs:List Value)(y:DataW H×List MemPlace)(h:DataW.trod enc Tryz.prog w base spare held n 3 cs=some y):∃x:Int,cs=[Value.int .i64 x]/\True:=by
 obtain⟨a,e0,_,_⟩:=DataW.trod_int Tryz.underlying3 h;exact⟨a,e0,trivial⟩
theorem zG(n:Nat)(cs:List Value)(y:DataW H×List MemPlace)(h:DataW.trod enc Tryz.prog w base spare held n 25 cs=some y):∃(A:Option Addr) (c k:Nat) (f:Nat->Int),cs=[(AV.sl none A k c 1 (fun i=>[.int .i64 (f i)])).den]/\Ok m0 w (.sl none A k c 1 (fun i=>[.int .i64 (f i)])):=by
 obtain⟨A,c,l,e1,hr,hl,hm,hwf⟩:=dQ (en:=fun x:Int=>[Value.int .i64 x]) Tryz.underlying25 (k:=1) (by kernel_rfl) (fun _=>rfl) (by decide) zH h;have hrow:Ok m0 w (.sl none A l.length c 1 (fun i=>[.int .i64 (l.getD i default)])):=jU (cells:=fun x:Int=>[AV.int .i64 x]) (fun _=>rfl) hl hm (fun x _=>.int .nil) (fun hp=>by
  obtain⟨b,off,hA,_,hc⟩:=hr hp;exact⟨b,off,hA,fun j u hu=>hc j u hu⟩) (by decide)
 exact⟨A,c,l.length,fun i=>l.getD i default,e1,hrow⟩
variable {r:Reach} {b0:Nat} {v:Value} {d:DataW H} {p:List MemPlace}
def Ew(w:World)(v:Value):Prop:=∃(A:Option Addr) (n c:Nat) (f:Nat->B1),v=(aT A n c f).den/\Ok m0 w (aT A n c f)/\n<=maxLen/\∀i,i<n->Ao w (f i)
instance inhGot25 : Inhabited r5 := ⟨jv⟩
instance inhRow25 : Inhabited B1 := ⟨xd⟩
theorem Cc(hv:Value.okWide Tryz.prog w r b0 46 v)(h:DataW.Trod enc Tryz.prog w base spare held 46 v d p):Ew w v:=by
 obtain⟨a,len,cap,rfl⟩:=okWide_slice Tryz.underlying46 hv;obtain⟨fuel,hf⟩:=h;obtain⟨A,c,l,e1,hr,hl,hm,hwf⟩:=dQ (en:=fun x=>(G2 x).map AV.den) (wf:=Ao w) Tryz.underlying46 (k:=8) (by kernel_rfl) (fun _=>rfl) (by decide) Cs hf;simp only[Value.cells,List.cons.injEq,and_true]at e1;rw[e1];refine⟨A,l.length,c,fun i=>l.getD i default,rfl,jU (fun _=>rfl) hl hm (fun x hx=>(hwf x hx).1) (fun hp=>?_) (by decide),by omega,fun i hi=>?_⟩
 .obtain ⟨b,off,hA,_,hc⟩:=hr hp
  exact⟨b,off,hA,fun j u hu=>hc j u hu⟩
 have:l.getD i default=l[i]:=by simp[List.getD,hi]
 simp only[this];exact hwf _ (List.getElem_mem hi)
end
abbrev xh(A:Option Addr)(n c:Nat)(f:Nat->F7):AV:=.sl none A n c 15 (fun i=>V6 (f i))
def Al(w:World)(x:F7):Prop:=OkL w (V6 x)/\x.x.r.n<=maxLen/\o9 x.lab/\o9 x.x.r.nx/\∀i,i<x.x.r.n->U64 (x.x.r.f i).key
section
variable {H:Type} {enc:TypeId×Value->H} {w:World} {base:Nat} {spare:Nat->Bool} {held:Bool}
abbrev Fb(s:xa):List AV:=[.int .i64 s.code,.bool (.v s.had),.str s.val,.sl none s.A s.n s.c 2 (fun i=>itC (s.f i)),.int .u64 s.key,.bool (.v s.more)]
theorem Ct(n:Nat)(cs:List Value)(y:DataW H×List MemPlace)(h:DataW.trod enc Tryz.prog w base spare held n 38 cs=some y):∃x:xa,cs=(Fb x).map AV.den/\OkL w (Fb x):=by
 obtain⟨xs,m,rfl,rfl,hlen,hxl,hf⟩:=DataW.trod_struct Tryz.underlying38 h;have hC:Tryz.prog.cellsOf 38=6:=by kernel_rfl
 have h0:DataW.trod enc Tryz.prog w base spare held m 36 ((cs.drop 0).take (Tryz.prog.cellsOf 36))=xs[0]?:=hf 0 _ rfl;have h1:DataW.trod enc Tryz.prog w base spare held m 4 ((cs.drop 1).take (Tryz.prog.cellsOf 4))=xs[1]?:=hf 1 _ rfl;have h2:DataW.trod enc Tryz.prog w base spare held m 9 ((cs.drop 2).take (Tryz.prog.cellsOf 9))=xs[2]?:=hf 2 _ rfl;have h3:DataW.trod enc Tryz.prog w base spare held m 33 ((cs.drop 3).take (Tryz.prog.cellsOf 33))=xs[3]?:=hf 3 _ rfl;have h4:DataW.trod enc Tryz.prog w base spare held m 22 ((cs.drop 4).take (Tryz.prog.cellsOf 22))=xs[4]?:=hf 4 _ rfl;have h5:DataW.trod enc Tryz.prog w base spare held m 4 ((cs.drop 5).take (Tryz.prog.cellsOf 4))=xs[5]?:=hf 5 _ rfl;rw[hC]at hlen;rw[show Tryz.prog.cellsOf 36=1 by kernel_rfl]at h0;rw[show Tryz.prog.cellsOf 4=1 by kernel_rfl]at h1 h5;rw[show Tryz.prog.cellsOf 9=1 by kernel_rfl]at h2;rw[show Tryz.prog.cellsOf 33=1 by kernel_rfl]at h3;rw[show Tryz.prog.cellsOf 22=1 by kernel_rfl]at h4
 match cs,hlen with
 | [c0,c1,c2,c3,c4,c5],_=>
  match xs,hxl with
  | [y0,y1,y2,y3,y4,y5],_=>
   obtain⟨a,e0,_,_⟩:=DataW.trod_int Tryz.underlying36 h0;obtain⟨b,e1,_⟩:=DataW.trod_bool Tryz.underlying4 h1;obtain⟨s,e2,_,ws⟩:=DataW.trod_string Tryz.underlying9 h2;obtain⟨A,c,k,f,e3,hrow,hk,_⟩:=uI _ _ _ h3;obtain⟨kk,e4,_,_⟩:=DataW.trod_int Tryz.underlying22 h4;obtain⟨mo,e5,_⟩:=DataW.trod_bool Tryz.underlying4 h5;simp only[List.drop_zero,List.drop_succ_cons,List.take_succ_cons,List.take_zero,List.cons.injEq,and_true]at e0 e1 e2 e3 e4 e5;subst e0;subst e1;subst e2;subst e3;subst e4;subst e5;exact⟨⟨a,b,s,A,k,c,f,kk,mo⟩,rfl,.int (.bool (.cons rfl (.str _ ws) (.cons rfl hrow (.int (.bool .nil)))))⟩
theorem Cr(n:Nat)(cs:List Value)(y:DataW H×List MemPlace)(h:DataW.trod enc Tryz.prog w base spare held n 40 cs=some y):∃x:F7,cs=(V6 x).map AV.den/\Al w x:=by
 obtain⟨xs,m,rfl,rfl,hlen,hxl,hf⟩:=DataW.trod_struct Tryz.underlying40 h;have hC:Tryz.prog.cellsOf 40=15:=by kernel_rfl
 have h0:DataW.trod enc Tryz.prog w base spare held m 3 ((cs.drop 0).take (Tryz.prog.cellsOf 3))=xs[0]?:=hf 0 _ rfl;have h1:DataW.trod enc Tryz.prog w base spare held m 24 ((cs.drop 1).take (Tryz.prog.cellsOf 24))=xs[1]?:=hf 1 _ rfl;have h2:DataW.trod enc Tryz.prog w base spare held m 22 ((cs.drop 3).take (Tryz.prog.cellsOf 22))=xs[2]?:=hf 2 _ rfl;have h3:DataW.trod enc Tryz.prog w base spare held m 35 ((cs.drop 4).take (Tryz.prog.cellsOf 35))=xs[3]?:=hf 3 _ rfl;have h4:DataW.trod enc Tryz.prog w base spare held m 38 ((cs.drop 9).take (Tryz.prog.cellsOf 38))=xs[4]?:=hf 4 _ rfl;rw[hC]at hlen;rw[show Tryz.prog.cellsOf 3=1 by kernel_rfl]at h0;rw[show Tryz.prog.cellsOf 24=2 by kernel_rfl]at h1;rw[show Tryz.prog.cellsOf 22=1 by kernel_rfl]at h2;rw[show Tryz.prog.cellsOf 35=5 by kernel_rfl]at h3;rw[show Tryz.prog.cellsOf 38=6 by kernel_rfl]at h4
 match cs,hlen with
 | [c0,c1,c2,c3,c4,c5,c6,c7,c8,c9,c10,c11,c12,c13,c14],_=>
  match xs,hxl with
  | [y0,y1,y2,y3,y4],_=>
   obtain⟨k,e0,_,_⟩:=DataW.trod_int Tryz.underlying3 h0;obtain⟨l,e1,hl⟩:=gy _ _ _ h1;obtain⟨v,e2,_,wv⟩:=DataW.trod_int Tryz.underlying22 h2;obtain⟨x,e3,hx,hn,hnx,hky⟩:=qJ _ _ _ h3;obtain⟨s,e4,hs⟩:=Ct _ _ _ h4;simp only[List.drop_zero,List.drop_succ_cons,List.take_succ_cons,List.take_zero,List.cons.injEq,and_true,nX,Fb,List.map_cons,List.map_nil]at e0 e1 e2 e3 e4;obtain⟨e1,e5⟩:=e1;obtain⟨e6,e7,e8,e9,e10⟩:=e3;obtain⟨e11,e12,e13,e14,e15,e16⟩:=e4;subst e0;subst e1;subst e2;subst e5;subst e6;subst e7;subst e8;subst e9;subst e10;subst e11;subst e12;subst e13;subst e14;subst e15;subst e16;exact⟨⟨k,l,v,x,s⟩,rfl,.int (.int (.int (.int (hx.append hs)))),hn,hl,hnx,hky⟩
variable {r:Reach} {b0:Nat} {v:Value} {d:DataW H} {p:List MemPlace}
def As(w:World)(v:Value):Prop:=∃(A:Option Addr) (n c:Nat) (f:Nat->F7),v=(xh A n c f).den/\Ok m0 w (xh A n c f)/\n<=maxLen/\∀i,i<n->Al w (f i)
instance inhWnt25 : Inhabited F7 := ⟨⟨0, ⟨0, 0⟩, 0, zRA, ⟨0, false, .empty, none, 0, 0, fun _ => C0, 0, false⟩⟩⟩
theorem Cb(hv:Value.okWide Tryz.prog w r b0 47 v)(h:DataW.Trod enc Tryz.prog w base spare held 47 v d p):As w v:=by
 obtain⟨a,len,cap,rfl⟩:=okWide_slice Tryz.underlying47 hv;obtain⟨fuel,hf⟩:=h;obtain⟨A,c,l,e1,hr,hl,hm,hwf⟩:=dQ (en:=fun x=>(V6 x).map AV.den) (wf:=Al w) Tryz.underlying47 (k:=15) (by kernel_rfl) (fun _=>rfl) (by decide) Cr hf;simp only[Value.cells,List.cons.injEq,and_true]at e1;rw[e1];refine⟨A,l.length,c,fun i=>l.getD i default,rfl,jU (fun _=>rfl) hl hm (fun x hx=>(hwf x hx).1) (fun hp=>?_) (by decide),by omega,fun i hi=>?_⟩
 .obtain ⟨b,off,hA,_,hc⟩:=hr hp
  exact⟨b,off,hA,fun j u hu=>hc j u hu⟩
 have:l.getD i default=l[i]:=by simp[List.getD,hi]
 simp only[this];exact hwf _ (List.getElem_mem hi)
end
end Go.Proofs.YtmbkanpapkhnaaaGreat.Sym
namespace Go.Proofs.YtmbkanpapkhnaaaGreat.Sym
open Go Go.RowKit
def ofE(n:Int):Int:=if n<0 \/ 64<n then 1 else 0
def ofV(key n:Int):Lab:=if n<0 \/ 64<n then⟨0,0⟩else⟨n,(G7 key.toNat n.toNat:Nat)⟩
theorem qa{key:Int}(hk:U64 key)(n:Int):U64 (ofV key n).bits:=by
 unfold ofV
 split
 .exact ⟨by decide,by decide⟩
 exact uv hk _
theorem dV{key:Int}(n:Int):isL (ofV key n)=true:=by
 unfold ofV
 split
 .decide
 rename_i h
 rw[BY];refine⟨⟨by show 0<=n;omega,by show n<=64;omega⟩,?_⟩
 show((G7 ((G7 key.toNat n.toNat:Nat):Int).toNat n.toNat:Nat):Int)=_
 rw[Int.toNat_natCast,kJ]
abbrev B6:Lab:=⟨0,0⟩
structure Spt where
 lab:Lab
 g:r5
def kz:Rec:=⟨1,[],D6,0⟩
def L5(bk k key:Int):Nat->Lab->Pst->Rs Spt
 |0,_,p=>.stop zWq p
 |n+1,l,p=>(N0 k l p).bind fun g p=>
   if gk g 1=true then .ok ⟨l,g⟩ p
   else if(gk g 3||gk g 4)=true then(cP bk k n l g p).bind fun _ p=>L5 bk k key n l p
   else if(gk g 2&&decide (l.len<64))=true then L5 bk k key n (ofV key (l.len+1)) p
   else if gk g 5=true then(T3 bk k n l p).bind fun _ p=>L5 bk k key n B6 p
   else if(!g.has&&decide (l=B6))=true then(aN k B6 g.ver kz p).bind fun _ p=>L5 bk k key n B6 p
   else L5 bk k key n B6 p
def eX(bk k:Int)(n:Nat)(l:Lab)(p:Pst):Rs Bool:=
 if aw l=0 then(N0 k (V9 l) p).bind fun q p=>if(gk q 2||gk q 3||gk q 4)=true then(T3 bk k n l p).bind fun _ p=>.ok false p else .ok true p else .ok true p
def Q0(bk k key:Int):Nat->Int->Int->Pst->Rs Spt
 |0,_,_,p=>.stop zWq p
 |n+1,lo,hi,p=>
   if lo<=hi then(N0 k (ofV key ((lo+hi) / 2)) p).bind fun g p=>
    if gk g 1=true then .ok ⟨ofV key ((lo+hi) / 2),g⟩ p
    else if gk g 2=true then Q0 bk k key n ((lo+hi) / 2+1) hi p
    else if(gk g 3||gk g 4)=true then(cP bk k n (ofV key ((lo+hi) / 2)) g p).bind fun _ p=>Q0 bk k key n lo hi p
    else if gk g 5=true then(eX bk k n (ofV key ((lo+hi) / 2)) p).bind fun b p=>if b=true then Q0 bk k key n lo ((lo+hi) / 2-1) p else Q0 bk k key n lo hi p
    else Q0 bk k key n lo ((lo+hi) / 2-1) p
   else L5 bk k key (n+1) B6 p
def jN(bk k how key:Int)(n:Nat)(p:Pst):Rs Spt:=if how=1 then L5 bk k key n B6 p else Q0 bk k key n 0 64 p
theorem E4(bk k key:Int):∀n l p,Fro p (L5 bk k key n l p)
 |0,l,p=>bi _ _
 |n+1,l,p=>(l3 _ _ _).bind fun _ _ _=>k8 (u0 _ _) (k8 ((U7 _ _ _ _ _ _).bind fun _ _ _=>E4 bk k key n _ _) (k8 (E4 bk k key n _ _) (k8 ((J0 _ _ _ _ _).bind fun _ _ _=>E4 bk k key n _ _) (k8 ((A4 _ _ _ _ _).bind fun _ _ _=>E4 bk k key n _ _) (E4 bk k key n _ _)))))
theorem jn(bk k:Int)(n:Nat)(l:Lab)(p:Pst):Fro p (eX bk k n l p):=
 k8 ((l3 _ _ _).bind fun _ _ _=>k8 ((J0 _ _ _ _ _).bind fun _ _ _=>u0 _ _) (u0 _ _)) (u0 _ _)
theorem ce(bk k key:Int):∀n lo hi p,Fro p (Q0 bk k key n lo hi p)
 |0,lo,hi,p=>bi _ _
 |n+1,lo,hi,p=>k8 ((l3 _ _ _).bind fun _ _ _=>k8 (u0 _ _) (k8 (ce bk k key n _ _ _) (k8 ((U7 _ _ _ _ _ _).bind fun _ _ _=>ce bk k key n _ _ _) (k8 ((jn _ _ _ _ _).bind fun _ _ _=>k8 (ce bk k key n _ _ _) (ce bk k key n _ _ _)) (ce bk k key n _ _ _))))) (E4 _ _ _ _ _ _)
theorem uz(bk k how key:Int)(n:Nat)(p:Pst):Fro p (jN bk k how key n p):=k8 (E4 _ _ _ _ _ _) (ce _ _ _ _ _ _ _)
structure W8(s:Spt):Prop where
 ok:eD s.g
 r:xb s.g
 leaf:gk s.g 1=true
 lab:isL s.lab=true/\U64 s.lab.bits
theorem bW{bk k key:Int}(hk:U64 key):∀{n:Nat} {l:Lab} {p q:Pst} {s:Spt},j8 p->(isL l=true/\U64 l.bits)->L5 bk k key n l p = .ok s q->W8 s
 |0,l,p,q,s,_,_,h=>by cases h
 |n+1,l,p,q,s,hp,hl,h=>by
  have hz:isL B6=true/\U64 B6.bits:=⟨by decide,by decide,by decide⟩;unfold L5 at h
  cases h1:N0 k l p with
  |stop w p1=>rw[h1]at h;cases h
  |ok g p1=>
   rw[h1]at h;have hp1:=hp.suf ((l3 k l p).of h1);simp only[Rs.bind]at h
   split at h
   .rename_i hg
    injection h with h _
    subst h;exact⟨hp.get h1,hp.getR h1,hg,hl⟩
   split at h
   .cases h2:cP bk k n l g p1 with
    |stop w p2=>rw[h2]at h;cases h
    |ok u p2=>rw[h2]at h;exact bW hk (hp1.suf ((U7 _ _ _ _ _ _).of h2)) hl h
   split at h
   .exact bW hk hp1 ⟨dV _,qa hk _⟩ h
   split at h
   .cases h2:T3 bk k n l p1 with
    |stop w p2=>rw[h2]at h;cases h
    |ok u p2=>rw[h2]at h;exact bW hk (hp1.suf ((J0 _ _ _ _ _).of h2)) hz h
   split at h
   .cases h2:aN k B6 g.ver kz p1 with
    |stop w p2=>rw[h2]at h;cases h
    |ok u p2=>rw[h2]at h;exact bW hk (hp1.suf ((A4 _ _ _ _ _).of h2)) hz h
   exact bW hk hp1 hz h
theorem ic{bk k key:Int}(hk:U64 key):∀{n:Nat} {lo hi:Int} {p q:Pst} {s:Spt},j8 p->Q0 bk k key n lo hi p = .ok s q->W8 s
 |0,lo,hi,p,q,s,_,h=>by cases h
 |n+1,lo,hi,p,q,s,hp,h=>by
  unfold Q0 at h
  split at h
  .cases h1:N0 k (ofV key ((lo+hi) / 2)) p with
   |stop w p1=>rw[h1]at h;cases h
   |ok g p1=>
    rw[h1]at h;have hp1:=hp.suf ((l3 _ _ _).of h1);simp only[Rs.bind]at h
    split at h
    .rename_i hg
     injection h with h _
     subst h;exact⟨hp.get h1,hp.getR h1,hg,dV _,qa hk _⟩
    split at h
    .exact ic hk hp1 h
    split at h
    .cases h2:cP bk k n (ofV key ((lo+hi) / 2)) g p1 with
     |stop w p2=>rw[h2]at h;cases h
     |ok u p2=>rw[h2]at h;exact ic hk (hp1.suf ((U7 _ _ _ _ _ _).of h2)) h
    split at h
    .cases h2:eX bk k n (ofV key ((lo+hi) / 2)) p1 with
     |stop w p2=>rw[h2]at h;cases h
     |ok u p2=>
      rw[h2]at h;have hp2:=hp1.suf ((jn _ _ _ _ _).of h2);simp only[Rs.bind]at h
      split at h
      .exact ic hk hp2 h
      exact ic hk hp2 h
    exact ic hk hp1 h
  exact bW hk hp ⟨by decide,by decide,by decide⟩ h
theorem xx{bk k how key:Int}(hk:U64 key){n:Nat}{p q:Pst}{s:Spt}(hp:j8 p)(h:jN bk k how key n p = .ok s q):W8 s:=by
 unfold jN at h
 split at h
 .exact bW hk hp ⟨by decide,by decide,by decide⟩ h
 exact ic hk hp h
def kK(l:Lab)(a b:Int)(i:Itm):Bool:=decide (a<=i.key)&&decide (i.key<=b)&&s4 l i.key
def hasL(s:Spt)(a b:Int):List Itm:=(d4 s.g.x.r.f s.g.x.r.n).filter (kK s.lab a b)
def bC(bk k key:Int)(n:Nat)(s:Spt)(p:Pst):Rs Spt:=
 if s4 s.g.x.r.nx key=true then(N0 k s.g.x.r.nx p).bind fun g p=>if gk g 1=true then .ok ⟨s.g.x.r.nx,g⟩ p else L5 bk k key n B6 p else L5 bk k key n B6 p
theorem uB(bk k key:Int)(n:Nat)(s:Spt)(p:Pst):Fro p (bC bk k key n s p):=k8 ((l3 _ _ _).bind fun _ _ _=>k8 (u0 _ _) (E4 _ _ _ _ _ _)) (E4 _ _ _ _ _ _)
theorem jq{l:Lab}{key:Int}(h:s4 l key=true):isL l=true:=by
 unfold s4 at h;simp only[Bool.and_eq_true]at h;exact h.1
theorem uQ{k:Int}{l:Lab}{p q:Pst}{α : Type}{f:r5->Pst->Rs α}{a:α}(h:(N0 k l p).bind f = .ok a q)(hf:∀g r,Fro r (f g r)):q.n<p.n:=by
 cases h1:N0 k l p with
 |stop w r=>rw[h1]at h;cases h
 |ok g r=>
  rw[h1]at h;have:=I1 h1;have:=((hf g r).of h).le;omega
theorem FE{bk k key:Int}{n:Nat}{l:Lab}{p q:Pst}{s:Spt}(h:L5 bk k key n l p = .ok s q):q.n<p.n:=by
 cases n with
 |zero=>cases h
 |succ n=>exact uQ h fun _ _=>k8 (u0 _ _) (k8 ((U7 _ _ _ _ _ _).bind fun _ _ _=>E4 bk k key n _ _) (k8 (E4 bk k key n _ _) (k8 ((J0 _ _ _ _ _).bind fun _ _ _=>E4 bk k key n _ _) (k8 ((A4 _ _ _ _ _).bind fun _ _ _=>E4 bk k key n _ _) (E4 bk k key n _ _)))))
theorem GI{bk k key:Int}{n:Nat}{s s':Spt}{p q:Pst}(h:bC bk k key n s p = .ok s' q):q.n<p.n:=by
 unfold bC at h
 split at h
 .exact uQ h fun _ _=>k8 (u0 _ _) (E4 _ _ _ _ _ _)
 exact FE h
theorem Ae{bk k key:Int}(hk:U64 key){n:Nat}{s s':Spt}{p q:Pst}(hs:W8 s)(hp:j8 p)(h:bC bk k key n s p = .ok s' q):W8 s':=by
 unfold bC at h
 split at h
 .rename_i hc
  cases h1:N0 k s.g.x.r.nx p with
  |stop w r=>rw[h1]at h;cases h
  |ok g r=>
   rw[h1]at h;simp only[Rs.bind]at h
   split at h
   .rename_i hg
    injection h with h _
    subst h;exact⟨hp.get h1,hp.getR h1,hg,jq hc,hs.ok.ra.nx⟩
   exact bW hk (hp.suf ((l3 _ _ _).of h1)) ⟨by decide,by decide,by decide⟩ h
 exact bW hk hp ⟨by decide,by decide,by decide⟩ h
theorem qr(s:Spt)(a b:Int):(hasL s a b).length<=s.g.x.r.n:=by
 unfold hasL;refine Nat.le_trans (List.length_filter_le _ _) ?_;simp[d4]
theorem qt{s:Spt}(hs:W8 s){a b:Int}{i:Itm}(h:i∈hasL s a b):U64 i.key:=by
 unfold hasL d4 at h;obtain⟨h1,_⟩:=List.mem_filter.1 h;obtain⟨t,ht,rfl⟩:=List.mem_map.1 h1;exact hs.ok.ra.key t (List.mem_range.1 ht)
def szL(l:Lab):Int:=((2^(64-l.len.toNat):Nat):Int)
theorem sk{l:Lab}(hl:isL l=true)(hb:U64 l.bits):∃a:Nat,l.bits=((2^(64-l.len.toNat)*a:Nat):Int)/\2^(64-l.len.toNat)*a+2^(64-l.len.toNat)<=2^64:=by
 obtain⟨h0,h1,h2⟩:=z8 hl;refine⟨l.bits.toNat / 2^(64-l.len.toNat),?_,?_⟩
 .rw [Nat.mul_comm];exact h2.symm
 have h3:=zD (eF hb) (show l.len.toNat<=64 by omega)
 have:=Nat.mul_le_mul_right (2^(64-l.len.toNat)) (Nat.succ_le_of_lt h3);rw[<-Nat.pow_add,show l.len.toNat+(64-l.len.toNat)=64 by omega,Nat.succ_mul]at this;rw[Nat.mul_comm];exact this
theorem xm(l:Lab):0<szL l:=by
 unfold szL;have:0<2^(64-l.len.toNat):=Nat.pow_pos (by decide);omega
theorem uo{l:Lab}(hl:isL l=true)(hb:U64 l.bits):l.bits+szL l<=18446744073709551616:=by
 obtain⟨a,h1,h2⟩:=sk hl hb;unfold szL;rw[h1];have:(2:Nat)^64=18446744073709551616:=by decide
 omega
theorem oN{l:Lab}(hl:isL l=true)(hb:U64 l.bits){key:Int}(hk:U64 key):s4 l key=true↔l.bits<=key/\key<l.bits+szL l:=by
 obtain⟨a,h1,h2⟩:=sk hl hb;have hp:0<2^(64-l.len.toNat):=Nat.pow_pos (by decide);unfold s4 szL G7;rw[hl,Bool.true_and,decide_eq_true_eq,h1];obtain⟨k,rfl⟩:∃k:Nat,key=(k:Int):=⟨key.toNat,by have:=hk.1;omega⟩
 rw[Int.toNat_natCast]
 constructor
 .intro h
  have h3:k / 2^(64-l.len.toNat)*2^(64-l.len.toNat)=2^(64-l.len.toNat)*a:=by exact_mod_cast h
  have h4:=Nat.div_add_mod k (2^(64-l.len.toNat));have h5:=Nat.mod_lt k hp;rw[Nat.mul_comm]at h3;omega
 rintro⟨h3,h4⟩
 have h5:k / 2^(64-l.len.toNat)=a:=by
  rw[Nat.div_eq_iff (by omega)];rw[Nat.mul_comm a];omega
 rw[h5,Nat.mul_comm]
theorem uj{x y:Nat}(h:∀i,x.testBit i=true->y.testBit i=true):x<=y:=by
 have e:x &&& y=x:=by
  apply Nat.eq_of_testBit_eq;intro i;rw[Nat.testBit_and]
  cases hx:x.testBit i
  .rfl
  rw[h i hx];rfl
 rw[<-e];exact Nat.and_le_right
def vI(c:Nat):Nat:=if c=0 then 0x5555555555555555 else 0xAAAAAAAAAAAAAAAA
def mkC(c k:Nat):Nat:=k &&& vI c
theorem pX{c:Nat}(hc:c<2)(i:Nat):(vI c).testBit i=(decide (i<64)&&decide (i % 2=c)):=by
 by_cases hi:i<64
 .have h:∀c,c<2->∀i,i<64->(vI c).testBit i=(decide (i<64)&&decide (i % 2=c)):=by decide
  exact h c hc i hi
 rw[decide_eq_false hi,Bool.false_and];refine Nat.testBit_lt_two_pow ?_;have h1:vI c<2^64:=by unfold vI;split<;>decide
 exact Nat.lt_of_lt_of_le h1 (Nat.pow_le_pow_right (by decide) (by omega))
theorem E0{c:Nat}(hc:c<2)(k i:Nat):(mkC c k).testBit i=(k.testBit i&&(decide (i<64)&&decide (i % 2=c))):=by
 unfold mkC;rw[Nat.testBit_and,pX hc]
theorem fw:∀{x y:Nat},x<y->∃i,x.testBit i=false/\y.testBit i=true/\∀j,i<j->x.testBit j=y.testBit j:=by
 intro x
 induction x using Nat.strongRecOn with
 |_ x ih=>
  intro y h
  by_cases h2:x / 2<y / 2
  .by_cases hx:x=0
   .subst hx
    obtain⟨i,h3⟩:∃i,y.testBit i=true:=by
     apply Classical.byContradiction;intro hn;have:y=0:=Nat.eq_of_testBit_eq fun i=>by
      rw[Nat.zero_testBit]
      cases hb:y.testBit i
      .rfl
      exact absurd ⟨i,hb⟩ hn
     omega
    have hmax:∀n,∀i,y.testBit i=true->y.log2-i<=n->∃i,y.testBit i=true/\∀j,i<j->y.testBit j=false:=by
     intro n
     induction n with
     |zero=>
      intro i hi hn;refine⟨i,hi,fun j hj=>Nat.testBit_lt_two_pow ?_⟩;have h5:y<2^(y.log2+1):=Nat.lt_log2_self;exact Nat.lt_of_lt_of_le h5 (Nat.pow_le_pow_right (by decide) (by omega))
     |succ n ihn=>
      intro i hi hn
      by_cases hj:∃j,i<j/\y.testBit j=true
      .obtain ⟨j,hj1,hj2⟩:=hj
       exact ihn j hj2 (by omega)
      refine⟨i,hi,fun j hj1=>?_⟩
      cases hb:y.testBit j
      .rfl
      exact absurd ⟨j,hj1,hb⟩ hj
    obtain⟨i,hi,hj⟩:=hmax _ i h3 (Nat.le_refl _);exact⟨i,Nat.zero_testBit _,hi,fun j h=>by rw[Nat.zero_testBit,hj j h]⟩
   obtain⟨i,h3,h4,h5⟩:=ih (x / 2) (by omega) h2;refine⟨i+1,by rw[Nat.testBit_add_one];exact h3,by rw[Nat.testBit_add_one];exact h4,fun j hj=>?_⟩;obtain⟨j',rfl⟩:∃j',j=j'+1:=⟨j-1,by omega⟩
   rw[Nat.testBit_add_one,Nat.testBit_add_one];exact h5 j' (by omega)
  have e:x / 2=y / 2:=by omega
  refine⟨0,?_,?_,fun j hj=>?_⟩
  .rw [Nat.testBit_zero];simp;omega
  .rw [Nat.testBit_zero];simp;omega
  obtain⟨j',rfl⟩:∃j',j=j'+1:=⟨j-1,by omega⟩
  rw[Nat.testBit_add_one,Nat.testBit_add_one,e]
theorem eV{x y:Nat}(i:Nat)(hx:x.testBit i=false)(hy:y.testBit i=true)(h:∀j,i<j->x.testBit j=y.testBit j):x<y:=by
 apply Classical.byContradiction;intro hn
 rcases Nat.lt_or_eq_of_le (Nat.le_of_not_lt hn)with h1|h1
 .obtain ⟨j,h2,h3,h4⟩:=fw h1
  rcases Nat.lt_trichotomy i j with h5|h5|h5
  .have:=h j h5;rw[h2,h3]at this;cases this
  .subst h5;rw[hx]at h3;cases h3
  have:=h4 i h5;rw[hx,hy]at this;cases this
 subst h1;rw[hx]at hy;cases hy
def inB(lo hi k:Nat):Prop:=∀c,c<2->mkC c lo<=mkC c k/\mkC c k<=mkC c hi
theorem nc{lo k:Nat}(hl:lo<2^64)(h:∀c,c<2->mkC c lo<=mkC c k):lo<=k:=by
 apply Classical.byContradiction;intro hn;obtain⟨i,h1,h2,h3⟩:=fw (Nat.lt_of_not_le hn);have hi:i<64:=by
  apply Classical.byContradiction;intro h4;rw[Nat.testBit_lt_two_pow (Nat.lt_of_lt_of_le hl (Nat.pow_le_pow_right (by decide) (by omega)))]at h2
  cases h2
 have hc:i % 2<2:=Nat.mod_lt _ (by decide);have h5:=h (i % 2) hc;have h6:mkC (i % 2) k<mkC (i % 2) lo:=by
  refine eV i ?_ ?_ fun j hj=>?_
  .rw [E0 hc,h1,Bool.false_and]
  .rw [E0 hc,h2];simp[hi]
  rw[E0 hc,E0 hc,h3 j hj]
 omega
def lV(a:Nat):Nat:=vI (a % 2) &&& (2^a-1)
theorem lA(a i:Nat)(ha:a<64):(lV a).testBit i=(decide (i<a)&&decide (i % 2=a % 2)):=by
 unfold lV;rw[Nat.testBit_and,pX (Nat.mod_lt _ (by decide)),Nat.testBit_two_pow_sub_one]
 by_cases h:i<a
 .simp [h,show i<64 by omega]
 simp[h]
def loU(a lo:Nat):Nat:=(lo ^^^ (lo &&& lV a)) ||| 2^a
def hiD(a hi:Nat):Nat:=(hi ^^^ (hi &&& 2^a)) ||| lV a
theorem jf(a lo i:Nat)(ha:a<64):(loU a lo).testBit i=(lo.testBit i && !(decide (i<a)&&decide (i % 2=a % 2))||decide (a=i)):=by
 unfold loU;rw[Nat.testBit_or,Nat.testBit_xor,Nat.testBit_and,lA _ _ ha,Nat.testBit_two_pow]
 cases lo.testBit i<;>simp
theorem jk(a hi i:Nat)(ha:a<64):(hiD a hi).testBit i=(hi.testBit i && !decide (a=i)||(decide (i<a)&&decide (i % 2=a % 2))):=by
 unfold hiD;rw[Nat.testBit_or,Nat.testBit_xor,Nat.testBit_and,lA _ _ ha,Nat.testBit_two_pow]
 cases hi.testBit i<;>simp
def bmL(z:Nat):Nat->Nat->Nat->Nat->Bool->Nat×Bool
 |0,lo,hi,best,f=>(z,true)
 |a+1,lo,hi,best,f=>
  if z.testBit a=false/\lo.testBit a=false/\hi.testBit a=true then bmL z a lo (hiD a hi) (loU a lo) true
  else if z.testBit a=false/\lo.testBit a=true/\hi.testBit a=true then(lo,true)
  else if z.testBit a=true/\lo.testBit a=false/\hi.testBit a=false then(best,f)
  else if z.testBit a=true/\lo.testBit a=false/\hi.testBit a=true then bmL z a (loU a lo) hi best f
  else bmL z a lo hi best f
def J4(S:Nat->Prop)(r:Nat×Bool):Prop:=(r.2=true->S r.1/\∀k,S k->r.1<=k)/\(r.2=false->r.1=0/\∀k,¬S k)
theorem J4.congr{S T:Nat->Prop}{r:Nat×Bool}(h:J4 S r)(e:∀k,S k↔T k):J4 T r:=
 ⟨fun hr=>⟨(e _).1 (h.1 hr).1,fun k hk=>(h.1 hr).2 k ((e k).2 hk)⟩,fun hr=>⟨(h.2 hr).1,fun k hk=>(h.2 hr).2 k ((e k).2 hk)⟩⟩
theorem J4.one{S:Nat->Prop}{r q:Nat×Bool}(h:J4 S r)(h':J4 S q):r=q:=by
 obtain⟨a,b⟩:=r;obtain⟨c,d⟩:=q
 cases b<;>cases d
 .rw [show a=0 from(h.2 rfl).1,show c=0 from(h'.2 rfl).1]
 .exact absurd (h'.1 rfl).1 ((h.2 rfl).2 _)
 .exact absurd (h.1 rfl).1 ((h'.2 rfl).2 _)
 have h1:=(h.1 rfl).2 _ (h'.1 rfl).1;have h2:=(h'.1 rfl).2 _ (h.1 rfl).1;simp only at h1 h2;rw[show a=c by omega]
def az(z a k:Nat):Prop:=∀j,a<=j->k.testBit j=z.testBit j
def iW(z a k:Nat):Prop:=∃j,a<=j/\k.testBit j=true/\z.testBit j=false/\∀i,j<i->k.testBit i=z.testBit i
theorem K2{z a k:Nat}:az z a k↔az z (a+1) k/\k.testBit a=z.testBit a:=by
 refine⟨fun h=>⟨fun j hj=>h j (by omega),h a (Nat.le_refl _)⟩,fun h j hj=>?_⟩
 by_cases e:j=a
 .rw [e];exact h.2
 exact h.1 j (by omega)
theorem U1{z a k:Nat}:iW z a k↔iW z (a+1) k \/ az z (a+1) k/\k.testBit a=true/\z.testBit a=false:=by
 constructor
 .rintro ⟨j,h1,h2,h3,h4⟩
  by_cases e:j=a
  .subst e;exact .inr ⟨fun i hi=>h4 i (by omega),h2,h3⟩
  exact .inl ⟨j,by omega,h2,h3,h4⟩
 rintro(⟨j,h1,h2,h3,h4⟩|⟨h1,h2,h3⟩)
 .exact ⟨j,by omega,h2,h3,h4⟩
 exact⟨a,Nat.le_refl _,h2,h3,fun i hi=>h1 i (by omega)⟩
theorem oB{z a k:Nat}(h:iW z a k):z<k:=by
 obtain⟨j,h1,h2,h3,h4⟩:=h;exact eV j h3 h2 fun i hi=>(h4 i hi).symm
theorem yM{z k:Nat}:z<=k↔az z 0 k \/ iW z 0 k:=by
 constructor
 .intro h
  rcases Nat.lt_or_eq_of_le h with h|h
  .obtain ⟨i,h1,h2,h3⟩:=fw h
   exact .inr ⟨i,Nat.zero_le _,h2,h1,fun j hj=>(h3 j hj).symm⟩
  subst h;exact .inl fun j _=>rfl
 rintro(h|h)
 .exact Nat.le_of_eq (Nat.eq_of_testBit_eq fun i=>(h i (Nat.zero_le _)).symm)
 exact Nat.le_of_lt (oB h)
theorem Ea{c x y:Nat}(hc:c<2)(h:∀i,i<64->i % 2=c->x.testBit i=true->y.testBit i=true):mkC c x<=mkC c y:=by
 refine uj fun i hi=>?_
 rw[E0 hc]at hi ⊢;simp only[Bool.and_eq_true,decide_eq_true_eq]at hi ⊢;exact⟨h i hi.2.1 hi.2.2 hi.1,hi.2⟩
theorem qe{c x y a:Nat}(ha:a<64)(hc:a % 2=c)(hx:x.testBit a=false)(hy:y.testBit a=true)(h:∀j,a<j->x.testBit j=y.testBit j):mkC c x<mkC c y:=by
 have hc2:c<2:=by omega
 refine eV a ?_ ?_ fun j hj=>?_
 .rw [E0 hc2,hx];rfl
 .rw [E0 hc2,hy];simp[ha,hc]
 rw[E0 hc2,E0 hc2,h j hj]
structure rq(z a lo hi:Nat):Prop where
 lw:lo<2^64
 v:∀c,c<2->mkC c lo<=mkC c hi
 sl:az z a lo
 sh:az z a hi
theorem wT{z a lo hi:Nat}(h:rq z (a+1) lo hi)(e1:lo.testBit a=z.testBit a)(e2:hi.testBit a=z.testBit a):rq z a lo hi:=⟨h.lw,h.v,K2.2 ⟨h.sl,e1⟩,K2.2 ⟨h.sh,e2⟩⟩
theorem zZ{z a lo hi:Nat}(ha:a<64)(h:rq z (a+1) lo hi):¬(lo.testBit a=true/\hi.testBit a=false):=fun⟨h1,h2⟩=>by
 have h3:=h.v (a % 2) (Nat.mod_lt _ (by decide));have h4:=qe (c:=a % 2) ha rfl h2 h1 (fun j hj=>by rw[h.sh j (by omega),h.sl j (by omega)]);omega
theorem Ik{z a lo hi k:Nat}(ha:a<64)(h:rq z (a+1) lo hi)(hk:az z (a+1) k)(hb:inB lo hi k)(hl:lo.testBit a=true):k.testBit a=true:=by
 cases e:k.testBit a
 .have h3:=(hb (a % 2) (Nat.mod_lt _ (by decide))).1
  have h4:=qe (c:=a % 2) ha rfl e hl (fun j hj=>by rw[hk j (by omega),h.sl j (by omega)]);omega
 rfl
theorem uu{z a lo hi k:Nat}(ha:a<64)(h:rq z (a+1) lo hi)(hk:az z (a+1) k)(hb:inB lo hi k)(hl:hi.testBit a=false):k.testBit a=false:=by
 cases e:k.testBit a
 .rfl
 have h3:=(hb (a % 2) (Nat.mod_lt _ (by decide))).2;have h4:=qe (c:=a % 2) ha rfl hl e (fun j hj=>by rw[hk j (by omega),h.sh j (by omega)]);omega
theorem sd{a lo:Nat}(ha:a<64)(h:lo<2^64):loU a lo<2^64:=by
 unfold loU;exact Nat.or_lt_two_pow (Nat.xor_lt_two_pow h (Nat.lt_of_le_of_lt Nat.and_le_left h)) (Nat.pow_lt_pow_right (by decide) ha)
theorem ma{z a lo hi:Nat}(ha:a<64)(h:rq z (a+1) lo hi)(hl:lo.testBit a=false)(hh:hi.testBit a=true) :
  az z (a+1) (loU a lo)/\(loU a lo).testBit a=true/\inB lo hi (loU a lo)/\∀k,az z (a+1) k->k.testBit a=true->inB lo hi k->∀c,c<2->mkC c (loU a lo)<=mkC c k:=by
 have s1:az z (a+1) (loU a lo):=fun j hj=>by
  rw[jf _ _ _ ha,<-h.sl j hj];simp[show ¬j<a by omega,show ¬a=j by omega]
 have s2:(loU a lo).testBit a=true:=by rw[jf _ _ _ ha];simp
 have sub:∀k,az z (a+1) k->k.testBit a=true->mkC (a % 2) (loU a lo)<=mkC (a % 2) k:=fun k hk hb=>Ea (Nat.mod_lt _ (by decide)) fun i hi hc hx=>by
  rcases Nat.lt_trichotomy i a with h5|h5|h5
  .rw [jf _ _ _ ha]at hx;simp[h5,hc,show ¬a=i by omega]at hx
  .subst h5;exact hb
  rw[hk i (by omega),<-s1 i (by omega)];exact hx
 have oth:∀c,c<2->c≠a % 2->mkC c (loU a lo)=mkC c lo:=fun c hc hn=>Nat.eq_of_testBit_eq fun i=>by
  rw[E0 hc,E0 hc,jf _ _ _ ha]
  by_cases hi:i % 2=c
  .have h6:¬i % 2=a % 2:=by omega
   have h7:¬a=i:=fun e=>h6 (by rw[e])
   simp[h6,h7]
  simp[hi]
 refine⟨s1,s2,fun c hc=>?_,fun k hk hb hi c hc=>?_⟩
 .by_cases e:c=a % 2
  .subst e
   exact⟨Nat.le_of_lt (qe ha rfl hl s2 fun j hj=>by rw[h.sl j (by omega),s1 j (by omega)]),sub hi h.sh hh⟩
  rw[oth c hc e];exact⟨Nat.le_refl _,h.v c hc⟩
 by_cases e:c=a % 2
 .subst e;exact sub k hk hb
 rw[oth c hc e];exact(hi c hc).1
theorem qI{z a lo hi k:Nat}(ha:a<64)(h:rq z (a+1) lo hi)(hl:lo.testBit a=false)(hh:hi.testBit a=true)(hk:az z (a+1) k)(hb:k.testBit a=false):inB lo (hiD a hi) k↔inB lo hi k:=by
 have oth:∀c,c<2->c≠a % 2->mkC c (hiD a hi)=mkC c hi:=fun c hc hn=>Nat.eq_of_testBit_eq fun i=>by
  rw[E0 hc,E0 hc,jk _ _ _ ha]
  by_cases hi:i % 2=c
  .have h6:¬i % 2=a % 2:=by omega
   have h7:¬a=i:=fun e=>h6 (by rw[e])
   simp[h6,h7]
  simp[hi]
 have own:mkC (a % 2) k<=mkC (a % 2) (hiD a hi):=Ea (Nat.mod_lt _ (by decide)) fun i h64 hc hx=>by
  rw[jk _ _ _ ha]
  rcases Nat.lt_trichotomy i a with h5|h5|h5
  .simp [h5,hc]
  .subst h5;rw[hb]at hx;cases hx
  rw[h.sh i (by omega),<-hk i (by omega),hx];simp[show ¬a=i by omega]
 have own2:mkC (a % 2) k<=mkC (a % 2) hi:=Nat.le_of_lt (qe ha rfl hb hh fun j hj=>by rw[hk j (by omega),h.sh j (by omega)])
 constructor
 .intro h1 c hc
  refine⟨(h1 c hc).1,?_⟩
  by_cases e:c=a % 2
  .subst e;exact own2
  rw[<-oth c hc e];exact(h1 c hc).2
 intro h1 c hc;refine⟨(h1 c hc).1,?_⟩
 by_cases e:c=a % 2
 .subst e;exact own
 rw[oth c hc e];exact(h1 c hc).2
def InQ(lo hi k:Nat):Prop:=inB lo hi k/\k<2^64
theorem Aa{z lo0 hi0:Nat}(hz:z<2^64):∀(a lo hi best:Nat) (f:Bool),a<=64->rq z a lo hi->(∀k,az z a k->(inB lo hi k↔InQ lo0 hi0 k))->J4 (fun k=>InQ lo0 hi0 k/\iW z a k) (best,f) →
  J4 (fun k=>InQ lo0 hi0 k/\z<=k) (bmL z a lo hi best f):=by
 intro a
 induction a with
 |zero=>
  intro lo hi best f _ O hI hL;have e1:lo=z:=Nat.eq_of_testBit_eq fun i=>O.sl i (Nat.zero_le _)
  have e2:hi=z:=Nat.eq_of_testBit_eq fun i=>O.sh i (Nat.zero_le _)
  refine⟨fun _=>⟨⟨(hI z fun j _=>rfl).1 ?_,Nat.le_refl _⟩,fun k hk=>hk.2⟩,fun h=>by cases h⟩;rw[e1,e2];exact fun c _=>⟨Nat.le_refl _,Nat.le_refl _⟩
 |succ a ih=>
  intro lo hi best f ha O hI hL;have ha':a<64:=by omega
  have hI':∀k,az z a k->(inB lo hi k↔InQ lo0 hi0 k):=fun k hk=>hI k (K2.1 hk).1
  unfold bmL
  by_cases c1:z.testBit a=false/\lo.testBit a=false/\hi.testBit a=true
  .rw [if_pos c1]
   obtain⟨b1,b2,b3⟩:=c1;obtain⟨u1,u2,u3,u4⟩:=ma ha' O b2 b3;have hsh:az z a (hiD a hi):=fun j hj=>by
    rw[jk _ _ _ ha']
    by_cases e:j=a
    .subst e;simp[b1]
    rw[O.sh j (by omega)];simp[show ¬a=j by omega,show ¬j<a by omega]
   refine ih _ _ _ _ (by omega) ⟨O.lw,fun c hc=>?_,K2.2 ⟨O.sl,by rw[b1,b2]⟩,hsh⟩ (fun k hk=>?_) ⟨fun _=>⟨⟨(hI _ u1).1 u3,U1.2 (.inr ⟨u1,u2,b1⟩)⟩,fun k hk=>?_⟩,fun h=>by cases h⟩
   .exact ((qI ha' O b2 b3 O.sl b2).2 (fun c hc=>⟨Nat.le_refl _,O.v c hc⟩) c hc).2
   .have hk':=K2.1 hk
    rw[qI ha' O b2 b3 hk'.1 (by rw[hk'.2,b1])];exact hI k hk'.1
   rcases U1.1 hk.2 with h|⟨h1,h2,h3⟩
   .obtain ⟨j,g1,g2,g3,g4⟩:=h
    refine Nat.le_of_lt (eV j ?_ g2 fun i hi=>?_)
    .rw [u1 j g1,g3]
    rw[u1 i (by omega),g4 i hi]
   exact nc (sd ha' O.lw) (u4 k h1 h2 ((hI k h1).2 hk.1))
  rw[if_neg c1]
  by_cases c2:z.testBit a=false/\lo.testBit a=true/\hi.testBit a=true
  .rw [if_pos c2]
   obtain⟨b1,b2,b3⟩:=c2;have g:iW z a lo:=U1.2 (.inr ⟨O.sl,b2,b1⟩);refine⟨fun _=>⟨⟨(hI lo O.sl).1 fun c hc=>⟨Nat.le_refl _,O.v c hc⟩,Nat.le_of_lt (oB g)⟩,fun k hk=>?_⟩,fun h=>by cases h⟩;have hz9:az z a k \/ iW z a k:=by
    rcases yM.1 hk.2 with h|⟨j,g1,g2,g3,g4⟩
    .exact .inl fun j _=>h j (Nat.zero_le _)
    by_cases e:a<=j
    .exact .inr ⟨j,e,g2,g3,g4⟩
    exact .inl fun i hi=>g4 i (by omega)
   rcases hz9 with h|h
   .have h9:=K2.1 h
    have:=Ik ha' O h9.1 ((hI k h9.1).2 hk.1) b2;rw[h9.2,b1]at this;cases this
   rcases U1.1 h with⟨j,g1,g2,g3,g4⟩|⟨h1,h2,h3⟩
   .refine Nat.le_of_lt (eV j ?_ g2 fun i hi=>?_)
    .rw [O.sl j g1,g3]
    rw[O.sl i (by omega),g4 i hi]
   exact nc O.lw fun c hc=>((hI k h1).2 hk.1 c hc).1
  rw[if_neg c2];have low:∀n k,(az z n k \/ iW z n k)↔((az z (n+1) k/\(k.testBit n=z.testBit n \/ k.testBit n=true/\z.testBit n=false)) \/ iW z (n+1) k):=fun n k=>by
   rw[K2,U1]
   constructor
   .rintro (⟨h1,h2⟩|h|⟨h1,h2,h3⟩)
    .exact .inl ⟨h1,.inl h2⟩
    .exact .inr h
    exact .inl ⟨h1,.inr ⟨h2,h3⟩⟩
   rintro(⟨h1,h2|h2⟩|h)
   .exact .inl ⟨h1,h2⟩
   .exact .inr (.inr ⟨h1,h2.1,h2.2⟩)
   exact .inr (.inl h)
  have fro:∀n k,z<=k->az z n k \/ iW z n k:=fun n k hk=>by
   rcases yM.1 hk with h|⟨j,g1,g2,g3,g4⟩
   .exact .inl fun j _=>h j (Nat.zero_le _)
   by_cases e:n<=j
   .exact .inr ⟨j,e,g2,g3,g4⟩
   exact .inl fun i hi=>g4 i (by omega)
  by_cases c3:z.testBit a=true/\lo.testBit a=false/\hi.testBit a=false
  .rw [if_pos c3]
   obtain⟨b1,b2,b3⟩:=c3;refine hL.congr fun k=>⟨fun h=>⟨h.1,Nat.le_of_lt (oB h.2)⟩,fun h=>⟨h.1,?_⟩⟩
   rcases fro (a+1) k h.2 with h1|h1
   .exfalso
    have h2:=uu ha' O h1 ((hI k h1).2 h.1) b3
    rcases(low a k).1 (fro a k h.2)with⟨_,h3|h3⟩|⟨j,g1,g2,g3,_⟩
    .rw [h2,b1]at h3;cases h3
    .rw [h2]at h3;cases h3.1
    rw[h1 j g1,g3]at g2;cases g2
   exact h1
  rw[if_neg c3];have same:∀(lo' hi':Nat),z.testBit a=true \/ (∀k,az z (a+1) k->InQ lo0 hi0 k->k.testBit a=false)->J4 (fun k=>InQ lo0 hi0 k/\iW z a k) (best,f):=fun _ _ h=>hL.congr fun k=>⟨fun g=>⟨g.1,U1.2 (.inl g.2)⟩,fun g=>⟨g.1,by
   rcases U1.1 g.2 with h1|⟨h1,h2,h3⟩
   .exact h1
   rcases h with h|h
   .rw [h]at h3;cases h3
   rw[h k h1 g.1]at h2;cases h2⟩⟩
  by_cases c4:z.testBit a=true/\lo.testBit a=false/\hi.testBit a=true
  .rw [if_pos c4]
   obtain⟨b1,b2,b3⟩:=c4;obtain⟨u1,u2,u3,u4⟩:=ma ha' O b2 b3;refine ih _ _ _ _ (by omega) ⟨sd ha' O.lw,fun c hc=>(u3 c hc).2,K2.2 ⟨u1,by rw[u2,b1]⟩,K2.2 ⟨O.sh,by rw[b3,b1]⟩⟩ (fun k hk=>?_) (same lo hi (.inl b1));have hk':=K2.1 hk;rw[<-hI k hk'.1]
   constructor
   .intro h c hc;exact⟨Nat.le_trans (u3 c hc).1 (h c hc).1,(h c hc).2⟩
   intro h c hc;exact⟨u4 k hk'.1 (by rw[hk'.2,b1]) h c hc,(h c hc).2⟩
  rw[if_neg c4];have hbb:=zZ ha' O;have e12:lo.testBit a=z.testBit a/\hi.testBit a=z.testBit a:=by
   revert c1 c2 c3 c4 hbb
   cases z.testBit a<;>cases lo.testBit a<;>cases hi.testBit a<;>simp
  refine ih _ _ _ _ (by omega) (wT O e12.1 e12.2) hI' (same lo hi ?_)
  cases hzb:z.testBit a
  .exact .inr fun k hk hk2=>uu ha' O hk ((hI k hk).2 hk2) (by rw[e12.2,hzb])
  exact .inl rfl
theorem xz{z k:Nat}(hz:z<2^64):az z 64 k↔k<2^64:=by
 have hb:∀x,x<2^64->∀j,64<=j->x.testBit j=false:=fun x hx j hj=>Nat.testBit_lt_two_pow (Nat.lt_of_lt_of_le hx (Nat.pow_le_pow_right (by decide) hj))
 constructor
 .intro h
  exact Nat.lt_pow_two_of_testBit _ fun j hj=>by rw[h j hj];exact hb z hz j hj
 intro h j hj;rw[hb z hz j hj,hb k h j hj]
theorem GC{z lo hi:Nat}(hz:z<2^64)(hl:lo<2^64)(hh:hi<2^64)(hv:∀c,c<2->mkC c lo<=mkC c hi):J4 (fun k=>InQ lo hi k/\z<=k) (bmL z 64 lo hi 0 false):=by
 have h0:J4 (fun k=>InQ lo hi k/\iW z 64 k) ((0:Nat),false):=by
  refine And.intro (fun h=>by cases h) (fun _=>And.intro rfl (fun k hk=>?_));obtain⟨⟨_,h1⟩,j,g1,g2,_⟩:=hk;rw[Nat.testBit_lt_two_pow (Nat.lt_of_lt_of_le h1 (Nat.pow_le_pow_right (by decide) g1))]at g2;cases g2
 exact Aa hz 64 lo hi 0 false (Nat.le_refl _) ⟨hl,hv,(xz hz).2 hl,(xz hz).2 hh⟩ (fun k hk=>⟨fun h=>⟨h,(xz hz).1 hk⟩,fun h=>h.1⟩) h0
def sP(c z:Nat):Nat->Nat
 |0=>0
 |n+1=>2*sP c z n+(z.testBit (2*(31-n)+c)).toNat
def crd(c z:Nat):Nat:=sP c z 32
theorem qL(c z:Nat):∀n i,n<=32->(sP c z n).testBit i=(decide (i<n)&&z.testBit (2*(32-n+i)+c))
 |0,i,_=>by simp[sP]
 |n+1,i,hn=>by
  unfold sP
  cases i with
  |zero=>
   rw[Nat.testBit_zero,show 32-(n+1)+0=31-n by omega]
   cases h:z.testBit (2*(31-n)+c)<;>simp<;>omega
  |succ i=>
   rw[Nat.testBit_add_one,show(2*sP c z n+(z.testBit (2*(31-n)+c)).toNat) / 2=sP c z n by
    have:(z.testBit (2*(31-n)+c)).toNat<=1:=by cases z.testBit (2*(31-n)+c)<;>decide
    omega,qL c z n i (by omega),show 32-(n+1)+(i+1)=32-n+i by omega]
   simp
theorem L3(c z i:Nat):(crd c z).testBit i=(decide (i<32)&&z.testBit (2*i+c)):=by
 unfold crd;rw[qL c z 32 i (Nat.le_refl _)];simp
theorem sO{c:Nat}(hc:c<2)(a b:Nat):crd c a<crd c b↔mkC c a<mkC c b:=by
 constructor
 .intro h
  obtain⟨i,h1,h2,h3⟩:=fw h;rw[L3]at h1 h2;simp only[Bool.and_eq_true,decide_eq_true_eq]at h2;rw[decide_eq_true h2.1,Bool.true_and]at h1;refine eV (2*i+c) (by rw[E0 hc,h1];rfl) (by rw[E0 hc,h2.2];simp;omega) fun j hj=>?_
  rw[E0 hc,E0 hc]
  by_cases hjc:j<64/\j % 2=c
  .have h9:=h3 ((j-c) / 2) (by omega)
   rw[L3,L3,show 2*((j-c) / 2)+c=j by omega,decide_eq_true (show(j-c) / 2<32 by omega)]at h9;simp only[Bool.true_and]at h9;rw[h9]
  have:(decide (j<64)&&decide (j % 2=c))=false:=by simp;omega
  rw[this];simp
 intro h;obtain⟨j,h1,h2,h3⟩:=fw h;rw[E0 hc]at h1 h2;simp only[Bool.and_eq_true,decide_eq_true_eq]at h2;rw[show(decide (j<64)&&decide (j % 2=c))=true by simp[h2.2],Bool.and_true]at h1;refine eV ((j-c) / 2) ?_ ?_ fun i hi=>?_
 .rw [L3,show 2*((j-c) / 2)+c=j by omega,h1,Bool.and_false]
 .rw [L3,show 2*((j-c) / 2)+c=j by omega,h2.1];simp;omega
 rw[L3,L3]
 by_cases hi32:i<32
 .have h9:=h3 (2*i+c) (by omega)
  rw[E0 hc,E0 hc,show(decide (2*i+c<64)&&decide ((2*i+c) % 2=c))=true by simp;omega,Bool.and_true,Bool.and_true]at h9;rw[h9]
 rw[decide_eq_false hi32];rfl
theorem P9{c:Nat}(hc:c<2)(a b:Nat):crd c a<=crd c b↔mkC c a<=mkC c b:=by
 have:=sO hc b a;omega
theorem qK{c x y:Nat}(h:∀i,x.testBit i=true->y.testBit i=true):crd c x<=crd c y:=uj fun i hi=>by
 rw[L3]at hi ⊢;simp only[Bool.and_eq_true]at hi ⊢;exact⟨hi.1,h _ hi.2⟩
structure C9 where
 x1:Nat
 x2:Nat
 y1:Nat
 y2:Nat
def C9.Is(R:C9):Prop:=R.x1<=R.x2/\R.y1<=R.y2
def ie(R:C9)(k:Nat):Prop:=R.x1<=crd 0 k/\crd 0 k<=R.x2/\R.y1<=crd 1 k/\crd 1 k<=R.y2
instance (R : C9) : Decidable R.Is := by unfold C9.Is; infer_instance
instance (R : C9) (k : Nat) : Decidable (ie R k) := by unfold ie; infer_instance
def pl(R:C9)(lo hi:Nat):Prop:=crd 0 lo<=R.x2/\R.x1<=crd 0 hi/\crd 1 lo<=R.y2/\R.y1<=crd 1 hi
def tk(R:C9)(lo hi:Nat):Prop:=R.x1<=crd 0 lo/\crd 0 hi<=R.x2/\R.y1<=crd 1 lo/\crd 1 hi<=R.y2
instance (R : C9) (a b : Nat) : Decidable (pl R a b) := by unfold pl; infer_instance
instance (R : C9) (a b : Nat) : Decidable (tk R a b) := by unfold tk; infer_instance
def iP(R:C9)(z:Nat):Nat->Nat->Nat×Bool
 |0,lo=>if lo<z \/ ¬pl R lo lo then(0,false)else if tk R lo lo then(max lo z,true)else(0,false)
 |n+1,lo=>if lo+2^(n+1)-1<z \/ ¬pl R lo (lo+2^(n+1)-1)then(0,false)
  else if tk R lo (lo+2^(n+1)-1)then(max lo z,true)
  else if(iP R z n lo).2=true then iP R z n lo else iP R z n (lo+2^n)
theorem dR{n a k:Nat}(h1:2^n*a<=k)(h2:k<2^n*a+2^n)(c:Nat):crd c (2^n*a)<=crd c k/\crd c k<=crd c (2^n*a+2^n-1):=by
 have hp:0<2^n:=Nat.two_pow_pos n;obtain⟨d,rfl⟩:∃d,k=2^n*a+d:=⟨k-2^n*a,by omega⟩
 have hd:d<2^n:=by omega
 rw[show 2^n*a+2^n-1=2^n*a+(2^n-1)by omega]
 constructor
 .refine qK fun i hi=>?_
  rw[Nat.testBit_two_pow_mul_add a hd i];rw[Nat.testBit_two_pow_mul]at hi;simp only[Bool.and_eq_true,decide_eq_true_eq]at hi;rw[if_neg (by omega)];exact hi.2
 refine qK fun i hi=>?_
 rw[Nat.testBit_two_pow_mul_add a (show 2^n-1<2^n by omega) i];rw[Nat.testBit_two_pow_mul_add a hd i]at hi
 by_cases e:i<n
 .rw [if_pos e,Nat.testBit_two_pow_sub_one];simp[e]
 rw[if_neg e]at hi ⊢;exact hi
theorem mB{R:C9}{z n a:Nat}(h:2^n*a+2^n-1<z \/ ¬pl R (2^n*a) (2^n*a+2^n-1)):J4 (fun k=>(2^n*a<=k/\k<2^n*a+2^n)/\ie R k/\z<=k) ((0:Nat),false):=by
 refine And.intro (fun h=>by cases h) (fun _=>And.intro rfl fun k hk=>?_);obtain⟨⟨h1,h2⟩,⟨i1,i2,i3,i4⟩,h4⟩:=hk
 rcases h with h|h
 .omega
 refine h ?_;have:=dR h1 h2 0;have:=dR h1 h2 1;exact⟨by omega,by omega,by omega,by omega⟩
theorem qn{R:C9}{z n a:Nat}(h:¬(2^n*a+2^n-1<z \/ ¬pl R (2^n*a) (2^n*a+2^n-1)))(hh:tk R (2^n*a) (2^n*a+2^n-1)):J4 (fun k=>(2^n*a<=k/\k<2^n*a+2^n)/\ie R k/\z<=k) (max (2^n*a) z,true):=by
 have hp:0<2^n:=Nat.two_pow_pos n;have hz:z<=2^n*a+2^n-1:=by omega
 refine And.intro (fun _=>⟨⟨⟨Nat.le_max_left _ _,?_⟩,?_,Nat.le_max_right _ _⟩,fun k hk=>?_⟩) (fun h=>by cases h)
 .show max (2^n*a) z<_
  omega
 .obtain ⟨i1,i2,i3,i4⟩:=hh
  have a0:=dR (n:=n) (a:=a) (k:=max (2^n*a) z) (Nat.le_max_left _ _) (by omega) 0;have a1:=dR (n:=n) (a:=a) (k:=max (2^n*a) z) (Nat.le_max_left _ _) (by omega) 1;exact⟨by simp only;omega,by simp only;omega,by simp only;omega,by simp only;omega⟩
 show max (2^n*a) z<=k
 have:=hk.1.1;have:=hk.2.2;omega
theorem aj(R:C9)(z:Nat):∀n a,J4 (fun k=>(2^n*a<=k/\k<2^n*a+2^n)/\ie R k/\z<=k) (iP R z n (2^n*a))
 |0,a=>by
  unfold iP;have e:2^0*a+2^0-1=2^0*a:=by omega
  by_cases h:2^0*a<z \/ ¬pl R (2^0*a) (2^0*a)
  .rw [if_pos h];exact mB (by rw[e];exact h)
  rw[if_neg h];have hh:tk R (2^0*a) (2^0*a):=by
   have h9:pl R (2^0*a) (2^0*a):=Classical.byContradiction fun h9=>h (.inr h9)
   exact⟨h9.2.1,h9.1,h9.2.2.2,h9.2.2.1⟩
  rw[if_pos hh];exact qn (by rw[e];exact h) (by rw[e];exact hh)
 |n+1,a=>by
  unfold iP
  by_cases h:2^(n+1)*a+2^(n+1)-1<z \/ ¬pl R (2^(n+1)*a) (2^(n+1)*a+2^(n+1)-1)
  .rw [if_pos h];exact mB h
  rw[if_neg h]
  by_cases hh:tk R (2^(n+1)*a) (2^(n+1)*a+2^(n+1)-1)
  .rw [if_pos hh];exact qn h hh
  rw[if_neg hh];have e1:2^(n+1)*a=2^n*(2*a):=by rw[Nat.pow_succ,Nat.mul_assoc]
  have e2:2^(n+1)*a+2^n=2^n*(2*a+1):=by rw[e1,Nat.mul_add,Nat.mul_one]
  have e3:2^(n+1)=2^n+2^n:=by rw[Nat.pow_succ];omega
  have r1:=aj R z n (2*a);have r2:=aj R z n (2*a+1);rw[<-e1]at r1;rw[<-e2]at r2
  by_cases hf:(iP R z n (2^(n+1)*a)).2=true
  .rw [if_pos hf]
   obtain⟨⟨g1,g2⟩,g3⟩:=r1.1 hf;refine And.intro (fun _=>⟨⟨⟨g1.1,by have:=g1.2;omega⟩,g2⟩,fun k hk=>?_⟩) (fun h9=>by rw[hf]at h9;cases h9)
   by_cases hk2:k<2^(n+1)*a+2^n
   .exact g3 k ⟨⟨hk.1.1,hk2⟩,hk.2⟩
   have:=g1.2;omega
  rw[if_neg hf];have hno:=(r1.2 (by simpa using hf)).2;refine r2.congr fun k=>⟨fun hk=>⟨⟨by have:=hk.1.1;omega,by have:=hk.1.2;omega⟩,hk.2⟩,fun hk=>⟨⟨?_,by have:=hk.1.2;omega⟩,hk.2⟩⟩
  apply Classical.byContradiction;intro hlt;exact hno k ⟨⟨hk.1.1,by omega⟩,hk.2⟩
def nJ(z h m:Nat):Nat:=(z ||| (z <<< h) % 2^64) &&& m
def iJ(x:Nat):Nat:=nJ (nJ (nJ (nJ (nJ x 16 281470681808895) 8 71777214294589695) 4 1085102592571150095) 2 3689348814741910323) 1 6148914691236517205
def wvN(x y:Nat):Nat:=iJ x ||| (iJ y <<< 1) % 2^64
theorem R1{m h:Nat}(hm:m<2^64)(hd:∀j,j<64->m.testBit j=decide (j % (2*h)<h))(j:Nat):m.testBit j=(decide (j<64)&&decide (j % (2*h)<h)):=by
 by_cases hj:j<64
 .rw [hd j hj,decide_eq_true hj,Bool.true_and]
 rw[decide_eq_false hj,Bool.false_and];exact Nat.testBit_lt_two_pow (Nat.lt_of_lt_of_le hm (Nat.pow_le_pow_right (by decide) (by omega)))
theorem cW{x z m h:Nat}(hh:h=16 \/ h=8 \/ h=4 \/ h=2 \/ h=1)(hz:∀j,z.testBit j=(decide (j<64)&&decide (j % (4*h)<2*h)&&x.testBit (j / (4*h)*(2*h)+j % (2*h))))
  (hm:∀j,m.testBit j=(decide (j<64)&&decide (j % (2*h)<h))) (j:Nat):(nJ z h m).testBit j=(decide (j<64)&&decide (j % (2*h)<h)&&x.testBit (j / (2*h)*h+j % h)):=by
 unfold nJ;rw[Nat.testBit_and,Nat.testBit_or,Nat.testBit_mod_two_pow,Nat.testBit_shiftLeft,hm,hz,hz]
 by_cases h1:j<64
 .by_cases h2:j % (2*h)<h
  .rw [decide_eq_true h1,decide_eq_true h2]
   simp only[Bool.true_and,Bool.and_true]
   by_cases h3:j % (4*h)<2*h
   .rw [decide_eq_true h3,Bool.true_and]
    have e1:j / (4*h)*(2*h)+j % (2*h)=j / (2*h)*h+j % h:=by rcases hh with rfl|rfl|rfl|rfl|rfl<;>omega
    rw[e1]
    by_cases h4:h<=j
    .have e2:¬(j-h) % (4*h)<2*h:=by rcases hh with rfl|rfl|rfl|rfl|rfl<;>omega
     rw[decide_eq_false e2];simp
    rw[decide_eq_false h4];simp
   rw[decide_eq_false h3];have h4:h<=j:=by rcases hh with rfl|rfl|rfl|rfl|rfl<;>omega
   have e2:(j-h) % (4*h)<2*h:=by rcases hh with rfl|rfl|rfl|rfl|rfl<;>omega
   have e3:(j-h) / (4*h)*(2*h)+(j-h) % (2*h)=j / (2*h)*h+j % h:=by rcases hh with rfl|rfl|rfl|rfl|rfl<;>omega
   rw[decide_eq_true e2,e3,decide_eq_true h4,decide_eq_true (show j-h<64 by omega)];simp
  rw[decide_eq_false h2];simp
 rw[decide_eq_false h1];simp
theorem pz{x:Nat}(hx:x<2^32)(j:Nat):(iJ x).testBit j=(decide (j<64)&&decide (j % 2=0)&&x.testBit (j / 2)):=by
 have m1:=fun j=>R1 (m:=281470681808895) (h:=16) (by decide) (by decide) j
 have m2:=fun j=>R1 (m:=71777214294589695) (h:=8) (by decide) (by decide) j
 have m3:=fun j=>R1 (m:=1085102592571150095) (h:=4) (by decide) (by decide) j
 have m4:=fun j=>R1 (m:=3689348814741910323) (h:=2) (by decide) (by decide) j
 have m5:=fun j=>R1 (m:=6148914691236517205) (h:=1) (by decide) (by decide) j
 have z0:∀j,x.testBit j=(decide (j<64)&&decide (j % (4*16)<2*16)&&x.testBit (j / (4*16)*(2*16)+j % (2*16))):=fun j=>by
  by_cases hj:j<32
  .rw [decide_eq_true (show j<64 by omega),decide_eq_true (show j % (4*16)<2*16 by omega),show j / (4*16)*(2*16)+j % (2*16)=j by omega];simp
  rw[Nat.testBit_lt_two_pow (Nat.lt_of_lt_of_le hx (Nat.pow_le_pow_right (by decide) (show 32<=j by omega)))]
  by_cases h64:j<64
  .rw [decide_eq_false (show ¬j % (4*16)<2*16 by omega)];simp
  rw[decide_eq_false h64];simp
 have z1:=fun j=>cW (.inl rfl) z0 m1 j
 have z2:=fun j=>cW (.inr (.inl rfl)) z1 m2 j
 have z3:=fun j=>cW (.inr (.inr (.inl rfl))) z2 m3 j
 have z4:=fun j=>cW (.inr (.inr (.inr (.inl rfl)))) z3 m4 j
 have z5:=cW (.inr (.inr (.inr (.inr rfl)))) z4 m5 j;unfold iJ;rw[z5,show j / (2*1)*1+j % 1=j / 2 by omega]
 rcases Nat.mod_two_eq_zero_or_one j with h|h<;>simp[h]
theorem nu{x y:Nat}(hx:x<2^32)(hy:y<2^32)(j:Nat):(wvN x y).testBit j=(decide (j<64)&&(if j % 2=0 then x.testBit (j / 2)else y.testBit (j / 2))):=by
 unfold wvN;rw[Nat.testBit_or,Nat.testBit_mod_two_pow,Nat.testBit_shiftLeft,pz hx,pz hy]
 by_cases h1:j<64
 .rcases Nat.mod_two_eq_zero_or_one j with h|h
  .rw [if_pos h,decide_eq_true h1,decide_eq_true h]
   by_cases hj:1<=j
   .rw [decide_eq_false (show ¬(j-1) % 2=0 by omega)];simp
   rw[decide_eq_false hj];simp
  rw[if_neg (by omega),decide_eq_true h1,decide_eq_false (show ¬j % 2=0 by omega),decide_eq_true (show 1<=j by omega),decide_eq_true (show(j-1) % 2=0 by omega),show(j-1) / 2=j / 2 by omega,decide_eq_true (show j-1<64 by omega)];simp
 rw[decide_eq_false h1];simp
theorem ns{x y:Nat}(hx:x<2^32)(hy:y<2^32):wvN x y<2^64:=Nat.lt_pow_two_of_testBit _ fun j hj=>by
 rw[nu hx hy,decide_eq_false (show ¬j<64 by omega)];rfl
theorem oL{x y:Nat}(hx:x<2^32)(hy:y<2^32):crd 0 (wvN x y)=x/\crd 1 (wvN x y)=y:=by
 constructor
 .refine Nat.eq_of_testBit_eq fun i=>?_
  rw[L3,nu hx hy]
  by_cases hi:i<32
  .rw [decide_eq_true hi,decide_eq_true (show 2*i+0<64 by omega),if_pos (by omega),show(2*i+0) / 2=i by omega];simp
  rw[decide_eq_false hi,Nat.testBit_lt_two_pow (Nat.lt_of_lt_of_le hx (Nat.pow_le_pow_right (by decide) (show 32<=i by omega)))];rfl
 refine Nat.eq_of_testBit_eq fun i=>?_
 rw[L3,nu hx hy]
 by_cases hi:i<32
 .rw [decide_eq_true hi,decide_eq_true (show 2*i+1<64 by omega),if_neg (by omega),show(2*i+1) / 2=i by omega];simp
 rw[decide_eq_false hi,Nat.testBit_lt_two_pow (Nat.lt_of_lt_of_le hy (Nat.pow_le_pow_right (by decide) (show 32<=i by omega)))];rfl
structure vc(R:C9):Prop where
 x1:R.x1<2^32
 x2:R.x2<2^32
 y1:R.y1<2^32
 y2:R.y2<2^32
theorem Ca{R:C9}(h:vc R)(k:Nat):inB (wvN R.x1 R.y1) (wvN R.x2 R.y2) k↔ie R k:=by
 have a:=oL h.x1 h.y1;have b:=oL h.x2 h.y2
 constructor
 .intro g
  have g0:=g 0 (by decide);have g1:=g 1 (by decide);rw[<-P9 (by decide),<-P9 (by decide),a.1,b.1]at g0;rw[<-P9 (by decide),<-P9 (by decide),a.2,b.2]at g1;exact⟨g0.1,g0.2,g1.1,g1.2⟩
 rintro⟨g1,g2,g3,g4⟩ c hc
 rw[<-P9 hc,<-P9 hc]
 rcases(show c=0 \/ c=1 by omega)with rfl|rfl
 .rw [a.1,b.1];exact⟨g1,g2⟩
 rw[a.2,b.2];exact⟨g3,g4⟩
theorem GD{R:C9}(h:vc R)(hI:R.Is){z:Nat}(hz:z<2^64):bmL z 64 (wvN R.x1 R.y1) (wvN R.x2 R.y2) 0 false=iP R z 64 0:=by
 have hv:∀c,c<2->mkC c (wvN R.x1 R.y1)<=mkC c (wvN R.x2 R.y2):=fun c hc=>by
  have a:=oL h.x1 h.y1;have b:=oL h.x2 h.y2;rw[<-P9 hc]
  rcases(show c=0 \/ c=1 by omega)with rfl|rfl
  .rw [a.1,b.1];exact hI.1
  rw[a.2,b.2];exact hI.2
 have p:=GC hz (ns h.x1 h.y1) (ns h.x2 h.y2) hv;have d:=aj R z 64 0;rw[Nat.mul_zero]at d;refine J4.one p (d.congr fun k=>?_);unfold InQ;rw[Ca h]
 constructor
 .rintro ⟨⟨g1,g2⟩,g3,g4⟩;exact⟨⟨g3,by omega⟩,g4⟩
 rintro⟨⟨g3,g2⟩,g4⟩;exact⟨⟨Nat.zero_le _,by omega⟩,g3,g4⟩
def Y6(R:C9)(z:Nat):Nat×Bool:=if R.Is then iP R z 64 0 else(0,false)
def l4.rct(J:l4):C9:=⟨J.x1.toNat,J.x2.toNat,J.y1.toNat,J.y2.toNat⟩
def U32(x:Int):Prop:=0<=x/\x<4294967296
structure aB(J:l4):Prop where
 x1:U32 J.x1
 x2:U32 J.x2
 y1:U32 J.y1
 y2:U32 J.y2
theorem aB.ok{J:l4}(h:aB J):vc J.rct:=by
 obtain⟨⟨a0,a1⟩,⟨b0,b1⟩,⟨c0,c1⟩,⟨d0,d1⟩⟩:=h;have e:(2:Nat)^32=4294967296:=by decide
 refine⟨?_,?_,?_,?_⟩<;>(rw[e];unfold l4.rct;dsimp only;omega)
def cN(R:C9)(k:Int):Bool:=decide (R.Is/\ie R k.toNat)
def eR(l:Lab):Int:=if l.bits+szL l=18446744073709551616 then 0 else l.bits+szL l
def lO(l:Lab):Bool:=!decide (l.bits+szL l=18446744073709551616)
def iO(R:C9)(l:Lab):Int:=((Y6 R (eR l).toNat).1:Nat)
def qb(R:C9)(l:Lab):Bool:=lO l&&(Y6 R (eR l).toNat).2
abbrev rz:Int:=18446744073709551615
def gK(R:C9)(z:Int)(s:Spt):List Itm:=(hasL s z rz).filter fun i=>cN R i.key
def iM(bk k:Int)(R:C9):Nat->Int->Spt->List Itm->Pst->Rs Rsl
 |0,_,_,_,p=>.stop zWq p
 |n+1,z,s,o,p=>
   if qb R s.lab=true then(bC bk k (iO R s.lab) (n+1) s p).bind fun s' p=>iM bk k R n (iO R s.lab) s' (o++gK R z s) p
   else .ok ⟨0,false,⟨#[]⟩,o++gK R z s,0,false⟩ p
def iL(bk k how:Int)(R:C9)(p:Pst):Rs Rsl:=
 if R.Is then(jN bk k how ((Y6 R 0).1:Nat) (p.n+1) p).bind fun s q=>iM bk k R (p.n+1) ((Y6 R 0).1:Nat) s [] q
 else .ok ⟨5,false,⟨#[]⟩,[],0,false⟩ p
def z6(J:l4)(n:Nat)(f:Nat->r5):Wq×Int:=dq (E6 J&&decide (J.kind=12)&&Q1 n f) (iL J.bucket (J.budget-n) J.how J.rct (nY n f))
theorem BR{R:C9}{z:Nat}(hz:z<2^64):(iP R z 64 0).1<2^64:=by
 have h:=aj R z 64 0;rw[Nat.mul_zero]at h
 cases hr:(iP R z 64 0).2 with
 |true=>have:=(h.1 hr).1.1.2;omega
 |false=>rw[(h.2 hr).1];decide
theorem ui{R:C9}{z:Nat}(hz:z<2^64):(Y6 R z).1<2^64:=by
 unfold Y6
 split
 .exact BR hz
 decide
theorem oq{R:C9}{z:Nat}(hz:z<2^64):U64 ((Y6 R z).1:Nat):=by
 have:=ui (R:=R) hz;have e:(2:Nat)^64=18446744073709551616:=by decide
 exact⟨by omega,by omega⟩
theorem rT{l:Lab}(hl:isL l=true)(hb:U64 l.bits):U64 (eR l):=by
 have h1:=uo hl hb;have h2:=xm l;have h3:=hb.1;unfold eR
 split
 .exact ⟨by decide,by decide⟩
 exact⟨by omega,by omega⟩
theorem rU{R:C9}{l:Lab}(hl:isL l=true)(hb:U64 l.bits):U64 (iO R l):=by
 have:=rT hl hb;exact oq (eF this)
theorem BZ(R:C9)(f:Nat->Itm)(i:Nat):((List.range (i+1)).map f).filter (fun x=>cN R x.key)=((List.range i).map f).filter (fun x=>cN R x.key)++(if cN R (f i).key=true then [f i]else []):=by
 rw[List.range_succ,List.map_append,List.filter_append]
 congr 1
 by_cases h:cN R (f i).key=true<;>simp[h]
end Go.Proofs.YtmbkanpapkhnaaaGreat.Sym
namespace Go.Proofs.YtmbkanpapkhnaaaGreat.Sym
open Go Go.ChangeShapes Go.WideShapes Go.ChangeAt Go.RowKit Go.Deep
theorem nD{b:Int}(h:(Lit.int .u32 b).wf=true):U32 b:=by
 simp[Lit.wf,IntKind.min,IntKind.max,IntKind.signed,IntKind.bits]at h;exact⟨by omega,by omega⟩
section
variable {H:Type} {enc:TypeId×Value->H} {w:World} {base:Nat} {spare:Nat->Bool} {held:Bool}
theorem wL(n:Nat)(cs:List Value)(y:DataW H×List MemPlace)(h:DataW.trod enc Tryz.prog w base spare held n 28 cs=some y):∃x1 x2 y1 y2:Int,cs=[.int .u32 x1,.int .u32 x2,.int .u32 y1,.int .u32 y2]/\U32 x1/\U32 x2/\U32 y1/\U32 y2:=by
 obtain⟨xs,m,rfl,rfl,hlen,hxl,hf⟩:=DataW.trod_struct Tryz.underlying28 h;have hC:Tryz.prog.cellsOf 28=4:=by kernel_rfl
 have h0:DataW.trod enc Tryz.prog w base spare held m 26 ((cs.drop 0).take (Tryz.prog.cellsOf 26))=xs[0]?:=hf 0 _ rfl;have h1:DataW.trod enc Tryz.prog w base spare held m 26 ((cs.drop 1).take (Tryz.prog.cellsOf 26))=xs[1]?:=hf 1 _ rfl;have h2:DataW.trod enc Tryz.prog w base spare held m 26 ((cs.drop 2).take (Tryz.prog.cellsOf 26))=xs[2]?:=hf 2 _ rfl;have h3:DataW.trod enc Tryz.prog w base spare held m 26 ((cs.drop 3).take (Tryz.prog.cellsOf 26))=xs[3]?:=hf 3 _ rfl;rw[hC]at hlen;rw[show Tryz.prog.cellsOf 26=1 by kernel_rfl]at h0 h1 h2 h3
 match cs,hlen with
 | [c0,c1,c2,c3],_=>
  match xs,hxl with
  | [y0,y1,y2,y3],_=>
   obtain⟨a0,e0,_,g0⟩:=DataW.trod_int Tryz.underlying26 h0;obtain⟨a1,e1,_,g1⟩:=DataW.trod_int Tryz.underlying26 h1;obtain⟨a2,e2,_,g2⟩:=DataW.trod_int Tryz.underlying26 h2;obtain⟨a3,e3,_,g3⟩:=DataW.trod_int Tryz.underlying26 h3;simp at e0 e1 e2 e3;subst e0;subst e1;subst e2;subst e3;exact⟨_,_,_,_,rfl,nD g0,nD g1,nD g2,nD g3⟩
theorem zF(n:Nat)(cs:List Value)(y:DataW H×List MemPlace)(h:DataW.trod enc Tryz.prog w base spare held n 30 cs=some y):∃x:l4,cs=(FJ x).map AV.den/\OkL w (FJ x)/\bG x/\aB x:=by
 obtain⟨xs,m,rfl,rfl,hlen,hxl,hf⟩:=DataW.trod_struct Tryz.underlying30 h;have hC:Tryz.prog.cellsOf 30=15:=by kernel_rfl
 have h0:DataW.trod enc Tryz.prog w base spare held m 3 ((cs.drop 0).take (Tryz.prog.cellsOf 3))=xs[0]?:=hf 0 _ rfl;have h1:DataW.trod enc Tryz.prog w base spare held m 24 ((cs.drop 1).take (Tryz.prog.cellsOf 24))=xs[1]?:=hf 1 _ rfl;have h2:DataW.trod enc Tryz.prog w base spare held m 22 ((cs.drop 3).take (Tryz.prog.cellsOf 22))=xs[2]?:=hf 2 _ rfl;have h3:DataW.trod enc Tryz.prog w base spare held m 22 ((cs.drop 4).take (Tryz.prog.cellsOf 22))=xs[3]?:=hf 3 _ rfl;have h4:DataW.trod enc Tryz.prog w base spare held m 9 ((cs.drop 5).take (Tryz.prog.cellsOf 9))=xs[4]?:=hf 4 _ rfl;have h5:DataW.trod enc Tryz.prog w base spare held m 3 ((cs.drop 6).take (Tryz.prog.cellsOf 3))=xs[5]?:=hf 5 _ rfl;have h6:DataW.trod enc Tryz.prog w base spare held m 25 ((cs.drop 7).take (Tryz.prog.cellsOf 25))=xs[6]?:=hf 6 _ rfl;have h7:DataW.trod enc Tryz.prog w base spare held m 28 ((cs.drop 8).take (Tryz.prog.cellsOf 28))=xs[7]?:=hf 7 _ rfl;have h8:DataW.trod enc Tryz.prog w base spare held m 3 ((cs.drop 12).take (Tryz.prog.cellsOf 3))=xs[8]?:=hf 8 _ rfl;have h9:DataW.trod enc Tryz.prog w base spare held m 3 ((cs.drop 13).take (Tryz.prog.cellsOf 3))=xs[9]?:=hf 9 _ rfl;have h10:DataW.trod enc Tryz.prog w base spare held m 3 ((cs.drop 14).take (Tryz.prog.cellsOf 3))=xs[10]?:=hf 10 _ rfl;rw[hC]at hlen;rw[show Tryz.prog.cellsOf 3=1 by kernel_rfl]at h0 h5 h8 h9 h10;rw[show Tryz.prog.cellsOf 24=2 by kernel_rfl]at h1;rw[show Tryz.prog.cellsOf 22=1 by kernel_rfl]at h2 h3;rw[show Tryz.prog.cellsOf 9=1 by kernel_rfl]at h4;rw[show Tryz.prog.cellsOf 25=1 by kernel_rfl]at h6;rw[show Tryz.prog.cellsOf 28=4 by kernel_rfl]at h7
 match cs,hlen with
 | [c0,c1,c2,c3,c4,c5,c6,c7,c8,c9,c10,c11,c12,c13,c14],_=>
  match xs,hxl with
  | [y0,y1,y2,y3,y4,y5,y6,y7,y8,y9,y10],_=>
   obtain⟨kd,e0,_,_⟩:=DataW.trod_int Tryz.underlying3 h0;obtain⟨l,e1,hl⟩:=gy _ _ _ h1;obtain⟨ky,e2,_,wk⟩:=DataW.trod_int Tryz.underlying22 h2;obtain⟨hi,e3,_,wh⟩:=DataW.trod_int Tryz.underlying22 h3;obtain⟨vl,e4,_,ws⟩:=DataW.trod_string Tryz.underlying9 h4;obtain⟨ms,e5,_,_⟩:=DataW.trod_int Tryz.underlying3 h5;obtain⟨pA,pc,pn,pf,e6,hp⟩:=zG _ _ _ h6;obtain⟨x1,x2,y1,y2,e7,r1,r2,r3,r4⟩:=wL _ _ _ h7;obtain⟨hw,e8,_,_⟩:=DataW.trod_int Tryz.underlying3 h8;obtain⟨bk,e9,_,_⟩:=DataW.trod_int Tryz.underlying3 h9;obtain⟨bg,e10,_,_⟩:=DataW.trod_int Tryz.underlying3 h10;simp only[List.drop_zero,List.drop_succ_cons,List.take_succ_cons,List.take_zero,List.cons.injEq,and_true]at e0 e1 e2 e3 e4 e5 e6 e7 e8 e9 e10;obtain⟨e1,f1⟩:=e1;obtain⟨g0,g1,g2,g3⟩:=e7;subst e0;subst e1;subst f1;subst e2;subst e3;subst e4;subst e5;subst e6;subst g0;subst g1;subst g2;subst g3;subst e8;subst e9;subst e10;exact⟨⟨kd,l,ky,hi,vl,ms,pA,pn,pc,pf,x1,x2,y1,y2,hw,bk,bg⟩,rfl,.int (.int (.int (.int (.int (.cons rfl (.str _ ws) (.int (.cons rfl hp (.int (.int (.int (.int (.int (.int (.int .nil)))))))))))))),⟨hl.u64,jB wk,jB wh⟩,⟨r1,r2,r3,r4⟩⟩
variable {r:Reach} {b0:Nat} {v:Value} {d:DataW H} {p:List MemPlace}
def At(w:World)(v:Value):Prop:=∃J:l4,v=(U0 J).den/\Ok m0 w (U0 J)/\bG J/\aB J
theorem Cd(hv:Value.okWide Tryz.prog w r b0 30 v)(h:DataW.Trod enc Tryz.prog w base spare held 30 v d p):At w v:=by
 obtain⟨cs,rfl,_⟩:=okWide_struct Tryz.underlying30 hv;obtain⟨fuel,hf⟩:=h;obtain⟨x,hx,hw⟩:=zF _ _ _ hf;simp only[Value.cells]at hx;obtain⟨l,rfl⟩:∃l:List Value,cs=l.toArray:=⟨cs.toList,by simp⟩
 simp only[List.toList_toArray]at hx;subst hx;exact⟨x,by simp[AV.den,AV.denL],hw.1.agg,hw.2⟩
end
end Go.Proofs.YtmbkanpapkhnaaaGreat.Sym
namespace Go.Proofs.YtmbkanpapkhnaaaGreat.Sym
open Go Go.RowKit
def RA.er(x:RA):RA:=⟨none,0,x.r⟩
def r5.er(g:r5):r5:=⟨g.code,g.ver,g.has,g.x.er⟩
def Pst.er(p:Pst):Pst:=⟨p.n,fun j=>(p.g j).er,p.note⟩
def Rs.er{α : Type}(e:α->α):Rs α->Rs α
 | .ok a p=>.ok (e a) p.er
 | .stop w p=>.stop w p.er
def Fz.er:Fz->Fz
 | .over=>.over
 | .unfit=>.unfit
 | .fr x=>.fr x.er
def Spt.er(s:Spt):Spt:=⟨s.lab,s.g.er⟩
section
variable {α β : Type} {e:α->α} {e2:β->β}
theorem r7{m m':Rs α}{f f':α->Pst->Rs β}(h:m.er e=m')(hf:∀a q,(f a q).er e2=f' (e a) q.er):(m.bind f).er e2=m'.bind f':=by
 subst h
 cases m with
 |ok a p=>exact hf a p
 |stop w p=>rfl
theorem s3{c:Prop} [Decidable c]{x y x' y':Rs α}(hx:x.er e=x')(hy:y.er e=y'):(if c then x else y).er e=if c then x' else y':=by
 split<;>assumption
end
theorem sK(k:Int)(w:Wq)(p:Pst):(M2 k w p).er r5.er=M2 k w p.er:=by
 unfold M2
 by_cases h:0<p.n/\0<(p.n:Int)+k
 .rw [if_pos h,if_pos (show 0<p.er.n/\0<(p.er.n:Int)+k from h)];rfl
 rw[if_neg h,if_neg (show ¬(0<p.er.n/\0<(p.er.n:Int)+k)from h)];rfl
theorem W3(k:Int)(l:Lab)(p:Pst):(N0 k l p).er r5.er=N0 k l p.er:=sK _ _ _
theorem fi(k:Int)(l:Lab)(v:Int)(r:Rec)(p:Pst):(aN k l v r p).er id=aN k l v r p.er:=r7 (sK _ _ _) fun _ _=>rfl
theorem Gd(k:Int)(l:Lab)(v:Int)(p:Pst):(lS k l v p).er id=lS k l v p.er:=r7 (sK _ _ _) fun _ _=>rfl
theorem oI(k:Int)(l:Lab)(v:Int)(c:Lab)(x:Rec):∀n p,(I8 k l v c x n p).er id=I8 k l v c x n p.er
 |0,p=>rfl
 |n+1,p=>r7 (W3 _ _ _) fun _ _=>s3 rfl (r7 (W3 _ _ _) fun _ _=>s3 (r7 (fi _ _ _ _ _) fun _ _=>s3 rfl (oI k l v c x n _)) rfl)
theorem zk(k:Int)(n:Nat)(l:Lab)(v:Int)(x:RA)(p:Pst):(C2 k n l v x p).er id=C2 k n l v x.er p.er:=
 s3 (r7 (oI _ _ _ _ _ _ _) fun _ _=>s3 (r7 (oI _ _ _ _ _ _ _) fun _ _=>s3 (r7 (fi _ _ _ _ _) fun _ _=>rfl) rfl) rfl) rfl
theorem sH(k:Int)(l:Lab)(v:Int)(c:Lab):∀n p,(ap k l v c n p).er Fz.er=ap k l v c n p.er
 |0,p=>rfl
 |n+1,p=>r7 (W3 _ _ _) fun _ _=>s3 (s3 rfl (r7 (W3 _ _ _) fun _ _=>s3 (r7 (fi _ _ _ _ _) fun _ _=>s3 rfl (sH k l v c n _)) rfl)) rfl
theorem uG(k:Int)(l:Lab)(cl:Lab->Pst->Rs Unit)(h:∀c p,(cl c p).er id=cl c p.er)(c:Lab)(p:Pst):(T0 k l cl c p).er id=T0 k l cl c p.er:=
 r7 (W3 _ _ _) fun _ _=>s3 (r7 (h _ _) fun _ _=>r7 (W3 _ _ _) fun _ _=>s3 (r7 (Gd _ _ _ _) fun _ _=>rfl) rfl) rfl
theorem sI(k:Int):∀n l p,(P0 k n l p).er id=P0 k n l p.er
 |0,l,p=>rfl
 |n+1,l,p=>s3 rfl (r7 (uG _ _ _ (sI k n) _ _) fun _ _=>s3 (r7 (uG _ _ _ (sI k n) _ _) fun _ _=>rfl) rfl)
theorem sJ(k:Int)(th:Lab->Pst->Rs Unit)(h:∀c p,(th c p).er id=th c p.er)(l:Lab)(v:Int)(p:Pst):(eu k th l v p).er id=eu k th l v p.er:=
 r7 (fi _ _ _ _ _) fun _ _=>s3 (r7 (h _ _) fun _ _=>h _ _) rfl
theorem Gb(bk k:Int)(n:Nat)(th:Lab->Pst->Rs Unit)(h:∀c p,(th c p).er id=th c p.er)(l:Lab)(v:Int)(p:Pst):(Z8 bk k n th l v p).er id=Z8 bk k n th l v p.er:=
 r7 (sH _ _ _ _ _ _) fun a _=>match a with
  | .over=>rfl
  | .unfit=>sJ _ _ h _ _ _
  | .fr a=>r7 (sH _ _ _ _ _ _) fun b _=>match b with
   | .over=>rfl
   | .unfit=>sJ _ _ h _ _ _
   | .fr b=>s3 (r7 (fi _ _ _ _ _) fun _ _=>s3 (sI _ _ _ _) rfl) (sJ _ _ h _ _ _)
theorem zn(bk k:Int)(n:Nat)(th:Lab->Pst->Rs Unit)(h:∀c p,(th c p).er id=th c p.er)(l:Lab)(g:r5)(p:Pst):(gW bk k n th l g p).er id=gW bk k n th l g.er p.er:=
 s3 (zk _ _ _ _ _ _) (s3 (Gb _ _ _ _ h _ _ _) rfl)
theorem oH(bk k:Int):∀n l up p,(cU bk k n l up p).er id=cU bk k n l up p.er
 |0,l,up,p=>rfl
 |n+1,l,up,p=>by
  unfold cU;refine r7 (W3 _ _ _) fun g q=>s3 (r7 (W3 _ _ _) fun q2 p2=>?_) rfl
  have H:=zn bk k n (fun c p=>if aw c=0 then cU bk k n c (V9 c) p else .ok () p) (fun c p=>s3 (oH bk k n c (V9 c) p) rfl) up q2 p2;refine r7 (e:=id) (s3 H rfl) fun _ p3=>?_
  exact s3 (r7 (fi _ _ _ _ _) fun _ _=>s3 rfl (oH bk k n _ _ _)) rfl
theorem sG(bk k:Int)(n:Nat)(l:Lab)(p:Pst):(T3 bk k n l p).er id=T3 bk k n l p.er:=s3 (oH _ _ _ _ _ _) rfl
theorem zm(bk k:Int)(n:Nat)(l:Lab)(g:r5)(p:Pst):(cP bk k n l g p).er id=cP bk k n l g.er p.er:=zn _ _ _ _ (sG _ _ _) _ _ _
theorem co(bk k key:Int):∀n l p,(L5 bk k key n l p).er Spt.er=L5 bk k key n l p.er
 |0,l,p=>rfl
 |n+1,l,p=>r7 (W3 _ _ _) fun _ _=>s3 rfl (s3 (r7 (zm _ _ _ _ _ _) fun _ _=>co bk k key n _ _) (s3 (co bk k key n _ _) (s3 (r7 (sG _ _ _ _ _) fun _ _=>co bk k key n _ _) (s3 (r7 (fi _ _ _ _ _) fun _ _=>co bk k key n _ _) (co bk k key n _ _)))))
theorem Gc(bk k:Int)(n:Nat)(l:Lab)(p:Pst):(eX bk k n l p).er id=eX bk k n l p.er:=
 s3 (r7 (W3 _ _ _) fun _ _=>s3 (r7 (sG _ _ _ _ _) fun _ _=>rfl) rfl) rfl
theorem gY(bk k key:Int):∀n lo hi p,(Q0 bk k key n lo hi p).er Spt.er=Q0 bk k key n lo hi p.er
 |0,lo,hi,p=>rfl
 |n+1,lo,hi,p=>s3 (r7 (W3 _ _ _) fun _ _=>s3 rfl (s3 (gY bk k key n _ _ _) (s3 (r7 (zm _ _ _ _ _ _) fun _ _=>gY bk k key n _ _ _) (s3 (r7 (Gc _ _ _ _ _) fun _ _=>s3 (gY bk k key n _ _ _) (gY bk k key n _ _ _)) (gY bk k key n _ _ _))))) (co _ _ _ _ _ _)
theorem FZ(bk k how key:Int)(n:Nat)(p:Pst):(jN bk k how key n p).er Spt.er=jN bk k how key n p.er:=s3 (co _ _ _ _ _ _) (gY _ _ _ _ _ _ _)
theorem AK(r:Rs Rsl):K6 (r.er id)=K6 r:=by cases r<;>rfl
structure Q5(r:Rec):Prop where
 nx:U64 r.next.bits
 few:r.items.length<=16
 key:∀x∈r.items,U64 x.key
structure td(w:Wq):Prop where
 lab:LOk w.lab
 r:Q5 w.r
def N2{α : Type}(r:Rs α):Prop:=match r with
 | .ok _ _=>True
 | .stop w _=>td w
theorem L9:Q5 j3:=⟨⟨by decide,by decide⟩,by decide,fun x hx=>by cases hx⟩
theorem nW:Q5 dC:=⟨⟨by decide,by decide⟩,by decide,fun x hx=>by cases hx⟩
theorem bF.ro{x:RA}(h:bF x):Q5 x.r.abs:=by
 refine⟨h.nx,?_,fun y hy=>?_⟩
 .show (d4 x.r.f x.r.n).length<=16
  rw[i6];exact h.few
 obtain⟨i,hi,rfl⟩:=List.mem_map.1 hy;exact h.key i (List.mem_range.1 hi)
theorem ew:td zWq:=⟨J8,L9⟩
theorem l8{α β : Type}{m:Rs α}{f:α->Pst->Rs β}(h:N2 m)(hf:∀a q,m = .ok a q->N2 (f a q)):N2 (m.bind f):=by
 cases m with
 |ok a q=>exact hf a q rfl
 |stop w q=>exact h
theorem o5{α : Type}{c:Prop} [Decidable c]{x y:Rs α}(hx:c->N2 x)(hy:¬c->N2 y):N2 (if c then x else y):=by
 by_cases h:c
 .rw [if_pos h];exact hx h
 rw[if_neg h];exact hy h
theorem nA{k:Int}{w:Wq}{p:Pst}(h:td w):N2 (M2 k w p):=by
 unfold M2;refine o5 (fun _=>trivial) (fun _=>?_)
 show td _
 split
 .exact ⟨J8,L9⟩
 exact h
theorem P4{k:Int}{l:Lab}{p:Pst}(h:LOk l):N2 (N0 k l p):=nA ⟨h,L9⟩
theorem bH{k:Int}{l:Lab}{v:Int}{r:Rec}{p:Pst}(h:LOk l)(hr:Q5 r):N2 (aN k l v r p):=l8 (nA ⟨h,hr⟩) fun _ _ _=>trivial
theorem AD{k:Int}{l:Lab}{v:Int}{p:Pst}(h:LOk l):N2 (lS k l v p):=l8 (nA ⟨h,L9⟩) fun _ _ _=>trivial
theorem jz{k:Int}{l:Lab}{v:Int}{c:Lab}{x:Rec}(hl:LOk l)(hc:LOk c)(hx:Q5 x):∀n p,N2 (I8 k l v c x n p)
 |0,p=>ew
 |n+1,p=>by
  unfold I8;refine l8 (P4 hc) fun g p1 _=>o5 (fun _=>trivial) fun _=>l8 (P4 hl) fun q p2 _=>o5 (fun _=>?_) fun _=>trivial
  exact l8 (bH hc hx) fun d p3 _=>o5 (fun _=>trivial) fun _=>jz hl hc hx n p3
theorem oM{l:Lab}{its:List Itm}{x:Itm}(h:x∈J2 l its):x∈its:=(List.mem_filter.1 h).1
theorem sQ(l:Lab)(its:List Itm):(J2 l its).length<=its.length:=List.length_filter_le _ _
theorem jl{x:RA}{l:Lab}(h:bF x)(hl:LOk l):Q5 (N8 x l).1/\Q5 (N8 x l).2.1:=by
 have hr:=h.ro;unfold N8 R4
 split
 .exact ⟨L9,L9⟩
 split
 .exact ⟨L9,L9⟩
 split
 .exact ⟨L9,L9⟩
 rename_i h64
 refine⟨⟨oQ hl.isl hl.u h64 1,Nat.le_trans (sQ _ _) hr.few,fun y hy=>hr.key y (oM hy)⟩,⟨h.nx,Nat.le_trans (sQ _ _) hr.few,fun y hy=>hr.key y (oM hy)⟩⟩
theorem xi{x y:RA}(h:bF x)(h':bF y):Q5 (cK x y).1:=by
 have hr:=h.ro;have hr':=h'.ro;unfold cK iI
 split
 .exact L9
 split
 .exact L9
 split
 .exact L9
 split
 .exact L9
 rename_i h16
 refine⟨h'.nx,?_,fun z hz=>?_⟩
 .show (d4 x.r.f x.r.n++d4 y.r.f y.r.n).length<=16
  rw[List.length_append,i6,i6];omega
 rcases List.mem_append.1 hz with hz|hz
 .exact hr.key z hz
 exact hr'.key z hz
theorem vh{k:Int}{n:Nat}{l:Lab}{v:Int}{x:RA}{p:Pst}(hl:LOk l)(hx:bF x):N2 (C2 k n l v x p):=by
 unfold C2;refine o5 (fun _=>?_) fun _=>trivial
 refine l8 (jz hl (hl.ch 0) (jl hx hl).1 n p) fun go p1 _=>o5 (fun _=>?_) fun _=>trivial
 refine l8 (jz hl (hl.ch 1) (jl hx hl).2 n p1) fun go p2 _=>o5 (fun _=>?_) fun _=>trivial
 exact l8 (bH hl nW) fun _ _ _=>trivial
theorem nw{k:Int}{l:Lab}{v:Int}{c:Lab}(hl:LOk l)(hc:LOk c):∀n p,j8 p->N2 (ap k l v c n p)
 |0,p,_=>ew
 |n+1,p,hp=>by
  unfold ap;refine l8 (P4 hc) fun g p1 e1=>o5 (fun _=>o5 (fun _=>trivial) fun _=>?_) fun _=>trivial
  have hp1:=hp.suf ((l3 k c p).of e1);refine l8 (P4 hl) fun q p2 e2=>o5 (fun _=>?_) fun _=>trivial
  have hp2:=hp1.suf ((l3 k l p1).of e2);refine l8 (bH hc ((hp.get e1).ra.as 5 v).ro) fun d p3 e3=>o5 (fun _=>trivial) fun _=>?_
  exact nw hl hc n p3 (hp2.suf ((A4 _ _ _ _ _).of e3))
theorem po{k:Int}{l:Lab}{cl:Lab->Pst->Rs Unit}{c:Lab}(hl:LOk l)(hc:LOk c)(hcl:∀c p,LOk c->N2 (cl c p))(p:Pst):N2 (T0 k l cl c p):=by
 unfold T0;refine l8 (P4 hc) fun g p1 _=>o5 (fun _=>?_) fun _=>trivial
 refine l8 (hcl c p1 hc) fun _ p2 _=>l8 (P4 hl) fun q p3 _=>o5 (fun _=>?_) fun _=>trivial
 exact l8 (AD hc) fun _ _ _=>trivial
theorem ny{k:Int}:∀(n:Nat) (l:Lab) (p:Pst),LOk l->N2 (P0 k n l p)
 |0,l,p,_=>ew
 |n+1,l,p,hl=>by
  unfold P0;refine o5 (fun _=>trivial) fun _=>l8 (po hl (hl.ch 0) (fun c p hc=>ny n c p hc) p) fun go p1 _=>o5 (fun _=>?_) fun _=>trivial
  exact l8 (po hl (hl.ch 1) (fun c p hc=>ny n c p hc) p1) fun _ _ _=>trivial
theorem nz{k:Int}{th:Lab->Pst->Rs Unit}{l:Lab}{v:Int}(hl:LOk l)(hth:∀c p,LOk c->j8 p->N2 (th c p))(hfr:∀c p,Fro p (th c p)){p:Pst}(hp:j8 p):N2 (eu k th l v p):=by
 unfold eu;refine l8 (bH hl nW) fun d p1 e1=>o5 (fun _=>?_) fun _=>trivial
 have hp1:=hp.suf ((A4 _ _ _ _ _).of e1);exact l8 (hth _ _ (hl.ch 0) hp1) fun _ p2 e2=>hth _ _ (hl.ch 1) (hp1.suf ((hfr _ _).of e2))
theorem AB{bk k:Int}{n:Nat}{th:Lab->Pst->Rs Unit}{l:Lab}{v:Int}(hl:LOk l)(hth:∀c p,LOk c->j8 p->N2 (th c p))(hfr:∀c p,Fro p (th c p)){p:Pst}(hp:j8 p):N2 (Z8 bk k n th l v p):=by
 unfold Z8;refine l8 (nw hl (hl.ch 0) n p hp) fun a p1 e1=>?_
 have hp1:=hp.suf ((cb _ _ _ _ _ _).of e1)
 cases a with
 |over=>trivial
 |unfit=>exact nz hl hth hfr hp1
 |fr a=>
  refine l8 (nw hl (hl.ch 1) n p1 hp1) fun b p2 e2=>?_
  have hp2:=hp1.suf ((cb _ _ _ _ _ _).of e2)
  cases b with
  |over=>trivial
  |unfit=>exact nz hl hth hfr hp2
  |fr b=>
   refine o5 (fun _=>?_) fun _=>nz hl hth hfr hp2
   exact l8 (bH hl (xi (kN hp e1) (kN hp1 e2))) fun d p3 _=>o5 (fun _=>ny n l p3 hl) fun _=>trivial
theorem tw{bk k:Int}{n:Nat}{th:Lab->Pst->Rs Unit}{l:Lab}{g:r5}(hl:LOk l)(hg:eD g)(hth:∀c p,LOk c->j8 p->N2 (th c p))(hfr:∀c p,Fro p (th c p)){p:Pst}(hp:j8 p):N2 (gW bk k n th l g p):=by
 unfold gW;exact o5 (fun _=>vh hl hg.ra) fun _=>o5 (fun _=>AB hl hth hfr hp) fun _=>trivial
theorem qw(bk k:Int)(n:Nat)(c:Lab)(p:Pst):Fro p (if aw c=0 then cU bk k n c (V9 c) p else .ok () p:Rs Unit):=k8 (fZ _ _ _ _ _ _) (u0 _ _)
theorem jy{bk k:Int}:∀(n:Nat) (l up:Lab) (p:Pst),LOk l->LOk up->j8 p->N2 (cU bk k n l up p)
 |0,l,up,p,_,_,_=>ew
 |n+1,l,up,p,hl,hu,hp=>by
  unfold cU;refine l8 (P4 hl) fun g p1 e1=>o5 (fun _=>?_) fun _=>trivial
  have hp1:=hp.suf ((l3 _ _ _).of e1);refine l8 (P4 hu) fun q p2 e2=>?_
  have hp2:=hp1.suf ((l3 _ _ _).of e2);refine l8 (o5 (fun _=>tw hu (hp1.get e2) (fun c p hc hp=>show N2 (if aw c=0 then cU bk k n c (V9 c) p else .ok () p:Rs Unit)from o5 (fun _=>jy n c (V9 c) p hc hc.par hp) fun _=>trivial) (qw bk k n) hp2) fun _=>trivial) fun _ p3 e3=>o5 (fun _=>?_) fun _=>trivial
  have hp3:=hp2.suf (Fro.of (k8 (oF _ _ _ _ (qw bk k n) _ _ _) (u0 _ _)) e3);refine l8 (bH hl ((hp.get e1).ra.as 1 0).ro) fun d p4 e4=>o5 (fun _=>trivial) fun _=>?_
  exact jy n l up p4 hl hu (hp3.suf ((A4 _ _ _ _ _).of e4))
theorem nv{bk k:Int}{n:Nat}{l:Lab}{p:Pst}(hl:LOk l)(hp:j8 p):N2 (T3 bk k n l p):=o5 (fun _=>jy n l _ p hl hl.par hp) fun _=>trivial
theorem tv{bk k:Int}{n:Nat}{l:Lab}{g:r5}{p:Pst}(hl:LOk l)(hg:eD g)(hp:j8 p):N2 (cP bk k n l g p):=tw hl hg (fun c p hc hp=>nv hc hp) (J0 _ _ _) hp
theorem xg{r:Rs Rsl}(h:N2 r):td (K6 r).1:=by
 cases r with
 |ok a p=>
  unfold K6;simp only
  split
  .exact ew
  exact⟨J8,L9⟩
 |stop w p=>
  unfold K6;simp only
  split
  .exact ew
  exact h
end Go.Proofs.YtmbkanpapkhnaaaGreat.Sym
namespace Go.Proofs.YtmbkanpapkhnaaaGreat.Sym
open Go Go.RowKit
namespace Cl
theorem etyI:aQ Tryz.prog 33 62 2 24 (.agg #[.int .u64 0,.string ⟨#[]⟩]):=⟨by kernel_rfl,by kernel_rfl,rfl,by decide⟩
def itmE(x:Itm):List Value:=[.int .u64 x.key,.string x.val]
theorem K0(x:Itm):(itmE x).length=2:=rfl
theorem jb{m:Nat->Nat->Prop}{w:World}{A:Option Addr}{k:Nat}{l:List Itm}(hl:l.length<=k)(hk:k<=maxLen)(hs:∀x∈l,x.val.size<=maxLen)
  (h:0<(l.flatMap itmE).length->∃b off,A=some ⟨b,off,none⟩/\∀j u,(l.flatMap itmE)[j]? = some u->w.cell? ⟨b,off+j,none⟩=some u/\¬m b (off+j)):Ok m w (r6 A l.length k (itF l)):=by
 have hg:∀i (hi:i<l.length),itF l i=l[i]:=fun i hi=>by simp[itF,List.getD,hi]
 have hpos:∀i,i<l.length->0<(l.flatMap itmE).length:=fun i hi=>by rw[F8 K0];omega
 refine .sl _ _ _ _ _ _ hl hk (fun i _=>rfl) (fun i hi=>?_) (fun i hi j u hu=>?_) (fun i hi v hv=>?_) (fun i hi v hv=>?_)
 .obtain ⟨b,off,hA,_⟩:=h (hpos i hi);exact⟨b,off,hA⟩
 .obtain ⟨b,off,hA,hc⟩:=h (hpos i hi)
  have hu':(itmE (itF l i))[j]? = some u:=hu;rw[hg i hi]at hu';exact⟨b,off,hA,hc _ u (gd K0 (List.getElem?_eq_getElem hi) hu')⟩
 .simp only[itC,List.mem_cons,List.not_mem_nil,or_false]at hv
  rcases hv with rfl|rfl<;>rfl
 simp only[itC,List.mem_cons,List.not_mem_nil,or_false]at hv
 rcases hv with rfl|rfl
 .exact .int _ _
 exact .str _ (by rw[hg i hi];exact hs _ (List.getElem_mem hi))
variable {H:Type} {enc:TypeId×Value->H} {w:World} {base:Nat} {spare:Nat->Bool} {held:Bool}
theorem kE(x:Itm):∀v∈itmE x,v.oneCell'=true:=by
 intro v hv;simp only[itmE,List.mem_cons,List.not_mem_nil,or_false]at hv
 rcases hv with rfl|rfl<;>rfl
theorem rowFlat_its(l:List Itm):i7 (fun i=>itC (itF l i)) l.length=l.flatMap itmE:=by
 have key:∀n,n<=l.length->i7 (fun i=>itC (itF l i)) n=(l.take n).flatMap itmE:=by
  intro n
  induction n with
  |zero=>intro _;simp[i7]
  |succ n ih=>
   intro h;rw[F3,ih (by omega),List.take_succ_eq_append_getElem (by omega),List.flatMap_append];simp[itF,List.getD,List.getElem?_eq_getElem (show n<l.length by omega)];rfl
 have:=key l.length (Nat.le_refl _)
 rwa[List.take_length]at this
theorem its_reads{m:Nat->Nat->Prop}{w:World}{A:Option Addr}{c:Nat}{l:List Itm}(h:Ok m w (r6 A l.length c (itF l))):U4 itmE w w.heap.size A l:=by
 have:=aU h;rw[rowFlat_its]at this;exact this
theorem kD{m:Nat->Nat->Prop}{w:World}{A:Option Addr}{c:Nat}{l:List Itm}(h:Ok m w (r6 A l.length c (itF l))):∀x∈l,x.val.size<=maxLen:=by
 intro x hx;obtain⟨i,hi,rfl⟩:=List.mem_iff_getElem.1 hx
 cases h with
 |sl _ _ _ _ _ _ h1 h2 h3 h4 h5 h6 h7=>
  have:=h7 i hi (.str (itF l i).val) (by simp[itC])
  cases this with|str _ h=>simpa[itF,List.getD,hi]using h
theorem oa{m:Nat->Nat->Prop}{w:World}{B:Nat}{e:TypeId}{A:Option Addr}{n c:Nat}{l:List Itm}(h:tj itmE 2 w B e (.slice A n c) l)(hm:∀b o,m b o->b<B)(hs:∀x∈l,x.val.size<=maxLen):Ok m w (r6 A l.length c (itF l)):=by
 obtain⟨A',c',he,h1,h2⟩:=Own.isSlice h;injection he with e1 e2 e3;subst e3;subst e2
 refine jb h1 h2 hs fun hp=>?_
 rw[F8 K0]at hp;obtain⟨b,hA,hb⟩:=J6 h (by omega);refine⟨b,0,hA,fun j u hu=>⟨by rw[Nat.zero_add];exact K3 h hb j u hu,fun hmm=>?_⟩⟩;have:=(Own.lt h b hb).1;have:=hm _ _ hmm;omega
theorem clone_c(w:World)(A:Option Addr)(k:Nat)(l:List Itm)(hr:U4 itmE w w.heap.size A l)(hl:l.length<2147483000) :
  Calls Tryz.prog 72 #[.slice A l.length k] w fun e w'=>∃v',e = .returned v'/\tj itmE 2 w' w.heap.size 62 v' l/\Below w.heap.size w w':=by
 have hq:∀(A:Option Addr) (n k:Nat) (w:World),(binOp .eql 33 (.slice A n k) (.slice none 0 0)).run Tryz.prog w = .ok (.bool A.isNone) w:=fun A n k w=>Go.Lib.run_eql_slice_nil w _ _ A n k 0 0 Tryz.underlying33
 cases A with
 |none=>
  obtain rfl:l=[]:=by
   refine List.eq_nil_of_length_eq_zero (Nat.eq_zero_of_not_pos fun h=>?_);obtain⟨b,off,he,_⟩:=hr.at_ (k:=2) K0 (by decide) h
   cases he
  clear hr
  go_enter Tryz.func72,Tryz.ntmps72
  go_wp2_with fail
  go_ret
  exact⟨_,rfl,Own.nil _ _ _ _ _,Below.refl _ _⟩
 |some a=>
  obtain⟨W1,hW1⟩:=eqv (w.alloc (.cells #[] 62));have hb1:Below w.heap.size w W1:=by rw[hW1];exact(Below.refl _ _).alloc (Nat.le_refl _) _
  obtain⟨v',w',hr',hO,hG,hv⟩:=de (P:=Tryz.prog) etyI 33 (Own.nil W1 w.heap.size 62 2 (some ⟨w.heap.size,0,none⟩)) (some a) l.length k (l.flatMap itmE) (F8 K0 l) (hr.below hb1) (qy kE l) (by simp only[maxLen];omega) (by omega) hb1.size;rw[Nat.zero_add,List.nil_append]at hO;have HO:Hid (tj itmE 2 w' w.heap.size 62 v' l/\Below w.heap.size w w'):=⟨hO,hb1.grown hG hb1.size fun g hg=>by simp[s9]at hg⟩;rw[hW1]at hr';clear hO hG hv hb1 hW1
  go_enter Tryz.func72,Tryz.ntmps72
  go_wp2_with (at_builtin;refine Q9 hr' rfl (.tmp 5) (.tmp 6) rfl rfl rfl rfl ?_)
  go_ret
  exact⟨_,rfl,HO.out⟩
theorem oP(A:Option Addr)(c:Nat)(l:List Itm)(hs:l.length<2147483000):l7 Tryz.prog 72 [r6 A l.length c (itF l)] (fun y=>r6 (y.A 0) l.length (y.c 0) (itF l)):=by
 intro m w hm ha;have h1:=ha (r6 A l.length c (itF l)) (by simp);refine(clone_c w A c l (its_reads h1) hs).mono ?_
 rintro e w' ⟨v',rfl,ho,hb⟩
 obtain⟨A',c',rfl,_,_⟩:=Own.isSlice ho;exact⟨⟨0,fun _=>A',fun _=>c',fun _=>⟨#[]⟩⟩,rfl,oa ho hm (kD h1),hb⟩
theorem clone_sf(A:Option Addr)(n c:Nat)(f:Nat->Itm)(hs:n<2147483000):l7 Tryz.prog 72 [r6 A n c f] (fun y=>r6 (y.A 0) n (y.c 0) f):=by
 have h:=oP A c (d4 f n) (by rw[i6];exact hs);have e:∀A c,Sim (r6 A (d4 f n).length c (itF (d4 f n))) (r6 A n c f):=fun A c=>Sim.resl (i6 f n) fun t ht=>by rw[s7 f n t ht]
 have e':∀A c,Sim (r6 A n c f) (r6 A (d4 f n).length c (itF (d4 f n))):=fun A c=>Sim.resl (i6 f n).symm fun t ht=>by rw[i6]at ht;rw[s7 f n t ht]
 intro m w hm ha;have h2:l7 Tryz.prog 72 [r6 A n c f] (fun y=>r6 (y.A 0) (d4 f n).length (y.c 0) (itF (d4 f n))):=h.sim ⟨e' A c,trivial⟩;refine(h2 m w hm ha).mono ?_
 rintro en w' ⟨x,rfl,hok,hb⟩
 exact⟨x,by rw[(e (x.A 0) (x.c 0)).1],(e (x.A 0) (x.c 0)).2.2 _ _ hok,hb⟩
end Cl
end Go.Proofs.YtmbkanpapkhnaaaGreat.Sym
namespace Go.Proofs.YtmbkanpapkhnaaaGreat.Sym
open Go Go.RowKit
theorem zv:o3 Tryz.prog 50:=fun _ _=>by kernel_rfl
theorem DS(x:RA)(hn:x.r.n<=1000000):l7 Tryz.prog 50 [N6 x] (fun y=>N6 ⟨y.A 0,y.c 0,x.r⟩):=by
 intro m w hm hargs;have S:=Cl.clone_sf x.A x.r.n x.c x.r.f (by omega);simp only[r6]at S;refine en 8 hm hargs Tryz.func50 fun B O a0 Z=>?_
 refine a6 [1,2] [1,2] Z fun X0 Z=>?_
 have O1:=S;refine j6 [1,2] [1,2] [(2,.r fun y=>.sl none (y.A 0) x.r.n (y.c 0) 2 (fun t=>itC (x.r.f t)))] Z fun X1 Z=>?_
 refine a6 [2] [2] Z fun X2 Z=>?_
 refine j2 ((rsi O a8 Z (⟨0,fun _=>(X1 2).A 0,fun _=>(X1 2).c 0,fun _=>⟨#[]⟩⟩) (he:=?_)));subst O;exact zr
theorem kZ:o3 Tryz.prog 17:=fun _ _=>by kernel_rfl
theorem DW(A:Option Addr)(n c:Nat)(f:Nat->B1)(hn:n<=maxLen)(hN:∀i,i<n->(f i).x.r.n<=1000000/\o9 (f i).lab/\U64 (f i).lab.bits/\U64 (f i).x.r.nx.bits):I5 Tryz.prog 17 [aT A n c f] [] none noK (fun y=>(match aL (G5 f n)with|none=>⟨.tup [.nilp,.int .i64 1],[],[]⟩|some L=>⟨.tup [.ptr 14 y.b 0,.int .i64 0],[],[(14,⟨y.b,95,[.raw (.map (some (y.c 0))),.int .i64 0]⟩)]⟩)) (fun N y=>(match aL (G5 f n)with|none=>noK|some L=>shF N (y.c 0) L)):=by
 intro m w hm hargs hpre hI;have hmx:maxLen=9223372036854775807:=rfl;refine enM (bo:=none) 58 hm hpre hI hargs Tryz.func17 fun B O a0 Z=>?_
 refine a7 (rg O a8 [0] [] [] Z fun X0 a0 w1 Z=>?_);refine a7 (a7 (rg O a8 [11,0] [] [] Z fun X1 a0 w1 Z=>?_));apply d7 Z rfl<;>intro hb Z
 .have hbig:2000<n:=by
   have:(2000:Int)<(n:Int):=by subst O;simpa[std,b7]using hb
   omega
  have hW:aL (G5 f n)=none:=by unfold aL;rw[if_pos (by rw[Q3];exact hbig)]
  refine a7 (rg O a8 [2,3] [14] [] Z fun X2 a0 w1 Z=>?_);refine j2 ((rm O a8 Z (⟨0,fun _=>none,fun _=>0,fun _=>⟨#[]⟩⟩) [] (he:=?_) (hs:=?_) (hn:=?_) (hJ:=?_)).1)
  .subst O;simp only[hW];exact zr
  .simp only[hW];exact trivial
  .simp only[hW];exact trivial
  simp only[hW];exact fun _ _ _=>trivial
 have hbig:n<=2000:=by
  have:¬(2000:Int)<(n:Int):=by subst O;simpa[std,b7]using hb
  omega
 have hS:aL (G5 f n)=cM (G5 f n) []:=by unfold aL;rw[if_neg (by rw[Q3];omega)]
 refine f9 (a7 (wp_region_lit (dw (k:=24) (e:=0) rfl rfl rfl rfl Z (Nat.le_of_ble_eq_true rfl) (shK w1.heap.size []) (fun m w' _ _ hM=>⟨_,fun _=>(none,0),ShD.empty hM _⟩) ?_)));obtain⟨bM,hbM⟩:=eqv (w1.heap.size);rw[<-hbM];intro a0 w1 hfresh Z;have hbfr:w.heap.size<=bM:=hfresh;refine lnd 1 O a8 [4,0] [14] [] Z fun X3 a0 w1 Z=>?_
 refine a7 (a7 (rg O a8 [17,16,15,4] [14] [] Z fun X4 a0 w1 Z=>?_));refine j0 (aX (ι:=Nat×Shf) (fun p=>shK bM p.2) (fun p=>[(17,.int .i64 (p.1:Int))]) (fun p=>[]) (fun p=>[]) (fun p=>p.1<=n/\p.2.length<=p.1/\cM (G5 f n) []=cM ((G5 f n).drop p.1) p.2) (fun p=>n-p.1) (0,[]) ⟨Nat.zero_le _,Nat.le_refl _,rfl⟩ Z ?_)
 rintro⟨i,L⟩ ⟨hi,hk,hnew⟩ a0 w1 Z
 try dsimp only at hi
 try dsimp only at hk
 try dsimp only at hnew
 replace Z:=Z.withK (K':=shK bM L) Z.kept;refine a7 (rg O a8 [18,17,16,15,4] [14] [] Z fun X5 a0 w1 Z=>?_);refine a7 (d7 Z rfl (fun hb Z=>?_) (fun hb Z=>?_))
 .have hin:i<n:=by
   have:(i:Int)<(n:Int):=by subst O;simpa[std,b7]using hb
   omega
  obtain⟨hN1,hN2,hN3,hN4⟩:=hN i hin;have S2:=eB (f i).lab hN3;have S3:=kF (f i).x.A (f i).x.r.n (f i).x.c (f i).x.r.f (by omega) (f i).x.r.kd (f i).x.r.nx (f i).x.r.mrk hN4;rw[<-ea]at S3;simp only[i9,bR,r6]at S2 S3;obtain⟨il,hil⟩:=eqv (isL (f i).lab);obtain⟨ir,hir⟩:=eqv (isR (f i).x.r.abs);rw[<-hil]at S2;rw[<-hir]at S3;have hstep:=vQ (f:=f) (L:=L) hin;rw[<-hil,<-hir]at hstep;refine f9 (a7 (j0 (a7 ?_)));refine rg O a8 [6,17,16,15,4] [6,14] [] Z (hob:=by intro X;subst O;simp only[f8,Ob.holds,BE.den]<;>and_intros<;>repeat first|trivial|rfl|exact(show(0:Int)<=(i:Int)by omega)|exact(show(i:Int)<(n:Int)by omega)|exact(fun _ _=>by kernel_rfl)|refine⟨?_,?_⟩|intro h|exact Int.le_refl _|decide|omega) fun X6 a0 w1 Z=>?_
  replace Z:=Z.memS (cells':=G2 (f i)) (by subst O;exact zl);obtain⟨D,E,hSh⟩:=Z.kept;replace Z:=Z.withK (K':=shD D E bM L) hSh;have hlab:o9 (f i).lab:=hN2;obtain⟨el,hel⟩:=eqv (elA (adr E L) (f i).lab (u9 L (f i).lab));obtain⟨hh,hhh⟩:=eqv ((B2 (f i).lab L).isSome);refine a7 (a7 ?_);apply P8 O 13 (some (6,[.tmp 25,.tmp 27],[.raw (.map (some bM)),.agg [.int .i64 (f i).lab.len,.int .u64 (f i).lab.bits]],.tup [.agg [.int .u64 el.w.ver,.bool (.v el.has),.int .i64 el.w.x.r.kd,.sl none el.w.x.A el.w.x.r.n el.w.x.c 2 (fun i=>itC (el.w.x.r.f i)),.int .i64 el.w.x.r.nx.len,.int .u64 el.w.x.r.nx.bits,.int .u64 el.w.x.r.mrk],.bool (.v hh)])) ?hH (by kernel_rfl) a8 [8,6,17,16,15,4] [6,14] [] Z rfl
  case hH=>exact mI hlab hel hhh (fun o h=>by cases h;rfl)
  case hex=>intro A X;conv=>lhs;cbv
  case hD=>kernel_rfl
  case hZ=>kernel_rfl
  case hlen=>rfl
  case hob=>
   intro X;subst O;simp only[f8,Ob.holds,BE.den]<;>and_intros<;>intros<;>trivial
  case hQ=>
  intro X7 a0 w1 Z;replace Z:=Z.withK (K':=shK bM L) ⟨D,E,Z.kept⟩;have O1:=S2;have O2:=S3;refine wpList_nil (a7 (rg O a8 [43,6,17,16,15,4] [6,14] [(4,.r fun _=>.bool (.v il)),(10,.r fun _=>.bool (.v ir))] Z fun X8 a0 w1 Z=>?_));apply d7 Z rfl<;>intro hb Z
  .have h9:(if(if hh=true then true else !il)=true then true else !ir)=true:=by subst O;exact hb
   have hW:aL (G5 f n)=none:=by
    rw[hS,hnew,hstep,<-hhh]
    cases hh<;>cases il<;>cases ir<;>first|rfl|(simp at h9)
   refine a7 (rg O a8 [2,3] [14] [] Z fun X9 a0 w1 Z=>?_);refine j2 ((rm O a8 Z (⟨0,fun _=>none,fun _=>0,fun _=>⟨#[]⟩⟩) [] (he:=?_) (hs:=?_) (hn:=?_) (hJ:=?_)).1)
   .subst O;simp only[hW];exact zr
   .simp only[hW];exact trivial
   .simp only[hW];exact trivial
   simp only[hW];exact fun _ _ _=>trivial
  have h9:(if(if hh=true then true else !il)=true then true else !ir)=false:=by subst O;exact hb
  have h10:(hh || !il || !ir)=false:=by cases hh<;>cases il<;>cases ir<;>first|rfl|(simp at h9)
  rw[<-hhh,h10]at hstep;obtain⟨L2,hL2⟩:=eqv (Z5 (f i).lab ⟨(f i).ver,true,(f i).x.r.abs⟩ L);have hstep:cM ((G5 f n).drop i) L=cM ((G5 f n).drop (i+1)) L2:=by rw[hL2];exact hstep
  have SO:=DS (f i).x hN1;have hL2n:L2.length<=i+1:=by rw[hL2,dU _ _ hSh.ris];split<;>omega
  refine f9 ?_;apply P8 O 12 none ?hH (by kernel_rfl) a8 [47,49,55,17,16,15,4] [14] [(10,.r fun y=>.agg [.int .i64 (f i).x.r.kd,.sl none (y.A 0) (f i).x.r.n (y.c 0) 2 (fun t=>itC ((f i).x.r.f t)),.int .i64 (f i).x.r.nx.len,.int .u64 (f i).x.r.nx.bits,.int .u64 (f i).x.r.mrk])] Z rfl
  case hH=>exact I7
  case hex=>intro A X;conv=>lhs;cbv
  case hD=>kernel_rfl
  case hZ=>kernel_rfl
  case hlen=>rfl
  case hob=>
   intro X;subst O;simp only[f8,Ob.holds,BE.den]<;>(and_intros<;>repeat first|trivial|rfl|exact zv|exact SO|refine⟨?_,?_⟩|intro h)
  case hQ=>
  intro X10 a0 w1 Z;obtain⟨D2,E2,hSh2⟩:=Z.kept;refine G9 (k:=24) (e:=97) rfl rfl rfl rfl Z rfl rfl rfl rfl rfl bY dv hSh2.map (by omega) (K8 hlab) (fun h=>absurd h (by omega)) (shK bM L2) (fun m w' hk hkb hv hM=>?_) ?_
  .rw [hL2]
   refine nM hSh2.map hlab hk hkb (x:=⟨⟨(f i).lab,(f i).ver,⟨(X10 10).A 0,(X10 10).c 0,(f i).x.r⟩⟩,true⟩) ?_ hv hM;exact Sim.agg ⟨zr,Sim.tt,zr,zr,zr,zr,zr,trivial⟩
  intro w1 Z;replace Z:=Z.keep [17,16,15,4] [14];refine wpList_nil (rg O a8 [17,16,15,4] [14] [] Z fun X11 a0 w1 Z=>?_);have e:B.arith .add .i64 (i:Int) 1=((i+1:Nat):Int):=by subst O;exact j7 (n:=n) hin (by omega)
  refine⟨(i+1,L2),⟨by simp only;omega,hL2n,hnew.trans hstep⟩,by simp only;omega,by rw[<-e];exact Z⟩
 have hout:i=n:=by
  have:¬(i:Int)<(n:Int):=by subst O;simpa[std,b7]using hb
  omega
 have hW:aL (G5 f n)=some L:=by rw[hS,hnew,List.drop_eq_nil_of_le (by rw[Q3];omega)];rfl
 refine o4 (a7 (rg O a8 [2,3] [14] [] Z fun X12 a0 w1 Z=>?_));refine j2 ((rm O a8 Z (⟨(X3 2).b,fun _=>none,fun _=>bM,fun _=>⟨#[]⟩⟩) [14] (he:=?_) (hs:=?_) (hn:=?_) (hJ:=?_)).1)
 .subst O;simp only[hW];exact zr
 .simp only[hW];exact trivial
 .simp only[hW]
  exact⟨⟨_,rfl,zl⟩,fun e he=>(by cases he),(by simp),trivial⟩
 simp only[hW];exact fun _ _ h=>⟨hbfr,h⟩
theorem zu:o3 Tryz.prog 51:=fun _ _=>by kernel_rfl
theorem CJ(b bM:Nat)(L:Shf)(hL:L.length<=100000)(k:Int)(q:F7)(hl:o9 q.lab)(x z:SpA):I5 Tryz.prog 51 [.ptr 0 b 0,E8 q,.agg (elC x),.agg (elC z),.bool .tt] [(0,⟨b,95,[.raw (.map (some bM)),.int .i64 k]⟩)] (some bM) (shK bM L) (fun y=>⟨.tup [F4 (ba y (Q6 L q.lab q.ver x.w.ver true ⟨z.w.ver,z.has,z.w.x.r.abs⟩).got),.int .i64 (Q6 L q.lab q.ver x.w.ver true ⟨z.w.ver,z.has,z.w.x.r.abs⟩).err],[(0,[.raw (.map (some bM)),.int .i64 (if(Q6 L q.lab q.ver x.w.ver true ⟨z.w.ver,z.has,z.w.x.r.abs⟩).wrote then IntKind.i64.wrap (k+1)else k)])],[]⟩) (fun _ _=>shK bM (Q6 L q.lab q.ver x.w.ver true ⟨z.w.ver,z.has,z.w.x.r.abs⟩).L):=by
 intro m w hm hargs hpre hI;have hmx:maxLen=9223372036854775807:=rfl;have hmp:=C1 hI;obtain⟨CD,hCD⟩:=eqv ((Q6 L q.lab q.ver x.w.ver true ⟨z.w.ver,z.has,z.w.x.r.abs⟩));rw[<-hCD];refine enM (bo:=some bM) 50 hm hpre hI hargs Tryz.func51 fun B O a0 Z=>?_
 refine a6 [0,4,6,7,8,10] [0,6,7,8,10] Z fun X0 Z=>?_
 refine a7 (j0 (a6 [12,0,4,6,7,8,10] [0,6,7,8,10] Z fun X1 Z=>?_));apply d7 Z rfl<;>intro hb Z
 .have hv:q.ver≠x.w.ver:=by subst O;simpa[std,b7]using hb
  have hW:CD=⟨L,false,⟨8,x.w.ver,false,j3⟩,0⟩:=by rw[hCD];unfold Q6;rw[if_pos hv]
  refine a6 [10,11] [0,10] Z fun X2 Z=>?_
  refine j2 ((rm O a8 Z (⟨0,fun _=>none,fun _=>0,fun _=>⟨#[]⟩⟩) [] (hmap:=?_) (he:=?_) (hs:=?_) (hJ:=?_)).1)
  .intro b hb;cases hb;exact⟨hmp,fun m h=>C1 h⟩
  .subst O;simp only[hW]
   exact Sim.tup ⟨Sim.agg ⟨zr,zr,zr,zr,zq0,zr,zr,zr,trivial⟩,zr,trivial⟩
  .subst O;simp only[hW]
   exact⟨rfl,⟨_,rfl,zl⟩,trivial⟩
  simp only[hW];exact fun _ _ h=>h
 have hv:¬q.ver≠x.w.ver:=by subst O;simpa[std,b7]using hb
 refine a6 [21,0,6,8,10] [0,6,8,10] Z fun X3 Z=>?_
 obtain⟨L2,hL2⟩:=eqv (Z5 q.lab ⟨z.w.ver,z.has,z.w.x.r.abs⟩ L);have hW:CD=⟨L2,true,⟨0,z.w.ver,false,j3⟩,0⟩:=by rw[hCD,hL2];unfold Q6;rw[if_neg hv,if_neg (fun h=>by cases h.1)]
 refine F2 Z rfl (fun Z=>?_);refine f9 (a7 ?_);apply P8 O 7 none ?hH (by kernel_rfl) a8 [36,38,39,0,8,10] [0,8,10] [] Z rfl
 case hH=>exact I7
 case hex=>intro A X;conv=>lhs;cbv
 case hD=>kernel_rfl
 case hZ=>kernel_rfl
 case hlen=>rfl
 case hob=>
  intro X;subst O;simp only[f8,Ob.holds,BE.den]<;>and_intros<;>intros<;>trivial
 case hQ=>
 intro X5 a0 w1 Z;obtain⟨D2,E2,hSh2⟩:=Z.kept;refine G9 (k:=24) (e:=97) rfl rfl rfl rfl Z rfl rfl rfl rfl rfl bY dv hSh2.map (by omega) (K8 hl) (fun _=>.inr rfl) (shK bM L2) (fun m w' hk hkb hv hM=>?_) ?_
 .rw [hL2];exact nM hSh2.map hl hk hkb (x:=⟨⟨q.lab,z.w.ver,z.w.x⟩,z.has⟩) (zr) hv hM
 intro w1 Z;replace Z:=Z.keep [0,8,10] [0,8,10];refine wpList_nil (a6 [8,10] [0,8,10] Z fun X6 Z=>?_);refine a6 [10,11] [0,10] Z fun X7 Z=>?_
 refine j2 ((rm O a8 Z (⟨0,fun _=>none,fun _=>0,fun _=>⟨#[]⟩⟩) [] (hmap:=?_) (he:=?_) (hs:=?_) (hJ:=?_)).1)
 .intro b hb;cases hb;exact⟨hmp,fun m h=>C1 h⟩
 .subst O;simp only[hW]
  exact Sim.tup ⟨Sim.agg ⟨zr,zr,zr,zr,zq0,zr,zr,zr,trivial⟩,zr,trivial⟩
 .subst O;simp only[hW]
  exact⟨rfl,⟨_,rfl,zl⟩,trivial⟩
 simp only[hW];exact fun _ _ h=>h
theorem Gu(k0:Nat)(b bM:Nat)(L:Shf)(hL:L.length<=100000)(k:Int)(q:F7)(hl:o9 q.lab)(x z:SpA):I5 Tryz.prog 51 [.ptr k0 b 0,E8 q,.agg (elC x),.agg (elC z),.bool .tt] [(k0,⟨b,95,[.raw (.map (some bM)),.int .i64 k]⟩)] (some bM) (shK bM L) (fun y=>⟨.tup [F4 (ba y (Q6 L q.lab q.ver x.w.ver true ⟨z.w.ver,z.has,z.w.x.r.abs⟩).got),.int .i64 (Q6 L q.lab q.ver x.w.ver true ⟨z.w.ver,z.has,z.w.x.r.abs⟩).err],[(k0,[.raw (.map (some bM)),.int .i64 (if(Q6 L q.lab q.ver x.w.ver true ⟨z.w.ver,z.has,z.w.x.r.abs⟩).wrote then IntKind.i64.wrap (k+1)else k)])],[]⟩) (fun _ _=>shK bM (Q6 L q.lab q.ver x.w.ver true ⟨z.w.ver,z.has,z.w.x.r.abs⟩).L):=
 (CJ b bM L hL k q hl x z).re (by repeat(first|exact trivial|refine⟨Sim.ptr,?_⟩|refine⟨Sim.fn ⟨Sim.ptr,trivial⟩ trivial,?_⟩|refine⟨Sim.fn trivial ⟨Sim.ptr,trivial⟩,?_⟩|refine⟨zr,?_⟩)) rfl (fun x=>⟨rfl,rfl,zr,rfl⟩)
theorem CK(b bM:Nat)(L:Shf)(hL:L.length<=100000)(k:Int)(q:F7)(hl:o9 q.lab)(x z:SpA):I5 Tryz.prog 51 [.ptr 0 b 0,E8 q,.agg (elC x),.agg (elC z),.bool .ff] [(0,⟨b,95,[.raw (.map (some bM)),.int .i64 k]⟩)] (some bM) (shK bM L) (fun y=>⟨.tup [F4 (ba y (Q6 L q.lab q.ver x.w.ver false ⟨z.w.ver,z.has,z.w.x.r.abs⟩).got),.int .i64 (Q6 L q.lab q.ver x.w.ver false ⟨z.w.ver,z.has,z.w.x.r.abs⟩).err],[(0,[.raw (.map (some bM)),.int .i64 (if(Q6 L q.lab q.ver x.w.ver false ⟨z.w.ver,z.has,z.w.x.r.abs⟩).wrote then IntKind.i64.wrap (k+1)else k)])],[]⟩) (fun _ _=>shK bM (Q6 L q.lab q.ver x.w.ver false ⟨z.w.ver,z.has,z.w.x.r.abs⟩).L):=by
 intro m w hm hargs hpre hI;have hmx:maxLen=9223372036854775807:=rfl;have hmp:=C1 hI;obtain⟨CD,hCD⟩:=eqv ((Q6 L q.lab q.ver x.w.ver false ⟨z.w.ver,z.has,z.w.x.r.abs⟩));rw[<-hCD];refine enM (bo:=some bM) 50 hm hpre hI hargs Tryz.func51 fun B O a0 Z=>?_
 refine a6 [0,4,6,7,8,10] [0,6,7,8,10] Z fun X0 Z=>?_
 refine a7 (j0 (a6 [12,0,4,6,7,8,10] [0,6,7,8,10] Z fun X1 Z=>?_));apply d7 Z rfl<;>intro hb Z
 .have hv:q.ver≠x.w.ver:=by subst O;simpa[std,b7]using hb
  have hW:CD=⟨L,false,⟨8,x.w.ver,false,j3⟩,0⟩:=by rw[hCD];unfold Q6;rw[if_pos hv]
  refine a6 [10,11] [0,10] Z fun X2 Z=>?_
  refine j2 ((rm O a8 Z (⟨0,fun _=>none,fun _=>0,fun _=>⟨#[]⟩⟩) [] (hmap:=?_) (he:=?_) (hs:=?_) (hJ:=?_)).1)
  .intro b hb;cases hb;exact⟨hmp,fun m h=>C1 h⟩
  .subst O;simp only[hW]
   exact Sim.tup ⟨Sim.agg ⟨zr,zr,zr,zr,zq0,zr,zr,zr,trivial⟩,zr,trivial⟩
  .subst O;simp only[hW]
   exact⟨rfl,⟨_,rfl,zl⟩,trivial⟩
  simp only[hW];exact fun _ _ h=>h
 have hv:¬q.ver≠x.w.ver:=by subst O;simpa[std,b7]using hb
 refine a7 (wp_region_lit (lpr 0 7 O a8 [24,28,0,6,8,10] [0,6,8,10] [] Z fun X3_0 a0 w1 Z=>?_));obtain⟨D,E,hSh⟩:=Z.kept;obtain⟨zz,hzz⟩:=eqv (Maps.size D);have hzl:zz=L.length:=hzz.trans hSh.size;refine AJ (vm Z rfl rfl rfl) (qj rfl rfl rfl rfl rfl rfl rfl Z (Nat.le_of_ble_eq_true rfl) rfl dv hSh.map ?_);rw[<-hzz];intro a0 Z;refine lnd 8 O a8 [21,0,6,8,10] [0,6,8,10] [] Z fun X3 a0 w1 Z=>?_
 apply d7 Z rfl<;>intro hb Z
 .have hfull:2000<=L.length:=by
   have:(2000:Int)<=(zz:Int):=by subst O;simpa[std,b7]using hb
   omega
  have hW:CD=⟨L,false,G4,12⟩:=by rw[hCD];unfold Q6;rw[if_neg hv,if_pos ⟨rfl,hfull⟩]
  refine a6 [10,11] [0,10] Z fun X4 Z=>?_
  refine j2 ((rm O a8 Z (⟨0,fun _=>none,fun _=>0,fun _=>⟨#[]⟩⟩) [] (hmap:=?_) (he:=?_) (hs:=?_) (hJ:=?_)).1)
  .intro b hb;cases hb;exact⟨hmp,fun m h=>C1 h⟩
  .subst O;simp only[hW]
   exact Sim.tup ⟨Sim.agg ⟨zr,zr,zr,zr,zq0,zr,zr,zr,trivial⟩,zr,trivial⟩
  .subst O;simp only[hW]
   exact⟨rfl,⟨_,rfl,zl⟩,trivial⟩
  simp only[hW];exact fun _ _ h=>h
 have hfull:¬2000<=L.length:=by
  have:¬(2000:Int)<=(zz:Int):=by subst O;simpa[std,b7]using hb
  omega
 obtain⟨L2,hL2⟩:=eqv (Z5 q.lab ⟨z.w.ver,z.has,z.w.x.r.abs⟩ L);have hW:CD=⟨L2,true,⟨0,z.w.ver,false,j3⟩,0⟩:=by rw[hCD,hL2];unfold Q6;rw[if_neg hv,if_neg (fun h=>hfull h.2)]
 refine f9 (a7 ?_);apply P8 O 7 none ?hH (by kernel_rfl) a8 [36,38,39,0,8,10] [0,8,10] [] Z rfl
 case hH=>exact I7
 case hex=>intro A X;conv=>lhs;cbv
 case hD=>kernel_rfl
 case hZ=>kernel_rfl
 case hlen=>rfl
 case hob=>
  intro X;subst O;simp only[f8,Ob.holds,BE.den]<;>and_intros<;>intros<;>trivial
 case hQ=>
 intro X5 a0 w1 Z;obtain⟨D2,E2,hSh2⟩:=Z.kept;refine G9 (k:=24) (e:=97) rfl rfl rfl rfl Z rfl rfl rfl rfl rfl bY dv hSh2.map (by omega) (K8 hl) (fun _=>.inr rfl) (shK bM L2) (fun m w' hk hkb hv hM=>?_) ?_
 .rw [hL2];exact nM hSh2.map hl hk hkb (x:=⟨⟨q.lab,z.w.ver,z.w.x⟩,z.has⟩) (zr) hv hM
 intro w1 Z;replace Z:=Z.keep [0,8,10] [0,8,10];refine wpList_nil (a6 [8,10] [0,8,10] Z fun X6 Z=>?_);refine a6 [10,11] [0,10] Z fun X7 Z=>?_
 refine j2 ((rm O a8 Z (⟨0,fun _=>none,fun _=>0,fun _=>⟨#[]⟩⟩) [] (hmap:=?_) (he:=?_) (hs:=?_) (hJ:=?_)).1)
 .intro b hb;cases hb;exact⟨hmp,fun m h=>C1 h⟩
 .subst O;simp only[hW]
  exact Sim.tup ⟨Sim.agg ⟨zr,zr,zr,zr,zq0,zr,zr,zr,trivial⟩,zr,trivial⟩
 .subst O;simp only[hW]
  exact⟨rfl,⟨_,rfl,zl⟩,trivial⟩
 simp only[hW];exact fun _ _ h=>h
theorem Gv(k0:Nat)(b bM:Nat)(L:Shf)(hL:L.length<=100000)(k:Int)(q:F7)(hl:o9 q.lab)(x z:SpA):I5 Tryz.prog 51 [.ptr k0 b 0,E8 q,.agg (elC x),.agg (elC z),.bool .ff] [(k0,⟨b,95,[.raw (.map (some bM)),.int .i64 k]⟩)] (some bM) (shK bM L) (fun y=>⟨.tup [F4 (ba y (Q6 L q.lab q.ver x.w.ver false ⟨z.w.ver,z.has,z.w.x.r.abs⟩).got),.int .i64 (Q6 L q.lab q.ver x.w.ver false ⟨z.w.ver,z.has,z.w.x.r.abs⟩).err],[(k0,[.raw (.map (some bM)),.int .i64 (if(Q6 L q.lab q.ver x.w.ver false ⟨z.w.ver,z.has,z.w.x.r.abs⟩).wrote then IntKind.i64.wrap (k+1)else k)])],[]⟩) (fun _ _=>shK bM (Q6 L q.lab q.ver x.w.ver false ⟨z.w.ver,z.has,z.w.x.r.abs⟩).L):=
 (CK b bM L hL k q hl x z).re (by repeat(first|exact trivial|refine⟨Sim.ptr,?_⟩|refine⟨Sim.fn ⟨Sim.ptr,trivial⟩ trivial,?_⟩|refine⟨Sim.fn trivial ⟨Sim.ptr,trivial⟩,?_⟩|refine⟨zr,?_⟩)) rfl (fun x=>⟨rfl,rfl,zr,rfl⟩)
theorem Ix(k0:Nat)(b bM:Nat)(L:Shf)(hL:L.length<=100000)(k:Int)(q:F7)(hl:o9 q.lab)(x z:SpA)(hh:Bool):I5 Tryz.prog 51 [.ptr k0 b 0,E8 q,.agg (elC x),.agg (elC z),.bool (.v hh)] [(k0,⟨b,95,[.raw (.map (some bM)),.int .i64 k]⟩)] (some bM) (shK bM L) (fun y=>⟨.tup [F4 (ba y (Q6 L q.lab q.ver x.w.ver hh ⟨z.w.ver,z.has,z.w.x.r.abs⟩).got),.int .i64 (Q6 L q.lab q.ver x.w.ver hh ⟨z.w.ver,z.has,z.w.x.r.abs⟩).err],[(k0,[.raw (.map (some bM)),.int .i64 (if(Q6 L q.lab q.ver x.w.ver hh ⟨z.w.ver,z.has,z.w.x.r.abs⟩).wrote then IntKind.i64.wrap (k+1)else k)])],[]⟩) (fun _ _=>shK bM (Q6 L q.lab q.ver x.w.ver hh ⟨z.w.ver,z.has,z.w.x.r.abs⟩).L):=by
 cases hh with
 |true=>exact(Gu k0 b bM L hL k q hl x z).args ⟨zr,zr,zr,zr,Sim.bool rfl,trivial⟩
 |false=>exact(Gv k0 b bM L hL k q hl x z).args ⟨zr,zr,zr,zr,Sim.bool rfl,trivial⟩
theorem Cp{L:Shf}{w:Wnt}(hg:(w.kind=1 \/ w.kind=2 \/ w.kind=3)/\isL w.lab=true/\(w.kind=2->isR w.r=true))(hk:¬w.kind=1):doL L w=Q6 L w.lab w.ver (u9 L w.lab).ver (B2 w.lab L).isSome ⟨inc (u9 L w.lab).ver,decide (w.kind=2),if w.kind=2 then w.r else j3⟩:=by
 refine(if_pos hg).trans ((if_neg hk).trans ?_);unfold Q6
 by_cases hv:w.ver=(u9 L w.lab).ver
 .have h1:¬w.ver≠(u9 L w.lab).ver:=fun h=>h hv
  have e:((B2 w.lab L).isNone=true/\2000<=L.length)=((B2 w.lab L).isSome=false/\2000<=L.length):=by
   cases B2 w.lab L<;>simp
  refine(if_neg h1).trans (Eq.symm ((if_neg h1).trans ?_));rw[<-hv];simp only[<-e];rfl
 exact(if_pos hv).trans (if_pos hv).symm
theorem gm:o3 Tryz.prog 18:=fun _ _=>by kernel_rfl
theorem It(b bM:Nat)(L:Shf)(hL:L.length<=100000)(k:Int)(q:F7)(hwn:q.x.r.n<=maxLen)(hl:o9 q.lab)(hwb:U64 q.lab.bits)(hwx:U64 q.x.r.nx.bits):I5 Tryz.prog 18 [.ptr 0 b 0,E8 q] [(0,⟨b,95,[.raw (.map (some bM)),.int .i64 k]⟩)] (some bM) (shK bM L) (fun y=>⟨.tup [F4 (ba y (doL L q.abs).got),.int .i64 (doL L q.abs).err],[(0,[.raw (.map (some bM)),.int .i64 (if(doL L q.abs).wrote then IntKind.i64.wrap (k+1)else k)])],[]⟩) (fun _ _=>shK bM (doL L q.abs).L):=by
 intro m w hm hargs hpre hI;have hmx:maxLen=9223372036854775807:=rfl;have hmp:=C1 hI;have S1:=eB q.lab hwb;have S2:=kF q.x.A q.x.r.n q.x.c q.x.r.f (by omega) q.x.r.kd q.x.r.nx q.x.r.mrk hwx;rw[<-ea]at S2;simp only[i9,bR,r6]at S1 S2;obtain⟨il,hil⟩:=eqv (isL q.lab);obtain⟨ir,hir⟩:=eqv (isR q.x.r.abs);rw[<-hil]at S1;rw[<-hir]at S2;obtain⟨D0,hD⟩:=eqv ((doL L q.abs));rw[<-hD]
 skip
 refine enM (bo:=some bM) 70 hm hpre hI hargs Tryz.func18 fun B O a0 Z=>?_
 refine a6 [0,3,4] [0,3,4] Z fun X0 Z=>?_
 refine a7 (a6 [10,0,3,4] [0,3,4] Z fun X1 Z=>?_);refine F2 Z rfl (fun Z=>?_);obtain⟨DM,E,hSh⟩:=Z.kept;replace Z:=Z.withK (K':=shD DM E bM L) hSh;obtain⟨el,hel⟩:=eqv (elA (adr E L) q.lab (u9 L q.lab));obtain⟨hh,hhh⟩:=eqv ((B2 q.lab L).isSome);refine f9 (a7 ?_);apply P8 O 13 (some (6,[.tmp 16,.tmp 18],[.raw (.map (some bM)),.agg [.int .i64 q.lab.len,.int .u64 q.lab.bits]],.tup [.agg [.int .u64 el.w.ver,.bool (.v el.has),.int .i64 el.w.x.r.kd,.sl none el.w.x.A el.w.x.r.n el.w.x.c 2 (fun i=>itC (el.w.x.r.f i)),.int .i64 el.w.x.r.nx.len,.int .u64 el.w.x.r.nx.bits,.int .u64 el.w.x.r.mrk],.bool (.v hh)])) ?hH (by kernel_rfl) a8 [0,3,4,6,7] [0,3,4,6] [] Z rfl
 case hH=>exact mI hl hel hhh (fun o h=>by cases h;rfl)
 case hex=>intro A X;conv=>lhs;cbv
 case hD=>kernel_rfl
 case hZ=>kernel_rfl
 case hlen=>rfl
 case hob=>
  intro X;subst O;simp only[f8,Ob.holds,BE.den]<;>and_intros<;>intros<;>trivial
 case hQ=>
 intro X3 _ _ Z;replace Z:=Z.withK (K':=shK bM L) ⟨DM,E,Z.kept⟩;have hev:el.w.ver=(u9 L q.lab).ver:=by rw[hel]
 have heh:el.has=(u9 L q.lab).has:=by rw[hel]
 have her:el.w.x.r.abs=(u9 L q.lab).r:=by rw[hel];exact lG _
 refine wpList_nil (a6 [0,3,4,6,7,8] [8,0,3,4,6] Z fun X4 Z=>?_);obtain⟨vi,hvi⟩:=eqv (inc (u9 L q.lab).ver);replace Z:=Z.memS (cells':=[.int .u64 vi,.bool .ff,.int .i64 0,.sl none none 0 0 2 (fun _=>[]),.int .i64 0,.int .u64 0,.int .u64 0]) ⟨(by subst O;rw[hvi,<-hev];exact zr),zr,zr,zr,zr,zr,zr,trivial⟩;refine a7 (j0 (a7 (uK (ι:=SpA) (S0:=[]) (M0:=[(8,_)]) (G0:=[]) (fun z=>[]) (fun z=>[(8,⟨(X4 4).b,97,elC z⟩)]) (fun z=>[]) (fun z=>¬q.kind=1/\z.w.ver=vi/\((q.kind=1 \/ q.kind=2 \/ q.kind=3)/\isL q.lab=true/\(q.kind=2->isR q.x.r.abs=true))/\z.has=decide (q.kind=2)/\z.w.x.r.abs=(if q.kind=2 then q.x.r.abs else j3)) Z ?_ ?_)))
 .have O1:=S1
  refine j0 (a7 (j0 (a7 (j0 (a7 (j0 (a7 (a7 (j6 [26,0,3,4,6,7,8] [8,0,3,4,6] [(2,.r fun _=>.bool (.v il))] Z fun X5 Z=>?_)))))))));apply d7 Z rfl<;>intro hb Z
  .have h9:(!il)=true:=by subst O;exact hb
   have hbad:¬((q.kind=1 \/ q.kind=2 \/ q.kind=3)/\isL q.lab=true/\(q.kind=2->isR q.x.r.abs=true)):=by rw[<-hil];intro h;rw[h.2.1]at h9;cases h9
   have hW:D0=⟨L,false,G4,1⟩:=by rw[hD];exact if_neg hbad
   refine o4 (a7 (a6 [4,5] [0,4] Z fun X9 Z=>?_));refine j2 ((rm O a8 Z (⟨0,fun _=>none,fun _=>0,fun _=>⟨#[]⟩⟩) [] (hmap:=?_) (he:=?_) (hs:=?_) (hJ:=?_)).1)
   .intro b hb;cases hb;exact⟨hmp,fun m h=>C1 h⟩
   .subst O;simp only[hW]
    exact Sim.tup ⟨Sim.agg ⟨zr,zr,zr,zr,zq0,zr,zr,zr,trivial⟩,zr,trivial⟩
   .subst O;simp only[hW]
    exact⟨rfl,⟨_,rfl,zl⟩,trivial⟩
   simp only[hW];exact fun _ _ h=>h
  have hl1:isL q.lab=true:=by
   have h9:(!il)=false:=by subst O;exact hb
   rw[<-hil];simpa using h9
  refine f9 (a7 (a6 [31,0,3,4,6,7,8] [8,0,3,4,6] Z fun X6 Z=>?_));apply d7 Z rfl<;>intro hb Z
  .have hk1:q.kind=1:=by subst O;simpa[std,b7]using hb
   have hgd:((q.kind=1 \/ q.kind=2 \/ q.kind=3)/\isL q.lab=true/\(q.kind=2->isR q.x.r.abs=true)):=⟨.inl hk1,hl1,fun h=>by omega⟩;have hW:D0=⟨L,false,⟨0,el.w.ver,el.has,el.w.x.r.abs⟩,0⟩:=by rw[hD,hev,heh,her];refine(if_pos hgd).trans ?_;exact if_pos hk1
   refine o4 (a7 (a6 [4,5] [0,4] Z fun X10 Z=>?_));refine j2 ((rm O a8 Z (spY none 0 (fun _=>zSp) el.w.x.A el.w.x.c 0) [] (hmap:=?_) (he:=?_) (hs:=?_) (hJ:=?_)).1)
   .intro b hb;cases hb;exact⟨hmp,fun m h=>C1 h⟩
   .subst O;simp only[hW]
    exact Sim.tup ⟨Sim.agg (Ci (v:=⟨0,el.w.ver,el.has,el.w.x⟩) rfl rfl rfl),zr,trivial⟩
   .subst O;simp only[hW]
    exact⟨rfl,⟨_,rfl,zl⟩,trivial⟩
   simp only[hW];exact fun _ _ h=>h
  have hk1:¬q.kind=1:=by subst O;simpa[std,b7]using hb
  refine f9 (a7 (a6 [35,0,3,4,6,7,8] [8,0,3,4,6] Z fun X7 Z=>?_));apply d7 Z rfl<;>intro hb Z
  .have hk2:q.kind=2:=by subst O;simpa[std,b7]using hb
   have O1:=S2;refine o4 (a7 (j6 [54,0,3,4,6,7,8] [8,0,3,4,6] [(2,.r fun _=>.bool (.v ir))] Z fun X11 Z=>?_));apply d7 Z rfl<;>intro hb Z
   .have h9:(!ir)=true:=by subst O;exact hb
    have hbad:¬((q.kind=1 \/ q.kind=2 \/ q.kind=3)/\isL q.lab=true/\(q.kind=2->isR q.x.r.abs=true)):=by rw[<-hir];intro h;rw[h.2.2 hk2]at h9;cases h9
    have hW:D0=⟨L,false,G4,1⟩:=by rw[hD];exact if_neg hbad
    refine a6 [4,5] [0,4] Z fun X12 Z=>?_
    refine j2 ((rm O a8 Z (⟨0,fun _=>none,fun _=>0,fun _=>⟨#[]⟩⟩) [] (hmap:=?_) (he:=?_) (hs:=?_) (hJ:=?_)).1)
    .intro b hb;cases hb;exact⟨hmp,fun m h=>C1 h⟩
    .subst O;simp only[hW]
     exact Sim.tup ⟨Sim.agg ⟨zr,zr,zr,zr,zq0,zr,zr,zr,trivial⟩,zr,trivial⟩
    .subst O;simp only[hW]
     exact⟨rfl,⟨_,rfl,zl⟩,trivial⟩
    simp only[hW];exact fun _ _ h=>h
   have hr1:isR q.x.r.abs=true:=by
    have h9:(!ir)=false:=by subst O;exact hb
    rw[<-hir];simpa using h9
   have S3:=DS q.x (by have h8:=hr1;rw[ea]at h8;have:=(M8 h8).2.2.1;omega);have O1:=S3;refine f9 (j4 [0,3,4,6,7,8] [8,0,3,4,6] [(2,.r fun y=>.agg [.int .i64 q.x.r.kd,.sl none (y.A 0) q.x.r.n (y.c 0) 2 (fun t=>itC (q.x.r.f t)),.int .i64 q.x.r.nx.len,.int .u64 q.x.r.nx.bits,.int .u64 q.x.r.mrk])] Z fun X13 Z=>?_);refine⟨⟨⟨q.lab,vi,⟨(X13 2).A 0,(X13 2).c 0,q.x.r⟩⟩,true⟩,⟨hk1,rfl,⟨.inr (.inl hk2),hl1,fun _=>hr1⟩,?_,?_⟩,Z.memS (cells':=elC ⟨⟨q.lab,vi,⟨(X13 2).A 0,(X13 2).c 0,q.x.r⟩⟩,true⟩) ⟨zr,Sim.tt,zr,zr,zr,zr,zr,trivial⟩⟩
   .rw [decide_eq_true hk2]
   rw[if_pos hk2]
  have hk2:¬q.kind=2:=by subst O;simpa[std,b7]using hb
  refine f9 (a6 [39,0,3,4,6,7,8] [8,0,3,4,6] Z fun X8 Z=>?_);apply d7 Z rfl<;>intro hb Z
  .have hk3:q.kind=3:=by subst O;simpa[std,b7]using hb
   refine o4 (⟨⟨⟨q.lab,vi,zRA⟩,false⟩,⟨hk1,rfl,⟨.inr (.inr hk3),hl1,fun h=>by omega⟩,?_,?_⟩,Z.memS (cells':=elC ⟨⟨q.lab,vi,zRA⟩,false⟩) ⟨zr,Sim.ff,zr,zq0,zr,zr,zr,trivial⟩⟩)
   .rw [decide_eq_false (by omega)]
   rw[if_neg (by omega)];rfl
  have hk3:¬q.kind=3:=by subst O;simpa[std,b7]using hb
  have hbad:¬((q.kind=1 \/ q.kind=2 \/ q.kind=3)/\isL q.lab=true/\(q.kind=2->isR q.x.r.abs=true)):=fun h=>by rcases h.1 with h|h|h;exact hk1 h;exact hk2 h;exact hk3 h
  have hW:D0=⟨L,false,G4,1⟩:=by rw[hD];exact if_neg hbad
  refine f9 (o4 (a6 [4,5] [0,4] Z fun X15 Z=>?_));refine j2 ((rm O a8 Z (⟨0,fun _=>none,fun _=>0,fun _=>⟨#[]⟩⟩) [] (hmap:=?_) (he:=?_) (hs:=?_) (hJ:=?_)).1)
  .intro b hb;cases hb;exact⟨hmp,fun m h=>C1 h⟩
  .subst O;simp only[hW]
   exact Sim.tup ⟨Sim.agg ⟨zr,zr,zr,zr,zq0,zr,zr,zr,trivial⟩,zr,trivial⟩
  .subst O;simp only[hW]
   exact⟨rfl,⟨_,rfl,zl⟩,trivial⟩
  simp only[hW];exact fun _ _ h=>h
 rintro z ⟨hk1,hz1,hgd,hz2,hz3⟩ _ _ Z
 try dsimp only at hk1
 try dsimp only at hz1
 try dsimp only at hgd
 try dsimp only at hz2
 try dsimp only at hz3
 have SC:=Ix 0 b bM L hL k q hl el z hh;obtain⟨CD,hCD⟩:=eqv (Q6 L q.lab q.ver el.w.ver hh ⟨z.w.ver,z.has,z.w.x.r.abs⟩);rw[<-hCD]at SC;have hDC:D0=CD:=by
  rw[hD,hCD,Cp (w:=q.abs) hgd hk1,hz1,hz2,hz3,hvi,hev,hhh];rfl
 obtain⟨G,hG⟩:∃G:j1->r5,G=fun y=>ba y CD.got:=⟨_,rfl⟩
 have hGG:∀y,ba y CD.got=G y:=fun y=>by rw[hG]
 simp only[hGG]at SC;obtain⟨k2,hk2⟩:=eqv ((if CD.wrote then IntKind.i64.wrap (k+1)else k));rw[<-hk2]at SC;refine a7 (a7 (wp_region_lit (lpr 0 5 O a8 [61,62,63,64,65,4] [0,4] [] Z fun X14_0 _ _ Z=>?_)));refine E3 rfl rfl rfl rfl Z rfl rfl zu SC (fun _ _ h=>h) (fun b hb=>by cases hb;exact fun _=>.inr rfl) (zl) (by intro e he;simp only[List.mem_singleton]at he;subst he;rfl) rfl rfl (fun _=>shK bM CD.L) (fun _ _ _ _ _ _ _ _ _ h=>h) ?_;intro y _ _ Z;refine lnd 6 O a8 [4,5] [0,4] [] Z fun X14 _ _ Z=>?_
 refine j2 ((rm O a8 Z (y) [] (hmap:=?_) (he:=?_) (hs:=?_) (hJ:=?_)).1)
 .intro b hb;cases hb;exact⟨hmp,fun m h=>C1 h⟩
 .subst O;rw[hDC,hGG];exact zr
 .rw [hDC,<-hk2]
  exact⟨rfl,⟨_,rfl,zl⟩,trivial⟩
 rw[hDC];exact fun _ _ h=>h
theorem Cn(k0:Nat)(b bM:Nat)(L:Shf)(hL:L.length<=100000)(k:Int)(q:F7)(hwn:q.x.r.n<=maxLen)(hl:o9 q.lab)(hwb:U64 q.lab.bits)(hwx:U64 q.x.r.nx.bits):I5 Tryz.prog 18 [.ptr k0 b 0,E8 q] [(k0,⟨b,95,[.raw (.map (some bM)),.int .i64 k]⟩)] (some bM) (shK bM L) (fun y=>⟨.tup [F4 (ba y (doL L q.abs).got),.int .i64 (doL L q.abs).err],[(k0,[.raw (.map (some bM)),.int .i64 (if(doL L q.abs).wrote then IntKind.i64.wrap (k+1)else k)])],[]⟩) (fun _ _=>shK bM (doL L q.abs).L):=
 (It b bM L hL k q hwn hl hwb hwx).re (by repeat(first|exact trivial|refine⟨Sim.ptr,?_⟩|refine⟨Sim.fn ⟨Sim.ptr,trivial⟩ trivial,?_⟩|refine⟨Sim.fn trivial ⟨Sim.ptr,trivial⟩,?_⟩|refine⟨zr,?_⟩)) rfl (fun x=>⟨rfl,rfl,zr,rfl⟩)
end Go.Proofs.YtmbkanpapkhnaaaGreat.Sym
namespace Go.Proofs.YtmbkanpapkhnaaaGreat.Sym
open Go Go.RowKit
open Go.Sort (flatK HoldsK putRowK get_flatK size_flatK)
section
variable {α : Type} [Inhabited α] {k:Nat} {cells:α->List AV} {w w':World} {B e:Nat} {A:Option Addr} {n c:Nat} {h:Nat->α}
abbrev dH(cells:α->List AV):α->List Value:=fun x=>(cells x).map AV.den
theorem uC(hk:∀x,(cells x).length=k)(d:Array α)(i j:Nat)(hi:i<d.size)(hj:j<k):(flatK (dH cells) k d)[i*k+j]! = ((cells d[i]!).map AV.den)[j]!:=by
 have hlt:i*k+j<d.size*k:=by
  have:(i+1)*k<=d.size*k:=Nat.mul_le_mul_right k hi;rw[Nat.add_mul,Nat.one_mul]at this;omega
 rw[get_flatK _ _ _ _ hlt];have h1:(i*k+j) / k=i:=by rw[Nat.mul_comm,Nat.mul_add_div (by omega),Nat.div_eq_of_lt hj,Nat.add_zero]
 have h2:(i*k+j) % k=j:=by rw[Nat.mul_comm,Nat.mul_add_mod,Nat.mod_eq_of_lt hj]
 rw[h1,h2]
theorem oz(hk:∀x,(cells x).length=k)(hO:Own w B e k (.slice A n c) n (i7 (fun t=>cells (h t)) n))(hn:0<n):∃b,A=some ⟨b,0,none⟩/\B<=b/\b<w.heap.size/\HoldsK (dH cells) k w b 0 ((List.range n).map h).toArray:=by
 obtain⟨b,hA,hb⟩:=J6 hO hn;obtain⟨h1,h2⟩:=hO.lt b hb;refine⟨b,hA,h1,h2,fun t ht=>?_⟩;have hsz:((List.range n).map h).toArray.size=n:=by simp
 rw[size_flatK,hsz]at ht;have hk0:0<k:=by rcases Nat.eq_zero_or_pos k with h0|h0;rw[h0]at ht;omega;exact h0
 obtain⟨i,j,hj,rfl⟩:∃i j,j<k/\t=i*k+j:=⟨t / k,t % k,Nat.mod_lt _ hk0,by rw[Nat.mul_comm];exact(Nat.div_add_mod t k).symm⟩
 have hi:i<n:=by
  refine Nat.lt_of_not_le fun hle=>?_
  have:=Nat.mul_le_mul_right k hle;omega
 have hd:((List.range n).map h).toArray[i]! = h i:=by
  rw[getElem!_pos _ i (by rw[hsz];exact hi)];simp
 rw[uC hk _ i j (by rw[hsz];exact hi) hj,hd,Nat.zero_add];have hg:=A5 (cells:=fun t=>cells (h t)) (n:=n) (fun i _=>hk _) hi hj;have hjl:j<((cells (h i)).map AV.den).length:=by rw[List.length_map,hk];exact hj
 rw[List.getElem?_eq_getElem hjl]at hg;refine⟨?_,?_⟩
 .rw [K3 hO hb _ _ hg,getElem!_pos _ j hjl];rfl
 obtain⟨_,h2|⟨g,cap,cur,hv,_,hcur,_⟩⟩:=hO
 .obtain ⟨h0,_⟩:=h2;omega
 injection hv with e1
 rw[hA]at e1;injection e1 with e1
 injection e1 with e1
 subst e1;simp[World.frozen?,hcur]
theorem mH(d':Array α)(m:Nat)(os:Array Obj){b:Nat}(hb:b<w.heap.size):(sortWorldK (dH cells) k w b 0 m d' os).heap[b]? = (w.heap[b]?).map (Go.Sort.onCells (Go.Sort.putCells id 0 (flatK (dH cells) k d')))/\∀x,x<w.heap.size->x≠b->(sortWorldK (dH cells) k w b 0 m d' os).heap[x]? = w.heap[x]?:=by
 have hsz:(putRowK (dH cells) k (Go.Sort.ahead w m) b 0 d').heap.size=w.heap.size:=by simp[putRowK,Go.Sort.putRow,Go.Sort.mapBlock,Go.Sort.ahead]
 refine⟨?_,fun x hx hne=>?_⟩
 .unfold sortWorldK Go.Sort.grow
  simp only;rw[Array.getElem?_append_left (by rw[hsz];exact hb)];simp[putRowK,Go.Sort.putRow,Go.Sort.mapBlock,Go.Sort.ahead,Array.getElem?_modify]
 unfold sortWorldK Go.Sort.grow;simp only;rw[Array.getElem?_append_left (by rw[hsz];exact hx)];simp[putRowK,Go.Sort.putRow,Go.Sort.mapBlock,Go.Sort.ahead,Array.getElem?_modify];intro e;exact absurd e.symm hne
theorem yb(hk:∀x,(cells x).length=k)(hO:Own w B e k (.slice A n c) n (i7 (fun t=>cells (h t)) n))(hn:0<n){b:Nat}(hA:A=some ⟨b,0,none⟩)(hb:b<w.heap.size)(d':Array α)(hd:d'.size=n)(m:Nat)(os:Array Obj) :
  Own (sortWorldK (dH cells) k w b 0 m d' os) B e k (.slice A n c) n (i7 (fun t=>cells d'[t]!) n):=by
 have hlen:(i7 (fun t=>cells d'[t]!) n).length=n*k:=B5 fun i _=>hk _
 refine⟨hlen,?_⟩
 rcases hO.2 with⟨h0,_⟩|⟨g,cap,cur,hv,h1,h2,h3,h4,h5,h6,h7⟩
 .omega
 injection hv with e1 e2 e3
 subst e3;have:g=b:=by rw[hA]at e1;injection e1 with e1;injection e1 with e1;exact e1.symm
 subst this;subst e1
 right
 refine⟨g,c,Go.Sort.putCells id 0 (flatK (dH cells) k d') cur,rfl,h1,?_,h3,h4,h5,?_,?_⟩
 .rw [(mH d' m os hb).1,h2];rfl
 .simp [Go.Sort.putCells,h6]
 apply List.ext_getElem?;intro t
 by_cases ht:t<n*k
 .have hcs:t<cur.size:=by
   rw[h6];have:=Nat.mul_le_mul_right k h3;omega
  rw[List.getElem?_take_of_lt ht];have hk0:0<k:=by rcases Nat.eq_zero_or_pos k with h0|h0;rw[h0]at ht;omega;exact h0
  obtain⟨i,j,hj,rfl⟩:∃i j,j<k/\t=i*k+j:=⟨t / k,t % k,Nat.mod_lt _ hk0,by rw[Nat.mul_comm];exact(Nat.div_add_mod t k).symm⟩
  have hi:i<n:=by
   refine Nat.lt_of_not_le fun hle=>?_
   have:=Nat.mul_le_mul_right k hle;omega
  rw[A5 (cells:=fun t=>cells d'[t]!) (n:=n) (fun i _=>hk _) hi hj];have hf:=uC hk d' i j (by rw[hd];exact hi) hj;have hjl:j<((cells d'[i]!).map AV.den).length:=by rw[List.length_map,hk];exact hj
  rw[getElem!_pos _ j hjl]at hf;simp only[Array.getElem?_toList,Go.Sort.putCells,Array.getElem?_mapIdx,Array.getElem?_eq_getElem hcs,Option.map_some,Nat.zero_le,true_and,Nat.zero_add,Nat.sub_zero,size_flatK,hd,ht,if_true,id];rw[hf,List.getElem?_eq_getElem hjl]
 rw[List.getElem?_eq_none (by rw[List.length_take];omega),List.getElem?_eq_none (by rw[hlen];omega)]
theorem pD{P:Program}{f:Nat}{fv:Value}{lt:α->α->Bool}(hk:∀x,(cells x).length=k)(hO:Own w B e k (.slice A n c) n (i7 (fun t=>cells (h t)) n))
  (hc:∀b (d:Array α),d.size=n->HoldsK (dH cells) k w b 0 d->b<w.heap.size->Calls P f #[.slice (some ⟨b,0,none⟩) d.size c,fv] w fun e w'=>e = .returned (.tuple #[])/\∃d' m os,Go.Sort.PermIn 0 d.size d d'/\Go.Sort.SortedIn lt 0 d.size d'/\w'=sortWorldK (dH cells) k w b 0 m d' os)
  (h0:n=0->Calls P f #[.slice A 0 c,fv] w fun e w'=>e = .returned (.tuple #[])/\w'=w) :
  Calls P f #[.slice A n c,fv] w fun e' w'=>e' = .returned (.tuple #[])/\∃h':Nat->α,((List.range n).map h').Perm ((List.range n).map h)/\(∀i j,i<j->j<n->lt (h' j) (h' i)=false)/\Own w' B e k (.slice A n c) n (i7 (fun t=>cells (h' t)) n)/\Chg (fun x=>s9 (.slice A n c)=some x) w w':=by
 rcases Nat.eq_zero_or_pos n with hn|hn
 .subst hn
  refine(h0 rfl).mono ?_
  rintro e' w' ⟨rfl,rfl⟩
  exact⟨rfl,h,.refl _,fun i j _ hj=>absurd hj (Nat.not_lt_zero _),hO,Chg.refl _ _⟩
 obtain⟨b,hA,O,hb,hH⟩:=oz hk hO hn;have hsz:((List.range n).map h).toArray.size=n:=by simp
 have:=hc b _ hsz hH hb;rw[hsz,<-hA]at this;refine this.mono ?_
 rintro e' w' ⟨rfl,d',m,os,hp,hs,rfl⟩
 have hd:d'.size=n:=by rw[hp.1,hsz]
 refine⟨rfl,fun i=>d'[i]!,?_,fun i j hij hj=>hs i j (Nat.zero_le _) hij hj,yb hk hO hn hA hb d' hd m os,?_⟩
 .have h3:=hp.2.2
  have e1:(d'.extract 0 n).toList=(List.range n).map fun i=>d'[i]!:=by
   apply List.ext_getElem
   .simp [hd]
   intro i g1 g2;have hi:i<n:=by simpa using g2
   simp[getElem!_pos d' i (by rw[hd];exact hi)]
  have e2:(((List.range n).map h).toArray.extract 0 n).toList=(List.range n).map h:=by
   simp[List.take_of_length_le]
  rw[e1,e2]at h3;exact h3
 have hown:s9 (.slice A n c)=some b:=by
  obtain⟨b',hA',hb'⟩:=J6 hO hn;rw[hA]at hA';injection hA' with hA';injection hA' with hA'
  rw[hA'];exact hb'
 refine⟨rfl,rfl,rfl,?_,fun x hx hne=>(mH d' m os hb).2 x hx (fun e=>hne (by rw[e];exact hown))⟩;exact size_sortWorldK_c (dH cells) k w b 0 m d' os
end
theorem vJ{m:Nat->Nat->Prop}{w:World}{B e k:Nat}{A:Option Addr}{n c:Nat}{f:Nat->List AV}(hO:Own w B e k (.slice A n c) n (i7 f n))(hk:∀i,i<n->(f i).length=k)(hm:∀b,s9 (.slice A n c)=some b->∀o,¬m b o)(h1:∀i,i<n->∀v∈f i,v.one=true/\Ok m w v)(g:Option Nat):Ok m w (.sl g A n c k f):=by
 obtain⟨A',c',he,h2,h3⟩:=hO.isSlice;injection he with e1 e2 e3;subst e3
 refine .sl _ _ _ _ _ _ h2 h3 hk (fun i hi=>?_) (fun i hi=>?_) (fun i hi v hv=>(h1 i hi v hv).1) (fun i hi v hv=>(h1 i hi v hv).2)
 .obtain ⟨b,hA,_⟩:=J6 hO (by omega)
  exact⟨b,0,hA⟩
 obtain⟨b,hA,hb⟩:=J6 hO (by omega);intro j u hu;have hj:j<k:=by
  have:=(List.getElem?_eq_some_iff.1 hu).1
  rwa[List.length_map,hk i hi]at this
 have hget:=A5 (cells:=f) hk hi hj;rw[hu]at hget;exact⟨b,0,hA,by rw[Nat.zero_add];exact K3 hO hb _ u hget,hm b hb _⟩
theorem f7.sorted{m0:Nat->Nat->Prop}{w0:World}{S:Nat->Prop}{ds:List Deferred}{K:Kn}{nt key:Nat}{t:Gr}{l l':List (Nat×AV)}{mem:List (Nat×Blk)}{a:Act}{w w':World}(h:f7 ⟨m0,w0,S,ds,K⟩ ⟨nt,l,[],mem,[(key,t)]⟩ a w)(hc:Chg (fun x=>s9 t.v=some x) w w')
  (hl:∀x,(look l' x).known=true->a.tmps[x]? = some (look l' x).den/\Ok (St.m ⟨nt,l',[],mem,[]⟩ ⟨m0,w0,S,ds,noK⟩) w' (look l' x)) (hm:∀k e,i8 mem k=some e->∀v∈e.cells,Ok (St.m ⟨nt,l',[],mem,[]⟩ ⟨m0,w0,S,ds,noK⟩) w' v):f7 ⟨m0,w0,S,ds,noK⟩ ⟨nt,l',[],mem,[]⟩ a w':=by
 have hlt:∀b,s9 t.v=some b->w0.heap.size<=b:=fun b hb=>by
  obtain⟨_,xs,ho⟩:=h.gr key t (by simp[i8]);exact(ho.lt b hb).1
 refine⟨h.size,h.defers,hl,(fun t p v hg=>by cases hg),fun k e he=>?_,h.nodup,(fun k t ht=>by cases ht),(fun k t k' e ht=>by cases ht),(fun k t k' t' b ht=>by cases ht),?_,h.m0,trivial⟩
 .obtain ⟨h1,h2,h3⟩:=h.mem k e he
  refine⟨?_,fun v hv=>⟨(h2 v hv).1,hm k e he v hv⟩,h3⟩;rw[hc.block _ (U6 h1) (fun hb=>h.sepm key t k e (by simp[i8]) he hb)];exact h1
 exact h.chg.trans hc fun k hk hb=>absurd hk (Nat.not_lt.2 (hlt k hb))
theorem f7.notM{m0:Nat->Nat->Prop}{w0:World}{S:Nat->Prop}{ds:List Deferred}{K:Kn}{nt key:Nat}{t:Gr}{l l':List (Nat×AV)}{mem:List (Nat×Blk)}{a:Act}{w:World}(h:f7 ⟨m0,w0,S,ds,K⟩ ⟨nt,l,[],mem,[(key,t)]⟩ a w):∀b,s9 t.v=some b->∀o,¬St.m ⟨nt,l',[],mem,[]⟩ ⟨m0,w0,S,ds,noK⟩ b o:=by
 intro b hb o hm;obtain⟨_,xs,ho⟩:=h.gr key t (by simp[i8]);have h1:=(ho.lt b hb).1
 rcases hm with hm|⟨k,e,he,hm⟩|⟨k,t',ht,_⟩
 .exact absurd (h.m0 _ _ hm) (Nat.not_lt.2 h1)
 .subst hm
  exact h.sepm key t k e (by simp[i8]) he hb
 cases ht
end Go.Proofs.YtmbkanpapkhnaaaGreat.Sym
namespace Go.Proofs.YtmbkanpapkhnaaaGreat.Sym
open Go Go.RowKit
def bz(x y:Int):Int:=if x<y then -1 else if y<x then 1 else 0
theorem Gq(x y:Int)(w:World):Calls Tryz.prog 70 #[.int .u64 x,.int .u64 y] w fun e w'=>e = .returned (.int .i64 (bz x y))/\w'=w:=by
 have hn:∀(x:Int) (w:World),Calls Tryz.prog 135 #[.int .u64 x] w fun e w'=>e = .returned (.bool false)/\w'=w:=by
  intro x w
  go_enter Tryz.func135,Tryz.ntmps135
  go_wp2_with fail
  go_ret
  simp
 unfold bz
 go_enter Tryz.func70,Tryz.ntmps70
 go_wp2_with (go_at_call 135;refine(hn _ _).mono ?_;rintro e w' ⟨rfl,rfl⟩)
 all_goals(go_ret;exact⟨rfl,rfl⟩)
theorem Gs(x y:Int)(w:World):Calls Tryz.prog 107 #[.int .i64 x,.int .i64 y] w fun e w'=>e = .returned (.int .i64 (bz x y))/\w'=w:=by
 have hn:∀(x:Int) (w:World),Calls Tryz.prog 158 #[.int .i64 x] w fun e w'=>e = .returned (.bool false)/\w'=w:=by
  intro x w
  go_enter Tryz.func158,Tryz.ntmps158
  go_wp2_with fail
  go_ret
  simp
 unfold bz
 go_enter Tryz.func107,Tryz.ntmps107
 go_wp2_with (go_at_call 158;refine(hn _ _).mono ?_;rintro e w' ⟨rfl,rfl⟩)
 all_goals(go_ret;exact⟨rfl,rfl⟩)
theorem Jw(b:Nat)(x y:Int)(w:World)(h0:w.cell? ⟨b,0,none⟩=some (.int .i64 x))(h1:w.cell? ⟨b,1,none⟩=some (.int .i64 y)):Calls Tryz.prog 106 #[.slice (some ⟨b,0,none⟩) 2 2] w fun e w'=>e = .returned (.int .i64 (if x≠0 then x else y))/\w'=w:=by
 go_enter Tryz.func106,Tryz.ntmps106
 go_wp2_with fail
 refine wp_loop_rounds 3 ?_;simp only[Code.rounds]
 go_wp2_with fail
 all_goals(go_ret;first|exact⟨rfl,rfl⟩|(exfalso;simp_all;done)|(refine⟨?_,rfl⟩;simp_all;done))
def GrF(W w:World):Prop:=∃q os,w=Go.Sort.grow (W.drewN q) os
theorem GrF.refl(W:World):GrF W W:=⟨0,#[],by simp[Go.Sort.grow,World.drewN]⟩
theorem GrF.drew{W w:World}(h:GrF W w):GrF W w.drew:=by
 obtain⟨q,os,rfl⟩:=h;exact⟨q+1,os,rfl⟩
theorem GrF.alloc{W w:World}(h:GrF W w)(o:Obj):GrF W (w.alloc o):=by
 obtain⟨q,os,rfl⟩:=h;exact⟨q,os.push o,by simp[Go.Sort.grow,World.alloc,World.drewN]⟩
theorem GrF.size{W w:World}(h:GrF W w):W.heap.size<=w.heap.size:=by
 obtain⟨q,os,rfl⟩:=h;simp[Go.Sort.grow,World.drewN]
theorem sS{w:World}{a:Addr}{u:Value}(h:w.cell? a=some u)(o:Obj):(w.alloc o).cell? a=some u:=by
 have hl:=World.block_lt_of_cell? w _ h;unfold World.cell? at h ⊢;rw[Below.heap_alloc _ _ _ hl];exact h
theorem nf{w:World}{a:Addr}{u:Value}(h:w.cell? a=some u):w.drew.cell? a=some u:=h
theorem yt(w:World)(x y:Value)(t:TypeId):(w.alloc (.cells #[x,y] t)).cell? ⟨w.heap.size,0,none⟩=some x:=cell_of_row _ _ 0 _ _ _ (heap_alloc_new w _)
theorem yr(w:World)(x y:Value)(t:TypeId):(w.alloc (.cells #[x,y] t)).cell? ⟨w.heap.size,1,none⟩=some y:=cell_of_row _ _ 1 _ _ _ (heap_alloc_new w _)
theorem size_alloc{n:Nat}{w:World}(h:n<=w.heap.size)(o:Obj):n<=(w.alloc o).heap.size:=by simp;omega
def dJ(a b:Lab):Int:=if bz a.bits b.bits≠0 then bz a.bits b.bits else bz a.len b.len
end Go.Proofs.YtmbkanpapkhnaaaGreat.Sym
namespace Go.Proofs
open Go.Shelf
def Tryz.sortRow_ren:Go.Shelf.Ren:=⟨fun|6=>77|15=>138|14=>137|28=>200|29=>201|20=>192|21=>193|22=>194|23=>195|24=>196|25=>197|26=>198|27=>199|46=>245|47=>246|48=>247|49=>248|50=>249|57=>282|n=>n,fun|22=>46|24=>92|25=>129|3=>3|39=>156|0=>0|53=>26|55=>22|4=>4|46=>231|45=>230|50=>235|5=>5|9=>9|66=>272|70=>275|76=>297|77=>298|n=>n,fun|n=>n⟩
theorem Tryz.sortRow:Go.Proofs.SlLaysF0.n6 Tryz.prog Tryz.sortRow_ren:={
 mixed:=by kernel_rfl
 f6:=⟨Tryz.f77.name,by decide,Tryz.func77.trans (congrArg some (by kernel_rfl))⟩
 f14:=⟨Tryz.f137.name,by decide,Tryz.func137.trans (congrArg some (by kernel_rfl))⟩
 f15:=Tryz.func138.trans (congrArg some (by kernel_rfl))
 f20:=⟨Tryz.f192.name,by decide,Tryz.func192.trans (congrArg some (by kernel_rfl))⟩
 f21:=⟨Tryz.f193.name,by decide,Tryz.func193.trans (congrArg some (by kernel_rfl))⟩
 f22:=⟨Tryz.f194.name,by decide,Tryz.func194.trans (congrArg some (by kernel_rfl))⟩
 f23:=⟨Tryz.f195.name,by decide,Tryz.func195.trans (congrArg some (by kernel_rfl))⟩
 f24:=⟨Tryz.f196.name,by decide,Tryz.func196.trans (congrArg some (by kernel_rfl))⟩
 f25:=⟨Tryz.f197.name,by decide,Tryz.func197.trans (congrArg some (by kernel_rfl))⟩
 f26:=⟨Tryz.f198.name,by decide,Tryz.func198.trans (congrArg some (by kernel_rfl))⟩
 f27:=⟨Tryz.f199.name,by decide,Tryz.func199.trans (congrArg some (by kernel_rfl))⟩
 f28:=Tryz.func200.trans (congrArg some (by kernel_rfl))
 f29:=Tryz.func201.trans (congrArg some (by kernel_rfl))
 f46:=⟨Tryz.f245.name,by decide,Tryz.func245.trans (congrArg some (by kernel_rfl))⟩
 f47:=Tryz.func246.trans (congrArg some (by kernel_rfl))
 f48:=Tryz.func247.trans (congrArg some (by kernel_rfl))
 f49:=⟨Tryz.f248.name,by decide,Tryz.func248.trans (congrArg some (by kernel_rfl))⟩
 f50:=⟨Tryz.f249.name,by decide,Tryz.func249.trans (congrArg some (by kernel_rfl))⟩
 f57:=⟨Tryz.f282.name,by decide,Tryz.func282.trans (congrArg some (by kernel_rfl))⟩
 t0:=Tryz.underlying0
 a0:=Tryz.isAgg0
 z0:=Tryz.sizeOf0
 v0:=Tryz.zeroValue0
 t3:=Tryz.underlying3
 a3:=Tryz.isAgg3
 z3:=Tryz.sizeOf3
 v3:=Tryz.zeroValue3
 t4:=Tryz.underlying4
 a4:=Tryz.isAgg4
 z4:=Tryz.sizeOf4
 v4:=Tryz.zeroValue4
 t5:=Tryz.underlying5
 a5:=Tryz.isAgg5
 z5:=Tryz.sizeOf5
 v5:=Tryz.zeroValue5
 t9:=Tryz.underlying9
 a9:=Tryz.isAgg9
 z9:=Tryz.sizeOf9
 v9:=Tryz.zeroValue9
 t22:=Tryz.underlying46
 a22:=Tryz.isAgg46
 z22:=Tryz.sizeOf46
 v22:=Tryz.zeroValue46
 t25:=Tryz.underlying129
 a25:=Tryz.isAgg129
 z25:=Tryz.sizeOf129
 v25:=Tryz.zeroValue129
 t39:=Tryz.underlying156
 a39:=Tryz.isAgg156
 z39:=Tryz.sizeOf156
 v39:=Tryz.zeroValue156
 t45:=Tryz.underlying230
 a45:=Tryz.isAgg230
 z45:=Tryz.sizeOf230
 v45:=Tryz.zeroValue230
 t46:=Tryz.underlying231
 a46:=Tryz.isAgg231
 z46:=Tryz.sizeOf231
 v46:=Tryz.zeroValue231
 t50:=Tryz.underlying235
 a50:=Tryz.isAgg235
 z50:=Tryz.sizeOf235
 v50:=Tryz.zeroValue235
 t53:=Tryz.underlying26
 a53:=Tryz.isAgg26
 z53:=Tryz.sizeOf26
 v53:=Tryz.zeroValue26
 t55:=Tryz.underlying22
 a55:=Tryz.isAgg22
 z55:=Tryz.sizeOf22
 v55:=Tryz.zeroValue22
 t66:=Tryz.underlying272
 a66:=Tryz.isAgg272
 z66:=Tryz.sizeOf272
 v66:=Tryz.zeroValue272
 t70:=Tryz.underlying275
 a70:=Tryz.isAgg275
 z70:=Tryz.sizeOf275
 v70:=Tryz.zeroValue275
 t76:=Tryz.underlying297
 a76:=Tryz.isAgg297
 z76:=Tryz.sizeOf297
 v76:=Tryz.zeroValue297
 t77:=Tryz.underlying298
 a77:=Tryz.isAgg298
 z77:=Tryz.sizeOf298
 v77:=Tryz.zeroValue298 }
def Tryz.sortLab_ren:Go.Shelf.Ren:=⟨fun|6=>81|15=>138|14=>139|28=>200|29=>201|20=>202|21=>203|22=>204|23=>205|24=>206|25=>207|26=>208|27=>209|46=>250|47=>246|48=>247|49=>251|50=>252|57=>283|n=>n,fun|22=>57|24=>24|25=>128|3=>3|39=>156|0=>0|53=>26|55=>22|4=>4|46=>231|45=>230|50=>235|5=>5|9=>9|66=>272|70=>275|76=>297|77=>298|n=>n,fun|n=>n⟩
theorem Tryz.sortLab:Go.Proofs.SlLaysF0.n6 Tryz.prog Tryz.sortLab_ren:={
 mixed:=by kernel_rfl
 f6:=⟨Tryz.f81.name,by decide,Tryz.func81.trans (congrArg some (by kernel_rfl))⟩
 f14:=⟨Tryz.f139.name,by decide,Tryz.func139.trans (congrArg some (by kernel_rfl))⟩
 f15:=Tryz.func138.trans (congrArg some (by kernel_rfl))
 f20:=⟨Tryz.f202.name,by decide,Tryz.func202.trans (congrArg some (by kernel_rfl))⟩
 f21:=⟨Tryz.f203.name,by decide,Tryz.func203.trans (congrArg some (by kernel_rfl))⟩
 f22:=⟨Tryz.f204.name,by decide,Tryz.func204.trans (congrArg some (by kernel_rfl))⟩
 f23:=⟨Tryz.f205.name,by decide,Tryz.func205.trans (congrArg some (by kernel_rfl))⟩
 f24:=⟨Tryz.f206.name,by decide,Tryz.func206.trans (congrArg some (by kernel_rfl))⟩
 f25:=⟨Tryz.f207.name,by decide,Tryz.func207.trans (congrArg some (by kernel_rfl))⟩
 f26:=⟨Tryz.f208.name,by decide,Tryz.func208.trans (congrArg some (by kernel_rfl))⟩
 f27:=⟨Tryz.f209.name,by decide,Tryz.func209.trans (congrArg some (by kernel_rfl))⟩
 f28:=Tryz.func200.trans (congrArg some (by kernel_rfl))
 f29:=Tryz.func201.trans (congrArg some (by kernel_rfl))
 f46:=⟨Tryz.f250.name,by decide,Tryz.func250.trans (congrArg some (by kernel_rfl))⟩
 f47:=Tryz.func246.trans (congrArg some (by kernel_rfl))
 f48:=Tryz.func247.trans (congrArg some (by kernel_rfl))
 f49:=⟨Tryz.f251.name,by decide,Tryz.func251.trans (congrArg some (by kernel_rfl))⟩
 f50:=⟨Tryz.f252.name,by decide,Tryz.func252.trans (congrArg some (by kernel_rfl))⟩
 f57:=⟨Tryz.f283.name,by decide,Tryz.func283.trans (congrArg some (by kernel_rfl))⟩
 t0:=Tryz.underlying0
 a0:=Tryz.isAgg0
 z0:=Tryz.sizeOf0
 v0:=Tryz.zeroValue0
 t3:=Tryz.underlying3
 a3:=Tryz.isAgg3
 z3:=Tryz.sizeOf3
 v3:=Tryz.zeroValue3
 t4:=Tryz.underlying4
 a4:=Tryz.isAgg4
 z4:=Tryz.sizeOf4
 v4:=Tryz.zeroValue4
 t5:=Tryz.underlying5
 a5:=Tryz.isAgg5
 z5:=Tryz.sizeOf5
 v5:=Tryz.zeroValue5
 t9:=Tryz.underlying9
 a9:=Tryz.isAgg9
 z9:=Tryz.sizeOf9
 v9:=Tryz.zeroValue9
 t22:=Tryz.underlying57
 a22:=Tryz.isAgg57
 z22:=Tryz.sizeOf57
 v22:=Tryz.zeroValue57
 t25:=Tryz.underlying128
 a25:=Tryz.isAgg128
 z25:=Tryz.sizeOf128
 v25:=Tryz.zeroValue128
 t39:=Tryz.underlying156
 a39:=Tryz.isAgg156
 z39:=Tryz.sizeOf156
 v39:=Tryz.zeroValue156
 t45:=Tryz.underlying230
 a45:=Tryz.isAgg230
 z45:=Tryz.sizeOf230
 v45:=Tryz.zeroValue230
 t46:=Tryz.underlying231
 a46:=Tryz.isAgg231
 z46:=Tryz.sizeOf231
 v46:=Tryz.zeroValue231
 t50:=Tryz.underlying235
 a50:=Tryz.isAgg235
 z50:=Tryz.sizeOf235
 v50:=Tryz.zeroValue235
 t53:=Tryz.underlying26
 a53:=Tryz.isAgg26
 z53:=Tryz.sizeOf26
 v53:=Tryz.zeroValue26
 t55:=Tryz.underlying22
 a55:=Tryz.isAgg22
 z55:=Tryz.sizeOf22
 v55:=Tryz.zeroValue22
 t66:=Tryz.underlying272
 a66:=Tryz.isAgg272
 z66:=Tryz.sizeOf272
 v66:=Tryz.zeroValue272
 t70:=Tryz.underlying275
 a70:=Tryz.isAgg275
 z70:=Tryz.sizeOf275
 v70:=Tryz.zeroValue275
 t76:=Tryz.underlying297
 a76:=Tryz.isAgg297
 z76:=Tryz.sizeOf297
 v76:=Tryz.zeroValue297
 t77:=Tryz.underlying298
 a77:=Tryz.isAgg298
 z77:=Tryz.sizeOf298
 v77:=Tryz.zeroValue298 }
end Go.Proofs
namespace Go.Proofs.YtmbkanpapkhnaaaGreat.Sym
open Go Go.RowKit Go.Sort
instance : Inhabited B1 := ⟨xd⟩
def cG(a b:Lab):Bool:=decide (dJ a b<0)
theorem dZ(a b:Lab):cG a b=true↔a.bits<b.bits \/ (a.bits=b.bits/\a.len<b.len):=by
 unfold cG dJ bz;rw[decide_eq_true_iff]
 split<;>rename_i h<;>(repeat' split at h)<;>(repeat' split)<;>omega
theorem dY(a b:Lab):cG a b=false ↔ ¬(a.bits<b.bits \/ (a.bits=b.bits/\a.len<b.len)):=by
 rw[<-dZ];simp
def qN(x y:B1):Int:=dJ x.lab y.lab
theorem lj(x y:B1):ltOf qN x y=cG x.lab y.lab:=rfl
theorem EF:SWO (ltOf qN):=by
 refine⟨fun x=>?_,fun x y z h1 h2=>?_,fun x y z h1 h2=>?_⟩
 .rw [lj,dY];omega
 .rw [lj,dZ]at *;omega
 rw[lj,dY]at *;omega
end Go.Proofs.YtmbkanpapkhnaaaGreat.Sym
namespace Go.Proofs.YtmbkanpapkhnaaaGreat.Sym
open Go Go.RowKit
section
variable {m0:Nat->Nat->Prop} {w0:World} {S:Nat->Prop} {ds:List Deferred} {K:Kn} {P:Program} {Q:Exit->Act->World->Prop} {ops:Array Oper} {s:St} {a:Act} {w:World} {L rest:List Oper} {o:Oper}
open Go.Maps in
theorem vT{it:Operand}{k:TypeId}{d b r n cnt:Nat}{D:DataW Value}{left:Lit->Bool}(hL:L=o::rest)(hg:o.guard=none)(hop:o.op = .next it false)(hdst:o.dst=some d)(h:f7 ⟨m0,w0,S,ds,K⟩ s a w)(hd:d<s.nt)(hit:val s [] it = .raw (.pointer (some ⟨r,0,none⟩)))
  (Kd:Keyed P k) (hM:w.ranges P k hR b r n D left cnt) (hC:r<w0.heap.size->S r)
  (K1:Bool->Value->Value->Lit->Nat->Kn) (hK0:∀m,K.p m w->(∀kl,left kl=false)->(K1 false (.bool false) (.bool false) (.bool false) 0).p m w) (hK1:∀key v kl cnt' m w',K.p m w->T2 (some r) w m w' m->w'.ranges P k hR b r n D (fun x=>left x && !x.sameKey kl) cnt'->cD P w' r key v->(K1 true key v kl cnt').p m w')
  (K':∀a' w' bb rest' key v kl cnt',(bb=false->∀kl,left kl=false)->(bb=true->Go.keyOf P k key=some kl/\left kl=true/\(∀zd,D.atKey kl zd = .held v)/\cnt'<cnt)->f7 ⟨m0,w0,S,ds,K1 bb key v kl cnt'⟩ (s.put (some d) (.tup (.bool (.v bb)::rest'))) a' w'->wpList P ops Q rest a' w'):wpList P ops Q L a w:=by
 have hiv:=(A7 h (q:=[]) (fun _ h=>by cases h) (x:=it) (by rw[hit];rfl)).1;rw[hit]at hiv;have hr0:∃o',w.heap[r]? = some o'/\∀c t f,o'≠Obj.cells c t f:=by
  obtain⟨es,clock,since,seen,c0,_,_,_,_,hr,_⟩:=hM;exact⟨_,hr,fun c t f e=>by cases e⟩
 obtain⟨o',hr,hro⟩:=hr0;refine T8 hL hg ?_;unfold Oper.wp
 rcases hM.next Kd o.type with⟨h0,hl,hrun⟩|⟨key,v,kl,y,w',cnt',hkey,hlk,hv,hat,hrun,hrg,hlt,hgr,hsz,hen⟩
 .have e1:(execOp a.eval o).run P w = .ok (.value (.tuple #[.bool false])) w:=by simp[execOp,hop,hiv,hrun,Result.andThen,AV.den]
  rw[e1];simp only[Oper.upon];rw[hdst];exact K' _ _ false [] (.bool false) (.bool false) (.bool false) 0 (fun _=>hl) (fun h=>by cases h) ((h.withK (hK0 _ h.kept hl)).put (some d) (fun t ht=>by injection ht with ht;subst ht;exact hd) (.tup [.bool (.v false)]) (fun _=>.tup _ fun u hu=>by simp at hu;subst hu;exact .bool _) _ fun _=>rfl)
 have e1:(execOp a.eval o).run P w = .ok (.value (.tuple #[.bool true,key,v])) w':=by simp[execOp,hop,hiv,hrun,Result.andThen,AV.den]
 rw[e1];simp only[Oper.upon];rw[hdst];have hv':y.1 = .held v:=by unfold hR at hv;injection hv with hv;rw[<-hv]
 have hea:cD P w' r key v:=by
  obtain⟨es,clock,since,seen,c0,hb',_,_,_,hr',_⟩:=hrg;exact⟨⟨_,_,_,_,_,_,hr',hb'⟩,hen⟩
 have h2:=h.turn hr hro hgr hC (hK1 key v kl cnt' _ _ h.kept (bJ hr hro hgr) hrg hea);refine K' _ _ true [.raw key,.raw v] key v kl cnt' (fun h=>by cases h) (fun _=>⟨hkey,hlk,fun zd=>(hat zd).trans hv',hlt⟩) (h2.put (some d) (fun t ht=>by injection ht with ht;subst ht;exact hd) (.tup [.bool (.v true),.raw key,.raw v]) (fun _=>.tup _ fun u hu=>?_) _ fun _=>rfl);simp only[List.mem_cons,List.not_mem_nil,or_false]at hu
 rcases hu with rfl|rfl|rfl
 .exact .bool _
 .exact .raw _
 exact .raw _
theorem pY{m:Nat->Nat->Prop}{w:World}{B e k:Nat}{g:Option Nat}{A:Option Addr}{n c:Nat}{f:Nat->List AV}{xs:List Value}(hO:Own w B e k (.slice A n c) n xs)(hk:Ok m w (.sl g A n c k f)):xs=i7 f n:=by
 cases hk with
 |sl _ _ _ _ _ _ h1 h2 h3 h4 h5 h6 h7=>
  have hl1:=hO.1;have hl2:=B5 (cells:=f) (k:=k) (n:=n) h3;apply List.ext_getElem
  .rw [hl1,hl2]
  intro t g1 g2;have ht:t<n*k:=by rw[hl1]at g1;exact g1
  have hk0:0<k:=by rcases Nat.eq_zero_or_pos k with h0|h0;rw[h0]at ht;omega;exact h0
  obtain⟨i,j,hj,rfl⟩:∃i j,j<k/\t=i*k+j:=⟨t / k,t % k,Nat.mod_lt _ hk0,by rw[Nat.mul_comm];exact(Nat.div_add_mod t k).symm⟩
  have hi:i<n:=by
   refine Nat.lt_of_not_le fun hle=>?_
   have:=Nat.mul_le_mul_right k hle;omega
  obtain⟨b,hA,hb⟩:=J6 hO (by omega);have e1:=K3 hO hb (i*k+j) _ (List.getElem?_eq_getElem g1);have hjl:j<((f i).map AV.den).length:=by rw[List.length_map,h3 i hi];exact hj
  obtain⟨b',off,hA',e2,_⟩:=h5 i hi j _ (List.getElem?_eq_getElem hjl);have hg:=A5 (cells:=f) h3 hi hj;rw[List.getElem?_eq_getElem g2,List.getElem?_eq_getElem hjl]at hg;rw[hA]at hA';injection hA' with hA';injection hA' with q1 q2
  subst q1;subst q2;rw[Nat.zero_add]at e2;rw[e1]at e2;injection e2 with e2
  injection hg with hg
  rw[e2,hg]
theorem kr{nt key d:Nat}{t:Gr}{l:List (Nat×AV)}{mem:List (Nat×Blk)}{c:Call}{g:Operand}{f:FuncId}{args:List AV}(hL:L=o::rest)(hg:o.guard=none)(hop:o.op = .call c)(hcal:c.callee = .value g)(hdst:o.dst=some d)(h:f7 ⟨m0,w0,S,ds,K⟩ ⟨nt,l,[],mem,[(key,t)]⟩ a w)(hgv:val ⟨nt,l,[],mem,[(key,t)]⟩ [] g = .fn f [] [])(hl:R0 ⟨nt,l,[],mem,[(key,t)]⟩ [] c.args.toList=some args)(hen:o3 P f)
  (R:World->Prop) (hc:Calls P f (args.map AV.den).toArray w fun e w'=>e = .returned (.tuple #[])/\R w'/\Chg (fun x=>s9 t.v=some x) w w')
  (K':∀w',R w'->Chg (fun x=>s9 t.v=some x) w w'->wpList P ops Q rest (a.put (some d) (.tuple #[])) w'):wpList P ops Q L a w:=by
 refine T8 hL hg ?_;obtain⟨hrun,_⟩:=gE hop hcal h hgv hl hen;unfold Oper.wp;rw[hrun];simp only[Oper.upon];simp only[List.nil_append,List.append_nil];refine hc.mono ?_
 rintro e w' ⟨rfl,h1,h2⟩
 rw[hdst];exact K' w' h1 h2
end
theorem f7.swap{C:Cx}{nt i j:Nat}{u v:AV}{l:List (Nat×AV)}{mem:List (Nat×Blk)}{gr:List (Nat×Gr)}{a:Act}{w:World}(h:f7 C ⟨nt,(i,u)::(j,v)::l,[],mem,gr⟩ a w)(hne:i≠j:=by decide):f7 C ⟨nt,(j,v)::(i,u)::l,[],mem,gr⟩ a w:=
 h.alike ⟨rfl,fun k=>by
  simp only[u5]
  by_cases h1:i=k
  .by_cases h2:j=k
   .exact absurd (h1.trans h2.symm) hne
   simp[h1,h2]
  simp[h1],fun _=>rfl,fun _=>rfl,fun _=>rfl⟩
theorem Ab(A:Option Addr)(n c:Nat)(f:Nat->B1)(hn:n<=maxLen):l7 Tryz.prog 16 [aT A n c f] (fun _=>.bool (.v (if n<=300 then qT n f else true))):=by
 intro m w hm hargs;have hmx:maxLen=9223372036854775807:=rfl;have hln:=xF (hargs (aT A n c f) (by simp));refine en 38 hm hargs Tryz.func16 fun B O a0 Z=>?_
 refine a6 [0] [] Z fun X0 Z=>?_
 refine a6 [3,0] [] Z fun X1 Z=>?_
 refine a7 (a6 [3,4,0] [] Z fun X2 Z=>?_);refine j0 (r9 (ι:=Nat×Int) (fun p=>[(3,.int .i64 p.2),(4,.int .i64 (p.1:Int))]) (fun p=>[]) (fun p=>[]) (fun p=>p.1<=n/\p.2=EH f p.1/\∀i,i<p.1->iV (f i).x.r.n (f i).x.r.f=false) (fun p=>n-p.1) (0,0) ⟨Nat.zero_le _,rfl,fun i hi=>absurd hi (Nat.not_lt_zero _)⟩ Z ?_)
 rintro⟨i,s⟩ ⟨hi,hs,hal⟩ _ _ Z
 try dsimp only at hi
 try dsimp only at hs
 try dsimp only at hal
 refine a7 (a6 [13,3,4,0] [] Z fun X3 Z=>?_);apply d7 Z rfl<;>intro hb Z
 .have h9:(if decide ((i:Int)<(n:Int))=true then decide ((n:Int)<=300)else false)=true:=by subst O;exact hb
  rw[M7,Bool.and_eq_true,decide_eq_true_eq,decide_eq_true_eq]at h9;have hin:i<n:=by omega
  have hsm:n<=300:=by omega
  have S:=II (f i).x.A (f i).x.r.n (f i).x.c (f i).x.r.f (hln i hin) (f i).x.r.kd (f i).x.r.nx (f i).x.r.mrk;simp only[bR,r6]at S;obtain⟨q,hq⟩:=eqv (iV (f i).x.r.n (f i).x.r.f);rw[<-hq]at S;refine f9 (a7 (j0 (a7 (a7 ?_))));have O4:(0:Int)<=(i:Int):=by omega
  have O5:(i:Int)<(n:Int):=by omega
  have O6:=S;refine j4 [21,3,4,0] [] [(5,.r fun _=>.bool (.v q))] Z fun X5 Z=>?_
  apply d7 Z rfl<;>intro hb Z
  .have hbt:iV (f i).x.r.n (f i).x.r.f=true:=by rw[<-hq];exact hb
   refine a6 [2] [] Z fun X6 Z=>?_
   refine B4 Z ?_;subst O;refine Sim.bool ?_
   show true=(if n<=300 then qT n f else true)
   rw[if_pos hsm];unfold qT;rw[wV hin hbt];simp
  have hbf:iV (f i).x.r.n (f i).x.r.f=false:=by rw[<-hq];exact hb
  refine f9 ?_;have O4:(0:Int)<=(i:Int):=by omega
  have O5:(i:Int)<(n:Int):=by omega
  refine j5 [3,4,0] [] Z fun X7 Z=>?_
  refine j5 [4,3,0] [] Z fun X4 Z=>?_
  have e:B.arith .add .i64 (i:Int) 1=((i+1:Nat):Int):=by subst O;exact j7 (n:=n) hin (by omega)
  refine⟨(i+1,B.arith .add .i64 s (B.ofNat (f (B.toNat (i:Int))).x.r.n)),⟨by simp only;omega,by subst O;rw[hs];rfl,fun j hj=>?_⟩,by simp only;omega,by rw[<-e];exact Z.swap⟩
  by_cases hij:j=i
  .rw [hij];exact hbf
  exact hal j (by simp only at hj;omega)
 have h9:(if decide ((i:Int)<(n:Int))=true then decide ((n:Int)<=300)else false)=false:=by subst O;exact hb
 rw[M7]at h9;have hend:n<=300->i=n:=fun h3=>by
  rw[decide_eq_true (show(n:Int)<=300 by omega),Bool.and_true]at h9;have:=of_decide_eq_false h9;omega
 refine o4 (a6 [2] [] Z fun X8 Z=>?_);refine B4 Z ?_;subst O;refine Sim.bool ?_
 show(if decide ((300:Int)<(n:Int))=true then true else decide (3000<s))=_
 rw[sn]
 by_cases h3:n<=300
 .rw [if_pos h3]
  unfold qT;rw[hend h3]at hs hal;rw[wW hal,hs,decide_eq_false (show ¬(300:Int)<(n:Int)by omega),decide_eq_false (show ¬300<n by omega)];rfl
 rw[if_neg h3,decide_eq_true (show(300:Int)<(n:Int)by omega)];rfl
theorem Sim.nils{g g':Option Nat}{k k':Nat}{f f':Nat->List AV}:Sim (.sl g none 0 0 k f) (.sl g' none 0 0 k' f'):=
 ⟨rfl,fun _=>rfl,fun _ _ _=>.sl _ _ _ _ _ _ (Nat.le_refl _) (Nat.zero_le _) (fun i hi=>absurd hi (Nat.not_lt_zero _)) (fun i hi=>absurd hi (Nat.not_lt_zero _)) (fun i hi=>absurd hi (Nat.not_lt_zero _)) (fun i hi=>absurd hi (Nat.not_lt_zero _)) (fun i hi=>absurd hi (Nat.not_lt_zero _))⟩
theorem fV(y:j1)(g:Got):(ba y g).abs=g:=by
 unfold ba r5.abs;simp only[Z4]
section
variable (A:Option Addr) (n c:Nat) (f:Nat->B1) (hn:n<=maxLen) (hN:∀i,i<n->(f i).x.r.n<=1000000/\o9 (f i).lab/\U64 (f i).lab.bits/\U64 (f i).x.r.nx.bits)
include hn hN
theorem Fv(h:aL (G5 f n)=none):I5 Tryz.prog 17 [aT A n c f] [] none noK (fun y=>⟨.tup [.nilp,.int .i64 1],[],[]⟩) (fun _ _=>noK):=by
 have:=DW A n c f hn hN;rw[h]at this;exact this
theorem tU(k0:Nat){L:Shf}(h:aL (G5 f n)=some L):I5 Tryz.prog 17 [aT A n c f] [] none noK (fun y=>⟨.tup [.ptr k0 y.b 0,.int .i64 0],[],[(k0,⟨y.b,95,[.raw (.map (some (y.c 0))),.int .i64 0]⟩)]⟩) (fun N y=>shF N (y.c 0) L):=by
 have:=DW A n c f hn hN;rw[h]at this;exact this.re ⟨zr,trivial⟩ rfl fun x=>⟨rfl,rfl,Sim.tup ⟨Sim.ptr,zr,trivial⟩,rfl⟩
end
structure rj(L:Shf):Prop where
 ris:iG L
 len:L.length<=2000
 lab:∀p∈L,o9 p.1
theorem Gk{L:Shf}(h:rj L){w:Wnt}(hl:o9 w.lab):rj (doL L w).L:=by
 unfold doL
 split
 .split
  .exact h
  split
  .exact h
  split
  .exact h
  rename_i hf
  refine⟨dT h.ris,?_,fun p hp=>?_⟩
  .simp only
   rw[dU _ _ h.ris]
   split
   .exact h.len
   rename_i h1
   have:(B2 w.lab L).isNone=true:=by
    cases hx:B2 w.lab L with
    |none=>rfl
    |some x=>rw[hx]at h1;exact absurd rfl h1
   have:=fun h2=>hf ⟨this,h2⟩
   have h3:=h.len
   by_cases h4:2000<=L.length
   .exact absurd h4 this
   omega
  rcases Y4 hp with rfl|hp
  .exact hl
  exact h.lab p hp
 exact h
theorem tV:∀{l:List Rw} {L L':Shf},(∀r∈l,o9 r.lab)->iG L->(∀p∈L,o9 p.1)->L.length+l.length<=2000->cM l L=some L'->rj L'
 | [],L,L',_,h1,h2,h3,h=>by
  simp only[cM,Option.some.injEq]at h;subst h;exact⟨h1,by simp at h3;omega,h2⟩
 |r::l,L,L',hr,h1,h2,h3,h=>by
  unfold cM at h
  split at h
  .cases h
  refine tV (fun r hr'=>hr r (by simp[hr'])) (dT h1) (fun p hp=>?_) ?_ h
  .rcases Y4 hp with rfl|hp
   .exact hr r (by simp)
   exact h2 p hp
  rw[dU _ _ h1];simp only[List.length_cons]at h3
  split<;>omega
theorem BG{l:List Rw}{L:Shf}(hr:∀r∈l,o9 r.lab)(h:aL l=some L):rj L:=by
 unfold aL at h
 split at h
 .cases h
 exact tV hr List.Pairwise.nil (fun p hp=>by cases hp) (by simp;omega) h
structure vb(p:Lab×Spo):Prop where
 ver:U64 p.2.ver
 r:Q5 p.2.r
structure cR(L:Shf):Prop where
 ok:rj L
 sp:∀p∈L,vb p
theorem mb:U64 0:=⟨by decide,by decide⟩
theorem uq{r:Rec}(h:isR r=true):r.items.length<=16:=by
 have h2:N7 r.kind r.items.length (itF r.items) r.next r.mark=true:=by
  have h3:=ea r.rn;rw[Z4]at h3;rw[h3]at h;exact h
 exact(M8 h2).2.2.1
theorem Ef(v:Int):U64 (inc v):=by
 unfold inc IntKind.wrap;simp only[IntKind.bits,IntKind.signed];unfold U64
 constructor
 .simp;omega
 simp;omega
theorem gV{l:Lab}{x:Spo}:∀{L:Shf},B2 l L=some x->∃p∈L,p.2=x
 | [],h=>by cases h
 |p::L,h=>by
  unfold B2 at h
  split at h
  .exact ⟨p,by simp,Option.some.inj h⟩
  obtain⟨q,hq,e⟩:=gV h;exact⟨q,by simp[hq],e⟩
theorem AP{L:Shf}(h:∀p∈L,vb p)(l:Lab):U64 (u9 L l).ver/\Q5 (u9 L l).r:=by
 unfold u9
 cases e:B2 l L with
 |none=>exact⟨mb,L9⟩
 |some x=>
  obtain⟨p,hp,rfl⟩:=gV e;exact⟨(h p hp).ver,(h p hp).r⟩
structure tf(w:Wnt):Prop where
 lab:o9 w.lab
 nx:U64 w.r.next.bits
 key:∀x∈w.r.items,U64 x.key
theorem bw{L:Shf}(h:cR L){w:Wnt}(hw:tf w):cR (doL L w).L/\U64 (doL L w).got.ver/\Q5 (doL L w).got.r:=by
 refine⟨⟨Gk h.ok hw.lab,?_⟩,?_⟩
 .unfold doL
  split
  .rename_i hg
   split
   .exact h.sp
   split
   .exact h.sp
   split
   .exact h.sp
   intro p hp
   rcases Y4 hp with rfl|hp
   .refine ⟨Ef _,?_⟩
    show Q5 (if w.kind=2 then w.r else j3)
    split
    .rename_i h2
     exact⟨hw.nx,uq (hg.2.2 h2),hw.key⟩
    exact L9
   exact h.sp p hp
  exact h.sp
 have hs:=AP h.sp w.lab;unfold doL
 split
 .split
  .exact hs
  split
  .exact ⟨hs.1,L9⟩
  split
  .exact ⟨mb,L9⟩
  exact⟨Ef _,L9⟩
 exact⟨mb,L9⟩
structure RwG(r:Rw):Prop where
 lab:o9 r.lab
 ver:U64 r.ver
 nx:U64 r.r.next.bits
 key:∀x∈r.r.items,U64 x.key
theorem mn:∀{l:List Rw} {L L':Shf},(∀r∈l,RwG r)->(∀p∈L,vb p)->cM l L=some L'->∀p∈L',vb p
 | [],L,L',_,h2,h=>by
  simp only[cM,Option.some.injEq]at h;subst h;exact h2
 |r::l,L,L',hr,h2,h=>by
  unfold cM at h
  split at h
  .cases h
  rename_i hc
  have hc2:isR r.r=true:=by
   simp only[Bool.or_eq_true,Bool.not_eq_true',not_or]at hc
   simpa using hc.2
  refine mn (fun r hr'=>hr r (by simp[hr'])) (fun p hp=>?_) h
  rcases Y4 hp with rfl|hp
  .have:=hr r (by simp)
   exact⟨this.ver,⟨this.nx,uq hc2,this.key⟩⟩
  exact h2 p hp
theorem ml{l:List Rw}{L:Shf}(hr:∀r∈l,RwG r)(h:aL l=some L):cR L:=by
 refine⟨BG (fun r hr'=>(hr r hr').lab) h,?_⟩;unfold aL at h
 split at h
 .cases h
 exact mn hr (fun p hp=>by cases hp) h
theorem oD{g:r5}{G:Got}(h:g.abs=G)(h1:U64 G.ver)(h2:Q5 G.r):InG g:=by
 subst h;refine⟨h2.nx,h1,?_,fun i hi=>?_⟩
 .have:=h2.few
  have e:g.x.r.abs.items.length=g.x.r.n:=i6 _ _
  show g.x.r.n<=maxLen
  have h3:g.x.r.abs.items.length<=16:=this;have:maxLen=9223372036854775807:=rfl;omega
 exact h2.key _ (List.mem_map.2 ⟨i,List.mem_range.2 hi,rfl⟩)
theorem LOk.wf{l:Lab}(h:LOk l):o9 l:=by
 obtain⟨h1,h2,_⟩:=z8 h.isl;have hb:=h.u;unfold U64 at hb
 constructor
 .simp [Lit.wf,IntKind.min,IntKind.max,IntKind.signed,IntKind.bits];omega
 simp[Lit.wf,IntKind.min,IntKind.max,IntKind.signed,IntKind.bits];omega
def F1(G:Got):r5:=⟨G.code,G.ver,G.has,⟨none,0,G.r.rn⟩⟩
abbrev ay(gs:List Got):Nat->r5:=fun j=>F1 (gs.getD j G4)
abbrev dM:=Nat->(Nat->r5)->Wq×Int
def ErN(N:dM):Prop:=∀n f,N n f=N n (fun j=>(f j).er)
def lJ(gs:List Got)(f:Nat->r5):Prop:=∀j,(f j).er=F1 (gs.getD j G4)
theorem lJ.nil:lJ [] (fun _=>F1 G4):=fun _=>rfl
theorem lJ.next{N:dM}(hN:ErN N){gs:List Got}{f:Nat->r5}(h:lJ gs f):N gs.length f=N gs.length (ay gs):=by
 rw[hN]
 congr 1
 funext j
 exact h j
theorem lJ.add{gs:List Got}{f:Nat->r5}(h:lJ gs f){g:r5}{G:Got}(hg:g.er=F1 G):lJ (gs ++ [G]) (fun j=>if j=gs.length then g else f j):=by
 intro j
 by_cases e:j=gs.length
 .simp only[if_pos e];rw[hg,e];congr 1;simp[List.getD]
 simp only[if_neg e];rw[h j];congr 1;simp only[List.getD_eq_getElem?_getD]
 by_cases hj:j<gs.length
 .rw [List.getElem?_append_left hj]
 rw[List.getElem?_eq_none (by omega),List.getElem?_eq_none (by simp;omega)]
def r8(w:Wq):Wnt:=⟨w.kind,w.lab,w.ver,w.r⟩
section
variable {N:dM} {most:Int} {n:Nat} {gs:List Got} {L:Shf} {k:Int} {w:Wq} {e:Int}
end
theorem yp(b:Bool)(r:Rs Rsl):dq b (r.er id)=dq b r:=by
 unfold dq;rw[AK]
structure GS(N:dM):Prop where
 er:ErN N
 ok:∀n f,(∀j,j<n->InG (f j))->td (N n f).1
inductive Tr(α : Type)where
 |ret (a:α)
 |dead
 |note (x:Nt) (t:Tr α)
 |ask (w:Wq) (f:r5->Tr α)
def Tr.bind{α β : Type}:Tr α->(α->Tr β)->Tr β
 | .ret a,f=>f a
 | .dead,_=>.dead
 | .note x t,f=>.note x (t.bind f)
 | .ask w g,f=>.ask w fun a=>(g a).bind f
def Tr.run{α : Type}(k:Int):Tr α->Pst->Rs α
 | .ret a,p=>.ok a p
 | .dead,p=>.stop zWq p
 | .note x t,p=>t.run k ⟨p.n,p.g,x⟩
 | .ask w f,p=>(M2 k w p).bind fun g p=>(f g).run k p
theorem Rs.assoc{α β γ : Type}(m:Rs α)(f:α->Pst->Rs β)(g:β->Pst->Rs γ):(m.bind f).bind g=m.bind fun a p=>(f a p).bind g:=by cases m<;>rfl
theorem run_bind{α β : Type}{k:Int}:∀(t:Tr α) (f:α->Tr β) (p:Pst),(t.bind f).run k p=(t.run k p).bind fun a q=>(f a).run k q
 | .ret a,f,p=>rfl
 | .dead,f,p=>rfl
 | .note x t,f,p=>run_bind t f _
 | .ask w g,f,p=>by
  show(M2 k w p).bind (fun a q=>((g a).bind f).run k q)=((M2 k w p).bind fun a q=>(g a).run k q).bind _
  rw[Rs.assoc]
  congr 1
  funext a q
  exact run_bind (g a) f q
section
variable {α β : Type} {k:Int} {p:Pst}
theorem rb{t:Tr α}{m:Rs α}{f:α->Tr β}{f':α->Pst->Rs β}(h:t.run k p=m)(hf:∀a q,(f a).run k q=f' a q):(t.bind f).run k p=m.bind f':=by
 subst h;rw[run_bind]
 congr 1
 funext a q
 exact hf a q
theorem ri{c:Prop} [Decidable c]{x y:Tr α}{x' y':Rs α}(hx:x.run k p=x')(hy:y.run k p=y'):(if c then x else y).run k p=if c then x' else y':=by
 by_cases h:c
 .rw [if_pos h,if_pos h];exact hx
 rw[if_neg h,if_neg h];exact hy
end
def sW(w:Wq):Tr r5:=.ask w .ret
def cO(l:Lab):Tr r5:=sW ⟨1,l,0,j3,Y0⟩
def lq(l:Lab)(v:Int)(r:Rec):Tr Bool:=(sW ⟨2,l,v,r,Y0⟩).bind fun g=>.ret (decide (g.code=0))
def zA(l:Lab)(v:Int):Tr Bool:=(sW ⟨3,l,v,j3,Y0⟩).bind fun g=>.ret (decide (g.code=0))
def jI(l:Lab)(v:Int)(c:Lab)(x:Rec):Nat->Tr Bool
 |0=>.dead
 |n+1=>(cO c).bind fun g=>if(g.has && !decide (g.x.r.kd=5))=true then .ret true else(cO l).bind fun q=>if q.ver=v then(lq c g.ver x).bind fun d=>if d=true then .ret true else jI l v c x n else .ret false
def jH(n:Nat)(l:Lab)(v:Int)(x:RA):Tr Unit:=
 if(N8 x l).2.2=0 then
  (jI l v (chV l 0) (N8 x l).1 n).bind fun go=>if go=true then(jI l v (chV l 1) (N8 x l).2.1 n).bind fun go=>if go=true then(lq l v dC).bind fun _=>.ret ()else .ret ()else .ret ()
 else .ret ()
def sE(l:Lab)(v:Int)(c:Lab):Nat->Tr Fz
 |0=>.dead
 |n+1=>(cO c).bind fun g=>if(gk g 1||gk g 5)=true then(if(gk g 5&&decide (g.x.r.mrk=v))=true then .ret (.fr g.x)else(cO l).bind fun q=>if q.ver=v then(lq c g.ver (asR 5 g.x v).r.abs).bind fun d=>if d=true then .ret (.fr (asR 5 g.x v))else sE l v c n else .ret .over)else .ret .unfit
def ne(l:Lab)(cl:Lab->Tr Unit)(c:Lab):Tr Bool:=
 (cO c).bind fun g=>if gk g 5=true then(cl c).bind fun _=>(cO l).bind fun q=>if(gk q 1||gk q 5)=true then(zA c g.ver).bind fun _=>.ret true else .ret false else .ret true
def sR:Nat->Lab->Tr Unit
 |0,_=>.dead
 |n+1,l=>if l.len=64 then .ret ()else(ne l (sR n) (chV l 0)).bind fun go=>if go=true then(ne l (sR n) (chV l 1)).bind fun _=>.ret ()else .ret ()
def sU(th:Lab->Tr Unit)(l:Lab)(v:Int):Tr Unit:=(lq l v dC).bind fun d=>if d=true then(th (chV l 0)).bind fun _=>th (chV l 1)else .ret ()
def yy(bk:Int)(n:Nat)(th:Lab->Tr Unit)(l:Lab)(v:Int):Tr Unit:=
 (sE l v (chV l 0) n).bind fun a=>match a with
  | .over=>.ret ()
  | .unfit=>sU th l v
  | .fr a=>(sE l v (chV l 1) n).bind fun b=>match b with
   | .over=>.ret ()
   | .unfit=>sU th l v
   | .fr b=>if(cK a b).2=0/\((cK a b).1.items.length:Int)<=bk then(lq l v (cK a b).1).bind fun d=>if d=true then sR n l else .ret ()else sU th l v
def ww(bk:Int)(n:Nat)(th:Lab->Tr Unit)(l:Lab)(g:r5):Tr Unit:=
 if gk g 3=true then jH n l g.ver g.x else if l.len<64 then yy bk n th l g.ver else .ret ()
def jC(bk:Int):Nat->Lab->Lab->Tr Unit
 |0,_,_=>.dead
 |n+1,l,up=>(cO l).bind fun g=>if gk g 5=true then(cO up).bind fun q=>
   (if(gk q 3||gk q 4)=true then ww bk n (fun c=>if aw c=0 then jC bk n c (V9 c)else .ret ()) up q else .ret ()).bind fun _=>
    if gk q 2=true then(lq l g.ver (asR 1 g.x 0).r.abs).bind fun d=>if d=true then .ret ()else jC bk n l up else .ret ()else .ret ()
def rA(bk:Int)(n:Nat)(l:Lab):Tr Unit:=if aw l=0 then jC bk n l (V9 l)else .ret ()
def wr(bk:Int)(n:Nat)(l:Lab)(g:r5):Tr Unit:=ww bk n (rA bk n) l g
def dx(bk key:Int):Nat->Lab->Tr Spt
 |0,_=>.dead
 |n+1,l=>(cO l).bind fun g=>
   if gk g 1=true then .ret ⟨l,g⟩
   else if(gk g 3||gk g 4)=true then(wr bk n l g).bind fun _=>dx bk key n l
   else if(gk g 2&&decide (l.len<64))=true then dx bk key n (ofV key (l.len+1))
   else if gk g 5=true then(rA bk n l).bind fun _=>dx bk key n B6
   else if(!g.has&&decide (l=B6))=true then(lq B6 g.ver kz).bind fun _=>dx bk key n B6
   else dx bk key n B6
def yJ(bk:Int)(n:Nat)(l:Lab):Tr Bool:=
 if aw l=0 then(cO (V9 l)).bind fun q=>if(gk q 2||gk q 3||gk q 4)=true then(rA bk n l).bind fun _=>.ret false else .ret true else .ret true
def iU(bk key:Int):Nat->Int->Int->Tr Spt
 |0,_,_=>.dead
 |n+1,lo,hi=>
   if lo<=hi then(cO (ofV key ((lo+hi) / 2))).bind fun g=>
    if gk g 1=true then .ret ⟨ofV key ((lo+hi) / 2),g⟩
    else if gk g 2=true then iU bk key n ((lo+hi) / 2+1) hi
    else if(gk g 3||gk g 4)=true then(wr bk n (ofV key ((lo+hi) / 2)) g).bind fun _=>iU bk key n lo hi
    else if gk g 5=true then(yJ bk n (ofV key ((lo+hi) / 2))).bind fun b=>if b=true then iU bk key n lo ((lo+hi) / 2-1)else iU bk key n lo hi
    else iU bk key n lo ((lo+hi) / 2-1)
   else dx bk key (n+1) B6
def xy(bk how key:Int)(n:Nat):Tr Spt:=if how=1 then dx bk key n B6 else iU bk key n 0 64
section
variable {k bk key:Int}
theorem nT(w:Wq)(p:Pst):(sW w).run k p=M2 k w p:=by
 show(M2 k w p).bind (fun g p=>.ok g p)=_
 cases M2 k w p<;>rfl
theorem P5(l:Lab)(p:Pst):(cO l).run k p=N0 k l p:=nT _ _
theorem bO(l:Lab)(v:Int)(r:Rec)(p:Pst):(lq l v r).run k p=aN k l v r p:=rb (nT _ _) fun _ _=>rfl
theorem Be(l:Lab)(v:Int)(p:Pst):(zA l v).run k p=lS k l v p:=rb (nT _ _) fun _ _=>rfl
theorem jQ(l:Lab)(v:Int)(c:Lab)(x:Rec):∀n p,(jI l v c x n).run k p=I8 k l v c x n p
 |0,p=>rfl
 |n+1,p=>rb (P5 _ _) fun _ _=>ri rfl (rb (P5 _ _) fun _ _=>ri (rb (bO _ _ _ _) fun _ _=>ri rfl (jQ l v c x n _)) rfl)
theorem vt(n:Nat)(l:Lab)(v:Int)(x:RA)(p:Pst):(jH n l v x).run k p=C2 k n l v x p:=
 ri (rb (jQ _ _ _ _ _ _) fun _ _=>ri (rb (jQ _ _ _ _ _ _) fun _ _=>ri (rb (bO _ _ _ _) fun _ _=>rfl) rfl) rfl) rfl
theorem nP(l:Lab)(v:Int)(c:Lab):∀n p,(sE l v c n).run k p=ap k l v c n p
 |0,p=>rfl
 |n+1,p=>rb (P5 _ _) fun _ _=>ri (ri rfl (rb (P5 _ _) fun _ _=>ri (rb (bO _ _ _ _) fun _ _=>ri rfl (nP l v c n _)) rfl)) rfl
theorem pK(l:Lab){cl:Lab->Tr Unit}{cl':Lab->Pst->Rs Unit}(h:∀c p,(cl c).run k p=cl' c p)(c:Lab)(p:Pst):(ne l cl c).run k p=T0 k l cl' c p:=
 rb (P5 _ _) fun _ _=>ri (rb (h _ _) fun _ _=>rb (P5 _ _) fun _ _=>ri (rb (Be _ _ _) fun _ _=>rfl) rfl) rfl
theorem nQ:∀n l p,(sR n l).run k p=P0 k n l p
 |0,l,p=>rfl
 |n+1,l,p=>ri rfl (rb (pK _ (nQ n) _ _) fun _ _=>ri (rb (pK _ (nQ n) _ _) fun _ _=>rfl) rfl)
theorem nS{th:Lab->Tr Unit}{th':Lab->Pst->Rs Unit}(h:∀c p,(th c).run k p=th' c p)(l:Lab)(v:Int)(p:Pst):(sU th l v).run k p=eu k th' l v p:=
 rb (bO _ _ _ _) fun _ _=>ri (rb (h _ _) fun _ _=>h _ _) rfl
theorem Bc(n:Nat){th:Lab->Tr Unit}{th':Lab->Pst->Rs Unit}(h:∀c p,(th c).run k p=th' c p)(l:Lab)(v:Int)(p:Pst):(yy bk n th l v).run k p=Z8 bk k n th' l v p:=
 rb (nP _ _ _ _ _) fun a _=>match a with
  | .over=>rfl
  | .unfit=>nS h _ _ _
  | .fr a=>rb (nP _ _ _ _ _) fun b _=>match b with
   | .over=>rfl
   | .unfit=>nS h _ _ _
   | .fr b=>ri (rb (bO _ _ _ _) fun _ _=>ri (nQ _ _ _) rfl) (nS h _ _ _)
theorem tE(n:Nat){th:Lab->Tr Unit}{th':Lab->Pst->Rs Unit}(h:∀c p,(th c).run k p=th' c p)(l:Lab)(g:r5)(p:Pst):(ww bk n th l g).run k p=gW bk k n th' l g p:=
 ri (vt _ _ _ _ _) (ri (Bc _ h _ _ _) rfl)
theorem jP:∀n l up p,(jC bk n l up).run k p=cU bk k n l up p
 |0,l,up,p=>rfl
 |n+1,l,up,p=>rb (P5 _ _) fun _ _=>ri (rb (P5 _ _) fun _ _=>rb (ri (tE _ (fun c p=>ri (jP n _ _ _) rfl) _ _ _) rfl) fun _ _=>ri (rb (bO _ _ _ _) fun _ _=>ri rfl (jP n _ _ _)) rfl) rfl
theorem nO(n:Nat)(l:Lab)(p:Pst):(rA bk n l).run k p=T3 bk k n l p:=ri (jP _ _ _ _) rfl
theorem tD(n:Nat)(l:Lab)(g:r5)(p:Pst):(wr bk n l g).run k p=cP bk k n l g p:=tE _ (nO n) _ _ _
theorem Y2:∀n l p,(dx bk key n l).run k p=L5 bk k key n l p
 |0,l,p=>rfl
 |n+1,l,p=>rb (P5 _ _) fun _ _=>ri rfl (ri (rb (tD _ _ _ _) fun _ _=>Y2 n _ _) (ri (Y2 n _ _) (ri (rb (nO _ _ _) fun _ _=>Y2 n _ _) (ri (rb (bO _ _ _ _) fun _ _=>Y2 n _ _) (Y2 n _ _)))))
theorem Bd(n:Nat)(l:Lab)(p:Pst):(yJ bk n l).run k p=eX bk k n l p:=
 ri (rb (P5 _ _) fun _ _=>ri (rb (nO _ _ _) fun _ _=>rfl) rfl) rfl
theorem dS:∀n lo hi p,(iU bk key n lo hi).run k p=Q0 bk k key n lo hi p
 |0,lo,hi,p=>rfl
 |n+1,lo,hi,p=>ri (rb (P5 _ _) fun _ _=>ri rfl (ri (dS n _ _ _) (ri (rb (tD _ _ _ _) fun _ _=>dS n _ _ _) (ri (rb (Bd _ _ _) fun _ _=>ri (dS n _ _ _) (dS n _ _ _)) (dS n _ _ _))))) (Y2 _ _ _)
theorem Ba(how:Int)(n:Nat)(p:Pst):(xy bk how key n).run k p=jN bk k how key n p:=ri (Y2 _ _ _) (dS _ _ _ _)
end
inductive App{α : Type}:Nat->Tr α->Tr α->Prop
 |zero {t t':Tr α}:App 0 t t'
 |ret {d:Nat} (a:α):App d (.ret a) (.ret a)
 |note {d:Nat} {x:Nt} {t t':Tr α} (h:App d t t'):App d (.note x t) (.note x t')
 |ask {d:Nat} {w:Wq} {f f':r5->Tr α} (h:∀g,App d (f g) (f' g)):App (d+1) (.ask w f) (.ask w f')
section
variable {α β : Type} {d e:Nat}
theorem App.mono{t t':Tr α}(h:App d t t'):∀{e:Nat},e<=d->App e t t':=by
  induction h with
  | zero => intro e he; have:e=0:=by omega
            subst this;exact .zero
  |ret a=>intro e he;exact .ret a
  |note h ih=>intro e he;exact .note (ih he)
  |ask h ih=>
    intro e he
    cases e with
    |zero=>exact .zero
    |succ e=>exact .ask fun g=>ih g (by omega)
theorem App.bind{t t':Tr α}(h:App d t t'):∀{f f':α->Tr β},(∀a,App d (f a) (f' a))->App d (t.bind f) (t'.bind f'):=by
 induction h with
 |zero=>intro f f' hf;exact .zero
 |ret a=>intro f f' hf;exact hf a
 |note h ih=>intro f f' hf;exact .note (ih hf)
 |ask h ih=>intro f f' hf;exact .ask fun g=>ih g fun a=>(hf a).mono (by omega)
theorem o8{c:Prop} [Decidable c]{x y x' y':Tr α}(hx:App d x x')(hy:App d y y'):App d (if c then x else y) (if c then x' else y'):=by split<;>assumption
theorem Bg{k:Int}{t t':Tr α}(h:App d t t'):∀{p:Pst},p.n<d->t.run k p=t'.run k p:=by
 induction h with
 |zero=>intro p hp;omega
 |ret a=>intro p _;rfl
 |note h ih=>intro p hp;exact ih hp
 | @ask d w f f' h ih=>
  intro p hp
  show(M2 k w p).bind _=(M2 k w p).bind _
  unfold M2
  split
  .rename_i h0
   refine ih _ ?_
   show p.n-1<d
   omega
  rfl
end
theorem pa{d:Nat}(w:Wq):App d (sW w) (sW w):=by
 cases d with
 |zero=>exact .zero
 |succ d=>exact .ask fun g=>.ret g
theorem gG{d:Nat}(l:Lab):App d (cO l) (cO l):=pa _
theorem cA{d:Nat}(l:Lab)(v:Int)(r:Rec):App d (lq l v r) (lq l v r):=(pa _).bind fun _=>.ret _
theorem CX{d:Nat}(l:Lab)(v:Int):App d (zA l v) (zA l v):=(pa _).bind fun _=>.ret _
theorem bD{α : Type}{d:Nat}{l:Lab}{f f':r5->Tr α}(h:∀g,App d (f g) (f' g)):App (d+1) ((cO l).bind f) ((cO l).bind f'):=.ask h
section
variable {bk key:Int}
theorem lC(l:Lab)(v:Int)(c:Lab)(x:Rec):∀{d n n':Nat},d<=n->d<=n'->App d (jI l v c x n) (jI l v c x n')
 |0,_,_,_,_=>.zero
 |d+1,n+1,n'+1,h,h'=>bD fun _=>o8 (.ret _) ((gG _).bind fun _=>o8 ((cA _ _ _).bind fun _=>o8 (.ret _) (lC l v c x (by omega) (by omega))) (.ret _))
theorem wU{d n n':Nat}(l:Lab)(v:Int)(x:RA)(h:d<=n)(h':d<=n'):App d (jH n l v x) (jH n' l v x):=
 o8 ((lC _ _ _ _ h h').bind fun _=>o8 ((lC _ _ _ _ h h').bind fun _=>o8 ((cA _ _ _).bind fun _=>.ret _) (.ret _)) (.ret _)) (.ret _)
theorem oX(l:Lab)(v:Int)(c:Lab):∀{d n n':Nat},d<=n->d<=n'->App d (sE l v c n) (sE l v c n')
 |0,_,_,_,_=>.zero
 |d+1,n+1,n'+1,h,h'=>bD fun _=>o8 (o8 (.ret _) ((gG _).bind fun _=>o8 ((cA _ _ _).bind fun _=>o8 (.ret _) (oX l v c (by omega) (by omega))) (.ret _))) (.ret _)
theorem qW(l:Lab){d:Nat}{cl cl':Lab->Tr Unit}(h:∀c,App d (cl c) (cl' c))(c:Lab):App (d+1) (ne l cl c) (ne l cl' c):=
 bD fun _=>o8 ((h _).bind fun _=>(gG _).bind fun _=>o8 ((CX _ _).bind fun _=>.ret _) (.ret _)) (.ret _)
theorem oY:∀{d n n':Nat} (l:Lab),d<=n->d<=n'->App d (sR n l) (sR n' l)
 |0,_,_,_,_,_=>.zero
 |d+1,n+1,n'+1,l,h,h'=>o8 (.ret _) ((qW _ (fun c=>oY c (by omega) (by omega)) _).bind fun _=>o8 ((qW _ (fun c=>oY c (by omega) (by omega)) _).bind fun _=>.ret _) (.ret _))
theorem oZ{d:Nat}{th th':Lab->Tr Unit}(h:∀c,App d (th c) (th' c))(l:Lab)(v:Int):App d (sU th l v) (sU th' l v):=
 (cA _ _ _).bind fun _=>o8 ((h _).bind fun _=>h _) (.ret _)
theorem CU{d n n':Nat}{th th':Lab->Tr Unit}(hn:d<=n)(hn':d<=n')(h:∀c,App d (th c) (th' c))(l:Lab)(v:Int):App d (yy bk n th l v) (yy bk n' th' l v):=
 (oX _ _ _ hn hn').bind fun a=>match a with
  | .over=>.ret _
  | .unfit=>oZ h _ _
  | .fr a=>(oX _ _ _ hn hn').bind fun b=>match b with
   | .over=>.ret _
   | .unfit=>oZ h _ _
   | .fr b=>o8 ((cA _ _ _).bind fun _=>o8 (oY _ hn hn') (.ret _)) (oZ h _ _)
theorem uU{d n n':Nat}{th th':Lab->Tr Unit}(hn:d<=n)(hn':d<=n')(h:∀c,App d (th c) (th' c))(l:Lab)(g:r5):App d (ww bk n th l g) (ww bk n' th' l g):=
 o8 (wU _ _ _ hn hn') (o8 (CU hn hn' h _ _) (.ret _))
theorem lB:∀{d n n':Nat} (l up:Lab),d<=n->d<=n'->App d (jC bk n l up) (jC bk n' l up)
 |0,_,_,_,_,_,_=>.zero
 |d+1,n+1,n'+1,l,up,h,h'=>bD fun _=>o8 ((gG _).bind fun _=>(o8 (uU (by omega) (by omega) (fun c=>o8 (lB _ _ (by omega) (by omega)) (.ret _)) _ _) (.ret _)).bind fun _=>o8 ((cA _ _ _).bind fun _=>o8 (.ret _) (lB _ _ (by omega) (by omega))) (.ret _)) (.ret _)
theorem oW{d n n':Nat}(l:Lab)(h:d<=n)(h':d<=n'):App d (rA bk n l) (rA bk n' l):=o8 (lB _ _ h h') (.ret _)
theorem uT{d n n':Nat}(l:Lab)(g:r5)(h:d<=n)(h':d<=n'):App d (wr bk n l g) (wr bk n' l g):=uU h h' (fun c=>oW c h h') _ _
theorem gF:∀{d n n':Nat} (l:Lab),d<=n->d<=n'->App d (dx bk key n l) (dx bk key n' l)
 |0,_,_,_,_,_=>.zero
 |d+1,n+1,n'+1,l,h,h'=>by
  have H:∀l,App d (dx bk key n l) (dx bk key n' l):=fun l=>gF l (by omega) (by omega)
  exact bD fun _=>o8 (.ret _) (o8 ((uT _ _ (by omega) (by omega)).bind fun _=>H _) (o8 (H _) (o8 ((oW _ (by omega) (by omega)).bind fun _=>H _) (o8 ((cA _ _ _).bind fun _=>H _) (H _)))))
theorem CW{d n n':Nat}(l:Lab)(h:d<=n)(h':d<=n'):App d (yJ bk n l) (yJ bk n' l):=
 o8 ((gG _).bind fun _=>o8 ((oW _ h h').bind fun _=>.ret _) (.ret _)) (.ret _)
theorem uV:∀{d n n':Nat} (lo hi:Int),d<=n->d<=n'->App d (iU bk key n lo hi) (iU bk key n' lo hi)
 |0,_,_,_,_,_,_=>.zero
 |d+1,n+1,n'+1,lo,hi,h,h'=>by
  have H:∀lo hi,App d (iU bk key n lo hi) (iU bk key n' lo hi):=fun lo hi=>uV lo hi (by omega) (by omega)
  exact o8 (bD fun _=>o8 (.ret _) (o8 (H _ _) (o8 ((uT _ _ (by omega) (by omega)).bind fun _=>H _ _) (o8 ((CW _ (by omega) (by omega)).bind fun _=>o8 (H _ _) (H _ _)) (H _ _))))) (gF _ h h')
theorem CQ{d n n':Nat}(how:Int)(h:d<=n)(h':d<=n'):App d (xy bk how key n) (xy bk how key n'):=o8 (gF _ h h') (uV _ _ h h')
end
def Tr.All{α : Type}(A:r5->Prop)(W:Wq->Prop)(X:Nt->Prop)(Q:α->Prop):Tr α->Prop
 | .ret a=>Q a
 | .dead=>True
 | .note x t=>X x/\t.All A W X Q
 | .ask w f=>W w/\∀g,A g->(f g).All A W X Q
section
variable {α β : Type} {A:r5->Prop} {W:Wq->Prop} {X:Nt->Prop}
theorem k9{Q:α->Prop}{R:β->Prop}:∀{t:Tr α} {f:α->Tr β},t.All A W X Q->(∀a,Q a->(f a).All A W X R)->(t.bind f).All A W X R
 | .ret a,f,h,hf=>hf a h
 | .dead,f,h,hf=>trivial
 | .note x t,f,h,hf=>⟨h.1,k9 (t:=t) h.2 hf⟩
 | .ask w g,f,h,hf=>⟨h.1,fun a ha=>k9 (t:=g a) (h.2 a ha) hf⟩
theorem o6{Q:α->Prop}{c:Prop} [Decidable c]{x y:Tr α}(hx:c->x.All A W X Q)(hy:¬c->y.All A W X Q):(if c then x else y).All A W X Q:=by
 by_cases h:c
 .rw [if_pos h];exact hx h
 rw[if_neg h];exact hy h
theorem pj{w:Wq}(h:W w):(sW w).All A W X A:=⟨h,fun _ h=>h⟩
end
def ntR(x:Nt):Rsl:=⟨x.code,x.had,x.val,[],0,false⟩
def Tr.feed{α : Type}:Tr α->Nt->List Got->Option (Tr α×Nt)
 | .note y t,_,gs=>t.feed y gs
 | .ret a,x,[]=>some (.ret a,x)
 | .ret _,_,_::_=>none
 | .dead,x,[]=>some (.dead,x)
 | .dead,_,_::_=>none
 | .ask w f,x,[]=>some (.ask w f,x)
 | .ask w f,x,g::gs=>(f (F1 g)).feed x gs
def Tr.noNote{α : Type}:Tr α->Prop
 | .note _ _=>False
 |_=>True
theorem gj{α : Type}{w:Wq}{f:r5->Tr α}{y:Nt}{g:Got}:∀(t:Tr α) (x:Nt) (gs:List Got),t.feed x gs=some (.ask w f,y)->t.feed x (gs ++ [g])=(f (F1 g)).feed y []
 | .note z t,x,gs,h=>by
  show t.feed z (gs ++ [g])=_
  exact gj t z gs (by simpa[Tr.feed]using h)
 | .ret a,x,[],h=>by simp[Tr.feed]at h
 | .ret a,x,_::_,h=>by simp[Tr.feed]at h
 | .dead,x,[],h=>by simp[Tr.feed]at h
 | .dead,x,_::_,h=>by simp[Tr.feed]at h
 | .ask w' f',x,[],h=>by
  simp only[Tr.feed,Option.some.injEq,Prod.mk.injEq,Tr.ask.injEq]at h;obtain⟨⟨h1,h2⟩,h3⟩:=h;subst h1;subst h2;subst h3;rfl
 | .ask w' f',x,g'::gs,h=>by
  show(f' (F1 g')).feed x (gs ++ [g])=_
  exact gj _ x gs (by simpa[Tr.feed]using h)
theorem kS{α : Type}{A:r5->Prop}{W:Wq->Prop}{X:Nt->Prop}{Q:α->Prop}:∀(t:Tr α) (x:Nt),∃t' x',t.feed x []=some (t',x')/\t'.noNote/\(∀d,App d t t->App d t' t')/\(t.All A W X Q->t'.All A W X Q)
 | .note z t,x=>by
  obtain⟨t',x',h1,h2,h3,h4⟩:=kS t z;refine⟨t',x',by simpa[Tr.feed]using h1,h2,fun d hd=>h3 d ?_,fun h=>h4 h.2⟩
  cases hd with
  |zero=>exact .zero
  |note h=>exact h
 | .ret a,x=>⟨.ret a,x,by simp[Tr.feed],trivial,fun _ h=>h,fun h=>h⟩
 | .dead,x=>⟨.dead,x,by simp[Tr.feed],trivial,fun _ h=>h,fun h=>h⟩
 | .ask w f,x=>⟨.ask w f,x,by simp[Tr.feed],trivial,fun _ h=>h,fun h=>h⟩
theorem jS{α : Type}{k:Int}(hk:0<=k){t':Tr α}{x':Nt}:∀(t:Tr α) (x:Nt) (gs:List Got),t.feed x gs=some (t',x')->∀p:Pst,p.n=gs.length->(∀j,j<gs.length->p.g j=F1 (gs.getD j G4))->p.note=x->∃q:Pst,q.n=0/\q.note=x'/\t.run k p=t'.run k q
 | .note z t,x,gs,h,p,hn,hg,hx=>jS hk t z gs (by simpa[Tr.feed]using h) ⟨p.n,p.g,z⟩ hn hg rfl
 | .ret a,x,[],h,p,hn,hg,hx=>by simp[Tr.feed]at h;obtain⟨rfl,rfl⟩:=h;exact⟨p,hn,hx,rfl⟩
 | .ret a,x,_::_,h,p,hn,hg,hx=>by simp[Tr.feed]at h
 | .dead,x,[],h,p,hn,hg,hx=>by simp[Tr.feed]at h;obtain⟨rfl,rfl⟩:=h;exact⟨p,hn,hx,rfl⟩
 | .dead,x,_::_,h,p,hn,hg,hx=>by simp[Tr.feed]at h
 | .ask w f,x,[],h,p,hn,hg,hx=>by simp[Tr.feed]at h;obtain⟨rfl,rfl⟩:=h;exact⟨p,hn,hx,rfl⟩
 | .ask w f,x,g::gs,h,p,hn,hg,hx=>by
  have hn2:p.n=gs.length+1:=hn;have h0:p.g 0=F1 g:=hg 0 (by simp);obtain⟨q,h1,h2,h3⟩:=jS hk (f (F1 g)) x gs (by simpa[Tr.feed]using h) p.tl (by show p.n-1=_;omega) (fun j hj=>by show p.g (j+1)=_;rw[hg (j+1) (by simp;omega)];rfl) hx
  refine⟨q,h1,h2,?_⟩;rw[<-h3]
  show(M2 k w p).bind _=_
  unfold M2;rw[if_pos ⟨by omega,by omega⟩]
  show(f (p.g 0)).run k p.tl=_
  rw[h0]
structure TrN(N:dM)(b:Int)(T:Nat->Tr Rsl):Prop where
 nxt:∀n f,Q1 n f=true->N n f=K6 ((T (n+1)).run (b-n) (nY n f))
 app:∀{d n n':Nat},d<=n->d<=n'->App d (T n) (T n')
section
variable {N:dM} {b:Int} {T:Nat->Tr Rsl} {most:Int} {A:r5->Prop} {W:Wq->Prop} {X:Nt->Prop} {Q:Rsl->Prop} {R:Shf->Prop}
theorem oh(hN:TrN N b T){m:Nat}{gs:List Got}{t:Tr Rsl}{x:Nt}(hf:(T m).feed nt0 gs=some (t,x))(hg:∀j,j<gs.length->D8 (F1 (gs.getD j G4))=true)(hb:(gs.length:Int)<=b)(hm:gs.length<m):∃q:Pst,q.n=0/\q.note=x/\N gs.length (ay gs)=K6 (t.run (b-gs.length) q):=by
 have h1:=hN.nxt gs.length (ay gs) (lF hg);obtain⟨q,h2,h3,h4⟩:=jS (k:=b-gs.length) (by omega) (T m) nt0 gs hf (nY gs.length (ay gs)) rfl (fun j hj=>rfl) rfl;refine⟨q,h2,h3,?_⟩;rw[h1,<-h4]
 congr 1
 exact Bg (hN.app (d:=gs.length+1) (Nat.le_refl _) (by omega)) (by show gs.length<_;omega)
theorem pt{a:Rsl}{q:Pst}(h:q.n=0):K6 (.ok a q)=(⟨4,⟨0,0⟩,0,j3,a⟩,0):=by
 unfold K6;dsimp only;rw[if_neg (by omega)]
theorem mc{w:Wq}{q:Pst}(h:q.n=0):K6 (.stop w q)=(w,0):=by
 unfold K6;dsimp only;rw[if_neg (by omega)]
theorem qU{k:Int}{w:Wq}{q:Pst}{f:r5->Tr Rsl}(h:q.n=0):(Tr.ask w f).run k q = .stop (if k<=0 then yc q else w) q:=by
 show(M2 k w q).bind _=_
 unfold M2;rw[if_neg (by omega),h];simp only[Int.natCast_zero,Int.zero_add];rfl
end
theorem pP{l:List Itm}(hs:Srt l)(hv:∀x∈l,x.val.size<=64):okF (itF l) l.length=true:=by
 unfold okF;rw[List.all_eq_true];intro i hi;have hi:=List.mem_range.1 hi;have e:∀t (h:t<l.length),itF l t=l[t]:=fun t h=>by simp[itF,List.getD,h]
 unfold eo;rw[e i hi]
 cases i with
 |zero=>simpa using hv _ (List.getElem_mem hi)
 |succ i=>
  have h2:l[i].key<l[i+1].key:=(List.pairwise_iff_getElem.1 hs) i (i+1) (by omega) hi (by omega);simp;refine⟨hv _ (List.getElem_mem hi),?_⟩;rw[e i (by omega)];exact h2
theorem tI{kd:Int}{n:Nat}{f:Nat->Itm}{nx:Lab}{mk:Int}(hok:okF f n=true)(hn:n<=16)(hx:nx=D6 \/ isL nx=true)(hk:(kd=1/\mk=0) \/ kd=5):N7 kd n f nx mk=true:=by
 unfold N7 lN P1
 rcases hk with⟨rfl,rfl⟩|rfl
 .rcases hx with hx|hx<;>simp[hok,hn,hx]
 rcases hx with hx|hx<;>simp[hok,hn,hx]
theorem cZ{f:Nat->Itm}{n:Nat}(h:okF f n=true):∀x∈d4 f n,x.val.size<=64:=by
 intro x hx;obtain⟨i,hi,rfl⟩:=List.mem_map.1 hx;have:=yj (List.mem_range.1 hi) h;unfold eo at this;simp only[Bool.and_eq_true,decide_eq_true_eq]at this;exact this.1
theorem tM:isR dC=true:=by decide
theorem Fg:isR kz=true:=by decide
theorem Eh{g:r5}{k:Int}(h:gk g k=true):g.has=true/\g.x.r.kd=k:=by
 unfold gk at h;simp only[Bool.and_eq_true,decide_eq_true_eq]at h;exact h
theorem Fh{g:r5}(h:xb g){kd mk k:Int}(hg:gk g k=true)(hk:(kd=1/\mk=0) \/ kd=5):isR (asR kd g.x mk).r.abs=true:=by
 rw[ea];obtain⟨_,_,h3,h4,h5⟩:=M8 (h.rf (Eh hg).1);exact tI h5 h3 h4 hk
theorem yY{x:RA}{l:Lab}(hl:LOk l)(h:(N8 x l).2.2=0):isR (N8 x l).1=true/\isR (N8 x l).2.1=true:=by
 unfold N8 R4 at h ⊢
 split at h
 .cases h
 rename_i h1
 rw[if_neg h1]
 split at h
 .cases h
 rename_i h2
 rw[if_neg h2]
 split at h
 .cases h
 rename_i h3
 rw[if_neg h3];have h4:N7 x.r.kd x.r.n x.r.f x.r.nx x.r.mrk=true:=by
  simp only[Bool.not_eq_false,Bool.and_eq_true]at h1;exact h1.1.1
 obtain⟨_,_,k3,k4,k5⟩:=M8 h4;have hc:∀c,okF (itF (J2 c (d4 x.r.f x.r.n))) (J2 c (d4 x.r.f x.r.n)).length=true/\(J2 c (d4 x.r.f x.r.n)).length<=16:=fun c=>by
  refine⟨pP (List.Pairwise.filter _ (je k5)) fun y hy=>cZ k5 y (oM hy),Nat.le_trans (sQ _ _) ?_⟩;rw[i6];exact k3
 exact⟨tI (hc _).1 (hc _).2 (.inr (bB hl.isl hl.u h3 1)) (.inl ⟨rfl,rfl⟩),tI (hc _).1 (hc _).2 k4 (.inl ⟨rfl,rfl⟩)⟩
theorem GW{x y:RA}(h:(cK x y).2=0):isR (cK x y).1=true:=by
 unfold cK iI at h ⊢
 split at h
 .cases h
 rename_i h1
 rw[if_neg h1]
 split at h
 .cases h
 rename_i h2
 rw[if_neg h2]
 split at h
 .cases h
 rename_i h3
 rw[if_neg h3]
 split at h
 .cases h
 rename_i h4
 rw[if_neg h4];simp only[Bool.not_eq_false,Bool.and_eq_true]at h1;obtain⟨_,_,a3,a4,a5⟩:=M8 h1.1;obtain⟨_,_,b3,b4,b5⟩:=M8 h1.2;refine tI (pP ?_ fun z hz=>?_) ?_ b4 (.inl ⟨rfl,rfl⟩)
 .refine List.pairwise_append.2 ⟨je a5,je b5,fun u hu v hv=>?_⟩
  obtain⟨i,hi,rfl⟩:=List.mem_map.1 hu;obtain⟨j,hj,rfl⟩:=List.mem_map.1 hv;have hi:=List.mem_range.1 hi;have hj:=List.mem_range.1 hj;have h5:(x.r.f (x.r.n-1)).key<(y.r.f 0).key:=by
   unfold ovl at h2;simp only[Bool.and_eq_true,decide_eq_true_eq,not_and]at h2;have:=h2 (by omega) (by omega);omega
  have h6:(x.r.f i).key<=(x.r.f (x.r.n-1)).key:=by
   by_cases he:i=x.r.n-1
   .rw [he];exact Int.le_refl _
   exact Int.le_of_lt (jd a5 _ _ (by omega) (by omega))
  have h7:(y.r.f 0).key<=(y.r.f j).key:=by
   by_cases he:j=0
   .rw [he];exact Int.le_refl _
   exact Int.le_of_lt (jd b5 _ _ (by omega) (by omega))
  omega
 .rcases List.mem_append.1 hz with hz|hz
  .exact cZ a5 z hz
  exact cZ b5 z hz
 show(d4 x.r.f x.r.n++d4 y.r.f y.r.n).length<=16
 rw[List.length_append,i6,i6];omega
structure WqR(w:Wq):Prop where
 ok:td w
 kd:w.kind=1 \/ w.kind=2 \/ w.kind=3
 put:w.kind=2->isR w.r=true
def GA(g:r5):Prop:=eD g/\xb g
section
variable {X:Nt->Prop} {bk key:Int}
abbrev W6{α : Type}(X:Nt->Prop)(Q:α->Prop)(t:Tr α):Prop:=t.All GA WqR X Q
abbrev Any{α : Type}:α->Prop:=fun _=>True
theorem P7{l:Lab}(h:LOk l):W6 X GA (cO l):=pj ⟨⟨h,L9⟩,.inl rfl,fun h=>absurd h (by show ¬(1:Int)=2;decide)⟩
theorem cC{l:Lab}{v:Int}{r:Rec}(h:LOk l)(hr:Q5 r)(h2:isR r=true):W6 X Any (lq l v r):=k9 (pj (w:=⟨2,l,v,r,Y0⟩) ⟨⟨h,hr⟩,.inr (.inl rfl),fun _=>h2⟩) fun _ _=>trivial
theorem Dd{l:Lab}{v:Int}(h:LOk l):W6 X Any (zA l v):=k9 (pj (w:=⟨3,l,v,j3,Y0⟩) ⟨⟨h,L9⟩,.inr (.inr rfl),fun h=>absurd h (by show ¬(3:Int)=2;decide)⟩) fun _ _=>trivial
theorem lE{l:Lab}{v:Int}{c:Lab}{x:Rec}(hl:LOk l)(hc:LOk c)(hx:Q5 x)(hr:isR x=true):∀n,W6 X Any (jI l v c x n)
 |0=>trivial
 |n+1=>k9 (P7 hc) fun _ _=>o6 (fun _=>trivial) fun _=>k9 (P7 hl) fun _ _=>o6 (fun _=>k9 (cC hc hx hr) fun _ _=>o6 (fun _=>trivial) fun _=>lE hl hc hx hr n) fun _=>trivial
theorem wY{n:Nat}{l:Lab}{v:Int}{x:RA}(hl:LOk l)(hx:bF x):W6 X Any (jH n l v x):=
 o6 (fun h=>k9 (lE hl (hl.ch 0) (jl hx hl).1 (yY hl h).1 n) fun _ _=>o6 (fun _=>k9 (lE hl (hl.ch 1) (jl hx hl).2 (yY hl h).2 n) fun _ _=>o6 (fun _=>k9 (cC hl nW tM) fun _ _=>trivial) fun _=>trivial) fun _=>trivial) fun _=>trivial
def JM:Fz->Prop
 | .fr x=>bF x
 |_=>True
theorem pg{l:Lab}{v:Int}{c:Lab}(hl:LOk l)(hc:LOk c):∀n,W6 X JM (sE l v c n)
 |0=>trivial
 |n+1=>k9 (P7 hc) fun g hg=>o6 (fun hk=>o6 (fun _=>hg.1.ra) fun _=>k9 (P7 hl) fun _ _=>o6 (fun _=>k9 (cC hc (hg.1.ra.as 5 v).ro (by
   rcases Bool.or_eq_true _ _ ▸ hk with h|h
   .exact Fh hg.2 h (.inr rfl)
   exact Fh hg.2 h (.inr rfl))) fun _ _=>o6 (fun _=>hg.1.ra.as 5 v) fun _=>pg hl hc n) fun _=>trivial) fun _=>trivial
theorem qY{l:Lab}{cl:Lab->Tr Unit}{c:Lab}(hl:LOk l)(hc:LOk c)(h:∀c,LOk c->W6 X Any (cl c)):W6 X Any (ne l cl c):=
 k9 (P7 hc) fun _ _=>o6 (fun _=>k9 (h c hc) fun _ _=>k9 (P7 hl) fun _ _=>o6 (fun _=>k9 (Dd hc) fun _ _=>trivial) fun _=>trivial) fun _=>trivial
theorem ph:∀(n:Nat) (l:Lab),LOk l->W6 X Any (sR n l)
 |0,l,_=>trivial
 |n+1,l,hl=>o6 (fun _=>trivial) fun _=>k9 (qY hl (hl.ch 0) fun c hc=>ph n c hc) fun _ _=>o6 (fun _=>k9 (qY hl (hl.ch 1) fun c hc=>ph n c hc) fun _ _=>trivial) fun _=>trivial
theorem pi{th:Lab->Tr Unit}{l:Lab}{v:Int}(hl:LOk l)(h:∀c,LOk c->W6 X Any (th c)):W6 X Any (sU th l v):=
 k9 (cC hl nW tM) fun _ _=>o6 (fun _=>k9 (h _ (hl.ch 0)) fun _ _=>h _ (hl.ch 1)) fun _=>trivial
theorem Db{n:Nat}{th:Lab->Tr Unit}{l:Lab}{v:Int}(hl:LOk l)(h:∀c,LOk c->W6 X Any (th c)):W6 X Any (yy bk n th l v):=
 k9 (pg hl (hl.ch 0) n) fun a ha=>match a,ha with
  | .over,_=>trivial
  | .unfit,_=>pi hl h
  | .fr a,ha=>k9 (pg hl (hl.ch 1) n) fun b hb=>match b,hb with
   | .over,_=>trivial
   | .unfit,_=>pi hl h
   | .fr b,hb=>o6 (fun hu=>k9 (cC hl (xi ha hb) (GW hu.1)) fun _ _=>o6 (fun _=>ph n l hl) fun _=>trivial) fun _=>pi hl h
theorem va{n:Nat}{th:Lab->Tr Unit}{l:Lab}{g:r5}(hl:LOk l)(hg:GA g)(h:∀c,LOk c->W6 X Any (th c)):W6 X Any (ww bk n th l g):=
 o6 (fun _=>wY hl hg.1.ra) fun _=>o6 (fun _=>Db hl h) fun _=>trivial
theorem lD:∀(n:Nat) (l up:Lab),LOk l->LOk up->W6 X Any (jC bk n l up)
 |0,l,up,_,_=>trivial
 |n+1,l,up,hl,hu=>k9 (P7 hl) fun g hg=>o6 (fun hk=>k9 (P7 hu) fun q hq=>k9 (Q:=Any) (o6 (fun _=>va hu hq fun c hc=>o6 (fun _=>lD n c (V9 c) hc hc.par) fun _=>trivial) fun _=>trivial) fun _ _=>o6 (fun _=>k9 (cC hl (hg.1.ra.as 1 0).ro (Fh hg.2 hk (.inl ⟨rfl,rfl⟩))) fun _ _=>o6 (fun _=>trivial) fun _=>lD n l up hl hu) fun _=>trivial) fun _=>trivial
theorem pd{n:Nat}{l:Lab}(hl:LOk l):W6 X Any (rA bk n l):=o6 (fun _=>lD n l _ hl hl.par) fun _=>trivial
theorem uZ{n:Nat}{l:Lab}{g:r5}(hl:LOk l)(hg:GA g):W6 X Any (wr bk n l g):=va hl hg fun _ hc=>pd hc
theorem ol{key:Int}(hk:U64 key)(n:Int):LOk (ofV key n):=⟨dV _,qa hk _⟩
theorem Dc{n:Nat}{l:Lab}(hl:LOk l):W6 X Any (yJ bk n l):=
 o6 (fun _=>k9 (P7 hl.par) fun _ _=>o6 (fun _=>k9 (pd hl) fun _ _=>trivial) fun _=>trivial) fun _=>trivial
end
def Am(p:Lab×Spo):Prop:=(p.2.has=true->isR p.2.r=true)/\(p.2.has=false->p.2.r=j3)
structure lH(L:Shf):Prop where
 good:cR L
 sp:∀p∈L,Am p
theorem zi{L:Shf}(h:∀p∈L,Am p)(l:Lab):((u9 L l).has=true->isR (u9 L l).r=true)/\((u9 L l).has=false->(u9 L l).r=j3):=by
 unfold u9
 cases e:B2 l L with
 |none=>exact⟨fun h=>(by cases h),fun _=>rfl⟩
 |some x=>
  obtain⟨p,hp,rfl⟩:=gV e;exact h p hp
theorem kg:∀{l:List Rw} {L L':Shf},(∀p∈L,Am p)->cM l L=some L'->∀p∈L',Am p
 | [],L,L',h2,h=>by
  simp only[cM,Option.some.injEq]at h;subst h;exact h2
 |r::l,L,L',h2,h=>by
  unfold cM at h
  split at h
  .cases h
  rename_i hc
  have hc2:isR r.r=true:=by
   simp only[Bool.or_eq_true,Bool.not_eq_true',not_or]at hc
   simpa using hc.2
  refine kg (fun p hp=>?_) h
  rcases Y4 hp with rfl|hp
  .exact ⟨fun _=>hc2,fun h=>(by cases h)⟩
  exact h2 p hp
theorem rV{l:List Rw}{L:Shf}(hr:∀r∈l,RwG r)(h:aL l=some L):lH L:=by
 refine⟨ml hr h,?_⟩;unfold aL at h
 split at h
 .cases h
 exact kg (fun p hp=>by cases hp) h
theorem jm{G:Got}(hc:G.code=0 \/ G.code=8)(h:(G.has=true->isR G.r=true)/\(G.has=false->G.r=j3)):D8 (F1 G)=true:=by
 unfold D8 F1;simp only[Bool.and_eq_true,Bool.or_eq_true,decide_eq_true_eq];refine⟨hc,?_⟩
 by_cases hh:G.has=true
 .rw [if_pos hh]
  have:=h.1 hh;rw[<-Z4 G.r,ea]at this;exact this
 rw[if_neg hh,h.2 (by simpa using hh)];rfl
theorem zC{L:Shf}(hL:lH L){w:Wq}(hw:WqR w) :
  ((L.length:Int)<2000->(doL L (r8 w)).err=0)/\(doL L (r8 w)).L.length<=L.length+1/\lH (doL L (r8 w)).L/\D8 (F1 (doL L (r8 w)).got)=true/\GA (F1 (doL L (r8 w)).got):=by
 obtain⟨hgd,hv,hr⟩:=bw hL.good (w:=r8 w) ⟨hw.ok.lab.wf,hw.ok.r.nx,hw.ok.r.key⟩;have hs:=zi hL.sp w.lab;have hcond:((r8 w).kind=1 \/ (r8 w).kind=2 \/ (r8 w).kind=3)/\isL (r8 w).lab=true/\((r8 w).kind=2->isR (r8 w).r=true):=⟨hw.kd,hw.ok.lab.isl,hw.put⟩;have H:((L.length:Int)<2000->(doL L (r8 w)).err=0)/\(doL L (r8 w)).L.length<=L.length+1/\(∀p∈(doL L (r8 w)).L,Am p)/\D8 (F1 (doL L (r8 w)).got)=true:=by
  unfold doL;rw[if_pos hcond]
  split
  .exact ⟨fun _=>rfl,Nat.le_succ _,hL.sp,jm (.inl rfl) hs⟩
  split
  .exact ⟨fun _=>rfl,Nat.le_succ _,hL.sp,jm (.inr rfl) ⟨fun h=>(by cases h),fun _=>rfl⟩⟩
  split
  .rename_i hfull
   exact⟨fun h=>by omega,Nat.le_succ _,hL.sp,jm (.inl rfl) ⟨fun h=>(by cases h),fun _=>rfl⟩⟩
  refine⟨fun _=>rfl,?_,fun p hp=>?_,jm (.inl rfl) ⟨fun h=>(by cases h),fun _=>rfl⟩⟩
  .show (Z5 _ _ L).length<=_
   rw[dU _ _ hL.good.ok.ris]
   split<;>omega
  rcases Y4 hp with rfl|hp
  .refine ⟨fun h=>?_,fun h=>?_⟩
   .have h2:(r8 w).kind=2:=of_decide_eq_true h
    show isR (if(r8 w).kind=2 then(r8 w).r else j3)=true
    rw[if_pos h2];exact hw.put h2
   have h2:¬(r8 w).kind=2:=of_decide_eq_false h
   show(if(r8 w).kind=2 then(r8 w).r else j3)=j3
   rw[if_neg h2]
  exact hL.sp p hp
 obtain⟨h1,h2,h3,h4⟩:=H;have hi:InG (F1 (doL L (r8 w)).got):=by
  refine oD (G:=(doL L (r8 w)).got) ?_ hv hr;unfold F1 r5.abs;simp only[Z4]
 exact⟨h1,h2,⟨hgd,h3⟩,h4,yZ hi h4,Eg h4⟩
theorem yk{key m:Int}(h0:0<=m)(h1:m<=64):s4 (ofV key m) key=true:=by
 unfold s4;rw[dV,Bool.true_and];unfold ofV;rw[if_neg (by omega)];exact decide_eq_true rfl
theorem fH{key:Int}(hk:U64 key):s4 B6 key=true:=by
 rw[oN (by decide) ⟨by decide,by decide⟩ hk];exact⟨hk.1,hk.2⟩
structure SpC(key:Int)(s:Spt):Prop where
 ok:W8 s
 cv:s4 s.lab key=true
section
variable {X:Nt->Prop} {bk key:Int}
theorem R8(hk:U64 key):∀(n:Nat) (l:Lab),LOk l->s4 l key=true->W6 X (SpC key) (dx bk key n l)
 |0,l,_,_=>trivial
 |n+1,l,hl,hc=>by
  have hz:=fH hk;have hll:=z8 hl.isl;exact k9 (P7 hl) fun g hg=>o6 (fun h=>⟨⟨hg.1,hg.2,h,hl.isl,hl.u⟩,hc⟩) fun _=>o6 (fun _=>k9 (uZ hl hg) fun _ _=>R8 hk n l hl hc) fun _=>o6 (fun h=>R8 hk n _ (ol hk _) (by simp only[Bool.and_eq_true,decide_eq_true_eq]at h;exact yk (by omega) (by omega))) fun _=>o6 (fun _=>k9 (pd hl) fun _ _=>R8 hk n _ J8 hz) fun _=>o6 (fun _=>k9 (cC J8 ⟨⟨by decide,by decide⟩,by decide,fun x hx=>by cases hx⟩ Fg) fun _ _=>R8 hk n _ J8 hz) fun _=>R8 hk n _ J8 hz
theorem bE(hk:U64 key):∀(n:Nat) (lo hi:Int),0<=lo->hi<=64->W6 X (SpC key) (iU bk key n lo hi)
 |0,lo,hi,_,_=>trivial
 |n+1,lo,hi,h0,h1=>o6 (fun hlh=>by
   have hm:0<=(lo+hi) / 2/\(lo+hi) / 2<=64/\lo<=(lo+hi) / 2:=by omega
   exact k9 (P7 (ol hk _)) fun g hg=>o6 (fun h=>⟨⟨hg.1,hg.2,h,dV _,qa hk _⟩,yk hm.1 hm.2.1⟩) fun _=>o6 (fun _=>bE hk n _ _ (by omega) h1) fun _=>o6 (fun _=>k9 (uZ (ol hk _) hg) fun _ _=>bE hk n _ _ h0 h1) fun _=>o6 (fun _=>k9 (Dc (ol hk _)) fun _ _=>o6 (fun _=>bE hk n _ _ h0 (by omega)) fun _=>bE hk n _ _ h0 h1) fun _=>bE hk n _ _ h0 (by omega)) fun _=>R8 hk _ _ J8 (fH hk)
theorem Ak(hk:U64 key){how:Int}{n:Nat}:W6 X (SpC key) (xy bk how key n):=o6 (fun _=>R8 hk _ _ J8 (fH hk)) fun _=>bE hk _ _ _ (by decide) (by decide)
def sT(bk key:Int)(n:Nat)(s:Spt):Tr Spt:=
 if s4 s.g.x.r.nx key=true then(cO s.g.x.r.nx).bind fun g=>if gk g 1=true then .ret ⟨s.g.x.r.nx,g⟩else dx bk key n B6 else dx bk key n B6
theorem Bf{k:Int}(n:Nat)(s:Spt)(p:Pst):(sT bk key n s).run k p=bC bk k key n s p:=ri (rb (P5 _ _) fun _ _=>ri rfl (Y2 _ _ _)) (Y2 _ _ _)
theorem De(hk:U64 key){n:Nat}{s:Spt}(hs:W8 s):W6 X (SpC key) (sT bk key n s):=
 o6 (fun hc=>k9 (P7 ⟨jq hc,hs.ok.ra.nx⟩) fun g hg=>o6 (fun h=>⟨⟨hg.1,hg.2,h,jq hc,hs.ok.ra.nx⟩,hc⟩) fun _=>R8 hk _ _ J8 (fH hk)) fun _=>R8 hk _ _ J8 (fH hk)
theorem Ai{d n n':Nat}{s:Spt}{α : Type}{f f':Spt->Tr α}(h:d+1<=n)(h':d+1<=n')(hf:∀s,App d (f s) (f' s)):App (d+1) ((sT bk key n s).bind f) ((sT bk key n' s).bind f'):=by
 have L:App (d+1) ((dx bk key n B6).bind f) ((dx bk key n' B6).bind f'):=by
  have h2:=gF (bk:=bk) (key:=key) B6 h h';obtain⟨n,rfl⟩:∃m,n=m+1:=⟨n-1,by omega⟩
  obtain⟨n',rfl⟩:∃m,n'=m+1:=⟨n'-1,by omega⟩
  cases h2 with
  |ask h2=>exact .ask fun g=>(h2 g).bind hf
 unfold sT
 split
 .exact .ask fun g=>(o8 (c:=gk g 1=true) (.ret _) (gF B6 (by omega) (by omega))).bind hf
 exact L
end
theorem Cg{s:Spt}(hs:W8 s)(a b:Int):Srt (hasL s a b):=by
 unfold hasL;obtain⟨_,_,_,_,h5⟩:=M8 (hs.r.rf (Eh hs.leaf).1);exact List.Pairwise.filter _ (je h5)
theorem FP{s:Spt}(hs:W8 s){a b:Int}{i:Itm}(h:i∈hasL s a b):U64 i.key/\a<=i.key/\i.key<=b/\s.lab.bits<=i.key/\i.key<s.lab.bits+szL s.lab:=by
 have hu:=qt hs h;have h2:=(List.mem_filter.1 h).2;unfold kK at h2;simp only[Bool.and_eq_true,decide_eq_true_eq]at h2;have h3:=(oN hs.lab.1 hs.lab.2 hu).1 h2.2;exact⟨hu,h2.1.1,h2.1.2,h3.1,h3.2⟩
theorem AN{l r:List Itm}{z:Int}(hl:Srt l)(hr:Srt r)(h1:∀i∈l,i.key<z)(h2:∀i∈r,z<=i.key):Srt (l++r):=
 List.pairwise_append.2 ⟨hl,hr,fun x hx y hy=>Int.lt_of_lt_of_le (h1 x hx) (h2 y hy)⟩
theorem Eb(key n:Int)(hk:U64 key):l7 Tryz.prog 227 [.int .u64 key,.int .i64 n] (fun _=>.tup [i9 (ofV key n),.int .i64 (ofE n)]):=by
 intro m w hm hargs;refine en 18 hm hargs Tryz.func227 fun B O a0 Z=>?_
 refine a6 [0,1,4] [4] Z fun X0 Z=>?_
 refine a7 (a6 [11,0,1,4] [4] Z fun X1 Z=>?_);apply d7 Z rfl<;>intro hb Z
 .have h9:(if decide (n<0)=true then true else decide (n>64))=true:=by subst O;exact hb
  have hr:n<0 \/ 64<n:=by
   by_cases h:n<0
   .exact .inl h
   simp[h]at h9;exact .inr h9
  have hV:ofV key n=⟨0,0⟩:=if_pos hr;have hE:ofE n=1:=if_pos hr;refine a6 [4,5] [4] Z fun X2 Z=>?_
  refine B4 Z ?_;rw[hV,hE];subst O;exact zr
 have h9:(if decide (n<0)=true then true else decide (n>64))=false:=by subst O;exact hb
 have hr:0<=n/\n<=64:=by
  by_cases h:n<0
  .simp [h]at h9
  simp[h]at h9;omega
 have hV:ofV key n=⟨n,(G7 key.toNat n.toNat:Nat)⟩:=if_neg (by omega);have hE:ofE n=0:=if_neg (by omega);have S:=sv key n hk hr.1 hr.2;obtain⟨hd,hhd⟩:=eqv (((G7 key.toNat n.toNat:Nat):Int));rw[<-hhd]at S hV;have O1:=S;refine f9 (j6 [4,5] [4] [(3,.r fun _=>.int .u64 hd)] Z fun X3 Z=>?_);refine B4 Z ?_;rw[hV,hE];subst O;exact zr
abbrev ug:AV:=.agg [.int .i64 1,.sl none none 0 0 2 (fun _=>[]),.int .i64 (-1),.int .u64 0,.int .u64 0]
abbrev V7(s:Spt):AV:=.agg [.int .i64 s.lab.len,.int .u64 s.lab.bits,.int .i64 s.g.code,.int .u64 s.g.ver,.bool (.v s.g.has),.int .i64 s.g.x.r.kd,.sl none s.g.x.A s.g.x.r.n s.g.x.c 2 (fun i=>itC (s.g.x.r.f i)),.int .i64 s.g.x.r.nx.len,.int .u64 s.g.x.r.nx.bits,.int .u64 s.g.x.r.mrk]
theorem og{key:Int}(hk:U64 key)(n:Int):LOk (ofV key n):=⟨dV n,qa hk n⟩
theorem yL:l7 Tryz.prog 229 [] (fun _=>ug):=by
 intro m w hm hargs;have SN:=ka;simp only[i9,D6]at SN;refine en 3 hm hargs Tryz.func229 fun B O a0 Z=>?_
 refine a6 [0] [0] Z fun X0 Z=>?_
 have O1:=SN;refine j6 [0] [0] [(0,.r fun _=>.agg [.int .i64 (-1),.int .u64 0])] Z fun X1 Z=>?_
 exact j2 ((rsp O a8 Z G6).1)
theorem Gx(k0 b:Nat)(J:l4)(hJ:u7 J)(A:Option Addr)(c:Nat)(p:Pst)(hp:j8 p)(hn:p.n<=1000000)(l:Lab)(v:Int):s8 163 k0 b J A c p [i9 l,.int .u64 v,ug] (fun d=>.bool (.v d)) (aN J.budget l v kz p):=
 s8.re (gD 0 b J hJ A c p hp hn l v ⟨none,0,kz.rn⟩) ⟨zr,zr,Sim.agg ⟨zr,fF,zr,zr,zr,trivial⟩,trivial⟩
theorem Cm(b:Nat)(J:l4)(hJ:u7 J)(A:Option Addr)(c:Nat)(p:Pst)(hp:j8 p)(hn:p.n<=1000000)(key:Int)(hk:U64 key)(l:Lab)(hl:LOk l)(n:Nat)(hf:p.n<n):s8 166 0 b J A c p [.int .u64 key,i9 l] (V7) (L5 J.bucket J.budget key n l p):=by
 intro m w hm hargs hpre;refine enX 68 hm hpre hargs Tryz.func166 fun B O a0 Z=>?_
 refine a6 [0,1,5,6] [0,5,6] Z fun X0 Z=>?_
 refine a6 [0,1,5,6,7] [0,5,6,7] Z fun X1 Z=>?_
 refine j0 (r9 (ι:=Nat×Pst×Option Addr×Nat×Lab) (fun q=>[]) (fun q=>[(0,⟨b,139,D4 J q.2.2.1 q.2.2.2.1 q.2.1⟩),(5,⟨(X0 0).b,24,[.int .i64 q.2.2.2.2.len,.int .u64 q.2.2.2.2.bits]⟩)]) (fun q=>[]) (fun q=>L5 J.bucket J.budget key n l p=L5 J.bucket J.budget key q.1 q.2.2.2.2 q.2.1/\j8 q.2.1/\q.2.1.n<=1000000/\q.2.1.n<q.1/\LOk q.2.2.2.2) (fun q=>q.1) (n,p,A,c,l) ⟨rfl,hp,hn,hf,hl⟩ Z ?_)
 rintro⟨nn,p0,A0,c0,l0⟩ ⟨hrun,hp0,hn0,hf0,hl0⟩ _ _ Z
 try dsimp only at hrun
 try dsimp only at hp0
 try dsimp only at hn0
 try dsimp only at hf0
 try dsimp only at hl0
 obtain⟨m0,rfl⟩:∃n2,nn=n2+1:=⟨nn-1,by omega⟩
 refine j0 (a7 ?_)
 rcases(V0 0 b J hJ A0 c0 p0 hp0 hn0 l0).two (l3 _ _ _) hp0 hn0 with⟨w2,p2,hm2,O1⟩|⟨g2,p2,hm2,hs2,hp2,hn2,S2⟩
 .refine stp 2 O a8 [10,11] [0] [] Z O1 fun _ _ _ _ Z hk=>?_
  exact thm (P:=Tryz.prog) (fn:=Tryz.f166) (q:=p2) Z hk (by simp[hrun,L5,Rs.bind,hm2])
 have hl2:=I1 hm2;have hg2:=hp0.get hm2;have O1:=S2;refine j4 [0,1,5,6,7,8] [0,5,6,7,8] [(2,rc J (F4 g2) p2)] Z fun X2 Z=>?_
 obtain⟨q3,hq3⟩:=eqv (gk g2 1);refine a7 (j0 (a7 ?_));refine j4 [13,0,1,5,6,7,8] [0,5,6,7,8,15] [(2,.r fun _=>.bool (.v q3))] Z (hob:=by intro X;subst O;simp only[f8,Ob.holds,BE.den]<;>and_intros<;>repeat first|trivial|rfl|exact(by rw[hq3];exact F0 g2 _ _ 1 _ rfl)|exact by rw[hq3];exact F0 g2 _ _ 1 _ rfl|exact(fun _ _=>by kernel_rfl)|refine⟨?_,?_⟩|intro h|exact Int.le_refl _|decide|omega) fun X3 Z=>?_
 apply d7 Z rfl<;>intro hb Z
 .have tq3:gk g2 1=true:=by rw[<-hq3];exact hb
  refine a6 [6] [0,6] Z fun X4 Z=>?_
  exact j2 ((rmm O a8 Z (v:=(⟨l0,g2⟩:Spt)) (q:=p2) ((X2 2).A 0) ((X2 2).c 0) (by simp[hrun,L5,Rs.bind,hm2,tq3])).1)
 have tq3:gk g2 1=false:=by rw[<-hq3];exact hb
 obtain⟨q5,hq5⟩:=eqv ((gk g2 3||gk g2 4));refine a7 ?_;refine j4 [20,0,1,5,6,7,8] [0,5,6,7,8,22] [(2,.r fun _=>.bool (.v q5))] Z (hob:=by intro X;subst O;simp only[f8,Ob.holds,BE.den]<;>and_intros<;>repeat first|trivial|rfl|exact(by rw[hq5];exact aH g2 _ _ 3 4 _ rfl rfl)|exact by rw[hq5];exact aH g2 _ _ 3 4 _ rfl rfl|exact(fun _ _=>by kernel_rfl)|refine⟨?_,?_⟩|intro h|exact Int.le_refl _|decide|omega) fun X5 Z=>?_
 apply d7 Z rfl<;>intro hb Z
 .have tq5:(gk g2 3||gk g2 4)=true:=by rw[<-hq5];exact hb
  refine a7 ?_
  rcases(Ek m0 0 b J hJ ((X2 2).A 0) ((X2 2).c 0) p2 hp2 hn2 l0 hl0 g2 hg2 (by have:=hl2;have:=hf0;omega)).two (U7 _ _ _ _ _ _) hp2 hn2 with⟨w6,p6,hm6,O1⟩|⟨v6,p6,hm6,hs6,hp6,hn6,S6⟩
  .refine stp 3 O a8 [24,25,26] [0] [] Z O1 fun _ _ _ _ Z hk=>?_
   exact thm (P:=Tryz.prog) (fn:=Tryz.f166) (q:=p6) Z hk (by simp[hrun,L5,Rs.bind,hm2,tq3,tq5,hm6])
  have O1:=S6;refine j4 [0,1,5,6,7] [0,5,6,7] [(3,rc J (G1) p6)] Z fun X6 Z=>?_
  replace Z:=Z.keep [0,1,5,6,7] [0,5,6,7];exact o4 (⟨(m0,p6,_,_,l0),⟨by rw[hrun];simp[L5,Rs.bind,hm2,tq3,tq5,hm6],hp6,hn6,by dsimp only;have:=hf0;have:=hl2;have:=hs6.le;omega,hl0⟩,by simp only;omega,Z⟩)
 have tq5:(gk g2 3||gk g2 4)=false:=by rw[<-hq5];exact hb
 obtain⟨q7,hq7⟩:=eqv (gk g2 2);refine a7 ?_;refine j4 [28,0,1,5,6,7,8] [0,5,6,7,8] [(2,.r fun _=>.bool (.v q7))] Z (hob:=by intro X;subst O;simp only[f8,Ob.holds,BE.den]<;>and_intros<;>repeat first|trivial|rfl|exact(by rw[hq7];exact F0 g2 _ _ 2 _ rfl)|exact by rw[hq7];exact F0 g2 _ _ 2 _ rfl|exact(fun _ _=>by kernel_rfl)|refine⟨?_,?_⟩|intro h|exact Int.le_refl _|decide|omega) fun X7 Z=>?_
 apply d7 Z rfl<;>intro hb Z
 .have t7:(gk g2 2&&decide (l0.len<64))=true:=by subst O;rw[<-hq7];revert hb;cases q7<;>simp[std,b7]
  have h64:l0.len<64:=by simp at t7;exact t7.2
  have h0l:=(z8 hl0.isl).1;have S8:=Eb key (l0.len+1) hk;simp only[i9]at S8;have e1:IntKind.i64.wrap (l0.len+1)=l0.len+1:=s5 (by omega) (by omega);have hk8:=og hk (l0.len+1);obtain⟨k,hk⟩:=eqv (ofV key (l0.len+1));rw[<-hk]at S8 hk8;obtain⟨ke,hke⟩:=eqv (ofE (l0.len+1));rw[<-hke]at S8;rw[<-e1]at S8;have O1:=S8;refine j6 [0,1,5,6,7] [0,5,6,7] [(4,.r fun _=>.tup [.agg [.int .i64 k.len,.int .u64 k.bits],.int .i64 ke])] Z fun X8 Z=>?_
  replace Z:=Z.keep [0,1,5,6,7] [0,5,6,7];exact o4 (⟨(m0,p2,_,_,k),⟨by rw[hrun];simp[L5,Rs.bind,hm2,tq3,tq5,t7,<-hk],hp2,hn2,by dsimp only;have:=hf0;have:=hl2;omega,hk8⟩,by simp only;omega,Z⟩)
 have t7:(gk g2 2&&decide (l0.len<64))=false:=by subst O;rw[<-hq7];revert hb;cases q7<;>simp[std,b7]
 obtain⟨q9,hq9⟩:=eqv (gk g2 5);refine a7 ?_;refine j4 [45,0,1,5,6,7,8] [0,5,6,7,8,47] [(2,.r fun _=>.bool (.v q9))] Z (hob:=by intro X;subst O;simp only[f8,Ob.holds,BE.den]<;>and_intros<;>repeat first|trivial|rfl|exact(by rw[hq9];exact F0 g2 _ _ 5 _ rfl)|exact by rw[hq9];exact F0 g2 _ _ 5 _ rfl|exact(fun _ _=>by kernel_rfl)|refine⟨?_,?_⟩|intro h|exact Int.le_refl _|decide|omega) fun X9 Z=>?_
 apply d7 Z rfl<;>intro hb Z
 .have tq9:gk g2 5=true:=by rw[<-hq9];exact hb
  rcases(DN m0 0 b J hJ ((X2 2).A 0) ((X2 2).c 0) p2 hp2 hn2 l0 hl0 (by have:=hl2;have:=hf0;omega)).two (J0 _ _ _ _ _) hp2 hn2 with⟨w10,p10,hm10,O1⟩|⟨v10,p10,hm10,hs10,hp10,hn10,S10⟩
  .refine stp 2 O a8 [49,50] [0] [] Z O1 fun _ _ _ _ Z hk=>?_
   exact thm (P:=Tryz.prog) (fn:=Tryz.f166) (q:=p10) Z hk (by simp[hrun,L5,Rs.bind,hm2,tq3,tq5,t7,tq9,hm10])
  have O1:=S10;refine j4 [0,1,5,6,7] [0,5,6,7] [(2,rc J (G1) p10)] Z fun X10 Z=>?_
  refine j5 [0,1,5,6,7] [0,5,6,7] Z fun X13 Z=>?_
  replace Z:=Z.keep [0,1,5,6,7] [0,5,6,7];exact⟨(m0,p10,_,_,B6),⟨by rw[hrun];simp[L5,Rs.bind,hm2,tq3,tq5,t7,tq9,hm10],hp10,hn10,by dsimp only;have:=hf0;have:=hl2;have:=hs10.le;omega,J8⟩,by simp only;omega,Z⟩
 have tq9:gk g2 5=false:=by rw[<-hq9];exact hb
 refine a7 ?_;refine j5 [52,0,1,5,6,7,8] [0,5,6,7,8] Z fun X11 Z=>?_
 apply d7 Z rfl<;>intro hb Z
 .have t11:(!g2.has&&decide (l0=B6))=true:=by
   have h9:(if(!g2.has)=true then eqL [.int .i64 l0.len,.int .u64 l0.bits] [.int .i64 0,.int .u64 0]else false)=true:=by subst O;exact hb
   rw[show eqL [.int .i64 l0.len,.int .u64 l0.bits] [.int .i64 0,.int .u64 0]=decide (l0=B6)from jp l0 B6]at h9;rw[<-h9];cases g2.has<;>rfl
  rcases(Gx 0 b J hJ ((X2 2).A 0) ((X2 2).c 0) p2 hp2 hn2 B6 g2.ver).two (A4 _ _ _ _ _) hp2 hn2 with⟨w12,p12,hm12,O1⟩|⟨d12,p12,hm12,hs12,hp12,hn12,S12⟩
  .have O2:=yL
   refine jD 5 O a8 [61,62,64,65] [0] [(4,.r fun _=>ug)] Z O1 fun _ _ _ _ Z hk=>?_
   exact thm (P:=Tryz.prog) (fn:=Tryz.f166) (q:=p12) Z hk (by simp[hrun,L5,Rs.bind,hm2,tq3,tq5,t7,tq9,t11,hm12])
  have O1:=yL;have O2:=S12;refine drg O a8 [0,1,5,6,7] [0,5,6,7] [(4,.r fun _=>ug),(5,rc J (.bool (.v d12)) p12)] Z fun X12 _ _ Z=>?_
  refine j5 [0,1,5,6,7] [0,5,6,7] Z fun X13 Z=>?_
  replace Z:=Z.keep [0,1,5,6,7] [0,5,6,7];exact⟨(m0,p12,_,_,B6),⟨by rw[hrun];simp[L5,Rs.bind,hm2,tq3,tq5,t7,tq9,t11,hm12],hp12,hn12,by dsimp only;have:=hf0;have:=hl2;have:=hs12.le;omega,J8⟩,by simp only;omega,Z⟩
 have t11:(!g2.has&&decide (l0=B6))=false:=by
  have h9:(if(!g2.has)=true then eqL [.int .i64 l0.len,.int .u64 l0.bits] [.int .i64 0,.int .u64 0]else false)=false:=by subst O;exact hb
  rw[show eqL [.int .i64 l0.len,.int .u64 l0.bits] [.int .i64 0,.int .u64 0]=decide (l0=B6)from jp l0 B6]at h9;rw[<-h9];cases g2.has<;>rfl
 refine f9 (j5 [0,1,5,6,7] [0,5,6,7] Z fun X13 Z=>?_);replace Z:=Z.keep [0,1,5,6,7] [0,5,6,7];exact⟨(m0,p2,_,_,B6),⟨by rw[hrun];simp[L5,Rs.bind,hm2,tq3,tq5,t7,tq9,t11],hp2,hn2,by dsimp only;have:=hf0;have:=hl2;omega,J8⟩,by simp only;omega,Z⟩
theorem FX(k0 b:Nat)(J:l4)(hJ:u7 J)(A:Option Addr)(c:Nat)(p:Pst)(hp:j8 p)(hn:p.n<=1000000)(key:Int)(hk:U64 key)(l:Lab)(hl:LOk l)(n:Nat)(hf:p.n<n):s8 166 k0 b J A c p [.int .u64 key,i9 l] (V7) (L5 J.bucket J.budget key n l p):=s8.re (Cm b J hJ A c p hp hn key hk l hl n hf) (by repeat(first|exact trivial|refine⟨zr,?_⟩))
theorem FD(b:Nat)(J:l4)(hJ:u7 J)(A:Option Addr)(c:Nat)(p:Pst)(hp:j8 p)(hn:p.n<=1000000)(key:Int)(hk:U64 key)(n:Nat)(hf:p.n<n):s8 182 0 b J A c p [.int .u64 key] (V7) (L5 J.bucket J.budget key n B6 p):=by
 intro m w hm hargs hpre;refine enX 9 hm hpre hargs Tryz.func182 fun B O a0 Z=>?_
 refine a6 [0,1,4] [0,4] Z fun X0 Z=>?_
 refine a7 ?_
 rcases(FX 0 b J hJ A c p hp hn key hk B6 J8 n hf).two (E4 _ _ _ _ _ _) hp hn with⟨w1,p1,hm1,O1⟩|⟨s1,p1,hm1,hs1,hp1,hn1,S1⟩
 .refine stp 3 O a8 [5,6,7] [0] [] Z O1 fun _ _ _ _ Z hk=>?_
  exact thm (P:=Tryz.prog) (fn:=Tryz.f182) (q:=p1) Z hk (by simp[Rs.bind,hm1])
 have O1:=S1;refine j4 [4] [0,4] [(3,rc J (V7 s1) p1)] Z fun X1 Z=>?_
 exact j2 ((rmm O a8 Z (v:=s1) (q:=p1) ((X1 3).A 0) ((X1 3).c 0) (by simp[Rs.bind,hm1])).1)
theorem uf(k0 b:Nat)(J:l4)(hJ:u7 J)(A:Option Addr)(c:Nat)(p:Pst)(hp:j8 p)(hn:p.n<=1000000)(key:Int)(hk:U64 key)(n:Nat)(hf:p.n<n):s8 182 k0 b J A c p [.int .u64 key] (V7) (L5 J.bucket J.budget key n B6 p):=s8.re (FD b J hJ A c p hp hn key hk n hf) (by repeat(first|exact trivial|refine⟨zr,?_⟩))
section
variable {C:Cx} {P:Program} {Q:Exit->Act->World->Prop} {T:List (Nat×TI)} {s:St} {a:Act} {w:World} {B:Alg} {f:FuncId} {k:Nat} {blk:Blk} {ty:Nat} {v:j1->AV} {sets:j1->List (Nat×List AV)} {args':List AV} {id:Nat} {all L rest:List Oper} {R:Alg->(Nat->j1)->St×List Ob} {o:Oper} {c:Call} {g:Operand} {l r args:(Nat->j1)->List AV}
theorem stl(i n:Nat)(O:B=std)(hT:l9 P T)(kp km:List Nat)(cs:List (Nat×CS))(h:f7 C s a w)(hsp:P2 P f args' [(k,blk)] (fun x=>.thr ty (v x) (sets x)))
  (K:∀X x a w',f7 C ((R B X).1.eff (.sets (upd [(k,blk)] (sets x)))) a w'->Ok (((R B X).1.eff (.sets (upd [(k,blk)] (sets x)))).m C) w' (v x)->Q (.panic [{ v:=.iface ty (v x).den,recovered:=false }]) a w')
  (hex:∀A X,(G8 A T cs X all (l6 i (L.take n)) s).map (fun r=>(r.1.keep kp km,r.2.1))=some (R A X):=by intro A X;conv=>lhs;cbv) (hob:∀X,f8 P C.K (R B X).2:=by
   intro X;subst O
   first
   |exact trivial
   |(simp only[f8,Ob.holds,BE.den]<;>and_intros<;>(repeat first|trivial|rfl|exact O1|exact O2|exact O3|exact(fun _ _=>by kernel_rfl)|exact O1 _ _ _ rfl|exact O2 _ _ _ rfl|refine⟨?_,?_⟩|intro h|decide|omega)<;>done)
   |(simp[f8,Ob.holds,BE.den,std,b7,i5]<;>omega))
  (hL:L.drop n=o::rest:=by rfl) (hop:o.op = .call c:=by rfl) (hcal:c.callee = .value g:=by rfl) (hg:∀X,sD all (R B X).1 o=true:=by intro X;rfl) (hgv:∀X,val (R B X).1 [] g = .fn f (l X) (r X):=by intro X;rfl) (hl:∀X,R0 (R B X).1 [] c.args.toList=some (args X):=by intro X;rfl) (hsim:∀X,E7 (l X++args X++r X) args':=by intro X;subst O;exact zl)
  (hpre:∀X,i8 (R B X).1.mem k=some blk:=by intro X;rfl) (hd:∀X,fa (R B X).1 o.dst=true:=by intro X;rfl) (hen:o3 P f:=by exact fun _ _=>by kernel_rfl):wpList P all.toArray Q L a w:=
 dX i n O hT kp km cs h hex hob fun X a1 w1 Z=>aW hL (hg X) hop hcal Z (hgv X) (hl X) hen hsp (hsim X) (eq (hpre X)) rfl (hd X) fun x w' Z hok=>K X x _ w' Z hok
end
end Go.Proofs.YtmbkanpapkhnaaaGreat.Sym
