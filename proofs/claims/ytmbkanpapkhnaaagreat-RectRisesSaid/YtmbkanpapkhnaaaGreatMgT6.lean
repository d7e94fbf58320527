/-
  SymLm, SymTr1, CmpOrd, SortOrd, PlTrie2, SymTr4, SymRun30N, SymSet, SymTr8, PlTrie, SymTr2, SymTr3, SymTr9, SymTr5, SymTr6, SymInl4, SymTr7, SymTrA, SymTrB, PlPtEx, SymMap1, SymMap2, SymEx30, SymRun30, PlSeekEnd, SymMin: put together by a program of mine (a claim may have 60 files at most). Conditions: none.
-/
import Derived.Test.YtmbkanpapkhnaaaGreatMgT5
set_option linter.unusedVariables false
set_option linter.unusedSimpArgs false
set_option maxRecDepth 100000
set_option maxHeartbeats 1600000
namespace Go.Proofs.YtmbkanpapkhnaaaGreat.Sym
open Go Go.RowKit
section
variable {α : Type}
def R9(l:Lab):List (Lab×α)->Option α
 | []=>none
 |p::L=>if p.1=l then some p.2 else R9 l L
def I6(l:Lab)(x:α):List (Lab×α)->List (Lab×α)
 | []=>[(l,x)]
 |p::L=>if p.1=l then(l,x)::L else p::I6 l x L
theorem bd{l:Lab}{x:α}:∀{L:List (Lab×α)},R9 l L=some x->(l,x)∈L
 |p::L,h=>by
  unfold R9 at h
  split at h
  .rename_i he;injection h with h;subst h;subst he;exact List.mem_cons_self ..
  exact List.mem_cons_of_mem _ (bd h)
theorem fL{p:Lab×α}:∀{L:List (Lab×α)},(L.map (·.1)).Nodup->p∈L->R9 p.1 L=some p.2
 |q::L,h,hp=>by
  have h':=List.nodup_cons.1 h;unfold R9
  rcases List.mem_cons.1 hp with rfl|hp
  .rw [if_pos rfl]
  rw[if_neg (fun e=>h'.1 (List.mem_map.2 ⟨p,hp,e.symm⟩))];exact fL h'.2 hp
theorem fX{l k:Lab}{x:α}:∀{L:List (Lab×α)},R9 k (I6 l x L)=if l=k then some x else R9 k L
 | []=>by simp[I6,R9]
 |p::L=>by
  unfold I6
  by_cases h:p.1=l
  .rw [if_pos h]
   unfold R9
   by_cases hk:l=k
   .simp [hk]
   simp[hk,h]
  rw[if_neg h];unfold R9;rw[fX]
  by_cases hk:l=k
  .subst hk;simp[h]
  simp[hk]
theorem jM{l:Lab}{x:α}:∀{L:List (Lab×α)},(I6 l x L).map (·.1)=if(R9 l L).isSome then L.map (·.1)else L.map (·.1) ++ [l]
 | []=>by simp[I6,R9]
 |p::L=>by
  unfold I6 R9
  by_cases h:p.1=l
  .simp [h]
  simp only[if_neg h,List.map_cons,jM]
  split<;>simp
theorem iZ{l:Lab}{x:α}(L:List (Lab×α)):(I6 l x L).length=if(R9 l L).isSome then L.length else L.length+1:=by
 have:=congrArg List.length (jM (l:=l) (x:=x) (L:=L));rw[List.length_map]at this;rw[this]
 split<;>simp
theorem mM{l:Lab}:∀{L:List (Lab×α)},R9 l L=none->l ∉ L.map (·.1)
 | [],_=>by simp
 |p::L,h=>by
  unfold R9 at h
  split at h
  .cases h
  rename_i hn
  simp only[List.map_cons,List.mem_cons,not_or];exact⟨fun e=>hn e.symm,mM h⟩
theorem mh{l:Lab}{x:α}{L:List (Lab×α)}(h:(L.map (·.1)).Nodup):((I6 l x L).map (·.1)).Nodup:=by
 rw[jM]
 split
 .exact h
 rename_i hn
 have:=mM (by simpa using hn:R9 l L=none);exact List.nodup_append.2 ⟨h,by simp,fun a ha b hb=>by simp at hb;subst hb;exact fun e=>this (e ▸ ha)⟩
theorem AU{l:Lab}{x:α}{L:List (Lab×α)}(h:(L.map (·.1)).Nodup)(p:Lab×α):p∈I6 l x L↔p=(l,x) \/ (p∈L/\p.1≠l):=by
 constructor
 .intro hp
  have h1:=fL (mh (l:=l) (x:=x) h) hp;rw[fX]at h1
  by_cases he:l=p.1
  .rw [if_pos he]at h1
   injection h1 with h1
   obtain⟨p1,p2⟩:=p;simp only at he h1;subst he;subst h1;exact .inl rfl
  rw[if_neg he]at h1;exact .inr ⟨bd h1,fun e=>he e.symm⟩
 rintro(rfl|⟨hp,hne⟩)
 .exact bd (by rw[fX,if_pos rfl])
 exact bd (x:=p.2) (l:=p.1) (by rw[fX,if_neg (fun e=>hne e.symm)];exact fL h hp)
structure LmD(el:α->AV)(D:DataW Value)(b:Nat)(L:List (Lab×α))(m:Nat->Nat->Prop)(w:World):Prop where
 map:Q7 Tryz.prog 24 w b L.length D
 nd:(L.map (·.1)).Nodup
 labs:∀p∈L,o9 p.1
 has:∀kl,Maps.has D kl=true ↔ ∃p∈L,I0 p.1=kl
 size:Maps.size D=L.length
 at_:∀p∈L,∀zd,D.atKey (I0 p.1) zd = .held (el p.2).den
 ok:∀p∈L,Ok m w (el p.2)
variable {el:α->AV} {D:DataW Value} {b:Nat} {L:List (Lab×α)} {m m':Nat->Nat->Prop} {w w':World} {l:Lab}
theorem LmD.keepB{bo:Option Nat}(h:LmD el D b L m w)(k:T2 bo w m w' m')(hb:bo≠some b):LmD el D b L m' w':=
 ⟨ko k hb h.map,h.nd,h.labs,h.has,h.size,h.at_,fun p hp=>k.ok (h.ok p hp)⟩
theorem LmD.keep(h:LmD el D b L m w)(k:au w m w' m'):LmD el D b L m' w':=
 ⟨mu k h.map,h.nd,h.labs,h.has,h.size,h.at_,fun p hp=>k.ok (h.ok p hp)⟩
def lmK(el:α->AV)(b:Nat)(L:List (Lab×α)):Kn:=⟨fun m w=>∃D,LmD el D b L m w,fun k ⟨D,h⟩=>⟨D,h.keep k⟩⟩
def lmF(el:α->AV)(n b:Nat)(L:List (Lab×α)):Kn:=⟨fun m w=>n<=b/\(lmK el b L).p m w,fun k h=>⟨h.1,(lmK el b L).st k h.2⟩⟩
theorem ud{n:Nat}(h:b≠n):(lmK el b L).off n:=fun k ⟨D,x⟩=>⟨D,x.keepB k (fun e=>h (by injection e with e;exact e.symm))⟩
theorem oo(h:(lmK el b L).p m w):∃es cl,w.heap[b]? = some (.map es cl):=by
 obtain⟨D,h⟩:=h;obtain⟨es,cl,hb,_⟩:=h.map;exact⟨es,cl,hb⟩
theorem yG(h:(lmK el b L).p m w):b<w.heap.size:=by
 obtain⟨es,cl,hb⟩:=oo h;exact U6 hb
theorem LmD.empty(h:Q7 Tryz.prog 24 w b 0 (.map [])):LmD el (.map []) b [] m w:=
 ⟨h,.nil,fun p hp=>(by cases hp),fun kl=>⟨fun h=>(by cases h),fun⟨p,hp,_⟩=>(by cases hp)⟩,rfl,fun p hp=>(by cases hp),fun p hp=>(by cases hp)⟩
theorem LmD.hasL(h:LmD el D b L m w)(hl:o9 l):Maps.has D (I0 l)=(R9 l L).isSome:=by
 cases hf:R9 l L with
 |some x=>exact(h.has _).2 ⟨(l,x),bd hf,rfl⟩
 |none=>
  rw[Option.isSome_none,Bool.eq_false_iff];intro hh;obtain⟨p,hp,he⟩:=(h.has _).1 hh;have:p.1=l:=dB (h.labs p hp) hl he;rw[<-this,fL h.nd hp]at hf
  cases hf
theorem LmD.look(h:LmD el D b L m w)(hl:o9 l){mt e:TypeId}(ht:Tryz.prog.underlying mt=some (.map 24 e)){z:α}(hz:(zeroValue e).run Tryz.prog w = .ok (el z).den w)(hzo:Ok m w (el z))(c:Bool) :
  (Instr.lookup mt (.map (some b)) (i9 l).den c).run Tryz.prog w = .ok (if c then .tuple #[(el ((R9 l L).getD z)).den,.bool (R9 l L).isSome]else(el ((R9 l L).getD z)).den) w/\Ok m w (el ((R9 l L).getD z)):=by
 have hh:=h.hasL hl;obtain⟨es,clock,hb,F,_,hD⟩:=h.map
 rcases Maps.fit_look c bY ht hz hb F (K8 hl)with⟨hrun,_,hat⟩|⟨e0,y,_,_,hrun,hRv,hat,_⟩
 .rw [<-hD]at hat
  have hf:=Maps.has_false_of_atKey hat;rw[hh]at hf;have hn:R9 l L=none:=by cases hg:R9 l L with
   |none=>rfl
   |some x=>rw[hg]at hf;cases hf
  rw[hn];exact⟨hrun,hzo⟩
 rw[<-hD]at hat;have hf:=Maps.has_true_of_atKey hat;rw[hh]at hf;obtain⟨x,hx⟩:=Option.isSome_iff_exists.1 hf;have hm:=bd hx;have e1:=h.at_ _ hm (.held Go.undef);rw[hat]at e1;have e2:y.1 = .held e0.val:=by unfold hR at hRv;injection hRv with hRv;rw[<-hRv]
 rw[e2]at e1;injection e1 with e1
 rw[hx];simp only at e1;simp only[Option.getD_some,Option.isSome_some];exact⟨by rw[<-e1];exact hrun,h.ok _ hm⟩
theorem BO{K:Kn}(hK:∀m w,K.p m w->(lmK el b L).p m w)(hl:o9 l){mt e:TypeId}(ht:Tryz.prog.underlying mt=some (.map 24 e)){z:α}(hz:∀w,(zeroValue e).run Tryz.prog w = .ok (el z).den w)(hzo:∀m w,Ok m w (el z)){v:AV}(hv:el ((R9 l L).getD z)=v):Ob.holds Tryz.prog K (.look mt false (.raw (.map (some b))) (i9 l) v):=by
 intro m w hk;obtain⟨D,hD⟩:=hK m w hk;obtain⟨h1,h2⟩:=hD.look hl ht (hz w) (hzo m w) false;rw[hv]at h1 h2;exact⟨h1,h2⟩
theorem LmD.put(h:LmD el D b L m w)(hl:o9 l)(k:T2 (some b) w m w' m){x:α}(hv:Ok m w (el x))(hM:Q7 Tryz.prog 24 w' b (L.length+1) (D.put (I0 l) (.held (el x).den))):∃D',LmD el D' b (I6 l x L) m w':=by
 have hkey:WideAt.IsKeyLit (I0 l):=bY.key (K8 hl);have hmp:Maps.IsMap D:=(h.map.tidy bY).isMap;have hsz:=mr hM;have hlen:Maps.size (D.put (I0 l) (.held (el x).den))=(I6 l x L).length:=by
  rw[Maps.size_put (h.map.tidy bY),h.hasL hl,iZ];rw[h.size]
 have hin:=AU (l:=l) (x:=x) h.nd;refine⟨_,?_,mh h.nd,fun p hp=>?_,fun kl=>?_,hlen,fun p hp zd=>?_,fun p hp=>?_⟩
 .rw [hlen]at hsz;exact hsz
 .rcases (hin p).1 hp with rfl|⟨hp,_⟩
  .exact hl
  exact h.labs p hp
 .by_cases he:kl=I0 l
  .subst he
   rw[Maps.has_put_same hmp hkey];exact⟨fun _=>⟨_,(hin _).2 (.inl rfl),rfl⟩,fun _=>rfl⟩
  rw[Maps.has_put_other he,h.has]
  constructor
  .rintro ⟨p,hp,hk⟩
   exact⟨p,(hin p).2 (.inr ⟨hp,fun e=>he (by rw[<-hk,e])⟩),hk⟩
  rintro⟨p,hp,hk⟩
  rcases(hin p).1 hp with rfl|⟨hp,_⟩
  .exact absurd hk.symm he
  exact⟨p,hp,hk⟩
 .rcases (hin p).1 hp with rfl|⟨hp,hne⟩
  .rw [Maps.atKey_put_same hmp hkey]
  rw[Maps.atKey_put_other (fun e=>hne (dB (h.labs p hp) hl e))];exact h.at_ p hp zd
 rcases(hin p).1 hp with rfl|⟨hp,hne⟩
 .exact k.ok hv
 exact k.ok (h.ok p hp)
theorem om{n:Nat}(h0:Q7 Tryz.prog 24 w b n D)(hl:o9 l)(h:(lmK el b L).p m w)(k:T2 (some b) w m w' m){v:AV}{x:α}(hs:Sim v (el x))(hv:Ok m w v)(hM:Q7 Tryz.prog 24 w' b (L.length+1) (D.put (I0 l) (.held v.den))):(lmK el b (I6 l x L)).p m w':=by
 obtain⟨D1,h1⟩:=h;have:=qi h0 h1.map;subst this;rw[hs.1]at hM;exact h1.put hl k (hs.2.2 _ _ hv) hM
end
theorem fP:Tryz.prog.underlying 125=some (.map 24 35):=by kernel_rfl
theorem kj:Tryz.prog.underlying 130=some (.map 24 24):=by kernel_rfl
theorem uL(l:Lab)(f:Nat->Itm)(i:Nat):J2 l (d4 f (i+1))=J2 l (d4 f i)++(if s4 l (f i).key=true then [f i]else []):=by
 unfold d4 J2;rw[List.range_succ,List.map_append,List.filter_append]
 congr 1
 by_cases h:s4 l (f i).key=true<;>simp[h]
theorem EE(A:Option Addr)(n c:Nat)(f:Nat->Itm)(hn:n<=1000000)(l:Lab)(hb0:U64 l.bits)(hki:∀i,i<n->U64 (f i).key):l7 Tryz.prog 112 [r6 A n c f,i9 l] (fun x=>r6 (x.A 0) (J2 l (d4 f n)).length (x.c 0) (itF (J2 l (d4 f n)))):=by
 intro m w hm hargs;have hmx:maxLen=9223372036854775807:=rfl;unfold r6 at hargs ⊢;simp only[i9]at hargs ⊢;refine en 24 hm hargs Tryz.func112 fun B O a0 Z=>?_
 refine a6 [0,3] [3] Z fun X0 Z=>?_
 refine a6 [5,3,0] [3,5] Z fun X1 Z=>?_
 refine a7 (a6 [5,10,3,8,9] [3,5] Z fun X2 Z=>?_);replace Z:=Z.headS (v':=.sl (some 5) none 0 0 2 (fun t=>itC C0)) (zq0) rfl;refine j0 (r9 (ι:=Nat×Nat×(Nat->Itm)×Option Addr×Nat) (fun p=>[(5,.sl (some 5) p.2.2.2.1 p.2.1 p.2.2.2.2 2 (fun t=>itC (p.2.2.1 t))),(10,.int .i64 (p.1:Int))]) (fun p=>[]) (fun p=>[(5,⟨p.2.2.2.1,p.2.1,p.2.2.2.2,2,62⟩)]) (fun p=>p.1<=n/\p.2.1<=p.1/\d4 p.2.2.1 p.2.1=J2 l (d4 f p.1)) (fun p=>n-p.1) (0,0,fun _=>C0,none,0) ⟨Nat.zero_le _,Nat.le_refl _,rfl⟩ Z ?_)
 rintro⟨i,q,g,A1,c1⟩ ⟨hi,hq,hg⟩ _ _ Z
 try dsimp only at hi
 try dsimp only at hq
 try dsimp only at hg
 refine a6 [11,5,10,3,8,9] [3,5] Z fun X3 Z=>?_
 refine a7 (d7 Z rfl (fun hb Z=>?_) (fun hb Z=>?_))
 .have hin:i<n:=by
   have:(i:Int)<(n:Int):=by subst O;simpa[std,b7]using hb
   omega
  have S:=uM l hb0 (f i).key (hki i hin);simp only[i9]at S;obtain⟨cq,hcq⟩:=eqv (s4 l (f i).key);rw[<-hcq]at S;refine f9 (a7 (j0 (a7 ?_)));have O4:(0:Int)<=(i:Int):=by omega
  have O5:(i:Int)<(n:Int):=by omega
  refine j5 [7,5,10,3,8,9] [7,3,5] Z fun X4 Z=>?_
  replace Z:=Z.memS (cells':=itC (f i)) (by subst O;exact zl);have O1:=S;refine j6 [17,7,5,10,3,8,9] [7,3,5] [(3,.r fun _=>.bool (.v cq))] Z fun X5 Z=>?_
  apply d7 Z rfl<;>intro hb Z
  .have hct:cq=true:=hb
   rw[hct]at hcq;refine j5 [5,10,3,8,9] [3,5] Z (hob:=?hob) fun X6 Z=>?_
   case hob=>
    intro X;subst O
    repeat(first|exact trivial|refine⟨⟨rfl,rfl,rfl⟩,?_⟩|refine⟨rfl,?_⟩|refine⟨⟨show q+1<=maxLen by omega,show(q+1)*_<=_ by omega⟩,?_⟩)
   replace Z:=Z.headS (v':=.sl (some 5) ((X6 3).A 0) (B.nadd q 1) ((X6 3).c 0) 2 (fun t=>itC (cm g q (f i) t))) (Sim.resl rfl (fun t ht=>by
    subst O;have ht2:t<q+1:=ht
    show B8 q (fun t=>itC (g t)) (B0 2 [.int .u64 (f i).key,.str (f i).val]) t=_
    unfold B8 cm
    split
    .rw [if_neg (by omega)]
    have:t=q:=by omega
    subst this;simp[B0,itC])) rfl
   refine j5 [5,10,3,8,9] [3,5] Z fun X7 Z=>?_
   have e:B.arith .add .i64 (i:Int) 1=((i+1:Nat):Int):=by subst O;exact j7 (n:=n) hin (by omega)
   refine⟨(i+1,q+1,cm g q (f i),_,_),⟨by simp only;omega,by simp only;omega,?_⟩,by simp only;omega,by rw[<-e,show q+1=B.nadd q 1 by subst O;rfl];exact Z⟩
   simp only;rw[cg,hg,uL,if_pos hcq.symm]
  have hcf:cq=false:=hb;rw[hcf]at hcq;refine f9 (j5 [5,10,3,8,9] [3,5] Z fun X7 Z=>?_);have e:B.arith .add .i64 (i:Int) 1=((i+1:Nat):Int):=by subst O;exact j7 (n:=n) hin (by omega)
  refine⟨(i+1,q,g,_,_),⟨by simp only;omega,by simp only;omega,?_⟩,by simp only;omega,by rw[<-e];exact Z⟩;simp only;rw[hg,uL,if_neg (by rw[<-hcq];decide),List.append_nil]
 have hout:i=n:=by
  have:¬(i:Int)<(n:Int):=by subst O;simpa[std,b7]using hb
  omega
 rw[hout]at hg;refine o4 (a6 [4] [5] Z fun X8 Z=>?_);refine j2 ((rsi O a8 Z (⟨0,fun _=>A1,fun _=>c1,fun _=>⟨#[]⟩⟩) (he:=?_)));subst O;exact Sim.resl (by rw[<-hg,i6]) (fun t ht=>by rw[<-hg,i6]at ht;rw[<-hg,s7 _ _ t ht])
theorem tP(a b:Lab)(W:World):Calls Tryz.prog 79 #[(i9 a).den,(i9 b).den] W fun e w'=>e = .returned (.int .i64 (dJ a b))/\GrF W w':=by
 obtain⟨al,ab⟩:=a;obtain⟨bl,bb⟩:=b;simp only[i9,AV.den,AV.denL,dJ];have hU:=fun w=>Gq ab bb w
 have hN:=fun w=>Gs al bl w
 generalize bz ab bb=x at hU ⊢
 generalize bz al bl=y at hN ⊢
 have hO:=fun b w h0 h1=>Jw b x y w h0 h1
 generalize (if x≠0 then x else y)=r at hO ⊢
 go_enter Tryz.func79,Tryz.ntmps79
 go_wp2_with fail
 obtain⟨W5,hW5⟩:=eqv ((W.alloc (.cells #[.int .i64 al,.int .u64 ab] 24)).alloc (.cells #[.int .i64 bl,.int .u64 bb] 24));have hG:GrF W W5:=by rw[hW5];exact((GrF.refl W).alloc _).alloc _
 have hs:W5.heap.size=W.heap.size+1+1:=by rw[hW5];simp
 have z0:W5.heap[W.heap.size]? = some (.cells #[.int .i64 al,.int .u64 ab] 24 (0,0)):=by
  rw[hW5,Below.heap_alloc _ _ _ (by simp)];exact heap_alloc_new W _
 have z1:W5.heap[W.heap.size+1]? = some (.cells #[.int .i64 bl,.int .u64 bb] 24 (0,0)):=by
  have:=heap_alloc_new (W.alloc (.cells #[.int .i64 al,.int .u64 ab] 24)) (.cells #[.int .i64 bl,.int .u64 bb] 24);rw[hW5];simpa using this
 have c0:W5.cell? ⟨W.heap.size,0,none⟩=some (.int .i64 al):=cell_of_row W5 _ 0 _ _ _ z0;have c1:W5.cell? ⟨W.heap.size,1,none⟩=some (.int .u64 ab):=cell_of_row W5 _ 1 _ _ _ z0;have c2:W5.cell? ⟨W.heap.size+1,0,none⟩=some (.int .i64 bl):=cell_of_row W5 _ 0 _ _ _ z1;have c3:W5.cell? ⟨W.heap.size+1,1,none⟩=some (.int .u64 bb):=cell_of_row W5 _ 1 _ _ _ z1;clear z0 z1;rw[<-hW5];clear hW5;clear hs
 go_region_held3 (fun w'=>w'.cell? ⟨W.heap.size,0,none⟩=some (.int .i64 al)/\w'.cell? ⟨W.heap.size,1,none⟩=some (.int .u64 ab)/\w'.cell? ⟨W.heap.size+1,0,none⟩=some (.int .i64 bl)/\w'.cell? ⟨W.heap.size+1,1,none⟩=some (.int .u64 bb)/\W5.heap.size<=w'.heap.size/\GrF W w')
  ((go_split_ands;(repeat' apply And.intro)<;>first|with_reducible assumption|with_reducible exact GrF.drew (by assumption)|with_reducible exact GrF.alloc (by assumption) _|with_reducible exact GrF.drew (GrF.alloc (by assumption) _)|with_reducible exact sS (by assumption) _|with_reducible exact size_alloc (by assumption) _|go_keep))
  (first|(go_at_call 70;refine(hU _).mono ?_;rintro e w' ⟨rfl,rfl⟩)|(go_at_call 107;refine(hN _).mono ?_;rintro e w' ⟨rfl,rfl⟩)|(go_at_call 106;refine(hO _ _ (by first|exact yt _ _ _ _|exact nf (yt _ _ _ _)) (by first|exact yr _ _ _ _|exact nf (yr _ _ _ _))).mono ?_;rintro e w' ⟨rfl,rfl⟩))
 all_goals(go_wp2_with fail;go_ret;exact⟨rfl,by first|exact(hG.alloc _).drew|exact hG.alloc _⟩)
theorem GrF.trans{W w w':World}(h:GrF W w)(h':GrF w w'):GrF W w':=by
 obtain⟨q,os,rfl⟩:=h;obtain⟨q',os',rfl⟩:=h';exact⟨q+q',os++os',by simp[Go.Sort.grow,World.drewN,Array.append_assoc,Nat.add_assoc]⟩
theorem GB(a b:B1)(W:World):Calls Tryz.prog 78 #[.agg ((G2 a).map AV.den).toArray,.agg ((G2 b).map AV.den).toArray] W fun e w'=>e = .returned (.int .i64 (dJ a.lab b.lab))/\GrF W w':=by
 obtain⟨⟨al,ab⟩,av,⟨aA,ac,⟨an,af,ak,⟨anl,anb⟩,am⟩⟩⟩:=a;obtain⟨⟨bl,bb⟩,bv,⟨bA,bc,⟨bn,bf,bk,⟨bnl,bnb⟩,bm⟩⟩⟩:=b;simp only[G2,List.map_cons,List.map_nil,AV.den];have hO:=fun w=>tP ⟨al,ab⟩ ⟨bl,bb⟩ w
 simp only[i9,AV.den,AV.denL]at hO
 generalize dJ ⟨al,ab⟩ ⟨bl,bb⟩=r at hO ⊢
 go_enter Tryz.func78,Tryz.ntmps78
 go_wp2_with (go_at_call 79;refine(hO _).mono ?_;rintro e w' ⟨rfl,hG⟩)
 all_goals(go_ret;exact⟨rfl,GrF.trans (((GrF.refl W).alloc _).alloc _) hG⟩)
end Go.Proofs.YtmbkanpapkhnaaaGreat.Sym
namespace Go.Proofs.YtmbkanpapkhnaaaGreat.Sym
open Go Go.RowKit Go.Sort
theorem rH{n B e:Nat}{A:Option Addr}{c:Nat}{h:Nat->B1}{w:World}(hO:Own w B e 8 (.slice A n c) n (i7 (fun t=>G2 (h t)) n))(hn:n<4611686018427387904) :
  Calls Tryz.prog 77 #[.slice A n c,.func (.func 78) #[] #[]] w fun e' w'=>e' = .returned (.tuple #[])/\∃h':Nat->B1,((List.range n).map h').Perm ((List.range n).map h)/\(∀i j,i<j->j<n->cG (h' j).lab (h' i).lab=false)/\Own w' B e 8 (.slice A n c) n (i7 (fun t=>G2 (h' t)) n)/\Chg (fun x=>s9 (.slice A n c)=some x) w w':=by
 refine pD (cells:=G2) (lt:=ltOf qN) (k:=8) (fun _=>rfl) hO (fun b d hd hH hb=>?_) (fun h0=>?_)
 .have eg:∀args w,(callFunc 78 args).run Tryz.prog w = .ok (.enter 78 args) w:=enters_of Tryz.func78 (by kernel_rfl) rfl
  have hcmp:CmpLays Tryz.prog 78 #[] (dH G2) 8 qN b 0 d.size w:=by
   intro m os dk hdk x y;refine(GB x y _).mono ?_
   rintro e w' ⟨rfl,q,os',rfl⟩
   exact⟨rfl,q,os',rfl⟩
  have:=AnyQ.slices_SortFunc Tryz.sortRow 8 (fun _=>by kernel_rfl) (fun _=>by kernel_rfl) (dH G2) (fun _=>rfl) (fun x v hv=>by
   simp only[dH,G2,List.map_cons,List.map_nil,AV.den,List.mem_cons,List.not_mem_nil,or_false]at hv
   rcases hv with rfl|rfl|rfl|rfl|rfl|rfl|rfl|rfl<;>rfl) qN EF 78 #[] b 0 c d w eg hcmp hH hb (by omega)
  exact this
 exact AnyF.slices_SortFunc_none (P:=Tryz.prog) (ρ:=Tryz.sortRow_ren) { Tryz.sortRow with } A c _ w
instance : Inhabited Lab := ⟨⟨0, 0⟩⟩
abbrev M6(x:Lab):List AV:=[.int .i64 x.len,.int .u64 x.bits]
def qO(x y:Lab):Int:=dJ x y
theorem lk(x y:Lab):ltOf qO x y=cG x y:=rfl
theorem EG:SWO (ltOf qO):=by
 refine⟨fun x=>?_,fun x y z h1 h2=>?_,fun x y z h1 h2=>?_⟩
 .rw [lk,dY];omega
 .rw [lk,dZ]at *;omega
 rw[lk,dY]at *;omega
theorem vp{n B e:Nat}{A:Option Addr}{c:Nat}{h:Nat->Lab}{w:World}(hO:Own w B e 2 (.slice A n c) n (i7 (fun t=>M6 (h t)) n))(hn:n<4611686018427387904) :
  Calls Tryz.prog 81 #[.slice A n c,.func (.func 79) #[] #[]] w fun e' w'=>e' = .returned (.tuple #[])/\∃h':Nat->Lab,((List.range n).map h').Perm ((List.range n).map h)/\(∀i j,i<j->j<n->cG (h' j) (h' i)=false)/\Own w' B e 2 (.slice A n c) n (i7 (fun t=>M6 (h' t)) n)/\Chg (fun x=>s9 (.slice A n c)=some x) w w':=by
 refine pD (cells:=M6) (lt:=ltOf qO) (k:=2) (fun _=>rfl) hO (fun b d hd hH hb=>?_) (fun h0=>?_)
 .have eg:∀args w,(callFunc 79 args).run Tryz.prog w = .ok (.enter 79 args) w:=enters_of Tryz.func79 (by kernel_rfl) rfl
  have hcmp:CmpLays Tryz.prog 79 #[] (dH M6) 2 qO b 0 d.size w:=by
   intro m os dk hdk x y;refine(tP x y _).mono ?_
   rintro e w' ⟨rfl,q,os',rfl⟩
   exact⟨rfl,q,os',rfl⟩
  have:=AnyQ.slices_SortFunc Tryz.sortLab 2 (fun _=>by kernel_rfl) (fun _=>by kernel_rfl) (dH M6) (fun _=>rfl) (fun x v hv=>by
   simp only[dH,M6,List.map_cons,List.map_nil,AV.den,List.mem_cons,List.not_mem_nil,or_false]at hv
   rcases hv with rfl|rfl<;>rfl) qO EG 79 #[] b 0 c d w eg hcmp hH hb (by omega)
  exact this
 exact AnyF.slices_SortFunc_none (P:=Tryz.prog) (ρ:=Tryz.sortLab_ren) { Tryz.sortLab with } A c _ w
end Go.Proofs.YtmbkanpapkhnaaaGreat.Sym
namespace Go.Proofs.YtmbkanpapkhnaaaGreat.Sym
open Go Go.RowKit
def ox(x:Lab):List Lab->List Lab
 | []=>[x]
 |y::l=>if J9 x y=true then x::y::l else y::ox x l
def pG(l:List Lab):List Lab:=l.foldl (fun o x=>ox x o) []
def cF(l:List Rw):List Lab:=(l.filter fun w=>decide (w.r.kind=1)).map (·.lab)
def I9(l:List Rw):List Lab:=pG (cF l)
def leL(a b:Lab):Prop:=J9 b a=false
theorem mC{a b c:Lab}(h:leL a b)(h':leL b c):leL a c:=by
 unfold leL at *
 cases hx:J9 c a with
 |false=>rfl
 |true=>
  rcases ah a b with h1|h1|h1
  .have:=ae hx h1
   rw[h']at this;cases this
  .subst h1
   rw[h']at hx;cases hx
  rw[h]at h1;cases h1
theorem jg{a b:Lab}(h:J9 a b=true):leL a b:=by
 unfold leL
 cases hx:J9 b a with
 |false=>rfl
 |true=>have:=ae h hx;rw[qk]at this;cases this
theorem qo{a b:Lab}(h:leL a b)(h':leL b a):a=b:=by
 unfold leL at *
 rcases ah a b with h1|h1|h1
 .rw [h']at h1;cases h1
 .exact h1
 rw[h]at h1;cases h1
theorem gS(x:Lab):∀l:List Lab,(ox x l).Perm (x::l)
 | []=>List.Perm.refl _
 |y::l=>by
  unfold ox
  split
  .exact List.Perm.refl _
  exact(List.Perm.cons _ (gS x l)).trans (List.Perm.swap _ _ _)
theorem iw(x:Lab):∀{l:List Lab},l.Pairwise leL->(ox x l).Pairwise leL
 | [],_=>List.pairwise_singleton _ _
 |y::l,h=>by
  have h':=List.pairwise_cons.1 h;unfold ox
  split
  .rename_i hx
   refine List.pairwise_cons.2 ⟨fun z hz=>?_,h⟩
   rcases List.mem_cons.1 hz with rfl|hz
   .exact jg hx
   exact mC (jg hx) (h'.1 z hz)
  rename_i hx
  refine List.pairwise_cons.2 ⟨fun z hz=>?_,iw x h'.2⟩
  rcases List.mem_cons.1 ((gS x l).mem_iff.1 hz)with rfl|hz
  .exact (Bool.not_eq_true _).mp hx
  exact h'.1 z hz
theorem pF(l:List Lab):∀(o:List Lab),(l.foldl (fun o x=>ox x o) o).Perm (l++o)/\(o.Pairwise leL->(l.foldl (fun o x=>ox x o) o).Pairwise leL):=by
 induction l with
 |nil=>exact fun o=>⟨List.Perm.refl _,id⟩
 |cons x l ih=>
  intro o;obtain⟨h1,h2⟩:=ih (ox x o);refine⟨?_,fun ho=>h2 (iw x ho)⟩;refine h1.trans ?_;have:=(gS x o).append_left l;exact this.trans List.perm_middle
theorem eH(l:List Lab):(pG l).Perm l:=by
 have:=(pF l []).1
 rwa[List.append_nil]at this
theorem nK(l:List Lab):(pG l).Pairwise leL:=(pF l []).2 .nil
theorem pC{l l':List Lab}(hp:l.Perm l')(h:l.Pairwise leL)(h':l'.Pairwise leL):l=l':=
 List.Perm.eq_of_pairwise (le:=leL) (fun a b _ _ h1 h2=>qo h1 h2) h h' hp
theorem xu{l l':List Lab}(hp:l.Perm l')(h:l.Pairwise leL):pG l'=l:=(pC (hp.trans (eH l').symm) h (nK l')).symm
theorem vq(l:List Lab):(pG l).length=l.length:=(eH l).length_eq
theorem vW(l:List Rw):(cF l).length<=l.length:=by
 unfold cF;rw[List.length_map];exact List.length_filter_le _ _
theorem sf(l:List Rw):(I9 l).length<=l.length:=by
 unfold I9;rw[vq];exact vW l
abbrev dy(A:Option Addr)(n c:Nat)(g:Nat->Lab):AV:=.sl none A n c 2 (fun t=>M6 (g t))
def R3(l:List Lab):Nat->Lab:=fun t=>l.getD t ⟨0,0⟩
def vZ(g:Nat->Lab)(p:Nat)(x:Lab):Nat->Lab:=fun i=>if i=p then x else g i
theorem kx(f:Nat->B1)(i:Nat):cF (G5 f (i+1))=cF (G5 f i)++(if(f i).x.r.kd=1 then [(f i).lab]else []):=by
 show cF (Q4 B1.abs f (i+1))=cF (Q4 B1.abs f i)++_
 rw[kw];unfold cF;rw[List.filter_append,List.map_append]
 congr 1
 by_cases h:(f i).x.r.kd=1
 .simp [B1.abs,RN.abs,h]
 simp[B1.abs,RN.abs,h]
theorem yC(g:Nat->Lab)(q:Nat)(x:Lab):(List.range (q+1)).map (vZ g q x)=(List.range q).map g ++ [x]:=by
 rw[List.range_succ,List.map_append]
 congr 1
 .apply List.map_congr_left
  intro t ht;have:=List.mem_range.1 ht;unfold vZ;rw[if_neg (by omega)]
 simp[vZ]
theorem qq(a b:Lab):cG a b=J9 a b:=by
 rw[Bool.eq_iff_iff,dZ];simp[J9]
theorem sg{l:List Rw}{h h':Nat->Lab}{k:Nat}(hl:(List.range k).map h=cF l)(hp:((List.range k).map h').Perm ((List.range k).map h))(hs:∀i j,i<j->j<k->cG (h' j) (h' i)=false):I9 l=(List.range k).map h':=by
 unfold I9;rw[<-hl];refine xu hp ?_;rw[List.pairwise_map];refine List.Pairwise.imp_of_mem ?_ (List.pairwise_lt_range (n:=k));intro a b ha hb hab;unfold leL;rw[<-qq];exact hs a b hab (List.mem_range.1 hb)
theorem yP{h:Nat->Lab}{k t:Nat}(ht:t<k):R3 ((List.range k).map h) t=h t:=by
 unfold R3;simp[List.getD_eq_getElem?_getD,ht]
theorem zt:o3 Tryz.prog 81:=fun _ _=>by kernel_rfl
theorem yK(A:Option Addr)(n c:Nat)(f:Nat->B1)(hn:n<=100000):l7 Tryz.prog 30 [aT A n c f] (fun y=>dy (y.A 0) (I9 (G5 f n)).length (y.c 0) (R3 (I9 (G5 f n)))):=by
 intro m w hm hargs;have hmx:maxLen=9223372036854775807:=rfl;refine en 25 hm hargs Tryz.func30 fun B O a0 Z=>?_
 refine a7 (rg O a8 [0] [] [] Z fun X0 a0 w1 Z=>?_);refine a7 (rg O a8 [3,0] [3] [] Z fun X1 a0 w1 Z=>?_);refine a7 (a7 (rg O a8 [3,8,6,7] [3] [] Z fun X2 a0 w1 Z=>?_));replace Z:=Z.headS (v':=.sl (some 3) none 0 0 2 (fun t=>M6 ⟨0,0⟩)) (zq0) rfl;refine j0 (r9 (ι:=Nat×Nat×(Nat->Lab)×Option Addr×Nat) (fun p=>[(3,.sl (some 3) p.2.2.2.1 p.2.1 p.2.2.2.2 2 (fun t=>M6 (p.2.2.1 t))),(8,.int .i64 (p.1:Int))]) (fun p=>[]) (fun p=>[(3,⟨p.2.2.2.1,p.2.1,p.2.2.2.2,2,24⟩)]) (fun p=>p.1<=n/\p.2.1<=p.1/\(List.range p.2.1).map p.2.2.1=cF (G5 f p.1)) (fun p=>n-p.1) (0,0,fun _=>⟨0,0⟩,none,0) ⟨Nat.zero_le _,Nat.le_refl _,rfl⟩ Z ?_)
 rintro⟨i,q,g,A1,c1⟩ ⟨hi,hq,hg⟩ a0 w1 Z
 try dsimp only at hi
 try dsimp only at hq
 try dsimp only at hg
 refine a7 (rg O a8 [9,3,8,6,7] [3] [] Z fun X3 a0 w1 Z=>?_);refine a7 (d7 Z rfl (fun hb Z=>?_) (fun hb Z=>?_))
 .have hin:i<n:=by
   have:(i:Int)<(n:Int):=by subst O;simpa[std,b7]using hb
   omega
  refine f9 (a7 (j0 (a7 ?_)));refine rg O a8 [5,3,8,6,7] [5,3] [] Z (hob:=by intro X;subst O;simp only[f8,Ob.holds,BE.den]<;>and_intros<;>repeat first|trivial|rfl|exact(show(0:Int)<=(i:Int)by omega)|exact(show(i:Int)<(n:Int)by omega)|exact(fun _ _=>by kernel_rfl)|refine⟨?_,?_⟩|intro h|exact Int.le_refl _|decide|omega) fun X4 a0 w1 Z=>?_
  replace Z:=Z.memS (cells':=G2 (f i)) (by subst O;exact zl);refine a7 (rg O a8 [15,5,3,8,6,7] [5,3] [] Z fun X5 a0 w1 Z=>?_);apply d7 Z rfl<;>intro hb Z
  .have hk:(f i).x.r.kd=1:=by subst O;simpa[std,b7]using hb
   refine rg O a8 [3,8,6,7] [3] [] Z (hob:=?hob) fun X6 a0 w1 Z=>?_
   case hob=>
    intro X;subst O
    repeat(first|exact trivial|refine⟨⟨rfl,rfl,rfl⟩,?_⟩|refine⟨rfl,?_⟩|refine⟨⟨show q+1<=maxLen by omega,show(q+1)*_<=_ by omega⟩,?_⟩)
   replace Z:=Z.headS (v':=.sl (some 3) ((X6 4).A 0) (B.nadd q 1) ((X6 4).c 0) 2 (fun t=>M6 (vZ g q (f i).lab t))) (Sim.resl rfl (fun t ht=>by
    subst O;have ht2:t<q+1:=ht
    show B8 q (fun t=>M6 (g t)) (B0 2 [.int .i64 (f i).lab.len,.int .u64 (f i).lab.bits]) t=_
    unfold B8 vZ
    split
    .rw [if_neg (by omega)]
    have:t=q:=by omega
    subst this;simp[B0,M6])) rfl
   refine rg O a8 [3,8,6,7] [3] [] Z fun X7 a0 w1 Z=>?_
   have e:B.arith .add .i64 (i:Int) 1=((i+1:Nat):Int):=by subst O;exact j7 (n:=n) hin (by omega)
   refine⟨(i+1,q+1,vZ g q (f i).lab,_,_),⟨by simp only;omega,by simp only;omega,?_⟩,by simp only;omega,by rw[<-e,show q+1=B.nadd q 1 by subst O;rfl];exact Z⟩
   simp only;rw[yC,hg,kx,if_pos hk]
  have hk:¬(f i).x.r.kd=1:=by subst O;simpa[std,b7]using hb
  refine f9 (rg O a8 [3,8,6,7] [3] [] Z fun X7 a0 w1 Z=>?_);have e:B.arith .add .i64 (i:Int) 1=((i+1:Nat):Int):=by subst O;exact j7 (n:=n) hin (by omega)
  refine⟨(i+1,q,g,_,_),⟨by simp only;omega,by simp only;omega,?_⟩,by simp only;omega,by rw[<-e];exact Z⟩;simp only;rw[hg,kx,if_neg hk,List.append_nil]
 have hout:i=n:=by
  have:¬(i:Int)<(n:Int):=by subst O;simpa[std,b7]using hb
  omega
 rw[hout]at hg;refine o4 (a7 (wp_region_lit (lpr 0 1 O a8 [22,3] [3] [] Z fun X8_0 a0 w1 Z=>?_)));obtain⟨_,xs,hO⟩:=Z.gr 3 ⟨A1,q,c1,2,24⟩ rfl;have hs3:=Z.slot 3 rfl;have hk3:Ok _ w1 (.sl (some 3) A1 q c1 2 (fun t=>M6 (g t))):=hs3.2;have hd3:a0.tmps[3]? = some (AV.sl (some 3) A1 q c1 2 (fun t=>M6 (g t))).den:=hs3.1;have hfl:=pY hO hk3;rw[hfl]at hO;have hO:Own w1 w.heap.size 24 2 (.slice A1 q c1) q (i7 (fun t=>M6 (g t)) q):=hO;refine kr rfl rfl rfl rfl rfl Z rfl rfl zt (fun w'=>∃h':Nat->Lab,((List.range q).map h').Perm ((List.range q).map g)/\(∀i j,i<j->j<q->cG (h' j) (h' i)=false)/\Own w' w.heap.size 24 2 (.slice A1 q c1) q (i7 (fun t=>M6 (h' t)) q)) ((vp hO (by omega)).mono ?_) ?_
 .rintro e w2 ⟨he,h',g1,g2,g3,g4⟩
  exact⟨he,⟨h',g1,g2,g3⟩,g4⟩
 rintro w2 ⟨h',g1,g2,g3⟩ g4
 have hfin:=sg hg g1 g2;have hF2:=f7.sorted Z g4 (l':=[(3,.sl none A1 q c1 2 (fun t=>M6 (h' t)))]) (fun x hx=>?hl) (fun x e he v hv=>?hm)
 case hl=>
  by_cases hx3:x=3
  .subst hx3
   refine⟨hd3,vJ g3 (fun _ _=>rfl) (f7.notM Z) (fun i hi v hv=>?_) none⟩;simp only[M6,List.mem_cons,List.not_mem_nil,or_false]at hv
   rcases hv with rfl|rfl<;>exact⟨rfl,.int _ _⟩
  have:look [(3,AV.sl none A1 q c1 2 (fun t=>M6 (h' t)))] x = .undef:=by rw[u5,if_neg (fun e=>hx3 e.symm)];rfl
  rw[this]at hx;cases hx
 case hm=>cases he
 have Z:f7 _ _ (a0.put (some 23) (.tuple #[])) w2:=hF2.put (some 23) (fun t ht=>by injection ht with ht;subst ht;exact Nat.le_of_ble_eq_true rfl) (.tup []) (fun _=>.tup _ fun u hu=>by cases hu) _ fun _=>rfl
 refine wpList_nil (a7 (rg O a8 [2] [2,3,20] [] Z fun X9 a0 w1 Z=>?_));refine j2 ((rsi O a8 Z (⟨0,fun _=>A1,fun _=>c1,fun _=>⟨#[]⟩⟩) (he:=?_)));subst O;rw[hfin,List.length_map,List.length_range];exact Sim.resl rfl (fun t ht=>by rw[yP ht])
def iQ(R:GP):List Lab:=if R.st=2 then R.ls else []
abbrev XG(x:j1)(A:Option Addr)(c:Nat):j1:=⟨x.b,fun i=>if i=3 then A else x.A i,fun i=>if i=3 then c else x.c i,x.s⟩
theorem za{r:Rsl}{n:Nat}{e:Int}{L:Shf}{k:Int}{ls:List Lab}:iQ ⟨2,r,n,e,L,k,ls⟩=ls:=rfl
theorem DP{g:Option Nat}{x:j1}{A:Option Addr}{n c:Nat}{f:Nat->Lab}:Sim (.sl g A n c 2 (fun t=>M6 (f t))) (dy ((XG x A c).A 3) n ((XG x A c).c 3) f):=Sim.recell (fun _ _=>rfl)
theorem BT(l:Lab)(h:o9 l):U64 l.bits:=by
 have:=h.2;simp[Lit.wf,IntKind.min,IntKind.max,IntKind.signed,IntKind.bits]at this;exact⟨by omega,by omega⟩
theorem kC(ls:List Lab)(l:Lab)(t:Nat):R3 (ls ++ [l]) t=if t<ls.length then R3 ls t else if t=ls.length then l else⟨0,0⟩:=by
 unfold R3
 by_cases h:t<ls.length
 .rw [if_pos h];simp[List.getD,List.getElem?_append_left h]
 rw[if_neg h]
 by_cases h2:t=ls.length
 .rw [if_pos h2];subst h2;simp[List.getD]
 rw[if_neg h2];simp[List.getD,List.getElem?_append_right (show ls.length<=t by omega),show t-ls.length≠0 by omega]
theorem IC(n:Nat)(L:Shf)(k:Int):L=ax [] n L/\k=lU [] n L k:=by
 unfold ax lU;exact⟨(if_neg (Nat.not_lt_zero _)).symm,(if_neg (Nat.not_lt_zero _)).symm⟩
theorem kY:o3 Tryz.prog 19:=fun _ _=>by kernel_rfl
theorem xC(b bM:Nat)(J:l4)(hJ:bG J)(hRJ:aB J)(f2:Nat->F7)(L:Shf)(hL:cR L)(k:Int):I5 Tryz.prog 19 [.ptr 0 b 0,U0 J,.sl none none 0 0 15 (fun i=>V6 (f2 i))] [(0,⟨b,95,[.raw (.map (some bM)),.int .i64 k]⟩)] (some bM) (shK bM L) (fun y=>⟨.tup [nV y (C5 (z6 J) [] 2001 [] L k []).res,dy (y.A 3) (iQ (C5 (z6 J) [] 2001 [] L k [])).length (y.c 3) (R3 (iQ (C5 (z6 J) [] 2001 [] L k []))),.bool (.v (decide ((C5 (z6 J) [] 2001 [] L k []).st=2 \/ (C5 (z6 J) [] 2001 [] L k []).st=4/\(C5 (z6 J) [] 2001 [] L k []).err=12)))],[(0,[.raw (.map (some bM)),.int .i64 (C5 (z6 J) [] 2001 [] L k []).k])],[]⟩) (fun _ _=>shK bM (C5 (z6 J) [] 2001 [] L k []).L):=by
 intro m w hm hargs hpre hI;have hmx:maxLen=9223372036854775807:=rfl;have hmp:=C1 hI;have hNx:GS (z6 J):=tL;obtain⟨RQ,hRQ⟩:=eqv (C5 (z6 J) [] 2001 [] L k []);rw[<-hRQ]at ⊢;refine enM (bo:=some bM) 74 hm hpre hI hargs Tryz.func19 fun B O a0 Z=>?_
 refine a6 [0,2,4,6] [0,4,6] Z fun X0 Z=>?_
 refine a6 [9,0,2,4,6] [0,4,6,9,72] Z fun X1 Z=>?_
 replace Z:=Z.headS (v':=.sl (some 9) none 0 0 8 (fun t=>N9 (F1 G4))) (zq0) rfl;refine a6 [10,9,0,2,4,6] [0,4,6,9,10,68,72] Z fun X2 Z=>?_
 replace Z:=Z.headS (v':=.sl (some 10) none 0 0 2 (fun t=>M6 (R3 [] t))) (zq0) rfl;refine a7 (a6 [9,10,11,0,2,4,6] [0,4,6,9,10,68,72] Z fun X3 Z=>?_);refine j0 (aX (ι:=Nat×(Nat->r5)×Option Addr×Nat×Shf×Int×List Got×List Lab×Option Addr×Nat×Nat) (fun q=>shK bM q.2.2.2.2.1) (fun q=>[(9,.sl (some 9) q.2.2.1 q.1 q.2.2.2.1 8 (fun t=>N9 (q.2.1 t))),(10,.sl (some 10) q.2.2.2.2.2.2.2.2.1 q.2.2.2.2.2.2.2.2.2.2 q.2.2.2.2.2.2.2.2.2.1 2 (fun t=>M6 (R3 q.2.2.2.2.2.2.2.1 t))),(11,.int .i64 (q.1:Int))]) (fun q=>[(0,⟨b,95,[.raw (.map (some bM)),.int .i64 q.2.2.2.2.2.1]⟩)]) (fun q=>[(9,⟨q.2.2.1,q.1,q.2.2.2.1,8,53⟩),(10,⟨q.2.2.2.2.2.2.2.2.1,q.2.2.2.2.2.2.2.2.2.2,q.2.2.2.2.2.2.2.2.2.1,2,24⟩)]) (fun q=>q.1<=2001/\cR q.2.2.2.2.1/\(∀j,j<q.1->InG (q.2.1 j))/\q.2.2.2.2.2.2.1.length=q.1/\lJ q.2.2.2.2.2.2.1 q.2.1/\RQ=C5 (z6 J) [] (2001-q.1) q.2.2.2.2.2.2.1 q.2.2.2.2.1 q.2.2.2.2.2.1 q.2.2.2.2.2.2.2.1/\q.2.2.2.2.2.2.2.1.length=q.2.2.2.2.2.2.2.2.2.2/\q.2.2.2.2.2.2.2.2.2.2<=q.1) (fun q=>2001-q.1) (0,fun _=>F1 G4,none,0,L,k,[],[],none,0,0) ⟨Nat.zero_le _,hL,fun j hj=>absurd hj (Nat.not_lt_zero _),rfl,lJ.nil,hRQ,rfl,Nat.le_refl _⟩ Z ?_)
 rintro⟨i,fz,A1,c1,Lc,kc,gs,ls,AL,cL,nl⟩ ⟨hi,hg,hal,hgl,hlie,hrun,hnl,hll⟩ _ _ Z
 try dsimp only at hi
 try dsimp only at hg
 try dsimp only at hal
 try dsimp only at hgl
 try dsimp only at hlie
 try dsimp only at hrun
 try dsimp only at hnl
 try dsimp only at hll
 replace Z:=Z.withK (K':=shK bM Lc) Z.kept;refine a7 (a6 [17,0,2,4,6,9,10,11] [0,4,6,9,10,68,72] Z fun X4 Z=>?_);apply d7 Z rfl<;>intro hb Z
 .have hi0:i<2001:=by
   have:(i:Int)<=2000:=by subst O;simpa[std,b7]using hb
   omega
  obtain⟨m0,hm0⟩:∃m,2001-i=m+1:=⟨2000-i,by omega⟩
  rw[hm0]at hrun;have hwo:=hNx.ok i fz hal;obtain⟨W9,hW9⟩:=eqv ((z6 J i fz).1);obtain⟨E9,hE9⟩:=eqv ((z6 J i fz).2);obtain⟨rr9,hrr9⟩:=eqv (W9.r.rn);obtain⟨nn9,hnn9⟩:=eqv (W9.res.items.length);obtain⟨ff9,hff9⟩:=eqv (itF W9.res.items);have T9:=l7.wq (dj J hJ hRJ A1 i c1 fz (by omega) hal) hW9 hE9 hrr9 hnn9 hff9;rw[<-hW9]at hwo;have S9:l7 Tryz.prog 12 [U0 J,.sl (some 9) A1 i c1 8 (fun t=>N9 (fz t))] (fun x=>.tup [E8 (wqB x W9 rr9 nn9 ff9),.int .i64 E9]):=T9.sim ⟨zr,Sim.recell (fun _ _=>rfl),trivial⟩;have hq9:z6 J gs.length (ay gs)=(W9,E9):=by
   rw[<-hlie.next hNx.er,hgl,hW9,hE9]
  have O1:=S9;refine f9 (a7 (j0 (j6 [0,2,4,6,9,10,11,12,13] [0,4,6,9,10,12,68,72] [(2,.r fun x=>.tup [.agg [.int .i64 W9.kind,.int .i64 W9.lab.len,.int .u64 W9.lab.bits,.int .u64 W9.ver,.int .i64 rr9.kd,.sl none (x.A 1) rr9.n (x.c 1) 2 (fun i=>itC (rr9.f i)),.int .i64 rr9.nx.len,.int .u64 rr9.nx.bits,.int .u64 rr9.mrk,.int .i64 W9.res.code,.bool (.v W9.res.had),.str W9.res.val,.sl none (x.A 2) nn9 (x.c 2) 2 (fun i=>itC (ff9 i)),.int .u64 W9.res.key,.bool (.v W9.res.more)],.int .i64 E9])] Z fun X6 Z=>?_)));refine a7 (a6 [27,0,2,4,6,9,10,11,12] [0,4,6,9,10,12,68,72] Z fun X7 Z=>?_);apply d7 Z rfl<;>intro hb Z
  .have he:E9≠0:=by subst O;simpa[std,b7]using hb
   have hq:RQ=⟨1,Y0,gs.length,0,Lc,kc,ls⟩:=by rw[hrun];exact tF hq9 he
   refine a6 [6,7,8] [0,6,7,10,68] Z fun X8 Z=>?_
   refine j2 ((rm O a8 Z (⟨0,fun _=>none,fun _=>0,fun _=>.empty⟩) [] (hmap:=?_) (he:=?_) (hs:=?_) (hJ:=?_)).1)
   .intro b hb;cases hb;exact⟨hmp,fun m h=>C1 h⟩
   .rw [hq];subst O
    exact Sim.tup ⟨Sim.agg ⟨zr,zr,zr,zq0,zr,zr,trivial⟩,zq0,zr,trivial⟩
   .rw [hq];subst O;exact⟨rfl,⟨_,rfl,zl⟩,trivial⟩
   rw[hq];exact fun _ _ h=>h
  have he:E9=0:=by subst O;simpa[std,b7]using hb
  rw[he]at hq9;refine f9 (a7 (a6 [31,0,2,4,6,9,10,11,12] [0,4,6,9,10,12,68,72] Z fun X9 Z=>?_));apply d7 Z rfl<;>intro hb Z
  .have hk4:W9.kind=4:=by subst O;simpa[std,b7]using hb
   have hq:RQ=⟨2,W9.res,gs.length,0,Lc,kc,ls⟩:=by rw[hrun];exact df hq9 hk4
   refine a6 [6,7,8] [0,6,7,10,68] Z fun X10 Z=>?_
   refine j2 ((rm O a8 Z ((XG (X6 2) AL cL)) [] (hmap:=?_) (he:=?_) (hs:=?_) (hJ:=?_)).1)
   .intro b hb;cases hb;exact⟨hmp,fun m h=>C1 h⟩
   .rw [hq];subst O
    rw[show nn9=W9.res.items.length from hnn9,show ff9=itF W9.res.items from hff9];rw[za,hnl];exact Sim.tup ⟨zr,DP,zr,trivial⟩
   .rw [hq];subst O;exact⟨rfl,⟨_,rfl,zl⟩,trivial⟩
   rw[hq];exact fun _ _ h=>h
  have hk4:¬W9.kind=4:=by subst O;simpa[std,b7]using hb
  refine f9 (a7 (a6 [38,0,2,4,6,9,10,11,12] [0,4,6,9,10,12,68,72] Z fun X11 Z=>?_));apply d7 Z rfl<;>intro hb Z
  .exfalso
   have h9:(i:Int)<0:=by subst O;simpa[std,b7]using hb
   omega
  obtain⟨hb1,hb2⟩:=IC gs.length Lc kc;refine f9 (a7 (wp_region_lit (lpr 0 2 O a8 [46,47,9,10,11,12,0,2,4,6] [0,4,6,9,10,12] [] Z fun X13_0 _ _ Z=>?_)));have SD:=Cn 0 b bM Lc (by have:=hg.ok.len;omega) kc (wqB (X6 2) W9 rr9 nn9 ff9) (by show rr9.n<=_;rw[hrr9];have:=hwo.r.few;show W9.r.items.length<=_;omega) hwo.lab.wf hwo.lab.u (by show U64 rr9.nx.bits;rw[hrr9];exact hwo.r.nx)
  obtain⟨D2,hD2⟩:=eqv (doL Lc (F7.abs (wqB (X6 2) W9 rr9 nn9 ff9)));rw[<-hD2]at SD;obtain⟨GG2,hGG2⟩:∃G:j1->r5,G=fun y=>ba y D2.got:=⟨_,rfl⟩
  have hGf2:∀y,ba y D2.got=GG2 y:=fun y=>by rw[hGG2]
  simp only[hGf2]at SD;obtain⟨k2,hk2⟩:=eqv ((if D2.wrote then IntKind.i64.wrap (kc+1)else kc));rw[<-hk2]at SD;obtain⟨er2,her2⟩:=eqv (D2.err);rw[<-her2]at SD;obtain⟨L2,hL2⟩:=eqv (D2.L);rw[<-hL2]at SD;refine E3 rfl rfl rfl rfl Z rfl rfl gm SD (fun _ _ h=>h) (fun b hb=>by cases hb;exact fun _=>.inr rfl) ⟨zr,Sim.agg (by repeat(first|exact trivial|refine⟨zr,?_⟩|refine⟨Sim.ff,?_⟩|refine⟨zq0,?_⟩)),trivial⟩ (by intro e he;simp only[List.mem_singleton]at he;subst he;rfl) rfl rfl (fun _=>shK bM L2) (fun _ _ _ _ _ _ _ _ _ h=>h) ?_;intro y _ _ Z;obtain⟨g2,hg2⟩:=eqv (GG2 y);rw[<-hg2]at Z;replace Z:=Z.withK (K':=shK bM L2) Z.kept;have hga2:g2.abs=D2.got:=by rw[hg2,<-hGf2,fV]
  have hg2x:=hg2;have hra:rr9.abs=W9.r:=by rw[hrr9,Z4]
  have hD2w:D2=doL Lc (r8 W9):=by
   rw[hD2];unfold F7.abs wqB r8;simp only[hra]
  have hgd:cR D2.L/\U64 D2.got.ver/\Q5 D2.got.r:=by
   rw[hD2w];exact bw hg ⟨hwo.lab.wf,hwo.r.nx,hwo.r.key⟩
  have hgi:InG g2:=oD hga2 hgd.2.1 hgd.2.2;have hg2:cR L2:=by rw[hL2];exact hgd.1
  have hge:g2.er=F1 D2.got:=by rw[hg2x,<-hGf2];rfl
  refine lnd 3 O a8 [0,2,4,6,9,10,11,12,14,15] [0,4,6,9,10,12,14,68,72] [] Z fun X13 _ _ Z=>?_
  refine a7 (a6 [52,0,2,4,6,9,10,11,12,14,15] [0,4,6,9,10,12,14,68,72] Z fun X14 Z=>?_);apply d7 Z rfl<;>intro hb Z
  .have he1:er2≠0:=by subst O;simpa[std,b7]using hb
   have hq:RQ=⟨4,Y0,gs.length,D2.err,L2,k2,ls⟩:=by rw[hrun,hL2,hk2];exact fE hq9 hk4 hb1 hb2 hD2w (by rw[<-her2];exact he1)
   refine a6 [6,7,8] [0,6,7,10,68] Z fun X15 Z=>?_
   refine j2 ((rm O a8 Z (⟨0,fun _=>none,fun _=>0,fun _=>.empty⟩) [] (hmap:=?_) (he:=?_) (hs:=?_) (hJ:=?_)).1)
   .intro b hb;cases hb;exact⟨hmp,fun m h=>C1 h⟩
   .rw [hq];subst O
    exact Sim.tup ⟨Sim.agg ⟨zr,zr,zr,zq0,zr,zr,trivial⟩,zq0,Sim.bool (by simp[std,b7,BE.den,ly,<-her2];rfl),trivial⟩
   .rw [hq];subst O;exact⟨rfl,⟨_,rfl,zl⟩,trivial⟩
   rw[hq];exact fun _ _ h=>h
  have he1:er2=0:=by subst O;simpa[std,b7]using hb
  have hrun2:=hrun.trans (fD hq9 hk4 hb1 hb2 hD2w (by rw[<-her2];exact he1));rw[<-hL2,show m0=2001-(i+1)by omega,show rv D2 kc=k2 from hk2.symm]at hrun2;refine f9 (a7 (a6 [63,0,2,4,6,9,10,11,12,14] [0,4,6,9,10,12,14,68,72] Z fun X16 Z=>?_));apply d7 Z rfl<;>intro hb Z
  .have hgt:ao ls W9.lab D2.got=ls ++ [W9.lab]:=by
    unfold ao;rw[if_pos];rw[<-hga2];have h9:(g2.has&&decide (g2.x.r.kd=1))=true:=by subst O;simpa[std,b7]using hb
    exact h9
   rw[hgt]at hrun2;have O4:nl+1<=maxLen:=by omega
   have O5:(nl+1)*16<=140737488355328:=by omega
   refine j5 [10,9,11,0,2,4,6,14] [0,4,6,9,10,14,68,72] Z fun X17 Z=>?_
   replace Z:=Z.headS (v':=.sl (some 10) ((X17 4).A 0) (B.nadd nl 1) ((X17 4).c 0) 2 (fun t=>M6 (R3 (ls ++ [W9.lab]) t))) (Sim.resl rfl (fun t ht=>by
    subst O;have ht2:t<nl+1:=ht
    show B8 nl (fun t=>M6 (R3 ls t)) (B0 2 (M6 W9.lab)) t=_
    unfold B8;rw[kC,hnl]
    split
    .rfl
    have:t=nl:=by omega
    subst this;simp[B0])) rfl
   have O4:i+1<=maxLen:=by omega
   have O5:(i+1)*80<=140737488355328:=by omega
   refine j5 [9,10,11,0,2,4,6] [0,4,6,9,10,68,72] Z fun X18 Z=>?_
   replace Z:=Z.headS (v':=.sl (some 9) ((X18 3).A 0) (B.nadd i 1) ((X18 3).c 0) 8 (fun t=>N9 (if t=i then g2 else fz t))) (Sim.resl rfl (fun t ht=>by
    subst O;have ht2:t<i+1:=ht
    show B8 i (fun t=>N9 (fz t)) (B0 8 (N9 g2)) t=_
    unfold B8
    split
    .rw [if_neg (by omega)]
    have:t=i:=by omega
    subst this;rw[if_pos rfl];simp[B0])) rfl
   refine j5 [9,10,11,0,2,4,6] [0,4,6,9,10,68,72] Z fun X5 Z=>?_
   have e:B.arith .add .i64 (i:Int) 1=((i+1:Nat):Int):=by subst O;exact j7 (n:=2001) (by omega) (by omega)
   refine⟨(i+1,fun t=>if t=i then g2 else fz t,_,_,L2,k2,gs ++ [D2.got],(ls ++ [W9.lab]),_,_,(nl+1)),⟨by simp only;omega,hg2,fun j hj=>?_,by simp[hgl],?_,hrun2,by simp[hnl],by simp only;omega⟩,by simp only;omega,by rw[<-e,show i+1=B.nadd i 1 by subst O;rfl,show nl+1=B.nadd nl 1 by subst O;rfl];exact Z⟩
   .by_cases hji:j=i
    .simp only[if_pos hji];exact hgi
    simp only[if_neg hji];exact hal j (by have h9:j<i+1:=hj;omega)
   have:=hlie.add hge;rw[hgl]at this;exact this
  have hgt:ao ls W9.lab D2.got=ls:=by
   unfold ao;rw[if_neg];rw[<-hga2];have h9:(g2.has&&decide (g2.x.r.kd=1))=false:=by subst O;simpa[std,b7]using hb
   exact fun h=>absurd (h.symm.trans h9) (by decide)
  rw[hgt]at hrun2;refine f9 ?_;have O4:i+1<=maxLen:=by omega
  have O5:(i+1)*80<=140737488355328:=by omega
  refine j5 [9,10,11,0,2,4,6] [0,4,6,9,10,68,72] Z fun X18 Z=>?_
  replace Z:=Z.headS (v':=.sl (some 9) ((X18 3).A 0) (B.nadd i 1) ((X18 3).c 0) 8 (fun t=>N9 (if t=i then g2 else fz t))) (Sim.resl rfl (fun t ht=>by
   subst O;have ht2:t<i+1:=ht
   show B8 i (fun t=>N9 (fz t)) (B0 8 (N9 g2)) t=_
   unfold B8
   split
   .rw [if_neg (by omega)]
   have:t=i:=by omega
   subst this;rw[if_pos rfl];simp[B0])) rfl
  refine j5 [9,10,11,0,2,4,6] [0,4,6,9,10,68,72] Z fun X5 Z=>?_
  have e:B.arith .add .i64 (i:Int) 1=((i+1:Nat):Int):=by subst O;exact j7 (n:=2001) (by omega) (by omega)
  refine⟨(i+1,fun t=>if t=i then g2 else fz t,_,_,L2,k2,gs ++ [D2.got],ls,_,_,nl),⟨by simp only;omega,hg2,fun j hj=>?_,by simp[hgl],?_,hrun2,by simp[hnl],by simp only;omega⟩,by simp only;omega,by rw[<-e,show i+1=B.nadd i 1 by subst O;rfl];exact Z⟩
  .by_cases hji:j=i
   .simp only[if_pos hji];exact hgi
   simp only[if_neg hji];exact hal j (by have h9:j<i+1:=hj;omega)
  have:=hlie.add hge;rw[hgl]at this;exact this
 have hi0:i=2001:=by
  have:¬(i:Int)<=2000:=by subst O;simpa[std,b7]using hb
  omega
 have hq:RQ=⟨0,Y0,gs.length,0,Lc,kc,ls⟩:=by rw[hrun,hi0];rfl
 refine o4 (a6 [6,7,8] [0,6,7,10,68] Z fun X19 Z=>?_);refine j2 ((rm O a8 Z (⟨0,fun _=>none,fun _=>0,fun _=>.empty⟩) [] (hmap:=?_) (he:=?_) (hs:=?_) (hJ:=?_)).1)
 .intro b hb;cases hb;exact⟨hmp,fun m h=>C1 h⟩
 .rw [hq];subst O
  exact Sim.tup ⟨Sim.agg ⟨zr,zr,zr,zq0,zr,zr,trivial⟩,zq0,zr,trivial⟩
 .rw [hq];subst O;exact⟨rfl,⟨_,rfl,zl⟩,trivial⟩
 rw[hq];exact fun _ _ h=>h
theorem tG(k0:Nat)(b bM:Nat)(J:l4)(hJ:bG J)(hRJ:aB J)(f2:Nat->F7)(L:Shf)(hL:cR L)(k:Int):I5 Tryz.prog 19 [.ptr k0 b 0,U0 J,.sl none none 0 0 15 (fun i=>V6 (f2 i))] [(k0,⟨b,95,[.raw (.map (some bM)),.int .i64 k]⟩)] (some bM) (shK bM L) (fun y=>⟨.tup [nV y (C5 (z6 J) [] 2001 [] L k []).res,dy (y.A 3) (iQ (C5 (z6 J) [] 2001 [] L k [])).length (y.c 3) (R3 (iQ (C5 (z6 J) [] 2001 [] L k []))),.bool (.v (decide ((C5 (z6 J) [] 2001 [] L k []).st=2 \/ (C5 (z6 J) [] 2001 [] L k []).st=4/\(C5 (z6 J) [] 2001 [] L k []).err=12)))],[(k0,[.raw (.map (some bM)),.int .i64 (C5 (z6 J) [] 2001 [] L k []).k])],[]⟩) (fun _ _=>shK bM (C5 (z6 J) [] 2001 [] L k []).L):=
 (xC b bM J hJ hRJ f2 L hL k).re (by repeat(first|exact trivial|refine⟨Sim.ptr,?_⟩|refine⟨Sim.fn ⟨Sim.ptr,trivial⟩ trivial,?_⟩|refine⟨Sim.fn trivial ⟨Sim.ptr,trivial⟩,?_⟩|refine⟨zr,?_⟩)) rfl (fun x=>⟨rfl,rfl,zr,rfl⟩)
theorem Z6{m:Nat->Nat->Prop}{w:World}{B e k:Nat}{A:Option Addr}{n c:Nat}{f:Nat->List AV}(hO:Own w B e k (.slice A n c) n (i7 f n))(hk:∀i,i<n->(f i).length=k)(hm:∀b,s9 (.slice A n c)=some b->∀o,o<n*k-> ¬m b o)(h1:∀i,i<n->∀v∈f i,v.one=true/\Ok m w v)(g:Option Nat):Ok m w (.sl g A n c k f):=by
 obtain⟨A',c',he,h2,h3⟩:=hO.isSlice;injection he with e1 e2 e3;subst e3
 refine .sl _ _ _ _ _ _ h2 h3 hk (fun i hi=>?_) (fun i hi=>?_) (fun i hi v hv=>(h1 i hi v hv).1) (fun i hi v hv=>(h1 i hi v hv).2)
 .obtain ⟨b,hA,_⟩:=J6 hO (by omega)
  exact⟨b,0,hA⟩
 obtain⟨b,hA,hb⟩:=J6 hO (by omega);intro j u hu;have hj:j<k:=by
  have:=(List.getElem?_eq_some_iff.1 hu).1
  rwa[List.length_map,hk i hi]at this
 have hget:=A5 (cells:=f) hk hi hj;rw[hu]at hget;refine⟨b,0,hA,by rw[Nat.zero_add];exact K3 hO hb _ u hget,hm b hb _ ?_⟩;have:=Nat.mul_le_mul_right k (Nat.succ_le_of_lt hi);rw[Nat.succ_mul]at this;omega
section
variable {m0:Nat->Nat->Prop} {w0 w w':World} {S:Nat->Prop} {ds:List Deferred} {K K':Kn} {nt key:Nat} {t:Gr} {l l':List (Nat×AV)} {mem:List (Nat×Blk)} {a:Act}
abbrev mG(m0:Nat->Nat->Prop)(mem:List (Nat×Blk))(gr:List (Nat×Gr)):Nat->Nat->Prop:=St.m ⟨0,[],[],mem,gr⟩ ⟨m0,default,fun _=>False,[],noK⟩
theorem f7.rowset(h:f7 ⟨m0,w0,S,ds,K⟩ ⟨nt,l,[],mem,[(key,t)]⟩ a w)(hc:Chg (fun x=>s9 t.v=some x) w w'){xs':List Value}(hO:Own w' w0.heap.size t.e t.k t.v t.n xs')
  (hl:∀x,(look l' x).known=true->a.tmps[x]? = some (look l' x).den/\Ok (mG m0 mem [(key,t)]) w' (look l' x)) (hm:∀k e,i8 mem k=some e->∀v∈e.cells,Ok (mG m0 mem [(key,t)]) w' v) (hK:K'.p (mG m0 mem [(key,t)]) w'):f7 ⟨m0,w0,S,ds,K'⟩ ⟨nt,l',[],mem,[(key,t)]⟩ a w':=by
 have hlt:∀b,s9 t.v=some b->w0.heap.size<=b:=fun b hb=>by
  obtain⟨_,xs,ho⟩:=h.gr key t (by simp[i8]);exact(ho.lt b hb).1
 refine⟨h.size,h.defers,hl,(fun t p v hg=>by cases hg),fun k e he=>?_,h.nodup,fun k t' ht=>?_,h.sepm,h.sepg,?_,h.m0,hK⟩
 .obtain ⟨h1,h2,h3⟩:=h.mem k e he
  refine⟨?_,fun v hv=>⟨(h2 v hv).1,hm k e he v hv⟩,h3⟩;rw[hc.block _ (U6 h1) (fun hb=>h.sepm key t k e (by simp[i8]) he hb)];exact h1
 .have hk:=(h.gr k t' ht).1
  have:t'=t:=by
   simp only[i8]at ht
   split at ht
   .injection ht with ht;exact ht.symm
   cases ht
  subst this;exact⟨hk,xs',hO⟩
 exact h.chg.trans hc fun k hk hb=>absurd hk (Nat.not_lt.2 (hlt k hb))
theorem kL(h:f7 ⟨m0,w0,S,ds,K⟩ ⟨nt,l,[],mem,[(key,t)]⟩ a w):∀b,s9 t.v=some b->∀o,o<t.n*t.k-> ¬mG m0 mem [(key,t)] b o:=by
 intro b hb o ho hm;obtain⟨_,xs,hO⟩:=h.gr key t (by simp[i8]);have h1:=(hO.lt b hb).1
 rcases hm with hm|⟨k,e,he,hm⟩|⟨k,t',ht,_,hle⟩
 .exact absurd (h.m0 _ _ hm) (Nat.not_lt.2 h1)
 .subst hm
  exact h.sepm key t k e (by simp[i8]) he hb
 have:t'=t:=by
  simp only[i8]at ht
  split at ht
  .injection ht with ht;exact ht.symm
  cases ht
 subst this;omega
end
theorem tA{α : Type}(L M N:List α)(x:Nat):(L++M++N)[x]? = if x<L.length then L[x]? else if x<L.length+M.length then M[x-L.length]? else N[x-(L.length+M.length)]?:=by
 by_cases h1:x<L.length
 .rw [if_pos h1,List.append_assoc,List.getElem?_append_left h1]
 rw[if_neg h1]
 by_cases h2:x<L.length+M.length
 .rw [if_pos h2,List.append_assoc,List.getElem?_append_right (by omega),List.getElem?_append_left (by omega)]
 rw[if_neg h2,List.getElem?_append_right (by rw[List.length_append];omega),List.length_append]
def wrC(f:Nat->List AV)(i off:Nat)(vs:List AV):Nat->List AV:=fun j=>if j=i then(f i).take off++vs++(f i).drop (off+vs.length)else f j
theorem tq{f:Nat->List AV}{i off k n:Nat}{vs:List AV}(hk:∀j,j<n->(f j).length=k)(hi:i<n)(hfit:off+vs.length<=k):∀j,j<n->(wrC f i off vs j).length=k:=by
 intro j hj;unfold wrC
 split
 .have:=hk i hi
  simp only[List.length_append,List.length_take,List.length_drop];omega
 exact hk j hj
theorem Ax{f:Nat->List AV}{i off k n:Nat}{vs:List AV}(hk:∀j,j<n->(f j).length=k)(hi:i<n)(hfit:off+vs.length<=k) :
  i7 (wrC f i off vs) n=(i7 f n).take (i*k+off)++vs.map AV.den++(i7 f n).drop (i*k+off+vs.length):=by
 have hlen:=B5 hk;have hik:i*k+k<=n*k:=by
  have:=Nat.mul_le_mul_right k (Nat.succ_le_of_lt hi)
  rwa[Nat.succ_mul]at this
 apply List.ext_getElem?;intro x
 by_cases hx:x<n*k
 .obtain ⟨j,p,hj,hp,rfl⟩:=ez (cells:=f) hx
  rw[A5 (tq hk hi hfit) hj hp];have hb:∀{j':Nat},j'<i->j'*k+k<=i*k:=fun {j'} h=>by
   have:=Nat.mul_le_mul_right k (Nat.succ_le_of_lt h)
   rwa[Nat.succ_mul]at this
  have ha:∀{j':Nat},i<j'->i*k+k<=j'*k:=fun {j'} h=>by
   have:=Nat.mul_le_mul_right k (Nat.succ_le_of_lt h)
   rwa[Nat.succ_mul]at this
  have hl1:((i7 f n).take (i*k+off)).length=i*k+off:=by rw[List.length_take,hlen];omega
  rcases Nat.lt_trichotomy j i with h|h|h
  .have:=hb h
   unfold wrC;rw[if_neg (by omega),List.append_assoc,List.getElem?_append_left (by rw[hl1];omega),List.getElem?_take,if_pos (by omega),A5 hk hj hp]
  .subst h
   have hfl:=hk j hj;unfold wrC;rw[if_pos rfl];simp only[List.map_append,List.map_take,List.map_drop];have hl2:(((f j).map AV.den).take off).length=off:=by simp;omega
   rw[tA,tA,hl1,hl2,List.length_map]
   rcases Nat.lt_or_ge p off with h1|h1
   .rw [if_pos h1,if_pos (by omega),List.getElem?_take,List.getElem?_take,if_pos h1,if_pos (by omega),A5 hk hj hp]
   rcases Nat.lt_or_ge p (off+vs.length)with h2|h2
   .rw [if_neg (by omega),if_pos h2,if_neg (by omega),if_pos (by omega)]
    congr 1
    omega
   rw[if_neg (by omega),if_neg (by omega),if_neg (by omega),if_neg (by omega),List.getElem?_drop,List.getElem?_drop];rw[show j*k+off+vs.length+(j*k+p-(j*k+off+vs.length))=j*k+p by omega,A5 hk hj hp]
   congr 1
   omega
  have:=ha h;unfold wrC;rw[if_neg (by omega),List.getElem?_append_right (by rw[List.length_append,hl1];simp;omega),List.length_append,hl1,List.length_map,List.getElem?_drop];rw[show i*k+off+vs.length+(j*k+p-(i*k+off+vs.length))=j*k+p by omega,A5 hk hj hp]
 rw[List.getElem?_eq_none (by rw[B5 (tq hk hi hfit)];omega),List.getElem?_eq_none ?_];simp only[List.length_append,List.length_take,List.length_drop,List.length_map,hlen];omega
theorem tO{w:World}{B e k:Nat}{A:Option Addr}{n c:Nat}{xs:List Value}(hO:Own w B e k (.slice A n c) n xs){o:Nat}{vs:List Value}(ho:o+vs.length<=n*k)(hn:0<n) :
  ∃g cur,A=some ⟨g,0,none⟩/\w.heap[g]? = some (.cells cur e (0,0))/\cur.size=c*k/\n*k<=c*k/\s9 (.slice A n c)=some g ∧
   Own (w.setRow g (cur.toList.take o++vs++cur.toList.drop (o+vs.length)).toArray) B e k (.slice A n c) n (xs.take o++vs++xs.drop (o+vs.length))/\Chg (fun x=>s9 (.slice A n c)=some x) w (w.setRow g (cur.toList.take o++vs++cur.toList.drop (o+vs.length)).toArray):=by
 rcases hO.2 with⟨rfl,_⟩|⟨g,cap,cur,hv,O,hg,hnc,hc0,hcm,hcs,ht⟩
 .omega
 injection hv with e1 e2 e3
 subst e1;subst e3;have hnk:n*k<=c*k:=Nat.mul_le_mul_right _ hnc;have hob:s9 (.slice (some ⟨g,0,none⟩) n c)=some g:=by simp[s9];omega
 have hcl:cur.toList.length=c*k:=by simp[hcs]
 refine⟨g,cur,rfl,hg,hcs,hnk,hob,⟨?_,.inr ⟨g,c,_,rfl,O,setRow_heap w g cur _ e _ hg,hnc,hc0,hcm,?_,?_⟩⟩,⟨rfl,rfl,rfl,by simp[World.setRow],fun x _ hx=>setRow_other w g x _ (fun e=>hx (by rw[hob,e]))⟩⟩
 .have:=hO.1
  simp only[List.length_append,List.length_take,List.length_drop];omega
 .simp only[List.size_toArray,List.length_append,List.length_take,List.length_drop,hcl]
  omega
 rw[<-ht];apply List.ext_getElem?;intro x;rw[List.getElem?_take]
 by_cases hx:x<n*k
 .rw [if_pos hx]
  rw[tA,tA];have l1:(cur.toList.take o).length=o:=by rw[List.length_take,hcl];omega
  have l2:((cur.toList.take (n*k)).take o).length=o:=by rw[List.length_take,List.length_take,hcl];omega
  rw[l1,l2]
  rcases Nat.lt_or_ge x o with h2|h2
  .rw [if_pos h2,if_pos h2,List.getElem?_take,List.getElem?_take,List.getElem?_take,if_pos h2,if_pos h2,if_pos hx]
  rcases Nat.lt_or_ge x (o+vs.length)with h3|h3
  .rw [if_neg (by omega),if_pos h3,if_neg (by omega),if_pos h3]
  rw[if_neg (by omega),if_neg (by omega),if_neg (by omega),if_neg (by omega),List.getElem?_drop,List.getElem?_drop,List.getElem?_take,if_pos (by omega)]
 rw[if_neg hx,List.getElem?_eq_none];simp only[List.length_append,List.length_take,List.length_drop,hcl];omega
section
variable {m0:Nat->Nat->Prop} {w0 w:World} {S:Nat->Prop} {ds:List Deferred} {K:Kn} {nt key:Nat} {l:List (Nat×AV)} {mem:List (Nat×Blk)} {a:Act} {P:Program} {T:List (Nat×TI)} {Q:Exit->Act->World->Prop} {ops:Array Oper}
theorem sC{A:Option Addr}{n c k e:Nat}{f:Nat->List AV}{g:Option Nat}(h:f7 ⟨m0,w0,S,ds,K⟩ ⟨nt,l,[],mem,[(key,⟨A,n,c,k,e⟩)]⟩ a w){m:Nat->Nat->Prop}(hrow:Ok m w (.sl g A n c k f)):Own w w0.heap.size e k (.slice A n c) n (i7 f n):=by
 obtain⟨_,xs,hO⟩:=h.gr key ⟨A,n,c,k,e⟩ (by simp[i8]);have hO':Own w w0.heap.size e k (.slice A n c) n xs:=hO;have:=pY hO' hrow;rw[<-this];exact hO'
theorem kt{L rest:List Oper}{o:Oper}{A:Option Addr}{n c k e i off ty:Nat}{f:Nat->List AV}{g:Option Nat}{cells:List AV}{p x:Operand}{v:AV}{ti:TI}(hL:L=o::rest)(hg:o.guard=none)(hop:o.op = .store ty p x)(hdst:o.dst=none)(h:f7 ⟨m0,w0,S,ds,K⟩ ⟨nt,l,[],mem,[(key,⟨A,n,c,k,e⟩)]⟩ a w)
  (hp:val ⟨nt,l,[],mem,[(key,⟨A,n,c,k,e⟩)]⟩ [] p = .ep A i k off cells) (hx:val ⟨nt,l,[],mem,[(key,⟨A,n,c,k,e⟩)]⟩ [] x=v) (hv:v.one=true \/ bZ v=true) (hT:l9 P T) (hti:D7 T ty=some ti) (hsz:v.cells.length=ti.size) {m:Nat->Nat->Prop} (hrow:Ok m w (.sl g A n c k f)) (hk:∀j,j<n->(f j).length=k) (hi:i<n) (hfit:off+v.cells.length<=k)
  (Kc:∀w',Own w' w0.heap.size e k (.slice A n c) n (i7 (wrC f i off v.cells) n)->Chg (fun b=>s9 (.slice A n c)=some b) w w'->(∀u∈v.cells,u.one=true)->wpList P ops Q rest a w'):wpList P ops Q L a w:=by
 have hO:=sC h hrow;have hik:i*k+k<=n*k:=by
  have:=Nat.mul_le_mul_right k (Nat.succ_le_of_lt hi)
  rwa[Nat.succ_mul]at this
 have hv1:v.one||bZ v=true:=by rcases hv with hv|hv<;>simp[hv]
 have hvk:v.known=true:=dz (by simpa using hv1);have hpv:=(A7 h (q:=[]) (fun _ h=>by cases h) (x:=p) (by rw[hp];rfl)).1;have hxv:=A7 h (q:=[]) (fun _ h=>by cases h) (x:=x) (by rw[hx];exact hvk);rw[hp]at hpv;rw[hx]at hxv;have hxc:=jY hxv.2 (by simpa using hv1);obtain⟨b,cur,hA,hb,hcs,hnc,hob,hO2,hchg⟩:=tO hO (o:=i*k+off) (vs:=v.cells.map AV.den) (by rw[List.length_map];omega) (by omega);have hst:=run_storeCells_at P b (i*k+off) e (v.cells.map AV.den) 0 cur w hb (by rw[List.length_map,hcs];omega) (by
  intro u hu;obtain⟨y,hy,rfl⟩:=List.mem_map.1 hu;exact oc (hxc y hy).1)
 simp only[Nat.add_zero]at hst;have hdc:=ei (gR (by simpa using hv1):v.one=true \/ ∃l,v = .agg l);have hszr:=(k7 hT hti).size w;have hpd:a.eval p = .pointer (some ⟨b,i*k+off,none⟩):=by
  rw[hpv,hA];simp[AV.den]
 refine T8 hL hg ?_;refine jx (w':=w.setRow b (cur.toList.take (i*k+off)++v.cells.map AV.den++cur.toList.drop (i*k+off+(v.cells.map AV.den).length)).toArray) ?_ ?_
 .simp only[List.length_map]at hst
  simp[execOp,hop,hpd,hxv.1,Instr.storeAt,Instr.sureAddr,storeVar,hdc,hszr,hsz,hst]
 rw[hdst];refine Kc _ ?_ hchg fun u hu=>(hxc u hu).1
 rw[Ax hk hi hfit]
 simpa using hO2
end
def yl(n:Nat)(f:Nat->Itm):Bool:=(List.range n).any fun t=>decide (64<(f t).val.size)
def rG(n:Nat)(f:Nat->Itm):Bool:=(List.range (n-1)).all fun t=>decide (¬(f (t+1)).key<(f t).key)
def sM(n:Nat)(f:Nat->Itm):Bool:=(List.range (n-1)).any fun t=>decide ((f (t+1)).key=(f t).key)
theorem yu(x:Int):l7 Tryz.prog 135 [.int .u64 x] (fun _=>.bool .ff):=by
 intro m w hm hargs;refine en 6 hm hargs Tryz.func135 fun B O a0 Z=>?_
 refine a6 [0] [] Z fun X0 Z=>?_
 refine a6 [2] [] Z fun X1 Z=>?_
 refine B4 Z ?_;subst O;exact Sim.bool (by show(x != x)=false;simp)
theorem Gp(x y:Int):l7 Tryz.prog 70 [.int .u64 x,.int .u64 y] (fun _=>.int .i64 (bz x y)):=by
 intro m w hm hargs;have S1:=yu x;have S2:=yu y;refine en 20 hm hargs Tryz.func70 fun B O a0 Z=>?_
 refine a6 [0,1] [] Z fun X0 Z=>?_
 have O1:=S1;refine j6 [0,1,5] [] [(1,.r fun _=>.bool .ff)] Z fun X1 Z=>?_
 have O1:=S2;refine j6 [0,1,5,6] [] [(1,.r fun _=>.bool .ff)] Z fun X2 Z=>?_
 refine a7 (a6 [11,0,1,6] [] Z fun X3 Z=>?_);refine F2 Z rfl (fun Z=>?_);refine f9 (a7 (a6 [13,0,1] [] Z fun X7 Z=>?_));refine F2 Z rfl (fun Z=>?_);refine f9 (a7 (a6 [16,0,1] [] Z fun X9 Z=>?_));apply d7 Z rfl<;>intro hb Z
 .have h1:x<y:=by subst O;simpa[std,b7]using hb
  refine a6 [4] [] Z fun X10 Z=>?_
  refine B4 Z ?_;subst O;unfold bz;rw[if_pos h1];exact zr
 have h1:¬x<y:=by subst O;simpa[std,b7]using hb
 refine f9 (a7 (a6 [19] [] Z fun X11 Z=>?_));apply d7 Z rfl<;>intro hb Z
 .have h2:y<x:=by subst O;simpa[std,b7]using hb
  refine a6 [4] [] Z fun X12 Z=>?_
  refine B4 Z ?_;subst O;unfold bz;rw[if_neg h1,if_pos h2];exact zr
 have h2:¬y<x:=by subst O;simpa[std,b7]using hb
 refine f9 (a6 [4] [] Z fun X13 Z=>?_);refine B4 Z ?_;subst O;unfold bz;rw[if_neg h1,if_neg h2];exact zr
theorem Fp(x:Itm):l7 Tryz.prog 68 [.agg (itC x)] (fun _=>.bool (.v (decide (64<x.val.size)))):=by
 intro m w hm hargs;simp only[itC]at hargs ⊢;refine en 7 hm hargs Tryz.func68 fun B O a0 Z=>?_
 refine a6 [1] [1] Z fun X0 Z=>?_
 refine a6 [2] [] Z fun X1 Z=>?_
 refine B4 Z ?_;subst O;exact Sim.bool (by show decide ((64:Int)<(x.val.size:Int))=decide (64<x.val.size);rw[decide_eq_decide];omega)
theorem EY(x y:Itm):l7 Tryz.prog 69 [.agg (itC x),.agg (itC y)] (fun _=>.int .i64 (bz x.key y.key)):=by
 intro m w hm hargs;simp only[itC]at hargs ⊢;have S:=Gp x.key y.key;obtain⟨z,hz⟩:=eqv (bz x.key y.key);rw[<-hz]at S ⊢;refine en 10 hm hargs Tryz.func69 fun B O a0 Z=>?_
 refine a6 [2,3] [2,3] Z fun X0 Z=>?_
 have O1:=S;refine j6 [4] [] [(4,.r fun _=>.int .i64 z)] Z fun X1 Z=>?_
 exact j2 ((rsp O a8 Z G6).1)
theorem zq(x y:Itm):l7 Tryz.prog 73 [.agg (itC x),.agg (itC y)] (fun _=>.bool (.v (decide (x.key=y.key)))):=by
 intro m w hm hargs;simp only[itC]at hargs ⊢;refine en 10 hm hargs Tryz.func73 fun B O a0 Z=>?_
 refine a6 [2,3] [2,3] Z fun X0 Z=>?_
 refine a6 [4] [] Z fun X1 Z=>?_
 refine B4 Z ?_;subst O;exact Sim.bool (by show(x.key==y.key)=decide (x.key=y.key);rw[Bool.eq_iff_iff];simp)
theorem FL(A:Option Addr)(n c:Nat)(f:Nat->Itm)(hn:n<=1000000):l7 Tryz.prog 136 [r6 A n c f,.fn 68 [] []] (fun _=>.int .i64 (lQ (fun t=>decide (64<(f t).val.size)) n)):=by
 intro m w hm hargs;have hmx:maxLen=9223372036854775807:=rfl;unfold r6 at hargs;refine en 19 hm hargs Tryz.func136 fun B O a0 Z=>?_
 refine a6 [0,1] [] Z fun X0 Z=>?_
 refine a7 (a6 [8,0,1,7] [] Z fun X1 Z=>?_);refine j0 (r9 (ι:=Nat) (fun p=>[(8,.int .i64 (p:Int))]) (fun p=>[]) (fun p=>[]) (fun p=>p<=n/\∀t,t<p->decide (64<(f t).val.size)=false) (fun p=>n-p) 0 ⟨Nat.zero_le _,fun t ht=>absurd ht (Nat.not_lt_zero _)⟩ Z ?_)
 rintro i ⟨hi,hlt⟩ _ _ Z
 try dsimp only at hi
 try dsimp only at hlt
 refine a6 [9,8,0,1,7] [] Z fun X2 Z=>?_
 refine a7 (d7 Z rfl (fun hb Z=>?_) (fun hb Z=>?_))
 .have hin:i<n:=by
   have:(i:Int)<(n:Int):=by subst O;simpa[std,b7]using hb
   omega
  have S:=Fp (f i);obtain⟨q,hq⟩:=eqv (decide (64<(f i).val.size));rw[<-hq]at S;refine f9 (a7 (j0 (a6 [5,8,0,1,7] [] Z fun X3 Z=>?_)));refine a7 ?_;have O4:(0:Int)<=(i:Int):=by omega
  have O5:(i:Int)<(n:Int):=by omega
  have O6:=S;refine j4 [16,5,8,0,1,7] [] [(5,.r fun _=>.bool (.v q))] Z fun X4 Z=>?_
  apply d7 Z rfl<;>intro hb Z
  .have hqt:q=true:=hb
   refine a6 [4] [] Z fun X5 Z=>?_
   refine B4 Z ?_;subst O;rw[jj (p:=(fun t=>decide (64<(f t).val.size))) hin hlt (hq.symm.trans hqt)];exact zr
  have hqf:q=false:=hb;refine f9 (j5 [8,0,1,7] [] Z fun X6 Z=>?_);have e:B.arith .add .i64 (i:Int) 1=((i+1:Nat):Int):=by subst O;exact j7 (n:=n) hin (by omega)
  refine⟨i+1,⟨by omega,fun t ht=>?_⟩,by omega,by rw[<-e];exact Z⟩
  by_cases h:t=i
  .rw [h,<-hq];exact hqf
  exact hlt t (by omega)
 have hout:i=n:=by
  have:¬(i:Int)<(n:Int):=by subst O;simpa[std,b7]using hb
  omega
 rw[hout]at hlt;refine o4 (a6 [4] [] Z fun X7 Z=>?_);refine B4 Z ?_;subst O;rw[kI (p:=(fun t=>decide (64<(f t).val.size))) hlt];exact zr
theorem Gn(A:Option Addr)(n c:Nat)(f:Nat->Itm)(hn:n<=1000000):l7 Tryz.prog 74 [r6 A n c f,.fn 68 [] []] (fun _=>.bool (.v (yl n f))):=by
 intro m w hm hargs;have S:=FL A n c f hn;have HC:=mF (fun t=>decide (64<(f t).val.size)) n
 generalize (lQ (fun t=>decide (64<(f t).val.size)) n)=ix at S HC
 unfold r6 at S hargs;refine en 9 hm hargs Tryz.func74 fun B O a0 Z=>?_
 refine a6 [0,1] [] Z fun X0 Z=>?_
 have O1:=S;refine j6 [4] [] [(2,.r fun _=>.int .i64 ix)] Z fun X1 Z=>?_
 refine B4 Z ?_;subst O;refine Sim.bool ?_
 show decide (ix ≥ 0)=yl n f
 unfold yl
 rcases HC with⟨i,h1,h2,h3,h4⟩|⟨h1,h2⟩
 .rw [decide_eq_true (by omega)];exact(List.any_eq_true.2 ⟨i,List.mem_range.2 h1,h3⟩).symm
 rw[h1];symm;rw[show decide ((-1:Int) ≥ 0)=false from rfl,List.any_eq_false];intro t ht;rw[h2 t (List.mem_range.1 ht)];decide
theorem EN(A:Option Addr)(n c:Nat)(f:Nat->Itm)(hn:n<=1000000):l7 Tryz.prog 75 [r6 A n c f,.fn 69 [] []] (fun _=>.bool (.v (rG n f))):=by
 intro m w hm hargs;have hmx:maxLen=9223372036854775807:=rfl;unfold r6 at hargs;refine en 25 hm hargs Tryz.func75 fun B O a0 Z=>?_
 refine a6 [0,1] [] Z fun X0 Z=>?_
 refine a7 (a6 [5,0,1] [] Z fun X1 Z=>?_);replace Z:=Z.headS (v':=.int .i64 ((n:Int)-1)) (by subst O;show Sim (.int .i64 (IntKind.i64.wrap ((n:Int)-1))) _;rw[s5 (by omega) (by omega)];exact zr) rfl;refine j0 (r9 (ι:=Nat) (fun p=>[(5,.int .i64 ((p:Int)-1))]) (fun p=>[]) (fun p=>[]) (fun p=>p<=n/\∀t,p<=t+1->t+1<n-> ¬(f (t+1)).key<(f t).key) (fun p=>p) n ⟨Nat.le_refl _,fun t h1 h2=>absurd h2 (by omega)⟩ Z ?_)
 rintro p ⟨hp,hlt⟩ _ _ Z
 try dsimp only at hp
 try dsimp only at hlt
 obtain⟨iv,hiv⟩:=eqv ((p:Int)-1);rw[<-hiv]at Z;refine a7 (a6 [10,5,0,1] [] Z fun X2 Z=>?_);apply d7 Z rfl<;>intro hb Z
 .have hin:2<=p:=by
   have:(0:Int)<iv:=by subst O;simpa[std,b7]using hb
   omega
  have e1:std.toNat iv=p-1:=by show iv.toNat=p-1;omega
  have e2:std.arith .sub .i64 iv 1=(p:Int)-2:=by show IntKind.i64.wrap (iv-1)=_;rw[s5 (by omega) (by omega)];omega
  have e3:std.toNat (std.arith .sub .i64 iv 1)=p-2:=by rw[e2];show((p:Int)-2).toNat=p-2;omega
  have S:=EY (f (std.toNat iv)) (f (std.toNat (std.arith .sub .i64 iv 1)));obtain⟨z,hz⟩:=eqv (bz (f (p-1)).key (f (p-2)).key);have hz2:bz (f (std.toNat iv)).key (f (std.toNat (std.arith .sub .i64 iv 1))).key=z:=by rw[hz,e1,e3]
  rw[hz2]at S;refine f9 (a7 (j0 (a7 (drg O a8 [24,5,0,1] [] [(10,.r fun _=>.int .i64 z)] Z (hob:=?hob) fun X4 _ _ Z=>?_))))
  case hob=>
   intro X;subst O
   repeat(first|exact trivial|refine⟨rfl,?_⟩|refine⟨(show(0:Int)<=iv/\iv<(n:Int)by omega),?_⟩|refine⟨(show(0:Int)<=std.arith .sub .i64 iv 1/\std.arith .sub .i64 iv 1<(n:Int)by rw[e2];omega),?_⟩|refine⟨⟨fun _ _=>by kernel_rfl,S⟩,?_⟩)
  apply d7 Z rfl<;>intro hb Z
  .have hlt2:(f (p-1)).key<(f (p-2)).key:=by
    have h5:z<0:=by subst O;simpa[std,b7]using hb
    rw[hz]at h5;unfold bz at h5;split at h5;assumption;split at h5<;>omega
   have hW:rG n f=false:=by unfold rG;rw[List.all_eq_false];refine⟨p-2,List.mem_range.2 (by omega),?_⟩;rw[show p-2+1=p-1 by omega];simpa using hlt2
   refine a6 [4] [] Z fun X5 Z=>?_
   refine B4 Z ?_;subst O;rw[hW];exact Sim.bool rfl
  have hge:¬(f (p-1)).key<(f (p-2)).key:=by
   have h5:¬z<0:=by subst O;simpa[std,b7]using hb
   rw[hz]at h5;unfold bz at h5;intro h6;rw[if_pos h6]at h5;exact h5 (by decide)
  refine f9 (j5 [5,0,1] [] Z fun X3 Z=>?_);have e:B.arith .sub .i64 iv 1=((p-1:Nat):Int)-1:=by subst O;show IntKind.i64.wrap (iv-1)=_;rw[s5 (by omega) (by omega)];omega
  refine⟨p-1,⟨by omega,fun t h1 h2=>?_⟩,by omega,by rw[<-e];exact Z⟩
  rcases Nat.lt_or_ge (t+1) p with h3|h3
  .have:t=p-2:=by omega
   subst this;rw[show p-2+1=p-1 by omega];exact hge
  exact hlt t h3 h2
 have hout:p<=1:=by
  have:¬(0:Int)<iv:=by subst O;simpa[std,b7]using hb
  omega
 have hW:rG n f=true:=by unfold rG;rw[List.all_eq_true];intro t ht;have h5:=List.mem_range.1 ht;exact decide_eq_true (hlt t (by omega) (by omega))
 refine o4 (a6 [4] [] Z fun X6 Z=>?_);refine B4 Z ?_;subst O;rw[hW];exact Sim.bool rfl
theorem Gw{l:Lab}(h:chE l 0=0):isL l=true/\l.len≠64/\∀b,chV l b=D3 l b:=by
 have hc:∀b,chE l b=0:=fun b=>h
 refine⟨?_,?_,fun b=>by unfold chV;rw[if_pos (hc b)]⟩
 .cases hl:isL l with
  |true=>rfl
  |false=>unfold chE at h;rw[hl,if_pos rfl]at h;cases h
 intro h64;unfold chE at h;simp only[h64,if_true]at h
 split at h<;>simp at h
theorem Iy{l:Lab}(hb:U64 l.bits)(h:chE l 0=0)(b:Int):isL (chV l b)=true/\U64 (chV l b).bits/\(chV l b).len=l.len+1:=by
 obtain⟨h1,h2,h3⟩:=Gw h;rw[h3];exact⟨bB h1 hb h2 b,oQ h1 hb h2 b,rfl⟩
theorem CA(l:Lab)(its:List Itm):(J2 l its).length<=its.length:=List.length_filter_le _ _
theorem kB{q:Lab}(hl:isL q=true)(hb:U64 q.bits):o9 q:=by
 obtain⟨h1,h2,_⟩:=z8 hl;obtain⟨h3,h4⟩:=hb
 constructor
 .simp [Lit.wf,IntKind.min,IntKind.max,IntKind.signed,IntKind.bits];omega
 simp[Lit.wf,IntKind.min,IntKind.max,IntKind.signed,IntKind.bits];omega
theorem fy{g g':Option Nat}{k k':Nat}{f f':Nat->List AV}:Sim (.sl g none 0 0 k f) (.sl g' none 0 0 k' f'):=
 ⟨rfl,fun _=>rfl,fun _ _ _=>.sl _ _ _ _ _ _ (Nat.le_refl _) (Nat.zero_le _) (fun i hi=>absurd hi (Nat.not_lt_zero _)) (fun i hi=>absurd hi (Nat.not_lt_zero _)) (fun i hi=>absurd hi (Nat.not_lt_zero _)) (fun i hi=>absurd hi (Nat.not_lt_zero _)) (fun i hi=>absurd hi (Nat.not_lt_zero _))⟩
def RwN(n:Nat)(f:Nat->B1):Prop:=∀i,i<n->(f i).x.r.n<=1000000/\o9 (f i).lab/\U64 (f i).lab.bits/\U64 (f i).x.r.nx.bits
structure GQ(B:Nat)(w w':World):Prop where
 os:w'.os=w.os
 tape:w'.tape=w.tape
 output:w'.output=w.output
 size:B<=w'.heap.size
 block:∀k,k<B->w'.heap[k]? = w.heap[k]?
def vf(B n:Nat)(f:Nat->Itm)(w:World)(e:Ending)(w':World):Prop:=∃A m c,e = .returned (.slice A m c)/\decide (m<n)=sM n f/\m<=n/\GQ B w w'
def sN(w:World)(B:Nat):World:={ w with heap:=w.heap.extract 0 B }
theorem dI{w:World}{B:Nat}(h:B<=w.heap.size):(sN w B).heap.size=B:=by
 simp[sN];omega
theorem zK{w:World}{B k:Nat}(hk:k<B):(sN w B).heap[k]? = w.heap[k]?:=by
 simp[sN,Array.getElem?_extract];intro h;omega
theorem rP{w w':World}{B:Nat}(O:B<=w.heap.size){S:Nat->Prop}(hS:∀k,¬S k)(h:Chg S (sN w B) w'):GQ B w w':=
 ⟨h.os,h.tape,h.output,by have:=h.size;rwa[dI O]at this,fun k hk=>by
  have:=h.block k (by rw[dI O];exact hk) (hS k);rw[this,zK hk]⟩
abbrev eqF:AV:=.fn 73 [] []
theorem sm(x:Itm):∀v∈itC x,v.one=true:=by
 intro v hv;simp only[itC,List.mem_cons,List.not_mem_nil,or_false]at hv
 rcases hv with rfl|rfl<;>rfl
theorem EK{m:Nat->Nat->Prop}{w:World}{g:Option Nat}{A:Option Addr}{n c k i:Nat}{f:Nat->List AV}(h:Ok m w (.sl g A n c k f))(hi:i<=n):Ok m w (.sl none (M3 A c i k) (n-i) (c-i) k (fun t=>f (i+t))):=by
 cases h with
 |sl _ _ _ _ _ _ h1 h2 h3 h4 h5 h6 h7=>
  have hA:∀t,t<n-i->∃b off,A=some ⟨b,off,none⟩/\M3 A c i k=some ⟨b,off+i*k,none⟩:=by
   intro t ht;obtain⟨b,off,hA⟩:=h4 (i+t) (by omega);refine⟨b,off,hA,?_⟩;unfold M3;rw[if_neg (by omega),hA];simp[Addr.add]
  refine .sl _ _ _ _ _ _ (by omega) (by omega) (fun t ht=>h3 _ (by omega)) (fun t ht=>?_) (fun t ht j u hu=>?_) (fun t ht=>h6 _ (by omega)) (fun t ht=>h7 _ (by omega))
  .obtain ⟨b,off,_,h⟩:=hA t ht
   exact⟨b,_,h⟩
  obtain⟨b,off,hA1,hA2⟩:=hA t ht;obtain⟨b',off',e1,e2,e3⟩:=h5 (i+t) (by omega) j u hu;rw[hA1]at e1;injection e1 with e1;injection e1 with e4 e5
  subst e4;subst e5;have:off+i*k+(t*k+j)=off+((i+t)*k+j):=by rw[Nat.add_mul];omega
  exact⟨b,_,hA2,by rw[this];exact e2,by rw[this];exact e3⟩
section
variable {a:Act} {m:Nat->Nat->Prop} {w:World}
theorem oA:∀x,(look ([]:List (Nat×AV)) x).known=true->a.tmps[x]? = some (look ([]:List (Nat×AV)) x).den/\Ok m w (look ([]:List (Nat×AV)) x):=fun x h=>by cases h
theorem M9{k:Nat}{v:AV}{l:List (Nat×AV)}(h1:a.tmps[k]? = some v.den/\Ok m w v)(h2:∀x,(look l x).known=true->a.tmps[x]? = some (look l x).den/\Ok m w (look l x)):∀x,(look ((k,v)::l) x).known=true->a.tmps[x]? = some (look ((k,v)::l) x).den/\Ok m w (look ((k,v)::l) x):=by
 intro x hx;rw[u5]at hx ⊢
 by_cases h:k=x
 .subst h;rw[if_pos rfl];exact h1
 rw[if_neg h]at hx ⊢;exact h2 x hx
end
theorem cS{cs:Array Value}{zc:List AV}(h:cs.toList=zc.map AV.den):∀m,(Builtin.zeroCells cs m).toList=i7 (fun _=>zc) m
 |0=>by simp[Builtin.zeroCells,i7]
 |m+1=>by
  have ih:=cS h m;have hs:cs.size=zc.length:=by rw[<-Array.length_toList,h,List.length_map]
  rw[F3,<-ih,<-h];unfold Builtin.zeroCells;rw[Array.toList_map,Array.toList_map,Array.toList_range,Array.toList_range,Nat.add_mul,Nat.one_mul,List.range_add,List.map_append]
  congr 1
  apply List.ext_getElem
  .simp
  intro i h1 h2;have hi:i<cs.size:=by simpa using h2
  simp[Nat.mod_eq_of_lt hi,hi]
theorem rX{m0:Nat->Nat->Prop}{w0 w:World}{S:Nat->Prop}{ds:List Deferred}{K:Kn}{nt key:Nat}{l:List (Nat×AV)}{mem:List (Nat×Blk)}{a:Act}{P:Program}{Q:Exit->Act->World->Prop}{ops:Array Oper}{L rest:List Oper}{o:Oper}{cl:Call}{x:Operand}{A:Option Addr}{n c k e t bytes lo:Nat}{f:Nat->List AV}{g:Option Nat}{cells:Nat->List AV}{z:Value}{zc:List AV}(hL:L=o::rest)(hg:o.guard=none)(hop:o.op = .call cl)(hc1:cl.callee = .builtin .clear)(hc2:cl.args = #[x])(hc3:cl.argTypes = #[t])(hdst:o.dst=none)
  (h:f7 ⟨m0,w0,S,ds,K⟩ ⟨nt,l,[],mem,[(key,⟨A,n,c,k,e⟩)]⟩ a w) (hx:val ⟨nt,l,[],mem,[(key,⟨A,n,c,k,e⟩)]⟩ [] x = .sl none (M3 A c lo k) (n-lo) (c-lo) k cells) (E:aQ P t e k bytes z) (hz:z.cells.toList=zc.map AV.den) (hz1:∀v∈zc,v.one=true) (hzl:zc.length=k) {m:Nat->Nat->Prop} (hrow:Ok m w (.sl g A n c k f)) (hk:∀j,j<n->(f j).length=k) (hlo:lo<n)
  (Kc:∀w',Own w' w0.heap.size e k (.slice A n c) n (i7 (B8 lo f (fun _=>zc)) n)->Chg (fun b=>s9 (.slice A n c)=some b) w w'->wpList P ops Q rest a w'):wpList P ops Q L a w:=by
 have hO:=sC h hrow;have hflen:=B5 hk;have hzf:=cS hz (n-lo);have hzfl:(i7 (fun _=>zc) (n-lo)).length=(n-lo)*k:=B5 (fun _ _=>hzl);have hmul:lo*k+(n-lo)*k=n*k:=by rw[<-Nat.add_mul];congr 1;omega
 obtain⟨b,cur,hA,hb,hcs,hnc,hob,hO2,hchg⟩:=tO hO (o:=lo*k) (vs:=i7 (fun _=>zc) (n-lo)) (by rw[hzfl];omega) (by omega);have hxv:=(A7 h (q:=[]) (fun _ h=>by cases h) (x:=x) (by rw[hx];rfl)).1;rw[hx]at hxv;have hcn:n<=c:=by cases hrow with|sl _ _ _ _ _ _ h1=>exact h1
 have hden:a.eval x = .slice (some ⟨b,lo*k,none⟩) (n-lo) (c-lo):=by
  rw[hxv];simp only[AV.den];unfold M3;rw[if_neg (by omega),hA];simp[Addr.add]
  try exact fun h=>h.symm
 have hrun:=nR (P:=P) (w:=w) E o.type hb (o:=lo*k) (len:=n-lo) (cap:=c-lo) (by rw[hcs];omega) (fun v hv=>by
  rw[hz]at hv;obtain⟨y,hy,rfl⟩:=List.mem_map.1 hv;exact oc (hz1 y hy))
 rw[hzf]at hrun;refine T8 hL hg ?_;unfold Oper.wp;have e1:(execOp a.eval o).run P w = .ok (.value (.tuple #[])) (w.setRow b (cur.toList.take (lo*k)++i7 (fun _=>zc) (n-lo)++cur.toList.drop (lo*k+(n-lo)*k)).toArray):=by
  simp[execOp,hop,hc1,hc2,hc3,resolve,invoke,builtin,hden,hrun,Result.andThen]
 rw[e1];simp only[Oper.upon];rw[hdst];rw[hzfl]at hO2 hchg;refine Kc _ ?_ hchg;have hfl:i7 (B8 lo f (fun _=>zc)) n=(i7 f n).take (lo*k)++i7 (fun _=>zc) (n-lo)++(i7 f n).drop (lo*k+(n-lo)*k):=by
  rw[show i7 (B8 lo f (fun _=>zc)) n=i7 (B8 lo f (fun _=>zc)) (lo+(n-lo))by congr 1;omega,aE,List.drop_eq_nil_of_le (by rw[hflen];omega),List.append_nil]
  congr 1
  have:=aE f (fun i=>f (lo+i)) lo (n-lo);have e2:B8 lo f (fun i=>f (lo+i))=f:=by
   funext i
   unfold B8
   split
   .rfl
   show f (lo+(i-lo))=f i
   rw[show lo+(i-lo)=i by omega]
  rw[e2,show lo+(n-lo)=n by omega]at this;rw[this,List.take_append_of_le_length (by rw[B5 (fun i hi=>hk i (by omega))];omega),List.take_of_length_le (by rw[B5 (fun i hi=>hk i (by omega))];omega)]
 rw[hfl];exact hO2
theorem wN{B n c:Nat}{A:Option Addr}{f:Nat->Itm}{w:World}(hO:Own w B 62 2 (.slice A n c) n (i7 (fun t=>itC (f t)) n))(hBw:B<=w.heap.size)(hn:n<=1000000)(hs:∀i,i<n->(f i).val.size<=maxLen) :
  Calls Tryz.prog 71 ([.sl (some 77) A n c 2 (fun t=>itC (f t)),eqF].map AV.den).toArray w (vf B n f w):=by
 have hmx:maxLen=9223372036854775807:=rfl;obtain⟨wB,hwB⟩:=eqv (sN w B);have hsz:wB.heap.size=B:=by rw[hwB];exact dI hBw
 have hitok:∀(m:Nat->Nat->Prop) (w:World) (x:Itm),x.val.size<=maxLen->∀v∈itC x,v.one=true/\Ok m w v:=fun m w x hx v hv=>by
  simp only[itC,List.mem_cons,List.not_mem_nil,or_false]at hv
  rcases hv with rfl|rfl
  .exact ⟨rfl,.int _ _⟩
  exact⟨rfl,.str _ hx⟩
 have hgrm:∀b,s9 (.slice A n c)=some b->∀o,o<n*2-> ¬mG (fun _ _=>False) [] [(77,⟨A,n,c,2,62⟩)] b o:=by
  intro b hb o ho hm
  rcases hm with hm|⟨k,e,he,_⟩|⟨k,t',ht,_,hle⟩
  .exact hm
  .cases he
  simp only[i8]at ht
  split at ht
  .injection ht with ht;subst ht;simp only at hle;omega
  cases ht
 have hrow:Ok (mG (fun _ _=>False) [] [(77,⟨A,n,c,2,62⟩)]) w (.sl (some 77) A n c 2 (fun t=>itC (f t))):=
  Z6 hO (fun _ _=>rfl) hgrm (fun i hi=>hitok _ _ _ (hs i hi)) _
 have hmem:Mem (fun _ _=>False) wB (fun _=>False) noK [] [(77,⟨A,n,c,2,62⟩)] w:=by
  refine⟨rfl,rfl,(fun t ht=>by cases ht),(fun t p v he=>by cases he),(fun k e he=>by cases he),(fun k k' e e' he=>by cases he),fun k t ht=>?_,(fun k t k' e _ he=>by cases he),fun k t k' t' b ht ht' hne=>?_,?_,fun b o h=>h.elim,trivial⟩
  .simp only[i8]at ht
   split at ht
   .injection ht with ht;subst ht
    exact⟨Nat.succ_pos 1,_,by show Own w wB.heap.size _ _ _ _ _;rw[hsz];exact hO⟩
   cases ht
  .simp only[i8]at ht ht'
   split at ht
   .split at ht'
    .rename_i h1 h2
     exact absurd (by simp at h1 h2;omega) hne
    cases ht'
   cases ht
  rw[hwB];exact⟨rfl,rfl,rfl,by show(sN w B).heap.size<=_;rw[dI hBw];exact hBw,fun k hk _=>by rw[zK (by rw[dI hBw]at hk;exact hk)]⟩
 have hargs:∀v ∈ [AV.sl (some 77) A n c 2 (fun t=>itC (f t)),eqF],Ok (mT (fun _ _=>False) [] [(77,⟨A,n,c,2,62⟩)]) w v:=by
  intro v hv;simp only[List.mem_cons,List.not_mem_nil,or_false]at hv
  rcases hv with rfl|rfl
  .exact hrow
  exact .fn _ _ _ (fun v hv=>by cases hv) (fun v hv=>by cases hv)
 refine enI 66 hmem hargs Tryz.func71 fun B' O a0 Z=>?_
 refine a6 [0,1] [77] Z fun X0 Z=>?_
 refine a7 (a6 [10,0,1] [77] Z fun X1 Z=>?_);apply d7 Z rfl<;>intro hb Z
 .have hn2:n<2:=by
   have:(n:Int)<2:=by subst O;simpa[std,b7]using hb
   omega
  refine a6 [4] [77] Z fun X2 Z=>?_
  refine j2 (Fa (R:=vf B n f w) O a8 Z (fun hm' _=>⟨A,n,c,rfl,?_,Nat.le_refl _,rP hBw (fun _ h=>h) (by rw[<-hwB];exact hm'.chg)⟩)).1;rw[decide_eq_false (Nat.lt_irrefl _)];unfold sM;rw[show n-1=0 by omega];rfl
 have hn2:¬n<2:=by
  have:¬(n:Int)<2:=by subst O;simpa[std,b7]using hb
  omega
 refine f9 (a7 (a6 [5,0,1] [77] Z fun X2 Z=>?_));refine(j0 (r9 (ι:=Nat) (fun p=>[(5,.int .i64 (p:Int))]) (fun p=>[]) (fun p=>[]) (fun p=>1<=p/\p<=n/\∀t,t+1<p-> ¬(f (t+1)).key=(f t).key) (fun p=>n-p) 1 ⟨Nat.le_refl _,by omega,fun t ht=>absurd ht (by omega)⟩ Z ?_))
 rintro i ⟨hi1,hi,hlt⟩ a0 w1 Z
 refine a7 (a6 [15,5,0,1] [77] Z fun X3 Z=>?_);refine d7 Z rfl (fun hb2 Z=>?_) (fun hb2 Z=>?_)
 .have hin:i<n:=by
   have:(i:Int)<(n:Int):=by subst O;simpa[std,b7]using hb2
   omega
  have e2:std.arith .sub .i64 (i:Int) 1=((i-1:Nat):Int):=by show IntKind.i64.wrap ((i:Int)-1)=_;rw[s5 (by omega) (by omega)];omega
  have e3:std.toNat (std.arith .sub .i64 (i:Int) 1)=i-1:=by rw[e2];rfl
  have S:=zq (f i) (f (std.toNat (std.arith .sub .i64 (i:Int) 1)));obtain⟨q,hq⟩:=eqv (decide ((f i).key=(f (i-1)).key));have hq2:decide ((f i).key=(f (std.toNat (std.arith .sub .i64 (i:Int) 1))).key)=q:=by rw[hq,e3]
  rw[hq2]at S;refine f9 (a7 (j0 (a7 (drg O a8 [28,5,0,1] [77] [(10,.r fun _=>.bool (.v q))] Z (fun X4 a0 w1 Z=>?_) (hob:=?hob)))))
  case hob=>
   intro X;subst O
   repeat(first|exact trivial|refine⟨rfl,?_⟩|refine⟨(show(0:Int)<=(i:Int)/\(i:Int)<(n:Int)by omega),?_⟩|refine⟨(show(0:Int)<=std.arith .sub .i64 (i:Int) 1/\std.arith .sub .i64 (i:Int) 1<(n:Int)by rw[e2];omega),?_⟩|refine⟨⟨fun _ _=>by kernel_rfl,S⟩,?_⟩)
  refine d7 Z rfl (fun hb3 Z=>?_) (fun hb3 Z=>?_)
  .have hdup:sM n f=true:=by
    have h5:q=true:=by subst O;exact hb3
    rw[hq,decide_eq_true_eq]at h5;unfold sM;rw[List.any_eq_true];exact⟨i-1,List.mem_range.2 (by omega),by rw[show i-1+1=i by omega,decide_eq_true_eq];exact h5⟩
   refine a7 (rg O a8 [6,5,0,1] [77] [] Z (fun X5 a0 w1 Z=>?_));obtain⟨A6,hA6⟩:=eqv (M3 A c i 2);obtain⟨n6,hn6⟩:=eqv (n-i);obtain⟨c6,hc6⟩:=eqv (c-i);have Z:=Z.headS (v':=.sl none A6 n6 c6 2 (fun t=>itC (f (i+t)))) (by subst O;rw[hA6,hn6,hc6];exact zr) rfl;refine a7 (a6 [7,5,0,6,1] [77] Z fun X6 Z=>?_);refine j0 (fQ (ι:=Nat×Nat×(Nat->Itm)) (fun p a w1=>f7 ⟨fun _ _=>False,wB,fun _=>False,[],noK⟩ ⟨66,[(7,.int .i64 (p.1:Int)),(5,.int .i64 (p.2.1:Int)),(0,.sl (some 77) A n c 2 (fun t=>itC (p.2.2 t))),(6,.sl none A6 n6 c6 2 (fun t=>itC (p.2.2 (i+t)))),(1,eqF)],[],[],[(77,⟨A,n,c,2,62⟩)]⟩ a w1) (fun p=>1<=p.1/\p.1<=n6/\i<=p.2.1/\p.2.1+1<=i+p.1/\∀t,t<n->(p.2.2 t).val.size<=maxLen) (fun p=>n6-p.1) (1,i,f) ⟨Nat.le_refl _,by omega,Nat.le_refl _,Nat.le_refl _,hs⟩ Z ?_)
   rintro⟨j,k,g⟩ ⟨hj1,hj,hk0,hk1,hsg⟩ a0 w1 Z
   dsimp only at hj1 hj hk0 hk1 hsg Z;obtain⟨gs,hgs⟩:∃x:Nat->Itm,x=fun t=>g (i+t):=⟨_,rfl⟩
   have egs:(fun t=>itC (g (i+t)))=fun t=>itC (gs t):=by rw[hgs]
   rw[egs]at Z;refine a7 (a6 [35,7,5,0,6,1] [77] Z fun X7 Z=>?_);refine d7 Z rfl (fun hb4 Z=>?_) (fun hb4 Z=>?_)
   .have hjn:j<n6:=by
     have:(j:Int)<(n6:Int):=by subst O;simpa[std,b7]using hb4
     omega
    have ej2:std.arith .sub .i64 (j:Int) 1=((j-1:Nat):Int):=by show IntKind.i64.wrap ((j:Int)-1)=_;rw[s5 (by omega) (by omega)];omega
    have ej3:std.toNat (std.arith .sub .i64 (j:Int) 1)=j-1:=by rw[ej2];rfl
    have S2:=zq (gs j) (gs (std.toNat (std.arith .sub .i64 (j:Int) 1)));obtain⟨q2,hq2⟩:=eqv (decide ((gs j).key=(gs (std.toNat (std.arith .sub .i64 (j:Int) 1))).key));rw[<-hq2]at S2;refine f9 (a7 (j0 (a7 (drg O a8 [49,7,5,0,6,1] [77] [(10,.r fun _=>.bool (.v q2))] Z (fun X8 a0 w1 Z=>?_) (hob:=?hob3)))))
    case hob3=>
     intro X;subst O
     repeat(first|exact trivial|refine⟨rfl,?_⟩|refine⟨(show(0:Int)<=(j:Int)/\(j:Int)<(n6:Int)by omega),?_⟩|refine⟨(show(0:Int)<=std.arith .sub .i64 (j:Int) 1/\std.arith .sub .i64 (j:Int) 1<(n6:Int)by rw[ej2];omega),?_⟩|refine⟨⟨fun _ _=>by kernel_rfl,S2⟩,?_⟩)
    have eJ:B'.arith .add .i64 (j:Int) 1=((j+1:Nat):Int):=by subst O;exact j7 (n:=n6) hjn (by omega)
    refine d7 Z rfl (fun hb5 Z=>?_) (fun hb5 Z=>?_)
    .refine a7 (wp_region_lit ?_)
     refine lpr 0 7 O a8 [56,55,7,5,0,6,1] [77] [] Z (fun X9 a0 w1 Z=>?_) (hob:=?hob4)
     case hob4=>
      intro X;subst O
      repeat(first|exact trivial|refine⟨rfl,?_⟩|refine⟨(show(0:Int)<=(j:Int)/\(j:Int)<(n6:Int)by omega),?_⟩|refine⟨(show(0:Int)<=(k:Int)/\(k:Int)<(n:Int)by omega),?_⟩)
     have hj6:j<n6:=hjn;have Z:=Z.headS (v':=.ep A k 2 0 (itC (g k))) (by subst O;exact zr) rfl;have hrowk:Ok _ w1 (.sl (some 77) A n c 2 (fun t=>itC (g t))):=(Z.slot 0 rfl).2;have Z:=Z.reslot 55 (.agg (itC (gs j))) rfl (by subst O;rfl) (.agg _ (fun v hv=>(hitok (fun _ _=>False) w1 (gs j) (by rw[hgs];exact hsg _ (by omega)) v hv).1) (fun v hv=>(hitok _ w1 (gs j) (by rw[hgs];exact hsg _ (by omega)) v hv).2));refine kt rfl rfl rfl rfl Z rfl rfl (.inr rfl) a8 rfl rfl hrowk (fun _ _=>rfl) (show k<n by omega) (Nat.le_refl 2) (fun w2 hO2 hc2 _=>?_)
     obtain⟨g2,hg2⟩:∃x:Nat->Itm,x=fun t=>if t=k then gs j else g t:=⟨_,rfl⟩
     have efl:wrC (fun t=>itC (g t)) k 0 (itC (gs j))=fun t=>itC (g2 t):=by
      funext t
      rw[hg2];unfold wrC
      by_cases h:t=k
      .simp [h,itC]
      simp[h]
     have hO2:Own w2 wB.heap.size 62 2 (.slice A n c) n (i7 (fun t=>itC (g2 t)) n):=by rw[<-efl];exact hO2
     have hsg2:∀t,t<n->(g2 t).val.size<=maxLen:=fun t ht=>by
      rw[hg2];dsimp only
      split
      .rw [hgs];exact hsg _ (by omega)
      exact hsg t ht
     have hrow2:Ok (mG (fun _ _=>False) [] [(77,⟨A,n,c,2,62⟩)]) w2 (.sl (some 77) A n c 2 (fun t=>itC (g2 t))):=Z6 hO2 (fun _ _=>rfl) hgrm (fun i hi=>hitok _ _ _ (hsg2 i hi)) _;have hsub2:Ok (mG (fun _ _=>False) [] [(77,⟨A,n,c,2,62⟩)]) w2 (.sl none A6 n6 c6 2 (fun t=>itC (g2 (i+t)))):=by
      rw[hA6,hn6,hc6];exact EK hrow2 (by omega)
     have Z:=f7.rowset (K':=noK) (l':=[(7,.int .i64 (j:Int)),(5,.int .i64 (k:Int)),(0,.sl (some 77) A n c 2 (fun t=>itC (g2 t))),(6,.sl none A6 n6 c6 2 (fun t=>itC (g2 (i+t)))),(1,eqF)]) Z hc2 hO2 (M9 ⟨(Z.slot 7 rfl).1,.int _ _⟩ (M9 ⟨(Z.slot 5 rfl).1,.int _ _⟩ (M9 ⟨(Z.slot 0 rfl).1,hrow2⟩ (M9 ⟨(Z.slot 6 rfl).1,hsub2⟩ (M9 ⟨(Z.slot 1 rfl).1,.fn _ _ _ (fun v hv=>by cases hv) (fun v hv=>by cases hv)⟩ oA))))) (fun k e he=>by cases he) trivial;refine wpList_nil ?_;refine j5 [5,7,0,6,1] [77] Z fun X10 Z=>?_
     have eK:B'.arith .add .i64 (k:Int) 1=((k+1:Nat):Int):=by subst O;exact j7 (n:=n) (by omega) (by omega)
     refine j5 [7,5,0,6,1] [77] Z fun X11 Z=>?_
     exact⟨(j+1,k+1,g2),⟨by simp only;omega,by simp only;omega,by simp only;omega,by simp only;omega,hsg2⟩,by simp only;omega,by simp only;rw[<-eJ,<-eK];exact Z⟩
    refine f9 (j5 [7,5,0,6,1] [77] Z fun X9 Z=>?_);exact⟨(j+1,k,g),⟨by simp only;omega,by simp only;omega,hk0,by simp only;omega,hsg⟩,by simp only;omega,by simp only;rw[egs,<-eJ];exact Z⟩
   have hjn:j=n6:=by
    have:¬(j:Int)<(n6:Int):=by subst O;simpa[std,b7]using hb4
    omega
   refine o4 (a7 (wp_region_lit ?_));refine lpr 0 3 O a8 [61,5,0,1] [77] [] Z (fun X8 a0 w1 Z=>?_);have hrowk:Ok _ w1 (.sl (some 77) A n c 2 (fun t=>itC (g t))):=(Z.slot 0 rfl).2;have hkn:k<n:=by omega
   have Z:=Z.headS (v':=.sl none (M3 A c k 2) (n-k) (c-k) 2 (fun t=>itC (g (k+t)))) (by subst O;exact zr) rfl;refine rX (zc:=itC C0) rfl rfl rfl rfl rfl rfl rfl Z rfl Cl.etyI rfl (sm _) rfl hrowk (fun _ _=>rfl) hkn (fun w2 hO2 hc2=>?_);have hrow2:Ok (mG (fun _ _=>False) [] [(77,⟨A,n,c,2,62⟩)]) w2 (.sl (some 77) A n c 2 (B8 k (fun t=>itC (g t)) (fun _=>itC C0))):=Z6 (by rw[<-hsz]at *;exact hO2) (fun j hj=>by unfold B8;split<;>rfl) hgrm (fun j hj=>by
    unfold B8
    split
    .exact hitok _ _ _ (hsg j hj)
    exact hitok _ _ _ (Nat.zero_le _)) _
   have Z:=f7.rowset (K':=noK) (l':=[(0,.sl (some 77) A n c 2 (B8 k (fun t=>itC (g t)) (fun _=>itC C0))),(5,.int .i64 (k:Int))]) Z hc2 hO2 (M9 ⟨(Z.slot 0 rfl).1,hrow2⟩ (M9 ⟨(Z.slot 5 rfl).1,.int _ _⟩ oA)) (fun k e he=>by cases he) trivial;refine wpList_nil ?_;obtain⟨fz,hfz⟩:=eqv (B8 k (fun t=>itC (g t)) (fun _=>itC C0));rw[<-hfz]at Z;refine a6 [4] [77] Z fun X9 Z=>?_
   subst O;refine j2 (Fa (B:=std) (R:=vf B n f w) rfl a8 Z (fun hm' _=>⟨_,k,_,rfl,?_,by omega,rP hBw (fun _ h=>h) (by rw[<-hwB];exact hm'.chg)⟩)).1;rw[hdup,decide_eq_true (by omega)]
  have hbq:q=false:=by subst O;exact hb3
  have eI:B'.arith .add .i64 (i:Int) 1=((i+1:Nat):Int):=by subst O;exact j7 (n:=n) hin (by omega)
  refine f9 (j5 [5,0,1] [77] Z fun X5 Z=>?_);refine⟨i+1,⟨by omega,by omega,fun t ht=>?_⟩,by omega,by rw[<-eI];exact Z⟩
  rcases Nat.lt_or_ge (t+1) i with h5|h5
  .exact hlt t h5
  have:t=i-1:=by omega
  subst this;rw[show i-1+1=i by omega];rw[hq]at hbq;exact of_decide_eq_false hbq
 have hin:i=n:=by
  have:¬(i:Int)<(n:Int):=by subst O;simpa[std,b7]using hb2
  omega
 refine o4 (a6 [4] [77] Z fun X4 Z=>?_);refine j2 (Fa (R:=vf B n f w) O a8 Z (fun hm' _=>⟨A,n,c,rfl,?_,Nat.le_refl _,rP hBw (fun _ h=>h) (by rw[<-hwB];exact hm'.chg)⟩)).1;rw[decide_eq_false (Nat.lt_irrefl _)]
 symm
 unfold sM;rw[List.any_eq_false];intro t ht;have h5:=List.mem_range.1 ht;rw[decide_eq_true_eq];exact hlt t (by omega)
theorem mi{α : Type}{l:Lab}{x y:α}:∀{L:List (Lab×α)},I6 l y (I6 l x L)=I6 l y L
 | []=>by simp[I6]
 |p::L=>by
  by_cases h:p.1=l
  .simp [I6,h]
  have:=mi (l:=l) (x:=x) (y:=y) (L:=L);simp[I6,h,this]
def eS(g:Nat->Lab)(n:Nat):Nat->List (Lab×Lab)
 |0=>[]
 |i+1=>I6 (g i) (if i+1<n then g (i+1)else D6) (eS g n i)
theorem qc(g:Nat->Lab)(n:Nat):∀i,(eS g n i).length<=i
 |0=>Nat.le_refl _
 |i+1=>by
  have:=qc g n i;unfold eS;rw[iZ]
  split<;>omega
theorem BD(A:Option Addr)(n c:Nat)(g:Nat->Lab)(hn:n<=100000)(hN:∀i,i<n->o9 (g i)):I5 Tryz.prog 80 [dy A n c g] [] none noK (fun y=>⟨.raw (.map (some (y.c 0))),[],[]⟩) (fun N y=>lmF i9 N (y.c 0) (eS g n n)):=by
 intro m w hm hargs hpre hI;have hmx:maxLen=9223372036854775807:=rfl;have SNo:=ka;simp only[i9]at SNo;refine enM (bo:=none) 31 hm hpre hI hargs Tryz.func80 fun B O a0 Z=>?_
 refine a7 (rg O a8 [0] [] [] Z fun X0 a0 w1 Z=>?_);refine a7 (wp_region_lit (dw (k:=24) (e:=0) rfl rfl rfl rfl Z (Nat.le_of_ble_eq_true rfl) (lmK i9 w1.heap.size []) (fun m w' _ _ hM=>⟨_,LmD.empty hM⟩) ?_));obtain⟨bM,hbM⟩:=eqv (w1.heap.size);rw[<-hbM];intro a0 w1 hfresh Z;have hbfr:w.heap.size<=bM:=hfresh;refine lnd 1 O a8 [3,0] [] [] Z fun X1 a0 w1 Z=>?_
 refine a7 (a7 (rg O a8 [9,0,3,7,8] [] [] Z fun X2 a0 w1 Z=>?_));refine j0 (aX (ι:=Nat) (fun p=>lmK i9 bM (eS g n p)) (fun p=>[(9,.int .i64 (p:Int))]) (fun p=>[]) (fun p=>[]) (fun p=>p<=n) (fun p=>n-p) 0 (Nat.zero_le _) Z ?_)
 rintro i hi a0 w1 Z
 try dsimp only at hi
 replace Z:=Z.withK (K':=lmK i9 bM (eS g n i)) Z.kept;have hLn:=qc g n i;have hLn2:(I6 (g i) D6 (eS g n i)).length<=i+1:=by rw[iZ];split<;>omega
 refine a7 (rg O a8 [10,9,0,3,7,8] [] [] Z fun X3 a0 w1 Z=>?_);refine a7 (d7 Z rfl (fun hb Z=>?_) (fun hb Z=>?_))
 .have hin:i<n:=by
   have:(i:Int)<(n:Int):=by subst O;simpa[std,b7]using hb
   omega
  have hlab:=hN i hin;refine f9 (a7 (j0 (a7 ?_)));refine rg O a8 [4,5,9,0,3,7,8] [5] [] Z (hob:=by intro X;subst O;simp only[f8,Ob.holds,BE.den]<;>and_intros<;>repeat first|trivial|rfl|exact(show(0:Int)<=(i:Int)by omega)|exact(show(i:Int)<(n:Int)by omega)|exact(fun _ _=>by kernel_rfl)|refine⟨?_,?_⟩|intro h|exact Int.le_refl _|decide|omega) fun X4 a0 w1 Z=>?_
  replace Z:=Z.memS (cells':=M6 (g i)) (by subst O;exact zl);refine a7 ?_;apply P8 O 3 none ?hH (by kernel_rfl) a8 [14,15,16,4,5,9,0,3,7,8] [5] [(2,.r fun _=>.agg [.int .i64 D6.len,.int .u64 D6.bits])] Z rfl
  case hH=>exact I7
  case hex=>intro A X;conv=>lhs;cbv
  case hD=>kernel_rfl
  case hZ=>kernel_rfl
  case hlen=>rfl
  case hob=>
   intro X;subst O;simp only[f8,Ob.holds,BE.den]<;>(and_intros<;>repeat first|trivial|rfl|exact eh|exact SNo|refine⟨?_,?_⟩|intro h)
  case hQ=>
  intro X5 a0 w1 Z;obtain⟨D2,hD2⟩:=Z.kept;refine G9 (k:=24) (e:=24) rfl rfl rfl rfl Z rfl rfl rfl rfl rfl bY kj hD2.map (by omega) (K8 hlab) (fun h=>absurd h (by omega)) (lmK i9 bM (I6 (g i) D6 (eS g n i))) (fun m w' hk hkb hv hM=>?_) ?_
  .exact om (x:=D6) hD2.map hlab hk hkb (zr) hv hM
  intro w1 Z;replace Z:=Z.keep [4,5,9,0,3,7,8] [5];refine wpList_nil (a7 (rg O a8 [21,4,5,9,0,3,7,8] [5] [] Z fun X6 a0 w1 Z=>?_));apply d7 Z rfl<;>intro hb Z
  .have hlt:i+1<n:=by
    have h9:(IntKind.i64.wrap ((i:Int)+1))<(n:Int):=by subst O;simpa[std,b7,i5]using hb
    rw[s5 (by omega) (by omega)]at h9;omega
   apply P8 O 7 none ?hH (by kernel_rfl) a8 [22,23,28,9,0,3,7,8] [] [] Z rfl
   case hH=>exact I7
   case hex=>intro A X;conv=>lhs;cbv
   case hD=>kernel_rfl
   case hZ=>kernel_rfl
   case hlen=>rfl
   case hob=>
    intro X;subst O;have e2:std.arith .add .i64 (i:Int) 1=((i+1:Nat):Int):=by show IntKind.i64.wrap ((i:Int)+1)=_;rw[s5 (by omega) (by omega)];rfl
    have e3:0<=std.arith .add .i64 (i:Int) 1/\std.arith .add .i64 (i:Int) 1<(n:Int):=by rw[e2];omega
    repeat(first|exact trivial|refine⟨rfl,?_⟩|refine⟨e3,?_⟩)
   case hQ=>
   intro X7 a0 w1 Z;have e2:std.toNat (std.arith .add .i64 (i:Int) 1)=i+1:=by show(IntKind.i64.wrap ((i:Int)+1)).toNat=i+1;rw[s5 (by omega) (by omega)];rfl
   obtain⟨D2,hD2⟩:=Z.kept;refine G9 (k:=24) (e:=24) rfl rfl rfl rfl Z rfl rfl rfl rfl rfl bY kj hD2.map (by omega) (K8 hlab) (fun h=>absurd h (by omega)) (lmK i9 bM (I6 (g i) (g (i+1)) (I6 (g i) D6 (eS g n i)))) (fun m w' hk hkb hv hM=>?_) ?_
   .exact om (x:=g (i+1)) hD2.map hlab hk hkb (by subst O;show Sim (.agg [.int .i64 (g (std.toNat (std.arith .add .i64 (i:Int) 1))).len,.int .u64 (g (std.toNat (std.arith .add .i64 (i:Int) 1))).bits]) _;rw[e2];exact zr) hv hM
   intro w1 Z;replace Z:=Z.keep [9,0,3,7,8] [];refine wpList_nil (rg O a8 [9,0,3,7,8] [] [] Z fun X8 a0 w1 Z=>?_);have e:B.arith .add .i64 (i:Int) 1=((i+1:Nat):Int):=by subst O;exact j7 (n:=n) hin (by omega)
   refine⟨i+1,by omega,by omega,?_⟩;rw[<-e];refine Z.withK ?_
   show(lmK i9 bM (eS g n (i+1))).p _ _
   unfold eS;rw[if_pos hlt,<-mi (x:=D6)];exact Z.kept
  have hlt:¬i+1<n:=by
   have h9:¬(IntKind.i64.wrap ((i:Int)+1))<(n:Int):=by subst O;simpa[std,b7,i5]using hb
   rw[s5 (by omega) (by omega)]at h9;omega
  refine f9 (rg O a8 [9,0,3,7,8] [] [] Z fun X8 a0 w1 Z=>?_);have e:B.arith .add .i64 (i:Int) 1=((i+1:Nat):Int):=by subst O;exact j7 (n:=n) hin (by omega)
  refine⟨i+1,by omega,by omega,?_⟩;rw[<-e];refine Z.withK ?_
  show(lmK i9 bM (eS g n (i+1))).p _ _
  unfold eS;rw[if_neg hlt];exact Z.kept
 have hout:i=n:=by
  have:¬(i:Int)<(n:Int):=by subst O;simpa[std,b7]using hb
  omega
 subst hout;refine o4 (a7 (rg O a8 [2] [] [] Z fun X9 a0 w1 Z=>?_));refine j2 ((rm O a8 Z (⟨0,fun _=>none,fun _=>bM,fun _=>⟨#[]⟩⟩) [] (hJ:=?_)).1);exact fun _ _ h=>⟨hbfr,h⟩
def uh(l:List Itm):Rec:=⟨1,l,⟨0,0⟩,0⟩
def su:Rec:=⟨2,[],D6,0⟩
def M1(b:Int):Nat->List Itm->Lab->List (Lab×Rec)->Bool×List (Lab×Rec)
 |0,_,_,T=>(true,T)
 |n+1,l,q,T=>
  if 2000<=T.length then(false,T)
  else if(l.length:Int)<=b \/ q.len=64 then(true,I6 q (uh l) T)
  else if chE q 0=0 then
   (if(M1 b n (J2 (chV q 0) l) (chV q 0) (I6 q su T)).1=true then M1 b n (J2 (chV q 1) l) (chV q 1) (M1 b n (J2 (chV q 0) l) (chV q 0) (I6 q su T)).2
    else(false,(M1 b n (J2 (chV q 0) l) (chV q 0) (I6 q su T)).2))
  else(true,I6 q su T)
def gT(b:Int)(n:Nat)(l:List Itm)(q:Lab)(T:List (Lab×Rec)):Nat->List (Lab×Rec)
 |0=>I6 q su T
 |i+1=>(M1 b n (J2 (chV q (i:Nat)) l) (chV q (i:Nat)) (gT b n l q T i)).2
def gB(b:Int)(n:Nat)(l:List Itm)(q:Lab)(T:List (Lab×Rec))(i:Nat):Bool:=(M1 b n (J2 (chV q (i:Nat)) l) (chV q (i:Nat)) (gT b n l q T i)).1
section
variable {b:Int} {n:Nat} {l:List Itm} {q:Lab} {T:List (Lab×Rec)}
theorem mL(h:2000<=T.length):M1 b (n+1) l q T=(false,T):=by
 rw[M1.eq_2];exact if_pos h
theorem mK(h:¬2000<=T.length)(h1:(l.length:Int)<=b \/ q.len=64):M1 b (n+1) l q T=(true,I6 q (uh l) T):=by
 rw[M1.eq_2];exact(if_neg h).trans (if_pos h1)
theorem mJ(h:¬2000<=T.length)(h1:¬((l.length:Int)<=b \/ q.len=64))(hc:¬chE q 0=0):M1 b (n+1) l q T=(true,gT b n l q T 0):=by
 rw[M1.eq_2];exact(if_neg h).trans ((if_neg h1).trans (if_neg hc))
theorem oC(h:¬2000<=T.length)(h1:¬((l.length:Int)<=b \/ q.len=64))(hc:chE q 0=0):M1 b (n+1) l q T=if gB b n l q T 0=true then(gB b n l q T 1,gT b n l q T 2)else(false,gT b n l q T 1):=by
 rw[M1.eq_2];exact(if_neg h).trans ((if_neg h1).trans (if_pos hc))
end
def gH(TA:List (Lab×RA)):List (Lab×Rec):=TA.map fun p=>(p.1,p.2.r.abs)
theorem qZ{q:Lab}{x:RA}:∀{TA:List (Lab×RA)},gH (I6 q x TA)=I6 q x.r.abs (gH TA)
 | []=>rfl
 |p::TA=>by
  have ih:=qZ (q:=q) (x:=x) (TA:=TA);unfold gH at ih ⊢
  by_cases h:p.1=q
  .simp [I6,h]
  simp[I6,h,ih]
theorem dL(TA:List (Lab×RA)):(gH TA).length=TA.length:=List.length_map _
def lmR(b:Nat)(T:List (Lab×Rec)):Kn:=⟨fun m w=>∃TA:List (Lab×RA),gH TA=T/\(lmK N6 b TA).p m w,fun k ⟨TA,h1,h2⟩=>⟨TA,h1,(lmK N6 b TA).st k h2⟩⟩
theorem ub{b n:Nat}{T:List (Lab×Rec)}(h:b≠n):(lmR b T).off n:=fun k ⟨TA,h1,h2⟩=>⟨TA,h1,ud h k h2⟩
theorem yF{b:Nat}{T:List (Lab×Rec)}:(lmR b T).self:=fun m w ⟨TA,h1,h2⟩ l hl _ _ _ _ k ⟨TA',h1',h2'⟩=>⟨TA',h1',ud (by have:=yG h2;omega) k h2'⟩
theorem uc{b:Nat}{T:List (Lab×Rec)}{m:Nat->Nat->Prop}{w:World}(h:(lmR b T).p m w):∃es cl,w.heap[b]? = some (.map es cl):=by
 obtain⟨TA,_,h⟩:=h;exact oo h
theorem ua{b n:Nat}{T:List (Lab×Rec)}{D:DataW Value}{m:Nat->Nat->Prop}{w w':World}{q:Lab}(h0:Q7 Tryz.prog 24 w b n D)(hq:o9 q)(h:(lmR b T).p m w)(k:T2 (some b) w m w' m){v:AV}{x:RA}(hs:Sim v (N6 x))(hv:Ok m w v)(hM:Q7 Tryz.prog 24 w' b (T.length+1) (D.put (I0 q) (.held v.den))):(lmR b (I6 q x.r.abs T)).p m w':=by
 obtain⟨TA,rfl,h⟩:=h;rw[dL]at hM;exact⟨I6 q x TA,qZ,om h0 hq h k hs hv hM⟩
theorem zM{l:Lab}{its:List Itm}(h:∀x∈its,U64 x.key):∀i,i<(J2 l its).length->U64 (itF (J2 l its) i).key:=by
 intro i hi;have:itF (J2 l its) i∈J2 l its:=by
  unfold itF;rw[List.getD_eq_getElem?_getD,List.getElem?_eq_getElem hi];exact List.getElem_mem hi
 exact h _ (List.mem_filter.1 this).1
theorem sF{f:Nat->Itm}{n:Nat}{p:Itm->Prop}(h:∀i,i<n->p (f i)):∀x∈d4 f n,p x:=by
 intro x hx;unfold d4 at hx;obtain⟨i,hi,rfl⟩:=List.mem_map.1 hx;exact h i (List.mem_range.1 hi)
theorem FR(bT:Nat)(b:Int):∀(n:Nat) (A:Option Addr) (ln c:Nat) (f:Nat->Itm) (q:Lab) (T:List (Lab×Rec)),ln<=1000000->(∀i,i<ln->U64 (f i).key)->U64 q.bits->isL q=true->65<=q.len+n->I5 Tryz.prog 76 [.raw (.map (some bT)),r6 A ln c f,i9 q,.int .i64 b] [] (some bT) (lmR bT T) (fun _=>⟨.bool (.v (M1 b n (d4 f ln) q T).1),[],[]⟩) (fun _ _=>lmR bT (M1 b n (d4 f ln) q T).2):=by
 intro n
 induction n with
 |zero=>
  intro A ln c f q T _ _ _ hl hn;have:=(z8 hl).2.1;exact absurd hn (by omega)
 |succ n ih=>
  intro A ln c f q T hln hki hb0 hl hn m w hm hargs hpre hI;have hmx:maxLen=9223372036854775807:=rfl;have hlq:o9 q:=kB hl hb0;have hmap0:=uc hI;have hbT:bT<w.heap.size:=by obtain⟨es,cl,h⟩:=hmap0;exact U6 h
  obtain⟨G,hG⟩:=eqv (M1 b (n+1) (d4 f ln) q T);rw[<-hG];simp only[r6,i9]at hargs ⊢
  show Calls _ _ _ w (vd (some bT) m w [] (fun _=>⟨.bool (.v G.1),[],[]⟩) (fun _=>lmR bT G.2))
  refine JC (bo:=some bT) 42 hm hpre hI hargs Tryz.func76 fun B O a0 Z=>?_
  refine K5 (Q8 (j5 [4,5,6,7,8] [4,5,6,7,8] Z fun X0 Z=>?_));refine K5 (Q8 (a7 (wp_region_lit ?_)));refine lpr 0 1 O a8 [10,4,5,6,7,8] [4,5,6,7,8] [] Z (fun X1 a0 w1 Z=>?_);obtain⟨TA,hTA,D,hD⟩:=Z.kept;have hTl:Maps.size D=T.length:=by rw[hD.size,<-hTA,dL]
  refine qj rfl rfl rfl rfl rfl rfl rfl Z (Nat.le_of_ble_eq_true rfl) rfl fP hD.map fun a0 Z=>?_
  rw[hTl]at Z;obtain⟨tn,htn⟩:=eqv (T.length);rw[<-htn]at Z;refine lnd 2 O a8 [12,4,5,6,7,8] [4,5,6,7,8] [] Z (fun X2 a0 w1 Z=>?_);have hhm:∀T',∀b',some bT=some b'->(∃es cl,w.heap[b']? = some (.map es cl))/\∀m w,(lmR bT T').p m w->∃es cl,w.heap[b']? = some (.map es cl):=fun T' b' hb'=>by cases hb';exact⟨hmap0,fun m w h=>uc h⟩
  apply d7 Z rfl<;>intro hb Z
  .have hfull:2000<=T.length:=by
    have:(2000:Int)<=(tn:Int):=by subst O;simpa[std,b7]using hb
    omega
   refine a6 [8] [8] Z fun X3 Z=>?_
   have hG:=hG.trans (mL hfull);refine j2 (rmM (res:=fun _=>⟨.bool (.v G.1),[],[]⟩) (J:=fun _=>lmR bT G.2) O a8 [] (Z.withK (K':=(lmR bT T).and (N5 [])) ⟨Z.kept,⟨fun D hD=>(by cases hD),List.nodup_nil⟩⟩) (fun D hD=>by cases hD) ⟨0,fun _=>none,fun _=>0,fun _=>.empty⟩ [] (hhm _) (he:=?he) (hJ:=by rw[hG];exact fun _ _ h=>h)).1
   case he=>rw[hG];subst O;exact Sim.bool rfl
  have hnf:¬2000<=T.length:=by
   have:¬(2000:Int)<=(tn:Int):=by subst O;simpa[std,b7]using hb
   omega
  refine f9 ?_;refine K5 (Q8 (a6 [21,4,5,6,7,8] [4,5,6,7,8] Z fun X3 Z=>?_));apply d7 Z rfl<;>intro hb Z
  .have h9:(if decide ((ln:Int)<=b)=true then true else decide (q.len=64))=true:=by subst O;exact hb
   have hlf:((d4 f ln).length:Int)<=b \/ q.len=64:=by
    rw[i6]
    by_cases h1:(ln:Int)<=b
    .exact .inl h1
    rw[decide_eq_false h1]at h9;exact .inr (by simpa using h9)
   have hG:=hG.trans (mK hnf hlf);have SCl:=Cl.clone_sf A ln c f (by omega);simp only[r6]at SCl;have O1:=SCl;refine a7 (d3 5 O a8 [22,23,26,8] [8] [(3,.r fun y=>.sl none (y.A 0) ln (y.c 0) 2 (fun t=>itC (f t)))] Z fun X4 a0 w1 Z=>?_);obtain⟨TA2,hTA2,D2,hD2⟩:=Z.kept;have hT2:TA2.length=T.length:=by rw[<-hTA2,dL]
   refine G9 (k:=24) (e:=35) rfl rfl rfl rfl Z rfl rfl rfl rfl rfl bY fP hD2.map (by omega) (K8 hlq) (fun _=>.inr rfl) (lmR bT (I6 q (uh (d4 f ln)) T)) (fun m' w' hk hkb hv hM=>?_) ?_
   .have:=ua (x:=⟨(X4 3).A 0,(X4 3).c 0,⟨ln,f,1,⟨0,0⟩,0⟩⟩) hD2.map hlq hk hkb ?_ hv (by rw[<-hT2];exact hM)
    .exact this
    exact Sim.agg ⟨zr,zr,zr,zr,zr,trivial⟩
   intro w1 Z;refine wpList_nil ?_;refine a6 [8] [8] Z fun X5 Z=>?_
   refine j2 (rmM (res:=fun _=>⟨.bool (.v G.1),[],[]⟩) (J:=fun _=>lmR bT G.2) O a8 [] (Z.withK (K':=(lmR bT (I6 q (uh (d4 f ln)) T)).and (N5 [])) ⟨Z.kept,⟨fun D hD=>(by cases hD),List.nodup_nil⟩⟩) (fun D hD=>by cases hD) ⟨0,fun _=>none,fun _=>0,fun _=>.empty⟩ [] (hhm _) (he:=?he) (hJ:=by rw[hG];exact fun _ _ h=>h)).1
   case he=>rw[hG];subst O;exact Sim.bool rfl
  have hnl:¬(((d4 f ln).length:Int)<=b \/ q.len=64):=by
   have h9:(if decide ((ln:Int)<=b)=true then true else decide (q.len=64))=false:=by subst O;exact hb
   rw[i6]
   rintro(h1|h1)<;>simp[h1]at h9
  refine f9 ?_;have SNo:=ka;simp only[i9]at SNo;have O1:=SNo;refine K5 (Q8 (d3 4 O a8 [27,28,30,4,5,6,7,8] [4,5,6,7,8] [(2,.r fun _=>.agg [.int .i64 D6.len,.int .u64 D6.bits])] Z fun X4 a0 w1 Z=>?_));obtain⟨TA2,hTA2,D2,hD2⟩:=Z.kept;have hT2:TA2.length=T.length:=by rw[<-hTA2,dL]
  refine G9 (k:=24) (e:=35) rfl rfl rfl rfl Z rfl rfl rfl rfl rfl bY fP hD2.map (by omega) (K8 hlq) (fun _=>.inr rfl) (lmR bT (gT b n (d4 f ln) q T 0)) (fun m' w' hk hkb hv hM=>?_) ?_
  .have:=ua (x:=⟨none,0,⟨0,fun _=>C0,2,D6,0⟩⟩) hD2.map hlq hk hkb ?_ hv (by rw[<-hT2];exact hM)
   .exact this
   exact Sim.agg ⟨zr,fy,zr,zr,zr,trivial⟩
  intro w1 Z;refine wpList_nil ?_;replace Z:=Z.keep [6,5,7,4,8] [4,5,6,7,8];have SK:=FH q;simp only[i9]at SK;have O1:=SK;refine K5 (K5 (Q8 (j4 [32,4,5,6,7,8] [4,5,6,7,8] [(1,.r fun y=>.fn 159 [] [.ep (some ⟨y.b,0,none⟩) 0 0 0 [.int .i64 q.len,.int .u64 q.bits]])] Z fun X5 Z=>?_)));refine lY ?_;have hKu:=yF _ _ Z.kept;refine Ff Z rfl wD hKu (fun l D rc w1 hl hD hrc hD0 hsz ha hm1 hlb=>?_);subst hrc;obtain⟨memc,hmemc⟩:=eqv ([(4,(⟨(X0 0).b,125,[.raw (.map (some bT))]⟩:Blk)),(5,⟨(X0 1).b,33,[.sl none A ln c 2 (fun i=>itC (f i))]⟩),(6,⟨(X0 2).b,24,[.int .i64 q.len,.int .u64 q.bits]⟩),(7,⟨(X0 3).b,3,[.int .i64 b]⟩),(8,⟨(X0 4).b,4,[.bool .ff]⟩)]);refine(FI (l:=l) (D:=D) (ntc:=42) (p:=33) Tryz.func76 (by omega) (by omega) rfl rfl rfl (by decide) ⟨_,ha⟩ q hb0 (fun i K' mem gr=>(∀j,j<i->gB b n (d4 f ln) q T j=true)/\K'=lmR bT (gT b n (d4 f ln) q T i)/\mem=memc/\gr=[]) (fun cc K' mem gr=>cc = .ret/\∃i,i<2/\chE q 0=0/\(∀j,j<i->gB b n (d4 f ln) q T j=true)/\gB b n (d4 f ln) q T i=false/\K'=lmR bT (gT b n (d4 f ln) q T (i+1))/\mem=memc/\gr=[]) ?_ ⟨fun j hj=>absurd hj (Nat.not_lt_zero _),rfl,hmemc.symm,rfl⟩ (hKu.off (by omega)) hm1 (hlb _ (by simp))).mono ?_
  .intro i hi hce E hE hE2 K' mem gr a w2 ⟨hgb,hK',hmem,hgr⟩ hoff Z
   subst hK' hmem hgr;obtain⟨hc1,hc2,hc3⟩:=Iy hb0 hce (i:Nat);obtain⟨cl,hcl⟩:=eqv (chV q (i:Nat));rw[<-hcl]at hc1 hc2 hc3 Z;simp only[i9]at Z;rw[hmemc]at Z;refine rrg O a8 [9,4,5,6,7,8] [9,4,5,6,7,8] [] Z fun X6 a0 w1 Z=>?_
   refine⟨42,_,_,_,Z,fun w2 Z=>?_⟩;have SCV:=EE A ln c f (by omega) cl hc2 hki;have hcln:=CA cl (d4 f ln);have hcvk:=zM (l:=cl) (sF (p:=fun x=>U64 x.key) hki);rw[i6]at hcln;obtain⟨CV,hCV⟩:=eqv (J2 cl (d4 f ln));rw[<-hCV]at SCV hcln hcvk;obtain⟨cf,hcf⟩:=eqv (itF CV);obtain⟨cn,hcn⟩:=eqv (CV.length);have hfc:d4 cf cn=CV:=by rw[hcf,hcn,iA]
   rw[<-hcf,<-hcn]at SCV hcvk;rw[<-hcn]at hcln;simp only[r6,i9]at SCV;refine wpIn_block (wpIn_seq (rd3 6 O a8 [34,37,38,39,8] [4,5,6,7,8] [(3,.r fun x=>.sl none (x.A 0) cn (x.c 0) 2 (fun i=>itC (cf i)))] Z (fun X7 a0 w1 Z=>?_) (hob:=?hob)))
   case hob=>
    intro X;subst O
    repeat(first|exact trivial|refine⟨⟨fun _ _=>by kernel_rfl,SCV⟩,?_⟩|refine⟨rfl,?_⟩)
   have IH:=ih ((X7 3).A 0) cn ((X7 3).c 0) cf cl (gT b n (d4 f ln) q T i) (by omega) hcvk hc2 hc1 (by omega);have hgBi:(M1 b n (d4 cf cn) cl (gT b n (d4 f ln) q T i)).1=gB b n (d4 f ln) q T i:=by rw[hfc,hCV,hcl];rfl
   have hgTi:(M1 b n (d4 cf cn) cl (gT b n (d4 f ln) q T i)).2=gT b n (d4 f ln) q T (i+1):=by rw[hfc,hCV,hcl];rfl
   rw[hgBi,hgTi]at IH;obtain⟨gb,hgbb⟩:=eqv (gB b n (d4 f ln) q T i);rw[<-hgbb]at IH;simp only[r6,i9]at IH;refine rZ rfl rfl rfl rfl Z rfl rfl (fun _ _=>by kernel_rfl) IH (by omega) (by omega) (hE2 _) (fun _=>.inr rfl) (zl) rfl (fun x a0 w1 Z=>?_);refine lnd 7 O a8 [41,8] [4,5,6,7,8] [] Z (fun X8 a0 w1 Z=>?_);have hoff2:∀T',(lmR bT T').off l:=fun T'=>ub (by omega)
   refine aR Z rfl (fun hb Z=>?_) (fun hb Z=>?_)
   .have hgf:gB b n (d4 f ln) q T i=false:=by rw[<-hgbb];subst O;cases gb<;>first|rfl|cases hb
    refine wpIn_seq (rrg O a8 [] [4,5,6,7,8] [] Z fun X9 a0 w1 Z=>?_);refine wpIn_ret ?_;exact⟨lmR bT (gT b n (d4 f ln) q T (i+1)),_,[],⟨rfl,i,hi,hce,hgb,hgf,rfl,hmemc.symm,rfl⟩,hoff2 _,Z.bare⟩
   have hgt:gB b n (d4 f ln) q T i=true:=by rw[<-hgbb];subst O;cases gb<;>first|rfl|cases hb
   refine wpIn_skip ?_;refine⟨lmR bT (gT b n (d4 f ln) q T (i+1)),_,[],⟨fun j hj=>?_,rfl,hmemc.symm,rfl⟩,hoff2 _,Z.bare⟩
   rcases Nat.lt_or_ge j i with h1|h1
   .exact hgb j h1
   rw[show j=i by omega];exact hgt
  rintro e w3 ⟨v,rfl,K',mem',gr',ho,hh⟩
  have hDo:∀T',∀D' ∈ [D],(lmR bT T').off D'/\w.heap.size<=D':=fun T' D' hD'=>by
   simp only[List.mem_singleton]at hD';subst hD';exact⟨ub (by omega),hD0⟩
  rcases hh with⟨hm',hgb,rfl,rfl,rfl⟩|⟨cc,⟨rfl,i,hi,hce,hgb,hgf,rfl,rfl,rfl⟩,hm'⟩
  .refine ⟨v,rfl,_,_,_,ho,.inl ⟨hm',fun a' w' Z=>?_⟩⟩
   rw[hmemc]at Z;refine Q8 (a6 [8] [8] Z fun X9 Z=>?_);have hGe:G=(true,gT b n (d4 f ln) q T (if chE q 0=0 then 2 else 0)):=by
    by_cases hce:chE q 0=0
    .rw [if_pos hce]at hgb ⊢
     rw[hG,oC hnf hnl hce,if_pos (hgb 0 (by decide)),hgb 1 (by decide)]
    rw[if_neg hce];rw[hG,mJ hnf hnl hce]
   refine j2 (rmM (res:=fun _=>⟨.bool (.v G.1),[],[]⟩) (J:=fun _=>lmR bT G.2) O a8 [D] Z (hDo _) ⟨0,fun _=>none,fun _=>0,fun _=>.empty⟩ [] (hhm _) (he:=?he) (hJ:=by rw[hGe];exact fun _ _ h=>h)).1
   case he=>rw[hGe];subst O;exact Sim.bool rfl
  refine⟨v,rfl,_,_,_,ho,.inr ⟨.ret,hm',fun a' w' Z=>?_⟩⟩;rw[hmemc]at Z;have hGe:G=(false,gT b n (d4 f ln) q T (i+1)):=by
   rw[hG,oC hnf hnl hce]
   rcases i with _|_|i
   .rw [if_neg (by rw[hgf];decide)]
   .rw [if_pos (hgb 0 (by decide)),hgf]
   omega
  refine j2 (rmM (res:=fun _=>⟨.bool (.v G.1),[],[]⟩) (J:=fun _=>lmR bT G.2) O a8 [D] (Z.keep [8] [8]) (hDo _) ⟨0,fun _=>none,fun _=>0,fun _=>.empty⟩ [] (hhm _) (he:=?he2) (hJ:=by rw[hGe];exact fun _ _ h=>h)).1
  case he2=>rw[hGe];subst O;exact Sim.bool rfl
section
variable {P:Program} {fn:FuncId} {Q:Exit->Act->World->Prop} {C:Cx} {nt t:Nat} {b:Bool} {l:List (Nat×AV)} {mem:List (Nat×Blk)} {gr:List (Nat×Gr)} {a:Act} {w:World} {x y:Code}
end
section
variable {α : Type} {el:α->AV} {D:DataW Value} {b r:Nat} {L:List (Lab×α)} {left:Lit->Bool} {cnt:Nat} {m m':Nat->Nat->Prop} {w w':World}
def rgK(el:α->AV)(D:DataW Value)(b r:Nat)(L:List (Lab×α))(left:Lit->Bool)(cnt:Nat):Kn:=⟨fun m w=>LmD el D b L m w/\w.ranges Tryz.prog 24 hR b r L.length D left cnt,fun k h=>⟨h.1.keep k,dm k h.2⟩⟩
def spK(el:α->AV)(D:DataW Value)(b r:Nat)(L:List (Lab×α))(left:Lit->Bool)(bb:Bool)(key v:Value)(kl:Lit)(cnt:Nat):Kn:=⟨fun m w=>LmD el D b L m w/\(bb=true->w.ranges Tryz.prog 24 hR b r L.length D (fun x=>left x && !x.sameKey kl) cnt/\cD Tryz.prog w r key v),fun k h=>⟨h.1.keep k,fun hb=>⟨dm k (h.2 hb).1,kW k (h.2 hb).2⟩⟩⟩
def etK(el:α->AV)(D:DataW Value)(b r:Nat)(L:List (Lab×α))(left:Lit->Bool)(key v:Value)(cnt:Nat):Kn:=⟨fun m w=>LmD el D b L m w/\w.ranges Tryz.prog 24 hR b r L.length D left cnt/\cD Tryz.prog w r key v,fun k h=>⟨h.1.keep k,dm k h.2.1,kW k h.2.2⟩⟩
theorem LmD.entry(h:LmD el D b L m w){key v:Value}{kl:Lit}(hk:Go.keyOf Tryz.prog 24 key=some kl)(hh:Maps.has D kl=true)(ha:∀zd,D.atKey kl zd = .held v):∃p∈L,I0 p.1=kl/\key=(i9 p.1).den/\v=(el p.2).den:=by
 obtain⟨p,hp,he⟩:=(h.has kl).1 hh;refine⟨p,hp,he,?_,?_⟩
 .exact bY.inj hk (he ▸ K8 (h.labs p hp))
 have h1:=h.at_ p hp (.held v);rw[he,ha]at h1;injection h1
theorem dA(l:Lab):(I0 l).sameKey (I0 l)=true:=by simp[I0,Lit.sameKey]
theorem mD{l l':Lab}(h:o9 l)(h':o9 l'):(I0 l).sameKey (I0 l')=decide (l=l'):=by
 by_cases he:l=l'
 .subst he;rw[dA,decide_eq_true rfl]
 rw[decide_eq_false he];have:I0 l≠I0 l':=fun e=>he (dB h h' e)
 unfold I0 at this ⊢;simp only[Lit.sameKey]
 simpa using this
end
def nxP(l:List Lab)(q:Lab):Lab:=(R9 q (eS (R3 l) l.length l.length)).getD ⟨0,0⟩
theorem se{l:List Rw}{p:Lab->Prop}(h:∀w∈l,p w.lab):∀i,i<(I9 l).length->p (R3 (I9 l) i):=by
 intro i hi;have hm:R3 (I9 l) i∈I9 l:=by
  unfold R3;rw[List.getD_eq_getElem?_getD,List.getElem?_eq_getElem hi];exact List.getElem_mem hi
 have h2:R3 (I9 l) i∈cF l:=(eH _).mem_iff.1 hm;unfold cF at h2;obtain⟨w,hw,he⟩:=List.mem_map.1 h2;rw[<-he];exact h w (List.mem_filter.1 hw).1
section
variable {K:Kn} {P:Program} {T:List (Nat×TI)} {a:Act} {w:World} {m:Nat->Nat->Prop} {w0:World} {fn:Func} {rs:List ResultVar} {r:List AV×List Ob} {B:Alg} {nt:Nat} {tm:List (Nat×AV)} {mem:List (Nat×Blk)} {gr:List (Nat×Gr)}
end
def ldK{α : Type}(el:α->AV)(D:DataW Value)(b:Nat)(L:List (Lab×α)):Kn:=⟨LmD el D b L,fun k h=>h.keep k⟩
theorem xf(w:World):(zeroValue 24).run Tryz.prog w = .ok (i9 ⟨0,0⟩).den w:=by kernel_rfl
theorem np(m:Nat->Nat->Prop)(w:World)(q:Lab):Ok m w (i9 q):=by
 unfold i9;exact .agg _ (by intro v hv;simp only[List.mem_cons,List.not_mem_nil,or_false]at hv;rcases hv with rfl|rfl<;>rfl) (by intro v hv;simp only[List.mem_cons,List.not_mem_nil,or_false]at hv;rcases hv with rfl|rfl<;>exact .int _ _)
def nN(p:Lab×Rec):Rw:=⟨p.1,1,p.2⟩
def oy(p:Lab×Rec):List (Lab×Rec)->List (Lab×Rec)
 | []=>[p]
 |q::l=>if J9 p.1 q.1=true then p::q::l else q::oy p l
def jK(l:List (Lab×Rec)):List (Lab×Rec):=l.foldl (fun o x=>oy x o) []
def leE(a b:Lab×Rec):Prop:=leL a.1 b.1
theorem gU(x:Lab×Rec):∀l:List (Lab×Rec),(oy x l).Perm (x::l)
 | []=>List.Perm.refl _
 |y::l=>by
  unfold oy
  split
  .exact List.Perm.refl _
  exact(List.Perm.cons _ (gU x l)).trans (List.Perm.swap _ _ _)
theorem iy(x:Lab×Rec):∀{l:List (Lab×Rec)},l.Pairwise leE->(oy x l).Pairwise leE
 | [],_=>List.pairwise_singleton _ _
 |y::l,h=>by
  have h':=List.pairwise_cons.1 h;unfold oy
  split
  .rename_i hx
   refine List.pairwise_cons.2 ⟨fun z hz=>?_,h⟩
   rcases List.mem_cons.1 hz with rfl|hz
   .exact jg hx
   exact mC (jg hx) (h'.1 z hz)
  rename_i hx
  refine List.pairwise_cons.2 ⟨fun z hz=>?_,iy x h'.2⟩
  rcases List.mem_cons.1 ((gU x l).mem_iff.1 hz)with rfl|hz
  .exact (Bool.not_eq_true _).mp hx
  exact h'.1 z hz
theorem pH(l:List (Lab×Rec)):∀(o:List (Lab×Rec)),(l.foldl (fun o x=>oy x o) o).Perm (l++o)/\(o.Pairwise leE->(l.foldl (fun o x=>oy x o) o).Pairwise leE):=by
 induction l with
 |nil=>exact fun o=>⟨List.Perm.refl _,id⟩
 |cons x l ih=>
  intro o;obtain⟨h1,h2⟩:=ih (oy x o);exact⟨h1.trans (((gU x o).append_left l).trans List.perm_middle),fun ho=>h2 (iy x ho)⟩
theorem jJ(l:List (Lab×Rec)):(jK l).Perm l:=by
 have:=(pH l []).1
 rwa[List.append_nil]at this
theorem nL(l:List (Lab×Rec)):(jK l).Pairwise leE:=(pH l []).2 .nil
def wu(NX:Lab->Lab)(w:Rw):Rw:=if w.r.kind=1 then { w with r:={ w.r with next:=NX w.lab } }else w
def ux(n:Nat)(f:Nat->Itm)(b:Int):Bool×List (Lab×Rec):=M1 b 65 (d4 f n) ⟨0,0⟩ []
def oV(n:Nat)(f:Nat->Itm)(b:Int):Int:=
 if b<1 \/ b>16 \/ yl n f=true \/ rG n f=false \/ sM n f=true then 1 else if 500<n then 2 else if(ux n f b).1=true then 0 else 2
def qS(n:Nat)(f:Nat->Itm)(b:Int):List Rw:=(jK (ux n f b).2).map nN
def cQ(n:Nat)(f:Nat->Itm)(b:Int):List Rw:=if oV n f b=0 then(qS n f b).map (wu (nxP (I9 (qS n f b))))else []
theorem kP{left:Lit->Bool}{p:Lab×RA}:∀{L:List (Lab×RA)},(L.map (·.1)).Nodup->(∀q∈L,o9 q.1)->p∈L->left (I0 p.1)=true →
  (L.filter fun q=>left (I0 q.1)).Perm (p::L.filter fun q=>left (I0 q.1) && !(I0 q.1).sameKey (I0 p.1))
 |q::L,hr,hl,hp,h1=>by
  have hr':=List.nodup_cons.1 hr
  rcases List.mem_cons.1 hp with rfl|hp
  .rw [List.filter_cons,if_pos h1,List.filter_cons,dA]
   simp only[Bool.not_true,Bool.and_false,Bool.false_eq_true,if_false];refine List.Perm.cons _ ?_;have:∀q∈L,(left (I0 q.1))=(left (I0 q.1) && !(I0 q.1).sameKey (I0 p.1)):=by
    intro q hq;rw[mD (hl q (by simp[hq])) (hl p (by simp)),decide_eq_false (fun e=>hr'.1 (List.mem_map.2 ⟨q,hq,e⟩))];simp
   rw[List.filter_congr this]
  have hne:q.1≠p.1:=fun e=>hr'.1 (List.mem_map.2 ⟨p,hp,e.symm⟩)
  have ih:=kP hr'.2 (fun q hq=>hl q (by simp[hq])) hp h1;rw[List.filter_cons,List.filter_cons,mD (hl q (by simp)) (hl p (by simp[hp])),decide_eq_false hne];simp only[Bool.not_false,Bool.and_true]
  split
  .exact (List.Perm.cons _ ih).trans (List.Perm.swap _ _ _)
  exact ih
def rwA(p:Lab×RA):B1:=⟨p.1,1,p.2⟩
theorem wQ{TA:List (Lab×RA)}(hnd:(TA.map (·.1)).Nodup){h h':Nat->B1}{k:Nat}(hp:(G5 h k).Perm (TA.map fun p=>(rwA p).abs))(hp':((List.range k).map h').Perm ((List.range k).map h))(hs:∀i j,i<j->j<k->cG (h' j).lab (h' i).lab=false):G5 h' k=(jK (gH TA)).map nN:=by
 have e1:(TA.map fun p=>(rwA p).abs)=(gH TA).map nN:=by unfold gH;rw[List.map_map];rfl
 have hperm:(G5 h' k).Perm ((jK (gH TA)).map nN):=by
  refine List.Perm.trans ?_ (hp.trans (by rw[e1];exact((jJ (gH TA)).map nN).symm));have:=hp'.map B1.abs;simp only[List.map_map]at this;exact this
 have hlabs:((gH TA).map nN).map (·.lab)=TA.map (·.1):=by unfold gH;rw[List.map_map,List.map_map];rfl
 have hnd2:(((jK (gH TA)).map nN).map (·.lab)).Nodup:=by
  have:=((jJ (gH TA)).map nN).map (·.lab);exact this.nodup_iff.2 (by rw[hlabs];exact hnd)
 refine List.Perm.eq_of_pairwise (le:=fun a b:Rw=>leL a.lab b.lab) ?_ ?_ ?_ hperm
 .intro a b ha hb h1 h2
  have hl:a.lab=b.lab:=qo h1 h2;have ha':=hperm.mem_iff.1 ha;have key:∀{l:List Rw},(l.map (·.lab)).Nodup->∀{a b:Rw},a∈l->b∈l->a.lab=b.lab->a=b:=by
   intro l
   induction l with
   |nil=>intro _ a b ha;cases ha
   |cons x l ih=>
    intro hn a b ha hb hab;have hn':=List.nodup_cons.1 hn
    rcases List.mem_cons.1 ha with hax|hax
    .rcases List.mem_cons.1 hb with hbx|hbx
     .rw [hax,hbx]
     exact(hn'.1 (List.mem_map.2 ⟨b,hbx,by rw[<-hab,hax]⟩)).elim
    rcases List.mem_cons.1 hb with hbx|hbx
    .exact (hn'.1 (List.mem_map.2 ⟨a,hax,by rw[hab,hbx]⟩)).elim
    exact ih hn'.2 hax hbx hab
  exact key hnd2 ha' hb hl
 .rw [List.pairwise_iff_getElem]
  intro i j hi hj hij;have hj':j<k:=by rw[Q3]at hj;exact hj
  have hi':i<k:=by omega
  have e:∀t (g:t<(G5 h' k).length),t<k->(G5 h' k)[t]=(h' t).abs:=by
   intro t g ht;have:=mA B1.abs h' ht;rw[List.getElem?_eq_getElem g]at this;exact Option.some.inj this
  rw[e i hi hi',e j hj hj']
  show J9 (h' j).lab (h' i).lab=false
  rw[<-qq];exact hs i j hij hj'
 rw[List.pairwise_map];exact nL _
theorem tY{C:Cx}{P:Program}{Q:Exit->Act->World->Prop}{ops:Array Oper}{s:St}{a:Act}{w:World}{L rest:List Oper}{o:Oper}{cl:Call}{g:Operand}{f:FuncId}{l r args:List AV}{d:Nat}(hL:L=o::rest)(hg:o.guard=none)(hop:o.op = .call cl)(hcal:cl.callee = .value g)(hdst:o.dst=some d)(h:f7 C s a w)(hgv:val s [] g = .fn f l r)(hl:R0 s [] cl.args.toList=some args)(hen:o3 P f)
  (R:Value->World->Prop) (hc:Calls P f ((l++args++r).map AV.den).toArray w fun e w'=>∃v,e = .returned v/\R v w') (K:∀v w',R v w'->wpList P ops Q rest (a.put (some d) v) w'):wpList P ops Q L a w:=by
 refine T8 hL hg ?_;obtain⟨hrun,_⟩:=gE hop hcal h hgv hl hen;unfold Oper.wp;rw[hrun];simp only[Oper.upon];refine hc.mono ?_
 rintro e w' ⟨v,rfl,h1⟩
 rw[hdst];exact K v w' h1
theorem l7.args'{P:Program}{f:FuncId}{args args':List AV}{res:j1->AV}(h:l7 P f args' res)(hs:E7 args args'):l7 P f args res:=by
 intro m w hm ha;rw[hs.map];exact h m w hm (hs.ok ha)
theorem wO(A:Option Addr)(n c:Nat)(f:Nat->Itm)(hn:n<=1000000){m:Nat->Nat->Prop}{w:World}(hok:Ok m w (r6 A n c f)):Calls Tryz.prog 72 ([r6 A n c f].map AV.den).toArray w fun e w'=>∃v,e = .returned v/\∃A' c',v = .slice A' n c'/\Own w' w.heap.size 62 2 (.slice A' n c') n (i7 (fun t=>itC (f t)) n)/\Below w.heap.size w w':=by
 have hsim:Sim (r6 A n c f) (r6 A (d4 f n).length c (itF (d4 f n))):=Sim.resl (i6 f n).symm fun t ht=>by rw[i6]at ht;rw[s7 f n t ht]
 have hr:=Cl.its_reads (hsim.2.2 _ _ hok);have:=Cl.clone_c w A c (d4 f n) hr (by rw[i6];omega);rw[i6]at this;refine this.mono ?_
 rintro e w' ⟨v,rfl,hO,hb⟩
 obtain⟨A',c',rfl,_,_⟩:=hO.isSlice;rw[i6]at hO;refine⟨_,rfl,A',c',by rw[i6],?_,hb⟩;unfold tj at hO;rw[i6]at hO;have e:i7 (fun t=>itC (f t)) n=(d4 f n).flatMap Cl.itmE:=by
  have:=Cl.rowFlat_its (d4 f n);rw[i6]at this;rw[<-this];unfold i7;rw[List.flatMap_def,List.flatMap_def]
  congr 1
  apply List.map_congr_left;intro t ht
  show(itC (f t)).map AV.den=(itC (itF (d4 f n) t)).map AV.den
  rw[s7 f n t (List.mem_range.1 ht)]
 rw[e];exact hO
theorem DV:∀k,¬ats ([]:List (Nat×Blk)) k:=fun k ⟨e,he,_⟩=>by cases he
theorem HG{m0:Nat->Nat->Prop}{mem:List (Nat×Blk)}{gr:List (Nat×Gr)}{nt:Nat}{tm:List (Nat×AV)}{w w1:World}{S:Nat->Prop}{ds:List Deferred}{K K':Kn}(h:K.p (mT m0 mem gr) w):K.p (St.m ⟨nt,tm,[],[],[]⟩ ⟨mT m0 mem gr,w1,S,ds,K'⟩) w:=
 K.st ⟨fun b o u h1 h2=>⟨h1,fun h=>by
  rcases h with h|⟨k,e,he,_⟩|⟨k,t,ht,_⟩
  .exact h2 h
  .cases he
  cases ht⟩,fun _ _ h _=>h⟩ h
theorem kM{b:Int}:∀(n:Nat) (l:List Itm) (q:Lab) (T:List (Lab×Rec)),T.length<=2000->(M1 b n l q T).2.length<=2000
 |0,l,q,T,h=>h
 |n+1,l,q,T,h=>by
  by_cases h1:2000<=T.length
  .rw [mL h1];exact h
  have hs:∀r,(I6 q r T).length<=2000:=fun r=>by rw[iZ];split<;>omega
  by_cases h2:(l.length:Int)<=b \/ q.len=64
  .rw [mK h1 h2];exact hs _
  by_cases hc:chE q 0=0
  .have e1:(gT b n l q T 1).length<=2000:=kM n _ _ _ (hs su)
   have e2:(gT b n l q T 2).length<=2000:=kM n _ _ _ e1;rw[oC h1 h2 hc]
   split
   .exact e2
   exact e1
  rw[mJ h1 h2 hc];exact hs su
theorem tQ{m0:Nat->Nat->Prop}{w0 w w':World}{S:Nat->Prop}{ds:List Deferred}{K:Kn}{nt key:Nat}{t:Gr}{l:List (Nat×AV)}{mem:List (Nat×Blk)}{a:Act}(h:f7 ⟨m0,w0,S,ds,K⟩ ⟨nt,l,[],mem,[(key,t)]⟩ a w)(hS:∀k,¬S k)(hc:Chg (fun x=>s9 t.v=some x) w w'){v:AV}(hv:Ok m0 w0 v):Ok (mG m0 mem [(key,t)]) w' v:=by
 refine hv.mono fun b o u hcell hn=>?_
 have hlt:=World.block_lt_of_cell? w0 _ hcell;have hown:s9 t.v≠some b:=by
  intro hb;obtain⟨_,xs,ho⟩:=h.gr key t (by simp[i8]);exact absurd hlt (Nat.not_lt.2 (ho.lt b hb).1)
 refine⟨?_,?_⟩
 .have e1:=h.chg.block b hlt (hS b)
  have e2:=hc.block b (Nat.lt_of_lt_of_le hlt h.chg.size) hown;unfold World.cell? at hcell ⊢;rw[e2,e1];exact hcell
 rintro(h1|⟨k,e,he,h1⟩|⟨k,t',ht,hb,_⟩)
 .exact hn h1
 .subst h1
  rcases(h.mem k e he).2.2 with h2|h2
  .exact absurd hlt (Nat.not_lt.2 h2)
  exact hS _ h2
 obtain⟨_,xs,ho⟩:=h.gr k t' ht;exact absurd hlt (Nat.not_lt.2 (ho.lt b hb).1)
theorem BP{bN:Nat}{NX:List (Lab×Lab)}{m m':Nat->Nat->Prop}{w w':World}(h:(lmK i9 bN NX).p m w)(he:w'.heap[bN]? = w.heap[bN]?):(lmK i9 bN NX).p m' w':=by
 obtain⟨D,hD⟩:=h;exact⟨D,mw hD.map he,hD.nd,hD.labs,hD.has,hD.size,hD.at_,fun p hp=>np _ _ _⟩
theorem bQ{m:Nat->Nat->Prop}{w:World}{x:RA}(h:Ok m w (N6 x))(l:Lab)(v:Int):∀u∈G2 ⟨l,v,x⟩,u.one=true/\Ok m w u:=by
 cases h with
 |agg _ h1 h2=>
  intro u hu;simp only[G2,List.mem_cons,List.not_mem_nil,or_false]at hu
  rcases hu with rfl|rfl|rfl|rfl|rfl|rfl|rfl|rfl
  .exact ⟨rfl,.int _ _⟩
  .exact ⟨rfl,.int _ _⟩
  .exact ⟨rfl,.int _ _⟩
  .exact ⟨rfl,.int _ _⟩
  .exact ⟨h1 _ (by simp[nX]),h2 _ (by simp[nX])⟩
  .exact ⟨rfl,.int _ _⟩
  .exact ⟨rfl,.int _ _⟩
  exact⟨rfl,.int _ _⟩
def iR(NX:Lab->Lab)(r:B1):B1:=if r.x.r.kd=1 then⟨r.lab,r.ver,⟨r.x.A,r.x.c,{ r.x.r with nx:=NX r.lab }⟩⟩else r
theorem zh(NX:Lab->Lab)(r:B1):(iR NX r).abs=wu NX r.abs:=by
 unfold iR wu
 by_cases h:r.x.r.kd=1
 .rw [if_pos h,if_pos (show r.abs.r.kind=1 from h)];rfl
 rw[if_neg h,if_neg (show ¬r.abs.r.kind=1 from h)]
theorem CM(A:Option Addr)(n c:Nat)(f:Nat->Itm)(hn:n<=1000000)(hki:∀i,i<n->U64 (f i).key)(b:Int):l7 Tryz.prog 29 [r6 A n c f,.int .i64 b] (fun y=>.tup [aT (y.A 0) (cQ n f b).length (y.c 0) (jO y (cQ n f b)),.int .i64 (oV n f b)]):=by
 intro m w hm hargs;have hmx:maxLen=9223372036854775807:=rfl;have hok:=hargs (r6 A n c f) (by simp);have hvs:∀i,i<n->(f i).val.size<=maxLen:=fun i hi=>by
  have:=tR hok hi (.str (f i).val) (by simp[itC])
  cases this;assumption
 have SO:=Gn A n c f hn;have SS:=EN A n c f hn;obtain⟨od,hod⟩:=eqv (yl n f);obtain⟨sr,hsr⟩:=eqv (rG n f);obtain⟨du,hdu⟩:=eqv (sM n f);rw[<-hod]at SO;rw[<-hsr]at SS;unfold r6 at hargs SO SS;refine en 95 hm hargs Tryz.func29 fun B O a0 Z=>?_
 refine a7 (rg O a8 [0,1] [] [] Z fun X0 a0 w1 Z=>?_);refine a7 (rg O a8 [6,0,1] [] [] Z fun X1 a0 w1 Z=>?_);refine a7 (rg O a8 [7,6,0,1] [] [] Z fun X2 a0 w1 Z=>?_);refine a7 (wp_region_lit ?_);refine lpr 0 1 O a8 [16,7,6,0,1] [] [] Z (fun X3 a0 w1 Z=>?_);refine tY rfl rfl rfl rfl rfl Z rfl rfl (fun _ _=>by kernel_rfl) _ (wO A n c f hn (Z.slot 16 rfl).2) ?_
 rintro v w2 ⟨A2,c2,rfl,hO2,hb2⟩
 have hF2:=(Z.below hb2).put (some 17) (fun t ht=>by injection ht with ht;subst ht;exact Nat.le_of_ble_eq_true rfl) (.raw (.slice A2 n c2)) (fun _=>.raw _) _ fun _=>rfl
 have hcc:=wN hO2 hb2.size hn hvs;refine tY (R:=fun v w'=>∃A m c,v = .slice A m c/\decide (m<n)=du/\GQ w1.heap.size w2 w') rfl rfl rfl rfl rfl hF2 rfl rfl (fun _ _=>by kernel_rfl) (hcc.mono ?_) ?_
 .rintro e w' ⟨A3,m3,c3,rfl,h1,h2,h3⟩
  exact⟨_,rfl,A3,m3,c3,rfl,by rw[hdu];exact h1,h3⟩
 rintro v w3 ⟨A3,m3,c3,rfl,hm3,hold⟩
 have hb3:Below w1.heap.size w1 w3:=⟨hold.os.trans hb2.os,hold.tape.trans hb2.tape,hold.output.trans hb2.output,hold.size,fun k hk=>(hold.block k hk).trans (hb2.block k hk)⟩;have hF3:=(Z.below hb3).put (some 17) (fun t ht=>by injection ht with ht;subst ht;exact Nat.le_of_ble_eq_true rfl) (.raw (.slice A2 n c2)) (fun _=>.raw _) (.slice A2 n c2) fun _=>rfl
 have hF3:=hF3.put (some 18) (fun t ht=>by injection ht with ht;subst ht;exact Nat.le_of_ble_eq_true rfl) (.raw (.slice A3 m3 c3)) (fun _=>.raw _) (.slice A3 m3 c3) fun _=>rfl
 refine dW (v:=.int .i64 (m3:Int)) rfl rfl rfl hF3 (Nat.le_of_ble_eq_true rfl) ?_ (.int _ _) fun a0 Z=>?_
 .have h18:=(hF3.slot 18 rfl).1
  have hu:Tryz.prog.underlying 33=some (.slice 62):=by kernel_rfl
  have h18':=(A7 hF3 (q:=[]) (fun _ h=>by cases h) (x:=.tmp 18) rfl).1;have h18'':Act.eval ((a0.put (some 17) (.slice A2 n c2)).put (some 18) (.slice A3 m3 c3)) (.tmp 18) = .slice A3 m3 c3:=h18';simp[execOp,resolve,invoke,builtin,Builtin.len_,h18'',AV.den,run_underlying hu,goInt]
 refine lnd 4 O a8 [8,7,6,0,1] [] [] Z (fun X4 a0 w1 Z=>?_);have Z:=Z.headS (v':=.bool (.v du)) (by subst O;exact Sim.bool (by rw[<-hm3];show decide ((m3:Int)<(n:Int))=decide (m3<n);rw[decide_eq_decide];omega)) rfl
 have O1:=SO;have O2:=SS;refine a7 (j0 (a7 (rg O a8 [23,0,1] [] [(9,.r fun _=>.bool (.v od)),(14,.r fun _=>.bool (.v sr))] Z (fun X5 a0 w1 Z=>?_) (hob:=?hob))))
 case hob=>
  intro X;subst O
  repeat(first|exact trivial|refine⟨rfl,?_⟩|refine⟨fun _=>rfl,?_⟩|refine⟨fun _=>⟨fun _ _=>by kernel_rfl,SO⟩,?_⟩|refine⟨fun _=>⟨fun _ _=>by kernel_rfl,SS⟩,?_⟩)
 refine d7 Z rfl (fun hbA Z=>?_) (fun hbA Z=>?_)
 .have h9:(if(if(if(if decide (b<1)=true then true else decide (b>16))=true then true else od)=true then true else !sr)=true then true else du)=true:=by subst O;exact hbA
  have hE:oV n f b=1:=by
   unfold oV;rw[if_pos];rw[<-hod,<-hsr,<-hdu]
   by_cases g1:b<1
   .exact .inl g1
   by_cases g2:b>16
   .exact .inr (.inl g2)
   cases od
   .cases sr
    .exact .inr (.inr (.inr (.inl rfl)))
    cases du
    .simp [g1,g2]at h9
    exact .inr (.inr (.inr (.inr rfl)))
   exact .inr (.inr (.inl rfl))
  refine a7 (rg O a8 [4,5] [4] [] Z fun X6 a0 w1 Z=>?_);refine j2 (rsi O a8 Z ⟨0,fun _=>none,fun _=>0,fun _=>.empty⟩ (he:=?_));subst O;rw[show cQ n f b=[]by unfold cQ;rw[hE];rfl,hE];exact Sim.tup ⟨fy,zr,trivial⟩
 have hE0:oV n f b=if 500<n then 2 else if(ux n f b).1=true then 0 else 2:=by
  have h9:(if(if(if(if decide (b<1)=true then true else decide (b>16))=true then true else od)=true then true else !sr)=true then true else du)=false:=by subst O;exact hbA
  unfold oV;rw[if_neg];rw[<-hod,<-hsr,<-hdu]
  rintro(g|g|g|g|g)<;>simp[g]at h9
 refine a7 (rg O a8 [44,0,1] [] [] Z fun X6 a0 w1 Z=>?_);refine d7 Z rfl (fun hbB Z=>?_) (fun hbB Z=>?_)
 .have hbig:500<n:=by
   have:(500:Int)<(n:Int):=by subst O;simpa[std,b7]using hbB
   omega
  rw[if_pos hbig]at hE0;refine a7 (rg O a8 [4,5] [4] [] Z fun X7 a0 w1 Z=>?_);refine j2 (rsi O a8 Z ⟨0,fun _=>none,fun _=>0,fun _=>.empty⟩ (he:=?_));subst O;rw[show cQ n f b=[]by unfold cQ;rw[hE0];rfl,hE0];exact Sim.tup ⟨fy,zr,trivial⟩
 have hsml:¬500<n:=by
  have:¬(500:Int)<(n:Int):=by subst O;simpa[std,b7]using hbB
  omega
 rw[if_neg hsml]at hE0;refine f9 (a7 (wp_region_lit ?_));refine dw (k:=24) (e:=0) rfl rfl rfl rfl Z (Nat.le_of_ble_eq_true rfl) (lmR w1.heap.size []) (fun m w' _ _ hM=>⟨[],rfl,_,LmD.empty hM⟩) ?_;obtain⟨bT,hbT⟩:=eqv (w1.heap.size);rw[<-hbT];intro a0 w1 hfresh Z;have hbfr:w.heap.size<=bT:=hfresh;refine lnd 1 O a8 [9,0,1] [] [] Z (fun X7 a0 w1 Z=>?_);refine a7 (a7 (wp_region_lit ?_));refine lpr 0 4 O a8 [49,50,51,52,9] [] [] Z (fun X8 a0 w1 Z=>?_);have hGM:=FR bT b 65 A n c f ⟨0,0⟩ [] hn hki ⟨by decide,by decide⟩ (by decide) (by decide);obtain⟨gp,hgp⟩:=eqv (ux n f b);rw[show M1 b 65 (d4 f n) ⟨0,0⟩ []=gp from hgp.symm]at hGM;simp only[r6,i9]at hGM;refine E3 rfl rfl rfl rfl Z rfl rfl (fun _ _=>by kernel_rfl) hGM (fun _ _ h=>h) (fun b' hb'=>by cases hb';exact fun h=>absurd h (Nat.not_lt.2 hbfr)) (zl) (fun e he=>by cases he) rfl rfl (fun _=>lmR bT gp.2) (fun _ _ _ _ _ _ _ _ _ h=>h) ?_;intro y a0 w1 Z;obtain⟨gb,hgb⟩:=eqv (gp.1);rw[<-hgb]at Z;refine lnd 5 O a8 [54,9] [] [] Z (fun X9 a0 w1 Z=>?_);refine d7 Z rfl (fun hbC Z=>?_) (fun hbC Z=>?_)
 .have hgf:gb=false:=by subst O;cases gb<;>first|rfl|cases hbC
  have hE:oV n f b=2:=by rw[hE0,<-hgp,<-hgb,hgf];rfl
  refine a7 (rg O a8 [4,5] [4] [] Z fun X10 a0 w1 Z=>?_);refine j2 (rsi O a8 Z ⟨0,fun _=>none,fun _=>0,fun _=>.empty⟩ (he:=?_));subst O;rw[show cQ n f b=[]by unfold cQ;rw[hE];rfl,hE];exact Sim.tup ⟨fy,zr,trivial⟩
 have hgt:gb=true:=by subst O;cases gb<;>first|rfl|cases hbC
 have hE:oV n f b=0:=by rw[hE0,<-hgp,<-hgb,hgt];rfl
 have hR:cQ n f b=(qS n f b).map (wu (nxP (I9 (qS n f b)))):=by unfold cQ;rw[if_pos hE]
 have h0:qS n f b=(jK gp.2).map nN:=by unfold qS;rw[<-hgp]
 rw[hE,hR];refine f9 ?_
 -- from here on: a stretch of its own
 obtain⟨wi,hwi⟩:=eqv (w1);have hMi:Mem m w (fun _=>False) noK [] [] wi:=by rw[hwi];exact(Z.withK (K':=noK) trivial).bare
 obtain⟨TA,hTA,D,hD⟩:=Z.kept;have hFs:=(rI Z).withK (K':=ldK N6 D bT TA) (HG (K:=ldK N6 D bT TA) hD);rw[<-hwi]at hFs hD ⊢;obtain⟨mS,hmS⟩:=eqv (mT m [] []);have hokT:∀p∈TA,Ok mS wi (N6 p.2):=fun p hp=>by rw[hmS];exact hD.ok p hp
 have hrets:∀{fn:Func} {nt0:Nat} {tm0:List (Nat×AV)} {R:Ending->World->Prop},True:=fun {_ _ _ _}=>trivial
 replace Z:=hFs;rw[<-hmS]at Z;have hlabs:∀p∈TA,o9 p.1:=hD.labs
 have hnd:=hD.nd;have hmapT:∃es cl,wi.heap[bT]? = some (.map es cl):=by obtain⟨es,cl,h,_⟩:=hD.map;exact⟨es,cl,h⟩
 refine a7 (rg O a8 [10,9] [10] [] Z fun X10 a0 w1 Z=>?_);refine a7 (a7 (wp_region_lit ?_));refine lpr 0 1 O a8 [55,10] [10] [] Z (fun X11 a0 w1 Z=>?_);obtain⟨rr,hrr⟩:=eqv (w1.heap.size);refine vS rfl rfl rfl rfl Z (Nat.le_of_ble_eq_true rfl) rfl bY fP Z.kept.map (rgK N6 D bT rr TA (Maps.has D) (Maps.size D)) (fun m w' h1 h2 h3=>⟨h1.keep h2,by rw[hrr];exact h3⟩) ?_;rw[<-hrr];intro a0 w1 hfr Z;refine wpList_nil ?_;replace Z:=Z.keep [10,56] [10];have hbTr:bT≠rr:=by
  obtain⟨es,cl,h⟩:=hmapT;have:=U6 h;omega
 have Z:=Z.headS (v':=.sl (some 10) none 0 0 8 (fun t=>G2 xd)) (zq0) rfl;refine j0 (fQ (ι:=Nat×(Nat->B1)×Option Addr×Nat×(Lit->Bool)×Nat) (fun p a w1=>f7 ⟨mS,wi,ats [],[],rgK N6 D bT rr TA p.2.2.2.2.1 p.2.2.2.2.2⟩ ⟨95,[(10,.sl (some 10) p.2.2.1 p.1 p.2.2.2.1 8 (fun t=>G2 (p.2.1 t))),(56,.raw (.pointer (some ⟨rr,0,none⟩)))],[],[],[(10,⟨p.2.2.1,p.1,p.2.2.2.1,8,92⟩)]⟩ a w1) (fun p=>(∀kl,p.2.2.2.2.1 kl=true->Maps.has D kl=true)/\(G5 p.2.1 p.1++(TA.filter fun q=>p.2.2.2.2.1 (I0 q.1)).map fun q=>(rwA q).abs).Perm (TA.map fun q=>(rwA q).abs)/\∀t,t<p.1->∃q∈TA,p.2.1 t=rwA q) (fun p=>p.2.2.2.2.2) (0,fun _=>xd,none,0,Maps.has D,Maps.size D) ⟨fun _ h=>h,by
  have:TA.filter (fun q=>Maps.has D (I0 q.1))=TA:=List.filter_eq_self.2 fun q hq=>(hD.has _).2 ⟨q,hq,rfl⟩
  simp only[this];exact List.Perm.refl _,fun t ht=>absurd ht (Nat.not_lt_zero _)⟩ Z ?_)
 rintro⟨k1,h,A1,c1,left,cnt⟩ ⟨hlft,hprm,hels⟩ a0 w1 Z
 dsimp only at hlft hprm hels Z;have hTl:TA.length<=2000:=by
  have:=kM (b:=b) 65 (d4 f n) ⟨0,0⟩ [] (Nat.zero_le _);have e:gp.2=(M1 b 65 (d4 f n) ⟨0,0⟩ []).2:=by rw[hgp];rfl
  rw[<-e,<-hTA,dL]at this;exact this
 have hk1:k1<=TA.length:=by
  have h9:=hprm.length_eq;simp only[List.length_append,Q3,List.length_map]at h9;omega
 refine a7 (wp_region_lit ?_);refine vT rfl rfl rfl rfl Z (Nat.le_of_ble_eq_true rfl) rfl bY Z.kept.2 (fun h=>absurd h (Nat.not_lt.2 hfr)) (spK N6 D bT rr TA left) (fun m h _=>⟨h.1,fun h=>by cases h⟩) (fun key v kl cnt' m w' h1 h2 h3 h4=>⟨h1.1.keepB h2 (fun e=>hbTr (by injection e with e;exact e.symm)),fun _=>⟨h3,h4⟩⟩) ?_;intro a0 w1 bb rest' key v kl cnt' hn0 hn1 Z;refine lnd 1 O a8 [58,10,56] [10] [] Z (fun X12 a0 w1 Z=>?_);refine a7 (d7 Z rfl (fun hbD Z=>?_) (fun hbD Z=>?_))
 .have hbb:bb=true:=by subst O;exact hbD
  obtain⟨hnx1,hnx2,hnx3,hnx4⟩:=hn1 hbb;replace Z:=Z.withK (K':=etK N6 D bT rr TA (fun x=>left x && !x.sameKey kl) key v cnt') ⟨Z.kept.1,Z.kept.2 hbb⟩;refine f9 (j0 (a7 (wp_region_lit ?_)));obtain⟨⟨q,el⟩,hp,hpk,hpkey,hpv⟩:=Z.kept.1.entry hnx1 (hlft _ hnx2) hnx3;dsimp only at hpk hpkey hpv;have hent:=Z.kept.2.2;rw[hpkey,hpv]at hent;have hok:=Z.kept.1.ok _ hp;refine vU rfl rfl rfl rfl Z (Nat.le_of_ble_eq_true rfl) rfl hent (np _ _ q) hok ?_;intro a0 Z;simp only[i9]at Z;replace Z:=Z.withK (K':=rgK N6 D bT rr TA (fun x=>left x && !x.sameKey kl) cnt') ⟨Z.kept.1,Z.kept.2.1⟩;refine lnd 1 O a8 [11,12,10,56] [11,12,10] [] Z (fun X13 a0 w1 Z=>?_);refine rg O a8 [10,56] [10] [] Z (fun X14 a0 w1 Z=>?_) (hob:=?hob2)
  case hob2=>
   intro X;subst O
   repeat(first|exact trivial|refine⟨⟨rfl,rfl,rfl⟩,?_⟩|refine⟨rfl,?_⟩|refine⟨⟨show k1+1<=maxLen by omega,show(k1+1)*_<=_ by omega⟩,?_⟩)
  obtain⟨h2,hh2⟩:∃x:Nat->B1,x=fun t=>if t=k1 then rwA (q,el)else h t:=⟨_,rfl⟩
  have Z:=Z.headS (v':=.sl (some 10) ((X14 5).A 0) (B.nadd k1 1) ((X14 5).c 0) 8 (fun t=>G2 (h2 t))) (Sim.resl rfl (fun t ht=>by
   subst O;have ht2:t<k1+1:=ht
   show B8 k1 (fun t=>G2 (h t)) (B0 8 (G2 (rwA (q,el)))) t=_
   rw[hh2];unfold B8;dsimp only
   split
   .rw [if_neg (by omega)]
   have:t=k1:=by omega
   subst this;rw[if_pos rfl];simp[B0])) rfl
  refine⟨(k1+1,h2,_,_,(fun x=>left x && !x.sameKey kl),cnt'),⟨fun x hx=>?_,?_,fun t ht=>?_⟩,hnx4,by rw[show k1+1=B.nadd k1 1 by subst O;rfl];exact Z⟩
  .simp only[Bool.and_eq_true]at hx
   exact hlft _ hx.1
  .have h9:=(kP (left:=left) hnd hlabs hp (by rw[hpk];exact hnx2)).map fun q=>(rwA q).abs
   rw[hpk]at h9;have e9:G5 h2 (k1+1)=G5 h k1 ++ [(rwA (q,el)).abs]:=by
    show Q4 B1.abs _ (k1+1)=Q4 B1.abs h k1++_
    rw[kw,hh2];simp only[if_true]
    congr 1
    unfold Q4;apply List.map_congr_left;intro t ht;have h5:=List.mem_range.1 ht
    show B1.abs (if t=k1 then rwA (q,el)else h t)=_
    rw[if_neg (by omega)]
   simp only;rw[e9,List.append_assoc];refine List.Perm.trans (List.Perm.append_left _ ?_) hprm;rw[List.map_cons]at h9;exact h9.symm
  simp only at ht ⊢;rw[hh2]
  by_cases he:t=k1
  .exact ⟨_,hp,by simp[he]⟩
  simp only[if_neg he];exact hels t (by omega)
 have hbb:bb=false:=by subst O;exact hbD
 have hall:=hn0 hbb;have hprm2:(G5 h k1).Perm (TA.map fun q=>(rwA q).abs):=by
  have e9:(TA.filter fun q=>left (I0 q.1))=[]:=List.filter_eq_nil_iff.2 fun q _=>by rw[hall];simp
  rw[e9]at hprm
  simpa using hprm
 replace Z:=Z.withK (K':=noK) trivial;refine o4 (a7 (wp_region_lit ?_));refine lpr 0 1 O a8 [68,10] [10] [] Z (fun X13 a0 w1 Z=>?_);have hO:=sC Z (Z.slot 10 rfl).2;refine kr rfl rfl rfl rfl rfl Z rfl rfl (fun _ _=>by kernel_rfl) (fun w'=>∃h':Nat->B1,((List.range k1).map h').Perm ((List.range k1).map h)/\(∀i j,i<j->j<k1->cG (h' j).lab (h' i).lab=false)/\Own w' wi.heap.size 92 8 (.slice A1 k1 c1) k1 (i7 (fun t=>G2 (h' t)) k1)) ((rH hO (by omega)).mono ?_) ?_
 .rintro e w2 ⟨he,h',g1,g2,g3,g4⟩
  exact⟨he,⟨h',g1,g2,g3⟩,g4⟩
 rintro w2 ⟨h',g1,g2,g3⟩ g4
 have hfin:=wQ hnd hprm2 g1 g2;have hels':∀i,i<k1->∃q∈TA,h' i=rwA q:=by
  intro i hi;have hmem:=g1.mem_iff.1 (List.mem_map.2 ⟨i,List.mem_range.2 hi,rfl⟩);obtain⟨j,hj,hje⟩:=List.mem_map.1 hmem;obtain⟨q,hq,hqe⟩:=hels j (List.mem_range.1 hj);exact⟨q,hq,by rw[<-hje,hqe]⟩
 have hgrm:∀b',s9 (.slice A1 k1 c1)=some b'->∀o,o<k1*8-> ¬mG mS [] [(10,⟨A1,k1,c1,8,92⟩)] b' o:=kL Z
 have hrow2:Ok (mG mS [] [(10,⟨A1,k1,c1,8,92⟩)]) w2 (.sl (some 10) A1 k1 c1 8 (fun t=>G2 (h' t))):=Z6 g3 (fun _ _=>rfl) hgrm (fun i hi=>by
  obtain⟨q,hq,e⟩:=hels' i hi;rw[e];exact bQ (tQ Z DV g4 (hokT q hq)) _ _) _
 have Z:=f7.rowset (K':=noK) (l':=[(10,.sl (some 10) A1 k1 c1 8 (fun t=>G2 (h' t)))]) Z g4 g3 (M9 ⟨(Z.slot 10 rfl).1,hrow2⟩ oA) (fun k e he=>by cases he) trivial;have Z:=(Z.put (some 69) (fun t ht=>by injection ht with ht;subst ht;exact Nat.le_of_ble_eq_true rfl) (.tup []) (fun _=>.tup _ fun u hu=>by cases hu) (.tuple #[]) fun _=>rfl);refine wpList_nil ?_;replace Z:=Z.keep [10] [10];have hk2000:k1<=2000:=by omega
 obtain⟨lv,hlv⟩:=eqv (I9 (G5 h' k1));have hlvl:lv.length<=k1:=by
  have:=sf (G5 h' k1);rw[Q3,<-hlv]at this;exact this
 have hlvo:=se (l:=G5 h' k1) (p:=o9) (fun x hx=>by
  simp only[G5,Q4,List.mem_map,List.mem_range]at hx;obtain⟨i,hi,rfl⟩:=hx;obtain⟨q,hq,e⟩:=hels' i hi;rw[e];exact hlabs q hq)
 have SL:=(yK A1 k1 c1 h' (by omega)).args' (args:=[.sl (some 10) A1 k1 c1 8 (fun t=>G2 (h' t))]) ⟨Sim.resl rfl (fun t ht=>rfl),trivial⟩;rw[<-hlv]at SL hlvo;obtain⟨lf,hlf⟩:=eqv (R3 lv);obtain⟨ln,hln⟩:=eqv (lv.length);rw[<-hlf,<-hln]at SL hlvo;rw[<-hln]at hlvl;obtain⟨NX,hNX⟩:=eqv (eS lf ln ln);have O1:=SL;refine a7 (wp_region_lit ?_);refine lpr 0 2 O a8 [71,10] [10] [(1,.r fun y=>dy (y.A 0) ln (y.c 0) lf)] Z (fun X15 a0 w1 Z=>?_);refine E3 rfl rfl rfl rfl Z rfl rfl (fun _ _=>by kernel_rfl) (BD ((X15 1).A 0) ln ((X15 1).c 0) lf (by omega) hlvo) (fun _ _ h=>h) (fun b hb=>by cases hb) (zl) (fun e he=>by cases he) rfl rfl (fun y=>lmK i9 (y.c 0) NX) (fun _ _ _ _ _ _ _ _ _ h=>by rw[hNX];exact h.2) ?_;intro y2 a0 w1 Z;obtain⟨bN,hbN⟩:=eqv (y2.c 0);rw[<-hbN]at Z;refine lnd 3 O a8 [13,10] [10] [] Z (fun X16 a0 w1 Z=>?_);obtain⟨nx,hnx⟩:∃x:Lab->Lab,x=fun q=>(R9 q NX).getD ⟨0,0⟩:=⟨_,rfl⟩
 have hnxP:nx=nxP lv:=by
  funext q
  rw[hnx,hNX,hlf,hln];rfl
 refine a7 (a7 (rg O a8 [75,10,73,74,13] [10] [] Z fun X17 a0 w1 Z=>?_));have hF0:=Z;refine j0 (fQ (ι:=Nat) (fun i a w1=>f7 ⟨mS,wi,ats [],[],lmK i9 bN NX⟩ ⟨95,[(75,.int .i64 (i:Int)),(10,.sl (some 10) A1 k1 c1 8 (fun t=>G2 (if t<i then iR nx (h' t)else h' t))),(73,.sl (some 10) A1 k1 c1 8 (fun t=>G2 (if t<i then iR nx (h' t)else h' t))),(74,.int .i64 (k1:Int)),(13,.raw (.map (some bN)))],[],[],[(10,⟨A1,k1,c1,8,92⟩)]⟩ a w1) (fun i=>i<=k1) (fun i=>k1-i) 0 (Nat.zero_le _) (by subst O;exact hF0) ?_);intro i hi a0 w1 Z;obtain⟨hc,hhc⟩:∃x:Nat->B1,x=fun t=>if t<i then iR nx (h' t)else h' t:=⟨_,rfl⟩
 have ehc:(fun t=>G2 (if t<i then iR nx (h' t)else h' t))=fun t=>G2 (hc t):=by rw[hhc]
 rw[ehc]at Z;have hci:hc i=h' i:=by rw[hhc];simp
 refine a7 (rg O a8 [76,75,10,73,74,13] [10] [] Z fun X18 a0 w1 Z=>?_);refine a7 (d7 Z rfl (fun hbE Z=>?_) (fun hbE Z=>?_))
 .have hin:i<k1:=by
   have:(i:Int)<(k1:Int):=by subst O;simpa[std,b7]using hbE
   omega
  have eI:B.arith .add .i64 (i:Int) 1=((i+1:Nat):Int):=by subst O;exact j7 (n:=k1) hin (by omega)
  refine f9 (a7 (j0 (a7 (rg O a8 [14,15,75,10,73,74,13] [15,10] [] Z (fun X19 a0 w1 Z=>?_) (hob:=?hob3)))))
  case hob3=>
   intro X;subst O
   repeat(first|exact trivial|refine⟨rfl,?_⟩|refine⟨(show(0:Int)<=(i:Int)/\(i:Int)<(k1:Int)by omega),?_⟩)
  have Z:=Z.memS (cells':=G2 (hc i)) (by subst O;exact zl);refine a7 (rg O a8 [83,14,15,75,10,73,74,13] [15,10] [] Z fun X20 a0 w1 Z=>?_);refine d7 Z rfl (fun hbF Z=>?_) (fun hbF Z=>?_)
  .have hk1':(h' i).x.r.kd=1:=by rw[<-hci];subst O;simpa[std,b7]using hbF
   obtain⟨nq,hnq⟩:=eqv (nx (hc i).lab);have hlq:o9 (hc i).lab:=by
    rw[hci];obtain⟨q,hq,e⟩:=hels' i hin;rw[e];exact hlabs q hq
   have ON:=BO (K:=lmK i9 bN NX) (el:=i9) (l:=(hc i).lab) (fun m w h=>h) hlq kj xf (fun m w=>np m w _) (v:=i9 nq) (by rw[hnq,hnx]);simp only[i9]at ON;refine wp_region_lit ?_;refine lpr 0 9 O a8 [92,89,75,10,73,74,13] [10] [(5,.r fun _=>.agg [.int .i64 nq.len,.int .u64 nq.bits])] Z (fun X21 a0 w1 Z=>?_) (hob:=?hob4)
   case hob4=>
    intro X;subst O
    repeat(first|exact trivial|refine⟨rfl,?_⟩|refine⟨ON,?_⟩|refine⟨(show(0:Int)<=(i:Int)/\(i:Int)<(k1:Int)by omega),?_⟩)
   have Z:=Z.headS (v':=.ep A1 i 8 5 (G2 (hc i))) (by subst O;exact zr) rfl;have hrowk:Ok _ w1 (.sl (some 10) A1 k1 c1 8 (fun t=>G2 (hc t))):=(Z.slot 10 rfl).2;have hbNr:s9 (.slice A1 k1 c1)≠some bN:=by
    intro e;obtain⟨_,xs,ho⟩:=Z.gr 10 ⟨A1,k1,c1,8,92⟩ rfl;obtain⟨c',t',f',hcl⟩:=ho.isCells e;obtain⟨es,cl,hm⟩:=oo Z.kept;rw[hm]at hcl;cases hcl
   have hKl:=Z.kept;refine kt rfl rfl rfl rfl Z rfl rfl (.inr rfl) a8 rfl rfl hrowk (fun _ _=>rfl) hin (show 5+2<=8 from by decide) (fun w2 hO2 hc2 _=>?_)
   obtain⟨h2,hh2⟩:∃x:Nat->B1,x=fun t=>if t<i+1 then iR nx (h' t)else h' t:=⟨_,rfl⟩
   have efl:wrC (fun t=>G2 (hc t)) i 5 [.int .i64 nq.len,.int .u64 nq.bits]=fun t=>G2 (h2 t):=by
    funext t
    rw[hh2];unfold wrC
    by_cases hti:t=i
    .subst hti
     rw[if_pos rfl]
     show List.take 5 (G2 (hc t)) ++ [.int .i64 nq.len,.int .u64 nq.bits]++List.drop (5+2) (G2 (hc t))=G2 (if t<t+1 then iR nx (h' t)else h' t)
     rw[if_pos (Nat.lt_succ_self t),hnq,hci];unfold iR;rw[if_pos hk1'];rfl
    rw[if_neg hti,hhc];dsimp only
    by_cases ht2:t<i
    .rw [if_pos ht2,if_pos (by omega)]
    rw[if_neg ht2,if_neg (by omega)]
   have hO2:Own w2 wi.heap.size 92 8 (.slice A1 k1 c1) k1 (i7 (fun t=>G2 (h2 t)) k1):=by rw[<-efl];exact hO2
   have hgrm2:=kL Z;have hrow2:Ok (mG mS [] [(10,⟨A1,k1,c1,8,92⟩)]) w2 (.sl (some 10) A1 k1 c1 8 (fun t=>G2 (h2 t))):=Z6 hO2 (fun _ _=>rfl) hgrm2 (fun j hj=>by
    obtain⟨q,hq,e⟩:=hels' j hj;have h5:=tQ Z DV hc2 (hokT q hq);rw[hh2];dsimp only
    split
    .rw [e]
     unfold iR
     split
     .have:=bQ h5 (rwA q).lab (rwA q).ver
      intro u hu;simp only[G2,List.mem_cons,List.not_mem_nil,or_false]at hu
      rcases hu with rfl|rfl|rfl|rfl|rfl|rfl|rfl|rfl
      .exact ⟨rfl,.int _ _⟩
      .exact ⟨rfl,.int _ _⟩
      .exact ⟨rfl,.int _ _⟩
      .exact ⟨rfl,.int _ _⟩
      .exact this _ (by simp[G2,rwA])
      .exact ⟨rfl,.int _ _⟩
      .exact ⟨rfl,.int _ _⟩
      exact⟨rfl,.int _ _⟩
     exact bQ h5 _ _
    rw[e];exact bQ h5 _ _) _
   have Z:=f7.rowset (K':=lmK i9 bN NX) (l':=[(75,.int .i64 (i:Int)),(10,.sl (some 10) A1 k1 c1 8 (fun t=>G2 (h2 t))),(73,.sl (some 10) A1 k1 c1 8 (fun t=>G2 (h2 t))),(74,.int .i64 (k1:Int)),(13,.raw (.map (some bN)))]) Z hc2 hO2 (M9 ⟨(Z.slot 75 rfl).1,.int _ _⟩ (M9 ⟨(Z.slot 10 rfl).1,hrow2⟩ (M9 ⟨(Z.slot 73 rfl).1,hrow2⟩ (M9 ⟨(Z.slot 74 rfl).1,.int _ _⟩ (M9 ⟨(Z.slot 13 rfl).1,.raw _⟩ oA))))) (fun k e he=>by cases he) (BP hKl (hc2.block bN (yG hKl) hbNr));refine wpList_nil ?_;refine rg O a8 [75,10,73,74,13] [10] [] Z fun X22 a0 w1 Z=>?_
   exact⟨i+1,by omega,by omega,by rw[<-eI];rw[hh2]at Z;exact Z⟩
  have hk1':¬(h' i).x.r.kd=1:=by rw[<-hci];subst O;simpa[std,b7]using hbF
  refine f9 (rg O a8 [75,10,73,74,13] [10] [] Z fun X21 a0 w1 Z=>?_);have e2:hc=fun t=>if t<i+1 then iR nx (h' t)else h' t:=by
   funext t
   rw[hhc];dsimp only
   by_cases ht2:t<i
   .rw [if_pos ht2,if_pos (by omega)]
   rw[if_neg ht2]
   by_cases hti:t=i
   .subst hti
    rw[if_pos (by omega)];unfold iR;rw[if_neg hk1']
   rw[if_neg (by omega)]
  exact⟨i+1,by omega,by omega,by rw[<-eI];rw[e2]at Z;exact Z⟩
 have hik:i=k1:=by
  have:¬(i:Int)<(k1:Int):=by subst O;simpa[std,b7]using hbE
  omega
 refine o4 (a7 (rg O a8 [4,5] [10] [] Z fun X19 a0 w1 Z=>?_));have hFf:=fA hMi (by rw[<-hmS];exact Z.withK (K':=noK) trivial);have hRf:G5 hc k1=(qS n f b).map (wu (nxP (I9 (qS n f b)))):=by
  rw[h0,<-hTA,<-hfin,<-hlv,<-hnxP]
  show Q4 B1.abs hc k1=(Q4 B1.abs h' k1).map (wu nx)
  unfold Q4;rw[List.map_map];apply List.map_congr_left;intro t ht;have h5:=List.mem_range.1 ht;rw[hhc];simp only[Function.comp];rw[if_pos (by omega),zh]
 refine j2 (rsi O a8 hFf (rwY A1 c1 hc 0) (he:=?_));subst O;exact Sim.tup ⟨AY hRf,zr,trivial⟩
def lR(L:Shf)(l:Lab):Got:=⟨0,(u9 L l).ver,(u9 L l).has,(u9 L l).r⟩
theorem Gi{L:Shf}{w:Wq}(h1:w.kind=1)(h2:isL w.lab=true):doL L (r8 w)=⟨L,false,lR L w.lab,0⟩:=by
 have hcond:((r8 w).kind=1 \/ (r8 w).kind=2 \/ (r8 w).kind=3)/\isL (r8 w).lab=true/\((r8 w).kind=2->isR (r8 w).r=true):=⟨.inl h1,h2,fun h=>absurd (h1.symm.trans h) (by decide)⟩;unfold doL;rw[if_pos hcond,if_pos (show(r8 w).kind=1 from h1)];rfl
def kU(L:Shf)(b:Int):Nat->Tr Rsl->Nat->List Lab->Option (Rsl×Nat×List Lab)
 |0,_,_,_=>none
 |f+1,t,n,ls=>match t with
  | .ret a=>if(n:Int)<=b then some (a,n,ls)else none
  | .ask w c=>if w.kind=1/\isL w.lab=true/\(n:Int)<b/\D8 (F1 (lR L w.lab))=true then kU L b f (c (F1 (lR L w.lab))) (n+1) (ao ls w.lab (lR L w.lab))else none
  | .note _ _=>none
  | .dead=>none
theorem qA{α : Type}{t:Tr α}{y:Nt}(h:t.noNote):t.feed y []=some (t,y):=by
 cases t with
 |note z t=>exact absurd h (fun h=>h)
 |ret a=>simp[Tr.feed]
 |dead=>simp[Tr.feed]
 |ask w f=>simp[Tr.feed]
theorem uE{N:dM}{b:Int}{T:Nat->Tr Rsl}(hN:TrN N b T){m:Nat}(hm:b<m){L:Shf}:∀(f fuel:Nat) (t:Tr Rsl) (gs:List Got) (k:Int) (ls:List Lab) {a:Rsl} {n:Nat} {ls':List Lab},(T m).feed nt0 gs=some (t,nt0)->(∀j,j<gs.length->D8 (F1 (gs.getD j G4))=true)->kU L b f t gs.length ls=some (a,n,ls')->f<=fuel->C5 N [] fuel gs L k ls=⟨2,a,n,0,L,k,ls'⟩
 |0,fuel,t,gs,k,ls,a,n,ls',hf,hg,he,hl=>by simp[kU]at he
 |f+1,0,t,gs,k,ls,a,n,ls',hf,hg,he,hl=>by omega
 |f+1,fuel+1,t,gs,k,ls,a,n,ls',hf,hg,he,hl=>by
  cases t with
  |note y t=>simp[kU]at he
  |dead=>simp[kU]at he
  |ret a'=>
   unfold kU at he;dsimp only at he
   split at he
   .rename_i hb
    obtain⟨q,h1,h2,h3⟩:=oh hN hf hg hb (by omega);rw[df (h3.trans (pt h1)) rfl];simp only[Option.some.injEq,Prod.mk.injEq]at he;obtain⟨rfl,rfl,rfl⟩:=he;rfl
   cases he
  |ask w c=>
   unfold kU at he;dsimp only at he
   split at he
   .rename_i hc
    obtain⟨c1,c2,c3,c4⟩:=hc;obtain⟨q,h1,h2,h3⟩:=oh hN hf hg (by omega) (by omega);rw[qU h1]at h3;have h4:=h3.trans (mc h1);rw[if_neg (by omega)]at h4;have hD:(⟨L,false,lR L w.lab,0⟩:Did)=doL L (r8 w):=(Gi c1 c2).symm;rw[fD (L1:=L) (k1:=k) h4 (by omega) rfl rfl hD rfl];have hlen:(gs ++ [lR L w.lab]).length=gs.length+1:=by simp
    cases f with
    |zero=>simp[kU]at he
    |succ f=>
    have hnn:(c (F1 (lR L w.lab))).noNote:=by
     cases hcc:c (F1 (lR L w.lab))with
     |note y t=>rw[hcc]at he;simp[kU]at he
     |ret a=>trivial
     |dead=>trivial
     |ask w f=>trivial
    refine uE hN hm (f+1) fuel (c (F1 (lR L w.lab))) (gs ++ [lR L w.lab]) k _ ?_ ?_ ?_ (by omega)
    .rw [gj _ _ _ hf];exact qA hnn
    .intro j hj
     rw[hlen]at hj
     by_cases hjl:j<gs.length
     .have:=hg j hjl
      rw[List.getD_eq_getElem?_getD,List.getElem?_append_left hjl,<-List.getD_eq_getElem?_getD];exact this
     have:j=gs.length:=by omega
     subst this
     simpa[List.getD]using c4
    rw[hlen];exact he
   cases he
def ptF(i:Nat):Itm:=if i=0 then⟨3,⟨#[97]⟩⟩else if i=1 then⟨19,⟨#[98]⟩⟩else⟨12,⟨#[99]⟩⟩
def ptM:List Itm:=[⟨3,⟨#[97]⟩⟩,⟨12,⟨#[99]⟩⟩,⟨19,⟨#[98]⟩⟩]
theorem Fj:wvN 1 1=3/\wvN 5 1=19/\wvN 2 2=12:=by decide
theorem HW:ofL (d4 ptF 3)=ptM:=by kernel_rfl
theorem Jv:oV 3 (itF ptM) 1=0:=by kernel_rfl
theorem Ju:(cQ 3 (itF ptM) 1).length=123:=by kernel_rfl
def ptJ(x1 x2 y1 y2:Int):l4:=⟨12,⟨0,0⟩,0,0,⟨#[]⟩,0,none,0,0,fun _=>0,x1,x2,y1,y2,1,1,1900⟩
def ptS:Shf:=(aL (cQ 3 (itF ptM) 1)).getD []
theorem HU:aL (cQ 3 (itF ptM) 1)=some ptS:=by kernel_rfl
def rwB(r:Rw):Bool:=isL r.lab&&decide (0<=r.lab.bits/\r.lab.bits<18446744073709551616)&&decide (0<=r.ver/\r.ver<18446744073709551616)&&decide (0<=r.r.next.bits/\r.r.next.bits<18446744073709551616)&&decide (r.r.items.length<=100)&&r.r.items.all fun x=>decide (0<=x.key/\x.key<18446744073709551616)
theorem Bt:(cQ 3 (itF ptM) 1).all rwB=true:=by kernel_rfl
theorem EV{r:Rw}(h:rwB r=true):isL r.lab=true/\U64 r.lab.bits/\U64 r.ver/\U64 r.r.next.bits/\r.r.items.length<=100/\∀x∈r.r.items,U64 x.key:=by
 unfold rwB at h;simp only[Bool.and_eq_true,decide_eq_true_eq,List.all_eq_true]at h;exact⟨h.1.1.1.1.1,h.1.1.1.1.2,h.1.1.1.2,h.1.1.2,h.1.2,h.2⟩
theorem Br:C5 (z6 (ptJ 2 1 0 0)) [] 2001 [] ptS 0 []=⟨2,⟨5,false,⟨#[]⟩,[],0,false⟩,0,0,ptS,0,[]⟩:=by kernel_rfl
theorem Fl(x1 x2 y1 y2:Int):E6 (ptJ x1 x2 y1 y2)=true:=by
 unfold E6 btw ptJ;simp;rfl
theorem Fm:(kU ptS 1900 400 (pU 1 1 (ptJ 1 2 0 9).rct 1901) 0 []).map (fun p=>p.1)=some ⟨0,false,⟨#[]⟩,[⟨3,⟨#[97]⟩⟩,⟨12,⟨#[99]⟩⟩],0,false⟩:=by kernel_rfl
theorem Bs:∃n ls,C5 (z6 (ptJ 1 2 0 9)) [] 2001 [] ptS 0 []=⟨2,⟨0,false,⟨#[]⟩,[⟨3,⟨#[97]⟩⟩,⟨12,⟨#[99]⟩⟩],0,false⟩,n,0,ptS,0,ls⟩:=by
 have h:=Fm
 cases he:kU ptS 1900 400 (pU 1 1 (ptJ 1 2 0 9).rct 1901) 0 []with
 |none=>rw[he]at h;cases h
 |some p=>
  obtain⟨a,n,ls⟩:=p;rw[he]at h;simp only[Option.map_some,Option.some.injEq]at h;subst h;exact⟨n,ls,uE (tK (Fl 1 2 0 9) rfl) (m:=1901) (by show(1900:Int)<_;decide) 400 2001 _ [] 0 [] (qA (by unfold pU;trivial)) (fun j hj=>absurd hj (Nat.not_lt_zero _)) he (by decide)⟩
theorem mZ(f:Nat->Itm)(i:Nat)(key:Int):bu (d4 f (i+1)) key=bu (d4 f i) key++if(f i).key=key then []else [f i]:=by
 have:d4 f (i+1)=d4 f i ++ [f i]:=by simp[d4,List.range_succ]
 rw[this];unfold bu;rw[List.filter_append]
 congr 1
 by_cases h:(f i).key=key<;>simp[isK,h]
theorem rfndi_s(A:Option Addr)(n c:Nat)(f:Nat->Itm)(hn:n<=1000000)(kd:Int)(nx:Lab)(mk:Int)(key:Int):l7 Tryz.prog 117 [bR A n c f kd nx mk,.int .u64 key] (fun _=>.tup [.str (cH (d4 f n) key),.bool (.v (cI (d4 f n) key))]):=by
 intro m w hm hargs;have hmx:maxLen=9223372036854775807:=rfl;unfold bR r6 at hargs;refine en 28 hm hargs Tryz.func117 fun B O a0 Z=>?_
 refine a6 [1,2] [2] Z fun X0 Z=>?_
 refine a7 (a6 [6,1,2] [2] Z fun X1 Z=>?_);refine j0 (r9 (ι:=Nat) (fun p=>[(6,.int .i64 (p:Int))]) (fun p=>[]) (fun p=>[]) (fun p=>p<=n/\∀t,t<p->(f t).key≠key) (fun p=>n-p) 0 ⟨Nat.zero_le _,fun t ht=>absurd ht (Nat.not_lt_zero _)⟩ Z ?_)
 rintro i ⟨hi,hlt⟩ _ _ Z
 try dsimp only at hi
 try dsimp only at hlt
 refine a7 (a6 [11,6,1,2] [2] Z (hob:=?hob) fun X2 Z=>?_)
 case hob=>
  intro X;subst O
  repeat(first|exact trivial|refine⟨rfl,?_⟩|refine⟨⟨show(0:Int)<=(i:Int)by omega,show(i:Int)<(n:Int)by omega⟩,?_⟩)
 apply d7 Z rfl<;>intro hb Z
 .have hin:i<n:=by
   have:(i:Int)<(n:Int):=by subst O;simpa[std,b7]using hb
   omega
  refine f9 (a7 (j0 (a6 [21,6,1,2] [2] Z (hob:=?hob) fun X4 Z=>?_)))
  case hob=>
   intro X;subst O
   repeat(first|exact trivial|refine⟨rfl,?_⟩|refine⟨⟨show(0:Int)<=(i:Int)by omega,show(i:Int)<(n:Int)by omega⟩,?_⟩)
  apply d7 Z rfl<;>intro hb Z
  .have hk:(f i).key=key:=by subst O;simpa[std,b7]using hb
   have hfd:=qz hin hlt hk;have hV:cH (d4 f n) key=(f i).val:=by simp only[cH,hfd]
   have hE:cI (d4 f n) key=true:=by simp only[cI,hfd];rfl
   refine a6 [4,5] [] Z (hob:=?hob) fun X5 Z=>?_
   case hob=>
    intro X;subst O
    repeat(first|exact trivial|refine⟨rfl,?_⟩|refine⟨⟨show(0:Int)<=(i:Int)by omega,show(i:Int)<(n:Int)by omega⟩,?_⟩)
   refine B4 Z ?_;subst O;rw[hV,hE];exact Sim.tup ⟨zr,Sim.bool rfl,trivial⟩
  have hk:¬(f i).key=key:=by subst O;simpa[std,b7]using hb
  refine f9 (j5 [6,1,2] [2] Z fun X3 Z=>?_);have e:B.arith .add .i64 (i:Int) 1=((i+1:Nat):Int):=by subst O;exact j7 (n:=n) hin (by omega)
  refine⟨i+1,⟨by omega,fun t ht=>by
  by_cases h:t=i
  .rw [h];exact hk
  exact hlt t (by omega)⟩,by omega,by rw[<-e];exact Z⟩
 have hout:i=n:=by
  have:¬(i:Int)<(n:Int):=by subst O;simpa[std,b7]using hb
  omega
 rw[hout]at hlt;have hfd:=mQ hlt;have hV:cH (d4 f n) key=⟨#[]⟩:=by simp only[cH,hfd]
 have hE:cI (d4 f n) key=false:=by simp only[cI,hfd];rfl
 refine o4 (a6 [4,5] [] Z fun X6 Z=>?_);refine B4 Z ?_;subst O;rw[hV,hE];exact Sim.tup ⟨zr,Sim.bool rfl,trivial⟩
theorem wF:o3 Tryz.prog 156:=fun _ _=>by kernel_rfl
theorem BJ(b:Nat)(A:Option Addr)(n c:Nat)(f:Nat->Itm)(hn:n<=1000000)(key:Int):L4 Tryz.prog 156 [.ptr 0 b 0,.int .u64 key] [(0,⟨b,85,[r6 A n c f]⟩)] (fun _=>⟨.tup [.str (cH (d4 f n) key),.bool (.v (cI (d4 f n) key))],[(0,[r6 A n c f])],[]⟩):=by
 intro m w hm hargs hpre;have hmx:maxLen=9223372036854775807:=rfl;unfold r6 at hpre ⊢;refine enX 34 hm hpre hargs Tryz.func156 fun B O a0 Z=>?_
 refine a6 [0,1] [0] Z fun X0 Z=>?_
 refine a7 (a6 [6,0,1] [0] Z fun X1 Z=>?_);refine j0 (r9 (ι:=Nat) (fun p=>[(6,.int .i64 (p:Int))]) (fun p=>[]) (fun p=>[]) (fun p=>p<=n/\∀t,t<p->(f t).key≠key) (fun p=>n-p) 0 ⟨Nat.zero_le _,fun t ht=>absurd ht (Nat.not_lt_zero _)⟩ Z ?_)
 rintro i ⟨hi,hlt⟩ _ _ Z
 try dsimp only at hi
 try dsimp only at hlt
 refine a7 (a6 [13,6,0,1] [0] Z (hob:=?hob) fun X2 Z=>?_)
 case hob=>
  intro X;subst O
  repeat(first|exact trivial|refine⟨rfl,?_⟩|refine⟨⟨show(0:Int)<=(i:Int)by omega,show(i:Int)<(n:Int)by omega⟩,?_⟩)
 apply d7 Z rfl<;>intro hb Z
 .have hin:i<n:=by
   have:(i:Int)<(n:Int):=by subst O;simpa[std,b7]using hb
   omega
  refine f9 (a7 (j0 (a6 [25,6,0,1] [0] Z (hob:=?hob) fun X4 Z=>?_)))
  case hob=>
   intro X;subst O
   repeat(first|exact trivial|refine⟨rfl,?_⟩|refine⟨⟨show(0:Int)<=(i:Int)by omega,show(i:Int)<(n:Int)by omega⟩,?_⟩)
  apply d7 Z rfl<;>intro hb Z
  .have hk:(f i).key=key:=by subst O;simpa[std,b7]using hb
   have hfd:=qz hin hlt hk;have hV:cH (d4 f n) key=(f i).val:=by simp only[cH,hfd]
   have hE:cI (d4 f n) key=true:=by simp only[cI,hfd];rfl
   refine a6 [4,5] [0] Z (hob:=?hob) fun X5 Z=>?_
   case hob=>
    intro X;subst O
    repeat(first|exact trivial|refine⟨rfl,?_⟩|refine⟨⟨show(0:Int)<=(i:Int)by omega,show(i:Int)<(n:Int)by omega⟩,?_⟩)
   refine j2 ((rx O a8 Z G6 [] (he:=?_) (hs:=?_)).1)
   .subst O;rw[hV,hE]
    exact Sim.tup ⟨zr,Sim.bool rfl,trivial⟩
   subst O;exact⟨rfl,⟨_,rfl,zl⟩,trivial⟩
  have hk:¬(f i).key=key:=by subst O;simpa[std,b7]using hb
  refine f9 (j5 [6,0,1] [0] Z fun X3 Z=>?_);have e:B.arith .add .i64 (i:Int) 1=((i+1:Nat):Int):=by subst O;exact j7 (n:=n) hin (by omega)
  refine⟨i+1,⟨by omega,fun t ht=>by
  by_cases h:t=i
  .rw [h];exact hk
  exact hlt t (by omega)⟩,by omega,by rw[<-e];exact Z⟩
 have hout:i=n:=by
  have:¬(i:Int)<(n:Int):=by subst O;simpa[std,b7]using hb
  omega
 rw[hout]at hlt;have hfd:=mQ hlt;have hV:cH (d4 f n) key=⟨#[]⟩:=by simp only[cH,hfd]
 have hE:cI (d4 f n) key=false:=by simp only[cI,hfd];rfl
 refine o4 (a6 [4,5] [0] Z fun X6 Z=>?_);refine j2 ((rx O a8 Z G6 [] (he:=?_) (hs:=?_)).1)
 .subst O;rw[hV,hE]
  exact Sim.tup ⟨zr,Sim.bool rfl,trivial⟩
 subst O;exact⟨rfl,⟨_,rfl,zl⟩,trivial⟩
theorem wE:o3 Tryz.prog 157:=fun _ _=>by kernel_rfl
theorem Fy(b:Nat)(A:Option Addr)(n c:Nat)(f:Nat->Itm)(hn:n<=1000000)(key:Int):L4 Tryz.prog 157 [.ptr 0 b 0,.int .u64 key] [(0,⟨b,85,[r6 A n c f]⟩)] (fun x=>⟨r6 (x.A 0) (bu (d4 f n) key).length (x.c 0) (itF (bu (d4 f n) key)),[(0,[r6 A n c f])],[]⟩):=by
 intro m w hm hargs hpre;have hmx:maxLen=9223372036854775807:=rfl;unfold r6 at hpre ⊢;refine enX 37 hm hpre hargs Tryz.func157 fun B O a0 Z=>?_
 refine a6 [0,1] [0] Z fun X0 Z=>?_
 refine a6 [5,0,1] [0,5,35] Z fun X1 Z=>?_
 refine a7 (a6 [5,6,0,1] [0,5,35] Z fun X2 Z=>?_);replace Z:=Z.headS (v':=.sl (some 5) none 0 0 2 (fun t=>itC C0)) (zq0) rfl;refine j0 (r9 (ι:=Nat×Nat×(Nat->Itm)×Option Addr×Nat) (fun p=>[(5,.sl (some 5) p.2.2.2.1 p.2.1 p.2.2.2.2 2 (fun t=>itC (p.2.2.1 t))),(6,.int .i64 (p.1:Int))]) (fun p=>[]) (fun p=>[(5,⟨p.2.2.2.1,p.2.1,p.2.2.2.2,2,62⟩)]) (fun p=>p.1<=n/\p.2.1<=p.1/\d4 p.2.2.1 p.2.1=bu (d4 f p.1) key) (fun p=>n-p.1) (0,0,fun _=>C0,none,0) ⟨Nat.zero_le _,Nat.le_refl _,rfl⟩ Z ?_)
 rintro⟨i,q,g,A1,c1⟩ ⟨hi,hq,hg⟩ _ _ Z
 try dsimp only at hi
 try dsimp only at hq
 try dsimp only at hg
 refine a7 (a6 [13,5,6,0,1] [0,5,35] Z (hob:=?hob) fun X3 Z=>?_)
 case hob=>
  intro X;subst O
  repeat(first|exact trivial|refine⟨rfl,?_⟩|refine⟨⟨show(0:Int)<=(i:Int)by omega,show(i:Int)<(n:Int)by omega⟩,?_⟩)
 apply d7 Z rfl<;>intro hb Z
 .have hin:i<n:=by
   have:(i:Int)<(n:Int):=by subst O;simpa[std,b7]using hb
   omega
  refine f9 (a7 (j0 (a6 [25,5,6,0,1] [0,5,35] Z (hob:=?hob) fun X5 Z=>?_)))
  case hob=>
   intro X;subst O
   repeat(first|exact trivial|refine⟨rfl,?_⟩|refine⟨⟨show(0:Int)<=(i:Int)by omega,show(i:Int)<(n:Int)by omega⟩,?_⟩)
  apply d7 Z rfl<;>intro hb Z
  .have hk:(f i).key≠key:=by subst O;simpa[std,b7]using hb
   refine j5 [5,6,0,1] [0,5,35] Z (hob:=?hob) fun X6 Z=>?_
   case hob=>
    intro X;subst O
    repeat(first|exact trivial|refine⟨⟨rfl,rfl,rfl⟩,?_⟩|refine⟨rfl,?_⟩|refine⟨⟨show(0:Int)<=(i:Int)by omega,show(i:Int)<(n:Int)by omega⟩,?_⟩|refine⟨⟨show q+1<=maxLen by omega,show(q+1)*_<=_ by omega⟩,?_⟩)
   replace Z:=Z.headS (v':=.sl (some 5) ((X6 9).A 0) (B.nadd q 1) ((X6 9).c 0) 2 (fun t=>itC (cm g q (f i) t))) (Sim.resl rfl (fun t ht=>by
    subst O;have ht2:t<q+1:=ht
    show B8 q (fun t=>itC (g t)) (B0 2 [.int .u64 (f i).key,.str (f i).val]) t=_
    unfold B8 cm
    split
    .rw [if_neg (by omega)]
    have:t=q:=by omega
    subst this;simp[B0,itC])) rfl
   refine j5 [5,6,0,1] [0,5,35] Z fun X4 Z=>?_
   have e:B.arith .add .i64 (i:Int) 1=((i+1:Nat):Int):=by subst O;exact j7 (n:=n) hin (by omega)
   refine⟨(i+1,q+1,cm g q (f i),_,_),⟨by simp only;omega,by simp only;omega,?_⟩,by simp only;omega,by rw[<-e,show q+1=B.nadd q 1 by subst O;rfl];exact Z⟩
   simp only;rw[cg,hg,mZ,if_neg hk]
  have hk:(f i).key=key:=by subst O;simpa[std,b7]using hb
  refine f9 (j5 [5,6,0,1] [0,5,35] Z fun X4 Z=>?_);have e:B.arith .add .i64 (i:Int) 1=((i+1:Nat):Int):=by subst O;exact j7 (n:=n) hin (by omega)
  refine⟨(i+1,q,g,_,_),⟨by simp only;omega,by simp only;omega,?_⟩,by simp only;omega,by rw[<-e];exact Z⟩;simp only;rw[hg,mZ,if_pos hk,List.append_nil]
 have hout:i=n:=by
  have:¬(i:Int)<(n:Int):=by subst O;simpa[std,b7]using hb
  omega
 rw[hout]at hg;refine o4 (a6 [4] [0,4,5,35] Z fun X7 Z=>?_);refine j2 ((rx O a8 Z (⟨0,fun _=>A1,fun _=>c1,fun _=>⟨#[]⟩⟩) [] (he:=?_) (hs:=?_)).1)
 .subst O;exact Sim.resl (by rw[<-hg,i6]) (fun t ht=>by rw[<-hg,i6]at ht;rw[<-hg,s7 _ _ t ht])
 subst O;exact⟨rfl,⟨_,rfl,zl⟩,trivial⟩
def pS(l:List Itm)(key:Int)(val:ByteArray):ByteArray:=if 64<val.size then⟨#[]⟩else cH l key
def pB(l:List Itm)(key:Int)(val:ByteArray):Bool:=if 64<val.size then false else cI l key
def pE(val:ByteArray):Int:=if 64<val.size then 2 else 0
def wd(f:Nat->Itm)(i:Nat)(x:Itm):Nat->Itm:=fun t=>if t<i then f t else if t=i then x else f (t-1)
theorem ss(f:Nat->Itm)(n i:Nat)(x:Itm)(h:i<=n):d4 (wd f i x) (n+1)=d4 f i++x::(d4 f n).drop i:=by
 apply List.ext_getElem
 .simp [d4];omega
 intro t h1 h2;have ht:t<n+1:=by simpa[d4]using h1
 simp only[d4,List.getElem_map,List.getElem_range,wd]
 by_cases hi:t<i
 .rw [List.getElem_append_left (by simpa using hi)]
  simp[hi]
 rw[List.getElem_append_right (by simp;omega)];obtain⟨q,rfl⟩:∃q,t=i+q:=⟨t-i,by omega⟩
 cases q with
 |zero=>simp
 |succ q=>
  simp only[List.length_map,List.length_range,show i+(q+1)-i=q+1 by omega,List.getElem_cons_succ,List.getElem_drop,List.getElem_map,List.getElem_range];rw[if_neg (by omega),if_neg (by omega)]
  congr 1
theorem Bq{l:List Itm}{f1:Nat->Itm}{n1 i:Nat}{key:Int}{val:ByteArray}(hl:d4 f1 n1=l)(hi:i<=n1)(hlt:∀t,t<i->(f1 t).key<key)(hend:i<n1-> ¬(f1 i).key<key) :
  sc l key++⟨key,val⟩::l.drop (sc l key).length=d4 (wd f1 i ⟨key,val⟩) (n1+1):=by
 have hlow:sc l key=d4 f1 i:=by
  rw[<-hl];unfold sc
  by_cases h:i=n1
  .rw [h]at hlt ⊢
   have:=List.takeWhile_append_of_pos (p:=fun x:Itm=>decide (x.key<key)) (l₁:=d4 f1 n1) (l₂:=[]) (fun a ha=>by
    obtain⟨t,ht,rfl⟩:=J1 ha
    simpa using hlt t ht)
   simpa using this
  rw[ge f1 n1 i (by omega),List.takeWhile_append_of_pos (fun a ha=>by
   obtain⟨t,ht,rfl⟩:=J1 ha
   simpa using hlt t ht),List.takeWhile_cons_of_neg (by simpa using hend (by omega))]
  simp
 rw[hlow,i6,ss f1 n1 i _ hi,hl]
theorem xS(l:List Itm)(key:Int)(val:ByteArray):(iN l key val).length<=l.length+1:=by
 unfold iN
 split
 .omega
 have h1:=List.length_filter_le (fun x=>!isK key x) l;have h2:(bu l key).length<=l.length:=h1;have h3:(sc (bu l key) key).length<=(bu l key).length:=(List.takeWhile_sublist _).length_le;unfold Fi;simp only[List.length_append,List.length_cons,List.length_drop];omega
theorem tS(f:Nat->Itm):∀i,(ofL (d4 f i)).length<=i
 |0=>Nat.le_refl _
 |i+1=>by
  rw[W0];have:=xS (ofL (d4 f i)) (f i).key (f i).val;have:=tS f i;omega
theorem wH:o3 Tryz.prog 100:=fun _ _=>by kernel_rfl
theorem BI(b:Nat)(A:Option Addr)(n c:Nat)(f:Nat->Itm)(hn:n<=1000000)(key:Int)(val:ByteArray):L4 Tryz.prog 100 [.ptr 0 b 0,.int .u64 key,.str val] [(0,⟨b,85,[r6 A n c f]⟩)] (fun x=>⟨.tup [.str (pS (d4 f n) key val),.bool (.v (pB (d4 f n) key val)),.int .i64 (pE val)],[(0,[r6 (x.A 0) (iN (d4 f n) key val).length (x.c 0) (itF (iN (d4 f n) key val))])],[]⟩):=by
 intro m w hm hargs hpre;have hmx:maxLen=9223372036854775807:=rfl;have SG:=BJ b A n c f hn key;have SW:=Fy b A n c f hn key;unfold r6 at hpre SG SW;obtain⟨l,hl⟩:=eqv (bu (d4 f n) key);have hln:l.length<=n:=by rw[hl];have:=List.length_filter_le (fun x=>!isK key x) (d4 f n);rw[i6]at this;exact this
 rw[<-hl]at SW;obtain⟨n1,hn1⟩:=eqv (l.length);obtain⟨f1,hf1⟩:=eqv (itF l);rw[<-hn1,<-hf1]at SW;have hl1:d4 f1 n1=l:=by rw[hf1,hn1];exact fe l
 obtain⟨fs,hfs⟩:=eqv (cH (d4 f n) key);obtain⟨fb,hfb⟩:=eqv (cI (d4 f n) key);rw[<-hfs,<-hfb]at SG;refine enX 65 hm hpre hargs Tryz.func100 fun B O a0 Z=>?_
 refine a6 [0,1,2] [0] Z fun X0 Z=>?_
 refine a7 (a6 [16,0,1,2] [0] Z fun X1 Z=>?_);apply d7 Z rfl<;>intro hb Z
 .have hlong:64<val.size:=by
   have:(64:Int)<(val.size:Int):=by subst O;simpa[std,b7]using hb
   omega
  refine a6 [6,7,8] [0] Z fun X2 Z=>?_
  refine j2 ((rx O a8 Z (⟨0,fun _=>A,fun _=>c,fun _=>⟨#[]⟩⟩) [] (he:=?_) (hs:=?_)).1)
  .subst O;simp only[pS,pB,pE,hlong,if_true]
   exact Sim.tup ⟨zr,Sim.bool rfl,zr,trivial⟩
  subst O;exact⟨rfl,⟨_,rfl,⟨by unfold iN;rw[if_pos hlong];exact Sim.resl (i6 f n).symm (fun t ht=>by rw[i6]at ht;rw[s7 f n t ht]),trivial⟩⟩,trivial⟩
 have hlong:¬64<val.size:=by
  have:¬(64:Int)<(val.size:Int):=by subst O;simpa[std,b7]using hb
  omega
 refine f9 (j6 [0,1,2,9,10] [0] [(2,.x fun _=>⟨.tup [.str fs,.bool (.v fb)],[(0,[.sl none A n c 2 (fun i=>itC (f i))])],[]⟩)] Z (hob:=?hob) fun X3 Z=>?_)
 case hob=>
  intro X;subst O;exact⟨⟨wF,SG⟩,trivial⟩
 refine j6 [11,0,1,2,9,10] [0] [(2,.x fun x=>⟨.sl none (x.A 0) n1 (x.c 0) 2 (fun i=>itC (f1 i)),[(0,[.sl none A n c 2 (fun i=>itC (f i))])],[]⟩)] Z (hob:=?hob) fun X4 Z=>?_
 case hob=>
  intro X;subst O;exact⟨⟨wE,SW⟩,trivial⟩
 refine a6 [12,0,1,2,9,10,11] [0,12,45,53,58] Z fun X5 Z=>?_
 refine a6 [12,13,0,1,2,9,10,11] [0,12,45,53,58] Z fun X6 Z=>?_
 replace Z:=Z.headS (v':=.sl (some 12) none 0 0 2 (fun t=>itC (f1 t))) (zq0) rfl;refine a7 (j0 (r9 (ι:=Nat×Option Addr×Nat) (fun p=>[(12,.sl (some 12) p.2.1 p.1 p.2.2 2 (fun t=>itC (f1 t))),(13,.int .i64 (p.1:Int))]) (fun p=>[]) (fun p=>[(12,⟨p.2.1,p.1,p.2.2,2,62⟩)]) (fun p=>p.1<=n1/\∀t,t<p.1->(f1 t).key<key) (fun p=>n1-p.1) (0,none,0) ⟨Nat.zero_le _,fun t ht=>absurd ht (Nat.not_lt_zero _)⟩ Z ?_))
 rintro⟨i,A1,c1⟩ ⟨hi,hlt⟩ _ _ Z
 try dsimp only at hi
 try dsimp only at hlt
 refine a7 (a6 [38,12,13,0,1,2,9,10,11] [0,12,45,53,58] Z (hob:=?hob) fun X7 Z=>?_)
 case hob=>
  intro X;subst O;simp only[f8,Ob.holds,BE.den,List.mem_cons,List.not_mem_nil,or_false,forall_eq_or_imp,forall_eq]
  and_intros<;>first|trivial|(intro h;first|trivial|exact⟨Int.natCast_nonneg _,(of_decide_eq_true h:(i:Int)<(n1:Int))⟩)
 apply d7 Z rfl<;>intro hb Z
 .have h9:(if decide ((i:Int)<(n1:Int))=true then decide ((f1 i).key<key)else false)=true:=by subst O;exact hb
  rw[M7,Bool.and_eq_true,decide_eq_true_eq,decide_eq_true_eq]at h9;have hin:i<n1:=by omega
  have hk:=h9.2;refine f9 (j0 (a6 [12,13,0,1,2,9,10,11] [0,12,45,53,58] Z (hob:=?hob) fun X8 Z=>?_))
  case hob=>
   intro X;subst O
   repeat(first|exact trivial|refine⟨⟨rfl,rfl,rfl⟩,?_⟩|refine⟨rfl,?_⟩|refine⟨⟨show(0:Int)<=(i:Int)by omega,show(i:Int)<(n1:Int)by omega⟩,?_⟩|refine⟨⟨show i+1<=maxLen by omega,show(i+1)*_<=_ by omega⟩,?_⟩)
  replace Z:=Z.headS (v':=.sl (some 12) ((X8 6).A 0) (B.nadd i 1) ((X8 6).c 0) 2 (fun t=>itC (f1 t))) (Sim.resl rfl (fun t ht=>by
   subst O;have ht2:t<i+1:=ht
   show B8 i (fun t=>itC (f1 t)) (B0 2 [.int .u64 (f1 i).key,.str (f1 i).val]) t=_
   unfold B8
   split
   .rfl
   .have:t=i:=by omega
    subst this;simp[B0,itC]
   )) rfl
  refine j5 [12,13,0,1,2,9,10,11] [0,12,45,53,58] Z fun X9 Z=>?_
  have e:B.arith .add .i64 (i:Int) 1=((i+1:Nat):Int):=by subst O;exact j7 (n:=n1) hin (by omega)
  refine⟨(i+1,_,_),⟨by simp only;omega,fun t ht=>?_⟩,by simp only;omega,by rw[<-e,show i+1=B.nadd i 1 by subst O;rfl];exact Z⟩
  by_cases h:t=i
  .rw [h];exact hk
  exact hlt t (by simp only at ht;omega)
 have h9:(if decide ((i:Int)<(n1:Int))=true then decide ((f1 i).key<key)else false)=false:=by subst O;exact hb
 rw[M7]at h9;have hend:i<n1-> ¬(f1 i).key<key:=fun h hk=>by
  rw[decide_eq_true (show(i:Int)<(n1:Int)by omega),decide_eq_true hk]at h9
  cases h9
 have hPL:=Bq (val:=val) hl1 hi hlt hend;have hPM:iN (d4 f n) key val=d4 (wd f1 i ⟨key,val⟩) (n1+1):=by unfold iN Fi;rw[if_neg hlong,<-hl];exact hPL
 refine o4 (a6 [12,13,0,1,2,9,10,11] [0,12,45,53,58] Z (hob:=?hob) fun X10 Z=>?_)
 case hob=>
  intro X;subst O
  repeat(first|exact trivial|refine⟨⟨rfl,rfl,rfl⟩,?_⟩|refine⟨rfl,?_⟩|refine⟨⟨show i+1<=maxLen by omega,show(i+1)*_<=_ by omega⟩,?_⟩)
 replace Z:=Z.headS (v':=.sl (some 12) ((X10 5).A 0) (B.nadd i 1) ((X10 5).c 0) 2 (fun t=>itC ((cm f1 i ⟨key,val⟩) t))) (Sim.resl rfl (fun t ht=>by
  subst O;have ht2:t<i+1:=ht
  show B8 i (fun t=>itC (f1 t)) (B0 2 [.int .u64 key,.str val]) t=_
  unfold B8 cm
  split
  .rw [if_neg (by omega)]
  .have:t=i:=by omega
   subst this;simp[B0,itC]
  )) rfl
 refine a6 [12,0,9,10] [0,12,45,53,58] Z (hob:=?hob) fun X11 Z=>?_
 case hob=>
  intro X;subst O
  repeat(first|exact trivial|refine⟨⟨rfl,rfl,rfl⟩,?_⟩|refine⟨⟨show(0:Int)<=(i:Int)by omega,show(i:Int)<=(n1:Int)by omega,Int.le_refl _⟩,?_⟩|refine⟨⟨show i+1+(n1-i)<=maxLen by omega,show(i+1+(n1-i))*_<=_ by omega⟩,?_⟩|refine⟨rfl,?_⟩)
 replace Z:=Z.headS (v':=.sl (some 12) ((X11 4).A 0) (B.nadd (B.nadd i 1) (B.nsub (B.toNat (B.ofNat n1)) (B.toNat (i:Int)))) ((X11 4).c 0) 2 (fun t=>itC (wd f1 i ⟨key,val⟩ t))) (Sim.resl rfl (fun t ht=>by
  subst O;have ht2:t<i+1+((n1:Int).toNat-(i:Int).toNat):=ht
  show B8 (i+1) (fun t=>itC (cm f1 i ⟨key,val⟩ t)) (zg i (fun t=>itC (f1 t))) t=_
  unfold B8 cm wd zg
  by_cases h1:t<i
  .simp [h1,show t<i+1 by omega,show ¬t=i by omega]
  by_cases h2:t=i
  .simp [h2]
  simp[h1,h2,show ¬t<i+1 by omega,show i+(t-(i+1))=t-1 by omega])) rfl
 refine a6 [9,10] [0] Z (hob:=?hob) fun X12 Z=>?_
 case hob=>
  intro X;subst O
  repeat(first|exact trivial|refine⟨rfl,?_⟩|refine⟨⟨show(0:Int)<=(i:Int)by omega,show(i:Int)<(n:Int)by omega⟩,?_⟩)
 refine a6 [6,7,8] [0] Z fun X13 Z=>?_
 refine j2 ((rx O a8 Z (⟨0,fun _=>(X11 4).A 0,fun _=>(X11 4).c 0,fun _=>⟨#[]⟩⟩) [] (he:=?_) (hs:=?_)).1)
 .subst O;simp only[pS,pB,pE,hlong,if_false,<-hfs,<-hfb]
  exact zr
 subst O;exact⟨rfl,⟨_,rfl,⟨by rw[hPM];exact Sim.resl (by rw[i6];show i+1+((n1:Int).toNat-(i:Int).toNat)=n1+1;omega) (fun t ht=>by rw[i6]at ht;rw[s7 _ _ t ht]),trivial⟩⟩,trivial⟩
theorem FB(k0:Nat)(b:Nat)(A:Option Addr)(n c:Nat)(f:Nat->Itm)(hn:n<=1000000)(key:Int)(val:ByteArray):L4 Tryz.prog 100 [.ptr k0 b 0,.int .u64 key,.str val] [(k0,⟨b,85,[r6 A n c f]⟩)] (fun x=>⟨.tup [.str (pS (d4 f n) key val),.bool (.v (pB (d4 f n) key val)),.int .i64 (pE val)],[(k0,[r6 (x.A 0) (iN (d4 f n) key val).length (x.c 0) (itF (iN (d4 f n) key val))])],[]⟩):=
 (BI b A n c f hn key val).re (by repeat(first|exact trivial|refine⟨Sim.ptr,?_⟩|refine⟨Sim.fn ⟨Sim.ptr,trivial⟩ trivial,?_⟩|refine⟨Sim.fn trivial ⟨Sim.ptr,trivial⟩,?_⟩|refine⟨zr,?_⟩)) rfl (fun x=>⟨rfl,rfl,zr,rfl⟩)
theorem Ic(A:Option Addr)(n c:Nat)(f:Nat->Itm)(hn:n<=1000000):L4 Tryz.prog 44 [r6 A n c f] [] (fun x=>⟨.ptr 6 x.b 0,[],[(6,⟨x.b,85,[r6 (x.A 0) (ofL (d4 f n)).length (x.c 0) (itF (ofL (d4 f n)))]⟩)]⟩):=by
 intro m w hm hargs hpre;have hmx:maxLen=9223372036854775807:=rfl;unfold r6 at hargs;refine enX 26 hm hpre hargs Tryz.func44 fun B O a0 Z=>?_
 refine a6 [0] [] Z fun X0 Z=>?_
 refine a6 [3,0] [6] Z fun X1 Z=>?_
 replace Z:=Z.memS (cells':=[.sl none none 0 0 2 (fun t=>itC (itF [] t))]) ⟨zq0,trivial⟩;refine a7 (a6 [4,0,3] [6] Z fun X2 Z=>?_);refine j0 (r9 (ι:=Nat×Nat×(Nat->Itm)×Option Addr×Nat) (fun p=>[(4,.int .i64 (p.1:Int))]) (fun p=>[(6,⟨(X1 1).b,85,[.sl none p.2.2.2.1 p.2.1 p.2.2.2.2 2 (fun t=>itC (p.2.2.1 t))]⟩)]) (fun p=>[]) (fun p=>p.1<=n/\p.2.1=(ofL (d4 f p.1)).length/\p.2.2.1=itF (ofL (d4 f p.1))) (fun p=>n-p.1) (0,0,itF [],none,0) ⟨Nat.zero_le _,rfl,rfl⟩ Z ?_)
 rintro⟨i,m1,g,A1,c1⟩ ⟨hi,hm1,hg⟩ _ _ Z
 try dsimp only at hi
 try dsimp only at hm1
 try dsimp only at hg
 refine a7 (a6 [10,4,0,3] [6] Z fun X3 Z=>?_);apply d7 Z rfl<;>intro hb Z
 .have hin:i<n:=by
   have:(i:Int)<(n:Int):=by subst O;simpa[std,b7]using hb
   omega
  have hml:m1<=1000000:=by rw[hm1];have:=tS f i;omega
  have hfm:d4 g m1=ofL (d4 f i):=by rw[hg,hm1];exact fe _
  have SP:=FB 6 (X1 1).b A1 m1 c1 g hml (f i).key (f i).val;unfold r6 at SP;obtain⟨l2,hl2⟩:=eqv (iN (d4 g m1) (f i).key (f i).val);rw[<-hl2]at SP;obtain⟨n2,hn2⟩:=eqv (l2.length);obtain⟨g2,hg2⟩:=eqv (itF l2);rw[<-hn2,<-hg2]at SP
  generalize pS (d4 g m1) (f i).key (f i).val=ps at SP
  generalize pB (d4 g m1) (f i).key (f i).val=pb at SP
  generalize pE (f i).val=pe at SP
  refine f9 (a7 (j0 (drg O a8 [4,0,3] [6] [(11,.x fun x=>⟨.tup [.str ps,.bool (.v pb),.int .i64 pe],[(6,[.sl none (x.A 0) n2 (x.c 0) 2 (fun t=>itC (g2 t))])],[]⟩)] Z (hob:=?hob) fun X5 _ _ Z=>?_)))
  case hob=>
   intro X;subst O
   repeat(first|exact trivial|refine⟨rfl,?_⟩|refine⟨⟨show(0:Int)<=(i:Int)by omega,show(i:Int)<(n:Int)by omega⟩,?_⟩|refine⟨⟨wH,SP⟩,?_⟩)
  refine j5 [4,0,3] [6] Z fun X4 Z=>?_
  have e:B.arith .add .i64 (i:Int) 1=((i+1:Nat):Int):=by subst O;exact j7 (n:=n) hin (by omega)
  refine⟨(i+1,n2,g2,(X5 11).A 0,(X5 11).c 0),⟨by simp only;omega,?_,?_⟩,by simp only;omega,by rw[<-e];exact Z⟩
  .simp only;rw[W0,hn2,hl2,hfm]
  simp only;rw[W0,hg2,hl2,hfm]
 have hout:i=n:=by
  have:¬(i:Int)<(n:Int):=by subst O;simpa[std,b7]using hb
  omega
 rw[hout]at hm1 hg;refine o4 (a6 [2] [6] Z fun X6 Z=>?_);refine j2 ((rx O a8 Z (⟨(X1 1).b,fun _=>A1,fun _=>c1,fun _=>⟨#[]⟩⟩) [6] (he:=?_) (hs:=?_) (hn:=?_)).1)
 .subst O;exact zr
 .exact trivial
 exact⟨⟨_,rfl,⟨by rw[hg,hm1];exact zr,trivial⟩⟩,fun e he=>(by cases he),(by simp),trivial⟩
def zJ:l4:=⟨0,⟨0,0⟩,0,0,⟨#[]⟩,0,none,0,0,fun _=>0,0,0,0,0,0,0,0⟩
theorem GT:bG zJ:=⟨⟨by decide,by decide⟩,⟨by decide,by decide⟩,⟨by decide,by decide⟩⟩
theorem Ez(g:Option Nat)(k:Nat)(f:Nat->List AV):E7 [.agg [.int .i64 0,.int .i64 0,.int .u64 0,.int .u64 0,.int .u64 0,.str ⟨#[]⟩,.int .i64 0,.sl none none 0 0 1 (fun _=>[]),.int .u32 0,.int .u32 0,.int .u32 0,.int .u32 0,.int .i64 0,.int .i64 0,.int .i64 0],.sl g none 0 0 k f] [U0 zJ,iz none 0 0 (fun _=>jv)]:=⟨Sim.agg ⟨zr,zr,zr,zr,zr,zr,zr,Sim.nils,zr,zr,zr,zr,zr,zr,zr,trivial⟩,Sim.nils,trivial⟩
theorem HH{l:List Rw}(h:∀w∈l,w.r.items.length<=1000000/\o9 w.lab/\U64 w.lab.bits/\U64 w.r.next.bits)(y:j1):RwN l.length (jO y l):=by
 intro i hi;unfold jO;rw[List.getD_eq_getElem?_getD,List.getElem?_eq_getElem hi];exact h _ (List.getElem_mem hi)
theorem xU{r:Rw}(h:r∈cQ 3 (itF ptM) 1):isL r.lab=true/\U64 r.lab.bits/\U64 r.ver/\U64 r.r.next.bits/\r.r.items.length<=100/\∀x∈r.r.items,U64 x.key:=EV (List.all_eq_true.1 Bt r h)
theorem HV(y:j1):RwN (cQ 3 (itF ptM) 1).length (jO y (cQ 3 (itF ptM) 1)):=HH (fun w hw=>by
 obtain⟨h1,h2,h3,h4,h5,h6⟩:=xU hw;exact⟨by omega,kB h1 h2,h2,h4⟩) y
theorem xV:cR ptS:=ml (fun r hr=>by
 obtain⟨h1,h2,h3,h4,h5,h6⟩:=xU hr;exact⟨kB h1 h2,h3,h4,h6⟩) HU
theorem Av:z6 zJ 0 (fun _=>jv)=(zWq,1):=by kernel_rfl
theorem EA:aB zJ:=⟨⟨by decide,by decide⟩,⟨by decide,by decide⟩,⟨by decide,by decide⟩,⟨by decide,by decide⟩⟩
theorem xY(x1 x2 y1 y2:Int):bG (ptJ x1 x2 y1 y2):=⟨mb,mb,mb⟩
theorem xX:aB (ptJ 1 2 0 9):=⟨⟨by decide,by decide⟩,⟨by decide,by decide⟩,⟨by decide,by decide⟩,⟨by decide,by decide⟩⟩
theorem xW:aB (ptJ 2 1 0 0):=⟨⟨by decide,by decide⟩,⟨by decide,by decide⟩,⟨by decide,by decide⟩,⟨by decide,by decide⟩⟩
theorem Fk:∀i,i<3->U64 (itF ptM i).key:=fun i hi=>by
 match i,hi with
 |0,_=>exact⟨by decide,by decide⟩
 |1,_=>exact⟨by decide,by decide⟩
 |2,_=>exact⟨by decide,by decide⟩
theorem rO(x y:Nat)(z:Int)(hx:x<2^32)(hy:y<2^32)(h:((wvN x y:Nat):Int)=z):l7 Tryz.prog 43 [.int .u32 (x:Int),.int .u32 (y:Int)] (fun _=>.int .u64 z):=h ▸ EB x y hx hy
theorem xT(g:Option Nat)(A:Option Addr)(c:Nat):L4 Tryz.prog 44 [.sl g A 3 c 2 (fun i=>itC (ptF i))] [] (fun x=>⟨.ptr 200 x.b 0,[],[(200,⟨x.b,85,[.sl none (x.A 0) 3 (x.c 0) 2 (fun i=>itC (itF ptM i))]⟩)]⟩):=by
 have h:=Ic A 3 c ptF (by decide);rw[HW]at h;exact h.re ⟨Sim.recell (fun _ _=>rfl),trivial⟩ rfl (fun x=>⟨rfl,rfl,Sim.ptr,rfl⟩)
theorem DQ(x1 x2 y1 y2:Int):l7 Tryz.prog 45 [.agg [.int .u32 x1,.int .u32 x2,.int .u32 y1,.int .u32 y2],.int .i64 1,.int .i64 1] (fun _=>U0 (ptJ x1 x2 y1 y2)):=by
 intro m w hm hargs;refine en 11 hm hargs Tryz.func45 fun B O a0 Z=>?_
 refine a6 [1,2,3,6] [3,6] Z fun X0 Z=>?_
 refine a6 [6] [6] Z fun X1 Z=>?_
 refine B4 Z ?_;subst O;exact Sim.agg ⟨zr,zr,zr,zr,zr,zr,zr,Sim.nils,zr,zr,zr,zr,zr,zr,zr,trivial⟩
theorem gP:l7 Tryz.prog 14 [] (fun _=>.bool .tt):=by
 intro m w hm hargs;have hmx:maxLen=9223372036854775807:=rfl;obtain⟨n1,l1,hq1⟩:=Bs;have hq2:=Br;have SW1:l7 Tryz.prog 43 [.int .u32 1,.int .u32 1] (fun _=>.int .u64 3):=rO 1 1 3 (by decide) (by decide) (by rw[Fj.1];rfl);have SW2:l7 Tryz.prog 43 [.int .u32 5,.int .u32 1] (fun _=>.int .u64 19):=rO 5 1 19 (by decide) (by decide) (by rw[Fj.2.1];rfl);have SW3:l7 Tryz.prog 43 [.int .u32 2,.int .u32 2] (fun _=>.int .u64 12):=rO 2 2 12 (by decide) (by decide) (by rw[Fj.2.2];rfl);have SB:=fun(A:Option Addr) (c:Nat)=>CM A 3 c (itF ptM) (by decide) Fk 1
 have hbn:=HV;have hnew:=HU;simp only[Jv,r6]at SB;obtain⟨R,hR⟩:=eqv (cQ 3 (itF ptM) 1);simp only[<-hR]at SB hbn hnew;have hrn:=Ju;rw[<-hR]at hrn;obtain⟨rn,hrn0⟩:=eqv R.length;simp only[<-hrn0]at SB hbn;rw[<-hrn0]at hrn;have hRR:∀y,G5 (jO y R) rn=R:=fun y=>by rw[hrn0];exact vr y R
 obtain⟨RF,hRF⟩:∃RF:j1->Nat->B1,RF=fun y=>jO y R:=⟨_,rfl⟩
 have hRy:∀y,jO y R=RF y:=fun y=>by rw[hRF]
 simp only[hRy]at SB hbn hRR;have hgood:=xV;obtain⟨S0,hS0⟩:=eqv ptS;rw[<-hS0]at hnew hgood hq1 hq2;obtain⟨ln1,hln1⟩:=eqv l1.length;obtain⟨lf1,hlf1⟩:=eqv (R3 l1);obtain⟨W1,hW1⟩:=eqv (((zWq,(1:Int))).1);obtain⟨E1,hE1⟩:=eqv (((zWq,(1:Int))).2);obtain⟨rr1,hrr1⟩:=eqv (W1.r.rn);obtain⟨nn1,hnn1⟩:=eqv (W1.res.items.length);obtain⟨ff1,hff1⟩:=eqv (itF W1.res.items);have T1:=l7.wq (by have h:=(dj zJ GT EA none 0 0 (fun _=>jv) (by omega) (fun j hj=>absurd hj (Nat.not_lt_zero _)));rw[Av]at h;exact h) hW1 hE1 hrr1 hnn1 hff1;have S1:∀g k fz,l7 Tryz.prog 12 [.agg [.int .i64 0,.int .i64 0,.int .u64 0,.int .u64 0,.int .u64 0,.str ⟨#[]⟩,.int .i64 0,.sl none none 0 0 1 (fun _=>[]),.int .u32 0,.int .u32 0,.int .u32 0,.int .u32 0,.int .i64 0,.int .i64 0,.int .i64 0],.sl g none 0 0 k fz] (fun x=>.tup [E8 (wqB x W1 rr1 nn1 ff1),.int .i64 E1]):=fun g k fz=>T1.sim (Ez g k fz)
 refine en 104 hm hargs Tryz.func14 fun B O a0 Z=>?_
 refine a6 [] [] Z fun X0 Z=>?_
 have O1:=SW1;have O2:=SW2;have O3:=SW3;refine j6 [1] [20] [(0,.r fun _=>.int .u64 3),(2,.r fun _=>.int .u64 19),(4,.r fun _=>.int .u64 12)] Z fun X1 Z=>?_
 replace Z:=Z.headS (v':=.sl (some 20) (some { block:=(X1 6).b,off:=0 }) 3 3 2 (fun i=>itC (ptF i))) (Sim.recell (fun i hi=>by subst O;match i,hi with|0,_=>rfl|1,_=>rfl|2,_=>rfl)) rfl;refine j6 [2,3] [] [(1,.x fun x=>⟨.ptr 200 x.b 0,[],[(200,⟨x.b,85,[.sl none (x.A 0) 3 (x.c 0) 2 (fun i=>itC (itF ptM i))]⟩)]⟩),(5,.r fun y=>.tup [.sl none (y.A 0) rn (y.c 0) 8 (fun i=>G2 (RF y i)),.int .i64 0])] Z (hob:=?hob) fun X2 Z=>?_
 case hob=>
  intro X;subst O
  repeat(first|exact trivial|refine⟨rfl,?_⟩|refine⟨fun _=>rfl,?_⟩|refine⟨⟨fun _ _=>by kernel_rfl,xT _ _ _⟩,?_⟩|refine⟨fun _=>⟨fun _ _=>by kernel_rfl,xT _ _ _⟩,?_⟩|refine⟨⟨fun _ _=>by kernel_rfl,SB _ _⟩,?_⟩|refine⟨fun _=>⟨fun _ _=>by kernel_rfl,SB _ _⟩,?_⟩|refine⟨fun _=>C3 (Kk:=noK) _ _ _ _,?_⟩|refine⟨fun _=>⟨by decide,by decide⟩,?_⟩)
 refine a7 (a6 [31,2] [] Z fun X3 Z=>?_);apply d7 Z rfl<;>intro hb Z
 .exfalso
  subst O;simp[std,b7,BE.den]at hb
 skip
 refine f9 (a7 (wp_region_lit (lpr 0 1 O a8 [33] [] [] Z fun X5_0 _ _ Z=>?_)));have SN:=tU ((X2 5).A 0) rn ((X2 5).c 0) (RF (X2 5)) (by omega) (hbn (X2 5)) 900 (L:=S0) (by rw[hRR];exact hnew);refine E3 rfl rfl rfl rfl Z rfl rfl kZ (SN) (fun _ _ _=>trivial) (fun b hb=>by cases hb) ⟨zr,trivial⟩ (by intro e he;cases he) rfl rfl (fun y=>shF w.heap.size (y.c 0) S0) (fun n x m w m' w' hn _ _ h=>⟨Nat.le_trans hn h.1,h.2⟩) ?_;intro y _ _ Z;obtain⟨sb,hsb⟩:=eqv (y.b);obtain⟨bM,hbM⟩:=eqv (y.c 0);rw[<-hsb,<-hbM]at Z;have hbfr:w.heap.size<=bM:=Z.kept.1;replace Z:=Z.withK (K':=shK bM S0) Z.kept.2;refine lnd 2 O a8 [4,5] [900] [] Z fun X5 _ _ Z=>?_
 refine a7 (a6 [42,4] [900] Z fun X6 Z=>?_);apply d7 Z rfl<;>intro hb Z
 .exfalso
  subst O;simp[std,b7,BE.den]at hb
 skip
 have O1:=DQ 1 2 0 9;refine f9 (a7 (wp_region_lit (lpr 0 3 O a8 [44,46,4] [900] [(2,.r fun _=>U0 (ptJ 1 2 0 9))] Z fun X8_0 _ _ Z=>?_)));have SD:=tG 900 sb bM (ptJ 1 2 0 9) (xY _ _ _ _) xX (fun _=>⟨0,⟨0,0⟩,0,zRA,⟨0,false,.empty,none,0,0,fun _=>C0,0,false⟩⟩) S0 hgood 0;rw[hq1]at SD;have SE:I5 Tryz.prog 19 [.ptr 900 sb 0,U0 (ptJ 1 2 0 9),.sl none none 0 0 15 (fun i=>V6 ((fun _=>⟨0,⟨0,0⟩,0,zRA,⟨0,false,.empty,none,0,0,fun _=>C0,0,false⟩⟩) i))] [(900,⟨sb,95,[.raw (.map (some bM)),.int .i64 0]⟩)] (some bM) (shK bM S0) (fun y=>⟨.tup [.agg [.int .i64 0,.bool (.v false),.str ⟨#[]⟩,.sl none (y.A 2) 2 (y.c 2) 2 (fun i=>itC (itF [⟨3,⟨#[97]⟩⟩,⟨12,⟨#[99]⟩⟩] i)),.int .u64 0,.bool (.v false)],dy (y.A 3) ln1 (y.c 3) lf1,.bool (.v true)],[(900,[.raw (.map (some bM)),.int .i64 0])],[]⟩) (fun _ _=>shK bM S0):=by
  rw[hln1,hlf1];exact SD
 refine E3 rfl rfl rfl rfl Z rfl rfl kY SE (fun _ _ h=>h) (fun b hb=>by cases hb;exact fun h=>absurd h (Nat.not_lt.2 hbfr)) ⟨zr,zr,Sim.nils,trivial⟩ (by intro e he;simp only[List.mem_singleton]at he;subst he;rfl) rfl rfl (fun _=>shK bM S0) (fun _ _ _ _ _ _ _ _ _ h=>h) ?_;intro y _ _ Z;replace Z:=Z.withK (K':=shK bM S0) Z.kept;refine lnd 4 O a8 [4,6,8] [900,6] [(2,.r fun _=>U0 (ptJ 1 2 0 9))] Z fun X8 _ _ Z=>?_
 have O1:=DQ 2 1 0 0;refine a7 (wp_region_lit (lpr 0 3 O a8 [52,54,6,8,4] [900,6] [(2,.r fun _=>U0 (ptJ 2 1 0 0))] Z fun X9_0 _ _ Z=>?_));have SD:=tG 900 sb bM (ptJ 2 1 0 0) (xY _ _ _ _) xW (fun _=>⟨0,⟨0,0⟩,0,zRA,⟨0,false,.empty,none,0,0,fun _=>C0,0,false⟩⟩) S0 hgood 0;rw[hq2]at SD;have SE:I5 Tryz.prog 19 [.ptr 900 sb 0,U0 (ptJ 2 1 0 0),.sl none none 0 0 15 (fun i=>V6 ((fun _=>⟨0,⟨0,0⟩,0,zRA,⟨0,false,.empty,none,0,0,fun _=>C0,0,false⟩⟩) i))] [(900,⟨sb,95,[.raw (.map (some bM)),.int .i64 0]⟩)] (some bM) (shK bM S0) (fun y=>⟨.tup [.agg [.int .i64 5,.bool (.v false),.str ⟨#[]⟩,.sl none (y.A 2) 0 (y.c 2) 2 (fun i=>itC (itF [] i)),.int .u64 0,.bool (.v false)],dy (y.A 3) 0 (y.c 3) (R3 []),.bool (.v true)],[(900,[.raw (.map (some bM)),.int .i64 0])],[]⟩) (fun _ _=>shK bM S0):=by
  exact SD
 refine E3 rfl rfl rfl rfl Z rfl rfl kY SE (fun _ _ h=>h) (fun b hb=>by cases hb;exact fun h=>absurd h (Nat.not_lt.2 hbfr)) ⟨zr,zr,Sim.nils,trivial⟩ (by intro e he;simp only[List.mem_singleton]at he;subst he;rfl) rfl rfl (fun _=>shK bM S0) (fun _ _ _ _ _ _ _ _ _ h=>h) ?_;intro y _ _ Z;replace Z:=Z.withK (K':=shK bM S0) Z.kept;refine lnd 4 O a8 [6,8,9,11] [6,9] [(2,.r fun _=>U0 (ptJ 2 1 0 0))] Z fun X9 _ _ Z=>?_
 refine a7 ?_;have O4:=S1;refine j4 [6,8,9,11,13] [6,9] [(1,.r fun x=>.tup [.agg [.int .i64 W1.kind,.int .i64 W1.lab.len,.int .u64 W1.lab.bits,.int .u64 W1.ver,.int .i64 rr1.kd,.sl none (x.A 1) rr1.n (x.c 1) 2 (fun i=>itC (rr1.f i)),.int .i64 rr1.nx.len,.int .u64 rr1.nx.bits,.int .u64 rr1.mrk,.int .i64 W1.res.code,.bool (.v W1.res.had),.str W1.res.val,.sl none (x.A 2) nn1 (x.c 2) 2 (fun i=>itC (ff1 i)),.int .u64 W1.res.key,.bool (.v W1.res.more)],.int .i64 E1])] Z fun X10 Z=>?_
 refine a6 [0] [] Z (hob:=?hob) fun X11 Z=>?_
 case hob=>
  intro X;subst O;simp only[f8,Ob.holds,BE.den]<;>(and_intros<;>repeat first|trivial|rfl|decide|exact⟨by decide,by decide⟩|intro h)
 refine B4 Z ?_;subst O;refine Sim.bool ?_;simp[std,b7,nI,BE.den,ly,hE1]
 try exact String.beq_self _
def R7(f:Nat->F7)(n:Nat):List Wnt:=(List.range n).map fun i=>(f i).abs
theorem CN{f:Nat->F7}{n i:Nat}(h:i<n):i<(R7 f n).length/\(R7 f n).getD i ⟨0,⟨0,0⟩,0,j3⟩=(f i).abs:=by
 unfold R7;simp[h]
theorem Iz{f:Nat->F7}{n i:Nat}(h:i<n){L:Shf}{k:Int}{D:Did}(hD:D=doL L (f i).abs):D.L=ax (R7 f n) i L/\(if D.wrote then IntKind.i64.wrap (k+1)else k)=lU (R7 f n) i L k:=by
 obtain⟨h1,h2⟩:=CN (f:=f) h;unfold ax lU;rw[if_pos h1,if_pos h1,h2,hD];exact⟨rfl,rfl⟩
theorem IA{f:Nat->F7}{n i:Nat}(h:¬i<n)(L:Shf)(k:Int):L=ax (R7 f n) i L/\k=lU (R7 f n) i L k:=by
 have h1:¬i<(R7 f n).length:=by unfold R7;simpa using h
 unfold ax lU;rw[if_neg h1,if_neg h1];exact⟨rfl,rfl⟩
theorem xD(b bM:Nat)(J:l4)(hJ:bG J)(hRJ:aB J)(A2:Option Addr)(n2 c2:Nat)(f2:Nat->F7)(hn2:n2<=maxLen)(hw2:∀i,i<n2->(f2 i).x.r.n<=maxLen/\o9 (f2 i).lab/\U64 (f2 i).x.r.nx.bits/\∀t,t<(f2 i).x.r.n->U64 ((f2 i).x.r.f t).key)(L:Shf)(hL:cR L)(k:Int):I5 Tryz.prog 19 [.ptr 0 b 0,U0 J,.sl none A2 n2 c2 15 (fun i=>V6 (f2 i))] [(0,⟨b,95,[.raw (.map (some bM)),.int .i64 k]⟩)] (some bM) (shK bM L) (fun y=>⟨.tup [nV y (C5 (z6 J) (R7 f2 n2) 2001 [] L k []).res,dy (y.A 3) (iQ (C5 (z6 J) (R7 f2 n2) 2001 [] L k [])).length (y.c 3) (R3 (iQ (C5 (z6 J) (R7 f2 n2) 2001 [] L k []))),.bool (.v (decide ((C5 (z6 J) (R7 f2 n2) 2001 [] L k []).st=2 \/ (C5 (z6 J) (R7 f2 n2) 2001 [] L k []).st=4/\(C5 (z6 J) (R7 f2 n2) 2001 [] L k []).err=12)))],[(0,[.raw (.map (some bM)),.int .i64 (C5 (z6 J) (R7 f2 n2) 2001 [] L k []).k])],[]⟩) (fun _ _=>shK bM (C5 (z6 J) (R7 f2 n2) 2001 [] L k []).L):=by
 intro m w hm hargs hpre hI;have hmx:maxLen=9223372036854775807:=rfl;have hmp:=C1 hI;have hNx:GS (z6 J):=tL;obtain⟨RQ,hRQ⟩:=eqv (C5 (z6 J) (R7 f2 n2) 2001 [] L k []);rw[<-hRQ]at ⊢;refine enM (bo:=some bM) 74 hm hpre hI hargs Tryz.func19 fun B O a0 Z=>?_
 refine a6 [0,2,4,6] [0,4,6] Z fun X0 Z=>?_
 refine a6 [9,0,2,4,6] [0,4,6,9,72] Z fun X1 Z=>?_
 replace Z:=Z.headS (v':=.sl (some 9) none 0 0 8 (fun t=>N9 (F1 G4))) (zq0) rfl;refine a6 [10,9,0,2,4,6] [0,4,6,9,10,68,72] Z fun X2 Z=>?_
 replace Z:=Z.headS (v':=.sl (some 10) none 0 0 2 (fun t=>M6 (R3 [] t))) (zq0) rfl;refine a7 (a6 [9,10,11,0,2,4,6] [0,4,6,9,10,68,72] Z fun X3 Z=>?_);refine j0 (aX (ι:=Nat×(Nat->r5)×Option Addr×Nat×Shf×Int×List Got×List Lab×Option Addr×Nat×Nat) (fun q=>shK bM q.2.2.2.2.1) (fun q=>[(9,.sl (some 9) q.2.2.1 q.1 q.2.2.2.1 8 (fun t=>N9 (q.2.1 t))),(10,.sl (some 10) q.2.2.2.2.2.2.2.2.1 q.2.2.2.2.2.2.2.2.2.2 q.2.2.2.2.2.2.2.2.2.1 2 (fun t=>M6 (R3 q.2.2.2.2.2.2.2.1 t))),(11,.int .i64 (q.1:Int))]) (fun q=>[(0,⟨b,95,[.raw (.map (some bM)),.int .i64 q.2.2.2.2.2.1]⟩)]) (fun q=>[(9,⟨q.2.2.1,q.1,q.2.2.2.1,8,53⟩),(10,⟨q.2.2.2.2.2.2.2.2.1,q.2.2.2.2.2.2.2.2.2.2,q.2.2.2.2.2.2.2.2.2.1,2,24⟩)]) (fun q=>q.1<=2001/\cR q.2.2.2.2.1/\(∀j,j<q.1->InG (q.2.1 j))/\q.2.2.2.2.2.2.1.length=q.1/\lJ q.2.2.2.2.2.2.1 q.2.1/\RQ=C5 (z6 J) (R7 f2 n2) (2001-q.1) q.2.2.2.2.2.2.1 q.2.2.2.2.1 q.2.2.2.2.2.1 q.2.2.2.2.2.2.2.1/\q.2.2.2.2.2.2.2.1.length=q.2.2.2.2.2.2.2.2.2.2/\q.2.2.2.2.2.2.2.2.2.2<=q.1) (fun q=>2001-q.1) (0,fun _=>F1 G4,none,0,L,k,[],[],none,0,0) ⟨Nat.zero_le _,hL,fun j hj=>absurd hj (Nat.not_lt_zero _),rfl,lJ.nil,hRQ,rfl,Nat.le_refl _⟩ Z ?_)
 rintro⟨i,fz,A1,c1,Lc,kc,gs,ls,AL,cL,nl⟩ ⟨hi,hg,hal,hgl,hlie,hrun,hnl,hll⟩ _ _ Z
 try dsimp only at hi
 try dsimp only at hg
 try dsimp only at hal
 try dsimp only at hgl
 try dsimp only at hlie
 try dsimp only at hrun
 try dsimp only at hnl
 try dsimp only at hll
 replace Z:=Z.withK (K':=shK bM Lc) Z.kept;refine a7 (a6 [17,0,2,4,6,9,10,11] [0,4,6,9,10,68,72] Z fun X4 Z=>?_);apply d7 Z rfl<;>intro hb Z
 .have hi0:i<2001:=by
   have:(i:Int)<=2000:=by subst O;simpa[std,b7]using hb
   omega
  obtain⟨m0,hm0⟩:∃m,2001-i=m+1:=⟨2000-i,by omega⟩
  rw[hm0]at hrun;have hwo:=hNx.ok i fz hal;obtain⟨W9,hW9⟩:=eqv ((z6 J i fz).1);obtain⟨E9,hE9⟩:=eqv ((z6 J i fz).2);obtain⟨rr9,hrr9⟩:=eqv (W9.r.rn);obtain⟨nn9,hnn9⟩:=eqv (W9.res.items.length);obtain⟨ff9,hff9⟩:=eqv (itF W9.res.items);have T9:=l7.wq (dj J hJ hRJ A1 i c1 fz (by omega) hal) hW9 hE9 hrr9 hnn9 hff9;rw[<-hW9]at hwo;have S9:l7 Tryz.prog 12 [U0 J,.sl (some 9) A1 i c1 8 (fun t=>N9 (fz t))] (fun x=>.tup [E8 (wqB x W9 rr9 nn9 ff9),.int .i64 E9]):=T9.sim ⟨zr,Sim.recell (fun _ _=>rfl),trivial⟩;have hq9:z6 J gs.length (ay gs)=(W9,E9):=by
   rw[<-hlie.next hNx.er,hgl,hW9,hE9]
  have O1:=S9;refine f9 (a7 (j0 (j6 [0,2,4,6,9,10,11,12,13] [0,4,6,9,10,12,68,72] [(2,.r fun x=>.tup [.agg [.int .i64 W9.kind,.int .i64 W9.lab.len,.int .u64 W9.lab.bits,.int .u64 W9.ver,.int .i64 rr9.kd,.sl none (x.A 1) rr9.n (x.c 1) 2 (fun i=>itC (rr9.f i)),.int .i64 rr9.nx.len,.int .u64 rr9.nx.bits,.int .u64 rr9.mrk,.int .i64 W9.res.code,.bool (.v W9.res.had),.str W9.res.val,.sl none (x.A 2) nn9 (x.c 2) 2 (fun i=>itC (ff9 i)),.int .u64 W9.res.key,.bool (.v W9.res.more)],.int .i64 E9])] Z fun X6 Z=>?_)));refine a7 (a6 [27,0,2,4,6,9,10,11,12] [0,4,6,9,10,12,68,72] Z fun X7 Z=>?_);apply d7 Z rfl<;>intro hb Z
  .have he:E9≠0:=by subst O;simpa[std,b7]using hb
   have hq:RQ=⟨1,Y0,gs.length,0,Lc,kc,ls⟩:=by rw[hrun];exact tF hq9 he
   refine a6 [6,7,8] [0,6,7,10,68] Z fun X8 Z=>?_
   refine j2 ((rm O a8 Z (⟨0,fun _=>none,fun _=>0,fun _=>.empty⟩) [] (hmap:=?_) (he:=?_) (hs:=?_) (hJ:=?_)).1)
   .intro b hb;cases hb;exact⟨hmp,fun m h=>C1 h⟩
   .rw [hq];subst O
    exact Sim.tup ⟨Sim.agg ⟨zr,zr,zr,zq0,zr,zr,trivial⟩,zq0,zr,trivial⟩
   .rw [hq];subst O;exact⟨rfl,⟨_,rfl,zl⟩,trivial⟩
   rw[hq];exact fun _ _ h=>h
  have he:E9=0:=by subst O;simpa[std,b7]using hb
  rw[he]at hq9;refine f9 (a7 (a6 [31,0,2,4,6,9,10,11,12] [0,4,6,9,10,12,68,72] Z fun X9 Z=>?_));apply d7 Z rfl<;>intro hb Z
  .have hk4:W9.kind=4:=by subst O;simpa[std,b7]using hb
   have hq:RQ=⟨2,W9.res,gs.length,0,Lc,kc,ls⟩:=by rw[hrun];exact df hq9 hk4
   refine a6 [6,7,8] [0,6,7,10,68] Z fun X10 Z=>?_
   refine j2 ((rm O a8 Z ((XG (X6 2) AL cL)) [] (hmap:=?_) (he:=?_) (hs:=?_) (hJ:=?_)).1)
   .intro b hb;cases hb;exact⟨hmp,fun m h=>C1 h⟩
   .rw [hq];subst O
    rw[show nn9=W9.res.items.length from hnn9,show ff9=itF W9.res.items from hff9];rw[za,hnl];exact Sim.tup ⟨zr,DP,zr,trivial⟩
   .rw [hq];subst O;exact⟨rfl,⟨_,rfl,zl⟩,trivial⟩
   rw[hq];exact fun _ _ h=>h
  have hk4:¬W9.kind=4:=by subst O;simpa[std,b7]using hb
  refine f9 (a7 (a6 [38,0,2,4,6,9,10,11,12] [0,4,6,9,10,12,68,72] Z fun X11 Z=>?_));apply d7 Z rfl<;>intro hb Z
  .have hin:i<n2:=by
    have:(i:Int)<(n2:Int):=by subst O;simpa[std,b7]using hb
    omega
   refine wp_region_lit ?_;refine lpr 0 5 O a8 [39,43,9,10,11,12,0,2,4,6] [0,4,6,9,10,12] [] Z (hob:=by intro X;subst O;simp only[f8,Ob.holds,BE.den]<;>and_intros<;>repeat first|trivial|rfl|exact(show(0:Int)<=(i:Int)by omega)|exact(show(i:Int)<(n2:Int)by omega)|exact(fun _ _=>by kernel_rfl)|refine⟨?_,?_⟩|intro h|exact Int.le_refl _|decide|omega) fun X12_0 _ _ Z=>?_
   have hqe:(f2 (B.toNat (i:Int)))=f2 i:=by subst O;rw[show std.toNat (i:Int)=i from Int.toNat_natCast i]
   obtain⟨hq1,hq2,hq3,hq4⟩:=hw2 i hin;have hq5:=BT _ hq2;rw[<-hqe]at hq1 hq2 hq3 hq4 hq5;have SD:=Cn 0 b bM Lc (by have:=hg.ok.len;omega) kc (f2 (B.toNat (i:Int))) hq1 hq2 hq5 hq3;obtain⟨D1,hD1⟩:=eqv (doL Lc (F7.abs (f2 (B.toNat (i:Int)))));rw[<-hD1]at SD;obtain⟨GG1,hGG1⟩:∃G:j1->r5,G=fun y=>ba y D1.got:=⟨_,rfl⟩
   have hGf1:∀y,ba y D1.got=GG1 y:=fun y=>by rw[hGG1]
   simp only[hGf1]at SD;obtain⟨k1,hk1⟩:=eqv ((if D1.wrote then IntKind.i64.wrap (kc+1)else kc));rw[<-hk1]at SD;obtain⟨er1,her1⟩:=eqv (D1.err);rw[<-her1]at SD;obtain⟨L1,hL1⟩:=eqv (D1.L);rw[<-hL1]at SD;refine E3 rfl rfl rfl rfl Z rfl rfl gm SD (fun _ _ h=>h) (fun b hb=>by cases hb;exact fun _=>.inr rfl) ⟨zr,Sim.agg (by repeat(first|exact trivial|refine⟨zr,?_⟩|refine⟨Sim.ff,?_⟩|refine⟨zq0,?_⟩)),trivial⟩ (by intro e he;simp only[List.mem_singleton]at he;subst he;rfl) rfl rfl (fun _=>shK bM L1) (fun _ _ _ _ _ _ _ _ _ h=>h) ?_;intro y _ _ Z;obtain⟨g1,hg1⟩:=eqv (GG1 y);rw[<-hg1]at Z;replace Z:=Z.withK (K':=shK bM L1) Z.kept;have hga1:g1.abs=D1.got:=by rw[hg1,<-hGf1,fV]
   have hg1:cR L1:=by
    rw[hL1,hD1];refine(bw hg ⟨hq2,hq3,fun x hx=>?_⟩).1;obtain⟨t,ht,rfl⟩:=List.mem_map.1 hx;exact hq4 t (List.mem_range.1 ht)
   have hbb:=Iz (n:=n2) hin (k:=kc) (hqe ▸ hD1);rw[<-hL1,<-hk1,<-hgl]at hbb;obtain⟨hb1,hb2⟩:=hbb;refine wpList_nil (a7 (wp_region_lit (lpr 0 2 O a8 [46,47,9,10,11,12,0,2,4,6] [0,4,6,9,10,12] [] Z fun X13_0 _ _ Z=>?_)));have SD:=Cn 0 b bM L1 (by have:=hg1.ok.len;omega) k1 (wqB (X6 2) W9 rr9 nn9 ff9) (by show rr9.n<=_;rw[hrr9];have:=hwo.r.few;show W9.r.items.length<=_;omega) hwo.lab.wf hwo.lab.u (by show U64 rr9.nx.bits;rw[hrr9];exact hwo.r.nx)
   obtain⟨D2,hD2⟩:=eqv (doL L1 (F7.abs (wqB (X6 2) W9 rr9 nn9 ff9)));rw[<-hD2]at SD;obtain⟨GG2,hGG2⟩:∃G:j1->r5,G=fun y=>ba y D2.got:=⟨_,rfl⟩
   have hGf2:∀y,ba y D2.got=GG2 y:=fun y=>by rw[hGG2]
   simp only[hGf2]at SD;obtain⟨k2,hk2⟩:=eqv ((if D2.wrote then IntKind.i64.wrap (k1+1)else k1));rw[<-hk2]at SD;obtain⟨er2,her2⟩:=eqv (D2.err);rw[<-her2]at SD;obtain⟨L2,hL2⟩:=eqv (D2.L);rw[<-hL2]at SD;refine E3 rfl rfl rfl rfl Z rfl rfl gm SD (fun _ _ h=>h) (fun b hb=>by cases hb;exact fun _=>.inr rfl) ⟨zr,Sim.agg (by repeat(first|exact trivial|refine⟨zr,?_⟩|refine⟨Sim.ff,?_⟩|refine⟨zq0,?_⟩)),trivial⟩ (by intro e he;simp only[List.mem_singleton]at he;subst he;rfl) rfl rfl (fun _=>shK bM L2) (fun _ _ _ _ _ _ _ _ _ h=>h) ?_;intro y _ _ Z;obtain⟨g2,hg2⟩:=eqv (GG2 y);rw[<-hg2]at Z;replace Z:=Z.withK (K':=shK bM L2) Z.kept;have hga2:g2.abs=D2.got:=by rw[hg2,<-hGf2,fV]
   have hg2x:=hg2;have hra:rr9.abs=W9.r:=by rw[hrr9,Z4]
   have hD2w:D2=doL L1 (r8 W9):=by
    rw[hD2];unfold F7.abs wqB r8;simp only[hra]
   have hgd:cR D2.L/\U64 D2.got.ver/\Q5 D2.got.r:=by
    rw[hD2w];exact bw hg1 ⟨hwo.lab.wf,hwo.r.nx,hwo.r.key⟩
   have hgi:InG g2:=oD hga2 hgd.2.1 hgd.2.2;have hg2:cR L2:=by rw[hL2];exact hgd.1
   have hge:g2.er=F1 D2.got:=by rw[hg2x,<-hGf2];rfl
   refine lnd 3 O a8 [0,2,4,6,9,10,11,12,14,15] [0,4,6,9,10,12,14,68,72] [] Z fun X13 _ _ Z=>?_
   refine a7 (a6 [52,0,2,4,6,9,10,11,12,14,15] [0,4,6,9,10,12,14,68,72] Z fun X14 Z=>?_);apply d7 Z rfl<;>intro hb Z
   .have he1:er2≠0:=by subst O;simpa[std,b7]using hb
    have hq:RQ=⟨4,Y0,gs.length,D2.err,L2,k2,ls⟩:=by rw[hrun,hL2,hk2];exact fE hq9 hk4 hb1 hb2 hD2w (by rw[<-her2];exact he1)
    refine a6 [6,7,8] [0,6,7,10,68] Z fun X15 Z=>?_
    refine j2 ((rm O a8 Z (⟨0,fun _=>none,fun _=>0,fun _=>.empty⟩) [] (hmap:=?_) (he:=?_) (hs:=?_) (hJ:=?_)).1)
    .intro b hb;cases hb;exact⟨hmp,fun m h=>C1 h⟩
    .rw [hq];subst O
     exact Sim.tup ⟨Sim.agg ⟨zr,zr,zr,zq0,zr,zr,trivial⟩,zq0,Sim.bool (by simp[std,b7,BE.den,ly,<-her2];rfl),trivial⟩
    .rw [hq];subst O;exact⟨rfl,⟨_,rfl,zl⟩,trivial⟩
    rw[hq];exact fun _ _ h=>h
   have he1:er2=0:=by subst O;simpa[std,b7]using hb
   have hrun2:=hrun.trans (fD hq9 hk4 hb1 hb2 hD2w (by rw[<-her2];exact he1));rw[<-hL2,show m0=2001-(i+1)by omega,show rv D2 k1=k2 from hk2.symm]at hrun2;refine f9 (a7 (a6 [63,0,2,4,6,9,10,11,12,14] [0,4,6,9,10,12,14,68,72] Z fun X16 Z=>?_));apply d7 Z rfl<;>intro hb Z
   .have hgt:ao ls W9.lab D2.got=ls ++ [W9.lab]:=by
     unfold ao;rw[if_pos];rw[<-hga2];have h9:(g2.has&&decide (g2.x.r.kd=1))=true:=by subst O;simpa[std,b7]using hb
     exact h9
    rw[hgt]at hrun2;have O4:nl+1<=maxLen:=by omega
    have O5:(nl+1)*16<=140737488355328:=by omega
    refine j5 [10,9,11,0,2,4,6,14] [0,4,6,9,10,14,68,72] Z fun X17 Z=>?_
    replace Z:=Z.headS (v':=.sl (some 10) ((X17 4).A 0) (B.nadd nl 1) ((X17 4).c 0) 2 (fun t=>M6 (R3 (ls ++ [W9.lab]) t))) (Sim.resl rfl (fun t ht=>by
     subst O;have ht2:t<nl+1:=ht
     show B8 nl (fun t=>M6 (R3 ls t)) (B0 2 (M6 W9.lab)) t=_
     unfold B8;rw[kC,hnl]
     split
     .rfl
     have:t=nl:=by omega
     subst this;simp[B0])) rfl
    have O4:i+1<=maxLen:=by omega
    have O5:(i+1)*80<=140737488355328:=by omega
    refine j5 [9,10,11,0,2,4,6] [0,4,6,9,10,68,72] Z fun X18 Z=>?_
    replace Z:=Z.headS (v':=.sl (some 9) ((X18 3).A 0) (B.nadd i 1) ((X18 3).c 0) 8 (fun t=>N9 (if t=i then g2 else fz t))) (Sim.resl rfl (fun t ht=>by
     subst O;have ht2:t<i+1:=ht
     show B8 i (fun t=>N9 (fz t)) (B0 8 (N9 g2)) t=_
     unfold B8
     split
     .rw [if_neg (by omega)]
     have:t=i:=by omega
     subst this;rw[if_pos rfl];simp[B0])) rfl
    refine j5 [9,10,11,0,2,4,6] [0,4,6,9,10,68,72] Z fun X5 Z=>?_
    have e:B.arith .add .i64 (i:Int) 1=((i+1:Nat):Int):=by subst O;exact j7 (n:=2001) (by omega) (by omega)
    refine⟨(i+1,fun t=>if t=i then g2 else fz t,_,_,L2,k2,gs ++ [D2.got],(ls ++ [W9.lab]),_,_,(nl+1)),⟨by simp only;omega,hg2,fun j hj=>?_,by simp[hgl],?_,hrun2,by simp[hnl],by simp only;omega⟩,by simp only;omega,by rw[<-e,show i+1=B.nadd i 1 by subst O;rfl,show nl+1=B.nadd nl 1 by subst O;rfl];exact Z⟩
    .by_cases hji:j=i
     .simp only[if_pos hji];exact hgi
     simp only[if_neg hji];exact hal j (by have h9:j<i+1:=hj;omega)
    have:=hlie.add hge;rw[hgl]at this;exact this
   have hgt:ao ls W9.lab D2.got=ls:=by
    unfold ao;rw[if_neg];rw[<-hga2];have h9:(g2.has&&decide (g2.x.r.kd=1))=false:=by subst O;simpa[std,b7]using hb
    exact fun h=>absurd (h.symm.trans h9) (by decide)
   rw[hgt]at hrun2;refine f9 ?_;have O4:i+1<=maxLen:=by omega
   have O5:(i+1)*80<=140737488355328:=by omega
   refine j5 [9,10,11,0,2,4,6] [0,4,6,9,10,68,72] Z fun X18 Z=>?_
   replace Z:=Z.headS (v':=.sl (some 9) ((X18 3).A 0) (B.nadd i 1) ((X18 3).c 0) 8 (fun t=>N9 (if t=i then g2 else fz t))) (Sim.resl rfl (fun t ht=>by
    subst O;have ht2:t<i+1:=ht
    show B8 i (fun t=>N9 (fz t)) (B0 8 (N9 g2)) t=_
    unfold B8
    split
    .rw [if_neg (by omega)]
    have:t=i:=by omega
    subst this;rw[if_pos rfl];simp[B0])) rfl
   refine j5 [9,10,11,0,2,4,6] [0,4,6,9,10,68,72] Z fun X5 Z=>?_
   have e:B.arith .add .i64 (i:Int) 1=((i+1:Nat):Int):=by subst O;exact j7 (n:=2001) (by omega) (by omega)
   refine⟨(i+1,fun t=>if t=i then g2 else fz t,_,_,L2,k2,gs ++ [D2.got],ls,_,_,nl),⟨by simp only;omega,hg2,fun j hj=>?_,by simp[hgl],?_,hrun2,by simp[hnl],by simp only;omega⟩,by simp only;omega,by rw[<-e,show i+1=B.nadd i 1 by subst O;rfl];exact Z⟩
   .by_cases hji:j=i
    .simp only[if_pos hji];exact hgi
    simp only[if_neg hji];exact hal j (by have h9:j<i+1:=hj;omega)
   have:=hlie.add hge;rw[hgl]at this;exact this
  have hin:¬i<n2:=by
   have:¬(i:Int)<(n2:Int):=by subst O;simpa[std,b7]using hb
   omega
  obtain⟨hb1,hb2⟩:=IA (f:=f2) hin Lc kc;rw[<-hgl]at hb1 hb2;refine f9 (a7 (wp_region_lit (lpr 0 2 O a8 [46,47,9,10,11,12,0,2,4,6] [0,4,6,9,10,12] [] Z fun X13_0 _ _ Z=>?_)));have SD:=Cn 0 b bM Lc (by have:=hg.ok.len;omega) kc (wqB (X6 2) W9 rr9 nn9 ff9) (by show rr9.n<=_;rw[hrr9];have:=hwo.r.few;show W9.r.items.length<=_;omega) hwo.lab.wf hwo.lab.u (by show U64 rr9.nx.bits;rw[hrr9];exact hwo.r.nx)
  obtain⟨D2,hD2⟩:=eqv (doL Lc (F7.abs (wqB (X6 2) W9 rr9 nn9 ff9)));rw[<-hD2]at SD;obtain⟨GG2,hGG2⟩:∃G:j1->r5,G=fun y=>ba y D2.got:=⟨_,rfl⟩
  have hGf2:∀y,ba y D2.got=GG2 y:=fun y=>by rw[hGG2]
  simp only[hGf2]at SD;obtain⟨k2,hk2⟩:=eqv ((if D2.wrote then IntKind.i64.wrap (kc+1)else kc));rw[<-hk2]at SD;obtain⟨er2,her2⟩:=eqv (D2.err);rw[<-her2]at SD;obtain⟨L2,hL2⟩:=eqv (D2.L);rw[<-hL2]at SD;refine E3 rfl rfl rfl rfl Z rfl rfl gm SD (fun _ _ h=>h) (fun b hb=>by cases hb;exact fun _=>.inr rfl) ⟨zr,Sim.agg (by repeat(first|exact trivial|refine⟨zr,?_⟩|refine⟨Sim.ff,?_⟩|refine⟨zq0,?_⟩)),trivial⟩ (by intro e he;simp only[List.mem_singleton]at he;subst he;rfl) rfl rfl (fun _=>shK bM L2) (fun _ _ _ _ _ _ _ _ _ h=>h) ?_;intro y _ _ Z;obtain⟨g2,hg2⟩:=eqv (GG2 y);rw[<-hg2]at Z;replace Z:=Z.withK (K':=shK bM L2) Z.kept;have hga2:g2.abs=D2.got:=by rw[hg2,<-hGf2,fV]
  have hg2x:=hg2;have hra:rr9.abs=W9.r:=by rw[hrr9,Z4]
  have hD2w:D2=doL Lc (r8 W9):=by
   rw[hD2];unfold F7.abs wqB r8;simp only[hra]
  have hgd:cR D2.L/\U64 D2.got.ver/\Q5 D2.got.r:=by
   rw[hD2w];exact bw hg ⟨hwo.lab.wf,hwo.r.nx,hwo.r.key⟩
  have hgi:InG g2:=oD hga2 hgd.2.1 hgd.2.2;have hg2:cR L2:=by rw[hL2];exact hgd.1
  have hge:g2.er=F1 D2.got:=by rw[hg2x,<-hGf2];rfl
  refine lnd 3 O a8 [0,2,4,6,9,10,11,12,14,15] [0,4,6,9,10,12,14,68,72] [] Z fun X13 _ _ Z=>?_
  refine a7 (a6 [52,0,2,4,6,9,10,11,12,14,15] [0,4,6,9,10,12,14,68,72] Z fun X14 Z=>?_);apply d7 Z rfl<;>intro hb Z
  .have he1:er2≠0:=by subst O;simpa[std,b7]using hb
   have hq:RQ=⟨4,Y0,gs.length,D2.err,L2,k2,ls⟩:=by rw[hrun,hL2,hk2];exact fE hq9 hk4 hb1 hb2 hD2w (by rw[<-her2];exact he1)
   refine a6 [6,7,8] [0,6,7,10,68] Z fun X15 Z=>?_
   refine j2 ((rm O a8 Z (⟨0,fun _=>none,fun _=>0,fun _=>.empty⟩) [] (hmap:=?_) (he:=?_) (hs:=?_) (hJ:=?_)).1)
   .intro b hb;cases hb;exact⟨hmp,fun m h=>C1 h⟩
   .rw [hq];subst O
    exact Sim.tup ⟨Sim.agg ⟨zr,zr,zr,zq0,zr,zr,trivial⟩,zq0,Sim.bool (by simp[std,b7,BE.den,ly,<-her2];rfl),trivial⟩
   .rw [hq];subst O;exact⟨rfl,⟨_,rfl,zl⟩,trivial⟩
   rw[hq];exact fun _ _ h=>h
  have he1:er2=0:=by subst O;simpa[std,b7]using hb
  have hrun2:=hrun.trans (fD hq9 hk4 hb1 hb2 hD2w (by rw[<-her2];exact he1));rw[<-hL2,show m0=2001-(i+1)by omega,show rv D2 kc=k2 from hk2.symm]at hrun2;refine f9 (a7 (a6 [63,0,2,4,6,9,10,11,12,14] [0,4,6,9,10,12,14,68,72] Z fun X16 Z=>?_));apply d7 Z rfl<;>intro hb Z
  .have hgt:ao ls W9.lab D2.got=ls ++ [W9.lab]:=by
    unfold ao;rw[if_pos];rw[<-hga2];have h9:(g2.has&&decide (g2.x.r.kd=1))=true:=by subst O;simpa[std,b7]using hb
    exact h9
   rw[hgt]at hrun2;have O4:nl+1<=maxLen:=by omega
   have O5:(nl+1)*16<=140737488355328:=by omega
   refine j5 [10,9,11,0,2,4,6,14] [0,4,6,9,10,14,68,72] Z fun X17 Z=>?_
   replace Z:=Z.headS (v':=.sl (some 10) ((X17 4).A 0) (B.nadd nl 1) ((X17 4).c 0) 2 (fun t=>M6 (R3 (ls ++ [W9.lab]) t))) (Sim.resl rfl (fun t ht=>by
    subst O;have ht2:t<nl+1:=ht
    show B8 nl (fun t=>M6 (R3 ls t)) (B0 2 (M6 W9.lab)) t=_
    unfold B8;rw[kC,hnl]
    split
    .rfl
    have:t=nl:=by omega
    subst this;simp[B0])) rfl
   have O4:i+1<=maxLen:=by omega
   have O5:(i+1)*80<=140737488355328:=by omega
   refine j5 [9,10,11,0,2,4,6] [0,4,6,9,10,68,72] Z fun X18 Z=>?_
   replace Z:=Z.headS (v':=.sl (some 9) ((X18 3).A 0) (B.nadd i 1) ((X18 3).c 0) 8 (fun t=>N9 (if t=i then g2 else fz t))) (Sim.resl rfl (fun t ht=>by
    subst O;have ht2:t<i+1:=ht
    show B8 i (fun t=>N9 (fz t)) (B0 8 (N9 g2)) t=_
    unfold B8
    split
    .rw [if_neg (by omega)]
    have:t=i:=by omega
    subst this;rw[if_pos rfl];simp[B0])) rfl
   refine j5 [9,10,11,0,2,4,6] [0,4,6,9,10,68,72] Z fun X5 Z=>?_
   have e:B.arith .add .i64 (i:Int) 1=((i+1:Nat):Int):=by subst O;exact j7 (n:=2001) (by omega) (by omega)
   refine⟨(i+1,fun t=>if t=i then g2 else fz t,_,_,L2,k2,gs ++ [D2.got],(ls ++ [W9.lab]),_,_,(nl+1)),⟨by simp only;omega,hg2,fun j hj=>?_,by simp[hgl],?_,hrun2,by simp[hnl],by simp only;omega⟩,by simp only;omega,by rw[<-e,show i+1=B.nadd i 1 by subst O;rfl,show nl+1=B.nadd nl 1 by subst O;rfl];exact Z⟩
   .by_cases hji:j=i
    .simp only[if_pos hji];exact hgi
    simp only[if_neg hji];exact hal j (by have h9:j<i+1:=hj;omega)
   have:=hlie.add hge;rw[hgl]at this;exact this
  have hgt:ao ls W9.lab D2.got=ls:=by
   unfold ao;rw[if_neg];rw[<-hga2];have h9:(g2.has&&decide (g2.x.r.kd=1))=false:=by subst O;simpa[std,b7]using hb
   exact fun h=>absurd (h.symm.trans h9) (by decide)
  rw[hgt]at hrun2;refine f9 ?_;have O4:i+1<=maxLen:=by omega
  have O5:(i+1)*80<=140737488355328:=by omega
  refine j5 [9,10,11,0,2,4,6] [0,4,6,9,10,68,72] Z fun X18 Z=>?_
  replace Z:=Z.headS (v':=.sl (some 9) ((X18 3).A 0) (B.nadd i 1) ((X18 3).c 0) 8 (fun t=>N9 (if t=i then g2 else fz t))) (Sim.resl rfl (fun t ht=>by
   subst O;have ht2:t<i+1:=ht
   show B8 i (fun t=>N9 (fz t)) (B0 8 (N9 g2)) t=_
   unfold B8
   split
   .rw [if_neg (by omega)]
   have:t=i:=by omega
   subst this;rw[if_pos rfl];simp[B0])) rfl
  refine j5 [9,10,11,0,2,4,6] [0,4,6,9,10,68,72] Z fun X5 Z=>?_
  have e:B.arith .add .i64 (i:Int) 1=((i+1:Nat):Int):=by subst O;exact j7 (n:=2001) (by omega) (by omega)
  refine⟨(i+1,fun t=>if t=i then g2 else fz t,_,_,L2,k2,gs ++ [D2.got],ls,_,_,nl),⟨by simp only;omega,hg2,fun j hj=>?_,by simp[hgl],?_,hrun2,by simp[hnl],by simp only;omega⟩,by simp only;omega,by rw[<-e,show i+1=B.nadd i 1 by subst O;rfl];exact Z⟩
  .by_cases hji:j=i
   .simp only[if_pos hji];exact hgi
   simp only[if_neg hji];exact hal j (by have h9:j<i+1:=hj;omega)
  have:=hlie.add hge;rw[hgl]at this;exact this
 have hi0:i=2001:=by
  have:¬(i:Int)<=2000:=by subst O;simpa[std,b7]using hb
  omega
 have hq:RQ=⟨0,Y0,gs.length,0,Lc,kc,ls⟩:=by rw[hrun,hi0];rfl
 refine o4 (a6 [6,7,8] [0,6,7,10,68] Z fun X19 Z=>?_);refine j2 ((rm O a8 Z (⟨0,fun _=>none,fun _=>0,fun _=>.empty⟩) [] (hmap:=?_) (he:=?_) (hs:=?_) (hJ:=?_)).1)
 .intro b hb;cases hb;exact⟨hmp,fun m h=>C1 h⟩
 .rw [hq];subst O
  exact Sim.tup ⟨Sim.agg ⟨zr,zr,zr,zq0,zr,zr,trivial⟩,zq0,zr,trivial⟩
 .rw [hq];subst O;exact⟨rfl,⟨_,rfl,zl⟩,trivial⟩
 rw[hq];exact fun _ _ h=>h
theorem Bh(k0:Nat)(b bM:Nat)(J:l4)(hJ:bG J)(hRJ:aB J)(A2:Option Addr)(n2 c2:Nat)(f2:Nat->F7)(hn2:n2<=maxLen)(hw2:∀i,i<n2->(f2 i).x.r.n<=maxLen/\o9 (f2 i).lab/\U64 (f2 i).x.r.nx.bits/\∀t,t<(f2 i).x.r.n->U64 ((f2 i).x.r.f t).key)(L:Shf)(hL:cR L)(k:Int):I5 Tryz.prog 19 [.ptr k0 b 0,U0 J,.sl none A2 n2 c2 15 (fun i=>V6 (f2 i))] [(k0,⟨b,95,[.raw (.map (some bM)),.int .i64 k]⟩)] (some bM) (shK bM L) (fun y=>⟨.tup [nV y (C5 (z6 J) (R7 f2 n2) 2001 [] L k []).res,dy (y.A 3) (iQ (C5 (z6 J) (R7 f2 n2) 2001 [] L k [])).length (y.c 3) (R3 (iQ (C5 (z6 J) (R7 f2 n2) 2001 [] L k []))),.bool (.v (decide ((C5 (z6 J) (R7 f2 n2) 2001 [] L k []).st=2 \/ (C5 (z6 J) (R7 f2 n2) 2001 [] L k []).st=4/\(C5 (z6 J) (R7 f2 n2) 2001 [] L k []).err=12)))],[(k0,[.raw (.map (some bM)),.int .i64 (C5 (z6 J) (R7 f2 n2) 2001 [] L k []).k])],[]⟩) (fun _ _=>shK bM (C5 (z6 J) (R7 f2 n2) 2001 [] L k []).L):=
 (xD b bM J hJ hRJ A2 n2 c2 f2 hn2 hw2 L hL k).re (by repeat(first|exact trivial|refine⟨Sim.ptr,?_⟩|refine⟨Sim.fn ⟨Sim.ptr,trivial⟩ trivial,?_⟩|refine⟨Sim.fn trivial ⟨Sim.ptr,trivial⟩,?_⟩|refine⟨zr,?_⟩)) rfl (fun x=>⟨rfl,rfl,zr,rfl⟩)
theorem wR{J:l4}(hj:E6 J=true):0<=J.budget/\J.budget<=2000:=by
 unfold E6 btw at hj;simp only[Bool.and_eq_true,decide_eq_true_eq]at hj;omega
def l4.cut(J:l4)(b:Int):l4:={ J with budget:=b }
theorem BX{J:l4}(hj:E6 J=true){b:Int}(h0:0<=b)(h:b<=J.budget):E6 (J.cut b)=true:=by
 unfold E6 btw l4.cut at *;simp only[Bool.and_eq_true,decide_eq_true_eq]at *;exact⟨⟨⟨⟨⟨hj.1.1.1.1.1,by omega,by omega⟩,hj.1.1.1.2⟩,hj.1.1.2⟩,hj.1.2⟩,hj.2⟩
end Go.Proofs.YtmbkanpapkhnaaaGreat.Sym
namespace Go.Proofs.YtmbkanpapkhnaaaGreat.Sym
open Go
open Go.RowKit
variable {C:Cx} {P:Program} {Q:Exit->Act->World->Prop} {ops:Array Oper} {s:St} {a:Act} {w:World} {L rest:List Oper} {o:Oper}
theorem BL{x y:Operand}{k k':IntKind}{i j r:Int}{d:Nat}{c:Call}(hL:L=o::rest)(hg:o.guard=none)(hop:o.op = .call c)(hc1:c.callee = .builtin .min)(hc2:c.args = #[x,y])(hdst:o.dst=some d)(h:f7 C s a w)(hd:d<s.nt)(hx:val s [] x = .int k i)(hy:val s [] y = .int k' j)
  (hr:r=if j<i then j else i) (K':∀a',f7 C (s.put (some d) (.int k r)) a' w->wpList P ops Q rest a' w):wpList P ops Q L a w:=by
 have hxv:=(A7 h (q:=[]) (fun _ h=>by cases h) (x:=x) (by rw[hx];rfl)).1;have hyv:=(A7 h (q:=[]) (fun _ h=>by cases h) (x:=y) (by rw[hy];rfl)).1;rw[hx]at hxv;rw[hy]at hyv;refine dW hL hg hdst h hd (v:=.int k r) ?_ (.int _ _) K';subst hr;simp[execOp,hop,hc1,hc2,resolve,invoke,builtin,Builtin.min_,Builtin.min2,hxv,hyv,Result.andThen,AV.den]
end Go.Proofs.YtmbkanpapkhnaaaGreat.Sym
