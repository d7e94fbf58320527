/-
  SymTr8, PlTrie, SymTr2, SymTr3, SymTr9, SymTr5, SymTr6, SymInl4, SymTr7, SymTrA, SymTrB, PlPtEx, SymMap1, SymMap2, SymEx30, SymSam, SymSd1, SymSd2, SymSd3, SymHasD, SymMorD1, SymMorD2, SymMorD3, SymDone, SymRcD1: put together by a program of mine (a claim may have 60 files at most). Conditions: none.
-/
import Derived.Test.YtmbkanpapkhnaaaGreatMgS6
set_option linter.unusedVariables false
set_option linter.unusedSimpArgs false
set_option maxRecDepth 100000
set_option maxHeartbeats 1600000
namespace Go.Proofs.YtmbkanpapkhnaaaGreat.Sym
open Go Go.RowKit
def AB(n:Nat)(f:Nat->Itm):Bool:=(List.range n).any fun t=>decide (64<(f t).val.size)
def tL(n:Nat)(f:Nat->Itm):Bool:=(List.range (n-1)).all fun t=>decide (¬(f (t+1)).key<(f t).key)
def uM(n:Nat)(f:Nat->Itm):Bool:=(List.range (n-1)).any fun t=>decide ((f (t+1)).key=(f t).key)
theorem AI(x:Int):k9 Tryz.prog 135 [.int .u64 x] (fun _=>.bool .ff):=by
 intro m w hm hargs;refine en 6 hm hargs Tryz.func135 fun B O a0 Z=>?_
 refine a6 [0] [] Z fun X0 Z=>?_
 refine a6 [2] [] Z fun X1 Z=>?_
 refine z7 Z ?_;subst O;exact Sim.bool (by show(x != x)=false;simp)
theorem Kl(x y:Int):k9 Tryz.prog 70 [.int .u64 x,.int .u64 y] (fun _=>.int .i64 (dm x y)):=by
 intro m w hm hargs;have S1:=AI x;have S2:=AI y;refine en 20 hm hargs Tryz.func70 fun B O a0 Z=>?_
 refine a6 [0,1] [] Z fun X0 Z=>?_
 have O1:=S1;refine i9 [0,1,5] [] [(1,.r fun _=>.bool .ff)] Z fun X1 Z=>?_
 have O1:=S2;refine i9 [0,1,5,6] [] [(1,.r fun _=>.bool .ff)] Z fun X2 Z=>?_
 refine a7 (a6 [11,0,1,6] [] Z fun X3 Z=>?_);refine l4 Z rfl (fun Z=>?_);refine f8 (a7 (a6 [13,0,1] [] Z fun X7 Z=>?_));refine l4 Z rfl (fun Z=>?_);refine f8 (a7 (a6 [16,0,1] [] Z fun X9 Z=>?_));apply b7 Z rfl<;>intro hb Z
 .have h1:x<y:=by subst O;simpa[std,d4]using hb
  refine a6 [4] [] Z fun X10 Z=>?_
  refine z7 Z ?_;subst O;unfold dm;rw[if_pos h1];exact zr
 have h1:¬x<y:=by subst O;simpa[std,d4]using hb
 refine f8 (a7 (a6 [19] [] Z fun X11 Z=>?_));apply b7 Z rfl<;>intro hb Z
 .have h2:y<x:=by subst O;simpa[std,d4]using hb
  refine a6 [4] [] Z fun X12 Z=>?_
  refine z7 Z ?_;subst O;unfold dm;rw[if_neg h1,if_pos h2];exact zr
 have h2:¬y<x:=by subst O;simpa[std,d4]using hb
 refine f8 (a6 [4] [] Z fun X13 Z=>?_);refine z7 Z ?_;subst O;unfold dm;rw[if_neg h1,if_neg h2];exact zr
theorem IC(x:Itm):k9 Tryz.prog 68 [.agg (itC x)] (fun _=>.bool (.v (decide (64<x.val.size)))):=by
 intro m w hm hargs;simp only[itC]at hargs ⊢;refine en 7 hm hargs Tryz.func68 fun B O a0 Z=>?_
 refine a6 [1] [1] Z fun X0 Z=>?_
 refine a6 [2] [] Z fun X1 Z=>?_
 refine z7 Z ?_;subst O;exact Sim.bool (by show decide ((64:Int)<(x.val.size:Int))=decide (64<x.val.size);rw[decide_eq_decide];omega)
theorem Il(x y:Itm):k9 Tryz.prog 69 [.agg (itC x),.agg (itC y)] (fun _=>.int .i64 (dm x.key y.key)):=by
 intro m w hm hargs;simp only[itC]at hargs ⊢;have S:=Kl x.key y.key;obtain⟨z,hz⟩:=eqv (dm x.key y.key);rw[<-hz]at S ⊢;refine en 10 hm hargs Tryz.func69 fun B O a0 Z=>?_
 refine a6 [2,3] [2,3] Z fun X0 Z=>?_
 have O1:=S;refine i9 [4] [] [(4,.r fun _=>.int .i64 z)] Z fun X1 Z=>?_
 exact i8 ((rsp O a8 Z C5).1)
theorem BD(x y:Itm):k9 Tryz.prog 73 [.agg (itC x),.agg (itC y)] (fun _=>.bool (.v (decide (x.key=y.key)))):=by
 intro m w hm hargs;simp only[itC]at hargs ⊢;refine en 10 hm hargs Tryz.func73 fun B O a0 Z=>?_
 refine a6 [2,3] [2,3] Z fun X0 Z=>?_
 refine a6 [4] [] Z fun X1 Z=>?_
 refine z7 Z ?_;subst O;exact Sim.bool (by show(x.key==y.key)=decide (x.key=y.key);rw[Bool.eq_iff_iff];simp)
theorem Ja(A:Option Addr)(n c:Nat)(f:Nat->Itm)(hn:n<=1000000):k9 Tryz.prog 136 [s4 A n c f,.fn 68 [] []] (fun _=>.int .i64 (nO (fun t=>decide (64<(f t).val.size)) n)):=by
 intro m w hm hargs;have hmx:maxLen=9223372036854775807:=rfl;unfold s4 at hargs;refine en 19 hm hargs Tryz.func136 fun B O a0 Z=>?_
 refine a6 [0,1] [] Z fun X0 Z=>?_
 refine a7 (a6 [8,0,1,7] [] Z fun X1 Z=>?_);refine j1 (l3 (ι:=Nat) (fun p=>[(8,.int .i64 (p:Int))]) (fun p=>[]) (fun p=>[]) (fun p=>p<=n/\∀t,t<p->decide (64<(f t).val.size)=false) (fun p=>n-p) 0 ⟨Nat.zero_le _,fun t ht=>absurd ht (Nat.not_lt_zero _)⟩ Z ?_)
 rintro i ⟨hi,hlt⟩ _ _ Z
 try dsimp only at hi
 try dsimp only at hlt
 refine a6 [9,8,0,1,7] [] Z fun X2 Z=>?_
 refine a7 (b7 Z rfl (fun hb Z=>?_) (fun hb Z=>?_))
 .have hin:i<n:=by
   have:(i:Int)<(n:Int):=by subst O;simpa[std,d4]using hb
   omega
  have S:=IC (f i);obtain⟨q,hq⟩:=eqv (decide (64<(f i).val.size));rw[<-hq]at S;refine f8 (a7 (j1 (a6 [5,8,0,1,7] [] Z fun X3 Z=>?_)));refine a7 ?_;have O4:(0:Int)<=(i:Int):=by omega
  have O5:(i:Int)<(n:Int):=by omega
  have O6:=S;refine f7 [16,5,8,0,1,7] [] [(5,.r fun _=>.bool (.v q))] Z fun X4 Z=>?_
  apply b7 Z rfl<;>intro hb Z
  .have hqt:q=true:=hb
   refine a6 [4] [] Z fun X5 Z=>?_
   refine z7 Z ?_;subst O;rw[lp (p:=(fun t=>decide (64<(f t).val.size))) hin hlt (hq.symm.trans hqt)];exact zr
  have hqf:q=false:=hb;refine f8 (j5 [8,0,1,7] [] Z fun X6 Z=>?_);have e:B.arith .add .i64 (i:Int) 1=((i+1:Nat):Int):=by subst O;exact k4 (n:=n) hin (by omega)
  refine⟨i+1,⟨by omega,fun t ht=>?_⟩,by omega,by rw[<-e];exact Z⟩
  by_cases h:t=i
  .rw [h,<-hq];exact hqf
  exact hlt t (by omega)
 have hout:i=n:=by
  have:¬(i:Int)<(n:Int):=by subst O;simpa[std,d4]using hb
  omega
 rw[hout]at hlt;refine j9 (a6 [4] [] Z fun X7 Z=>?_);refine z7 Z ?_;subst O;rw[mI (p:=(fun t=>decide (64<(f t).val.size))) hlt];exact zr
theorem Kj(A:Option Addr)(n c:Nat)(f:Nat->Itm)(hn:n<=1000000):k9 Tryz.prog 74 [s4 A n c f,.fn 68 [] []] (fun _=>.bool (.v (AB n f))):=by
 intro m w hm hargs;have S:=Ja A n c f hn;have HC:=oF (fun t=>decide (64<(f t).val.size)) n
 generalize (nO (fun t=>decide (64<(f t).val.size)) n)=ix at S HC
 unfold s4 at S hargs;refine en 9 hm hargs Tryz.func74 fun B O a0 Z=>?_
 refine a6 [0,1] [] Z fun X0 Z=>?_
 have O1:=S;refine i9 [4] [] [(2,.r fun _=>.int .i64 ix)] Z fun X1 Z=>?_
 refine z7 Z ?_;subst O;refine Sim.bool ?_
 show decide (ix ≥ 0)=AB n f
 unfold AB
 rcases HC with⟨i,h1,h2,h3,h4⟩|⟨h1,h2⟩
 .rw [decide_eq_true (by omega)];exact(List.any_eq_true.2 ⟨i,List.mem_range.2 h1,h3⟩).symm
 rw[h1];symm;rw[show decide ((-1:Int) ≥ 0)=false from rfl,List.any_eq_false];intro t ht;rw[h2 t (List.mem_range.1 ht)];decide
theorem Ia(A:Option Addr)(n c:Nat)(f:Nat->Itm)(hn:n<=1000000):k9 Tryz.prog 75 [s4 A n c f,.fn 69 [] []] (fun _=>.bool (.v (tL n f))):=by
 intro m w hm hargs;have hmx:maxLen=9223372036854775807:=rfl;unfold s4 at hargs;refine en 25 hm hargs Tryz.func75 fun B O a0 Z=>?_
 refine a6 [0,1] [] Z fun X0 Z=>?_
 refine a7 (a6 [5,0,1] [] Z fun X1 Z=>?_);replace Z:=Z.headS (v':=.int .i64 ((n:Int)-1)) (by subst O;show Sim (.int .i64 (IntKind.i64.wrap ((n:Int)-1))) _;rw[o8 (by omega) (by omega)];exact zr) rfl;refine j1 (l3 (ι:=Nat) (fun p=>[(5,.int .i64 ((p:Int)-1))]) (fun p=>[]) (fun p=>[]) (fun p=>p<=n/\∀t,p<=t+1->t+1<n-> ¬(f (t+1)).key<(f t).key) (fun p=>p) n ⟨Nat.le_refl _,fun t h1 h2=>absurd h2 (by omega)⟩ Z ?_)
 rintro p ⟨hp,hlt⟩ _ _ Z
 try dsimp only at hp
 try dsimp only at hlt
 obtain⟨iv,hiv⟩:=eqv ((p:Int)-1);rw[<-hiv]at Z;refine a7 (a6 [10,5,0,1] [] Z fun X2 Z=>?_);apply b7 Z rfl<;>intro hb Z
 .have hin:2<=p:=by
   have:(0:Int)<iv:=by subst O;simpa[std,d4]using hb
   omega
  have e1:std.toNat iv=p-1:=by show iv.toNat=p-1;omega
  have e2:std.arith .sub .i64 iv 1=(p:Int)-2:=by show IntKind.i64.wrap (iv-1)=_;rw[o8 (by omega) (by omega)];omega
  have e3:std.toNat (std.arith .sub .i64 iv 1)=p-2:=by rw[e2];show((p:Int)-2).toNat=p-2;omega
  have S:=Il (f (std.toNat iv)) (f (std.toNat (std.arith .sub .i64 iv 1)));obtain⟨z,hz⟩:=eqv (dm (f (p-1)).key (f (p-2)).key);have hz2:dm (f (std.toNat iv)).key (f (std.toNat (std.arith .sub .i64 iv 1))).key=z:=by rw[hz,e1,e3]
  rw[hz2]at S;refine f8 (a7 (j1 (a7 (drg O a8 [24,5,0,1] [] [(10,.r fun _=>.int .i64 z)] Z (hob:=?hob) fun X4 _ _ Z=>?_))))
  case hob=>
   intro X;subst O
   repeat(first|exact trivial|refine⟨rfl,?_⟩|refine⟨(show(0:Int)<=iv/\iv<(n:Int)by omega),?_⟩|refine⟨(show(0:Int)<=std.arith .sub .i64 iv 1/\std.arith .sub .i64 iv 1<(n:Int)by rw[e2];omega),?_⟩|refine⟨⟨fun _ _=>by kernel_rfl,S⟩,?_⟩)
  apply b7 Z rfl<;>intro hb Z
  .have hlt2:(f (p-1)).key<(f (p-2)).key:=by
    have h5:z<0:=by subst O;simpa[std,d4]using hb
    rw[hz]at h5;unfold dm at h5;split at h5;assumption;split at h5<;>omega
   have hW:tL n f=false:=by unfold tL;rw[List.all_eq_false];refine⟨p-2,List.mem_range.2 (by omega),?_⟩;rw[show p-2+1=p-1 by omega];simpa using hlt2
   refine a6 [4] [] Z fun X5 Z=>?_
   refine z7 Z ?_;subst O;rw[hW];exact Sim.bool rfl
  have hge:¬(f (p-1)).key<(f (p-2)).key:=by
   have h5:¬z<0:=by subst O;simpa[std,d4]using hb
   rw[hz]at h5;unfold dm at h5;intro h6;rw[if_pos h6]at h5;exact h5 (by decide)
  refine f8 (j5 [5,0,1] [] Z fun X3 Z=>?_);have e:B.arith .sub .i64 iv 1=((p-1:Nat):Int)-1:=by subst O;show IntKind.i64.wrap (iv-1)=_;rw[o8 (by omega) (by omega)];omega
  refine⟨p-1,⟨by omega,fun t h1 h2=>?_⟩,by omega,by rw[<-e];exact Z⟩
  rcases Nat.lt_or_ge (t+1) p with h3|h3
  .have:t=p-2:=by omega
   subst this;rw[show p-2+1=p-1 by omega];exact hge
  exact hlt t h3 h2
 have hout:p<=1:=by
  have:¬(0:Int)<iv:=by subst O;simpa[std,d4]using hb
  omega
 have hW:tL n f=true:=by unfold tL;rw[List.all_eq_true];intro t ht;have h5:=List.mem_range.1 ht;exact decide_eq_true (hlt t (by omega) (by omega))
 refine j9 (a6 [4] [] Z fun X6 Z=>?_);refine z7 Z ?_;subst O;rw[hW];exact Sim.bool rfl
theorem Ks{l:Lab}(h:chE l 0=0):isL l=true/\l.len≠64/\∀b,chV l b=u7 l b:=by
 have hc:∀b,chE l b=0:=fun b=>h
 refine⟨?_,?_,fun b=>by unfold chV;rw[if_pos (hc b)]⟩
 .cases hl:isL l with
  |true=>rfl
  |false=>unfold chE at h;rw[hl,if_pos rfl]at h;cases h
 intro h64;unfold chE at h;simp only[h64,if_true]at h
 split at h<;>simp at h
theorem Mv{l:Lab}(hb:U64 l.bits)(h:chE l 0=0)(b:Int):isL (chV l b)=true/\U64 (chV l b).bits/\(chV l b).len=l.len+1:=by
 obtain⟨h1,h2,h3⟩:=Ks h;rw[h3];exact⟨bG h1 hb h2 b,dU h1 hb h2 b,rfl⟩
theorem FU(l:Lab)(its:List Itm):(G8 l its).length<=its.length:=List.length_filter_le _ _
theorem mD{q:Lab}(hl:isL q=true)(hb:U64 q.bits):u0 q:=by
 obtain⟨h1,h2,_⟩:=r8 hl;obtain⟨h3,h4⟩:=hb
 constructor
 .simp [Lit.wf,IntKind.min,IntKind.max,IntKind.signed,IntKind.bits];omega
 simp[Lit.wf,IntKind.min,IntKind.max,IntKind.signed,IntKind.bits];omega
theorem ig{g g':Option Nat}{k k':Nat}{f f':Nat->List AV}:Sim (.sl g none 0 0 k f) (.sl g' none 0 0 k' f'):=
 ⟨rfl,fun _=>rfl,fun _ _ _=>.sl _ _ _ _ _ _ (Nat.le_refl _) (Nat.zero_le _) (fun i hi=>absurd hi (Nat.not_lt_zero _)) (fun i hi=>absurd hi (Nat.not_lt_zero _)) (fun i hi=>absurd hi (Nat.not_lt_zero _)) (fun i hi=>absurd hi (Nat.not_lt_zero _)) (fun i hi=>absurd hi (Nat.not_lt_zero _))⟩
def RwN(n:Nat)(f:Nat->D4):Prop:=∀i,i<n->(f i).x.r.n<=1000000/\u0 (f i).lab/\U64 (f i).lab.bits/\U64 (f i).x.r.nx.bits
structure KM(B:Nat)(w w':World):Prop where
 os:w'.os=w.os
 tape:w'.tape=w.tape
 output:w'.output=w.output
 size:B<=w'.heap.size
 block:∀k,k<B->w'.heap[k]? = w.heap[k]?
def xi(B n:Nat)(f:Nat->Itm)(w:World)(e:Ending)(w':World):Prop:=∃A m c,e = .returned (.slice A m c)/\decide (m<n)=uM n f/\m<=n/\KM B w w'
def uR(w:World)(B:Nat):World:={ w with heap:=w.heap.extract 0 B }
theorem fm{w:World}{B:Nat}(h:B<=w.heap.size):(uR w B).heap.size=B:=by
 simp[uR];omega
theorem Cf{w:World}{B k:Nat}(hk:k<B):(uR w B).heap[k]? = w.heap[k]?:=by
 simp[uR,Array.getElem?_extract];intro h;omega
theorem tY{w w':World}{B:Nat}(O:B<=w.heap.size){S:Nat->Prop}(hS:∀k,¬S k)(h:Chg S (uR w B) w'):KM B w w':=
 ⟨h.os,h.tape,h.output,by have:=h.size;rwa[fm O]at this,fun k hk=>by
  have:=h.block k (by rw[fm O];exact hk) (hS k);rw[this,Cf hk]⟩
abbrev eqF:AV:=.fn 73 [] []
theorem uv(x:Itm):∀v∈itC x,v.one=true:=by
 intro v hv;simp only[itC,List.mem_cons,List.not_mem_nil,or_false]at hv
 rcases hv with rfl|rfl<;>rfl
theorem HY{m:Nat->Nat->Prop}{w:World}{g:Option Nat}{A:Option Addr}{n c k i:Nat}{f:Nat->List AV}(h:Ok m w (.sl g A n c k f))(hi:i<=n):Ok m w (.sl none (R0 A c i k) (n-i) (c-i) k (fun t=>f (i+t))):=by
 cases h with
 |sl _ _ _ _ _ _ h1 h2 h3 h4 h5 h6 h7=>
  have hA:∀t,t<n-i->∃b off,A=some ⟨b,off,none⟩/\R0 A c i k=some ⟨b,off+i*k,none⟩:=by
   intro t ht;obtain⟨b,off,hA⟩:=h4 (i+t) (by omega);refine⟨b,off,hA,?_⟩;unfold R0;rw[if_neg (by omega),hA];simp[Addr.add]
  refine .sl _ _ _ _ _ _ (by omega) (by omega) (fun t ht=>h3 _ (by omega)) (fun t ht=>?_) (fun t ht j u hu=>?_) (fun t ht=>h6 _ (by omega)) (fun t ht=>h7 _ (by omega))
  .obtain ⟨b,off,_,h⟩:=hA t ht
   exact⟨b,_,h⟩
  obtain⟨b,off,hA1,hA2⟩:=hA t ht;obtain⟨b',off',e1,e2,e3⟩:=h5 (i+t) (by omega) j u hu;rw[hA1]at e1;injection e1 with e1;injection e1 with e4 e5
  subst e4;subst e5;have:off+i*k+(t*k+j)=off+((i+t)*k+j):=by rw[Nat.add_mul];omega
  exact⟨b,_,hA2,by rw[this];exact e2,by rw[this];exact e3⟩
section
variable {a:Act} {m:Nat->Nat->Prop} {w:World}
theorem qz:∀x,(look ([]:List (Nat×AV)) x).known=true->a.tmps[x]? = some (look ([]:List (Nat×AV)) x).den/\Ok m w (look ([]:List (Nat×AV)) x):=fun x h=>by cases h
theorem R7{k:Nat}{v:AV}{l:List (Nat×AV)}(h1:a.tmps[k]? = some v.den/\Ok m w v)(h2:∀x,(look l x).known=true->a.tmps[x]? = some (look l x).den/\Ok m w (look l x)):∀x,(look ((k,v)::l) x).known=true->a.tmps[x]? = some (look ((k,v)::l) x).den/\Ok m w (look ((k,v)::l) x):=by
 intro x hx;rw[B6]at hx ⊢
 by_cases h:k=x
 .subst h;rw[if_pos rfl];exact h1
 rw[if_neg h]at hx ⊢;exact h2 x hx
end
theorem eC{cs:Array Value}{zc:List AV}(h:cs.toList=zc.map AV.den):∀m,(Builtin.zeroCells cs m).toList=j6 (fun _=>zc) m
 |0=>by simp[Builtin.zeroCells,j6]
 |m+1=>by
  have ih:=eC h m;have hs:cs.size=zc.length:=by rw[<-Array.length_toList,h,List.length_map]
  rw[I3,<-ih,<-h];unfold Builtin.zeroCells;rw[Array.toList_map,Array.toList_map,Array.toList_range,Array.toList_range,Nat.add_mul,Nat.one_mul,List.range_add,List.map_append]
  congr 1
  apply List.ext_getElem
  .simp
  intro i h1 h2;have hi:i<cs.size:=by simpa using h2
  simp[Nat.mod_eq_of_lt hi,hi]
theorem ug{m0:Nat->Nat->Prop}{w0 w:World}{S:Nat->Prop}{ds:List Deferred}{K:Kn}{nt key:Nat}{l:List (Nat×AV)}{mem:List (Nat×Blk)}{a:Act}{P:Program}{Q:Exit->Act->World->Prop}{ops:Array Oper}{L rest:List Oper}{o:Oper}{cl:Call}{x:Operand}{A:Option Addr}{n c k e t bytes lo:Nat}{f:Nat->List AV}{g:Option Nat}{cells:Nat->List AV}{z:Value}{zc:List AV}(hL:L=o::rest)(hg:o.guard=none)(hop:o.op = .call cl)(hc1:cl.callee = .builtin .clear)(hc2:cl.args = #[x])(hc3:cl.argTypes = #[t])(hdst:o.dst=none)
  (h:i5 ⟨m0,w0,S,ds,K⟩ ⟨nt,l,[],mem,[(key,⟨A,n,c,k,e⟩)]⟩ a w) (hx:val ⟨nt,l,[],mem,[(key,⟨A,n,c,k,e⟩)]⟩ [] x = .sl none (R0 A c lo k) (n-lo) (c-lo) k cells) (E:cN P t e k bytes z) (hz:z.cells.toList=zc.map AV.den) (hz1:∀v∈zc,v.one=true) (hzl:zc.length=k) {m:Nat->Nat->Prop} (hrow:Ok m w (.sl g A n c k f)) (hk:∀j,j<n->(f j).length=k) (hlo:lo<n)
  (Kc:∀w',Own w' w0.heap.size e k (.slice A n c) n (j6 (D3 lo f (fun _=>zc)) n)->Chg (fun b=>B4 (.slice A n c)=some b) w w'->wpList P ops Q rest a w'):wpList P ops Q L a w:=by
 have hO:=uC h hrow;have hflen:=D8 hk;have hzf:=eC hz (n-lo);have hzfl:(j6 (fun _=>zc) (n-lo)).length=(n-lo)*k:=D8 (fun _ _=>hzl);have hmul:lo*k+(n-lo)*k=n*k:=by rw[<-Nat.add_mul];congr 1;omega
 obtain⟨b,cur,hA,hb,hcs,hnc,hob,hO2,hchg⟩:=vD hO (o:=lo*k) (vs:=j6 (fun _=>zc) (n-lo)) (by rw[hzfl];omega) (by omega);have hxv:=(E6 h (q:=[]) (fun _ h=>by cases h) (x:=x) (by rw[hx];rfl)).1;rw[hx]at hxv;have hcn:n<=c:=by cases hrow with|sl _ _ _ _ _ _ h1=>exact h1
 have hden:a.eval x = .slice (some ⟨b,lo*k,none⟩) (n-lo) (c-lo):=by
  rw[hxv];simp only[AV.den];unfold R0;rw[if_neg (by omega),hA];simp[Addr.add]
  try exact fun h=>h.symm
 have hrun:=pU (P:=P) (w:=w) E o.type hb (o:=lo*k) (len:=n-lo) (cap:=c-lo) (by rw[hcs];omega) (fun v hv=>by
  rw[hz]at hv;obtain⟨y,hy,rfl⟩:=List.mem_map.1 hv;exact qe (hz1 y hy))
 rw[hzf]at hrun;refine ap hL hg ?_;unfold Oper.wp;have e1:(execOp a.eval o).run P w = .ok (.value (.tuple #[])) (w.setRow b (cur.toList.take (lo*k)++j6 (fun _=>zc) (n-lo)++cur.toList.drop (lo*k+(n-lo)*k)).toArray):=by
  simp[execOp,hop,hc1,hc2,hc3,resolve,invoke,builtin,hden,hrun,Result.andThen]
 rw[e1];simp only[Oper.upon];rw[hdst];rw[hzfl]at hO2 hchg;refine Kc _ ?_ hchg;have hfl:j6 (D3 lo f (fun _=>zc)) n=(j6 f n).take (lo*k)++j6 (fun _=>zc) (n-lo)++(j6 f n).drop (lo*k+(n-lo)*k):=by
  rw[show j6 (D3 lo f (fun _=>zc)) n=j6 (D3 lo f (fun _=>zc)) (lo+(n-lo))by congr 1;omega,cz,List.drop_eq_nil_of_le (by rw[hflen];omega),List.append_nil]
  congr 1
  have:=cz f (fun i=>f (lo+i)) lo (n-lo);have e2:D3 lo f (fun i=>f (lo+i))=f:=by
   funext i
   unfold D3
   split
   .rfl
   show f (lo+(i-lo))=f i
   rw[show lo+(i-lo)=i by omega]
  rw[e2,show lo+(n-lo)=n by omega]at this;rw[this,List.take_append_of_le_length (by rw[D8 (fun i hi=>hk i (by omega))];omega),List.take_of_length_le (by rw[D8 (fun i hi=>hk i (by omega))];omega)]
 rw[hfl];exact hO2
theorem yQ{B n c:Nat}{A:Option Addr}{f:Nat->Itm}{w:World}(hO:Own w B 62 2 (.slice A n c) n (j6 (fun t=>itC (f t)) n))(hBw:B<=w.heap.size)(hn:n<=1000000)(hs:∀i,i<n->(f i).val.size<=maxLen) :
  Calls Tryz.prog 71 ([.sl (some 77) A n c 2 (fun t=>itC (f t)),eqF].map AV.den).toArray w (xi B n f w):=by
 have hmx:maxLen=9223372036854775807:=rfl;obtain⟨wB,hwB⟩:=eqv (uR w B);have hsz:wB.heap.size=B:=by rw[hwB];exact fm hBw
 have hitok:∀(m:Nat->Nat->Prop) (w:World) (x:Itm),x.val.size<=maxLen->∀v∈itC x,v.one=true/\Ok m w v:=fun m w x hx v hv=>by
  simp only[itC,List.mem_cons,List.not_mem_nil,or_false]at hv
  rcases hv with rfl|rfl
  .exact ⟨rfl,.int _ _⟩
  exact⟨rfl,.str _ hx⟩
 have hgrm:∀b,B4 (.slice A n c)=some b->∀o,o<n*2-> ¬mG (fun _ _=>False) [] [(77,⟨A,n,c,2,62⟩)] b o:=by
  intro b hb o ho hm
  rcases hm with hm|⟨k,e,he,_⟩|⟨k,t',ht,_,hle⟩
  .exact hm
  .cases he
  simp only[j7]at ht
  split at ht
  .injection ht with ht;subst ht;simp only at hle;omega
  cases ht
 have hrow:Ok (mG (fun _ _=>False) [] [(77,⟨A,n,c,2,62⟩)]) w (.sl (some 77) A n c 2 (fun t=>itC (f t))):=
  bL hO (fun _ _=>rfl) hgrm (fun i hi=>hitok _ _ _ (hs i hi)) _
 have hmem:Mem (fun _ _=>False) wB (fun _=>False) noK [] [(77,⟨A,n,c,2,62⟩)] w:=by
  refine⟨rfl,rfl,(fun t ht=>by cases ht),(fun t p v he=>by cases he),(fun k e he=>by cases he),(fun k k' e e' he=>by cases he),fun k t ht=>?_,(fun k t k' e _ he=>by cases he),fun k t k' t' b ht ht' hne=>?_,?_,fun b o h=>h.elim,trivial⟩
  .simp only[j7]at ht
   split at ht
   .injection ht with ht;subst ht
    exact⟨Nat.succ_pos 1,_,by show Own w wB.heap.size _ _ _ _ _;rw[hsz];exact hO⟩
   cases ht
  .simp only[j7]at ht ht'
   split at ht
   .split at ht'
    .rename_i h1 h2
     exact absurd (by simp at h1 h2;omega) hne
    cases ht'
   cases ht
  rw[hwB];exact⟨rfl,rfl,rfl,by show(uR w B).heap.size<=_;rw[fm hBw];exact hBw,fun k hk _=>by rw[Cf (by rw[fm hBw]at hk;exact hk)]⟩
 have hargs:∀v ∈ [AV.sl (some 77) A n c 2 (fun t=>itC (f t)),eqF],Ok (mT (fun _ _=>False) [] [(77,⟨A,n,c,2,62⟩)]) w v:=by
  intro v hv;simp only[List.mem_cons,List.not_mem_nil,or_false]at hv
  rcases hv with rfl|rfl
  .exact hrow
  exact .fn _ _ _ (fun v hv=>by cases hv) (fun v hv=>by cases hv)
 refine enI 66 hmem hargs Tryz.func71 fun B' O a0 Z=>?_
 refine a6 [0,1] [77] Z fun X0 Z=>?_
 refine a7 (a6 [10,0,1] [77] Z fun X1 Z=>?_);apply b7 Z rfl<;>intro hb Z
 .have hn2:n<2:=by
   have:(n:Int)<2:=by subst O;simpa[std,d4]using hb
   omega
  refine a6 [4] [77] Z fun X2 Z=>?_
  refine i8 (Ip (R:=xi B n f w) O a8 Z (fun hm' _=>⟨A,n,c,rfl,?_,Nat.le_refl _,tY hBw (fun _ h=>h) (by rw[<-hwB];exact hm'.chg)⟩)).1;rw[decide_eq_false (Nat.lt_irrefl _)];unfold uM;rw[show n-1=0 by omega];rfl
 have hn2:¬n<2:=by
  have:¬(n:Int)<2:=by subst O;simpa[std,d4]using hb
  omega
 refine f8 (a7 (a6 [5,0,1] [77] Z fun X2 Z=>?_));refine(j1 (l3 (ι:=Nat) (fun p=>[(5,.int .i64 (p:Int))]) (fun p=>[]) (fun p=>[]) (fun p=>1<=p/\p<=n/\∀t,t+1<p-> ¬(f (t+1)).key=(f t).key) (fun p=>n-p) 1 ⟨Nat.le_refl _,by omega,fun t ht=>absurd ht (by omega)⟩ Z ?_))
 rintro i ⟨hi1,hi,hlt⟩ a0 w1 Z
 refine a7 (a6 [15,5,0,1] [77] Z fun X3 Z=>?_);refine b7 Z rfl (fun hb2 Z=>?_) (fun hb2 Z=>?_)
 .have hin:i<n:=by
   have:(i:Int)<(n:Int):=by subst O;simpa[std,d4]using hb2
   omega
  have e2:std.arith .sub .i64 (i:Int) 1=((i-1:Nat):Int):=by show IntKind.i64.wrap ((i:Int)-1)=_;rw[o8 (by omega) (by omega)];omega
  have e3:std.toNat (std.arith .sub .i64 (i:Int) 1)=i-1:=by rw[e2];rfl
  have S:=BD (f i) (f (std.toNat (std.arith .sub .i64 (i:Int) 1)));obtain⟨q,hq⟩:=eqv (decide ((f i).key=(f (i-1)).key));have hq2:decide ((f i).key=(f (std.toNat (std.arith .sub .i64 (i:Int) 1))).key)=q:=by rw[hq,e3]
  rw[hq2]at S;refine f8 (a7 (j1 (a7 (drg O a8 [28,5,0,1] [77] [(10,.r fun _=>.bool (.v q))] Z (fun X4 a0 w1 Z=>?_) (hob:=?hob)))))
  case hob=>
   intro X;subst O
   repeat(first|exact trivial|refine⟨rfl,?_⟩|refine⟨(show(0:Int)<=(i:Int)/\(i:Int)<(n:Int)by omega),?_⟩|refine⟨(show(0:Int)<=std.arith .sub .i64 (i:Int) 1/\std.arith .sub .i64 (i:Int) 1<(n:Int)by rw[e2];omega),?_⟩|refine⟨⟨fun _ _=>by kernel_rfl,S⟩,?_⟩)
  refine b7 Z rfl (fun hb3 Z=>?_) (fun hb3 Z=>?_)
  .have hdup:uM n f=true:=by
    have h5:q=true:=by subst O;exact hb3
    rw[hq,decide_eq_true_eq]at h5;unfold uM;rw[List.any_eq_true];exact⟨i-1,List.mem_range.2 (by omega),by rw[show i-1+1=i by omega,decide_eq_true_eq];exact h5⟩
   refine a7 (rg O a8 [6,5,0,1] [77] [] Z (fun X5 a0 w1 Z=>?_));obtain⟨A6,hA6⟩:=eqv (R0 A c i 2);obtain⟨n6,hn6⟩:=eqv (n-i);obtain⟨c6,hc6⟩:=eqv (c-i);have Z:=Z.headS (v':=.sl none A6 n6 c6 2 (fun t=>itC (f (i+t)))) (by subst O;rw[hA6,hn6,hc6];exact zr) rfl;refine a7 (a6 [7,5,0,6,1] [77] Z fun X6 Z=>?_);refine j1 (iL (ι:=Nat×Nat×(Nat->Itm)) (fun p a w1=>i5 ⟨fun _ _=>False,wB,fun _=>False,[],noK⟩ ⟨66,[(7,.int .i64 (p.1:Int)),(5,.int .i64 (p.2.1:Int)),(0,.sl (some 77) A n c 2 (fun t=>itC (p.2.2 t))),(6,.sl none A6 n6 c6 2 (fun t=>itC (p.2.2 (i+t)))),(1,eqF)],[],[],[(77,⟨A,n,c,2,62⟩)]⟩ a w1) (fun p=>1<=p.1/\p.1<=n6/\i<=p.2.1/\p.2.1+1<=i+p.1/\∀t,t<n->(p.2.2 t).val.size<=maxLen) (fun p=>n6-p.1) (1,i,f) ⟨Nat.le_refl _,by omega,Nat.le_refl _,Nat.le_refl _,hs⟩ Z ?_)
   rintro⟨j,k,g⟩ ⟨hj1,hj,hk0,hk1,hsg⟩ a0 w1 Z
   dsimp only at hj1 hj hk0 hk1 hsg Z;obtain⟨gs,hgs⟩:∃x:Nat->Itm,x=fun t=>g (i+t):=⟨_,rfl⟩
   have egs:(fun t=>itC (g (i+t)))=fun t=>itC (gs t):=by rw[hgs]
   rw[egs]at Z;refine a7 (a6 [35,7,5,0,6,1] [77] Z fun X7 Z=>?_);refine b7 Z rfl (fun hb4 Z=>?_) (fun hb4 Z=>?_)
   .have hjn:j<n6:=by
     have:(j:Int)<(n6:Int):=by subst O;simpa[std,d4]using hb4
     omega
    have ej2:std.arith .sub .i64 (j:Int) 1=((j-1:Nat):Int):=by show IntKind.i64.wrap ((j:Int)-1)=_;rw[o8 (by omega) (by omega)];omega
    have ej3:std.toNat (std.arith .sub .i64 (j:Int) 1)=j-1:=by rw[ej2];rfl
    have S2:=BD (gs j) (gs (std.toNat (std.arith .sub .i64 (j:Int) 1)));obtain⟨q2,hq2⟩:=eqv (decide ((gs j).key=(gs (std.toNat (std.arith .sub .i64 (j:Int) 1))).key));rw[<-hq2]at S2;refine f8 (a7 (j1 (a7 (drg O a8 [49,7,5,0,6,1] [77] [(10,.r fun _=>.bool (.v q2))] Z (fun X8 a0 w1 Z=>?_) (hob:=?hob3)))))
    case hob3=>
     intro X;subst O
     repeat(first|exact trivial|refine⟨rfl,?_⟩|refine⟨(show(0:Int)<=(j:Int)/\(j:Int)<(n6:Int)by omega),?_⟩|refine⟨(show(0:Int)<=std.arith .sub .i64 (j:Int) 1/\std.arith .sub .i64 (j:Int) 1<(n6:Int)by rw[ej2];omega),?_⟩|refine⟨⟨fun _ _=>by kernel_rfl,S2⟩,?_⟩)
    have eJ:B'.arith .add .i64 (j:Int) 1=((j+1:Nat):Int):=by subst O;exact k4 (n:=n6) hjn (by omega)
    refine b7 Z rfl (fun hb5 Z=>?_) (fun hb5 Z=>?_)
    .refine a7 (wp_region_lit ?_)
     refine lpr 0 7 O a8 [56,55,7,5,0,6,1] [77] [] Z (fun X9 a0 w1 Z=>?_) (hob:=?hob4)
     case hob4=>
      intro X;subst O
      repeat(first|exact trivial|refine⟨rfl,?_⟩|refine⟨(show(0:Int)<=(j:Int)/\(j:Int)<(n6:Int)by omega),?_⟩|refine⟨(show(0:Int)<=(k:Int)/\(k:Int)<(n:Int)by omega),?_⟩)
     have hj6:j<n6:=hjn;have Z:=Z.headS (v':=.ep A k 2 0 (itC (g k))) (by subst O;exact zr) rfl;have hrowk:Ok _ w1 (.sl (some 77) A n c 2 (fun t=>itC (g t))):=(Z.slot 0 rfl).2;have Z:=Z.reslot 55 (.agg (itC (gs j))) rfl (by subst O;rfl) (.agg _ (fun v hv=>(hitok (fun _ _=>False) w1 (gs j) (by rw[hgs];exact hsg _ (by omega)) v hv).1) (fun v hv=>(hitok _ w1 (gs j) (by rw[hgs];exact hsg _ (by omega)) v hv).2));refine my rfl rfl rfl rfl Z rfl rfl (.inr rfl) a8 rfl rfl hrowk (fun _ _=>rfl) (show k<n by omega) (Nat.le_refl 2) (fun w2 hO2 hc2 _=>?_)
     obtain⟨g2,hg2⟩:∃x:Nat->Itm,x=fun t=>if t=k then gs j else g t:=⟨_,rfl⟩
     have efl:wrC (fun t=>itC (g t)) k 0 (itC (gs j))=fun t=>itC (g2 t):=by
      funext t
      rw[hg2];unfold wrC
      by_cases h:t=k
      .simp [h,itC]
      simp[h]
     have hO2:Own w2 wB.heap.size 62 2 (.slice A n c) n (j6 (fun t=>itC (g2 t)) n):=by rw[<-efl];exact hO2
     have hsg2:∀t,t<n->(g2 t).val.size<=maxLen:=fun t ht=>by
      rw[hg2];dsimp only
      split
      .rw [hgs];exact hsg _ (by omega)
      exact hsg t ht
     have hrow2:Ok (mG (fun _ _=>False) [] [(77,⟨A,n,c,2,62⟩)]) w2 (.sl (some 77) A n c 2 (fun t=>itC (g2 t))):=bL hO2 (fun _ _=>rfl) hgrm (fun i hi=>hitok _ _ _ (hsg2 i hi)) _;have hsub2:Ok (mG (fun _ _=>False) [] [(77,⟨A,n,c,2,62⟩)]) w2 (.sl none A6 n6 c6 2 (fun t=>itC (g2 (i+t)))):=by
      rw[hA6,hn6,hc6];exact HY hrow2 (by omega)
     have Z:=i5.rowset (K':=noK) (l':=[(7,.int .i64 (j:Int)),(5,.int .i64 (k:Int)),(0,.sl (some 77) A n c 2 (fun t=>itC (g2 t))),(6,.sl none A6 n6 c6 2 (fun t=>itC (g2 (i+t)))),(1,eqF)]) Z hc2 hO2 (R7 ⟨(Z.slot 7 rfl).1,.int _ _⟩ (R7 ⟨(Z.slot 5 rfl).1,.int _ _⟩ (R7 ⟨(Z.slot 0 rfl).1,hrow2⟩ (R7 ⟨(Z.slot 6 rfl).1,hsub2⟩ (R7 ⟨(Z.slot 1 rfl).1,.fn _ _ _ (fun v hv=>by cases hv) (fun v hv=>by cases hv)⟩ qz))))) (fun k e he=>by cases he) trivial;refine wpList_nil ?_;refine j5 [5,7,0,6,1] [77] Z fun X10 Z=>?_
     have eK:B'.arith .add .i64 (k:Int) 1=((k+1:Nat):Int):=by subst O;exact k4 (n:=n) (by omega) (by omega)
     refine j5 [7,5,0,6,1] [77] Z fun X11 Z=>?_
     exact⟨(j+1,k+1,g2),⟨by simp only;omega,by simp only;omega,by simp only;omega,by simp only;omega,hsg2⟩,by simp only;omega,by simp only;rw[<-eJ,<-eK];exact Z⟩
    refine f8 (j5 [7,5,0,6,1] [77] Z fun X9 Z=>?_);exact⟨(j+1,k,g),⟨by simp only;omega,by simp only;omega,hk0,by simp only;omega,hsg⟩,by simp only;omega,by simp only;rw[egs,<-eJ];exact Z⟩
   have hjn:j=n6:=by
    have:¬(j:Int)<(n6:Int):=by subst O;simpa[std,d4]using hb4
    omega
   refine j9 (a7 (wp_region_lit ?_));refine lpr 0 3 O a8 [61,5,0,1] [77] [] Z (fun X8 a0 w1 Z=>?_);have hrowk:Ok _ w1 (.sl (some 77) A n c 2 (fun t=>itC (g t))):=(Z.slot 0 rfl).2;have hkn:k<n:=by omega
   have Z:=Z.headS (v':=.sl none (R0 A c k 2) (n-k) (c-k) 2 (fun t=>itC (g (k+t)))) (by subst O;exact zr) rfl;refine ug (zc:=itC s7) rfl rfl rfl rfl rfl rfl rfl Z rfl Cl.etyI rfl (uv _) rfl hrowk (fun _ _=>rfl) hkn (fun w2 hO2 hc2=>?_);have hrow2:Ok (mG (fun _ _=>False) [] [(77,⟨A,n,c,2,62⟩)]) w2 (.sl (some 77) A n c 2 (D3 k (fun t=>itC (g t)) (fun _=>itC s7))):=bL (by rw[<-hsz]at *;exact hO2) (fun j hj=>by unfold D3;split<;>rfl) hgrm (fun j hj=>by
    unfold D3
    split
    .exact hitok _ _ _ (hsg j hj)
    exact hitok _ _ _ (Nat.zero_le _)) _
   have Z:=i5.rowset (K':=noK) (l':=[(0,.sl (some 77) A n c 2 (D3 k (fun t=>itC (g t)) (fun _=>itC s7))),(5,.int .i64 (k:Int))]) Z hc2 hO2 (R7 ⟨(Z.slot 0 rfl).1,hrow2⟩ (R7 ⟨(Z.slot 5 rfl).1,.int _ _⟩ qz)) (fun k e he=>by cases he) trivial;refine wpList_nil ?_;obtain⟨fz,hfz⟩:=eqv (D3 k (fun t=>itC (g t)) (fun _=>itC s7));rw[<-hfz]at Z;refine a6 [4] [77] Z fun X9 Z=>?_
   subst O;refine i8 (Ip (B:=std) (R:=xi B n f w) rfl a8 Z (fun hm' _=>⟨_,k,_,rfl,?_,by omega,tY hBw (fun _ h=>h) (by rw[<-hwB];exact hm'.chg)⟩)).1;rw[hdup,decide_eq_true (by omega)]
  have hbq:q=false:=by subst O;exact hb3
  have eI:B'.arith .add .i64 (i:Int) 1=((i+1:Nat):Int):=by subst O;exact k4 (n:=n) hin (by omega)
  refine f8 (j5 [5,0,1] [77] Z fun X5 Z=>?_);refine⟨i+1,⟨by omega,by omega,fun t ht=>?_⟩,by omega,by rw[<-eI];exact Z⟩
  rcases Nat.lt_or_ge (t+1) i with h5|h5
  .exact hlt t h5
  have:t=i-1:=by omega
  subst this;rw[show i-1+1=i by omega];rw[hq]at hbq;exact of_decide_eq_false hbq
 have hin:i=n:=by
  have:¬(i:Int)<(n:Int):=by subst O;simpa[std,d4]using hb2
  omega
 refine j9 (a6 [4] [77] Z fun X4 Z=>?_);refine i8 (Ip (R:=xi B n f w) O a8 Z (fun hm' _=>⟨A,n,c,rfl,?_,Nat.le_refl _,tY hBw (fun _ h=>h) (by rw[<-hwB];exact hm'.chg)⟩)).1;rw[decide_eq_false (Nat.lt_irrefl _)]
 symm
 unfold uM;rw[List.any_eq_false];intro t ht;have h5:=List.mem_range.1 ht;rw[decide_eq_true_eq];exact hlt t (by omega)
theorem og{α : Type}{l:Lab}{x y:α}:∀{L:List (Lab×α)},L4 l y (L4 l x L)=L4 l y L
 | []=>by simp[L4]
 |p::L=>by
  by_cases h:p.1=l
  .simp [L4,h]
  have:=og (l:=l) (x:=x) (y:=y) (L:=L);simp[L4,h,this]
def gC(g:Nat->Lab)(n:Nat):Nat->List (Lab×Lab)
 |0=>[]
 |i+1=>L4 (g i) (if i+1<n then g (i+1)else F1) (gC g n i)
theorem se(g:Nat->Lab)(n:Nat):∀i,(gC g n i).length<=i
 |0=>Nat.le_refl _
 |i+1=>by
  have:=se g n i;unfold gC;rw[kW]
  split<;>omega
theorem En(A:Option Addr)(n c:Nat)(g:Nat->Lab)(hn:n<=100000)(hN:∀i,i<n->u0 (g i)):P9 Tryz.prog 80 [ko A n c g] [] none noK (fun y=>⟨.raw (.map (some (y.c 0))),[],[]⟩) (fun N y=>lmF i6 N (y.c 0) (gC g n n)):=by
 intro m w hm hargs hpre hI;have hmx:maxLen=9223372036854775807:=rfl;have SNo:=ml;simp only[i6]at SNo;refine enM (bo:=none) 31 hm hpre hI hargs Tryz.func80 fun B O a0 Z=>?_
 refine a7 (rg O a8 [0] [] [] Z fun X0 a0 w1 Z=>?_);refine a7 (wp_region_lit (eY (k:=24) (e:=0) rfl rfl rfl rfl Z (Nat.le_of_ble_eq_true rfl) (lmK i6 w1.heap.size []) (fun m w' _ _ hM=>⟨_,LmD.empty hM⟩) ?_));obtain⟨bM,hbM⟩:=eqv (w1.heap.size);rw[<-hbM];intro a0 w1 hfresh Z;have hbfr:w.heap.size<=bM:=hfresh;refine lnd 1 O a8 [3,0] [] [] Z fun X1 a0 w1 Z=>?_
 refine a7 (a7 (rg O a8 [9,0,3,7,8] [] [] Z fun X2 a0 w1 Z=>?_));refine j1 (fF (ι:=Nat) (fun p=>lmK i6 bM (gC g n p)) (fun p=>[(9,.int .i64 (p:Int))]) (fun p=>[]) (fun p=>[]) (fun p=>p<=n) (fun p=>n-p) 0 (Nat.zero_le _) Z ?_)
 rintro i hi a0 w1 Z
 try dsimp only at hi
 replace Z:=Z.withK (K':=lmK i6 bM (gC g n i)) Z.kept;have hLn:=se g n i;have hLn2:(L4 (g i) F1 (gC g n i)).length<=i+1:=by rw[kW];split<;>omega
 refine a7 (rg O a8 [10,9,0,3,7,8] [] [] Z fun X3 a0 w1 Z=>?_);refine a7 (b7 Z rfl (fun hb Z=>?_) (fun hb Z=>?_))
 .have hin:i<n:=by
   have:(i:Int)<(n:Int):=by subst O;simpa[std,d4]using hb
   omega
  have hlab:=hN i hin;refine f8 (a7 (j1 (a7 ?_)));refine rg O a8 [4,5,9,0,3,7,8] [5] [] Z (hob:=by intro X;subst O;simp only[i7,Ob.holds,BE.den]<;>and_intros<;>repeat first|trivial|rfl|exact(show(0:Int)<=(i:Int)by omega)|exact(show(i:Int)<(n:Int)by omega)|exact(fun _ _=>by kernel_rfl)|refine⟨?_,?_⟩|intro h|exact Int.le_refl _|decide|omega) fun X4 a0 w1 Z=>?_
  replace Z:=Z.memS (cells':=aG (g i)) (by subst O;exact zl);refine a7 ?_;apply V4 O 3 none ?hH (by kernel_rfl) a8 [14,15,16,4,5,9,0,3,7,8] [5] [(2,.r fun _=>.agg [.int .i64 F1.len,.int .u64 F1.bits])] Z rfl
  case hH=>exact L5
  case hex=>intro A X;conv=>lhs;cbv
  case hD=>kernel_rfl
  case hZ=>kernel_rfl
  case hlen=>rfl
  case hob=>
   intro X;subst O;simp only[i7,Ob.holds,BE.den]<;>(and_intros<;>repeat first|trivial|rfl|exact fN|exact SNo|refine⟨?_,?_⟩|intro h)
  case hQ=>
  intro X5 a0 w1 Z;obtain⟨D2,hD2⟩:=Z.kept;refine K4 (k:=24) (e:=24) rfl rfl rfl rfl Z rfl rfl rfl rfl rfl dK mq hD2.map (by omega) (P6 hlab) (fun h=>absurd h (by omega)) (lmK i6 bM (L4 (g i) F1 (gC g n i))) (fun m w' hk hkb hv hM=>?_) ?_
  .exact qn (x:=F1) hD2.map hlab hk hkb (zr) hv hM
  intro w1 Z;replace Z:=Z.keep [4,5,9,0,3,7,8] [5];refine wpList_nil (a7 (rg O a8 [21,4,5,9,0,3,7,8] [5] [] Z fun X6 a0 w1 Z=>?_));apply b7 Z rfl<;>intro hb Z
  .have hlt:i+1<n:=by
    have h9:(IntKind.i64.wrap ((i:Int)+1))<(n:Int):=by subst O;simpa[std,d4,j0]using hb
    rw[o8 (by omega) (by omega)]at h9;omega
   apply V4 O 7 none ?hH (by kernel_rfl) a8 [22,23,28,9,0,3,7,8] [] [] Z rfl
   case hH=>exact L5
   case hex=>intro A X;conv=>lhs;cbv
   case hD=>kernel_rfl
   case hZ=>kernel_rfl
   case hlen=>rfl
   case hob=>
    intro X;subst O;have e2:std.arith .add .i64 (i:Int) 1=((i+1:Nat):Int):=by show IntKind.i64.wrap ((i:Int)+1)=_;rw[o8 (by omega) (by omega)];rfl
    have e3:0<=std.arith .add .i64 (i:Int) 1/\std.arith .add .i64 (i:Int) 1<(n:Int):=by rw[e2];omega
    repeat(first|exact trivial|refine⟨rfl,?_⟩|refine⟨e3,?_⟩)
   case hQ=>
   intro X7 a0 w1 Z;have e2:std.toNat (std.arith .add .i64 (i:Int) 1)=i+1:=by show(IntKind.i64.wrap ((i:Int)+1)).toNat=i+1;rw[o8 (by omega) (by omega)];rfl
   obtain⟨D2,hD2⟩:=Z.kept;refine K4 (k:=24) (e:=24) rfl rfl rfl rfl Z rfl rfl rfl rfl rfl dK mq hD2.map (by omega) (P6 hlab) (fun h=>absurd h (by omega)) (lmK i6 bM (L4 (g i) (g (i+1)) (L4 (g i) F1 (gC g n i)))) (fun m w' hk hkb hv hM=>?_) ?_
   .exact qn (x:=g (i+1)) hD2.map hlab hk hkb (by subst O;show Sim (.agg [.int .i64 (g (std.toNat (std.arith .add .i64 (i:Int) 1))).len,.int .u64 (g (std.toNat (std.arith .add .i64 (i:Int) 1))).bits]) _;rw[e2];exact zr) hv hM
   intro w1 Z;replace Z:=Z.keep [9,0,3,7,8] [];refine wpList_nil (rg O a8 [9,0,3,7,8] [] [] Z fun X8 a0 w1 Z=>?_);have e:B.arith .add .i64 (i:Int) 1=((i+1:Nat):Int):=by subst O;exact k4 (n:=n) hin (by omega)
   refine⟨i+1,by omega,by omega,?_⟩;rw[<-e];refine Z.withK ?_
   show(lmK i6 bM (gC g n (i+1))).p _ _
   unfold gC;rw[if_pos hlt,<-og (x:=F1)];exact Z.kept
  have hlt:¬i+1<n:=by
   have h9:¬(IntKind.i64.wrap ((i:Int)+1))<(n:Int):=by subst O;simpa[std,d4,j0]using hb
   rw[o8 (by omega) (by omega)]at h9;omega
  refine f8 (rg O a8 [9,0,3,7,8] [] [] Z fun X8 a0 w1 Z=>?_);have e:B.arith .add .i64 (i:Int) 1=((i+1:Nat):Int):=by subst O;exact k4 (n:=n) hin (by omega)
  refine⟨i+1,by omega,by omega,?_⟩;rw[<-e];refine Z.withK ?_
  show(lmK i6 bM (gC g n (i+1))).p _ _
  unfold gC;rw[if_neg hlt];exact Z.kept
 have hout:i=n:=by
  have:¬(i:Int)<(n:Int):=by subst O;simpa[std,d4]using hb
  omega
 subst hout;refine j9 (a7 (rg O a8 [2] [] [] Z fun X9 a0 w1 Z=>?_));refine i8 ((rm O a8 Z (⟨0,fun _=>none,fun _=>bM,fun _=>⟨#[]⟩⟩) [] (hJ:=?_)).1);exact fun _ _ h=>⟨hbfr,h⟩
def vV(l:List Itm):Rec:=⟨1,l,⟨0,0⟩,0⟩
def uy:Rec:=⟨2,[],F1,0⟩
def Q7(b:Int):Nat->List Itm->Lab->List (Lab×Rec)->Bool×List (Lab×Rec)
 |0,_,_,T=>(true,T)
 |n+1,l,q,T=>
  if 2000<=T.length then(false,T)
  else if(l.length:Int)<=b \/ q.len=64 then(true,L4 q (vV l) T)
  else if chE q 0=0 then
   (if(Q7 b n (G8 (chV q 0) l) (chV q 0) (L4 q uy T)).1=true then Q7 b n (G8 (chV q 1) l) (chV q 1) (Q7 b n (G8 (chV q 0) l) (chV q 0) (L4 q uy T)).2
    else(false,(Q7 b n (G8 (chV q 0) l) (chV q 0) (L4 q uy T)).2))
  else(true,L4 q uy T)
def gT(b:Int)(n:Nat)(l:List Itm)(q:Lab)(T:List (Lab×Rec)):Nat->List (Lab×Rec)
 |0=>L4 q uy T
 |i+1=>(Q7 b n (G8 (chV q (i:Nat)) l) (chV q (i:Nat)) (gT b n l q T i)).2
def gB(b:Int)(n:Nat)(l:List Itm)(q:Lab)(T:List (Lab×Rec))(i:Nat):Bool:=(Q7 b n (G8 (chV q (i:Nat)) l) (chV q (i:Nat)) (gT b n l q T i)).1
section
variable {b:Int} {n:Nat} {l:List Itm} {q:Lab} {T:List (Lab×Rec)}
theorem oK(h:2000<=T.length):Q7 b (n+1) l q T=(false,T):=by
 rw[Q7.eq_2];exact if_pos h
theorem oJ(h:¬2000<=T.length)(h1:(l.length:Int)<=b \/ q.len=64):Q7 b (n+1) l q T=(true,L4 q (vV l) T):=by
 rw[Q7.eq_2];exact(if_neg h).trans (if_pos h1)
theorem oI(h:¬2000<=T.length)(h1:¬((l.length:Int)<=b \/ q.len=64))(hc:¬chE q 0=0):Q7 b (n+1) l q T=(true,gT b n l q T 0):=by
 rw[Q7.eq_2];exact(if_neg h).trans ((if_neg h1).trans (if_neg hc))
theorem qB(h:¬2000<=T.length)(h1:¬((l.length:Int)<=b \/ q.len=64))(hc:chE q 0=0):Q7 b (n+1) l q T=if gB b n l q T 0=true then(gB b n l q T 1,gT b n l q T 2)else(false,gT b n l q T 1):=by
 rw[Q7.eq_2];exact(if_neg h).trans ((if_neg h1).trans (if_pos hc))
end
def jq(TA:List (Lab×RA)):List (Lab×Rec):=TA.map fun p=>(p.1,p.2.r.abs)
theorem tx{q:Lab}{x:RA}:∀{TA:List (Lab×RA)},jq (L4 q x TA)=L4 q x.r.abs (jq TA)
 | []=>rfl
 |p::TA=>by
  have ih:=tx (q:=q) (x:=x) (TA:=TA);unfold jq at ih ⊢
  by_cases h:p.1=q
  .simp [L4,h]
  simp[L4,h,ih]
theorem fq(TA:List (Lab×RA)):(jq TA).length=TA.length:=List.length_map _
def lmR(b:Nat)(T:List (Lab×Rec)):Kn:=⟨fun m w=>∃TA:List (Lab×RA),jq TA=T/\(lmK J7 b TA).p m w,fun k ⟨TA,h1,h2⟩=>⟨TA,h1,(lmK J7 b TA).st k h2⟩⟩
theorem vR{b n:Nat}{T:List (Lab×Rec)}(h:b≠n):(lmR b T).off n:=fun k ⟨TA,h1,h2⟩=>⟨TA,h1,vT h k h2⟩
theorem AU{b:Nat}{T:List (Lab×Rec)}:(lmR b T).self:=fun m w ⟨TA,h1,h2⟩ l hl _ _ _ _ k ⟨TA',h1',h2'⟩=>⟨TA',h1',vT (by have:=AW h2;omega) k h2'⟩
theorem vS{b:Nat}{T:List (Lab×Rec)}{m:Nat->Nat->Prop}{w:World}(h:(lmR b T).p m w):∃es cl,w.heap[b]? = some (.map es cl):=by
 obtain⟨TA,_,h⟩:=h;exact qo h
theorem vQ{b n:Nat}{T:List (Lab×Rec)}{D:DataW Value}{m:Nat->Nat->Prop}{w w':World}{q:Lab}(h0:Y0 Tryz.prog 24 w b n D)(hq:u0 q)(h:(lmR b T).p m w)(k:ae (some b) w m w' m){v:AV}{x:RA}(hs:Sim v (J7 x))(hv:Ok m w v)(hM:Y0 Tryz.prog 24 w' b (T.length+1) (D.put (K5 q) (.held v.den))):(lmR b (L4 q x.r.abs T)).p m w':=by
 obtain⟨TA,rfl,h⟩:=h;rw[fq]at hM;exact⟨L4 q x TA,tx,qn h0 hq h k hs hv hM⟩
theorem Cj{l:Lab}{its:List Itm}(h:∀x∈its,U64 x.key):∀i,i<(G8 l its).length->U64 (itF (G8 l its) i).key:=by
 intro i hi;have:itF (G8 l its) i∈G8 l its:=by
  unfold itF;rw[List.getD_eq_getElem?_getD,List.getElem?_eq_getElem hi];exact List.getElem_mem hi
 exact h _ (List.mem_filter.1 this).1
theorem uF{f:Nat->Itm}{n:Nat}{p:Itm->Prop}(h:∀i,i<n->p (f i)):∀x∈f5 f n,p x:=by
 intro x hx;unfold f5 at hx;obtain⟨i,hi,rfl⟩:=List.mem_map.1 hx;exact h i (List.mem_range.1 hi)
theorem Jf(bT:Nat)(b:Int):∀(n:Nat) (A:Option Addr) (ln c:Nat) (f:Nat->Itm) (q:Lab) (T:List (Lab×Rec)),ln<=1000000->(∀i,i<ln->U64 (f i).key)->U64 q.bits->isL q=true->65<=q.len+n->P9 Tryz.prog 76 [.raw (.map (some bT)),s4 A ln c f,i6 q,.int .i64 b] [] (some bT) (lmR bT T) (fun _=>⟨.bool (.v (Q7 b n (f5 f ln) q T).1),[],[]⟩) (fun _ _=>lmR bT (Q7 b n (f5 f ln) q T).2):=by
 intro n
 induction n with
 |zero=>
  intro A ln c f q T _ _ _ hl hn;have:=(r8 hl).2.1;exact absurd hn (by omega)
 |succ n ih=>
  intro A ln c f q T hln hki hb0 hl hn m w hm hargs hpre hI;have hmx:maxLen=9223372036854775807:=rfl;have hlq:u0 q:=mD hl hb0;have hmap0:=vS hI;have hbT:bT<w.heap.size:=by obtain⟨es,cl,h⟩:=hmap0;exact aC h
  obtain⟨G,hG⟩:=eqv (Q7 b (n+1) (f5 f ln) q T);rw[<-hG];simp only[s4,i6]at hargs ⊢
  show Calls _ _ _ w (xe (some bT) m w [] (fun _=>⟨.bool (.v G.1),[],[]⟩) (fun _=>lmR bT G.2))
  refine NA (bo:=some bT) 42 hm hpre hI hargs Tryz.func76 fun B O a0 Z=>?_
  refine P3 (Y1 (j5 [4,5,6,7,8] [4,5,6,7,8] Z fun X0 Z=>?_));refine P3 (Y1 (a7 (wp_region_lit ?_)));refine lpr 0 1 O a8 [10,4,5,6,7,8] [4,5,6,7,8] [] Z (fun X1 a0 w1 Z=>?_);obtain⟨TA,hTA,D,hD⟩:=Z.kept;have hTl:Maps.size D=T.length:=by rw[hD.size,<-hTA,fq]
  refine sq rfl rfl rfl rfl rfl rfl rfl Z (Nat.le_of_ble_eq_true rfl) rfl iH hD.map fun a0 Z=>?_
  rw[hTl]at Z;obtain⟨tn,htn⟩:=eqv (T.length);rw[<-htn]at Z;refine lnd 2 O a8 [12,4,5,6,7,8] [4,5,6,7,8] [] Z (fun X2 a0 w1 Z=>?_);have hhm:∀T',∀b',some bT=some b'->(∃es cl,w.heap[b']? = some (.map es cl))/\∀m w,(lmR bT T').p m w->∃es cl,w.heap[b']? = some (.map es cl):=fun T' b' hb'=>by cases hb';exact⟨hmap0,fun m w h=>vS h⟩
  apply b7 Z rfl<;>intro hb Z
  .have hfull:2000<=T.length:=by
    have:(2000:Int)<=(tn:Int):=by subst O;simpa[std,d4]using hb
    omega
   refine a6 [8] [8] Z fun X3 Z=>?_
   have hG:=hG.trans (oK hfull);refine i8 (rmM (res:=fun _=>⟨.bool (.v G.1),[],[]⟩) (J:=fun _=>lmR bT G.2) O a8 [] (Z.withK (K':=(lmR bT T).and (T6 [])) ⟨Z.kept,⟨fun D hD=>(by cases hD),List.nodup_nil⟩⟩) (fun D hD=>by cases hD) ⟨0,fun _=>none,fun _=>0,fun _=>.empty⟩ [] (hhm _) (he:=?he) (hJ:=by rw[hG];exact fun _ _ h=>h)).1
   case he=>rw[hG];subst O;exact Sim.bool rfl
  have hnf:¬2000<=T.length:=by
   have:¬(2000:Int)<=(tn:Int):=by subst O;simpa[std,d4]using hb
   omega
  refine f8 ?_;refine P3 (Y1 (a6 [21,4,5,6,7,8] [4,5,6,7,8] Z fun X3 Z=>?_));apply b7 Z rfl<;>intro hb Z
  .have h9:(if decide ((ln:Int)<=b)=true then true else decide (q.len=64))=true:=by subst O;exact hb
   have hlf:((f5 f ln).length:Int)<=b \/ q.len=64:=by
    rw[j2]
    by_cases h1:(ln:Int)<=b
    .exact .inl h1
    rw[decide_eq_false h1]at h9;exact .inr (by simpa using h9)
   have hG:=hG.trans (oJ hnf hlf);have SCl:=Cl.clone_sf A ln c f (by omega);simp only[s4]at SCl;have O1:=SCl;refine a7 (d3 5 O a8 [22,23,26,8] [8] [(3,.r fun y=>.sl none (y.A 0) ln (y.c 0) 2 (fun t=>itC (f t)))] Z fun X4 a0 w1 Z=>?_);obtain⟨TA2,hTA2,D2,hD2⟩:=Z.kept;have hT2:TA2.length=T.length:=by rw[<-hTA2,fq]
   refine K4 (k:=24) (e:=35) rfl rfl rfl rfl Z rfl rfl rfl rfl rfl dK iH hD2.map (by omega) (P6 hlq) (fun _=>.inr rfl) (lmR bT (L4 q (vV (f5 f ln)) T)) (fun m' w' hk hkb hv hM=>?_) ?_
   .have:=vQ (x:=⟨(X4 3).A 0,(X4 3).c 0,⟨ln,f,1,⟨0,0⟩,0⟩⟩) hD2.map hlq hk hkb ?_ hv (by rw[<-hT2];exact hM)
    .exact this
    exact Sim.agg ⟨zr,zr,zr,zr,zr,trivial⟩
   intro w1 Z;refine wpList_nil ?_;refine a6 [8] [8] Z fun X5 Z=>?_
   refine i8 (rmM (res:=fun _=>⟨.bool (.v G.1),[],[]⟩) (J:=fun _=>lmR bT G.2) O a8 [] (Z.withK (K':=(lmR bT (L4 q (vV (f5 f ln)) T)).and (T6 [])) ⟨Z.kept,⟨fun D hD=>(by cases hD),List.nodup_nil⟩⟩) (fun D hD=>by cases hD) ⟨0,fun _=>none,fun _=>0,fun _=>.empty⟩ [] (hhm _) (he:=?he) (hJ:=by rw[hG];exact fun _ _ h=>h)).1
   case he=>rw[hG];subst O;exact Sim.bool rfl
  have hnl:¬(((f5 f ln).length:Int)<=b \/ q.len=64):=by
   have h9:(if decide ((ln:Int)<=b)=true then true else decide (q.len=64))=false:=by subst O;exact hb
   rw[j2]
   rintro(h1|h1)<;>simp[h1]at h9
  refine f8 ?_;have SNo:=ml;simp only[i6]at SNo;have O1:=SNo;refine P3 (Y1 (d3 4 O a8 [27,28,30,4,5,6,7,8] [4,5,6,7,8] [(2,.r fun _=>.agg [.int .i64 F1.len,.int .u64 F1.bits])] Z fun X4 a0 w1 Z=>?_));obtain⟨TA2,hTA2,D2,hD2⟩:=Z.kept;have hT2:TA2.length=T.length:=by rw[<-hTA2,fq]
  refine K4 (k:=24) (e:=35) rfl rfl rfl rfl Z rfl rfl rfl rfl rfl dK iH hD2.map (by omega) (P6 hlq) (fun _=>.inr rfl) (lmR bT (gT b n (f5 f ln) q T 0)) (fun m' w' hk hkb hv hM=>?_) ?_
  .have:=vQ (x:=⟨none,0,⟨0,fun _=>s7,2,F1,0⟩⟩) hD2.map hlq hk hkb ?_ hv (by rw[<-hT2];exact hM)
   .exact this
   exact Sim.agg ⟨zr,ig,zr,zr,zr,trivial⟩
  intro w1 Z;refine wpList_nil ?_;replace Z:=Z.keep [6,5,7,4,8] [4,5,6,7,8];have SK:=IV q;simp only[i6]at SK;have O1:=SK;refine P3 (P3 (Y1 (f7 [32,4,5,6,7,8] [4,5,6,7,8] [(1,.r fun y=>.fn 159 [] [.ep (some ⟨y.b,0,none⟩) 0 0 0 [.int .i64 q.len,.int .u64 q.bits]])] Z fun X5 Z=>?_)));refine nV ?_;have hKu:=AU _ _ Z.kept;refine Iu Z rfl yD hKu (fun l D rc w1 hl hD hrc hD0 hsz ha hm1 hlb=>?_);subst hrc;obtain⟨memc,hmemc⟩:=eqv ([(4,(⟨(X0 0).b,125,[.raw (.map (some bT))]⟩:Blk)),(5,⟨(X0 1).b,33,[.sl none A ln c 2 (fun i=>itC (f i))]⟩),(6,⟨(X0 2).b,24,[.int .i64 q.len,.int .u64 q.bits]⟩),(7,⟨(X0 3).b,3,[.int .i64 b]⟩),(8,⟨(X0 4).b,4,[.bool .ff]⟩)]);refine(IW (l:=l) (D:=D) (ntc:=42) (p:=33) Tryz.func76 (by omega) (by omega) rfl rfl rfl (by decide) ⟨_,ha⟩ q hb0 (fun i K' mem gr=>(∀j,j<i->gB b n (f5 f ln) q T j=true)/\K'=lmR bT (gT b n (f5 f ln) q T i)/\mem=memc/\gr=[]) (fun cc K' mem gr=>cc = .ret/\∃i,i<2/\chE q 0=0/\(∀j,j<i->gB b n (f5 f ln) q T j=true)/\gB b n (f5 f ln) q T i=false/\K'=lmR bT (gT b n (f5 f ln) q T (i+1))/\mem=memc/\gr=[]) ?_ ⟨fun j hj=>absurd hj (Nat.not_lt_zero _),rfl,hmemc.symm,rfl⟩ (hKu.off (by omega)) hm1 (hlb _ (by simp))).mono ?_
  .intro i hi hce E hE hE2 K' mem gr a w2 ⟨hgb,hK',hmem,hgr⟩ hoff Z
   subst hK' hmem hgr;obtain⟨hc1,hc2,hc3⟩:=Mv hb0 hce (i:Nat);obtain⟨cl,hcl⟩:=eqv (chV q (i:Nat));rw[<-hcl]at hc1 hc2 hc3 Z;simp only[i6]at Z;rw[hmemc]at Z;refine rrg O a8 [9,4,5,6,7,8] [9,4,5,6,7,8] [] Z fun X6 a0 w1 Z=>?_
   refine⟨42,_,_,_,Z,fun w2 Z=>?_⟩;have SCV:=HS A ln c f (by omega) cl hc2 hki;have hcln:=FU cl (f5 f ln);have hcvk:=Cj (l:=cl) (uF (p:=fun x=>U64 x.key) hki);rw[j2]at hcln;obtain⟨CV,hCV⟩:=eqv (G8 cl (f5 f ln));rw[<-hCV]at SCV hcln hcvk;obtain⟨cf,hcf⟩:=eqv (itF CV);obtain⟨cn,hcn⟩:=eqv (CV.length);have hfc:f5 cf cn=CV:=by rw[hcf,hcn,ku]
   rw[<-hcf,<-hcn]at SCV hcvk;rw[<-hcn]at hcln;simp only[s4,i6]at SCV;refine wpIn_block (wpIn_seq (rd3 6 O a8 [34,37,38,39,8] [4,5,6,7,8] [(3,.r fun x=>.sl none (x.A 0) cn (x.c 0) 2 (fun i=>itC (cf i)))] Z (fun X7 a0 w1 Z=>?_) (hob:=?hob)))
   case hob=>
    intro X;subst O
    repeat(first|exact trivial|refine⟨⟨fun _ _=>by kernel_rfl,SCV⟩,?_⟩|refine⟨rfl,?_⟩)
   have IH:=ih ((X7 3).A 0) cn ((X7 3).c 0) cf cl (gT b n (f5 f ln) q T i) (by omega) hcvk hc2 hc1 (by omega);have hgBi:(Q7 b n (f5 cf cn) cl (gT b n (f5 f ln) q T i)).1=gB b n (f5 f ln) q T i:=by rw[hfc,hCV,hcl];rfl
   have hgTi:(Q7 b n (f5 cf cn) cl (gT b n (f5 f ln) q T i)).2=gT b n (f5 f ln) q T (i+1):=by rw[hfc,hCV,hcl];rfl
   rw[hgBi,hgTi]at IH;obtain⟨gb,hgbb⟩:=eqv (gB b n (f5 f ln) q T i);rw[<-hgbb]at IH;simp only[s4,i6]at IH;refine ui rfl rfl rfl rfl Z rfl rfl (fun _ _=>by kernel_rfl) IH (by omega) (by omega) (hE2 _) (fun _=>.inr rfl) (zl) rfl (fun x a0 w1 Z=>?_);refine lnd 7 O a8 [41,8] [4,5,6,7,8] [] Z (fun X8 a0 w1 Z=>?_);have hoff2:∀T',(lmR bT T').off l:=fun T'=>vR (by omega)
   refine cO Z rfl (fun hb Z=>?_) (fun hb Z=>?_)
   .have hgf:gB b n (f5 f ln) q T i=false:=by rw[<-hgbb];subst O;cases gb<;>first|rfl|cases hb
    refine wpIn_seq (rrg O a8 [] [4,5,6,7,8] [] Z fun X9 a0 w1 Z=>?_);refine wpIn_ret ?_;exact⟨lmR bT (gT b n (f5 f ln) q T (i+1)),_,[],⟨rfl,i,hi,hce,hgb,hgf,rfl,hmemc.symm,rfl⟩,hoff2 _,Z.bare⟩
   have hgt:gB b n (f5 f ln) q T i=true:=by rw[<-hgbb];subst O;cases gb<;>first|rfl|cases hb
   refine wpIn_skip ?_;refine⟨lmR bT (gT b n (f5 f ln) q T (i+1)),_,[],⟨fun j hj=>?_,rfl,hmemc.symm,rfl⟩,hoff2 _,Z.bare⟩
   rcases Nat.lt_or_ge j i with h1|h1
   .exact hgb j h1
   rw[show j=i by omega];exact hgt
  rintro e w3 ⟨v,rfl,K',mem',gr',ho,hh⟩
  have hDo:∀T',∀D' ∈ [D],(lmR bT T').off D'/\w.heap.size<=D':=fun T' D' hD'=>by
   simp only[List.mem_singleton]at hD';subst hD';exact⟨vR (by omega),hD0⟩
  rcases hh with⟨hm',hgb,rfl,rfl,rfl⟩|⟨cc,⟨rfl,i,hi,hce,hgb,hgf,rfl,rfl,rfl⟩,hm'⟩
  .refine ⟨v,rfl,_,_,_,ho,.inl ⟨hm',fun a' w' Z=>?_⟩⟩
   rw[hmemc]at Z;refine Y1 (a6 [8] [8] Z fun X9 Z=>?_);have hGe:G=(true,gT b n (f5 f ln) q T (if chE q 0=0 then 2 else 0)):=by
    by_cases hce:chE q 0=0
    .rw [if_pos hce]at hgb ⊢
     rw[hG,qB hnf hnl hce,if_pos (hgb 0 (by decide)),hgb 1 (by decide)]
    rw[if_neg hce];rw[hG,oI hnf hnl hce]
   refine i8 (rmM (res:=fun _=>⟨.bool (.v G.1),[],[]⟩) (J:=fun _=>lmR bT G.2) O a8 [D] Z (hDo _) ⟨0,fun _=>none,fun _=>0,fun _=>.empty⟩ [] (hhm _) (he:=?he) (hJ:=by rw[hGe];exact fun _ _ h=>h)).1
   case he=>rw[hGe];subst O;exact Sim.bool rfl
  refine⟨v,rfl,_,_,_,ho,.inr ⟨.ret,hm',fun a' w' Z=>?_⟩⟩;rw[hmemc]at Z;have hGe:G=(false,gT b n (f5 f ln) q T (i+1)):=by
   rw[hG,qB hnf hnl hce]
   rcases i with _|_|i
   .rw [if_neg (by rw[hgf];decide)]
   .rw [if_pos (hgb 0 (by decide)),hgf]
   omega
  refine i8 (rmM (res:=fun _=>⟨.bool (.v G.1),[],[]⟩) (J:=fun _=>lmR bT G.2) O a8 [D] (Z.keep [8] [8]) (hDo _) ⟨0,fun _=>none,fun _=>0,fun _=>.empty⟩ [] (hhm _) (he:=?he2) (hJ:=by rw[hGe];exact fun _ _ h=>h)).1
  case he2=>rw[hGe];subst O;exact Sim.bool rfl
section
variable {P:Program} {fn:FuncId} {Q:Exit->Act->World->Prop} {C:Cx} {nt t:Nat} {b:Bool} {l:List (Nat×AV)} {mem:List (Nat×Blk)} {gr:List (Nat×Gr)} {a:Act} {w:World} {x y:Code}
end
section
variable {α : Type} {el:α->AV} {D:DataW Value} {b r:Nat} {L:List (Lab×α)} {left:Lit->Bool} {cnt:Nat} {m m':Nat->Nat->Prop} {w w':World}
def rgK(el:α->AV)(D:DataW Value)(b r:Nat)(L:List (Lab×α))(left:Lit->Bool)(cnt:Nat):Kn:=⟨fun m w=>LmD el D b L m w/\w.ranges Tryz.prog 24 hR b r L.length D left cnt,fun k h=>⟨h.1.keep k,eS k h.2⟩⟩
def spK(el:α->AV)(D:DataW Value)(b r:Nat)(L:List (Lab×α))(left:Lit->Bool)(bb:Bool)(key v:Value)(kl:Lit)(cnt:Nat):Kn:=⟨fun m w=>LmD el D b L m w/\(bb=true->w.ranges Tryz.prog 24 hR b r L.length D (fun x=>left x && !x.sameKey kl) cnt/\ec Tryz.prog w r key v),fun k h=>⟨h.1.keep k,fun hb=>⟨eS k (h.2 hb).1,na k (h.2 hb).2⟩⟩⟩
def etK(el:α->AV)(D:DataW Value)(b r:Nat)(L:List (Lab×α))(left:Lit->Bool)(key v:Value)(cnt:Nat):Kn:=⟨fun m w=>LmD el D b L m w/\w.ranges Tryz.prog 24 hR b r L.length D left cnt/\ec Tryz.prog w r key v,fun k h=>⟨h.1.keep k,eS k h.2.1,na k h.2.2⟩⟩
theorem LmD.entry(h:LmD el D b L m w){key v:Value}{kl:Lit}(hk:Go.keyOf Tryz.prog 24 key=some kl)(hh:Maps.has D kl=true)(ha:∀zd,D.atKey kl zd = .held v):∃p∈L,K5 p.1=kl/\key=(i6 p.1).den/\v=(el p.2).den:=by
 obtain⟨p,hp,he⟩:=(h.has kl).1 hh;refine⟨p,hp,he,?_,?_⟩
 .exact dK.inj hk (he ▸ P6 (h.labs p hp))
 have h1:=h.at_ p hp (.held v);rw[he,ha]at h1;injection h1
theorem fa(l:Lab):(K5 l).sameKey (K5 l)=true:=by simp[K5,Lit.sameKey]
theorem oD{l l':Lab}(h:u0 l)(h':u0 l'):(K5 l).sameKey (K5 l')=decide (l=l'):=by
 by_cases he:l=l'
 .subst he;rw[fa,decide_eq_true rfl]
 rw[decide_eq_false he];have:K5 l≠K5 l':=fun e=>he (fe h h' e)
 unfold K5 at this ⊢;simp only[Lit.sameKey]
 simpa using this
end
def nxP(l:List Lab)(q:Lab):Lab:=(Z7 q (gC (cX l) l.length l.length)).getD ⟨0,0⟩
theorem uo{l:List Rw}{p:Lab->Prop}(h:∀w∈l,p w.lab):∀i,i<(L7 l).length->p (cX (L7 l) i):=by
 intro i hi;have hm:cX (L7 l) i∈L7 l:=by
  unfold cX;rw[List.getD_eq_getElem?_getD,List.getElem?_eq_getElem hi];exact List.getElem_mem hi
 have h2:cX (L7 l) i∈eh l:=(gj _).mem_iff.1 hm;unfold eh at h2;obtain⟨w,hw,he⟩:=List.mem_map.1 h2;rw[<-he];exact h w (List.mem_filter.1 hw).1
section
variable {K:Kn} {P:Program} {T:List (Nat×TI)} {a:Act} {w:World} {m:Nat->Nat->Prop} {w0:World} {fn:Func} {rs:List ResultVar} {r:List AV×List Ob} {B:Alg} {nt:Nat} {tm:List (Nat×AV)} {mem:List (Nat×Blk)} {gr:List (Nat×Gr)}
end
def ldK{α : Type}(el:α->AV)(D:DataW Value)(b:Nat)(L:List (Lab×α)):Kn:=⟨LmD el D b L,fun k h=>h.keep k⟩
theorem zq(w:World):(zeroValue 24).run Tryz.prog w = .ok (i6 ⟨0,0⟩).den w:=by kernel_rfl
theorem pk(m:Nat->Nat->Prop)(w:World)(q:Lab):Ok m w (i6 q):=by
 unfold i6;exact .agg _ (by intro v hv;simp only[List.mem_cons,List.not_mem_nil,or_false]at hv;rcases hv with rfl|rfl<;>rfl) (by intro v hv;simp only[List.mem_cons,List.not_mem_nil,or_false]at hv;rcases hv with rfl|rfl<;>exact .int _ _)
def pP(p:Lab×Rec):Rw:=⟨p.1,1,p.2⟩
def qx(p:Lab×Rec):List (Lab×Rec)->List (Lab×Rec)
 | []=>[p]
 |q::l=>if M5 p.1 q.1=true then p::q::l else q::qx p l
def lP(l:List (Lab×Rec)):List (Lab×Rec):=l.foldl (fun o x=>qx x o) []
def leE(a b:Lab×Rec):Prop:=leL a.1 b.1
theorem jK(x:Lab×Rec):∀l:List (Lab×Rec),(qx x l).Perm (x::l)
 | []=>List.Perm.refl _
 |y::l=>by
  unfold qx
  split
  .exact List.Perm.refl _
  exact(List.Perm.cons _ (jK x l)).trans (List.Perm.swap _ _ _)
theorem kt(x:Lab×Rec):∀{l:List (Lab×Rec)},l.Pairwise leE->(qx x l).Pairwise leE
 | [],_=>List.pairwise_singleton _ _
 |y::l,h=>by
  have h':=List.pairwise_cons.1 h;unfold qx
  split
  .rename_i hx
   refine List.pairwise_cons.2 ⟨fun z hz=>?_,h⟩
   rcases List.mem_cons.1 hz with rfl|hz
   .exact lh hx
   exact oB (lh hx) (h'.1 z hz)
  rename_i hx
  refine List.pairwise_cons.2 ⟨fun z hz=>?_,kt x h'.2⟩
  rcases List.mem_cons.1 ((jK x l).mem_iff.1 hz)with rfl|hz
  .exact (Bool.not_eq_true _).mp hx
  exact h'.1 z hz
theorem rJ(l:List (Lab×Rec)):∀(o:List (Lab×Rec)),(l.foldl (fun o x=>qx x o) o).Perm (l++o)/\(o.Pairwise leE->(l.foldl (fun o x=>qx x o) o).Pairwise leE):=by
 induction l with
 |nil=>exact fun o=>⟨List.Perm.refl _,id⟩
 |cons x l ih=>
  intro o;obtain⟨h1,h2⟩:=ih (qx x o);exact⟨h1.trans (((jK x o).append_left l).trans List.perm_middle),fun ho=>h2 (kt x ho)⟩
theorem lO(l:List (Lab×Rec)):(lP l).Perm l:=by
 have:=(rJ l []).1
 rwa[List.append_nil]at this
theorem pN(l:List (Lab×Rec)):(lP l).Pairwise leE:=(rJ l []).2 .nil
def yt(NX:Lab->Lab)(w:Rw):Rw:=if w.r.kind=1 then { w with r:={ w.r with next:=NX w.lab } }else w
def wt(n:Nat)(f:Nat->Itm)(b:Int):Bool×List (Lab×Rec):=Q7 b 65 (f5 f n) ⟨0,0⟩ []
def qU(n:Nat)(f:Nat->Itm)(b:Int):Int:=
 if b<1 \/ b>16 \/ AB n f=true \/ tL n f=false \/ uM n f=true then 1 else if 500<n then 2 else if(wt n f b).1=true then 0 else 2
def tp(n:Nat)(f:Nat->Itm)(b:Int):List Rw:=(lP (wt n f b).2).map pP
def eB(n:Nat)(f:Nat->Itm)(b:Int):List Rw:=if qU n f b=0 then(tp n f b).map (yt (nxP (L7 (tp n f b))))else []
theorem mR{left:Lit->Bool}{p:Lab×RA}:∀{L:List (Lab×RA)},(L.map (·.1)).Nodup->(∀q∈L,u0 q.1)->p∈L->left (K5 p.1)=true →
  (L.filter fun q=>left (K5 q.1)).Perm (p::L.filter fun q=>left (K5 q.1) && !(K5 q.1).sameKey (K5 p.1))
 |q::L,hr,hl,hp,h1=>by
  have hr':=List.nodup_cons.1 hr
  rcases List.mem_cons.1 hp with rfl|hp
  .rw [List.filter_cons,if_pos h1,List.filter_cons,fa]
   simp only[Bool.not_true,Bool.and_false,Bool.false_eq_true,if_false];refine List.Perm.cons _ ?_;have:∀q∈L,(left (K5 q.1))=(left (K5 q.1) && !(K5 q.1).sameKey (K5 p.1)):=by
    intro q hq;rw[oD (hl q (by simp[hq])) (hl p (by simp)),decide_eq_false (fun e=>hr'.1 (List.mem_map.2 ⟨q,hq,e⟩))];simp
   rw[List.filter_congr this]
  have hne:q.1≠p.1:=fun e=>hr'.1 (List.mem_map.2 ⟨p,hp,e.symm⟩)
  have ih:=mR hr'.2 (fun q hq=>hl q (by simp[hq])) hp h1;rw[List.filter_cons,List.filter_cons,oD (hl q (by simp)) (hl p (by simp[hp])),decide_eq_false hne];simp only[Bool.not_false,Bool.and_true]
  split
  .exact (List.Perm.cons _ ih).trans (List.Perm.swap _ _ _)
  exact ih
def rwA(p:Lab×RA):D4:=⟨p.1,1,p.2⟩
theorem yU{TA:List (Lab×RA)}(hnd:(TA.map (·.1)).Nodup){h h':Nat->D4}{k:Nat}(hp:(J8 h k).Perm (TA.map fun p=>(rwA p).abs))(hp':((List.range k).map h').Perm ((List.range k).map h))(hs:∀i j,i<j->j<k->ei (h' j).lab (h' i).lab=false):J8 h' k=(lP (jq TA)).map pP:=by
 have e1:(TA.map fun p=>(rwA p).abs)=(jq TA).map pP:=by unfold jq;rw[List.map_map];rfl
 have hperm:(J8 h' k).Perm ((lP (jq TA)).map pP):=by
  refine List.Perm.trans ?_ (hp.trans (by rw[e1];exact((lO (jq TA)).map pP).symm));have:=hp'.map D4.abs;simp only[List.map_map]at this;exact this
 have hlabs:((jq TA).map pP).map (·.lab)=TA.map (·.1):=by unfold jq;rw[List.map_map,List.map_map];rfl
 have hnd2:(((lP (jq TA)).map pP).map (·.lab)).Nodup:=by
  have:=((lO (jq TA)).map pP).map (·.lab);exact this.nodup_iff.2 (by rw[hlabs];exact hnd)
 refine List.Perm.eq_of_pairwise (le:=fun a b:Rw=>leL a.lab b.lab) ?_ ?_ ?_ hperm
 .intro a b ha hb h1 h2
  have hl:a.lab=b.lab:=sB h1 h2;have ha':=hperm.mem_iff.1 ha;have key:∀{l:List Rw},(l.map (·.lab)).Nodup->∀{a b:Rw},a∈l->b∈l->a.lab=b.lab->a=b:=by
   intro l
   induction l with
   |nil=>intro _ a b ha;cases ha
   |cons x l ih=>
    intro hn a b ha hb hab;have hn':=List.nodup_cons.1 hn
    rcases List.mem_cons.1 ha with hax|hax
    .rcases List.mem_cons.1 hb with hbx|hbx
     .rw [hax,hbx]
     exact(hn'.1 (List.mem_map.2 ⟨b,hbx,by rw[<-hab,hax]⟩)).elim
    rcases List.mem_cons.1 hb with hbx|hbx
    .exact (hn'.1 (List.mem_map.2 ⟨a,hax,by rw[hab,hbx]⟩)).elim
    exact ih hn'.2 hax hbx hab
  exact key hnd2 ha' hb hl
 .rw [List.pairwise_iff_getElem]
  intro i j hi hj hij;have hj':j<k:=by rw[V7]at hj;exact hj
  have hi':i<k:=by omega
  have e:∀t (g:t<(J8 h' k).length),t<k->(J8 h' k)[t]=(h' t).abs:=by
   intro t g ht;have:=oz D4.abs h' ht;rw[List.getElem?_eq_getElem g]at this;exact Option.some.inj this
  rw[e i hi hi',e j hj hj']
  show M5 (h' j).lab (h' i).lab=false
  rw[<-sC];exact hs i j hij hj'
 rw[List.pairwise_map];exact pN _
theorem vO{C:Cx}{P:Program}{Q:Exit->Act->World->Prop}{ops:Array Oper}{s:St}{a:Act}{w:World}{L rest:List Oper}{o:Oper}{cl:Call}{g:Operand}{f:FuncId}{l r args:List AV}{d:Nat}(hL:L=o::rest)(hg:o.guard=none)(hop:o.op = .call cl)(hcal:cl.callee = .value g)(hdst:o.dst=some d)(h:i5 C s a w)(hgv:val s [] g = .fn f l r)(hl:Y3 s [] cl.args.toList=some args)(hen:l8 P f)
  (R:Value->World->Prop) (hc:Calls P f ((l++args++r).map AV.den).toArray w fun e w'=>∃v,e = .returned v/\R v w') (K:∀v w',R v w'->wpList P ops Q rest (a.put (some d) v) w'):wpList P ops Q L a w:=by
 refine ap hL hg ?_;obtain⟨hrun,_⟩:=jn hop hcal h hgv hl hen;unfold Oper.wp;rw[hrun];simp only[Oper.upon];refine hc.mono ?_
 rintro e w' ⟨v,rfl,h1⟩
 rw[hdst];exact K v w' h1
theorem k9.args'{P:Program}{f:FuncId}{args args':List AV}{res:j8->AV}(h:k9 P f args' res)(hs:G3 args args'):k9 P f args res:=by
 intro m w hm ha;rw[hs.map];exact h m w hm (hs.ok ha)
theorem yR(A:Option Addr)(n c:Nat)(f:Nat->Itm)(hn:n<=1000000){m:Nat->Nat->Prop}{w:World}(hok:Ok m w (s4 A n c f)):Calls Tryz.prog 72 ([s4 A n c f].map AV.den).toArray w fun e w'=>∃v,e = .returned v/\∃A' c',v = .slice A' n c'/\Own w' w.heap.size 62 2 (.slice A' n c') n (j6 (fun t=>itC (f t)) n)/\Below w.heap.size w w':=by
 have hsim:Sim (s4 A n c f) (s4 A (f5 f n).length c (itF (f5 f n))):=Sim.resl (j2 f n).symm fun t ht=>by rw[j2]at ht;rw[u6 f n t ht]
 have hr:=Cl.its_reads (hsim.2.2 _ _ hok);have:=Cl.clone_c w A c (f5 f n) hr (by rw[j2];omega);rw[j2]at this;refine this.mono ?_
 rintro e w' ⟨v,rfl,hO,hb⟩
 obtain⟨A',c',rfl,_,_⟩:=hO.isSlice;rw[j2]at hO;refine⟨_,rfl,A',c',by rw[j2],?_,hb⟩;unfold ve at hO;rw[j2]at hO;have e:j6 (fun t=>itC (f t)) n=(f5 f n).flatMap Cl.itmE:=by
  have:=Cl.rowFlat_its (f5 f n);rw[j2]at this;rw[<-this];unfold j6;rw[List.flatMap_def,List.flatMap_def]
  congr 1
  apply List.map_congr_left;intro t ht
  show(itC (f t)).map AV.den=(itC (itF (f5 f n) t)).map AV.den
  rw[u6 f n t (List.mem_range.1 ht)]
 rw[e];exact hO
theorem Hg:∀k,¬ats ([]:List (Nat×Blk)) k:=fun k ⟨e,he,_⟩=>by cases he
theorem LA{m0:Nat->Nat->Prop}{mem:List (Nat×Blk)}{gr:List (Nat×Gr)}{nt:Nat}{tm:List (Nat×AV)}{w w1:World}{S:Nat->Prop}{ds:List Deferred}{K K':Kn}(h:K.p (mT m0 mem gr) w):K.p (St.m ⟨nt,tm,[],[],[]⟩ ⟨mT m0 mem gr,w1,S,ds,K'⟩) w:=
 K.st ⟨fun b o u h1 h2=>⟨h1,fun h=>by
  rcases h with h|⟨k,e,he,_⟩|⟨k,t,ht,_⟩
  .exact h2 h
  .cases he
  cases ht⟩,fun _ _ h _=>h⟩ h
theorem mO{b:Int}:∀(n:Nat) (l:List Itm) (q:Lab) (T:List (Lab×Rec)),T.length<=2000->(Q7 b n l q T).2.length<=2000
 |0,l,q,T,h=>h
 |n+1,l,q,T,h=>by
  by_cases h1:2000<=T.length
  .rw [oK h1];exact h
  have hs:∀r,(L4 q r T).length<=2000:=fun r=>by rw[kW];split<;>omega
  by_cases h2:(l.length:Int)<=b \/ q.len=64
  .rw [oJ h1 h2];exact hs _
  by_cases hc:chE q 0=0
  .have e1:(gT b n l q T 1).length<=2000:=mO n _ _ _ (hs uy)
   have e2:(gT b n l q T 2).length<=2000:=mO n _ _ _ e1;rw[qB h1 h2 hc]
   split
   .exact e2
   exact e1
  rw[oI h1 h2 hc];exact hs uy
theorem vF{m0:Nat->Nat->Prop}{w0 w w':World}{S:Nat->Prop}{ds:List Deferred}{K:Kn}{nt key:Nat}{t:Gr}{l:List (Nat×AV)}{mem:List (Nat×Blk)}{a:Act}(h:i5 ⟨m0,w0,S,ds,K⟩ ⟨nt,l,[],mem,[(key,t)]⟩ a w)(hS:∀k,¬S k)(hc:Chg (fun x=>B4 t.v=some x) w w'){v:AV}(hv:Ok m0 w0 v):Ok (mG m0 mem [(key,t)]) w' v:=by
 refine hv.mono fun b o u hcell hn=>?_
 have hlt:=World.block_lt_of_cell? w0 _ hcell;have hown:B4 t.v≠some b:=by
  intro hb;obtain⟨_,xs,ho⟩:=h.gr key t (by simp[j7]);exact absurd hlt (Nat.not_lt.2 (ho.lt b hb).1)
 refine⟨?_,?_⟩
 .have e1:=h.chg.block b hlt (hS b)
  have e2:=hc.block b (Nat.lt_of_lt_of_le hlt h.chg.size) hown;unfold World.cell? at hcell ⊢;rw[e2,e1];exact hcell
 rintro(h1|⟨k,e,he,h1⟩|⟨k,t',ht,hb,_⟩)
 .exact hn h1
 .subst h1
  rcases(h.mem k e he).2.2 with h2|h2
  .exact absurd hlt (Nat.not_lt.2 h2)
  exact hS _ h2
 obtain⟨_,xs,ho⟩:=h.gr k t' ht;exact absurd hlt (Nat.not_lt.2 (ho.lt b hb).1)
theorem Ez{bN:Nat}{NX:List (Lab×Lab)}{m m':Nat->Nat->Prop}{w w':World}(h:(lmK i6 bN NX).p m w)(he:w'.heap[bN]? = w.heap[bN]?):(lmK i6 bN NX).p m' w':=by
 obtain⟨D,hD⟩:=h;exact⟨D,ow hD.map he,hD.nd,hD.labs,hD.has,hD.size,hD.at_,fun p hp=>pk _ _ _⟩
theorem dC{m:Nat->Nat->Prop}{w:World}{x:RA}(h:Ok m w (J7 x))(l:Lab)(v:Int):∀u∈J2 ⟨l,v,x⟩,u.one=true/\Ok m w u:=by
 cases h with
 |agg _ h1 h2=>
  intro u hu;simp only[J2,List.mem_cons,List.not_mem_nil,or_false]at hu
  rcases hu with rfl|rfl|rfl|rfl|rfl|rfl|rfl|rfl
  .exact ⟨rfl,.int _ _⟩
  .exact ⟨rfl,.int _ _⟩
  .exact ⟨rfl,.int _ _⟩
  .exact ⟨rfl,.int _ _⟩
  .exact ⟨h1 _ (by simp[nL]),h2 _ (by simp[nL])⟩
  .exact ⟨rfl,.int _ _⟩
  .exact ⟨rfl,.int _ _⟩
  exact⟨rfl,.int _ _⟩
def kL(NX:Lab->Lab)(r:D4):D4:=if r.x.r.kd=1 then⟨r.lab,r.ver,⟨r.x.A,r.x.c,{ r.x.r with nx:=NX r.lab }⟩⟩else r
theorem Bx(NX:Lab->Lab)(r:D4):(kL NX r).abs=yt NX r.abs:=by
 unfold kL yt
 by_cases h:r.x.r.kd=1
 .rw [if_pos h,if_pos (show r.abs.r.kind=1 from h)];rfl
 rw[if_neg h,if_neg (show ¬r.abs.r.kind=1 from h)]
theorem Ge(A:Option Addr)(n c:Nat)(f:Nat->Itm)(hn:n<=1000000)(hki:∀i,i<n->U64 (f i).key)(b:Int):k9 Tryz.prog 29 [s4 A n c f,.int .i64 b] (fun y=>.tup [cP (y.A 0) (eB n f b).length (y.c 0) (lS y (eB n f b)),.int .i64 (qU n f b)]):=by
 intro m w hm hargs;have hmx:maxLen=9223372036854775807:=rfl;have hok:=hargs (s4 A n c f) (by simp);have hvs:∀i,i<n->(f i).val.size<=maxLen:=fun i hi=>by
  have:=vG hok hi (.str (f i).val) (by simp[itC])
  cases this;assumption
 have SO:=Kj A n c f hn;have SS:=Ia A n c f hn;obtain⟨od,hod⟩:=eqv (AB n f);obtain⟨sr,hsr⟩:=eqv (tL n f);obtain⟨du,hdu⟩:=eqv (uM n f);rw[<-hod]at SO;rw[<-hsr]at SS;unfold s4 at hargs SO SS;refine en 95 hm hargs Tryz.func29 fun B O a0 Z=>?_
 refine a7 (rg O a8 [0,1] [] [] Z fun X0 a0 w1 Z=>?_);refine a7 (rg O a8 [6,0,1] [] [] Z fun X1 a0 w1 Z=>?_);refine a7 (rg O a8 [7,6,0,1] [] [] Z fun X2 a0 w1 Z=>?_);refine a7 (wp_region_lit ?_);refine lpr 0 1 O a8 [16,7,6,0,1] [] [] Z (fun X3 a0 w1 Z=>?_);refine vO rfl rfl rfl rfl rfl Z rfl rfl (fun _ _=>by kernel_rfl) _ (yR A n c f hn (Z.slot 16 rfl).2) ?_
 rintro v w2 ⟨A2,c2,rfl,hO2,hb2⟩
 have hF2:=(Z.below hb2).put (some 17) (fun t ht=>by injection ht with ht;subst ht;exact Nat.le_of_ble_eq_true rfl) (.raw (.slice A2 n c2)) (fun _=>.raw _) _ fun _=>rfl
 have hcc:=yQ hO2 hb2.size hn hvs;refine vO (R:=fun v w'=>∃A m c,v = .slice A m c/\decide (m<n)=du/\KM w1.heap.size w2 w') rfl rfl rfl rfl rfl hF2 rfl rfl (fun _ _=>by kernel_rfl) (hcc.mono ?_) ?_
 .rintro e w' ⟨A3,m3,c3,rfl,h1,h2,h3⟩
  exact⟨_,rfl,A3,m3,c3,rfl,by rw[hdu];exact h1,h3⟩
 rintro v w3 ⟨A3,m3,c3,rfl,hm3,hold⟩
 have hb3:Below w1.heap.size w1 w3:=⟨hold.os.trans hb2.os,hold.tape.trans hb2.tape,hold.output.trans hb2.output,hold.size,fun k hk=>(hold.block k hk).trans (hb2.block k hk)⟩;have hF3:=(Z.below hb3).put (some 17) (fun t ht=>by injection ht with ht;subst ht;exact Nat.le_of_ble_eq_true rfl) (.raw (.slice A2 n c2)) (fun _=>.raw _) (.slice A2 n c2) fun _=>rfl
 have hF3:=hF3.put (some 18) (fun t ht=>by injection ht with ht;subst ht;exact Nat.le_of_ble_eq_true rfl) (.raw (.slice A3 m3 c3)) (fun _=>.raw _) (.slice A3 m3 c3) fun _=>rfl
 refine iI (v:=.int .i64 (m3:Int)) rfl rfl rfl hF3 (Nat.le_of_ble_eq_true rfl) ?_ (.int _ _) fun a0 Z=>?_
 .have h18:=(hF3.slot 18 rfl).1
  have hu:Tryz.prog.underlying 33=some (.slice 62):=by kernel_rfl
  have h18':=(E6 hF3 (q:=[]) (fun _ h=>by cases h) (x:=.tmp 18) rfl).1;have h18'':Act.eval ((a0.put (some 17) (.slice A2 n c2)).put (some 18) (.slice A3 m3 c3)) (.tmp 18) = .slice A3 m3 c3:=h18';simp[execOp,resolve,invoke,builtin,Builtin.len_,h18'',AV.den,run_underlying hu,goInt]
 refine lnd 4 O a8 [8,7,6,0,1] [] [] Z (fun X4 a0 w1 Z=>?_);have Z:=Z.headS (v':=.bool (.v du)) (by subst O;exact Sim.bool (by rw[<-hm3];show decide ((m3:Int)<(n:Int))=decide (m3<n);rw[decide_eq_decide];omega)) rfl
 have O1:=SO;have O2:=SS;refine a7 (j1 (a7 (rg O a8 [23,0,1] [] [(9,.r fun _=>.bool (.v od)),(14,.r fun _=>.bool (.v sr))] Z (fun X5 a0 w1 Z=>?_) (hob:=?hob))))
 case hob=>
  intro X;subst O
  repeat(first|exact trivial|refine⟨rfl,?_⟩|refine⟨fun _=>rfl,?_⟩|refine⟨fun _=>⟨fun _ _=>by kernel_rfl,SO⟩,?_⟩|refine⟨fun _=>⟨fun _ _=>by kernel_rfl,SS⟩,?_⟩)
 refine b7 Z rfl (fun hbA Z=>?_) (fun hbA Z=>?_)
 .have h9:(if(if(if(if decide (b<1)=true then true else decide (b>16))=true then true else od)=true then true else !sr)=true then true else du)=true:=by subst O;exact hbA
  have hE:qU n f b=1:=by
   unfold qU;rw[if_pos];rw[<-hod,<-hsr,<-hdu]
   by_cases g1:b<1
   .exact .inl g1
   by_cases g2:b>16
   .exact .inr (.inl g2)
   cases od
   .cases sr
    .exact .inr (.inr (.inr (.inl rfl)))
    cases du
    .simp [g1,g2]at h9
    exact .inr (.inr (.inr (.inr rfl)))
   exact .inr (.inr (.inl rfl))
  refine a7 (rg O a8 [4,5] [4] [] Z fun X6 a0 w1 Z=>?_);refine i8 (rsi O a8 Z ⟨0,fun _=>none,fun _=>0,fun _=>.empty⟩ (he:=?_));subst O;rw[show eB n f b=[]by unfold eB;rw[hE];rfl,hE];exact Sim.tup ⟨ig,zr,trivial⟩
 have hE0:qU n f b=if 500<n then 2 else if(wt n f b).1=true then 0 else 2:=by
  have h9:(if(if(if(if decide (b<1)=true then true else decide (b>16))=true then true else od)=true then true else !sr)=true then true else du)=false:=by subst O;exact hbA
  unfold qU;rw[if_neg];rw[<-hod,<-hsr,<-hdu]
  rintro(g|g|g|g|g)<;>simp[g]at h9
 refine a7 (rg O a8 [44,0,1] [] [] Z fun X6 a0 w1 Z=>?_);refine b7 Z rfl (fun hbB Z=>?_) (fun hbB Z=>?_)
 .have hbig:500<n:=by
   have:(500:Int)<(n:Int):=by subst O;simpa[std,d4]using hbB
   omega
  rw[if_pos hbig]at hE0;refine a7 (rg O a8 [4,5] [4] [] Z fun X7 a0 w1 Z=>?_);refine i8 (rsi O a8 Z ⟨0,fun _=>none,fun _=>0,fun _=>.empty⟩ (he:=?_));subst O;rw[show eB n f b=[]by unfold eB;rw[hE0];rfl,hE0];exact Sim.tup ⟨ig,zr,trivial⟩
 have hsml:¬500<n:=by
  have:¬(500:Int)<(n:Int):=by subst O;simpa[std,d4]using hbB
  omega
 rw[if_neg hsml]at hE0;refine f8 (a7 (wp_region_lit ?_));refine eY (k:=24) (e:=0) rfl rfl rfl rfl Z (Nat.le_of_ble_eq_true rfl) (lmR w1.heap.size []) (fun m w' _ _ hM=>⟨[],rfl,_,LmD.empty hM⟩) ?_;obtain⟨bT,hbT⟩:=eqv (w1.heap.size);rw[<-hbT];intro a0 w1 hfresh Z;have hbfr:w.heap.size<=bT:=hfresh;refine lnd 1 O a8 [9,0,1] [] [] Z (fun X7 a0 w1 Z=>?_);refine a7 (a7 (wp_region_lit ?_));refine lpr 0 4 O a8 [49,50,51,52,9] [] [] Z (fun X8 a0 w1 Z=>?_);have hGM:=Jf bT b 65 A n c f ⟨0,0⟩ [] hn hki ⟨by decide,by decide⟩ (by decide) (by decide);obtain⟨gp,hgp⟩:=eqv (wt n f b);rw[show Q7 b 65 (f5 f n) ⟨0,0⟩ []=gp from hgp.symm]at hGM;simp only[s4,i6]at hGM;refine I8 rfl rfl rfl rfl Z rfl rfl (fun _ _=>by kernel_rfl) hGM (fun _ _ h=>h) (fun b' hb'=>by cases hb';exact fun h=>absurd h (Nat.not_lt.2 hbfr)) (zl) (fun e he=>by cases he) rfl rfl (fun _=>lmR bT gp.2) (fun _ _ _ _ _ _ _ _ _ h=>h) ?_;intro y a0 w1 Z;obtain⟨gb,hgb⟩:=eqv (gp.1);rw[<-hgb]at Z;refine lnd 5 O a8 [54,9] [] [] Z (fun X9 a0 w1 Z=>?_);refine b7 Z rfl (fun hbC Z=>?_) (fun hbC Z=>?_)
 .have hgf:gb=false:=by subst O;cases gb<;>first|rfl|cases hbC
  have hE:qU n f b=2:=by rw[hE0,<-hgp,<-hgb,hgf];rfl
  refine a7 (rg O a8 [4,5] [4] [] Z fun X10 a0 w1 Z=>?_);refine i8 (rsi O a8 Z ⟨0,fun _=>none,fun _=>0,fun _=>.empty⟩ (he:=?_));subst O;rw[show eB n f b=[]by unfold eB;rw[hE];rfl,hE];exact Sim.tup ⟨ig,zr,trivial⟩
 have hgt:gb=true:=by subst O;cases gb<;>first|rfl|cases hbC
 have hE:qU n f b=0:=by rw[hE0,<-hgp,<-hgb,hgt];rfl
 have hR:eB n f b=(tp n f b).map (yt (nxP (L7 (tp n f b)))):=by unfold eB;rw[if_pos hE]
 have h0:tp n f b=(lP gp.2).map pP:=by unfold tp;rw[<-hgp]
 rw[hE,hR];refine f8 ?_
 -- from here on: a stretch of its own
 obtain⟨wi,hwi⟩:=eqv (w1);have hMi:Mem m w (fun _=>False) noK [] [] wi:=by rw[hwi];exact(Z.withK (K':=noK) trivial).bare
 obtain⟨TA,hTA,D,hD⟩:=Z.kept;have hFs:=(tO Z).withK (K':=ldK J7 D bT TA) (LA (K:=ldK J7 D bT TA) hD);rw[<-hwi]at hFs hD ⊢;obtain⟨mS,hmS⟩:=eqv (mT m [] []);have hokT:∀p∈TA,Ok mS wi (J7 p.2):=fun p hp=>by rw[hmS];exact hD.ok p hp
 have hrets:∀{fn:Func} {nt0:Nat} {tm0:List (Nat×AV)} {R:Ending->World->Prop},True:=fun {_ _ _ _}=>trivial
 replace Z:=hFs;rw[<-hmS]at Z;have hlabs:∀p∈TA,u0 p.1:=hD.labs
 have hnd:=hD.nd;have hmapT:∃es cl,wi.heap[bT]? = some (.map es cl):=by obtain⟨es,cl,h,_⟩:=hD.map;exact⟨es,cl,h⟩
 refine a7 (rg O a8 [10,9] [10] [] Z fun X10 a0 w1 Z=>?_);refine a7 (a7 (wp_region_lit ?_));refine lpr 0 1 O a8 [55,10] [10] [] Z (fun X11 a0 w1 Z=>?_);obtain⟨rr,hrr⟩:=eqv (w1.heap.size);refine xV rfl rfl rfl rfl Z (Nat.le_of_ble_eq_true rfl) rfl dK iH Z.kept.map (rgK J7 D bT rr TA (Maps.has D) (Maps.size D)) (fun m w' h1 h2 h3=>⟨h1.keep h2,by rw[hrr];exact h3⟩) ?_;rw[<-hrr];intro a0 w1 hfr Z;refine wpList_nil ?_;replace Z:=Z.keep [10,56] [10];have hbTr:bT≠rr:=by
  obtain⟨es,cl,h⟩:=hmapT;have:=aC h;omega
 have Z:=Z.headS (v':=.sl (some 10) none 0 0 8 (fun t=>J2 zn)) (zq0) rfl;refine j1 (iL (ι:=Nat×(Nat->D4)×Option Addr×Nat×(Lit->Bool)×Nat) (fun p a w1=>i5 ⟨mS,wi,ats [],[],rgK J7 D bT rr TA p.2.2.2.2.1 p.2.2.2.2.2⟩ ⟨95,[(10,.sl (some 10) p.2.2.1 p.1 p.2.2.2.1 8 (fun t=>J2 (p.2.1 t))),(56,.raw (.pointer (some ⟨rr,0,none⟩)))],[],[],[(10,⟨p.2.2.1,p.1,p.2.2.2.1,8,92⟩)]⟩ a w1) (fun p=>(∀kl,p.2.2.2.2.1 kl=true->Maps.has D kl=true)/\(J8 p.2.1 p.1++(TA.filter fun q=>p.2.2.2.2.1 (K5 q.1)).map fun q=>(rwA q).abs).Perm (TA.map fun q=>(rwA q).abs)/\∀t,t<p.1->∃q∈TA,p.2.1 t=rwA q) (fun p=>p.2.2.2.2.2) (0,fun _=>zn,none,0,Maps.has D,Maps.size D) ⟨fun _ h=>h,by
  have:TA.filter (fun q=>Maps.has D (K5 q.1))=TA:=List.filter_eq_self.2 fun q hq=>(hD.has _).2 ⟨q,hq,rfl⟩
  simp only[this];exact List.Perm.refl _,fun t ht=>absurd ht (Nat.not_lt_zero _)⟩ Z ?_)
 rintro⟨k1,h,A1,c1,left,cnt⟩ ⟨hlft,hprm,hels⟩ a0 w1 Z
 dsimp only at hlft hprm hels Z;have hTl:TA.length<=2000:=by
  have:=mO (b:=b) 65 (f5 f n) ⟨0,0⟩ [] (Nat.zero_le _);have e:gp.2=(Q7 b 65 (f5 f n) ⟨0,0⟩ []).2:=by rw[hgp];rfl
  rw[<-e,<-hTA,fq]at this;exact this
 have hk1:k1<=TA.length:=by
  have h9:=hprm.length_eq;simp only[List.length_append,V7,List.length_map]at h9;omega
 refine a7 (wp_region_lit ?_);refine xW rfl rfl rfl rfl Z (Nat.le_of_ble_eq_true rfl) rfl dK Z.kept.2 (fun h=>absurd h (Nat.not_lt.2 hfr)) (spK J7 D bT rr TA left) (fun m h _=>⟨h.1,fun h=>by cases h⟩) (fun key v kl cnt' m w' h1 h2 h3 h4=>⟨h1.1.keepB h2 (fun e=>hbTr (by injection e with e;exact e.symm)),fun _=>⟨h3,h4⟩⟩) ?_;intro a0 w1 bb rest' key v kl cnt' hn0 hn1 Z;refine lnd 1 O a8 [58,10,56] [10] [] Z (fun X12 a0 w1 Z=>?_);refine a7 (b7 Z rfl (fun hbD Z=>?_) (fun hbD Z=>?_))
 .have hbb:bb=true:=by subst O;exact hbD
  obtain⟨hnx1,hnx2,hnx3,hnx4⟩:=hn1 hbb;replace Z:=Z.withK (K':=etK J7 D bT rr TA (fun x=>left x && !x.sameKey kl) key v cnt') ⟨Z.kept.1,Z.kept.2 hbb⟩;refine f8 (j1 (a7 (wp_region_lit ?_)));obtain⟨⟨q,el⟩,hp,hpk,hpkey,hpv⟩:=Z.kept.1.entry hnx1 (hlft _ hnx2) hnx3;dsimp only at hpk hpkey hpv;have hent:=Z.kept.2.2;rw[hpkey,hpv]at hent;have hok:=Z.kept.1.ok _ hp;refine xX rfl rfl rfl rfl Z (Nat.le_of_ble_eq_true rfl) rfl hent (pk _ _ q) hok ?_;intro a0 Z;simp only[i6]at Z;replace Z:=Z.withK (K':=rgK J7 D bT rr TA (fun x=>left x && !x.sameKey kl) cnt') ⟨Z.kept.1,Z.kept.2.1⟩;refine lnd 1 O a8 [11,12,10,56] [11,12,10] [] Z (fun X13 a0 w1 Z=>?_);refine rg O a8 [10,56] [10] [] Z (fun X14 a0 w1 Z=>?_) (hob:=?hob2)
  case hob2=>
   intro X;subst O
   repeat(first|exact trivial|refine⟨⟨rfl,rfl,rfl⟩,?_⟩|refine⟨rfl,?_⟩|refine⟨⟨show k1+1<=maxLen by omega,show(k1+1)*_<=_ by omega⟩,?_⟩)
  obtain⟨h2,hh2⟩:∃x:Nat->D4,x=fun t=>if t=k1 then rwA (q,el)else h t:=⟨_,rfl⟩
  have Z:=Z.headS (v':=.sl (some 10) ((X14 5).A 0) (B.nadd k1 1) ((X14 5).c 0) 8 (fun t=>J2 (h2 t))) (Sim.resl rfl (fun t ht=>by
   subst O;have ht2:t<k1+1:=ht
   show D3 k1 (fun t=>J2 (h t)) (C9 8 (J2 (rwA (q,el)))) t=_
   rw[hh2];unfold D3;dsimp only
   split
   .rw [if_neg (by omega)]
   have:t=k1:=by omega
   subst this;rw[if_pos rfl];simp[C9])) rfl
  refine⟨(k1+1,h2,_,_,(fun x=>left x && !x.sameKey kl),cnt'),⟨fun x hx=>?_,?_,fun t ht=>?_⟩,hnx4,by rw[show k1+1=B.nadd k1 1 by subst O;rfl];exact Z⟩
  .simp only[Bool.and_eq_true]at hx
   exact hlft _ hx.1
  .have h9:=(mR (left:=left) hnd hlabs hp (by rw[hpk];exact hnx2)).map fun q=>(rwA q).abs
   rw[hpk]at h9;have e9:J8 h2 (k1+1)=J8 h k1 ++ [(rwA (q,el)).abs]:=by
    show V8 D4.abs _ (k1+1)=V8 D4.abs h k1++_
    rw[mB,hh2];simp only[if_true]
    congr 1
    unfold V8;apply List.map_congr_left;intro t ht;have h5:=List.mem_range.1 ht
    show D4.abs (if t=k1 then rwA (q,el)else h t)=_
    rw[if_neg (by omega)]
   simp only;rw[e9,List.append_assoc];refine List.Perm.trans (List.Perm.append_left _ ?_) hprm;rw[List.map_cons]at h9;exact h9.symm
  simp only at ht ⊢;rw[hh2]
  by_cases he:t=k1
  .exact ⟨_,hp,by simp[he]⟩
  simp only[if_neg he];exact hels t (by omega)
 have hbb:bb=false:=by subst O;exact hbD
 have hall:=hn0 hbb;have hprm2:(J8 h k1).Perm (TA.map fun q=>(rwA q).abs):=by
  have e9:(TA.filter fun q=>left (K5 q.1))=[]:=List.filter_eq_nil_iff.2 fun q _=>by rw[hall];simp
  rw[e9]at hprm
  simpa using hprm
 replace Z:=Z.withK (K':=noK) trivial;refine j9 (a7 (wp_region_lit ?_));refine lpr 0 1 O a8 [68,10] [10] [] Z (fun X13 a0 w1 Z=>?_);have hO:=uC Z (Z.slot 10 rfl).2;refine mw rfl rfl rfl rfl rfl Z rfl rfl (fun _ _=>by kernel_rfl) (fun w'=>∃h':Nat->D4,((List.range k1).map h').Perm ((List.range k1).map h)/\(∀i j,i<j->j<k1->ei (h' j).lab (h' i).lab=false)/\Own w' wi.heap.size 92 8 (.slice A1 k1 c1) k1 (j6 (fun t=>J2 (h' t)) k1)) ((tM hO (by omega)).mono ?_) ?_
 .rintro e w2 ⟨he,h',g1,g2,g3,g4⟩
  exact⟨he,⟨h',g1,g2,g3⟩,g4⟩
 rintro w2 ⟨h',g1,g2,g3⟩ g4
 have hfin:=yU hnd hprm2 g1 g2;have hels':∀i,i<k1->∃q∈TA,h' i=rwA q:=by
  intro i hi;have hmem:=g1.mem_iff.1 (List.mem_map.2 ⟨i,List.mem_range.2 hi,rfl⟩);obtain⟨j,hj,hje⟩:=List.mem_map.1 hmem;obtain⟨q,hq,hqe⟩:=hels j (List.mem_range.1 hj);exact⟨q,hq,by rw[<-hje,hqe]⟩
 have hgrm:∀b',B4 (.slice A1 k1 c1)=some b'->∀o,o<k1*8-> ¬mG mS [] [(10,⟨A1,k1,c1,8,92⟩)] b' o:=mM Z
 have hrow2:Ok (mG mS [] [(10,⟨A1,k1,c1,8,92⟩)]) w2 (.sl (some 10) A1 k1 c1 8 (fun t=>J2 (h' t))):=bL g3 (fun _ _=>rfl) hgrm (fun i hi=>by
  obtain⟨q,hq,e⟩:=hels' i hi;rw[e];exact dC (vF Z Hg g4 (hokT q hq)) _ _) _
 have Z:=i5.rowset (K':=noK) (l':=[(10,.sl (some 10) A1 k1 c1 8 (fun t=>J2 (h' t)))]) Z g4 g3 (R7 ⟨(Z.slot 10 rfl).1,hrow2⟩ qz) (fun k e he=>by cases he) trivial;have Z:=(Z.put (some 69) (fun t ht=>by injection ht with ht;subst ht;exact Nat.le_of_ble_eq_true rfl) (.tup []) (fun _=>.tup _ fun u hu=>by cases hu) (.tuple #[]) fun _=>rfl);refine wpList_nil ?_;replace Z:=Z.keep [10] [10];have hk2000:k1<=2000:=by omega
 obtain⟨lv,hlv⟩:=eqv (L7 (J8 h' k1));have hlvl:lv.length<=k1:=by
  have:=uq (J8 h' k1);rw[V7,<-hlv]at this;exact this
 have hlvo:=uo (l:=J8 h' k1) (p:=u0) (fun x hx=>by
  simp only[J8,V8,List.mem_map,List.mem_range]at hx;obtain⟨i,hi,rfl⟩:=hx;obtain⟨q,hq,e⟩:=hels' i hi;rw[e];exact hlabs q hq)
 have SL:=(Ba A1 k1 c1 h' (by omega)).args' (args:=[.sl (some 10) A1 k1 c1 8 (fun t=>J2 (h' t))]) ⟨Sim.resl rfl (fun t ht=>rfl),trivial⟩;rw[<-hlv]at SL hlvo;obtain⟨lf,hlf⟩:=eqv (cX lv);obtain⟨ln,hln⟩:=eqv (lv.length);rw[<-hlf,<-hln]at SL hlvo;rw[<-hln]at hlvl;obtain⟨NX,hNX⟩:=eqv (gC lf ln ln);have O1:=SL;refine a7 (wp_region_lit ?_);refine lpr 0 2 O a8 [71,10] [10] [(1,.r fun y=>ko (y.A 0) ln (y.c 0) lf)] Z (fun X15 a0 w1 Z=>?_);refine I8 rfl rfl rfl rfl Z rfl rfl (fun _ _=>by kernel_rfl) (En ((X15 1).A 0) ln ((X15 1).c 0) lf (by omega) hlvo) (fun _ _ h=>h) (fun b hb=>by cases hb) (zl) (fun e he=>by cases he) rfl rfl (fun y=>lmK i6 (y.c 0) NX) (fun _ _ _ _ _ _ _ _ _ h=>by rw[hNX];exact h.2) ?_;intro y2 a0 w1 Z;obtain⟨bN,hbN⟩:=eqv (y2.c 0);rw[<-hbN]at Z;refine lnd 3 O a8 [13,10] [10] [] Z (fun X16 a0 w1 Z=>?_);obtain⟨nx,hnx⟩:∃x:Lab->Lab,x=fun q=>(Z7 q NX).getD ⟨0,0⟩:=⟨_,rfl⟩
 have hnxP:nx=nxP lv:=by
  funext q
  rw[hnx,hNX,hlf,hln];rfl
 refine a7 (a7 (rg O a8 [75,10,73,74,13] [10] [] Z fun X17 a0 w1 Z=>?_));have hF0:=Z;refine j1 (iL (ι:=Nat) (fun i a w1=>i5 ⟨mS,wi,ats [],[],lmK i6 bN NX⟩ ⟨95,[(75,.int .i64 (i:Int)),(10,.sl (some 10) A1 k1 c1 8 (fun t=>J2 (if t<i then kL nx (h' t)else h' t))),(73,.sl (some 10) A1 k1 c1 8 (fun t=>J2 (if t<i then kL nx (h' t)else h' t))),(74,.int .i64 (k1:Int)),(13,.raw (.map (some bN)))],[],[],[(10,⟨A1,k1,c1,8,92⟩)]⟩ a w1) (fun i=>i<=k1) (fun i=>k1-i) 0 (Nat.zero_le _) (by subst O;exact hF0) ?_);intro i hi a0 w1 Z;obtain⟨hc,hhc⟩:∃x:Nat->D4,x=fun t=>if t<i then kL nx (h' t)else h' t:=⟨_,rfl⟩
 have ehc:(fun t=>J2 (if t<i then kL nx (h' t)else h' t))=fun t=>J2 (hc t):=by rw[hhc]
 rw[ehc]at Z;have hci:hc i=h' i:=by rw[hhc];simp
 refine a7 (rg O a8 [76,75,10,73,74,13] [10] [] Z fun X18 a0 w1 Z=>?_);refine a7 (b7 Z rfl (fun hbE Z=>?_) (fun hbE Z=>?_))
 .have hin:i<k1:=by
   have:(i:Int)<(k1:Int):=by subst O;simpa[std,d4]using hbE
   omega
  have eI:B.arith .add .i64 (i:Int) 1=((i+1:Nat):Int):=by subst O;exact k4 (n:=k1) hin (by omega)
  refine f8 (a7 (j1 (a7 (rg O a8 [14,15,75,10,73,74,13] [15,10] [] Z (fun X19 a0 w1 Z=>?_) (hob:=?hob3)))))
  case hob3=>
   intro X;subst O
   repeat(first|exact trivial|refine⟨rfl,?_⟩|refine⟨(show(0:Int)<=(i:Int)/\(i:Int)<(k1:Int)by omega),?_⟩)
  have Z:=Z.memS (cells':=J2 (hc i)) (by subst O;exact zl);refine a7 (rg O a8 [83,14,15,75,10,73,74,13] [15,10] [] Z fun X20 a0 w1 Z=>?_);refine b7 Z rfl (fun hbF Z=>?_) (fun hbF Z=>?_)
  .have hk1':(h' i).x.r.kd=1:=by rw[<-hci];subst O;simpa[std,d4]using hbF
   obtain⟨nq,hnq⟩:=eqv (nx (hc i).lab);have hlq:u0 (hc i).lab:=by
    rw[hci];obtain⟨q,hq,e⟩:=hels' i hin;rw[e];exact hlabs q hq
   have ON:=Ey (K:=lmK i6 bN NX) (el:=i6) (l:=(hc i).lab) (fun m w h=>h) hlq mq zq (fun m w=>pk m w _) (v:=i6 nq) (by rw[hnq,hnx]);simp only[i6]at ON;refine wp_region_lit ?_;refine lpr 0 9 O a8 [92,89,75,10,73,74,13] [10] [(5,.r fun _=>.agg [.int .i64 nq.len,.int .u64 nq.bits])] Z (fun X21 a0 w1 Z=>?_) (hob:=?hob4)
   case hob4=>
    intro X;subst O
    repeat(first|exact trivial|refine⟨rfl,?_⟩|refine⟨ON,?_⟩|refine⟨(show(0:Int)<=(i:Int)/\(i:Int)<(k1:Int)by omega),?_⟩)
   have Z:=Z.headS (v':=.ep A1 i 8 5 (J2 (hc i))) (by subst O;exact zr) rfl;have hrowk:Ok _ w1 (.sl (some 10) A1 k1 c1 8 (fun t=>J2 (hc t))):=(Z.slot 10 rfl).2;have hbNr:B4 (.slice A1 k1 c1)≠some bN:=by
    intro e;obtain⟨_,xs,ho⟩:=Z.gr 10 ⟨A1,k1,c1,8,92⟩ rfl;obtain⟨c',t',f',hcl⟩:=ho.isCells e;obtain⟨es,cl,hm⟩:=qo Z.kept;rw[hm]at hcl;cases hcl
   have hKl:=Z.kept;refine my rfl rfl rfl rfl Z rfl rfl (.inr rfl) a8 rfl rfl hrowk (fun _ _=>rfl) hin (show 5+2<=8 from by decide) (fun w2 hO2 hc2 _=>?_)
   obtain⟨h2,hh2⟩:∃x:Nat->D4,x=fun t=>if t<i+1 then kL nx (h' t)else h' t:=⟨_,rfl⟩
   have efl:wrC (fun t=>J2 (hc t)) i 5 [.int .i64 nq.len,.int .u64 nq.bits]=fun t=>J2 (h2 t):=by
    funext t
    rw[hh2];unfold wrC
    by_cases hti:t=i
    .subst hti
     rw[if_pos rfl]
     show List.take 5 (J2 (hc t)) ++ [.int .i64 nq.len,.int .u64 nq.bits]++List.drop (5+2) (J2 (hc t))=J2 (if t<t+1 then kL nx (h' t)else h' t)
     rw[if_pos (Nat.lt_succ_self t),hnq,hci];unfold kL;rw[if_pos hk1'];rfl
    rw[if_neg hti,hhc];dsimp only
    by_cases ht2:t<i
    .rw [if_pos ht2,if_pos (by omega)]
    rw[if_neg ht2,if_neg (by omega)]
   have hO2:Own w2 wi.heap.size 92 8 (.slice A1 k1 c1) k1 (j6 (fun t=>J2 (h2 t)) k1):=by rw[<-efl];exact hO2
   have hgrm2:=mM Z;have hrow2:Ok (mG mS [] [(10,⟨A1,k1,c1,8,92⟩)]) w2 (.sl (some 10) A1 k1 c1 8 (fun t=>J2 (h2 t))):=bL hO2 (fun _ _=>rfl) hgrm2 (fun j hj=>by
    obtain⟨q,hq,e⟩:=hels' j hj;have h5:=vF Z Hg hc2 (hokT q hq);rw[hh2];dsimp only
    split
    .rw [e]
     unfold kL
     split
     .have:=dC h5 (rwA q).lab (rwA q).ver
      intro u hu;simp only[J2,List.mem_cons,List.not_mem_nil,or_false]at hu
      rcases hu with rfl|rfl|rfl|rfl|rfl|rfl|rfl|rfl
      .exact ⟨rfl,.int _ _⟩
      .exact ⟨rfl,.int _ _⟩
      .exact ⟨rfl,.int _ _⟩
      .exact ⟨rfl,.int _ _⟩
      .exact this _ (by simp[J2,rwA])
      .exact ⟨rfl,.int _ _⟩
      .exact ⟨rfl,.int _ _⟩
      exact⟨rfl,.int _ _⟩
     exact dC h5 _ _
    rw[e];exact dC h5 _ _) _
   have Z:=i5.rowset (K':=lmK i6 bN NX) (l':=[(75,.int .i64 (i:Int)),(10,.sl (some 10) A1 k1 c1 8 (fun t=>J2 (h2 t))),(73,.sl (some 10) A1 k1 c1 8 (fun t=>J2 (h2 t))),(74,.int .i64 (k1:Int)),(13,.raw (.map (some bN)))]) Z hc2 hO2 (R7 ⟨(Z.slot 75 rfl).1,.int _ _⟩ (R7 ⟨(Z.slot 10 rfl).1,hrow2⟩ (R7 ⟨(Z.slot 73 rfl).1,hrow2⟩ (R7 ⟨(Z.slot 74 rfl).1,.int _ _⟩ (R7 ⟨(Z.slot 13 rfl).1,.raw _⟩ qz))))) (fun k e he=>by cases he) (Ez hKl (hc2.block bN (AW hKl) hbNr));refine wpList_nil ?_;refine rg O a8 [75,10,73,74,13] [10] [] Z fun X22 a0 w1 Z=>?_
   exact⟨i+1,by omega,by omega,by rw[<-eI];rw[hh2]at Z;exact Z⟩
  have hk1':¬(h' i).x.r.kd=1:=by rw[<-hci];subst O;simpa[std,d4]using hbF
  refine f8 (rg O a8 [75,10,73,74,13] [10] [] Z fun X21 a0 w1 Z=>?_);have e2:hc=fun t=>if t<i+1 then kL nx (h' t)else h' t:=by
   funext t
   rw[hhc];dsimp only
   by_cases ht2:t<i
   .rw [if_pos ht2,if_pos (by omega)]
   rw[if_neg ht2]
   by_cases hti:t=i
   .subst hti
    rw[if_pos (by omega)];unfold kL;rw[if_neg hk1']
   rw[if_neg (by omega)]
  exact⟨i+1,by omega,by omega,by rw[<-eI];rw[e2]at Z;exact Z⟩
 have hik:i=k1:=by
  have:¬(i:Int)<(k1:Int):=by subst O;simpa[std,d4]using hbE
  omega
 refine j9 (a7 (rg O a8 [4,5] [10] [] Z fun X19 a0 w1 Z=>?_));have hFf:=ik hMi (by rw[<-hmS];exact Z.withK (K':=noK) trivial);have hRf:J8 hc k1=(tp n f b).map (yt (nxP (L7 (tp n f b)))):=by
  rw[h0,<-hTA,<-hfin,<-hlv,<-hnxP]
  show V8 D4.abs hc k1=(V8 D4.abs h' k1).map (yt nx)
  unfold V8;rw[List.map_map];apply List.map_congr_left;intro t ht;have h5:=List.mem_range.1 ht;rw[hhc];simp only[Function.comp];rw[if_pos (by omega),Bx]
 refine i8 (rsi O a8 hFf (rwY A1 c1 hc 0) (he:=?_));subst O;exact Sim.tup ⟨DC hRf,zr,trivial⟩
def nP(L:Shf)(l:Lab):Got:=⟨0,(D7 L l).ver,(D7 L l).has,(D7 L l).r⟩
theorem JN{L:Shf}{w:Wq}(h1:w.kind=1)(h2:isL w.lab=true):doL L (U0 w)=⟨L,false,nP L w.lab,0⟩:=by
 have hcond:((U0 w).kind=1 \/ (U0 w).kind=2 \/ (U0 w).kind=3)/\isL (U0 w).lab=true/\((U0 w).kind=2->isR (U0 w).r=true):=⟨.inl h1,h2,fun h=>absurd (h1.symm.trans h) (by decide)⟩;unfold doL;rw[if_pos hcond,if_pos (show(U0 w).kind=1 from h1)];rfl
def mY(L:Shf)(b:Int):Nat->Tr Rsl->Nat->List Lab->Option (Rsl×Nat×List Lab)
 |0,_,_,_=>none
 |f+1,t,n,ls=>match t with
  | .ret a=>if(n:Int)<=b then some (a,n,ls)else none
  | .ask w c=>if w.kind=1/\isL w.lab=true/\(n:Int)<b/\F4 (V9 (nP L w.lab))=true then mY L b f (c (V9 (nP L w.lab))) (n+1) (mP ls w.lab (nP L w.lab))else none
  | .note _ _=>none
  | .dead=>none
theorem sK{α : Type}{t:Tr α}{y:Nt}(h:t.noNote):t.feed y []=some (t,y):=by
 cases t with
 |note z t=>exact absurd h (fun h=>h)
 |ret a=>simp[Tr.feed]
 |dead=>simp[Tr.feed]
 |ask w f=>simp[Tr.feed]
theorem wy{N:gd}{b:Int}{T:Nat->Tr Rsl}(hN:TrN N b T){m:Nat}(hm:b<m){L:Shf}:∀(f fuel:Nat) (t:Tr Rsl) (gs:List Got) (k:Int) (ls:List Lab) {a:Rsl} {n:Nat} {ls':List Lab},(T m).feed nt0 gs=some (t,nt0)->(∀j,j<gs.length->F4 (V9 (gs.getD j L6))=true)->mY L b f t gs.length ls=some (a,n,ls')->f<=fuel->V0 N [] fuel gs L k ls=⟨2,a,n,0,L,k,ls'⟩
 |0,fuel,t,gs,k,ls,a,n,ls',hf,hg,he,hl=>by simp[mY]at he
 |f+1,0,t,gs,k,ls,a,n,ls',hf,hg,he,hl=>by omega
 |f+1,fuel+1,t,gs,k,ls,a,n,ls',hf,hg,he,hl=>by
  cases t with
  |note y t=>simp[mY]at he
  |dead=>simp[mY]at he
  |ret a'=>
   unfold mY at he;dsimp only at he
   split at he
   .rename_i hb
    obtain⟨q,h1,h2,h3⟩:=vJ hN hf hg hb (by omega);rw[rO (h3.trans (zx h1)) rfl];simp only[Option.some.injEq,Prod.mk.injEq]at he;obtain⟨rfl,rfl,rfl⟩:=he;rfl
   cases he
  |ask w c=>
   unfold mY at he;dsimp only at he
   split at he
   .rename_i hc
    obtain⟨c1,c2,c3,c4⟩:=hc;obtain⟨q,h1,h2,h3⟩:=vJ hN hf hg (by omega) (by omega);rw[CF h1]at h3;have h4:=h3.trans (xn h1);rw[if_neg (by omega)]at h4;have hD:(⟨L,false,nP L w.lab,0⟩:Did)=doL L (U0 w):=(JN c1 c2).symm;rw[vt (L1:=L) (k1:=k) h4 (by omega) rfl rfl hD rfl];have hlen:(gs ++ [nP L w.lab]).length=gs.length+1:=by simp
    cases f with
    |zero=>simp[mY]at he
    |succ f=>
    have hnn:(c (V9 (nP L w.lab))).noNote:=by
     cases hcc:c (V9 (nP L w.lab))with
     |note y t=>rw[hcc]at he;simp[mY]at he
     |ret a=>trivial
     |dead=>trivial
     |ask w f=>trivial
    refine wy hN hm (f+1) fuel (c (V9 (nP L w.lab))) (gs ++ [nP L w.lab]) k _ ?_ ?_ ?_ (by omega)
    .rw [mW _ _ _ hf];exact sK hnn
    .intro j hj
     rw[hlen]at hj
     by_cases hjl:j<gs.length
     .have:=hg j hjl
      rw[List.getD_eq_getElem?_getD,List.getElem?_append_left hjl,<-List.getD_eq_getElem?_getD];exact this
     have:j=gs.length:=by omega
     subst this
     simpa[List.getD]using c4
    rw[hlen];exact he
   cases he
def ptF(i:Nat):Itm:=if i=0 then⟨3,⟨#[97]⟩⟩else if i=1 then⟨19,⟨#[98]⟩⟩else⟨12,⟨#[99]⟩⟩
def ptM:List Itm:=[⟨3,⟨#[97]⟩⟩,⟨12,⟨#[99]⟩⟩,⟨19,⟨#[98]⟩⟩]
theorem Iw:wvN 1 1=3/\wvN 5 1=19/\wvN 2 2=12:=by decide
theorem LP:ofL (f5 ptF 3)=ptM:=by kernel_rfl
theorem Nr:qU 3 (itF ptM) 1=0:=by kernel_rfl
theorem Nq:(eB 3 (itF ptM) 1).length=123:=by kernel_rfl
def ptJ(x1 x2 y1 y2:Int):j4:=⟨12,⟨0,0⟩,0,0,⟨#[]⟩,0,none,0,0,fun _=>0,x1,x2,y1,y2,1,1,1900⟩
def ptS:Shf:=(dF (eB 3 (itF ptM) 1)).getD []
theorem LN:dF (eB 3 (itF ptM) 1)=some ptS:=by kernel_rfl
def rwB(r:Rw):Bool:=isL r.lab&&decide (0<=r.lab.bits/\r.lab.bits<18446744073709551616)&&decide (0<=r.ver/\r.ver<18446744073709551616)&&decide (0<=r.r.next.bits/\r.r.next.bits<18446744073709551616)&&decide (r.r.items.length<=100)&&r.r.items.all fun x=>decide (0<=x.key/\x.key<18446744073709551616)
theorem Ea:(eB 3 (itF ptM) 1).all rwB=true:=by kernel_rfl
theorem Ii{r:Rw}(h:rwB r=true):isL r.lab=true/\U64 r.lab.bits/\U64 r.ver/\U64 r.r.next.bits/\r.r.items.length<=100/\∀x∈r.r.items,U64 x.key:=by
 unfold rwB at h;simp only[Bool.and_eq_true,decide_eq_true_eq,List.all_eq_true]at h;exact⟨h.1.1.1.1.1,h.1.1.1.1.2,h.1.1.1.2,h.1.1.2,h.1.2,h.2⟩
theorem DY:V0 (I4 (ptJ 2 1 0 0)) [] 2001 [] ptS 0 []=⟨2,⟨5,false,⟨#[]⟩,[],0,false⟩,0,0,ptS,0,[]⟩:=by kernel_rfl
theorem Iy(x1 x2 y1 y2:Int):F8 (ptJ x1 x2 y1 y2)=true:=by
 unfold F8 btw ptJ;simp;rfl
theorem Iz:(mY ptS 1900 400 (tU 1 1 (ptJ 1 2 0 9).rct 1901) 0 []).map (fun p=>p.1)=some ⟨0,false,⟨#[]⟩,[⟨3,⟨#[97]⟩⟩,⟨12,⟨#[99]⟩⟩],0,false⟩:=by kernel_rfl
theorem DZ:∃n ls,V0 (I4 (ptJ 1 2 0 9)) [] 2001 [] ptS 0 []=⟨2,⟨0,false,⟨#[]⟩,[⟨3,⟨#[97]⟩⟩,⟨12,⟨#[99]⟩⟩],0,false⟩,n,0,ptS,0,ls⟩:=by
 have h:=Iz
 cases he:mY ptS 1900 400 (tU 1 1 (ptJ 1 2 0 9).rct 1901) 0 []with
 |none=>rw[he]at h;cases h
 |some p=>
  obtain⟨a,n,ls⟩:=p;rw[he]at h;simp only[Option.map_some,Option.some.injEq]at h;subst h;exact⟨n,ls,wy (DW (Iy 1 2 0 9) rfl) (m:=1901) (by show(1900:Int)<_;decide) 400 2001 _ [] 0 [] (sK (by unfold tU;trivial)) (fun j hj=>absurd hj (Nat.not_lt_zero _)) he (by decide)⟩
theorem oV(f:Nat->Itm)(i:Nat)(key:Int):dh (f5 f (i+1)) key=dh (f5 f i) key++if(f i).key=key then []else [f i]:=by
 have:f5 f (i+1)=f5 f i ++ [f i]:=by simp[f5,List.range_succ]
 rw[this];unfold dh;rw[List.filter_append]
 congr 1
 by_cases h:(f i).key=key<;>simp[isK,h]
theorem rfndi_s(A:Option Addr)(n c:Nat)(f:Nat->Itm)(hn:n<=1000000)(kd:Int)(nx:Lab)(mk:Int)(key:Int):k9 Tryz.prog 117 [R3 A n c f kd nx mk,.int .u64 key] (fun _=>.tup [.str (eo (f5 f n) key),.bool (.v (eq (f5 f n) key))]):=by
 intro m w hm hargs;have hmx:maxLen=9223372036854775807:=rfl;unfold R3 s4 at hargs;refine en 28 hm hargs Tryz.func117 fun B O a0 Z=>?_
 refine a6 [1,2] [2] Z fun X0 Z=>?_
 refine a7 (a6 [6,1,2] [2] Z fun X1 Z=>?_);refine j1 (l3 (ι:=Nat) (fun p=>[(6,.int .i64 (p:Int))]) (fun p=>[]) (fun p=>[]) (fun p=>p<=n/\∀t,t<p->(f t).key≠key) (fun p=>n-p) 0 ⟨Nat.zero_le _,fun t ht=>absurd ht (Nat.not_lt_zero _)⟩ Z ?_)
 rintro i ⟨hi,hlt⟩ _ _ Z
 try dsimp only at hi
 try dsimp only at hlt
 refine a7 (a6 [11,6,1,2] [2] Z (hob:=?hob) fun X2 Z=>?_)
 case hob=>
  intro X;subst O
  repeat(first|exact trivial|refine⟨rfl,?_⟩|refine⟨⟨show(0:Int)<=(i:Int)by omega,show(i:Int)<(n:Int)by omega⟩,?_⟩)
 apply b7 Z rfl<;>intro hb Z
 .have hin:i<n:=by
   have:(i:Int)<(n:Int):=by subst O;simpa[std,d4]using hb
   omega
  refine f8 (a7 (j1 (a6 [21,6,1,2] [2] Z (hob:=?hob) fun X4 Z=>?_)))
  case hob=>
   intro X;subst O
   repeat(first|exact trivial|refine⟨rfl,?_⟩|refine⟨⟨show(0:Int)<=(i:Int)by omega,show(i:Int)<(n:Int)by omega⟩,?_⟩)
  apply b7 Z rfl<;>intro hb Z
  .have hk:(f i).key=key:=by subst O;simpa[std,d4]using hb
   have hfd:=sJ hin hlt hk;have hV:eo (f5 f n) key=(f i).val:=by simp only[eo,hfd]
   have hE:eq (f5 f n) key=true:=by simp only[eq,hfd];rfl
   refine a6 [4,5] [] Z (hob:=?hob) fun X5 Z=>?_
   case hob=>
    intro X;subst O
    repeat(first|exact trivial|refine⟨rfl,?_⟩|refine⟨⟨show(0:Int)<=(i:Int)by omega,show(i:Int)<(n:Int)by omega⟩,?_⟩)
   refine z7 Z ?_;subst O;rw[hV,hE];exact Sim.tup ⟨zr,Sim.bool rfl,trivial⟩
  have hk:¬(f i).key=key:=by subst O;simpa[std,d4]using hb
  refine f8 (j5 [6,1,2] [2] Z fun X3 Z=>?_);have e:B.arith .add .i64 (i:Int) 1=((i+1:Nat):Int):=by subst O;exact k4 (n:=n) hin (by omega)
  refine⟨i+1,⟨by omega,fun t ht=>by
  by_cases h:t=i
  .rw [h];exact hk
  exact hlt t (by omega)⟩,by omega,by rw[<-e];exact Z⟩
 have hout:i=n:=by
  have:¬(i:Int)<(n:Int):=by subst O;simpa[std,d4]using hb
  omega
 rw[hout]at hlt;have hfd:=oN hlt;have hV:eo (f5 f n) key=⟨#[]⟩:=by simp only[eo,hfd]
 have hE:eq (f5 f n) key=false:=by simp only[eq,hfd];rfl
 refine j9 (a6 [4,5] [] Z fun X6 Z=>?_);refine z7 Z ?_;subst O;rw[hV,hE];exact Sim.tup ⟨zr,Sim.bool rfl,trivial⟩
theorem yF:l8 Tryz.prog 156:=fun _ _=>by kernel_rfl
theorem Eu(b:Nat)(A:Option Addr)(n c:Nat)(f:Nat->Itm)(hn:n<=1000000)(key:Int):C1 Tryz.prog 156 [.ptr 0 b 0,.int .u64 key] [(0,⟨b,85,[s4 A n c f]⟩)] (fun _=>⟨.tup [.str (eo (f5 f n) key),.bool (.v (eq (f5 f n) key))],[(0,[s4 A n c f])],[]⟩):=by
 intro m w hm hargs hpre;have hmx:maxLen=9223372036854775807:=rfl;unfold s4 at hpre ⊢;refine enX 34 hm hpre hargs Tryz.func156 fun B O a0 Z=>?_
 refine a6 [0,1] [0] Z fun X0 Z=>?_
 refine a7 (a6 [6,0,1] [0] Z fun X1 Z=>?_);refine j1 (l3 (ι:=Nat) (fun p=>[(6,.int .i64 (p:Int))]) (fun p=>[]) (fun p=>[]) (fun p=>p<=n/\∀t,t<p->(f t).key≠key) (fun p=>n-p) 0 ⟨Nat.zero_le _,fun t ht=>absurd ht (Nat.not_lt_zero _)⟩ Z ?_)
 rintro i ⟨hi,hlt⟩ _ _ Z
 try dsimp only at hi
 try dsimp only at hlt
 refine a7 (a6 [13,6,0,1] [0] Z (hob:=?hob) fun X2 Z=>?_)
 case hob=>
  intro X;subst O
  repeat(first|exact trivial|refine⟨rfl,?_⟩|refine⟨⟨show(0:Int)<=(i:Int)by omega,show(i:Int)<(n:Int)by omega⟩,?_⟩)
 apply b7 Z rfl<;>intro hb Z
 .have hin:i<n:=by
   have:(i:Int)<(n:Int):=by subst O;simpa[std,d4]using hb
   omega
  refine f8 (a7 (j1 (a6 [25,6,0,1] [0] Z (hob:=?hob) fun X4 Z=>?_)))
  case hob=>
   intro X;subst O
   repeat(first|exact trivial|refine⟨rfl,?_⟩|refine⟨⟨show(0:Int)<=(i:Int)by omega,show(i:Int)<(n:Int)by omega⟩,?_⟩)
  apply b7 Z rfl<;>intro hb Z
  .have hk:(f i).key=key:=by subst O;simpa[std,d4]using hb
   have hfd:=sJ hin hlt hk;have hV:eo (f5 f n) key=(f i).val:=by simp only[eo,hfd]
   have hE:eq (f5 f n) key=true:=by simp only[eq,hfd];rfl
   refine a6 [4,5] [0] Z (hob:=?hob) fun X5 Z=>?_
   case hob=>
    intro X;subst O
    repeat(first|exact trivial|refine⟨rfl,?_⟩|refine⟨⟨show(0:Int)<=(i:Int)by omega,show(i:Int)<(n:Int)by omega⟩,?_⟩)
   refine i8 ((rx O a8 Z C5 [] (he:=?_) (hs:=?_)).1)
   .subst O;rw[hV,hE]
    exact Sim.tup ⟨zr,Sim.bool rfl,trivial⟩
   subst O;exact⟨rfl,⟨_,rfl,zl⟩,trivial⟩
  have hk:¬(f i).key=key:=by subst O;simpa[std,d4]using hb
  refine f8 (j5 [6,0,1] [0] Z fun X3 Z=>?_);have e:B.arith .add .i64 (i:Int) 1=((i+1:Nat):Int):=by subst O;exact k4 (n:=n) hin (by omega)
  refine⟨i+1,⟨by omega,fun t ht=>by
  by_cases h:t=i
  .rw [h];exact hk
  exact hlt t (by omega)⟩,by omega,by rw[<-e];exact Z⟩
 have hout:i=n:=by
  have:¬(i:Int)<(n:Int):=by subst O;simpa[std,d4]using hb
  omega
 rw[hout]at hlt;have hfd:=oN hlt;have hV:eo (f5 f n) key=⟨#[]⟩:=by simp only[eo,hfd]
 have hE:eq (f5 f n) key=false:=by simp only[eq,hfd];rfl
 refine j9 (a6 [4,5] [0] Z fun X6 Z=>?_);refine i8 ((rx O a8 Z C5 [] (he:=?_) (hs:=?_)).1)
 .subst O;rw[hV,hE]
  exact Sim.tup ⟨zr,Sim.bool rfl,trivial⟩
 subst O;exact⟨rfl,⟨_,rfl,zl⟩,trivial⟩
theorem yE:l8 Tryz.prog 157:=fun _ _=>by kernel_rfl
theorem IM(b:Nat)(A:Option Addr)(n c:Nat)(f:Nat->Itm)(hn:n<=1000000)(key:Int):C1 Tryz.prog 157 [.ptr 0 b 0,.int .u64 key] [(0,⟨b,85,[s4 A n c f]⟩)] (fun x=>⟨s4 (x.A 0) (dh (f5 f n) key).length (x.c 0) (itF (dh (f5 f n) key)),[(0,[s4 A n c f])],[]⟩):=by
 intro m w hm hargs hpre;have hmx:maxLen=9223372036854775807:=rfl;unfold s4 at hpre ⊢;refine enX 37 hm hpre hargs Tryz.func157 fun B O a0 Z=>?_
 refine a6 [0,1] [0] Z fun X0 Z=>?_
 refine a6 [5,0,1] [0,5,35] Z fun X1 Z=>?_
 refine a7 (a6 [5,6,0,1] [0,5,35] Z fun X2 Z=>?_);replace Z:=Z.headS (v':=.sl (some 5) none 0 0 2 (fun t=>itC s7)) (zq0) rfl;refine j1 (l3 (ι:=Nat×Nat×(Nat->Itm)×Option Addr×Nat) (fun p=>[(5,.sl (some 5) p.2.2.2.1 p.2.1 p.2.2.2.2 2 (fun t=>itC (p.2.2.1 t))),(6,.int .i64 (p.1:Int))]) (fun p=>[]) (fun p=>[(5,⟨p.2.2.2.1,p.2.1,p.2.2.2.2,2,62⟩)]) (fun p=>p.1<=n/\p.2.1<=p.1/\f5 p.2.2.1 p.2.1=dh (f5 f p.1) key) (fun p=>n-p.1) (0,0,fun _=>s7,none,0) ⟨Nat.zero_le _,Nat.le_refl _,rfl⟩ Z ?_)
 rintro⟨i,q,g,A1,c1⟩ ⟨hi,hq,hg⟩ _ _ Z
 try dsimp only at hi
 try dsimp only at hq
 try dsimp only at hg
 refine a7 (a6 [13,5,6,0,1] [0,5,35] Z (hob:=?hob) fun X3 Z=>?_)
 case hob=>
  intro X;subst O
  repeat(first|exact trivial|refine⟨rfl,?_⟩|refine⟨⟨show(0:Int)<=(i:Int)by omega,show(i:Int)<(n:Int)by omega⟩,?_⟩)
 apply b7 Z rfl<;>intro hb Z
 .have hin:i<n:=by
   have:(i:Int)<(n:Int):=by subst O;simpa[std,d4]using hb
   omega
  refine f8 (a7 (j1 (a6 [25,5,6,0,1] [0,5,35] Z (hob:=?hob) fun X5 Z=>?_)))
  case hob=>
   intro X;subst O
   repeat(first|exact trivial|refine⟨rfl,?_⟩|refine⟨⟨show(0:Int)<=(i:Int)by omega,show(i:Int)<(n:Int)by omega⟩,?_⟩)
  apply b7 Z rfl<;>intro hb Z
  .have hk:(f i).key≠key:=by subst O;simpa[std,d4]using hb
   refine j5 [5,6,0,1] [0,5,35] Z (hob:=?hob) fun X6 Z=>?_
   case hob=>
    intro X;subst O
    repeat(first|exact trivial|refine⟨⟨rfl,rfl,rfl⟩,?_⟩|refine⟨rfl,?_⟩|refine⟨⟨show(0:Int)<=(i:Int)by omega,show(i:Int)<(n:Int)by omega⟩,?_⟩|refine⟨⟨show q+1<=maxLen by omega,show(q+1)*_<=_ by omega⟩,?_⟩)
   replace Z:=Z.headS (v':=.sl (some 5) ((X6 9).A 0) (B.nadd q 1) ((X6 9).c 0) 2 (fun t=>itC (V3 g q (f i) t))) (Sim.resl rfl (fun t ht=>by
    subst O;have ht2:t<q+1:=ht
    show D3 q (fun t=>itC (g t)) (C9 2 [.int .u64 (f i).key,.str (f i).val]) t=_
    unfold D3 V3
    split
    .rw [if_neg (by omega)]
    have:t=q:=by omega
    subst this;simp[C9,itC])) rfl
   refine j5 [5,6,0,1] [0,5,35] Z fun X4 Z=>?_
   have e:B.arith .add .i64 (i:Int) 1=((i+1:Nat):Int):=by subst O;exact k4 (n:=n) hin (by omega)
   refine⟨(i+1,q+1,V3 g q (f i),_,_),⟨by simp only;omega,by simp only;omega,?_⟩,by simp only;omega,by rw[<-e,show q+1=B.nadd q 1 by subst O;rfl];exact Z⟩
   simp only;rw[Q8,hg,oV,if_neg hk]
  have hk:(f i).key=key:=by subst O;simpa[std,d4]using hb
  refine f8 (j5 [5,6,0,1] [0,5,35] Z fun X4 Z=>?_);have e:B.arith .add .i64 (i:Int) 1=((i+1:Nat):Int):=by subst O;exact k4 (n:=n) hin (by omega)
  refine⟨(i+1,q,g,_,_),⟨by simp only;omega,by simp only;omega,?_⟩,by simp only;omega,by rw[<-e];exact Z⟩;simp only;rw[hg,oV,if_pos hk,List.append_nil]
 have hout:i=n:=by
  have:¬(i:Int)<(n:Int):=by subst O;simpa[std,d4]using hb
  omega
 rw[hout]at hg;refine j9 (a6 [4] [0,4,5,35] Z fun X7 Z=>?_);refine i8 ((rx O a8 Z (⟨0,fun _=>A1,fun _=>c1,fun _=>⟨#[]⟩⟩) [] (he:=?_) (hs:=?_)).1)
 .subst O;exact Sim.resl (by rw[<-hg,j2]) (fun t ht=>by rw[<-hg,j2]at ht;rw[<-hg,u6 _ _ t ht])
 subst O;exact⟨rfl,⟨_,rfl,zl⟩,trivial⟩
def pS(l:List Itm)(key:Int)(val:ByteArray):ByteArray:=if 64<val.size then⟨#[]⟩else eo l key
def pB(l:List Itm)(key:Int)(val:ByteArray):Bool:=if 64<val.size then false else eq l key
def pE(val:ByteArray):Int:=if 64<val.size then 2 else 0
def yj(f:Nat->Itm)(i:Nat)(x:Itm):Nat->Itm:=fun t=>if t<i then f t else if t=i then x else f (t-1)
theorem ux(f:Nat->Itm)(n i:Nat)(x:Itm)(h:i<=n):f5 (yj f i x) (n+1)=f5 f i++x::(f5 f n).drop i:=by
 apply List.ext_getElem
 .simp [f5];omega
 intro t h1 h2;have ht:t<n+1:=by simpa[f5]using h1
 simp only[f5,List.getElem_map,List.getElem_range,yj]
 by_cases hi:t<i
 .rw [List.getElem_append_left (by simpa using hi)]
  simp[hi]
 rw[List.getElem_append_right (by simp;omega)];obtain⟨q,rfl⟩:∃q,t=i+q:=⟨t-i,by omega⟩
 cases q with
 |zero=>simp
 |succ q=>
  simp only[List.length_map,List.length_range,show i+(q+1)-i=q+1 by omega,List.getElem_cons_succ,List.getElem_drop,List.getElem_map,List.getElem_range];rw[if_neg (by omega),if_neg (by omega)]
  congr 1
theorem DX{l:List Itm}{f1:Nat->Itm}{n1 i:Nat}{key:Int}{val:ByteArray}(hl:f5 f1 n1=l)(hi:i<=n1)(hlt:∀t,t<i->(f1 t).key<key)(hend:i<n1-> ¬(f1 i).key<key) :
  uk l key++⟨key,val⟩::l.drop (uk l key).length=f5 (yj f1 i ⟨key,val⟩) (n1+1):=by
 have hlow:uk l key=f5 f1 i:=by
  rw[<-hl];unfold uk
  by_cases h:i=n1
  .rw [h]at hlt ⊢
   have:=List.takeWhile_append_of_pos (p:=fun x:Itm=>decide (x.key<key)) (l₁:=f5 f1 n1) (l₂:=[]) (fun a ha=>by
    obtain⟨t,ht,rfl⟩:=L8 ha
    simpa using hlt t ht)
   simpa using this
  rw[iY f1 n1 i (by omega),List.takeWhile_append_of_pos (fun a ha=>by
   obtain⟨t,ht,rfl⟩:=L8 ha
   simpa using hlt t ht),List.takeWhile_cons_of_neg (by simpa using hend (by omega))]
  simp
 rw[hlow,j2,ux f1 n1 i _ hi,hl]
theorem Ai(l:List Itm)(key:Int)(val:ByteArray):(kI l key val).length<=l.length+1:=by
 unfold kI
 split
 .omega
 have h1:=List.length_filter_le (fun x=>!isK key x) l;have h2:(dh l key).length<=l.length:=h1;have h3:(uk (dh l key) key).length<=(dh l key).length:=(List.takeWhile_sublist _).length_le;unfold Iv;simp only[List.length_append,List.length_cons,List.length_drop];omega
theorem vH(f:Nat->Itm):∀i,(ofL (f5 f i)).length<=i
 |0=>Nat.le_refl _
 |i+1=>by
  rw[aT];have:=Ai (ofL (f5 f i)) (f i).key (f i).val;have:=vH f i;omega
theorem yK:l8 Tryz.prog 100:=fun _ _=>by kernel_rfl
theorem Et(b:Nat)(A:Option Addr)(n c:Nat)(f:Nat->Itm)(hn:n<=1000000)(key:Int)(val:ByteArray):C1 Tryz.prog 100 [.ptr 0 b 0,.int .u64 key,.str val] [(0,⟨b,85,[s4 A n c f]⟩)] (fun x=>⟨.tup [.str (pS (f5 f n) key val),.bool (.v (pB (f5 f n) key val)),.int .i64 (pE val)],[(0,[s4 (x.A 0) (kI (f5 f n) key val).length (x.c 0) (itF (kI (f5 f n) key val))])],[]⟩):=by
 intro m w hm hargs hpre;have hmx:maxLen=9223372036854775807:=rfl;have SG:=Eu b A n c f hn key;have SW:=IM b A n c f hn key;unfold s4 at hpre SG SW;obtain⟨l,hl⟩:=eqv (dh (f5 f n) key);have hln:l.length<=n:=by rw[hl];have:=List.length_filter_le (fun x=>!isK key x) (f5 f n);rw[j2]at this;exact this
 rw[<-hl]at SW;obtain⟨n1,hn1⟩:=eqv (l.length);obtain⟨f1,hf1⟩:=eqv (itF l);rw[<-hn1,<-hf1]at SW;have hl1:f5 f1 n1=l:=by rw[hf1,hn1];exact bW l
 obtain⟨fs,hfs⟩:=eqv (eo (f5 f n) key);obtain⟨fb,hfb⟩:=eqv (eq (f5 f n) key);rw[<-hfs,<-hfb]at SG;refine enX 65 hm hpre hargs Tryz.func100 fun B O a0 Z=>?_
 refine a6 [0,1,2] [0] Z fun X0 Z=>?_
 refine a7 (a6 [16,0,1,2] [0] Z fun X1 Z=>?_);apply b7 Z rfl<;>intro hb Z
 .have hlong:64<val.size:=by
   have:(64:Int)<(val.size:Int):=by subst O;simpa[std,d4]using hb
   omega
  refine a6 [6,7,8] [0] Z fun X2 Z=>?_
  refine i8 ((rx O a8 Z (⟨0,fun _=>A,fun _=>c,fun _=>⟨#[]⟩⟩) [] (he:=?_) (hs:=?_)).1)
  .subst O;simp only[pS,pB,pE,hlong,if_true]
   exact Sim.tup ⟨zr,Sim.bool rfl,zr,trivial⟩
  subst O;exact⟨rfl,⟨_,rfl,⟨by unfold kI;rw[if_pos hlong];exact Sim.resl (j2 f n).symm (fun t ht=>by rw[j2]at ht;rw[u6 f n t ht]),trivial⟩⟩,trivial⟩
 have hlong:¬64<val.size:=by
  have:¬(64:Int)<(val.size:Int):=by subst O;simpa[std,d4]using hb
  omega
 refine f8 (i9 [0,1,2,9,10] [0] [(2,.x fun _=>⟨.tup [.str fs,.bool (.v fb)],[(0,[.sl none A n c 2 (fun i=>itC (f i))])],[]⟩)] Z (hob:=?hob) fun X3 Z=>?_)
 case hob=>
  intro X;subst O;exact⟨⟨yF,SG⟩,trivial⟩
 refine i9 [11,0,1,2,9,10] [0] [(2,.x fun x=>⟨.sl none (x.A 0) n1 (x.c 0) 2 (fun i=>itC (f1 i)),[(0,[.sl none A n c 2 (fun i=>itC (f i))])],[]⟩)] Z (hob:=?hob) fun X4 Z=>?_
 case hob=>
  intro X;subst O;exact⟨⟨yE,SW⟩,trivial⟩
 refine a6 [12,0,1,2,9,10,11] [0,12,45,53,58] Z fun X5 Z=>?_
 refine a6 [12,13,0,1,2,9,10,11] [0,12,45,53,58] Z fun X6 Z=>?_
 replace Z:=Z.headS (v':=.sl (some 12) none 0 0 2 (fun t=>itC (f1 t))) (zq0) rfl;refine a7 (j1 (l3 (ι:=Nat×Option Addr×Nat) (fun p=>[(12,.sl (some 12) p.2.1 p.1 p.2.2 2 (fun t=>itC (f1 t))),(13,.int .i64 (p.1:Int))]) (fun p=>[]) (fun p=>[(12,⟨p.2.1,p.1,p.2.2,2,62⟩)]) (fun p=>p.1<=n1/\∀t,t<p.1->(f1 t).key<key) (fun p=>n1-p.1) (0,none,0) ⟨Nat.zero_le _,fun t ht=>absurd ht (Nat.not_lt_zero _)⟩ Z ?_))
 rintro⟨i,A1,c1⟩ ⟨hi,hlt⟩ _ _ Z
 try dsimp only at hi
 try dsimp only at hlt
 refine a7 (a6 [38,12,13,0,1,2,9,10,11] [0,12,45,53,58] Z (hob:=?hob) fun X7 Z=>?_)
 case hob=>
  intro X;subst O;simp only[i7,Ob.holds,BE.den,List.mem_cons,List.not_mem_nil,or_false,forall_eq_or_imp,forall_eq]
  and_intros<;>first|trivial|(intro h;first|trivial|exact⟨Int.natCast_nonneg _,(of_decide_eq_true h:(i:Int)<(n1:Int))⟩)
 apply b7 Z rfl<;>intro hb Z
 .have h9:(if decide ((i:Int)<(n1:Int))=true then decide ((f1 i).key<key)else false)=true:=by subst O;exact hb
  rw[C0,Bool.and_eq_true,decide_eq_true_eq,decide_eq_true_eq]at h9;have hin:i<n1:=by omega
  have hk:=h9.2;refine f8 (j1 (a6 [12,13,0,1,2,9,10,11] [0,12,45,53,58] Z (hob:=?hob) fun X8 Z=>?_))
  case hob=>
   intro X;subst O
   repeat(first|exact trivial|refine⟨⟨rfl,rfl,rfl⟩,?_⟩|refine⟨rfl,?_⟩|refine⟨⟨show(0:Int)<=(i:Int)by omega,show(i:Int)<(n1:Int)by omega⟩,?_⟩|refine⟨⟨show i+1<=maxLen by omega,show(i+1)*_<=_ by omega⟩,?_⟩)
  replace Z:=Z.headS (v':=.sl (some 12) ((X8 6).A 0) (B.nadd i 1) ((X8 6).c 0) 2 (fun t=>itC (f1 t))) (Sim.resl rfl (fun t ht=>by
   subst O;have ht2:t<i+1:=ht
   show D3 i (fun t=>itC (f1 t)) (C9 2 [.int .u64 (f1 i).key,.str (f1 i).val]) t=_
   unfold D3
   split
   .rfl
   .have:t=i:=by omega
    subst this;simp[C9,itC]
   )) rfl
  refine j5 [12,13,0,1,2,9,10,11] [0,12,45,53,58] Z fun X9 Z=>?_
  have e:B.arith .add .i64 (i:Int) 1=((i+1:Nat):Int):=by subst O;exact k4 (n:=n1) hin (by omega)
  refine⟨(i+1,_,_),⟨by simp only;omega,fun t ht=>?_⟩,by simp only;omega,by rw[<-e,show i+1=B.nadd i 1 by subst O;rfl];exact Z⟩
  by_cases h:t=i
  .rw [h];exact hk
  exact hlt t (by simp only at ht;omega)
 have h9:(if decide ((i:Int)<(n1:Int))=true then decide ((f1 i).key<key)else false)=false:=by subst O;exact hb
 rw[C0]at h9;have hend:i<n1-> ¬(f1 i).key<key:=fun h hk=>by
  rw[decide_eq_true (show(i:Int)<(n1:Int)by omega),decide_eq_true hk]at h9
  cases h9
 have hPL:=DX (val:=val) hl1 hi hlt hend;have hPM:kI (f5 f n) key val=f5 (yj f1 i ⟨key,val⟩) (n1+1):=by unfold kI Iv;rw[if_neg hlong,<-hl];exact hPL
 refine j9 (a6 [12,13,0,1,2,9,10,11] [0,12,45,53,58] Z (hob:=?hob) fun X10 Z=>?_)
 case hob=>
  intro X;subst O
  repeat(first|exact trivial|refine⟨⟨rfl,rfl,rfl⟩,?_⟩|refine⟨rfl,?_⟩|refine⟨⟨show i+1<=maxLen by omega,show(i+1)*_<=_ by omega⟩,?_⟩)
 replace Z:=Z.headS (v':=.sl (some 12) ((X10 5).A 0) (B.nadd i 1) ((X10 5).c 0) 2 (fun t=>itC ((V3 f1 i ⟨key,val⟩) t))) (Sim.resl rfl (fun t ht=>by
  subst O;have ht2:t<i+1:=ht
  show D3 i (fun t=>itC (f1 t)) (C9 2 [.int .u64 key,.str val]) t=_
  unfold D3 V3
  split
  .rw [if_neg (by omega)]
  .have:t=i:=by omega
   subst this;simp[C9,itC]
  )) rfl
 refine a6 [12,0,9,10] [0,12,45,53,58] Z (hob:=?hob) fun X11 Z=>?_
 case hob=>
  intro X;subst O
  repeat(first|exact trivial|refine⟨⟨rfl,rfl,rfl⟩,?_⟩|refine⟨⟨show(0:Int)<=(i:Int)by omega,show(i:Int)<=(n1:Int)by omega,Int.le_refl _⟩,?_⟩|refine⟨⟨show i+1+(n1-i)<=maxLen by omega,show(i+1+(n1-i))*_<=_ by omega⟩,?_⟩|refine⟨rfl,?_⟩)
 replace Z:=Z.headS (v':=.sl (some 12) ((X11 4).A 0) (B.nadd (B.nadd i 1) (B.nsub (B.toNat (B.ofNat n1)) (B.toNat (i:Int)))) ((X11 4).c 0) 2 (fun t=>itC (yj f1 i ⟨key,val⟩ t))) (Sim.resl rfl (fun t ht=>by
  subst O;have ht2:t<i+1+((n1:Int).toNat-(i:Int).toNat):=ht
  show D3 (i+1) (fun t=>itC (V3 f1 i ⟨key,val⟩ t)) (Bv i (fun t=>itC (f1 t))) t=_
  unfold D3 V3 yj Bv
  by_cases h1:t<i
  .simp [h1,show t<i+1 by omega,show ¬t=i by omega]
  by_cases h2:t=i
  .simp [h2]
  simp[h1,h2,show ¬t<i+1 by omega,show i+(t-(i+1))=t-1 by omega])) rfl
 refine a6 [9,10] [0] Z (hob:=?hob) fun X12 Z=>?_
 case hob=>
  intro X;subst O
  repeat(first|exact trivial|refine⟨rfl,?_⟩|refine⟨⟨show(0:Int)<=(i:Int)by omega,show(i:Int)<(n:Int)by omega⟩,?_⟩)
 refine a6 [6,7,8] [0] Z fun X13 Z=>?_
 refine i8 ((rx O a8 Z (⟨0,fun _=>(X11 4).A 0,fun _=>(X11 4).c 0,fun _=>⟨#[]⟩⟩) [] (he:=?_) (hs:=?_)).1)
 .subst O;simp only[pS,pB,pE,hlong,if_false,<-hfs,<-hfb]
  exact zr
 subst O;exact⟨rfl,⟨_,rfl,⟨by rw[hPM];exact Sim.resl (by rw[j2];show i+1+((n1:Int).toNat-(i:Int).toNat)=n1+1;omega) (fun t ht=>by rw[j2]at ht;rw[u6 _ _ t ht]),trivial⟩⟩,trivial⟩
theorem IP(k0:Nat)(b:Nat)(A:Option Addr)(n c:Nat)(f:Nat->Itm)(hn:n<=1000000)(key:Int)(val:ByteArray):C1 Tryz.prog 100 [.ptr k0 b 0,.int .u64 key,.str val] [(k0,⟨b,85,[s4 A n c f]⟩)] (fun x=>⟨.tup [.str (pS (f5 f n) key val),.bool (.v (pB (f5 f n) key val)),.int .i64 (pE val)],[(k0,[s4 (x.A 0) (kI (f5 f n) key val).length (x.c 0) (itF (kI (f5 f n) key val))])],[]⟩):=
 (Et b A n c f hn key val).re (by repeat(first|exact trivial|refine⟨Sim.ptr,?_⟩|refine⟨Sim.fn ⟨Sim.ptr,trivial⟩ trivial,?_⟩|refine⟨Sim.fn trivial ⟨Sim.ptr,trivial⟩,?_⟩|refine⟨zr,?_⟩)) rfl (fun x=>⟨rfl,rfl,zr,rfl⟩)
theorem LX(A:Option Addr)(n c:Nat)(f:Nat->Itm)(hn:n<=1000000):C1 Tryz.prog 44 [s4 A n c f] [] (fun x=>⟨.ptr 6 x.b 0,[],[(6,⟨x.b,85,[s4 (x.A 0) (ofL (f5 f n)).length (x.c 0) (itF (ofL (f5 f n)))]⟩)]⟩):=by
 intro m w hm hargs hpre;have hmx:maxLen=9223372036854775807:=rfl;unfold s4 at hargs;refine enX 26 hm hpre hargs Tryz.func44 fun B O a0 Z=>?_
 refine a6 [0] [] Z fun X0 Z=>?_
 refine a6 [3,0] [6] Z fun X1 Z=>?_
 replace Z:=Z.memS (cells':=[.sl none none 0 0 2 (fun t=>itC (itF [] t))]) ⟨zq0,trivial⟩;refine a7 (a6 [4,0,3] [6] Z fun X2 Z=>?_);refine j1 (l3 (ι:=Nat×Nat×(Nat->Itm)×Option Addr×Nat) (fun p=>[(4,.int .i64 (p.1:Int))]) (fun p=>[(6,⟨(X1 1).b,85,[.sl none p.2.2.2.1 p.2.1 p.2.2.2.2 2 (fun t=>itC (p.2.2.1 t))]⟩)]) (fun p=>[]) (fun p=>p.1<=n/\p.2.1=(ofL (f5 f p.1)).length/\p.2.2.1=itF (ofL (f5 f p.1))) (fun p=>n-p.1) (0,0,itF [],none,0) ⟨Nat.zero_le _,rfl,rfl⟩ Z ?_)
 rintro⟨i,m1,g,A1,c1⟩ ⟨hi,hm1,hg⟩ _ _ Z
 try dsimp only at hi
 try dsimp only at hm1
 try dsimp only at hg
 refine a7 (a6 [10,4,0,3] [6] Z fun X3 Z=>?_);apply b7 Z rfl<;>intro hb Z
 .have hin:i<n:=by
   have:(i:Int)<(n:Int):=by subst O;simpa[std,d4]using hb
   omega
  have hml:m1<=1000000:=by rw[hm1];have:=vH f i;omega
  have hfm:f5 g m1=ofL (f5 f i):=by rw[hg,hm1];exact bW _
  have SP:=IP 6 (X1 1).b A1 m1 c1 g hml (f i).key (f i).val;unfold s4 at SP;obtain⟨l2,hl2⟩:=eqv (kI (f5 g m1) (f i).key (f i).val);rw[<-hl2]at SP;obtain⟨n2,hn2⟩:=eqv (l2.length);obtain⟨g2,hg2⟩:=eqv (itF l2);rw[<-hn2,<-hg2]at SP
  generalize pS (f5 g m1) (f i).key (f i).val=ps at SP
  generalize pB (f5 g m1) (f i).key (f i).val=pb at SP
  generalize pE (f i).val=pe at SP
  refine f8 (a7 (j1 (drg O a8 [4,0,3] [6] [(11,.x fun x=>⟨.tup [.str ps,.bool (.v pb),.int .i64 pe],[(6,[.sl none (x.A 0) n2 (x.c 0) 2 (fun t=>itC (g2 t))])],[]⟩)] Z (hob:=?hob) fun X5 _ _ Z=>?_)))
  case hob=>
   intro X;subst O
   repeat(first|exact trivial|refine⟨rfl,?_⟩|refine⟨⟨show(0:Int)<=(i:Int)by omega,show(i:Int)<(n:Int)by omega⟩,?_⟩|refine⟨⟨yK,SP⟩,?_⟩)
  refine j5 [4,0,3] [6] Z fun X4 Z=>?_
  have e:B.arith .add .i64 (i:Int) 1=((i+1:Nat):Int):=by subst O;exact k4 (n:=n) hin (by omega)
  refine⟨(i+1,n2,g2,(X5 11).A 0,(X5 11).c 0),⟨by simp only;omega,?_,?_⟩,by simp only;omega,by rw[<-e];exact Z⟩
  .simp only;rw[aT,hn2,hl2,hfm]
  simp only;rw[aT,hg2,hl2,hfm]
 have hout:i=n:=by
  have:¬(i:Int)<(n:Int):=by subst O;simpa[std,d4]using hb
  omega
 rw[hout]at hm1 hg;refine j9 (a6 [2] [6] Z fun X6 Z=>?_);refine i8 ((rx O a8 Z (⟨(X1 1).b,fun _=>A1,fun _=>c1,fun _=>⟨#[]⟩⟩) [6] (he:=?_) (hs:=?_) (hn:=?_)).1)
 .subst O;exact zr
 .exact trivial
 exact⟨⟨_,rfl,⟨by rw[hg,hm1];exact zr,trivial⟩⟩,fun e he=>(by cases he),(by simp),trivial⟩
def zJ:j4:=⟨0,⟨0,0⟩,0,0,⟨#[]⟩,0,none,0,0,fun _=>0,0,0,0,0,0,0,0⟩
theorem KP:eu zJ:=⟨⟨by decide,by decide⟩,⟨by decide,by decide⟩,⟨by decide,by decide⟩⟩
theorem HL(g:Option Nat)(k:Nat)(f:Nat->List AV):G3 [.agg [.int .i64 0,.int .i64 0,.int .u64 0,.int .u64 0,.int .u64 0,.str ⟨#[]⟩,.int .i64 0,.sl none none 0 0 1 (fun _=>[]),.int .u32 0,.int .u32 0,.int .u32 0,.int .u32 0,.int .i64 0,.int .i64 0,.int .i64 0],.sl g none 0 0 k f] [Z6 zJ,ej none 0 0 (fun _=>lD)]:=⟨Sim.agg ⟨zr,zr,zr,zr,zr,zr,zr,Sim.nils,zr,zr,zr,zr,zr,zr,zr,trivial⟩,Sim.nils,trivial⟩
theorem LB{l:List Rw}(h:∀w∈l,w.r.items.length<=1000000/\u0 w.lab/\U64 w.lab.bits/\U64 w.r.next.bits)(y:j8):RwN l.length (lS y l):=by
 intro i hi;unfold lS;rw[List.getD_eq_getElem?_getD,List.getElem?_eq_getElem hi];exact h _ (List.getElem_mem hi)
theorem Ak{r:Rw}(h:r∈eB 3 (itF ptM) 1):isL r.lab=true/\U64 r.lab.bits/\U64 r.ver/\U64 r.r.next.bits/\r.r.items.length<=100/\∀x∈r.r.items,U64 x.key:=Ii (List.all_eq_true.1 Ea r h)
theorem LO(y:j8):RwN (eB 3 (itF ptM) 1).length (lS y (eB 3 (itF ptM) 1)):=LB (fun w hw=>by
 obtain⟨h1,h2,h3,h4,h5,h6⟩:=Ak hw;exact⟨by omega,mD h1 h2,h2,h4⟩) y
theorem Al:fU ptS:=om (fun r hr=>by
 obtain⟨h1,h2,h3,h4,h5,h6⟩:=Ak hr;exact⟨mD h1 h2,h3,h4,h6⟩) LN
theorem CU:I4 zJ 0 (fun _=>lD)=(zWq,1):=by kernel_rfl
theorem HM:aW zJ:=⟨⟨by decide,by decide⟩,⟨by decide,by decide⟩,⟨by decide,by decide⟩,⟨by decide,by decide⟩⟩
theorem Ao(x1 x2 y1 y2:Int):eu (ptJ x1 x2 y1 y2):=⟨nY,nY,nY⟩
theorem An:aW (ptJ 1 2 0 9):=⟨⟨by decide,by decide⟩,⟨by decide,by decide⟩,⟨by decide,by decide⟩,⟨by decide,by decide⟩⟩
theorem Am:aW (ptJ 2 1 0 0):=⟨⟨by decide,by decide⟩,⟨by decide,by decide⟩,⟨by decide,by decide⟩,⟨by decide,by decide⟩⟩
theorem Ix:∀i,i<3->U64 (itF ptM i).key:=fun i hi=>by
 match i,hi with
 |0,_=>exact⟨by decide,by decide⟩
 |1,_=>exact⟨by decide,by decide⟩
 |2,_=>exact⟨by decide,by decide⟩
theorem tW(x y:Nat)(z:Int)(hx:x<2^32)(hy:y<2^32)(h:((wvN x y:Nat):Int)=z):k9 Tryz.prog 43 [.int .u32 (x:Int),.int .u32 (y:Int)] (fun _=>.int .u64 z):=h ▸ HN x y hx hy
theorem Aj(g:Option Nat)(A:Option Addr)(c:Nat):C1 Tryz.prog 44 [.sl g A 3 c 2 (fun i=>itC (ptF i))] [] (fun x=>⟨.ptr 200 x.b 0,[],[(200,⟨x.b,85,[.sl none (x.A 0) 3 (x.c 0) 2 (fun i=>itC (itF ptM i))]⟩)]⟩):=by
 have h:=LX A 3 c ptF (by decide);rw[LP]at h;exact h.re ⟨Sim.recell (fun _ _=>rfl),trivial⟩ rfl (fun x=>⟨rfl,rfl,Sim.ptr,rfl⟩)
theorem Hb(x1 x2 y1 y2:Int):k9 Tryz.prog 45 [.agg [.int .u32 x1,.int .u32 x2,.int .u32 y1,.int .u32 y2],.int .i64 1,.int .i64 1] (fun _=>Z6 (ptJ x1 x2 y1 y2)):=by
 intro m w hm hargs;refine en 11 hm hargs Tryz.func45 fun B O a0 Z=>?_
 refine a6 [1,2,3,6] [3,6] Z fun X0 Z=>?_
 refine a6 [6] [6] Z fun X1 Z=>?_
 refine z7 Z ?_;subst O;exact Sim.agg ⟨zr,zr,zr,zr,zr,zr,zr,Sim.nils,zr,zr,zr,zr,zr,zr,zr,trivial⟩
theorem cR:k9 Tryz.prog 14 [] (fun _=>.bool .tt):=by
 intro m w hm hargs;have hmx:maxLen=9223372036854775807:=rfl;obtain⟨n1,l1,hq1⟩:=DZ;have hq2:=DY;have SW1:k9 Tryz.prog 43 [.int .u32 1,.int .u32 1] (fun _=>.int .u64 3):=tW 1 1 3 (by decide) (by decide) (by rw[Iw.1];rfl);have SW2:k9 Tryz.prog 43 [.int .u32 5,.int .u32 1] (fun _=>.int .u64 19):=tW 5 1 19 (by decide) (by decide) (by rw[Iw.2.1];rfl);have SW3:k9 Tryz.prog 43 [.int .u32 2,.int .u32 2] (fun _=>.int .u64 12):=tW 2 2 12 (by decide) (by decide) (by rw[Iw.2.2];rfl);have SB:=fun(A:Option Addr) (c:Nat)=>Ge A 3 c (itF ptM) (by decide) Ix 1
 have hbn:=LO;have hnew:=LN;simp only[Nr,s4]at SB;obtain⟨R,hR⟩:=eqv (eB 3 (itF ptM) 1);simp only[<-hR]at SB hbn hnew;have hrn:=Nq;rw[<-hR]at hrn;obtain⟨rn,hrn0⟩:=eqv R.length;simp only[<-hrn0]at SB hbn;rw[<-hrn0]at hrn;have hRR:∀y,J8 (lS y R) rn=R:=fun y=>by rw[hrn0];exact xz y R
 obtain⟨RF,hRF⟩:∃RF:j8->Nat->D4,RF=fun y=>lS y R:=⟨_,rfl⟩
 have hRy:∀y,lS y R=RF y:=fun y=>by rw[hRF]
 simp only[hRy]at SB hbn hRR;have hgood:=Al;obtain⟨S0,hS0⟩:=eqv ptS;rw[<-hS0]at hnew hgood hq1 hq2;obtain⟨ln1,hln1⟩:=eqv l1.length;obtain⟨lf1,hlf1⟩:=eqv (cX l1);obtain⟨W1,hW1⟩:=eqv (((zWq,(1:Int))).1);obtain⟨E1,hE1⟩:=eqv (((zWq,(1:Int))).2);obtain⟨rr1,hrr1⟩:=eqv (W1.r.rn);obtain⟨nn1,hnn1⟩:=eqv (W1.res.items.length);obtain⟨ff1,hff1⟩:=eqv (itF W1.res.items);have T1:=k9.wq (by have h:=(ma zJ KP HM none 0 0 (fun _=>lD) (by omega) (fun j hj=>absurd hj (Nat.not_lt_zero _)));rw[CU]at h;exact h) hW1 hE1 hrr1 hnn1 hff1;have S1:∀g k fz,k9 Tryz.prog 12 [.agg [.int .i64 0,.int .i64 0,.int .u64 0,.int .u64 0,.int .u64 0,.str ⟨#[]⟩,.int .i64 0,.sl none none 0 0 1 (fun _=>[]),.int .u32 0,.int .u32 0,.int .u32 0,.int .u32 0,.int .i64 0,.int .i64 0,.int .i64 0],.sl g none 0 0 k fz] (fun x=>.tup [E5 (wqB x W1 rr1 nn1 ff1),.int .i64 E1]):=fun g k fz=>T1.sim (HL g k fz)
 refine en 104 hm hargs Tryz.func14 fun B O a0 Z=>?_
 refine a6 [] [] Z fun X0 Z=>?_
 have O1:=SW1;have O2:=SW2;have O3:=SW3;refine i9 [1] [20] [(0,.r fun _=>.int .u64 3),(2,.r fun _=>.int .u64 19),(4,.r fun _=>.int .u64 12)] Z fun X1 Z=>?_
 replace Z:=Z.headS (v':=.sl (some 20) (some { block:=(X1 6).b,off:=0 }) 3 3 2 (fun i=>itC (ptF i))) (Sim.recell (fun i hi=>by subst O;match i,hi with|0,_=>rfl|1,_=>rfl|2,_=>rfl)) rfl;refine i9 [2,3] [] [(1,.x fun x=>⟨.ptr 200 x.b 0,[],[(200,⟨x.b,85,[.sl none (x.A 0) 3 (x.c 0) 2 (fun i=>itC (itF ptM i))]⟩)]⟩),(5,.r fun y=>.tup [.sl none (y.A 0) rn (y.c 0) 8 (fun i=>J2 (RF y i)),.int .i64 0])] Z (hob:=?hob) fun X2 Z=>?_
 case hob=>
  intro X;subst O
  repeat(first|exact trivial|refine⟨rfl,?_⟩|refine⟨fun _=>rfl,?_⟩|refine⟨⟨fun _ _=>by kernel_rfl,Aj _ _ _⟩,?_⟩|refine⟨fun _=>⟨fun _ _=>by kernel_rfl,Aj _ _ _⟩,?_⟩|refine⟨⟨fun _ _=>by kernel_rfl,SB _ _⟩,?_⟩|refine⟨fun _=>⟨fun _ _=>by kernel_rfl,SB _ _⟩,?_⟩|refine⟨fun _=>u5 (Kk:=noK) _ _ _ _,?_⟩|refine⟨fun _=>⟨by decide,by decide⟩,?_⟩)
 refine a7 (a6 [31,2] [] Z fun X3 Z=>?_);apply b7 Z rfl<;>intro hb Z
 .exfalso
  subst O;simp[std,d4,BE.den]at hb
 skip
 refine f8 (a7 (wp_region_lit (lpr 0 1 O a8 [33] [] [] Z fun X5_0 _ _ Z=>?_)));have SN:=vK ((X2 5).A 0) rn ((X2 5).c 0) (RF (X2 5)) (by omega) (hbn (X2 5)) 900 (L:=S0) (by rw[hRR];exact hnew);refine I8 rfl rfl rfl rfl Z rfl rfl ne (SN) (fun _ _ _=>trivial) (fun b hb=>by cases hb) ⟨zr,trivial⟩ (by intro e he;cases he) rfl rfl (fun y=>shF w.heap.size (y.c 0) S0) (fun n x m w m' w' hn _ _ h=>⟨Nat.le_trans hn h.1,h.2⟩) ?_;intro y _ _ Z;obtain⟨sb,hsb⟩:=eqv (y.b);obtain⟨bM,hbM⟩:=eqv (y.c 0);rw[<-hsb,<-hbM]at Z;have hbfr:w.heap.size<=bM:=Z.kept.1;replace Z:=Z.withK (K':=shK bM S0) Z.kept.2;refine lnd 2 O a8 [4,5] [900] [] Z fun X5 _ _ Z=>?_
 refine a7 (a6 [42,4] [900] Z fun X6 Z=>?_);apply b7 Z rfl<;>intro hb Z
 .exfalso
  subst O;simp[std,d4,BE.den]at hb
 skip
 have O1:=Hb 1 2 0 9;refine f8 (a7 (wp_region_lit (lpr 0 3 O a8 [44,46,4] [900] [(2,.r fun _=>Z6 (ptJ 1 2 0 9))] Z fun X8_0 _ _ Z=>?_)));have SD:=vu 900 sb bM (ptJ 1 2 0 9) (Ao _ _ _ _) An (fun _=>⟨0,⟨0,0⟩,0,zRA,⟨0,false,.empty,none,0,0,fun _=>s7,0,false⟩⟩) S0 hgood 0;rw[hq1]at SD;have SE:P9 Tryz.prog 19 [.ptr 900 sb 0,Z6 (ptJ 1 2 0 9),.sl none none 0 0 15 (fun i=>ce ((fun _=>⟨0,⟨0,0⟩,0,zRA,⟨0,false,.empty,none,0,0,fun _=>s7,0,false⟩⟩) i))] [(900,⟨sb,95,[.raw (.map (some bM)),.int .i64 0]⟩)] (some bM) (shK bM S0) (fun y=>⟨.tup [.agg [.int .i64 0,.bool (.v false),.str ⟨#[]⟩,.sl none (y.A 2) 2 (y.c 2) 2 (fun i=>itC (itF [⟨3,⟨#[97]⟩⟩,⟨12,⟨#[99]⟩⟩] i)),.int .u64 0,.bool (.v false)],ko (y.A 3) ln1 (y.c 3) lf1,.bool (.v true)],[(900,[.raw (.map (some bM)),.int .i64 0])],[]⟩) (fun _ _=>shK bM S0):=by
  rw[hln1,hlf1];exact SD
 refine I8 rfl rfl rfl rfl Z rfl rfl sR SE (fun _ _ h=>h) (fun b hb=>by cases hb;exact fun h=>absurd h (Nat.not_lt.2 hbfr)) ⟨zr,zr,Sim.nils,trivial⟩ (by intro e he;simp only[List.mem_singleton]at he;subst he;rfl) rfl rfl (fun _=>shK bM S0) (fun _ _ _ _ _ _ _ _ _ h=>h) ?_;intro y _ _ Z;replace Z:=Z.withK (K':=shK bM S0) Z.kept;refine lnd 4 O a8 [4,6,8] [900,6] [(2,.r fun _=>Z6 (ptJ 1 2 0 9))] Z fun X8 _ _ Z=>?_
 have O1:=Hb 2 1 0 0;refine a7 (wp_region_lit (lpr 0 3 O a8 [52,54,6,8,4] [900,6] [(2,.r fun _=>Z6 (ptJ 2 1 0 0))] Z fun X9_0 _ _ Z=>?_));have SD:=vu 900 sb bM (ptJ 2 1 0 0) (Ao _ _ _ _) Am (fun _=>⟨0,⟨0,0⟩,0,zRA,⟨0,false,.empty,none,0,0,fun _=>s7,0,false⟩⟩) S0 hgood 0;rw[hq2]at SD;have SE:P9 Tryz.prog 19 [.ptr 900 sb 0,Z6 (ptJ 2 1 0 0),.sl none none 0 0 15 (fun i=>ce ((fun _=>⟨0,⟨0,0⟩,0,zRA,⟨0,false,.empty,none,0,0,fun _=>s7,0,false⟩⟩) i))] [(900,⟨sb,95,[.raw (.map (some bM)),.int .i64 0]⟩)] (some bM) (shK bM S0) (fun y=>⟨.tup [.agg [.int .i64 5,.bool (.v false),.str ⟨#[]⟩,.sl none (y.A 2) 0 (y.c 2) 2 (fun i=>itC (itF [] i)),.int .u64 0,.bool (.v false)],ko (y.A 3) 0 (y.c 3) (cX []),.bool (.v true)],[(900,[.raw (.map (some bM)),.int .i64 0])],[]⟩) (fun _ _=>shK bM S0):=by
  exact SD
 refine I8 rfl rfl rfl rfl Z rfl rfl sR SE (fun _ _ h=>h) (fun b hb=>by cases hb;exact fun h=>absurd h (Nat.not_lt.2 hbfr)) ⟨zr,zr,Sim.nils,trivial⟩ (by intro e he;simp only[List.mem_singleton]at he;subst he;rfl) rfl rfl (fun _=>shK bM S0) (fun _ _ _ _ _ _ _ _ _ h=>h) ?_;intro y _ _ Z;replace Z:=Z.withK (K':=shK bM S0) Z.kept;refine lnd 4 O a8 [6,8,9,11] [6,9] [(2,.r fun _=>Z6 (ptJ 2 1 0 0))] Z fun X9 _ _ Z=>?_
 refine a7 ?_;have O4:=S1;refine f7 [6,8,9,11,13] [6,9] [(1,.r fun x=>.tup [.agg [.int .i64 W1.kind,.int .i64 W1.lab.len,.int .u64 W1.lab.bits,.int .u64 W1.ver,.int .i64 rr1.kd,.sl none (x.A 1) rr1.n (x.c 1) 2 (fun i=>itC (rr1.f i)),.int .i64 rr1.nx.len,.int .u64 rr1.nx.bits,.int .u64 rr1.mrk,.int .i64 W1.res.code,.bool (.v W1.res.had),.str W1.res.val,.sl none (x.A 2) nn1 (x.c 2) 2 (fun i=>itC (ff1 i)),.int .u64 W1.res.key,.bool (.v W1.res.more)],.int .i64 E1])] Z fun X10 Z=>?_
 refine a6 [0] [] Z (hob:=?hob) fun X11 Z=>?_
 case hob=>
  intro X;subst O;simp only[i7,Ob.holds,BE.den]<;>(and_intros<;>repeat first|trivial|rfl|decide|exact⟨by decide,by decide⟩|intro h)
 refine z7 Z ?_;subst O;refine Sim.bool ?_;simp[std,d4,kV,BE.den,fT,hE1]
 try exact String.beq_self _
theorem zK(cd:Int)(hd:Bool)(vl:ByteArray)(A:Option Addr)(n c:Nat)(A2:Option Addr)(c2:Nat)(f:Nat->Itm)(k:Int)(mr:Bool):k9 Tryz.prog 47 [.agg [.int .i64 cd,.bool (.v hd),.str vl,.sl none A n c 2 (fun i=>itC (f i)),.int .u64 k,.bool (.v mr)],.agg [.int .i64 cd,.bool (.v hd),.str vl,.sl none A2 n c2 2 (fun i=>itC (f i)),.int .u64 k,.bool (.v mr)]] (fun _=>.bool .tt):=by
 intro m w hm hargs;have hn:n<=maxLen:=by
  have h9:=hargs _ (List.mem_cons_self ..);have:=jE (Aw h9 (.sl none A n c 2 (fun i=>itC (f i))) (by simp));omega
 have S:=vp A n c f hn A2 n c2 f;rw[show ef n f n f=true from jx rfl fun _ _=>rfl]at S;simp only[s4]at S;refine en 45 hm hargs Tryz.func47 fun B O a0 Z=>?_
 refine a6 [2,3] [2,3] Z fun X0 Z=>?_
 have O1:=S;refine i9 [4] [] [(24,.r fun _=>.bool (.v true))] Z fun X1 Z=>?_
 refine z7 Z ?_;subst O;refine Sim.bool ?_;simp[std,d4,kV,BE.den,fT]
 try exact String.beq_self _
theorem DB(x y:j8)(W:Wq)(rr:RN)(nn:Nat)(ff:Nat->Itm):k9 Tryz.prog 15 [E5 (wqB x W rr nn ff),E5 (wqB y W rr nn ff)] (fun _=>.bool .tt):=by
 intro m w hm hargs;have hn:rr.n<=maxLen:=by
  have h9:=hargs _ (List.mem_cons_self ..);have:=jE (Aw h9 (.sl none (x.A 1) rr.n (x.c 1) 2 (fun i=>itC (rr.f i))) (by simp));omega
 have S:=zL (x.A 1) rr.n (x.c 1) rr.f hn rr.kd rr.nx rr.mrk (y.A 1) rr.n (y.c 1) rr.f rr.kd rr.nx rr.mrk;rw[xx,decide_eq_true rfl]at S;simp only[R3,s4]at S;have S2:=zK W.res.code W.res.had W.res.val (x.A 2) nn (x.c 2) (y.A 2) (y.c 2) ff W.res.key W.res.more;refine en 38 hm hargs Tryz.func15 fun B O a0 Z=>?_
 refine a6 [2,3] [2,3] Z fun X0 Z=>?_
 refine a7 ?_;have O4:=S;have O5:=S2;refine f7 [4] [] [(24,.r fun _=>.bool (.v true)),(31,.r fun _=>.bool .tt)] Z fun X1 Z=>?_
 refine z7 Z ?_;subst O;refine Sim.bool ?_;simp[std,d4,BE.den,fT,cF]
abbrev E7:AV:=.agg [.int .i64 0,.int .u64 0,.int .i64 0,.int .u64 0,.bool .ff,.int .i64 0,.sl none none 0 0 2 (fun _=>[]),.int .i64 0,.int .u64 0,.int .u64 0]
theorem LOk.zero{l:Lab}(h:LOk l):l.len=0↔l=u9:=by
 obtain⟨_,_,h3⟩:=r8 h.isl
 constructor
 .intro h0
  obtain⟨a,b⟩:=l;dsimp only at h0 h3;subst h0;have hu:=h.u;unfold U64 at hu;dsimp only at hu;have:F5 b.toNat (0:Int).toNat=0:=by
   show b.toNat / 2^64*2^64=0
   rw[Nat.div_eq_of_lt (by omega),Nat.zero_mul]
  rw[this]at h3;simp at h3;rw[<-h3]
 intro h0;rw[h0]
theorem FE(k0 b:Nat)(J:j4)(hJ:l6 J)(E:s8)(hE:E.n<=1000000)(N:Nat)(p:Pst)(hR:Rel E N p)(hp:j3 p)(hn:p.n<=1000000)(l:Lab)(v:Int):B5 119 k0 b J E N p [i6 l,.int .u64 v,sv] (fun d=>.bool (.v d)) (.bool .ff) (aw (J.budget-E.n) l v kj p):=
 B5.re (gR 0 b J hJ E hE N p hR hp hn l v ⟨none,0,kj.rn⟩) ⟨zr,zr,Sim.agg ⟨zr,U1,zr,zr,zr,trivial⟩,trivial⟩
theorem LS{n:Int}(h:ofE n=0)(h0:0<=n):n<=64:=by
 unfold ofE at h
 split at h
 .cases h
 omega
theorem LR{n:Int}(h:¬ofE n=0)(h0:0<=n):64<n:=by
 unfold ofE at h
 split at h
 .omega
 exact absurd rfl h
theorem Fk(b:Nat)(J:j4)(hJ:l6 J)(E:s8)(hE:E.n<=1000000)(N:Nat)(p:Pst)(hR:Rel E N p)(hp:j3 p)(hn:p.n<=1000000)(key:Int)(hk:U64 key)(l:Lab)(hl:LOk l)(n:Nat)(hf:p.n<n):B5 152 0 b J E N p [.int .u64 key,i6 l] (G9) (E7) (D9 J.bucket (J.budget-E.n) key n l p):=by
 intro m w hm hargs hpre;have hN0:N=E.n-p.n:=by have:=hR.n;omega
 have SN:=qa;simp only[i6,F1]at SN;refine enX 70 hm hpre hargs Tryz.func152 fun B O a0 Z=>?_
 refine a6 [0,1,5,6] [0,5,6] Z fun X0 Z=>?_
 refine a7 (j1 (l3 (ι:=LSt×Lab) (fun q=>[]) (fun q=>[(0,⟨b,147,lsC J E q.1⟩),(5,⟨(X0 0).b,24,[.int .i64 q.2.len,.int .u64 q.2.bits]⟩)]) (fun q=>[]) (fun q=>match q.1 with| .go a r M=>D9 J.bucket (J.budget-E.n) key n l p=D9 J.bucket (J.budget-E.n) key a q.2 r/\j3 r/\r.n<=1000000/\Rel E M r/\r.n<a/\r.n<=p.n/\LOk q.2| .dn r M=>False| .sp M Q u=>∃(X:j8) (wq:Wq) (pp:Pst),D9 J.bucket (J.budget-E.n) key n l p = .stop wq pp/\M=E.n-pp.n/\Q=wqA X wq/\u=pp.note) (fun q=>lsM q.1) (.go n p N,l) ⟨rfl,hp,hn,hR,(by skip;omega),(by skip;omega),hl⟩ Z ?_))
 rintro q hJ _ _ Z
 rcases q with⟨⟨nn0,p0,N0⟩|⟨p9,N9⟩|⟨N0,Q0,t0⟩,l0⟩
 .dsimp only[lsC,lsB]at hJ Z
  obtain⟨hrun0,hp0,hn0,hR0,hf0,hle0,hl0⟩:=hJ;obtain⟨m0,rfl⟩:∃n2,nn0=n2+1:=⟨nn0-1,by omega⟩
  have hN0:N0=E.n-p0.n:=by have:=hR0.n;omega
  refine a7 (a6 [14,0,1,5,6] [0,5,6] Z fun X1 Z=>?_);refine l7 Z rfl (fun Z=>?_);refine f8 (j1 (a7 ?_))
  rcases(P1 0 b J hJ E hE N0 p0 hR0 hp0 hn0 l0).two (k8 _ _ _) hp0 hn0 hR0 with⟨g2,p2,N2,hm2,hs2,hp2,hn2,hR2,hN2,S2⟩|⟨wq2,p2,N2,W2,hm2,hs2,hN2,hW2,S2⟩
  .have hl2:=B7 hm2
   have hg2:=hp0.get hm2;have hr2:=hp0.getR hm2;have O1:=S2;refine f7 [0,1,5,6,7] [0,5,6,7] [(2,lc J E (B2 g2) N2 p2)] Z fun X2 Z=>?_
   refine a7 (a6 [21,0,1,5,6,7] [0,5,6,7] Z fun X3 Z=>?_);refine l4 Z rfl (fun Z=>?_);refine f8 (a7 (a6 [25,0,1,5,6,7] [0,5,6,7] Z fun X5 Z=>?_));apply b7 Z rfl<;>intro hb Z
   .have hh:g2.has=false:=by
     have h9:(!g2.has)=true:=by subst O;exact hb
     simpa using h9
    refine a7 (a6 [28,0,1,5,6,7] [0,5,6,7] Z fun X6 Z=>?_);apply b7 Z rfl<;>intro hb Z
    .have h0:l0.len=0:=by subst O;simpa[std,d4]using hb
     have tz:=hl0.zero.1 h0;subst tz
     rcases(FE 0 b J hJ E hE N2 p2 hR2 hp2 hn2 u9 g2.ver).two (A5 _ _ _ _ _) hp2 hn2 hR2 with⟨d7,p7,N7,hm7,hs7,hp7,hn7,hR7,hN7,S7⟩|⟨wq7,p7,N7,W7,hm7,hs7,hN7,hW7,S7⟩
     .have O1:=SN
      have O2:=S7;refine drg O a8 [0,1,5,6] [0,5,6] [(4,.r fun _=>.agg [.int .i64 (-1),.int .u64 0]),(6,lc J E (.bool (.v d7)) N7 p7)] Z fun X7 _ _ Z=>?_
      refine a6 [0,1,5,6] [0,5,6] Z fun X8 Z=>?_
      replace Z:=Z.keep [0,1,5,6] [0,5,6];exact j9 (⟨(.go m0 p7 N7,u9),⟨by rw[hrun0];simp[D9,Rs.bind,hrun0,D9,hm2,gk,hh,hm7],hp7,hn7,hR7,(by have:=hf0;have:=hle0;have:=hl2;have:=hs7.le;omega),(by have:=hf0;have:=hle0;have:=hl2;have:=hs7.le;omega),P5⟩,by simp[lsM],Z⟩)
     have O1:=SN;have O2:=S7;refine drg O a8 [0,1,5,6] [0,5,6] [(4,.r fun _=>.agg [.int .i64 (-1),.int .u64 0]),(6,sc J E (.bool .ff) N7 W7 p7.note)] Z fun X7 _ _ Z=>?_
     refine a6 [0,1,5,6] [0,5,6] Z fun X8 Z=>?_
     replace Z:=Z.keep [0,1,5,6] [0,5,6];exact j9 (⟨(.sp N7 (W7 (X7 6)) p7.note,u9),⟨(X7 6),wq7,p7,by simp[Rs.bind,hrun0,D9,hm2,gk,hh,hm7],hN7,(hW7 _),rfl⟩,by simp[lsM],Z⟩)
    have h0:¬l0.len=0:=by subst O;simpa[std,d4]using hb
    have tz:¬l0=u9:=fun h=>h0 (hl0.zero.2 h)
    refine f8 (a6 [0,1,5,6] [0,5,6] Z fun X8 Z=>?_);replace Z:=Z.keep [0,1,5,6] [0,5,6];exact j9 (⟨(.go m0 p2 N2,u9),⟨by rw[hrun0];simp[D9,Rs.bind,hrun0,D9,hm2,gk,hh,tz],hp2,hn2,hR2,(by have:=hf0;have:=hle0;have:=hl2;omega),(by have:=hf0;have:=hle0;have:=hl2;omega),P5⟩,by simp[lsM],Z⟩)
   have hh:g2.has=true:=by
    have h9:(!g2.has)=false:=by subst O;exact hb
    simpa using h9
   refine f8 (a6 [0,1,5,6,7,39] [0,5,6,7] Z fun X9 Z=>?_);refine j1 (a6 [44,0,1,5,6,7,39] [0,5,6,7] Z fun X11 Z=>?_);apply b7 Z rfl<;>intro hb Z
   .have k1:g2.x.r.kd=1:=by subst O;simpa[std,d4]using hb
    refine a6 [6] [0,6] Z fun X12 Z=>?_
    exact i8 ((rgo O a8 Z (v:=(⟨l0,g2⟩:Spt)) (q:=p2) (by simp[Rs.bind,hrun0,D9,hm2,gk,hh,k1]) hN2).1)
   have k1:¬g2.x.r.kd=1:=by subst O;simpa[std,d4]using hb
   refine a6 [49,0,1,5,6,7,39] [0,5,6,7] Z fun X13 Z=>?_
   apply b7 Z rfl<;>intro hb Z
   .have k2:g2.x.r.kd=2:=by subst O;simpa[std,d4]using hb
    have h0l:=r8 hl0.isl;have S14:=Ha key (l0.len+1) hk;simp only[i6]at S14;have e1:IntKind.i64.wrap (l0.len+1)=l0.len+1:=o8 (by omega) (by omega);have hk9:=jF hk (l0.len+1);obtain⟨k,hk_⟩:=eqv (ofV key (l0.len+1));rw[<-hk_]at S14 hk9;obtain⟨ke,hke⟩:=eqv (ofE (l0.len+1));rw[<-hke]at S14;rw[<-e1]at S14;have O1:=S14;refine i9 [0,1,5,6,8,9] [0,5,6,8] [(4,.r fun _=>.tup [.agg [.int .i64 k.len,.int .u64 k.bits],.int .i64 ke])] Z fun X14 Z=>?_
    refine a6 [0,1,5,6,9] [0,5,6] Z fun X15 Z=>?_
    refine a6 [61,0,1,5,6] [0,5,6] Z fun X16 Z=>?_
    apply b7 Z rfl<;>intro hb Z
    .have he:¬ke=0:=by subst O;simpa[std,d4]using hb
     have h64:¬l0.len<64:=by
      have:=LR (by rw[<-hke];exact he) (by omega);omega
     refine j5 [0,1,5,6] [0,5,6] Z fun X17 Z=>?_
     replace Z:=Z.keep [0,1,5,6] [0,5,6];exact⟨(.go m0 p2 N2,u9),⟨by rw[hrun0];simp[D9,Rs.bind,hrun0,D9,hm2,gk,hh,k1,k2,<-hk_,h64],hp2,hn2,hR2,(by have:=hf0;have:=hle0;have:=hl2;omega),(by have:=hf0;have:=hle0;have:=hl2;omega),P5⟩,by simp[lsM],Z⟩
    have he:ke=0:=by subst O;simpa[std,d4]using hb
    have h64:l0.len<64:=by
     have:=LS (by rw[<-hke];exact he) (by omega);omega
    replace Z:=Z.keep [0,1,5,6] [0,5,6];exact f8 (⟨(.go m0 p2 N2,k),⟨by rw[hrun0];simp[D9,Rs.bind,hrun0,D9,hm2,gk,hh,k1,k2,<-hk_,h64],hp2,hn2,hR2,(by have:=hf0;have:=hle0;have:=hl2;omega),(by have:=hf0;have:=hle0;have:=hl2;omega),hk9⟩,by simp[lsM],Z⟩)
   have k2:¬g2.x.r.kd=2:=by subst O;simpa[std,d4]using hb
   refine a6 [63,0,1,5,6,7] [0,5,6,7] Z fun X18 Z=>?_
   apply b7 Z rfl<;>intro hb Z
   .have k5:g2.x.r.kd=5:=by subst O;simpa[std,d4]using hb
    refine a7 ?_
    rcases(BL m0 0 b J hJ E hE N2 p2 hR2 hp2 hn2 l0 hl0 (by have:=hf0;have:=hle0;have:=hl2;omega)).two (F9 _ _ _ _ _) hp2 hn2 hR2 with⟨v19,p19,N19,hm19,hs19,hp19,hn19,hR19,hN19,S19⟩|⟨wq19,p19,N19,W19,hm19,hs19,hN19,hW19,S19⟩
    .have O1:=S19
     refine f7 [0,1,5,6] [0,5,6] [(2,lc J E (k7) N19 p19)] Z fun X19 Z=>?_
     refine j5 [0,1,5,6] [0,5,6] Z fun X20 Z=>?_
     replace Z:=Z.keep [0,1,5,6] [0,5,6];exact⟨(.go m0 p19 N19,u9),⟨by rw[hrun0];simp[D9,Rs.bind,hrun0,D9,hm2,gk,hh,k1,k2,k5,hm19],hp19,hn19,hR19,(by have:=hf0;have:=hle0;have:=hl2;have:=hs19.le;omega),(by have:=hf0;have:=hle0;have:=hl2;have:=hs19.le;omega),P5⟩,by simp[lsM],Z⟩
    have O1:=S19;refine f7 [0,1,5,6] [0,5,6] [(2,sc J E (k7) N19 W19 p19.note)] Z fun X19 Z=>?_
    refine j5 [0,1,5,6] [0,5,6] Z fun X20 Z=>?_
    replace Z:=Z.keep [0,1,5,6] [0,5,6];exact⟨(.sp N19 (W19 (X19 2)) p19.note,u9),⟨(X19 2),wq19,p19,by simp[Rs.bind,hrun0,D9,hm2,gk,hh,k1,k2,k5,hm19],hN19,(hW19 _),rfl⟩,by simp[lsM],Z⟩
   have k5:¬g2.x.r.kd=5:=by subst O;simpa[std,d4]using hb
   have t34:g2.x.r.kd=3 \/ g2.x.r.kd=4:=by have:=hr2.kd hh;omega
   rcases(BT m0 0 b J hJ E hE N2 p2 hR2 hp2 hn2 l0 hl0 g2 hg2 hh (by have:=hf0;have:=hle0;have:=hl2;omega)).two (R8 _ _ _ _ _ _) hp2 hn2 hR2 with⟨v10,p10,N10,hm10,hs10,hp10,hn10,hR10,hN10,S10⟩|⟨wq10,p10,N10,W10,hm10,hs10,hN10,hW10,S10⟩
   .have O1:=S10
    refine f7 [0,1,5,6] [0,5,6] [(3,lc J E (k7) N10 p10)] Z fun X10 Z=>?_
    replace Z:=Z.keep [0,1,5,6] [0,5,6];exact⟨(.go m0 p10 N10,l0),⟨by rw[hrun0];simp[D9,Rs.bind,hrun0,D9,hm2,gk,hh,k1,k2,k5,t34,hm10],hp10,hn10,hR10,(by have:=hf0;have:=hle0;have:=hl2;have:=hs10.le;omega),(by have:=hf0;have:=hle0;have:=hl2;have:=hs10.le;omega),hl0⟩,by simp[lsM],Z⟩
   have O1:=S10;refine f7 [0,1,5,6] [0,5,6] [(3,sc J E (k7) N10 W10 p10.note)] Z fun X10 Z=>?_
   replace Z:=Z.keep [0,1,5,6] [0,5,6];exact⟨(.sp N10 (W10 (X10 3)) p10.note,l0),⟨(X10 3),wq10,p10,by simp[Rs.bind,hrun0,D9,hm2,gk,hh,k1,k2,k5,t34,hm10],hN10,(hW10 _),rfl⟩,by simp[lsM],Z⟩
  have O1:=S2;refine f7 [0,1,5,6,7] [0,5,6,7] [(2,sc J E (.agg [.int .i64 0,.int .u64 0,.bool .ff,.int .i64 0,.sl none none 0 0 2 (fun _=>[]),.int .i64 0,.int .u64 0,.int .u64 0]) N2 W2 p2.note)] Z fun X2 Z=>?_
  refine a7 (a6 [21,0,1,5,6,7] [0,5,6,7] Z fun X3 Z=>?_);refine l7 Z rfl (fun Z=>?_);refine a6 [6] [0,6] Z fun X4 Z=>?_
  exact i8 ((rst O a8 Z (q:=p2) (wq:=wq2) (X2 2) (by simp[Rs.bind,hrun0,D9,hm2]) hN2 (hW2 _)).1)
 .exact (hJ:False).elim
 dsimp only[lsC,lsB]at hJ Z;obtain⟨X0,wq0,pp0,hsp0,hN0,hW0,ht0⟩:=hJ;subst ht0;refine a7 (a6 [14,0,1,5,6] [0,5,6] Z fun X1 Z=>?_);refine l4 Z rfl (fun Z=>?_);refine j9 (a6 [6] [0,6] Z fun X21 Z=>?_);exact i8 ((rst O a8 Z (q:=pp0) (wq:=wq0) X0 (hsp0) hN0 hW0).1)
theorem uN(k0 b:Nat)(J:j4)(hJ:l6 J)(E:s8)(hE:E.n<=1000000)(N:Nat)(p:Pst)(hR:Rel E N p)(hp:j3 p)(hn:p.n<=1000000)(key:Int)(hk:U64 key)(l:Lab)(hl:LOk l)(n:Nat)(hf:p.n<n):B5 152 k0 b J E N p [.int .u64 key,i6 l] (G9) (E7) (D9 J.bucket (J.budget-E.n) key n l p):=B5.re (Fk b J hJ E hE N p hR hp hn key hk l hl n hf) (by repeat(first|exact trivial|refine⟨zr,?_⟩))
theorem Fl(b:Nat)(J:j4)(E:s8)(hE:E.n<=1000000)(N:Nat)(q:B0)(t:Nt)(key:Int)(l:Lab):E8 152 0 b J E N q t [.int .u64 key,i6 l] (E7):=by
 intro m w hm hargs hpre;refine enX 70 hm hpre hargs Tryz.func152 fun B O a0 Z=>?_
 refine a6 [0,1,5,6] [0,5,6] Z fun X0 Z=>?_
 refine a7 (j1 (wp_loop_rounds 2 (F0 (a7 (a6 [14,0,1,5,6] [0,5,6] Z fun X1 Z=>?_)))));refine l4 Z rfl (fun Z=>?_);refine j9 (a6 [6] [0,6] Z fun X21 Z=>?_);exact i8 ((rdd O a8 Z).1)
theorem qJ(k0 b:Nat)(J:j4)(E:s8)(hE:E.n<=1000000)(N:Nat)(q:B0)(t:Nt)(key:Int)(l:Lab):E8 152 k0 b J E N q t [.int .u64 key,i6 l] (E7):=E8.re (Fl b J E hE N q t key l) (by repeat(first|exact trivial|refine⟨zr,?_⟩))
theorem JT(b:Nat)(J:j4)(hJ:l6 J)(E:s8)(hE:E.n<=1000000)(N:Nat)(p:Pst)(hR:Rel E N p)(hp:j3 p)(hn:p.n<=1000000)(key:Int)(hk:U64 key)(n:Nat)(hf:p.n<n):B5 134 0 b J E N p [.int .u64 key] (G9) (E7) (D9 J.bucket (J.budget-E.n) key n u9 p):=by
 intro m w hm hargs hpre;have hN0:N=E.n-p.n:=by have:=hR.n;omega
 refine enX 11 hm hpre hargs Tryz.func134 fun B O a0 Z=>?_
 refine a6 [0,1,4] [0,4] Z fun X0 Z=>?_
 refine a7 ?_
 rcases(uN 0 b J hJ E hE N p hR hp hn key hk u9 P5 n hf).two (D5 _ _ _ _ _ _) hp hn hR with⟨s1,p1,N1,hm1,hs1,hp1,hn1,hR1,hN1,S1⟩|⟨wq1,p1,N1,W1,hm1,hs1,hN1,hW1,S1⟩
 .have O1:=S1
  refine f7 [4,5] [0,4,5] [(3,lc J E (G9 s1) N1 p1)] Z fun X1 Z=>?_
  refine a6 [4] [0,4] Z fun X2 Z=>?_
  exact i8 ((rgo O a8 Z (v:=s1) (q:=p1) (by simp[Rs.bind,hm1]) hN1).1)
 have O1:=S1;refine f7 [4,5] [0,4,5] [(3,sc J E (E7) N1 W1 p1.note)] Z fun X1 Z=>?_
 refine a6 [4] [0,4] Z fun X2 Z=>?_
 exact i8 ((rst O a8 Z (q:=p1) (wq:=wq1) (X1 3) (by simp[Rs.bind,hm1]) hN1 (hW1 _)).1)
theorem Hw(k0 b:Nat)(J:j4)(hJ:l6 J)(E:s8)(hE:E.n<=1000000)(N:Nat)(p:Pst)(hR:Rel E N p)(hp:j3 p)(hn:p.n<=1000000)(key:Int)(hk:U64 key)(n:Nat)(hf:p.n<n):B5 134 k0 b J E N p [.int .u64 key] (G9) (E7) (D9 J.bucket (J.budget-E.n) key n u9 p):=B5.re (JT b J hJ E hE N p hR hp hn key hk n hf) (by repeat(first|exact trivial|refine⟨zr,?_⟩))
theorem JU(b:Nat)(J:j4)(E:s8)(hE:E.n<=1000000)(N:Nat)(q:B0)(t:Nt)(key:Int):E8 134 0 b J E N q t [.int .u64 key] (E7):=by
 intro m w hm hargs hpre;refine enX 11 hm hpre hargs Tryz.func134 fun B O a0 Z=>?_
 refine a6 [0,1,4] [0,4] Z fun X0 Z=>?_
 have O1:=qJ 0 b J E hE N q t key u9;refine i9 [4,5] [0,4,5] [(3,dc J E (E7) N q t)] Z fun X1 Z=>?_
 refine a6 [4] [0,4] Z fun X2 Z=>?_
 exact i8 ((rdd O a8 Z).1)
theorem Mq(k0 b:Nat)(J:j4)(E:s8)(hE:E.n<=1000000)(N:Nat)(q:B0)(t:Nt)(key:Int):E8 134 k0 b J E N q t [.int .u64 key] (E7):=E8.re (JU b J E hE N q t key) (by repeat(first|exact trivial|refine⟨zr,?_⟩))
def ul(k:Int)(l:Lab)(p:Pst):Bool:=match M8 k (Q5 l) p with
 | .stop .. =>true
 | .ok .. =>false
theorem AZ{bk k:Int}{n:Nat}{l:Lab}{p q:Pst}{b:Bool}(h:bh bk k n l p = .ok b q)(hl:l.len=0):b=true:=by
 unfold bh at h;have:¬R4 l=0:=by
  unfold R4;rw[if_pos hl]
  split<;>decide
 rw[if_neg this]at h;injection h with h _
 exact h.symm
theorem Fj(b:Nat)(J:j4)(hJ:l6 J)(E:s8)(hE:E.n<=1000000)(N:Nat)(p:Pst)(hR:Rel E N p)(hp:j3 p)(hn:p.n<=1000000)(l:Lab)(hl:LOk l)(n:Nat)(hf:p.n<n):B5 219 0 b J E N p [i6 l] (fun b:Bool=>.bool (.v b)) (.bool (.v (ul (J.budget-E.n) l p))) (bh J.bucket (J.budget-E.n) n l p):=by
 intro m w hm hargs hpre;have hN0:N=E.n-p.n:=by have:=hR.n;omega
 have SP:=tQ l hl.u;simp only[i6]at SP;obtain⟨up,hup⟩:=eqv (Q5 l);rw[<-hup]at SP;obtain⟨ue,hue⟩:=eqv (R4 l);rw[<-hue]at SP;refine enX 31 hm hpre hargs Tryz.func219 fun B O a0 Z=>?_
 refine a6 [0,3] [0,3] Z fun X0 Z=>?_
 have O1:=SP;refine i9 [0,3,5,6] [0,3,5] [(1,.r fun _=>.tup [.agg [.int .i64 up.len,.int .u64 up.bits],.int .i64 ue])] Z fun X1 Z=>?_
 refine a7 (a6 [14,0,3,5] [0,3,5] Z fun X2 Z=>?_);apply b7 Z rfl<;>intro hb Z
 .have t0:¬ue=0:=by subst O;simpa[std,d4]using hb
  refine a6 [4] [0] Z fun X3 Z=>?_
  exact i8 ((rgo O a8 Z (v:=true) (q:=p) (by simp[bh,<-hup,<-hue,Rs.bind,t0]) hN0).1)
 have t0:ue=0:=by subst O;simpa[std,d4]using hb
 refine f8 (a7 ?_)
 rcases(P1 0 b J hJ E hE N p hR hp hn up).two (k8 _ _ _) hp hn hR with⟨q4,p4,N4,hm4,hs4,hp4,hn4,hR4,hN4,S4⟩|⟨wq4,p4,N4,W4,hm4,hs4,hN4,hW4,S4⟩
 .have hl4:=B7 hm4
  have hg4:=hp.get hm4;have O1:=S4;refine f7 [0,3,7] [0,3,7] [(2,lc J E (B2 q4) N4 p4)] Z fun X4 Z=>?_
  obtain⟨r2,hr2⟩:=eqv (gk q4 2);obtain⟨r3,hr3⟩:=eqv (gk q4 3);obtain⟨r4,hr4⟩:=eqv (gk q4 4);refine a7 (a7 ?_);refine f7 [27,0,3] [0,3] [(1,.r fun _=>.bool (.v r2)),(4,.r fun _=>.bool (.v r3)),(8,.r fun _=>.bool (.v r4))] Z (hob:=by intro X;subst O;simp only[i7,Ob.holds,BE.den]<;>and_intros<;>repeat first|trivial|rfl|exact(by rw[hr2];exact D6 q4 2)|exact by rw[hr2];exact D6 q4 2|exact(by rw[hr3];exact D6 q4 3)|exact by rw[hr3];exact D6 q4 3|exact(by rw[hr4];exact D6 q4 4)|exact by rw[hr4];exact D6 q4 4|exact(fun _ _=>by kernel_rfl)|refine⟨?_,?_⟩|intro h|exact Int.le_refl _|decide|omega) fun X5 Z=>?_
  apply b7 Z rfl<;>intro hb Z
  .have tr:(gk q4 2||gk q4 3||gk q4 4)=true:=by
    have h9:(if(if r2=true then true else r3)=true then true else r4)=true:=by subst O;exact hb
    rw[<-hr2,<-hr3,<-hr4,<-h9];cases r2<;>cases r3<;>rfl
   refine a7 ?_
   rcases(BL n 0 b J hJ E hE N4 p4 hR4 hp4 hn4 l hl (by have:=hl4;omega)).two (F9 _ _ _ _ _) hp4 hn4 hR4 with⟨v6,p6,N6,hm6,hs6,hp6,hn6,hR6,hN6,S6⟩|⟨wq6,p6,N6,W6,hm6,hs6,hN6,hW6,S6⟩
   .have O1:=S6
    refine f7 [] [0] [(2,lc J E (k7) N6 p6)] Z fun X6 Z=>?_
    refine a6 [4] [0] Z fun X7 Z=>?_
    exact i8 ((rgo O a8 Z (v:=false) (q:=p6) (by simp[bh,<-hup,<-hue,Rs.bind,t0,hm4,tr,hm6]) hN6).1)
   have O1:=S6;refine f7 [] [0] [(2,sc J E (k7) N6 W6 p6.note)] Z fun X6 Z=>?_
   refine a6 [4] [0] Z fun X7 Z=>?_
   refine i8 ((rst O a8 Z (q:=p6) (wq:=wq6) (X6 2) (by simp[bh,<-hup,<-hue,Rs.bind,t0,hm4,tr,hm6]) hN6 (hW6 _) (he:=?_)).1);rw[show ul (J.budget-E.n) l p=false by unfold ul;rw[<-hup,hm4]];subst O;exact zr
  have tr:(gk q4 2||gk q4 3||gk q4 4)=false:=by
   have h9:(if(if r2=true then true else r3)=true then true else r4)=false:=by subst O;exact hb
   rw[<-hr2,<-hr3,<-hr4,<-h9];cases r2<;>cases r3<;>rfl
  refine f8 (a6 [4] [0] Z fun X8 Z=>?_);exact i8 ((rgo O a8 Z (v:=true) (q:=p4) (by simp[bh,<-hup,<-hue,Rs.bind,t0,hm4,tr]) hN4).1)
 have O1:=S4;refine f7 [0,3,7] [0,3,7] [(2,sc J E (.agg [.int .i64 0,.int .u64 0,.bool .ff,.int .i64 0,.sl none none 0 0 2 (fun _=>[]),.int .i64 0,.int .u64 0,.int .u64 0]) N4 W4 p4.note)] Z fun X4 Z=>?_
 refine a7 (a7 ?_);refine f7 [27,0,3] [0,3] [(1,.r fun _=>.bool .ff),(4,.r fun _=>.bool .ff),(8,.r fun _=>.bool .ff)] Z fun X5 Z=>?_
 refine l4 Z rfl (fun Z=>?_);refine f8 (a6 [4] [0] Z fun X8 Z=>?_);refine i8 ((rst O a8 Z (q:=p4) (wq:=wq4) (X4 2) (by simp[bh,<-hup,<-hue,Rs.bind,t0,hm4]) hN4 (hW4 _) (he:=?_)).1);rw[show ul (J.budget-E.n) l p=true by unfold ul;rw[<-hup,hm4]];subst O;exact zr
theorem JS(k0 b:Nat)(J:j4)(hJ:l6 J)(E:s8)(hE:E.n<=1000000)(N:Nat)(p:Pst)(hR:Rel E N p)(hp:j3 p)(hn:p.n<=1000000)(l:Lab)(hl:LOk l)(n:Nat)(hf:p.n<n):B5 219 k0 b J E N p [i6 l] (fun b:Bool=>.bool (.v b)) (.bool (.v (ul (J.budget-E.n) l p))) (bh J.bucket (J.budget-E.n) n l p):=B5.re (Fj b J hJ E hE N p hR hp hn l hl n hf) (by repeat(first|exact trivial|refine⟨zr,?_⟩))
theorem FI(b:Nat)(J:j4)(hJ:l6 J)(E:s8)(hE:E.n<=1000000)(N:Nat)(p:Pst)(hR:Rel E N p)(hp:j3 p)(hn:p.n<=1000000)(key:Int)(hk:U64 key)(n:Nat)(hf:p.n<n):B5 153 0 b J E N p [.int .u64 key] (G9) (E7) (F6 J.bucket (J.budget-E.n) key n 0 64 p):=by
 intro m w hm hargs hpre;have hN0:N=E.n-p.n:=by have:=hR.n;omega
 refine enX 75 hm hpre hargs Tryz.func153 fun B O a0 Z=>?_
 refine a6 [0,1,4] [0,4] Z fun X0 Z=>?_
 refine a6 [5,0,1,4] [0,4] Z fun X1 Z=>?_
 refine a6 [5,6,0,1,4] [0,4] Z fun X2 Z=>?_
 refine a7 (j1 (l3 (ι:=LSt×Int×Int) (fun q=>[(5,.int .i64 q.2.1),(6,.int .i64 q.2.2)]) (fun q=>[(0,⟨b,147,lsC J E q.1⟩)]) (fun q=>[]) (fun q=>match q.1 with| .go a r M=>F6 J.bucket (J.budget-E.n) key n 0 64 p=F6 J.bucket (J.budget-E.n) key a q.2.1 q.2.2 r/\j3 r/\r.n<=1000000/\Rel E M r/\r.n<a/\r.n<=p.n/\0<=q.2.1/\q.2.1<=65/\-1<=q.2.2/\q.2.2<=64| .dn r M=>False| .sp M Q u=>∃(X:j8) (wq:Wq) (pp:Pst),F6 J.bucket (J.budget-E.n) key n 0 64 p = .stop wq pp/\M=E.n-pp.n/\Q=wqA X wq/\u=pp.note) (fun q=>lsM q.1) (.go n p N,0,64) ⟨rfl,hp,hn,hR,(by skip;omega),(by skip;omega),(by dsimp only;omega),(by dsimp only;omega),(by dsimp only;omega),(by dsimp only;omega)⟩ Z ?_))
 rintro q hJ _ _ Z
 rcases q with⟨⟨nn0,p0,N0⟩|⟨p9,N9⟩|⟨N0,Q0,t0⟩,lo0,hi0⟩
 .dsimp only[lsC,lsB]at hJ Z
  obtain⟨hrun0,hp0,hn0,hR0,hf0,hle0,ha0,ha1,hb0,hb1⟩:=hJ;obtain⟨m0,rfl⟩:∃n2,nn0=n2+1:=⟨nn0-1,by omega⟩
  have hN0:N0=E.n-p0.n:=by have:=hR0.n;omega
  refine a7 (a6 [21,0,1,4,5,6] [0,4] Z fun X3 Z=>?_);apply b7 Z rfl<;>intro hb Z
  .have tl:lo0<=hi0:=by subst O;simpa[std,d4,BE.den]using hb
   obtain⟨md,hmd⟩:=eqv ((lo0+hi0) / 2);have hm0:0<=md/\md<=64:=by omega
   have e3:jv .quo .i64 (j0 .add .i64 lo0 hi0) 2=md:=by
    show IntKind.i64.wrap (Int.tdiv (IntKind.i64.wrap (lo0+hi0)) 2)=md
    rw[o8 (x:=lo0+hi0) (by omega) (by omega),Int.tdiv_eq_ediv_of_nonneg (by omega),<-hmd];exact o8 (by omega) (by omega)
   have e9:j0 .add .i64 md 1=md+1:=o8 (by omega) (by omega);have e13:j0 .sub .i64 md 1=md-1:=o8 (by omega) (by omega);have S8:=Ha key md hk;simp only[i6]at S8;have hk9:=jF hk md;obtain⟨k,hk8⟩:=eqv (ofV key md);rw[<-hk8]at S8 hk9;obtain⟨ke,hke⟩:=eqv (ofE md);rw[<-hke]at S8;refine f8 (j1 (a6 [7,0,1,4,5,6] [0,4] Z fun X4 Z=>?_));replace Z:=Z.headS (v':=.int .i64 md) (by subst O;exact Sim.of_int e3) rfl;have O1:=S8;refine i9 [0,1,4,5,6,7,8] [0,4,8] [(2,.r fun _=>.tup [.agg [.int .i64 k.len,.int .u64 k.bits],.int .i64 ke])] Z fun X5 Z=>?_
   refine a7 ?_
   rcases(P1 0 b J hJ E hE N0 p0 hR0 hp0 hn0 k).two (k8 _ _ _) hp0 hn0 hR0 with⟨g6,p6,N6,hm6,hs6,hp6,hn6,hR6,hN6,S6⟩|⟨wq6,p6,N6,W6,hm6,hs6,hN6,hW6,S6⟩
   .have hl6:=B7 hm6
    have hg6:=hp0.get hm6;have hr6:=hp0.getR hm6;have O1:=S6;refine f7 [0,1,4,5,6,7,8,10] [0,4,8,10] [(2,lc J E (B2 g6) N6 p6)] Z fun X6 Z=>?_
    refine a7 (a6 [38,0,1,4,5,6,7,8,10] [0,4,8,10] Z fun X7 Z=>?_);refine l4 Z rfl (fun Z=>?_);refine f8 (a7 (a6 [42,0,1,4,5,6,7,8,10] [0,4,8,10] Z fun X9 Z=>?_));apply b7 Z rfl<;>intro hb Z
    .have hh:g6.has=false:=by
      have h9:(!g6.has)=true:=by subst O;exact hb
      simpa using h9
     refine a6 [0,1,4,5,6] [0,4] Z fun X10 Z=>?_
     have e13':B.arith .sub .i64 md 1=md-1:=by subst O;exact e13
     replace Z:=Z.keep [5,6,0,1,4] [0,4];exact j9 (⟨(.go m0 p6 N6,lo0,(md-1)),⟨by rw[hrun0];simp[F6,Rs.bind,hrun0,F6,tl,<-hmd,<-hk8,hm6,gk,hh],hp6,hn6,hR6,(by have:=hf0;have:=hle0;have:=hl6;omega),(by have:=hf0;have:=hle0;have:=hl6;omega),(by dsimp only;omega),(by dsimp only;omega),(by dsimp only;omega),(by dsimp only;omega)⟩,by simp[lsM],by dsimp only;rw[<-e13'];exact Z⟩)
    have hh:g6.has=true:=by
     have h9:(!g6.has)=false:=by subst O;exact hb
     simpa using h9
    refine f8 (a6 [0,1,4,5,6,7,8,10,47] [0,4,8,10] Z fun X11 Z=>?_);refine j1 (a6 [52,0,1,4,5,6,7,8,10,47] [0,4,8,10] Z fun X13 Z=>?_);apply b7 Z rfl<;>intro hb Z
    .have k1:g6.x.r.kd=1:=by subst O;simpa[std,d4]using hb
     refine a6 [4] [0,4] Z fun X14 Z=>?_
     exact i8 ((rgo O a8 Z (v:=(⟨k,g6⟩:Spt)) (q:=p6) (by simp[Rs.bind,hrun0,F6,tl,<-hmd,<-hk8,hm6,gk,hh,k1]) hN6).1)
    have k1:¬g6.x.r.kd=1:=by subst O;simpa[std,d4]using hb
    refine a6 [57,0,1,4,5,6,7,8,10,47] [0,4,8,10] Z fun X15 Z=>?_
    apply b7 Z rfl<;>intro hb Z
    .have k2:g6.x.r.kd=2:=by subst O;simpa[std,d4]using hb
     refine j5 [5,0,1,4,6] [0,4] Z fun X16 Z=>?_
     have e9':B.arith .add .i64 md 1=md+1:=by subst O;exact e9
     replace Z:=Z.keep [5,6,0,1,4] [0,4];exact⟨(.go m0 p6 N6,(md+1),hi0),⟨by rw[hrun0];simp[F6,Rs.bind,hrun0,F6,tl,<-hmd,<-hk8,hm6,gk,hh,k1,k2],hp6,hn6,hR6,(by have:=hf0;have:=hle0;have:=hl6;omega),(by have:=hf0;have:=hle0;have:=hl6;omega),(by dsimp only;omega),(by dsimp only;omega),(by dsimp only;omega),(by dsimp only;omega)⟩,by simp[lsM],by dsimp only;rw[<-e9'];exact Z⟩
    have k2:¬g6.x.r.kd=2:=by subst O;simpa[std,d4]using hb
    refine a6 [61,0,1,4,5,6,7,8,10] [0,4,8,10] Z fun X17 Z=>?_
    apply b7 Z rfl<;>intro hb Z
    .have k5:g6.x.r.kd=5:=by subst O;simpa[std,d4]using hb
     refine a7 (a7 ?_)
     rcases(JS 0 b J hJ E hE N6 p6 hR6 hp6 hn6 k hk9 m0 (by have:=hf0;have:=hle0;have:=hl6;omega)).two (iV _ _ _ _ _) hp6 hn6 hR6 with⟨b18,p18,N18,hm18,hs18,hp18,hn18,hR18,hN18,S18⟩|⟨wq18,p18,N18,W18,hm18,hs18,hN18,hW18,S18⟩
     .have O1:=S18
      refine f7 [65,0,1,4,5,6,7] [0,4] [(2,lc J E (.bool (.v b18)) N18 p18)] Z fun X18 Z=>?_
      apply b7 Z rfl<;>intro hb Z
      .have tb:b18=true:=by exact hb
       refine j5 [6,0,1,4,5,7] [0,4] Z fun X19 Z=>?_
       have e13':B.arith .sub .i64 md 1=md-1:=by subst O;exact e13
       refine a6 [69,0,1,4,5,6] [0,4] Z fun X20 Z=>?_
       apply b7 Z rfl<;>intro hb Z
       .have hz:md=0:=by subst O;simpa[std,d4]using hb
        refine j5 [6,0,1,4,5] [0,4] Z fun X21 Z=>?_
        have hz1:md-1 = -1:=by omega
        replace Z:=Z.keep [5,6,0,1,4] [0,4];exact⟨(.go m0 p18 N18,lo0,(-1)),⟨by rw[hrun0];simp[F6,Rs.bind,hrun0,F6,tl,<-hmd,<-hk8,hm6,gk,hh,k1,k2,k5,hm18,tb,hz1],hp18,hn18,hR18,(by have:=hf0;have:=hle0;have:=hl6;have:=hs18.le;omega),(by have:=hf0;have:=hle0;have:=hl6;have:=hs18.le;omega),(by dsimp only;omega),(by dsimp only;omega),(by dsimp only;omega),(by dsimp only;omega)⟩,by simp[lsM],by exact Z⟩
       have hz:¬md=0:=by subst O;simpa[std,d4]using hb
       replace Z:=Z.keep [5,6,0,1,4] [0,4];exact f8 (⟨(.go m0 p18 N18,lo0,(md-1)),⟨by rw[hrun0];simp[F6,Rs.bind,hrun0,F6,tl,<-hmd,<-hk8,hm6,gk,hh,k1,k2,k5,hm18,tb],hp18,hn18,hR18,(by have:=hf0;have:=hle0;have:=hl6;have:=hs18.le;omega),(by have:=hf0;have:=hle0;have:=hl6;have:=hs18.le;omega),(by dsimp only;omega),(by dsimp only;omega),(by dsimp only;omega),(by dsimp only;omega)⟩,by simp[lsM],by dsimp only;rw[<-e13'];exact Z⟩)
      have tb:b18=false:=by exact hb
      refine f8 (a6 [69,0,1,4,5,6] [0,4] Z fun X20 Z=>?_);apply b7 Z rfl<;>intro hb Z
      .exfalso
       have hz:md=0:=by subst O;simpa[std,d4]using hb
       have hb9:b18=true:=AZ hm18 (by rw[hk8,hz];rfl);rw[tb]at hb9;cases hb9
      have hz:¬md=0:=by subst O;simpa[std,d4]using hb
      replace Z:=Z.keep [5,6,0,1,4] [0,4];exact f8 (⟨(.go m0 p18 N18,lo0,hi0),⟨by rw[hrun0];simp[F6,Rs.bind,hrun0,F6,tl,<-hmd,<-hk8,hm6,gk,hh,k1,k2,k5,hm18,tb],hp18,hn18,hR18,(by have:=hf0;have:=hle0;have:=hl6;have:=hs18.le;omega),(by have:=hf0;have:=hle0;have:=hl6;have:=hs18.le;omega),(by dsimp only;omega),(by dsimp only;omega),(by dsimp only;omega),(by dsimp only;omega)⟩,by simp[lsM],by exact Z⟩)
     obtain⟨bd,hbd⟩:=eqv (ul (J.budget-E.n) k p6);rw[<-hbd]at S18;have O1:=S18;refine f7 [65,0,1,4,5,6,7] [0,4] [(2,sc J E (.bool (.v bd)) N18 W18 p18.note)] Z fun X18 Z=>?_
     apply b7 Z rfl<;>intro hb Z
     .skip
      refine j5 [6,0,1,4,5,7] [0,4] Z fun X19 Z=>?_
      have e13':B.arith .sub .i64 md 1=md-1:=by subst O;exact e13
      refine a6 [69,0,1,4,5,6] [0,4] Z fun X20 Z=>?_
      apply b7 Z rfl<;>intro hb Z
      .have hz:md=0:=by subst O;simpa[std,d4]using hb
       refine j5 [6,0,1,4,5] [0,4] Z fun X21 Z=>?_
       have hz1:md-1 = -1:=by omega
       replace Z:=Z.keep [5,6,0,1,4] [0,4];exact⟨(.sp N18 (W18 (X18 2)) p18.note,lo0,(-1)),⟨(X18 2),wq18,p18,by simp[Rs.bind,hrun0,F6,tl,<-hmd,<-hk8,hm6,gk,hh,k1,k2,k5,hm18,hz1],hN18,(hW18 _),rfl⟩,by simp[lsM],by exact Z⟩
      have hz:¬md=0:=by subst O;simpa[std,d4]using hb
      replace Z:=Z.keep [5,6,0,1,4] [0,4];exact f8 (⟨(.sp N18 (W18 (X18 2)) p18.note,lo0,(md-1)),⟨(X18 2),wq18,p18,by simp[Rs.bind,hrun0,F6,tl,<-hmd,<-hk8,hm6,gk,hh,k1,k2,k5,hm18],hN18,(hW18 _),rfl⟩,by simp[lsM],by dsimp only;rw[<-e13'];exact Z⟩)
     skip
     refine f8 (a6 [69,0,1,4,5,6] [0,4] Z fun X20 Z=>?_);apply b7 Z rfl<;>intro hb Z
     .have hz:md=0:=by subst O;simpa[std,d4]using hb
      refine j5 [6,0,1,4,5] [0,4] Z fun X21 Z=>?_
      have hz1:md-1 = -1:=by omega
      replace Z:=Z.keep [5,6,0,1,4] [0,4];exact⟨(.sp N18 (W18 (X18 2)) p18.note,lo0,(-1)),⟨(X18 2),wq18,p18,by simp[Rs.bind,hrun0,F6,tl,<-hmd,<-hk8,hm6,gk,hh,k1,k2,k5,hm18,hz1],hN18,(hW18 _),rfl⟩,by simp[lsM],by exact Z⟩
     have hz:¬md=0:=by subst O;simpa[std,d4]using hb
     replace Z:=Z.keep [5,6,0,1,4] [0,4];exact f8 (⟨(.sp N18 (W18 (X18 2)) p18.note,lo0,hi0),⟨(X18 2),wq18,p18,by simp[Rs.bind,hrun0,F6,tl,<-hmd,<-hk8,hm6,gk,hh,k1,k2,k5,hm18],hN18,(hW18 _),rfl⟩,by simp[lsM],by exact Z⟩)
    have k5:¬g6.x.r.kd=5:=by subst O;simpa[std,d4]using hb
    have t34:g6.x.r.kd=3 \/ g6.x.r.kd=4:=by have:=hr6.kd hh;omega
    rcases(BT m0 0 b J hJ E hE N6 p6 hR6 hp6 hn6 k hk9 g6 hg6 hh (by have:=hf0;have:=hle0;have:=hl6;omega)).two (R8 _ _ _ _ _ _) hp6 hn6 hR6 with⟨v12,p12,N12,hm12,hs12,hp12,hn12,hR12,hN12,S12⟩|⟨wq12,p12,N12,W12,hm12,hs12,hN12,hW12,S12⟩
    .have O1:=S12
     refine f7 [0,1,4,5,6] [0,4] [(3,lc J E (k7) N12 p12)] Z fun X12 Z=>?_
     replace Z:=Z.keep [5,6,0,1,4] [0,4];exact⟨(.go m0 p12 N12,lo0,hi0),⟨by rw[hrun0];simp[F6,Rs.bind,hrun0,F6,tl,<-hmd,<-hk8,hm6,gk,hh,k1,k2,k5,t34,hm12],hp12,hn12,hR12,(by have:=hf0;have:=hle0;have:=hl6;have:=hs12.le;omega),(by have:=hf0;have:=hle0;have:=hl6;have:=hs12.le;omega),(by dsimp only;omega),(by dsimp only;omega),(by dsimp only;omega),(by dsimp only;omega)⟩,by simp[lsM],by exact Z⟩
    have O1:=S12;refine f7 [0,1,4,5,6] [0,4] [(3,sc J E (k7) N12 W12 p12.note)] Z fun X12 Z=>?_
    replace Z:=Z.keep [5,6,0,1,4] [0,4];exact⟨(.sp N12 (W12 (X12 3)) p12.note,lo0,hi0),⟨(X12 3),wq12,p12,by simp[Rs.bind,hrun0,F6,tl,<-hmd,<-hk8,hm6,gk,hh,k1,k2,k5,t34,hm12],hN12,(hW12 _),rfl⟩,by simp[lsM],by exact Z⟩
   have O1:=S6;refine f7 [0,1,4,5,6,7,8,10] [0,4,8,10] [(2,sc J E (.agg [.int .i64 0,.int .u64 0,.bool .ff,.int .i64 0,.sl none none 0 0 2 (fun _=>[]),.int .i64 0,.int .u64 0,.int .u64 0]) N6 W6 p6.note)] Z fun X6 Z=>?_
   refine a7 (a6 [38,0,1,4,5,6,7,8,10] [0,4,8,10] Z fun X7 Z=>?_);refine l7 Z rfl (fun Z=>?_);refine a6 [4] [0,4] Z fun X8 Z=>?_
   exact i8 ((rst O a8 Z (q:=p6) (wq:=wq6) (X6 2) (by simp[Rs.bind,hrun0,F6,tl,<-hmd,<-hk8,hm6]) hN6 (hW6 _)).1)
  have tl:¬lo0<=hi0:=by subst O;simpa[std,d4,BE.den]using hb
  refine j9 (a7 ?_)
  rcases(uN 0 b J hJ E hE N0 p0 hR0 hp0 hn0 key hk u9 P5 (m0+1) hf0).two (D5 _ _ _ _ _ _) hp0 hn0 hR0 with⟨s22,p22,N22,hm22,hs22,hp22,hn22,hR22,hN22,S22⟩|⟨wq22,p22,N22,W22,hm22,hs22,hN22,hW22,S22⟩
  .have O1:=S22
   refine f7 [4,11] [0,4,11] [(3,lc J E (G9 s22) N22 p22)] Z fun X22 Z=>?_
   refine a6 [4] [0,4] Z fun X23 Z=>?_
   exact i8 ((rgo O a8 Z (v:=s22) (q:=p22) (by simp[Rs.bind,hrun0,F6,tl,hm22]) hN22).1)
  have O1:=S22;refine f7 [4,11] [0,4,11] [(3,sc J E (E7) N22 W22 p22.note)] Z fun X22 Z=>?_
  refine a6 [4] [0,4] Z fun X23 Z=>?_
  exact i8 ((rst O a8 Z (q:=p22) (wq:=wq22) (X22 3) (by simp[Rs.bind,hrun0,F6,tl,hm22]) hN22 (hW22 _)).1)
 .exact (hJ:False).elim
 dsimp only[lsC,lsB]at hJ Z;obtain⟨X0,wq0,pp0,hsp0,hN0,hW0,ht0⟩:=hJ;subst ht0;refine a7 (a6 [21,0,1,4,5,6] [0,4] Z fun X3 Z=>?_);apply b7 Z rfl<;>intro hb Z
 .exfalso
  subst O;revert hb;simp[std,BE.den]
 skip
 have O1:=qJ 0 b J E hE N0 Q0 pp0.note key u9;refine j9 (i9 [4,11] [0,4,11] [(3,dc J E (E7) N0 Q0 pp0.note)] Z fun X22 Z=>?_);refine a6 [4] [0,4] Z fun X23 Z=>?_
 exact i8 ((rst O a8 Z (q:=pp0) (wq:=wq0) X0 (hsp0) hN0 hW0).1)
theorem Kh(k0 b:Nat)(J:j4)(hJ:l6 J)(E:s8)(hE:E.n<=1000000)(N:Nat)(p:Pst)(hR:Rel E N p)(hp:j3 p)(hn:p.n<=1000000)(key:Int)(hk:U64 key)(n:Nat)(hf:p.n<n):B5 153 k0 b J E N p [.int .u64 key] (G9) (E7) (F6 J.bucket (J.budget-E.n) key n 0 64 p):=B5.re (FI b J hJ E hE N p hR hp hn key hk n hf) (by repeat(first|exact trivial|refine⟨zr,?_⟩))
theorem Fa(b:Nat)(J:j4)(hJ:l6 J)(E:s8)(hE:E.n<=1000000)(N:Nat)(p:Pst)(hR:Rel E N p)(hp:j3 p)(hn:p.n<=1000000)(key:Int)(hk:U64 key)(n:Nat)(hf:p.n<n)(hh:J.how=1):B5 94 0 b J E N p [.int .u64 key] (G9) (E7) (D9 J.bucket (J.budget-E.n) key n u9 p):=by
 intro m w hm hargs hpre;have hN0:N=E.n-p.n:=by have:=hR.n;omega
 refine enX 22 hm hpre hargs Tryz.func94 fun B O a0 Z=>?_
 refine a6 [0,1,4] [0,4] Z fun X0 Z=>?_
 refine a7 (a6 [12,0,1,4] [0,4] Z fun X1 Z=>?_);apply b7 Z rfl<;>intro hb Z
 .skip
  refine a7 ?_
  rcases(uN 0 b J hJ E hE N p hR hp hn key hk u9 P5 n hf).two (D5 _ _ _ _ _ _) hp hn hR with⟨s2,p2,N2,hm2,hs2,hp2,hn2,hR2,hN2,S2⟩|⟨wq2,p2,N2,W2,hm2,hs2,hN2,hW2,S2⟩
  .have O1:=S2
   refine f7 [4,5] [0,4,5] [(3,lc J E (G9 s2) N2 p2)] Z fun X2 Z=>?_
   refine a6 [4] [0,4] Z fun X3 Z=>?_
   exact i8 ((rgo O a8 Z (v:=s2) (q:=p2) (by simp[Rs.bind,hm2]) hN2).1)
  have O1:=S2;refine f7 [4,5] [0,4,5] [(3,sc J E (E7) N2 W2 p2.note)] Z fun X2 Z=>?_
  refine a6 [4] [0,4] Z fun X3 Z=>?_
  exact i8 ((rst O a8 Z (q:=p2) (wq:=wq2) (X2 3) (by simp[Rs.bind,hm2]) hN2 (hW2 _)).1)
 exfalso
 have hc:¬J.how=1:=by subst O;simpa[std,d4]using hb
 exact hc hh
theorem JF(k0 b:Nat)(J:j4)(hJ:l6 J)(E:s8)(hE:E.n<=1000000)(N:Nat)(p:Pst)(hR:Rel E N p)(hp:j3 p)(hn:p.n<=1000000)(key:Int)(hk:U64 key)(n:Nat)(hf:p.n<n)(hh:J.how=1):B5 94 k0 b J E N p [.int .u64 key] (G9) (E7) (D9 J.bucket (J.budget-E.n) key n u9 p):=B5.re (Fa b J hJ E hE N p hR hp hn key hk n hf hh) (by repeat(first|exact trivial|refine⟨zr,?_⟩))
theorem EZ(b:Nat)(J:j4)(hJ:l6 J)(E:s8)(hE:E.n<=1000000)(N:Nat)(p:Pst)(hR:Rel E N p)(hp:j3 p)(hn:p.n<=1000000)(key:Int)(hk:U64 key)(n:Nat)(hf:p.n<n)(hh:¬J.how=1):B5 94 0 b J E N p [.int .u64 key] (G9) (E7) (F6 J.bucket (J.budget-E.n) key n 0 64 p):=by
 intro m w hm hargs hpre;have hN0:N=E.n-p.n:=by have:=hR.n;omega
 refine enX 22 hm hpre hargs Tryz.func94 fun B O a0 Z=>?_
 refine a6 [0,1,4] [0,4] Z fun X0 Z=>?_
 refine a7 (a6 [12,0,1,4] [0,4] Z fun X1 Z=>?_);apply b7 Z rfl<;>intro hb Z
 .exfalso
  have hc:J.how=1:=by subst O;simpa[std,d4]using hb
  exact hh hc
 skip
 refine f8 (a7 ?_)
 rcases(Kh 0 b J hJ E hE N p hR hp hn key hk n hf).two (cC _ _ _ _ _ _ _) hp hn hR with⟨s2,p2,N2,hm2,hs2,hp2,hn2,hR2,hN2,S2⟩|⟨wq2,p2,N2,W2,hm2,hs2,hN2,hW2,S2⟩
 .have O1:=S2
  refine f7 [4,6] [0,4,6] [(2,lc J E (G9 s2) N2 p2)] Z fun X4 Z=>?_
  refine a6 [4] [0,4] Z fun X5 Z=>?_
  exact i8 ((rgo O a8 Z (v:=s2) (q:=p2) (by simp[Rs.bind,hm2]) hN2).1)
 have O1:=S2;refine f7 [4,6] [0,4,6] [(2,sc J E (E7) N2 W2 p2.note)] Z fun X4 Z=>?_
 refine a6 [4] [0,4] Z fun X5 Z=>?_
 exact i8 ((rst O a8 Z (q:=p2) (wq:=wq2) (X4 2) (by simp[Rs.bind,hm2]) hN2 (hW2 _)).1)
theorem JE(k0 b:Nat)(J:j4)(hJ:l6 J)(E:s8)(hE:E.n<=1000000)(N:Nat)(p:Pst)(hR:Rel E N p)(hp:j3 p)(hn:p.n<=1000000)(key:Int)(hk:U64 key)(n:Nat)(hf:p.n<n)(hh:¬J.how=1):B5 94 k0 b J E N p [.int .u64 key] (G9) (E7) (F6 J.bucket (J.budget-E.n) key n 0 64 p):=B5.re (EZ b J hJ E hE N p hR hp hn key hk n hf hh) (by repeat(first|exact trivial|refine⟨zr,?_⟩))
theorem JG(k0 b:Nat)(J:j4)(hJ:l6 J)(E:s8)(hE:E.n<=1000000)(N:Nat)(p:Pst)(hR:Rel E N p)(hp:j3 p)(hn:p.n<=1000000)(key:Int)(hk:U64 key)(n:Nat)(hf:p.n<n):B5 94 k0 b J E N p [.int .u64 key] G9 E7 (ii J.bucket (J.budget-E.n) J.how key n p):=by
 unfold ii
 by_cases hh:J.how=1
 .rw [if_pos hh];exact JF k0 b J hJ E hE N p hR hp hn key hk n hf hh
 rw[if_neg hh];exact JE k0 b J hJ E hE N p hR hp hn key hk n hf hh
theorem BR(s:Spt)(hs:aP s)(a b:Int):k9 Tryz.prog 95 [G9 s,.int .u64 a,.int .u64 b] (fun x=>.sl none (x.A 0) (hasL s a b).length (x.c 0) 2 (fun i=>itC (itF (hasL s a b) i))):=by
 intro m w hm hargs;have hmx:maxLen=9223372036854775807:=rfl;have hfw:=hs.ok.ra.few;have hkk:=hs.ok.ra.key;have hlu:=hs.lab.2;obtain⟨lb,gg⟩:=s;obtain⟨gc,gv,gh,gx⟩:=gg;obtain⟨xA,xc,xr⟩:=gx;obtain⟨n,f,kd,nx,mk⟩:=xr;dsimp only at hfw hkk hlu;unfold hasL;dsimp only;refine en 48 hm hargs Tryz.func95 fun B O a0 Z=>?_
 refine a6 [1,2,3] [3] Z fun X0 Z=>?_
 refine a6 [7,3,1,2] [7,3] Z fun X1 Z=>?_
 refine a7 (a6 [7,8,3,1,2] [7,3] Z fun X2 Z=>?_);replace Z:=Z.headS (v':=.sl (some 7) none 0 0 2 (fun t=>itC s7)) (zq0) rfl;refine j1 (l3 (ι:=Nat×Nat×(Nat->Itm)×Option Addr×Nat) (fun p=>[(7,.sl (some 7) p.2.2.2.1 p.2.1 p.2.2.2.2 2 (fun t=>itC (p.2.2.1 t))),(8,.int .i64 (p.1:Int))]) (fun p=>[]) (fun p=>[(7,⟨p.2.2.2.1,p.2.1,p.2.2.2.2,2,62⟩)]) (fun p=>p.1<=n/\p.2.1<=p.1/\f5 p.2.2.1 p.2.1=(f5 f p.1).filter (gL lb a b)) (fun p=>n-p.1) (0,0,fun _=>s7,none,0) ⟨Nat.zero_le _,Nat.le_refl _,rfl⟩ Z ?_)
 rintro⟨i,q,g,A1,c1⟩ ⟨hi,hq,hg⟩ _ _ Z
 try dsimp only at hi
 try dsimp only at hq
 try dsimp only at hg
 refine a7 (a6 [16,7,8,3,1,2] [7,3] Z fun X3 Z=>?_);apply b7 Z rfl<;>intro hb Z
 .have hin:i<n:=by
   have:(i:Int)<(n:Int):=by subst O;simpa[std,d4]using hb
   omega
  have SC:=tV lb hlu (f i).key (hkk i hin);simp only[i6]at SC;obtain⟨cq,hcq⟩:=eqv (z6 lb (f i).key);rw[<-hcq]at SC;refine f8 (a7 (j1 (a7 ?_)));have O4:(0:Int)<=(i:Int):=by omega
  have O5:(i:Int)<(n:Int):=by omega
  refine j5 [9,7,8,3,1,2] [9,7,3] Z fun X5 Z=>?_
  replace Z:=Z.memS (cells':=itC (f i)) (by subst O;exact zl);have O1:=SC;refine i9 [42,9,7,8,3,1,2] [9,7,3] [(15,.r fun _=>.bool (.v cq))] Z fun X6 Z=>?_
  apply b7 Z rfl<;>intro hb Z
  .have hct:gL lb a b (f i)=true:=by
    have h9:(if(if decide (a<=(f i).key)=true then decide ((f i).key<=b)else false)=true then cq else false)=true:=by subst O;exact hb
    unfold gL;rw[<-hcq,<-h9];cases decide (a<=(f i).key)<;>cases decide ((f i).key<=b)<;>rfl
   refine j5 [7,8,3,1,2] [7,3] Z (hob:=?hob) fun X7 Z=>?_
   case hob=>
    intro X;subst O
    repeat(first|exact trivial|refine⟨⟨rfl,rfl,rfl⟩,?_⟩|refine⟨rfl,?_⟩|refine⟨⟨show q+1<=maxLen by omega,show(q+1)*_<=_ by omega⟩,?_⟩)
   replace Z:=Z.headS (v':=.sl (some 7) ((X7 3).A 0) (B.nadd q 1) ((X7 3).c 0) 2 (fun t=>itC (V3 g q (f i) t))) (Sim.resl rfl (fun t ht=>by
    subst O;have ht2:t<q+1:=ht
    show D3 q (fun t=>itC (g t)) (C9 2 [.int .u64 (f i).key,.str (f i).val]) t=_
    unfold D3 V3
    split
    .rw [if_neg (by omega)]
    have:t=q:=by omega
    subst this;simp[C9,itC])) rfl
   refine j5 [7,8,3,1,2] [7,3] Z fun X4 Z=>?_
   have e:B.arith .add .i64 (i:Int) 1=((i+1:Nat):Int):=by subst O;exact k4 (n:=n) hin (by omega)
   refine⟨(i+1,q+1,V3 g q (f i),_,_),⟨by simp only;omega,by simp only;omega,?_⟩,by simp only;omega,by rw[<-e,show q+1=B.nadd q 1 by subst O;rfl];exact Z⟩
   simp only;rw[Q8,hg,lx,if_pos hct]
  have hcf:gL lb a b (f i)=false:=by
   have h9:(if(if decide (a<=(f i).key)=true then decide ((f i).key<=b)else false)=true then cq else false)=false:=by subst O;exact hb
   unfold gL;rw[<-hcq,<-h9];cases decide (a<=(f i).key)<;>cases decide ((f i).key<=b)<;>rfl
  refine f8 (j5 [7,8,3,1,2] [7,3] Z fun X4 Z=>?_);have e:B.arith .add .i64 (i:Int) 1=((i+1:Nat):Int):=by subst O;exact k4 (n:=n) hin (by omega)
  refine⟨(i+1,q,g,_,_),⟨by simp only;omega,by simp only;omega,?_⟩,by simp only;omega,by rw[<-e];exact Z⟩;simp only;rw[hg,lx,if_neg (by rw[hcf];decide),List.append_nil]
 have hout:i=n:=by
  have:¬(i:Int)<(n:Int):=by subst O;simpa[std,d4]using hb
  omega
 rw[hout]at hg;refine j9 (a6 [6] [7] Z fun X8 Z=>?_);refine i8 ((rsi O a8 Z (⟨0,fun _=>A1,fun _=>c1,fun _=>⟨#[]⟩⟩) (he:=?_)));subst O;exact Sim.resl (by rw[<-hg,j2]) (fun t ht=>by rw[<-hg,j2]at ht;rw[<-hg,u6 _ _ t ht])
theorem FK(b:Nat)(J:j4)(hJ:l6 J)(E:s8)(hE:E.n<=1000000)(N:Nat)(p:Pst)(hR:Rel E N p)(hp:j3 p)(hn:p.n<=1000000)(s:Spt)(hs:aP s)(key:Int)(hk:U64 key)(n:Nat)(hf:p.n<n):B5 98 0 b J E N p [G9 s,.int .u64 key] (G9) (E7) (W8 J.bucket (J.budget-E.n) key n s p):=by
 intro m w hm hargs hpre;have hN0:N=E.n-p.n:=by have:=hR.n;omega
 have SC:=tV s.g.x.r.nx hs.ok.ra.nx key hk;simp only[i6]at SC;obtain⟨cv,hcv⟩:=eqv (z6 s.g.x.r.nx key);rw[<-hcv]at SC;refine enX 29 hm hpre hargs Tryz.func98 fun B O a0 Z=>?_
 refine a6 [0,2,4,6] [0,4,6] Z fun X0 Z=>?_
 refine a6 [0,2,6,7] [0,6,7] Z fun X1 Z=>?_
 have O1:=SC;refine a7 (i9 [16,0,2,6,7] [0,6,7] [(2,.r fun _=>.bool (.v cv))] Z fun X2 Z=>?_);apply b7 Z rfl<;>intro hb Z
 .have tc:z6 s.g.x.r.nx key=true:=by rw[<-hcv];exact hb
  refine a7 ?_
  rcases(P1 0 b J hJ E hE N p hR hp hn s.g.x.r.nx).two (k8 _ _ _) hp hn hR with⟨g3,p3,N3,hm3,hs3,hp3,hn3,hR3,hN3,S3⟩|⟨wq3,p3,N3,W3,hm3,hs3,hN3,hW3,S3⟩
  .have hl3:=B7 hm3
   have hg3:=hp.get hm3;have O1:=S3;refine f7 [0,2,6,7,8] [0,6,7,8] [(2,lc J E (B2 g3) N3 p3)] Z fun X3 Z=>?_
   obtain⟨r4,hr4⟩:=eqv (gk g3 1);refine a7 ?_;refine f7 [21,0,2,6,7,8] [0,6,7,8] [(1,.r fun _=>.bool (.v r4))] Z (hob:=by intro X;subst O;simp only[i7,Ob.holds,BE.den]<;>and_intros<;>repeat first|trivial|rfl|exact(by rw[hr4];exact D6 g3 1)|exact by rw[hr4];exact D6 g3 1|exact(fun _ _=>by kernel_rfl)|refine⟨?_,?_⟩|intro h|exact Int.le_refl _|decide|omega) fun X4 Z=>?_
   apply b7 Z rfl<;>intro hb Z
   .have tr:gk g3 1=true:=by rw[<-hr4];exact hb
    refine a6 [6] [0,6] Z fun X5 Z=>?_
    exact i8 ((rgo O a8 Z (v:=(⟨s.g.x.r.nx,g3⟩:Spt)) (q:=p3) (by simp[W8,Rs.bind,tc,hm3,tr]) hN3).1)
   have tr:gk g3 1=false:=by rw[<-hr4];exact hb
   refine f8 (a7 ?_)
   rcases(Hw 0 b J hJ E hE N3 p3 hR3 hp3 hn3 key hk n (by skip;have:=hl3;omega)).two (D5 _ _ _ _ _ _) hp3 hn3 hR3 with⟨s6,p6,N6,hm6,hs6,hp6,hn6,hR6,hN6,S6⟩|⟨wq6,p6,N6,W6,hm6,hs6,hN6,hW6,S6⟩
   .have O1:=S6
    refine f7 [6,9] [0,6,9] [(2,lc J E (G9 s6) N6 p6)] Z fun X6 Z=>?_
    refine a6 [6] [0,6] Z fun X7 Z=>?_
    exact i8 ((rgo O a8 Z (v:=s6) (q:=p6) (by simp[W8,Rs.bind,tc,hm3,tr,hm6]) hN6).1)
   have O1:=S6;refine f7 [6,9] [0,6,9] [(2,sc J E (E7) N6 W6 p6.note)] Z fun X6 Z=>?_
   refine a6 [6] [0,6] Z fun X7 Z=>?_
   exact i8 ((rst O a8 Z (q:=p6) (wq:=wq6) (X6 2) (by simp[W8,Rs.bind,tc,hm3,tr,hm6]) hN6 (hW6 _)).1)
  have O1:=S3;refine f7 [0,2,6,7,8] [0,6,7,8] [(2,sc J E (.agg [.int .i64 0,.int .u64 0,.bool .ff,.int .i64 0,.sl none none 0 0 2 (fun _=>[]),.int .i64 0,.int .u64 0,.int .u64 0]) N3 W3 p3.note)] Z fun X3 Z=>?_
  refine a7 ?_;refine f7 [21,0,2,6,7,8] [0,6,7,8] [(1,.r fun _=>.bool .ff)] Z fun X4 Z=>?_
  refine l4 Z rfl (fun Z=>?_);have O1:=Mq 0 b J E hE N3 (W3 (X3 2)) p3.note key;refine f8 (i9 [6,9] [0,6,9] [(2,dc J E (E7) N3 (W3 (X3 2)) p3.note)] Z fun X6 Z=>?_);refine a6 [6] [0,6] Z fun X7 Z=>?_
  exact i8 ((rst O a8 Z (q:=p3) (wq:=wq3) (X3 2) (by simp[W8,Rs.bind,tc,hm3]) hN3 (hW3 _)).1)
 have tc:z6 s.g.x.r.nx key=false:=by rw[<-hcv];exact hb
 refine f8 (a7 ?_)
 rcases(Hw 0 b J hJ E hE N p hR hp hn key hk n (by skip;omega)).two (D5 _ _ _ _ _ _) hp hn hR with⟨s6,p6,N6,hm6,hs6,hp6,hn6,hR6,hN6,S6⟩|⟨wq6,p6,N6,W6,hm6,hs6,hN6,hW6,S6⟩
 .have O1:=S6
  refine f7 [6,9] [0,6,9] [(2,lc J E (G9 s6) N6 p6)] Z fun X6 Z=>?_
  refine a6 [6] [0,6] Z fun X7 Z=>?_
  exact i8 ((rgo O a8 Z (v:=s6) (q:=p6) (by simp[W8,Rs.bind,tc,hm6]) hN6).1)
 have O1:=S6;refine f7 [6,9] [0,6,9] [(2,sc J E (E7) N6 W6 p6.note)] Z fun X6 Z=>?_
 refine a6 [6] [0,6] Z fun X7 Z=>?_
 exact i8 ((rst O a8 Z (q:=p6) (wq:=wq6) (X6 2) (by simp[W8,Rs.bind,tc,hm6]) hN6 (hW6 _)).1)
theorem Cc(k0 b:Nat)(J:j4)(hJ:l6 J)(E:s8)(hE:E.n<=1000000)(N:Nat)(p:Pst)(hR:Rel E N p)(hp:j3 p)(hn:p.n<=1000000)(s:Spt)(hs:aP s)(key:Int)(hk:U64 key)(n:Nat)(hf:p.n<n):B5 98 k0 b J E N p [G9 s,.int .u64 key] (G9) (E7) (W8 J.bucket (J.budget-E.n) key n s p):=B5.re (FK b J hJ E hE N p hR hp hn s hs key hk n hf) (by repeat(first|exact trivial|refine⟨zr,?_⟩))
theorem oX{c z n:Nat}(hc:c<2)(hz:z<2^64)(hn:n<32):j0 .add .u32 (j0 .mul .u32 2 ((dj c z n:Nat):Int)) (IntKind.u32.wrap (j0 .and .u64 (s3 .shr .u64 (z:Int) ((2*(31-n)+c:Nat):Int)) 1))=((dj c z (n+1):Nat):Int):=by
 have hs:(z >>> (2*(31-n)+c))<2^64:=by rw[Nat.shiftRight_eq_div_pow];exact Nat.lt_of_le_of_lt (Nat.div_le_self _ _) hz
 have e1:=sg (x:=z >>> (2*(31-n)+c)) (y:=1) hs (by decide);rw[show((1:Nat):Int)=1 from rfl]at e1;rw[AJ hz (by omega),e1,Nat.and_one_is_mod];have hlt:dj c z n<2^n:=Nat.lt_pow_two_of_testBit _ fun i hi=>by rw[nr _ _ _ _ (by omega),decide_eq_false (by omega),Bool.false_and]
 have hp:2^n<=2^31:=Nat.pow_le_pow_right (by decide) (by omega);have e31:(2:Nat)^31=2147483648:=by decide
 have h2:=Nat.mod_lt (z >>> (2*(31-n)+c)) (show 0<2 by decide)
 have hm:j0 .mul .u32 2 ((dj c z n:Nat):Int)=((2*dj c z n:Nat):Int):=by
  show IntKind.u32.wrap (2*((dj c z n:Nat):Int))=_
  rw[show 2*((dj c z n:Nat):Int)=((2*dj c z n:Nat):Int)by omega,ft (by omega)]
 rw[hm,ft (by omega)]
 show IntKind.u32.wrap (((2*dj c z n:Nat):Int)+((z >>> (2*(31-n)+c) % 2:Nat):Int))=_
 rw[show((2*dj c z n:Nat):Int)+((z >>> (2*(31-n)+c) % 2:Nat):Int)=((2*dj c z n+z >>> (2*(31-n)+c) % 2:Nat):Int)by omega,ft (by omega),Nat.shiftRight_eq_div_pow,<-Nat.toNat_testBit];rfl
theorem uQ(z:Nat)(hz:z<2^64):k9 Tryz.prog 155 [.int .u64 (z:Int)] (fun _=>.tup [.int .u32 ((crd 0 z:Nat):Int),.int .u32 ((crd 1 z:Nat):Int)]):=by
 intro m w hm hargs;obtain⟨xf,hxf⟩:=eqv (dj 0 z);obtain⟨yf,hyf⟩:=eqv (dj 1 z);have e0:crd 0 z=xf 32:=by rw[hxf];rfl
 have e1:crd 1 z=yf 32:=by rw[hyf];rfl
 rw[e0,e1];refine en 32 hm hargs Tryz.func155 fun B O a0 Z=>?_
 refine a6 [0] [] Z fun X0 Z=>?_
 refine a6 [0,4] [] Z fun X1 Z=>?_
 refine a6 [0,4,5] [] Z fun X2 Z=>?_
 refine a7 (a6 [4,5,6,0] [] Z fun X3 Z=>?_);replace Z:=Z.slots (l:=[(4,.int .u32 ((xf 0:Nat):Int)),(5,.int .u32 ((yf 0:Nat):Int)),(6,.int .i64 31),(0,.int .u64 (z:Int))]) ⟨⟨rfl,by subst hxf;exact zr⟩,⟨rfl,by subst hyf;exact zr⟩,⟨rfl,zr⟩,⟨rfl,zr⟩,trivial⟩;refine j1 (l3 (ι:=Nat×Int) (fun p=>[(4,.int .u32 ((xf p.1:Nat):Int)),(5,.int .u32 ((yf p.1:Nat):Int)),(6,.int .i64 p.2)]) (fun p=>[]) (fun p=>[]) (fun p=>p.1<=32/\p.2=31-(p.1:Int)) (fun p=>32-p.1) (0,31) ⟨Nat.zero_le _,rfl⟩ Z ?_)
 rintro⟨n,i⟩ ⟨hn,hi⟩ _ _ Z
 try dsimp only at hn
 try dsimp only at hi
 refine a7 (a6 [8,4,5,6,0] [] Z fun X4 Z=>?_);apply b7 Z rfl<;>intro hb Z
 .have hge:0<=i:=by subst O;simpa[std,d4]using hb
  have hn2:n<32:=by omega
  have em:j0 .mul .i64 2 i=((2*(31-n):Nat):Int):=by
   show IntKind.i64.wrap _=_
   rw[o8 (by omega) (by omega)];omega
  have ea:j0 .add .i64 ((2*(31-n):Nat):Int) 1=((2*(31-n)+1:Nat):Int):=by
   show IntKind.i64.wrap _=_
   rw[o8 (by omega) (by omega)];omega
  have r0:=oX (c:=0) (by decide) hz hn2;have r1:=oX (c:=1) (by decide) hz hn2;rw[Nat.add_zero,<-hxf,<-em]at r0;rw[<-hyf,<-ea,<-em]at r1;refine f8 (a7 (j1 (a6 [4,5,6,0] [] Z (hob:=?hob) fun X6 Z=>?_)))
  case hob=>
   intro X;subst O;refine⟨?_,trivial⟩
   show 0<=j0 .mul .i64 2 i
   rw[em];exact Int.natCast_nonneg _
  replace Z:=Z.headS (v':=.int .u32 ((xf (n+1):Nat):Int)) (by subst O;exact Sim.of_int2 r0) rfl;refine j5 [5,4,6,0] [] Z (hob:=?hob) fun X7 Z=>?_
  case hob=>
   intro X;subst O;refine⟨?_,trivial⟩
   show 0<=j0 .add .i64 (j0 .mul .i64 2 i) 1
   rw[em,ea];exact Int.natCast_nonneg _
  replace Z:=Z.headS (v':=.int .u32 ((yf (n+1):Nat):Int)) (by subst O;exact Sim.of_int2 r1) rfl;refine j5 [4,5,6,0] [] Z fun X5 Z=>?_
  have e9:B.arith .sub .i64 i 1=i-1:=by subst O;exact o8 (by omega) (by omega)
  exact⟨(n+1,i-1),⟨by dsimp only;omega,by dsimp only;omega⟩,by dsimp only;omega,by rw[<-e9];exact Z⟩
 have hlt:¬0<=i:=by subst O;simpa[std,d4]using hb
 have hn3:n=32:=by omega
 subst hn3;refine j9 (a6 [2,3] [] Z fun X8 Z=>?_);exact i8 ((rsp O a8 Z C5).1)
theorem qk(R:B8):k9 Tryz.prog 39 [eR R] (fun _=>.bool (.v (decide R.Is))):=by
 intro m w hm hargs;refine en 15 hm hargs Tryz.func39 fun B O a0 Z=>?_
 refine a6 [1] [1] Z fun X0 Z=>?_
 refine a6 [2] [] Z fun X1 Z=>?_
 refine z7 Z ?_;subst O;refine Sim.bool ?_
 by_cases h1:R.x1<=R.x2<;>by_cases h2:R.y1<=R.y2<;>simp[std,d4,BE.den,fT,B8.Is,h1,h2]
theorem JY(R:B8)(z:Nat)(hz:z<2^64):k9 Tryz.prog 96 [eR R,.int .u64 (z:Int)] (fun _=>.bool (.v (decide (R.Is/\gX R z)))):=by
 intro m w hm hargs;have S1:=uQ z hz;have S2:=qk R;have HI:gX R z↔R.x1<=crd 0 z/\crd 0 z<=R.x2/\R.y1<=crd 1 z/\crd 1 z<=R.y2:=Iff.rfl;obtain⟨cx,hcx⟩:=eqv (crd 0 z);rw[<-hcx]at S1 HI;obtain⟨cy,hcy⟩:=eqv (crd 1 z);rw[<-hcy]at S1 HI;obtain⟨ri,hri⟩:=eqv (decide R.Is);rw[<-hri]at S2;refine en 38 hm hargs Tryz.func96 fun B O a0 Z=>?_
 refine a6 [1,2] [2] Z fun X0 Z=>?_
 have O1:=S1;refine i9 [2,5,6] [2] [(1,.r fun _=>.tup [.int .u32 (cx:Int),.int .u32 (cy:Int)])] Z fun X1 Z=>?_
 have O1:=S2;refine i9 [4] [] [(1,.r fun _=>.bool (.v ri))] Z fun X2 Z=>?_
 refine z7 Z ?_;subst O;refine Sim.bool ?_;rw[hri];simp only[HI]
 by_cases h1:R.Is<;>by_cases h2:R.x1<=cx<;>by_cases h3:cx<=R.x2<;>by_cases h4:R.y1<=cy<;>by_cases h5:cy<=R.y2<;>simp[std,d4,BE.den,fT,h1,h2,h3,h4,h5]
theorem Cb(l:Lab)(hL:isL l=true)(hb0:U64 l.bits)(lo hi:Nat)(hlo:l.bits=(lo:Int))(hhi:l.bits+szL l-1=(hi:Int))(h1:lo<2^64)(h2:hi<2^64):k9 Tryz.prog 254 [i6 l] (fun _=>.tup [eR ⟨crd 0 lo,crd 0 hi,crd 1 lo,crd 1 hi⟩,.int .i64 0]):=by
 intro m w hm hargs;have S:=pY l hL hb0;rw[hhi]at S;have A:=uQ lo h1;have C:=uQ hi h2;obtain⟨ua,hua⟩:=eqv (crd 0 lo);rw[<-hua]at A ⊢;obtain⟨ub,hub⟩:=eqv (crd 1 lo);rw[<-hub]at A ⊢;obtain⟨uc,huc⟩:=eqv (crd 0 hi);rw[<-huc]at C ⊢;obtain⟨ud,hud⟩:=eqv (crd 1 hi);rw[<-hud]at C ⊢;simp only[i6]at S hargs;obtain⟨ll,bb⟩:=l;dsimp only at hlo S hargs;subst hlo;refine en 36 hm hargs Tryz.func254 fun B O a0 Z=>?_
 refine a6 [1,2] [1,2] Z fun X0 Z=>?_
 have O1:=S;refine i9 [2,4,5,6] [2] [(1,.r fun _=>.tup [.int .u64 (lo:Int),.int .u64 (hi:Int),.int .i64 0])] Z fun X1 Z=>?_
 refine a7 (a6 [18,2,4,5,6] [2] Z fun X2 Z=>?_);apply b7 Z rfl<;>intro hb Z
 .exfalso
  subst O;revert hb;simp[std,d4]
 have O1:=A;refine f8 (i9 [2,5,7,8] [2] [(1,.r fun _=>.tup [.int .u32 (ua:Int),.int .u32 (ub:Int)])] Z fun X4 Z=>?_);have O1:=C;refine i9 [2,7,8,9,10] [2] [(1,.r fun _=>.tup [.int .u32 (uc:Int),.int .u32 (ud:Int)])] Z fun X5 Z=>?_
 refine a6 [2,3] [2] Z fun X6 Z=>?_
 exact i8 ((rsp O a8 Z C5).1)
theorem JR(R:B8)(l:Lab)(hL:isL l=true)(hb0:U64 l.bits)(lo hi:Nat)(hlo:l.bits=(lo:Int))(hhi:l.bits+szL l-1=(hi:Int))(h1:lo<2^64)(h2:hi<2^64):k9 Tryz.prog 215 [eR R,i6 l] (fun _=>.bool (.v (decide (R.Is/\Z8 R lo hi)))):=by
 intro m w hm hargs;have S1:=Cb l hL hb0 lo hi hlo hhi h1 h2;have S2:=qk R;have HI:Z8 R lo hi↔crd 0 lo<=R.x2/\R.x1<=crd 0 hi/\crd 1 lo<=R.y2/\R.y1<=crd 1 hi:=Iff.rfl;obtain⟨ua,hua⟩:=eqv (crd 0 lo);rw[<-hua]at S1 HI;obtain⟨ub,hub⟩:=eqv (crd 1 lo);rw[<-hub]at S1 HI;obtain⟨uc,huc⟩:=eqv (crd 0 hi);rw[<-huc]at S1 HI;obtain⟨ud,hud⟩:=eqv (crd 1 hi);rw[<-hud]at S1 HI;obtain⟨ri,hri⟩:=eqv (decide R.Is);rw[<-hri]at S2;simp only[i6]at S1 hargs;refine en 46 hm hargs Tryz.func215 fun B O a0 Z=>?_
 refine a6 [2,3] [2,3] Z fun X0 Z=>?_
 have O1:=S1;refine i9 [2,5,6] [2,5] [(1,.r fun _=>.tup [eR ⟨ua,uc,ub,ud⟩,.int .i64 0])] Z fun X1 Z=>?_
 have O1:=S2;refine i9 [4] [] [(4,.r fun _=>.bool (.v ri))] Z fun X2 Z=>?_
 refine z7 Z ?_;subst O;refine Sim.bool ?_;rw[hri];simp only[HI]
 by_cases h1:R.Is<;>by_cases h2:ua<=R.x2<;>by_cases h3:R.x1<=uc<;>by_cases h4:ub<=R.y2<;>by_cases h5:R.y1<=ud<;>simp[std,d4,BE.den,fT,h1,h2,h3,h4,h5]
theorem JZ(R:B8)(l:Lab)(hL:isL l=true)(hb0:U64 l.bits)(lo hi:Nat)(hlo:l.bits=(lo:Int))(hhi:l.bits+szL l-1=(hi:Int))(h1:lo<2^64)(h2:hi<2^64):k9 Tryz.prog 216 [eR R,i6 l] (fun _=>.bool (.v (decide (R.Is/\eb R lo hi)))):=by
 intro m w hm hargs;have S1:=Cb l hL hb0 lo hi hlo hhi h1 h2;have S2:=qk R;have HI:eb R lo hi↔R.x1<=crd 0 lo/\crd 0 hi<=R.x2/\R.y1<=crd 1 lo/\crd 1 hi<=R.y2:=Iff.rfl;obtain⟨ua,hua⟩:=eqv (crd 0 lo);rw[<-hua]at S1 HI;obtain⟨ub,hub⟩:=eqv (crd 1 lo);rw[<-hub]at S1 HI;obtain⟨uc,huc⟩:=eqv (crd 0 hi);rw[<-huc]at S1 HI;obtain⟨ud,hud⟩:=eqv (crd 1 hi);rw[<-hud]at S1 HI;obtain⟨ri,hri⟩:=eqv (decide R.Is);rw[<-hri]at S2;simp only[i6]at S1 hargs;refine en 46 hm hargs Tryz.func216 fun B O a0 Z=>?_
 refine a6 [2,3] [2,3] Z fun X0 Z=>?_
 have O1:=S1;refine i9 [2,5,6] [2,5] [(1,.r fun _=>.tup [eR ⟨ua,uc,ub,ud⟩,.int .i64 0])] Z fun X1 Z=>?_
 have O1:=S2;refine i9 [4] [] [(4,.r fun _=>.bool (.v ri))] Z fun X2 Z=>?_
 refine z7 Z ?_;subst O;refine Sim.bool ?_;rw[hri];simp only[HI]
 by_cases h1:R.Is<;>by_cases h2:R.x1<=ua<;>by_cases h3:uc<=R.x2<;>by_cases h4:R.y1<=ub<;>by_cases h5:ud<=R.y2<;>simp[std,d4,BE.den,fT,h1,h2,h3,h4,h5]
theorem Bf{R:B8}{z n lo:Nat}(h:lo+2^n-1<z \/ ¬Z8 R lo (lo+2^n-1)):Z5 R z n lo=(0,false):=by
 cases n with
 |zero=>unfold Z5;rw[if_pos (by simpa using h)]
 |succ n=>unfold Z5;rw[if_pos h]
theorem ED{R:B8}{z n lo:Nat}(h:¬(lo+2^n-1<z \/ ¬Z8 R lo (lo+2^n-1)))(hh:eb R lo (lo+2^n-1)):Z5 R z n lo=(max lo z,true):=by
 cases n with
 |zero=>unfold Z5;rw[if_neg (by simpa using h),if_pos (by simpa using hh)]
 |succ n=>unfold Z5;rw[if_neg h,if_pos hh]
theorem ya{R:B8}{z lo:Nat}(h:¬(lo+2^0-1<z \/ ¬Z8 R lo (lo+2^0-1))):eb R lo (lo+2^0-1):=by
 have h9:Z8 R lo (lo+2^0-1):=Classical.byContradiction fun h9=>h (.inr h9)
 rw[show lo+2^0-1=lo by omega]at h9 ⊢;exact⟨h9.2.1,h9.1,h9.2.2.2,h9.2.2.1⟩
theorem yb{R:B8}{z n lo:Nat}(h:¬(lo+2^(n+1)-1<z \/ ¬Z8 R lo (lo+2^(n+1)-1)))(hh:¬eb R lo (lo+2^(n+1)-1)):Z5 R z (n+1) lo=if(Z5 R z n lo).2=true then Z5 R z n lo else Z5 R z n (lo+2^n):=by
 rw[Z5,if_neg h,if_neg hh]
theorem vX{R:B8}{z:Nat}:∀{n lo:Nat},(Z5 R z n lo).2=false->Z5 R z n lo=(0,false)
 |0,lo,h=>by
  unfold Z5 at h ⊢
  split
  .rfl
  rename_i h1
  rw[if_neg h1]at h
  split
  .rename_i h2;rw[if_pos h2]at h;cases h
  rfl
 |n+1,lo,h=>by
  unfold Z5 at h ⊢
  split
  .rfl
  rename_i h1
  rw[if_neg h1]at h
  split
  .rename_i h2;rw[if_pos h2]at h;cases h
  rename_i h2
  rw[if_neg h2]at h
  split
  .rename_i h3;rw[if_pos h3,h3]at h;cases h
  rename_i h3;rw[if_neg h3]at h;exact vX h
def bi(R:B8)(z n lo:Nat):Nat×Bool:=if R.Is then Z5 R z n lo else(0,false)
theorem EB{R:B8}{z n lo:Nat}(h:lo+2^n-1<z \/ ¬(R.Is/\Z8 R lo (lo+2^n-1))):bi R z n lo=(0,false):=by
 unfold bi
 split
 .rename_i hI
  exact Bf (h.imp id fun g m=>g ⟨hI,m⟩)
 rfl
theorem lj{R:B8}{z n lo:Nat}(h:¬(lo+2^n-1<z \/ ¬(R.Is/\Z8 R lo (lo+2^n-1)))):R.Is/\¬(lo+2^n-1<z \/ ¬Z8 R lo (lo+2^n-1)):=by
 have h9:R.Is/\Z8 R lo (lo+2^n-1):=Classical.byContradiction fun h9=>h (.inr h9)
 exact⟨h9.1,fun g=>g.elim (fun g=>h (.inl g)) fun g=>g h9.2⟩
theorem IU{R:B8}{z n lo:Nat}(h:¬(lo+2^n-1<z \/ ¬(R.Is/\Z8 R lo (lo+2^n-1))))(hh:R.Is/\eb R lo (lo+2^n-1)):bi R z n lo=(max lo z,true):=by
 unfold bi;rw[if_pos hh.1];exact ED (lj h).2 hh.2
theorem Bc{R:B8}{z n lo:Nat}(e:n=0)(h:¬(lo+2^n-1<z \/ ¬(R.Is/\Z8 R lo (lo+2^n-1)))):R.Is/\eb R lo (lo+2^n-1):=by
 subst e;exact⟨(lj h).1,ya (lj h).2⟩
theorem Be{R:B8}{z n lo:Nat}(h:¬(lo+2^(n+1)-1<z \/ ¬(R.Is/\Z8 R lo (lo+2^(n+1)-1))))(hh:¬(R.Is/\eb R lo (lo+2^(n+1)-1))):bi R z (n+1) lo=if(bi R z n lo).2=true then bi R z n lo else bi R z n (lo+2^n):=by
 obtain⟨hI,h⟩:=lj h;unfold bi;rw[if_pos hI,if_pos hI,if_pos hI];exact yb h fun g=>hh ⟨hI,g⟩
theorem Bd{R:B8}{z n lo:Nat}(h:(bi R z n lo).2=false):bi R z n lo=(0,false):=by
 unfold bi at h ⊢
 split at h
 .rename_i hI;rw[if_pos hI];exact vX h
 rename_i hI;rw[if_neg hI]
theorem Bj{l:Lab}(hL:isL l=true)(hb:U64 l.bits){n lo:Nat}(hn:l.len=64-((n+1:Nat):Int))(hlo:l.bits=(lo:Int)):chE l 0=0/\chE l 1=0/\isL (chV l 0)=true/\isL (chV l 1)=true/\(chV l 0).len=64-(n:Int)/\(chV l 1).len=64-(n:Int)/\(chV l 0).bits=(lo:Int)/\(chV l 1).bits=((lo+2^n:Nat):Int):=by
 have h64:l.len≠64:=by omega
 have hE:∀b,chE l b=0:=fun b=>by unfold chE;rw[hL];simp[h64]
 have hV:∀b,chV l b=u7 l b:=fun b=>by unfold chV;rw[if_pos (hE b)]
 obtain⟨h0,h1,_⟩:=r8 hL;obtain⟨c0,c1⟩:=uU hL h64;refine⟨hE 0,hE 1,by rw[hV];exact bG hL hb h64 0,by rw[hV];exact bG hL hb h64 1,?_,?_,by rw[hV,c0,hlo],?_⟩
 .rw [hV];show l.len+1=_;omega
 .rw [hV];show l.len+1=_;omega
 rw[hV,c1,hlo];unfold szL;rw[show(u7 l 0).len.toNat=64-n by show(l.len+1).toNat=_;omega]
 by_cases h:n<=64
 .rw [show 64-(64-n)=n by omega];push_cast;rfl
 omega
theorem BP(R:B8)(z:Nat)(hz:z<2^64)(n:Nat)(IH:∀n2:Nat,n=n2+1->∀(l:Lab) (lo:Nat) (hL:isL l=true) (hb0:U64 l.bits) (hn:l.len=64-(n2:Int)) (hlo:l.bits=(lo:Int)),k9 Tryz.prog 151 [eR R,.int .u64 (z:Int),i6 l] (fun _=>.tup [.int .u64 ((bi R z n2 lo).1:Nat),.bool (.v (bi R z n2 lo).2)]))(l:Lab)(lo:Nat)(hL:isL l=true)(hb0:U64 l.bits)(hn:l.len=64-(n:Int))(hlo:l.bits=(lo:Int)):k9 Tryz.prog 151 [eR R,.int .u64 (z:Int),i6 l] (fun _=>.tup [.int .u64 ((bi R z n lo).1:Nat),.bool (.v (bi R z n lo).2)]):=by
 intro m w hm hargs;obtain⟨hl0,hl1,_⟩:=r8 hL;have hsz:szL l=((2^n:Nat):Int):=by unfold szL;rw[show 64-l.len.toNat=n by omega]
 have hle:=qr hL hb0;rw[hsz,hlo]at hle;have hp2:0<2^n:=Nat.pow_pos (by decide);have hp64:(2:Nat)^64=18446744073709551616:=by decide
 have hkid:=fun n2 (h:n=n2+1)=>Bj hL hb0 (n:=n2) (lo:=lo) (by rw[hn,h]) hlo
 have hout:lo+2^n-1<z \/ ¬(R.Is/\Z8 R lo (lo+2^n-1))->bi R z n lo=(0,false):=fun h=>EB h
 have hinn:¬(lo+2^n-1<z \/ ¬(R.Is/\Z8 R lo (lo+2^n-1)))->(R.Is/\eb R lo (lo+2^n-1))->bi R z n lo=(max lo z,true):=fun h g=>IU h g
 have hkd:=fun h g n2 (e:n=n2+1)=>Be (R:=R) (z:=z) (lo:=lo) (n:=n2) (e ▸ h) (e ▸ g)
 have hz0:¬(lo+2^n-1<z \/ ¬(R.Is/\Z8 R lo (lo+2^n-1)))-> ¬(R.Is/\eb R lo (lo+2^n-1))->n≠0:=fun h g e=>g (Bc e h)
 obtain⟨hi,hhi⟩:=eqv (lo+2^n-1);rw[<-hhi]at hout hinn hz0 hkd;have hhb:l.bits+szL l-1=(hi:Int):=by rw[hsz,hlo];omega
 have S0:=pY l hL hb0;rw[hhb]at S0;have SM:=JR R l hL hb0 lo hi hlo hhb (by omega) (by omega);have SH:=JZ R l hL hb0 lo hi hlo hhb (by omega) (by omega);have SC0:=U3 l hb0 0 (.inl rfl);have SC1:=U3 l hb0 1 (.inr rfl);obtain⟨me,hme⟩:=eqv (decide (R.Is/\Z8 R lo hi));rw[<-hme]at SM;obtain⟨ho,hho⟩:=eqv (decide (R.Is/\eb R lo hi));rw[<-hho]at SH;obtain⟨x0,hx0⟩:=eqv (chV l 0);rw[<-hx0]at SC0 hkid;obtain⟨x1,hx1⟩:=eqv (chV l 1);rw[<-hx1]at SC1 hkid;obtain⟨y0,hy0⟩:=eqv (chE l 0);rw[<-hy0]at SC0 hkid;obtain⟨y1,hy1⟩:=eqv (chE l 1);rw[<-hy1]at SC1 hkid;simp only[i6]at S0 SM SH SC0 SC1 hargs;obtain⟨ll,bb⟩:=l;dsimp only at hlo;subst hlo;dsimp only at S0 SM SH SC0 SC1 hargs;refine en 56 hm hargs Tryz.func151 fun B O a0 Z=>?_
 refine a6 [1,3,5] [3,5] Z fun X0 Z=>?_
 have O1:=S0;refine i9 [1,3,5,8,9] [3,5] [(1,.r fun _=>.tup [.int .u64 (lo:Int),.int .u64 (hi:Int),.int .i64 0])] Z fun X1 Z=>?_
 have O1:=SM;refine a7 (i9 [30,1,3,5,8] [3,5] [(6,.r fun _=>.bool (.v me))] Z fun X2 Z=>?_);apply b7 Z rfl<;>intro hb Z
 .have tt:bi R z n lo=(0,false):=by
   refine hout ?_;have h9:(if decide ((hi:Int)<(z:Int))=true then true else !me)=true:=by subst O;exact hb
   by_cases h:hi<z
   .exact .inl h
   refine .inr (fun hc=>?_);rw[if_neg (by simp only[decide_eq_true_eq];omega),hme,decide_eq_true hc]at h9
   cases h9
  refine a6 [6,7] [] Z fun X3 Z=>?_
  refine z7 Z ?_;subst O;rw[tt];exact Sim.tup ⟨zr,Sim.bool rfl,trivial⟩
 have tn:¬(hi<z \/ ¬(R.Is/\Z8 R lo hi)):=by
  have h9:(if decide ((hi:Int)<(z:Int))=true then true else !me)=false:=by subst O;exact hb
  rintro(h|h)
  .rw [if_pos (by simp only[decide_eq_true_eq];omega)]at h9;cases h9
  rw[hme,decide_eq_false h]at h9;revert h9;split<;>simp
 have O1:=SH;refine f8 (a7 (i9 [33,1,3,5,8] [3,5] [(2,.r fun _=>.bool (.v ho))] Z fun X4 Z=>?_));apply b7 Z rfl<;>intro hb Z
 .have th:=hinn tn (of_decide_eq_true (hho.symm.trans hb))
  refine a6 [6,7] [] Z fun X5 Z=>?_
  refine z7 Z ?_;subst O;rw[th];refine Sim.tup ⟨?_,Sim.bool rfl,trivial⟩;exact Sim.of_int2 (by show(if decide ((lo:Int)<(z:Int))=true then(z:Int)else(lo:Int))=((max lo z:Nat):Int);simp only[decide_eq_true_eq];split<;>omega)
 have tg:¬(R.Is/\eb R lo hi):=of_decide_eq_false (hho.symm.trans hb);obtain⟨n2,hn2⟩:∃n2,n=n2+1:=⟨n-1,by have:=hz0 tn tg;omega⟩
 obtain⟨hy0,hy1,ha0,ha1,hb2,hb3,hc0,hc1⟩:=hkid n2 hn2;have tk:=hkd tn tg n2 hn2;rw[<-hn2]at tk;have hpk:2^n=2*2^n2:=by rw[hn2,Nat.pow_succ,Nat.mul_comm]
 have I0:=IH n2 hn2 x0 lo ha0 (by rw[hc0];exact⟨by omega,by omega⟩) hb2 hc0;have I1:=IH n2 hn2 x1 (lo+2^n2) ha1 (by rw[hc1];exact⟨by omega,by omega⟩) hb3 hc1;simp only[i6]at I0 I1;obtain⟨q0,hq0⟩:=eqv (bi R z n2 lo);obtain⟨q1,hq1⟩:=eqv (bi R z n2 (lo+2^n2));rw[<-hq0]at I0 tk;rw[<-hq1]at I1 tk;have hno0:q0.2=false->q0=(0,false):=fun h=>by rw[hq0]at h ⊢;exact Bd h
 have hno1:q1.2=false->q1=(0,false):=fun h=>by rw[hq1]at h ⊢;exact Bd h
 obtain⟨v0,b0⟩:=q0;obtain⟨v1,b1⟩:=q1;dsimp only at I0 I1 tk hno0 hno1;refine f8 (a7 (a6 [11,1,3,5] [3,5] Z fun X6 Z=>?_));refine j1 (wp_loop_rounds 3 (F0 (a7 (a6 [38,1,3,5,11] [3,5] Z fun X7 Z=>?_))));replace Z:=Z.headS (v':=.bool .tt) (Sim.bool (by subst O;rfl)) rfl;refine l7 Z rfl (fun Z=>?_);have O1:=SC0;refine f8 (a7 (j1 (i9 [1,3,5,11,12] [12,3,5] [(2,.r fun _=>.tup [.agg [.int .i64 x0.len,.int .u64 x0.bits],.int .i64 y0])] Z fun X9 Z=>?_)));have O1:=I0;refine i9 [1,3,5,11,14,15] [3,5] [(3,.r fun _=>.tup [.int .u64 (v0:Int),.bool (.v b0)])] Z fun X10 Z=>?_
 refine a6 [54,1,3,5,11,14] [3,5] Z fun X11 Z=>?_
 apply b7 Z rfl<;>intro hb Z
 .have tb0:b0=true:=hb
  refine a6 [6,7] [] Z fun X12 Z=>?_
  refine z7 Z ?_;subst O;rw[tk,if_pos tb0];exact Sim.tup ⟨zr,Sim.bool (by rw[tb0];rfl),trivial⟩
 have tb0:b0=false:=hb;refine f8 (j5 [11,1,3,5] [3,5] Z fun X8 Z=>?_);replace Z:=Z.headS (v':=.int .i64 1) (by subst O;exact zr) rfl;refine l5 (a7 (a6 [38,1,3,5,11] [3,5] Z fun X7 Z=>?_));replace Z:=Z.headS (v':=.bool .tt) (Sim.bool (by subst O;rfl)) rfl;refine l7 Z rfl (fun Z=>?_);have O1:=SC1;refine f8 (a7 (j1 (i9 [1,3,5,11,12] [12,3,5] [(2,.r fun _=>.tup [.agg [.int .i64 x1.len,.int .u64 x1.bits],.int .i64 y1])] Z fun X9 Z=>?_)));have O1:=I1;refine i9 [1,3,5,11,14,15] [3,5] [(3,.r fun _=>.tup [.int .u64 (v1:Int),.bool (.v b1)])] Z fun X10 Z=>?_
 refine a6 [54,1,3,5,11,14] [3,5] Z fun X11 Z=>?_
 apply b7 Z rfl<;>intro hb Z
 .have tb1:b1=true:=hb
  refine a6 [6,7] [] Z fun X12 Z=>?_
  refine z7 Z ?_;subst O;rw[tk,if_neg (by rw[tb0];decide)];exact Sim.tup ⟨zr,Sim.bool (by rw[tb1];rfl),trivial⟩
 have tb1:b1=false:=hb;refine f8 (j5 [11,1,3,5] [3,5] Z fun X8 Z=>?_);replace Z:=Z.headS (v':=.int .i64 2) (by subst O;exact zr) rfl;refine l5 (a7 (a6 [38,1,3,5,11] [3,5] Z fun X7 Z=>?_));replace Z:=Z.headS (v':=.bool .ff) (Sim.bool (by subst O;rfl)) rfl;refine l4 Z rfl (fun Z=>?_);refine j9 (a6 [6,7] [] Z fun X13 Z=>?_);refine z7 Z ?_;subst O;rw[tk,if_neg (by rw[tb0];decide),hno1 tb1];exact Sim.tup ⟨zr,Sim.bool rfl,trivial⟩
theorem Hx(R:B8)(z:Nat)(hz:z<2^64):∀(n:Nat) (l:Lab) (lo:Nat) (hL:isL l=true) (hb0:U64 l.bits) (hn:l.len=64-(n:Int)) (hlo:l.bits=(lo:Int)),k9 Tryz.prog 151 [eR R,.int .u64 (z:Int),i6 l] (fun _=>.tup [.int .u64 ((bi R z n lo).1:Nat),.bool (.v (bi R z n lo).2)])
 |0=>BP R z hz 0 fun n2 h=>by cases h
 |n+1=>BP R z hz (n+1) fun n2 h=>by injection h with h;subst h;exact Hx R z hz n
theorem JV(R:B8)(z:Nat)(hz:z<2^64):k9 Tryz.prog 93 [eR R,.int .u64 (z:Int)] (fun _=>.tup [.int .u64 ((T8 R z).1:Nat),.bool (.v (T8 R z).2)]):=by
 intro m w hm hargs;have S:=Hx R z hz 64 u9 0 (by decide) ⟨by decide,by decide⟩ rfl rfl;rw[show bi R z 64 0=T8 R z from rfl]at S;obtain⟨q,hq⟩:=eqv (T8 R z);rw[<-hq]at S ⊢;simp only[i6]at S;obtain⟨v0,b0⟩:=q;dsimp only at S ⊢;refine en 17 hm hargs Tryz.func93 fun B O a0 Z=>?_
 refine a6 [1,2] [2] Z fun X0 Z=>?_
 have O1:=S;refine i9 [6,7] [] [(3,.r fun _=>.tup [.int .u64 (v0:Int),.bool (.v b0)])] Z fun X1 Z=>?_
 refine a6 [4,5] [] Z fun X2 Z=>?_
 exact i8 ((rsp O a8 Z C5).1)
def Z3(a:Rsl):Wq:=⟨4,⟨0,0⟩,0,k6,a⟩
def Z4{α : Type}(a:Rsl)(p:Pst):Rs α:=.stop (Z3 a) p
abbrev X00:j8:=⟨0,fun _=>none,fun _=>0,fun _=>.empty⟩
theorem CY(c:Int)(h:Bool)(v:ByteArray)(k:Int)(m:Bool):wqA X00 (Z3 ⟨c,h,v,[],k,m⟩)=⟨4,⟨0,0⟩,0,zRA,⟨c,h,v,none,0,0,fun _=>s7,k,m⟩⟩:=rfl
theorem Nu(k0 b:Nat)(J:j4)(E:s8)(hE:E.n<=1000000)(N:Nat)(q:B0)(t:Nt)(c:Int)(h:Bool)(v:ByteArray):C1 Tryz.prog 40 [.ptr k0 b 0,.agg [.int .i64 c,.bool (.v h),.str v,.sl none none 0 0 2 (fun _=>[]),.int .u64 0,.bool .ff]] [(k0,⟨b,147,U4 J E N t⟩)] (fun _=>⟨k7,[(k0,G2 J E N (wqA X00 (Z3 ⟨c,h,v,[],0,false⟩)) t)],[]⟩):=
 C1.re (qd k0 b J E hE N ⟨0,⟨0,0⟩,0,zRA,gZ⟩ t ⟨c,h,v,none,0,0,fun _=>s7,0,false⟩) ⟨zr,Sim.agg ⟨zr,zr,zr,zq0,zr,Sim.ff,trivial⟩,trivial⟩ rfl fun _=>⟨by rw[CY],rfl,zr,rfl⟩
theorem xp(r:Rs Rsl):J1 (r.bind Z4)=J1 r:=by cases r<;>rfl
theorem BN{r:Rs Rsl}{w:Wq}{q:Pst}(h:(r.bind Z4:Rs Unit) = .stop w q):(r.bind Z4:Rs Rsl) = .stop w q:=by
 cases r with
 |ok a p=>injection h with h1 h2;subst h1;subst h2;rfl
 |stop w' p=>injection h with h1 h2;subst h1;subst h2;rfl
theorem BO{k0 b:Nat}{J:j4}{E:s8}{f:FuncId}{N:Nat}{p:Pst}{args:List AV}{enc:Unit->AV}{dfl:AV}{r:Rs Rsl}(h:B5 f k0 b J E N p args enc dfl (r.bind Z4:Rs Unit))(hf:Fro p r)(hp:j3 p)(hn:p.n<=1000000)(hR:Rel E N p) :
  ∃wq q M,∃W:j8->B0,(r.bind Z4:Rs Unit) = .stop wq q/\Suf p q/\M=E.n-q.n/\(∀x,W x=wqA x wq)/\C1 Tryz.prog f (.ptr k0 b 0::args) [(k0,⟨b,147,U4 J E N p.note⟩)] (fun x=>⟨dfl,[(k0,G2 J E M (W x) q.note)],[]⟩):=by
 rcases h.two (hf.bind fun _ _ _=>aI _ _) hp hn hR with⟨v,q,M,h1,_⟩|h
 .cases r<;>cases h1
 exact h
abbrev MJ:List AV:=[.int .i64 0,.int .u64 0,.int .i64 0,.int .u64 0,.bool .ff,.int .i64 0,.sl none none 0 0 2 (fun _=>[]),.int .i64 0,.int .u64 0,.int .u64 0]
abbrev spL(q:LSt)(x:Spt):List AV:=match q with
 | .go .. =>[.int .i64 x.lab.len,.int .u64 x.lab.bits,.int .i64 x.g.code,.int .u64 x.g.ver,.bool (.v x.g.has),.int .i64 x.g.x.r.kd,.sl none x.g.x.A x.g.x.r.n x.g.x.c 2 (fun i=>itC (x.g.x.r.f i)),.int .i64 x.g.x.r.nx.len,.int .u64 x.g.x.r.nx.bits,.int .u64 x.g.x.r.mrk]
 |_=>MJ
theorem FJ(b:Nat)(J:j4)(E:s8)(hE:E.n<=1000000)(N:Nat)(q:B0)(t:Nt)(key:Int):E8 153 0 b J E N q t [.int .u64 key] (E7):=by
 intro m w hm hargs hpre;refine enX 75 hm hpre hargs Tryz.func153 fun B O a0 Z=>?_
 refine a6 [0,1,4] [0,4] Z fun X0 Z=>?_
 refine a6 [0,1,4,5] [0,4] Z fun X1 Z=>?_
 refine a6 [5,6,0,1,4] [0,4] Z fun X2 Z=>?_
 refine a7 (j1 (wp_loop_rounds 2 (F0 (a7 (a6 [21,0,1,4,5,6] [0,4] Z fun X3 Z=>?_)))));apply b7 Z rfl<;>intro hb Z
 .exfalso
  subst O;revert hb;simp[std,d4,BE.den]
 skip
 have O1:=qJ 0 b J E hE N q t key u9;refine j9 (i9 [4,11] [0,4,11] [(3,dc J E (E7) N q t)] Z fun X22 Z=>?_);refine a6 [4] [0,4] Z fun X23 Z=>?_
 exact i8 ((rdd O a8 Z).1)
theorem Ki(k0 b:Nat)(J:j4)(E:s8)(hE:E.n<=1000000)(N:Nat)(q:B0)(t:Nt)(key:Int):E8 153 k0 b J E N q t [.int .u64 key] (E7):=E8.re (FJ b J E hE N q t key) (by repeat(first|exact trivial|refine⟨zr,?_⟩))
theorem Fc(b:Nat)(J:j4)(E:s8)(hE:E.n<=1000000)(N:Nat)(q:B0)(t:Nt)(key:Int)(hh:J.how=1):E8 94 0 b J E N q t [.int .u64 key] (E7):=by
 intro m w hm hargs hpre;refine enX 22 hm hpre hargs Tryz.func94 fun B O a0 Z=>?_
 refine a6 [0,1,4] [0,4] Z fun X0 Z=>?_
 refine a7 (a6 [12,0,1,4] [0,4] Z fun X1 Z=>?_);apply b7 Z rfl<;>intro hb Z
 .skip
  have O1:=qJ 0 b J E hE N q t key u9;refine i9 [4,5] [0,4,5] [(3,dc J E (E7) N q t)] Z fun X2 Z=>?_
  refine a6 [4] [0,4] Z fun X3 Z=>?_
  exact i8 ((rdd O a8 Z).1)
 exfalso
 have hc:¬J.how=1:=by subst O;simpa[std,d4]using hb
 exact hc hh
theorem JJ(k0 b:Nat)(J:j4)(E:s8)(hE:E.n<=1000000)(N:Nat)(q:B0)(t:Nt)(key:Int)(hh:J.how=1):E8 94 k0 b J E N q t [.int .u64 key] (E7):=E8.re (Fc b J E hE N q t key hh) (by repeat(first|exact trivial|refine⟨zr,?_⟩))
theorem Fb(b:Nat)(J:j4)(E:s8)(hE:E.n<=1000000)(N:Nat)(q:B0)(t:Nt)(key:Int)(hh:¬J.how=1):E8 94 0 b J E N q t [.int .u64 key] (E7):=by
 intro m w hm hargs hpre;refine enX 22 hm hpre hargs Tryz.func94 fun B O a0 Z=>?_
 refine a6 [0,1,4] [0,4] Z fun X0 Z=>?_
 refine a7 (a6 [12,0,1,4] [0,4] Z fun X1 Z=>?_);apply b7 Z rfl<;>intro hb Z
 .exfalso
  have hc:J.how=1:=by subst O;simpa[std,d4]using hb
  exact hh hc
 skip
 have O1:=Ki 0 b J E hE N q t key;refine f8 (i9 [4,6] [0,4,6] [(2,dc J E (E7) N q t)] Z fun X4 Z=>?_);refine a6 [4] [0,4] Z fun X5 Z=>?_
 exact i8 ((rdd O a8 Z).1)
theorem JI(k0 b:Nat)(J:j4)(E:s8)(hE:E.n<=1000000)(N:Nat)(q:B0)(t:Nt)(key:Int)(hh:¬J.how=1):E8 94 k0 b J E N q t [.int .u64 key] (E7):=E8.re (Fb b J E hE N q t key hh) (by repeat(first|exact trivial|refine⟨zr,?_⟩))
theorem JH(k0 b:Nat)(J:j4)(E:s8)(hE:E.n<=1000000)(N:Nat)(q:B0)(t:Nt)(key:Int):E8 94 k0 b J E N q t [.int .u64 key] E7:=by
 by_cases hh:J.how=1
 .exact JJ k0 b J E hE N q t key hh
 exact JI k0 b J E hE N q t key hh
end Go.Proofs.YtmbkanpapkhnaaaGreat.Sym
