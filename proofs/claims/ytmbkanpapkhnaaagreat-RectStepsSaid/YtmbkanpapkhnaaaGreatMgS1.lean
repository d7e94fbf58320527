/-
  Base, Lst, OpenBase2, Sym1, Sym2, SymApp, Sym3, Sym4, Sym5, Sym6, SymTy, SymTab, Sym7: put together by a program of mine (a claim may have 60 files at most). Conditions: none.
-/
import Derived.WalkKit
import Derived.WalkLawsBesides
import Derived.WalkSpells
import Derived.Lib.Hide
import Derived.Deep.QuietTactic
import Derived.BigQuiet
import Derived.Deep.LoopGhost
import Derived.Deep.DeepCutAuto
import Derived.Deep.RegionLaw
import Derived.Lib.Overlaps
import Derived.Laws.CopyOwn
import Derived.IntWalk
import Derived.ProofKit
import Derived.OpenShut
import Derived.ShutString
import Derived.ChangeOld
import Derived.Deep.Slices
import Derived.Test.YtmbkanpapkhnaaaGreatProg
set_option linter.unusedVariables false
set_option linter.unusedSimpArgs false
set_option maxRecDepth 100000
set_option maxHeartbeats 1600000
namespace Go.Proofs.YtmbkanpapkhnaaaGreat
open Go.RowKit
def U6(w:World)(B:Nat)(A:Option Addr)(xs:List Value):Prop:=
 0<xs.length->∃b off,A=some ⟨b,off,none⟩/\b<B/\∀j u,xs[j]? = some u->w.cell? ⟨b,off+j,none⟩=some u
theorem U6.nil{w:World}{B:Nat}{A:Option Addr}:U6 w B A []:=fun h=>absurd h (by simp)
theorem U6.keep{w w':World}{B B':Nat}{A:Option Addr}{xs:List Value}(h:U6 w B A xs)(O:B<=B')(hk:∀p:Addr,p.block<B->w'.cell? p=w.cell? p):U6 w' B' A xs:=
 fun hp=>by
  obtain⟨b,off,e,hb,hc⟩:=h hp;exact⟨b,off,e,by omega,fun j u hu=>(hk _ hb).trans (hc j u hu)⟩
theorem U6.below{w w':World}{B:Nat}{A:Option Addr}{xs:List Value}(h:U6 w B A xs)(hb:Below B w w'):U6 w' B A xs:=h.keep (Nat.le_refl _) fun _ hp=>hb.cell hp
def B4:Value->Option Nat
 | .slice (some a) _ c=>if c=0 then none else some a.block
 |_=>none
def Own(w:World)(B:Nat)(e:TypeId)(k:Nat)(v:Value)(n:Nat)(xs:List Value):Prop:=
 xs.length=n*k/\((n=0/\∃A,v = .slice A 0 0) ∨
  ∃g cap cur,v = .slice (some ⟨g,0,none⟩) n cap/\B<=g/\w.heap[g]? = some (.cells cur e (0,0))/\n<=cap/\0<cap/\cap<=maxLen/\cur.size=cap*k/\cur.toList.take (n*k)=xs)
theorem F2{w:World}{g:Nat}{o:Obj}(h:w.heap[g]? = some o):g<w.heap.size:=(Array.getElem?_eq_some_iff.1 h).1
theorem Own.nil(w:World)(B:Nat)(e:TypeId)(k:Nat)(A:Option Addr):Own w B e k (.slice A 0 0) 0 []:=⟨by simp,.inl ⟨rfl,A,rfl⟩⟩
section
variable {w w':World} {B:Nat} {e:TypeId} {k:Nat} {v:Value} {n:Nat} {xs:List Value}
theorem Own.isSlice(h:Own w B e k v n xs):∃A c,v = .slice A n c/\n<=c/\c<=maxLen:=by
 rcases h.2 with⟨rfl,A,rfl⟩|⟨g,cap,cur,rfl,_,_,h1,_,h2,_⟩
 .exact ⟨A,0,rfl,by omega,by simp⟩
 exact⟨_,cap,rfl,h1,h2⟩
theorem Own.lt(h:Own w B e k v n xs):∀g,B4 v=some g->B<=g/\g<w.heap.size:=by
 intro g hg
 rcases h.2 with⟨rfl,A,rfl⟩|⟨g',cap,cur,rfl,O,hh,h1,hc0,h2,_⟩
 .cases A<;>simp[B4]at hg
 have:cap≠0:=by omega
 simp[B4,this]at hg;subst hg;exact⟨O,F2 hh⟩
theorem Own.keep(h:Own w B e k v n xs)(hk:∀g,B4 v=some g->w'.heap[g]? = w.heap[g]?):Own w' B e k v n xs:=by
  refine⟨h.1,?_⟩
  rcases h.2 with hn|⟨g,cap,cur,rfl,O,hg,h1,hc0,rest⟩
  . exact .inl hn
  . refine .inr ⟨g,cap,cur,rfl,O,?_,h1,hc0,rest⟩
    rw [hk g (by have:cap ≠ 0:=by omega
                 simp[B4,this])]
    exact hg
theorem Own.isCells(h:Own w B e k v n xs){g:Nat}(hg:B4 v=some g):∃c t f,w.heap[g]? = some (.cells c t f):=by
 rcases h.2 with⟨_,A,hv⟩|⟨g',cap,cur,hv,_,hcur,_⟩
 .rw [hv]at hg;cases A<;>simp[B4]at hg
 have:g'=g:=by rw[hv]at hg;simp[B4]at hg;exact hg.2
 subst this;exact⟨_,_,_,hcur⟩
theorem Own.mono{B':Nat}(h:Own w B e k v n xs)(O:B'<=B):Own w B' e k v n xs:=by
 refine⟨h.1,?_⟩
 rcases h.2 with hn|⟨g,cap,cur,rfl,hBg,r⟩
 .exact .inl hn
 exact .inr ⟨g,cap,cur,rfl,Nat.le_trans O hBg,r⟩
theorem Own.row(h:Own w B e k v n xs):∀A m c,v = .slice A m c->U6 w w.heap.size A xs:=by
 intro A m c hv hp
 rcases h.2 with⟨rfl,A',rfl⟩|⟨g,cap,cur,rfl,O,hg,h1,hc0,hm,hs,ht⟩
 .have:=h.1;simp at this;simp[this]at hp
 injection hv with hA
 subst hA;refine⟨g,0,rfl,F2 hg,fun j u hu=>?_⟩;rw[Nat.zero_add,cell_of_row w g j cur e (0,0) hg];rw[<-ht,List.getElem?_take]at hu
 split at hu
 .simpa using hu
 cases hu
end
structure Chg(S:Nat->Prop)(w w':World):Prop where
 os:w'.os=w.os
 tape:w'.tape=w.tape
 output:w'.output=w.output
 size:w.heap.size<=w'.heap.size
 block:∀k,k<w.heap.size-> ¬S k->w'.heap[k]? = w.heap[k]?
section
variable {S S':Nat->Prop} {a w w':World}
theorem Chg.refl(S:Nat->Prop)(w:World):Chg S w w:=⟨rfl,rfl,rfl,Nat.le_refl _,fun _ _ _=>rfl⟩
theorem Chg.trans(h:Chg S a w)(h':Chg S' w w')(hs:∀k,k<a.heap.size->S' k->S k):Chg S a w':=
 ⟨h'.os.trans h.os,h'.tape.trans h.tape,h'.output.trans h.output,Nat.le_trans h.size h'.size,
  fun k hk hn=>(h'.block k (Nat.lt_of_lt_of_le hk h.size) (fun h=>hn (hs k hk h))).trans (h.block k hk hn)⟩
theorem Chg.mono(h:Chg S w w')(hs:∀k,S k->S' k):Chg S' w w':=⟨h.os,h.tape,h.output,h.size,fun k hk hn=>h.block k hk fun h=>hn (hs k h)⟩
theorem Chg.of_grown{row:Option Nat}(h:w.grownBy w' row):Chg (fun k=>row=some k) w w':=⟨h.os,h.tape,h.output,h.size,fun k hk hn=>h.block k hk fun e=>hn e.symm⟩
theorem Chg.of_new(h:Below w.heap.size w w'):Chg S w w':=⟨h.os,h.tape,h.output,h.size,fun k hk _=>h.block k hk⟩
theorem Chg.below(h:Chg S w w'){B:Nat}(O:B<=w.heap.size)(hs:∀k,S k->B<=k):Below B w w':=
 ⟨h.os,h.tape,h.output,h.size,fun k hk=>h.block k (by omega) fun hS=>by have:=hs k hS;omega⟩
end
structure cN(P:Program)(t e k bytes:Nat)(z:Value):Prop where
 u:P.underlying t=some (.slice e)
 i:(P.info? e).map (fun i=>(i.zero,i.size,i.bytes))=some (some z,k,bytes)
 zs:z.cells.size=k
 pos:0<k
section
variable {P:Program} {w:World}
theorem Q3{B:Nat}{A:Option Addr}{xs:List Value}(k m len c:Nat)(h:U6 w B A xs)(hl:xs.length=m*k):(Builtin.firstCells k m (.slice A len c)).run P w = .ok xs.toArray w:=by
 by_cases hp:0<xs.length
 .obtain ⟨b,off,rfl,_,hc⟩:=h hp
  exact run_firstCells_some w k m ⟨b,off,none⟩ len c xs hl fun j v hv=>by
   rw[Addr.add_lit];exact hc j v hv
 have hx:xs=[]:=List.eq_nil_of_length_eq_zero (by omega);subst hx;have hm:m*k=0:=by simpa using hl.symm
 cases A with
 |none=>exact run_firstCells_none w k m len c
 |some a=>simp[Builtin.firstCells,hm,loadCells,loadCellsFrom]
theorem eO{t e k bytes:Nat}{z:Value}(E:cN P t e k bytes z)(ty:TypeId){B C:Nat}{v:Value}{n:Nat}{xs:List Value}(hown:Own w B e k v n xs)
  (A:Option Addr) (m c:Nat) (news:List Value) (hl:news.length=m*k) (hnews:U6 w C A news) (h1:∀u∈news,u.oneCell'=true)
  (h63:n+m<=maxLen) (hbytes:(n+m)*bytes<=140737488355328) (O:B<=w.heap.size) :
  ∃v' w',(Builtin.append_ #[t,t] ty #[v,.slice A m c]).run P w = .ok v' w'/\Own w' B e k v' (n+m) (xs++news)/\w.grownBy w' (B4 v) ∧
   (B4 v'=B4 v \/ B4 v'=some w.heap.size):=by
 obtain⟨i,hi⟩:∃i,P.info? e=some i:=by
  have:=E.i
  cases hq:P.info? e with
  |none=>simp[hq]at this
  |some i=>exact⟨i,rfl⟩
 have hEi:=E.i;simp only[hi,Option.map_some,Option.some.injEq,Prod.mk.injEq]at hEi;obtain⟨hz,hk,hby⟩:=hEi;subst hk;subst hby;have hpos:=E.pos;have hzs:=E.zs;have ht:=E.u;have hlen:(xs++news).length=(n+m)*i.size:=by rw[List.length_append,hown.1,hl,Nat.add_mul]
 have hsmall:n+m<=9223372036854775807:=by simp only[maxLen]at h63;omega
 have grown:∀(old:Nat),old<n+m->∀(row:Option Nat),
   Own (w.drew.alloc (.cells (xs.toArray++news.toArray++Builtin.zeroCells z.cells (grownCap w (n+m) old e-(n+m))) e)) B e i.size
    (.slice (some ⟨w.heap.size,0,none⟩) (n+m) (grownCap w (n+m) old e)) (n+m) (xs++news) ∧
   w.grownBy (w.drew.alloc (.cells (xs.toArray++news.toArray++Builtin.zeroCells z.cells (grownCap w (n+m) old e-(n+m))) e)) row:=by
  intro old ho row;have hge:=grownCap_ge w (n+m) old e;have hcm:grownCap w (n+m) old e<=maxLen:=grownCap_le_maxLen w (n+m) old e h63;refine⟨⟨hlen,.inr ⟨w.heap.size,_,_,rfl,O,heap_alloc_new w.drew _,hge,by omega,hcm,?_,?_⟩⟩,⟨rfl,rfl,rfl,by simp,fun k hk _=>Below.heap_alloc w.drew _ k hk⟩⟩
  .simp only[Array.size_append,List.size_toArray,size_zeroCells,hzs,hown.1,hl,<-Nat.add_mul]
   congr 1
   omega
  simp only[Array.toList_append,List.append_assoc];rw[<-List.append_assoc,<-hlen];exact List.take_left
 have growfit:∀old,old<n+m->Builtin.nextslicecap (n+m) old*i.bytes<=281474976710656:=fun old ho=>growslice_fits ho hbytes
 have hf:∀w':World,(∀p,w'.cell? p=w.cell? p)->(Builtin.firstCells i.size m (.slice A m c)).run P w' = .ok news.toArray w':=fun w' hw=>
  Q3 (B:=C) i.size m m c (hnews.keep (Nat.le_refl _) fun p _=>hw p) hl
 have hrow:=fun A' m' c' h=>hown.row A' m' c' h
 rcases hown.2 with⟨rfl,A',rfl⟩|⟨g,cap,cur,rfl,hbg,hg,hnc,hc0,hcm,hcs,htake⟩
 .have hx:xs=[]:=List.eq_nil_of_length_eq_zero (by simpa using hown.1)
  subst hx
  by_cases hm:m=0
  .subst hm
   have hn:news=[]:=List.eq_nil_of_length_eq_zero (by simpa using hl);subst hn;refine⟨.slice A' 0 0,w,?_,Own.nil w B e i.size A',⟨rfl,rfl,rfl,Nat.le_refl _,fun _ _ _=>rfl⟩,.inl rfl⟩;have hfw:=hf w fun _=>rfl
   cases A'<;>simp[Builtin.append_,run_underlying ht,sizeOf,typeInfo,hi,Builtin.lenOf,hfw,storeCells]
  have hgr:=grown 0 (by omega) (B4 (.slice A' 0 0));have hfit:=growfit 0 (by omega);simp only[Nat.zero_add,List.nil_append,Array.empty_append]at hgr hfit ⊢;refine⟨_,_,?_,hgr.1,hgr.2,.inr ?_⟩
  .have hfw:=hf w.drew fun _=>rfl
   have hfo:=Q3 (P:=P) (w:=w.drew) (B:=0) (A:=A') (xs:=[]) i.size 0 0 0 U6.nil (by simp);have h63':¬(9223372036854775807<(m:Int)):=by omega
   have h48':¬(281474976710656<Builtin.nextslicecap m 0*i.bytes):=by omega
   simp[Builtin.append_,run_underlying ht,sizeOf,typeInfo,zeroValue,hi,hz,Builtin.lenOf,hm,h63',h48',Question.forced,hfw,hfo,newRow,grownCap]
  have:grownCap w m 0 e≠0:=by have:=grownCap_ge w m 0 e;omega
  simp[B4,this]
 by_cases hroom:n+m<=cap
 .have hfit:n*i.size+news.length<=cur.size:=by rw[hl,hcs,<-Nat.add_mul];exact Nat.mul_le_mul_right _ hroom
  have hst:=run_storeCells_at P g (n*i.size) e news 0 cur w hg (by simpa using hfit) h1;simp only[Nat.add_zero]at hst;have hfw:=hf w fun _=>rfl
  have hr:(Builtin.append_ #[t,t] ty #[.slice (some ⟨g,0,none⟩) n cap,.slice A m c]).run P w =
    .ok (.slice (some ⟨g,0,none⟩) (n+m) cap) (w.setRow g (cur.toList.take (n*i.size)++news++cur.toList.drop (n*i.size+news.length)).toArray):=by
   simp[Builtin.append_,run_underlying ht,sizeOf,typeInfo,hi,Builtin.lenOf,hroom,hfw,Addr.add_lit,hst]
  have hcap:cap≠0:=by omega
  refine⟨_,_,hr,⟨hlen,.inr ⟨g,cap,_,rfl,hbg,setRow_heap w g cur _ e _ hg,hroom,hc0,hcm,?_,?_⟩⟩,⟨rfl,rfl,rfl,by simp,fun k _ hk=>setRow_other w g k _ (fun e=>hk (by simp[B4,e,hcap]))⟩,.inl (by simp[B4])⟩
  .simp only[List.size_toArray,List.length_append,List.length_take,List.length_drop,Array.length_toList]
   omega
  rw[htake,<-hlen];exact List.take_left
 have hgr:=grown cap (by omega) (B4 (.slice (some ⟨g,0,none⟩) n cap));have hfit:=growfit cap (by omega);refine⟨_,_,?_,hgr.1,hgr.2,.inr ?_⟩
 .have hfw:=hf w.drew fun _=>rfl
  have hfo:=Q3 (P:=P) (w:=w.drew) (B:=w.heap.size) (A:=some ⟨g,0,none⟩) (xs:=xs) i.size n n cap ((hrow _ _ _ rfl).keep (Nat.le_refl _) fun _ _=>rfl) hown.1;have h63':¬(9223372036854775807<((n:Int)+(m:Int))):=by omega
  have h48':¬(281474976710656<Builtin.nextslicecap (n+m) cap*i.bytes):=by omega
  simp[Builtin.append_,run_underlying ht,sizeOf,typeInfo,zeroValue,hi,hz,Builtin.lenOf,hroom,h63',h48',Question.forced,hfw,hfo,newRow,grownCap]
  congr 2
  apply Array.ext';simp[List.append_assoc]
 have:grownCap w (n+m) cap e≠0:=by have:=grownCap_ge w (n+m) cap e;omega
 simp[B4,this]
theorem eN{t tn e k bytes:Nat}{z:Value}{kq kn:IntKind}(E:cN P t e k bytes z)(htn:P.underlying tn=some (.int kn))(ty:TypeId){C:Nat}{A:Option Addr}{n c:Nat}{xs:List Value}
  (hl:xs.length=n*k) (hx:U6 w C A xs) (m:Nat) (hm:0<m) (hg:c<n+m) (h63:n+m<=maxLen) (hbytes:(n+m)*bytes<=140737488355328) :
  ∃g cap cur,(Builtin.append_ #[t,tn] ty #[.slice A n c,.int kq m]).run P w = .ok (.slice (some ⟨w.heap.size,0,none⟩) (n+m) cap) (w.drew.alloc (.cells cur e)) ∧
   g=w.heap.size/\n+m<=cap/\cap<=maxLen/\cur.size=cap*k/\cur.toList.take (n*k)=xs:=by
 obtain⟨i,hi⟩:∃i,P.info? e=some i:=by
  have:=E.i
  cases hq:P.info? e with
  |none=>simp[hq]at this
  |some i=>exact⟨i,rfl⟩
 have hEi:=E.i;simp only[hi,Option.map_some,Option.some.injEq,Prod.mk.injEq]at hEi;obtain⟨hz,hk,hby⟩:=hEi;subst hk;subst hby;have hpos:=E.pos;have hzs:=E.zs;have ht:=E.u;have hfo:=Q3 (P:=P) (w:=w.drew) (B:=C) (A:=A) (xs:=xs) i.size n n c (hx.keep (Nat.le_refl _) fun _ _=>rfl) hl;have hk:m≠0:=by omega
 have hmw:IntKind.i64.wrap (m:Int)=m:=by rw[IntKind.wrap_i64];simp only[maxLen]at h63;omega
 have hn:¬(n+m<=c):=by omega
 have h63':¬(9223372036854775807<((n:Int)+(m:Int))):=by simp only[maxLen]at h63;omega
 have h48':¬(281474976710656<Builtin.nextslicecap (n+m) c*i.bytes):=by have:=growslice_fits hg hbytes;omega
 have hmb:m*i.bytes<=(n+m)*i.bytes:=Nat.mul_le_mul_right _ (by omega);have h48i:¬(281474976710656<(m:Int)*(i.bytes:Int)):=by
  rw[<-Int.natCast_mul];omega
 have hneg:¬((m:Int)<0):=by omega
 have hns:¬(m*i.size=0):=Nat.mul_ne_zero hk (by omega);have hge:=grownCap_ge w (n+m) c e;have hcm:=grownCap_le_maxLen w (n+m) c e h63;refine⟨w.heap.size,grownCap w (n+m) c e,xs.toArray++Builtin.zeroCells z.cells m++Builtin.zeroCells z.cells (grownCap w (n+m) c e-(n+m)),?_,rfl,hge,hcm,?_,?_⟩
 .simp [Builtin.append_,run_underlying ht,run_underlying htn,sizeOf,typeInfo,zeroValue,hi,hz,asInt,asIntOf,hmw,hn,hneg,hns,h63',h48',h48i,Question.forced,hfo,newRow,grownCap]
 .simp only[Array.size_append,List.size_toArray,size_zeroCells,hzs,hl,<-Nat.add_mul]
  congr 1
  omega
 simp only[Array.toList_append,List.append_assoc];rw[<-hl];exact List.take_left
theorem pU{t e k bytes:Nat}{z:Value}(E:cN P t e k bytes z)(ty:TypeId){g o len cap:Nat}{cur:Array Value}{e':TypeId}
  (hg:w.heap[g]? = some (.cells cur e' (0,0))) (hfit:o+len*k<=cur.size) (h1:∀v∈z.cells.toList,v.oneCell'=true) :
  (Builtin.clear_ #[t] ty #[.slice (some ⟨g,o,none⟩) len cap]).run P w =
   .ok (.tuple #[]) (w.setRow g (cur.toList.take o++(Builtin.zeroCells z.cells len).toList++cur.toList.drop (o+len*k)).toArray):=by
 obtain⟨i,hi⟩:∃i,P.info? e=some i:=by
  have:=E.i
  cases hq:P.info? e with
  |none=>simp[hq]at this
  |some i=>exact⟨i,rfl⟩
 have hEi:=E.i;simp only[hi,Option.map_some,Option.some.injEq,Prod.mk.injEq]at hEi;obtain⟨hz,hk,hby⟩:=hEi;subst hk;have ht:=E.u;have hzs:=E.zs;have hlen:(Builtin.zeroCells z.cells len).toList.length=len*i.size:=by rw[Array.length_toList,size_zeroCells,hzs]
 have hst:=run_storeCells_at P g o e' (Builtin.zeroCells z.cells len).toList 0 cur w hg (by rw[hlen];simpa using hfit) (by
  intro v hv;simp only[Builtin.zeroCells,Array.toList_map,List.mem_map]at hv;obtain⟨j,hj,rfl⟩:=hv;have hj':j<len*z.cells.size:=by simpa using hj
  have hp:0<z.cells.size:=by rw[hzs];exact E.pos
  have hlt:j % z.cells.size<z.cells.size:=Nat.mod_lt _ hp;rw[getElem!_pos z.cells _ hlt];exact h1 _ (by simp))
 rw[hlen]at hst;simp only[Nat.add_zero]at hst
 cases len with
 |zero=>
  simp[Builtin.clear_,run_underlying ht,Builtin.zeroCells];exact(setRow_self w g cur e' (0,0) hg).symm
 |succ len=>
  simp[Builtin.clear_,run_underlying ht,zeroValue,typeInfo,hi,hz,hst]
end
theorem Y2{P:Program}{w w':World}{v u v':Value}{ops:Array Oper}{rest:List Oper}{o:Oper}{a:Act}{Q:Exit->Act->World->Prop}{t t' ty:TypeId}
  (hr:(Builtin.append_ #[t,t'] ty #[v,u]).run P w = .ok v' w') (hgd:o.guard=none) (s x:Operand)
  (ho:o.op = .call { callee:=.builtin .append,args:=#[s,x],argTypes:=#[t,t'] }) (hty:o.type=ty) (hs:a.eval s=v) (hx:a.eval x=u)
  (h:wpList P ops Q rest (a.put o.dst v') w'):wpList P ops Q (o::rest) a w:=by
 subst hty;refine wpList_plain hgd fun K hK=>?_
 unfold Oper.wp execOp;simp only[ho,resolve,invoke,builtin,Sem.run_bind,Sem.run_pure,Result.andThen_ok,List.map_toArray,List.map_cons,List.map_nil,hs,hx,hr];exact hK _ _ h
structure NK(W:World)where
 val:World
 below:Below W.heap.size W val
instance (W : World) : Nonempty (NK W) := ⟨⟨W, Below.refl _ _⟩⟩
section
variable {α : Type} {enc:α->List Value} {k:Nat}
theorem I7(hk:∀x,(enc x).length=k):∀l:List α,(l.flatMap enc).length=l.length*k
 | []=>by simp
 |x::l=>by simp[List.flatMap_cons,I7 hk l,hk,Nat.add_mul,Nat.add_comm]
theorem yr(hk:∀x,(enc x).length=k):∀(l:List α) (i:Nat),(l.flatMap enc).take (i*k)=(l.take i).flatMap enc
 | [],i=>by simp
 |x::l,0=>by simp
 |x::l,i+1=>by
  have h:=hk x;rw[List.flatMap_cons,List.take_succ_cons,List.flatMap_cons,Nat.add_mul,Nat.one_mul,Nat.add_comm,<-h,List.take_length_add_append,h,yr hk l i]
theorem oM(hk:∀x,(enc x).length=k):∀(l:List α) (i:Nat),(l.flatMap enc).drop (i*k)=(l.drop i).flatMap enc
 | [],i=>by simp
 |x::l,0=>by simp
 |x::l,i+1=>by
  have h:=hk x;rw[List.flatMap_cons,List.drop_succ_cons,Nat.add_mul,Nat.one_mul,Nat.add_comm,<-h,List.drop_length_add_append,h,oM hk l i]
theorem iX(hk:∀x,(enc x).length=k){l:List α}{i:Nat}{x:α}(hx:l[i]? = some x){j:Nat}{u:Value}(hu:(enc x)[j]? = some u):(l.flatMap enc)[i*k+j]? = some u:=by
 have hj:j<k:=by
  have:=(List.getElem?_eq_some_iff.1 hu).1;rw[hk]at this;exact this
 have hd:(l.flatMap enc)[i*k+j]? = ((l.flatMap enc).drop (i*k))[j]?:=by rw[List.getElem?_drop]
 have hi:i<l.length:=(List.getElem?_eq_some_iff.1 hx).1;have he:l[i]=x:=(List.getElem?_eq_some_iff.1 hx).2;rw[hd,oM hk,List.drop_eq_getElem_cons hi,List.flatMap_cons,he,List.getElem?_append_left (by rw[hk];exact hj)];exact hu
theorem sI(h1:∀x,∀v∈enc x,v.oneCell'=true)(l:List α):∀v∈l.flatMap enc,v.oneCell'=true:=by
 intro v hv;obtain⟨x,_,hx⟩:=List.mem_flatMap.1 hv;exact h1 x v hx
end
def ax{α : Type}(enc:α->List Value)(w:World)(B:Nat)(A:Option Addr)(l:List α):Prop:=U6 w B A (l.flatMap enc)
def ve{α : Type}(enc:α->List Value)(k:Nat)(w:World)(B:Nat)(e:TypeId)(v:Value)(l:List α):Prop:=Own w B e k v l.length (l.flatMap enc)
section
variable {α : Type} {enc:α->List Value} {k:Nat} {w w':World} {B:Nat} {A:Option Addr} {l:List α}
theorem ax.nil:ax enc w B A []:=U6.nil
theorem ax.below(h:ax enc w B A l)(hb:Below B w w'):ax enc w' B A l:=U6.below h hb
theorem ax.at_(h:ax enc w B A l)(hk:∀x,(enc x).length=k)(hp:0<k){i:Nat}(hi:i<l.length) :
  ∃b off,A=some ⟨b,off,none⟩/\b<B/\∀j u,(enc l[i])[j]? = some u->w.cell? ⟨b,off+i*k+j,none⟩=some u:=by
 obtain⟨b,off,e,hb,hc⟩:=h (by rw[I7 hk];exact Nat.mul_pos (by omega) hp);exact⟨b,off,e,hb,fun j u hu=>by rw[Nat.add_assoc];exact hc _ u (iX hk (List.getElem?_eq_getElem hi) hu)⟩
end
end Go.Proofs.YtmbkanpapkhnaaaGreat
namespace Go.Proofs.YtmbkanpapkhnaaaGreat
open Go.ChangeShapes Go.WideShapes Go.ChangeAt Go.RowKit Go.Deep
section
variable {H:Type} {enc:TypeId×Value->H} {P:Program} {w:World} {base:Nat} {spare:Nat->Bool} {held:Bool}
theorem fx{α : Type}{en:α->List Value}{wf:α->Prop}{k t e fuel:Nat}{cs:List Value}{y:DataW H×List MemPlace}(ht:P.underlying t=some (.slice e))(hC:P.cellsOf e=k)(hk:∀x,(en x).length=k)(hp:0<k)
  (dec:∀n cs y,DataW.trod enc P w base spare held n e cs=some y->∃x,cs=en x/\wf x) (h:DataW.trod enc P w base spare held fuel t cs=some y) :
  ∃(A:Option Addr) (c:Nat) (l:List α),cs=[.slice A l.length c]/\ax en w w.heap.size A l/\l.length<=c/\c<=maxLen/\∀x∈l,wf x:=by
 rcases DataW.trod_slice ht h with⟨rfl,_⟩|⟨a,len,cap,elems,rest,n,_,rfl,_,hb,hl,hm,hel,hi,_⟩
 .exact ⟨none,0,[],rfl,ax.nil,Nat.le_refl _,by simp,by simp⟩
 have key:∀q,q<=len->∃l:List α,l.length=q/\(∀x∈l,wf x)/\∀j u,(l.flatMap en)[j]? = some u->w.cell? (a.add j)=some u:=by
  intro q
  induction q with
  |zero=>exact fun _=>⟨[],rfl,by simp,by simp⟩
  |succ q ih=>
   intro hq;obtain⟨l,hll,hwf,hc⟩:=ih (by omega);have h1:=hi q (by omega);rw[List.getElem?_eq_getElem (show q<elems.length by omega)]at h1;obtain⟨cs',hcs',ht'⟩:=Option.bind_eq_some_iff.1 h1;obtain⟨x,rfl,hw⟩:=dec _ _ _ ht';obtain⟨_,_,hat⟩:=World.cells?_some hcs';refine⟨l ++ [x],by simp[hll],by
    intro y hy
    rcases List.mem_append.1 hy with hy|hy
    .exact hwf y hy
    simp at hy;subst hy;exact hw,fun j u hu=>?_⟩
   rw[List.flatMap_append]at hu;simp only[List.flatMap_cons,List.flatMap_nil,List.append_nil]at hu;have hfl:(l.flatMap en).length=q*k:=by rw[I7 hk,hll]
   by_cases hj:j<q*k
   .rw [List.getElem?_append_left (by omega)]at hu
    exact hc j u hu
   rw[List.getElem?_append_right (by omega),hfl]at hu;have hjk:j-q*k<P.cellsOf e:=by
    have:=(List.getElem?_eq_some_iff.1 hu).1;rw[hk]at this;omega
   have h1:=hat _ hjk;rw[Go.Deep.add_add,hC,show q*k+(j-q*k)=j from by omega]at h1;rw[h1,hu]
 obtain⟨l,rfl,hwf,hc⟩:=key len (Nat.le_refl _);refine⟨some a,cap,l,rfl,fun hpos=>?_,hl,hm,hwf⟩;obtain⟨u,hu⟩:∃u,(l.flatMap en)[0]? = some u:=⟨_,List.getElem?_eq_getElem hpos⟩
 have h0:=hc 0 u hu;rw[show a.add 0=a from rfl]at h0;obtain⟨b,off,spot⟩:=a;obtain rfl:spot=none:=World.cell?_spot h0;exact⟨b,off,rfl,World.block_lt_of_cell? w _ h0,fun j u hu=>by
  have:=hc j u hu
  rwa[Addr.add_lit]at this⟩
end
end Go.Proofs.YtmbkanpapkhnaaaGreat
namespace Go.Proofs.YtmbkanpapkhnaaaGreat.Sym
open Go.RowKit
inductive BE where
 |tt
 |ff
 |v (b:Bool)
def BE.den:BE->Bool
 | .tt=>true
 | .ff=>false
 | .v b=>b
inductive AV where
 |undef
 |int (k:IntKind) (x:Int)
 |bool (b:BE)
 |str (s:ByteArray)
 |nilp
 |ptr (key b off:Nat)
 |sl (g:Option Nat) (A:Option Addr) (n c k:Nat) (cells:Nat->List AV)
 |ep (A:Option Addr) (i k off:Nat) (cells:List AV)
 |agg (l:List AV)
 |tup (l:List AV)
 |fn (f:Nat) (first cap:List AV)
 |ifc (t:Nat) (v:AV)
 |nili
 |opt (b:Bool) (t:Nat) (v:AV)
 |raw (v:Value)
mutual
def AV.den:AV->Value
 | .undef=>Go.undef
 | .int k x=>.int k x
 | .bool b=>.bool b.den
 | .str s=>.string s
 | .nilp=>.pointer none
 | .ptr _ b off=>.pointer (some ⟨b,off,none⟩)
 | .sl _ A n c _ _=>.slice A n c
 | .ep A i k off _=>.pointer (A.map fun a=>⟨a.block,a.off+(i*k+off),none⟩)
 | .agg l=>.agg (AV.denL l).toArray
 | .tup l=>.tuple (AV.denL l).toArray
 | .fn f first cap=>.func (.func f) (AV.denL first).toArray (AV.denL cap).toArray
 | .ifc t v=>.iface t v.den
 | .nili=>.nilIface
 | .opt b t v=>if b then .iface t v.den else .nilIface
 | .raw v=>v
def AV.denL:List AV->List Value
 | []=>[]
 |v::l=>v.den::AV.denL l
end
theorem E3(l:List AV):AV.denL l=l.map AV.den:=by
 induction l with
 |nil=>rfl
 |cons v l ih=>simp[AV.denL,ih]
def AV.one:AV->Bool
 | .int .. | .bool .. | .str .. | .nilp| .ptr .. | .sl .. | .ep .. | .fn .. | .ifc .. | .nili| .opt .. =>true
 | .raw v=>v.oneCell'
 |_=>false
def AV.cells:AV->List AV
 | .agg l=>l
 |v=>[v]
def AV.known:AV->Bool
 | .undef=>false
 |_=>true
def tC(m:Nat->Nat->Prop)(w:World)(A:Option Addr)(o:Nat)(vs:List Value):Prop:=
 ∀j u,vs[j]? = some u->∃b off,A=some ⟨b,off,none⟩/\w.cell? ⟨b,off+(o+j),none⟩=some u/\¬m b (off+(o+j))
inductive Ok(m:Nat->Nat->Prop)(w:World):AV->Prop
 |undef:Ok m w .undef
 |int (k x):Ok m w (.int k x)
 |bool (b):Ok m w (.bool b)
 |str (s):s.size<=maxLen->Ok m w (.str s)
 |nilp:Ok m w .nilp
 |ptr (key b off):Ok m w (.ptr key b off)
 |raw (v):Ok m w (.raw v)
 |sl (g A n c k cells):n<=c->c<=maxLen->(∀i,i<n->(cells i).length=k)->(∀i,i<n->∃b off,A=some ⟨b,off,none⟩)->(∀i,i<n->tC m w A (i*k) ((cells i).map AV.den))->(∀i,i<n->∀v∈cells i,v.one=true)->(∀i,i<n->∀v∈cells i,Ok m w v)->Ok m w (.sl g A n c k cells)
 |ep (A i k off cells):(∃b off,A=some ⟨b,off,none⟩)->tC m w A (i*k) (cells.map AV.den)->(∀v∈cells,v.one=true)->(∀v∈cells,Ok m w v)->Ok m w (.ep A i k off cells)
 |agg (l):(∀v∈l,v.one=true)->(∀v∈l,Ok m w v)->Ok m w (.agg l)
 |tup (l):(∀v∈l,Ok m w v)->Ok m w (.tup l)
 |fn (f l r):(∀v∈l,Ok m w v)->(∀v∈r,Ok m w v)->Ok m w (.fn f l r)
 |ifc (t v):Ok m w v->Ok m w (.ifc t v)
 |nili:Ok m w .nili
 |opt (b t v):(b=true->Ok m w v)->Ok m w (.opt b t v)
theorem tC.mono{m m':Nat->Nat->Prop}{w w':World}{A:Option Addr}{o:Nat}{vs:List Value}(h:tC m w A o vs)
  (hc:∀b o u,w.cell? ⟨b,o,none⟩=some u-> ¬m b o->w'.cell? ⟨b,o,none⟩=some u/\¬m' b o):tC m' w' A o vs:=by
 intro j u hj;obtain⟨b,off,hA,h1,h2⟩:=h j u hj;obtain⟨h3,h4⟩:=hc _ _ _ h1 h2;exact⟨b,off,hA,h3,h4⟩
theorem Ok.mono{m m':Nat->Nat->Prop}{w w':World}{v:AV}(h:Ok m w v)
  (hc:∀b o u,w.cell? ⟨b,o,none⟩=some u-> ¬m b o->w'.cell? ⟨b,o,none⟩=some u/\¬m' b o):Ok m' w' v:=by
 induction h with
 |undef=>exact .undef
 |int k x=>exact .int k x
 |bool b=>exact .bool b
 |str s h=>exact .str s h
 |nilp=>exact .nilp
 |ptr k b o=>exact .ptr k b o
 |raw v=>exact .raw v
 |sl g A n c k cells h1 h2 h3 h4 h5 h6 _ ih=>exact .sl g A n c k cells h1 h2 h3 h4 (fun i hi=>(h5 i hi).mono hc) h6 ih
 |ep A i k off cells h1 h2 h3 _ ih=>exact .ep A i k off cells h1 (h2.mono hc) h3 ih
 |agg l h1 _ ih=>exact .agg l h1 ih
 |tup l _ ih=>exact .tup l ih
 |fn f l r _ _ i1 i2=>exact .fn f l r i1 i2
 |ifc t v _ ih=>exact .ifc t v ih
 |nili=>exact .nili
 |opt b t v _ ih=>exact .opt b t v ih
theorem qe{v:AV}(h:v.one=true):v.den.oneCell'=true:=by
 cases v with
 |opt b t v=>cases b<;>rfl
 |_=>simp_all [AV.one,AV.den,Value.oneCell']
theorem Ok.cells{m:Nat->Nat->Prop}{w:World}{v:AV}(h:Ok m w v):∀x∈v.cells,Ok m w x:=by
 cases h<;>simp only[AV.cells,List.mem_singleton,forall_eq]<;>first|assumption|(constructor<;>assumption)|skip
theorem fO{v:AV}(h:v.one=true \/ ∃l,v = .agg l):v.den.cells=(v.cells.map AV.den).toArray:=by
 rcases h with h|⟨l,rfl⟩
 .cases v with
  |raw x=>cases x<;>simp_all [AV.one,AV.den,AV.cells,Value.cells,Value.oneCell']
  |opt b t v=>cases b<;>rfl
  |_=>simp_all [AV.one,AV.den,AV.cells,Value.cells,BE.den]
 simp[AV.den,AV.cells,Value.cells,E3]
structure Blk where
 at_:Nat
 ty:TypeId
 cells:List AV
structure Gr where
 A:Option Addr
 n:Nat
 c:Nat
 k:Nat
 e:TypeId
def Gr.v(t:Gr):Value:=.slice t.A t.n t.c
structure St where
 nt:Nat
 tmps:List (Nat×AV)
 gs:List (Nat×List (Nat×Bool)×AV)
 mem:List (Nat×Blk)
 gr:List (Nat×Gr)
def look:List (Nat×AV)->Nat->AV
 | [],_=>.undef
 |(k,v)::l,n=>if k==n then v else look l n
def j7{α : Type}:List (Nat×α)->Nat->Option α
 | [],_=>none
 |(k,v)::l,n=>if k==n then some v else j7 l n
def nQ{α : Type}:List (Nat×α)->Nat->List (Nat×α)
 | [],_=>[]
 |(k,v)::l,n=>if k==n then nQ l n else(k,v)::nQ l n
def M4:List (Nat×List (Nat×Bool)×AV)->Nat->Option (List (Nat×Bool)×AV)
 | [],_=>none
 |(k,v)::l,n=>if k==n then some v else M4 l n
def Y8:List (Nat×Bool)->Nat->Bool
 | [],_=>false
 |(k,_)::l,n=>k==n||Y8 l n
def je:List (Nat×List (Nat×Bool)×AV)->Nat->List (Nat×List (Nat×Bool)×AV)
 | [],_=>[]
 |(k,p,v)::l,n=>if k==n then je l n else if Y8 p n then(k,[],.undef)::je l n else(k,p,v)::je l n
def Bt:List (Nat×Bool)->Nat×Bool->Bool
 | [],_=>false
 |(k,b)::l,(n,c)=>(k==n&&b==c)||Bt l (n,c)
def Dp:List (Nat×Bool)->List (Nat×Bool)->Bool
 | [],_=>true
 |x::l,q=>Bt q x&&Dp l q
structure cb(w:World)(m:Nat->Nat->Prop)(w':World)(m':Nat->Nat->Prop):Prop where
 cell:∀b o u,w.cell? ⟨b,o,none⟩=some u-> ¬m b o->w'.cell? ⟨b,o,none⟩=some u/\¬m' b o
 obj:∀(b:Nat) (o:Obj),w.heap[b]? = some o->(∀c t f,o≠Obj.cells c t f)->w'.heap[b]? = some o
theorem cb.ok{w w':World}{m m':Nat->Nat->Prop}(h:cb w m w' m'){v:AV}(hv:Ok m w v):Ok m' w' v:=hv.mono h.cell
structure Kn where
 p:(Nat->Nat->Prop)->World->Prop
 st:∀{w m w' m'},cb w m w' m'->p m w->p m' w'
def noK:Kn:=⟨fun _ _=>True,fun _ _=>trivial⟩
def Kn.and(I J:Kn):Kn:=⟨fun m w=>I.p m w/\J.p m w,fun k h=>⟨I.st k h.1,J.st k h.2⟩⟩
structure Cx where
 m0:Nat->Nat->Prop
 w0:World
 S:Nat->Prop
 /-- what is to be done when the call ends -/
 ds:List Deferred
 /-- what is known beside -/
 K:Kn
def St.m(s:St)(C:Cx):Nat->Nat->Prop:=fun b o=>C.m0 b o \/ (∃k e,j7 s.mem k=some e/\e.at_=b) \/ ∃k t,j7 s.gr k=some t/\B4 t.v=some b/\t.n*t.k<=o
def cu(a:Act)(p:List (Nat×Bool)):Prop:=∀e∈p,a.tmps[e.1]? = some (.bool e.2)
structure i5(C:Cx)(s:St)(a:Act)(w:World):Prop where
 size:a.tmps.size=s.nt
 defers:a.defers=C.ds
 slot:∀t,(look s.tmps t).known=true->a.tmps[t]? = some (look s.tmps t).den/\Ok (s.m C) w (look s.tmps t)
 gs:∀t p v,M4 s.gs t=some (p,v)->v.known=true->(cu a p->a.tmps[t]? = some v.den/\Ok (s.m C) w v)/\(¬cu a p->a.tmps[t]? = some Go.undef)
 mem:∀k e,j7 s.mem k=some e->w.heap[e.at_]? = some (.cells (e.cells.map AV.den).toArray e.ty (0,0))/\(∀v∈e.cells,v.one=true/\Ok (s.m C) w v)/\(C.w0.heap.size<=e.at_ \/ C.S e.at_)
 nodup:∀k k' e e',j7 s.mem k=some e->j7 s.mem k'=some e'->k≠k'->e.at_≠e'.at_
 gr:∀k t,j7 s.gr k=some t->0<t.k/\∃xs,Own w C.w0.heap.size t.e t.k t.v t.n xs
 sepm:∀k t k' e,j7 s.gr k=some t->j7 s.mem k'=some e->B4 t.v≠some e.at_
 sepg:∀k t k' t' b,j7 s.gr k=some t->j7 s.gr k'=some t'->k≠k'->B4 t.v=some b->B4 t'.v≠some b
 chg:Chg C.S C.w0 w
 m0:∀b o,C.m0 b o->b<C.w0.heap.size
 kept:C.K.p (s.m C) w
structure T4(s t:St):Prop where
 nt:s.nt=t.nt
 tmps:∀k,look s.tmps k=look t.tmps k
 gs:∀k,M4 s.gs k=M4 t.gs k
 mem:∀k,j7 s.mem k=j7 t.mem k
 gr:∀k,j7 s.gr k=j7 t.gr k
theorem T4.m{s t:St}(h:T4 s t)(C:Cx):s.m C=t.m C:=by
 unfold St.m
 funext b o
 simp only[h.mem,h.gr]
theorem i5.alike{C:Cx}{s t:St}{a:Act}{w:World}(h:i5 C s a w)(e:T4 s t):i5 C t a w:=by
 obtain⟨h1,h2,h3,h4,h5,h6,h9,h10,h11,h7,h8,h12⟩:=h;refine⟨h1.trans e.nt,h2,?_,?_,?_,?_,?_,?_,?_,h7,h8,by rw[<-e.m C];exact h12⟩
 .intro k;rw[<-e.tmps,<-e.m C];exact h3 k
 .intro k p v;rw[<-e.gs,<-e.m C];exact h4 k p v
 .intro k b;rw[<-e.mem,<-e.m C];exact h5 k b
 .intro k k' b b';rw[<-e.mem,<-e.mem];exact h6 k k' b b'
 .intro k t';rw[<-e.gr];exact h9 k t'
 .intro k t' k' b;rw[<-e.gr,<-e.mem];exact h10 k t' k' b
 intro k t' k' t'';rw[<-e.gr,<-e.gr];exact h11 k t' k' t''
theorem B6(d:Nat)(v:AV)(l:List (Nat×AV))(t:Nat):look ((d,v)::l) t=if d=t then v else look l t:=by
 simp[look]
theorem F3{α : Type}(d:Nat)(v:α)(l:List (Nat×α))(t:Nat):j7 ((d,v)::l) t=if d=t then some v else j7 l t:=by
 simp[j7]
theorem bR(d:Nat)(v:List (Nat×Bool)×AV)(l:List (Nat×List (Nat×Bool)×AV))(t:Nat):M4 ((d,v)::l) t=if d=t then some v else M4 l t:=by
 simp[M4]
theorem bz{α : Type}(l:List (Nat×α))(n t:Nat):j7 (nQ l n) t=if n=t then none else j7 l t:=by
 induction l with
 |nil=>simp[nQ,j7]
 |cons x l ih=>
  obtain⟨k,v⟩:=x;simp only[nQ,F3]
  by_cases h1:k=n
  .subst h1
   simp only[beq_self_eq_true,if_true,ih]
   by_cases h2:k=t<;>simp[h2]
  have:(k==n)=false:=by simp[h1]
  simp only[this,Bool.false_eq_true,if_false,F3,ih]
  by_cases h2:k=t
  .subst h2
   have h4:¬n=k:=fun h=>h1 h.symm
   simp[h4]
  simp[h2]
def yg(n:Nat)(x:List (Nat×Bool)×AV):List (Nat×Bool)×AV:=if Y8 x.1 n then([],.undef)else x
theorem gH(l:List (Nat×List (Nat×Bool)×AV))(n t:Nat):M4 (je l n) t=if n=t then none else(M4 l t).map (yg n):=by
 induction l with
 |nil=>simp[je,M4]
 |cons x l ih=>
  obtain⟨k,p,v⟩:=x;simp only[je,bR]
  by_cases h1:k=n
  .subst h1
   simp only[beq_self_eq_true,if_true,ih]
   by_cases h2:k=t<;>simp[h2]
  have:(k==n)=false:=by simp[h1]
  simp only[this,Bool.false_eq_true,if_false]
  by_cases h3:Y8 p n=true
  .rw [if_pos h3,bR,ih]
   by_cases h2:k=t
   .subst h2
    have h4:¬n=k:=fun h=>h1 h.symm
    simp[h4,yg,h3]
   simp[h2]
  rw[if_neg h3,bR,ih]
  by_cases h2:k=t
  .subst h2
   have h4:¬n=k:=fun h=>h1 h.symm
   simp[h4,yg,h3]
  simp[h2]
theorem iC{p:List (Nat×Bool)}{n:Nat}(h:¬Y8 p n=true):∀x∈p,x.1≠n:=by
 induction p with
 |nil=>intro x hx;cases hx
 |cons y p ih=>
  obtain⟨k,b⟩:=y;intro x hx;simp[Y8]at h
  rcases List.mem_cons.1 hx with rfl|hx
  .exact h.1
  exact ih (by simp[h.2]) x hx
theorem xt{a:Act}:∀{p q:List (Nat×Bool)},Dp p q=true->cu a q->cu a p:=by
 have has:∀(q:List (Nat×Bool)) (x:Nat×Bool),Bt q x=true->x∈q:=by
  intro q x
  induction q with
  |nil=>simp[Bt]
  |cons y q ih=>
   obtain⟨k,b⟩:=y;obtain⟨n,c⟩:=x;intro h;simp only[Bt,Bool.or_eq_true,Bool.and_eq_true,beq_iff_eq]at h
   rcases h with⟨rfl,rfl⟩|h
   .simp
   exact List.mem_cons_of_mem _ (ih h)
 intro p q
 induction p with
 |nil=>intro _ _ x hx;cases hx
 |cons y p ih=>
  intro h hq x hx;simp only[Dp,Bool.and_eq_true]at h
  rcases List.mem_cons.1 hx with rfl|hx
  .exact hq _ (has _ _ h.1)
  exact ih h.2 hq x hx
inductive Eff where
 |no
 |new (key:Nat) (b:Blk)
 |set (key:Nat) (b:Blk)
 |grow (key:Nat) (t:Gr)
 |sets (l:List (Nat×Blk))
 |rd (ks:List Nat)
def lQ:List (Nat×Blk)->List (Nat×Blk)->List (Nat×Blk)
 | [],M=>M
 |(k,b)::l,M=>(k,b)::nQ (lQ l M) k
def St.eff(s:St):Eff->St
 | .no=>s
 | .new key b=>{ s with mem:=(key,b)::nQ s.mem key }
 | .set key b=>{ s with mem:=(key,b)::nQ s.mem key }
 | .grow key t=>{ s with gr:=(key,t)::nQ s.gr key }
 | .sets l=>{ s with mem:=lQ l s.mem }
 | .rd _=>s
theorem cA(M:List (Nat×Blk))(k:Nat):∀l:List (Nat×Blk),j7 (lQ l M) k=(j7 l k).or (j7 M k)
 | []=>by simp[lQ,j7]
 |(k',b)::l=>by
  simp only[lQ,F3,bz,cA M k l]
  by_cases h:k'=k<;>simp[h]
theorem I9{α : Type}{l:List (Nat×α)}{k:Nat}{e:α}(h:j7 l k=some e):(k,e)∈l:=by
 induction l with
 |nil=>cases h
 |cons x l ih=>
  obtain⟨k',e'⟩:=x;rw[F3]at h
  split at h
  .rename_i hk;injection h with h;subst hk;subst h;simp
  exact List.mem_cons_of_mem _ (ih h)
def St.put(s:St)(d:Option Nat)(v:AV):St:=
 match d with
 |none=>s
 |some d=>{ s with tmps:=(d,v)::s.tmps,gs:=je s.gs d }
def St.putG(s:St)(d:Nat)(p:List (Nat×Bool))(v:AV):St:={ s with tmps:=(d,.undef)::s.tmps,gs:=(d,p,v)::je s.gs d }
theorem rU{a:Act}{d:Nat}{u:Value}{p:List (Nat×Bool)}(h:∀x∈p,x.1≠d):cu (a.put (some d) u) p↔cu a p:=by
 constructor
 .intro h' x hx
  have:=h' x hx;simp only[Act.put]at this
  rwa[Array.getElem?_setIfInBounds_ne (fun e=>h x hx e.symm)]at this
 intro h' x hx;simp only[Act.put];rw[Array.getElem?_setIfInBounds_ne (fun e=>h x hx e.symm)];exact h' x hx
section
variable {C:Cx} {s:St} {a:Act} {w w':World}
theorem i5.put(h:i5 C s a w)(d:Option Nat)(hd:∀t,d=some t->t<s.nt)(v:AV)(hv:v.known=true->Ok (s.m C) w v)(u:Value)(hu:v.known=true->u=v.den):i5 C (s.put d v) (a.put d u) w:=by
 cases d with
 |none=>exact h
 |some d=>
  refine⟨by simpa[Act.put,St.put]using h.size,h.defers,?_,?_,h.mem,h.nodup,h.gr,h.sepm,h.sepg,h.chg,h.m0,h.kept⟩
  .intro t ht
   simp only[St.put,B6]at ht ⊢
   by_cases he:d=t
   .subst he
    rw[if_pos rfl]at ht ⊢;refine⟨?_,hv ht⟩;simp only[Act.put];rw[Array.getElem?_setIfInBounds_self_of_lt (by rw[h.size];exact hd d rfl),hu ht]
   rw[if_neg he]at ht ⊢;have:=h.slot t ht;refine⟨?_,this.2⟩;simp only[Act.put];rw[Array.getElem?_setIfInBounds_ne he];exact this.1
  intro t p v' hg hk;simp only[St.put,gH]at hg
  split at hg
  .cases hg
  rename_i hne
  obtain⟨x,hx,he⟩:=Option.map_eq_some_iff.1 hg;unfold yg at he
  split at he
  .injection he with h1 h2;subst h2;cases hk
  rename_i hm
  subst he;have h4:=h.gs t p v' hx hk;rw[rU (iC hm)];simp only[Act.put];rw[Array.getElem?_setIfInBounds_ne hne];exact h4
theorem i5.putG(h:i5 C s a w)(d:Nat)(hd:d<s.nt)(p:List (Nat×Bool))(hp:∀x∈p,x.1≠d)(v:AV)(u:Value)
  (hu:(cu a p->u=v.den/\Ok (s.m C) w v)/\(¬cu a p->u=Go.undef)):i5 C (s.putG d p v) (a.put (some d) u) w:=by
 have h0:=h.put (some d) (fun t ht=>by injection ht with ht;omega) .undef (fun hk=>by cases hk) u (fun hk=>by cases hk);refine⟨h0.size,h0.defers,h0.slot,?_,h0.mem,h0.nodup,h0.gr,h0.sepm,h0.sepg,h0.chg,h0.m0,h0.kept⟩;intro t p' v' hg hk;have hg':M4 ((d,p,v)::je s.gs d) t=some (p',v'):=hg;rw[bR]at hg'
 split at hg'
 .rename_i he
  subst he;injection hg' with hg';injection hg' with e1 e2;subst e1;subst e2
  have hs:∀x:Value,(a.put (some d) x).tmps[d]? = some x:=fun x=>by
   simp only[Act.put];rw[Array.getElem?_setIfInBounds_self_of_lt (by rw[h.size];exact hd)]
  rw[rU hp,hs u];exact⟨fun hh=>by rw[(hu.1 hh).1];exact⟨rfl,(hu.1 hh).2⟩,fun hh=>by rw[hu.2 hh]⟩
 exact h0.gs t p' v' hg' hk
theorem i5.world(h:i5 C s a w)(hm:∀k e,j7 s.mem k=some e->w'.heap[e.at_]? = w.heap[e.at_]?)(hg:∀k t b,j7 s.gr k=some t->B4 t.v=some b->w'.heap[b]? = w.heap[b]?)(hc:Chg C.S C.w0 w')
  (hcell:∀b o u,w.cell? ⟨b,o,none⟩=some u-> ¬s.m C b o->w'.cell? ⟨b,o,none⟩=some u) (hobj:∀(b:Nat) (o:Obj),w.heap[b]? = some o->(∀c t f,o≠Obj.cells c t f)->w'.heap[b]? = some o):i5 C s a w':=by
 have mono:∀{v},Ok (s.m C) w v->Ok (s.m C) w' v:=fun hv=>hv.mono fun b o u h1 h2=>⟨hcell b o u h1 h2,h2⟩
 refine⟨h.size,h.defers,fun t ht=>⟨(h.slot t ht).1,mono (h.slot t ht).2⟩,fun t p v he hk=>⟨fun hp=>⟨((h.gs t p v he hk).1 hp).1,mono ((h.gs t p v he hk).1 hp).2⟩,(h.gs t p v he hk).2⟩,fun k e he=>?_,h.nodup,fun k t ht=>?_,h.sepm,h.sepg,hc,h.m0,C.K.st ⟨fun b o u h1 h2=>⟨hcell b o u h1 h2,h2⟩,hobj⟩ h.kept⟩
 .obtain ⟨h1,h2,h3⟩:=h.mem k e he
  exact⟨(hm k e he).trans h1,fun v hv=>⟨(h2 v hv).1,mono (h2 v hv).2⟩,h3⟩
 obtain⟨h1,xs,h2⟩:=h.gr k t ht;exact⟨h1,xs,h2.keep fun g hv=>hg k t g ht hv⟩
theorem i5.below(h:i5 C s a w)(hb:Below w.heap.size w w'):i5 C s a w':=
 h.world (fun k e he=>hb.block _ (F2 (h.mem k e he).1)) (fun k t b ht hv=>by obtain⟨_,xs,ho⟩:=h.gr k t ht;exact hb.block _ (ho.lt b hv).2) (h.chg.trans (Chg.of_new (S:=fun _=>False) hb) fun _ _ x=>x.elim) (fun b o u h1 _=>(hb.cell (World.block_lt_of_cell? w _ h1)).trans h1) fun b o h1 _=>(hb.block b (Array.getElem?_eq_some_iff.1 h1).1).trans h1
theorem kB(w:World)(o:Obj):Below w.heap.size w (w.alloc o):=(Below.refl _ _).alloc (Nat.le_refl _) _
theorem o3{α : Type}{l:List (Nat×α)}{key:Nat}{b:α}{k:Nat}{e:α}(h:j7 ((key,b)::nQ l key) k=some e):(k=key/\e=b) \/ (k≠key/\j7 l k=some e):=by
 rw[F3,bz]at h
 split at h
 .rename_i he;injection h with h;exact .inl ⟨he.symm,h.symm⟩
 rename_i he;exact .inr ⟨fun x=>he x.symm,h⟩
theorem i5.new(h:i5 C s a w)(key:Nat)(ty:TypeId)(cells:List AV)(hc:∀v∈cells,v.one=true/\Ok (s.m C) w v) :
  i5 C (s.eff (.new key ⟨w.heap.size,ty,cells⟩)) a (w.alloc (.cells (cells.map AV.den).toArray ty))/\(∀v,Ok (s.m C) w v->Ok ((s.eff (.new key ⟨w.heap.size,ty,cells⟩)).m C) (w.alloc (.cells (cells.map AV.den).toArray ty)) v):=by
 have hb:=kB w (.cells (cells.map AV.den).toArray ty);have h1:=h.below hb;have hm:∀b o,b<w.heap.size-> ¬s.m C b o-> ¬(s.eff (.new key ⟨w.heap.size,ty,cells⟩)).m C b o:=by
  intro b o hlt hn hm
  rcases hm with hm|⟨k,e,he,hm⟩|hm
  .exact hn (.inl hm)
  .rcases o3 he with⟨_,rfl⟩|⟨_,he⟩
   .simp only at hm;omega
   exact hn (.inr (.inl ⟨k,e,he,hm⟩))
  exact hn (.inr (.inr hm))
 have kp:cb w (s.m C) (w.alloc (.cells (cells.map AV.den).toArray ty)) ((s.eff (.new key ⟨w.heap.size,ty,cells⟩)).m C):=⟨fun b o u h2 h3=>
  have hl:=World.block_lt_of_cell? w _ h2
  ⟨(hb.cell hl).trans h2,hm b o hl h3⟩,fun b o h1 _=>(hb.block b (Array.getElem?_eq_some_iff.1 h1).1).trans h1⟩
 have mono:∀v,Ok (s.m C) w v->Ok ((s.eff (.new key ⟨w.heap.size,ty,cells⟩)).m C) (w.alloc (.cells (cells.map AV.den).toArray ty)) v:=fun v hv=>kp.ok hv
 refine⟨⟨h.size,h.defers,fun t ht=>⟨(h.slot t ht).1,mono _ (h.slot t ht).2⟩,fun t p v he hk=>⟨fun hp=>⟨((h.gs t p v he hk).1 hp).1,mono _ ((h.gs t p v he hk).1 hp).2⟩,(h.gs t p v he hk).2⟩,?_,?_,h1.gr,?_,h.sepg,h1.chg,h.m0,C.K.st kp h.kept⟩,mono⟩
 .intro k e he
  rcases o3 he with⟨_,rfl⟩|⟨_,he⟩
  .exact ⟨heap_alloc_new w _,fun v hv=>⟨(hc v hv).1,mono _ (hc v hv).2⟩,.inl h.chg.size⟩
  obtain⟨h2,h3,h4⟩:=h.mem k e he;exact⟨(hb.block _ (F2 h2)).trans h2,fun v hv=>⟨(h3 v hv).1,mono _ (h3 v hv).2⟩,h4⟩
 .intro k k' e e' he he' hne
  rcases o3 he with⟨h2,rfl⟩|⟨h2,he⟩
  .rcases o3 he' with⟨h3,_⟩|⟨h3,he'⟩
   .exact absurd (h2.trans h3.symm) hne
   have:=F2 (h.mem k' e' he').1;simp only;omega
  rcases o3 he' with⟨h3,rfl⟩|⟨h3,he'⟩
  .have:=F2 (h.mem k e he).1
   simp only;omega
  exact h.nodup k k' e e' he he' hne
 intro k t k' e ht he hv
 rcases o3 he with⟨_,rfl⟩|⟨_,he⟩
 .obtain ⟨_,xs,ho⟩:=h.gr k t ht
  have:=(ho.lt _ hv).2;simp only at this;omega
 exact h.sepm k t k' e ht he hv
theorem i5.set(h:i5 C s a w){key:Nat}{b:Blk}(hin:j7 s.mem key=some b)(cells:List AV)(hc:∀v∈cells,v.one=true/\Ok (s.m C) w v) :
  i5 C (s.eff (.set key ⟨b.at_,b.ty,cells⟩)) a (w.setRow b.at_ (cells.map AV.den).toArray):=by
 obtain⟨hh,_,hs⟩:=h.mem _ _ hin;have hother:∀k,k≠b.at_->(w.setRow b.at_ (cells.map AV.den).toArray).heap[k]? = w.heap[k]?:=fun k hne=>setRow_other w b.at_ k _ (fun e=>hne e)
 have hself:=setRow_heap w b.at_ _ (cells.map AV.den).toArray b.ty (0,0) hh;have hm:∀b' o,¬s.m C b' o-> ¬(s.eff (.set key ⟨b.at_,b.ty,cells⟩)).m C b' o:=by
  intro b' o hn hm
  rcases hm with hm|⟨k,e,he,hm⟩|hm
  .exact hn (.inl hm)
  .rcases o3 he with⟨_,rfl⟩|⟨_,he⟩
   .exact hn (.inr (.inl ⟨_,_,hin,hm⟩))
   exact hn (.inr (.inl ⟨k,e,he,hm⟩))
  exact hn (.inr (.inr hm))
 have kp:cb w (s.m C) (w.setRow b.at_ (cells.map AV.den).toArray) ((s.eff (.set key ⟨b.at_,b.ty,cells⟩)).m C):=by
  refine⟨fun b' o u h2 h3=>?_,fun b' o h2 h3=>?_⟩
  .have hne:b'≠b.at_:=fun e=>h3 (.inr (.inl ⟨_,_,hin,e.symm⟩))
   refine⟨?_,hm _ _ h3⟩;unfold World.cell? at h2 ⊢;rw[hother _ hne];exact h2
  have hne:b'≠b.at_:=fun e=>by
   subst e;rw[hh]at h2;exact h3 _ _ _ (Option.some.inj h2).symm
  rw[hother _ hne];exact h2
 have mono:∀{v},Ok (s.m C) w v->Ok ((s.eff (.set key ⟨b.at_,b.ty,cells⟩)).m C) (w.setRow b.at_ (cells.map AV.den).toArray) v:=fun hv=>kp.ok hv
 refine⟨h.size,h.defers,fun t ht=>⟨(h.slot t ht).1,mono (h.slot t ht).2⟩,fun t p v he hk=>⟨fun hp=>⟨((h.gs t p v he hk).1 hp).1,mono ((h.gs t p v he hk).1 hp).2⟩,(h.gs t p v he hk).2⟩,?_,?_,?_,?_,h.sepg,?_,h.m0,C.K.st kp h.kept⟩
 .intro k e he
  rcases o3 he with⟨_,rfl⟩|⟨hne,he⟩
  .exact ⟨hself,fun v hv=>⟨(hc v hv).1,mono (hc v hv).2⟩,hs⟩
  obtain⟨h3,h4,h5⟩:=h.mem k e he;exact⟨(hother _ (h.nodup k key e b he hin hne)).trans h3,fun v hv=>⟨(h4 v hv).1,mono (h4 v hv).2⟩,h5⟩
 .intro k k' e e' he he' hne
  rcases o3 he with⟨h2,rfl⟩|⟨h2,he⟩
  .rcases o3 he' with⟨h3,_⟩|⟨h3,he'⟩
   .exact absurd (h2.trans h3.symm) hne
   exact h.nodup key k' b e' hin he' (fun x=>h3 x.symm)
  rcases o3 he' with⟨h3,rfl⟩|⟨h3,he'⟩
  .exact h.nodup k key e b he hin h2
  exact h.nodup k k' e e' he he' hne
 .intro k t ht
  obtain⟨h1,xs,h2⟩:=h.gr k t ht;exact⟨h1,xs,h2.keep fun g hv=>hother g fun e=>h.sepm k t key b ht hin (e ▸ hv)⟩
 .intro k t k' e ht he hv
  rcases o3 he with⟨_,rfl⟩|⟨_,he⟩
  .exact h.sepm k t key b ht hin hv
  exact h.sepm k t k' e ht he hv
 refine h.chg.trans (S':=fun k=>k=b.at_) ⟨rfl,rfl,rfl,by simp[World.setRow],fun k _ hn=>hother k hn⟩ fun k hk e=>?_
 subst e
 rcases hs with hs|hs
 .omega
 exact hs
theorem i5.nilTok(h:i5 C s a w)(key:Nat)(k:Nat)(e:TypeId)(hk:0<k):i5 C (s.eff (.grow key ⟨none,0,0,k,e⟩)) a w/\∀v,Ok (s.m C) w v->Ok ((s.eff (.grow key ⟨none,0,0,k,e⟩)).m C) w v:=by
 have hm:∀b o,¬s.m C b o-> ¬(s.eff (.grow key ⟨none,0,0,k,e⟩)).m C b o:=by
  intro b o hn hm
  rcases hm with hm|hm|⟨k',t,ht,hv,hm⟩
  .exact hn (.inl hm)
  .exact hn (.inr (.inl hm))
  rcases o3 ht with⟨_,rfl⟩|⟨_,ht⟩
  .simp [Gr.v,B4]at hv
  exact hn (.inr (.inr ⟨k',t,ht,hv,hm⟩))
 have kp:cb w (s.m C) w ((s.eff (.grow key ⟨none,0,0,k,e⟩)).m C):=⟨fun b o u h1 h2=>⟨h1,hm b o h2⟩,fun _ _ h _=>h⟩;have mono:∀v,Ok (s.m C) w v->Ok ((s.eff (.grow key ⟨none,0,0,k,e⟩)).m C) w v:=fun v hv=>kp.ok hv
 refine⟨⟨h.size,h.defers,fun t ht=>⟨(h.slot t ht).1,mono _ (h.slot t ht).2⟩,fun t p v he hk=>⟨fun hp=>⟨((h.gs t p v he hk).1 hp).1,mono _ ((h.gs t p v he hk).1 hp).2⟩,(h.gs t p v he hk).2⟩,?_,h.nodup,?_,?_,?_,h.chg,h.m0,C.K.st kp h.kept⟩,mono⟩
 .intro k e he
  obtain⟨h1,h2,h3⟩:=h.mem k e he;exact⟨h1,fun v hv=>⟨(h2 v hv).1,mono _ (h2 v hv).2⟩,h3⟩
 .intro k' t ht
  rcases o3 ht with⟨_,rfl⟩|⟨_,ht⟩
  .exact ⟨hk,[],Own.nil w _ e k none⟩
  exact h.gr k' t ht
 .intro k' t k2 b ht hb
  rcases o3 ht with⟨_,rfl⟩|⟨_,ht⟩
  .simp [Gr.v,B4]
  exact h.sepm k' t k2 b ht hb
 intro k1 t1 k2 t2 b h1 h2 hne hv
 rcases o3 h1 with⟨_,rfl⟩|⟨_,h1⟩
 .simp [Gr.v,B4]at hv
 rcases o3 h2 with⟨_,rfl⟩|⟨_,h2⟩
 .simp [Gr.v,B4]
 exact h.sepg k1 t1 k2 t2 b h1 h2 hne hv
end
section
variable {C:Cx} {s:St} {a:Act} {w:World}
theorem i5.addRow(h:i5 C s a w)(key:Nat)(t:Gr)(hk:0<t.k){xs:List Value}(ho:Own w C.w0.heap.size t.e t.k t.v t.n xs)
  (hb:∀b,B4 t.v=some b->(∀k e,j7 s.mem k=some e->e.at_≠b)/\(∀k t',j7 s.gr k=some t'->B4 t'.v≠some b)/\∀o u,w.cell? ⟨b,o,none⟩=some u->o<t.n*t.k) :
  i5 C (s.eff (.grow key t)) a w/\∀v,Ok (s.m C) w v->Ok ((s.eff (.grow key t)).m C) w v:=by
 have kp:cb w (s.m C) w ((s.eff (.grow key t)).m C):=⟨fun b o u h1 h2=>⟨h1,fun hm=>by
  rcases hm with hm|hm|⟨k',t',ht,hv',hm⟩
  .exact h2 (.inl hm)
  .exact h2 (.inr (.inl hm))
  rcases o3 ht with⟨_,rfl⟩|⟨_,ht⟩
  .have:=(hb b hv').2.2 o u h1;omega
  exact h2 (.inr (.inr ⟨k',t',ht,hv',hm⟩))⟩,fun _ _ h _=>h⟩
 have mono:∀v,Ok (s.m C) w v->Ok ((s.eff (.grow key t)).m C) w v:=fun v hv=>kp.ok hv
 refine⟨⟨h.size,h.defers,fun t ht=>⟨(h.slot t ht).1,mono _ (h.slot t ht).2⟩,fun t p v he hk=>⟨fun hp=>⟨((h.gs t p v he hk).1 hp).1,mono _ ((h.gs t p v he hk).1 hp).2⟩,(h.gs t p v he hk).2⟩,?_,h.nodup,?_,?_,?_,h.chg,h.m0,C.K.st kp h.kept⟩,mono⟩
 .intro k e he
  obtain⟨h1,h2,h3⟩:=h.mem k e he;exact⟨h1,fun v hv=>⟨(h2 v hv).1,mono _ (h2 v hv).2⟩,h3⟩
 .intro k' t' ht
  rcases o3 ht with⟨_,rfl⟩|⟨_,ht⟩
  .exact ⟨hk,xs,ho⟩
  exact h.gr k' t' ht
 .intro k' t' k2 b ht hm hv
  rcases o3 ht with⟨_,rfl⟩|⟨_,ht⟩
  .exact (hb _ hv).1 k2 b hm rfl
  exact h.sepm k' t' k2 b ht hm hv
 intro k1 t1 k2 t2 b h1 h2 hne hv
 rcases o3 h1 with⟨e1,rfl⟩|⟨_,g1⟩
 .rcases o3 h2 with⟨e2,rfl⟩|⟨_,h2⟩
  .exact absurd (e1.trans e2.symm) hne
  exact(hb b hv).2.1 k2 t2 h2
 rcases o3 h2 with⟨_,rfl⟩|⟨_,h2⟩
 .intro hv2;exact(hb b hv2).2.1 k1 t1 g1 hv
 exact h.sepg k1 t1 k2 t2 b g1 h2 hne hv
end
structure R1(m:Nat->Nat->Prop)(w:World)(pre:List (Nat×Blk)):Prop where
 heap:∀e∈pre,w.heap[e.2.at_]? = some (.cells (e.2.cells.map AV.den).toArray e.2.ty (0,0))
 ok:∀e∈pre,∀v∈e.2.cells,v.one=true/\Ok m w v
 free:∀e∈pre,∀o,m e.2.at_ o
 dist:pre.Pairwise fun e f=>e.2.at_≠f.2.at_
def ats(pre:List (Nat×Blk))(b:Nat):Prop:=∃e∈pre,e.2.at_=b
def mN(m:Nat->Nat->Prop)(news:List (Nat×Blk)):Nat->Nat->Prop:=fun b o=>m b o \/ ats news b
def upd:List (Nat×Blk)->List (Nat×List AV)->List (Nat×Blk)
 |(k,b)::l,(_,c)::r=>(k,⟨b.at_,b.ty,c⟩)::upd l r
 |_,_=>[]
theorem kS:∀{pre:List (Nat×Blk)} {r:List (Nat×List AV)} {e:Nat×Blk},e∈upd pre r->∃e'∈pre,e'.1=e.1/\e'.2.at_=e.2.at_/\e'.2.ty=e.2.ty
 | [],r,e,h=>by cases r<;>cases h
 |_::_,[],e,h=>by cases h
 |(k,b)::l,(k',c)::r,e,h=>by
  simp only[upd,List.mem_cons]at h
  rcases h with rfl|h
  .exact ⟨(k,b),by simp,rfl,rfl,rfl⟩
  obtain⟨e',h1,h2⟩:=kS h;exact⟨e',List.mem_cons_of_mem _ h1,h2⟩
theorem lH:∀{pre:List (Nat×Blk)} {r:List (Nat×List AV)},r.map (·.1)=pre.map (·.1)->(upd pre r).map (·.1)=pre.map (·.1)
 | [],r,h=>by cases r<;>rfl
 |_::_,[],h=>by cases h
 |(k,b)::l,(k',c)::r,h=>by
  simp only[List.map_cons,List.cons.injEq]at h;simp only[upd,List.map_cons,lH h.2]
theorem rB:∀{pre:List (Nat×Blk)} {r:List (Nat×List AV)},(pre.Pairwise fun e f=>e.2.at_≠f.2.at_)->((upd pre r).Pairwise fun e f=>e.2.at_≠f.2.at_)
 | [],r,h=>by cases r<;>exact .nil
 |_::_,[],h=>.nil
 |(k,b)::l,(k',c)::r,h=>by
  obtain⟨h1,h2⟩:=List.pairwise_cons.1 h;refine .cons (fun e he=>?_) (rB h2);obtain⟨e',g1,_,g2,_⟩:=kS he;rw[<-g2];exact h1 e' g1
structure js(m:Nat->Nat->Prop)(w w':World)(pre:List (Nat×Blk))(sets:List (Nat×List AV))(news:List (Nat×Blk)):Prop where
 keys:sets.map (·.1)=pre.map (·.1)
 heap:∀e∈upd pre sets++news,w'.heap[e.2.at_]? = some (.cells (e.2.cells.map AV.den).toArray e.2.ty (0,0))
 ok:∀e∈upd pre sets++news,∀v∈e.2.cells,v.one=true/\Ok (mN m news) w' v
 fresh:∀e∈news,w.heap.size<=e.2.at_
 dist:news.Pairwise fun e f=>e.2.at_≠f.2.at_
 chg:Chg (ats pre) w w'
theorem eT{l:List (Nat×Blk)}(h:l.Pairwise fun e f=>e.2.at_≠f.2.at_){e f:Nat×Blk}(he:e∈l)(hf:f∈l)(hne:e.1≠f.1):e.2.at_≠f.2.at_:=by
 induction l with
 |nil=>cases he
 |cons x l ih=>
  obtain⟨h1,h2⟩:=List.pairwise_cons.1 h
  rcases List.mem_cons.1 he with he'|he'
  .rcases List.mem_cons.1 hf with hf'|hf'
   .subst he';subst hf';exact absurd rfl hne
   subst he';exact h1 _ hf'
  rcases List.mem_cons.1 hf with hf'|hf'
  .subst hf';exact(h1 _ he').symm
  exact ih h2 he' hf'
section
variable {C:Cx} {s:St} {a:Act} {w w':World}
theorem i5.called(h:i5 C s a w){pre:List (Nat×Blk)}(hdist:pre.Pairwise fun e f=>e.2.at_≠f.2.at_)(hp:∀e∈pre,j7 s.mem e.1=some e.2){sets:List (Nat×List AV)}{news:List (Nat×Blk)}(hl:js (s.m C) w w' pre sets news) :
  i5 C (s.eff (.sets (upd pre sets++news))) a w'/\∀v,Ok (mN (s.m C) news) w' v->Ok ((s.eff (.sets (upd pre sets++news))).m C) w' v:=by
 have tr:∀e∈pre,∀o,s.m C e.2.at_ o:=fun e he o=>.inr (.inl ⟨e.1,e.2,hp e he,rfl⟩)
 have hpre:∀{e},e∈upd pre sets->∃e'∈pre,e'.1=e.1/\e'.2.at_=e.2.at_/\e'.2.ty=e.2.ty:=fun h=>kS h
 -- what is looked up now
 have look:∀{k e},j7 (lQ (upd pre sets++news) s.mem) k=some e->((k,e)∈upd pre sets \/ (k,e)∈news) \/ (j7 (upd pre sets++news) k=none/\j7 s.mem k=some e):=by
  intro k e he;rw[cA]at he
  cases hk:j7 (upd pre sets++news) k with
  |some e'=>
   rw[hk]at he;simp only[Option.some_or,Option.some.injEq]at he;subst he;exact .inl (List.mem_append.1 (I9 hk))
  |none=>
   rw[hk]at he;exact .inr ⟨rfl,by simpa using he⟩
 have other:∀{k e},j7 (upd pre sets++news) k=none->j7 s.mem k=some e->∀e'∈pre,e'.2.at_≠e.at_:=by
  intro k e hn he e' he';have hne:e'.1≠k:=by
   intro hk;have hmem:k∈(upd pre sets++news).map (·.1):=by
    rw[List.map_append,lH hl.keys];exact List.mem_append_left _ (List.mem_map.2 ⟨e',he',hk⟩)
   obtain⟨x,hx,rfl⟩:=List.mem_map.1 hmem;clear look;have:∀(l:List (Nat×Blk)),x∈l->j7 l x.1≠none:=by
    intro l
    induction l with
    |nil=>intro h;cases h
    |cons y l ih=>
     obtain⟨ky,ey⟩:=y;intro h;rw[F3]
     split
     .simp
     rename_i hne
     rcases List.mem_cons.1 h with h|h
     .subst h;exact absurd rfl hne
     exact ih h
   exact this _ hx hn
  exact h.nodup _ _ _ _ (hp e' he') he hne
 have keepb:∀b,b<w.heap.size-> ¬ats pre b->w'.heap[b]? = w.heap[b]?:=fun b hb hn=>hl.chg.block b hb hn
 have hm:∀b o,b<w.heap.size-> ¬s.m C b o-> ¬(s.eff (.sets (upd pre sets++news))).m C b o:=by
  intro b o hlt hn hm
  rcases hm with hm|⟨k,e,he,hm⟩|hm
  .exact hn (.inl hm)
  .rcases look he with(he|he)|⟨_,he⟩
   .obtain ⟨e',h1,_,h2,_⟩:=hpre he
    exact hn (hm ▸ h2 ▸ tr e' h1 o)
   .have:=hl.fresh _ he
    simp only at this hm;omega
   exact hn (.inr (.inl ⟨k,e,he,hm⟩))
  exact hn (.inr (.inr hm))
 have hm':∀b o,¬mN (s.m C) news b o-> ¬(s.eff (.sets (upd pre sets++news))).m C b o:=by
  intro b o hn hm
  rcases hm with hm|⟨k,e,he,hm⟩|hm
  .exact hn (.inl (.inl hm))
  .rcases look he with(he|he)|⟨_,he⟩
   .obtain ⟨e',h1,_,h2,_⟩:=hpre he
    exact hn (.inl (hm ▸ h2 ▸ tr e' h1 o))
   .exact hn (.inr ⟨_,he,hm⟩)
   exact hn (.inl (.inr (.inl ⟨k,e,he,hm⟩)))
  exact hn (.inl (.inr (.inr hm)))
 have mono0:∀v,Ok (mN (s.m C) news) w' v->Ok ((s.eff (.sets (upd pre sets++news))).m C) w' v:=fun v hv=>hv.mono fun b o u h2 h3=>⟨h2,hm' _ _ h3⟩
 have kp:cb w (s.m C) w' ((s.eff (.sets (upd pre sets++news))).m C):=by
  refine⟨fun b o u h2 h3=>?_,fun b o h2 h3=>?_⟩
  .have hlt:=World.block_lt_of_cell? w _ h2
   refine⟨?_,hm _ _ hlt h3⟩;have hb:=keepb b hlt fun⟨e,he,hat⟩=>h3 (hat ▸ tr e he o)
   unfold World.cell? at h2 ⊢;simp only at h2 ⊢;rw[hb];exact h2
  rw[keepb b (Array.getElem?_eq_some_iff.1 h2).1 fun⟨e,he,hat⟩=>?_]
  .exact h2
  subst hat;rw[(h.mem _ _ (hp e he)).1]at h2;exact h3 _ _ _ (Option.some.inj h2).symm
 have mono:∀{v},Ok (s.m C) w v->Ok ((s.eff (.sets (upd pre sets++news))).m C) w' v:=fun hv=>kp.ok hv
 refine⟨⟨h.size,h.defers,fun t ht=>⟨(h.slot t ht).1,mono (h.slot t ht).2⟩,fun t p v he hk=>⟨fun hp=>⟨((h.gs t p v he hk).1 hp).1,mono ((h.gs t p v he hk).1 hp).2⟩,(h.gs t p v he hk).2⟩,?_,?_,?_,?_,h.sepg,?_,h.m0,C.K.st kp h.kept⟩,mono0⟩
 .intro k e he
  rcases look he with he|⟨hn,he⟩
  .have hin:=List.mem_append.2 he
   refine⟨hl.heap _ hin,fun v hv=>⟨(hl.ok _ hin v hv).1,mono0 _ (hl.ok _ hin v hv).2⟩,?_⟩
   rcases he with he|he
   .obtain ⟨e',h1,_,h2,_⟩:=hpre he
    have:=(h.mem _ _ (hp e' h1)).2.2;rw[h2]at this;exact this
   exact .inl (Nat.le_trans h.chg.size (hl.fresh _ he))
  obtain⟨h3,h4,h5⟩:=h.mem k e he;refine⟨(keepb _ (F2 h3) fun⟨e',h1,h2⟩=>other hn he e' h1 h2).trans h3,fun v hv=>⟨(h4 v hv).1,mono (h4 v hv).2⟩,h5⟩
 .intro k k' e e' he he' hne
  have lt:∀{k e},j7 s.mem k=some e->e.at_<w.heap.size:=fun he=>F2 (h.mem _ _ he).1
  have ltu:∀{x},x∈upd pre sets->x.2.at_<w.heap.size:=fun hx=>by
   obtain⟨x',h1,_,h2,_⟩:=hpre hx;rw[<-h2];exact lt (hp _ h1)
  rcases look he with(he|he)|⟨hn,he⟩
  .rcases look he' with(he'|he')|⟨hn',he'⟩
   .exact eT (rB hdist) he he' hne
   .have h1:=ltu he;have h2:=hl.fresh _ he';simp only at h1 h2;omega
   obtain⟨x',h1,_,h2,_⟩:=hpre he;have:=other hn' he' x' h1;rw[h2]at this;exact this
  .rcases look he' with(he'|he')|⟨hn',he'⟩
   .have h1:=ltu he';have h2:=hl.fresh _ he;simp only at h1 h2;omega
   .exact eT hl.dist he he' hne
   have h1:=lt he';have h2:=hl.fresh _ he;simp only at h2;omega
  rcases look he' with(he'|he')|⟨hn',he'⟩
  .obtain ⟨x',h1,_,h2,_⟩:=hpre he'
   have:=other hn he x' h1;rw[h2]at this;exact this.symm
  .have h1:=lt he;have h2:=hl.fresh _ he';simp only at h2;omega
  exact h.nodup k k' e e' he he' hne
 .intro k t ht
  obtain⟨h1,xs,h2⟩:=h.gr k t ht;exact⟨h1,xs,h2.keep fun g hv=>keepb g (h2.lt g hv).2 fun⟨e,he,hat⟩=>h.sepm k t e.1 e.2 ht (hp e he) (hat ▸ hv)⟩
 .intro k t k' e ht he hv
  rcases look he with(he|he)|⟨_,he⟩
  .obtain ⟨x',h1,_,h2,_⟩:=hpre he
   exact h.sepm k t x'.1 x'.2 ht (hp _ h1) (by rw[h2];exact hv)
  .obtain ⟨_,xs,ho⟩:=h.gr k t ht
   have h1:=(ho.lt _ hv).2;have h2:=hl.fresh _ he;simp only at h2;omega
  exact h.sepm k t k' e ht he hv
 refine h.chg.trans hl.chg fun k hk ⟨e,he,hat⟩=>?_
 subst hat
 rcases(h.mem _ _ (hp e he)).2.2 with hs|hs
 .omega
 exact hs
end
theorem kH{P:Program}{w:World}{t e k bytes:Nat}{z:Value}(E:cN P t e k bytes z)(ty:TypeId){B C:Nat}{v:Value}{n:Nat}{xs:List Value}(hown:Own w B e k v n xs)
  (A:Option Addr) (m c:Nat) (news:List Value) (hl:news.length=m*k) (hnews:U6 w C A news) (h1:∀u∈news,u.oneCell'=true)
  (h63:n+m<=maxLen) (hbytes:(n+m)*bytes<=140737488355328) (O:B<=w.heap.size) :
  ∃v' w',(Builtin.append_ #[t,t] ty #[v,.slice A m c]).run P w = .ok v' w'/\Own w' B e k v' (n+m) (xs++news)/\w.grownBy w' (B4 v) ∧
   (B4 v'=B4 v \/ (B4 v'=some w.heap.size/\∀k,k<w.heap.size->w'.heap[k]? = w.heap[k]?)):=by
 obtain⟨i,hi⟩:∃i,P.info? e=some i:=by
  have:=E.i
  cases hq:P.info? e with
  |none=>simp[hq]at this
  |some i=>exact⟨i,rfl⟩
 have hEi:=E.i;simp only[hi,Option.map_some,Option.some.injEq,Prod.mk.injEq]at hEi;obtain⟨hz,hk,hby⟩:=hEi;subst hk;subst hby;have hpos:=E.pos;have hzs:=E.zs;have ht:=E.u;have hlen:(xs++news).length=(n+m)*i.size:=by rw[List.length_append,hown.1,hl,Nat.add_mul]
 have hsmall:n+m<=9223372036854775807:=by simp only[maxLen]at h63;omega
 have grown:∀(old:Nat),old<n+m->∀(row:Option Nat),
   Own (w.drew.alloc (.cells (xs.toArray++news.toArray++Builtin.zeroCells z.cells (grownCap w (n+m) old e-(n+m))) e)) B e i.size
    (.slice (some ⟨w.heap.size,0,none⟩) (n+m) (grownCap w (n+m) old e)) (n+m) (xs++news) ∧
   w.grownBy (w.drew.alloc (.cells (xs.toArray++news.toArray++Builtin.zeroCells z.cells (grownCap w (n+m) old e-(n+m))) e)) row:=by
  intro old ho row;have hge:=grownCap_ge w (n+m) old e;have hcm:grownCap w (n+m) old e<=maxLen:=grownCap_le_maxLen w (n+m) old e h63;refine⟨⟨hlen,.inr ⟨w.heap.size,_,_,rfl,O,heap_alloc_new w.drew _,hge,by omega,hcm,?_,?_⟩⟩,⟨rfl,rfl,rfl,by simp,fun k hk _=>Below.heap_alloc w.drew _ k hk⟩⟩
  .simp only[Array.size_append,List.size_toArray,size_zeroCells,hzs,hown.1,hl,<-Nat.add_mul]
   congr 1
   omega
  simp only[Array.toList_append,List.append_assoc];rw[<-List.append_assoc,<-hlen];exact List.take_left
 have growfit:∀old,old<n+m->Builtin.nextslicecap (n+m) old*i.bytes<=281474976710656:=fun old ho=>growslice_fits ho hbytes
 have hf:∀w':World,(∀p,w'.cell? p=w.cell? p)->(Builtin.firstCells i.size m (.slice A m c)).run P w' = .ok news.toArray w':=fun w' hw=>
  Q3 (B:=C) i.size m m c (hnews.keep (Nat.le_refl _) fun p _=>hw p) hl
 have hrow:=fun A' m' c' h=>hown.row A' m' c' h
 rcases hown.2 with⟨rfl,A',rfl⟩|⟨g,cap,cur,rfl,hbg,hg,hnc,hc0,hcm,hcs,htake⟩
 .have hx:xs=[]:=List.eq_nil_of_length_eq_zero (by simpa using hown.1)
  subst hx
  by_cases hm:m=0
  .subst hm
   have hn:news=[]:=List.eq_nil_of_length_eq_zero (by simpa using hl);subst hn;refine⟨.slice A' 0 0,w,?_,Own.nil w B e i.size A',⟨rfl,rfl,rfl,Nat.le_refl _,fun _ _ _=>rfl⟩,.inl rfl⟩;have hfw:=hf w fun _=>rfl
   cases A'<;>simp[Builtin.append_,run_underlying ht,sizeOf,typeInfo,hi,Builtin.lenOf,hfw,storeCells]
  have hgr:=grown 0 (by omega) (B4 (.slice A' 0 0));have hgn:=(grown 0 (by omega) none).2;have hfit:=growfit 0 (by omega);simp only[Nat.zero_add,List.nil_append,Array.empty_append]at hgr hgn hfit ⊢;refine⟨_,_,?_,hgr.1,hgr.2,.inr ⟨?_,fun k hk=>hgn.block k hk (by simp)⟩⟩
  .have hfw:=hf w.drew fun _=>rfl
   have hfo:=Q3 (P:=P) (w:=w.drew) (B:=0) (A:=A') (xs:=[]) i.size 0 0 0 U6.nil (by simp);have h63':¬(9223372036854775807<(m:Int)):=by omega
   have h48':¬(281474976710656<Builtin.nextslicecap m 0*i.bytes):=by omega
   simp[Builtin.append_,run_underlying ht,sizeOf,typeInfo,zeroValue,hi,hz,Builtin.lenOf,hm,h63',h48',Question.forced,hfw,hfo,newRow,grownCap]
  have:grownCap w m 0 e≠0:=by have:=grownCap_ge w m 0 e;omega
  simp[B4,this]
 by_cases hroom:n+m<=cap
 .have hfit:n*i.size+news.length<=cur.size:=by rw[hl,hcs,<-Nat.add_mul];exact Nat.mul_le_mul_right _ hroom
  have hst:=run_storeCells_at P g (n*i.size) e news 0 cur w hg (by simpa using hfit) h1;simp only[Nat.add_zero]at hst;have hfw:=hf w fun _=>rfl
  have hr:(Builtin.append_ #[t,t] ty #[.slice (some ⟨g,0,none⟩) n cap,.slice A m c]).run P w =
    .ok (.slice (some ⟨g,0,none⟩) (n+m) cap) (w.setRow g (cur.toList.take (n*i.size)++news++cur.toList.drop (n*i.size+news.length)).toArray):=by
   simp[Builtin.append_,run_underlying ht,sizeOf,typeInfo,hi,Builtin.lenOf,hroom,hfw,Addr.add_lit,hst]
  have hcap:cap≠0:=by omega
  refine⟨_,_,hr,⟨hlen,.inr ⟨g,cap,_,rfl,hbg,setRow_heap w g cur _ e _ hg,hroom,hc0,hcm,?_,?_⟩⟩,⟨rfl,rfl,rfl,by simp,fun k _ hk=>setRow_other w g k _ (fun e=>hk (by simp[B4,e,hcap]))⟩,.inl (by simp[B4])⟩
  .simp only[List.size_toArray,List.length_append,List.length_take,List.length_drop,Array.length_toList]
   omega
  rw[htake,<-hlen];exact List.take_left
 have hgr:=grown cap (by omega) (B4 (.slice (some ⟨g,0,none⟩) n cap));have hgn:=(grown cap (by omega) none).2;have hfit:=growfit cap (by omega);refine⟨_,_,?_,hgr.1,hgr.2,.inr ⟨?_,fun k hk=>hgn.block k hk (by simp)⟩⟩
 .have hfw:=hf w.drew fun _=>rfl
  have hfo:=Q3 (P:=P) (w:=w.drew) (B:=w.heap.size) (A:=some ⟨g,0,none⟩) (xs:=xs) i.size n n cap ((hrow _ _ _ rfl).keep (Nat.le_refl _) fun _ _=>rfl) hown.1;have h63':¬(9223372036854775807<((n:Int)+(m:Int))):=by omega
  have h48':¬(281474976710656<Builtin.nextslicecap (n+m) cap*i.bytes):=by omega
  simp[Builtin.append_,run_underlying ht,sizeOf,typeInfo,zeroValue,hi,hz,Builtin.lenOf,hroom,h63',h48',Question.forced,hfw,hfo,newRow,grownCap]
  congr 2
  apply Array.ext';simp[List.append_assoc]
 have:grownCap w (n+m) cap e≠0:=by have:=grownCap_ge w (n+m) cap e;omega
 simp[B4,this]
def j6(cells:Nat->List AV)(n:Nat):List Value:=(List.range n).flatMap fun i=>(cells i).map AV.den
theorem I3(cells:Nat->List AV)(n:Nat):j6 cells (n+1)=j6 cells n++(cells n).map AV.den:=by
 simp[j6,List.range_succ]
theorem D8{cells:Nat->List AV}{k:Nat}:∀{n:Nat},(∀i,i<n->(cells i).length=k)->(j6 cells n).length=n*k
 |0,_=>by simp[j6]
 |n+1,h=>by rw[I3,List.length_append,D8 (fun i hi=>h i (by omega)),List.length_map,h n (by omega),Nat.add_mul,Nat.one_mul]
theorem C7{cells:Nat->List AV}{k:Nat}:∀{n:Nat},(∀i,i<n->(cells i).length=k)->∀{i j:Nat},i<n->j<k->(j6 cells n)[i*k+j]? = ((cells i).map AV.den)[j]?
 |0,_,i,j,hi,hj=>by omega
 |n+1,h,i,j,hi,hj=>by
  have hl:=D8 (cells:=cells) (k:=k) (n:=n) (fun i hi=>h i (by omega));rw[I3]
  by_cases he:i<n
  .have:i*k+j<n*k:=by
    have:=Nat.mul_le_mul_right k (show i+1<=n by omega)
    rw[Nat.add_mul,Nat.one_mul]at this;omega
   rw[List.getElem?_append_left (by omega),C7 (fun i hi=>h i (by omega)) he hj]
  have:i=n:=by omega
  subst this;rw[List.getElem?_append_right (by omega),hl]
  congr 1
  omega
theorem fW{cells:Nat->List AV}{k n x:Nat}(hx:x<n*k):∃i j,i<n/\j<k/\x=i*k+j:=by
 have hk:0<k:=by
  rcases Nat.eq_zero_or_pos k with h|h
  .subst h;simp at hx
  exact h
 exact⟨x / k,x % k,(Nat.div_lt_iff_lt_mul hk).2 hx,Nat.mod_lt _ hk,by have:=Nat.div_add_mod x k;rw[Nat.mul_comm]at this;omega⟩
theorem cQ{m:Nat->Nat->Prop}{w:World}{g:Option Nat}{A:Option Addr}{n c k:Nat}{cells:Nat->List AV}(h:Ok m w (.sl g A n c k cells)):U6 w w.heap.size A (j6 cells n):=by
 cases h with
 |sl _ _ _ _ _ _ h1 h2 h3 h4 h5 h6 h7=>
  intro hp;have hl:=D8 h3;have hn:0<n:=by
   rcases Nat.eq_zero_or_pos n with h|h
   .subst h;simp[j6]at hp
   exact h
  obtain⟨b,off,hA⟩:=h4 0 hn;refine⟨b,off,hA,?_,fun x u hu=>?_⟩
  .obtain ⟨u,hu⟩:∃u,(j6 cells n)[0]? = some u:=⟨_,List.getElem?_eq_getElem hp⟩
   have hk:0<k:=by
    rcases Nat.eq_zero_or_pos k with h|h
    .subst h;simp at hl;rw[hl]at hp;simp at hp
    exact h
   have:=C7 h3 hn hk;rw[Nat.zero_mul,Nat.zero_add,hu]at this;obtain⟨b',off',hA',hc,_⟩:=h5 0 hn 0 u this.symm;rw[hA]at hA';injection hA' with hA';injection hA' with e1 e2;subst e1;subst e2
   exact World.block_lt_of_cell? w _ hc
  have hx:x<n*k:=by rw[<-hl];exact(List.getElem?_eq_some_iff.1 hu).1
  obtain⟨i,j,hi,hj,rfl⟩:=fW (cells:=cells) hx;rw[C7 h3 hi hj]at hu;obtain⟨b',off',hA',hc,_⟩:=h5 i hi j u hu;rw[hA]at hA';injection hA' with hA';injection hA' with e1 e2;subst e1;subst e2
  exact hc
theorem DO{m:Nat->Nat->Prop}{w:World}{g:Option Nat}{A:Option Addr}{n c k:Nat}{cells:Nat->List AV}(h:Ok m w (.sl g A n c k cells)):∀u∈j6 cells n,u.oneCell'=true:=by
 cases h with
 |sl _ _ _ _ _ _ h1 h2 h3 h4 h5 h6 h7=>
  intro u hu;simp only[j6,List.mem_flatMap,List.mem_range,List.mem_map]at hu;obtain⟨i,hi,v,hv,rfl⟩:=hu;exact qe (h6 i hi v hv)
def D3(n:Nat)(f g:Nat->List AV):Nat->List AV:=fun i=>if i<n then f i else g (i-n)
theorem iu(f g:Nat->List AV)(n:Nat):∀j,j<=n->j6 (D3 n f g) j=j6 f j
 |0,_=>by simp[j6]
 |j+1,h=>by
  rw[I3,I3,iu f g n j (by omega)];simp only[D3];rw[if_pos (by omega)]
theorem cz(f g:Nat->List AV)(n:Nat):∀m,j6 (D3 n f g) (n+m)=j6 f n++j6 g m
 |0=>by
  rw[Nat.add_zero,iu f g n n (Nat.le_refl _)];simp[j6]
 |m+1=>by
  rw[<-Nat.add_assoc,I3,cz f g n m,I3,List.append_assoc];simp only[D3];rw[if_neg (by omega)];simp
theorem N5{w:World}{B:Nat}{e:TypeId}{k:Nat}{v:Value}{n:Nat}{xs:List Value}(h:Own w B e k v n xs){b:Nat}(hb:B4 v=some b):∀j u,xs[j]? = some u->w.cell? ⟨b,j,none⟩=some u:=by
 intro j u hu
 rcases h.2 with⟨rfl,A,rfl⟩|⟨g,cap,cur,rfl,O,hg,h1,hc0,hm,hs,ht⟩
 .cases A<;>simp[B4]at hb
 have:cap≠0:=by omega
 simp[B4,this]at hb;subst hb;rw[cell_of_row w g j cur e (0,0) hg];rw[<-ht,List.getElem?_take]at hu
 split at hu
 .simpa using hu
 cases hu
theorem M2{w:World}{B:Nat}{e:TypeId}{k:Nat}{A:Option Addr}{n c:Nat}{xs:List Value}(h:Own w B e k (.slice A n c) n xs)(hn:0<n):∃b,A=some ⟨b,0,none⟩/\B4 (.slice A n c)=some b:=by
 rcases h.2 with⟨rfl,A',_⟩|⟨g,cap,cur,hv,O,hg,h1,hc0,hm,hs,ht⟩
 .omega
 injection hv with e1 e2 e3
 subst e1;subst e3;exact⟨g,rfl,by simp[B4];omega⟩
theorem i5.append{C:Cx}{s:St}{a:Act}{w:World}{P:Program}(h:i5 C s a w){key:Nat}{t:Gr}(ht:j7 s.gr key=some t){gx:Option Nat}{cells:Nat->List AV}(hx:Ok (s.m C) w (.sl gx t.A t.n t.c t.k cells))
  {g':Option Nat} {A':Option Addr} {n' c':Nat} {cells':Nat->List AV} (hy:Ok (s.m C) w (.sl g' A' n' c' t.k cells')) {tt bytes:Nat} {z:Value} (E:cN P tt t.e t.k bytes z) (ty:TypeId) (h63:t.n+n'<=maxLen) (hby:(t.n+n')*bytes<=140737488355328) :
  ∃A1 c1 w',(Builtin.append_ #[tt,tt] ty #[t.v,.slice A' n' c']).run P w = .ok (.slice A1 (t.n+n') c1) w'/\i5 C (s.eff (.grow key ⟨A1,t.n+n',c1,t.k,t.e⟩)) a w' ∧
   Ok ((s.eff (.grow key ⟨A1,t.n+n',c1,t.k,t.e⟩)).m C) w' (.sl (some key) A1 (t.n+n') c1 t.k (D3 t.n cells cells')):=by
 obtain⟨hk,xs,hown⟩:=h.gr key t ht;have hrow:=cQ hy;have hlen':(j6 cells' n').length=n'*t.k:=by
  cases hy with|sl _ _ _ _ _ _ h1 h2 h3 h4 h5 h6 h7=>exact D8 h3
 have hlen:(j6 cells t.n).length=t.n*t.k:=by
  cases hx with|sl _ _ _ _ _ _ h1 h2 h3 h4 h5 h6 h7=>exact D8 h3
 -- what the row holds is what is known of it
 have hxs:xs=j6 cells t.n:=by
  apply List.ext_getElem?;intro j
  by_cases hj:j<t.n*t.k
  .have hn:0<t.n:=by
    rcases Nat.eq_zero_or_pos t.n with h0|h0
    .rw [h0]at hj;simp at hj
    exact h0
   obtain⟨b,hA,hb⟩:=M2 hown hn;have hx':=cQ hx;obtain⟨b',off,hA',_,hcl⟩:=hx' (by rw[hlen];omega);rw[hA]at hA';injection hA' with hA';injection hA' with e1 e2;subst e1;subst e2
   have hjx:j<xs.length:=by rw[hown.1];exact hj
   have g1:xs[j]? = some xs[j]:=List.getElem?_eq_getElem hjx;have hjc:j<(j6 cells t.n).length:=by rw[hlen];exact hj
   have g2:(j6 cells t.n)[j]? = some (j6 cells t.n)[j]:=List.getElem?_eq_getElem hjc;have c1:=N5 hown hb j _ g1;have c2:=hcl j _ g2;rw[Nat.zero_add,c1]at c2;rw[g1,g2];exact c2
  rw[List.getElem?_eq_none (by rw[hown.1];omega),List.getElem?_eq_none (by rw[hlen];omega)]
 subst hxs;obtain⟨v',w',hrun,hown',hgr,hor⟩:=kH (P:=P) E ty hown A' n' c' (j6 cells' n') hlen' hrow (DO hy) h63 hby h.chg.size;obtain⟨A1,c1,rfl,hc1,hc2⟩:=hown'.isSlice;refine⟨A1,c1,w',hrun,?_⟩;have hlt:∀b,B4 t.v=some b->C.w0.heap.size<=b/\b<w.heap.size:=fun b hb=>hown.lt b hb
 have hothers:∀b,b<w.heap.size->B4 t.v≠some b->w'.heap[b]? = w.heap[b]?:=fun b hb hn=>hgr.block b hb (fun e=>hn e.symm)
 have hcell:∀b o u,w.cell? ⟨b,o,none⟩=some u-> ¬s.m C b o->w'.cell? ⟨b,o,none⟩=some u:=by
  intro b o u hc hm;have hb:=World.block_lt_of_cell? w _ hc
  by_cases hv:B4 t.v=some b
  .rcases hor with hor|⟨_,hor⟩
   .have ho:o<t.n*t.k:=by
     refine Nat.lt_of_not_le fun hle=>hm (.inr (.inr ⟨key,t,ht,hv,hle⟩))
    have hjc:o<(j6 cells t.n).length:=by rw[hlen];exact ho
    have g1:(j6 cells t.n)[o]? = some (j6 cells t.n)[o]:=List.getElem?_eq_getElem hjc;have e1:=N5 hown hv o _ g1;rw[hc]at e1;injection e1 with e1
    have e2:=N5 hown' (by rw[hor];exact hv) o u (by rw[List.getElem?_append_left (by rw[hlen];exact ho),g1,e1]);exact e2
   unfold World.cell? at hc ⊢;rw[hor b hb];exact hc
  unfold World.cell? at hc ⊢;rw[hothers b hb hv];exact hc
 have hm:∀b o,b<w.heap.size-> ¬s.m C b o-> ¬(s.eff (.grow key ⟨A1,t.n+n',c1,t.k,t.e⟩)).m C b o:=by
  intro b o hb hn hm
  rcases hm with hm|hm|⟨k',t',ht',hv,hm⟩
  .exact hn (.inl hm)
  .exact hn (.inr (.inl hm))
  rcases o3 ht' with⟨_,rfl⟩|⟨_,ht'⟩
  .rcases hor with hor|⟨hor,_⟩
   .have hv':B4 t.v=some b:=by rw[<-hor];exact hv
    refine hn (.inr (.inr ⟨key,t,ht,hv',?_⟩));have:=Nat.mul_le_mul_right t.k (Nat.le_add_right t.n n');simp only at hm;omega
   have hv':B4 (.slice A1 (t.n+n') c1)=some b:=hv;rw[hor]at hv';injection hv' with hv';omega
  exact hn (.inr (.inr ⟨k',t',ht',hv,hm⟩))
 have kp:cb w (s.m C) w' ((s.eff (.grow key ⟨A1,t.n+n',c1,t.k,t.e⟩)).m C):=⟨fun b o u h1 h2=>⟨hcell b o u h1 h2,hm b o (World.block_lt_of_cell? w _ h1) h2⟩,fun b o h1 h2=>by
  rw[hothers b (Array.getElem?_eq_some_iff.1 h1).1 fun hv=>?_]
  .exact h1
  obtain⟨c,t',f,hcl⟩:=hown.isCells hv;rw[hcl]at h1;exact h2 _ _ _ (Option.some.inj h1).symm⟩
 have mono:∀v,Ok (s.m C) w v->Ok ((s.eff (.grow key ⟨A1,t.n+n',c1,t.k,t.e⟩)).m C) w' v:=fun v hv=>kp.ok hv
 have hsepm:∀k e,j7 s.mem k=some e->B4 (.slice A1 (t.n+n') c1)≠some e.at_:=by
  intro k e he hv
  rcases hor with hor|⟨hor,_⟩
  .exact h.sepm key t k e ht he (by rw[<-hor];exact hv)
  rw[hor]at hv;injection hv with hv
  have:=F2 (h.mem k e he).1;omega
 have hsepg:∀k t',j7 s.gr k=some t'->key≠k->∀b,B4 (.slice A1 (t.n+n') c1)=some b->B4 t'.v≠some b:=by
  intro k t' ht' hne b hv
  rcases hor with hor|⟨hor,_⟩
  .exact h.sepg key t k t' b ht ht' hne (by rw[<-hor];exact hv)
  rw[hor]at hv;injection hv with hv;subst hv
  intro hv';obtain⟨_,xs',ho'⟩:=h.gr k t' ht';have:=(ho'.lt _ hv').2;omega
 refine⟨⟨h.size,h.defers,fun t ht=>⟨(h.slot t ht).1,mono _ (h.slot t ht).2⟩,fun t p v he hk=>⟨fun hp=>⟨((h.gs t p v he hk).1 hp).1,mono _ ((h.gs t p v he hk).1 hp).2⟩,(h.gs t p v he hk).2⟩,?_,h.nodup,?_,?_,?_,?_,h.m0,C.K.st kp h.kept⟩,?_⟩
 .intro k e he
  obtain⟨h1,h2,h3⟩:=h.mem k e he;exact⟨(hothers _ (F2 h1) (h.sepm key t k e ht he)).trans h1,fun v hv=>⟨(h2 v hv).1,mono _ (h2 v hv).2⟩,h3⟩
 .intro k t' ht'
  rcases o3 ht' with⟨_,rfl⟩|⟨hne,ht'⟩
  .exact ⟨hk,_,hown'⟩
  obtain⟨h1,xs',h2⟩:=h.gr k t' ht';refine⟨h1,xs',h2.keep fun b hb=>hothers b (h2.lt b hb).2 fun hv=>h.sepg key t k t' b ht ht' (fun e=>hne e.symm) hv hb⟩
 .intro k t' k' e ht' he
  rcases o3 ht' with⟨_,rfl⟩|⟨_,ht'⟩
  .exact hsepm k' e he
  exact h.sepm k t' k' e ht' he
 .intro k1 t1 k2 t2 b h1 h2 hne hv hv'
  rcases o3 h1 with⟨e1,rfl⟩|⟨e1,h1⟩
  .rcases o3 h2 with⟨e2,_⟩|⟨e2,h2⟩
   .exact hne (e1.trans e2.symm)
   exact hsepg k2 t2 h2 (fun e=>e2 e.symm) b hv hv'
  rcases o3 h2 with⟨e2,rfl⟩|⟨e2,h2⟩
  .exact hsepg k1 t1 h1 (fun e=>e1 e.symm) b hv' hv
  exact h.sepg k1 t1 k2 t2 b h1 h2 hne hv hv'
 .exact h.chg.trans (Chg.of_grown hgr) fun k hk e=>by
   have:=(hlt k e).1;omega
 have lenapp:∀i,i<t.n+n'->(D3 t.n cells cells' i).length=t.k:=by
  intro i hi;simp only[D3]
  split
  .cases hx with|sl _ _ _ _ _ _ h1 h2 h3 h4 h5 h6 h7=>exact h3 i ‹_›
  cases hy with|sl _ _ _ _ _ _ h1 h2 h3 h4 h5 h6 h7=>exact h3 _ (by omega)
 have elems:∀i,i<t.n+n'->∀v∈D3 t.n cells cells' i,v.one=true/\Ok (s.m C) w v:=by
  intro i hi v hv;simp only[D3]at hv
  split at hv
  .cases hx with|sl _ _ _ _ _ _ h1 h2 h3 h4 h5 h6 h7=>exact⟨h6 i ‹_› v hv,h7 i ‹_› v hv⟩
  cases hy with|sl _ _ _ _ _ _ h1 h2 h3 h4 h5 h6 h7=>exact⟨h6 _ (by omega) v hv,h7 _ (by omega) v hv⟩
 refine .sl _ _ _ _ _ _ hc1 hc2 lenapp (fun i hi=>?_) (fun i hi=>?_) (fun i hi v hv=>(elems i hi v hv).1) (fun i hi v hv=>mono _ (elems i hi v hv).2)
 .obtain ⟨b,hA,_⟩:=M2 hown' (by omega)
  exact⟨b,0,hA⟩
 obtain⟨b,hA,hb⟩:=M2 hown' (by omega);intro j u hu;have hj:j<t.k:=by
  have:=(List.getElem?_eq_some_iff.1 hu).1
  rwa[List.length_map,lenapp i hi]at this
 have hget:=C7 (cells:=D3 t.n cells cells') lenapp hi hj;rw[cz,hu]at hget;refine⟨b,0,hA,?_,?_⟩
 .rw [Nat.zero_add];exact N5 hown' hb _ u hget
 intro hmm;have ho:i*t.k+j<(t.n+n')*t.k:=by
  have:=Nat.mul_le_mul_right t.k (show i+1<=t.n+n' by omega)
  rw[Nat.add_mul,Nat.one_mul]at this;omega
 have hbB:=(hown'.lt b hb).1
 rcases hmm with hmm|⟨k,e,he,hmm⟩|⟨k',t',ht',hv,hmm⟩
 .have:=h.m0 _ _ hmm;omega
 .exact hsepm k e he (by rw[hmm];exact hb)
 rcases o3 ht' with⟨_,rfl⟩|⟨hne,ht'⟩
 .simp only at hmm;omega
 exact hsepg k' t' ht' (fun e=>hne e.symm) b hb hv
structure j8 where
 b:Nat
 A:Nat->Option Addr
 c:Nat->Nat
 s:Nat->ByteArray
structure Alg where
 arith:BinOp->IntKind->Int->Int->Int
 cmp:BinOp->Int->Int->Bool
 scmp:BinOp->ByteArray->ByteArray->Bool
 bcmp:BinOp->Bool->Bool->Bool
 aeq:List AV->List AV->Bool
 not:Bool->Bool
 ite:Bool->Bool->Bool->Bool
 conv:IntKind->Int->Int
 toNat:Int->Nat
 ofNat:Nat->Int
 slen:ByteArray->Nat
 cat:ByteArray->ByteArray->ByteArray
 shift:BinOp->IntKind->Int->Int->Int
 div:BinOp->IntKind->Int->Int->Int
 nadd:Nat->Nat->Nat
 nsub:Nat->Nat->Nat
 adr:Option Addr->Nat->Nat->Nat->Option Addr
 app:Nat->(Nat->List AV)->(Nat->List AV)->Nat->List AV
 from_:Nat->(Nat->List AV)->Nat->List AV
 ssub:ByteArray->Nat->Nat->ByteArray
 sat:ByteArray->Nat->Int
 bstr:Nat->(Nat->List AV)->ByteArray
 ich:Bool->Int->Int->Int
structure CR where
 v:AV
 sets:List (Nat×List AV)
 news:List (Nat×Blk)
inductive CS where
 |r (f:j8->AV)
 |x (f:j8->CR)
 |g (keys:List Nat) (f:j8->AV)
def eqC:AV->AV->Bool
 | .int _ x,.int _ y=>x==y
 | .bool x,.bool y=>x.den==y.den
 | .str x,.str y=>x==y
 |_,_=>false
def eqL:List AV->List AV->Bool
 |x::l,y::r=>eqC x y&&eqL l r
 |_,_=>true
def j0:BinOp->IntKind->Int->Int->Int
 | .add,k,x,y=>k.wrap (x+y)
 | .sub,k,x,y=>k.wrap (x-y)
 | .mul,k,x,y=>k.wrap (x*y)
 | .and,k,x,y=>k.wrap (BitVec.ofInt k.bits x &&& BitVec.ofInt k.bits y).toNat
 | .or,k,x,y=>k.wrap (BitVec.ofInt k.bits x ||| BitVec.ofInt k.bits y).toNat
 | .xor,k,x,y=>k.wrap (BitVec.ofInt k.bits x ^^^ BitVec.ofInt k.bits y).toNat
 | .andNot,k,x,y=>k.wrap (BitVec.ofInt k.bits x &&& ~~~BitVec.ofInt k.bits y).toNat
 |_,_,_,_=>0
def d4:BinOp->Int->Int->Bool
 | .eql,x,y=>x==y
 | .neq,x,y=>x != y
 | .lss,x,y=>decide (x<y)
 | .leq,x,y=>decide (x<=y)
 | .gtr,x,y=>decide (x>y)
 | .geq,x,y=>decide (x ≥ y)
 |_,_,_=>false
def kV:BinOp->ByteArray->ByteArray->Bool
 | .eql,x,y=>x.toList==y.toList
 | .neq,x,y=>!(x.toList==y.toList)
 | .lss,x,y=>Op.bytesLess x.toList y.toList
 | .leq,x,y=>Op.bytesLess x.toList y.toList||x.toList==y.toList
 | .gtr,x,y=>!(Op.bytesLess x.toList y.toList||x.toList==y.toList)
 | .geq,x,y=>!Op.bytesLess x.toList y.toList
 |_,_,_=>false
def s3:BinOp->IntKind->Int->Int->Int
 | .shl,k,x,y=>k.wrap (x*2^(min y.toNat k.bits))
 |_,k,x,y=>x.fdiv (2^(min y.toNat k.bits))
def jv:BinOp->IntKind->Int->Int->Int
 | .quo,k,x,y=>k.wrap (x.tdiv y)
 |_,_,x,y=>x.tmod y
def R0(A:Option Addr)(c l k:Nat):Option Addr:=if c=l then A else A.map (·.add (l*k))
def Bv(l:Nat)(f:Nat->List AV):Nat->List AV:=fun i=>f (l+i)
def C9(k:Nat)(cs:List AV)(i:Nat):List AV:=(cs.drop (i*k)).take k
def qS:List AV->UInt8
 | [.int _ x]=>UInt8.ofNat x.toNat
 |_=>0
def eP(n:Nat)(cells:Nat->List AV):ByteArray:=(List.range n).foldl (fun s i=>s.push (qS (cells i))) .empty
def std:Alg where
 arith:=j0
 cmp:=d4
 scmp:=kV
 bcmp:=fun op x y=>match op with| .eql=>x==y|_=>!(x==y)
 aeq:=eqL
 not:=fun x=>!x
 ite:=fun c x y=>if c then x else y
 conv:=fun k x=>k.wrap x
 toNat:=Int.toNat
 ofNat:=fun n=>(n:Int)
 slen:=ByteArray.size
 cat:=fun x y=>x++y
 shift:=s3
 div:=jv
 nadd:=fun x y=>x+y
 nsub:=fun x y=>x-y
 adr:=R0
 app:=D3
 from_:=Bv
 ssub:=fun s l h=>s.extract l h
 sat:=fun s i=>((s[i]?.getD 0).toNat:Int)
 bstr:=eP
 ich:=fun c x y=>if c then x else y
structure TI where
 size:Nat
 agg:Bool
 zero:List AV
 fields:List (Nat×Nat×Bool)
 elem:Option (Nat×Nat)
 str:Bool
 bool:Bool
 ebytes:Nat
 int:Option IntKind
 ptr:Bool
 itf:Bool
 bytes:Bool
 arr:Option (Nat×Nat×Bool)
def G5:List (Nat×TI)->Nat->Option TI
 | [],_=>none
 |(k,v)::l,n=>if k==n then some v else G5 l n
structure C6(P:Program)(t:Nat)(i:TI):Prop where
 size:∀w,(sizeOf t).run P w = .ok i.size w
 agg:∀w,(isAgg t).run P w = .ok i.agg w
 zero:∃z:Value,(∀w,(zeroValue t).run P w = .ok z w)/\z.cells=(i.zero.map AV.den).toArray/\(∀v∈i.zero,v.one=true/\∀m w,Ok m w v)
 fields:∀(f:Nat) (x:Nat×Nat×Bool),i.fields[f]? = some x->∃fs,P.underlying t=some (.struct fs)/\∃fd:Field,fs[f]? = some fd/\fd.offset=x.1/\(∀w,(sizeOf fd.type).run P w = .ok x.2.1 w)/\x.2.1≠0/\∀w,(isAgg fd.type).run P w = .ok x.2.2 w
 places:i.fields.isEmpty=false->∃(fs:Array Field) (places:Array (Nat×Nat)),P.underlying t=some (.struct fs)/\(∀w,(fs.mapM fun f=>do pure (f.offset,<-sizeOf f.type):Sem (Array (Nat×Nat))).run P w = .ok places w)/\∀(f:Nat) (x:Nat×Nat×Bool),i.fields[f]? = some x->places[f]? = some (x.1,x.2.1)
 elem:∀e k,i.elem=some (e,k)->P.underlying t=some (.slice e)/\∀w,(sizeOf e).run P w = .ok k w
 str:i.str=true->P.underlying t=some .string
 bool:i.bool=true->P.underlying t=some .bool
 elty:∀e k,i.elem=some (e,k)->i.ebytes≠0->∃z,cN P t e k i.ebytes z
 int:∀k,i.int=some k->P.underlying t=some (.int k)
 ptr:i.ptr=true->∃e,P.underlying t=some (.pointer e)
 itf:i.itf=true->∃ms,P.underlying t=some (.interface ms)
 conc:i.itf=false->∃d,P.underlying t=some d/\∀ms,d ≠ .interface ms
 bytes:i.bytes=true->∃e,P.underlying t=some (.slice e)/\P.underlying e=some (.int .u8)
 arr:∀n s g,i.arr=some (n,s,g)->∃e,P.underlying t=some (.array n e)/\(∀w,(sizeOf e).run P w = .ok s w)/\∀w,(isAgg e).run P w = .ok g w
def o7(P:Program)(T:List (Nat×TI)):Prop:=∀e∈T,C6 P e.1 e.2
theorem o5{P:Program}{T:List (Nat×TI)}(h:o7 P T){t:Nat}{i:TI}(hl:G5 T t=some i):C6 P t i:=by
 have:(t,i)∈T:=by
  clear h
  induction T with
  |nil=>simp[G5]at hl
  |cons x l ih=>
   obtain⟨k,v⟩:=x;simp only[G5]at hl
   split at hl
   .rename_i hk;simp at hk hl;subst hk;subst hl;simp
   exact List.mem_cons_of_mem _ (ih hl)
 exact h _ this
inductive Ob where
 |eqN (a b:Nat)
 |idx (i:Int) (n:Nat)
 |sli (lo hi:Int) (n:Nat)
 |ne0 (x:Int)
 |nn (x:Int)
 |cat (x y:ByteArray)
 |eqT (t:Gr) (A:Option Addr) (n c:Nat)
 |room (n b:Nat)
 |eql (t:Nat) (x y:List AV)
 |sl3 (lo hi mx:Int) (n c:Nat)
 |bytes (n:Nat) (cells:Nat->List AV)
 |call (f:Nat) (args:List AV) (res:j8->AV)
 |callX (f:Nat) (args:List AV) (pre:List (Nat×Blk)) (res:j8->CR)
 |callR (f:Nat) (args:List AV) (pre:List (Nat×Blk)) (res:j8->AV)
 |und (c:List (BE×Bool)) (o:Ob)
 |pr (p:Prop)
 |look (t:Nat) (ok:Bool) (mv xv v:AV)
def k9(P:Program)(f:FuncId)(args:List AV)(res:j8->AV):Prop:=
 ∀(m:Nat->Nat->Prop) (w:World),(∀b o,m b o->b<w.heap.size)->(∀v∈args,Ok m w v) →
  Calls P f (args.map AV.den).toArray w fun e w'=>∃x,e = .returned (res x).den/\Ok m w' (res x)/\Below w.heap.size w w'
def Z9(m:Nat->Nat->Prop)(w:World)(pre:List (Nat×Blk))(res:j8->CR)(e:Ending)(w':World):Prop:=
 ∃x,e = .returned (res x).v.den/\Ok (mN m (res x).news) w' (res x).v/\js m w w' pre (res x).sets (res x).news
def C1(P:Program)(f:FuncId)(args:List AV)(pre:List (Nat×Blk))(res:j8->CR):Prop:=
 ∀(m:Nat->Nat->Prop) (w:World),(∀b o,m b o->b<w.heap.size)->(∀v∈args,Ok m w v)->R1 m w pre->Calls P f (args.map AV.den).toArray w (Z9 m w pre res)
def l8(P:Program)(f:FuncId):Prop:=∀args w,(callFunc f args).run P w = .ok (.enter f args) w
def HG(P:Program)(K:Kn)(f:FuncId)(args:List AV)(pre:List (Nat×Blk))(res:j8->AV):Prop:=
 ∀(m:Nat->Nat->Prop) (w:World),(∀b o,m b o->b<w.heap.size)->(∀v∈args,Ok m w v)->R1 m w pre->K.p m w →
  Calls P f (args.map AV.den).toArray w fun e w'=>∃x,e = .returned (res x).den/\Ok m w' (res x)/\Below w.heap.size w w'
def Ob.holds(P:Program)(K:Kn):Ob->Prop
 | .eqN a b=>a=b
 | .idx i n=>0<=i/\i<(n:Int)
 | .sli lo hi n=>0<=lo/\lo<=hi/\hi<=(n:Int)
 | .ne0 x=>x≠0
 | .nn x=>0<=x
 | .cat x y=>x.size+y.size<=maxLen
 | .eqT t A n c=>t.A=A/\t.n=n/\t.c=c
 | .room n b=>n<=maxLen/\n*b<=140737488355328
 | .eql t x y=>∀(w:World) (o1 o2:Operand),
   (do eqGuard .eql t o1 o2 (.agg (x.map AV.den).toArray) (.agg (y.map AV.den).toArray);binOp .eql t (.agg (x.map AV.den).toArray) (.agg (y.map AV.den).toArray)).run P w = .ok (.bool (eqL x y)) w ∧
   (do eqGuard .neq t o1 o2 (.agg (x.map AV.den).toArray) (.agg (y.map AV.den).toArray);binOp .neq t (.agg (x.map AV.den).toArray) (.agg (y.map AV.den).toArray)).run P w = .ok (.bool (!eqL x y)) w
 | .sl3 lo hi mx n c=>0<=lo/\lo<=hi/\hi<=mx/\mx<=(c:Int)/\hi<=(n:Int)
 | .bytes n cells=>∀i,i<n->∃x,cells i=[.int .u8 x]
 | .call f args res=>l8 P f/\k9 P f args res
 | .callX f args pre res=>l8 P f/\C1 P f args pre res
 | .callR f args pre res=>l8 P f/\HG P K f args pre res
 | .und c o=>(∀e∈c,e.1.den=e.2)->o.holds P K
 | .pr p=>p
 | .look t ok mv xv v=>∀(m:Nat->Nat->Prop) (w:World),K.p m w->(Instr.lookup t mv.den xv.den ok).run P w = .ok v.den w/\Ok m w v
def rZ:Value->AV
 | .int k n=>.int k n
 | .bool true=>.bool .tt
 | .bool false=>.bool .ff
 | .string s=>if s.size<=65536 then .str s else .undef
 | .pointer none=>.nilp
 | .nilIface=>.nili
 | .slice none 0 0=>.sl none none 0 0 0 (fun _=>[])
 |v=>.raw v
def val(s:St)(q:List (Nat×Bool)):Operand->AV
 | .tmp t=>match M4 s.gs t with
  |some (p,v)=>if Dp p q then v else .undef
  |none=>look s.tmps t
 | .const v=>rZ v
 | .func f=>.fn f [] []
 | .global _=>.undef
def wj:BinOp->Bool
 | .eql| .neq| .lss| .leq| .gtr| .geq=>true
 |_=>false
def wl:BinOp->Bool
 | .add| .sub| .mul| .and| .or| .xor| .andNot=>true
 |_=>false
def pJ(A:Alg)(T:List (Nat×TI))(op:BinOp)(t:Nat):AV->AV->Option (AV×Eff×List Ob)
 | .int k x,.int k' y=>if op = .shl \/ op = .shr then some (.int k (A.shift op k x y),.no,[.nn y])else if k=k' then(if op = .quo \/ op = .rem then some (.int k (A.div op k x y),.no,[.ne0 y])else if wj op then some (.bool (.v (A.cmp op x y)),.no,[])else if wl op then some (.int k (A.arith op k x y),.no,[])else none)else none
 | .str x,.str y=>if op = .add then some (.str (A.cat x y),.no,[.cat x y])else if wj op then some (.bool (.v (A.scmp op x y)),.no,[])else none
 | .bool x,.bool y=>match op,G5 T t with
  | .eql,some ti=>if ti.bool then some (.bool (.v (A.bcmp .eql x.den y.den)),.no,[])else none
  | .neq,some ti=>if ti.bool then some (.bool (.v (A.bcmp .neq x.den y.den)),.no,[])else none
  |_,_=>none
 | .ptr _ _ _,.nilp=>match op,G5 T t with
  | .eql,some ti=>if ti.ptr then some (.bool .ff,.no,[])else none
  | .neq,some ti=>if ti.ptr then some (.bool .tt,.no,[])else none
  |_,_=>none
 | .nilp,.nilp=>match op,G5 T t with
  | .eql,some ti=>if ti.ptr then some (.bool .tt,.no,[])else none
  | .neq,some ti=>if ti.ptr then some (.bool .ff,.no,[])else none
  |_,_=>none
 | .ifc _ _,.nili=>match op,G5 T t with
  | .eql,some ti=>if ti.itf then some (.bool .ff,.no,[])else none
  | .neq,some ti=>if ti.itf then some (.bool .tt,.no,[])else none
  |_,_=>none
 | .agg x,.agg y=>match op with
  | .eql=>some (.bool (.v (A.aeq x y)),.no,[.eql t x y])
  | .neq=>some (.bool (.v (A.not (A.aeq x y))),.no,[.eql t x y])
  |_=>none
 |_,_=>none
def pick(A:Alg):BE->AV->AV->Option AV
 | .tt,a,_=>if a.known then some a else none
 | .ff,_,b=>if b.known then some b else none
 | .v c,.bool a,.bool b=>some (.bool (.v (A.ite c a.den b.den)))
 |_,_,_=>none
def cut(cells:List AV)(off:Nat)(n:Nat)(agg:Bool):Option AV:=
 if agg then(if off+n<=cells.length then some (.agg ((cells.drop off).take n))else none)else cells[off]?
def vP:List (Nat×CS)->Nat->Option CS
 | [],_=>none
 |(k,v)::l,n=>if k==n then some v else vP l n
def dL:AV->Bool
 | .agg _=>true
 |_=>false
def cJ(fields:List (Nat×Nat×Bool))(cells:List AV):List (Nat×AV)->Option (List AV)
 | []=>some cells
 |(f,v)::rest=>match fields[f]? with
  |none=>none
  |some (off,n,_)=>if v.cells.length=n/\off+n<=cells.length/\(v.one||dL v)=true then cJ fields (cells.take off++v.cells++cells.drop (off+n)) rest else none
def Y3(s:St)(q:List (Nat×Bool)):List Operand->Option (List AV)
 | []=>some []
 |x::l=>if(val s q x).known then(Y3 s q l).map ((val s q x) :: ·)else none
def ib(s:St)(q:List (Nat×Bool)):List (Nat×Operand)->Option (List (Nat×AV))
 | []=>some []
 |(i,x)::l=>if(val s q x).known then(ib s q l).map ((i,val s q x) :: ·)else none
def Bo:Operand->Bool
 | .const (.slice none 0 0)=>true
 |_=>false
def uw:AV->Bool
 | .sl none none 0 0 _ _=>true
 |_=>false
def places(k:Nat):Nat->Nat->List (Nat×Nat×Bool)
 |_,0=>[]
 |off,n+1=>(off,k,false)::places k (off+k) n
def eQ(z:List AV):Nat->List AV
 |0=>[]
 |n+1=>z++eQ z n
def aX(s:St):List (Nat×List AV)->Option (List (Nat×Blk))
 | []=>some []
 |(k,_)::l=>match j7 s.mem k,aX s l with
  |some b,some r=>some ((k,b)::r)
  |_,_=>none
def dE:List (Nat×Blk)->Bool
 | []=>true
 |(k,_)::l=>l.all (fun y=>!(y.1==k))&&dE l
def aD(s:St)(x:j8):AV->Option CS->Option (List AV)->Option (AV×Eff×List Ob)
 | .fn f l r,some (.r res),some a=>some (res x,.no,[.call f (l++a++r) res])
 | .fn f l r,some (.x res),some a=>match aX s (res x).sets with
  |some pre=>if dE pre then some ((res x).v,.sets (upd pre (res x).sets++(res x).news),[.callX f (l++a++r) pre res])else none
  |none=>none
 | .fn f l r,some (.g ks res),some a=>match aX s (ks.map fun k=>(k,[]))with
  |some pre=>if dE pre then some (res x,.rd ks,[.callR f (l++a++r) pre res])else none
  |none=>none
 |_,_,_=>none
def qu:Operand->Bool
 | .const .nilIface=>true
 |_=>false
def pI(T:List (Nat×TI))(op:BinOp)(t:Nat)(b:Operand):Option (AV×Eff×List Ob):=
 if qu b then(match op,G5 T t with
  | .eql,some ti=>if ti.itf then some (.bool .tt,.no,[])else none
  | .neq,some ti=>if ti.itf then some (.bool .ff,.no,[])else none
  |_,_=>none)else none
def pH(A:Alg)(T:List (Nat×TI))(op:BinOp)(t:Nat)(c:Bool)(b:Operand):Option (AV×Eff×List Ob):=
 if qu b then(match op,G5 T t with
  | .eql,some ti=>if ti.itf then some (.bool (.v (A.not c)),.no,[])else none
  | .neq,some ti=>if ti.itf then some (.bool (.v c),.no,[])else none
  |_,_=>none)else none
def He:AV->Option Bool
 | .opt b _ _=>some b
 |_=>none
def Bn:AV->Bool
 | .nili=>true
 |_=>false
def J3(A:Alg)(s:St)(q:List (Nat×Bool))(dflt:Int):Option Operand->Option Int
 |none=>some dflt
 |some o=>match val s q o with
  | .int _ j=>some j
  |_=>none
def Q2(A:Alg)(T:List (Nat×TI))(x:j8)(s:St)(d t1:Nat)(v1 v2:AV):Option (AV×Eff×List Ob):=
 match v1,v2,G5 T t1 with
 | .sl g A1 n c k cells,.sl _ A2 n' c' k' cells',some ti=>match ti.elem with
  |some (e,ek)=>if k'=ek/\ti.ebytes≠0 then
    (match g with
     |some key=>match j7 s.gr key with
      |some t=>if k=ek/\t.k=ek/\t.e=e then some (.sl (some key) (x.A 0) (A.nadd n n') (x.c 0) ek (A.app n cells cells'),.grow key ⟨x.A 0,A.nadd n n',x.c 0,ek,e⟩,[.eqT t A1 n c,.room (A.nadd n n') ti.ebytes])else none
      |none=>none
     |none=>if uw v1 then some (.sl (some d) (x.A 0) n' (x.c 0) ek cells',.grow d ⟨x.A 0,n',x.c 0,ek,e⟩,[.room n' ti.ebytes])else none)
    else none
  |none=>none
 |_,_,_=>none
def C4(A:Alg)(T:List (Nat×TI))(cs:List (Nat×CS))(x:j8)(i:Nat)(s:St)(q:List (Nat×Bool))(d ty:Nat):Op->Option (AV×Eff×List Ob)
 | .move o=>if(val s q o).known then some (val s q o,.no,[])else none
 | .makeFunc fn first cap=>match Y3 s q first.toList,Y3 s q cap.toList with
  |some l,some r=>match fn with
   | .func f=>some (.fn f l r,.no,[])
   |_=>none
  |_,_=>none
 | .lookup t mo xo ok=>match vP cs i with
  |some (.r f)=>if(val s q mo).known&&(val s q xo).known then some (f x,.no,[.look t ok (val s q mo) (val s q xo) (f x)])else none
  |_=>none
 | .makeInterface t o=>match G5 T t with
  |some ti=>if ti.itf then none else if(val s q o).known then some (.ifc t (val s q o),.no,[])else none
  |none=>none
 | .nilCheck o=>match val s q o with
  | .ptr k b off=>some (.ptr k b off,.no,[])
  | .fn f l r=>some (.fn f l r,.no,[])
  | .ep A' i k off cells=>some (.ep A' i k off cells,.no,[])
  |_=>none
 | .assign o=>if Bo o then(match G5 T ty with
   |some ti=>match ti.elem with
    |some (e,k)=>if k=0 then none else some (.sl (some d) none 0 0 k (fun _=>[]),.grow d ⟨none,0,0,k,e⟩,[])
    |none=>none
   |none=>none)else if(val s q o).known then some (val s q o,.no,[])else none
 | .pick (.tmp c) a b=>match val s q (.tmp c)with
  | .bool e=>(pick A e (val s ((c,true)::q) a) (val s ((c,false)::q) b)).map fun v=>(v,.no,[])
  |_=>none
 | .alloc t=>match G5 T t with
  |some ti=>some (.ptr d x.b 0,.new d ⟨x.b,t,ti.zero⟩,[])
  |none=>none
 | .box t o=>if(val s q o).one||dL (val s q o)then some (.ptr d x.b 0,.new d ⟨x.b,t,(val s q o).cells⟩,[])else none
 | .build t parts=>match G5 T t,ib s q parts.toList with
  |some ti,some l=>if ti.fields.isEmpty then(match ti.arr with
   |some (n,sz,_)=>(cJ (places sz 0 n) ti.zero l).map fun cs=>(.agg cs,.no,[])
   |none=>none)else(cJ ti.fields ti.zero l).map fun cs=>(.agg cs,.no,[])
  |_,_=>none
 | .buildSlice t n parts=>match G5 T t,ib s q parts.toList with
  |some ti,some l=>match ti.elem with
   |some (e,k)=>match G5 T e with
    |some te=>if n*k=0 \/ te.zero.length≠k \/ ¬n*k<=4096 then none else(cJ (places k 0 n) (eQ te.zero n) l).map fun cs=>if q.isEmpty then(.sl (some d) (some ⟨x.b,0,none⟩) n n k (C9 k cs),.grow d ⟨some ⟨x.b,0,none⟩,n,n,k,e⟩,[])else(.sl none (some ⟨x.b,0,none⟩) n n k (C9 k cs),.no,[])
    |none=>none
   |none=>none
  |_,_=>none
 | .load t p=>match val s q p,G5 T t with
  | .ptr key b off,some ti=>match j7 s.mem key with
   |some blk=>(cut blk.cells off ti.size ti.agg).map fun v=>(v,.no,[.eqN blk.at_ b])
   |none=>none
  | .ep _ _ _ off cells,some ti=>(cut cells off ti.size ti.agg).map fun v=>(v,.no,[])
  |_,_=>none
 | .store t p o=>match val s q p,G5 T t with
  | .ptr key b off,some ti=>match j7 s.mem key with
   |some blk=>if(val s q o).cells.length=ti.size/\off+ti.size<=blk.cells.length/\((val s q o).one||dL (val s q o))=true then
     some (.undef,.set key ⟨blk.at_,blk.ty,blk.cells.take off++(val s q o).cells++blk.cells.drop (off+ti.size)⟩,[.eqN blk.at_ b])else none
   |none=>none
  |_,_=>none
 | .fieldAddr t p f=>match val s q p,G5 T t with
  | .ptr key b off,some ti=>(ti.fields[f]?).map fun y=>(.ptr key b (off+y.1),.no,[])
  | .ep A' j k off cells,some ti=>(ti.fields[f]?).map fun y=>(.ep A' j k (off+y.1) cells,.no,[])
  |_,_=>none
 | .field t o f=>match val s q o,G5 T t with
  | .agg l,some ti=>match ti.fields[f]? with
   |some (off,n,agg)=>(cut l off n agg).map fun v=>(v,.no,[])
   |none=>none
  |_,_=>none
 | .indexAddr t p ix=>match val s q p,val s q ix,G5 T t with
  | .sl _ A' n c k cells,.int _ j,some ti=>match ti.elem with
   |some (_,ek)=>if ek=k then some (.ep A' (A.toNat j) k 0 (cells (A.toNat j)),.no,[.idx j n])else none
   |none=>none
  | .ptr key b off,.int _ j,some ti=>match ti.arr with
   |some (n,sz,_)=>some (.ptr key b (off+j.toNat*sz),.no,[.idx j n])
   |none=>none
  |_,_,_=>none
 | .index t p ix=>match val s q p,val s q ix,G5 T t with
  | .str y,.int _ j,some ti=>if ti.str then some (.int .u8 (A.sat y (A.toNat j)),.no,[.idx j (A.slen y)])else none
  | .agg l,.int _ j,some ti=>match ti.arr with
   |some (n,sz,g)=>(cut l (j.toNat*sz) sz g).map fun v=>(v,.no,[.idx j n])
   |none=>none
  |_,_,_=>none
 | .slice t p lo hi none=>match val s q p,G5 T t with
  | .str y,some ti=>match J3 A s q 0 lo,J3 A s q (A.ofNat (A.slen y)) hi with
   |some l,some h=>if ti.str then some (.str (A.ssub y (A.toNat l) (A.toNat h)),.no,[.sli l h (A.slen y)])else none
   |_,_=>none
  | .sl _ A1 n c k cells,some ti=>match ti.elem with
   |some (_,ek)=>if ek=k then(match J3 A s q 0 lo,J3 A s q (A.ofNat n) hi with
    |some l,some h=>some (.sl none (A.adr A1 c (A.toNat l) k) (A.nsub (A.toNat h) (A.toNat l)) (A.nsub c (A.toNat l)) k (A.from_ (A.toNat l) cells),.no,[.sli l h n])
    |_,_=>none)else none
   |none=>none
  |_,_=>none
 | .extract o n=>match val s q o with
  | .tup l=>(l[n]?).map fun v=>(v,.no,[])
  |_=>none
 | .slice t p lo hi (some mx)=>match val s q p,G5 T t with
  | .sl _ A1 n c k cells,some ti=>match ti.elem with
   |some (_,ek)=>if ek=k then(match J3 A s q 0 lo,hi,J3 A s q 0 hi,J3 A s q 0 (some mx)with
    |some l,some _,some h,some m=>some (.sl none (A.adr A1 (A.toNat m) (A.toNat l) k) (A.nsub (A.toNat h) (A.toNat l)) (A.nsub (A.toNat m) (A.toNat l)) k (A.from_ (A.toNat l) cells),.no,[.sl3 l h m n c])
    |_,_,_,_=>none)else none
   |none=>none
  |_,_=>none
 | .binOp op t a b _=>match He (val s q a)with
  |some c=>pH A T op t c b
  |none=>if Bn (val s q a)then pI T op t b else pJ A T op t (val s q a) (val s q b)
 | .convert t t' o=>match val s q o,G5 T t,G5 T t' with
  | .int _ j,some ti,some ti'=>match ti.int,ti'.int with
   |some _,some k=>some (.int k (A.conv k j),.no,[])
   |_,_=>none
  | .sl _ _ n _ k cells,some ti,some ti'=>if ti.bytes&&ti'.str&&k==1 then some (.str (A.bstr n cells),.no,[.bytes n cells])else none
  |_,_,_=>none
 | .unOp op _ a=>match op,val s q a with
  | .not,.bool .tt=>some (.bool .ff,.no,[])
  | .not,.bool .ff=>some (.bool .tt,.no,[])
  | .not,.bool (.v b)=>some (.bool (.v (A.not b)),.no,[])
  |_,_=>none
 | .call c=>match c.callee with
  | .builtin .len=>match c.args.toList,c.argTypes.toList with
   | [o],[t]=>match val s q o,G5 T t with
    | .str x,some ti=>if ti.str then some (.int .i64 (A.ofNat (A.slen x)),.no,[])else none
    | .sl _ _ n _ _ _,some ti=>match ti.elem with
     |some _=>some (.int .i64 (A.ofNat n),.no,[])
     |none=>none
    |_,_=>none
   |_,_=>none
  | .builtin .append=>match c.args.toList,c.argTypes.toList with
   | [o1,o2],[t1,t2]=>if t1=t2 then Q2 A T x s d t1 (val s q o1) (val s q o2)else none
   |_,_=>none
  | .builtin .min=>match c.args.toList with
   | [o1,o2]=>match val s q o1,val s q o2 with
    | .int k x,.int _ y=>some (.int k (A.ich (A.cmp .lss y x) y x),.no,[])
    |_,_=>none
   |_=>none
  | .builtin .max=>match c.args.toList with
   | [o1,o2]=>match val s q o1,val s q o2 with
    | .int k x,.int _ y=>some (.int k (A.ich (A.cmp .lss x y) y x),.no,[])
    |_,_=>none
   |_=>none
  | .value o=>aD s x (val s q o) (vP cs i) (Y3 s q c.args.toList)
  |_=>none
 |_=>none
section
variable {C:Cx} {s:St} {a:Act} {w:World} {P:Program}
theorem xR(v:Value)(h:(rZ v).known=true):(rZ v).den=v/\∀m w,Ok m w (rZ v):=by
 unfold rZ at h ⊢
 split
 .exact ⟨rfl,fun m w=>.int _ _⟩
 .exact ⟨rfl,fun m w=>.bool _⟩
 .exact ⟨rfl,fun m w=>.bool _⟩
 .split
  .rename_i hs;exact⟨rfl,fun m w=>.str _ (by simp only[maxLen];omega)⟩
  rename_i hs;simp[hs,AV.known]at h
 .exact ⟨rfl,fun m w=>.nilp⟩
 .exact ⟨rfl,fun m w=>.nili⟩
 .exact ⟨rfl,fun m w=>.sl _ _ _ _ _ _ (Nat.le_refl _) (by simp) (fun i hi=>by omega) (fun i hi=>by omega) (fun i hi=>by omega) (fun i hi=>by omega) (fun i hi=>by omega)⟩
 exact⟨rfl,fun m w=>.raw _⟩
theorem E6(h:i5 C s a w){q:List (Nat×Bool)}(hq:cu a q){x:Operand}(hk:(val s q x).known=true):a.eval x=(val s q x).den/\Ok (s.m C) w (val s q x):=by
 cases x with
 |tmp t=>
  simp only[val]at hk ⊢
  cases hg:M4 s.gs t with
  |none=>
   simp only[hg]at hk ⊢;have:=h.slot t hk;refine⟨?_,this.2⟩;simp[Act.eval,this.1]
  |some e=>
   obtain⟨p,v⟩:=e;simp only[hg]at hk ⊢
   split at hk
   .rename_i hs
    rw[if_pos hs];have:=(h.gs _ _ _ hg hk).1 (xt hs hq);refine⟨?_,this.2⟩;simp[Act.eval,this.1]
   cases hk
 |const v=>
  simp only[val]at hk ⊢;have:=xR v hk;exact⟨this.1.symm,this.2 _ _⟩
 |func f=>exact⟨rfl,.fn _ _ _ (fun _ h=>by cases h) (fun _ h=>by cases h)⟩
 |global g=>cases hk
theorem dt(h:i5 C s a w){q:List (Nat×Bool)}(hq:cu a q):∀{l:List Operand} {r:List AV},Y3 s q l=some r->l.map a.eval=r.map AV.den/\∀v∈r,Ok (s.m C) w v
 | [],r,hr=>by simp[Y3]at hr;subst hr;simp
 |x::l,r,hr=>by
  simp only[Y3]at hr
  split at hr
  .rename_i hk
   obtain⟨r',hr',rfl⟩:=Option.map_eq_some_iff.1 hr;obtain⟨h1,h2⟩:=dt h hq hr';obtain⟨h3,h4⟩:=E6 h hq hk;refine⟨by simp[h1,h3],fun v hv=>?_⟩
   rcases List.mem_cons.1 hv with rfl|hv
   .exact h4
   exact h2 v hv
  cases hr
theorem ia(h:i5 C s a w){q:List (Nat×Bool)}(hq:cu a q):∀{l:List (Nat×Operand)} {r:List (Nat×AV)},ib s q l=some r->l.map (fun y=>(y.1,a.eval y.2))=r.map (fun y=>(y.1,y.2.den))/\∀v∈r,Ok (s.m C) w v.2
 | [],r,hr=>by simp[ib]at hr;subst hr;simp
 |(i,x)::l,r,hr=>by
  simp only[ib]at hr
  split at hr
  .rename_i hk
   obtain⟨r',hr',rfl⟩:=Option.map_eq_some_iff.1 hr;obtain⟨h1,h2⟩:=ia h hq hr';obtain⟨h3,h4⟩:=E6 h hq hk;refine⟨by simp[h1,h3],fun v hv=>?_⟩
   rcases List.mem_cons.1 hv with rfl|hv
   .exact h4
   exact h2 v hv
  cases hr
theorem np{m:Nat->Nat->Prop}{cells:List AV}{off n:Nat}{agg:Bool}{v:AV}(h:cut cells off n agg=some v)(h1:∀v∈cells,v.one=true/\Ok m w v) :
  Ok m w v/\(if agg then off+n<=cells.length/\v = .agg ((cells.drop off).take n)else cells[off]? = some v):=by
 unfold cut at h
 split at h
 .rename_i ha
  split at h
  .rename_i hl
   injection h with h;subst h
   have hin:∀v∈(cells.drop off).take n,v∈cells:=fun v hv=>List.mem_of_mem_drop (List.mem_of_mem_take hv)
   refine⟨.agg _ (fun v hv=>(h1 v (hin v hv)).1) (fun v hv=>(h1 v (hin v hv)).2),?_⟩;rw[if_pos ha];exact⟨hl,rfl⟩
  cases h
 rename_i ha
 rw[if_neg ha];exact⟨(h1 v (List.mem_of_getElem? h)).2,h⟩
theorem lV{t:Nat}{ti:TI}(ht:C6 P t ti){b base off:Nat}{cells:List AV}{v:AV}(hc:∀j u,(cells.map AV.den)[j]? = some u->w.cell? ⟨b,base+j,none⟩=some u)
  (hv:if ti.agg then off+ti.size<=cells.length/\v = .agg ((cells.drop off).take ti.size)else cells[off]? = some v):(Instr.loadAt t (.pointer (some ⟨b,base+off,none⟩))).run P w = .ok v.den w:=by
 have hsz:=ht.size w;have hag:=ht.agg w
 cases ha:ti.agg with
 |true=>
  rw[ha,if_pos rfl]at hv;obtain⟨hl,rfl⟩:=hv;have hl':(((cells.drop off).take ti.size).map AV.den).length=ti.size:=by simp;omega
  have:=run_loadCells_list (P:=P) w ⟨b,base+off,none⟩ (((cells.drop off).take ti.size).map AV.den) (fun j u hu=>by
   rw[Addr.add_lit];have hj:j<ti.size:=by rw[<-hl'];exact(List.getElem?_eq_some_iff.1 hu).1
   have:=hc (off+j) u (by
    rw[List.map_take,List.map_drop,List.getElem?_take_of_lt hj,List.getElem?_drop]at hu;exact hu)
   rwa[Nat.add_assoc])
  rw[hl']at this;rw[ha]at hag;simp[Instr.loadAt,Instr.sureAddr,loadVar,hag,hsz,this,AV.den,E3]
 |false=>
  rw[ha,if_neg (by simp)]at hv;have:=hc off v.den (by simp[hv]);rw[ha]at hag;simp[Instr.loadAt,Instr.sureAddr,loadVar,hag,this]
theorem jD{v:AV}(h:(v.one||dL v)=true):v.one=true \/ ∃l,v = .agg l:=by
 simp only[Bool.or_eq_true]at h
 rcases h with h|h
 .exact .inl h
 cases v<;>simp_all [dL]
theorem fK(fields:List (Nat×Nat×Bool))(place:Nat->Option (Nat×Nat))(hp:∀f x,fields[f]? = some x->place f=some (x.1,x.2.1))(m:Nat->Nat->Prop)(w:World):∀(l:List (Nat×AV)) (cells r:List AV),
  (∀v∈cells,v.one=true/\Ok m w v)->(∀v∈l,Ok m w v.2)->cJ fields cells l=some r →
  Instr.fill place (cells.map AV.den).toArray (l.map fun y=>(y.1,y.2.den))=some (r.map AV.den).toArray/\(∀v∈r,v.one=true/\Ok m w v)
 | [],cells,r,h1,_,hr=>by simp[cJ]at hr;subst hr;exact⟨rfl,h1⟩
 |(f,v)::l,cells,r,h1,h2,hr=>by
  simp only[cJ]at hr
  split at hr
  .cases hr
  rename_i off n g hf
  split at hr
  .rename_i hc
   obtain⟨hc1,hc2,hc3⟩:=hc;have hone:v.one=true \/ ∃l,v = .agg l:=by
    exact jD hc3
   have hcells:∀x∈v.cells,x.one=true/\Ok m w x:=by
    have hv:=h2 (f,v) (by simp);intro x hx;refine⟨?_,hv.cells x hx⟩
    rcases hone with h|⟨l',rfl⟩
    .cases v<;>simp_all [AV.cells,AV.one]
    cases hv with
    |agg _ ho _=>exact ho x hx
   have ih:=fK fields place hp m w l (cells.take off++v.cells++cells.drop (off+n)) r (by
    intro x hx
    rcases List.mem_append.1 hx with hx|hx
    .rcases List.mem_append.1 hx with hx|hx
     .exact h1 x (List.mem_of_mem_take hx)
     exact hcells x hx
    exact h1 x (List.mem_of_mem_drop hx)) (fun y hy=>h2 y (by simp[hy])) hr
   refine⟨?_,ih.2⟩;rw[<-ih.1];have hpl:=hp f _ hf;simp only at hpl;have hdc:=fO hone;simp only[List.map_cons,Instr.fill,hpl,hdc,List.size_toArray,List.length_map];rw[if_neg (by simp only[Bool.or_eq_true,decide_eq_true_eq];omega)]
   congr 1
   -- writing the cells one by one is writing them at once
   have key:∀(vs:List Value) (k:Nat) (cs:Array Value),off+k+vs.length<=cs.size →
     (vs.zipIdx k).foldl (fun cs (x:Value×Nat)=>cs.setIfInBounds (off+x.2) x.1) cs=(cs.toList.take (off+k)++vs++cs.toList.drop (off+k+vs.length)).toArray:=by
    intro vs
    induction vs with
    |nil=>intro k cs _;simp
    |cons u vs ih=>
     intro k cs hl;simp only[List.length_cons]at hl;have h3:=ih (k+1) (cs.setIfInBounds (off+k) u) (by simp;omega);rw[List.zipIdx_cons,List.foldl_cons,h3]
     congr 1
     have hk:off+k<cs.toList.length:=by simp;omega
     simp only[Array.toList_setIfInBounds];rw[show off+(k+1)=off+k+1 by omega,List.take_succ_eq_append_getElem (by simpa using hk)];simp only[List.getElem_set_self,List.append_assoc,List.cons_append,List.nil_append,List.length_cons];rw[List.take_set_of_le (Nat.le_refl _),List.drop_set_of_lt (show off+k<off+k+1+vs.length by omega)]
     congr 3
     congr 1
     omega
   have:=key (v.cells.map AV.den) 0 (cells.map AV.den).toArray (by simp;omega);simp only[Nat.add_zero,List.length_map,hc1]at this;rw[Array.zipIdx_toArray,List.foldl_toArray,this];simp[List.map_take,List.map_drop]
  cases hr
theorem mV{fields:List (Nat×Nat×Bool)}:∀{l:List (Nat×AV)} {cells r:List AV},cJ fields cells l=some r->r.length=cells.length
 | [],cells,r,h=>by simp[cJ]at h;rw[h]
 |(f,v)::l,cells,r,h=>by
  simp only[cJ]at h
  split at h
  .cases h
  split at h
  .rename_i hc
   rw[mV h];simp;omega
  cases h
theorem gu(k:Nat):∀(n off f:Nat) (x:Nat×Nat×Bool),(places k off n)[f]? = some x->x.1=off+f*k/\x.2.1=k
 |0,off,f,x,h=>by simp[places]at h
 |n+1,off,0,x,h=>by simp[places]at h;subst h;simp
 |n+1,off,f+1,x,h=>by
  have:=gu k n (off+k) f x (by simpa[places]using h);refine⟨by rw[this.1,Nat.add_mul,Nat.one_mul];omega,this.2⟩
theorem jA(z:List AV):∀n,(eQ z n).length=n*z.length
 |0=>by simp[eQ]
 |n+1=>by simp[eQ,jA z n,Nat.add_mul,Nat.add_comm]
theorem oh(z:List AV):∀(n j:Nat),j<n*z.length->(eQ z n)[j]? = z[j % z.length]?
 |0,j,h=>by simp at h
 |n+1,j,h=>by
  simp only[eQ]
  by_cases hj:j<z.length
  .rw [List.getElem?_append_left hj,Nat.mod_eq_of_lt hj]
  have h':(n+1)*z.length=n*z.length+z.length:=by rw[Nat.add_mul,Nat.one_mul]
  rw[List.getElem?_append_right (by omega),oh z n _ (by omega)]
  congr 1
  exact(Nat.mod_eq_sub_mod (show z.length<=j by omega)).symm
theorem jz{z:List AV}:∀{n:Nat} {v:AV},v∈eQ z n->v∈z
 |0,v,h=>by cases h
 |n+1,v,h=>by
  simp only[eQ]at h
  rcases List.mem_append.1 h with h|h
  .exact h
  exact jz h
theorem tj{q:List (Nat×Bool)}(h:i5 C s a w)(hq:cu a q){A:Alg}{o:Operand}{d j:Int}(hb:J3 A s q d (some o)=some j):∃k,a.eval o = .int k j:=by
 simp only[J3]at hb
 split at hb
 .rename_i k j' hv
  injection hb with hb;subst hb
  have:=(E6 h hq (x:=o) (by rw[hv];rfl)).1;rw[hv]at this;exact⟨k,this⟩
 cases hb
end
section
variable {C:Cx} {s:St} {a:Act} {w:World} {P:Program} {K:Act->World->Prop} {Q:Exit->Act->World->Prop}
theorem o4{o:Oper}{v:Value}{w':World}(h:(execOp a.eval o).run P w = .ok (.value v) w')(hK:K (a.put o.dst v) w'):o.wp P a w K Q:=by
 unfold Oper.wp;rw[h];exact hK
theorem lE{o:Oper}{w':World}(h:(execOp a.eval o).run P w = .ok .skip w')(hK:K (a.put o.dst Go.undef) w'):o.wp P a w K Q:=by
 unfold Oper.wp;rw[h];exact hK
theorem qt{v:AV}(h:v.one=true):v.known=true:=by cases v<;>simp_all [AV.one,AV.known]
theorem eZ{v:AV}(h:(v.one||dL v)=true):v.known=true:=by
 rcases jD h with h|⟨l,rfl⟩
 .exact qt h
 rfl
theorem yo{t:Nat}{b:Bool}(h:a.tmps.getD t Go.undef = .bool b):a.tmps[t]? = some (.bool b):=by
 rw[Array.getD_eq_getD_getElem?]at h
 cases hg:a.tmps[t]? with
 |none=>rw[hg]at h;cases h
 |some v=>rw[hg]at h;simp at h;rw[h]
theorem qm(h:i5 C s a w):∀b o,s.m C b o->b<w.heap.size:=by
 intro b o hm
 rcases hm with hm|⟨k,e,he,rfl⟩|⟨k,t,ht,hv,_⟩
 .exact Nat.lt_of_lt_of_le (h.m0 b o hm) h.chg.size
 .exact F2 (h.mem _ _ he).1
 obtain⟨_,xs,ho⟩:=h.gr k t ht;exact(ho.lt _ hv).2
theorem mh{m:Nat->Nat->Prop}{v:AV}(hv:Ok m w v)(ho:(v.one||dL v)=true):∀x∈v.cells,x.one=true/\Ok m w x:=by
 intro x hx;refine⟨?_,hv.cells x hx⟩
 rcases jD ho with h|⟨l',rfl⟩
 .cases v<;>simp_all [AV.cells,AV.one]
 cases hv with
 |agg _ ho _=>exact ho x hx
theorem qM(b:Bool):(AV.bool (.v b)).den = .bool b:=rfl
theorem jW{t:Nat}(ht:P.underlying t=some .bool)(x y:Bool):(Op.equal t (.bool x) (.bool y)).run P w = .ok (x==y) w:=by
 have e:Op.equal t (.bool x) (.bool y)=Op.equalIn (9999+1) t (.bool x) (.bool y):=rfl;rw[e];unfold Op.equalIn;simp[run_underlying ht]
theorem dz{t:Nat}{e:TypeId}(ht:P.underlying t=some (.pointer e))(A:Addr):(Op.equal t (.pointer (some A)) (.pointer none)).run P w = .ok false w/\(Op.equal t (.pointer none) (.pointer none)).run P w = .ok true w:=by
 have e1:∀x y,Op.equal t x y=Op.equalIn (9999+1) t x y:=fun _ _=>rfl
 rw[e1,e1];unfold Op.equalIn;simp[run_underlying ht]
theorem Q4{t:Nat}{ms:Array (String×TypeId)}{tt:Nat}{v:Value}(ht:P.underlying t=some (.interface ms)):(Op.equal t (.iface tt v) .nilIface).run P w = .ok false w/\(Op.equal t .nilIface .nilIface).run P w = .ok true w:=by
 have e1:∀x y,Op.equal t x y=Op.equalIn (9999+1) t x y:=fun _ _=>rfl
 rw[e1,e1];unfold Op.equalIn;simp[run_underlying ht]
theorem zF(n:Nat)(cells:Nat->List AV):std.bstr n cells=eP n cells:=rfl
theorem rP(n:Nat)(cells:Nat->List AV):eP (n+1) cells=(eP n cells).push (qS (cells n)):=by
 simp[eP,List.range_succ]
theorem rQ(n:Nat)(cells:Nat->List AV):(eP n cells).size=n:=by
 induction n with
 |zero=>rfl
 |succ n ih=>rw[rP,ByteArray.size_push,ih]
theorem xC{A:Option Addr}{n c:Nat}{cells:Nat->List AV}(hby:∀i,i<n->∃x,cells i=[.int .u8 x])(hA:∀i,i<n->∃b off,A=some ⟨b,off,none⟩)(hrow:U6 w w.heap.size A (j6 cells n)) :
  (Conv.bytesToString (.slice A n c)).run P w = .ok (.string (eP n cells)) w:=by
 have hfl:j6 cells n=(List.range n).map fun i=>.int .u8 (match cells i with| [.int _ x]=>x|_=>0):=by
  unfold j6;have:∀l:List Nat,(∀i∈l,i<n)->(l.flatMap fun i=>(cells i).map AV.den)=l.map fun i=>.int .u8 (match cells i with| [.int _ x]=>x|_=>0):=by
   intro l
   induction l with
   |nil=>intro _;rfl
   |cons j l ih=>
    intro hl;obtain⟨x,hx⟩:=hby j (hl j (by simp));rw[List.flatMap_cons,List.map_cons,ih fun i hi=>hl i (List.mem_cons_of_mem _ hi)];simp[hx,AV.den]
  exact this _ fun i hi=>by simpa using hi
 cases A with
 |none=>
  have:n=0:=by
   rcases Nat.eq_zero_or_pos n with h|h
   .exact h
   obtain⟨b,off,h⟩:=hA 0 h;cases h
  subst this;rfl
 |some ad=>
  have hlen:(j6 cells n).length=n:=by rw[hfl];simp
  have hload:(loadCells ad n).run P w = .ok (j6 cells n).toArray w:=by
   by_cases hp:0<n
   .obtain ⟨b,off,hA',_,hc⟩:=hrow (by rw[hlen];exact hp)
    injection hA' with hA';subst hA'
    have:=run_loadCells_list (P:=P) w ⟨b,off,none⟩ (j6 cells n) (fun j u hu=>by rw[Addr.add_lit];exact hc j u hu)
    rwa[hlen]at this
   have:n=0:=by omega
   subst this;have:=run_loadCells_list (P:=P) w ad [] (fun j u hu=>by simp at hu)
   simpa[j6]using this
  have key:∀(l:List Nat) (s0:ByteArray),(∀i∈l,i<n)->(forIn (l.map fun i=>Value.int .u8 (match cells i with| [.int _ x]=>x|_=>0)) s0 (fun c s=>(match c with
    | .int .u8 m=>pure (ForInStep.yield (s.push (UInt8.ofNat m.toNat)))
    |_=>do
     stuck "bytesToString: byte expected"
     pure (ForInStep.yield s):Sem (ForInStep ByteArray)))).run P w = .ok (l.foldl (fun s i=>s.push (qS (cells i))) s0) w:=by
   intro l
   induction l with
   |nil=>intro s0 _;rfl
   |cons j l ih=>
    intro s0 hl;obtain⟨x,hx⟩:=hby j (hl j (by simp));rw[List.map_cons,List.forIn_cons,Sem.run_bind];simp only[hx,Sem.run_pure,Result.andThen_ok];rw[ih _ fun i hi=>hl i (List.mem_cons_of_mem _ hi)];simp[qS,hx]
  have hk:=key (List.range n) .empty (fun i hi=>by simpa using hi);rw[<-hfl]at hk;simp only[Conv.bytesToString,Sem.run_bind,hload,Result.andThen_ok,List.forIn_toArray];exact congrArg (fun r:Result ByteArray=>r.andThen fun a w'=>Sem.run P (pure (Value.string a)) w') hk
theorem tK{T:List (Nat×TI)}(hT:o7 P T){q:List (Nat×Bool)}{op:BinOp}{t t':Nat}{x y:Operand}{r:AV×Eff×List Ob}(hx:(val s q x).known=true->a.eval x=(val s q x).den)(hy:(val s q y).known=true->a.eval y=(val s q y).den)
  (h:pJ std T op t (val s q x) (val s q y)=some r) (hob:∀ob∈r.2.2,ob.holds P C.K) {o:Oper} (ho:o.op = .binOp op t x y t') :
  r.2.1 = .no/\(execOp a.eval o).run P w = .ok (.value r.1.den) w/\∀m w,Ok m w r.1:=by
 generalize hvx:val s q x=vx at *
 generalize hvy:val s q y=vy at *
 unfold pJ at h
 split at h
 .rename_i k x' k' y'
  have ex:=hx rfl;have ey:=hy rfl;simp only[AV.den]at ex ey
  split at h
  .rename_i hop2
   injection h with h;subst h
   have hnn:0<=y':=hob (.nn y') (by simp);have hnn':¬y'<0:=by omega
   refine⟨rfl,?_,fun m w=>.int _ _⟩
   rcases hop2 with rfl|rfl<;>simp[execOp,ho,ex,ey,eqGuard,binOp,Op.shift,hnn',AV.den,std,s3]
  split at h
  .rename_i hk
   subst hk
   split at h
   .rename_i hdiv
    injection h with h;subst h
    have hne:y'≠0:=hob (.ne0 y') (by simp);refine⟨rfl,?_,fun m w=>.int _ _⟩
    rcases hdiv with rfl|rfl<;>simp[execOp,ho,ex,ey,eqGuard,binOp,Op.intDiv,hne,AV.den,std,jv]
   split at h
   .rename_i hc
    injection h with h;subst h
    refine⟨rfl,?_,fun m w=>.bool _⟩
    cases op<;>simp[wj]at hc<;>simp[execOp,ho,ex,ey,eqGuard,binOp,Op.intCmp,AV.den,BE.den,std,d4]
   split at h
   .rename_i hc
    injection h with h;subst h
    refine⟨rfl,?_,fun m w=>.int _ _⟩
    cases op<;>simp[wl]at hc<;>simp[execOp,ho,ex,ey,eqGuard,binOp,Op.intArith,Op.intBits,AV.den,std,j0]
   cases h
  cases h
 .have ex:=hx rfl
  have ey:=hy rfl;simp only[AV.den]at ex ey
  split at h
  .rename_i sx sy hadd
   subst hadd;injection h with h;subst h
   have hcat:sx.size+sy.size<=maxLen:=hob (.cat sx sy) (by simp);have hmax:IntKind.i64.max=9223372036854775807:=by decide
   have hle:¬(((sx.size+sy.size:Nat):Int)>IntKind.i64.max):=by rw[hmax];simp only[maxLen]at hcat;omega
   refine⟨rfl,?_,fun m w=>.str _ (by show(sx++sy).size<=maxLen;rw[ByteArray.size_append];exact hcat)⟩
   simp only[execOp,ho,ex,ey,eqGuard,binOp,Op.stringOp,AV.den,std];rw[if_neg hle];simp
  split at h
  .rename_i hc
   injection h with h;subst h
   refine⟨rfl,?_,fun m w=>.bool _⟩
   cases op<;>simp[wj]at hc<;>simp[execOp,ho,ex,ey,eqGuard,binOp,Op.stringOp,AV.den,BE.den,std,kV]
  cases h
 .rename_i b1 b2
  have ex:=hx rfl;have ey:=hy rfl;simp only[AV.den]at ex ey
  split at h
  .rename_i ti hti
   split at h
   .rename_i hb
    injection h with h;subst h
    have hr:=jW (w:=w) ((o5 hT hti).bool hb) b1.den b2.den;refine⟨rfl,?_,fun m w=>.bool _⟩;simp[execOp,ho,ex,ey,eqGuard,binOp,hr,qM,std]
   cases h
  .rename_i ti hti
   split at h
   .rename_i hb
    injection h with h;subst h
    have hr:=jW (w:=w) ((o5 hT hti).bool hb) b1.den b2.den;refine⟨rfl,?_,fun m w=>.bool _⟩;simp[execOp,ho,ex,ey,eqGuard,binOp,hr,qM,std]
   cases h
  cases h
 .rename_i key b off
  have ex:=hx rfl;have ey:=hy rfl;simp only[AV.den]at ex ey
  split at h
  .rename_i ti hti
   split at h
   .rename_i hb
    injection h with h;subst h
    obtain⟨e,hu⟩:=(o5 hT hti).ptr hb;have hr:=(dz (w:=w) hu ⟨b,off,none⟩).1;refine⟨rfl,?_,fun m w=>.bool _⟩;simp[execOp,ho,ex,ey,eqGuard,binOp,hr,AV.den,BE.den]
   cases h
  .rename_i ti hti
   split at h
   .rename_i hb
    injection h with h;subst h
    obtain⟨e,hu⟩:=(o5 hT hti).ptr hb;have hr:=(dz (w:=w) hu ⟨b,off,none⟩).1;refine⟨rfl,?_,fun m w=>.bool _⟩;simp[execOp,ho,ex,ey,eqGuard,binOp,hr,AV.den,BE.den]
   cases h
  cases h
 .have ex:=hx rfl
  have ey:=hy rfl;simp only[AV.den]at ex ey
  split at h
  .rename_i ti hti
   split at h
   .rename_i hb
    injection h with h;subst h
    obtain⟨e,hu⟩:=(o5 hT hti).ptr hb;have hr:=(dz (w:=w) hu ⟨0,0,none⟩).2;refine⟨rfl,?_,fun m w=>.bool _⟩;simp[execOp,ho,ex,ey,eqGuard,binOp,hr,AV.den,BE.den]
   cases h
  .rename_i ti hti
   split at h
   .rename_i hb
    injection h with h;subst h
    obtain⟨e,hu⟩:=(o5 hT hti).ptr hb;have hr:=(dz (w:=w) hu ⟨0,0,none⟩).2;refine⟨rfl,?_,fun m w=>.bool _⟩;simp[execOp,ho,ex,ey,eqGuard,binOp,hr,AV.den,BE.den]
   cases h
  cases h
 .rename_i tt v
  have ex:=hx rfl;have ey:=hy rfl;simp only[AV.den]at ex ey
  split at h
  .rename_i ti hti
   split at h
   .rename_i hb
    injection h with h;subst h
    obtain⟨ms,hu⟩:=(o5 hT hti).itf hb;have hr:=(Q4 (w:=w) (tt:=tt) (v:=v.den) hu).1;refine⟨rfl,?_,fun m w=>.bool _⟩;simp[execOp,ho,ex,ey,eqGuard,binOp,hr,AV.den,BE.den]
   cases h
  .rename_i ti hti
   split at h
   .rename_i hb
    injection h with h;subst h
    obtain⟨ms,hu⟩:=(o5 hT hti).itf hb;have hr:=(Q4 (w:=w) (tt:=tt) (v:=v.den) hu).1;refine⟨rfl,?_,fun m w=>.bool _⟩;simp[execOp,ho,ex,ey,eqGuard,binOp,hr,AV.den,BE.den]
   cases h
  cases h
 .rename_i l1 l2
  have ex:=hx rfl;have ey:=hy rfl;simp only[AV.den,E3]at ex ey
  split at h
  .injection h with h;subst h
   have hh:Ob.holds P C.K (.eql t l1 l2):=hob _ (by simp);have hh:=(hh w x y).1;refine⟨rfl,?_,fun m w=>.bool _⟩;simp only[execOp,ho,ex,ey];rw[Sem.run_bind,hh];simp[AV.den,BE.den,std,Result.andThen]
  .injection h with h;subst h
   have hh:Ob.holds P C.K (.eql t l1 l2):=hob _ (by simp);have hh:=(hh w x y).2;refine⟨rfl,?_,fun m w=>.bool _⟩;simp only[execOp,ho,ex,ey];rw[Sem.run_bind,hh];simp[AV.den,BE.den,std,Result.andThen]
  cases h
 cases h
theorem mb{s:St}:∀{l:List (Nat×List AV)} {pre:List (Nat×Blk)},aX s l=some pre->l.map (·.1)=pre.map (·.1)/\∀e∈pre,j7 s.mem e.1=some e.2
 | [],pre,h=>by simp[aX]at h;subst h;exact⟨rfl,fun e he=>by cases he⟩
 |(k,c)::l,pre,h=>by
  simp only[aX]at h
  split at h
  .rename_i b r hb hr
   injection h with h;subst h
   obtain⟨h1,h2⟩:=mb hr;refine⟨by simp[h1],fun e he=>?_⟩
   rcases List.mem_cons.1 he with rfl|he
   .exact hb
   exact h2 e he
  cases h
theorem mc{s:St}:∀{l l':List (Nat×List AV)},l.map (·.1)=l'.map (·.1)->aX s l=aX s l'
 | [],[],_=>rfl
 | [],_::_,h=>by cases h
 |_::_,[],h=>by cases h
 |(k,c)::l,(k',c')::l',h=>by
  simp only[List.map_cons,List.cons.injEq]at h;obtain⟨rfl,h⟩:=h;simp only[aX,mc h]
theorem ao{C:Cx}{s:St}{a:Act}{w:World}(h:i5 C s a w):∀{pre:List (Nat×Blk)},dE pre=true->(∀e∈pre,j7 s.mem e.1=some e.2)->pre.Pairwise fun e f=>e.2.at_≠f.2.at_
 | [],_,_=>.nil
 |(k,b)::l,hn,hl=>by
  simp only[dE,Bool.and_eq_true]at hn;refine .cons (fun f hf=>?_) (ao h hn.2 fun e he=>hl e (List.mem_cons_of_mem _ he));have:=List.all_eq_true.1 hn.1 f hf;simp only[Bool.not_eq_true',beq_eq_false_iff_ne]at this;exact h.nodup k f.1 b f.2 (hl (k,b) (by simp)) (hl f (List.mem_cons_of_mem _ hf)) fun e=>this e.symm
theorem tJ{T:List (Nat×TI)}(hT:o7 P T){q:List (Nat×Bool)}{op:BinOp}{t t':Nat}{x y:Operand}{r:AV×Eff×List Ob}(hx:a.eval x = .nilIface)
  (h:pI T op t y=some r) {o:Oper} (ho:o.op = .binOp op t x y t'):r.2.1 = .no/\(execOp a.eval o).run P w = .ok (.value r.1.den) w/\∀m w,Ok m w r.1:=by
 unfold pI at h
 split at h
 .rename_i hc
  have hy:y = .const .nilIface:=by
   unfold qu at hc
   split at hc
   .rfl
   cases hc
  subst hy;have hy:a.eval (.const .nilIface) = .nilIface:=rfl
  split at h
  .rename_i ti hti
   split at h
   .rename_i hb
    injection h with h;subst h
    obtain⟨ms,hu⟩:=(o5 hT hti).itf hb;have hr:=(Q4 (w:=w) (tt:=0) (v:=.nilIface) hu).2;refine⟨rfl,?_,fun m w=>.bool _⟩;simp[execOp,ho,hx,hy,eqGuard,binOp,hr,AV.den,BE.den]
   cases h
  .rename_i ti hti
   split at h
   .rename_i hb
    injection h with h;subst h
    obtain⟨ms,hu⟩:=(o5 hT hti).itf hb;have hr:=(Q4 (w:=w) (tt:=0) (v:=.nilIface) hu).2;refine⟨rfl,?_,fun m w=>.bool _⟩;simp[execOp,ho,hx,hy,eqGuard,binOp,hr,AV.den,BE.den]
   cases h
  cases h
 cases h
theorem tI{T:List (Nat×TI)}(hT:o7 P T){q:List (Nat×Bool)}{op:BinOp}{t t':Nat}{x y:Operand}{c:Bool}{tt:Nat}{v:Value}{r:AV×Eff×List Ob}(hx:a.eval x=if c then .iface tt v else .nilIface)
  (h:pH std T op t c y=some r) {o:Oper} (ho:o.op = .binOp op t x y t'):r.2.1 = .no/\(execOp a.eval o).run P w = .ok (.value r.1.den) w/\∀m w,Ok m w r.1:=by
 unfold pH at h
 split at h
 .rename_i hc
  have hy:y = .const .nilIface:=by
   unfold qu at hc
   split at hc
   .rfl
   cases hc
  subst hy;have hy:a.eval (.const .nilIface) = .nilIface:=rfl
  split at h
  .rename_i ti hti
   split at h
   .rename_i hb
    injection h with h;subst h
    obtain⟨ms,hu⟩:=(o5 hT hti).itf hb;refine⟨rfl,?_,fun m w=>.bool _⟩
    cases c with
    |true=>
     have hr:=(Q4 (w:=w) (tt:=tt) (v:=v) hu).1;simp[execOp,ho,hx,hy,eqGuard,binOp,hr,AV.den,BE.den,std]
    |false=>
     have hr:=(Q4 (w:=w) (tt:=0) (v:=.nilIface) hu).2;simp[execOp,ho,hx,hy,eqGuard,binOp,hr,AV.den,BE.den,std]
   cases h
  .rename_i ti hti
   split at h
   .rename_i hb
    injection h with h;subst h
    obtain⟨ms,hu⟩:=(o5 hT hti).itf hb;refine⟨rfl,?_,fun m w=>.bool _⟩
    cases c with
    |true=>
     have hr:=(Q4 (w:=w) (tt:=tt) (v:=v) hu).1;simp[execOp,ho,hx,hy,eqGuard,binOp,hr,AV.den,BE.den]
    |false=>
     have hr:=(Q4 (w:=w) (tt:=0) (v:=.nilIface) hu).2;simp[execOp,ho,hx,hy,eqGuard,binOp,hr,AV.den,BE.den]
   cases h
  cases h
 cases h
theorem lL{T:List (Nat×TI)}(hT:o7 P T){cs:List (Nat×CS)}{i d:Nat}{q:List (Nat×Bool)}{o:Oper}(h:i5 C s a w)(hq:cu a q)
  (hs:∀x,∃r,C4 std T cs x i s q d o.type o.op=some r/\∀ob∈r.2.2,ob.holds P C.K)
  (hK:∀x r w',C4 std T cs x i s q d o.type o.op=some r->i5 C (s.eff r.2.1) a w'->(r.1.known=true->Ok ((s.eff r.2.1).m C) w' r.1)->K (a.put o.dst r.1.den) w'):o.wp P a w K Q:=by
 have V:∀{x:Operand},(val s q x).known=true->a.eval x=(val s q x).den/\Ok (s.m C) w (val s q x):=fun hk=>E6 h hq hk
 obtain⟨r,hr,hob⟩:=hs ⟨w.heap.size,fun _=>none,fun _=>0,fun _=>.empty⟩;have hr0:=hr
 cases hop:o.op with
 |move x=>
  rw[hop]at hr;simp only[C4]at hr
  split at hr
  .rename_i hk
   injection hr with hr;subst hr
   refine o4 (v:=(val s q x).den) (w':=w) (by simp[execOp,hop,(V hk).1]) ?_;exact hK _ _ w hr0 h fun _=>(V hk).2
  cases hr
 |makeFunc fn first cap=>
  rw[hop]at hr;simp only[C4]at hr
  split at hr
  .rename_i l r' hl hr'
   split at hr
   .rename_i f
    injection hr with hr;subst hr
    obtain⟨h1,g1⟩:=dt h hq hl;obtain⟨h2,g2⟩:=dt h hq hr';have e1:first.map a.eval=(l.map AV.den).toArray:=by apply Array.ext';simpa using h1
    have e2:cap.map a.eval=(r'.map AV.den).toArray:=by apply Array.ext';simpa using h2
    have hmf:∀(fn:Fn) (first cap:Array Value) (w:World),(Instr.makeFunc fn first cap).run P w = .ok (.func fn first cap) w:=fun _ _ _ _=>rfl
    refine o4 (v:=.func (.func f) (l.map AV.den).toArray (r'.map AV.den).toArray) (w':=w) (by simp[execOp,hop,e1,e2,hmf]) ?_;have:=hK _ _ w hr0 h fun _=>.fn f _ _ g1 g2
    simpa[AV.den,E3]using this
   cases hr
  cases hr
 |lookup t mo xo ok=>
  rw[hop]at hr;simp only[C4]at hr
  split at hr
  .rename_i f hcs
   split at hr
   .rename_i hk
    simp only[Bool.and_eq_true]at hk;injection hr with hr;subst hr
    have hO:=hob _ (List.mem_singleton.2 rfl);obtain⟨hrun,hok⟩:=hO _ _ h.kept;refine o4 (w':=w) ?_ (hK _ _ w hr0 h fun _=>hok);simp[execOp,hop,(V hk.1).1,(V hk.2).1,hrun,Result.andThen]
   cases hr
  cases hr
 |makeInterface t x=>
  rw[hop]at hr;simp only[C4]at hr
  split at hr
  .rename_i ti hti
   split at hr
   .cases hr
   rename_i hi
   split at hr
   .rename_i hk
    injection hr with hr;subst hr
    obtain⟨d',hu,hne⟩:=(o5 hT hti).conc (by simpa using hi);have hxv:=V hk;refine o4 (v:=(AV.ifc t (val s q x)).den) (w':=w) ?_ (hK _ _ w hr0 h fun _=>.ifc _ _ hxv.2);have hmi:(Instr.makeInterface t (val s q x).den).run P w = .ok (.iface t (val s q x).den) w:=by
     simp only[Instr.makeInterface,Sem.run_bind,run_underlying hu,Result.andThen_ok]
     cases d'<;>first|rfl|exact absurd rfl (hne _)
    simp[execOp,hop,hxv.1,hmi,AV.den]
   cases hr
  cases hr
 |nilCheck x=>
  rw[hop]at hr;simp only[C4]at hr
  split at hr
  .rename_i k b off hx
   injection hr with hr;subst hr
   have hxv:=(V (x:=x) (by rw[hx];rfl)).1;rw[hx]at hxv;refine o4 (v:=(AV.ptr k b off).den) (w':=w) (by simp[execOp,hop,hxv,AV.den]) ?_;exact hK _ _ w hr0 h fun _=>.ptr _ _ _
  .rename_i f l r' hx
   injection hr with hr;subst hr
   have hxv:=V (x:=x) (by rw[hx];rfl);rw[hx]at hxv;refine o4 (v:=(AV.fn f l r').den) (w':=w) (by simp[execOp,hop,hxv.1,AV.den]) ?_;exact hK _ _ w hr0 h fun _=>hxv.2
  .rename_i A' i' k off cells hx
   injection hr with hr;subst hr
   have hxv:=V (x:=x) (by rw[hx];rfl);rw[hx]at hxv;have hxo:=hxv.2
   cases hxo with
   |ep _ _ _ _ _ hA hcl h1 h2=>
    obtain⟨b,o0,rfl⟩:=hA;refine o4 (v:=(AV.ep (some ⟨b,o0,none⟩) i' k off cells).den) (w':=w) (by simp[execOp,hop,hxv.1,AV.den]) ?_;exact hK _ _ w hr0 h fun _=>hxv.2
  cases hr
 |assign x=>
  rw[hop]at hr;simp only[C4]at hr
  split at hr
  .rename_i hnil
   have hx:x = .const (.slice none 0 0):=by
    unfold Bo at hnil
    split at hnil
    .rfl
    cases hnil
   subst hx
   split at hr
   .rename_i ti hti
    split at hr
    .rename_i e k hel
     split at hr
     .cases hr
     rename_i hk
     injection hr with hr;subst hr
     obtain⟨h1,h2⟩:=h.nilTok d k e (Nat.pos_of_ne_zero hk);refine o4 (v:=.slice none 0 0) (w':=w) (by simp[execOp,hop,Act.eval]) ?_;exact hK _ _ w hr0 h1 fun _=>.sl _ _ _ _ _ _ (Nat.le_refl _) (by simp) (fun i hi=>by omega) (fun i hi=>by omega) (fun i hi=>by omega) (fun i hi=>by omega) (fun i hi=>by omega)
    cases hr
   cases hr
  split at hr
  .rename_i hk
   injection hr with hr;subst hr
   refine o4 (v:=(val s q x).den) (w':=w) (by simp[execOp,hop,(V hk).1]) ?_;exact hK _ _ w hr0 h fun _=>(V hk).2
  cases hr
 |pick c x y=>
  rw[hop]at hr
  cases c with
  |tmp c=>
   simp only[C4]at hr
   split at hr
   .rename_i e he
    obtain⟨v,hv,rfl⟩:=Option.map_eq_some_iff.1 hr;have hc:=V (x:=.tmp c) (by rw[he];rfl);rw[he]at hc;have hcb:a.eval (.tmp c) = .bool e.den:=hc.1;have hcs:a.tmps[c]? = some (.bool e.den):=yo hcb;have hp:∀b,e.den=b->cu a ((c,b)::q):=by
     intro b hb y hy
     rcases List.mem_cons.1 hy with rfl|hy
     .rw [hcs,hb]
     exact hq y hy
    have fin:(execOp a.eval o).run P w = .ok (.value v.den) w/\Ok (s.m C) w v:=by
     cases e with
     |tt=>
      simp only[pick]at hv
      split at hv
      .rename_i hk
       injection hv with hv;subst hv
       have:=E6 h (hp true rfl) hk;refine⟨?_,this.2⟩;simp[execOp,hop,hcb,BE.den,asBool,this.1]
      cases hv
     |ff=>
      simp only[pick]at hv
      split at hv
      .rename_i hk
       injection hv with hv;subst hv
       have:=E6 h (hp false rfl) hk;refine⟨?_,this.2⟩;simp[execOp,hop,hcb,BE.den,asBool,this.1]
      cases hv
     |v b=>
      cases hx:val s ((c,true)::q) x<;>cases hy:val s ((c,false)::q) y<;>simp[pick,hx,hy]at hv
      rename_i a' b'
      subst hv;refine⟨?_,.bool _⟩
      cases hb:b with
      |true=>
       have:=E6 h (hp true (by rw[hb];rfl)) (x:=x) (by rw[hx];rfl);rw[hx]at this;have e1:a.eval x = .bool a'.den:=this.1;simp[execOp,hop,hcb,BE.den,asBool,hb,e1,qM,std]
      |false=>
       have:=E6 h (hp false (by rw[hb];rfl)) (x:=y) (by rw[hy];rfl);rw[hy]at this;have e1:a.eval y = .bool b'.den:=this.1;simp[execOp,hop,hcb,BE.den,asBool,hb,e1,qM,std]
    exact o4 fin.1 (hK _ _ w hr0 h fun _=>fin.2)
   cases hr
  |const v=>simp[C4]at hr
  |global g=>simp[C4]at hr
  |func f=>simp[C4]at hr
 |alloc t=>
  rw[hop]at hr;simp only[C4]at hr
  split at hr
  .rename_i ti hti
   injection hr with hr;subst hr
   obtain⟨z,hz,hzc,hz1⟩:=(o5 hT hti).zero;have hn:=h.new d t ti.zero (fun v hv=>⟨(hz1 v hv).1,(hz1 v hv).2 _ _⟩);rw[<-hzc]at hn;refine o4 (v:=.pointer (some ⟨w.heap.size,0,none⟩)) (w':=w.alloc (.cells z.cells t)) ?_ ?_
   .simp [execOp,hop,Instr.alloc,hz,newVar,newRow]
   exact hK _ _ _ hr0 hn.1 fun _=>.ptr _ _ _
  cases hr
 |box t x=>
  rw[hop]at hr;simp only[C4]at hr
  split at hr
  .rename_i ho
   injection hr with hr;subst hr
   have hv:=V (eZ ho);have hn:=h.new d t (val s q x).cells (mh hv.2 ho);rw[<-fO (jD ho)]at hn;refine o4 (v:=.pointer (some ⟨w.heap.size,0,none⟩)) (w':=w.alloc (.cells (val s q x).den.cells t)) ?_ ?_
   .simp [execOp,hop,Instr.box,newVar,newRow,hv.1]
   exact hK _ _ _ hr0 hn.1 fun _=>.ptr _ _ _
  cases hr
 |build t parts=>
  rw[hop]at hr;simp only[C4]at hr
  split at hr
  .rename_i ti l hti hl
   split at hr
   .split at hr
    .rename_i n sz g har
     obtain⟨cells,hf,rfl⟩:=Option.map_eq_some_iff.1 hr;have hty:=o5 hT hti;obtain⟨z,hz,hzc,hz1⟩:=hty.zero;obtain⟨hp1,hp2⟩:=ia h hq hl;obtain⟨e,hu,hsz,_⟩:=hty.arr _ _ _ har;have hfl:=fK (places sz 0 n) (fun i=>some (i*sz,sz)) (fun f x hx=>by
      obtain⟨g1,g2⟩:=gu sz n 0 f x hx;rw[g1,g2,Nat.zero_add]) (s.m C) w l ti.zero cells (fun v hv=>⟨(hz1 v hv).1,(hz1 v hv).2 _ _⟩) hp2 hf
     have hargs:(parts.map fun(i,x)=>(i,a.eval x)).toList=l.map fun y=>(y.1,y.2.den):=by
      rw[Array.toList_map];exact hp1
     refine o4 (v:=(AV.agg cells).den) (w':=w) ?_ ?_
     .simp only[execOp,hop,Instr.build,Sem.run_bind,hz w,Result.andThen_ok,run_underlying hu,hsz w,hargs,hzc,hfl.1,Sem.run_pure]
      simp[AV.den,E3]
     exact hK _ _ w hr0 h fun _=>.agg _ (fun v hv=>(hfl.2 v hv).1) (fun v hv=>(hfl.2 v hv).2)
    cases hr
   rename_i hne
   obtain⟨cells,hf,rfl⟩:=Option.map_eq_some_iff.1 hr;have hty:=o5 hT hti;obtain⟨z,hz,hzc,hz1⟩:=hty.zero;obtain⟨hp1,hp2⟩:=ia h hq hl;obtain⟨fs,places,hu,hm,hpl⟩:=hty.places (by simpa using hne);have hfl:=fK ti.fields (places[·]?) hpl (s.m C) w l ti.zero cells (fun v hv=>⟨(hz1 v hv).1,(hz1 v hv).2 _ _⟩) hp2 hf;have hargs:(parts.map fun(i,x)=>(i,a.eval x)).toList=l.map fun y=>(y.1,y.2.den):=by
    rw[Array.toList_map];exact hp1
   have run:(execOp a.eval o).run P w = .ok (.value (.agg (cells.map AV.den).toArray)) w/\(∀v∈cells,v.one=true/\Ok (s.m C) w v):=by
    refine⟨?_,hfl.2⟩;have hm':=hm w;simp only[execOp,hop,Instr.build,Sem.run_bind,hz w,Result.andThen_ok,run_underlying hu,hm',hargs,hzc,hfl.1,Sem.run_pure]
   refine o4 (v:=(AV.agg cells).den) (w':=w) (by simpa[AV.den,E3]using run.1) ?_;exact hK _ _ w hr0 h fun _=>.agg _ (fun v hv=>(run.2 v hv).1) (fun v hv=>(run.2 v hv).2)
  cases hr
 |load t p=>
  rw[hop]at hr;simp only[C4]at hr
  split at hr
  .rename_i key b off ti hp hti
   split at hr
   .rename_i blk hb
    obtain⟨v,hv,rfl⟩:=Option.map_eq_some_iff.1 hr;have hat:blk.at_=b:=hob (.eqN blk.at_ b) (by simp);obtain⟨h1,h2,_⟩:=h.mem _ _ hb;obtain⟨hok,hv⟩:=np hv h2;have hpv:=(V (x:=p) (by rw[hp];rfl)).1;rw[hp]at hpv;have hr:=lV (P:=P) (w:=w) (b:=blk.at_) (base:=0) (o5 hT hti) (fun j u hu=>by
     rw[cell_of_row w _ _ _ _ _ h1];simpa using hu) hv
    rw[hat,Nat.zero_add]at hr;refine o4 (v:=v.den) (w':=w) ?_ (hK _ _ w hr0 h fun _=>hok);simp[execOp,hop,hpv,AV.den,hr]
   cases hr
  .rename_i A' j k off cells ti hp hti
   obtain⟨v,hv,rfl⟩:=Option.map_eq_some_iff.1 hr;have hpv:=V (x:=p) (by rw[hp];rfl);rw[hp]at hpv;obtain⟨hpv,hpo⟩:=hpv
   cases hpo with
   |ep _ _ _ _ _ hA hcl h1 h2=>
    obtain⟨b,o0,rfl⟩:=hA;obtain⟨hok,hv⟩:=np hv (fun x hx=>⟨h1 x hx,h2 x hx⟩);have hr:=lV (P:=P) (w:=w) (b:=b) (base:=o0+j*k) (o5 hT hti) (fun i u hu=>by
     obtain⟨b',o',he,hc,_⟩:=hcl i u hu;injection he with he;injection he with e1 e2;subst e1;subst e2
     rwa[Nat.add_assoc]) hv
    refine o4 (v:=v.den) (w':=w) ?_ (hK _ _ w hr0 h fun _=>hok);simp[execOp,hop,hpv,AV.den,<-Nat.add_assoc,hr]
  cases hr
 |store t p x=>
  rw[hop]at hr;simp only[C4]at hr
  split at hr
  .rename_i key b off ti hp hti
   split at hr
   .rename_i blk hb
    split at hr
    .rename_i hc
     obtain⟨hc1,hc2,hc3⟩:=hc;injection hr with hr;subst hr
     have hat:blk.at_=b:=hob (.eqN blk.at_ b) (by simp);obtain⟨h1,h2,_⟩:=h.mem _ _ hb;have hpv:=(V (x:=p) (by rw[hp];rfl)).1;rw[hp]at hpv;have hxv:=V (x:=x) (eZ hc3);have hxc:=mh hxv.2 hc3;have hset:=h.set hb (blk.cells.take off++(val s q x).cells++blk.cells.drop (off+ti.size)) (fun v hv=>by
      rcases List.mem_append.1 hv with hv|hv
      .rcases List.mem_append.1 hv with hv|hv
       .exact h2 v (List.mem_of_mem_take hv)
       exact hxc v hv
      exact h2 v (List.mem_of_mem_drop hv))
     have hst:=run_storeCells_at P blk.at_ off blk.ty ((val s q x).cells.map AV.den) 0 (blk.cells.map AV.den).toArray w h1 (by simp;omega) (by
      intro v hv;obtain⟨y,hy,rfl⟩:=List.mem_map.1 hv;exact qe (hxc y hy).1)
     have hdc:=fO (jD hc3);have hsz:=(o5 hT hti).size w;refine lE (w':=w.setRow blk.at_ ((blk.cells.take off++(val s q x).cells++blk.cells.drop (off+ti.size)).map AV.den).toArray) ?_ (hK _ _ _ hr0 hset fun hk=>by cases hk);simp only[Nat.add_zero,List.length_map,hc1]at hst;have hst':(storeCells ⟨b,off,none⟩ ((val s q x).cells.map AV.den)).run P w = .ok () (w.setRow blk.at_ ((blk.cells.take off++(val s q x).cells++blk.cells.drop (off+ti.size)).map AV.den).toArray):=by
      rw[<-hat,hst];simp[List.map_take,List.map_drop]
     simp[execOp,hop,hpv,hxv.1,AV.den,Instr.storeAt,Instr.sureAddr,storeVar,hdc,hsz,hc1,hst']
    cases hr
   cases hr
  cases hr
 |fieldAddr t p f=>
  rw[hop]at hr;simp only[C4]at hr
  split at hr
  .rename_i key b off ti hp hti
   obtain⟨y,hy,rfl⟩:=Option.map_eq_some_iff.1 hr;have hpv:=(V (x:=p) (by rw[hp];rfl)).1;rw[hp]at hpv;obtain⟨fs,hu,fd,hfd,hfo,hfz,hf0,_⟩:=(o5 hT hti).fields f y hy;refine o4 (v:=(AV.ptr key b (off+y.1)).den) (w':=w) ?_ (hK _ _ w hr0 h fun _=>.ptr _ _ _);simp[execOp,hop,hpv,AV.den,Instr.fieldAt,run_underlying hu,hfd,Instr.sureAddr,fieldPlace,hfz w,hf0,Addr.add_lit,hfo]
  .rename_i A' j k off cells ti hp hti
   obtain⟨y,hy,rfl⟩:=Option.map_eq_some_iff.1 hr;have hpv:=V (x:=p) (by rw[hp];rfl);rw[hp]at hpv;obtain⟨hpv,hpo⟩:=hpv
   cases hpo with
   |ep _ _ _ _ _ hA hcl h1 h2=>
    obtain⟨b,o0,rfl⟩:=hA;obtain⟨fs,hu,fd,hfd,hfo,hfz,hf0,_⟩:=(o5 hT hti).fields f y hy;refine o4 (v:=(AV.ep (some ⟨b,o0,none⟩) j k (off+y.1) cells).den) (w':=w) ?_ (hK _ _ w hr0 h fun _=>.ep _ _ _ _ _ ⟨_,_,rfl⟩ hcl h1 h2);simp[execOp,hop,hpv,AV.den,Instr.fieldAt,run_underlying hu,hfd,Instr.sureAddr,fieldPlace,hfz w,hf0,Addr.add_lit,hfo,Nat.add_assoc]
  cases hr
 |field t x f=>
  rw[hop]at hr;simp only[C4]at hr
  split at hr
  .rename_i l ti hx hti
   split at hr
   .rename_i off n agg hf
    obtain⟨v,hv,rfl⟩:=Option.map_eq_some_iff.1 hr;have hxv:=V (x:=x) (by rw[hx];rfl);rw[hx]at hxv;obtain⟨hxv,hxo⟩:=hxv
    cases hxo with
    |agg _ h1 h2=>
     obtain⟨hok,hv⟩:=np hv (fun x hx=>⟨h1 x hx,h2 x hx⟩);obtain⟨fs,hu,fd,hfd,hfo,hfz,hf0,hag⟩:=(o5 hT hti).fields f _ hf;refine o4 (v:=v.den) (w':=w) ?_ (hK _ _ w hr0 h fun _=>hok);simp only at hfo hfz hf0 hag
     cases agg with
     |true=>
      rw[if_pos rfl]at hv;obtain⟨hl,rfl⟩:=hv;simp[execOp,hop,hxv,AV.den,E3,Instr.field,run_underlying hu,hfd,asAgg,part,hag w,hfz w,hfo,List.map_take,List.map_drop]
     |false=>
      rw[if_neg (by simp)]at hv;simp[execOp,hop,hxv,AV.den,E3,Instr.field,run_underlying hu,hfd,asAgg,part,hag w,hfz w,hfo,hv]
   cases hr
  cases hr
 |indexAddr t p ix=>
  rw[hop]at hr;simp only[C4]at hr
  split at hr
  .rename_i gx A' n c k cells ki j ti hp hix hti
   split at hr
   .rename_i e ek hel
    split at hr
    .rename_i hk
     subst hk;injection hr with hr;subst hr
     have hpv:=V (x:=p) (by rw[hp];rfl);have hiv:=(V (x:=ix) (by rw[hix];rfl)).1;rw[hp]at hpv;rw[hix]at hiv;obtain⟨hpv,hpo⟩:=hpv;have hb:0<=j/\j<(n:Int):=hob (.idx j n) (by simp);obtain⟨hu,hsz⟩:=(o5 hT hti).elem _ _ hel;have hjn:j.toNat<n:=by omega
     cases hpo with
     |sl _ _ _ _ _ _ g1 g2 g3 g4 g5 g6 g7=>
      obtain⟨b,o0,rfl⟩:=g4 _ hjn;refine o4 (v:=(AV.ep (some ⟨b,o0,none⟩) j.toNat ek 0 (cells j.toNat)).den) (w':=w) ?_ (hK _ _ w hr0 h fun _=>.ep _ _ _ _ _ ⟨_,_,rfl⟩ (g5 _ hjn) (g6 _ hjn) (g7 _ hjn));simp[execOp,hop,hpv,hiv,AV.den,Instr.indexAt,asIntOf,run_underlying hu,hb,hsz w,Addr.add_lit]
    cases hr
   cases hr
  .rename_i key b off ki j ti hp hix hti
   split at hr
   .rename_i n sz g har
    injection hr with hr;subst hr
    have hpv:=(V (x:=p) (by rw[hp];rfl)).1;have hiv:=(V (x:=ix) (by rw[hix];rfl)).1;rw[hp]at hpv;rw[hix]at hiv;have hb:0<=j/\j<(n:Int):=hob (.idx j n) (by simp);obtain⟨e,hu,hsz,_⟩:=(o5 hT hti).arr _ _ _ har;refine o4 (v:=(AV.ptr key b (off+j.toNat*sz)).den) (w':=w) ?_ (hK _ _ w hr0 h fun _=>.ptr _ _ _);simp[execOp,hop,hpv,hiv,AV.den,Instr.indexAt,asIntOf,run_underlying hu,hb,hsz w,Instr.sureAddr,Addr.add_lit]
   cases hr
  cases hr
 |extract x n=>
  rw[hop]at hr;simp only[C4]at hr
  split at hr
  .rename_i l hx
   obtain⟨v,hv,rfl⟩:=Option.map_eq_some_iff.1 hr;have hxv:=V (x:=x) (by rw[hx];rfl);rw[hx]at hxv;obtain⟨hxv,hxo⟩:=hxv
   cases hxo with
   |tup _ h1=>
    refine o4 (v:=v.den) (w':=w) ?_ (hK _ _ w hr0 h fun _=>h1 v (List.mem_of_getElem? hv));simp[execOp,hop,hxv,AV.den,E3,Instr.extract,hv]
  cases hr
 |binOp op t x y t'=>
  rw[hop]at hr;simp only[C4]at hr;obtain⟨e1,e2,e3⟩:r.2.1 = .no/\(execOp a.eval o).run P w = .ok (.value r.1.den) w/\∀m w,Ok m w r.1:=by
   split at hr
   .rename_i c hc
    have hx:∃tt v,val s q x = .opt c tt v:=by
     unfold He at hc
     split at hc
     .rename_i b tt v he
      injection hc with hc;subst hc
      exact⟨tt,v,he⟩
     cases hc
    obtain⟨tt,v,hx⟩:=hx;have hxv:=(V (x:=x) (by rw[hx];rfl)).1;rw[hx]at hxv;exact tI (q:=q) hT hxv hr hop
   split at hr
   .rename_i hn
    have hx:val s q x = .nili:=by
     unfold Bn at hn
     split at hn
     .assumption
     cases hn
    have hxv:=(V (x:=x) (by rw[hx];rfl)).1;rw[hx]at hxv;exact tJ (q:=q) hT hxv hr hop
   exact tK (w:=w) hT (fun hk=>(V hk).1) (fun hk=>(V hk).1) hr hob hop
  refine o4 (v:=r.1.den) (w':=w) e2 (hK _ _ w hr0 ?_ fun _=>e3 _ _);rw[e1];exact h
 |unOp op t x=>
  rw[hop]at hr;simp only[C4]at hr
  cases op with
  |not=>
   split at hr
   .rename_i hx
    injection hr with hr;subst hr
    have hxv:=(V (x:=x) (by rw[hx];rfl)).1;rw[hx]at hxv;exact o4 (v:=.bool false) (w':=w) (by simp[execOp,hop,hxv,AV.den,BE.den,Op.unary]) (hK _ _ w hr0 h fun _=>.bool _)
   .rename_i hx
    injection hr with hr;subst hr
    have hxv:=(V (x:=x) (by rw[hx];rfl)).1;rw[hx]at hxv;exact o4 (v:=.bool true) (w':=w) (by simp[execOp,hop,hxv,AV.den,BE.den,Op.unary]) (hK _ _ w hr0 h fun _=>.bool _)
   .rename_i b _ hx
    injection hr with hr;subst hr
    have hxv:=(V (x:=x) (by rw[hx];rfl)).1;rw[hx]at hxv;exact o4 (v:=.bool !b) (w':=w) (by simp[execOp,hop,hxv,AV.den,BE.den,Op.unary]) (hK _ _ w hr0 h fun _=>.bool _)
   cases hr
  |_=>simp at hr
 |call c=>
  rw[hop]at hr;simp only[C4]at hr
  split at hr
  .rename_i hcal
   split at hr
   .rename_i x t hargs htys
    split at hr
    .rename_i sx ti hx hti
     split at hr
     .rename_i hst
      injection hr with hr;subst hr
      have hxv:=(V (x:=x) (by rw[hx];rfl)).1;rw[hx]at hxv;have hu:=(o5 hT hti).str hst;have ha:c.args = #[x]:=by apply Array.ext';simpa using hargs
      have ht':c.argTypes = #[t]:=by apply Array.ext';simpa using htys
      refine o4 (v:=.int .i64 (sx.size:Int)) (w':=w) ?_ (hK _ _ w hr0 h fun _=>.int _ _);simp[execOp,hop,resolve,hcal,invoke,builtin,Builtin.len_,ha,ht',hxv,AV.den,run_underlying hu,goInt]
     cases hr
    .rename_i gx A' n c' k cells ti hx hti
     split at hr
     .rename_i ek hel
      injection hr with hr;subst hr
      have hxv:=(V (x:=x) (by rw[hx];rfl)).1;rw[hx]at hxv;have hu:=((o5 hT hti).elem ek.1 ek.2 hel).1;have ha:c.args = #[x]:=by apply Array.ext';simpa using hargs
      have ht':c.argTypes = #[t]:=by apply Array.ext';simpa using htys
      refine o4 (v:=.int .i64 (n:Int)) (w':=w) ?_ (hK _ _ w hr0 h fun _=>.int _ _);simp[execOp,hop,resolve,hcal,invoke,builtin,Builtin.len_,ha,ht',hxv,AV.den,run_underlying hu,goInt]
     cases hr
    cases hr
   cases hr
  .rename_i hcal
   split at hr
   .rename_i o1 o2 t1 t2 hargs htys
    split at hr
    .rename_i ht12
     subst ht12;have ha:c.args = #[o1,o2]:=by apply Array.ext';simpa using hargs
     have ht':c.argTypes = #[t1,t1]:=by apply Array.ext';simpa using htys
     have hstep:∀x,C4 std T cs x i s q d o.type o.op=Q2 std T x s d t1 (val s q o1) (val s q o2):=by
      intro x;rw[hop];simp only[C4,hcal,hargs,htys,if_true]
     have hrun:∀{v:Value} {w':World},(Builtin.append_ #[t1,t1] o.type #[a.eval o1,a.eval o2]).run P w = .ok v w'->(execOp a.eval o).run P w = .ok (.value v) w':=by
      intro v w' hrun;simp[execOp,hop,resolve,hcal,invoke,builtin,ha,ht',hrun]
     unfold Q2 at hr
     split at hr
     .rename_i gx A1 n c1 k cells g' A2 n' c2 k' cells' ti hx hy hti
      split at hr
      .rename_i e ek hel
       split at hr
       .rename_i hke
        obtain⟨hke,hby⟩:=hke;subst hke;have hxv:=V (x:=o1) (by rw[hx];rfl);have hyv:=V (x:=o2) (by rw[hy];rfl);rw[hx]at hxv;rw[hy]at hyv;obtain⟨z,E⟩:=(o5 hT hti).elty _ _ hel hby
        split at hr
        .rename_i key
         split at hr
         .rename_i t ht
          split at hr
          .rename_i hte
           obtain⟨hk1,hk2,hk3⟩:=hte;subst hk1;subst hk3;injection hr with hr;subst hr
           obtain⟨q1,q2,q3⟩:t.A=A1/\t.n=n/\t.c=c1:=hob (.eqT t A1 n c1) (by simp);obtain⟨q4,q5⟩:n+n'<=maxLen/\(n+n')*ti.ebytes<=140737488355328:=hob (.room (std.nadd n n') ti.ebytes) (by simp);rw[<-q1,<-q2,<-q3,<-hk2]at hxv;rw[<-hk2]at hyv E;obtain⟨A3,c3,w',r1,r2,r3⟩:=h.append ht hxv.2 hyv.2 E o.type (by rw[q2];exact q4) (by rw[q2];exact q5);have e1:a.eval o1=t.v:=hxv.1;have e2:a.eval o2 = .slice A2 n' c2:=hyv.1;refine o4 (v:=.slice A3 (t.n+n') c3) (w':=w') (hrun (by rw[e1,e2];exact r1)) ?_;have hst:=hstep ⟨0,fun _=>A3,fun _=>c3,fun _=>.empty⟩;simp only[Q2,hx,hy,hti,hel,ht,hk2,and_self,if_true,hby,ne_eq,not_false_eq_true]at hst;rw[hk2,q2]at r2 r3;rw[q2];exact hK _ _ _ hst r2 fun _=>r3
          cases hr
         cases hr
        split at hr
        .rename_i hnil
         injection hr with hr;subst hr
         obtain⟨q4,q5⟩:n'<=maxLen/\n'*ti.ebytes<=140737488355328:=hob (.room n' ti.ebytes) (by simp);have hnl:A1=none/\n=0/\c1=0:=by
          rw[hx]at hnil
          cases A1<;>cases n<;>cases c1<;>simp[uw]at hnil ⊢
         obtain⟨rfl,rfl,rfl⟩:=hnl;have hkpos:=E.pos;obtain⟨f1,f2⟩:=h.nilTok d k' e hkpos;have hlk:j7 (s.eff (.grow d ⟨none,0,0,k',e⟩)).gr d=some ⟨none,0,0,k',e⟩:=by simp[St.eff,F3]
         have hx0:Ok ((s.eff (.grow d ⟨none,0,0,k',e⟩)).m C) w (.sl (some d) none 0 0 k' (fun _=>[])):=.sl _ _ _ _ _ _ (Nat.le_refl _) (by simp) (fun i hi=>by omega) (fun i hi=>by omega) (fun i hi=>by omega) (fun i hi=>by omega) (fun i hi=>by omega);obtain⟨A3,c3,w',r1,r2,r3⟩:=f1.append hlk hx0 (f2 _ hyv.2) E o.type (by simp only;omega) (by simp only[Nat.zero_add];exact q5);have e1:a.eval o1 = .slice none 0 0:=hxv.1;have e2:a.eval o2 = .slice A2 n' c2:=hyv.1;simp only[Gr.v,Nat.zero_add]at r1 r2 r3;refine o4 (v:=.slice A3 n' c3) (w':=w') (hrun (by rw[e1,e2];exact r1)) ?_;have hst:=hstep ⟨0,fun _=>A3,fun _=>c3,fun _=>.empty⟩;simp only[Q2,hx,hy,hti,hel,hby,ne_eq,not_false_eq_true,and_self,if_true,uw]at hst;have hal:T4 ((s.eff (.grow d ⟨none,0,0,k',e⟩)).eff (.grow d ⟨A3,n',c3,k',e⟩)) (s.eff (.grow d ⟨A3,n',c3,k',e⟩)):=by
          refine⟨rfl,fun _=>rfl,fun _=>rfl,fun _=>rfl,fun k=>?_⟩;simp only[St.eff,F3,bz]
          split<;>rfl
         refine hK _ _ _ hst (r2.alike hal) fun _=>?_
         rw[<-hal.m C];have hcells:D3 0 (fun _=>[]) cells'=cells':=by funext i;simp[D3]
         rw[hcells]at r3;exact r3
        cases hr
       cases hr
      cases hr
     cases hr
    cases hr
   cases hr
  .rename_i hcal
   split at hr
   .rename_i o1 o2 hargs
    split at hr
    .rename_i k x k' y hx hy
     injection hr with hr;subst hr
     have hxv:=(V (x:=o1) (by rw[hx];rfl)).1;have hyv:=(V (x:=o2) (by rw[hy];rfl)).1;rw[hx]at hxv;rw[hy]at hyv;have ha:c.args = #[o1,o2]:=by apply Array.ext';simpa using hargs
     refine o4 (v:=.int k (if y<x then y else x)) (w':=w) ?_ (by
      have e:std.ich (std.cmp .lss y x) y x=if y<x then y else x:=by simp[std,d4]
      have:=hK _ _ w hr0 h fun _=>.int _ _
      rw[e]at this;exact this)
     simp[execOp,hop,resolve,hcal,invoke,builtin,Builtin.min_,Builtin.min2,ha,hxv,hyv,AV.den,Result.andThen]
    cases hr
   cases hr
  .rename_i hcal
   split at hr
   .rename_i o1 o2 hargs
    split at hr
    .rename_i k x k' y hx hy
     injection hr with hr;subst hr
     have hxv:=(V (x:=o1) (by rw[hx];rfl)).1;have hyv:=(V (x:=o2) (by rw[hy];rfl)).1;rw[hx]at hxv;rw[hy]at hyv;have ha:c.args = #[o1,o2]:=by apply Array.ext';simpa using hargs
     refine o4 (v:=.int k (if x<y then y else x)) (w':=w) ?_ (by
      have e:std.ich (std.cmp .lss x y) y x=if x<y then y else x:=by simp[std,d4]
      have:=hK _ _ w hr0 h fun _=>.int _ _
      rw[e]at this;exact this)
     simp[execOp,hop,resolve,hcal,invoke,builtin,Builtin.max_,Builtin.max2,ha,hxv,hyv,AV.den,Result.andThen]
    cases hr
   cases hr
  .rename_i g hcal
   have hstep:∀x,C4 std T cs x i s q d o.type o.op=aD s x (val s q g) (vP cs i) (Y3 s q c.args.toList):=by
    intro x;rw[hop];simp only[C4,hcal]
   unfold aD at hr;have enter:∀{f:Nat} {l r' args:List AV},val s q g = .fn f l r'->Y3 s q c.args.toList=some args->l8 P f →
     (execOp a.eval o).run P w = .ok (.enter f ((l++args++r').map AV.den).toArray) w/\∀v∈l++args++r',Ok (s.m C) w v:=by
    intro f l r' args hg hl hent;have hgv:=V (x:=g) (by rw[hg];rfl);rw[hg]at hgv;obtain⟨h1,h2⟩:=dt h hq hl;have hargs:c.args.map a.eval=(args.map AV.den).toArray:=by
     apply Array.ext'
     simpa using h1
    have e1:a.eval g = .func (.func f) (l.map AV.den).toArray (r'.map AV.den).toArray:=by
     have:=hgv.1
     simpa[AV.den,E3]using this
    have hent':=hent ((l++args++r').map AV.den).toArray w;refine⟨?_,fun v hv=>?_⟩
    .simp only[List.map_append]at hent'
     simp[execOp,hop,resolve,hcal,e1,Deferred.ofValue,invoke,hargs,List.append_assoc]
     simpa[List.append_assoc]using hent'
    cases hgv.2 with
    |fn _ _ _ k1 k2=>
     rcases List.mem_append.1 hv with hv|hv
     .rcases List.mem_append.1 hv with hv|hv
      .exact k1 v hv
      exact h2 v hv
     exact k2 v hv
   split at hr
   .rename_i f l r' res args hg hres hl
    injection hr with hr;subst hr
    obtain⟨hent,hsp⟩:l8 P f/\k9 P f (l++args++r') res:=hob (.call f (l++args++r') res) (by simp);obtain⟨hrun,hok⟩:=enter hg hl hent;unfold Oper.wp;rw[hrun];simp only[Oper.upon];refine(hsp (s.m C) w (qm h) hok).mono ?_
    rintro e w' ⟨x,rfl,hok,hb⟩
    exact hK x (res x,.no,[.call f (l++args++r') res]) w' (by rw[hstep,hg,hres,hl];rfl) (h.below hb) fun _=>hok
   .rename_i f l r' res args hg hres hl
    split at hr
    .rename_i pre hpre
     split at hr
     .rename_i hnd
      injection hr with hr;subst hr
      obtain⟨hent,hsp⟩:l8 P f/\C1 P f (l++args++r') pre res:=hob (.callX f (l++args++r') pre res) (by simp);obtain⟨hrun,hok⟩:=enter hg hl hent;obtain⟨p1,p2⟩:=mb hpre;have hd:=ao h hnd p2;unfold Oper.wp;rw[hrun];simp only[Oper.upon];refine(hsp (s.m C) w (qm h) hok ⟨fun e he=>(h.mem _ _ (p2 e he)).1,fun e he=>(h.mem _ _ (p2 e he)).2.1,fun e he o=>.inr (.inl ⟨e.1,e.2,p2 e he,rfl⟩),hd⟩).mono ?_
      rintro e w' ⟨x,rfl,hok,hleft⟩
      obtain⟨f1,f2⟩:=h.called hd p2 hleft;have hpx:aX s (res x).sets=some pre:=by rw[mc (hleft.keys.trans p1.symm),hpre]
      exact hK x ((res x).v,.sets (upd pre (res x).sets++(res x).news),[.callX f (l++args++r') pre res]) w' (by rw[hstep,hg,hres,hl];simp only[aD,hpx,hnd,if_true]) f1 fun _=>f2 _ hok
     cases hr
    cases hr
   .rename_i f l r' ks res args hg hres hl
    split at hr
    .rename_i pre hpre
     split at hr
     .rename_i hnd
      injection hr with hr;subst hr
      obtain⟨hent,hsp⟩:l8 P f/\HG P C.K f (l++args++r') pre res:=hob (.callR f (l++args++r') pre res) (by simp);obtain⟨hrun,hok⟩:=enter hg hl hent;obtain⟨_,p2⟩:=mb hpre;have hd:=ao h hnd p2;unfold Oper.wp;rw[hrun];simp only[Oper.upon];refine(hsp (s.m C) w (qm h) hok ⟨fun e he=>(h.mem _ _ (p2 e he)).1,fun e he=>(h.mem _ _ (p2 e he)).2.1,fun e he o=>.inr (.inl ⟨e.1,e.2,p2 e he,rfl⟩),hd⟩ h.kept).mono ?_
      rintro e w' ⟨x,rfl,hok,hb⟩
      exact hK x (res x,.rd ks,[.callR f (l++args++r') pre res]) w' (by rw[hstep,hg,hres,hl];simp only[aD,hpre,hnd,if_true]) (h.below hb) fun _=>hok
     cases hr
    cases hr
   cases hr
  cases hr
 |buildSlice t n parts=>
  rw[hop]at hr;simp only[C4]at hr
  split at hr
  .rename_i ti l hti hl
   split at hr
   .rename_i e k hel
    split at hr
    .rename_i te hte
     split at hr
     .cases hr
     rename_i hc
     simp only[not_or,Decidable.not_not]at hc;obtain⟨hc1,hc2,hc3⟩:=hc;obtain⟨cells,hf,rfl⟩:=Option.map_eq_some_iff.1 hr;obtain⟨hu,hsz⟩:=(o5 hT hti).elem _ _ hel;obtain⟨z,hz,hzc,hz1⟩:=(o5 hT hte).zero;obtain⟨hp1,hp2⟩:=ia h hq hl;have hzs:z.cells.size=k:=by rw[hzc];simpa using hc2
     have hk:0<k:=by
      rcases Nat.eq_zero_or_pos k with h0|h0
      .subst h0;simp at hc1
      exact h0
     have hfl:=fK (places k 0 n) (fun i=>some (i*k,k)) (fun f x hx=>by
      obtain⟨g1,g2⟩:=gu k n 0 f x hx;rw[Nat.zero_add]at g1;simp[g1,g2]) (s.m C) w l (eQ te.zero n) cells (fun v hv=>⟨(hz1 v (jz hv)).1,(hz1 v (jz hv)).2 _ _⟩) hp2 hf
     have hlen:cells.length=n*k:=by rw[mV hf,jA,hc2]
     have hzero:((Array.range (n*k)).map fun j=>z.cells[j % z.cells.size]!)=((eQ te.zero n).map AV.den).toArray:=by
      apply Array.ext';apply List.ext_getElem?;intro j;simp only[Array.toList_map,List.getElem?_map,Array.toList_range]
      by_cases hj:j<n*k
      .have h1:(List.range (n*k))[j]? = some j:=by simp[hj]
       have h2:=oh te.zero n j (by rw[hc2];exact hj);have h3:j % te.zero.length<te.zero.length:=Nat.mod_lt _ (by omega);rw[h1,h2,List.getElem?_eq_getElem h3];simp only[Option.map_some,hzs];have h4:j % k<z.cells.size:=by rw[hzs];exact Nat.mod_lt _ hk
       rw[getElem!_pos z.cells _ h4]
       congr 1
       simp only[hzc,hc2];simp
      rw[List.getElem?_eq_none (by simp;omega),List.getElem?_eq_none (by rw[jA,hc2];omega)];rfl
     have hargs:(parts.map fun(i,x)=>(i,a.eval x)).toList=l.map fun y=>(y.1,y.2.den):=by
      rw[Array.toList_map];exact hp1
     have hb:=kB w (.cells (cells.map AV.den).toArray e);have hf':=h.below hb;have run:(execOp a.eval o).run P w = .ok (.value (.slice (some ⟨w.heap.size,0,none⟩) n n)) (w.alloc (.cells (cells.map AV.den).toArray e)):=by
      have hlim:¬(n*k>2^24):=by omega
      simp only[execOp,hop,Instr.buildSlice,Sem.run_bind,run_underlying hu,Result.andThen_ok,hsz w,Sem.run_pure];rw[if_neg hlim,if_neg hc1];simp only[Sem.run_bind,hz w,Result.andThen_ok,Sem.run_pure];rw[hargs,hzero,hfl.1];simp[newRow]
     have hn0:0<n:=by
      rcases Nat.eq_zero_or_pos n with h0|h0
      .subst h0;simp at hc1
      exact h0
     have hchunk:∀i,i<n->(C9 k cells i).length=k:=by
      intro i hi;have:=Nat.mul_le_mul_right k (show i+1<=n by omega)
      rw[Nat.add_mul,Nat.one_mul]at this;simp[C9];omega
     have hmem:∀i,∀v∈C9 k cells i,v∈cells:=fun i v hv=>List.mem_of_mem_drop (List.mem_of_mem_take hv)
     have mono:∀v,Ok (s.m C) w v->Ok (s.m C) (w.alloc (.cells (cells.map AV.den).toArray e)) v:=fun v hv=>hv.mono fun b o u h1 h2=>⟨(hb.cell (World.block_lt_of_cell? w _ h1)).trans h1,h2⟩
     have hnk:n<=n*k:=Nat.le_mul_of_pos_right n hk;have hmax:n<=maxLen:=by simp only[maxLen];omega
     have hok:∀g',Ok (s.m C) (w.alloc (.cells (cells.map AV.den).toArray e)) (.sl g' (some ⟨w.heap.size,0,none⟩) n n k (C9 k cells)):=?hok
     have hown:Own (w.alloc (.cells (cells.map AV.den).toArray e)) C.w0.heap.size e k (.slice (some ⟨w.heap.size,0,none⟩) n n) n (cells.map AV.den):=by
      refine⟨by rw[List.length_map];exact hlen,.inr ⟨w.heap.size,n,_,rfl,h.chg.size,heap_alloc_new w _,Nat.le_refl _,hn0,hmax,by simp[hlen],?_⟩⟩;rw[List.take_of_length_le (by simp[hlen])]
     have hadd:=hf'.addRow d ⟨some ⟨w.heap.size,0,none⟩,n,n,k,e⟩ hk (xs:=cells.map AV.den) hown (fun b hb'=>by
      have hbe:b=w.heap.size:=by
       simp only[Gr.v,B4,show ¬n=0 by omega]at hb'
       simpa using hb'.symm
      subst hbe;refine⟨fun k' e' he' he=>?_,fun k' t' ht' hv=>?_,fun o' u hu'=>?_⟩
      .have:=F2 (h.mem _ _ he').1;omega
      .obtain ⟨_,ys,hoo⟩:=h.gr k' t' ht'
       have:=(hoo.lt _ hv).2;omega
      rw[cell_of_row _ _ _ _ _ _ (heap_alloc_new w _)]at hu';have:=(Array.getElem?_eq_some_iff.1 hu').1;simp[hlen]at this;exact this)
     by_cases hqe:q.isEmpty=true
     .have hrx:C4 std T cs ⟨w.heap.size,fun _=>none,fun _=>0,fun _=>.empty⟩ i s q d o.type o.op=some (.sl (some d) (some ⟨w.heap.size,0,none⟩) n n k (C9 k cells),.grow d ⟨some ⟨w.heap.size,0,none⟩,n,n,k,e⟩,[]):=by rw[hr0,if_pos hqe]
      exact o4 (v:=.slice (some ⟨w.heap.size,0,none⟩) n n) (w':=w.alloc (.cells (cells.map AV.den).toArray e)) run (hK _ _ _ hrx hadd.1 fun _=>hadd.2 _ (hok _))
     .have hrx:C4 std T cs ⟨w.heap.size,fun _=>none,fun _=>0,fun _=>.empty⟩ i s q d o.type o.op=some (.sl none (some ⟨w.heap.size,0,none⟩) n n k (C9 k cells),.no,[]):=by rw[hr0,if_neg hqe]
      exact o4 (v:=.slice (some ⟨w.heap.size,0,none⟩) n n) (w':=w.alloc (.cells (cells.map AV.den).toArray e)) run (hK _ _ _ hrx hf' fun _=>hok _)
     intro g';refine .sl _ _ _ _ _ _ (Nat.le_refl _) (by simp only[maxLen];omega) hchunk (fun i hi=>⟨_,_,rfl⟩) (fun i hi=>?_) (fun i hi v hv=>(hfl.2 v (hmem i v hv)).1) (fun i hi v hv=>mono _ (hfl.2 v (hmem i v hv)).2);intro j u hu';refine⟨_,_,rfl,?_,fun hm=>?_⟩
     .rw [Nat.zero_add,cell_of_row _ _ _ _ _ _ (heap_alloc_new w _)]
      have hj:j<k:=by
       have:=(List.getElem?_eq_some_iff.1 hu').1
       rwa[List.length_map,hchunk i hi]at this
      simp only[C9,List.map_take,List.map_drop,List.getElem?_take_of_lt hj,List.getElem?_drop]at hu'
      simpa using hu'
     have:=qm h _ _ hm;omega
    cases hr
   cases hr
  cases hr
 |convert t t' x=>
  rw[hop]at hr;simp only[C4]at hr
  split at hr
  .rename_i k j ti ti' hx hti hti'
   split at hr
   .rename_i k1 k2 hi1 hi2
    injection hr with hr;subst hr
    have hxv:=(V (x:=x) (by rw[hx];rfl)).1;rw[hx]at hxv;have hu1:=(o5 hT hti).int _ hi1;have hu2:=(o5 hT hti').int _ hi2;refine o4 (v:=.int k2 (k2.wrap j)) (w':=w) ?_ (hK _ _ w hr0 h fun _=>.int _ _);simp[execOp,hop,convert,run_underlying hu1,run_underlying hu2,hxv,AV.den,Conv.intToInt]
   cases hr
  .rename_i gx A1 n c1 k cells ti ti' hx hti hti'
   split at hr
   .rename_i hc
    simp only[Bool.and_eq_true,beq_iff_eq]at hc;obtain⟨⟨hb,hst⟩,rfl⟩:=hc;injection hr with hr;subst hr
    have hby:∀i,i<n->∃x,cells i=[.int .u8 x]:=hob (.bytes n cells) (by simp)
    have hxv:=V (x:=x) (by rw[hx];rfl);rw[hx]at hxv;obtain⟨e1,hok⟩:=hxv;have e1:a.eval x = .slice A1 n c1:=e1;obtain⟨e,hu,hue⟩:=(o5 hT hti).bytes hb;have hu':=(o5 hT hti').str hst;have hrow:=cQ hok;have hn63:n<=maxLen:=by have:=hok;cases this with|sl _ _ _ _ _ _ g1 g2=>omega
    have hcells:=hok;refine o4 (v:=.string (eP n cells)) (w':=w) ?_ (hK _ _ w hr0 h fun _=>.str _ (by rw[zF,rQ];exact hn63));have hconv:=xC (P:=P) (w:=w) (A:=A1) (n:=n) (c:=c1) (cells:=cells) hby (fun i hi=>by cases hcells with|sl _ _ _ _ _ _ g1 g2 g3 g4=>exact g4 i hi) hrow;simp[execOp,hop,convert,run_underlying hu,run_underlying hu',run_underlying hue,e1,hconv]
   cases hr
  cases hr
 |slice t x lo hi mx=>
  rw[hop]at hr
  cases mx with
  |some m=>
   simp only[C4]at hr;have B:∀{d j:Int} {o':Operand},J3 std s q d (some o')=some j->∃k,a.eval o' = .int k j:=fun hb=>tj h hq hb
   split at hr
   .rename_i gx A1 n c1 k cells ti hx hti
    split at hr
    .rename_i e ek hel
     split at hr
     .rename_i hek
      subst hek
      split at hr
      .rename_i l hiO hh mm hlo hhi hmx
       injection hr with hr;subst hr
       have hxv:=V (x:=x) (by rw[hx];rfl);rw[hx]at hxv;have hb:0<=l/\l<=hh/\hh<=mm/\mm<=(c1:Int)/\hh<=(n:Int):=hob (.sl3 l hh mm n c1) (by simp);obtain⟨hu,hsz⟩:=(o5 hT hti).elem _ _ hel;obtain⟨e1,hok⟩:=hxv;have e1:a.eval x = .slice A1 n c1:=e1;obtain⟨k2,f2⟩:=B hhi;obtain⟨k3,f3⟩:=B hmx
       cases hok with
       |sl _ _ _ _ _ _ g1 g2 g3 g4 g5 g6 g7=>
        have c0:0<=mm/\mm<=(c1:Int):=by omega
        have c2:0<=hh/\hh<=((mm.toNat:Nat):Int):=by omega
        have c3:0<=l/\l<=((hh.toNat:Nat):Int):=by omega
        have run:(execOp a.eval o).run P w = .ok (.value (.slice (R0 A1 mm.toNat l.toNat ek) (hh.toNat-l.toNat) (mm.toNat-l.toNat))) w:=by
         cases lo with
         |none=>
          simp only[J3]at hlo;injection hlo with hlo;subst hlo
          simp only[execOp,hop,e1,f2,f3,Option.map_some,Option.map_none,Instr.sliceAt,Instr.slice,Instr.sliceBounds,Instr.sliceBound,asIntOf,Sem.run_bind,run_underlying hu,Result.andThen_ok,Sem.run_pure,if_pos c0,if_pos c2];simp[hsz w,R0]
         |some lo=>
          obtain⟨k1,f1⟩:=B hlo;simp only[execOp,hop,e1,f1,f2,f3,Option.map_some,Option.map_none,Instr.sliceAt,Instr.slice,Instr.sliceBounds,Instr.sliceBound,asIntOf,Sem.run_bind,run_underlying hu,Result.andThen_ok,Sem.run_pure,if_pos c0,if_pos c2,if_pos c3];simp[hsz w,R0]
        refine o4 (v:=.slice (R0 A1 mm.toNat l.toNat ek) (hh.toNat-l.toNat) (mm.toNat-l.toNat)) (w':=w) run (hK _ _ w hr0 h fun _=>?_);have hin:∀i,i<hh.toNat-l.toNat->l.toNat+i<n:=fun i hi=>by omega
        have hA:∀i,i<hh.toNat-l.toNat->∃b off,A1=some ⟨b,off,none⟩/\R0 A1 mm.toNat l.toNat ek=some ⟨b,off+l.toNat*ek,none⟩:=by
         intro i hi;obtain⟨b,off,rfl⟩:=g4 _ (hin i hi);refine⟨b,off,rfl,?_⟩;unfold R0;rw[if_neg (by omega)];simp[Addr.add_lit]
        refine .sl _ _ _ _ _ _ (by simp only[std];omega) (by simp only[std];omega) (fun i hi=>g3 _ (hin i hi)) (fun i hi=>?_) (fun i hi=>?_) (fun i hi=>g6 _ (hin i hi)) (fun i hi=>g7 _ (hin i hi))
        .obtain ⟨b,off,_,h2⟩:=hA i hi
         exact⟨b,_,h2⟩
        obtain⟨b,off,h1,h2⟩:=hA i hi;intro j u hu';obtain⟨b',off',h3,h4,h5⟩:=g5 _ (hin i hi) j u hu';rw[h1]at h3;injection h3 with h3;injection h3 with q1 q2;subst q1;subst q2
        have hs:off+l.toNat*ek+(i*ek+j)=off+((l.toNat+i)*ek+j):=by rw[Nat.add_mul];omega
        exact⟨b,off+l.toNat*ek,h2,by rw[hs];exact h4,by rw[hs];exact h5⟩
      cases hr
     cases hr
    cases hr
   cases hr
  |none=>
   simp only[C4]at hr;have B:∀{d j:Int} {o':Operand},J3 std s q d (some o')=some j->∃k,a.eval o' = .int k j:=fun hb=>tj h hq hb
   split at hr
   .rename_i y ti hx hti
    split at hr
    .rename_i l hh hlo hhi
     split at hr
     .rename_i hs
      injection hr with hr;subst hr
      have hxv:=V (x:=x) (by rw[hx];rfl);rw[hx]at hxv;have hb:0<=l/\l<=hh/\hh<=(y.size:Int):=hob (.sli l hh y.size) (by simp[std]);have hu:=(o5 hT hti).str hs;have hys:y.size<=maxLen:=by cases hxv.2 with|str _ h=>exact h
      refine o4 (v:=.string (y.extract l.toNat hh.toNat)) (w':=w) ?_ (hK _ _ w hr0 h fun _=>.str _ (by simp only[std];rw[ByteArray.size_extract];omega));have e1:a.eval x = .string y:=hxv.1
      cases lo with
      |none=>
       simp only[J3]at hlo;injection hlo with hlo;subst hlo
       cases hi with
       |none=>
        simp only[J3,std]at hhi;injection hhi with hhi;subst hhi
        simp[execOp,hop,e1,Instr.sliceAt,Instr.slice,Instr.sliceBounds,run_underlying hu]
       |some hi=>
        obtain⟨k2,g2⟩:=B hhi;have c2:0<=hh/\hh<=(y.size:Int):=by omega
        simp[execOp,hop,e1,g2,Instr.sliceAt,Instr.slice,Instr.sliceBounds,Instr.sliceBound,asIntOf,run_underlying hu,c2]
      |some lo=>
       obtain⟨k1,g1⟩:=B hlo
       cases hi with
       |none=>
        simp only[J3,std]at hhi;injection hhi with hhi;subst hhi
        have c1:0<=l/\l<=(y.size:Int):=by omega
        simp[execOp,hop,e1,g1,Instr.sliceAt,Instr.slice,Instr.sliceBounds,Instr.sliceBound,asIntOf,run_underlying hu,c1]
       |some hi=>
        obtain⟨k2,g2⟩:=B hhi;have c2:0<=hh/\hh<=(y.size:Int):=by omega
        have c1:0<=l/\l<=max hh 0:=by omega
        simp[execOp,hop,e1,g1,g2,Instr.sliceAt,Instr.slice,Instr.sliceBounds,Instr.sliceBound,asIntOf,run_underlying hu];rw[if_pos c2,if_pos c1]
     cases hr
    cases hr
   .rename_i gx A1 n c1 k cells ti hx hti
    split at hr
    .rename_i e ek hel
     split at hr
     .rename_i hek
      subst hek
      split at hr
      .rename_i l hh hlo hhi
       injection hr with hr;subst hr
       have hxv:=V (x:=x) (by rw[hx];rfl);rw[hx]at hxv;have hb:0<=l/\l<=hh/\hh<=(n:Int):=hob (.sli l hh n) (by simp);obtain⟨hu,hsz⟩:=(o5 hT hti).elem _ _ hel;obtain⟨e1,hok⟩:=hxv;have e1:a.eval x = .slice A1 n c1:=e1
       cases hok with
       |sl _ _ _ _ _ _ g1 g2 g3 g4 g5 g6 g7=>
        have run:(execOp a.eval o).run P w = .ok (.value (.slice (R0 A1 c1 l.toNat ek) (hh.toNat-l.toNat) (c1-l.toNat))) w:=by
         cases lo with
         |none=>
          simp only[J3]at hlo;injection hlo with hlo;subst hlo
          cases hi with
          |none=>
           simp only[J3,std]at hhi;injection hhi with hhi;subst hhi
           simp[execOp,hop,e1,Instr.sliceAt,Instr.slice,Instr.sliceBounds,run_underlying hu,hsz w,R0]
          |some hi=>
           obtain⟨k2,f2⟩:=B hhi;have c2:0<=hh/\hh<=(c1:Int):=by omega
           simp[execOp,hop,e1,f2,Instr.sliceAt,Instr.slice,Instr.sliceBounds,Instr.sliceBound,asIntOf,run_underlying hu,c2,hsz w,R0]
         |some lo=>
          obtain⟨k1,f1⟩:=B hlo
          cases hi with
          |none=>
           simp only[J3,std]at hhi;injection hhi with hhi;subst hhi
           have c2:0<=l/\l<=(n:Int):=by omega
           simp[execOp,hop,e1,f1,Instr.sliceAt,Instr.slice,Instr.sliceBounds,Instr.sliceBound,asIntOf,run_underlying hu,c2,hsz w,R0]
          |some hi=>
           obtain⟨k2,f2⟩:=B hhi;have c2:0<=hh/\hh<=(c1:Int):=by omega
           have c3:0<=l/\l<=((hh.toNat:Nat):Int):=by omega
           simp only[execOp,hop,e1,f1,f2,Option.map_some,Option.map_none,Instr.sliceAt,Instr.slice,Instr.sliceBounds,Instr.sliceBound,asIntOf,Sem.run_bind,run_underlying hu,Result.andThen_ok,Sem.run_pure,if_pos c2,if_pos c3];simp[hsz w,R0]
        refine o4 (v:=.slice (R0 A1 c1 l.toNat ek) (hh.toNat-l.toNat) (c1-l.toNat)) (w':=w) run (hK _ _ w hr0 h fun _=>?_);have hin:∀i,i<hh.toNat-l.toNat->l.toNat+i<n:=fun i hi=>by omega
        have hA:∀i,i<hh.toNat-l.toNat->∃b off,A1=some ⟨b,off,none⟩/\R0 A1 c1 l.toNat ek=some ⟨b,off+l.toNat*ek,none⟩:=by
         intro i hi;obtain⟨b,off,rfl⟩:=g4 _ (hin i hi);refine⟨b,off,rfl,?_⟩;unfold R0;rw[if_neg (by omega)];simp[Addr.add_lit]
        refine .sl _ _ _ _ _ _ (by simp only[std];omega) (by simp only[std];omega) (fun i hi=>g3 _ (hin i hi)) (fun i hi=>?_) (fun i hi=>?_) (fun i hi=>g6 _ (hin i hi)) (fun i hi=>g7 _ (hin i hi))
        .obtain ⟨b,off,_,h2⟩:=hA i hi
         exact⟨b,_,h2⟩
        obtain⟨b,off,h1,h2⟩:=hA i hi;intro j u hu';obtain⟨b',off',h3,h4,h5⟩:=g5 _ (hin i hi) j u hu';rw[h1]at h3;injection h3 with h3;injection h3 with q1 q2;subst q1;subst q2
        have hs:off+l.toNat*ek+(i*ek+j)=off+((l.toNat+i)*ek+j):=by rw[Nat.add_mul];omega
        exact⟨b,off+l.toNat*ek,h2,by rw[hs];exact h4,by rw[hs];exact h5⟩
      cases hr
     cases hr
    cases hr
   cases hr
 |index t x ix=>
  rw[hop]at hr;simp only[C4]at hr
  split at hr
  .rename_i y ki j ti hx hix hti
   split at hr
   .rename_i hs
    injection hr with hr;subst hr
    have hxv:=(V (x:=x) (by rw[hx];rfl)).1;have hiv:=(V (x:=ix) (by rw[hix];rfl)).1;rw[hx]at hxv;rw[hix]at hiv;have hb:0<=j/\j<(y.size:Int):=hob (.idx j y.size) (by simp[std]);have hu:=(o5 hT hti).str hs;have hlt:j.toNat<y.size:=by omega
    refine o4 (v:=.int .u8 ((y[j.toNat]?.getD 0).toNat:Int)) (w':=w) ?_ (hK _ _ w hr0 h fun _=>.int _ _);simp[execOp,hop,hxv,hiv,AV.den,Instr.index,asIntOf,run_underlying hu,hb,hlt]
   cases hr
  .rename_i l ki j ti hx hix hti
   split at hr
   .rename_i n sz g har
    obtain⟨v,hv,rfl⟩:=Option.map_eq_some_iff.1 hr;have hxv:=V (x:=x) (by rw[hx];rfl);have hiv:=(V (x:=ix) (by rw[hix];rfl)).1;rw[hx]at hxv;rw[hix]at hiv;obtain⟨hxv,hxo⟩:=hxv;have hb:0<=j/\j<(n:Int):=hob (.idx j n) (by simp);obtain⟨e,hu,hsz,hag⟩:=(o5 hT hti).arr _ _ _ har
    cases hxo with
    |agg _ h1 h2=>
     obtain⟨hok,hv⟩:=np hv (fun x hx=>⟨h1 x hx,h2 x hx⟩);refine o4 (v:=v.den) (w':=w) ?_ (hK _ _ w hr0 h fun _=>hok)
     cases g with
     |true=>
      rw[if_pos rfl]at hv;obtain⟨hl,rfl⟩:=hv;simp[execOp,hop,hxv,hiv,AV.den,E3,Instr.index,asIntOf,run_underlying hu,hb,part,hag w,hsz w,List.map_take,List.map_drop]
     |false=>
      rw[if_neg (by simp)]at hv;simp[execOp,hop,hxv,hiv,AV.den,E3,Instr.index,asIntOf,run_underlying hu,hb,part,hag w,hsz w,hv]
   cases hr
  cases hr
 |_=>rw[hop]at hr;simp[C4]at hr
end
def rK(s:St)(t:Nat):AV:=match M4 s.gs t with
 |some (_,v)=>v
 |none=>look s.tmps t
def jj(s:St):List (Nat×Bool)->Option (List (BE×Bool))
 | []=>some []
 |(t,b)::l=>match rK s t,jj s l with
  | .bool e,some r=>some ((e,b)::r)
  |_,_=>none
def gK(s:St):Option Nat->Bool
 |none=>true
 |some d=>Nat.blt d s.nt
def Ht:Option Nat->Nat
 |none=>0
 |some d=>d
structure F7 where
 d:Option Nat
 cons:List Nat
 rk:List Nat
 wk:List Nat
 qs:List Nat
 rg:List Nat
 wg:List Nat
inductive Put where
 |plain (v:AV)
 |guarded (q:List (Nat×Bool)) (v:AV)
structure T2 where
 e:Eff
 d:Option Nat
 p:Put
def St.app(s:St)(δ : T2):St:=match δ.p,δ.d with
 | .plain v,d=>(s.eff δ.e).put d v
 | .guarded q v,some d=>(s.eff δ.e).putG d q v
 | .guarded _ _,none=>s
def tl:List Operand->List Nat
 | []=>[]
 | .tmp t::l=>t::tl l
 |_::l=>tl l
def pg:Callee->List Operand
 | .value o=>[o]
 |_=>[]
def C3:Op->List Nat
 | .move x| .nilCheck x| .assign x| .box _ x| .load _ x| .fieldAddr _ x _| .field _ x _| .extract x _| .unOp _ _ x| .makeInterface _ x=>tl [x]
 | .pick c a b=>tl [c,a,b]
 | .build _ ps=>tl (ps.toList.map (·.2))
 | .convert _ _ x=>tl [x]
 | .buildSlice _ _ ps=>tl (ps.toList.map (·.2))
 | .slice _ x lo hi mx=>tl (x::(lo.toList++(hi.toList++mx.toList)))
 | .store _ a v| .binOp _ _ a v _| .indexAddr _ a v| .index _ a v| .lookup _ a v _=>tl [a,v]
 | .call c=>tl (pg c.callee++c.args.toList)
 | .makeFunc _ first cap=>tl (first.toList++cap.toList)
 |_=>[]
def keyOf:AV->List Nat
 | .ptr key _ _=>[key]
 |_=>[]
def aR(s:St)(q:List (Nat×Bool)):Op->List Nat
 | .load _ p| .store _ p _=>keyOf (val s q p)
 |_=>[]
def nJ:Eff->List Nat
 | .new k _=>[k]
 | .set k _=>[k]
 | .sets l=>l.map (·.1)
 |_=>[]
def Ac:Eff->List Nat
 | .rd ks=>ks
 |_=>[]
def rT:Eff->Bool
 | .no| .rd _=>true
 |_=>false
theorem xI{e:Eff}(h:rT e=true)(s:St):s.eff e=s:=by cases e<;>first|rfl|cases h
theorem Ah{e:Eff}(h:rT e=true):nJ e=[]:=by cases e<;>first|rfl|cases h
def KQ:Eff->List Nat
 | .grow k _=>[k]
 |_=>[]
def fJ:AV->List Nat
 | .sl (some g) _ _ _ _ _=>[g]
 |_=>[]
def ah(s:St)(q:List (Nat×Bool)):Op->List Nat
 | .call c=>match c.args.toList with
  |o::_=>fJ (val s q o)
  | []=>[]
 |_=>[]
def io(A:Alg)(T:List (Nat×TI))(cs:List (Nat×CS))(x:j8)(i:Nat)(o:Oper)(s:St)(ex:List Nat):Option (T2×List Ob×F7):=
 match C4 A T cs x i s [] (Ht o.dst) o.type o.op,gK s o.dst with
 |some (v,e,obs),true=>some (⟨e,o.dst,.plain v⟩,obs,⟨o.dst,C3 o.op++ex,aR s [] o.op++(nJ e++Ac e),nJ e,[],ah s [] o.op,KQ e⟩)
 |_,_=>none
def bK(o:Oper)(s:St)(ex:List Nat):Option (T2×List Ob×F7):=if gK s o.dst then some (⟨.no,o.dst,.plain .undef⟩,[],⟨o.dst,ex,[],[],[],[],[]⟩)else none
def gm(A:Alg)(T:List (Nat×TI))(cs:List (Nat×CS))(x:j8)(i:Nat)(o:Oper)(s:St)(ex:List Nat)(q:List (Nat×Bool)):Option (T2×List Ob×F7):=
 match o.dst with
 |none=>none
 |some d=>match C4 A T cs x i s q d o.type o.op,jj s q with
  |some (v,e,obs),some c=>if rT e&&Nat.blt d s.nt && !(Y8 q d)&&v.known then some (⟨.no,o.dst,.guarded q v⟩,obs.map (Ob.und c),⟨o.dst,C3 o.op++(ex++q.map (·.1)),aR s q o.op++Ac e,[],q.map (·.1),ah s q o.op,[]⟩)else none
  |_,_=>none
def P7(A:Alg)(T:List (Nat×TI))(cs:List (Nat×CS))(x:j8)(all:List Oper)(i:Nat)(o:Oper)(s:St):Option (T2×List Ob×F7):=
 match o.guard with
 |none=>io A T cs x i o s []
 |some (j,want)=>match(all[j]?).bind (·.dst)with
  |none=>none
  |some g=>match M4 s.gs g with
   |some (p,.bool .tt)=>if want then gm A T cs x i o s [g] p else bK o s [g]
   |some (p,.bool .ff)=>if want then bK o s [g]else gm A T cs x i o s [g] p
   |some (p,.bool (.v _))=>gm A T cs x i o s [g] ((g,want)::p)
   |some _=>none
   |none=>match look s.tmps g with
    | .bool .tt=>if want then io A T cs x i o s [g]else bK o s [g]
    | .bool .ff=>if want then bK o s [g]else io A T cs x i o s [g]
    | .bool (.v _)=>gm A T cs x i o s [g] [(g,want)]
    |_=>none
def i7(P:Program)(K:Kn):List Ob->Prop
 | []=>True
 |o::l=>o.holds P K/\i7 P K l
theorem i7.mem{P:Program}{K:Kn}{l:List Ob}(h:i7 P K l):∀o∈l,o.holds P K:=by
 induction l with
 |nil=>intro o ho;cases ho
 |cons x l ih=>
  intro o ho
  rcases List.mem_cons.1 ho with rfl|ho
  .exact h.1
  exact ih h.2 o ho
theorem i7.app{P:Program}{K:Kn}{l r:List Ob}:i7 P K (l++r)↔i7 P K l/\i7 P K r:=by
 induction l with
 |nil=>simp[i7]
 |cons x l ih=>simp[i7,ih,and_assoc]
section
variable {C:Cx} {s:St} {a:Act} {w:World} {P:Program} {K:Act->World->Prop} {Q:Exit->Act->World->Prop} {T:List (Nat×TI)} {cs:List (Nat×CS)} {ops:Array Oper}
theorem Ck(h:i5 C s a w){q:List (Nat×Bool)}(hq:cu a q):∀{c},jj s q=some c->∀e∈c,e.1.den=e.2:=by
 induction q with
 |nil=>intro c hc;simp[jj]at hc;subst hc;intro e he;cases he
 |cons y q ih=>
  obtain⟨t,b⟩:=y;intro c hc;simp only[jj]at hc
  split at hc
  .rename_i e r he hr
   injection hc with hc;subst hc
   intro x hx
   rcases List.mem_cons.1 hx with rfl|hx
   .have ht:=hq (t,b) (by simp)
    simp only at ht;unfold rK at he
    split at he
    .rename_i p v hg
     subst he;have:=h.gs _ _ _ hg rfl
     by_cases hp:cu a p
     .have:=(this.1 hp).1
      rw[ht]at this;injection this with this;injection this with this;exact this.symm
     have:=this.2 hp;rw[ht]at this
     cases this
    have:=(h.slot t (by rw[he];rfl)).1;rw[ht,he]at this;injection this with this;injection this with this;exact this.symm
   exact ih (fun x hx=>hq x (by simp[hx])) hr x hx
  cases hc
theorem iP{d:Option Nat}(h:gK s d=true):∀t,d=some t->t<s.nt:=by
 intro t ht;subst ht
 simpa[gK]using h
theorem nf(e:Eff):(s.eff e).nt=s.nt:=by cases e<;>rfl
theorem pX(hT:o7 P T){i:Nat}{o:Oper}{ex:List Nat}(h:i5 C s a w)(hs:∀x,∃r,io std T cs x i o s ex=some r/\i7 P C.K r.2.1)
  (hK:∀x r a' w',io std T cs x i o s ex=some r->i5 C (s.app r.1) a' w'->K a' w'):o.wp P a w K Q:=by
 refine lL (cs:=cs) (i:=i) (d:=Ht o.dst) (q:=[]) hT h (fun e he=>by cases he) (fun x=>?_) fun x r w' hr hf hok=>?_
 .obtain ⟨r,hr,hob⟩:=hs x
  unfold io at hr
  split at hr
  .rename_i v e obs hst _
   injection hr with hr;subst hr
   exact⟨_,hst,hob.mem⟩
  cases hr
 obtain⟨r',hr',_⟩:=hs x;have hr2:=hr';unfold io at hr';rw[hr]at hr';obtain⟨v,e,obs⟩:=r
 split at hr'
 .rename_i v' e' obs' heq hnt
  injection heq with heq;injection heq with h1 h2;injection h2 with h2 h3
  subst h1;subst h2;subst h3;injection hr' with hr';subst hr'
  refine hK x _ _ w' hr2 (hf.put o.dst ?_ v hok v.den fun _=>rfl);rw[nf];exact iP hnt
 cases hr'
theorem kX(hT:o7 P T){i:Nat}{o:Oper}{ex:List Nat}{q:List (Nat×Bool)}(h:i5 C s a w)(hw:Region.wanted o (yielded ops a.tmps)=true↔cu a q)(hs:∀x,∃r,gm std T cs x i o s ex q=some r/\i7 P C.K r.2.1)
  (hK:∀x r a' w',gm std T cs x i o s ex q=some r->i5 C (s.app r.1) a' w'->K a' w'):if Region.wanted o (yielded ops a.tmps)then o.wp P a w K Q else K (a.put o.dst Go.undef) w:=by
 have base:∀x r,gm std T cs x i o s ex q=some r->∃d v e obs c,o.dst=some d/\rT e=true/\C4 std T cs x i s q d o.type o.op=some (v,e,obs)/\jj s q=some c/\d<s.nt/\(∀y∈q,y.1≠d)/\v.known=true/\r.1=⟨.no,some d,.guarded q v⟩/\r.2.1=obs.map (Ob.und c):=by
  intro x r hr;unfold gm at hr
  split at hr
  .cases hr
  rename_i d hd
  split at hr
  .rename_i v e obs c hst hc
   split at hr
   .rename_i hb
    simp only[Bool.and_eq_true,Bool.not_eq_true']at hb;injection hr with hr
    refine⟨d,v,e,obs,c,hd,hb.1.1.1,hst,hc,(by simpa using hb.1.1.2),iC (by simp[hb.1.2]),hb.2,?_,?_⟩
    .rw [<-hr,hd]
    rw[<-hr]
   cases hr
  cases hr
 obtain⟨d,v0,e0,obs0,c0,hd,_,_,_,hdn,hqd,_,_⟩:=base _ _ (hs ⟨0,fun _=>none,fun _=>0,fun _=>.empty⟩).choose_spec.1
 split
 .rename_i hwt
  have hq:=hw.1 hwt;refine lL (cs:=cs) (i:=i) (d:=d) (q:=q) hT h hq (fun x=>?_) fun x r w' hr hf hok=>?_
  .obtain ⟨r,hr,hob⟩:=hs x
   obtain⟨d',v,e,obs,c,hd',hqe,hst,hc,_,_,_,_,ho⟩:=base x r hr;have:d'=d:=by rw[hd]at hd';injection hd' with e;exact e.symm
   subst this;refine⟨_,hst,fun ob hob'=>?_⟩;rw[ho]at hob;have:=hob.mem (.und c ob) (List.mem_map.2 ⟨ob,hob',rfl⟩);exact this (Ck h hq hc)
  obtain⟨r',hr',_⟩:=hs x;obtain⟨d',v,e,obs,c,hd',hqe,hst,hc,hlt,hne,hk,hr1,_⟩:=base x r' hr';have:d'=d:=by rw[hd]at hd';injection hd' with e;exact e.symm
  subst this;rw[hst]at hr;injection hr with hr;subst hr
  rw[hd];refine hK x r' _ w' hr' ?_;rw[hr1];simp only[xI hqe]at hf hok;exact hf.putG d' hlt q hne v v.den ⟨fun _=>⟨rfl,hok hk⟩,fun hn=>absurd hq hn⟩
 rename_i hwt
 have hq:¬cu a q:=fun hp=>hwt (hw.2 hp)
 obtain⟨r,hr,_⟩:=hs ⟨0,fun _=>none,fun _=>0,fun _=>.empty⟩;obtain⟨d',v,e,obs,c,hd',hqe,hst,hc,hlt,hne,hk,hr1,_⟩:=base _ r hr;rw[hd'];refine hK _ r _ w hr ?_;rw[hr1];exact h.putG d' hlt q hne v Go.undef ⟨fun hp=>absurd hp hq,fun _=>rfl⟩
theorem zI{o:Oper}{ex:List Nat}(h:i5 C s a w){r:T2×List Ob×F7}(hr:bK o s ex=some r):i5 C (s.app r.1) (a.put o.dst Go.undef) w:=by
 unfold bK at hr
 split at hr
 .rename_i hn
  injection hr with hr;subst hr
  exact h.put o.dst (iP hn) .undef (fun hk=>by cases hk) _ (fun hk=>by cases hk)
 cases hr
theorem jh(hT:o7 P T){i:Nat}{o:Oper}{all:List Oper}(hall:ops=all.toArray)(h:i5 C s a w)(hs:∀x,∃r,P7 std T cs x all i o s=some r/\i7 P C.K r.2.1)
  (hK:∀x r a' w',P7 std T cs x all i o s=some r->i5 C (s.app r.1) a' w'->K a' w'):if Region.wanted o (yielded ops a.tmps)then o.wp P a w K Q else K (a.put o.dst Go.undef) w:=by
 cases hg:o.guard with
 |none=>
  have hw:Region.wanted o (yielded ops a.tmps)=true:=by simp[Region.wanted,hg]
  rw[if_pos hw];simp only[P7,hg]at hs hK;exact pX hT h hs hK
 |some gw=>
  obtain⟨j,want⟩:=gw;simp only[P7,hg]at hs hK
  cases hd:(all[j]?).bind (·.dst)with
  |none=>simp only[hd]at hs;obtain⟨r,hr,_⟩:=hs ⟨0,fun _=>none,fun _=>0,fun _=>.empty⟩;cases hr
  |some g=>
   simp only[hd]at hs hK;have hy:Region.wanted o (yielded ops a.tmps)=true↔a.tmps[g]? = some (.bool want):=by
    subst hall;have hd':((all.toArray)[j]?).bind (·.dst)=some g:=by simpa using hd
    simp only[Region.wanted,hg,yielded,hd',Option.bind_some]
    cases hv:a.tmps[g]? with
    |none=>simp
    |some v=>cases v<;>simp
   have skip:∀r,bK o s [g]=some r-> ¬Region.wanted o (yielded ops a.tmps)=true->(∀(x:j8) (r:T2×List Ob×F7) (a':Act) (w':World),bK o s [g]=some r->i5 C (s.app r.1) a' w'->K a' w')->if Region.wanted o (yielded ops a.tmps)then o.wp P a w K Q else K (a.put o.dst Go.undef) w:=by
    intro r hr hn hk;rw[if_neg hn];exact hk ⟨0,fun _=>none,fun _=>0,fun _=>.empty⟩ r _ _ hr (zI h hr)
   cases hlg:M4 s.gs g with
   |some pv=>
    obtain⟨p,v⟩:=pv;have hgs:=fun hk=>h.gs _ _ _ hlg hk
    simp only[hlg]at hs hK
    cases v with
    |bool e=>
     have hgs:=hgs rfl;have hp:∀b,e.den=b->(a.tmps[g]? = some (.bool b)↔cu a p):=by
      intro b hb
      constructor
      .intro ht
       by_cases hpp:cu a p
       .exact hpp
       have:=hgs.2 hpp;rw[ht]at this;cases this
      intro hpp;have:=(hgs.1 hpp).1;rw[this,<-hb];rfl
     have hpn:∀b,e.den≠b-> ¬a.tmps[g]? = some (.bool b):=by
      intro b hb ht
      by_cases hpp:cu a p
      .have:=(hgs.1 hpp).1
       rw[ht]at this;injection this with this;injection this with this
       exact hb this.symm
      have:=hgs.2 hpp;rw[ht]at this;cases this
     cases e with
     |tt=>
      simp only at hs hK
      cases want with
      |true=>
       simp only[if_true]at hs hK;exact kX hT h (hy.trans (hp true rfl)) hs hK
      |false=>
       simp only[Bool.false_eq_true,if_false]at hs hK;obtain⟨r,hr,_⟩:=hs ⟨0,fun _=>none,fun _=>0,fun _=>.empty⟩;exact skip r hr (fun hw=>hpn false (by simp[BE.den]) (hy.1 hw)) (fun x=>hK x)
     |ff=>
      simp only at hs hK
      cases want with
      |true=>
       simp only[if_true]at hs hK;obtain⟨r,hr,_⟩:=hs ⟨0,fun _=>none,fun _=>0,fun _=>.empty⟩;exact skip r hr (fun hw=>hpn true (by simp[BE.den]) (hy.1 hw)) (fun x=>hK x)
      |false=>
       simp only[Bool.false_eq_true,if_false]at hs hK;exact kX hT h (hy.trans (hp false rfl)) hs hK
     |v b=>
      simp only at hs hK;refine kX hT h (hy.trans ?_) hs hK
      constructor
      .intro ht x hx
       rcases List.mem_cons.1 hx with rfl|hx
       .exact ht
       by_cases hpp:cu a p
       .exact hpp x hx
       have:=hgs.2 hpp;rw[ht]at this;cases this
      intro hpp;exact hpp (g,want) (by simp)
    |_=>obtain⟨r,hr,_⟩:=hs ⟨0,fun _=>none,fun _=>0,fun _=>.empty⟩;cases hr
   |none=>
    simp only[hlg]at hs hK
    cases hv:look s.tmps g with
    |bool e=>
     have hsl:=(h.slot g (by rw[hv];rfl)).1;rw[hv]at hsl;simp only[hv]at hs hK
     cases e with
     |tt=>
      simp only at hs hK
      cases want with
      |true=>
       simp only[if_true]at hs hK;rw[if_pos (hy.2 hsl)];exact pX hT h hs hK
      |false=>
       simp only[Bool.false_eq_true,if_false]at hs hK;obtain⟨r,hr,_⟩:=hs ⟨0,fun _=>none,fun _=>0,fun _=>.empty⟩;exact skip r hr (fun hw=>by rw[hy.1 hw]at hsl;cases hsl) (fun x=>hK x)
     |ff=>
      simp only at hs hK
      cases want with
      |true=>
       simp only[if_true]at hs hK;obtain⟨r,hr,_⟩:=hs ⟨0,fun _=>none,fun _=>0,fun _=>.empty⟩;exact skip r hr (fun hw=>by rw[hy.1 hw]at hsl;cases hsl) (fun x=>hK x)
      |false=>
       simp only[Bool.false_eq_true,if_false]at hs hK;rw[if_pos (hy.2 hsl)];exact pX hT h hs hK
     |v b=>
      simp only at hs hK;refine kX hT h (hy.trans ?_) hs hK
      constructor
      .intro ht x hx
       rcases List.mem_cons.1 hx with rfl|hx
       .exact ht
       cases hx
      intro hpp;exact hpp (g,want) (by simp)
    |_=>simp only[hv]at hs;obtain⟨r,hr,_⟩:=hs ⟨0,fun _=>none,fun _=>0,fun _=>.empty⟩;cases hr
end
def K3(A:Alg)(T:List (Nat×TI))(cs:List (Nat×CS))(X:Nat->j8)(all:List Oper):List (Nat×Oper)->St->Option (St×List Ob×List F7)
 | [],s=>some (s,[],[])
 |(i,o)::l,s=>match P7 A T cs (X i) all i o s with
  |none=>none
  |some (δ,ob,f)=>match K3 A T cs X all l (s.app δ)with
   |none=>none
   |some (s'',ob',fs)=>some (s'',ob++ob',f::fs)
def o9:Nat->List Oper->List (Nat×Oper)
 |_,[]=>[]
 |i,o::l=>(i,o)::o9 (i+1) l
theorem bw:∀{l:List Oper} {i:Nat},∀x∈o9 i l,i<=x.1
 | [],i,x,h=>by cases h
 |o::l,i,x,h=>by
  rcases List.mem_cons.1 h with rfl|h
  .exact Nat.le_refl _
  have:=bw x h;omega
theorem ar{A:Alg}{T:List (Nat×TI)}{cs:List (Nat×CS)}{X Y:Nat->j8}{all:List Oper}:∀(l:List (Nat×Oper)) (s:St),(∀x∈l,X x.1=Y x.1)->K3 A T cs X all l s=K3 A T cs Y all l s
 | [],_,_=>rfl
 |(i,o)::l,s,h=>by
  simp only[K3];rw[h (i,o) (by simp)]
  cases P7 A T cs (Y i) all i o s with
  |none=>rfl
  |some r=>obtain⟨δ,ob,f⟩:=r;simp only;rw[ar l _ (fun x hx=>h x (by simp[hx]))]
section
variable {C:Cx} {P:Program} {Q:Exit->Act->World->Prop} {T:List (Nat×TI)} {cs:List (Nat×CS)} {ops:Array Oper} {all:List Oper}
theorem R9{X:Nat->j8}{i:Nat}{o:Oper}{l:List (Nat×Oper)}{s:St}{A:Alg}{r}(hr:K3 A T cs X all ((i,o)::l) s=some r) :
  ∃δ ob f r',P7 A T cs (X i) all i o s=some (δ,ob,f)/\K3 A T cs X all l (s.app δ)=some r'/\r=(r'.1,ob++r'.2.1,f::r'.2.2):=by
 simp only[K3]at hr
 split at hr
 .cases hr
 rename_i δ ob f he
 split at hr
 .cases hr
 rename_i s'' ob' fs he'
 injection hr with hr
 exact⟨δ,ob,f,_,he,he',hr.symm⟩
theorem qF(hT:o7 P T)(hall:ops=all.toArray):∀(l:List Oper) (i:Nat) (s:St) (a:Act) (w:World),i5 C s a w->(∀X,∃r,K3 std T cs X all (o9 i l) s=some r/\i7 P C.K r.2.1) →
  (∀X r a' w',K3 std T cs X all (o9 i l) s=some r->i5 C r.1 a' w'->Q .normal a' w')->wpList P ops Q l a w
 | [],i,s,a,w,h,hs,hQ=>wpList_nil (hQ (fun _=>⟨0,fun _=>none,fun _=>0,fun _=>.empty⟩) _ a w rfl h)
 |o::l,i,s,a,w,h,hs,hQ=>by
  refine wpList_step fun K hK=>?_
  refine jh (cs:=cs) (i:=i) hT hall h (fun x=>?_) fun x r a' w' hr hf=>hK _ _ ?_
  .obtain ⟨r,hr,hob⟩:=hs (fun _=>x)
   obtain⟨δ,ob,f,r',h1,h2,rfl⟩:=R9 hr;exact⟨_,h1,(i7.app.1 hob).1⟩
  -- behind it: the same atoms from here on
  have put:∀X:Nat->j8,∃Y:Nat->j8,Y i=x/\∀j,i+1<=j->Y j=X j:=fun X=>⟨fun j=>if j=i then x else X j,by simp,fun j hj=>by simp only;rw[if_neg (by omega)]⟩
  refine qF hT hall l (i+1) (s.app r.1) a' w' hf (fun X=>?_) fun X r' a'' w'' hr' hf'=>?_
  .obtain ⟨Y,hY,hYX⟩:=put X
   obtain⟨r1,h1,hob⟩:=hs Y;obtain⟨δ,ob,f,r2,h2,h3,rfl⟩:=R9 h1;rw[hY,hr]at h2;injection h2 with h2;subst h2
   rw[ar _ _ (fun x hx=>hYX x.1 (bw x hx))]at h3;exact⟨r2,h3,(i7.app.1 hob).2⟩
  obtain⟨Y,hY,hYX⟩:=put X;obtain⟨r1,h1,hob⟩:=hs Y;have h1':=h1;obtain⟨δ,ob,f,r2,h2,h3,rfl⟩:=R9 h1;rw[hY,hr]at h2;injection h2 with h2;subst h2
  rw[ar _ _ (fun x hx=>hYX x.1 (bw x hx)),hr']at h3;injection h3 with h3;subst h3
  exact hQ Y _ a'' w'' h1' hf'
def iN(tmps:List (Nat×AV)):List Nat->List (Nat×AV)
 | []=>[]
 |t::l=>if(look tmps t).known then(t,look tmps t)::iN tmps l else iN tmps l
def oE{α : Type}(mem:List (Nat×α)):List Nat->List (Nat×α)
 | []=>[]
 |t::l=>match j7 mem t with
  |some b=>(t,b)::oE mem l
  |none=>oE mem l
def St.keep(s:St)(l m:List Nat):St:={ s with tmps:=iN s.tmps l,gs:=[],mem:=oE s.mem m,gr:=oE s.gr m }
theorem G7{α : Type}(mem:List (Nat×α))(t:Nat):∀{l b},j7 (oE mem l) t=some b->j7 mem t=some b
 | [],b,h=>by cases h
 |k::l,b,h=>by
  simp only[oE]at h
  split at h
  .rename_i b' hk
   rw[F3]at h
   split at h
   .rename_i he;injection h with h;subst h;subst he;exact hk
   exact G7 mem t h
  exact G7 mem t h
theorem gI(tmps:List (Nat×AV))(t:Nat):∀l,(look (iN tmps l) t).known=true->look (iN tmps l) t=look tmps t
 | [],h=>by cases h
 |k::l,h=>by
  simp only[iN]at h ⊢
  split
  .rename_i hk
   rw[if_pos hk]at h;rw[B6]at h ⊢
   by_cases he:k=t
   .subst he;rw[if_pos rfl]
   rw[if_neg he]at h ⊢;exact gI tmps t l h
  rename_i hk
  rw[if_neg hk]at h;exact gI tmps t l h
theorem i5.keep{s:St}{a:Act}{w:World}(h:i5 C s a w)(l m:List Nat):i5 C (s.keep l m) a w:=by
 have kp:cb w (s.m C) w ((s.keep l m).m C):=⟨fun b o u h1 h2=>⟨h1,fun h3=>by
  rcases h3 with h3|⟨k,e,he,h3⟩|⟨k,t,ht,h3⟩
  .exact h2 (.inl h3)
  .exact h2 (.inr (.inl ⟨k,e,G7 _ _ he,h3⟩))
  exact h2 (.inr (.inr ⟨k,t,G7 _ _ ht,h3⟩))⟩,fun _ _ h _=>h⟩
 have mono:∀v,Ok (s.m C) w v->Ok ((s.keep l m).m C) w v:=fun v hv=>kp.ok hv
 refine⟨h.size,h.defers,fun t ht=>?_,(fun t p v he=>by cases he),fun k e he=>?_,fun k k' e e' he he'=>h.nodup k k' e e' (G7 _ _ he) (G7 _ _ he'),fun k t ht=>h.gr k t (G7 _ _ ht),fun k t k' e ht he=>h.sepm k t k' e (G7 _ _ ht) (G7 _ _ he),fun k t k' t' b h1 h2=>h.sepg k t k' t' b (G7 _ _ h1) (G7 _ _ h2),h.chg,h.m0,C.K.st kp h.kept⟩
 .have e:=gI s.tmps t l ht
  have ht':(look (iN s.tmps l) t).known=true:=ht;rw[e]at ht';have:=h.slot t ht'
  show a.tmps[t]? = some (look (iN s.tmps l) t).den/\Ok _ _ (look (iN s.tmps l) t)
  rw[e];exact⟨this.1,mono _ this.2⟩
 obtain⟨h1,h2,h3⟩:=h.mem k e (G7 _ _ he);exact⟨h1,fun v hv=>⟨(h2 v hv).1,mono _ (h2 v hv).2⟩,h3⟩
theorem xG{s:St}{a:Act}{w:World}{id:Nat}{l:List Oper}(hT:o7 P T)(kp km:List Nat)(cs:List (Nat×CS))(h:i5 C s a w){R:Alg->(Nat->j8)->St×List Ob}
  (hex:∀A X,(K3 A T cs X l (o9 0 l) s).map (fun r=>(r.1.keep kp km,r.2.1))=some (R A X)) (hob:∀X,i7 P C.K (R std X).2) (hQ:∀X a' w',i5 C (R std X).1 a' w'->Q .normal a' w'):(Code.region id l.toArray false).wp P Q a w:=by
 refine wp_region_lit (qF (cs:=cs) hT rfl l 0 s a w h (fun X=>?_) fun X r a' w' hr hf=>?_)
 .obtain ⟨r,hr,e⟩:=Option.map_eq_some_iff.1 (hex std X)
  refine⟨r,hr,?_⟩;have:=hob X;rw[<-e]at this;exact this
 have e:=hex std X;rw[hr]at e;injection e with e
 refine hQ X a' w' ?_;rw[<-e];exact hf.keep kp km
theorem wP{s:St}{a:Act}{w:World}{t:Nat}{b:Bool}{x y:Code}(h:i5 C s a w)(hv:look s.tmps t = .bool (.v b))(h1:b=true->x.wp P Q a w)(h2:b=false->y.wp P Q a w):(Code.cond (.tmp t) x y).wp P Q a w:=by
 have:=(h.slot t (by rw[hv];rfl)).1;rw[hv]at this;refine wp_cond_split (t:=b) ?_ h1 h2;simp[Act.eval,this,AV.den,BE.den]
theorem FW{s:St}{a:Act}{w:World}{t:Nat}{x y:Code}(h:i5 C s a w)(hv:look s.tmps t = .bool .tt)(h1:x.wp P Q a w):(Code.cond (.tmp t) x y).wp P Q a w:=by
 have:=(h.slot t (by rw[hv];rfl)).1;rw[hv]at this;exact wp_cond_true (by simp[Act.eval,this,AV.den,BE.den]) h1
theorem FX{s:St}{a:Act}{w:World}{t:Nat}{x y:Code}(h:i5 C s a w)(hv:look s.tmps t = .bool .ff)(h1:y.wp P Q a w):(Code.cond (.tmp t) x y).wp P Q a w:=by
 have:=(h.slot t (by rw[hv];rfl)).1;rw[hv]at this;exact wp_cond_false (by simp[Act.eval,this,AV.den,BE.den]) h1
theorem Ew{ι : Type}(S:ι->St)(J:ι->Prop)(μ : ι->Nat){c:Code}{a:Act}{w:World}(p₀:ι)(h₀:J p₀)(hf:i5 C (S p₀) a w)
  (round:∀p,J p->∀a w,i5 C (S p) a w->c.wp P (Exit.then (fun a' w'=>∃p',J p'/\μ p'<μ p/\i5 C (S p') a' w') Q) a w):(Code.loop c).wp P Q a w:=by
 intro b k fs;have key:∀n p a w,μ p=n->J p->i5 C (S p) a w →
   ∃e a' w',Q e a' w'/\Arrives P (lone (b.at a (.code c :: .inLoop c::k)) fs w) b k fs e a' w':=by
  intro n
  induction n using Nat.strongRecOn with
  |_ n ih=>
   intro p a w hn hJ Z;obtain⟨e,a₁,w₁,hq,harr⟩:=round p hJ a w Z b (.inLoop c::k) fs
   cases e with
   |normal=>
    obtain⟨p',hJ',hlt,hF'⟩:=hq;obtain⟨e₂,a₂,w₂,hq₂,harr₂⟩:=ih (μ p') (hn ▸ hlt) p' a₁ w₁ rfl hJ' hF';exact⟨e₂,a₂,w₂,hq₂,.of_steps (Steps.trans harr (.one step_inLoop)) harr₂⟩
   |exit id=>exact⟨_,a₁,w₁,hq,.pass (x:=.inLoop c) rfl (fun _ _=>.inl (by simp)) harr⟩
   |goto l=>exact⟨_,a₁,w₁,hq,.pass (x:=.inLoop c) rfl (fun _ _=>.inl (by simp)) harr⟩
   |ret=>exact⟨_,a₁,w₁,hq,.pass (x:=.inLoop c) rfl (fun _ _=>.inl (by simp)) harr⟩
   |panic ch=>exact⟨_,a₁,w₁,hq,.pass (x:=.inLoop c) rfl (fun _ _=>.inl (by simp)) harr⟩
   |outgrown=>exact⟨_,a₁,w₁,hq,.pass (x:=.inLoop c) rfl (fun _ _=>.inl (by simp)) harr⟩
 obtain⟨e,a',w',hq,harr⟩:=key _ p₀ a w rfl h₀ hf;exact⟨e,a',w',hq,.of_steps (.one step_loop) harr⟩
end
def zok:AV->Bool
 | .int .. | .bool _| .nilp| .nili=>true
 | .str s=>Nat.ble s.size 65536
 | .sl none none 0 0 _ _=>true
 | .raw v=>v.oneCell'
 |_=>false
theorem HK{v:AV}(h:zok v=true):v.one=true/\∀m w,Ok m w v:=by
 unfold zok at h
 split at h
 .exact ⟨rfl,fun m w=>.int _ _⟩
 .exact ⟨rfl,fun m w=>.bool _⟩
 .exact ⟨rfl,fun m w=>.nilp⟩
 .exact ⟨rfl,fun m w=>.nili⟩
 .exact ⟨rfl,fun m w=>.str _ (by have:=Nat.le_of_ble_eq_true h;simp only[maxLen];omega)⟩
 .exact ⟨rfl,fun m w=>.sl _ _ _ _ _ _ (Nat.le_refl _) (by simp) (fun i hi=>by omega) (fun i hi=>by omega) (fun i hi=>by omega) (fun i hi=>by omega) (fun i hi=>by omega)⟩
 .exact ⟨h,fun m w=>.raw _⟩
 cases h
section
variable {P:Program}
def cp(P:Program)(t:Nat):Option Bool:=(P.underlying t).map fun d=>match d with
 | .struct _| .array _ _=>true
 |_=>false
theorem lC{t:Nat}{b:Bool}(h:cp P t=some b)(w:World):(isAgg t).run P w = .ok b w:=by
 unfold cp at h;obtain⟨d,hd,rfl⟩:=Option.map_eq_some_iff.1 h;simp only[isAgg,Sem.run_bind,run_underlying hd,Result.andThen_ok]
 cases d<;>rfl
def ee(P:Program)(t:Nat):Option Nat:=(P.info? t).map (·.size)
theorem eH{t n:Nat}(h:ee P t=some n)(w:World):(sizeOf t).run P w = .ok n w:=by
 unfold ee at h;obtain⟨d,hd,rfl⟩:=Option.map_eq_some_iff.1 h;simp[sizeOf,typeInfo,hd]
def dQ(P:Program):List Field->List (Nat×Nat×Bool)->Bool
 | [],[]=>true
 |f::fs,(off,n,g)::l=>f.offset==off&&ee P f.type==some n&&n != 0&&cp P f.type==some g&&dQ P fs l
 |_,_=>false
theorem gN:∀{fs:List Field} {l:List (Nat×Nat×Bool)},dQ P fs l=true →
  (∀(f:Nat) x,l[f]? = some x->∃fd:Field,fs[f]? = some fd/\fd.offset=x.1/\ee P fd.type=some x.2.1/\x.2.1≠0/\cp P fd.type=some x.2.2)/\fs.mapM (fun f=>(P.info? f.type).map fun i=>(f.offset,i.size))=some (l.map fun x=>(x.1,x.2.1))
 | [],[],_=>⟨fun f x h=>by simp at h,rfl⟩
 | [],_::_,h=>by simp[dQ]at h
 |_::_,[],h=>by simp[dQ]at h
 |f::fs,(off,n,g)::l,h=>by
  simp only[dQ,Bool.and_eq_true,beq_iff_eq,bne_iff_ne]at h;obtain⟨⟨⟨⟨h1,h2⟩,h3⟩,h4⟩,h5⟩:=h;obtain⟨i1,i2⟩:=gN h5;refine⟨fun k x hx=>?_,?_⟩
  .cases k with
   |zero=>simp at hx;subst hx;exact⟨f,rfl,h1,h2,h3,h4⟩
   |succ k=>exact i1 k x (by simpa using hx)
  unfold ee at h2;obtain⟨d,hd,hn⟩:=Option.map_eq_some_iff.1 h2;simp[List.mapM_cons,hd,i2,h1,hn]
def tyB(P:Program)(t:Nat)(i:TI):Bool:=
 ee P t==some i.size&&cp P t==some i.agg&&i.zero.all zok &&
 (i.fields.isEmpty||match P.underlying t with|some (.struct fs)=>dQ P fs.toList i.fields|_=>false) &&
 (match i.elem with|none=>true|some (e,k)=>(match P.underlying t with|some (.slice e')=>e'==e|_=>false)&&ee P e==some k) &&
 (!i.str||match P.underlying t with|some .string=>true|_=>false) &&
 (!i.bool||match P.underlying t with|some .bool=>true|_=>false) &&
 (match i.elem with|some (e,k)=>(i.ebytes==0||(match P.info? e with|some inf=>inf.bytes==i.ebytes&&inf.size==k&&k != 0&&(match inf.zero with|some z=>z.cells.size==k|none=>false)|none=>false))|none=>true) &&
 (match i.int with|none=>true|some k=>match P.underlying t with|some (.int k')=>k'==k|_=>false) &&
 (match P.underlying t with|some (.pointer _)=>true|some _=>!i.ptr|none=>false) &&
 (match P.underlying t with|some (.interface _)=>i.itf|some _=>!i.itf|none=>false) &&
 (!i.bytes||match P.underlying t with|some (.slice e)=>(match P.underlying e with|some (.int .u8)=>true|_=>false)|_=>false) &&
 (match i.arr with|none=>true|some (n,s,g)=>match P.underlying t with|some (.array n' e)=>n'==n&&ee P e==some s&&cp P e==some g|_=>false)
theorem o6{t:Nat}{i:TI}(h:tyB P t i=true)(hz:((P.info? t).bind (·.zero)).map Value.cells=some (i.zero.map AV.den).toArray):C6 P t i:=by
 simp only[tyB,Bool.and_eq_true,beq_iff_eq]at h;obtain⟨⟨⟨⟨⟨⟨⟨⟨⟨⟨⟨⟨h1,h2⟩,h3⟩,h4⟩,h5⟩,h6⟩,h7⟩,h8⟩,h9⟩,h10⟩,h11⟩,h12⟩,h13⟩:=h;have hf:i.fields.isEmpty=false->∃fs,P.underlying t=some (.struct fs)/\dQ P fs.toList i.fields=true:=by
  intro hne;simp only[hne,Bool.false_or]at h4
  split at h4
  .rename_i fs hu;exact⟨fs,hu,h4⟩
  cases h4
 refine⟨eH h1,lC h2,?_,?_,?_,?_,?_,?_,?_,?_,?_,?_,?_,?_,?_⟩
 .cases hi:P.info? t with
  |none=>simp[hi]at hz
  |some inf=>
   cases hzz:inf.zero with
   |none=>simp[hi,hzz]at hz
   |some z=>
    simp[hi,hzz]at hz;refine⟨z,fun w=>by simp[zeroValue,typeInfo,hi,hzz],hz,fun v hv=>?_⟩;have:=List.all_eq_true.1 h3 v hv;exact HK this
 .intro f x hx
  obtain⟨fs,hu,hb⟩:=hf (by cases hl:i.fields with|nil=>simp[hl]at hx|cons=>rfl);obtain⟨fd,g1,g2,g3,g4,g5⟩:=(gN hb).1 f x hx;exact⟨fs,hu,fd,by simpa using g1,g2,eH g3,g4,lC g5⟩
 .intro hne
  obtain⟨fs,hu,hb⟩:=hf hne;obtain⟨g1,g2⟩:=gN hb;refine⟨fs,(i.fields.map fun x=>(x.1,x.2.1)).toArray,hu,fun w=>?_,fun f x hx=>by simp[hx]⟩;have:=run_places (P:=P) w fs.toList _ g2;have e:(fs.mapM fun f=>do pure (f.offset,<-sizeOf f.type):Sem (Array (Nat×Nat)))=(do pure (<-fs.toList.mapM fun f=>Prod.mk f.offset <$> sizeOf f.type).toArray):=by
   rw[<-Array.toArray_toList (xs:=fs),Array.mapM_eq_mapM_toList];simp
  rw[e];simp[this]
 .intro e k he
  rw[he]at h5;simp only[Bool.and_eq_true,beq_iff_eq]at h5;obtain⟨g1,g2⟩:=h5
  split at g1
  .rename_i e' hu
   have:e'=e:=by simpa using g1
   subst this;exact⟨hu,eH g2⟩
  cases g1
 .intro hs
  simp only[hs,Bool.not_true,Bool.false_or]at h6
  split at h6
  .rename_i hu;exact hu
  cases h6
 .intro hs
  simp only[hs,Bool.not_true,Bool.false_or]at h7
  split at h7
  .rename_i hu;exact hu
  cases h7
 .intro e k he hne
  rw[he]at h8 h5;simp only[Bool.or_eq_true,beq_iff_eq]at h8
  rcases h8 with h8|h8
  .exact absurd h8 hne
  simp only[Bool.and_eq_true,beq_iff_eq]at h5;obtain⟨g1,_⟩:=h5
  split at g1
  .rename_i e' hu
   have:e'=e:=by simpa using g1
   subst this
   split at h8
   .rename_i inf hi
    simp only[Bool.and_eq_true,beq_iff_eq,bne_iff_ne]at h8;obtain⟨⟨⟨p1,p2⟩,p3⟩,p4⟩:=h8
    split at p4
    .rename_i z hz
     exact⟨z,hu,by simp[hi,hz,p1,p2],by simpa using p4,Nat.pos_of_ne_zero p3⟩
    cases p4
   cases h8
  cases g1
 .intro k hk
  rw[hk]at h9;simp only at h9
  split at h9
  .rename_i k' hu
   have:k'=k:=by simpa using h9
   subst this;exact hu
  cases h9
 .intro hp
  split at h10
  .rename_i e hu;exact⟨e,hu⟩
  .simp [hp]at h10
  cases h10
 .intro hp
  split at h11
  .rename_i ms hu;exact⟨ms,hu⟩
  .simp [hp]at h11
  cases h11
 .intro hp
  split at h11
  .simp [hp]at h11
  .rename_i d hne hu;exact⟨d,hu,fun ms he=>hne ms he⟩
  cases h11
 .intro hp
  simp only[hp,Bool.not_true,Bool.false_or]at h12
  split at h12
  .rename_i e hu
   split at h12
   .rename_i hue;exact⟨e,hu,hue⟩
   cases h12
  cases h12
 intro n s g hp;rw[hp]at h13;simp only at h13
 split at h13
 .rename_i n' e hu
  simp only[Bool.and_eq_true,beq_iff_eq]at h13;obtain⟨⟨g1,g2⟩,g3⟩:=h13;subst g1;exact⟨e,hu,eH g2,lC g3⟩
 cases h13
end
theorem o7.nil{P:Program}:o7 P []:=fun e he=>by cases he
theorem o7.cons{P:Program}{t:Nat}{i:TI}{T:List (Nat×TI)}(h:C6 P t i)(h':o7 P T):o7 P ((t,i)::T):=fun e he=>by
 rcases List.mem_cons.1 he with rfl|he
 .exact h
 exact h' e he
def ti3:TI:=⟨1,false,[.int .i64 0],[],none,false,false,0,some .i64,false,false,false,none⟩
theorem t3:C6 Tryz.prog 3 ti3:=o6 (by kernel_rfl) (by kernel_rfl)
def ti4:TI:=⟨1,false,[.bool .ff],[],none,false,true,0,none,false,false,false,none⟩
theorem t4:C6 Tryz.prog 4 ti4:=o6 (by kernel_rfl) (by kernel_rfl)
def ti5:TI:=⟨1,false,[.int .u8 0],[],none,false,false,0,some .u8,false,false,false,none⟩
theorem t5:C6 Tryz.prog 5 ti5:=o6 (by kernel_rfl) (by kernel_rfl)
def ti9:TI:=⟨1,false,[.str ⟨#[]⟩],[],none,true,false,0,none,false,false,false,none⟩
theorem t9:C6 Tryz.prog 9 ti9:=o6 (by kernel_rfl) (by kernel_rfl)
def Lu:TI:=⟨1,false,[.nili],[],none,false,false,0,none,false,true,false,none⟩
theorem t20:C6 Tryz.prog 20 Lu:=o6 (by kernel_rfl) (by kernel_rfl)
def Lt:TI:=⟨1,false,[.int .u64 0],[],none,false,false,0,some .u64,false,false,false,none⟩
theorem t22:C6 Tryz.prog 22 Lt:=o6 (by kernel_rfl) (by kernel_rfl)
def Ls:TI:=⟨2,true,[.int .i64 0,.int .u64 0],[(0,1,false),(1,1,false)],none,false,false,0,none,false,false,false,none⟩
theorem t24:C6 Tryz.prog 24 Ls:=o6 (by kernel_rfl) (by kernel_rfl)
def Lr:TI:=⟨1,false,[.sl none none 0 0 1 (fun _=>[])],[],some (3,1),false,false,8,none,false,false,false,none⟩
theorem t25:C6 Tryz.prog 25 Lr:=o6 (by kernel_rfl) (by kernel_rfl)
def Lq:TI:=⟨1,false,[.int .u32 0],[],none,false,false,0,some .u32,false,false,false,none⟩
theorem t26:C6 Tryz.prog 26 Lq:=o6 (by kernel_rfl) (by kernel_rfl)
def Lp:TI:=⟨4,true,[.int .u32 0,.int .u32 0,.int .u32 0,.int .u32 0],[(0,1,false),(1,1,false),(2,1,false),(3,1,false)],none,false,false,0,none,false,false,false,none⟩
theorem t28:C6 Tryz.prog 28 Lp:=o6 (by kernel_rfl) (by kernel_rfl)
def Lo:TI:=⟨15,true,[.int .i64 0,.int .i64 0,.int .u64 0,.int .u64 0,.int .u64 0,.str ⟨#[]⟩,.int .i64 0,.sl none none 0 0 1 (fun _=>[]),.int .u32 0,.int .u32 0,.int .u32 0,.int .u32 0,.int .i64 0,.int .i64 0,.int .i64 0],[(0,1,false),(1,2,true),(3,1,false),(4,1,false),(5,1,false),(6,1,false),(7,1,false),(8,4,true),(12,1,false),(13,1,false),(14,1,false)],none,false,false,0,none,false,false,false,none⟩
theorem t30:C6 Tryz.prog 30 Lo:=o6 (by kernel_rfl) (by kernel_rfl)
def Ln:TI:=⟨1,false,[.sl none none 0 0 8 (fun _=>[])],[],some (53,8),false,false,80,none,false,false,false,none⟩
theorem t31:C6 Tryz.prog 31 Ln:=o6 (by kernel_rfl) (by kernel_rfl)
def Lm:TI:=⟨1,false,[.sl none none 0 0 2 (fun _=>[])],[],some (62,2),false,false,24,none,false,false,false,none⟩
theorem t33:C6 Tryz.prog 33 Lm:=o6 (by kernel_rfl) (by kernel_rfl)
def Ll:TI:=⟨5,true,[.int .i64 0,.sl none none 0 0 2 (fun _=>[]),.int .i64 0,.int .u64 0,.int .u64 0],[(0,1,false),(1,1,false),(2,2,true),(4,1,false)],none,false,false,0,none,false,false,false,none⟩
theorem t35:C6 Tryz.prog 35 Ll:=o6 (by kernel_rfl) (by kernel_rfl)
def Lk:TI:=⟨1,false,[.int .i64 0],[],none,false,false,0,some .i64,false,false,false,none⟩
theorem t36:C6 Tryz.prog 36 Lk:=o6 (by kernel_rfl) (by kernel_rfl)
def Lj:TI:=⟨6,true,[.int .i64 0,.bool .ff,.str ⟨#[]⟩,.sl none none 0 0 2 (fun _=>[]),.int .u64 0,.bool .ff],[(0,1,false),(1,1,false),(2,1,false),(3,1,false),(4,1,false),(5,1,false)],none,false,false,0,none,false,false,false,none⟩
theorem t38:C6 Tryz.prog 38 Lj:=o6 (by kernel_rfl) (by kernel_rfl)
def Li:TI:=⟨15,true,[.int .i64 0,.int .i64 0,.int .u64 0,.int .u64 0,.int .i64 0,.sl none none 0 0 2 (fun _=>[]),.int .i64 0,.int .u64 0,.int .u64 0,.int .i64 0,.bool .ff,.str ⟨#[]⟩,.sl none none 0 0 2 (fun _=>[]),.int .u64 0,.bool .ff],[(0,1,false),(1,2,true),(3,1,false),(4,5,true),(9,6,true)],none,false,false,0,none,false,false,false,none⟩
theorem t40:C6 Tryz.prog 40 Li:=o6 (by kernel_rfl) (by kernel_rfl)
def Lh:TI:=⟨1,false,[.sl none none 0 0 8 (fun _=>[])],[],some (92,8),false,false,80,none,false,false,false,none⟩
theorem t46:C6 Tryz.prog 46 Lh:=o6 (by kernel_rfl) (by kernel_rfl)
def Lg:TI:=⟨1,false,[.sl none none 0 0 15 (fun _=>[])],[],some (40,15),false,false,160,none,false,false,false,none⟩
theorem t47:C6 Tryz.prog 47 Lg:=o6 (by kernel_rfl) (by kernel_rfl)
def Lf:TI:=⟨1,false,[.nilp],[],none,false,false,0,none,true,false,false,none⟩
theorem t49:C6 Tryz.prog 49 Lf:=o6 (by kernel_rfl) (by kernel_rfl)
def Le:TI:=⟨8,true,[.int .i64 0,.int .u64 0,.bool .ff,.int .i64 0,.sl none none 0 0 2 (fun _=>[]),.int .i64 0,.int .u64 0,.int .u64 0],[(0,1,false),(1,1,false),(2,1,false),(3,5,true)],none,false,false,0,none,false,false,false,none⟩
theorem t53:C6 Tryz.prog 53 Le:=o6 (by kernel_rfl) (by kernel_rfl)
def Ld:TI:=⟨1,false,[.sl none none 0 0 2 (fun _=>[])],[],some (24,2),false,false,16,none,false,false,false,none⟩
theorem t57:C6 Tryz.prog 57 Ld:=o6 (by kernel_rfl) (by kernel_rfl)
def Lb:TI:=⟨2,true,[.int .u64 0,.str ⟨#[]⟩],[(0,1,false),(1,1,false)],none,false,false,0,none,false,false,false,none⟩
theorem t62:C6 Tryz.prog 62 Lb:=o6 (by kernel_rfl) (by kernel_rfl)
def La:TI:=⟨1,false,[.raw .nilFunc],[],none,false,false,0,none,false,false,false,none⟩
theorem t76:C6 Tryz.prog 76 La:=o6 (by kernel_rfl) (by kernel_rfl)
def KZ:TI:=⟨1,false,[.nilp],[],none,false,false,0,none,true,false,false,none⟩
theorem t77:C6 Tryz.prog 77 KZ:=o6 (by kernel_rfl) (by kernel_rfl)
def KY:TI:=⟨1,true,[.sl none none 0 0 2 (fun _=>[])],[(0,1,false)],none,false,false,0,none,false,false,false,none⟩
theorem t85:C6 Tryz.prog 85 KY:=o6 (by kernel_rfl) (by kernel_rfl)
def KX:TI:=⟨1,false,[.nilp],[],none,false,false,0,none,true,false,false,none⟩
theorem t86:C6 Tryz.prog 86 KX:=o6 (by kernel_rfl) (by kernel_rfl)
def KW:TI:=⟨8,true,[.int .i64 0,.int .u64 0,.int .u64 0,.int .i64 0,.sl none none 0 0 2 (fun _=>[]),.int .i64 0,.int .u64 0,.int .u64 0],[(0,2,true),(2,1,false),(3,5,true)],none,false,false,0,none,false,false,false,none⟩
theorem t92:C6 Tryz.prog 92 KW:=o6 (by kernel_rfl) (by kernel_rfl)
def KV:TI:=⟨1,false,[.raw (.map none)],[],none,false,false,0,none,false,false,false,none⟩
theorem t93:C6 Tryz.prog 93 KV:=o6 (by kernel_rfl) (by kernel_rfl)
def KU:TI:=⟨2,true,[.raw (.map none),.int .i64 0],[(0,1,false),(1,1,false)],none,false,false,0,none,false,false,false,none⟩
theorem t95:C6 Tryz.prog 95 KU:=o6 (by kernel_rfl) (by kernel_rfl)
def KT:TI:=⟨7,true,[.int .u64 0,.bool .ff,.int .i64 0,.sl none none 0 0 2 (fun _=>[]),.int .i64 0,.int .u64 0,.int .u64 0],[(0,1,false),(1,1,false),(2,5,true)],none,false,false,0,none,false,false,false,none⟩
theorem t97:C6 Tryz.prog 97 KT:=o6 (by kernel_rfl) (by kernel_rfl)
def GX:TI:=⟨1,false,[.nilp],[],none,false,false,0,none,true,false,false,none⟩
theorem No:C6 Tryz.prog 113 GX:=o6 (by kernel_rfl) (by kernel_rfl)
def GW:TI:=⟨1,false,[.raw .nilFunc],[],none,false,false,0,none,false,false,false,none⟩
theorem Nn:C6 Tryz.prog 116 GW:=o6 (by kernel_rfl) (by kernel_rfl)
def GV:TI:=⟨1,false,[.raw .nilFunc],[],none,false,false,0,none,false,false,false,none⟩
theorem Nm:C6 Tryz.prog 118 GV:=o6 (by kernel_rfl) (by kernel_rfl)
def GU:TI:=⟨1,false,[.raw .nilFunc],[],none,false,false,0,none,false,false,false,none⟩
theorem Nl:C6 Tryz.prog 121 GU:=o6 (by kernel_rfl) (by kernel_rfl)
def GT:TI:=⟨1,false,[.raw (.map none)],[],none,false,false,0,none,false,false,false,none⟩
theorem Nk:C6 Tryz.prog 125 GT:=o6 (by kernel_rfl) (by kernel_rfl)
def GS:TI:=⟨1,false,[.raw .nilFunc],[],none,false,false,0,none,false,false,false,none⟩
theorem Nj:C6 Tryz.prog 128 GS:=o6 (by kernel_rfl) (by kernel_rfl)
def GR:TI:=⟨1,false,[.raw .nilFunc],[],none,false,false,0,none,false,false,false,none⟩
theorem Ni:C6 Tryz.prog 129 GR:=o6 (by kernel_rfl) (by kernel_rfl)
def GQ:TI:=⟨1,false,[.raw (.map none)],[],none,false,false,0,none,false,false,false,none⟩
theorem Nh:C6 Tryz.prog 130 GQ:=o6 (by kernel_rfl) (by kernel_rfl)
def GP:TI:=⟨1,false,[.raw .nilFunc],[],none,false,false,0,none,false,false,false,none⟩
theorem Ng:C6 Tryz.prog 134 GP:=o6 (by kernel_rfl) (by kernel_rfl)
def GO:TI:=⟨22,true,[.int .i64 0,.int .i64 0,.int .u64 0,.int .u64 0,.int .u64 0,.str ⟨#[]⟩,.int .i64 0,.sl none none 0 0 1 (fun _=>[]),.int .u32 0,.int .u32 0,.int .u32 0,.int .u32 0,.int .i64 0,.int .i64 0,.int .i64 0,.sl none none 0 0 8 (fun _=>[]),.int .i64 0,.bool .ff,.str ⟨#[]⟩,.sl none none 0 0 2 (fun _=>[]),.int .u64 0,.bool .ff],[(0,15,true),(15,1,false),(16,6,true)],none,false,false,0,none,false,false,false,none⟩
theorem Nf:C6 Tryz.prog 139 GO:=o6 (by kernel_rfl) (by kernel_rfl)
def GN:TI:=⟨1,false,[.raw .nilFunc],[],none,false,false,0,none,false,false,false,none⟩
theorem Ne:C6 Tryz.prog 141 GN:=o6 (by kernel_rfl) (by kernel_rfl)
def GM:TI:=⟨10,true,[.int .i64 0,.int .u64 0,.int .i64 0,.int .u64 0,.bool .ff,.int .i64 0,.sl none none 0 0 2 (fun _=>[]),.int .i64 0,.int .u64 0,.int .u64 0],[(0,2,true),(2,8,true)],none,false,false,0,none,false,false,false,none⟩
theorem Nd:C6 Tryz.prog 144 GM:=o6 (by kernel_rfl) (by kernel_rfl)
def GL:TI:=⟨39,true,[.int .i64 0,.int .i64 0,.int .u64 0,.int .u64 0,.int .u64 0,.str ⟨#[]⟩,.int .i64 0,.sl none none 0 0 1 (fun _=>[]),.int .u32 0,.int .u32 0,.int .u32 0,.int .u32 0,.int .i64 0,.int .i64 0,.int .i64 0,.sl none none 0 0 8 (fun _=>[]),.int .i64 0,.bool .ff,.int .i64 0,.int .i64 0,.int .u64 0,.int .u64 0,.int .i64 0,.sl none none 0 0 2 (fun _=>[]),.int .i64 0,.int .u64 0,.int .u64 0,.int .i64 0,.bool .ff,.str ⟨#[]⟩,.sl none none 0 0 2 (fun _=>[]),.int .u64 0,.bool .ff,.int .i64 0,.bool .ff,.str ⟨#[]⟩,.sl none none 0 0 2 (fun _=>[]),.int .u64 0,.bool .ff],[(0,15,true),(15,1,false),(16,1,false),(17,1,false),(18,15,true),(33,6,true)],none,false,false,0,none,false,false,false,none⟩
theorem Nc:C6 Tryz.prog 147 GL:=o6 (by kernel_rfl) (by kernel_rfl)
def GK:TI:=⟨10,true,[.int .i64 0,.int .u64 0,.int .i64 0,.int .u64 0,.bool .ff,.int .i64 0,.sl none none 0 0 2 (fun _=>[]),.int .i64 0,.int .u64 0,.int .u64 0],[(0,2,true),(2,8,true)],none,false,false,0,none,false,false,false,none⟩
theorem Nb:C6 Tryz.prog 150 GK:=o6 (by kernel_rfl) (by kernel_rfl)
def GJ:TI:=⟨1,false,[.int .u64 0],[],none,false,false,0,some .u64,false,false,false,none⟩
theorem Na:C6 Tryz.prog 156 GJ:=o6 (by kernel_rfl) (by kernel_rfl)
def GI:TI:=⟨1,false,[.raw .nilFunc],[],none,false,false,0,none,false,false,false,none⟩
theorem MZ:C6 Tryz.prog 168 GI:=o6 (by kernel_rfl) (by kernel_rfl)
def GH:TI:=⟨1,false,[.raw .nilFunc],[],none,false,false,0,none,false,false,false,none⟩
theorem MY:C6 Tryz.prog 194 GH:=o6 (by kernel_rfl) (by kernel_rfl)
def GG:TI:=⟨2,true,[.int .i64 0,.int .u64 0],[(0,1,false),(1,1,false)],none,false,false,0,none,false,false,false,none⟩
theorem MX:C6 Tryz.prog 202 GG:=o6 (by kernel_rfl) (by kernel_rfl)
def GF:TI:=⟨1,false,[.sl none none 0 0 2 (fun _=>[])],[],some (202,2),false,false,16,none,false,false,false,none⟩
theorem MW:C6 Tryz.prog 203 GF:=o6 (by kernel_rfl) (by kernel_rfl)
def GE:TI:=⟨1,false,[.int .i64 0],[],none,false,false,0,some .i64,false,false,false,none⟩
theorem MV:C6 Tryz.prog 230 GE:=o6 (by kernel_rfl) (by kernel_rfl)
def GD:TI:=⟨3,true,[.bool .ff,.bool .ff,.bool .ff],[],none,false,false,0,none,false,false,false,some (3,1,false)⟩
theorem MU:C6 Tryz.prog 244 GD:=o6 (by kernel_rfl) (by kernel_rfl)
def GC:TI:=⟨1,false,[.raw .nilFunc],[],none,false,false,0,none,false,false,false,none⟩
theorem MT:C6 Tryz.prog 246 GC:=o6 (by kernel_rfl) (by kernel_rfl)
def GB:TI:=⟨3,true,[.raw .nilFunc,.raw .nilFunc,.raw .nilFunc],[],none,false,false,0,none,false,false,false,some (3,1,false)⟩
theorem MS:C6 Tryz.prog 247 GB:=o6 (by kernel_rfl) (by kernel_rfl)
def GA:TI:=⟨1,false,[.sl none none 0 0 5 (fun _=>[])],[],some (35,5),false,false,56,none,false,false,false,none⟩
theorem MR:C6 Tryz.prog 262 GA:=o6 (by kernel_rfl) (by kernel_rfl)
def Gz:TI:=⟨1,false,[.int .u64 0],[],none,false,false,0,some .u64,false,false,false,none⟩
theorem MQ:C6 Tryz.prog 272 Gz:=o6 (by kernel_rfl) (by kernel_rfl)
def Gy:TI:=⟨1,false,[.nilp],[],none,false,false,0,none,true,false,false,none⟩
theorem MP:C6 Tryz.prog 275 Gy:=o6 (by kernel_rfl) (by kernel_rfl)
def Gx:TI:=⟨1,false,[.raw .nilFunc],[],none,false,false,0,none,false,false,false,none⟩
theorem MO:C6 Tryz.prog 282 Gx:=o6 (by kernel_rfl) (by kernel_rfl)
def Gw:TI:=⟨10,true,[.int .i64 0,.sl none none 0 0 2 (fun _=>[]),.int .i64 0,.int .u64 0,.int .u64 0,.int .i64 0,.sl none none 0 0 2 (fun _=>[]),.int .i64 0,.int .u64 0,.int .u64 0],[],none,false,false,0,none,false,false,false,some (2,5,true)⟩
theorem MN:C6 Tryz.prog 284 Gw:=o6 (by kernel_rfl) (by kernel_rfl)
def Gv:TI:=⟨4,true,[.int .i64 0,.int .u64 0,.int .i64 0,.int .u64 0],[],none,false,false,0,none,false,false,false,some (2,2,true)⟩
theorem MM:C6 Tryz.prog 285 Gv:=o6 (by kernel_rfl) (by kernel_rfl)
def Gu:TI:=⟨1,false,[.raw .nilFunc],[],none,false,false,0,none,false,false,false,none⟩
theorem ML:C6 Tryz.prog 289 Gu:=o6 (by kernel_rfl) (by kernel_rfl)
def Gt:TI:=⟨1,false,[.sl none none 0 0 1 (fun _=>[])],[],some (33,1),false,false,24,none,false,false,false,none⟩
theorem MK:C6 Tryz.prog 306 Gt:=o6 (by kernel_rfl) (by kernel_rfl)
def TA:List (Nat×TI):=[(3,ti3),(4,ti4),(5,ti5),(9,ti9),(20,Lu),(22,Lt),(24,Ls),(25,Lr),(26,Lq),(28,Lp),(30,Lo),(31,Ln),(33,Lm),(35,Ll),(36,Lk),(38,Lj),(40,Li),(46,Lh),(47,Lg),(49,Lf),(53,Le),(57,Ld),(62,Lb),(76,La),(77,KZ),(85,KY),(86,KX),(92,KW),(93,KV),(95,KU),(97,KT),(113,GX),(116,GW),(118,GV),(121,GU),(125,GT),(128,GS),(129,GR),(130,GQ),(134,GP),(139,GO),(141,GN),(144,GM),(147,GL),(150,GK),(156,GJ),(168,GI),(194,GH),(202,GG),(203,GF),(230,GE),(244,GD),(246,GC),(247,GB),(262,GA),(272,Gz),(275,Gy),(282,Gx),(284,Gw),(285,Gv),(289,Gu),(306,Gt)]
theorem a8:o7 Tryz.prog TA:=.cons t3 (.cons t4 (.cons t5 (.cons t9 (.cons t20 (.cons t22 (.cons t24 (.cons t25 (.cons t26 (.cons t28 (.cons t30 (.cons t31 (.cons t33 (.cons t35 (.cons t36 (.cons t38 (.cons t40 (.cons t46 (.cons t47 (.cons t49 (.cons t53 (.cons t57 (.cons t62 (.cons t76 (.cons t77 (.cons t85 (.cons t86 (.cons t92 (.cons t93 (.cons t95 (.cons t97 (.cons No (.cons Nn (.cons Nm (.cons Nl (.cons Nk (.cons Nj (.cons Ni (.cons Nh (.cons Ng (.cons Nf (.cons Ne (.cons Nd (.cons Nc (.cons Nb (.cons Na (.cons MZ (.cons MY (.cons MX (.cons MW (.cons MV (.cons MU (.cons MT (.cons MS (.cons MR (.cons MQ (.cons MP (.cons MO (.cons MN (.cons MM (.cons ML (.cons MK (.nil))))))))))))))))))))))))))))))))))))))))))))))))))))))))))))))
def C8:Nat->List AV->List (Nat×AV)
 |_,[]=>[]
 |i,v::l=>(i,v)::C8 (i+1) l
theorem eE:∀(l:List AV) (i t:Nat),(look (C8 i l) t).known=true->i<=t/\l[t-i]? = some (look (C8 i l) t)
 | [],i,t,h=>by cases h
 |v::l,i,t,h=>by
  simp only[C8,B6]at h ⊢
  by_cases he:i=t
  .subst he;simp
  rw[if_neg he]at h ⊢;obtain⟨h1,h2⟩:=eE l (i+1) t h;refine⟨by omega,?_⟩;rw[show t-i=(t-(i+1))+1 by omega,List.getElem?_cons_succ];exact h2
theorem rC{m:Nat->Nat->Prop}{w:World}(hm:∀b o,m b o->b<w.heap.size){args:List AV}(hargs:∀v∈args,Ok m w v){n:Nat}(hn:args.length<=n) :
  i5 ⟨m,w,fun _=>False,[],noK⟩ ⟨n,C8 0 args,[],[],[]⟩ { tmps:=(args.map AV.den).toArray++Array.replicate (n-args.length) Go.undef,defers:=[] } w:=by
 have mono:∀v,Ok m w v->Ok (St.m ⟨n,C8 0 args,[],[],[]⟩ ⟨m,w,fun _=>False,[],noK⟩) w v:=fun v hv=>hv.mono fun b o u h1 h2=>⟨h1,fun h=>by
  rcases h with h|h
  .exact h2 h
  rcases h with⟨k,e,he,_⟩|⟨k,e,he,_⟩<;>cases he⟩
 refine⟨by simp;omega,rfl,fun t ht=>?_,fun t p v he=>(by cases he),fun k e he=>(by cases he),fun k k' e e' he=>(by cases he),(fun k t ht=>by cases ht),(fun k t k' e ht=>by cases ht),(fun k t k' t' b ht=>by cases ht),Chg.refl _ _,hm,trivial⟩;obtain⟨_,h1⟩:=eE args 0 t ht;rw[Nat.sub_zero]at h1;have hlt:=(List.getElem?_eq_some_iff.1 h1).1;refine⟨?_,mono _ (hargs _ (List.mem_of_getElem? h1))⟩;rw[Array.getElem?_append_left (by simpa using hlt)];simp[h1]
section
variable {P:Program} {T:List (Nat×TI)} {C:Cx} {s:St} {a:Act} {w:World}
theorem enter{m:Nat->Nat->Prop}(hm:∀b o,m b o->b<w.heap.size){args:List AV}(hargs:∀v∈args,Ok m w v){f:FuncId}{fn:Func}{c:Code}{R:Ending->World->Prop}(hf:P.funcs[f]? = some fn)(hb:fn.body=some c)
  (hn:args.length<=fn.ntmps) (h:∀a,i5 ⟨m,w,fun _=>False,[],noK⟩ ⟨fn.ntmps,C8 0 args,[],[],[]⟩ a w->c.wp P (bodyPost P fn R) a w):Calls P f (args.map AV.den).toArray w R:=by
 refine calls_of_wp hf hb ?_;have:=h _ (rC hm hargs hn)
 simpa using this
def DU(T:List (Nat×TI))(s:St):ResultVar->Option (AV×List Ob)
 | .tmp t=>if(look s.tmps t).known then some (look s.tmps t,[])else none
 | .cell t ty=>match look s.tmps t,G5 T ty with
  | .ptr key b off,some ti=>match j7 s.mem key with
   |some blk=>(cut blk.cells off ti.size ti.agg).map fun v=>(v,[.eqN blk.at_ b])
   |none=>none
  |_,_=>none
def T5(T:List (Nat×TI))(s:St):List ResultVar->Option (List AV×List Ob)
 | []=>some ([],[])
 |r::l=>match DU T s r,T5 T s l with
  |some (v,o),some (vs,os)=>some (v::vs,o++os)
  |_,_=>none
def K0:List AV->AV
 | [v]=>v
 |l=>.tup l
def xF(a:Act):ResultVar->Sem Value
 | .tmp t=>pure (a.tmps.getD t Go.undef)
 | .cell a' t=>do loadVar t (<-asAddr (a.tmps.getD a' Go.undef))
theorem DT(hT:o7 P T)(h:i5 C s a w){r:ResultVar}{v:AV}{o:List Ob}(hr:DU T s r=some (v,o))(ho:i7 P C.K o) :
  (xF a r).run P w = .ok v.den w/\Ok (s.m C) w v:=by
 cases r with
 |tmp t=>
  simp only[DU]at hr
  split at hr
  .rename_i hk
   injection hr with hr;injection hr with h1 h2;subst h1;subst h2
   have:=h.slot t hk;refine⟨?_,this.2⟩;simp[xF,this.1]
  cases hr
 |cell t ty=>
  simp only[DU]at hr
  split at hr
  .rename_i key b off ti hp hti
   split at hr
   .rename_i blk hb
    obtain⟨x,hx,he⟩:=Option.map_eq_some_iff.1 hr;injection he with h1 h2;subst h1;subst h2
    have hat:blk.at_=b:=ho.1;obtain⟨h1,h2,_⟩:=h.mem _ _ hb;obtain⟨hok,hv⟩:=np hx h2;have hsl:=(h.slot t (by rw[hp];rfl)).1;rw[hp]at hsl;have hl:=lV (P:=P) (w:=w) (b:=blk.at_) (base:=0) (o5 hT hti) (fun j u hu=>by
     rw[cell_of_row w _ _ _ _ _ h1];simpa using hu) hv
    rw[hat,Nat.zero_add]at hl;refine⟨?_,hok⟩;have hl':(loadVar ty ⟨b,off,none⟩).run P w = .ok x.den w:=by simpa[Instr.loadAt,Instr.sureAddr]using hl
    simp[xF,hsl,AV.den,asAddr,hl']
   cases hr
  cases hr
theorem vA(hT:o7 P T)(h:i5 C s a w):∀{l:List ResultVar} {vs:List AV} {o:List Ob},T5 T s l=some (vs,o)->i7 P C.K o →
  (l.mapM (xF a)).run P w = .ok (vs.map AV.den) w/\∀v∈vs,Ok (s.m C) w v
 | [],vs,o,hr,_=>by simp[T5]at hr;obtain⟨rfl,rfl⟩:=hr;simp
 |r::l,vs,o,hr,ho=>by
  simp only[T5]at hr
  split at hr
  .rename_i v o1 vs' os h1 h2
   injection hr with hr;injection hr with e1 e2;subst e1;subst e2
   obtain⟨g1,g2⟩:=i7.app.1 ho;obtain⟨r1,k1⟩:=DT hT h h1 g1;obtain⟨r2,k2⟩:=vA hT h h2 g2;refine⟨?_,fun x hx=>?_⟩
   .rw [List.mapM_cons,Sem.run_bind,r1]
    simp only[Result.andThen_ok,Sem.run_bind,r2,Sem.run_pure,List.map_cons]
   rcases List.mem_cons.1 hx with rfl|hx
   .exact k1
   exact k2 x hx
  cases hr
theorem gt(hT:o7 P T)(h:i5 C s a w){fn:Func}{rs:List ResultVar}(hfn:fn.results=rs.toArray){r:List AV×List Ob}(hr:T5 T s rs=some r)(ho:i7 P C.K r.2) :
  (results fn a.tmps).run P w = .ok (K0 r.1).den w/\Ok (s.m C) w (K0 r.1):=by
 obtain⟨vs,o⟩:=r;obtain⟨h1,h2⟩:=vA hT h hr ho
 constructor
 .have h1':(fn.results.mapM (xF a)).run P w = .ok (vs.map AV.den).toArray w:=by
   rw[hfn,List.mapM_toArray];simp[h1]
  have e:results fn a.tmps=(do let vs <-fn.results.mapM (xF a);pure (if h:vs.size=1 then vs[0]else .tuple vs)):=by
   unfold results
   congr 2
  rw[e,Sem.run_bind,h1']
  cases vs with
  |nil=>rfl
  |cons v vs=>cases vs with
   |nil=>rfl
   |cons u us=>simp[K0,AV.den,E3,AV.denL]
 cases vs with
 |nil=>exact .tup _ (fun v hv=>by cases hv)
 |cons v vs=>cases vs with
  |nil=>exact h2 v (by simp)
  |cons u us=>exact .tup _ h2
theorem gq(hT:o7 P T)(h:i5 C s a w)(hds:C.ds=[]){fn:Func}{R:Ending->World->Prop}{rs:List ResultVar}(hfn:fn.results=rs.toArray){r:List AV×List Ob}(hr:T5 T s rs=some r)(ho:i7 P C.K r.2)
  (hR:Ok (s.m C) w (K0 r.1)->R (.returned (K0 r.1).den) w):bodyPost P fn R .ret a w/\bodyPost P fn R .normal a w:=by
 obtain⟨h1,h2⟩:=gt hT h hfn hr ho;exact⟨⟨h.defers.trans hds,_,h1,hR h2⟩,⟨h.defers.trans hds,_,h1,hR h2⟩⟩
theorem qI{Kk:Kn}{m:Nat->Nat->Prop}{w0:World}(h:i5 ⟨m,w0,fun _=>False,[],Kk⟩ s a w){v:AV}(hv:Ok (s.m ⟨m,w0,fun _=>False,[],Kk⟩) w v):Ok m w v/\Below w0.heap.size w0 w:=
 ⟨hv.mono fun b o u h1 h2=>⟨h1,fun hm=>h2 (.inl hm)⟩,h.chg.below (Nat.le_refl _) fun k hk=>hk.elim⟩
end
end Go.Proofs.YtmbkanpapkhnaaaGreat.Sym
