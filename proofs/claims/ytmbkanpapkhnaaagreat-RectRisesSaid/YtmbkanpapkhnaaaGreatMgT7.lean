/-
  SymL30R, WalkRectRises: put together by a program of mine (a claim may have 60 files at most). Conditions: none.
-/
import Derived.Test.YtmbkanpapkhnaaaGreatMgT6
set_option linter.unusedVariables false
set_option linter.unusedSimpArgs false
set_option maxRecDepth 100000
set_option maxHeartbeats 1600000
namespace Go.Proofs.YtmbkanpapkhnaaaGreat.Sym
open Go Go.RowKit
theorem uR{n:Nat}{f:Nat->B1}(h:(if n<=300 then qT n f else true)=false):n<=300/\∀i,i<n->(f i).x.r.n<=40:=by
 by_cases hn:n<=300
 .rw [if_pos hn]at h
  refine⟨hn,fun i hi=>?_⟩;unfold qT at h;simp only[Bool.or_eq_false_iff]at h;exact Ac (sY h.1.2 i hi)
 rw[if_neg hn]at h;cases h
theorem yq{n:Nat}{f:Nat->B1}(hb:n<=300/\∀i,i<n->(f i).x.r.n<=40)(hwf:∀i,i<n->o9 (f i).lab/\U64 (f i).x.r.nx.bits)(hu:∀l,o9 l->U64 l.bits):∀i,i<n->(f i).x.r.n<=1000000/\o9 (f i).lab/\U64 (f i).lab.bits/\U64 (f i).x.r.nx.bits:=fun i hi=>⟨by have:=hb.2 i hi;omega,(hwf i hi).1,hu _ (hwf i hi).1,(hwf i hi).2⟩
theorem uk(l:Lab)(h:o9 l):U64 l.bits:=by
 have:=h.2;simp[Lit.wf,IntKind.min,IntKind.max,IntKind.signed,IntKind.bits]at this;exact⟨by omega,by omega⟩
theorem xB{n:Nat}{f:Nat->B1}(hr:∀i,i<n->o9 (f i).lab/\U64 (f i).ver/\U64 (f i).x.r.nx.bits/\∀t,t<(f i).x.r.n->U64 ((f i).x.r.f t).key):∀r∈G5 f n,RwG r:=by
 intro r hr';obtain⟨i,hi,rfl⟩:=List.mem_map.1 hr';obtain⟨h1,h2,h3,h4⟩:=hr i (List.mem_range.1 hi);refine⟨h1,h2,h3,fun x hx=>?_⟩;obtain⟨t,ht,rfl⟩:=List.mem_map.1 hx;exact h4 t (List.mem_range.1 ht)
theorem Fc{J:l4}(h:aB J):vC J.rct = .agg [.int .u32 J.x1,.int .u32 J.x2,.int .u32 J.y1,.int .u32 J.y2]:=by
 unfold vC l4.rct;dsimp only;rw[Int.toNat_of_nonneg h.x1.1,Int.toNat_of_nonneg h.x2.1,Int.toNat_of_nonneg h.y1.1,Int.toNat_of_nonneg h.y2.1]
theorem FC{J:l4}(h:aB J)(k:Int)(hk:U64 k):l7 Tryz.prog 20 [.agg [.int .u32 J.x1,.int .u32 J.x2,.int .u32 J.y1,.int .u32 J.y2],.int .u64 k] (fun _=>.bool (.v (cN J.rct k))):=by
 have S:=yB J.rct k.toNat (eF hk)
 rwa[Fc h,Int.toNat_of_nonneg hk.1]at S
theorem ya{i:Nat}(h:0<i)(hm:i<=32016):IntKind.i64.wrap ((i:Int)-1)=((i-1:Nat):Int):=by
 rw[s5 (by omega) (by omega)];omega
theorem xn{i nr:Nat}(hi:i<nr)(hn:nr<=32016)(h:b7 .gtr (i:Int) 0=true):0<=std.arith .sub .i64 (i:Int) 1/\std.arith .sub .i64 (i:Int) 1<(nr:Int):=by
 have h0:0<i:=by simpa[b7]using h
 show 0<=IntKind.i64.wrap ((i:Int)-1)/\IntKind.i64.wrap ((i:Int)-1)<(nr:Int)
 rw[ya h0 (by omega)];omega
theorem IB{n2:Nat}{f2:Nat->F7}(hw2:∀i,i<n2->(f2 i).x.r.n<=maxLen/\o9 (f2 i).lab/\U64 (f2 i).x.r.nx.bits/\∀t,t<(f2 i).x.r.n->U64 ((f2 i).x.r.f t).key):∀w∈R7 f2 n2,tf w:=by
 intro w hw;obtain⟨i,hi,rfl⟩:=List.mem_map.1 hw;obtain⟨_,h2,h3,h4⟩:=hw2 i (List.mem_range.1 hi);refine⟨h2,h3,fun x hx=>?_⟩;obtain⟨t,ht,rfl⟩:=List.mem_map.1 hx;exact h4 t (List.mem_range.1 ht)
theorem so{l:List Itm}{i:Nat}(h:i<l.length):itF l i=l[i]:=by
 unfold itF;rw[List.getD_eq_getElem?_getD,List.getElem?_eq_getElem h];rfl
theorem EM{l:List Itm}(h:Srt l){i:Nat}(hi:i+1<l.length):(itF l i).key<(itF l (i+1)).key:=by
 rw[so (by omega),so hi];exact List.pairwise_iff_getElem.1 h i (i+1) (by omega) hi (by omega)
theorem qp(A:Option Addr)(n c:Nat)(f:Nat->B1)(hn:n<=maxLen)(hrw:∀i,i<n->o9 (f i).lab/\U64 (f i).ver/\U64 (f i).x.r.nx.bits/\∀t,t<(f i).x.r.n->U64 ((f i).x.r.f t).key)(J:l4)(hJ:bG J)(hRJ:aB J)(A2:Option Addr)(n2 c2:Nat)(f2:Nat->F7)(hn2:n2<=maxLen)(hw2:∀i,i<n2->(f2 i).x.r.n<=maxLen/\o9 (f2 i).lab/\U64 (f2 i).x.r.nx.bits/\∀t,t<(f2 i).x.r.n->U64 ((f2 i).x.r.f t).key)(hnew:aL (G5 f n)=none):l7 Tryz.prog 5 [aT A n c f,U0 J,.sl none A2 n2 c2 15 (fun i=>V6 (f2 i))] (fun _=>.bool .tt):=by
 intro m w hm hargs;have hmx:maxLen=9223372036854775807:=rfl;have hwf:∀i,i<n->o9 (f i).lab/\U64 (f i).x.r.nx.bits:=fun i hi=>⟨(hrw i hi).1,(hrw i hi).2.2.1⟩
 have S1:=Ab A n c f hn;obtain⟨bl,hbl⟩:=eqv (if n<=300 then qT n f else true);rw[<-hbl]at S1;obtain⟨W9,hW9⟩:=eqv ((z6 J 0 (fun _=>jv)).1);obtain⟨E9,hE9⟩:=eqv ((z6 J 0 (fun _=>jv)).2);obtain⟨rr9,hrr9⟩:=eqv (W9.r.rn);obtain⟨nn9,hnn9⟩:=eqv (W9.res.items.length);obtain⟨ff9,hff9⟩:=eqv (itF W9.res.items);have T9:=l7.wq (dj J hJ hRJ none 0 0 (fun _=>jv) (by omega) (fun j hj=>absurd hj (Nat.not_lt_zero _))) hW9 hE9 hrr9 hnn9 hff9;have S9:∀g k fz,l7 Tryz.prog 12 [U0 J,.sl g none 0 0 k fz] (fun x=>.tup [E8 (wqB x W9 rr9 nn9 ff9),.int .i64 E9]):=fun g k fz=>T9.sim ⟨zr,Sim.nils,trivial⟩
 refine en 123 hm hargs Tryz.func5 fun B O a0 Z=>?_
 refine a6 [0,2,4] [4] Z fun X0 Z=>?_
 have O1:=S1;refine a7 (j6 [33,0,2,4] [4] [(1,.r fun _=>.bool (.v bl))] Z fun X1 Z=>?_);apply d7 Z rfl<;>intro hb Z
 .refine a6 [6] [] Z fun X2 Z=>?_
  refine B4 Z ?_;subst O;exact Sim.bool rfl
 have hb0:bl=false:=by
  have h9:(if(if(if bl=true then true else decide ((60:Int)<(n:Int)))=true then true else decide ((20:Int)<(n2:Int)))=true then true else decide ((600:Int)<(J.pn:Int)))=false:=by subst O;exact hb
  revert h9;cases bl<;>simp
 have hb1:=uR (hbl ▸ hb0);have hN:=yq hb1 hwf uk;refine f9 (a7 (wp_region_lit (lpr 0 1 O a8 [35,4] [4] [] Z fun X3_0 _ _ Z=>?_)));have SN:=Fv A n c f hn hN hnew;refine E3 rfl rfl rfl rfl Z rfl rfl kZ SN (fun _ _ _=>trivial) (fun b hb=>by cases hb) (zl) (by intro e he;cases he) rfl rfl (fun y=>noK) (fun _ _ _ _ _ _ _ _ _ _=>trivial) ?_;intro y _ _ Z;refine lnd 2 O a8 [2,4,7,8] [4] [] Z fun X3 _ _ Z=>?_
 refine a7 ?_;have O4:=S9;refine j4 [2,4,7,8,10] [4] [(1,.r fun x=>.tup [.agg [.int .i64 W9.kind,.int .i64 W9.lab.len,.int .u64 W9.lab.bits,.int .u64 W9.ver,.int .i64 rr9.kd,.sl none (x.A 1) rr9.n (x.c 1) 2 (fun i=>itC (rr9.f i)),.int .i64 rr9.nx.len,.int .u64 rr9.nx.bits,.int .u64 rr9.mrk,.int .i64 W9.res.code,.bool (.v W9.res.had),.str W9.res.val,.sl none (x.A 2) nn9 (x.c 2) 2 (fun i=>itC (ff9 i)),.int .u64 W9.res.key,.bool (.v W9.res.more)],.int .i64 E9])] Z fun X4 Z=>?_
 refine a7 (a6 [49,2,4,7,8] [4] Z fun X5 Z=>?_);refine D5 Z rfl (fun Z=>?_);have O1:=gP;refine j6 [6] [] [(0,.r fun _=>.bool .tt)] Z fun X6 Z=>?_
 refine B4 Z ?_;subst O;refine Sim.bool ?_;simp[std,b7,BE.den,ly]
theorem ot(A:Option Addr)(n c:Nat)(f:Nat->B1)(hn:n<=maxLen)(hrw:∀i,i<n->o9 (f i).lab/\U64 (f i).ver/\U64 (f i).x.r.nx.bits/\∀t,t<(f i).x.r.n->U64 ((f i).x.r.f t).key)(J:l4)(hJ:bG J)(hRJ:aB J)(A2:Option Addr)(n2 c2:Nat)(f2:Nat->F7)(hn2:n2<=maxLen)(hw2:∀i,i<n2->(f2 i).x.r.n<=maxLen/\o9 (f2 i).lab/\U64 (f2 i).x.r.nx.bits/\∀t,t<(f2 i).x.r.n->U64 ((f2 i).x.r.f t).key){L:Shf}(hnew:aL (G5 f n)=some L):l7 Tryz.prog 5 [aT A n c f,U0 J,.sl none A2 n2 c2 15 (fun i=>V6 (f2 i))] (fun _=>.bool .tt):=by
 intro m w hm hargs;have hmx:maxLen=9223372036854775807:=rfl;have hwf:∀i,i<n->o9 (f i).lab/\U64 (f i).x.r.nx.bits:=fun i hi=>⟨(hrw i hi).1,(hrw i hi).2.2.1⟩
 have S1:=Ab A n c f hn;obtain⟨bl,hbl⟩:=eqv (if n<=300 then qT n f else true);rw[<-hbl]at S1;obtain⟨W9,hW9⟩:=eqv ((z6 J 0 (fun _=>jv)).1);obtain⟨E9,hE9⟩:=eqv ((z6 J 0 (fun _=>jv)).2);obtain⟨rr9,hrr9⟩:=eqv (W9.r.rn);obtain⟨nn9,hnn9⟩:=eqv (W9.res.items.length);obtain⟨ff9,hff9⟩:=eqv (itF W9.res.items);have T9:=l7.wq (dj J hJ hRJ none 0 0 (fun _=>jv) (by omega) (fun j hj=>absurd hj (Nat.not_lt_zero _))) hW9 hE9 hrr9 hnn9 hff9;have S9:∀g k fz,l7 Tryz.prog 12 [U0 J,.sl g none 0 0 k fz] (fun x=>.tup [E8 (wqB x W9 rr9 nn9 ff9),.int .i64 E9]):=fun g k fz=>T9.sim ⟨zr,Sim.nils,trivial⟩
 refine en 123 hm hargs Tryz.func5 fun B O a0 Z=>?_
 refine a6 [0,2,4] [4] Z fun X0 Z=>?_
 have O1:=S1;refine a7 (j6 [33,0,2,4] [4] [(1,.r fun _=>.bool (.v bl))] Z fun X1 Z=>?_);apply d7 Z rfl<;>intro hb Z
 .refine a6 [6] [] Z fun X2 Z=>?_
  refine B4 Z ?_;subst O;exact Sim.bool rfl
 have hb0:bl=false:=by
  have h9:(if(if(if bl=true then true else decide ((60:Int)<(n:Int)))=true then true else decide ((20:Int)<(n2:Int)))=true then true else decide ((600:Int)<(J.pn:Int)))=false:=by subst O;exact hb
  revert h9;cases bl<;>simp
 have hb1:=uR (hbl ▸ hb0);have hN:=yq hb1 hwf uk;refine f9 (a7 (wp_region_lit (lpr 0 1 O a8 [35,2,4] [4] [] Z fun X3_0 a0 w1 Z=>?_)));have SN:=tU A n c f hn hN 14 hnew;have hR0:lH L:=rV (xB hrw) hnew;refine E3 rfl rfl rfl rfl Z rfl rfl kZ (SN) (fun _ _ _=>trivial) (fun b hb=>by cases hb) (zl) (by intro e he;cases he) rfl rfl (fun y=>shF w.heap.size (y.c 0) L) (fun n x m w m' w' hn _ _ h=>⟨Nat.le_trans hn h.1,h.2⟩) ?_;intro y a0 w1 Z;obtain⟨sb,hsb⟩:=eqv (y.b);obtain⟨bM,hbM⟩:=eqv (y.c 0);rw[<-hsb,<-hbM]at Z;have hbfr:w.heap.size<=bM:=Z.kept.1;replace Z:=Z.withK (K':=shK bM L) Z.kept.2;refine lnd 2 O a8 [2,4,7,8] [14,4] [] Z fun X3 a0 w1 Z=>?_
 refine a7 ?_;have O4:=S9;refine j4 [2,4,7,8,10] [14,4] [(1,.r fun x=>.tup [.agg [.int .i64 W9.kind,.int .i64 W9.lab.len,.int .u64 W9.lab.bits,.int .u64 W9.ver,.int .i64 rr9.kd,.sl none (x.A 1) rr9.n (x.c 1) 2 (fun i=>itC (rr9.f i)),.int .i64 rr9.nx.len,.int .u64 rr9.nx.bits,.int .u64 rr9.mrk,.int .i64 W9.res.code,.bool (.v W9.res.had),.str W9.res.val,.sl none (x.A 2) nn9 (x.c 2) 2 (fun i=>itC (ff9 i)),.int .u64 W9.res.key,.bool (.v W9.res.more)],.int .i64 E9])] Z fun X4 Z=>?_
 refine a7 (a6 [49,2,4,7,8] [14,4] Z fun X5 Z=>?_);apply d7 Z rfl<;>intro hb Z
 .skip
  have O1:=gP;refine j6 [6] [] [(0,.r fun _=>.bool .tt)] Z fun X6 Z=>?_
  refine B4 Z ?_;subst O;refine Sim.bool ?_;simp[std,b7,BE.den,ly]
 have hE0:E9=0:=by subst O;simpa[std,b7]using hb
 have hj:=rN (J:=J) (f:=fun _=>jv) (by rw[<-hE9];exact hE0);have hbu:=wR hj.1;obtain⟨bq,hbq⟩:=eqv (if 120<J.budget then 120 else J.budget);have hbq2:0<=bq/\bq<=J.budget/\bq<=120:=by rw[hbq];split<;>omega
 have hRc:aB (J.cut bq):=⟨hRJ.x1,hRJ.x2,hRJ.y1,hRJ.y2⟩;have hends:=rM (J:=J.cut bq) (BX hj.1 hbq2.1 hbq2.2.1) hj.2 hbq2.2.2 (IB hw2) hR0 0;have SD:=Bh 14 sb bM (J.cut bq) ⟨hJ.lab,hJ.key,hJ.hi⟩ hRc A2 n2 c2 f2 hn2 hw2 L hR0.good 0;obtain⟨RQ,hRQ⟩:=eqv (C5 (z6 (J.cut bq)) (R7 f2 n2) 2001 [] L 0 []);rw[<-hRQ]at SD hends;obtain⟨he1,he2⟩:=hends;rw[decide_eq_true he1]at SD;have hki:∀i,i<RQ.res.items.length->cN J.rct (itF RQ.res.items i).key=true/\U64 (itF RQ.res.items i).key:=fun i hi=>by
  rw[so hi];exact he2.ins _ (List.getElem_mem hi)
 have hsr:∀i,i+1<RQ.res.items.length->(itF RQ.res.items i).key<(itF RQ.res.items (i+1)).key:=fun i hi=>EM he2.srt hi
 have hfw:=he2.few;have hok:RQ.res.code=0 \/ RQ.res.items.length=0:=he2.ok.imp id fun h=>by rw[h];rfl
 obtain⟨nr,hnr⟩:=eqv (RQ.res.items.length);rw[<-hnr]at hki hsr hfw hok;obtain⟨fr,hfr⟩:=eqv (itF RQ.res.items);simp only[<-hfr]at hki hsr;obtain⟨nl,hnl⟩:=eqv ((iQ RQ).length);obtain⟨fl,hfl⟩:=eqv (R3 (iQ RQ));have SE:I5 Tryz.prog 19 [.ptr 14 sb 0,U0 (J.cut bq),.sl none A2 n2 c2 15 (fun i=>V6 (f2 i))] [(14,⟨sb,95,[.raw (.map (some bM)),.int .i64 0]⟩)] (some bM) (shK bM L) (fun y=>⟨.tup [.agg [.int .i64 RQ.res.code,.bool (.v RQ.res.had),.str RQ.res.val,.sl none (y.A 2) nr (y.c 2) 2 (fun i=>itC (fr i)),.int .u64 RQ.res.key,.bool (.v RQ.res.more)],dy (y.A 3) nl (y.c 3) fl,.bool (.v true)],[(14,[.raw (.map (some bM)),.int .i64 RQ.k])],[]⟩) (fun _ _=>shK bM RQ.L):=by rw[hnr,hfr,hnl,hfl];exact SD
 refine f9 (a6 [2,4,7,11] [14,4,11] Z fun X7 Z=>?_);refine a7 (wp_region_lit (lpr 0 2 O a8 [61,2,4,7,11] [14,4,11] [] Z fun X8_0 a0 w1 Z=>?_));refine BL (r:=bq) rfl rfl rfl rfl rfl rfl Z (show 62<123 by decide) rfl rfl hbq ?_
 intro a0 Z;refine lnd 3 O a8 [2,4,7,11] [14,4,11] [] Z fun X8 a0 w1 Z=>?_
 refine a7 (wp_region_lit (lpr 0 3 O a8 [65,66,67,4] [14,4] [] Z fun X9_0 a0 w1 Z=>?_));refine E3 rfl rfl rfl rfl Z rfl rfl kY SE (fun _ _ h=>h) (fun b hb=>by cases hb;exact fun h=>absurd h (Nat.not_lt.2 hbfr)) ⟨zr,zr,zr,trivial⟩ (by intro e he;simp only[List.mem_singleton]at he;subst he;rfl) rfl rfl (fun _=>shK bM RQ.L) (fun _ _ _ _ _ _ _ _ _ h=>h) ?_;intro y a0 w1 Z;replace Z:=Z.withK (K':=shK bM RQ.L) Z.kept;refine lnd 4 O a8 [4,12,14] [4,12] [] Z fun X9 a0 w1 Z=>?_
 refine a7 (a6 [73,4,12] [4,12] Z fun X10 Z=>?_);apply d7 Z rfl<;>intro hb Z
 .exfalso
  subst O;simp[std,b7,BE.den]at hb
 skip
 refine f9 (a7 (a6 [15,4,12] [4,12] Z fun X12 Z=>?_));refine j0 (aX (ι:=Nat) (fun p=>shK bM RQ.L) (fun p=>[(15,.int .i64 (p:Int))]) (fun p=>[]) (fun p=>[]) (fun p=>p<=nr) (fun p=>nr-p) 0 (Nat.zero_le _) Z ?_)
 rintro i hi a0 w1 Z
 try dsimp only at hi
 refine a7 (a6 [78,4,12,15] [4,12] Z fun X13 Z=>?_);apply d7 Z rfl<;>intro hb Z
 .have hin:i<nr:=by
   have:(i:Int)<(nr:Int):=by subst O;simpa[std,b7]using hb
   omega
  obtain⟨hi1,hik⟩:=hki i hin;have O7:=FC hRJ (fr i).key hik;rw[hi1]at O7;refine f9 (a7 (j0 (a7 ?_)));refine drg O a8 [110,4,12,15] [4,12] [(8,.r fun _=>.bool (.v true))] Z (hob:=by intro X;subst O;simp only[f8,Ob.holds,BE.den,List.mem_cons,List.not_mem_nil,or_false,forall_eq_or_imp,forall_eq]<;>and_intros<;>repeat first|trivial|rfl|exact O7|exact(show(0:Int)<=(i:Int)by omega)|exact(show(i:Int)<(nr:Int)by omega)|exact(xn hin hfw h.1).1|exact(xn hin hfw h.1).2|exact(fun _ _=>by kernel_rfl)|refine⟨?_,?_⟩|intro h|exact Int.le_refl _|decide|omega) fun X15 a0 w1 Z=>?_
  apply d7 Z rfl<;>intro hb Z
  .exfalso
   have h9:(if(!true)=true then true else(if decide ((0:Int)<(i:Int))=true then decide ((fr i).key<=(fr (IntKind.i64.wrap ((i:Int)-1)).toNat).key)else false))=true:=by subst O;exact hb
   by_cases hi0:0<i
   .rw [ya hi0 (by omega),Int.toNat_natCast]at h9
    have h3:=hsr (i-1) (by omega);rw[show i-1+1=i by omega]at h3;have h4:(0:Int)<(i:Int):=by omega
    simp[h4]at h9;omega
   have h4:¬(0:Int)<(i:Int):=by omega
   simp at h9;omega
  skip
  refine f9 (j5 [15,4,12] [4,12] Z fun X14 Z=>?_);have e:B.arith .add .i64 (i:Int) 1=((i+1:Nat):Int):=by subst O;exact j7 (n:=nr) hin (by omega)
  refine⟨i+1,by omega,by omega,by rw[<-e];exact Z⟩
 have hout:i=nr:=by
  have:¬(i:Int)<(nr:Int):=by subst O;simpa[std,b7]using hb
  omega
 have O1:=gP;refine o4 (j6 [6] [4,12] [(0,.r fun _=>.bool .tt)] Z fun X17 Z=>?_);refine B4 Z ?_;subst O;refine Sim.bool ?_
 rcases hok with h|h
 .simp [std,b7,BE.den,ly,h]
 simp[std,b7,BE.den,ly,h]
end Go.Proofs.YtmbkanpapkhnaaaGreat.Sym
namespace Go.Proofs.YtmbkanpapkhnaaaGreat
open Go Go.RowKit
theorem lM(W:World)(v0 v1 v2:Value)(i0:Sym.Ew W v0)(i1:Sym.At W v1)(i2:Sym.As W v2):Calls Tryz.prog 5 #[v0,v1,v2] W fun e w'=>e = .returned (.bool true)/\Below W.heap.size W w':=by
 obtain⟨A,n,c,f,rfl,h0,hn,hf⟩:=i0;obtain⟨J,rfl,h1,hJ,hRJ⟩:=i1;obtain⟨A2,n2,c2,f2,rfl,h2,hn2,hf2⟩:=i2;have hrw:∀i,i<n->Sym.o9 (f i).lab/\U64 (f i).ver/\U64 (f i).x.r.nx.bits/\∀t,t<(f i).x.r.n->U64 ((f i).x.r.f t).key:=fun i hi=>by
  obtain⟨_,_,a,b,c,d⟩:=hf i hi;exact⟨a,c,b.u64,d⟩
 have hw2:∀i,i<n2->(f2 i).x.r.n<=maxLen/\Sym.o9 (f2 i).lab/\U64 (f2 i).x.r.nx.bits/\∀t,t<(f2 i).x.r.n->U64 ((f2 i).x.r.f t).key:=fun i hi=>by
  obtain⟨_,a,b,c,d⟩:=hf2 i hi;exact⟨a,b,c.u64,d⟩
 have S:Sym.l7 Tryz.prog 5 [Sym.aT A n c f,Sym.U0 J,Sym.xh A2 n2 c2 f2] (fun _=>.bool .tt):=by
  cases hnew:aL (Sym.G5 f n)with
  |none=>exact Sym.qp A n c f hn hrw J hJ hRJ A2 n2 c2 f2 hn2 hw2 hnew
  |some L=>exact Sym.ot A n c f hn hrw J hJ hRJ A2 n2 c2 f2 hn2 hw2 hnew
 refine(S (fun _ _=>False) W (fun _ _ h=>h.elim) (fun v hv=>?_)).mono ?_
 .simp only[List.mem_cons,List.not_mem_nil,or_false]at hv
  rcases hv with rfl|rfl|rfl
  .exact h0
  .exact h1
  exact h2
 rintro e w' ⟨x,rfl,_,hb⟩
 exact⟨rfl,hb⟩
end Go.Proofs.YtmbkanpapkhnaaaGreat
