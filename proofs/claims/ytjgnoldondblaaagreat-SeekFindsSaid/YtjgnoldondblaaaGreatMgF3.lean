/-
  PlCov, PlUp, SymAt, SymCov, PlProc, SymHd3, SymThr, SymPr0, SymUp, SymPr1, EtyI, ItOwn, ItGrow, PlMap, ItCut, SymHalf, SymUni, SymPr2, SymPr3, SymPr4, SymPr5, SymPr6, SymPr7, SymPr8: put together by a program of mine (a claim may have 60 files at most). Conditions: none.
-/
import Derived.WalkKit
import Derived.WalkLawsBesides
import Derived.WalkSpells
import Derived.Lib.Hide
import Derived.Deep.QuietTactic
import Derived.BigQuiet
import Derived.Deep.LoopGhost
import Derived.Deep.DeepCutAuto
import Derived.Deep.RegionLaw
import Derived.Lib.Overlaps
import Derived.Laws.CopyOwn
import Derived.IntWalk
import Derived.ProofKit
import Derived.OpenShut
import Derived.ShutString
import Derived.ChangeOld
import Derived.Deep.Slices
import Derived.Test.YtjgnoldondblaaaGreatProg
import Derived.Orders
import Derived.OrdersHeld
import Derived.Defers
import Derived.Recover
import Derived.Lib.BitFns
import Derived.ChangeKeysEq
import Derived.Test.YtjgnoldondblaaaGreatChecked
import Derived.Lib.BufferWrite
import Derived.Maps.OwnSet
import Derived.Maps.RangeWalk
import Derived.Maps.Ext
import Derived.DeepKeys4
import Derived.LoopN
import Derived.Test.YtjgnoldondblaaaGreatMgF1
import Derived.Test.YtjgnoldondblaaaGreatMgF2
set_option linter.unusedVariables false
set_option linter.unusedSimpArgs false
set_option maxRecDepth 100000
set_option maxHeartbeats 1600000
namespace Go.Proofs.YtjgnoldondblaaaGreat
open Go.RowKit Sym
def coverB (l:Lab) (key:Int):Bool:=isL l && decide ((headN key.toNat l.len.toNat:Int)=l.bits)
def childL (l:Lab) (b:Int):Lab:=⟨l.len + 1,if b=1 then l.bits + (2 ^ (63 - l.len.toNat):Nat) else l.bits⟩
theorem u64_lt {v:Int} (h:U64 v):v.toNat < 2 ^ 64:=by have:=h.1; have:=h.2; omega
theorem div_lt {v n:Nat} (hv:v < 2 ^ 64) (hn:n ≤ 64):v / 2 ^ (64 - n) < 2 ^ n:=by
 rw [Nat.div_lt_iff_lt_mul (Nat.pow_pos (by decide)),← Nat.pow_add,show n + (64 - n)=64 by omega]
 exact hv
theorem lab_parts {l:Lab} (h:isL l=true):0 ≤ l.len ∧ l.len ≤ 64 ∧ (headN l.bits.toNat l.len.toNat:Int)=l.bits:=by
 unfold isL at h
 simp only [Bool.and_eq_true,decide_eq_true_eq] at h
 exact ⟨h.1.1,h.1.2,h.2⟩
theorem half_pow {n:Nat} (h:n < 64):2 ^ (64 - n)=2 * 2 ^ (63 - n):=by
 have h9:64 - n=(63 - n) + 1:=by omega
 rw [h9,Nat.pow_succ,Nat.mul_comm]
theorem lab_mul {l:Lab} (hl:isL l=true) (hb:U64 l.bits) (h64:l.len ≠ 64):∃ q,l.bits=((q * (2 * 2 ^ (63 - l.len.toNat)):Nat):Int) ∧ q * (2 * 2 ^ (63 - l.len.toNat)) + 2 * 2 ^ (63 - l.len.toNat) ≤ 2 ^ 64:=by
 obtain ⟨h0,h1,h2⟩:=lab_parts hl
 have hn:l.len.toNat < 64:=by omega
 refine ⟨l.bits.toNat / 2 ^ (64 - l.len.toNat),?_,?_⟩
 ·rw [← h2]
  unfold headN
  rw [half_pow hn]
  congr 1
  have:(((l.bits.toNat / (2 * 2 ^ (63 - l.len.toNat)) * (2 * 2 ^ (63 - l.len.toNat)):Nat):Int).toNat)=l.bits.toNat / (2 * 2 ^ (63 - l.len.toNat)) * (2 * 2 ^ (63 - l.len.toNat)):=Int.toNat_natCast _
  have hpos:0 < 2 * 2 ^ (63 - l.len.toNat):=Nat.mul_pos (by decide) (Nat.pow_pos (by decide))
  rw [this,Nat.mul_div_cancel _ hpos]
 have h3:=div_lt (u64_lt hb) (show l.len.toNat ≤ 64 by omega)
 rw [← half_pow hn]
 have:=Nat.mul_le_mul_right (2 ^ (64 - l.len.toNat)) (Nat.succ_le_of_lt h3)
 rw [← Nat.pow_add,show l.len.toNat + (64 - l.len.toNat)=64 by omega,Nat.succ_mul] at this
 exact this
theorem child_u {l:Lab} (hl:isL l=true) (hb:U64 l.bits) (h64:l.len ≠ 64) (b:Int):U64 (childL l b).bits:=by
 obtain ⟨q,h1,h2⟩:=lab_mul hl hb h64
 unfold childL
 simp only
 split
 ·rw [h1]; constructor
  ·omega
  have:0 < 2 ^ (63 - l.len.toNat):=Nat.pow_pos (by decide)
  omega
 exact hb
theorem child_isL {l:Lab} (hl:isL l=true) (hb:U64 l.bits) (h64:l.len ≠ 64) (b:Int):isL (childL l b)=true:=by
 obtain ⟨q,h1,h2⟩:=lab_mul hl hb h64
 obtain ⟨h3,h4,h5⟩:=lab_parts hl
 have hlen:(l.len + 1).toNat=l.len.toNat + 1:=by omega
 have hpow:64 - (l.len.toNat + 1)=63 - l.len.toNat:=by omega
 unfold isL childL
 simp only [Bool.and_eq_true,decide_eq_true_eq]
 refine ⟨⟨by omega,by omega⟩,?_⟩
 unfold headN
 rw [hlen,hpow]
 have hp:0 < 2 ^ (63 - l.len.toNat):=Nat.pow_pos (by decide)
 split
 ·have e:(l.bits + ((2 ^ (63 - l.len.toNat):Nat):Int)).toNat=(q * 2 + 1) * 2 ^ (63 - l.len.toNat):=by
   rw [h1,Nat.add_mul,Nat.one_mul,Nat.mul_assoc]; omega
  rw [e,Nat.mul_div_cancel _ hp,h1,Nat.add_mul,Nat.one_mul,Nat.mul_assoc]
  omega
 have e:l.bits.toNat=(q * 2) * 2 ^ (63 - l.len.toNat):=by rw [h1,Nat.mul_assoc]; omega
 rw [e,Nat.mul_div_cancel _ hp,h1,Nat.mul_assoc]
theorem child_cov {l:Lab} (hl:isL l=true) (hb:U64 l.bits) (h64:l.len ≠ 64) {key:Int} (hk:U64 key) (hc:coverB l key=true) :
  coverB (childL l 0) key=decide (key < (childL l 1).bits) ∧ coverB (childL l 1) key=decide ((childL l 1).bits ≤ key):=by
 obtain ⟨q,h1,h2⟩:=lab_mul hl hb h64
 obtain ⟨h3,h4,h5⟩:=lab_parts hl
 have hlen:(l.len + 1).toNat=l.len.toNat + 1:=by omega
 have hpow:64 - (l.len.toNat + 1)=63 - l.len.toNat:=by omega
 have hn:l.len.toNat < 64:=by omega
 obtain ⟨M,hM⟩:=eqv (2 ^ (63 - l.len.toNat))
 have hp:0 < M:=by rw [hM]; exact Nat.pow_pos (by decide)
 have hh:(headN key.toNat l.len.toNat:Int)=l.bits:=by
  unfold coverB at hc
  simp only [Bool.and_eq_true,decide_eq_true_eq] at hc
  exact hc.2
 rw [← hM] at h1
 have hq:key.toNat / (2 * M)=q:=by
  unfold headN at hh
  rw [half_pow hn,← hM,h1] at hh
  have:key.toNat / (2 * M) * (2 * M)=q * (2 * M):=by omega
  exact Nat.eq_of_mul_eq_mul_right (by omega) this
 have hkey:key.toNat=q * (2 * M) + key.toNat % (2 * M):=by
  have:=Nat.div_add_mod key.toNat (2 * M)
  rw [hq,Nat.mul_comm] at this
  omega
 have hr:=Nat.mod_lt key.toNat (show 0 < 2 * M by omega)
 have hdiv:key.toNat / M=q * 2 + key.toNat % (2 * M) / M:=by
  conv => lhs; rw [hkey]
  rw [← Nat.mul_assoc,Nat.mul_comm,Nat.mul_add_div hp]
 have hk0:=hk.1
 unfold coverB
 rw [child_isL hl hb h64 0,child_isL hl hb h64 1,Bool.true_and,Bool.true_and]
 unfold childL headN
 simp only [hlen,hpow,← hM,if_true,show ¬ ((0:Int)=1) by decide,if_false,hdiv,h1]
 by_cases hlt:key.toNat % (2 * M) < M
 ·rw [Nat.div_eq_of_lt hlt,Nat.add_zero,Nat.mul_assoc]
  constructor
  ·rw [decide_eq_true rfl,eq_comm,decide_eq_true_eq]; omega
  rw [Bool.eq_iff_iff,decide_eq_true_eq,decide_eq_true_eq]; omega
 have h9:key.toNat % (2 * M) / M=1:=by
  have h10:=Nat.div_lt_of_lt_mul (m:=key.toNat % (2 * M)) (n:=M) (k:=2) (by omega)
  have h11:=(Nat.le_div_iff_mul_le hp (x:=1) (y:=key.toNat % (2 * M))).2 (by omega)
  omega
 rw [h9,Nat.add_mul,Nat.one_mul,Nat.mul_assoc]
 constructor
 ·rw [Bool.eq_iff_iff,decide_eq_true_eq,decide_eq_true_eq]; omega
 rw [Bool.eq_iff_iff,decide_eq_true_eq,decide_eq_true_eq]; omega
def covL (l:Lab) (its:List Itm):List Itm:=its.filter fun x => coverB l x.key
def halvR (kd:Int) (n:Nat) (f:Nat → Itm) (nx:Lab) (mk:Int) (l:Lab):Rec × Rec × Int:=
 if (isRF kd n f nx mk && isL l && decide ((covL l (firsts f n)).length=n))=false then (zeroRec,zeroRec,1)
 else if kd ≠ 1 ∧ kd ≠ 3 then (zeroRec,zeroRec,13) else if l.len=64 then (zeroRec,zeroRec,5)
 else (⟨1,covL (childL l 0) (firsts f n),childL l 1,0⟩,⟨1,covL (childL l 1) (firsts f n),nx,0⟩,0)
theorem cov_all {l:Lab} {its:List Itm}:(covL l its).length=its.length ↔ ∀ x ∈ its,coverB l x.key=true:=by
 unfold covL
 exact List.length_filter_eq_length_iff
def ovl (n:Nat) (f:Nat → Itm) (n2:Nat) (f2:Nat → Itm):Bool:=decide (0 < n) && (decide (0 < n2) && decide ((f2 0).key ≤ (f (n - 1)).key))
def uniR (kd:Int) (n:Nat) (f:Nat → Itm) (nx:Lab) (mk:Int) (kd2:Int) (n2:Nat) (f2:Nat → Itm) (nx2:Lab) (mk2:Int):Rec × Int:=
 if (isRF kd n f nx mk && isRF kd2 n2 f2 nx2 mk2)=false then (zeroRec,1) else if ovl n f n2 f2=true then (zeroRec,1)
 else if ¬ (kd=1 ∨ kd=5) ∨ ¬ (kd2=1 ∨ kd2=5) then (zeroRec,13) else if 16 < n + n2 then (zeroRec,12) else (⟨1,firsts f n ++ firsts f2 n2,nx2,0⟩,0)
theorem isRF_kind {kd:Int} {n:Nat} {f:Nat → Itm} {nx:Lab} {mk:Int} (h:isRF kd n f nx mk=true):1 ≤ kd ∧ kd ≤ 5 ∧ n ≤ 16 ∧ (nx=noneL ∨ isL nx=true) ∧ okF f n=true:=by
 rw [isRF_ref] at h
 simp only [Bool.and_eq_true,Bool.not_eq_true',Bool.or_eq_false_iff,decide_eq_false_iff_not] at h
 obtain ⟨⟨⟨⟨⟨h1,h2⟩,h3⟩,h4⟩,_⟩,h5⟩:=h
 refine ⟨by omega,by omega,by omega,?_,h5⟩
 by_cases hd:nx=noneL
 ·exact .inl hd
 right
 cases hl:isL nx with
 | true => rfl
 | false => simp [hd,hl] at h4
def parE (l:Lab):Int:=if isL l=false then 1 else if l.len=0 then 7 else 0
def parL (l:Lab):Lab:=⟨l.len - 1,(headN l.bits.toNat (l.len.toNat - 1):Nat)⟩
def parV (l:Lab):Lab:=if parE l=0 then parL l else ⟨0,0⟩
theorem headN_le' (v n:Nat):headN v n ≤ v:=Nat.div_mul_le_self _ _
theorem headN_u {v:Int} (hv:U64 v) (n:Nat):U64 ((headN v.toNat n:Nat):Int):=by
 have:=headN_le' v.toNat n
 have h1:=hv.1; have h2:=hv.2
 exact ⟨by omega,by omega⟩
theorem par_u {l:Lab} (hb:U64 l.bits):U64 (parL l).bits:=headN_u hb _
theorem headN_head {v n:Nat}:headN (headN v n) n=headN v n:=by
 unfold headN
 rw [Nat.mul_div_cancel _ (Nat.pow_pos (by decide))]
theorem par_isL {l:Lab} (hl:isL l=true) (hb:U64 l.bits) (h0:l.len ≠ 0):isL (parL l)=true:=by
 obtain ⟨h1,h2,_⟩:=lab_parts hl
 unfold isL parL
 simp only [Bool.and_eq_true,decide_eq_true_eq]
 refine ⟨⟨by omega,by omega⟩,?_⟩
 rw [show (l.len - 1).toNat=l.len.toNat - 1 by omega,Int.toNat_natCast,headN_head]
theorem nat_andNot_bit {n v k:Nat} (hv:v < 2 ^ n) (hm:v % 2 ^ k=0):v &&& (2 ^ n - 1 - 2 ^ k)=v / 2 ^ (k + 1) * 2 ^ (k + 1):=by
 apply Nat.eq_of_testBit_eq
 intro i
 rw [Nat.testBit_and,Nat.testBit_mul_two_pow,Nat.testBit_div_two_pow]
 have hvk:∀ i,i < k → v.testBit i=false:=by
  intro i hi
  obtain ⟨q,hq⟩:=Nat.dvd_of_mod_eq_zero hm
  rw [hq,Nat.mul_comm,Nat.testBit_mul_two_pow]
  simp [show ¬ k ≤ i by omega]
 by_cases h1:i < k
 ·simp [hvk i h1,show ¬ (k + 1 ≤ i) by omega]
 by_cases hin:i < n
 ·by_cases hkn:k < n
  ·rw [show 2 ^ n - 1 - 2 ^ k=2 ^ n - (2 ^ k + 1) by omega,Nat.testBit_two_pow_sub_succ (Nat.pow_lt_pow_right (by decide) hkn),Nat.testBit_two_pow]
   by_cases h2:i=k
   ·subst h2; simp; intro h; omega
   simp [hin,show ¬ k=i by omega,show k + 1 ≤ i by omega,show i - (k + 1) + (k + 1)=i by omega]
  exfalso; omega
 have hvi:v.testBit i=false:=Nat.testBit_lt_two_pow (Nat.lt_of_lt_of_le hv (Nat.pow_le_pow_right (by decide) (by omega)))
 rw [hvi]
 by_cases h3:k + 1 ≤ i
 ·simp [show i - (k + 1) + (k + 1)=i by omega,hvi]
 simp [h3]
theorem andNot_bit {l:Lab} (hl:isL l=true) (hb:U64 l.bits) (h0:l.len ≠ 0):sAr .andNot .u64 l.bits ((2 ^ (64 - l.len.toNat):Nat):Int)=(parL l).bits:=by
 obtain ⟨h1,h2,h3⟩:=lab_parts hl
 obtain ⟨n,hn⟩:∃ n:Nat,l.len=n:=⟨l.len.toNat,by omega⟩
 have hn0:0 < n:=by omega
 have hn64:n ≤ 64:=by omega
 have hlt:=u64_lt hb
 have hm:l.bits.toNat % 2 ^ (64 - n)=0:=by
  have:l.bits.toNat=headN l.bits.toNat n:=by rw [hn] at h3; simp at h3; omega
  rw [this]; unfold headN; exact Nat.mul_mod_left _ _
 show IntKind.u64.wrap (BitVec.ofInt 64 l.bits &&& ~~~BitVec.ofInt 64 _).toNat=_
 have hp:2 ^ (64 - n) < 2 ^ 64:=Nat.pow_lt_pow_right (by decide) (by omega)
 have e1:(BitVec.ofInt 64 l.bits).toNat=l.bits.toNat:=by
  rw [BitVec.toNat_ofInt]
  have h1:=hb.1; have h2:=hb.2
  rw [Int.emod_eq_of_lt h1 (by simpa using h2)]
 have e2:(BitVec.ofInt 64 ((2 ^ (64 - l.len.toNat):Nat):Int)).toNat=2 ^ (64 - n):=by
  rw [hn,Int.toNat_natCast,BitVec.ofInt_natCast,BitVec.toNat_ofNat,Nat.mod_eq_of_lt hp]
 rw [BitVec.toNat_and,BitVec.toNat_not,e1,e2,show 2 ^ 64 - 1 - 2 ^ (64 - n)=2 ^ 64 - 1 - 2 ^ (64 - n) from rfl,nat_andNot_bit hlt hm]
 unfold parL headN
 simp only [hn,Int.toNat_natCast]
 rw [show 64 - (n - 1)=64 - n + 1 by omega,wrap_u64n]
 have:=Nat.div_mul_le_self l.bits.toNat (2 ^ (64 - n + 1))
 rw [Nat.mod_eq_of_lt (by omega)]
end Go.Proofs.YtjgnoldondblaaaGreat
namespace Go.Proofs.YtjgnoldondblaaaGreat.Sym
open Go Go.RowKit
def cmp3 (x y:Int):Int:=if x < y then -1 else if y < x then 1 else 0
theorem cmp3_lt {x y:Int} (h:cmp3 x y < 0):x < y:=by
 unfold cmp3 at h
 split at h
 ·assumption
 split at h<;>omega
theorem cmp3_neg {x y:Int} (h:x < y):cmp3 x y < 0:=by
 unfold cmp3
 rw [if_pos h]
 decide
theorem cmp3_eq (x y:Int):decide (cmp3 x y=0)=decide (x=y):=by
 unfold cmp3
 by_cases h1:x < y
 ·simp [h1]; omega
 by_cases h2:y < x
 ·simp [h1,h2]; omega
 simp [h1,h2]; omega
def bsF (f:Nat → Itm) (key:Int) (lo hi:Nat):Nat:=
 if h:lo < hi then (if (f ((lo + hi) / 2)).key < key then bsF f key ((lo + hi) / 2 + 1) hi else bsF f key lo ((lo + hi) / 2)) else lo
termination_by hi - lo
decreasing_by all_goals omega
theorem bsF_end {f:Nat → Itm} {key:Int} {lo hi:Nat} (h:¬ lo < hi):bsF f key lo hi=lo:=by rw [bsF,dif_neg h]
theorem bsF_up {f:Nat → Itm} {key:Int} {lo hi m:Nat} (h:lo < hi) (hm:m=(lo + hi) / 2) (hk:(f m).key < key):bsF f key lo hi=bsF f key (m + 1) hi:=by
 subst hm; conv => lhs; rw [bsF]
 rw [dif_pos h,if_pos hk]
theorem bsF_dn {f:Nat → Itm} {key:Int} {lo hi m:Nat} (h:lo < hi) (hm:m=(lo + hi) / 2) (hk:¬ (f m).key < key):bsF f key lo hi=bsF f key lo m:=by
 subst hm; conv => lhs; rw [bsF]
 rw [dif_pos h,if_neg hk]
def hitF (f:Nat → Itm) (key:Int) (n p:Nat):Bool:=decide (p < n) && decide ((f p).key=key)
theorem half_ok (lo hi:Nat) (h:lo + hi < 1000000000):IntKind.i64.wrap (stdShift .shr .u64 (IntKind.u64.wrap ((lo:Int) + (hi:Int))) 1)=(((lo + hi) / 2:Nat):Int):=by
 rw [wrap_u64 _ ⟨by omega,by omega⟩]
 have e:stdShift .shr .u64 ((lo:Int) + (hi:Int)) 1=(((lo + hi) / 2:Nat):Int):=by
  have h1:=shr_u64 (v:=(lo:Int) + (hi:Int)) ⟨by omega,by omega⟩ 1 (by decide)
  rw [show ((1:Nat):Int)=1 from rfl] at h1
  rw [h1,show ((lo:Int) + (hi:Int)).toNat=lo + hi by omega]
 rw [e,wrap_in (by omega) (by omega)]
theorem enters50:Enters Tryz.prog 50:=fun _ _ => by kernel_rfl
theorem nan_s (x:Int):Spec Tryz.prog 50 [.int .u64 x] (fun _ => .bool .ff):=by
 intro m w hm hargs
 refine en 6 hm hargs Tryz.func50 fun B hB a0 hF => ?_
 refine wp_seq (rg hB TA_ok [0] [] [] hF fun X0 a0 w1 hF => ?_)
 refine wp_seq (rg hB TA_ok [2] [] [] hF fun X1 a0 w1 hF => ?_)
 refine wp_ret ((rsi hB TA_ok hF nAt (he:=?_)))
 subst hB; exact Sim.bool (by simp [BE.den,std,sC]; rfl)
theorem enters23:Enters Tryz.prog 23:=fun _ _ => by kernel_rfl
theorem cmp_s (x y:Int):Spec Tryz.prog 23 [.int .u64 x,.int .u64 y] (fun _ => .int .i64 (cmp3 x y)):=by
 intro m w hm hargs
 refine en 20 hm hargs Tryz.func23 fun B hB a0 hF => ?_
 refine wp_seq (rg hB TA_ok [0,1] [] [] hF fun X0 a0 w1 hF => ?_)
 refine wp_seq (rg hB TA_ok [0,1,5] [] [(1,.r fun _ => .bool .ff)] hF (hob:=?hob) fun X1 a0 w1 hF => ?_)
 case hob =>
  intro X
  subst hB; exact ⟨⟨enters50,nan_s x⟩,trivial⟩
 refine wp_seq (rg hB TA_ok [0,1,5,6] [] [(1,.r fun _ => .bool .ff)] hF (hob:=?hob) fun X2 a0 w1 hF => ?_)
 case hob =>
  intro X
  subst hB; exact ⟨⟨enters50,nan_s y⟩,trivial⟩
 refine wp_seq (wp_seq (rg hB TA_ok [11,0,1,6] [] [] hF fun X3 a0 w1 hF => ?_))
 refine test_ff hF rfl (fun hF => ?_)
 refine wp_skip (wp_seq (wp_seq (rg hB TA_ok [13,0,1] [] [] hF fun X7 a0 w1 hF => ?_)))
 refine test_ff hF rfl (fun hF => ?_)
 refine wp_skip (wp_seq (wp_seq (rg hB TA_ok [16,0,1] [] [] hF fun X9 a0 w1 hF => ?_)))
 apply test_ok hF rfl<;>intro hb hF
 ·have h1:x < y:=by subst hB; simpa [std,sC] using hb
  refine wp_seq (rg hB TA_ok [4] [] [] hF fun X10 a0 w1 hF => ?_)
  refine wp_ret ((rsp hB TA_ok hF nAt (he:=?_)).1)
  simp only [cmp3,h1,if_true]; rfl
 have h1:¬ x < y:=by subst hB; simpa [std,sC] using hb
 refine wp_skip (wp_seq (wp_seq (rg hB TA_ok [19] [] [] hF fun X11 a0 w1 hF => ?_)))
 apply test_ok hF rfl<;>intro hb hF
 ·have h2:y < x:=by subst hB; simpa [std,sC] using hb
  refine wp_seq (rg hB TA_ok [4] [] [] hF fun X12 a0 w1 hF => ?_)
  refine wp_ret ((rsp hB TA_ok hF nAt (he:=?_)).1)
  simp only [cmp3,h1,h2,if_true,if_false]; rfl
 have h2:¬ y < x:=by subst hB; simpa [std,sC] using hb
 refine wp_skip (wp_seq (rg hB TA_ok [4] [] [] hF fun X13 a0 w1 hF => ?_))
 refine wp_ret ((rsp hB TA_ok hF nAt (he:=?_)).1)
 simp only [cmp3,h1,h2,if_false]; rfl
theorem enters137:Enters Tryz.prog 137:=fun _ _ => by kernel_rfl
theorem at1_s (k:Int) (v:ByteArray) (y:Int):Spec Tryz.prog 137 [.agg [.int .u64 k,.str v],.int .u64 y] (fun _ => .int .i64 (cmp3 k y)):=by
 intro m w hm hargs
 obtain ⟨c,hc⟩:=eqv (cmp3 k y)
 have S:=cmp_s k y
 rw [← hc] at S
 refine en 9 hm hargs Tryz.func137 fun B hB a0 hF => ?_
 refine wp_seq (rg hB TA_ok [1,2] [2] [] hF fun X0 a0 w1 hF => ?_)
 refine wp_seq (rg hB TA_ok [4] [] [(3,.r fun _ => .int .i64 c)] hF (hob:=?hob) fun X1 a0 w1 hF => ?_)
 case hob =>
  intro X
  subst hB; first | exact ⟨⟨enters23,S⟩,trivial⟩ | exact ⟨rfl,⟨enters23,S⟩,trivial⟩
 refine wp_ret ((rsp hB TA_ok hF nAt (he:=?_)).1)
 rw [hc]; rfl
theorem enters136:Enters Tryz.prog 136:=fun _ _ => by kernel_rfl
theorem bs_s (A:Option Addr) (n c:Nat) (f:Nat → Itm) (hn:n ≤ 1000000) (key:Int):Spec Tryz.prog 136 [rowI A n c f,.int .u64 key,.fn 137 [] []] (fun _ => .tup [.int .i64 (bsF f key 0 n:Nat),.bool (.v (hitF f key n (bsF f key 0 n)))]):=by
 intro m w hm hargs
 have hmx:maxLen=9223372036854775807:=rfl
 unfold rowI at hargs
 try unfold rowI
 refine en 49 hm hargs Tryz.func136 fun B hB a0 hF => ?_
 refine wp_seq (rg hB TA_ok [0,1,2] [] [] hF fun X0 a0 w1 hF => ?_)
 refine wp_seq (rg hB TA_ok [8,0,1,2] [] [] hF fun X1 a0 w1 hF => ?_)
 replace hF:=hF.head (v':=.int .i64 (n:Int)) (by subst hB; rfl)
 refine wp_seq (rg hB TA_ok [9,10,0,1,2,8] [] [] hF fun X2 a0 w1 hF => ?_)
 refine wp_seq (wp_block (loop_pre (ι:=Nat × Nat) (fun p => [(9,.int .i64 (p.1:Int)),(10,.int .i64 (p.2:Int))]) (fun p => []) (fun p => []) (fun p => p.1 ≤ p.2 ∧ p.2 ≤ n ∧ bsF f key p.1 p.2=bsF f key 0 n) (fun p => p.2 - p.1) (0,n) ⟨Nat.zero_le _,Nat.le_refl _,rfl⟩ hF ?_))
 rintro ⟨lo,hi⟩ ⟨hlh,hhn,hbs⟩ a0 w1 hF
 try dsimp only at hlh
 try dsimp only at hhn
 try dsimp only at hbs
 refine wp_seq (wp_seq (rg hB TA_ok [17,9,10,0,1,2,8] [] [] hF fun X3 a0 w1 hF => ?_))
 apply test_ok hF rfl<;>intro hb hF
 ·have hlt:lo < hi:=by
   have:(lo:Int) < (hi:Int):=by subst hB; simpa [std,sC] using hb
   omega
  refine wp_skip (wp_block (wp_seq (rg hB TA_ok [11,9,10,0,1,2,8] [] [] hF fun X4 a0 w1 hF => ?_)))
  obtain ⟨m,hm⟩:∃ m:Nat,m=(lo + hi) / 2:=⟨_,rfl⟩
  have hmlo:lo ≤ m ∧ m < hi:=by omega
  replace hF:=hF.head (v':=.int .i64 (m:Int)) (by
   subst hB
   show AV.int .i64 (IntKind.i64.wrap (stdShift .shr .u64 (IntKind.u64.wrap (IntKind.i64.wrap ((lo:Int) + (hi:Int)))) 1))=_
   rw [wrap_in (x:=(lo:Int) + (hi:Int)) (by omega) (by omega),half_ok lo hi (by omega),hm])
  obtain ⟨cv,hcv⟩:=eqv (cmp3 (f m).key key)
  have S1:=at1_s (f m).key (f m).val key
  rw [← hcv] at S1
  refine wp_seq (rg hB TA_ok [31,11,9,10,0,1,2,8] [] [(6,.r fun _ => .int .i64 cv)] hF (hob:=?hob) fun X5 a0 w1 hF => ?_)
  case hob =>
   intro X
   subst hB
   refine ⟨⟨?_,?_⟩,⟨enters137,?_⟩,trivial⟩
   ·show (0:Int) ≤ (m:Int); omega
   ·show (m:Int) < (n:Int); omega
   exact S1
  apply test_ok hF rfl<;>intro hb hF
  ·have hlt2:(f m).key < key:=by
    have h9:cv < 0:=by subst hB; simpa [std,sC] using hb
    rw [hcv] at h9
    exact cmp3_lt h9
   have e:B.arith .add .i64 (m:Int) 1=((m + 1:Nat):Int):=by subst hB; exact wrap_succ (n:=n) (by omega) (by omega)
   refine rg hB TA_ok [9,10,0,1,2,8] [] [] hF fun X6 a0 w1 hF => ?_
   refine ⟨(m + 1,hi),⟨by simp only; omega,hhn,?_⟩,by simp only; omega,by rw [← e]; exact hF⟩
   exact (bsF_up hlt hm hlt2).symm.trans hbs
  have hlt2:¬ (f m).key < key:=by
   have h9:¬ cv < 0:=by subst hB; simpa [std,sC] using hb
   rw [hcv] at h9
   exact fun h => h9 (cmp3_neg h)
  refine rg hB TA_ok [9,10,0,1,2,8] [] [] hF fun X7 a0 w1 hF => ?_
  refine ⟨(lo,m),⟨by simp only; omega,by simp only; omega,?_⟩,by simp only; omega,hF⟩
  exact (bsF_dn hlt hm hlt2).symm.trans hbs
 have hge:¬ lo < hi:=by
  have:¬ (lo:Int) < (hi:Int):=by subst hB; simpa [std,sC] using hb
  omega
 have hlo:lo=bsF f key 0 n:=by rw [← hbs,bsF_end hge]
 obtain ⟨cv,hcv⟩:=eqv (cmp3 (f lo).key key)
 have S2:=at1_s (f lo).key (f lo).val key
 rw [← hcv] at S2
 refine wp_exit (wp_seq (rg hB TA_ok [6,7] [] [(11,.r fun _ => .int .i64 cv)] hF (hob:=?hob) fun X8 a0 w1 hF => ?_))
 case hob =>
  intro X
  subst hB
  simp only [AO,Ob.holds,BE.den,List.mem_cons,List.not_mem_nil,or_false,forall_eq_or_imp,forall_eq]
  and_intros<;>first | trivial | (intro h; first | trivial | exact ⟨enters137,S2⟩ | (have h2:(lo:Int) < (n:Int):=of_decide_eq_true h; exact ⟨Int.natCast_nonneg _,h2⟩))
 refine wp_ret ((rsi hB TA_ok hF nAt (he:=?_)))
 subst hB
 rw [← hlo]
 refine Sim.tup ⟨zr,Sim.bool ?_,trivial⟩
 show (if decide ((lo:Int) < (n:Int))=true then decide (cv=0) else false)=hitF f key n lo
 unfold hitF
 rw [hcv]
 by_cases h:lo < n
 ·have h1:(lo:Int) < (n:Int):=by omega
  rw [if_pos (by simpa using h1)]
  simp only [h,decide_true,Bool.true_and]
  exact cmp3_eq _ _
 have h1:¬ (lo:Int) < (n:Int):=by omega
 rw [if_neg (by simpa using h1)]
 simp [h]
theorem enters132:Enters Tryz.prog 132:=fun _ _ => by kernel_rfl
theorem at_s (A:Option Addr) (n c:Nat) (f:Nat → Itm) (hn:n ≤ 1000000) (key:Int):Spec Tryz.prog 132 [rowI A n c f,.int .u64 key] (fun _ => .tup [.int .i64 (bsF f key 0 n:Nat),.bool (.v (hitF f key n (bsF f key 0 n)))]):=by
 intro m w hm hargs
 have S:=bs_s A n c f hn key
 unfold rowI at S hargs ⊢
 generalize hitF f key n (bsF f key 0 n)=hh at S ⊢
 generalize bsF f key 0 n=p at S ⊢
 refine en 11 hm hargs Tryz.func132 fun B hB a0 hF => ?_
 refine wp_seq (rg hB TA_ok [0,1] [] [] hF fun X0 a0 w1 hF => ?_)
 refine wp_seq (rg hB TA_ok [4,5] [] [(2,.r fun _ => .tup [.int .i64 (p:Int),.bool (.v hh)])] hF (hob:=?hob) fun X1 a0 w1 hF => ?_)
 case hob =>
  intro X
  subst hB; exact ⟨⟨enters136,S⟩,trivial⟩
 exact wp_ret ((rsp hB TA_ok hF nAt).1)
def chE (l:Lab) (b:Int):Int:=if isL l=false then 1 else if l.len=64 then 5 else 0
def chV (l:Lab) (b:Int):Lab:=if chE l b=0 then childL l b else ⟨0,0⟩
theorem shl_bit {n:Int} (h0:0 ≤ n) (h1:n < 64):stdShift .shl .u64 1 (IntKind.i64.wrap (63 - n))=((2 ^ (63 - n.toNat):Nat):Int):=by
 rw [wrap_in (by omega) (by omega)]
 show IntKind.u64.wrap (1 * (2:Int) ^ (min (63 - n).toNat 64))=_
 rw [Nat.min_eq_left (by omega),Int.one_mul,show (63 - n).toNat=63 - n.toNat by omega,show (2:Int) ^ (63 - n.toNat)=((2 ^ (63 - n.toNat):Nat):Int) by simp,wrap_u64n]
 have:2 ^ (63 - n.toNat) ≤ 2 ^ 63:=Nat.pow_le_pow_right (by decide) (by omega)
 rw [Nat.mod_eq_of_lt (by omega)]
theorem or_child {l:Lab} (hl:isL l=true) (hb:U64 l.bits) (h64:l.len ≠ 64):sAr .or .u64 l.bits ((2 ^ (63 - l.len.toNat):Nat):Int)=l.bits + ((2 ^ (63 - l.len.toNat):Nat):Int):=by
 obtain ⟨q,h1,h2⟩:=lab_mul hl hb h64
 obtain ⟨h3,h4,h5⟩:=lab_parts hl
 have hn:l.len.toNat < 64:=by omega
 have hp:0 < 2 ^ (63 - l.len.toNat):=Nat.pow_pos (by decide)
 rw [h1]
 rw [or_u64 (a:=q * (2 * 2 ^ (63 - l.len.toNat))) (b:=2 ^ (63 - l.len.toNat)) (k:=64 - l.len.toNat) (by rw [half_pow hn]; exact Nat.mul_mod_left _ _) (by rw [half_pow hn]; omega) (by omega)]
 exact Int.natCast_add _ _
theorem lab_of_guard {l:Lab} {il:Bool} (hil:il=isL l) (h:∀ e ∈ [((BE.v il:BE),true)],e.1.den=e.2):0 ≤ l.len ∧ l.len ≤ 64:=by
 have hl:il=true:=h _ (List.mem_singleton.2 rfl)
 obtain ⟨a,b,_⟩:=lab_parts (l:=l) (by rw [← hil]; exact hl)
 exact ⟨a,b⟩
theorem enters90:Enters Tryz.prog 90:=fun _ _ => by kernel_rfl
theorem bit_s (n:Int) (h0:0 ≤ n) (h1:n < 64):Spec Tryz.prog 90 [.int .i64 n] (fun _ => .int .u64 ((2 ^ (63 - n.toNat):Nat):Int)):=by
 intro m w hm hargs
 refine en 6 hm hargs Tryz.func90 fun B hB a0 hF => ?_
 refine wp_seq (rg hB TA_ok [0] [] [] hF fun X0 a0 w1 hF => ?_)
 refine wp_seq (rg hB TA_ok [2] [] [] hF (hob:=?hob) fun X1 a0 w1 hF => ?_)
 case hob =>
  intro X
  subst hB
  refine ⟨?_,trivial⟩
  show 0 ≤ IntKind.i64.wrap (63 - n)
  rw [wrap_in (by omega) (by omega)]; omega
 refine wp_ret ((rsi hB TA_ok hF nAt (he:=?_)))
 subst hB
 rw [← shl_bit h0 h1]
 exact zr
theorem enters62:Enters Tryz.prog 62:=fun _ _ => by kernel_rfl
theorem child_s (l:Lab) (hb0:U64 l.bits) (b:Int) (hb01:b=0 ∨ b=1):Spec Tryz.prog 62 [labAV l,.int .i64 b] (fun _ => .tup [labAV (chV l b),.int .i64 (chE l b)]):=by
 intro m w hm hargs
 have SI:=isL_s l hb0
 simp only [labAV] at SI hargs ⊢
 obtain ⟨il,hil⟩:=eqv (isL l)
 rw [← hil] at SI
 refine en 38 hm hargs Tryz.func62 fun B hB a0 hF => ?_
 refine wp_seq (rg hB TA_ok [1,2,4] [2,4] [] hF fun X0 a0 w1 hF => ?_)
 refine wp_seq (wp_block (wp_seq (rg hB TA_ok [6,1,2,4] [2,4] [(1,.r fun _ => .bool (.v il))] hF (hob:=?hob) fun X1 a0 w1 hF => ?_)))
 case hob =>
  intro X
  subst hB
  repeat (first | exact trivial | refine ⟨rfl,?_⟩ | refine ⟨fun _ => rfl,?_⟩ | refine ⟨ob_lab (Kk:=noK) _ _ _ _,?_⟩ | refine ⟨fun _ => ob_lab (Kk:=noK) _ _ _ _,?_⟩ | refine ⟨⟨enters35,SI⟩,?_⟩ | refine ⟨fun _ => ⟨enters35,SI⟩,?_⟩)
 apply test_ok hF rfl<;>intro hb hF
 ·have h9:(if (if (!il)=true then true else decide (b < 0))=true then true else decide (b > 1))=true:=by subst hB; exact hb
  have hilf:il=false:=by rcases hb01 with rfl | rfl<;>cases il<;>first | rfl | (simp at h9)
  have hE:chE l b=1:=by unfold chE; rw [← hil,hilf]; rfl
  have hV:chV l b=⟨0,0⟩:=by unfold chV; rw [hE]; rfl
  refine wp_seq (rg hB TA_ok [4,5] [4] [] hF (hob:=?hob) fun X2 a0 w1 hF => ?_)
  case hob =>
   intro X
   subst hB
   repeat (first | exact trivial | refine ⟨rfl,?_⟩ | refine ⟨fun _ => rfl,?_⟩ | refine ⟨ob_lab (Kk:=noK) _ _ _ _,?_⟩ | refine ⟨fun _ => ob_lab (Kk:=noK) _ _ _ _,?_⟩)
  refine wp_ret ((rsi hB TA_ok hF nAt (he:=?_)))
  subst hB
  rw [hV,hE]
  exact zr
 have h9:(if (if (!il)=true then true else decide (b < 0))=true then true else decide (b > 1))=false:=by subst hB; exact hb
 have hilt:il=true:=by cases il<;>first | rfl | (simp at h9)
 have hLt:isL l=true:=by rw [← hil]; exact hilt
 obtain ⟨hl0,hl1,hl2⟩:=lab_parts hLt
 refine wp_seq (rg hB TA_ok [19,1,2,4] [2,4] [] hF (hob:=?hob) fun X3 a0 w1 hF => ?_)
 case hob =>
  intro X
  subst hB
  repeat (first | exact trivial | refine ⟨rfl,?_⟩ | refine ⟨fun _ => rfl,?_⟩ | refine ⟨ob_lab (Kk:=noK) _ _ _ _,?_⟩ | refine ⟨fun _ => ob_lab (Kk:=noK) _ _ _ _,?_⟩)
 apply test_ok hF rfl<;>intro hb hF
 ·have h64:l.len=64:=by subst hB; simpa [std,sC] using hb
  have hE:chE l b=5:=by unfold chE; rw [← hil,hilt,if_neg (by decide),if_pos h64]
  have hV:chV l b=⟨0,0⟩:=by unfold chV; rw [hE]; rfl
  refine wp_seq (rg hB TA_ok [4,5] [4] [] hF (hob:=?hob) fun X4 a0 w1 hF => ?_)
  case hob =>
   intro X
   subst hB
   repeat (first | exact trivial | refine ⟨rfl,?_⟩ | refine ⟨fun _ => rfl,?_⟩ | refine ⟨ob_lab (Kk:=noK) _ _ _ _,?_⟩ | refine ⟨fun _ => ob_lab (Kk:=noK) _ _ _ _,?_⟩)
  refine wp_ret ((rsi hB TA_ok hF nAt (he:=?_)))
  subst hB
  rw [hV,hE]
  exact zr
 have h64:l.len ≠ 64:=by subst hB; simpa [std,sC] using hb
 have hE:chE l b=0:=by unfold chE; rw [← hil,hilt,if_neg (by decide),if_neg h64]
 have hV:chV l b=childL l b:=by unfold chV; rw [hE]; rfl
 refine wp_skip (wp_seq (wp_seq (rg hB TA_ok [25,2,4] [2,4] [] hF fun X5 a0 w1 hF => ?_)))
 refine cut_one (ι:=Int) (S0:=[(25,_)]) (M0:=[(2,_)]) (G0:=[]) (fun p => []) (fun p => [(2,⟨(X0 0).b,37,[.int .i64 l.len,.int .u64 p]⟩)]) (fun p => []) (fun p => p=(childL l b).bits) hF ?_ ?_
 ·apply test_ok hF rfl<;>intro hb hF
  ·have hb1:b=1:=by subst hB; simpa [std,sC] using hb
   have SB:=bit_s l.len hl0 (by omega)
   obtain ⟨bt,hbt⟩:=eqv (((2 ^ (63 - l.len.toNat):Nat):Int))
   rw [← hbt] at SB
   have hor:sAr .or .u64 l.bits bt=l.bits + bt:=by rw [hbt]; exact or_child hLt hb0 h64
   refine drg hB TA_ok [2,4] [2,4] [(4,.r fun _ => .int .u64 bt)] hF (hob:=?hob) fun X6 a0 w1 hF => ?_
   case hob =>
    intro X
    subst hB
    repeat (first | exact trivial | refine ⟨rfl,?_⟩ | refine ⟨fun _ => rfl,?_⟩ | refine ⟨ob_lab (Kk:=noK) _ _ _ _,?_⟩ | refine ⟨fun _ => ob_lab (Kk:=noK) _ _ _ _,?_⟩ | refine ⟨⟨enters90,SB⟩,?_⟩ | refine ⟨fun _ => ⟨enters90,SB⟩,?_⟩)
   refine ⟨(childL l b).bits,rfl,?_⟩
   have e:(childL l b).bits=B.arith .or .u64 l.bits bt:=by
    subst hB
    show _=sAr .or .u64 l.bits bt
    rw [hor,hb1,hbt]; rfl
   rw [e]; exact hF
  have hb1:b=0:=by
   have:¬ b=1:=by subst hB; simpa [std,sC] using hb
   exact hb01.resolve_right this
  exact wp_skip (⟨(childL l b).bits,rfl,by rw [hb1]; exact hF⟩)
 rintro bb hbb a0 w1 hF
 try dsimp only at hbb
 refine wp_seq (rg hB TA_ok [2,4] [2,4] [] hF (hob:=?hob) fun X7 a0 w1 hF => ?_)
 case hob =>
  intro X
  subst hB
  repeat (first | exact trivial | refine ⟨rfl,?_⟩ | refine ⟨fun _ => rfl,?_⟩ | refine ⟨ob_lab (Kk:=noK) _ _ _ _,?_⟩ | refine ⟨fun _ => ob_lab (Kk:=noK) _ _ _ _,?_⟩)
 refine wp_seq (rg hB TA_ok [4,5] [4] [] hF (hob:=?hob) fun X8 a0 w1 hF => ?_)
 case hob =>
  intro X
  subst hB
  repeat (first | exact trivial | refine ⟨rfl,?_⟩ | refine ⟨fun _ => rfl,?_⟩ | refine ⟨ob_lab (Kk:=noK) _ _ _ _,?_⟩ | refine ⟨fun _ => ob_lab (Kk:=noK) _ _ _ _,?_⟩)
 refine wp_ret ((rsi hB TA_ok hF nAt (he:=?_)))
 subst hB
 rw [hV,hE]
 have e1:IntKind.i64.wrap (l.len + 1)=l.len + 1:=wrap_in (by omega) (by omega)
 refine Sim.tup ⟨Sim.agg ⟨?_,?_,trivial⟩,zr,trivial⟩
 ·show Sim (.int .i64 (IntKind.i64.wrap (l.len + 1))) _
  rw [e1]; exact zr
 rw [hbb]; exact zr
theorem enters10:Enters Tryz.prog 10:=fun _ _ => by kernel_rfl
theorem cov_s (l:Lab) (hb0:U64 l.bits) (key:Int) (hk:U64 key):Spec Tryz.prog 10 [labAV l,.int .u64 key] (fun _ => .bool (.v (coverB l key))):=by
 intro m w hm hargs
 have SI:=isL_s l hb0
 have SH:=fun h0 h1 => head_s key l.len hk h0 h1
 simp only [labAV] at SI hargs
 unfold coverB
 obtain ⟨il,hil⟩:=eqv (isL l)
 rw [← hil] at SI ⊢
 obtain ⟨hd,hhd⟩:=eqv (((headN key.toNat l.len.toNat:Nat):Int))
 rw [← hhd]
 simp only [← hhd] at SH
 refine en 16 hm hargs Tryz.func10 fun B hB a0 hF => ?_
 refine wp_seq (rg hB TA_ok [1,2] [2] [] hF fun X0 a0 w1 hF => ?_)
 refine wp_seq (drg hB TA_ok [4] [] [(1,.r fun _ => .bool (.v il)),(6,.r fun _ => .int .u64 hd)] hF (hob:=?hob) fun X1 a0 w1 hF => ?_)
 case hob =>
  intro X
  subst hB
  repeat (first | exact trivial | refine ⟨rfl,?_⟩ | refine ⟨fun _ => rfl,?_⟩ | refine ⟨⟨enters35,SI⟩,?_⟩ | refine ⟨fun h => ⟨enters39,SH (lab_of_guard hil h).1 (lab_of_guard hil h).2⟩,?_⟩)
 refine wp_ret ((rsi hB TA_ok hF nAt (he:=?_)))
 subst hB
 exact Sim.bool (by show (if il=true then decide (hd=l.bits) else false)=_; rw [ite_and]; rfl)
structure Nt where
 code:Int
 had:Bool
 val:ByteArray
structure Rsl where
 code:Int
 had:Bool
 val:ByteArray
 items:List Itm
 key:Int
 more:Bool
deriving DecidableEq
def zRsl:Rsl:=⟨0,false,⟨#[]⟩,[],0,false⟩
structure Wq where
 kind:Int
 lab:Lab
 ver:Int
 r:Rec
 res:Rsl
deriving DecidableEq
def zWq:Wq:=⟨0,⟨0,0⟩,0,zeroRec,zRsl⟩
structure Pst where
 n:Nat
 g:Nat → GotA
 note:Nt
def Pst.tl (p:Pst):Pst:=⟨p.n - 1,fun j => p.g (j + 1),p.note⟩
inductive Rs (α : Type) where
 | ok (a:α) (p:Pst)
 | stop (w:Wq) (p:Pst)
def Rs.bind {α β : Type} (m:Rs α) (f:α → Pst → Rs β):Rs β:=match m with
 | .ok a p => f a p
 | .stop w p => .stop w p
def overW (p:Pst):Wq:=⟨4,⟨0,0⟩,0,zeroRec,⟨p.note.code,p.note.had,p.note.val,[],0,false⟩⟩
def askM (k:Int) (w:Wq) (p:Pst):Rs GotA:=if 0 < p.n ∧ 0 < (p.n:Int) + k then .ok (p.g 0) p.tl else .stop (if (p.n:Int) + k ≤ 0 then overW p else w) p
def getM (k:Int) (l:Lab) (p:Pst):Rs GotA:=askM k ⟨1,l,0,zeroRec,zRsl⟩ p
def casM (k:Int) (l:Lab) (v:Int) (r:Rec) (p:Pst):Rs Bool:=(askM k ⟨2,l,v,r,zRsl⟩ p).bind fun g p => .ok (decide (g.code=0)) p
def drpM (k:Int) (l:Lab) (v:Int) (p:Pst):Rs Bool:=(askM k ⟨3,l,v,zeroRec,zRsl⟩ p).bind fun g p => .ok (decide (g.code=0)) p
def gk (g:GotA) (kd:Int):Bool:=g.has && decide (g.x.r.kd=kd)
def asR (kd:Int) (x:RA) (mk:Int):RA:=⟨x.A,x.c,⟨x.r.n,x.r.f,kd,x.r.nx,mk⟩⟩
def innerR:Rec:=⟨2,[],noneL,0⟩
def halvA (x:RA) (l:Lab):Rec × Rec × Int:=halvR x.r.kd x.r.n x.r.f x.r.nx x.r.mrk l
def uniA (x y:RA):Rec × Int:=uniR x.r.kd x.r.n x.r.f x.r.nx x.r.mrk y.r.kd y.r.n y.r.f y.r.nx y.r.mrk
def splC (k:Int) (l:Lab) (v:Int) (c:Lab) (x:Rec):Nat → Pst → Rs Bool
 | 0,p => .stop zWq p
 | n + 1,p => (getM k c p).bind fun g p => if (g.has && !decide (g.x.r.kd=5))=true then .ok true p else (getM k l p).bind fun q p => if q.ver=v then (casM k c g.ver x p).bind fun d p => if d=true then .ok true p else splC k l v c x n p else .ok false p
def splitM (k:Int) (n:Nat) (l:Lab) (v:Int) (x:RA) (p:Pst):Rs Unit:=
 if (halvA x l).2.2=0 then
  (splC k l v (chV l 0) (halvA x l).1 n p).bind fun go p => if go=true then (splC k l v (chV l 1) (halvA x l).2.1 n p).bind fun go p => if go=true then (casM k l v innerR p).bind fun _ p => .ok () p else .ok () p else .ok () p
 else .ok () p
inductive Fz where
 | over
 | unfit
 | fr (x:RA)
def frzM (k:Int) (l:Lab) (v:Int) (c:Lab):Nat → Pst → Rs Fz
 | 0,p => .stop zWq p
 | n + 1,p => (getM k c p).bind fun g p => if (gk g 1 || gk g 5)=true then (if (gk g 5 && decide (g.x.r.mrk=v))=true then .ok (.fr g.x) p else (getM k l p).bind fun q p => if q.ver=v then (casM k c g.ver (asR 5 g.x v).r.abs p).bind fun d p => if d=true then .ok (.fr (asR 5 g.x v)) p else frzM k l v c n p else .ok .over p) else .ok .unfit p
def clnC (k:Int) (l:Lab) (cl:Lab → Pst → Rs Unit) (c:Lab) (p:Pst):Rs Bool:=
 (getM k c p).bind fun g p => if gk g 5=true then (cl c p).bind fun _ p => (getM k l p).bind fun q p => if (gk q 1 || gk q 5)=true then (drpM k c g.ver p).bind fun _ p => .ok true p else .ok false p else .ok true p
def clnM (k:Int):Nat → Lab → Pst → Rs Unit
 | 0,_,p => .stop zWq p
 | n + 1,l,p => if l.len=64 then .ok () p else (clnC k l (clnM k n) (chV l 0) p).bind fun go p => if go=true then (clnC k l (clnM k n) (chV l 1) p).bind fun _ p => .ok () p else .ok () p
def bckM (k:Int) (th:Lab → Pst → Rs Unit) (l:Lab) (v:Int) (p:Pst):Rs Unit:=(casM k l v innerR p).bind fun d p => if d=true then (th (chV l 0) p).bind fun _ p => th (chV l 1) p else .ok () p
def mrgM (bk k:Int) (n:Nat) (th:Lab → Pst → Rs Unit) (l:Lab) (v:Int) (p:Pst):Rs Unit:=
 (frzM k l v (chV l 0) n p).bind fun a p => match a with
  | .over => .ok () p
  | .unfit => bckM k th l v p
  | .fr a => (frzM k l v (chV l 1) n p).bind fun b p => match b with
   | .over => .ok () p
   | .unfit => bckM k th l v p
   | .fr b => if (uniA a b).2=0 ∧ ((uniA a b).1.items.length:Int) ≤ bk then (casM k l v (uniA a b).1 p).bind fun d p => if d=true then clnM k n l p else .ok () p else bckM k th l v p
def finM (bk k:Int) (n:Nat) (th:Lab → Pst → Rs Unit) (l:Lab) (g:GotA) (p:Pst):Rs Unit:=
 if gk g 3=true then splitM k n l g.ver g.x p else if l.len < 64 then mrgM bk k n th l g.ver p else .ok () p
def thwL (bk k:Int):Nat → Lab → Lab → Pst → Rs Unit
 | 0,_,_,p => .stop zWq p
 | n + 1,l,up,p => (getM k l p).bind fun g p => if gk g 5=true then (getM k up p).bind fun q p =>
   (if (gk q 3 || gk q 4)=true then finM bk k n (fun c p => if parE c=0 then thwL bk k n c (parV c) p else .ok () p) up q p else .ok () p).bind fun _ p =>
    if gk q 2=true then (casM k l g.ver (asR 1 g.x 0).r.abs p).bind fun d p => if d=true then .ok () p else thwL bk k n l up p else .ok () p else .ok () p
def thwM (bk k:Int) (n:Nat) (l:Lab) (p:Pst):Rs Unit:=if parE l=0 then thwL bk k n l (parV l) p else .ok () p
def fnsM (bk k:Int) (n:Nat) (l:Lab) (g:GotA) (p:Pst):Rs Unit:=finM bk k n (thwM bk k n) l g p
def toldM (r:Rs Rsl):Wq × Int:=match r with
 | .ok a p => if 0 < p.n then (zWq,5) else (⟨4,⟨0,0⟩,0,zeroRec,a⟩,0)
 | .stop w p => if 0 < p.n then (zWq,5) else (w,0)
def Suf (p p':Pst):Prop:=∃ d,p'.n + d=p.n ∧ ∀ j,p'.g j=p.g (j + d)
theorem Suf.refl (p:Pst):Suf p p:=⟨0,rfl,fun _ => rfl⟩
theorem Suf.trans {p q r:Pst} (h:Suf p q) (h':Suf q r):Suf p r:=by
 obtain ⟨d,h1,h2⟩:=h
 obtain ⟨e,h3,h4⟩:=h'
 exact ⟨e + d,by omega,fun j => by rw [h4,h2]; congr 1; omega⟩
theorem Suf.le {p q:Pst} (h:Suf p q):q.n ≤ p.n:=by obtain ⟨d,h1,_⟩:=h; omega
theorem suf_tl {p:Pst} (h:0 < p.n):Suf p p.tl:=⟨1,by simp only [Pst.tl]; omega,fun _ => rfl⟩
def Fro {α : Type} (p:Pst) (r:Rs α):Prop:=match r with
 | .ok _ q => Suf p q
 | .stop _ q => Suf p q
theorem Fro.bind {α β : Type} {p:Pst} {m:Rs α} {f:α → Pst → Rs β} (h:Fro p m) (hf:∀ a q,Suf p q → Fro q (f a q)):Fro p (m.bind f):=by
 cases m with
 | ok a q =>
  have h1:=hf a q h
  show Fro p (f a q)
  cases hr:f a q with
  | ok b r => rw [hr] at h1; exact Suf.trans h h1
  | stop w r => rw [hr] at h1; exact Suf.trans h h1
 | stop w q => exact h
theorem fro_ask (k:Int) (w:Wq) (p:Pst):Fro p (askM k w p):=by
 unfold askM
 split
 ·rename_i h; exact suf_tl h.1
 exact Suf.refl _
theorem fro_ok {α : Type} (a:α) (p:Pst):Fro p (Rs.ok a p):=Suf.refl p
theorem fro_stop {α : Type} (w:Wq) (p:Pst):Fro p (Rs.stop w p:Rs α):=Suf.refl p
theorem fro_ite {α : Type} {p:Pst} {c:Prop} [Decidable c] {x y:Rs α} (hx:Fro p x) (hy:Fro p y):Fro p (if c then x else y):=by split<;>assumption
theorem fro_get (k:Int) (l:Lab) (p:Pst):Fro p (getM k l p):=fro_ask _ _ _
theorem fro_cas (k:Int) (l:Lab) (v:Int) (r:Rec) (p:Pst):Fro p (casM k l v r p):=(fro_ask _ _ _).bind fun _ _ _ => fro_ok _ _
theorem fro_del (k:Int) (l:Lab) (v:Int) (p:Pst):Fro p (drpM k l v p):=(fro_ask _ _ _).bind fun _ _ _ => fro_ok _ _
theorem fro_splC (k:Int) (l:Lab) (v:Int) (c:Lab) (x:Rec):∀ n p,Fro p (splC k l v c x n p)
 | 0,p => fro_stop _ _
 | n + 1,p => (fro_get _ _ _).bind fun _ _ _ => fro_ite (fro_ok _ _) ((fro_get _ _ _).bind fun _ _ _ => fro_ite ((fro_cas _ _ _ _ _).bind fun _ _ _ => fro_ite (fro_ok _ _) (fro_splC k l v c x n _)) (fro_ok _ _))
theorem fro_split (k:Int) (n:Nat) (l:Lab) (v:Int) (x:RA) (p:Pst):Fro p (splitM k n l v x p):=
 fro_ite ((fro_splC _ _ _ _ _ _ _).bind fun _ _ _ => fro_ite ((fro_splC _ _ _ _ _ _ _).bind fun _ _ _ => fro_ite ((fro_cas _ _ _ _ _).bind fun _ _ _ => fro_ok _ _) (fro_ok _ _)) (fro_ok _ _)) (fro_ok _ _)
theorem fro_frz (k:Int) (l:Lab) (v:Int) (c:Lab):∀ n p,Fro p (frzM k l v c n p)
 | 0,p => fro_stop _ _
 | n + 1,p => (fro_get _ _ _).bind fun _ _ _ => fro_ite (fro_ite (fro_ok _ _) ((fro_get _ _ _).bind fun _ _ _ => fro_ite ((fro_cas _ _ _ _ _).bind fun _ _ _ => fro_ite (fro_ok _ _) (fro_frz k l v c n _)) (fro_ok _ _))) (fro_ok _ _)
theorem fro_clnC (k:Int) (l:Lab) (cl:Lab → Pst → Rs Unit) (h:∀ c p,Fro p (cl c p)) (c:Lab) (p:Pst):Fro p (clnC k l cl c p):=
 (fro_get _ _ _).bind fun _ _ _ => fro_ite ((h _ _).bind fun _ _ _ => (fro_get _ _ _).bind fun _ _ _ => fro_ite ((fro_del _ _ _ _).bind fun _ _ _ => fro_ok _ _) (fro_ok _ _)) (fro_ok _ _)
theorem fro_cln (k:Int):∀ n l p,Fro p (clnM k n l p)
 | 0,l,p => fro_stop _ _
 | n + 1,l,p => fro_ite (fro_ok _ _) ((fro_clnC _ _ _ (fro_cln k n) _ _).bind fun _ _ _ => fro_ite ((fro_clnC _ _ _ (fro_cln k n) _ _).bind fun _ _ _ => fro_ok _ _) (fro_ok _ _))
theorem fro_bck (k:Int) (th:Lab → Pst → Rs Unit) (h:∀ c p,Fro p (th c p)) (l:Lab) (v:Int) (p:Pst):Fro p (bckM k th l v p):=
 (fro_cas _ _ _ _ _).bind fun _ _ _ => fro_ite ((h _ _).bind fun _ _ _ => h _ _) (fro_ok _ _)
theorem fro_mrg (bk k:Int) (n:Nat) (th:Lab → Pst → Rs Unit) (h:∀ c p,Fro p (th c p)) (l:Lab) (v:Int) (p:Pst):Fro p (mrgM bk k n th l v p):=
 (fro_frz _ _ _ _ _ _).bind fun a _ _ => match a with
  | .over => fro_ok _ _
  | .unfit => fro_bck _ _ h _ _ _
  | .fr a => (fro_frz _ _ _ _ _ _).bind fun b _ _ => match b with
   | .over => fro_ok _ _
   | .unfit => fro_bck _ _ h _ _ _
   | .fr b => fro_ite ((fro_cas _ _ _ _ _).bind fun _ _ _ => fro_ite (fro_cln _ _ _ _) (fro_ok _ _)) (fro_bck _ _ h _ _ _)
theorem fro_fin (bk k:Int) (n:Nat) (th:Lab → Pst → Rs Unit) (h:∀ c p,Fro p (th c p)) (l:Lab) (g:GotA) (p:Pst):Fro p (finM bk k n th l g p):=
 fro_ite (fro_split _ _ _ _ _ _) (fro_ite (fro_mrg _ _ _ _ h _ _ _) (fro_ok _ _))
theorem fro_thwL (bk k:Int):∀ n l up p,Fro p (thwL bk k n l up p)
 | 0,l,up,p => fro_stop _ _
 | n + 1,l,up,p => (fro_get _ _ _).bind fun _ _ _ => fro_ite ((fro_get _ _ _).bind fun _ _ _ => (fro_ite (fro_fin _ _ _ _ (fun c p => fro_ite (fro_thwL bk k n _ _ _) (fro_ok _ _)) _ _ _) (fro_ok _ _)).bind fun _ _ _ => fro_ite ((fro_cas _ _ _ _ _).bind fun _ _ _ => fro_ite (fro_ok _ _) (fro_thwL bk k n _ _ _)) (fro_ok _ _)) (fro_ok _ _)
theorem fro_thw (bk k:Int) (n:Nat) (l:Lab) (p:Pst):Fro p (thwM bk k n l p):=fro_ite (fro_thwL _ _ _ _ _ _) (fro_ok _ _)
theorem fro_fns (bk k:Int) (n:Nat) (l:Lab) (g:GotA) (p:Pst):Fro p (fnsM bk k n l g p):=fro_fin _ _ _ _ (fro_thw _ _ _) _ _ _
theorem Fro.of {α : Type} {p q:Pst} {m:Rs α} {a:α} (h:Fro p m) (e:m = .ok a q):Suf p q:=by rw [e] at h; exact h
theorem ask_ok {k:Int} {w:Wq} {p q:Pst} {g:GotA} (h:askM k w p = .ok g q):0 < p.n ∧ g=p.g 0 ∧ q=p.tl:=by
 unfold askM at h
 split at h
 ·rename_i h0; injection h with h1 h2; exact ⟨h0.1,h1.symm,h2.symm⟩
 cases h
theorem get_lt {k:Int} {l:Lab} {p q:Pst} {g:GotA} (h:getM k l p = .ok g q):q.n < p.n:=by
 obtain ⟨h1,_,rfl⟩:=ask_ok h
 simp only [Pst.tl]; omega
structure RaOk (x:RA):Prop where
 nx:U64 x.r.nx.bits
 key:∀ i,i < x.r.n → U64 (x.r.f i).key
 few:x.r.n ≤ 16
structure GotOk (g:GotA):Prop where
 ra:RaOk g.x
 ver:U64 g.ver
structure GotR (g:GotA):Prop where
 code:g.code=0 ∨ g.code=8
 rf:g.has=true → isRF g.x.r.kd g.x.r.n g.x.r.f g.x.r.nx g.x.r.mrk=true
 no:g.has=false → g.x.r.kd=0 ∧ g.x.r.n=0 ∧ g.x.r.nx=⟨0,0⟩ ∧ g.x.r.mrk=0
theorem GotR.kd {g:GotA} (h:GotR g) (hh:g.has=true):1 ≤ g.x.r.kd ∧ g.x.r.kd ≤ 5:=by
 obtain ⟨h1,h2,_⟩:=isRF_kind (h.rf hh)
 exact ⟨h1,h2⟩
def PstOk (p:Pst):Prop:=∀ j,j < p.n → GotOk (p.g j) ∧ GotR (p.g j)
theorem PstOk.suf {p q:Pst} (h:PstOk p) (hs:Suf p q):PstOk q:=by
 obtain ⟨d,h1,h2⟩:=hs
 intro j hj
 rw [h2]
 exact h _ (by omega)
theorem PstOk.get {k:Int} {l:Lab} {p q:Pst} {g:GotA} (h:PstOk p) (e:getM k l p = .ok g q):GotOk g:=by
 obtain ⟨h1,rfl,_⟩:=ask_ok e
 exact (h 0 h1).1
theorem PstOk.getR {k:Int} {l:Lab} {p q:Pst} {g:GotA} (h:PstOk p) (e:getM k l p = .ok g q):GotR g:=by
 obtain ⟨h1,rfl,_⟩:=ask_ok e
 exact (h 0 h1).2
theorem RaOk.as {x:RA} (h:RaOk x) (kd mk:Int):RaOk (asR kd x mk):=⟨h.nx,h.key,h.few⟩
theorem frz_ok {k:Int} {l:Lab} {v:Int} {c:Lab}:∀ {n:Nat} {p q:Pst} {x:RA},PstOk p → frzM k l v c n p = .ok (.fr x) q → RaOk x
 | 0,p,q,x,_,h => by cases h
 | n + 1,p,q,x,hp,h => by
  unfold frzM at h
  cases h1:getM k c p with
  | stop w p1 => rw [h1] at h; cases h
  | ok g p1 =>
   rw [h1] at h
   have hg:=(hp.get h1).ra
   have hp1:=hp.suf ((fro_get k c p).of h1)
   simp only [Rs.bind] at h
   split at h
   ·split at h
    ·injection h with h _; injection h with h; rw [← h]; exact hg
    cases h2:getM k l p1 with
    | stop w p2 => rw [h2] at h; cases h
    | ok q2 p2 =>
     rw [h2] at h
     have hp2:=hp1.suf ((fro_get k l p1).of h2)
     simp only [Rs.bind] at h
     split at h
     ·cases h3:casM k c g.ver (asR 5 g.x v).r.abs p2 with
      | stop w p3 => rw [h3] at h; cases h
      | ok d p3 =>
       rw [h3] at h
       simp only [Rs.bind] at h
       split at h
       ·injection h with h _; injection h with h; rw [← h]; exact hg.as _ _
       exact frz_ok (hp2.suf ((fro_cas _ _ _ _ _).of h3)) h
     cases h
   cases h
end Go.Proofs.YtjgnoldondblaaaGreat.Sym
namespace Go.Proofs.YtjgnoldondblaaaGreat.Sym
open Go.RowKit
section
variable {C:Cx} {P:Program} {Q:Exit → Act → World → Prop} {T:List (Nat × TI)} {cs:List (Nat × CS)} {ops:Array Oper} {all:List Oper} {H:Hand}
theorem closed {listed:Array Bool} (hDC:∀ k o,all[k]? = some o → listed.getD k false=true → ∀ e ∈ o.after.toList,Region.binds .any e=true → listed.getD e.on false=true) {i j:Nat} (hr:WaitsFor all i j):(∀ o e,all[i]? = some o → e ∈ o.after.toList → Region.binds .any e=true → listed.getD e.on false=true) → listed.getD j false=true:=by
 induction hr with
 | one h1 h2 h3 h4 => intro hi; rw [← h4]; exact hi _ _ h1 h2 h3
 | more h1 h2 h3 h4 ih => intro hi; exact ih fun o e g1 g2 g3 => hDC _ o g1 (hi _ _ h1 h2 h3) e g2 g3
theorem chain_ok {tz:List Nat} (hops:ops=all.toArray) (htz:∀ i j,edge tz i j=true → WaitsFor all i j) {n0:Nat} (hz:∀ k,n0 ≤ k → k < ops.size → ∀ j,j < k → edge tz k j=true) (hze:∀ (k:Nat) (o:Oper),ops[k]? = some o → ∀ e ∈ o.after.toList,Region.binds .any e=true → e.on < k) :
  ∀ (n k:Nat) (listed:Array Bool) (a:Act) (w:World),n0 ≤ k → ops.size - k=n → k ≤ ops.size → listed.size=ops.size → (∀ j,j < k → listed.getD j false=true) → (∀ j,k ≤ j → j < ops.size → listed.getD j true=false) →
  (∀ k o,all[k]? = some o → listed.getD k false=true → ∀ e ∈ o.after.toList,Region.binds .any e=true → listed.getD e.on false=true) → wpList P ops Q (all.drop k) a w → wpAny P .any ops Q n listed a w
 | 0,k,listed,a,w,h0,hn,hk,hsz,hlo,hhi,hDC,hq => by
  have hlen:all.length=ops.size:=by rw [hops]; simp
  have:all.drop k=[]:=List.drop_eq_nil_of_le (by omega)
  rw [this] at hq
  refine ⟨?_,hq⟩
  cases hr:Region.ready .any ops listed with
  | nil => rfl
  | cons i r =>
   obtain ⟨h1,o,h2,_⟩:=mem_ready.1 (hr ▸ List.mem_cons_self:i ∈ Region.ready .any ops listed)
   have hi:=(Array.getElem?_eq_some_iff.1 h2).1
   have:=hlo i (by omega)
   rw [getD_tf h1] at this; cases this
 | n + 1,k,listed,a,w,h0,hn,hk,hsz,hlo,hhi,hDC,hq => by
  have hlen:all.length=ops.size:=by rw [hops]; simp
  have hkl:k < ops.size:=by omega
  obtain ⟨o,ho⟩:∃ o,ops[k]? = some o:=⟨_,Array.getElem?_eq_getElem hkl⟩
  have hoa:all[k]? = some o:=by rw [hops] at ho; simpa using ho
  have hd:all.drop k=o :: all.drop (k + 1):=by
   have hka:k < all.length:=by omega
   rw [List.drop_eq_getElem_cons hka]
   congr 1
   exact (List.getElem?_eq_some_iff.1 hoa).2
  refine ⟨fun hr => ?_,fun i hi => ?_⟩
  ·exfalso
   have:k ∈ Region.ready .any ops listed:=mem_ready.2 ⟨hhi k (Nat.le_refl _) hkl,o,ho,fun e he hb => hlo _ (hze k o ho e (by simpa using he) hb)⟩
   rw [hr] at this; cases this
  obtain ⟨h1,o',h2,h3⟩:=mem_ready.1 hi
  have hil:=(Array.getElem?_eq_some_iff.1 h2).1
  have hik:i=k:=by
   refine Decidable.byContradiction fun hne => ?_
   by_cases hlt:i < k
   ·have:=hlo i hlt
    rw [getD_tf h1] at this; cases this
   have hw:=htz _ _ (hz i (by omega) hil k (by omega))
   have h4:=closed hDC hw (fun o'' e g1 g2 g3 => by
    have:o''=o':=by
     have e1:ops[i]? = some o'':=by rw [hops]; simpa using g1
     rw [h2] at e1; injection e1 with e1; exact e1.symm
    subst this
    exact h3 e (by simpa using g2) g3)
   have:=hhi k (Nat.le_refl _) hkl
   rw [getD_tf this] at h4; cases h4
  subst hik
  have:o'=o:=by rw [ho] at h2; injection h2 with h2; exact h2.symm
  subst this
  have fin:∀ a w,wpList P ops Q (all.drop (i + 1)) a w → wpAny P .any ops Q n (listed.setIfInBounds i true) a w:=by
   intro a w hq'
   refine chain_ok hops htz hz hze n (i + 1) _ a w (by omega) (by omega) (by omega) (by simpa using hsz) (fun j hj => ?_) (fun j hj hj' => ?_) (fun k2 ok hk2 hu e he hb => ?_) hq'
   ·by_cases hji:j=i
    ·subst hji; simp [Array.getD_eq_getD_getElem?,hsz,hil]
    rw [getD_set_ne false (fun e' => hji e'.symm)]; exact hlo j (by omega)
   ·rw [getD_set_ne true (by omega)]; exact hhi j (by omega) hj'
   have hon:listed.getD e.on false=true:=by
    by_cases hki:k2=i
    ·subst hki
     have:ok=o':=by
      have e1:ops[k2]? = some ok:=by rw [hops]; simpa using hk2
      rw [h2] at e1; injection e1 with e1; exact e1.symm
     subst this
     exact h3 e (by simpa using he) hb
    rw [getD_set_ne false (fun e' => hki e'.symm)] at hu
    exact hDC k2 ok hk2 hu e he hb
   by_cases hei:e.on=i
   ·rw [hei]; simp [Array.getD_eq_getD_getElem?,hsz,hil]
   rw [getD_set_ne false (fun e' => hei e'.symm)]; exact hon
  rw [hd] at hq
  unfold wpOp
  simp only [h2]
  unfold wpList at hq
  by_cases hw:Region.wanted o' (yielded ops a.tmps)=true
  ·rw [if_pos hw] at hq ⊢
   exact hq.imp (Oper.wp_mono fin) id
  rw [if_neg hw] at hq ⊢
  exact fin _ _ hq
theorem any3_ok {tb tz:List Nat} (hT:TabOK P T) (hops:ops=all.toArray) (htb:∀ i j,edge tb i j=true → WaitsFor all i j) (htz:∀ i j,edge tz i j=true → WaitsFor all i j) (hH:HandOK C P all H) {n0:Nat} (hz:∀ k,n0 ≤ k → k < ops.size → ∀ j,j < k → edge tz k j=true) (hze:∀ (k:Nat) (o:Oper),ops[k]? = some o → ∀ e ∈ o.after.toList,Region.binds .any e=true → e.on < k) (hz4:n0 ≤ ops.size):∀ (n:Nat) (L:List (Nat × Oper)) (fs:List Foot) (listed:Array Bool) (s:St) (a:Act) (w:World),L.length=n → Fits C s a w → NM s (ds fs) → Ord fs → Paired tb L fs → (∀ k o,all[k]? = some o → listed.getD k false=true → ∀ e ∈ o.after.toList,Region.binds .any e=true → listed.getD e.on false=true) →
  L.Pairwise (fun x y => x.1 < y.1) → (∀ x ∈ L,ops[x.1]? = some x.2 ∧ listed.getD x.1 true=false) → (∀ k o,k < n0 → ops[k]? = some o → listed.getD k true=false → (k,o) ∈ L) → (∀ k,n0 ≤ k → k < ops.size → listed.getD k true=false) → (∀ x ∈ L,x.1 < n0) → listed.size=ops.size →
  (∀ x ∈ L,∀ e ∈ x.2.after.toList,Region.binds .any e=true → e.on < x.1) →
  (∀ X,∃ τ obs,exec2 std T cs H X all L s=some (τ,obs,fs) ∧ AO P C.K obs ∧ ∀ a' w',Fits C τ a' w' → wpList P ops Q (all.drop n0) a' w') → wpAny P .any ops Q (n + (ops.size - n0)) listed a w
 | 0,L,fs,listed,s,a,w,hn,h,hNM,hF,hP,hDC,hsr,hL,hA,hZ,hLn,hsz,hE,hs => by
  have:L=[]:=List.eq_nil_of_length_eq_zero hn
  subst this
  obtain ⟨τ,obs,e1,_,e2⟩:=hs (fun _ => ⟨0,fun _ => none,fun _ => 0,fun _ => .empty⟩)
  simp only [exec2,Option.some.injEq,Prod.mk.injEq] at e1
  obtain ⟨rfl,_⟩:=e1
  rw [Nat.zero_add]
  refine chain_ok hops htz hz hze (ops.size - n0) n0 listed a w (Nat.le_refl _) rfl hz4 hsz (fun k hk => ?_) hZ hDC (e2 a w h)
  by_cases hl:listed.getD k false=true
  ·exact hl
  have:=hA k _ hk (Array.getElem?_eq_getElem (by omega)) (getD_ft (by rw [hsz]; omega) hl)
  cases this
 | n + 1,L,fs,listed,s,a,w,hn,h,hNM,hF,hP,hDC,hsr,hL,hA,hZ,hLn,hsz,hE,hs => by
  rw [show n + 1 + (ops.size - n0)=(n + (ops.size - n0)) + 1 by omega]
  refine ⟨fun hr => ?_,fun i hi => ?_⟩
  ·-- the first one that is left may come up
   exfalso
   cases L with
   | nil => cases hn
   | cons x L =>
    obtain ⟨i0,o0⟩:=x
    obtain ⟨h1,h2⟩:=hL (i0,o0) (by simp)
    have:i0 ∈ Region.ready .any ops listed:=mem_ready.2 ⟨h2,o0,h1,fun e he hb => by
     have hlt:=hE (i0,o0) (by simp) e (by simpa using he) hb
     simp only at hlt
     have hi0:i0 < ops.size:=(Array.getElem?_eq_some_iff.1 h1).1
     have hon:e.on < listed.size:=by rw [hsz]; omega
     by_cases hl:listed.getD e.on false=true
     ·exact hl
     exfalso
     have hm:=hA e.on _ (by have:=hLn (i0,o0) (by simp); simp only at this; omega) (Array.getElem?_eq_getElem (by omega)) (getD_ft hon hl)
     rcases List.mem_cons.1 hm with he' | hm
     ·injection he' with he'; omega
     have:=(List.pairwise_cons.1 hsr).1 _ hm
     simp only at this; omega⟩
    rw [hr] at this
    cases this
  obtain ⟨h1,o,h2,h3⟩:=mem_ready.1 hi
  have hi0:i < n0:=by
   refine Decidable.byContradiction fun hni => ?_
   cases L with
   | nil => cases hn
   | cons x L =>
    have hx0:=hLn x (by simp)
    have hw:=htz _ _ (hz i (by omega) (Array.getElem?_eq_some_iff.1 h2).1 x.1 (by omega))
    have h4:=closed hDC hw (fun o' e g1 g2 g3 => by
     have:o'=o:=by
      have e1:ops[i]? = some o':=by rw [hops]; simpa using g1
      rw [h2] at e1; injection e1 with e1; exact e1.symm
     subst this
     exact h3 e (by simpa using g2) g3)
    have q5:=(hL x (by simp)).2
    rw [getD_tf q5] at h4
    cases h4
  have hio:all[i]? = some o:=by rw [hops] at h2; simpa using h2
  have hin:=hA i o hi0 h2 h1
  obtain ⟨L1,L2,rfl⟩:=List.append_of_mem hin
  obtain ⟨fs1,f,fs2,hlen,rfl⟩:∃ fs1 f fs2,fs1.length=L1.length ∧ fs=fs1 ++ f :: fs2:=by
   have hl:=hP.1
   simp only [List.length_append,List.length_cons] at hl
   have hlt:L1.length < fs.length:=by omega
   refine ⟨fs.take L1.length,fs[L1.length],fs.drop (L1.length + 1),by simp; omega,?_⟩
   rw [← List.drop_eq_getElem_cons hlt,List.take_append_drop]
  obtain ⟨hP1,hcm⟩:=pairsB_del hlen hP.2
  have hcomm:∀ g ∈ fs1,comm g f=true:=by
   intro g hg
   obtain ⟨k,hk⟩:=List.getElem?_of_mem hg
   have hkl:k < L1.length:=by rw [← hlen]; exact (List.getElem?_eq_some_iff.1 hk).1
   rcases hcm k _ g (List.getElem?_eq_getElem hkl) hk with he | he
   ·exfalso
    have h5:=(hL L1[k] (List.mem_append_left _ (List.getElem_mem hkl))).2
    have hr:=htb _ _ he
    have dc:∀ {i j:Nat},WaitsFor all i j → (∀ o e,all[i]? = some o → e ∈ o.after.toList → Region.binds .any e=true → listed.getD e.on false=true) → listed.getD j false=true:=by
     intro i j hr
     induction hr with
     | one h1 h2 h3 h4 => intro hi; rw [← h4]; exact hi _ _ h1 h2 h3
     | more h1 h2 h3 h4 ih => intro hi; exact ih fun o e g1 g2 g3 => hDC _ o g1 (hi _ _ h1 h2 h3) e g2 g3
    have h4:=dc hr fun o' e g1 g2 g3 => by
     have:o'=o:=by
      have e1:ops[i]? = some o':=by rw [hops]; simpa using g1
      rw [h2] at e1; injection e1 with e1; exact e1.symm
     subst this
     exact h3 e (by simpa using g2) g3
    rw [getD_tf h5] at h4
    cases h4
   exact he
  have mf:∀ X,∃ δ ob,delta2 std T cs H (X i) all i o s=some (δ,ob,f) ∧ AO P C.K ob ∧ ∃ τ' obs',exec2 std T cs H X all (L1 ++ L2) (s.app δ)=some (τ',obs',fs1 ++ fs2) ∧ AO P C.K obs' ∧ ∀ a' w',Fits C τ' a' w' → wpList P ops Q (all.drop n0) a' w':=by
   intro X
   obtain ⟨τ,obs,e1,e2,e3⟩:=hs X
   obtain ⟨δ,ob,g1,τ',obs',g2,g3,g4⟩:=moveFront2 (P:=P) e1 hlen hNM hF hcomm
   exact ⟨δ,ob,g1,(g4 e2).1,τ',obs',g2,(g4 e2).2,fun a' w' hf => e3 a' w' (hf.alike g3)⟩
  have hsrt:(L1 ++ L2).Pairwise (fun x y => x.1 < y.1):=hsr.sublist (List.Sublist.append_left (List.sublist_cons_self _ _) _)
  have hnot:∀ x ∈ L1 ++ L2,x.1 ≠ i:=by
   intro x hx
   rw [List.pairwise_append] at hsr
   obtain ⟨p1,p2,p3⟩:=hsr
   rcases List.mem_append.1 hx with hx | hx
   ·have:=p3 x hx (i,o) (by simp); simp only at this; omega
   have:=(List.pairwise_cons.1 p2).1 x hx; simp only at this; omega
  have key:=delta2_ok (C:=C) (K:=fun a' w' => wpAny P .any ops Q (n + (ops.size - n0)) (listed.setIfInBounds i true) a' w') (Q:=Q) (cs:=cs) (i:=i) (o:=o) hT hH hio hops h (fun x => by
   obtain ⟨δ,ob,g1,g2,_⟩:=mf (fun _ => x)
   exact ⟨_,g1,g2⟩) (fun x r a' w' hr hf => by
   have hfo:=delta2_foot hr
   obtain ⟨δ,ob,f'⟩:=r
   obtain ⟨δ0,ob0,g0,_⟩:=mf (fun _ => x)
   rw [hr] at g0
   injection g0 with g0; injection g0 with q1 q2; injection q2 with q2 q3
   subst q1; subst q2; subst q3
   have hinF:∀ g ∈ fs1 ++ fs2,g ∈ fs1 ++ f' :: fs2:=fun g hg => by
    rcases List.mem_append.1 hg with hg | hg
    ·exact List.mem_append_left _ hg
    exact List.mem_append_right _ (List.mem_cons_of_mem _ hg)
   obtain ⟨n1,n2⟩:=nm_of hfo (gs:=fs1 ++ fs2) hNM (by simp) hinF (fun g hg => by
    rcases List.mem_append.1 hg with hg | hg
    ·have:=hcomm g hg
     simp only [comm,Bool.and_eq_true] at this
     exact this.1.1.1.1.1.1.1.1.1
    exact (List.pairwise_cons.1 (List.pairwise_append.1 hF).2.1).1 g hg)
   refine any3_ok hT hops htb htz hH hz hze hz4 n (L1 ++ L2) (fs1 ++ fs2) (listed.setIfInBounds i true) (s.app δ) a' w' ?_ hf n2 ?_ ?_ ?_ hsrt ?_ ?_ (fun k hk hk' => by rw [getD_set_ne true (by omega)]; exact hZ k hk hk') ?_ (by simpa using hsz) ?_ ?_
   ·simp at hn ⊢; omega
   ·exact hF.sublist (List.Sublist.append_left (List.sublist_cons_self _ _) _)
   ·refine ⟨?_,hP1⟩
    have:=hP.1
    simp at this ⊢; omega
   ·intro k ok hk hu e he hb
    by_cases hki:k=i
    ·subst hki
     have:ok=o:=by
      have e1:ops[k]? = some ok:=by rw [hops]; simpa using hk
      rw [h2] at e1; injection e1 with e1; exact e1.symm
     subst this
     have hl:=h3 e (by simpa using he) hb
     by_cases hei:e.on=k
     ·have:=hE (k,ok) hin e he hb
      simp only at this; omega
     rw [getD_set_ne false (fun e' => hei e'.symm)]; exact hl
    rw [getD_set_ne false (fun e' => hki e'.symm)] at hu
    have hl:=hDC k ok hk hu e he hb
    by_cases hei:e.on=i
    ·rw [hei] at hl
     have h5:=(hL (i,o) hin).2
     simp only at h5
     rw [getD_tf h5] at hl; cases hl
    rw [getD_set_ne false (fun e' => hei e'.symm)]; exact hl
   ·intro x' hx
    have hx':x' ∈ L1 ++ (i,o) :: L2:=by
     rcases List.mem_append.1 hx with hx | hx
     ·exact List.mem_append_left _ hx
     exact List.mem_append_right _ (List.mem_cons_of_mem _ hx)
    obtain ⟨e1,e2⟩:=hL x' hx'
    refine ⟨e1,?_⟩
    rw [getD_set_ne true (fun e => hnot x' hx e.symm)]
    exact e2
   ·intro k ok hkn hk hu
    by_cases hki:k=i
    ·subst hki
     have hlt:k < listed.size:=by rw [hsz]; exact (Array.getElem?_eq_some_iff.1 h2).1
     simp [Array.getD_eq_getD_getElem?,hlt] at hu
    rw [getD_set_ne true (fun e => hki e.symm)] at hu
    have:=hA k ok hkn hk hu
    rcases List.mem_append.1 this with hx | hx
    ·exact List.mem_append_left _ hx
    rcases List.mem_cons.1 hx with hx | hx
    ·injection hx with hx; exact absurd hx hki
    exact List.mem_append_right _ hx
   ·intro x' hx
    refine hLn x' ?_
    rcases List.mem_append.1 hx with hx | hx
    ·exact List.mem_append_left _ hx
    exact List.mem_append_right _ (List.mem_cons_of_mem _ hx)
   ·intro x' hx
    refine hE x' ?_
    rcases List.mem_append.1 hx with hx | hx
    ·exact List.mem_append_left _ hx
    exact List.mem_append_right _ (List.mem_cons_of_mem _ hx)
   intro X
   obtain ⟨Y,hY,hYX⟩:∃ Y:Nat → Atom,Y i=x ∧ ∀ j,j ≠ i → Y j=X j:=⟨fun j => if j=i then x else X j,by simp,fun j hj => by simp [hj]⟩
   obtain ⟨δ1,ob1,g1,_,τ',obs',g2,g3,g4⟩:=mf Y
   rw [hY,hr] at g1
   injection g1 with g1; injection g1 with q1 _
   subst q1
   rw [exec2_congr _ _ (fun x' hx => hYX x'.1 (hnot x' hx))] at g2
   exact ⟨τ',obs',g2,g3,g4⟩)
  unfold wpOp
  simp only [h2]
  by_cases hw:Region.wanted o (yielded ops a.tmps)=true
  ·rw [if_pos hw] at key ⊢
   exact .inl key
  rw [if_neg hw] at key ⊢
  exact key
def tail3B (all:List Oper) (n0:Nat):Bool:=Nat.ble n0 all.length && (edgesB (number 0 all) && (List.range all.length).all fun k => Nat.blt k n0 || (List.range k).all fun j => edge (masks all []) k j)
theorem drawn3_any {s:St} {a:Act} {w:World} {all:List Oper} (n0:Nat) (H:Hand) (hH:HandOK C P all H) (hT:TabOK P T) (kp km:List Nat) (cs:List (Nat × CS)) (h:Fits C s a w) (hgs:s.gs=[]) (fs:List Foot) (hD:drawB (all.take n0) fs=true) (hZ:tail3B all n0=true) (hlen:(all.take n0).length=fs.length)
  {R:Alg → (Nat → Atom) → St × List Ob}
  (hex:∀ A X,(exec2 A T cs H X all (number 0 (all.take n0)) s).map (fun r => ((r.1.keep kp km,r.2.1),r.2.2))=some (R A X,fs)) (hob:∀ X,AO P C.K (R std X).2) (hQ:∀ X a' w',Fits C (R std X).1 a' w' → wpList P all.toArray Q (all.drop n0) a' w'):wpAny P .any all.toArray Q all.toArray.size (Array.replicate all.toArray.size false) a { w with drawn:=w.drawn + 1 }:=by
 simp only [drawB,Bool.and_eq_true] at hD
 obtain ⟨⟨d1,d2⟩,d3⟩:=hD
 simp only [tail3B,Bool.and_eq_true,Nat.ble_eq] at hZ
 obtain ⟨hn0,hZe,hZ⟩:=hZ
 have hf:Fits C s a { w with drawn:=w.drawn + 1 }:=h.world (fun _ _ _ => rfl) (fun _ _ _ _ _ => rfl) ⟨h.chg.os,h.chg.tape,h.chg.output,h.chg.size,h.chg.block⟩ (fun _ _ _ hc _ => hc) (fun _ _ h _ => h)
 have hnl:∀ (l:List Oper) (i:Nat),(number i l).length=l.length:=by
  intro l
  induction l with
  | nil => intro i; rfl
  | cons o l ih => intro i; simp [number,ih]
 have htk:(all.take n0).length=n0:=by simp; omega
 have hsz:all.toArray.size=(number 0 (all.take n0)).length + (all.toArray.size - n0):=by rw [hnl,htk]; simp; omega
 have hgt:∀ {k o},(all.take n0)[k]? = some o → all[k]? = some o ∧ k < n0:=by
  intro k o hk
  have hlt:=(List.getElem?_eq_some_iff.1 hk).1
  rw [htk] at hlt
  rw [List.getElem?_take,if_pos hlt] at hk
  exact ⟨hk,hlt⟩
 have hlst:∀ k (b:Bool),k < all.length → (Array.replicate all.toArray.size false).getD k b=false:=by
  intro k b hk
  have:k < all.toArray.size:=by simpa using hk
  simp [Array.getD_eq_getD_getElem?,hk]
 have hmk:∀ i j,edge (masks (all.take n0) []) i j=true → WaitsFor all i j:=by
  intro i j hij
  have:=masks_ok (all:=all.take n0) (l:=all.take n0) (tb:=[]) rfl (fun i j h => by simp at h) i j hij
  have conv:∀ {i j},WaitsFor (all.take n0) i j → WaitsFor all i j:=by
   intro i j hw
   induction hw with
   | one h1 h2 h3 h4 => exact .one (hgt h1).1 h2 h3 h4
   | more h1 h2 h3 h4 ih => exact .more (hgt h1).1 h2 h3 ih
  exact conv this
 have ed:∀ (L:List (Nat × Oper)),edgesB L=true → ∀ x ∈ L,∀ e ∈ x.2.after.toList,Region.binds .any e=true → e.on < x.1:=by
  intro L
  induction L with
  | nil => intro _ x hx; cases hx
  | cons y L ih =>
   obtain ⟨i,o⟩:=y
   intro hL x hx e he hb
   simp only [edgesB,Bool.and_eq_true] at hL
   rcases List.mem_cons.1 hx with rfl | hx
   ·have:=List.all_eq_true.1 hL.1 e he
    simpa [hb] using this
   exact ih hL.2 x hx e he hb
 have e0:all.toArray.size=(Array.replicate all.toArray.size false).size:=by simp
 rw [show wpAny P .any all.toArray Q all.toArray.size=wpAny P .any all.toArray Q ((number 0 (all.take n0)).length + (all.toArray.size - n0)) by rw [← hsz]]
 refine any3_ok (cs:=cs) (all:=all) (tb:=masks (all.take n0) []) (tz:=masks all []) hT rfl hmk (masks_ok (all:=all) (l:=all) (tb:=[]) rfl (fun i j h => by simp at h)) hH (n0:=n0) (fun k hk hk' j hj => ?_) (fun k o hk e he hb => ?_) (by simpa using hn0) _ (number 0 (all.take n0)) fs _ s a _ rfl hf (fun t p v hl => by rw [hgs] at hl; cases hl) ?_ ⟨by rw [hnl]; exact hlen,d1⟩ ?_ (number_sorted _ 0) ?_ ?_ ?_ ?_ ?_ ?_ ?_
 ·have:=List.all_eq_true.1 hZ k (List.mem_range.2 (by simpa using hk'))
  simp only [Bool.or_eq_true,Nat.blt_eq] at this
  rcases this with h | h
  ·omega
  exact List.all_eq_true.1 h j (List.mem_range.2 hj)
 ·have:=number_mem (i:=0) (l:=all) (k:=k) (o:=o) (by simpa using hk)
  rw [Nat.zero_add] at this
  exact ed _ hZe (k,o) this e he hb
 ·exact ordB_ok d3
 ·intro k o hk hu
  exfalso
  rw [hlst k false (List.getElem?_eq_some_iff.1 hk).1] at hu
  cases hu
 ·intro x hx
  obtain ⟨h1,h2⟩:=number_get hx
  rw [Nat.sub_zero] at h2
  obtain ⟨h3,_⟩:=hgt h2
  exact ⟨by simpa using h3,hlst _ _ (List.getElem?_eq_some_iff.1 h3).1⟩
 ·intro k o hkn hk _
  have hk':(all.take n0)[k]? = some o:=by rw [List.getElem?_take,if_pos hkn]; simpa using hk
  have:=number_mem (i:=0) (l:=all.take n0) (k:=k) (o:=o) hk'
  rwa [Nat.zero_add] at this
 ·intro k _ hk
  exact hlst _ _ (by simpa using hk)
 ·intro x hx
  obtain ⟨h1,h2⟩:=number_get hx
  rw [Nat.sub_zero] at h2
  exact (hgt h2).2
 ·simp
 ·exact ed _ d2
 intro X
 obtain ⟨r,hr,e⟩:=Option.map_eq_some_iff.1 (hex std X)
 obtain ⟨τ,obs,fs'⟩:=r
 simp only [Prod.mk.injEq] at e
 obtain ⟨e1,rfl⟩:=e
 refine ⟨τ,obs,hr,?_,fun a' w' hf' => hQ X a' w' ?_⟩
 ·have:=hob X; rw [← e1] at this; exact this
 rw [← e1]; exact hf'.keep kp km
theorem drawn3_ok {s:St} {a:Act} {w:World} {id:Nat} {all:List Oper} (n0:Nat) (H:Hand) (hH:HandOK C P all H) (hm:P.follows .mixedOrders=true) (hT:TabOK P T) (kp km:List Nat) (cs:List (Nat × CS)) (h:Fits C s a w) (hgs:s.gs=[]) (fs:List Foot) (hD:drawB (all.take n0) fs=true) (hZ:tail3B all n0=true) (hlen:(all.take n0).length=fs.length)
  {R:Alg → (Nat → Atom) → St × List Ob}
  (hex:∀ A X,(exec2 A T cs H X all (number 0 (all.take n0)) s).map (fun r => ((r.1.keep kp km,r.2.1),r.2.2))=some (R A X,fs)) (hob:∀ X,AO P C.K (R std X).2) (hQ:∀ X a' w',Fits C (R std X).1 a' w' → wpList P all.toArray Q (all.drop n0) a' w'):(Code.region id all.toArray true).wp P Q a w:=
 wp_region_any hm (drawn3_any n0 H hH hT kp km cs h hgs fs hD hZ hlen hex hob hQ)
theorem drawn3_okB {s:St} {a:Act} {w:World} {id:Nat} {all:List Oper} {B:Alg} (hB:B=std) (n0:Nat) (H:Hand) (hH:HandOK C P all H) (hm:P.follows .mixedOrders=true) (hT:TabOK P T) (kp km:List Nat) (cs:List (Nat × CS)) (h:Fits C s a w) (hgs:s.gs=[]) (fs:List Foot) (hD:drawB (all.take n0) fs=true) (hZ:tail3B all n0=true) (hlen:(all.take n0).length=fs.length)
  {R:Alg → (Nat → Atom) → St × List Ob}
  (hex:∀ A X,(exec2 A T cs H X all (number 0 (all.take n0)) s).map (fun r => ((r.1.keep kp km,r.2.1),r.2.2))=some (R A X,fs)) (hob:∀ X,AO P C.K (R B X).2) (hQ:∀ X a' w',Fits C (R B X).1 a' w' → wpList P all.toArray Q (all.drop n0) a' w'):(Code.region id all.toArray true).wp P Q a w:=by
 subst hB
 exact drawn3_ok n0 H hH hm hT kp km cs h hgs fs hD hZ hlen hex hob hQ
end
section
variable {C:Cx} {P:Program} {Q:Exit → Act → World → Prop} {T:List (Nat × TI)} {s:St} {a:Act} {w:World} {B:Alg}
theorem d3 {id:Nat} {all:List Oper} {R:Alg → (Nat → Atom) → St × List Ob} {fs:List Foot} (n0:Nat) (hB:B=std) (hT:TabOK P T) (kp km:List Nat) (cs:List (Nat × CS)) (h:Fits C s a w) (hQ:∀ X a' w',Fits C (R B X).1 a' w' → wpList P all.toArray Q (all.drop n0) a' w') (hm:P.follows .mixedOrders=true:=by kernel_rfl) (hgs:s.gs=[]:=by rfl)
  (hex:∀ A X,(exec2 A T cs none X all (number 0 (all.take n0)) s).map (fun r => ((r.1.keep kp km,r.2.1),r.2.2))=some (R A X,fs):=by intro A X; conv => lhs; cbv) (hD:drawB (all.take n0) fs=true:=by kernel_rfl) (hZ:tail3B all n0=true:=by kernel_rfl) (hlen:(all.take n0).length=fs.length:=by rfl) (hob:∀ X,AO P C.K (R B X).2:=by
   intro X; subst hB
   first
   | exact trivial
   | (simp only [AO,Ob.holds,BE.den]<;>and_intros<;>(repeat first | trivial | rfl | exact O1 | exact O2 | exact O3 | exact (fun _ _ => by kernel_rfl) | exact O1 _ _ _ rfl | exact O2 _ _ _ rfl | refine ⟨?_,?_⟩ | intro h | decide | omega)<;>done)
   | (simp [AO,Ob.holds,BE.den,std,sC,sAr]<;>omega)):(Code.region id all.toArray true).wp P Q a w:=drawn3_okB hB n0 none handOK_none hm hT kp km cs h hgs fs hD hZ hlen hex hob hQ
end
theorem rounds_first {P:Program} {Q:Exit → Act → World → Prop} {c:Code} {n:Nat} {a:Act} {w:World} (h:c.wp P (Exit.then (Code.rounds P c Q n) Q) a w):Code.rounds P c Q (n + 1) a w:=h
theorem rounds_next {P:Program} {Q:Exit → Act → World → Prop} {c:Code} {n:Nat} {a:Act} {w:World} (h:c.wp P (Exit.then (Code.rounds P c Q n) Q) a w):Exit.then (Code.rounds P c Q (n + 1)) Q .normal a w:=h
inductive OutT where
 | ret (r:CR)
 | thr (t:Nat) (v:AV) (sets:List (Nat × List AV))
def TPost1 (m:Nat → Nat → Prop) (w:World) (pre:List (Nat × Blk)) (e:Ending) (w':World):OutT → Prop
 | .ret r => e = .returned r.v.den ∧ Ok (mN m r.news) w' r.v ∧ Left m w w' pre r.sets r.news
 | .thr t v sets => e = .panicked [{ v:=.iface t v.den,recovered:=false }] ∧ Ok m w' v ∧ Left m w w' pre sets []
def TPost (m:Nat → Nat → Prop) (w:World) (pre:List (Nat × Blk)) (out:Atom → OutT) (e:Ending) (w':World):Prop:=∃ x,TPost1 m w pre e w' (out x)
def SpecT (P:Program) (f:FuncId) (args:List AV) (pre:List (Nat × Blk)) (out:Atom → OutT):Prop:=
 ∀ (m:Nat → Nat → Prop) (w:World),(∀ b o,m b o → b < w.heap.size) → (∀ v ∈ args,Ok m w v) → PreOk m w pre → Calls P f (args.map AV.den).toArray w (TPost m w pre out)
theorem SpecT.x {P:Program} {f:FuncId} {args:List AV} {pre:List (Nat × Blk)} {out:Atom → OutT} {res:Atom → CR} (h:SpecT P f args pre out) (e:∀ x,out x = .ret (res x)):SpecX P f args pre res:=by
 intro m w h1 h2 h3
 refine (h m w h1 h2 h3).mono ?_
 rintro e' w' ⟨x,hx⟩
 rw [e x] at hx
 exact ⟨x,hx⟩
theorem SpecX.t {P:Program} {f:FuncId} {args:List AV} {pre:List (Nat × Blk)} {out:Atom → OutT} {res:Atom → CR} (h:SpecX P f args pre res) (e:∀ x,out x = .ret (res x)):SpecT P f args pre out:=by
 intro m w h1 h2 h3
 refine (h m w h1 h2 h3).mono ?_
 rintro e' w' ⟨x,hx⟩
 exact ⟨x,by rw [e x]; exact hx⟩
theorem SpecT.res {P:Program} {f:FuncId} {args:List AV} {pre:List (Nat × Blk)} {out out':Atom → OutT} (h:SpecT P f args pre out) (e:∀ x,out x=out' x):SpecT P f args pre out':=by
 have:out=out':=funext e
 exact this ▸ h
theorem mN_nil (m:Nat → Nat → Prop):mN m []=m:=by
 funext b o
 apply propext
 exact ⟨fun h => h.resolve_right fun ⟨e,he,_⟩ => (by cases he),.inl⟩
def ReOutT (pre':List (Nat × Blk)):OutT → OutT → Prop
 | .ret r,.ret r' => r'.sets.map (·.2)=r.sets.map (·.2) ∧ r'.sets.map (·.1)=pre'.map (·.1) ∧ Sim r.v r'.v ∧ r'.news.map (·.2)=r.news.map (·.2)
 | .thr t v sets,.thr t' v' sets' => t'=t ∧ Sim v v' ∧ sets'.map (·.2)=sets.map (·.2) ∧ sets'.map (·.1)=pre'.map (·.1)
 | _,_ => False
theorem SpecT.re {P:Program} {f:FuncId} {args args':List AV} {pre pre':List (Nat × Blk)} {out out':Atom → OutT} (h:SpecT P f args pre out) (ha:SimL args' args) (hp:pre'.map (·.2)=pre.map (·.2)) (hr:∀ x,ReOutT pre' (out x) (out' x)):SpecT P f args' pre' out':=by
 intro m w h1 h2 h3
 rw [ha.map]
 refine (h m w h1 (ha.ok h2) (h3.re hp.symm)).mono ?_
 rintro e w' ⟨x,hx⟩
 refine ⟨x,?_⟩
 have hrx:=hr x
 cases ho:out x with
 | ret r =>
  cases ho':out' x with
  | ret r' =>
   rw [ho] at hx hrx
   rw [ho'] at hrx
   obtain ⟨r1,r2,r3,r4⟩:=hrx
   obtain ⟨rfl,hok,hl⟩:=hx
   have hm:mN m r'.news=mN m r.news:=by funext b o; simp only [mN,ats_snd r4]
   exact ⟨by rw [r3.1],by rw [hm]; exact r3.2.2 _ _ hok,hl.re hp r1 r2 r4⟩
  | thr t v sets => rw [ho,ho'] at hrx; exact hrx.elim
 | thr t v sets =>
  cases ho':out' x with
  | ret r' => rw [ho,ho'] at hrx; exact hrx.elim
  | thr t' v' sets' =>
   rw [ho] at hx hrx
   rw [ho'] at hrx
   obtain ⟨rfl,r3,r1,r2⟩:=hrx
   obtain ⟨rfl,hok,hl⟩:=hx
   exact ⟨by rw [r3.1],r3.2.2 _ _ hok,hl.re hp r1 r2 rfl⟩
section
variable {P:Program} {T:List (Nat × TI)} {s:St} {a:Act} {w:World}
theorem ret_t {Kk:Kn} (hT:TabOK P T) {m:Nat → Nat → Prop} {w0:World} {pre:List (Nat × Blk)} (h:Fits ⟨m,w0,ats pre,[],Kk⟩ s a w) {fn:Func} {out:Atom → OutT} {rs:List ResultVar} (hfn:fn.results=rs.toArray) {r:List AV × List Ob} (hr:resL T s rs=some r) (ho:AO P Kk r.2)
  (x:Atom) {cr:CR} (hout:out x = .ret cr) (ks:List Nat) (he:Sim (can (resA r.1)) (can cr.v)) (hs:SetsOk s pre cr.sets) (hn:NewsOk s pre ks cr.news):bodyPost P fn (TPost m w0 pre out) .ret a w ∧ bodyPost P fn (TPost m w0 pre out) .normal a w:=by
 obtain ⟨h1,h2⟩:=left_ok h hs hn
 refine ret_ok hT h rfl hfn hr ho fun hv => ⟨x,?_⟩
 rw [hout]
 exact ⟨by rw [← can_den (resA r.1),he.1,can_den],(can_ok _).2 (he.2.2 _ _ ((can_ok _).1 (h2 _ hv))),h1⟩
theorem thr_t {Kk:Kn} {m:Nat → Nat → Prop} {w0:World} {pre:List (Nat × Blk)} (h:Fits ⟨m,w0,ats pre,[],Kk⟩ s a w) {fn:Func} {out:Atom → OutT} {t:Nat} {v v':AV} (hok:Ok (s.m ⟨m,w0,ats pre,[],Kk⟩) w v) (x:Atom) {sets:List (Nat × List AV)} (hout:out x = .thr t v' sets) (hv:Sim v v') (hs:SetsOk s pre sets) :
  bodyPost P fn (TPost m w0 pre out) (.panic [{ v:=.iface t v.den,recovered:=false }]) a w:=by
 obtain ⟨h1,h2⟩:=left_ok h hs (ks:=[]) (news:=[]) trivial
 refine ⟨h.defers,x,?_⟩
 rw [hout]
 have:=h2 _ (hv.2.2 _ _ hok)
 rw [mN_nil] at this
 exact ⟨by rw [hv.1],this,h1⟩
end
section
variable {C:Cx} {P:Program} {Q:Exit → Act → World → Prop} {T:List (Nat × TI)} {all:List Oper}
def goes (all:List Oper) (s:St) (o:Oper):Bool:=match o.guard with
 | none => true
 | some (j,want) => match (all[j]?).bind (·.dst) with
  | none => false
  | some g => match lookG s.gs g with
   | some _ => false
   | none => match look s.tmps g with
    | .bool .tt => want
    | .bool .ff => !want
    | _ => false
theorem goes_ok {s:St} {a:Act} {w:World} {o:Oper} (h:Fits C s a w) (hg:goes all s o=true):Region.wanted o (yielded all.toArray a.tmps)=true:=by
 unfold goes at hg
 split at hg
 ·rename_i hn; simp [Region.wanted,hn]
 rename_i j want hn
 split at hg
 ·cases hg
 rename_i g hd
 split at hg
 ·cases hg
 have hd':((all.toArray)[j]?).bind (·.dst)=some g:=by simpa using hd
 have hs:=h.slot g
 have key:∀ b,a.tmps[g]? = some (.bool b) → b=want → Region.wanted o (yielded all.toArray a.tmps)=true:=by
  intro b hb hw
  simp only [Region.wanted,hn,yielded,hd',Option.bind_some,hb,hw]
  simp
 split at hg
 ·rename_i e; rw [e] at hs
  exact key _ (hs rfl).1 hg.symm
 ·rename_i e; rw [e] at hs
  refine key _ (hs rfl).1 ?_
  cases want<;>first | rfl | cases hg
 cases hg
theorem man_outT {s:St} {a:Act} {w:World} {L rest:List Oper} {o:Oper} {c:Call} {g:Operand} {f:FuncId} {l r args args':List AV} (hL:L=o :: rest) (hg:goes all s o=true) (hop:o.op = .call c) (hcal:c.callee = .value g) (h:Fits C s a w) (hgv:val s [] g = .fn f l r) (hl:vals s [] c.args.toList=some args) (hen:Enters P f)
  {pre:List (Nat × Blk)} {out:Atom → OutT} (hsp:SpecT P f args' pre out) (hsim:SimL (l ++ args ++ r) args') (hpre:∀ e ∈ pre,lookM s.mem e.1=some e.2) (hnd:nodupB pre=true) (hd:inNt s o.dst=true)
  (K:∀ x w',match out x with
   | .ret cr => ∀ a',Fits C ((s.eff (.sets (upd pre cr.sets ++ cr.news))).put o.dst cr.v) a' w' → wpList P all.toArray Q rest a' w'
   | .thr t v sets => Fits C (s.eff (.sets (upd pre sets))) a w' → Ok ((s.eff (.sets (upd pre sets))).m C) w' v → Q (.panic [{ v:=.iface t v.den,recovered:=false }]) a w'):wpList P all.toArray Q L a w:=by
 subst hL
 unfold wpList
 rw [if_pos (goes_ok h hg)]
 refine .inl ?_
 obtain ⟨hrun,hok⟩:=call_run hop hcal h hgv hl hen
 have hdist:=nodup_dist h hnd hpre
 unfold Oper.wp
 rw [hrun]
 simp only [Oper.upon]
 have:=hsp (s.m C) w (m_lt h) (hsim.ok hok) ⟨fun e he => (h.mem _ _ (hpre e he)).1,fun e he => (h.mem _ _ (hpre e he)).2.1,fun e he o => .inr (.inl ⟨e.1,e.2,hpre e he,rfl⟩),hdist⟩
 rw [← hsim.map] at this
 refine this.mono ?_
 rintro e w' ⟨x,hx⟩
 have hK:=K x w'
 cases ho:out x with
 | ret cr =>
  rw [ho] at hx hK
  obtain ⟨rfl,g1,g2⟩:=hx
  obtain ⟨f1,f2⟩:=h.called hdist hpre g2
  refine hK _ (f1.put o.dst (fun t ht => ?_) cr.v (fun _ => f2 _ g1) _ fun _ => rfl)
  rw [eff_nt]; exact inNt_lt hd t ht
 | thr t v sets =>
  rw [ho] at hx hK
  obtain ⟨rfl,g1,g2⟩:=hx
  obtain ⟨f1,f2⟩:=h.called hdist hpre g2
  rw [List.append_nil] at f1 f2
  exact hK f1 (f2 _ (by rw [mN_nil]; exact g1))
end
end Go.Proofs.YtjgnoldondblaaaGreat.Sym
namespace Go.Proofs.YtjgnoldondblaaaGreat.Sym
open Go Go.RowKit
structure JobA where
 kind:Int
 lab:Lab
 key:Int
 hi:Int
 val:ByteArray
 most:Int
 pA:Option Addr
 pn:Nat
 pc:Nat
 pf:Nat → Int
 x1:Int
 x2:Int
 y1:Int
 y2:Int
 how:Int
 bucket:Int
 budget:Int
abbrev jobC (J:JobA):List AV:=[.int .i64 J.kind,.int .i64 J.lab.len,.int .u64 J.lab.bits,.int .u64 J.key,.int .u64 J.hi,.str J.val,.int .i64 J.most,.sl none J.pA J.pn J.pc 1 (fun i => [.int .i64 (J.pf i)]),.int .u32 J.x1,.int .u32 J.x2,.int .u32 J.y1,.int .u32 J.y2,.int .i64 J.how,.int .i64 J.bucket,.int .i64 J.budget]
abbrev jobV (J:JobA):AV:=.agg (jobC J)
abbrev runC (J:JobA) (A:Option Addr) (c:Nat) (p:Pst):List AV:=[.int .i64 J.kind,.int .i64 J.lab.len,.int .u64 J.lab.bits,.int .u64 J.key,.int .u64 J.hi,.str J.val,.int .i64 J.most,.sl none J.pA J.pn J.pc 1 (fun i => [.int .i64 (J.pf i)]),.int .u32 J.x1,.int .u32 J.x2,.int .u32 J.y1,.int .u32 J.y2,.int .i64 J.how,.int .i64 J.bucket,.int .i64 J.budget,
 .sl none A p.n c 8 (fun j => gotC (p.g j)),.int .i64 p.note.code,.bool (.v p.note.had),.str p.note.val,.sl none none 0 0 2 (fun _ => []),.int .u64 0,.bool .ff]
def ResA.abs (s:ResA):Rsl:=⟨s.code,s.had,s.val,firsts s.f s.n,s.key,s.more⟩
def WntA.absQ (q:WntA):Wq:=⟨q.kind,q.lab,q.ver,q.x.r.abs,q.s.abs⟩
def wqA (x:Atom) (w:Wq):WntA:=⟨w.kind,w.lab,w.ver,⟨x.A 1,x.c 1,w.r.rn⟩,⟨w.res.code,w.res.had,w.res.val,x.A 2,w.res.items.length,x.c 2,itF w.res.items,w.res.key,w.res.more⟩⟩
theorem row_sim (A:Option Addr) (n c:Nat) (f:Nat → Itm):Sim (.sl none A n c 2 (fun i => itC (f i))) (.sl none A (firsts f n).length c 2 (fun i => itC (itF (firsts f n) i))):=
 Sim.resl (firsts_len f n).symm fun t ht => by rw [firsts_len] at ht; rw [firsts_get f n t ht]
theorem wnt_sim (q:WntA) (x:Atom) (h1:x.A 1=q.x.A) (h2:x.c 1=q.x.c) (h3:x.A 2=q.s.A) (h4:x.c 2=q.s.c):Sim (wntV q) (wntV (wqA x q.absQ)):=by
 unfold wqA
 simp only [h1,h2,h3,h4]
 exact Sim.agg ⟨zr,zr,zr,zr,zr,row_sim _ _ _ _,zr,zr,zr,zr,zr,zr,row_sim _ _ _ _,zr,zr,trivial⟩
def outM {α : Type} (k0:Nat) (J:JobA) (enc:α → AV) (r:Rs α) (x:Atom):OutT:=match r with
 | .ok a p => .ret ⟨enc a,[(k0,runC J (x.A 0) (x.c 0) p)],[]⟩
 | .stop w p => .thr 85 (wntV (wqA x w)) [(k0,runC J (x.A 0) (x.c 0) p)]
theorem outM_re {α : Type} (k0 b:Nat) (J:JobA) (enc:α → AV) (r:Rs α) (x:Atom) (t:Nat) (cs:List AV):ReOutT [(k0,⟨b,t,cs⟩)] (outM 0 J enc r x) (outM k0 J enc r x):=by
 cases r with
 | ok a p => exact ⟨rfl,rfl,zr,rfl⟩
 | stop w p => exact ⟨rfl,zr,rfl,rfl⟩
structure JobOk (J:JobA):Prop where
 lo:-1000000 ≤ J.budget
 hi:J.budget ≤ 1000000
 lab:U64 J.lab.bits
 key:U64 J.key
 hik:U64 J.hi
abbrev unitV:AV:=.tup []
def RunS {α : Type} (f:FuncId) (k0 b:Nat) (J:JobA) (A:Option Addr) (c:Nat) (p:Pst) (args:List AV) (enc:α → AV) (r:Rs α):Prop:=
 SpecT Tryz.prog f (.ptr k0 b 0 :: args) [(k0,⟨b,148,runC J A c p⟩)] (fun x => outM k0 J enc r x)
theorem RunS.ok {α : Type} {f:FuncId} {k0 b:Nat} {J:JobA} {A:Option Addr} {c:Nat} {p q:Pst} {args:List AV} {enc:α → AV} {r:Rs α} {a:α} (h:RunS f k0 b J A c p args enc r) (e:r = .ok a q) :
  SpecX Tryz.prog f (.ptr k0 b 0 :: args) [(k0,⟨b,148,runC J A c p⟩)] (fun x => ⟨enc a,[(k0,runC J (x.A 0) (x.c 0) q)],[]⟩):=by
 subst e
 exact SpecT.x h fun _ => rfl
theorem RunS.stop {α : Type} {f:FuncId} {k0 b:Nat} {J:JobA} {A:Option Addr} {c:Nat} {p q:Pst} {args:List AV} {enc:α → AV} {r:Rs α} {w:Wq} (h:RunS f k0 b J A c p args enc r) (e:r = .stop w q) :
  SpecT Tryz.prog f (.ptr k0 b 0 :: args) [(k0,⟨b,148,runC J A c p⟩)] (fun x => .thr 85 (wntV (wqA x w)) [(k0,runC J (x.A 0) (x.c 0) q)]):=by
 subst e
 exact h
theorem RunS.re {α : Type} {f:FuncId} {k0 b:Nat} {J:JobA} {A:Option Addr} {c:Nat} {p:Pst} {args args':List AV} {enc:α → AV} {r:Rs α} (h:RunS f 0 b J A c p args enc r) (ha:SimL args' args):RunS f k0 b J A c p args' enc r:=
 SpecT.re h ⟨Sim.ptr,ha⟩ rfl fun x => outM_re _ _ _ _ _ _ _ _
section
variable {P:Program} {T:List (Nat × TI)} {s:St} {a:Act} {w:World} {α : Type} {Kk:Kn} {m:Nat → Nat → Prop} {w0:World} {b k0 ty:Nat} {cs:List AV} {fn:Func} {enc:α → AV} {J:JobA} {r:Rs α}
theorem thr_m (h:Fits ⟨m,w0,ats [(k0,⟨b,ty,cs⟩)],[],Kk⟩ s a w) {x:Atom} {wq:Wq} {q:Pst} (hok:Ok (s.m ⟨m,w0,ats [(k0,⟨b,ty,cs⟩)],[],Kk⟩) w (wntV (wqA x wq))) (hr:r = .stop wq q) (hs:SetsOk s [(k0,⟨b,ty,cs⟩)] [(k0,runC J (x.A 0) (x.c 0) q)]) :
  bodyPost P fn (TPost m w0 [(k0,⟨b,ty,cs⟩)] (fun x => outM k0 J enc r x)) (.panic [{ v:=.iface 85 (wntV (wqA x wq)).den,recovered:=false }]) a w:=by
 subst hr
 exact thr_t h hok x rfl (zr) hs
theorem ret_mm (hT:TabOK P T) (h:Fits ⟨m,w0,ats [(k0,⟨b,ty,cs⟩)],[],Kk⟩ s a w) {rs:List ResultVar} (hfn:fn.results=rs.toArray) {rr:List AV × List Ob} (hrr:resL T s rs=some rr) (ho:AO P Kk rr.2)
  {v:α} {q:Pst} (A:Option Addr) (c:Nat) (hr:r = .ok v q) (he:Sim (can (resA rr.1)) (can (enc v))) (hs:SetsOk s [(k0,⟨b,ty,cs⟩)] [(k0,runC J A c q)]) :
  bodyPost P fn (TPost m w0 [(k0,⟨b,ty,cs⟩)] (fun x => outM k0 J enc r x)) .ret a w ∧ bodyPost P fn (TPost m w0 [(k0,⟨b,ty,cs⟩)] (fun x => outM k0 J enc r x)) .normal a w:=by
 subst hr
 exact ret_t hT h hfn hrr ho ⟨0,fun _ => A,fun _ => c,fun _ => .empty⟩ rfl [] he hs trivial
end
theorem ok_ifc {m:Nat → Nat → Prop} {w:World} {t:Nat} {v:AV} (h:Ok m w (.ifc t v)):Ok m w v:=by cases h with | ifc _ _ h => exact h
abbrev innV:AV:=.agg [.int .i64 2,.sl none none 0 0 2 (fun _ => []),.int .i64 (-1),.int .u64 0,.int .u64 0]
def anyF (n:Nat) (f:Nat → Int) (v:Int):Bool:=(List.range n).any fun i => decide (f i=v)
theorem anyF_at {n:Nat} {f:Nat → Int} {v:Int} {i:Nat} (hi:i < n) (h:f i=v):anyF n f v=true:=List.any_eq_true.2 ⟨i,List.mem_range.2 hi,by simp [h]⟩
theorem anyF_no {n:Nat} {f:Nat → Int} {v:Int} (h:∀ j,j < n → f j ≠ v):anyF n f v=false:=by
 rw [Bool.eq_false_iff]
 intro ha
 obtain ⟨i,hi,he⟩:=List.any_eq_true.1 ha
 exact h i (List.mem_range.1 hi) (of_decide_eq_true he)
theorem anyF1 (f:Nat → Int) (v:Int):anyF 1 f v=decide (f 0=v):=by
 show (decide (f 0=v) || false)=_
 exact Bool.or_false _
theorem anyF2 (f:Nat → Int) (v:Int):anyF 2 f v=(decide (f 0=v) || decide (f 1=v)):=by
 show (decide (f 0=v) || (decide (f 1=v) || false))=_
 rw [Bool.or_false]
theorem dcomm (a b:Int):decide (a=b)=decide (b=a):=decide_eq_decide.2 ⟨Eq.symm,Eq.symm⟩
section
variable {P:Program} {T:List (Nat × TI)} {s:St} {a:Act} {w:World} {α : Type} {Kk:Kn} {m:Nat → Nat → Prop} {w0:World} {b k0 ty:Nat} {cs:List AV} {fn:Func} {enc:α → AV} {J:JobA} {r:Rs α} {rs:List ResultVar} {rr:List AV × List Ob} {B:Alg}
theorem RunS.two {f:FuncId} {A:Option Addr} {c:Nat} {p:Pst} {args:List AV} (h:RunS f k0 b J A c p args enc r) (hf:Fro p r) (hp:PstOk p) (hn:p.n ≤ 1000000) :
  (∃ wq q,r = .stop wq q ∧ SpecT Tryz.prog f (.ptr k0 b 0 :: args) [(k0,⟨b,148,runC J A c p⟩)] (fun x => .thr 85 (wntV (wqA x wq)) [(k0,runC J (x.A 0) (x.c 0) q)])) ∨
  ∃ v q,r = .ok v q ∧ Suf p q ∧ PstOk q ∧ q.n ≤ 1000000 ∧ SpecX Tryz.prog f (.ptr k0 b 0 :: args) [(k0,⟨b,148,runC J A c p⟩)] (fun x => ⟨enc v,[(k0,runC J (x.A 0) (x.c 0) q)],[]⟩):=by
 cases hr:r with
 | ok v q => have hs:=hf.of hr; exact .inr ⟨v,q,rfl,hs,hp.suf hs,Nat.le_trans hs.le hn,h.ok hr⟩
 | stop wq q => exact .inl ⟨wq,q,rfl,h.stop hr⟩
abbrev rc (J:JobA) (v:AV) (q:Pst):CS:=.x fun x => ⟨v,[(0,runC J (x.A 0) (x.c 0) q)],[]⟩
theorem thm (h:Fits ⟨m,w0,ats [(k0,⟨b,ty,cs⟩)],[],Kk⟩ s a w) {x:Atom} {wq:Wq} {q:Pst} (hok:Ok (s.m ⟨m,w0,ats [(k0,⟨b,ty,cs⟩)],[],Kk⟩) w (wntV (wqA x wq))) (hr:r = .stop wq q) (hs:SetsOk s [(k0,⟨b,ty,cs⟩)] [(k0,runC J (x.A 0) (x.c 0) q)]:=by exact ⟨rfl,⟨_,rfl,zl⟩,trivial⟩) :
  bodyPost P fn (TPost m w0 [(k0,⟨b,ty,cs⟩)] (fun x => outM k0 J enc r x)) (.panic [{ v:=.iface 85 (wntV (wqA x wq)).den,recovered:=false }]) a w:=thr_m h hok hr hs
theorem rmm (hB:B=std) (hT:TabOK P T) (h:Fits ⟨m,w0,ats [(k0,⟨b,ty,cs⟩)],[],Kk⟩ s a w) {v:α} {q:Pst} (A:Option Addr) (c:Nat) (hr0:r = .ok v q) (hfn:fn.results=rs.toArray:=by rfl) (hr:resL T s rs=some rr:=by first | rfl | (conv => lhs; cbv)) (ho:AO P Kk rr.2:=by first | exact trivial | (subst hB; simp [AO,Ob.holds]))
  (he:Sim (can (resA rr.1)) (can (enc v)):=by subst hB; exact zr) (hs:SetsOk s [(k0,⟨b,ty,cs⟩)] [(k0,runC J A c q)]:=by subst hB; exact ⟨rfl,⟨_,rfl,zl⟩,trivial⟩) :
  bodyPost P fn (TPost m w0 [(k0,⟨b,ty,cs⟩)] (fun x => outM k0 J enc r x)) .ret a w ∧ bodyPost P fn (TPost m w0 [(k0,⟨b,ty,cs⟩)] (fun x => outM k0 J enc r x)) .normal a w:=ret_mm hT h hfn hr ho A c hr0 he hs
end
section
variable {C:Cx} {P:Program} {Q:Exit → Act → World → Prop} {T:List (Nat × TI)} {s:St} {a:Act} {w:World} {B:Alg} {f:FuncId} {k:Nat} {blk:Blk} {ty:Nat} {v:Atom → AV} {sets:Atom → List (Nat × List AV)} {args':List AV} {id:Nat} {all rest:List Oper} {R:Alg → (Nat → Atom) → St × List Ob} {fs:List Foot} {o:Oper} {c:Call} {g:Operand} {l r args:(Nat → Atom) → List AV}
theorem stp (i:Nat) (hB:B=std) (hT:TabOK P T) (kp km:List Nat) (cs:List (Nat × CS)) (h:Fits C s a w) (hsp:SpecT P f args' [(k,blk)] (fun x => .thr ty (v x) (sets x)))
  (K:∀ X x a w',Fits C ((R B X).1.eff (.sets (upd [(k,blk)] (sets x)))) a w' → Ok (((R B X).1.eff (.sets (upd [(k,blk)] (sets x)))).m C) w' (v x) → Q (.panic [{ v:=.iface ty (v x).den,recovered:=false }]) a w')
  (hex:∀ A X,(exec A T cs X all (number 0 (all.take i)) s).map (fun r => (r.1.keep kp km,r.2.1))=some (R A X):=by intro A X; conv => lhs; cbv) (hob:∀ X,AO P C.K (R B X).2:=by
   intro X; subst hB
   first
   | exact trivial
   | (simp only [AO,Ob.holds,BE.den]<;>and_intros<;>(repeat first | trivial | rfl | exact O1 | exact O2 | exact O3 | exact (fun _ _ => by kernel_rfl) | exact O1 _ _ _ rfl | exact O2 _ _ _ rfl | refine ⟨?_,?_⟩ | intro h | decide | omega)<;>done)
   | (simp [AO,Ob.holds,BE.den,std,sC,sAr]<;>omega))
  (hL:all.drop i=o :: rest:=by rfl) (hop:o.op = .call c:=by rfl) (hcal:c.callee = .value g:=by rfl) (hg:∀ X,goes all (R B X).1 o=true:=by intro X; rfl) (hgv:∀ X,val (R B X).1 [] g = .fn f (l X) (r X):=by intro X; rfl) (hl:∀ X,vals (R B X).1 [] c.args.toList=some (args X):=by intro X; rfl) (hsim:∀ X,SimL (l X ++ args X ++ r X) args':=by intro X; subst hB; exact zl)
  (hpre:∀ X,lookM (R B X).1.mem k=some blk:=by intro X; rfl) (hd:∀ X,inNt (R B X).1 o.dst=true:=by intro X; rfl) (hen:Enters P f:=by exact fun _ _ => by kernel_rfl):(Code.region id all.toArray false).wp P Q a w:=
 wp_region_lit (list_preB 0 i hB hT kp km cs h hex hob fun X a1 w1 hF => man_outT hL (hg X) hop hcal hF (hgv X) (hl X) hen hsp (hsim X) (mem1 (hpre X)) rfl (hd X) fun x w' hF hok => K X x _ w' hF hok)
theorem stpD (i:Nat) (hB:B=std) (hT:TabOK P T) (kp km:List Nat) (cs:List (Nat × CS)) (h:Fits C s a w) (hsp:SpecT P f args' [(k,blk)] (fun x => .thr ty (v x) (sets x)))
  (K:∀ X x a w',Fits C ((R B X).1.eff (.sets (upd [(k,blk)] (sets x)))) a w' → Ok (((R B X).1.eff (.sets (upd [(k,blk)] (sets x)))).m C) w' (v x) → Q (.panic [{ v:=.iface ty (v x).den,recovered:=false }]) a w')
  (hm:P.follows .mixedOrders=true:=by kernel_rfl) (hgs:s.gs=[]:=by rfl) (hex:∀ A X,(exec2 A T cs none X all (number 0 (all.take i)) s).map (fun r => ((r.1.keep kp km,r.2.1),r.2.2))=some (R A X,fs):=by intro A X; conv => lhs; cbv) (hD:drawB (all.take i) fs=true:=by kernel_rfl) (hZ:tail3B all i=true:=by kernel_rfl) (hlen:(all.take i).length=fs.length:=by rfl) (hob:∀ X,AO P C.K (R B X).2:=by
   intro X; subst hB
   first
   | exact trivial
   | (simp only [AO,Ob.holds,BE.den]<;>and_intros<;>(repeat first | trivial | rfl | exact O1 | exact O2 | exact O3 | exact (fun _ _ => by kernel_rfl) | exact O1 _ _ _ rfl | exact O2 _ _ _ rfl | refine ⟨?_,?_⟩ | intro h | decide | omega)<;>done)
   | (simp [AO,Ob.holds,BE.den,std,sC,sAr]<;>omega))
  (hL:all.drop i=o :: rest:=by rfl) (hop:o.op = .call c:=by rfl) (hcal:c.callee = .value g:=by rfl) (hg:∀ X,goes all (R B X).1 o=true:=by intro X; rfl) (hgv:∀ X,val (R B X).1 [] g = .fn f (l X) (r X):=by intro X; rfl) (hl:∀ X,vals (R B X).1 [] c.args.toList=some (args X):=by intro X; rfl) (hsim:∀ X,SimL (l X ++ args X ++ r X) args':=by intro X; subst hB; exact zl)
  (hpre:∀ X,lookM (R B X).1.mem k=some blk:=by intro X; rfl) (hd:∀ X,inNt (R B X).1 o.dst=true:=by intro X; rfl) (hen:Enters P f:=by exact fun _ _ => by kernel_rfl):(Code.region id all.toArray true).wp P Q a w:=
 drawn3_okB hB i none handOK_none hm hT kp km cs h hgs fs hD hZ hlen hex hob fun X a1 w1 hF => man_outT hL (hg X) hop hcal hF (hgv X) (hl X) hen hsp (hsim X) (mem1 (hpre X)) rfl (hd X) fun x w' hF hok => K X x _ w' hF hok
end
theorem par1_s (l:Lab) (hL:isL l=true) (hb0:U64 l.bits) (h0:l.len ≠ 0):Spec Tryz.prog 130 [labAV l,.int .u64 ((2 ^ (64 - l.len.toNat):Nat):Int)] (fun _ => labAV (parL l)):=by
 intro m w hm hargs
 obtain ⟨hl0,hl1,hl2⟩:=lab_parts hL
 have e2:=andNot_bit hL hb0 h0
 obtain ⟨bt,hbt⟩:=eqv (((2 ^ (64 - l.len.toNat):Nat):Int))
 rw [← hbt] at hargs e2 ⊢
 simp only [labAV] at hargs
 refine en 13 hm hargs Tryz.func130 fun B hB a0 hF => ?_
 refine wp_seq (rg hB TA_ok [1,2,4] [2,4] [] hF fun X0 a0 w1 hF => ?_)
 refine wp_seq (rg hB TA_ok [4] [4] [] hF fun X1 a0 w1 hF => ?_)
 refine wp_ret ((rsi hB TA_ok hF nAt (he:=?_)))
 subst hB
 have e1:IntKind.i64.wrap (l.len - 1)=l.len - 1:=wrap_in (by omega) (by omega)
 refine Sim.agg ⟨?_,?_,trivial⟩
 ·show Sim (.int .i64 (IntKind.i64.wrap (l.len - 1))) _
  rw [e1]; exact zr
 show Sim (.int .u64 (sAr .andNot .u64 l.bits bt)) _
 rw [e2]; exact zr
theorem lastp_s (l:Lab) (hb0:U64 l.bits):Spec Tryz.prog 129 [labAV l,.fn 130 [] []] (fun _ => .tup [labAV (parV l),.int .i64 (parE l)]):=by
 intro m w hm hargs
 have SI:=isL_s l hb0
 simp only [labAV] at SI hargs ⊢
 obtain ⟨il,hil⟩:=eqv (isL l)
 rw [← hil] at SI
 refine en 23 hm hargs Tryz.func129 fun B hB a0 hF => ?_
 refine wp_seq (rg hB TA_ok [1,2,4] [2,4] [] hF fun X0 a0 w1 hF => ?_)
 have O1:=SI
 refine wp_seq (wp_block (wp_seq (rg hB TA_ok [6,1,2,4] [2,4] [(1,.r fun _ => .bool (.v il))] hF fun X1 a0 w1 hF => ?_)))
 apply test_ok hF rfl<;>intro hb hF
 ·have hilf:il=false:=by subst hB; cases il<;>first | rfl | (simp [std] at hb)
  have hE:parE l=1:=by unfold parE; rw [← hil,hilf]; rfl
  have hV:parV l=⟨0,0⟩:=by unfold parV; rw [hE]; rfl
  refine wp_seq (rg hB TA_ok [4,5] [4] [] hF fun X2 a0 w1 hF => ?_)
  refine wp_ret ((rsi hB TA_ok hF nAt (he:=?_)))
  subst hB
  rw [hV,hE]
  exact zr
 have hilt:il=true:=by subst hB; cases il<;>first | rfl | (simp [std] at hb)
 have hLt:isL l=true:=by rw [← hil]; exact hilt
 obtain ⟨hl0,hl1,hl2⟩:=lab_parts hLt
 refine wp_seq (rg hB TA_ok [11,1,2,4] [2,4] [] hF fun X3 a0 w1 hF => ?_)
 apply test_ok hF rfl<;>intro hb hF
 ·have h0:l.len=0:=by subst hB; simpa [std,sC] using hb
  have hE:parE l=7:=by unfold parE; rw [← hil,hilt,if_neg (by decide),if_pos h0]
  have hV:parV l=⟨0,0⟩:=by unfold parV; rw [hE]; rfl
  refine wp_seq (rg hB TA_ok [4,5] [4] [] hF fun X4 a0 w1 hF => ?_)
  refine wp_ret ((rsi hB TA_ok hF nAt (he:=?_)))
  subst hB
  rw [hV,hE]
  exact zr
 have h0:¬ l.len=0:=by subst hB; simpa [std,sC] using hb
 have hE:parE l=0:=by unfold parE; rw [← hil,hilt,if_neg (by decide),if_neg h0]
 have hV:parV l=parL l:=by unfold parV; rw [hE]; rfl
 have SB:=bit_s (l.len - 1) (by omega) (by omega)
 rw [show 63 - (l.len - 1).toNat=64 - l.len.toNat by omega] at SB
 have S1:=par1_s l hLt hb0 h0
 simp only [labAV] at S1
 have e1:IntKind.i64.wrap (l.len - 1)=l.len - 1:=wrap_in (by omega) (by omega)
 rw [← e1] at SB
 obtain ⟨bt,hbt⟩:=eqv (((2 ^ (64 - l.len.toNat):Nat):Int))
 rw [← hbt] at SB S1
 obtain ⟨k,hk⟩:=eqv (parL l)
 rw [← hk] at S1 hV
 have O1:=SB
 have O2:=S1
 refine wp_skip (wp_seq (drg hB TA_ok [4,5] [4] [(5,.r fun _ => .int .u64 bt),(6,.r fun _ => .agg [.int .i64 k.len,.int .u64 k.bits])] hF fun X5 a0 w1 hF => ?_))
 refine wp_ret ((rsi hB TA_ok hF nAt (he:=?_)))
 subst hB
 rw [hV,hE]
 exact zr
theorem par_s (l:Lab) (hb0:U64 l.bits):Spec Tryz.prog 119 [labAV l] (fun _ => .tup [labAV (parV l),.int .i64 (parE l)]):=by
 intro m w hm hargs
 have SI:=lastp_s l hb0
 simp only [labAV] at SI hargs ⊢
 obtain ⟨k,hk⟩:=eqv (parV l)
 rw [← hk] at SI ⊢
 obtain ⟨q,hq⟩:=eqv (parE l)
 rw [← hq] at SI ⊢
 refine en 8 hm hargs Tryz.func119 fun B hB a0 hF => ?_
 refine wp_seq (rg hB TA_ok [1,2] [1,2] [] hF fun X0 a0 w1 hF => ?_)
 have O1:=SI
 refine wp_seq (rg hB TA_ok [2,3] [2] [(1,.r fun _ => .tup [.agg [.int .i64 k.len,.int .u64 k.bits],.int .i64 q])] hF fun X1 a0 w1 hF => ?_)
 exact wp_ret ((rsp hB TA_ok hF nAt).1)
theorem idxi_s (A:Option Addr) (n c:Nat) (f:Nat → Int) (v:Int):Spec Tryz.prog 97 [.sl none A n c 1 (fun i => [.int .i64 (f i)]),.int .i64 v] (fun x => .int .i64 (if anyF n f v then (x.b:Int) else -1)):=by
 intro m w hm hargs
 have hlen:=ok_len (hargs (.sl none A n c 1 (fun i => [.int .i64 (f i)])) (by simp))
 have hmx:maxLen=9223372036854775807:=rfl
 refine en 19 hm hargs Tryz.func97 fun B hB a0 hF => ?_
 refine wp_seq (rg hB TA_ok [0,1] [] [] hF fun X0 a0 w1 hF => ?_)
 refine wp_seq (wp_seq (rg hB TA_ok [8,0,1,7] [] [] hF fun X1 a0 w1 hF => ?_))
 refine wp_block (loop_pre (ι:=Nat) (fun p => [(8,.int .i64 (p:Int))]) (fun p => []) (fun p => []) (fun p => p ≤ n ∧ ∀ j,j < p → f j ≠ v) (fun p => n - p) 0 ⟨Nat.zero_le _,fun i hi => absurd hi (Nat.not_lt_zero _)⟩ hF ?_)
 rintro i ⟨hi,hall⟩ a0 w1 hF
 try dsimp only at hi
 try dsimp only at hall
 refine wp_seq (rg hB TA_ok [9,0,1,7,8] [] [] hF fun X2 a0 w1 hF => ?_)
 refine wp_seq (test_ok hF rfl (fun hb hF => ?_) (fun hb hF => ?_))
 ·have hin:i < n:=by
   have:(i:Int) < (n:Int):=by subst hB; simpa [std,sC] using hb
   omega
  refine wp_skip (wp_seq (wp_block (wp_seq (rg hB TA_ok [0,1,5,7,8] [] [] hF fun X3 a0 w1 hF => ?_))))
  apply wp_seq
  refine rg hB TA_ok [16,0,1,5,7,8] [] [] hF (hob:=by intro X; subst hB; simp only [AO,Ob.holds,BE.den]<;>and_intros<;>repeat first | trivial | rfl | exact (show (0:Int) ≤ (i:Int) by omega) | exact (show (i:Int) < (n:Int) by omega) | exact (fun _ _ => by kernel_rfl) | refine ⟨?_,?_⟩ | intro h | exact Int.le_refl _ | decide | omega) fun X4 a0 w1 hF => ?_
  apply test_ok hF rfl<;>intro hb hF
  ·have heq:f i=v:=by
    have:(v == f i)=true:=by subst hB; exact hb
    simpa using (beq_iff_eq.1 this).symm
   refine wp_seq (rg hB TA_ok [4] [] [] hF fun X5 a0 w1 hF => ?_)
   refine wp_ret ((rsp hB TA_ok hF (⟨i,fun _ => none,fun _ => 0,fun _ => .empty⟩) (he:=?_)).1)
   subst hB
   rw [anyF_at hin heq]; rfl
  have hne:f i ≠ v:=by
   have:(v == f i)=false:=by subst hB; exact hb
   intro h; rw [h] at this; simp at this
  refine wp_skip (rg hB TA_ok [8,0,1,7] [] [] hF fun X6 a0 w1 hF => ?_)
  have e:B.arith .add .i64 (i:Int) 1=((i + 1:Nat):Int):=by subst hB; exact wrap_succ (n:=n) hin (by omega)
  refine ⟨i + 1,⟨by omega,fun j hj => ?_⟩,by omega,by rw [← e]; exact hF⟩
  by_cases hij:j=i
  ·rw [hij]; exact hne
  exact hall j (by omega)
 have hout:i=n:=by
  have:¬ (i:Int) < (n:Int):=by subst hB; simpa [std,sC] using hb
  omega
 refine wp_exit (wp_seq (rg hB TA_ok [4] [] [] hF fun X7 a0 w1 hF => ?_))
 refine wp_ret ((rsp hB TA_ok hF nAt (he:=?_)).1)
 subst hB
 rw [hout] at hall
 rw [anyF_no hall]; rfl
theorem coni_s (A:Option Addr) (n c:Nat) (f:Nat → Int) (v:Int):Spec Tryz.prog 77 [.sl none A n c 1 (fun i => [.int .i64 (f i)]),.int .i64 v] (fun _ => .bool (.v (anyF n f v))):=by
 intro m w hm hargs
 have S0:=idxi_s A n c f v
 obtain ⟨q,hq⟩:=eqv (anyF n f v)
 rw [← hq] at S0 ⊢
 have S:∀ x:Atom,∃ z:Int,z=(if q=true then (x.b:Int) else -1):=fun x => ⟨_,rfl⟩
 refine en 9 hm hargs Tryz.func77 fun B hB a0 hF => ?_
 refine wp_seq (rg hB TA_ok [0,1] [] [] hF fun X0 a0 w1 hF => ?_)
 have O1:=S0
 refine wp_seq (rg hB TA_ok [4] [] [(2,.r fun x => .int .i64 (if q=true then (x.b:Int) else -1))] hF fun X1 a0 w1 hF => ?_)
 refine wp_ret ((rsi hB TA_ok hF nAt (he:=?_)))
 subst hB
 refine Sim.bool ?_
 show decide ((if q=true then (((X1 2).b:Nat):Int) else -1) ≥ 0)=q
 cases q
 ·rfl
 simp
theorem is10 (g:GotA) (A:Option Addr) (k:Int) (f:Nat → Int) (h0:f 0=k):Spec Tryz.prog 109 [gotV g,.sl none A 1 1 1 (fun i => [.int .i64 (f i)])] (fun _ => .bool (.v (gk g k))):=by
 intro m w hm hargs
 have S:=coni_s A 1 1 f g.x.r.kd
 obtain ⟨q,hq⟩:=eqv (anyF 1 f g.x.r.kd)
 rw [← hq] at S
 refine en 14 hm hargs Tryz.func109 fun B hB a0 hF => ?_
 refine wp_seq (rg hB TA_ok [1,2] [2] [] hF fun X0 a0 w1 hF => ?_)
 have O1:=S
 refine wp_seq (rg hB TA_ok [4] [] [(7,.r fun _ => .bool (.v q))] hF fun X1 a0 w1 hF => ?_)
 refine wp_ret ((rsi hB TA_ok hF nAt (he:=?_)))
 subst hB
 refine Sim.bool ?_
 show (if g.has=true then q else false)=_
 rw [hq,anyF1,h0]; unfold gk; simp only [dcomm g.x.r.kd]; cases g.has<;>rfl
theorem is1_s (g:GotA) (G:Option Nat) (A:Option Addr) (k:Int) (cells:Nat → List AV) (h0:cells 0=[.int .i64 k]):Spec Tryz.prog 109 [gotV g,.sl G A 1 1 1 cells] (fun _ => .bool (.v (gk g k))):=
 (is10 g A k (fun _ => k) rfl).sim ⟨zr,Sim.recell (fun i hi => by
  match i,hi with
  | 0,_ => rw [h0]),trivial⟩
theorem is20 (g:GotA) (A:Option Addr) (k k2:Int) (f:Nat → Int) (h0:f 0=k) (h1:f 1=k2):Spec Tryz.prog 109 [gotV g,.sl none A 2 2 1 (fun i => [.int .i64 (f i)])] (fun _ => .bool (.v ((gk g k || gk g k2)))):=by
 intro m w hm hargs
 have S:=coni_s A 2 2 f g.x.r.kd
 obtain ⟨q,hq⟩:=eqv (anyF 2 f g.x.r.kd)
 rw [← hq] at S
 refine en 14 hm hargs Tryz.func109 fun B hB a0 hF => ?_
 refine wp_seq (rg hB TA_ok [1,2] [2] [] hF fun X0 a0 w1 hF => ?_)
 have O1:=S
 refine wp_seq (rg hB TA_ok [4] [] [(7,.r fun _ => .bool (.v q))] hF fun X1 a0 w1 hF => ?_)
 refine wp_ret ((rsi hB TA_ok hF nAt (he:=?_)))
 subst hB
 refine Sim.bool ?_
 show (if g.has=true then q else false)=_
 rw [hq,anyF2,h0,h1]; unfold gk; simp only [dcomm g.x.r.kd]; cases g.has<;>rfl
theorem is2_s (g:GotA) (G:Option Nat) (A:Option Addr) (k k2:Int) (cells:Nat → List AV) (h0:cells 0=[.int .i64 k]) (h1:cells 1=[.int .i64 k2]):Spec Tryz.prog 109 [gotV g,.sl G A 2 2 1 cells] (fun _ => .bool (.v ((gk g k || gk g k2)))):=
 (is20 g A k k2 (fun i => if i=0 then k else k2) rfl rfl).sim ⟨zr,Sim.recell (fun i hi => by
  match i,hi with
  | 0,_ => rw [h0]; rfl
  | 1,_ => rw [h1]; rfl),trivial⟩
theorem as_s (kd:Int) (x:RA) (mk:Int):Spec Tryz.prog 120 [.int .i64 kd,recV x,.int .u64 mk] (fun _ => recV (asR kd x mk)):=by
 intro m w hm hargs
 refine en 14 hm hargs Tryz.func120 fun B hB a0 hF => ?_
 refine wp_seq (rg hB TA_ok [0,2,4,6] [4,6] [] hF fun X0 a0 w1 hF => ?_)
 refine wp_seq (rg hB TA_ok [6] [6] [] hF fun X1 a0 w1 hF => ?_)
 exact wp_ret ((rsp hB TA_ok hF nAt).1)
theorem inn_s:Spec Tryz.prog 124 [] (fun _ => innV):=by
 intro m w hm hargs
 have SN:=none_s
 simp only [labAV,noneL] at SN
 refine en 3 hm hargs Tryz.func124 fun B hB a0 hF => ?_
 refine wp_seq (rg hB TA_ok [0] [0] [] hF fun X0 a0 w1 hF => ?_)
 have O1:=SN
 refine wp_seq (rg hB TA_ok [0] [0] [(0,.r fun _ => .agg [.int .i64 (-1),.int .u64 0])] hF fun X1 a0 w1 hF => ?_)
 exact wp_ret ((rsp hB TA_ok hF nAt).1)
theorem chi_s (l:Lab) (hb0:U64 l.bits):Spec Tryz.prog 122 [labAV l] (fun _ => .agg [.int .i64 (chV l 0).len,.int .u64 (chV l 0).bits,.int .i64 (chV l 1).len,.int .u64 (chV l 1).bits]):=by
 intro m w hm hargs
 have S0:=child_s l hb0 0 (.inl rfl)
 have S1:=child_s l hb0 1 (.inr rfl)
 simp only [labAV] at S0 S1 hargs
 obtain ⟨x,hx⟩:=eqv (chV l 0)
 rw [← hx] at S0 ⊢
 obtain ⟨y,hy⟩:=eqv (chV l 1)
 rw [← hy] at S1 ⊢
 obtain ⟨u,hu⟩:=eqv (chE l 0)
 rw [← hu] at S0
 obtain ⟨v,hv⟩:=eqv (chE l 1)
 rw [← hv] at S1
 refine en 20 hm hargs Tryz.func122 fun B hB a0 hF => ?_
 refine wp_seq (rg hB TA_ok [1,2] [1,2] [] hF fun X0 a0 w1 hF => ?_)
 have O1:=S0
 refine wp_seq (rg hB TA_ok [1,2,3] [1,2,3] [(1,.r fun _ => .tup [.agg [.int .i64 x.len,.int .u64 x.bits],.int .i64 u])] hF fun X1 a0 w1 hF => ?_)
 have O1:=S1
 refine wp_seq (rg hB TA_ok [2,3,5] [2,3,5] [(1,.r fun _ => .tup [.agg [.int .i64 y.len,.int .u64 y.bits],.int .i64 v])] hF fun X2 a0 w1 hF => ?_)
 refine wp_seq (rg hB TA_ok [2] [2] [] hF fun X3 a0 w1 hF => ?_)
 exact wp_ret ((rsp hB TA_ok hF nAt).1)
theorem ask_m0 (b:Nat) (J:JobA) (hJ:JobOk J) (A:Option Addr) (c:Nat) (p:Pst) (hp:PstOk p) (hn:p.n ≤ 1000000) (q:WntA):RunS 116 0 b J A c p [wntV q] (gotV) (askM J.budget q.absQ p):=by
 intro m w hm hargs hpre
 obtain ⟨ha,hbu,_,_,_⟩:=hJ
 have hmx:maxLen=9223372036854775807:=rfl
 have e1:IntKind.i64.wrap ((p.n:Int) + J.budget)=(p.n:Int) + J.budget:=wrap_in (by omega) (by omega)
 refine enX 60 hm hpre hargs Tryz.func116 fun B hB a0 hF => ?_
 refine wp_seq (rg hB TA_ok [0,3,4] [0,3,4] [] hF fun X0 a0 w1 hF => ?_)
 refine wp_seq (wp_seq (drg hB TA_ok [25,0,3,4] [0,3,4] [] hF fun X1 a0 w1 hF => ?_))
 apply test_ok hF rfl<;>intro hb hF
 ·have ht:0 < p.n ∧ 0 < (p.n:Int) + J.budget:=by
   have h9:(if decide ((p.n:Int) > 0)=true then decide (IntKind.i64.wrap ((p.n:Int) + J.budget) > 0) else false)=true:=by subst hB; exact hb
   rw [e1] at h9; simp at h9; omega
  apply wp_seq
  refine rg hB TA_ok [0,4,5] [0,4,5] [] hF (hob:=by intro X; subst hB; simp only [AO,Ob.holds,BE.den]<;>and_intros<;>repeat first | trivial | rfl | exact ⟨Int.le_refl _,(by show (0:Int) < (p.n:Int); omega)⟩ | exact (by show (0:Int) < (p.n:Int); omega) | exact (fun _ _ => by kernel_rfl) | refine ⟨?_,?_⟩ | intro h | exact Int.le_refl _ | decide | omega) fun X2 a0 w1 hF => ?_
  apply wp_seq
  refine rg hB TA_ok [4,5] [0,4,5] [] hF (hob:=by intro X; subst hB; simp only [AO,Ob.holds,BE.den]<;>and_intros<;>repeat first | trivial | rfl | exact (by show (0:Int) ≤ 1; decide) | exact (by show (1:Int) ≤ (p.n:Int); omega) | exact (show (0:Int) ≤ 1 ∧ (1:Int) ≤ (p.n:Int) ∧ (p.n:Int) ≤ (p.n:Int) by omega) | exact (fun _ _ => by kernel_rfl) | refine ⟨?_,?_⟩ | intro h | exact Int.le_refl _ | decide | omega) fun X3 a0 w1 hF => ?_
  refine wp_seq (rg hB TA_ok [4] [0,4] [] hF fun X4 a0 w1 hF => ?_)
  refine wp_ret ((rmm hB TA_ok hF (v:=p.g 0) (q:=p.tl) (adrOf A c 1 8) (c - 1) (if_pos ht) (he:=?_) (hs:=?_)).1)
  ·subst hB; exact zr
  subst hB; exact ⟨rfl,⟨_,rfl,⟨zr,zr,zr,zr,zr,zr,zr,zr,zr,zr,zr,zr,zr,zr,zr,Sim.recell (fun i hi => by show gotC (p.g (1 + i))=gotC (p.g (i + 1)); rw [Nat.add_comm]),zr,zr,zr,zr,zr,zr,trivial⟩⟩,trivial⟩
 have ht:¬ (0 < p.n ∧ 0 < (p.n:Int) + J.budget):=by
  have h9:(if decide ((p.n:Int) > 0)=true then decide (IntKind.i64.wrap ((p.n:Int) + J.budget) > 0) else false)=false:=by subst hB; exact hb
  rw [e1] at h9; simp at h9; omega
 refine wp_skip (wp_seq (wp_seq (drg hB TA_ok [52,0,3] [0,3] [] hF fun X5 a0 w1 hF => ?_)))
 apply test_ok hF rfl<;>intro hb hF
 ·have ho:(p.n:Int) + J.budget ≤ 0:=by
   have h9:decide (IntKind.i64.wrap ((p.n:Int) + J.budget) ≤ 0)=true:=by subst hB; exact hb
   rw [e1] at h9; simpa using h9
  refine rg hB TA_ok [3] [0,3] [] hF fun X6 a0 w1 hF => ?_
  refine wp_region_lit (lpr 0 2 hB TA_ok [59] [0] [] hF fun X7_0 a0 w1 hF => ?_)
  refine man_panic rfl rfl rfl hF rfl (thr_t (P:=Tryz.prog) (fn:=Tryz.f116) (pre:=[(0,⟨b,148,runC J A c p⟩)]) (sets:=[(0,runC J A c p)]) (out:=fun x => outM 0 J gotV (askM J.budget q.absQ p) x) hF (ok_ifc (hF.slot 59 rfl).2) ⟨0,fun i => if i=0 then A else none,fun i => if i=0 then c else 0,fun _ => .empty⟩ (by show outM 0 J gotV (askM J.budget q.absQ p) _=_; unfold askM; rw [if_neg ht,if_pos ho]; rfl) ?_ ⟨rfl,⟨_,rfl,zl⟩,trivial⟩)
  subst hB
  exact Sim.agg ⟨zr,zr,zr,zr,zr,zq0,zr,zr,zr,zr,zr,zr,zq0,zr,Sim.ff,trivial⟩
 have ho:¬ (p.n:Int) + J.budget ≤ 0:=by
  have h9:decide (IntKind.i64.wrap ((p.n:Int) + J.budget) ≤ 0)=false:=by subst hB; exact hb
  rw [e1] at h9; simpa using h9
 refine wp_skip (wp_region_lit (lpr 0 2 hB TA_ok [59] [0] [] hF fun X7_0 a0 w1 hF => ?_))
 refine man_panic rfl rfl rfl hF rfl (thr_t (P:=Tryz.prog) (fn:=Tryz.f116) (pre:=[(0,⟨b,148,runC J A c p⟩)]) (sets:=[(0,runC J A c p)]) (out:=fun x => outM 0 J gotV (askM J.budget q.absQ p) x) hF (ok_ifc (hF.slot 59 rfl).2) ⟨0,fun i => if i=0 then A else if i=1 then q.x.A else q.s.A,fun i => if i=0 then c else if i=1 then q.x.c else q.s.c,fun _ => .empty⟩ (by show outM 0 J gotV (askM J.budget q.absQ p) _=_; unfold askM; rw [if_neg ht,if_neg ho]; rfl) ?_ ⟨rfl,⟨_,rfl,zl⟩,trivial⟩)
 subst hB
 exact wnt_sim q _ rfl rfl rfl rfl
theorem ask_m (k0 b:Nat) (J:JobA) (hJ:JobOk J) (A:Option Addr) (c:Nat) (p:Pst) (hp:PstOk p) (hn:p.n ≤ 1000000) (q:WntA):RunS 116 k0 b J A c p [wntV q] (gotV) (askM J.budget q.absQ p):=RunS.re (ask_m0 b J hJ A c p hp hn q) (by repeat (first | exact trivial | refine ⟨zr,?_⟩))
def zRes:ResA:=⟨0,false,⟨#[]⟩,none,0,0,fun _ => zeroItm,0,false⟩
theorem askg_m (k0 b:Nat) (J:JobA) (hJ:JobOk J) (A:Option Addr) (c:Nat) (p:Pst) (hp:PstOk p) (hn:p.n ≤ 1000000) (l:Lab):RunS 116 k0 b J A c p [.agg [.int .i64 1,.int .i64 l.len,.int .u64 l.bits,.int .u64 0,.int .i64 0,.sl none none 0 0 2 (fun _ => []),.int .i64 0,.int .u64 0,.int .u64 0,.int .i64 0,.bool .ff,.str ⟨#[]⟩,.sl none none 0 0 2 (fun _ => []),.int .u64 0,.bool .ff]] gotV (getM J.budget l p):=
 RunS.re (ask_m 0 b J hJ A c p hp hn ⟨1,l,0,zRA,zRes⟩) ⟨Sim.agg ⟨zr,zr,zr,zr,zr,zq0,zr,zr,zr,zr,Sim.ff,zr,zq0,zr,Sim.ff,trivial⟩,trivial⟩
theorem askc_m (k0 b:Nat) (J:JobA) (hJ:JobOk J) (A:Option Addr) (c:Nat) (p:Pst) (hp:PstOk p) (hn:p.n ≤ 1000000) (l:Lab) (v:Int) (x:RA):RunS 116 k0 b J A c p [.agg [.int .i64 2,.int .i64 l.len,.int .u64 l.bits,.int .u64 v,.int .i64 x.r.kd,.sl none x.A x.r.n x.c 2 (fun i => itC (x.r.f i)),.int .i64 x.r.nx.len,.int .u64 x.r.nx.bits,.int .u64 x.r.mrk,.int .i64 0,.bool .ff,.str ⟨#[]⟩,.sl none none 0 0 2 (fun _ => []),.int .u64 0,.bool .ff]] gotV (askM J.budget ⟨2,l,v,x.r.abs,zRsl⟩ p):=
 RunS.re (ask_m 0 b J hJ A c p hp hn ⟨2,l,v,x,zRes⟩) ⟨Sim.agg ⟨zr,zr,zr,zr,zr,zr,zr,zr,zr,zr,Sim.ff,zr,zq0,zr,Sim.ff,trivial⟩,trivial⟩
theorem askd_m (k0 b:Nat) (J:JobA) (hJ:JobOk J) (A:Option Addr) (c:Nat) (p:Pst) (hp:PstOk p) (hn:p.n ≤ 1000000) (l:Lab) (v:Int):RunS 116 k0 b J A c p [.agg [.int .i64 3,.int .i64 l.len,.int .u64 l.bits,.int .u64 v,.int .i64 0,.sl none none 0 0 2 (fun _ => []),.int .i64 0,.int .u64 0,.int .u64 0,.int .i64 0,.bool .ff,.str ⟨#[]⟩,.sl none none 0 0 2 (fun _ => []),.int .u64 0,.bool .ff]] gotV (askM J.budget ⟨3,l,v,zeroRec,zRsl⟩ p):=
 RunS.re (ask_m 0 b J hJ A c p hp hn ⟨3,l,v,zRA,zRes⟩) ⟨Sim.agg ⟨zr,zr,zr,zr,zr,zq0,zr,zr,zr,zr,Sim.ff,zr,zq0,zr,Sim.ff,trivial⟩,trivial⟩
theorem get_m0 (b:Nat) (J:JobA) (hJ:JobOk J) (A:Option Addr) (c:Nat) (p:Pst) (hp:PstOk p) (hn:p.n ≤ 1000000) (l:Lab):RunS 108 0 b J A c p [labAV l] (gotV) (getM J.budget l p):=by
 intro m w hm hargs hpre
 refine enX 9 hm hpre hargs Tryz.func108 fun B hB a0 hF => ?_
 refine wp_seq (rg hB TA_ok [0,3,4] [0,3,4] [] hF fun X0 a0 w1 hF => ?_)
 apply wp_seq
 rcases (askg_m 0 b J hJ A c p hp hn l).two (fro_get _ _ _) hp hn with ⟨w1,p1,hm1,O1⟩ | ⟨g1,p1,hm1,hs1,hp1,hn1,S1⟩
 ·refine stp 3 hB TA_ok [5,7] [0] [] hF O1 fun _ _ _ _ hF hk => ?_
  exact thm (P:=Tryz.prog) (fn:=Tryz.f108) (q:=p1) hF hk (by simp [Rs.bind,hm1])
 have O1:=S1
 refine rg hB TA_ok [4] [0,4] [(3,rc J (gotV g1) p1)] hF fun X1 a0 w1 hF => ?_
 exact wp_ret ((rmm hB TA_ok hF (v:=g1) (q:=p1) ((X1 3).A 0) ((X1 3).c 0) (by simp [Rs.bind,hm1])).1)
theorem get_m (k0 b:Nat) (J:JobA) (hJ:JobOk J) (A:Option Addr) (c:Nat) (p:Pst) (hp:PstOk p) (hn:p.n ≤ 1000000) (l:Lab):RunS 108 k0 b J A c p [labAV l] (gotV) (getM J.budget l p):=RunS.re (get_m0 b J hJ A c p hp hn l) (by repeat (first | exact trivial | refine ⟨zr,?_⟩))
theorem cas_m0 (b:Nat) (J:JobA) (hJ:JobOk J) (A:Option Addr) (c:Nat) (p:Pst) (hp:PstOk p) (hn:p.n ≤ 1000000) (l:Lab) (v:Int) (x:RA):RunS 114 0 b J A c p [labAV l,.int .u64 v,recV x] (fun d => .bool (.v d)) (casM J.budget l v x.r.abs p):=by
 intro m w hm hargs hpre
 refine enX 17 hm hpre hargs Tryz.func114 fun B hB a0 hF => ?_
 refine wp_seq (rg hB TA_ok [0,2,5,7] [0,5,7] [] hF fun X0 a0 w1 hF => ?_)
 apply wp_seq
 rcases (askc_m 0 b J hJ A c p hp hn l v x).two (fro_ask _ _ _) hp hn with ⟨w1,p1,hm1,O1⟩ | ⟨g1,p1,hm1,hs1,hp1,hn1,S1⟩
 ·refine stp 5 hB TA_ok [9,13] [0] [] hF O1 fun _ _ _ _ hF hk => ?_
  exact thm (P:=Tryz.prog) (fn:=Tryz.f114) (q:=p1) hF hk (by simp [casM,Rs.bind,hm1])
 have O1:=S1
 refine rg hB TA_ok [8] [0] [(5,rc J (gotV g1) p1)] hF fun X1 a0 w1 hF => ?_
 exact wp_ret ((rmm hB TA_ok hF (v:=decide (g1.code=0)) (q:=p1) ((X1 5).A 0) ((X1 5).c 0) (by simp [casM,Rs.bind,hm1])).1)
theorem cas_m (k0 b:Nat) (J:JobA) (hJ:JobOk J) (A:Option Addr) (c:Nat) (p:Pst) (hp:PstOk p) (hn:p.n ≤ 1000000) (l:Lab) (v:Int) (x:RA):RunS 114 k0 b J A c p [labAV l,.int .u64 v,recV x] (fun d => .bool (.v d)) (casM J.budget l v x.r.abs p):=RunS.re (cas_m0 b J hJ A c p hp hn l v x) (by repeat (first | exact trivial | refine ⟨zr,?_⟩))
theorem del_m0 (b:Nat) (J:JobA) (hJ:JobOk J) (A:Option Addr) (c:Nat) (p:Pst) (hp:PstOk p) (hn:p.n ≤ 1000000) (l:Lab) (v:Int):RunS 135 0 b J A c p [labAV l,.int .u64 v] (fun d => .bool (.v d)) (drpM J.budget l v p):=by
 intro m w hm hargs hpre
 refine enX 14 hm hpre hargs Tryz.func135 fun B hB a0 hF => ?_
 refine wp_seq (rg hB TA_ok [0,2,4] [0,4] [] hF fun X0 a0 w1 hF => ?_)
 apply wp_seq
 rcases (askd_m 0 b J hJ A c p hp hn l v).two (fro_ask _ _ _) hp hn with ⟨w1,p1,hm1,O1⟩ | ⟨g1,p1,hm1,hs1,hp1,hn1,S1⟩
 ·refine stp 4 hB TA_ok [7,10] [0] [] hF O1 fun _ _ _ _ hF hk => ?_
  exact thm (P:=Tryz.prog) (fn:=Tryz.f135) (q:=p1) hF hk (by simp [drpM,Rs.bind,hm1])
 have O1:=S1
 refine rg hB TA_ok [6] [0] [(4,rc J (gotV g1) p1)] hF fun X1 a0 w1 hF => ?_
 exact wp_ret ((rmm hB TA_ok hF (v:=decide (g1.code=0)) (q:=p1) ((X1 4).A 0) ((X1 4).c 0) (by simp [drpM,Rs.bind,hm1])).1)
theorem del_m (k0 b:Nat) (J:JobA) (hJ:JobOk J) (A:Option Addr) (c:Nat) (p:Pst) (hp:PstOk p) (hn:p.n ≤ 1000000) (l:Lab) (v:Int):RunS 135 k0 b J A c p [labAV l,.int .u64 v] (fun d => .bool (.v d)) (drpM J.budget l v p):=RunS.re (del_m0 b J hJ A c p hp hn l v) (by repeat (first | exact trivial | refine ⟨zr,?_⟩))
theorem still_m0 (b:Nat) (J:JobA) (hJ:JobOk J) (A:Option Addr) (c:Nat) (p:Pst) (hp:PstOk p) (hn:p.n ≤ 1000000) (l:Lab) (v:Int):RunS 123 0 b J A c p [labAV l,.int .u64 v] (fun q:GotA => .bool (.v (decide (q.ver=v)))) (getM J.budget l p):=by
 intro m w hm hargs hpre
 refine enX 13 hm hpre hargs Tryz.func123 fun B hB a0 hF => ?_
 refine wp_seq (rg hB TA_ok [0,2,4] [0,4] [] hF fun X0 a0 w1 hF => ?_)
 apply wp_seq
 rcases (get_m 0 b J hJ A c p hp hn l).two (fro_get _ _ _) hp hn with ⟨w1,p1,hm1,O1⟩ | ⟨g1,p1,hm1,hs1,hp1,hn1,S1⟩
 ·refine stp 2 hB TA_ok [7,8] [0] [] hF O1 fun _ _ _ _ hF hk => ?_
  exact thm (P:=Tryz.prog) (fn:=Tryz.f123) (q:=p1) hF hk (by simp [Rs.bind,hm1])
 have O1:=S1
 refine rg hB TA_ok [6] [0] [(2,rc J (gotV g1) p1)] hF fun X1 a0 w1 hF => ?_
 exact wp_ret ((rmm hB TA_ok hF (v:=g1) (q:=p1) ((X1 2).A 0) ((X1 2).c 0) (by simp [Rs.bind,hm1])).1)
theorem still_m (k0 b:Nat) (J:JobA) (hJ:JobOk J) (A:Option Addr) (c:Nat) (p:Pst) (hp:PstOk p) (hn:p.n ≤ 1000000) (l:Lab) (v:Int):RunS 123 k0 b J A c p [labAV l,.int .u64 v] (fun q:GotA => .bool (.v (decide (q.ver=v)))) (getM J.budget l p):=RunS.re (still_m0 b J hJ A c p hp hn l v) (by repeat (first | exact trivial | refine ⟨zr,?_⟩))
end Go.Proofs.YtjgnoldondblaaaGreat.Sym
namespace Go.Proofs.YtjgnoldondblaaaGreat
open Go.RowKit
theorem etyI':ElemTy Tryz.prog 22 63 2 24 (.agg #[.int .u64 0,.string ⟨#[]⟩]):=⟨by kernel_rfl,by kernel_rfl,rfl,by decide⟩
end Go.Proofs.YtjgnoldondblaaaGreat
namespace Go.Proofs.YtjgnoldondblaaaGreat.Sym
open Go Go.RowKit
theorem itmE_one (x:Itm):∀ v ∈ itmE x,v.oneCell'=true:=by
 intro v hv
 simp only [itmE,List.mem_cons,List.not_mem_nil,or_false] at hv
 rcases hv with rfl | rfl<;>rfl
theorem rowFlat_its (l:List Itm):rowFlat (fun i => itC (itF l i)) l.length=l.flatMap itmE:=by
 have key:∀ n,n ≤ l.length → rowFlat (fun i => itC (itF l i)) n=(l.take n).flatMap itmE:=by
  intro n
  induction n with
  | zero => intro _; simp [rowFlat]
  | succ n ih =>
   intro h
   rw [rowFlat_succ,ih (by omega),List.take_succ_eq_append_getElem (by omega),List.flatMap_append]
   simp [itF,List.getD,List.getElem?_eq_getElem (show n < l.length by omega)]
   rfl
 have:=key l.length (Nat.le_refl _)
 rwa [List.take_length] at this
theorem its_reads {m:Nat → Nat → Prop} {w:World} {A:Option Addr} {c:Nat} {l:List Itm} (h:Ok m w (rowI A l.length c (itF l))):ReadsL itmE w w.heap.size A l:=by
 have:=row_of_ok h
 rw [rowFlat_its] at this
 exact this
theorem its_vals {m:Nat → Nat → Prop} {w:World} {A:Option Addr} {c:Nat} {l:List Itm} (h:Ok m w (rowI A l.length c (itF l))):∀ x ∈ l,x.val.size ≤ maxLen:=by
 intro x hx
 obtain ⟨i,hi,rfl⟩:=List.mem_iff_getElem.1 hx
 cases h with
 | sl _ _ _ _ _ _ h1 h2 h3 h4 h5 h6 h7 =>
  have:=h7 i hi (.str (itF l i).val) (by simp [itC])
  cases this with | str _ h => simpa [itF,List.getD,hi] using h
theorem own_its {m:Nat → Nat → Prop} {w:World} {B:Nat} {e:TypeId} {A:Option Addr} {n c:Nat} {l:List Itm} (h:OwnL itmE 2 w B e (.slice A n c) l) (hm:∀ b o,m b o → b < B) (hs:∀ x ∈ l,x.val.size ≤ maxLen):Ok m w (rowI A l.length c (itF l)):=by
 obtain ⟨A',c',he,h1,h2⟩:=Own.isSlice h
 injection he with e1 e2 e3; subst e3; subst e2
 refine rows_ok h1 h2 hs fun hp => ?_
 rw [flat_length itmE_len] at hp
 obtain ⟨b,hA,hb⟩:=own_head h (by omega)
 refine ⟨b,0,hA,fun j u hu => ⟨by rw [Nat.zero_add]; exact own_cells h hb j u hu,fun hmm => ?_⟩⟩
 have:=(Own.lt h b hb).1
 have:=hm _ _ hmm
 omega
theorem clone_c (w:World) (A:Option Addr) (k:Nat) (l:List Itm) (hr:ReadsL itmE w w.heap.size A l) (hl:l.length < 2147483000) :
  Calls Tryz.prog 25 #[.slice A l.length k] w fun e w' => ∃ v',e = .returned v' ∧ OwnL itmE 2 w' w.heap.size 63 v' l ∧ Below w.heap.size w w':=by
 have hq:∀ (A:Option Addr) (n k:Nat) (w:World),(binOp .eql 22 (.slice A n k) (.slice none 0 0)).run Tryz.prog w = .ok (.bool A.isNone) w:=fun A n k w => Go.Lib.run_eql_slice_nil w _ _ A n k 0 0 Tryz.underlying22
 cases A with
 | none =>
  obtain rfl:l=[]:=by
   refine List.eq_nil_of_length_eq_zero (Nat.eq_zero_of_not_pos fun h => ?_)
   obtain ⟨b,off,he,_⟩:=hr.at_ (k:=2) itmE_len (by decide) h
   cases he
  clear hr
  go_enter Tryz.func25,Tryz.ntmps25
  go_wp2_with fail
  go_ret
  exact ⟨_,rfl,Own.nil _ _ _ _ _,Below.refl _ _⟩
 | some a =>
  obtain ⟨W1,hW1⟩:=eqv (w.alloc (.cells #[] 63))
  have hb1:Below w.heap.size w W1:=by rw [hW1]; exact (Below.refl _ _).alloc (Nat.le_refl _) _
  obtain ⟨v',w',hr',hO,hG,hv⟩:=run_append_Own (P:=Tryz.prog) etyI' 22 (Own.nil W1 w.heap.size 63 2 (some ⟨w.heap.size,0,none⟩)) (some a) l.length k (l.flatMap itmE) (flat_length itmE_len l) (hr.below hb1) (flat_one itmE_one l) (by simp only [maxLen]; omega) (by omega) hb1.size
  rw [Nat.zero_add,List.nil_append] at hO
  have HO:Hid (OwnL itmE 2 w' w.heap.size 63 v' l ∧ Below w.heap.size w w'):=⟨hO,hb1.grown hG hb1.size fun g hg => by simp [ownB] at hg⟩
  rw [hW1] at hr'
  clear hO hG hv hb1 hW1
  go_enter Tryz.func25,Tryz.ntmps25
  go_wp2_with (at_builtin; refine wpList_append_run hr' rfl (.tmp 5) (.tmp 6) rfl rfl rfl rfl ?_)
  go_ret
  exact ⟨_,rfl,HO.out⟩
theorem clone_s (A:Option Addr) (c:Nat) (l:List Itm) (hs:l.length < 2147483000):Spec Tryz.prog 25 [rowI A l.length c (itF l)] (fun y => rowI (y.A 0) l.length (y.c 0) (itF l)):=by
 intro m w hm ha
 have h1:=ha (rowI A l.length c (itF l)) (by simp)
 refine (clone_c w A c l (its_reads h1) hs).mono ?_
 rintro e w' ⟨v',rfl,ho,hb⟩
 obtain ⟨A',c',rfl,_,_⟩:=Own.isSlice ho
 exact ⟨⟨0,fun _ => A',fun _ => c',fun _ => ⟨#[]⟩⟩,rfl,own_its ho hm (its_vals h1),hb⟩
theorem clone_sf (A:Option Addr) (n c:Nat) (f:Nat → Itm) (hs:n < 2147483000):Spec Tryz.prog 25 [rowI A n c f] (fun y => rowI (y.A 0) n (y.c 0) f):=by
 have h:=clone_s A c (firsts f n) (by rw [firsts_len]; exact hs)
 have e:∀ A c,Sim (rowI A (firsts f n).length c (itF (firsts f n))) (rowI A n c f):=fun A c => Sim.resl (firsts_len f n) fun t ht => by rw [firsts_get f n t ht]
 have e':∀ A c,Sim (rowI A n c f) (rowI A (firsts f n).length c (itF (firsts f n))):=fun A c => Sim.resl (firsts_len f n).symm fun t ht => by rw [firsts_len] at ht; rw [firsts_get f n t ht]
 intro m w hm ha
 have h2:Spec Tryz.prog 25 [rowI A n c f] (fun y => rowI (y.A 0) (firsts f n).length (y.c 0) (itF (firsts f n))):=h.sim ⟨e' A c,trivial⟩
 refine (h2 m w hm ha).mono ?_
 rintro en w' ⟨x,rfl,hok,hb⟩
 exact ⟨x,by rw [(e (x.A 0) (x.c 0)).1],(e (x.A 0) (x.c 0)).2.2 _ _ hok,hb⟩
theorem grow_c (w:World) (n:Nat) (hn:n ≤ 1000000):Calls Tryz.prog 138 #[.slice none 0 0,.int .i64 n] w fun e w' =>
  ∃ A' c',e = .returned (.slice A' 0 c') ∧ Own w' w.heap.size 63 2 (.slice A' 0 c') 0 [] ∧ Below w.heap.size w w':=by
 have hneg:¬ (n:Int) < 0:=by omega
 have hw:IntKind.i64.wrap (n:Int)=(n:Int):=wrap_in (by omega) (by omega)
 have hw0:IntKind.i64.wrap 0=0:=by decide
 by_cases h0:n=0
 ·subst h0
  go_enter Tryz.func138,Tryz.ntmps138
  go_wp2_with fail
  go_ret
  exact ⟨none,0,rfl,Own.nil _ _ _ _ _,Below.refl _ _⟩
 have hpos:(0:Int) < (n:Int):=by omega
 have HA:=run_append_zeros_Own (P:=Tryz.prog) (w:=w) (kq:=.i64) etyI' (Tryz.underlying3) 22 (A:=none) (n:=0) (c:=0) (xs:=[]) (by simp) (RowAt.nil (B:=0)) n (by omega) (by omega) (by simp only [maxLen]; omega) (by omega)
 obtain ⟨_,cap2,cur2,hr,rfl,hge2,hcm2,hcs2,ht2⟩:=HA
 rw [Nat.zero_add] at hr hge2
 obtain ⟨w1,hw1⟩:=eqv (w.drew.alloc (.cells cur2 63))
 rw [← hw1] at hr
 have HF:Hid (Own w1 w.heap.size 63 2 (.slice (some ⟨w.heap.size,0,none⟩) 0 cap2) 0 [] ∧ Below w.heap.size w w1):=by
  refine ⟨⟨by simp,.inr ⟨w.heap.size,cap2,cur2,rfl,Nat.le_refl _,by rw [hw1]; exact heap_alloc_new w.drew _,Nat.zero_le _,by omega,hcm2,hcs2,by simp⟩⟩,?_⟩
  rw [hw1]
  exact (Below.refl _ _).drew.alloc (by simp) _
 clear hw1 ht2 hcs2 hge2
 go_enter Tryz.func138,Tryz.ntmps138
 go_wp2_with (at_builtin; refine wpList_append_run hr rfl (.tmp 20) (.tmp 21) rfl rfl rfl rfl ?_)
 go_ret
 exact ⟨_,_,rfl,HF.out⟩
end Go.Proofs.YtjgnoldondblaaaGreat.Sym
namespace Go.Proofs.YtjgnoldondblaaaGreat
open Go.RowKit Sym
def isK (key:Int) (x:Itm):Bool:=decide (x.key=key)
def findS (l:List Itm) (key:Int):ByteArray:=match l.find? (isK key) with
 | some x => x.val
 | none => ⟨#[]⟩
def findB (l:List Itm) (key:Int):Bool:=(l.find? (isK key)).isSome
theorem firsts_split (f:Nat → Itm) (n i:Nat) (h:i < n):firsts f n=firsts f i ++ f i :: (List.range (n - i - 1)).map fun j => f (i + 1 + j):=by
 apply List.ext_getElem
 ·simp [firsts]; omega
 intro t h1 h2
 have ht:t < n:=by simpa [firsts] using h1
 simp only [firsts,List.getElem_map,List.getElem_range]
 by_cases hi:t < i
 ·rw [List.getElem_append_left (by simpa using hi)]
  simp
 rw [List.getElem_append_right (by simp; omega)]
 obtain ⟨q,rfl⟩:∃ q,t=i + q:=⟨t - i,by omega⟩
 cases q with
 | zero => simp
 | succ q =>
  simp only [List.length_map,List.length_range,show i + (q + 1) - i=q + 1 by omega,List.getElem_cons_succ,List.getElem_map,List.getElem_range]
  congr 1
  omega
theorem firsts_mem {f:Nat → Itm} {n:Nat} {x:Itm} (h:x ∈ firsts f n):∃ t,t < n ∧ x=f t:=by
 unfold firsts at h
 obtain ⟨t,ht,rfl⟩:=List.mem_map.1 h
 exact ⟨t,List.mem_range.1 ht,rfl⟩
theorem find_hit {f:Nat → Itm} {n i:Nat} {key:Int} (hi:i < n) (hm:∀ t,t < i → (f t).key ≠ key) (h:(f i).key=key):(firsts f n).find? (isK key)=some (f i):=by
 rw [List.find?_eq_some_iff_append]
 refine ⟨by simp [isK,h],firsts f i,_,firsts_split f n i hi,fun a ha => ?_⟩
 obtain ⟨t,ht,rfl⟩:=firsts_mem ha
 simp [isK,hm t ht]
theorem find_miss {f:Nat → Itm} {n:Nat} {key:Int} (hm:∀ t,t < n → (f t).key ≠ key):(firsts f n).find? (isK key)=none:=by
 rw [List.find?_eq_none]
 intro a ha
 obtain ⟨t,ht,rfl⟩:=firsts_mem ha
 simp [isK,hm t ht]
def idxF (p:Nat → Bool) (n:Nat):Int:=match (List.range n).find? p with
 | some i => (i:Int)
 | none => -1
theorem idx_hit {p:Nat → Bool} {n i:Nat} (hi:i < n) (hm:∀ t,t < i → p t=false) (h:p i=true):idxF p n=(i:Int):=by
 have:(List.range n).find? p=some i:=by
  rw [List.find?_eq_some_iff_append]
  refine ⟨h,List.range i,(List.range (n - i - 1)).map fun j => i + 1 + j,?_,fun a ha => by rw [hm a (List.mem_range.1 ha)]; rfl⟩
  apply List.ext_getElem
  ·simp; omega
  intro t h1 h2
  have ht:t < n:=by simpa using h1
  simp only [List.getElem_range]
  by_cases hti:t < i
  ·rw [List.getElem_append_left (by simpa using hti)]; simp
  rw [List.getElem_append_right (by simp; omega)]
  obtain ⟨q,rfl⟩:∃ q,t=i + q:=⟨t - i,by omega⟩
  cases q with
  | zero => simp
  | succ q => simp [show i + (q + 1) - i=q + 1 by omega]; omega
 simp [idxF,this]
theorem idx_miss {p:Nat → Bool} {n:Nat} (hm:∀ t,t < n → p t=false):idxF p n = -1:=by
 have:(List.range n).find? p=none:=by
  rw [List.find?_eq_none]
  intro a ha
  rw [hm a (List.mem_range.1 ha)]
  decide
 simp [idxF,this]
theorem idx_cases (p:Nat → Bool) (n:Nat):(∃ i,i < n ∧ idxF p n=(i:Int) ∧ p i=true ∧ ∀ t,t < i → p t=false) ∨ (idxF p n = -1 ∧ ∀ t,t < n → p t=false):=by
 induction n with
 | zero => exact .inr ⟨rfl,fun t ht => absurd ht (Nat.not_lt_zero _)⟩
 | succ n ih =>
  rcases ih with ⟨i,h1,h2,h3,h4⟩ | ⟨h1,h2⟩
  ·exact .inl ⟨i,by omega,idx_hit (by omega) h4 h3,h3,h4⟩
  cases hp:p n with
  | true => exact .inl ⟨n,by omega,idx_hit (by omega) h2 hp,hp,h2⟩
  | false =>
   have:∀ t,t < n + 1 → p t=false:=fun t ht => by
    by_cases h:t=n
    ·rw [h]; exact hp
    exact h2 t (by omega)
   exact .inr ⟨idx_miss this,this⟩
def dropL (l:List Itm) (key:Int):List Itm:=l.filter fun x => !isK key x
def lowL (l:List Itm) (key:Int):List Itm:=l.takeWhile fun x => decide (x.key < key)
def putI (l:List Itm) (key:Int) (val:ByteArray):List Itm:=lowL (dropL l key) key ++ ⟨key,val⟩ :: (dropL l key).drop (lowL (dropL l key) key).length
def putM (l:List Itm) (key:Int) (val:ByteArray):List Itm:=if 64 < val.size then l else putI l key val
def ofL (l:List Itm):List Itm:=l.foldl (fun m x => putM m x.key x.val) []
def Srt (l:List Itm):Prop:=l.Pairwise fun x y => x.key < y.key
theorem okF_srt {f:Nat → Itm} {n:Nat} (h:okF f n=true):∀ i j,i < j → j < n → (f i).key < (f j).key:=by
 intro i j hij
 induction j with
 | zero => omega
 | succ j ih =>
  intro hj
  have hk:=okF_at (f:=f) (i:=j + 1) hj h
  unfold okAt at hk
  simp only [Bool.and_eq_true,decide_eq_true_eq,Bool.or_eq_true,beq_iff_eq] at hk
  have h2:(f j).key < (f (j + 1)).key:=by
   rcases hk.2 with h0 | h0
   ·omega
   simpa using h0
  by_cases he:i=j
  ·rw [he]; exact h2
  have:=ih (by omega) (by omega)
  omega
theorem okF_Srt {f:Nat → Itm} {n:Nat} (h:okF f n=true):Srt (firsts f n):=by
 unfold Srt firsts
 rw [List.pairwise_map]
 refine List.Pairwise.imp_of_mem ?_ (List.pairwise_lt_range (n:=n))
 intro a b ha hb hab
 exact okF_srt h a b hab (List.mem_range.1 hb)
theorem lowL_app {a b:List Itm} {key:Int} (ha:∀ x ∈ a,x.key < key) (hb:∀ x ∈ b,key < x.key):lowL (a ++ b) key=a:=by
 unfold lowL
 rw [List.takeWhile_append_of_pos (by intro x hx; simpa using ha x hx)]
 cases b with
 | nil => simp
 | cons y b =>
  have:=hb y (by simp)
  rw [List.takeWhile_cons_of_neg (by simp; omega)]
  simp
theorem putL_split {a b:List Itm} {m:List Itm} {key:Int} {val:ByteArray} (ha:∀ x ∈ a,x.key < key) (hb:∀ x ∈ b,key < x.key) (hm:∀ x ∈ m,x.key=key):putI (a ++ m ++ b) key val=a ++ ⟨key,val⟩ :: b:=by
 have hd:dropL (a ++ m ++ b) key=a ++ b:=by
  unfold dropL
  rw [List.filter_append,List.filter_append]
  rw [List.filter_eq_self.2 (fun x hx => by have:=ha x hx; simp [isK]; omega),List.filter_eq_nil_iff.2 (fun x hx => by simp [isK,hm x hx]),List.filter_eq_self.2 (fun x hx => by have:=hb x hx; simp [isK]; omega)]
  simp
 unfold putI
 rw [hd,lowL_app ha hb,List.drop_left]
theorem ofL_firsts_succ (f:Nat → Itm) (i:Nat):ofL (firsts f (i + 1))=putM (ofL (firsts f i)) (f i).key (f i).val:=by
 unfold ofL firsts
 rw [List.range_succ,List.map_append,List.foldl_append]
 rfl
theorem ofL_srt {f:Nat → Itm} {n:Nat} (h:okF f n=true):∀ i,i ≤ n → ofL (firsts f i)=firsts f i
 | 0,_ => rfl
 | i + 1,hi => by
  rw [ofL_firsts_succ,ofL_srt h i (by omega)]
  have hv:(f i).val.size ≤ 64:=by
   have hk:=okF_at (f:=f) (i:=i) (by omega) h
   unfold okAt at hk
   simp only [Bool.and_eq_true,decide_eq_true_eq] at hk
   exact hk.1
  unfold putM
  rw [if_neg (by omega)]
  have:=putL_split (a:=firsts f i) (b:=[]) (m:=[]) (key:=(f i).key) (val:=(f i).val) (fun x hx => by
   obtain ⟨t,ht,rfl⟩:=firsts_mem hx
   exact okF_srt h t i ht (by omega)) (by simp) (by simp)
  rw [List.append_nil,List.append_nil] at this
  rw [this]
  simp [firsts,List.range_succ]
section
variable {l:List Itm} {key:Int} {p:Nat}
structure Cut (l:List Itm) (key:Int) (p:Nat):Prop where
 le:p ≤ l.length
 lo:∀ x ∈ l.take p,x.key < key
 hi:∀ x ∈ l.drop p,key ≤ x.key
theorem Cut.hit (h:Cut l key p) (hs:Srt l) {x:Itm} (hp:l[p]? = some x) (hx:x.key=key):(∀ y ∈ l.drop (p + 1),key < y.key) ∧ l=l.take p ++ [x] ++ l.drop (p + 1):=by
 have hlt:=(List.getElem?_eq_some_iff.1 hp).1
 have hd:l.drop p=x :: l.drop (p + 1):=by rw [List.drop_eq_getElem_cons hlt,(List.getElem?_eq_some_iff.1 hp).2]
 have hsp:l=l.take p ++ [x] ++ l.drop (p + 1):=by
  conv => lhs; rw [← List.take_append_drop p l,hd]
  simp
 refine ⟨fun y hy => ?_,hsp⟩
 unfold Srt at hs
 rw [hsp,List.append_assoc] at hs
 have h2:=(List.pairwise_append.1 hs).2.1
 rw [List.singleton_append] at h2
 have:=(List.pairwise_cons.1 h2).1 y hy
 omega
end
end Go.Proofs.YtjgnoldondblaaaGreat
namespace Go.Proofs.YtjgnoldondblaaaGreat.Sym
open Go Go.RowKit
theorem bsF_cut' {f:Nat → Itm} {n:Nat} {key:Int} (hs:∀ i j,i < j → j < n → (f i).key < (f j).key):∀ k lo hi,hi - lo ≤ k → lo ≤ hi → hi ≤ n → (∀ t,t < lo → (f t).key < key) → (∀ t,hi ≤ t → t < n → key ≤ (f t).key) →
  lo ≤ bsF f key lo hi ∧ bsF f key lo hi ≤ hi ∧ (∀ t,t < bsF f key lo hi → (f t).key < key) ∧ ∀ t,bsF f key lo hi ≤ t → t < n → key ≤ (f t).key
 | 0,lo,hi,hk,h1,h2,h3,h4 => by
  rw [bsF_end (by omega)]
  exact ⟨Nat.le_refl _,h1,h3,fun t ht => h4 t (by omega)⟩
 | k + 1,lo,hi,hk,h1,h2,h3,h4 => by
  by_cases hlt:lo < hi
  ·obtain ⟨m,hm⟩:∃ m,m=(lo + hi) / 2:=⟨_,rfl⟩
   by_cases hkm:(f m).key < key
   ·rw [bsF_up hlt hm hkm]
    obtain ⟨a,b,c,d⟩:=bsF_cut' hs k (m + 1) hi (by omega) (by omega) h2 (fun t ht => by
     by_cases h:t=m
     ·rw [h]; exact hkm
     have:=hs t m (by omega) (by omega); omega) h4
    exact ⟨by omega,b,c,d⟩
   rw [bsF_dn hlt hm hkm]
   obtain ⟨a,b,c,d⟩:=bsF_cut' hs k lo m (by omega) (by omega) (by omega) h3 (fun t ht htn => by
    by_cases h:t=m
    ·rw [h]; omega
    have:=hs m t (by omega) htn; omega)
   exact ⟨a,by omega,c,d⟩
  rw [bsF_end hlt]
  exact ⟨Nat.le_refl _,h1,h3,fun t ht => h4 t (by omega)⟩
theorem firsts_add (f:Nat → Itm) (p m:Nat):firsts f (p + m)=firsts f p ++ firsts (fun j => f (p + j)) m:=by
 unfold firsts
 rw [List.range_add,List.map_append,List.map_map]
 rfl
theorem half_lists {f:Nat → Itm} {n:Nat} {l:Lab} (hok:okF f n=true) (hki:∀ i,i < n → U64 (f i).key) (hl:isL l=true) (hb:U64 l.bits) (h64:l.len ≠ 64) (hc:∀ i,i < n → coverB l (f i).key=true) {p:Nat} (hp:p=bsF f (childL l 1).bits 0 n) :
  p ≤ n ∧ covL (childL l 0) (firsts f n)=firsts f p ∧ covL (childL l 1) (firsts f n)=firsts (fun j => f (p + j)) (n - p):=by
 obtain ⟨_,h1,h2,h3⟩:=bsF_cut' (f:=f) (n:=n) (key:=(childL l 1).bits) (okF_srt hok) n 0 n (by omega) (Nat.zero_le _) (Nat.le_refl _) (fun t ht => absurd ht (Nat.not_lt_zero _)) (fun t h1 h2 => absurd h2 (by omega))
 rw [← hp] at h1 h2 h3
 have hsp:=firsts_add f p (n - p)
 rw [show p + (n - p)=n by omega] at hsp
 have cc:=fun i hi => child_cov hl hb h64 (hki i hi) (hc i hi)
 refine ⟨h1,?_,?_⟩
 ·rw [hsp]
  unfold covL
  rw [List.filter_append,List.filter_eq_self.2 (fun x hx => by
   obtain ⟨t,ht,rfl⟩:=firsts_mem hx
   rw [(cc t (by omega)).1]
   exact decide_eq_true (h2 t ht)),List.filter_eq_nil_iff.2 (fun x hx => by
   obtain ⟨t,ht,rfl⟩:=firsts_mem hx
   rw [(cc (p + t) (by omega)).1]
   have:=h3 (p + t) (by omega) (by omega)
   simp; omega),List.append_nil]
 rw [hsp]
 unfold covL
 rw [List.filter_append,List.filter_eq_nil_iff.2 (fun x hx => by
  obtain ⟨t,ht,rfl⟩:=firsts_mem hx
  rw [(cc t (by omega)).2]
  have:=h2 t ht
  simp; omega),List.filter_eq_self.2 (fun x hx => by
  obtain ⟨t,ht,rfl⟩:=firsts_mem hx
  rw [(cc (p + t) (by omega)).2]
  exact decide_eq_true (h3 (p + t) (by omega) (by omega))),List.nil_append]
theorem cov_firsts {l:Lab} {f:Nat → Itm} {n:Nat}:(covL l (firsts f n)).length=n ↔ ∀ i,i < n → coverB l (f i).key=true:=by
 have:=cov_all (l:=l) (its:=firsts f n)
 rw [firsts_len] at this
 rw [this]
 constructor
 ·intro h i hi
  exact h (f i) (List.mem_map.2 ⟨i,List.mem_range.2 hi,rfl⟩)
 intro h x hx
 obtain ⟨t,ht,rfl⟩:=firsts_mem hx
 exact h t ht
theorem ch_ok {l:Lab} {b:Int} (hl:isL l=true) (h64:l.len ≠ 64):chE l b=0 ∧ chV l b=childL l b:=by
 have h:chE l b=0:=by
  unfold chE
  rw [hl,if_neg (by decide),if_neg h64]
 exact ⟨h,by unfold chV; rw [if_pos h]⟩
theorem enters25:Enters Tryz.prog 25:=fun _ _ => by kernel_rfl
theorem enters131:Enters Tryz.prog 131:=fun _ _ => by kernel_rfl
theorem hv1_m0 (b:Nat) (l:Lab) (hb0:U64 l.bits) (k:Int) (v:ByteArray) (hk:U64 k):SpecX Tryz.prog 131 [.agg [.int .u64 k,.str v],.ptr 0 b 0] [(0,⟨b,37,[.int .i64 l.len,.int .u64 l.bits]⟩)] (fun _ => ⟨.bool (.v (!coverB l k)),[(0,[.int .i64 l.len,.int .u64 l.bits])],[]⟩):=by
 intro m w hm hargs hpre
 have S:=cov_s l hb0 k hk
 simp only [labAV] at S
 generalize coverB l k=cq at S ⊢
 refine enX 9 hm hpre hargs Tryz.func131 fun B hB a0 hF => ?_
 refine wp_seq (rg hB TA_ok [1,2] [0,2] [] hF fun X0 a0 w1 hF => ?_)
 refine wp_seq (rg hB TA_ok [3] [0] [(3,.r fun _ => .bool (.v cq))] hF (hob:=?hob) fun X1 a0 w1 hF => ?_)
 case hob =>
  intro X
  subst hB
  repeat (first | exact trivial | refine ⟨rfl,?_⟩ | refine ⟨fun _ => rfl,?_⟩ | refine ⟨ob_lab (Kk:=noK) _ _ _ _,?_⟩ | refine ⟨fun _ => ob_lab (Kk:=noK) _ _ _ _,?_⟩ | refine ⟨⟨enters10,S⟩,?_⟩ | refine ⟨fun _ => ⟨enters10,S⟩,?_⟩)
 refine wp_ret ((rx hB TA_ok hF nAt [] (he:=?_)).1)
 subst hB; exact Sim.bool rfl
theorem enters51:Enters Tryz.prog 51:=fun _ _ => by kernel_rfl
theorem idxh_m0 (b:Nat) (A:Option Addr) (n c:Nat) (f:Nat → Itm) (hn:n ≤ 1000000) (l:Lab) (hb0:U64 l.bits) (hki:∀ i,i < n → U64 (f i).key):SpecX Tryz.prog 51 [rowI A n c f,.fn 131 [] [.ptr 0 b 0]] [(0,⟨b,37,[.int .i64 l.len,.int .u64 l.bits]⟩)] (fun _ => ⟨.int .i64 (idxF (fun t => !coverB l (f t).key) n),[(0,[.int .i64 l.len,.int .u64 l.bits])],[]⟩):=by
 intro m w hm hargs hpre
 have hmx:maxLen=9223372036854775807:=rfl
 unfold rowI at hargs
 refine enX 19 hm hpre hargs Tryz.func51 fun B hB a0 hF => ?_
 refine wp_seq (rg hB TA_ok [0,1] [0] [] hF fun X0 a0 w1 hF => ?_)
 refine wp_seq (wp_seq (rg hB TA_ok [8,0,1,7] [0] [] hF fun X1 a0 w1 hF => ?_))
 refine wp_block (loop_pre (ι:=Nat) (fun p => [(8,.int .i64 (p:Int))]) (fun p => []) (fun p => []) (fun p => p ≤ n ∧ ∀ t,t < p → (!coverB l (f t).key)=false) (fun p => n - p) 0 ⟨Nat.zero_le _,fun t ht => absurd ht (Nat.not_lt_zero _)⟩ hF ?_)
 rintro i ⟨hi,hlt⟩ a0 w1 hF
 try dsimp only at hi
 try dsimp only at hlt
 refine wp_seq (rg hB TA_ok [9,8,0,1,7] [0] [] hF fun X2 a0 w1 hF => ?_)
 refine wp_seq (test_ok hF rfl (fun hb hF => ?_) (fun hb hF => ?_))
 ·have hin:i < n:=by
   have:(i:Int) < (n:Int):=by subst hB; simpa [std,sC] using hb
   omega
  have S:=hv1_m0 b l hb0 (f i).key (f i).val (hki i hin)
  obtain ⟨q,hq⟩:=eqv (!coverB l (f i).key)
  rw [← hq] at S
  refine wp_skip (wp_seq (wp_block (wp_seq (rg hB TA_ok [5,8,0,1,7] [0] [] hF fun X3 a0 w1 hF => ?_))))
  refine wp_seq (rg hB TA_ok [16,5,8,0,1,7] [0] [(5,.x fun _ => ⟨.bool (.v q),[(0,[.int .i64 l.len,.int .u64 l.bits])],[]⟩)] hF (hob:=?hob) fun X4 a0 w1 hF => ?_)
  case hob =>
   intro X
   subst hB
   repeat (first | exact trivial | refine ⟨rfl,?_⟩ | refine ⟨⟨show (0:Int) ≤ (i:Int) by omega,show (i:Int) < (n:Int) by omega⟩,?_⟩ | refine ⟨⟨enters131,S⟩,?_⟩)
  apply test_ok hF rfl<;>intro hb hF
  ·have hqt:q=true:=hb
   refine wp_seq (rg hB TA_ok [4] [0] [] hF fun X5 a0 w1 hF => ?_)
   refine wp_ret ((rx hB TA_ok hF nAt [] (he:=?_)).1)
   subst hB
   rw [idx_hit (p:=fun t => !coverB l (f t).key) hin hlt (by show (!coverB l (f i).key)=true; rw [← hq]; exact hqt)]
   exact zr
  have hqf:q=false:=hb
  refine wp_skip (rg hB TA_ok [8,0,1,7] [0] [] hF fun X6 a0 w1 hF => ?_)
  have e:B.arith .add .i64 (i:Int) 1=((i + 1:Nat):Int):=by subst hB; exact wrap_succ (n:=n) hin (by omega)
  refine ⟨i + 1,⟨by omega,fun t ht => ?_⟩,by omega,by rw [← e]; exact hF⟩
  by_cases h:t=i
  ·rw [h,← hq]; exact hqf
  exact hlt t (by omega)
 have hout:i=n:=by
  have:¬ (i:Int) < (n:Int):=by subst hB; simpa [std,sC] using hb
  omega
 rw [hout] at hlt
 refine wp_exit (wp_seq (rg hB TA_ok [4] [0] [] hF fun X7 a0 w1 hF => ?_))
 refine wp_ret ((rx hB TA_ok hF nAt [] (he:=?_)).1)
 subst hB
 rw [idx_miss (p:=fun t => !coverB l (f t).key) hlt]
 exact zr
theorem enters27:Enters Tryz.prog 27:=fun _ _ => by kernel_rfl
theorem hash_m0 (b:Nat) (A:Option Addr) (n c:Nat) (f:Nat → Itm) (hn:n ≤ 1000000) (l:Lab) (hb0:U64 l.bits) (hki:∀ i,i < n → U64 (f i).key):SpecX Tryz.prog 27 [rowI A n c f,.fn 131 [] [.ptr 0 b 0]] [(0,⟨b,37,[.int .i64 l.len,.int .u64 l.bits]⟩)] (fun _ => ⟨.bool (.v (!decide ((covL l (firsts f n)).length=n))),[(0,[.int .i64 l.len,.int .u64 l.bits])],[]⟩):=by
 intro m w hm hargs hpre
 have S:=idxh_m0 b A n c f hn l hb0 hki
 have HC:=idx_cases (fun t => !coverB l (f t).key) n
 generalize (idxF (fun t => !coverB l (f t).key) n)=ix at S HC
 unfold rowI at S hargs
 refine enX 9 hm hpre hargs Tryz.func27 fun B hB a0 hF => ?_
 refine wp_seq (rg hB TA_ok [0,1] [0] [] hF fun X0 a0 w1 hF => ?_)
 refine wp_seq (rg hB TA_ok [4] [0] [(2,.x fun _ => ⟨.int .i64 ix,[(0,[.int .i64 l.len,.int .u64 l.bits])],[]⟩)] hF (hob:=?hob) fun X1 a0 w1 hF => ?_)
 case hob =>
  intro X
  subst hB
  repeat (first | exact trivial | refine ⟨rfl,?_⟩ | refine ⟨⟨show (0:Int) ≤ (i:Int) by omega,show (i:Int) < (n:Int) by omega⟩,?_⟩ | refine ⟨⟨enters51,S⟩,?_⟩)
 refine wp_ret ((rx hB TA_ok hF nAt [] (he:=?_)).1)
 subst hB
 refine Sim.bool ?_
 show decide (ix ≥ 0) = !decide ((covL l (firsts f n)).length=n)
 rw [decide_eq_decide.2 (cov_firsts (l:=l) (f:=f) (n:=n))]
 rcases HC with ⟨i,h1,h2,h3,h4⟩ | ⟨h1,h2⟩
 ·have h5:¬ ∀ i,i < n → coverB l (f i).key=true:=fun h => by have:=h i h1; simp [this] at h3
  rw [decide_eq_false h5,h2]; simp
 have h5:∀ i,i < n → coverB l (f i).key=true:=fun i hi => by simpa using h2 i hi
 rw [decide_eq_true h5,h1]; rfl
theorem hash_m (k0:Nat) (b:Nat) (A:Option Addr) (n c:Nat) (f:Nat → Itm) (hn:n ≤ 1000000) (l:Lab) (hb0:U64 l.bits) (hki:∀ i,i < n → U64 (f i).key):SpecX Tryz.prog 27 [rowI A n c f,.fn 131 [] [.ptr k0 b 0]] [(k0,⟨b,37,[.int .i64 l.len,.int .u64 l.bits]⟩)] (fun _ => ⟨.bool (.v (!decide ((covL l (firsts f n)).length=n))),[(k0,[.int .i64 l.len,.int .u64 l.bits])],[]⟩):=
 (hash_m0 b A n c f hn l hb0 hki).re (by repeat (first | exact trivial | refine ⟨Sim.ptr,?_⟩ | refine ⟨Sim.fn ⟨Sim.ptr,trivial⟩ trivial,?_⟩ | refine ⟨Sim.fn trivial ⟨Sim.ptr,trivial⟩,?_⟩ | refine ⟨zr,?_⟩)) rfl (fun x => ⟨rfl,rfl,zr,rfl⟩)
theorem halves_no (A:Option Addr) (n c:Nat) (f:Nat → Itm) (hn:n ≤ 1000000) (kd:Int) (nx:Lab) (mk:Int) (hv:U64 nx.bits) (hki:∀ i,i < n → U64 (f i).key) (l:Lab) (hb0:U64 l.bits) (hil:(isRF kd n f nx mk && isL l)=false):Spec Tryz.prog 121 [recI A n c f kd nx mk,labAV l] (fun x => .tup [recAV (x.A 0) (x.c 0) (halvR kd n f nx mk l).1,recAV (x.A 1) (x.c 1) (halvR kd n f nx mk l).2.1,.int .i64 (halvR kd n f nx mk l).2.2]):=by
 intro m w hm hargs
 have hmx:maxLen=9223372036854775807:=rfl
 have SI:=isR_s A n c f (by omega) kd nx mk hv
 have SL:=isL_s l hb0
 unfold recI rowI at SI hargs
 simp only [labAV] at SL hargs
 obtain ⟨ir,hir⟩:=eqv (isRF kd n f nx mk)
 obtain ⟨il,hll⟩:=eqv (isL l)
 rw [← hir] at SI hil
 rw [← hll] at SL hil
 have hW:(halvR kd n f nx mk l)=(zeroRec,zeroRec,1):=by unfold halvR; rw [← hir,← hll,hil]; rfl
 refine en 79 hm hargs Tryz.func121 fun B hB a0 hF => ?_
 refine wp_seq (rg hB TA_ok [2,3,4,5] [2,3,4,5] [] hF fun X0 a0 w1 hF => ?_)
 refine wp_seq (rg hB TA_ok [7,2,3,4,5] [2,3,4,5] [] hF fun X1 a0 w1 hF => ?_)
 refine wp_seq (wp_block (wp_seq (wp_region_lit (lpr 0 9 hB TA_ok [24,7,2,3,4,5] [2,3,4,5] [(1,.r fun _ => .bool (.v ir)),(5,.r fun _ => .bool (.v il))] hF (hob:=?hob) fun X2_0 a0 w1 hF => ?_))))
 case hob =>
  intro X
  subst hB
  repeat (first | exact trivial | refine ⟨rfl,?_⟩ | refine ⟨fun _ => rfl,?_⟩ | refine ⟨ob_lab (Kk:=noK) _ _ _ _,?_⟩ | refine ⟨fun _ => ob_lab (Kk:=noK) _ _ _ _,?_⟩ | refine ⟨⟨enters36,SI⟩,?_⟩ | refine ⟨fun _ => ⟨enters36,SI⟩,?_⟩ | refine ⟨⟨enters35,SL⟩,?_⟩ | refine ⟨fun _ => ⟨enters35,SL⟩,?_⟩)
 replace hF:=hF.headS (v':=.bool .tt) (Sim.bool (by subst hB; show (if (!ir)=true then true else !il)=true; cases ir<;>cases il<;>first | rfl | (cases hil))) rfl
 refine lnd 9 hB TA_ok [15,2,3,4,5] [2,3,4,5] [(1,.r fun _ => .bool (.v ir)),(5,.r fun _ => .bool (.v il))] hF (hob:=?hob) fun X2 a0 w1 hF => ?_
 case hob =>
  intro X
  subst hB
  repeat (first | exact trivial | refine ⟨rfl,?_⟩ | refine ⟨fun _ => rfl,?_⟩ | refine ⟨ob_lab (Kk:=noK) _ _ _ _,?_⟩ | refine ⟨fun _ => ob_lab (Kk:=noK) _ _ _ _,?_⟩)
 refine test_tt hF rfl (fun hF => ?_)
 refine wp_seq (rg hB TA_ok [4,5,6] [2,3,4,5] [] hF (hob:=?hob) fun X3 a0 w1 hF => ?_)
 case hob =>
  intro X
  subst hB
  repeat (first | exact trivial | refine ⟨rfl,?_⟩ | refine ⟨fun _ => rfl,?_⟩ | refine ⟨ob_lab (Kk:=noK) _ _ _ _,?_⟩ | refine ⟨fun _ => ob_lab (Kk:=noK) _ _ _ _,?_⟩)
 refine wp_ret ((rsi hB TA_ok hF (⟨0,fun _ => none,fun _ => 0,fun _ => ⟨#[]⟩⟩) (he:=?_)))
 subst hB
 rw [hW]
 exact Sim.tup ⟨Sim.agg ⟨zr,zq0,zr,zr,zr,trivial⟩,Sim.agg ⟨zr,zq0,zr,zr,zr,trivial⟩,zr,trivial⟩
theorem halves_yes (A:Option Addr) (n c:Nat) (f:Nat → Itm) (hn:n ≤ 1000000) (kd:Int) (nx:Lab) (mk:Int) (hv:U64 nx.bits) (hki:∀ i,i < n → U64 (f i).key) (l:Lab) (hb0:U64 l.bits) (hil:(isRF kd n f nx mk && isL l)=true):Spec Tryz.prog 121 [recI A n c f kd nx mk,labAV l] (fun x => .tup [recAV (x.A 0) (x.c 0) (halvR kd n f nx mk l).1,recAV (x.A 1) (x.c 1) (halvR kd n f nx mk l).2.1,.int .i64 (halvR kd n f nx mk l).2.2]):=by
 intro m w hm hargs
 have hmx:maxLen=9223372036854775807:=rfl
 have SI:=isR_s A n c f (by omega) kd nx mk hv
 have SL:=isL_s l hb0
 unfold recI rowI at SI hargs
 simp only [labAV] at SL hargs
 obtain ⟨ir,hir⟩:=eqv (isRF kd n f nx mk)
 obtain ⟨il,hll⟩:=eqv (isL l)
 rw [← hir] at SI hil
 rw [← hll] at SL hil
 rw [Bool.and_eq_true] at hil
 have hLt:isL l=true:=by rw [← hll]; exact hil.2
 obtain ⟨hl0,hl1,hl2⟩:=lab_parts hLt
 obtain ⟨hkd1,hkd5,hn16,hnl,hok⟩:=isRF_kind (hir.symm.trans hil.1)
 refine en 79 hm hargs Tryz.func121 fun B hB a0 hF => ?_
 refine wp_seq (rg hB TA_ok [2,3,4,5] [2,3,4,5] [] hF fun X0 a0 w1 hF => ?_)
 refine wp_seq (rg hB TA_ok [7,2,3,4,5] [2,3,4,5] [] hF fun X1 a0 w1 hF => ?_)
 have SC:=hash_m 3 (X0 1).b A n c f hn l hb0 hki
 obtain ⟨ca,hca⟩:=eqv (decide ((covL l (firsts f n)).length=n))
 rw [← hca] at SC
 unfold rowI at SC
 refine wp_seq (wp_block (wp_seq (wp_region_lit (lpr 0 9 hB TA_ok [24,7,2,3,4,5] [2,3,4,5] [(1,.r fun _ => .bool (.v ir)),(5,.r fun _ => .bool (.v il)),(12,.x fun _ => ⟨.bool (.v (!ca)),[(3,[.int .i64 l.len,.int .u64 l.bits])],[]⟩)] hF (hob:=?hob) fun X2_0 a0 w1 hF => ?_))))
 case hob =>
  intro X
  subst hB
  repeat (first | exact trivial | refine ⟨rfl,?_⟩ | refine ⟨fun _ => rfl,?_⟩ | refine ⟨ob_lab (Kk:=noK) _ _ _ _,?_⟩ | refine ⟨fun _ => ob_lab (Kk:=noK) _ _ _ _,?_⟩ | refine ⟨⟨enters36,SI⟩,?_⟩ | refine ⟨fun _ => ⟨enters36,SI⟩,?_⟩ | refine ⟨⟨enters35,SL⟩,?_⟩ | refine ⟨fun _ => ⟨enters35,SL⟩,?_⟩)
 replace hF:=hF.headS (v':=.bool .ff) (Sim.bool (by subst hB; show (if (!ir)=true then true else !il)=false; rw [hil.1,hil.2]; rfl)) rfl
 refine lnd 9 hB TA_ok [15,2,3,4,5] [2,3,4,5] [(1,.r fun _ => .bool (.v ir)),(5,.r fun _ => .bool (.v il)),(12,.x fun _ => ⟨.bool (.v (!ca)),[(3,[.int .i64 l.len,.int .u64 l.bits])],[]⟩)] hF (hob:=?hob) fun X2 a0 w1 hF => ?_
 case hob =>
  intro X
  subst hB
  repeat (first | exact trivial | refine ⟨rfl,?_⟩ | refine ⟨fun _ => rfl,?_⟩ | refine ⟨ob_lab (Kk:=noK) _ _ _ _,?_⟩ | refine ⟨fun _ => ob_lab (Kk:=noK) _ _ _ _,?_⟩ | refine ⟨⟨enters27,SC⟩,?_⟩ | refine ⟨fun _ => ⟨enters27,SC⟩,?_⟩)
 apply test_ok hF rfl<;>intro hb hF
 ·have hcf:ca=false:=by
   have h9:(!ca)=true:=by subst hB; exact hb
   cases ca<;>first | rfl | (cases h9)
  have hW:(halvR kd n f nx mk l)=(zeroRec,zeroRec,1):=by unfold halvR; rw [← hir,← hll,← hca,hil.1,hil.2,hcf]; rfl
  refine wp_seq (rg hB TA_ok [4,5,6] [2,3,4,5] [] hF (hob:=?hob) fun X3 a0 w1 hF => ?_)
  case hob =>
   intro X
   subst hB
   repeat (first | exact trivial | refine ⟨rfl,?_⟩ | refine ⟨fun _ => rfl,?_⟩ | refine ⟨ob_lab (Kk:=noK) _ _ _ _,?_⟩ | refine ⟨fun _ => ob_lab (Kk:=noK) _ _ _ _,?_⟩)
  refine wp_ret ((rsi hB TA_ok hF (⟨0,fun _ => none,fun _ => 0,fun _ => ⟨#[]⟩⟩) (he:=?_)))
  subst hB
  rw [hW]
  exact Sim.tup ⟨Sim.agg ⟨zr,zq0,zr,zr,zr,trivial⟩,Sim.agg ⟨zr,zq0,zr,zr,zr,trivial⟩,zr,trivial⟩
 have hct:ca=true:=by
  have h9:(!ca)=false:=by subst hB; exact hb
  cases ca<;>first | rfl | (cases h9)
 have hcn:=of_decide_eq_true (hca.symm.trans hct)
 have hcc:=cov_firsts.1 hcn
 refine wp_seq (rg hB TA_ok [32,2,3,4,5] [2,3,4,5] [] hF fun X4 a0 w1 hF => ?_)
 apply test_ok hF rfl<;>intro hb hF
 ·have h9:(if (!decide (kd=1))=true then !decide (kd=3) else false)=true:=by subst hB; exact hb
  have hk:kd ≠ 1 ∧ kd ≠ 3:=by
   rw [ite_and] at h9
   simpa using h9
  have hW:(halvR kd n f nx mk l)=(zeroRec,zeroRec,13):=by unfold halvR; rw [← hir,← hll,← hca,hil.1,hil.2,hct,if_neg (by decide),if_pos hk]
  refine wp_seq (rg hB TA_ok [4,5,6] [2,3,4,5] [] hF (hob:=?hob) fun X5 a0 w1 hF => ?_)
  case hob =>
   intro X
   subst hB
   repeat (first | exact trivial | refine ⟨rfl,?_⟩ | refine ⟨fun _ => rfl,?_⟩ | refine ⟨ob_lab (Kk:=noK) _ _ _ _,?_⟩ | refine ⟨fun _ => ob_lab (Kk:=noK) _ _ _ _,?_⟩)
  refine wp_ret ((rsi hB TA_ok hF (⟨0,fun _ => none,fun _ => 0,fun _ => ⟨#[]⟩⟩) (he:=?_)))
  subst hB
  rw [hW]
  exact Sim.tup ⟨Sim.agg ⟨zr,zq0,zr,zr,zr,trivial⟩,Sim.agg ⟨zr,zq0,zr,zr,zr,trivial⟩,zr,trivial⟩
 have h9:(if (!decide (kd=1))=true then !decide (kd=3) else false)=false:=by subst hB; exact hb
 have hk:¬ (kd ≠ 1 ∧ kd ≠ 3):=by
  intro h
  rw [ite_and] at h9
  simp [h.1,h.2] at h9
 refine wp_seq (rg hB TA_ok [43,2,3,4,5] [2,3,4,5] [] hF (hob:=?hob) fun X6 a0 w1 hF => ?_)
 case hob =>
  intro X
  subst hB
  repeat (first | exact trivial | refine ⟨rfl,?_⟩ | refine ⟨fun _ => rfl,?_⟩ | refine ⟨ob_lab (Kk:=noK) _ _ _ _,?_⟩ | refine ⟨fun _ => ob_lab (Kk:=noK) _ _ _ _,?_⟩)
 apply test_ok hF rfl<;>intro hb hF
 ·have h64:l.len=64:=by subst hB; simpa [std,sC] using hb
  have hW:(halvR kd n f nx mk l)=(zeroRec,zeroRec,5):=by unfold halvR; rw [← hir,← hll,← hca,hil.1,hil.2,hct,if_neg (by decide),if_neg hk,if_pos h64]
  refine wp_seq (rg hB TA_ok [4,5,6] [2,3,4,5] [] hF (hob:=?hob) fun X7 a0 w1 hF => ?_)
  case hob =>
   intro X
   subst hB
   repeat (first | exact trivial | refine ⟨rfl,?_⟩ | refine ⟨fun _ => rfl,?_⟩ | refine ⟨ob_lab (Kk:=noK) _ _ _ _,?_⟩ | refine ⟨fun _ => ob_lab (Kk:=noK) _ _ _ _,?_⟩)
  refine wp_ret ((rsi hB TA_ok hF (⟨0,fun _ => none,fun _ => 0,fun _ => ⟨#[]⟩⟩) (he:=?_)))
  subst hB
  rw [hW]
  exact Sim.tup ⟨Sim.agg ⟨zr,zq0,zr,zr,zr,trivial⟩,Sim.agg ⟨zr,zq0,zr,zr,zr,trivial⟩,zr,trivial⟩
 have h64:l.len ≠ 64:=by subst hB; simpa [std,sC] using hb
 obtain ⟨k,hk1⟩:=eqv (childL l 1)
 have SCH:=child_s l hb0 1 (.inr rfl)
 rw [(ch_ok (b:=1) hLt h64).1,(ch_ok (b:=1) hLt h64).2,← hk1] at SCH
 simp only [labAV] at SCH
 have SA:=at_s A n c f hn k.bits
 obtain ⟨p,hp⟩:=eqv (bsF f k.bits 0 n)
 rw [← hp] at SA
 rw [hk1] at hp
 obtain ⟨hpn,hc0,hc1⟩:=half_lists hok hki hLt hb0 h64 hcc hp
 generalize hitF f k.bits n p=hh at SA
 unfold rowI at SA
 have hW:(halvR kd n f nx mk l)=(⟨1,covL (childL l 0) (firsts f n),childL l 1,0⟩,⟨1,covL (childL l 1) (firsts f n),nx,0⟩,0):=by unfold halvR; rw [← hir,← hll,← hca,hil.1,hil.2,hct,if_neg (by decide),if_neg hk,if_neg h64]
 rw [hc0,hc1,← hk1] at hW
 have SC0:=fun A c => clone_sf A p c f (by omega)
 obtain ⟨r,hr⟩:=eqv (n - p)
 rw [← hr] at hW
 have SC1:=fun A c => clone_sf A r c (fun j => f (p + j)) (by omega)
 unfold rowI at SC0 SC1
 refine wp_skip (wp_seq (rg hB TA_ok [2,4,5,8] [2,8,4,5] [(1,.r fun _ => .tup [.agg [.int .i64 k.len,.int .u64 k.bits],.int .i64 0])] hF (hob:=?hob) fun X8 a0 w1 hF => ?_))
 case hob =>
  intro X
  subst hB
  repeat (first | exact trivial | refine ⟨rfl,?_⟩ | refine ⟨fun _ => rfl,?_⟩ | refine ⟨ob_lab (Kk:=noK) _ _ _ _,?_⟩ | refine ⟨fun _ => ob_lab (Kk:=noK) _ _ _ _,?_⟩ | refine ⟨⟨enters62,SCH⟩,?_⟩ | refine ⟨fun _ => ⟨enters62,SCH⟩,?_⟩)
 refine wp_seq (rg hB TA_ok [2,4,5,8,10] [2,8,4,5] [(4,.r fun _ => .tup [.int .i64 (p:Int),.bool (.v hh)])] hF (hob:=?hob) fun X9 a0 w1 hF => ?_)
 case hob =>
  intro X
  subst hB
  repeat (first | exact trivial | refine ⟨rfl,?_⟩ | refine ⟨fun _ => rfl,?_⟩ | refine ⟨ob_lab (Kk:=noK) _ _ _ _,?_⟩ | refine ⟨fun _ => ob_lab (Kk:=noK) _ _ _ _,?_⟩ | refine ⟨⟨enters132,SA⟩,?_⟩ | refine ⟨fun _ => ⟨enters132,SA⟩,?_⟩)
 refine wp_seq (drg hB TA_ok [2,4,5,8,10,12] [2,8,12,4,5] [(4,.r fun x => .sl none (x.A 0) p (x.c 0) 2 (fun i => itC (f i)))] hF (hob:=?hob) fun X10 a0 w1 hF => ?_)
 case hob =>
  intro X
  subst hB
  refine ⟨rfl,?_⟩
  refine ⟨⟨Int.le_refl _,show (0:Int) ≤ (p:Int) by omega,show (p:Int) ≤ (n:Int) by omega⟩,?_⟩
  refine ⟨⟨enters25,(SC0 _ _).sim ⟨Sim.resl (Nat.sub_zero p) (fun i hi => by show itC (f (0 + i))=itC (f i); rw [Nat.zero_add]),trivial⟩⟩,?_⟩
  repeat (first | exact trivial | refine ⟨rfl,?_⟩ | refine ⟨⟨enters25,(SC0 _ _).sim ⟨Sim.resl (Nat.sub_zero p) (fun i hi => by show itC (f (0 + i))=itC (f i); rw [Nat.zero_add]),trivial⟩⟩,?_⟩ | refine ⟨⟨Int.le_refl _,show (0:Int) ≤ (p:Int) by omega,show (p:Int) ≤ (n:Int) by omega⟩,?_⟩ | refine ⟨⟨show (0:Int) ≤ 0 by omega,show (0:Int) ≤ (p:Int) by omega,show (p:Int) ≤ (c:Int) by omega⟩,?_⟩)
 refine wp_seq (drg hB TA_ok [4,5,12,13] [12,13,4,5] [(4,.r fun x => .sl none (x.A 0) r (x.c 0) 2 (fun i => itC (f (p + i))))] hF (hob:=?hob) fun X11 a0 w1 hF => ?_)
 case hob =>
  intro X
  subst hB
  repeat (first | exact trivial | refine ⟨rfl,?_⟩ | refine ⟨⟨enters25,(SC1 _ _).sim ⟨Sim.resl (show _=r by rw [hr]; rfl) (fun i hi => rfl),trivial⟩⟩,?_⟩ | refine ⟨⟨show (0:Int) ≤ (p:Int) by omega,show (p:Int) ≤ (n:Int) by omega,Int.le_refl _⟩,?_⟩)
 refine wp_seq (drg hB TA_ok [4,5,6] [4,5] [] hF (hob:=?hob) fun X12 a0 w1 hF => ?_)
 case hob =>
  intro X
  subst hB
  repeat (first | exact trivial | refine ⟨rfl,?_⟩ | refine ⟨fun _ => rfl,?_⟩ | refine ⟨ob_lab (Kk:=noK) _ _ _ _,?_⟩ | refine ⟨fun _ => ob_lab (Kk:=noK) _ _ _ _,?_⟩)
 refine wp_ret ((rsi hB TA_ok hF (⟨0,fun i => if i=0 then (X10 4).A 0 else (X11 4).A 0,fun i => if i=0 then (X10 4).c 0 else (X11 4).c 0,fun _ => ⟨#[]⟩⟩) (he:=?_)))
 subst hB
 rw [hW]
 exact Sim.tup ⟨Sim.agg ⟨zr,Sim.resl (firsts_len f p).symm (fun t ht => by rw [firsts_len] at ht; rw [firsts_get f p t ht]),zr,zr,zr,trivial⟩,Sim.agg ⟨zr,Sim.resl (firsts_len _ r).symm (fun t ht => by rw [firsts_len] at ht; rw [firsts_get _ r t ht]),zr,zr,zr,trivial⟩,zr,trivial⟩
theorem two_pos {n:Nat} {m:Bool} (h:(if decide ((n:Int) > 0)=true then m else false)=true):0 < n ∧ m=true:=by
 rw [ite_and,Bool.and_eq_true,decide_eq_true_eq] at h
 exact ⟨by omega,h.2⟩
theorem uni_ixA {n N:Nat} (hn:n ≤ 1000) (h:(if decide ((n:Int) > 0)=true then decide ((n:Int) < (N:Int)) else false)=true):0 ≤ IntKind.i64.wrap ((n:Int) - 1) ∧ IntKind.i64.wrap ((n:Int) - 1) < (N:Int):=by
 obtain ⟨h1,h2⟩:=two_pos h
 have h2:=of_decide_eq_true h2
 rw [wrap_in (by omega) (by omega)]
 omega
theorem uni_ixB {n N:Nat} (h:(if decide ((n:Int) > 0)=true then decide ((n:Int) < (N:Int)) else false)=true):0 ≤ (n:Int) ∧ (n:Int) < (N:Int):=by
 obtain ⟨h1,h2⟩:=two_pos h
 have h2:=of_decide_eq_true h2
 omega
def catF (n:Nat) (f f2:Nat → Itm):Nat → Itm:=fun t => if t < n then f t else f2 (t - n)
def catL (NN:Nat → Nat) (FF:Nat → Nat → Itm) (k:Nat):List Itm:=(List.range k).flatMap fun i => firsts (FF i) (NN i)
theorem catL_succ (NN:Nat → Nat) (FF:Nat → Nat → Itm) (k:Nat):catL NN FF (k + 1)=catL NN FF k ++ firsts (FF k) (NN k):=by simp [catL,List.range_succ]
theorem catL_two (n n2:Nat) (f f2:Nat → Itm):catL (fun i => if i=0 then n else n2) (fun i => if i=0 then f else f2) 2=firsts f n ++ firsts f2 n2:=by simp [catL,List.range_succ]
theorem catF_firsts (q m:Nat) (g h:Nat → Itm):firsts (catF q g h) (q + m)=firsts g q ++ firsts h m:=by
 rw [firsts_add]
 congr 1
 ·unfold firsts catF
  apply List.map_congr_left
  intro t ht
  rw [if_pos (List.mem_range.1 ht)]
 unfold firsts catF
 apply List.map_congr_left
 intro t ht
 rw [if_neg (by omega)]
 congr 1
 omega
theorem cat_at (f:Nat → Itm) (n:Nat) (f2:Nat → Itm) (n2 t:Nat) (h:t < n + n2):itF (firsts f n ++ firsts f2 n2) t=catF n f f2 t:=by
 rw [← catF_firsts,firsts_get _ _ t h]
theorem ov_test (f:Nat → Itm) (n:Nat) (f2:Nat → Itm) (n2:Nat) (hn:n ≤ 1000) (hn2:n2 ≤ 1000) {b:Bool}:(if b=true then true else (if (if decide ((n:Int) > 0)=true then decide ((n:Int) < ((n + n2:Nat):Int)) else false)=true then decide ((itF (firsts f n ++ firsts f2 n2) (IntKind.i64.wrap ((n:Int) - 1)).toNat).key ≥ (itF (firsts f n ++ firsts f2 n2) (n:Int).toNat).key) else false))=(if b=true then true else ovl n f n2 f2):=by
 congr 1
 unfold ovl
 by_cases h1:0 < n
 ·by_cases h2:0 < n2
  ·have e1:IntKind.i64.wrap ((n:Int) - 1)=(n:Int) - 1:=wrap_in (by omega) (by omega)
   rw [e1,Int.toNat_natCast,show ((n:Int) - 1).toNat=n - 1 by omega,cat_at _ _ _ _ _ (show n - 1 < n + n2 by omega),cat_at _ _ _ _ _ (show n < n + n2 by omega)]
   have c1:catF n f f2 (n - 1)=f (n - 1):=by unfold catF; rw [if_pos (by omega)]
   have c2:catF n f f2 n=f2 0:=by unfold catF; rw [if_neg (by omega),Nat.sub_self]
   rw [c1,c2]
   have a:decide ((n:Int) > 0)=true:=by simp; omega
   have b:decide ((n:Int) < ((n + n2:Nat):Int))=true:=by simp; omega
   rw [a,b,decide_eq_true h1,decide_eq_true h2]
   simp
  have b:decide ((n:Int) < ((n + n2:Nat):Int))=false:=by simp; omega
  rw [b,decide_eq_false h2]
  simp
 have a:decide ((n:Int) > 0)=false:=by simp; omega
 rw [a,decide_eq_false h1]
 simp
theorem enters138:Enters Tryz.prog 138:=fun _ _ => by kernel_rfl
theorem enters133:Enters Tryz.prog 133:=fun _ _ => by kernel_rfl
theorem concat_s (A0:Option Addr) (k c0:Nat) (AA:Nat → Option Addr) (NN CC:Nat → Nat) (FF:Nat → Nat → Itm) (hk:k ≤ 10) (hN:∀ i,i < k → NN i ≤ 1000):Spec Tryz.prog 133 [.sl none A0 k c0 1 (fun i => [.sl none (AA i) (NN i) (CC i) 2 (fun t => itC (FF i t))])] (fun x => rowI (x.A 0) (catL NN FF k).length (x.c 0) (itF (catL NN FF k))):=by
 intro m w hm hargs
 have hmx:maxLen=9223372036854775807:=rfl
 refine en 36 hm hargs Tryz.func133 fun B hB a0 hF => ?_
 refine wp_seq (rg hB TA_ok [0] [] [] hF fun X0 a0 w1 hF => ?_)
 refine wp_seq (rg hB TA_ok [3,0] [] [] hF fun X1 a0 w1 hF => ?_)
 refine wp_seq (wp_seq (rg hB TA_ok [3,11,0,9,10] [] [] hF fun X2 a0 w1 hF => ?_))
 refine wp_block (loop_pre (ι:=Nat × Nat) (fun p => [(3,.int .i64 (p.2:Int)),(11,.int .i64 (p.1:Int))]) (fun p => []) (fun p => []) (fun p => p.1 ≤ k ∧ p.2=(catL NN FF p.1).length ∧ p.2 ≤ 1000 * p.1) (fun p => k - p.1) (0,0) ⟨Nat.zero_le _,rfl,Nat.le_refl _⟩ hF ?_)
 rintro ⟨i,z⟩ ⟨hi,hz,hzb⟩ a0 w1 hF
 try dsimp only at hi
 try dsimp only at hz
 try dsimp only at hzb
 refine wp_seq (rg hB TA_ok [12,3,11,0,9,10] [] [] hF fun X3 a0 w1 hF => ?_)
 refine wp_seq (test_ok hF rfl (fun hb hF => ?_) (fun hb hF => ?_))
 ·have hin:i < k:=by
   have:(i:Int) < (k:Int):=by subst hB; simpa [std,sC] using hb
   omega
  have hNi:=hN i hin
  refine wp_skip (wp_seq (wp_block (wp_seq (rg hB TA_ok [5,3,11,0,9,10] [] [] hF (hob:=?hob) fun X4 a0 w1 hF => ?_))))
  case hob =>
   intro X
   subst hB
   repeat (first | exact trivial | refine ⟨rfl,?_⟩ | refine ⟨⟨show (0:Int) ≤ (i:Int) by omega,show (i:Int) < (k:Int) by omega⟩,?_⟩)
  refine wp_seq (rg hB TA_ok [3,11,0,9,10] [] [] hF fun X5 a0 w1 hF => ?_)
  obtain ⟨z2,hz2⟩:=eqv (z + NN i)
  replace hF:=hF.head (v':=.int .i64 (z2:Int)) (by
   subst hB
   show AV.int .i64 (IntKind.i64.wrap ((z:Int) + (NN i:Int)))=_
   rw [wrap_in (by omega) (by omega),hz2]; rfl)
  refine wp_seq (rg hB TA_ok [20,3,11,0,9,10] [] [] hF fun X6 a0 w1 hF => ?_)
  apply test_ok hF rfl<;>intro hb hF
  ·exfalso
   have:(z2:Int) < 0:=by subst hB; simpa [std,sC] using hb
   omega
  skip
  refine wp_skip (rg hB TA_ok [3,11,0,9,10] [] [] hF fun X8 a0 w1 hF => ?_)
  have e:B.arith .add .i64 (i:Int) 1=((i + 1:Nat):Int):=by subst hB; exact wrap_succ (n:=k) hin (by omega)
  refine ⟨(i + 1,z2),⟨by simp only; omega,?_,by simp only; omega⟩,by simp only; omega,by rw [← e]; exact hF⟩
  simp only
  rw [hz2,catL_succ,List.length_append,firsts_len,← hz]
 have hout:i=k:=by
  have:¬ (i:Int) < (k:Int):=by subst hB; simpa [std,sC] using hb
  omega
 rw [hout] at hz hzb
 refine wp_exit (wp_seq (wp_region_lit (lpr 0 1 hB TA_ok [23,0] [] [] hF fun X9_0 a0 w1 hF => ?_)))
 have ev:=eval_int hF (t:=23) (k:=.i64) (n:=(z:Int)) rfl
 refine man_fresh2 (argv:=#[.slice none 0 0,.int .i64 (z:Int)]) rfl rfl rfl rfl rfl hF (by have e2:=ev; simp [Act.eval] at e2 ⊢; exact e2) enters138 (by show 24 < 36; decide) (e:=63) (k:=2) (by decide) (fun t => itC zeroItm) (grow_c w1 z (by omega)) ?_
 intro A9 c9 a0 w1 hF
 refine lnd 2 hB TA_ok [6,0] [24] [] hF fun X9 a0 w1 hF => ?_
 refine wp_seq (wp_seq (rg hB TA_ok [6,27,25,26] [24] [] hF fun X10 a0 w1 hF => ?_))
 refine wp_block (loop_pre (ι:=Nat × Nat × (Nat → Itm) × Option Addr × Nat) (fun p => [(6,.sl (some 24) p.2.2.2.1 p.2.1 p.2.2.2.2 2 (fun t => itC (p.2.2.1 t))),(27,.int .i64 (p.1:Int))]) (fun p => []) (fun p => [(24,⟨p.2.2.2.1,p.2.1,p.2.2.2.2,2,63⟩)]) (fun p => p.1 ≤ k ∧ firsts p.2.2.1 p.2.1=catL NN FF p.1 ∧ p.2.1 ≤ 1000 * p.1) (fun p => k - p.1) (0,0,fun _ => zeroItm,A9,c9) ⟨Nat.zero_le _,rfl,Nat.le_refl _⟩ hF ?_)
 rintro ⟨i,q,g,A1,c1⟩ ⟨hi,hg,hqb⟩ a0 w1 hF
 try dsimp only at hi
 try dsimp only at hg
 try dsimp only at hqb
 refine wp_seq (rg hB TA_ok [28,6,27,25,26] [24] [] hF fun X11 a0 w1 hF => ?_)
 refine wp_seq (test_ok hF rfl (fun hb hF => ?_) (fun hb hF => ?_))
 ·have hin:i < k:=by
   have:(i:Int) < (k:Int):=by subst hB; simpa [std,sC] using hb
   omega
  have hNi:=hN i hin
  refine wp_skip (wp_seq (wp_block (wp_seq (rg hB TA_ok [8,6,27,25,26] [24] [] hF (hob:=?hob) fun X12 a0 w1 hF => ?_))))
  case hob =>
   intro X
   subst hB
   repeat (first | exact trivial | refine ⟨rfl,?_⟩ | refine ⟨⟨show (0:Int) ≤ (i:Int) by omega,show (i:Int) < (k:Int) by omega⟩,?_⟩)
  refine rg hB TA_ok [6,27,25,26] [24] [] hF (hob:=?hob) fun X13 a0 w1 hF => ?_
  case hob =>
   intro X
   subst hB
   repeat (first | exact trivial | refine ⟨⟨rfl,rfl,rfl⟩,?_⟩ | refine ⟨⟨show q + NN i ≤ maxLen by omega,show (q + NN i) * _ ≤ _ by omega⟩,?_⟩ | refine ⟨rfl,?_⟩)
  replace hF:=hF.headS (v':=.sl (some 24) ((X13 2).A 0) (B.nadd q (NN (B.toNat (i:Int)))) ((X13 2).c 0) 2 (fun t => itC (catF q g (FF i) t))) (Sim.resl rfl (fun t ht => by
   subst hB
   show appC q (fun t => itC (g t)) (fun t => itC (FF i t)) t=_
   unfold appC catF
   split<;>rfl)) rfl
  refine rg hB TA_ok [6,27,25,26] [24] [] hF fun X14 a0 w1 hF => ?_
  have e:B.arith .add .i64 (i:Int) 1=((i + 1:Nat):Int):=by subst hB; exact wrap_succ (n:=k) hin (by omega)
  refine ⟨(i + 1,q + NN i,catF q g (FF i),_,_),⟨by simp only; omega,?_,by simp only; omega⟩,by simp only; omega,by rw [← e,show q + NN i=B.nadd q (NN (B.toNat (i:Int))) by subst hB; rfl]; exact hF⟩
  simp only
  rw [catL_succ,catF_firsts,hg]
 have hout:i=k:=by
  have:¬ (i:Int) < (k:Int):=by subst hB; simpa [std,sC] using hb
  omega
 rw [hout] at hg
 refine wp_exit (wp_seq (rg hB TA_ok [2] [2,33] [] hF fun X15 a0 w1 hF => ?_))
 refine wp_ret ((rsi hB TA_ok hF (⟨0,fun _ => A1,fun _ => c1,fun _ => ⟨#[]⟩⟩) (he:=?_)))
 subst hB
 exact Sim.resl (by rw [← hg,firsts_len]) (fun t ht => by rw [← hg,firsts_len] at ht; rw [← hg,firsts_get _ _ t ht])
theorem enters134:Enters Tryz.prog 134:=fun _ _ => by kernel_rfl
theorem fixed_s (A:Option Addr) (n c:Nat) (f:Nat → Itm) (hn:n ≤ 1000000) (kd:Int) (nx:Lab) (mk:Int):Spec Tryz.prog 134 [recI A n c f kd nx mk] (fun _ => .bool (.v (decide (kd=1) || decide (kd=5)))):=by
 intro m w hm hargs
 unfold recI rowI at hargs
 refine en 11 hm hargs Tryz.func134 fun B hB a0 hF => ?_
 refine wp_seq (rg hB TA_ok [1] [1] [] hF fun X0 a0 w1 hF => ?_)
 refine wp_seq (rg hB TA_ok [2] [] [] hF fun X1 a0 w1 hF => ?_)
 refine wp_ret ((rsi hB TA_ok hF nAt (he:=?_)))
 subst hB
 exact Sim.bool (by show (if decide (kd=1)=true then true else decide (kd=5))=_; rw [ite_or]; rfl)
theorem union_s (A:Option Addr) (n c:Nat) (f:Nat → Itm) (hn:n ≤ 1000) (kd:Int) (nx:Lab) (mk:Int) (hv:U64 nx.bits) (A2:Option Addr) (n2 c2:Nat) (f2:Nat → Itm) (hn2:n2 ≤ 1000) (kd2:Int) (nx2:Lab) (mk2:Int) (hv2:U64 nx2.bits):Spec Tryz.prog 127 [recI A n c f kd nx mk,recI A2 n2 c2 f2 kd2 nx2 mk2] (fun x => .tup [recAV (x.A 0) (x.c 0) (uniR kd n f nx mk kd2 n2 f2 nx2 mk2).1,.int .i64 (uniR kd n f nx mk kd2 n2 f2 nx2 mk2).2]):=by
 intro m w hm hargs
 have hmx:maxLen=9223372036854775807:=rfl
 have SI:=isR_s A n c f (by omega) kd nx mk hv
 have SI2:=isR_s A2 n2 c2 f2 (by omega) kd2 nx2 mk2 hv2
 obtain ⟨i1,hi1⟩:=eqv (isRF kd n f nx mk)
 obtain ⟨i2,hi2⟩:=eqv (isRF kd2 n2 f2 nx2 mk2)
 obtain ⟨ov,hov⟩:=eqv (ovl n f n2 f2)
 rw [← hi1] at SI
 rw [← hi2] at SI2
 unfold recI rowI at SI SI2 hargs
 have SF:=fixed_s A n c f (by omega) kd nx mk
 have SF2:=fixed_s A2 n2 c2 f2 (by omega) kd2 nx2 mk2
 unfold recI rowI at SF SF2
 obtain ⟨x1,hx1⟩:=eqv ((decide (kd=1) || decide (kd=5)))
 obtain ⟨x2,hx2⟩:=eqv ((decide (kd2=1) || decide (kd2=5)))
 rw [← hx1] at SF
 rw [← hx2] at SF2
 have SC:=fun A0 => concat_s A0 2 2 (fun i => if i=0 then A else A2) (fun i => if i=0 then n else n2) (fun i => if i=0 then c else c2) (fun i => if i=0 then f else f2) (by decide) (fun i hi => by show (if i=0 then n else n2) ≤ 1000; split<;>omega)
 rw [catL_two] at SC
 obtain ⟨N,hN⟩:=eqv ((firsts f n ++ firsts f2 n2).length)
 obtain ⟨g,hg⟩:=eqv (itF (firsts f n ++ firsts f2 n2))
 rw [← hN,← hg] at SC
 have hNn:N=n + n2:=by rw [hN,List.length_append,firsts_len,firsts_len]
 have hot:=ov_test (b:=(if (!i1)=true then true else !i2)) f n f2 n2 (by omega) (by omega)
 rw [← hg,← hNn,← hov] at hot
 unfold rowI at SC
 refine en 70 hm hargs Tryz.func127 fun B hB a0 hF => ?_
 refine wp_seq (rg hB TA_ok [2,3,4] [2,3,4] [] hF fun X0 a0 w1 hF => ?_)
 refine wp_seq (rg hB TA_ok [6,2,3,4] [2,3,4] [(5,.r fun x => .sl none (x.A 0) N (x.c 0) 2 (fun i => itC (g i)))] hF (hob:=?hob) fun X1 a0 w1 hF => ?_)
 case hob =>
  intro X
  subst hB
  repeat (first | exact trivial | refine ⟨rfl,?_⟩ | refine ⟨⟨enters133,(SC _).sim ⟨Sim.resl rfl (fun i hi => by have h2:i=0 ∨ i=1:=(by omega); rcases h2 with rfl | rfl<;>rfl),trivial⟩⟩,?_⟩)
 refine wp_seq (rg hB TA_ok [7,6,2,3,4] [2,3,4] [] hF fun X2 a0 w1 hF => ?_)
 replace hF:=hF.head (v':=.int .i64 (n:Int)) (by subst hB; rfl)
 refine wp_seq (wp_block (wp_seq (drg hB TA_ok [17,6,7,2,3,4] [2,3,4] [(1,.r fun _ => .bool (.v i1)),(5,.r fun _ => .bool (.v i2))] hF (hob:=?hob) fun X3 a0 w1 hF => ?_)))
 case hob =>
  intro X
  subst hB
  simp only [AO,Ob.holds,BE.den,List.mem_cons,List.not_mem_nil,or_false,forall_eq_or_imp,forall_eq]
  and_intros<;>first | trivial | exact enters36 | exact SI | exact SI2 | (intros; first | trivial | exact enters36 | exact SI2 | exact ⟨enters36,SI2⟩) | (intro h; first | exact uni_ixA hn h.1 | exact uni_ixB h.1)
 apply test_ok hF rfl<;>intro hb hF
 ·have h9:(if (if (!i1)=true then true else !i2)=true then true else (if (if decide ((n:Int) > 0)=true then decide ((n:Int) < (N:Int)) else false)=true then decide ((g (IntKind.i64.wrap ((n:Int) - 1)).toNat).key ≥ (g (n:Int).toNat).key) else false))=true:=by subst hB; exact hb
  rw [hot] at h9
  have hW:(uniR kd n f nx mk kd2 n2 f2 nx2 mk2)=(zeroRec,1):=by unfold uniR; rw [← hi1,← hi2,← hov]; cases i1<;>cases i2<;>cases ov<;>first | rfl | (simp at h9)
  refine wp_seq (rg hB TA_ok [4,5] [4] [] hF (hob:=?hob) fun X4 a0 w1 hF => ?_)
  case hob =>
   intro X
   subst hB
   repeat (first | exact trivial | refine ⟨rfl,?_⟩ | refine ⟨fun _ => rfl,?_⟩ | refine ⟨ob_lab (Kk:=noK) _ _ _ _,?_⟩ | refine ⟨fun _ => ob_lab (Kk:=noK) _ _ _ _,?_⟩)
  refine wp_ret ((rsi hB TA_ok hF (⟨0,fun _ => none,fun _ => 0,fun _ => ⟨#[]⟩⟩) (he:=?_)))
  subst hB
  rw [hW]
  exact Sim.tup ⟨Sim.agg ⟨zr,zq0,zr,zr,zr,trivial⟩,zr,trivial⟩
 have h9:(if (if (!i1)=true then true else !i2)=true then true else (if (if decide ((n:Int) > 0)=true then decide ((n:Int) < (N:Int)) else false)=true then decide ((g (IntKind.i64.wrap ((n:Int) - 1)).toNat).key ≥ (g (n:Int).toNat).key) else false))=false:=by subst hB; exact hb
 rw [hot] at h9
 have h12:i1=true ∧ i2=true ∧ ov=false:=by cases i1<;>cases i2<;>cases ov<;>first | exact ⟨rfl,rfl,rfl⟩ | (simp at h9)
 obtain ⟨h1t,h2t,hovf⟩:=h12
 have hU:(uniR kd n f nx mk kd2 n2 f2 nx2 mk2)=(if ¬ (kd=1 ∨ kd=5) ∨ ¬ (kd2=1 ∨ kd2=5) then (zeroRec,13) else if 16 < n + n2 then (zeroRec,12) else (⟨1,firsts f n ++ firsts f2 n2,nx2,0⟩,0)):=by unfold uniR; rw [← hi1,← hi2,← hov,h1t,h2t,hovf]; rfl
 refine wp_seq (rg hB TA_ok [51,6,3,4] [3,4] [(1,.r fun _ => .bool (.v x1)),(5,.r fun _ => .bool (.v x2))] hF (hob:=?hob) fun X5 a0 w1 hF => ?_)
 case hob =>
  intro X
  subst hB
  repeat (first | exact trivial | refine ⟨rfl,?_⟩ | refine ⟨fun _ => rfl,?_⟩ | refine ⟨ob_lab (Kk:=noK) _ _ _ _,?_⟩ | refine ⟨fun _ => ob_lab (Kk:=noK) _ _ _ _,?_⟩ | refine ⟨⟨enters134,SF⟩,?_⟩ | refine ⟨fun _ => ⟨enters134,SF⟩,?_⟩ | refine ⟨⟨enters134,SF2⟩,?_⟩ | refine ⟨fun _ => ⟨enters134,SF2⟩,?_⟩)
 apply test_ok hF rfl<;>intro hb hF
 ·have h9:(if (!x1)=true then true else !x2)=true:=by subst hB; exact hb
  have hfx:¬ (kd=1 ∨ kd=5) ∨ ¬ (kd2=1 ∨ kd2=5):=by
   cases h1:x1 with
   | false => left; rw [h1] at hx1; simpa using hx1.symm
   | true =>
    right
    rw [h1] at h9
    have h2:x2=false:=by cases x2<;>first | rfl | (simp at h9)
    rw [h2] at hx2; simpa using hx2.symm
  have hW:(uniR kd n f nx mk kd2 n2 f2 nx2 mk2)=(zeroRec,13):=by rw [hU,if_pos hfx]
  refine wp_seq (rg hB TA_ok [4,5] [4] [] hF (hob:=?hob) fun X6 a0 w1 hF => ?_)
  case hob =>
   intro X
   subst hB
   repeat (first | exact trivial | refine ⟨rfl,?_⟩ | refine ⟨fun _ => rfl,?_⟩ | refine ⟨ob_lab (Kk:=noK) _ _ _ _,?_⟩ | refine ⟨fun _ => ob_lab (Kk:=noK) _ _ _ _,?_⟩)
  refine wp_ret ((rsi hB TA_ok hF (⟨0,fun _ => none,fun _ => 0,fun _ => ⟨#[]⟩⟩) (he:=?_)))
  subst hB
  rw [hW]
  exact Sim.tup ⟨Sim.agg ⟨zr,zq0,zr,zr,zr,trivial⟩,zr,trivial⟩
 have h9:(if (!x1)=true then true else !x2)=false:=by subst hB; exact hb
 have hfx:¬ (¬ (kd=1 ∨ kd=5) ∨ ¬ (kd2=1 ∨ kd2=5)):=by
  have h1:x1=true ∧ x2=true:=by cases x1<;>cases x2<;>first | exact ⟨rfl,rfl⟩ | (simp at h9)
  rw [h1.1] at hx1; rw [h1.2] at hx2
  have a:=hx1.symm; have b:=hx2.symm
  simp only [Bool.or_eq_true,decide_eq_true_eq] at a b
  intro h
  rcases h with h | h
  ·exact h a
  exact h b
 refine wp_seq (rg hB TA_ok [61,6,3,4] [3,4] [] hF fun X7 a0 w1 hF => ?_)
 apply test_ok hF rfl<;>intro hb hF
 ·have hf16:16 < n + n2:=by
   have:(16:Int) < (N:Int):=by subst hB; simpa [std,sC] using hb
   omega
  have hW:(uniR kd n f nx mk kd2 n2 f2 nx2 mk2)=(zeroRec,12):=by rw [hU,if_neg hfx,if_pos hf16]
  refine wp_seq (rg hB TA_ok [4,5] [4] [] hF (hob:=?hob) fun X8 a0 w1 hF => ?_)
  case hob =>
   intro X
   subst hB
   repeat (first | exact trivial | refine ⟨rfl,?_⟩ | refine ⟨fun _ => rfl,?_⟩ | refine ⟨ob_lab (Kk:=noK) _ _ _ _,?_⟩ | refine ⟨fun _ => ob_lab (Kk:=noK) _ _ _ _,?_⟩)
  refine wp_ret ((rsi hB TA_ok hF (⟨0,fun _ => none,fun _ => 0,fun _ => ⟨#[]⟩⟩) (he:=?_)))
  subst hB
  rw [hW]
  exact Sim.tup ⟨Sim.agg ⟨zr,zq0,zr,zr,zr,trivial⟩,zr,trivial⟩
 have hf16:¬ 16 < n + n2:=by
  have:¬ (16:Int) < (N:Int):=by subst hB; simpa [std,sC] using hb
  omega
 have hW:(uniR kd n f nx mk kd2 n2 f2 nx2 mk2)=(⟨1,firsts f n ++ firsts f2 n2,nx2,0⟩,0):=by rw [hU,if_neg hfx,if_neg hf16]
 refine wp_skip (wp_seq (rg hB TA_ok [4,5] [4] [] hF (hob:=?hob) fun X9 a0 w1 hF => ?_))
 case hob =>
  intro X
  subst hB
  repeat (first | exact trivial | refine ⟨rfl,?_⟩ | refine ⟨fun _ => rfl,?_⟩ | refine ⟨ob_lab (Kk:=noK) _ _ _ _,?_⟩ | refine ⟨fun _ => ob_lab (Kk:=noK) _ _ _ _,?_⟩)
 refine wp_ret ((rsi hB TA_ok hF (⟨0,fun _ => (X1 5).A 0,fun _ => (X1 5).c 0,fun _ => ⟨#[]⟩⟩) (he:=?_)))
 subst hB
 rw [hW]
 exact Sim.tup ⟨Sim.agg ⟨zr,Sim.resl hN (fun t ht => by rw [hg]),zr,zr,zr,trivial⟩,zr,trivial⟩
structure LOk (l:Lab):Prop where
 isl:isL l=true
 u:U64 l.bits
theorem lok_z:LOk ⟨0,0⟩:=⟨by decide,by decide,by decide⟩
theorem LOk.ch {l:Lab} (h:LOk l) (b:Int):LOk (chV l b):=by
 unfold chV
 split
 ·rename_i he
  have h64:l.len ≠ 64:=by
   intro h64
   unfold chE at he
   rw [h.isl] at he
   simp [h64] at he
  exact ⟨child_isL h.isl h.u h64 b,child_u h.isl h.u h64 b⟩
 exact lok_z
theorem LOk.par {l:Lab} (h:LOk l):LOk (parV l):=by
 unfold parV
 split
 ·rename_i he
  have h0:l.len ≠ 0:=by
   intro h0
   unfold parE at he
   rw [h.isl] at he
   simp [h0] at he
  exact ⟨par_isL h.isl h.u h0,par_u h.u⟩
 exact lok_z
theorem rowz_sim {f:Nat → Itm} {c:Nat} {A:Option Addr}:Sim (.sl none A 0 c 2 (fun _ => [])) (.sl none A 0 c 2 (fun i => itC (f i))):=Sim.recell fun i hi => absurd hi (Nat.not_lt_zero _)
theorem halv_c (x:RA) (h:RaOk x) (l:Lab) (hl:U64 l.bits):Spec Tryz.prog 121 [recV x,labAV l] (fun y => .tup [recV ⟨y.A 0,y.c 0,(halvA x l).1.rn⟩,recV ⟨y.A 1,y.c 1,(halvA x l).2.1.rn⟩,.int .i64 (halvA x l).2.2]):=by
 have hf:=h.few
 cases hb:(isRF x.r.kd x.r.n x.r.f x.r.nx x.r.mrk && isL l) with
 | false => exact halves_no x.A x.r.n x.c x.r.f (by omega) x.r.kd x.r.nx x.r.mrk h.nx h.key l hl hb
 | true => exact halves_yes x.A x.r.n x.c x.r.f (by omega) x.r.kd x.r.nx x.r.mrk h.nx h.key l hl hb
theorem uni_c (x y:RA) (h:RaOk x) (h':RaOk y):Spec Tryz.prog 127 [recV x,recV y] (fun z => .tup [recV ⟨z.A 0,z.c 0,(uniA x y).1.rn⟩,.int .i64 (uniA x y).2]):=by
 have hf:=h.few
 have hf':=h'.few
 exact union_s x.A x.r.n x.c x.r.f (by omega) x.r.kd x.r.nx x.r.mrk h.nx y.A y.r.n y.c y.r.f (by omega) y.r.kd y.r.nx y.r.mrk h'.nx
def fzR:Fz → RA
 | .fr x => x
 | _ => zRA
def fzI:Fz → Int
 | .over => 0
 | .unfit => 1
 | .fr _ => 2
def encFz (z:Fz):AV:=.tup [recV (fzR z),.int .i64 (fzI z)]
theorem fz_0 {z:Fz} (h:fzI z=0):z = .over:=by cases z<;>first | rfl | (simp [fzI] at h)
theorem fz_1 {z:Fz} (h:fzI z=1):z = .unfit:=by cases z<;>first | rfl | (simp [fzI] at h)
theorem fz_2 {z:Fz} (h0:fzI z ≠ 0) (h1:fzI z ≠ 1):z = .fr (fzR z):=by cases z<;>first | rfl | exact absurd rfl h0 | exact absurd rfl h1
theorem thwL_succ (bk k:Int) (n:Nat) (l up:Lab) (p:Pst):thwL bk k (n + 1) l up p=(getM k l p).bind fun g p => if gk g 5=true then (getM k up p).bind fun q p =>
      (if (gk q 3 || gk q 4)=true then fnsM bk k n up q p else .ok () p).bind fun _ p =>
        if gk q 2=true then (casM k l g.ver (asR 1 g.x 0).r.abs p).bind fun d p => if d=true then .ok () p else thwL bk k n l up p else .ok () p else .ok () p:=rfl
section
def ClC (n:Nat):Prop:=∀ (k0 b:Nat) (J:JobA) (hJ:JobOk J) (A:Option Addr) (c:Nat) (p:Pst) (hp:PstOk p) (hn:p.n ≤ 1000000) (l:Lab) (hl:LOk l),p.n < n → RunS 128 k0 b J A c p [labAV l] (fun _ => unitV) (clnM J.budget n l p)
def ThC (n:Nat):Prop:=∀ (k0 b:Nat) (J:JobA) (hJ:JobOk J) (A:Option Addr) (c:Nat) (p:Pst) (hp:PstOk p) (hn:p.n ≤ 1000000) (l:Lab) (hl:LOk l),p.n < n → RunS 113 k0 b J A c p [labAV l] (fun _ => unitV) (thwM J.bucket J.budget n l p)
def FinC (n:Nat):Prop:=∀ (k0 b:Nat) (J:JobA) (hJ:JobOk J) (A:Option Addr) (c:Nat) (p:Pst) (hp:PstOk p) (hn:p.n ≤ 1000000) (l:Lab) (hl:LOk l) (g:GotA) (hg:GotOk g),p.n < n → RunS 110 k0 b J A c p [labAV l,gotV g] (fun _ => unitV) (fnsM J.bucket J.budget n l g p)
end
theorem frz_m0 (b:Nat) (J:JobA) (hJ:JobOk J) (A:Option Addr) (c:Nat) (p:Pst) (hp:PstOk p) (hn:p.n ≤ 1000000) (l:Lab) (v:Int) (d:Lab) (n:Nat) (hf:p.n < n):RunS 125 0 b J A c p [labAV l,.int .u64 v,labAV d] (encFz) (frzM J.budget l v d n p):=by
 intro m w hm hargs hpre
 refine enX 52 hm hpre hargs Tryz.func125 fun B hB a0 hF => ?_
 refine wp_seq (rg hB TA_ok [0,2,5,7,8] [0,5,7,8] [] hF fun X0 a0 w1 hF => ?_)
 refine wp_block (loop_pre (ι:=Nat × Pst × Option Addr × Nat) (fun q => []) (fun q => [(0,⟨b,148,runC J q.2.2.1 q.2.2.2 q.2.1⟩)]) (fun q => []) (fun q => frzM J.budget l v d n p=frzM J.budget l v d q.1 q.2.1 ∧ PstOk q.2.1 ∧ q.2.1.n ≤ 1000000 ∧ q.2.1.n < q.1) (fun q => q.1) (n,p,A,c) ⟨rfl,hp,hn,hf⟩ hF ?_)
 rintro ⟨nn,p0,A0,c0⟩ ⟨hrun,hp0,hn0,hf0⟩ a0 w1 hF
 try dsimp only at hrun
 try dsimp only at hp0
 try dsimp only at hn0
 try dsimp only at hf0
 obtain ⟨n2,rfl⟩:∃ n2,nn=n2 + 1:=⟨nn - 1,by omega⟩
 refine wp_block (wp_seq ?_)
 rcases (get_m 0 b J hJ A0 c0 p0 hp0 hn0 d).two (fro_get _ _ _) hp0 hn0 with ⟨w1,p1,hm1,O1⟩ | ⟨g1,p1,hm1,hs1,hp1,hn1,S1⟩
 ·refine stp 2 hB TA_ok [12,13] [0] [] hF O1 fun _ _ _ _ hF hk => ?_
  exact thm (P:=Tryz.prog) (fn:=Tryz.f125) (q:=p1) hF hk (by simp [hrun,frzM,Rs.bind,hm1])
 have hl1:=get_lt hm1
 have hg1:=hp0.get hm1
 have O1:=S1
 refine rg hB TA_ok [0,2,5,7,8,10] [0,5,7,8,10] [(2,rc J (gotV g1) p1)] hF fun X1 a0 w1 hF => ?_
 obtain ⟨q2,hq2⟩:=eqv ((gk g1 1 || gk g1 5))
 refine wp_seq (wp_block (wp_seq ?_))
 refine rg hB TA_ok [15,0,2,5,7,8,10] [0,5,7,8,10] [(2,.r fun _ => .bool (.v q2))] hF (hob:=by intro X; subst hB; simp only [AO,Ob.holds,BE.den]<;>and_intros<;>repeat first | trivial | rfl | exact (by rw [hq2]; exact is2_s g1 _ _ 1 5 _ rfl rfl) | exact by rw [hq2]; exact is2_s g1 _ _ 1 5 _ rfl rfl | exact (fun _ _ => by kernel_rfl) | refine ⟨?_,?_⟩ | intro h | exact Int.le_refl _ | decide | omega) fun X2 a0 w1 hF => ?_
 apply test_ok hF rfl<;>intro hb hF
 ·have tq2:(gk g1 1 || gk g1 5)=false:=by subst hB; rw [← hq2]; revert hb; cases q2<;>simp [std]
  refine wp_seq (rg hB TA_ok [8,9] [0,8] [] hF fun X3 a0 w1 hF => ?_)
  refine wp_ret ((rmm hB TA_ok hF (v:=Fz.unfit) (q:=p1) ((X1 2).A 0) ((X1 2).c 0) (by simp [hrun,frzM,Rs.bind,hm1,tq2]) (he:=?_)).1)
  subst hB; exact Sim.tup ⟨Sim.agg ⟨zr,rowz_sim,zr,zr,zr,trivial⟩,zr,trivial⟩
 have tq2:(gk g1 1 || gk g1 5)=true:=by subst hB; rw [← hq2]; revert hb; cases q2<;>simp [std]
 obtain ⟨q4,hq4⟩:=eqv (gk g1 5)
 apply wp_seq
 refine rg hB TA_ok [21,0,2,5,7,8,10] [0,5,7,8,10] [(2,.r fun _ => .bool (.v q4))] hF (hob:=by intro X; subst hB; simp only [AO,Ob.holds,BE.den]<;>and_intros<;>repeat first | trivial | rfl | exact (by rw [hq4]; exact is1_s g1 _ _ 5 _ rfl) | exact by rw [hq4]; exact is1_s g1 _ _ 5 _ rfl | exact (fun _ _ => by kernel_rfl) | refine ⟨?_,?_⟩ | intro h | exact Int.le_refl _ | decide | omega) fun X4 a0 w1 hF => ?_
 apply test_ok hF rfl<;>intro hb hF
 ·have t4:(gk g1 5 && decide (g1.x.r.mrk=v))=true:=by subst hB; rw [← hq4]; revert hb; cases q4<;>simp [std,sC]
  refine wp_seq (rg hB TA_ok [8,9] [0,8] [] hF fun X5 a0 w1 hF => ?_)
  exact wp_ret ((rmm hB TA_ok hF (v:=(Fz.fr g1.x)) (q:=p1) ((X1 2).A 0) ((X1 2).c 0) (by simp [hrun,frzM,Rs.bind,hm1,tq2,t4])).1)
 have t4:(gk g1 5 && decide (g1.x.r.mrk=v))=false:=by subst hB; rw [← hq4]; revert hb; cases q4<;>simp [std,sC]
 apply wp_seq
 rcases (still_m 0 b J hJ ((X1 2).A 0) ((X1 2).c 0) p1 hp1 hn1 l v).two (fro_get _ _ _) hp1 hn1 with ⟨w6,p6,hm6,O1⟩ | ⟨g6,p6,hm6,hs6,hp6,hn6,S6⟩
 ·refine stp 3 hB TA_ok [35,36,37] [0] [] hF O1 fun _ _ _ _ hF hk => ?_
  exact thm (P:=Tryz.prog) (fn:=Tryz.f125) (q:=p6) hF hk (by simp [hrun,frzM,Rs.bind,hm1,tq2,t4,hm6])
 have hl6:=get_lt hm6
 have hg6:=hp1.get hm6
 try dsimp only at S6
 obtain ⟨d6,hd6⟩:=eqv (decide (g6.ver=v))
 rw [← hd6] at S6
 have O1:=S6
 refine rg hB TA_ok [34,0,2,5,7,8,10] [0,5,7,8,10] [(3,rc J (.bool (.v d6)) p6)] hF fun X6 a0 w1 hF => ?_
 apply test_ok hF rfl<;>intro hb hF
 ·have t6:¬ g6.ver=v:=by
   have h9:(!d6)=true:=by subst hB; exact hb
   rw [hd6] at h9; simpa using h9
  refine wp_seq (rg hB TA_ok [8,9] [0,8] [] hF fun X7 a0 w1 hF => ?_)
  refine wp_ret ((rmm hB TA_ok hF (v:=Fz.over) (q:=p6) ((X6 3).A 0) ((X6 3).c 0) (by simp [hrun,frzM,Rs.bind,hm1,tq2,t4,hm6,t6]) (he:=?_)).1)
  subst hB; exact Sim.tup ⟨Sim.agg ⟨zr,rowz_sim,zr,zr,zr,trivial⟩,zr,trivial⟩
 have t6:g6.ver=v:=by
  have h9:(!d6)=false:=by subst hB; exact hb
  rw [hd6] at h9; simpa using h9
 have O1:=as_s 5 g1.x v
 refine wp_skip (wp_seq (rg hB TA_ok [0,2,5,7,8,10,11] [0,5,7,8,10,11] [(3,.r fun _ => recV (asR 5 g1.x v))] hF fun X8 a0 w1 hF => ?_))
 apply wp_seq
 rcases (cas_m 0 b J hJ ((X6 3).A 0) ((X6 3).c 0) p6 hp6 hn6 d g1.ver (asR 5 g1.x v)).two (fro_cas _ _ _ _ _) hp6 hn6 with ⟨w9,p9,hm9,O1⟩ | ⟨d9,p9,hm9,hs9,hp9,hn9,S9⟩
 ·refine stp 5 hB TA_ok [45,46,48,49] [0] [] hF O1 fun _ _ _ _ hF hk => ?_
  exact thm (P:=Tryz.prog) (fn:=Tryz.f125) (q:=p9) hF hk (by simp [hrun,frzM,Rs.bind,hm1,tq2,t4,hm6,t6,hm9])
 have O1:=S9
 refine rg hB TA_ok [50,0,2,5,7,8,11] [0,5,7,8,11] [(5,rc J (.bool (.v d9)) p9)] hF fun X9 a0 w1 hF => ?_
 apply test_ok hF rfl<;>intro hb hF
 ·have t9:d9=true:=by exact hb
  refine wp_seq (rg hB TA_ok [8,9] [0,8] [] hF fun X10 a0 w1 hF => ?_)
  exact wp_ret ((rmm hB TA_ok hF (v:=(Fz.fr (asR 5 g1.x v))) (q:=p9) ((X9 5).A 0) ((X9 5).c 0) (by simp [hrun,frzM,Rs.bind,hm1,tq2,t4,hm6,t6,hm9,t9])).1)
 have t9:d9=false:=by exact hb
 replace hF:=hF.keep [0,2,5,7,8] [0,5,7,8]
 exact wp_skip (⟨(n2,p9,_,_),⟨by rw [hrun]; simp [frzM,Rs.bind,hm1,tq2,t4,hm6,t6,hm9,t9],hp9,hn9,by dsimp only; have:=hl1; have:=hs6.le; have:=hs9.le; have:=hf0; omega⟩,by simp only; omega,hF⟩)
theorem frz_m (k0 b:Nat) (J:JobA) (hJ:JobOk J) (A:Option Addr) (c:Nat) (p:Pst) (hp:PstOk p) (hn:p.n ≤ 1000000) (l:Lab) (v:Int) (d:Lab) (n:Nat) (hf:p.n < n):RunS 125 k0 b J A c p [labAV l,.int .u64 v,labAV d] (encFz) (frzM J.budget l v d n p):=RunS.re (frz_m0 b J hJ A c p hp hn l v d n hf) (by repeat (first | exact trivial | refine ⟨zr,?_⟩))
theorem casi_m (k0 b:Nat) (J:JobA) (hJ:JobOk J) (A:Option Addr) (c:Nat) (p:Pst) (hp:PstOk p) (hn:p.n ≤ 1000000) (l:Lab) (v:Int):RunS 114 k0 b J A c p [labAV l,.int .u64 v,innV] (fun d => .bool (.v d)) (casM J.budget l v innerR p):=
 RunS.re (cas_m 0 b J hJ A c p hp hn l v ⟨none,0,innerR.rn⟩) ⟨zr,zr,Sim.agg ⟨zr,rowz_sim,zr,zr,zr,trivial⟩,trivial⟩
theorem bck_m0 (b:Nat) (J:JobA) (hJ:JobOk J) (A:Option Addr) (c:Nat) (p:Pst) (hp:PstOk p) (hn:p.n ≤ 1000000) (l:Lab) (hl:LOk l) (v:Int) (n:Nat) (hth:ThC n) (hf:p.n < n):RunS 126 0 b J A c p [labAV l,.int .u64 v] (fun _ => unitV) (bckM J.budget (thwM J.bucket J.budget n) l v p):=by
 intro m w hm hargs hpre
 have SC:=chi_s l hl.u
 have hk0:=hl.ch 0
 have hk1:=hl.ch 1
 simp only [labAV] at SC
 obtain ⟨x0,hx0⟩:=eqv (chV l 0)
 rw [← hx0] at SC hk0
 obtain ⟨x1,hx1⟩:=eqv (chV l 1)
 rw [← hx1] at SC hk1
 refine enX 23 hm hpre hargs Tryz.func126 fun B hB a0 hF => ?_
 refine wp_seq (rg hB TA_ok [0,2,4] [0,4] [] hF fun X0 a0 w1 hF => ?_)
 refine wp_seq (wp_seq ?_)
 rcases (casi_m 0 b J hJ A c p hp hn l v).two (fro_cas _ _ _ _ _) hp hn with ⟨w1,p1,hm1,O1⟩ | ⟨d1,p1,hm1,hs1,hp1,hn1,S1⟩
 ·have O2:=inn_s
  refine stpD 4 hB TA_ok [8,9,10,11] [0] [(3,.r fun _ => .agg [.int .i64 2,.sl none none 0 0 2 (fun _ => []),.int .i64 (-1),.int .u64 0,.int .u64 0])] hF O1 fun _ _ _ _ hF hk => ?_
  exact thm (P:=Tryz.prog) (fn:=Tryz.f126) (q:=p1) hF hk (by simp [bckM,← hx0,← hx1,Rs.bind,hm1])
 have O1:=inn_s
 have O2:=S1
 refine drg hB TA_ok [13,0,4] [0,4] [(3,.r fun _ => .agg [.int .i64 2,.sl none none 0 0 2 (fun _ => []),.int .i64 (-1),.int .u64 0,.int .u64 0]),(4,rc J (.bool (.v d1)) p1)] hF fun X1 a0 w1 hF => ?_
 apply test_ok hF rfl<;>intro hb hF
 ·have t1:d1=false:=by subst hB; revert hb; cases d1<;>simp [std]
  exact wp_ret ((rmm hB TA_ok hF (v:=()) (q:=p1) ((X1 4).A 0) ((X1 4).c 0) (by simp [bckM,← hx0,← hx1,Rs.bind,hm1,t1])).1)
 have t1:d1=true:=by subst hB; revert hb; cases d1<;>simp [std]
 have O1:=SC
 refine wp_skip (wp_seq (rg hB TA_ok [16,0,15] [0] [(1,.r fun _ => .agg [.int .i64 x0.len,.int .u64 x0.bits,.int .i64 x1.len,.int .u64 x1.bits])] hF fun X2 a0 w1 hF => ?_))
 refine wp_block (wp_loop_rounds 3 (rounds_first (wp_seq (rg hB TA_ok [17,0,15,16] [0] [] hF fun X3 a0 w1 hF => ?_))))
 replace hF:=hF.headS (v':=.bool .tt) (Sim.bool (by subst hB; rfl)) rfl
 refine wp_seq (test_tt hF rfl (fun hF => ?_))
 refine wp_skip (wp_seq (wp_block (wp_seq (rg hB TA_ok [0,7,15,16] [0,7] [] hF fun X4 a0 w1 hF => ?_))))
 rcases (hth 0 b J hJ ((X1 4).A 0) ((X1 4).c 0) p1 hp1 hn1 x0 hk0 (by have:=Nat.lt_of_le_of_lt hs1.le hf; omega)).two (fro_thw _ _ _ _ _) hp1 hn1 with ⟨w50,p50,hm50,O1⟩ | ⟨_u50,p50,hm50,hs50,hp50,hn50,S50⟩
 ·refine stp 2 hB TA_ok [19,20] [0] [] hF O1 fun _ _ _ _ hF hk => ?_
  exact thm (P:=Tryz.prog) (fn:=Tryz.f126) (q:=p50) hF hk (by simp [bckM,← hx0,← hx1,Rs.bind,hm1,t1,hm50])
 have O1:=S50
 refine rg hB TA_ok [0,15,16] [0] [(2,rc J (unitV) p50)] hF fun X5 a0 w1 hF => ?_
 refine rg hB TA_ok [16,0,15] [0] [] hF fun X6 a0 w1 hF => ?_
 replace hF:=hF.headS (v':=.int .i64 1) (by subst hB; exact zr) rfl
 refine rounds_next (wp_seq (rg hB TA_ok [17,0,15,16] [0] [] hF fun X3 a0 w1 hF => ?_))
 replace hF:=hF.headS (v':=.bool .tt) (Sim.bool (by subst hB; rfl)) rfl
 refine wp_seq (test_tt hF rfl (fun hF => ?_))
 refine wp_skip (wp_seq (wp_block (wp_seq (rg hB TA_ok [0,7,15,16] [0,7] [] hF fun X4 a0 w1 hF => ?_))))
 rcases (hth 0 b J hJ ((X5 2).A 0) ((X5 2).c 0) p50 hp50 hn50 x1 hk1 (by have:=Nat.lt_of_le_of_lt (Suf.trans hs1 hs50).le hf; omega)).two (fro_thw _ _ _ _ _) hp50 hn50 with ⟨w51,p51,hm51,O1⟩ | ⟨_u51,p51,hm51,hs51,hp51,hn51,S51⟩
 ·refine stp 2 hB TA_ok [19,20] [0] [] hF O1 fun _ _ _ _ hF hk => ?_
  exact thm (P:=Tryz.prog) (fn:=Tryz.f126) (q:=p51) hF hk (by simp [bckM,← hx0,← hx1,Rs.bind,hm1,t1,hm50,hm51])
 have O1:=S51
 refine rg hB TA_ok [0,15,16] [0] [(2,rc J (unitV) p51)] hF fun X5 a0 w1 hF => ?_
 refine rg hB TA_ok [16,0,15] [0] [] hF fun X6 a0 w1 hF => ?_
 replace hF:=hF.headS (v':=.int .i64 2) (by subst hB; exact zr) rfl
 refine rounds_next (wp_seq (rg hB TA_ok [17,0,15,16] [0] [] hF fun X3 a0 w1 hF => ?_))
 replace hF:=hF.headS (v':=.bool .ff) (Sim.bool (by subst hB; rfl)) rfl
 refine wp_seq (test_ff hF rfl (fun hF => ?_))
 exact wp_exit ((rmm hB TA_ok hF (v:=()) (q:=p51) ((X5 2).A 0) ((X5 2).c 0) (by simp [bckM,← hx0,← hx1,Rs.bind,hm1,t1,hm50,hm51])).2)
theorem bck_m (k0 b:Nat) (J:JobA) (hJ:JobOk J) (A:Option Addr) (c:Nat) (p:Pst) (hp:PstOk p) (hn:p.n ≤ 1000000) (l:Lab) (hl:LOk l) (v:Int) (n:Nat) (hth:ThC n) (hf:p.n < n):RunS 126 k0 b J A c p [labAV l,.int .u64 v] (fun _ => unitV) (bckM J.budget (thwM J.bucket J.budget n) l v p):=RunS.re (bck_m0 b J hJ A c p hp hn l hl v n hth hf) (by repeat (first | exact trivial | refine ⟨zr,?_⟩))
theorem clns_m0 (b:Nat) (J:JobA) (hJ:JobOk J) (A:Option Addr) (c:Nat) (p:Pst) (hp:PstOk p) (hn:p.n ≤ 1000000) (l:Lab) (hl:LOk l) (n:Nat) (ih:ClC n) (hf:p.n < n + 1):RunS 128 0 b J A c p [labAV l] (fun _ => unitV) (clnM J.budget (n + 1) l p):=by
 intro m w hm hargs hpre
 have SC:=chi_s l hl.u
 have hk0:=hl.ch 0
 have hk1:=hl.ch 1
 simp only [labAV] at SC
 obtain ⟨x0,hx0⟩:=eqv (chV l 0)
 rw [← hx0] at SC hk0
 obtain ⟨x1,hx1⟩:=eqv (chV l 1)
 rw [← hx1] at SC hk1
 refine enX 37 hm hpre hargs Tryz.func128 fun B hB a0 hF => ?_
 refine wp_seq (rg hB TA_ok [0,3] [0,3] [] hF fun X0 a0 w1 hF => ?_)
 refine wp_seq (wp_seq (rg hB TA_ok [9,0,3] [0,3] [] hF fun X1 a0 w1 hF => ?_))
 apply test_ok hF rfl<;>intro hb hF
 ·have t0:l.len=64:=by subst hB; simpa [std,sC] using hb
  exact wp_ret ((rmm hB TA_ok hF (v:=()) (q:=p) A c (by simp [clnM,clnC,← hx0,← hx1,Rs.bind,t0])).1)
 have t0:¬ l.len=64:=by subst hB; simpa [std,sC] using hb
 have O1:=SC
 refine wp_skip (wp_seq (rg hB TA_ok [12,0,3,11] [0,3] [(1,.r fun _ => .agg [.int .i64 x0.len,.int .u64 x0.bits,.int .i64 x1.len,.int .u64 x1.bits])] hF fun X2 a0 w1 hF => ?_))
 refine wp_block (wp_loop_rounds 3 (rounds_first (wp_seq (rg hB TA_ok [13,0,3,11,12] [0,3] [] hF fun X3 a0 w1 hF => ?_))))
 replace hF:=hF.headS (v':=.bool .tt) (Sim.bool (by subst hB; rfl)) rfl
 refine wp_seq (test_tt hF rfl (fun hF => ?_))
 refine wp_skip (wp_seq (wp_block (wp_seq (rg hB TA_ok [0,3,5,11,12] [0,3,5] [] hF fun X4 a0 w1 hF => ?_))))
 apply wp_seq
 rcases (get_m 0 b J hJ A c p hp hn x0).two (fro_get _ _ _) hp hn with ⟨w50,p50,hm50,O1⟩ | ⟨g0,p50,hm50,hs50,hp50,hn50,S50⟩
 ·refine stp 2 hB TA_ok [15,16] [0] [] hF O1 fun _ _ _ _ hF hk => ?_
  exact thm (P:=Tryz.prog) (fn:=Tryz.f128) (q:=p50) hF hk (by simp [clnM,clnC,← hx0,← hx1,Rs.bind,t0,hm50])
 have hl50:=get_lt hm50
 have hg50:=hp.get hm50
 have O1:=S50
 refine rg hB TA_ok [0,3,5,6,11,12] [0,3,5,6] [(2,rc J (gotV g0) p50)] hF fun X5 a0 w1 hF => ?_
 obtain ⟨q0,hq0⟩:=eqv (gk g0 5)
 refine wp_seq (wp_seq ?_)
 refine rg hB TA_ok [21,0,3,5,6,11,12] [0,3,5,6] [(2,.r fun _ => .bool (.v q0))] hF (hob:=by intro X; subst hB; simp only [AO,Ob.holds,BE.den]<;>and_intros<;>repeat first | trivial | rfl | exact (by rw [hq0]; exact is1_s g0 _ _ 5 _ rfl) | exact by rw [hq0]; exact is1_s g0 _ _ 5 _ rfl | exact (fun _ _ => by kernel_rfl) | refine ⟨?_,?_⟩ | intro h | exact Int.le_refl _ | decide | omega) fun X6 a0 w1 hF => ?_
 apply test_ok hF rfl<;>intro hb hF
 ·have tq0:gk g0 5=false:=by subst hB; rw [← hq0]; revert hb; cases q0<;>simp [std]
  refine wp_exit (rg hB TA_ok [12,0,3,11] [0,3] [] hF fun X10 a0 w1 hF => ?_)
  replace hF:=hF.headS (v':=.int .i64 1) (by subst hB; exact zr) rfl
  refine rounds_next (wp_seq (rg hB TA_ok [13,0,3,11,12] [0,3] [] hF fun X3 a0 w1 hF => ?_))
  replace hF:=hF.headS (v':=.bool .tt) (Sim.bool (by subst hB; rfl)) rfl
  refine wp_seq (test_tt hF rfl (fun hF => ?_))
  refine wp_skip (wp_seq (wp_block (wp_seq (rg hB TA_ok [0,3,5,11,12] [0,3,5] [] hF fun X4 a0 w1 hF => ?_))))
  apply wp_seq
  rcases (get_m 0 b J hJ ((X5 2).A 0) ((X5 2).c 0) p50 hp50 hn50 x1).two (fro_get _ _ _) hp50 hn50 with ⟨w51,p51,hm51,O1⟩ | ⟨g1,p51,hm51,hs51,hp51,hn51,S51⟩
  ·refine stp 2 hB TA_ok [15,16] [0] [] hF O1 fun _ _ _ _ hF hk => ?_
   exact thm (P:=Tryz.prog) (fn:=Tryz.f128) (q:=p51) hF hk (by simp [clnM,clnC,← hx0,← hx1,Rs.bind,t0,hm50,tq0,hm51])
  have hl51:=get_lt hm51
  have hg51:=hp50.get hm51
  have O1:=S51
  refine rg hB TA_ok [0,3,5,6,11,12] [0,3,5,6] [(2,rc J (gotV g1) p51)] hF fun X5 a0 w1 hF => ?_
  obtain ⟨q1,hq1⟩:=eqv (gk g1 5)
  refine wp_seq (wp_seq ?_)
  refine rg hB TA_ok [21,0,3,5,6,11,12] [0,3,5,6] [(2,.r fun _ => .bool (.v q1))] hF (hob:=by intro X; subst hB; simp only [AO,Ob.holds,BE.den]<;>and_intros<;>repeat first | trivial | rfl | exact (by rw [hq1]; exact is1_s g1 _ _ 5 _ rfl) | exact by rw [hq1]; exact is1_s g1 _ _ 5 _ rfl | exact (fun _ _ => by kernel_rfl) | refine ⟨?_,?_⟩ | intro h | exact Int.le_refl _ | decide | omega) fun X6 a0 w1 hF => ?_
  apply test_ok hF rfl<;>intro hb hF
  ·have tq1:gk g1 5=false:=by subst hB; rw [← hq1]; revert hb; cases q1<;>simp [std]
   refine wp_exit (rg hB TA_ok [12,0,3,11] [0,3] [] hF fun X10 a0 w1 hF => ?_)
   replace hF:=hF.headS (v':=.int .i64 2) (by subst hB; exact zr) rfl
   refine rounds_next (wp_seq (rg hB TA_ok [13,0,3,11,12] [0,3] [] hF fun X3 a0 w1 hF => ?_))
   replace hF:=hF.headS (v':=.bool .ff) (Sim.bool (by subst hB; rfl)) rfl
   refine wp_seq (test_ff hF rfl (fun hF => ?_))
   exact wp_exit ((rmm hB TA_ok hF (v:=()) (q:=p51) ((X5 2).A 0) ((X5 2).c 0) (by simp [clnM,clnC,← hx0,← hx1,Rs.bind,t0,hm50,tq0,hm51,tq1])).2)
  have tq1:gk g1 5=true:=by subst hB; rw [← hq1]; revert hb; cases q1<;>simp [std]
  refine wp_skip (wp_seq ?_)
  rcases (ih 0 b J hJ ((X5 2).A 0) ((X5 2).c 0) p51 hp51 hn51 x1 hk1 (by have:=hs51.le; have:=hl51; have:=(Suf.trans (Suf.refl p) hs50).le; omega)).two (fro_cln _ _ _ _) hp51 hn51 with ⟨w71,p71,hm71,O1⟩ | ⟨v71,p71,hm71,hs71,hp71,hn71,S71⟩
  ·refine stp 2 hB TA_ok [22,23] [0] [] hF O1 fun _ _ _ _ hF hk => ?_
   exact thm (P:=Tryz.prog) (fn:=Tryz.f128) (q:=p71) hF hk (by simp [clnM,clnC,← hx0,← hx1,Rs.bind,t0,hm50,tq0,hm51,tq1,hm71])
  have O1:=S71
  refine rg hB TA_ok [0,3,5,6,11,12] [0,3,5,6] [(2,rc J (unitV) p71)] hF fun X7 a0 w1 hF => ?_
  refine wp_seq (wp_seq ?_)
  rcases (get_m 0 b J hJ ((X7 2).A 0) ((X7 2).c 0) p71 hp71 hn71 l).two (fro_get _ _ _) hp71 hn71 with ⟨w81,p81,hm81,O1⟩ | ⟨h1,p81,hm81,hs81,hp81,hn81,S81⟩
  ·refine stp 2 hB TA_ok [25,26] [0] [] hF O1 fun _ _ _ _ hF hk => ?_
   exact thm (P:=Tryz.prog) (fn:=Tryz.f128) (q:=p81) hF hk (by simp [clnM,clnC,← hx0,← hx1,Rs.bind,t0,hm50,tq0,hm51,tq1,hm71,hm81])
  have hl81:=get_lt hm81
  have hg81:=hp71.get hm81
  obtain ⟨r1,hr1⟩:=eqv ((gk h1 1 || gk h1 5))
  refine rg hB TA_ok [30,0,3,5,6,11,12] [0,3,5,6] [(4,.r fun _ => .bool (.v r1)),(2,rc J (gotV h1) p81)] hF (hob:=by intro X; subst hB; simp only [AO,Ob.holds,BE.den]<;>and_intros<;>repeat first | trivial | rfl | exact S81 | exact (by rw [hr1]; exact is2_s h1 _ _ 1 5 _ rfl rfl) | exact by rw [hr1]; exact is2_s h1 _ _ 1 5 _ rfl rfl | exact (fun _ _ => by kernel_rfl) | refine ⟨?_,?_⟩ | intro h | exact Int.le_refl _ | decide | omega) fun X8 a0 w1 hF => ?_
  apply test_ok hF rfl<;>intro hb hF
  ·have tr1:(gk h1 1 || gk h1 5)=false:=by subst hB; rw [← hr1]; revert hb; cases r1<;>simp [std]
   exact wp_ret ((rmm hB TA_ok hF (v:=()) (q:=p81) ((X8 2).A 0) ((X8 2).c 0) (by simp [clnM,clnC,← hx0,← hx1,Rs.bind,t0,hm50,tq0,hm51,tq1,hm71,hm81,tr1])).1)
  have tr1:(gk h1 1 || gk h1 5)=true:=by subst hB; rw [← hr1]; revert hb; cases r1<;>simp [std]
  refine wp_skip ?_
  rcases (del_m 0 b J hJ ((X8 2).A 0) ((X8 2).c 0) p81 hp81 hn81 x1 g1.ver).two (fro_del _ _ _ _) hp81 hn81 with ⟨w91,p91,hm91,O1⟩ | ⟨d1,p91,hm91,hs91,hp91,hn91,S91⟩
  ·refine stp 4 hB TA_ok [31,32,34] [0] [] hF O1 fun _ _ _ _ hF hk => ?_
   exact thm (P:=Tryz.prog) (fn:=Tryz.f128) (q:=p91) hF hk (by simp [clnM,clnC,← hx0,← hx1,Rs.bind,t0,hm50,tq0,hm51,tq1,hm71,hm81,tr1,hm91])
  have O1:=S91
  refine rg hB TA_ok [0,3,11,12] [0,3] [(4,rc J (.bool (.v d1)) p91)] hF fun X9 a0 w1 hF => ?_
  refine rg hB TA_ok [12,0,3,11] [0,3] [] hF fun X10 a0 w1 hF => ?_
  replace hF:=hF.headS (v':=.int .i64 2) (by subst hB; exact zr) rfl
  refine rounds_next (wp_seq (rg hB TA_ok [13,0,3,11,12] [0,3] [] hF fun X3 a0 w1 hF => ?_))
  replace hF:=hF.headS (v':=.bool .ff) (Sim.bool (by subst hB; rfl)) rfl
  refine wp_seq (test_ff hF rfl (fun hF => ?_))
  exact wp_exit ((rmm hB TA_ok hF (v:=()) (q:=p91) ((X9 4).A 0) ((X9 4).c 0) (by simp [clnM,clnC,← hx0,← hx1,Rs.bind,t0,hm50,tq0,hm51,tq1,hm71,hm81,tr1,hm91])).2)
 have tq0:gk g0 5=true:=by subst hB; rw [← hq0]; revert hb; cases q0<;>simp [std]
 refine wp_skip (wp_seq ?_)
 rcases (ih 0 b J hJ ((X5 2).A 0) ((X5 2).c 0) p50 hp50 hn50 x0 hk0 (by have:=hs50.le; have:=hl50; have:=(Suf.refl p).le; omega)).two (fro_cln _ _ _ _) hp50 hn50 with ⟨w70,p70,hm70,O1⟩ | ⟨v70,p70,hm70,hs70,hp70,hn70,S70⟩
 ·refine stp 2 hB TA_ok [22,23] [0] [] hF O1 fun _ _ _ _ hF hk => ?_
  exact thm (P:=Tryz.prog) (fn:=Tryz.f128) (q:=p70) hF hk (by simp [clnM,clnC,← hx0,← hx1,Rs.bind,t0,hm50,tq0,hm70])
 have O1:=S70
 refine rg hB TA_ok [0,3,5,6,11,12] [0,3,5,6] [(2,rc J (unitV) p70)] hF fun X7 a0 w1 hF => ?_
 refine wp_seq (wp_seq ?_)
 rcases (get_m 0 b J hJ ((X7 2).A 0) ((X7 2).c 0) p70 hp70 hn70 l).two (fro_get _ _ _) hp70 hn70 with ⟨w80,p80,hm80,O1⟩ | ⟨h0,p80,hm80,hs80,hp80,hn80,S80⟩
 ·refine stp 2 hB TA_ok [25,26] [0] [] hF O1 fun _ _ _ _ hF hk => ?_
  exact thm (P:=Tryz.prog) (fn:=Tryz.f128) (q:=p80) hF hk (by simp [clnM,clnC,← hx0,← hx1,Rs.bind,t0,hm50,tq0,hm70,hm80])
 have hl80:=get_lt hm80
 have hg80:=hp70.get hm80
 obtain ⟨r0,hr0⟩:=eqv ((gk h0 1 || gk h0 5))
 refine rg hB TA_ok [30,0,3,5,6,11,12] [0,3,5,6] [(4,.r fun _ => .bool (.v r0)),(2,rc J (gotV h0) p80)] hF (hob:=by intro X; subst hB; simp only [AO,Ob.holds,BE.den]<;>and_intros<;>repeat first | trivial | rfl | exact S80 | exact (by rw [hr0]; exact is2_s h0 _ _ 1 5 _ rfl rfl) | exact by rw [hr0]; exact is2_s h0 _ _ 1 5 _ rfl rfl | exact (fun _ _ => by kernel_rfl) | refine ⟨?_,?_⟩ | intro h | exact Int.le_refl _ | decide | omega) fun X8 a0 w1 hF => ?_
 apply test_ok hF rfl<;>intro hb hF
 ·have tr0:(gk h0 1 || gk h0 5)=false:=by subst hB; rw [← hr0]; revert hb; cases r0<;>simp [std]
  exact wp_ret ((rmm hB TA_ok hF (v:=()) (q:=p80) ((X8 2).A 0) ((X8 2).c 0) (by simp [clnM,clnC,← hx0,← hx1,Rs.bind,t0,hm50,tq0,hm70,hm80,tr0])).1)
 have tr0:(gk h0 1 || gk h0 5)=true:=by subst hB; rw [← hr0]; revert hb; cases r0<;>simp [std]
 refine wp_skip ?_
 rcases (del_m 0 b J hJ ((X8 2).A 0) ((X8 2).c 0) p80 hp80 hn80 x0 g0.ver).two (fro_del _ _ _ _) hp80 hn80 with ⟨w90,p90,hm90,O1⟩ | ⟨d0,p90,hm90,hs90,hp90,hn90,S90⟩
 ·refine stp 4 hB TA_ok [31,32,34] [0] [] hF O1 fun _ _ _ _ hF hk => ?_
  exact thm (P:=Tryz.prog) (fn:=Tryz.f128) (q:=p90) hF hk (by simp [clnM,clnC,← hx0,← hx1,Rs.bind,t0,hm50,tq0,hm70,hm80,tr0,hm90])
 have O1:=S90
 refine rg hB TA_ok [0,3,11,12] [0,3] [(4,rc J (.bool (.v d0)) p90)] hF fun X9 a0 w1 hF => ?_
 refine rg hB TA_ok [12,0,3,11] [0,3] [] hF fun X10 a0 w1 hF => ?_
 replace hF:=hF.headS (v':=.int .i64 1) (by subst hB; exact zr) rfl
 refine rounds_next (wp_seq (rg hB TA_ok [13,0,3,11,12] [0,3] [] hF fun X3 a0 w1 hF => ?_))
 replace hF:=hF.headS (v':=.bool .tt) (Sim.bool (by subst hB; rfl)) rfl
 refine wp_seq (test_tt hF rfl (fun hF => ?_))
 refine wp_skip (wp_seq (wp_block (wp_seq (rg hB TA_ok [0,3,5,11,12] [0,3,5] [] hF fun X4 a0 w1 hF => ?_))))
 apply wp_seq
 rcases (get_m 0 b J hJ ((X9 4).A 0) ((X9 4).c 0) p90 hp90 hn90 x1).two (fro_get _ _ _) hp90 hn90 with ⟨w51,p51,hm51,O1⟩ | ⟨g1,p51,hm51,hs51,hp51,hn51,S51⟩
 ·refine stp 2 hB TA_ok [15,16] [0] [] hF O1 fun _ _ _ _ hF hk => ?_
  exact thm (P:=Tryz.prog) (fn:=Tryz.f128) (q:=p51) hF hk (by simp [clnM,clnC,← hx0,← hx1,Rs.bind,t0,hm50,tq0,hm70,hm80,tr0,hm90,hm51])
 have hl51:=get_lt hm51
 have hg51:=hp90.get hm51
 have O1:=S51
 refine rg hB TA_ok [0,3,5,6,11,12] [0,3,5,6] [(2,rc J (gotV g1) p51)] hF fun X5 a0 w1 hF => ?_
 obtain ⟨q1,hq1⟩:=eqv (gk g1 5)
 refine wp_seq (wp_seq ?_)
 refine rg hB TA_ok [21,0,3,5,6,11,12] [0,3,5,6] [(2,.r fun _ => .bool (.v q1))] hF (hob:=by intro X; subst hB; simp only [AO,Ob.holds,BE.den]<;>and_intros<;>repeat first | trivial | rfl | exact (by rw [hq1]; exact is1_s g1 _ _ 5 _ rfl) | exact by rw [hq1]; exact is1_s g1 _ _ 5 _ rfl | exact (fun _ _ => by kernel_rfl) | refine ⟨?_,?_⟩ | intro h | exact Int.le_refl _ | decide | omega) fun X6 a0 w1 hF => ?_
 apply test_ok hF rfl<;>intro hb hF
 ·have tq1:gk g1 5=false:=by subst hB; rw [← hq1]; revert hb; cases q1<;>simp [std]
  refine wp_exit (rg hB TA_ok [12,0,3,11] [0,3] [] hF fun X10 a0 w1 hF => ?_)
  replace hF:=hF.headS (v':=.int .i64 2) (by subst hB; exact zr) rfl
  refine rounds_next (wp_seq (rg hB TA_ok [13,0,3,11,12] [0,3] [] hF fun X3 a0 w1 hF => ?_))
  replace hF:=hF.headS (v':=.bool .ff) (Sim.bool (by subst hB; rfl)) rfl
  refine wp_seq (test_ff hF rfl (fun hF => ?_))
  exact wp_exit ((rmm hB TA_ok hF (v:=()) (q:=p51) ((X5 2).A 0) ((X5 2).c 0) (by simp [clnM,clnC,← hx0,← hx1,Rs.bind,t0,hm50,tq0,hm70,hm80,tr0,hm90,hm51,tq1])).2)
 have tq1:gk g1 5=true:=by subst hB; rw [← hq1]; revert hb; cases q1<;>simp [std]
 refine wp_skip (wp_seq ?_)
 rcases (ih 0 b J hJ ((X5 2).A 0) ((X5 2).c 0) p51 hp51 hn51 x1 hk1 (by have:=hs51.le; have:=hl51; have:=(Suf.trans (Suf.trans (Suf.trans (Suf.trans (Suf.refl p) hs50) hs70) hs80) hs90).le; omega)).two (fro_cln _ _ _ _) hp51 hn51 with ⟨w71,p71,hm71,O1⟩ | ⟨v71,p71,hm71,hs71,hp71,hn71,S71⟩
 ·refine stp 2 hB TA_ok [22,23] [0] [] hF O1 fun _ _ _ _ hF hk => ?_
  exact thm (P:=Tryz.prog) (fn:=Tryz.f128) (q:=p71) hF hk (by simp [clnM,clnC,← hx0,← hx1,Rs.bind,t0,hm50,tq0,hm70,hm80,tr0,hm90,hm51,tq1,hm71])
 have O1:=S71
 refine rg hB TA_ok [0,3,5,6,11,12] [0,3,5,6] [(2,rc J (unitV) p71)] hF fun X7 a0 w1 hF => ?_
 refine wp_seq (wp_seq ?_)
 rcases (get_m 0 b J hJ ((X7 2).A 0) ((X7 2).c 0) p71 hp71 hn71 l).two (fro_get _ _ _) hp71 hn71 with ⟨w81,p81,hm81,O1⟩ | ⟨h1,p81,hm81,hs81,hp81,hn81,S81⟩
 ·refine stp 2 hB TA_ok [25,26] [0] [] hF O1 fun _ _ _ _ hF hk => ?_
  exact thm (P:=Tryz.prog) (fn:=Tryz.f128) (q:=p81) hF hk (by simp [clnM,clnC,← hx0,← hx1,Rs.bind,t0,hm50,tq0,hm70,hm80,tr0,hm90,hm51,tq1,hm71,hm81])
 have hl81:=get_lt hm81
 have hg81:=hp71.get hm81
 obtain ⟨r1,hr1⟩:=eqv ((gk h1 1 || gk h1 5))
 refine rg hB TA_ok [30,0,3,5,6,11,12] [0,3,5,6] [(4,.r fun _ => .bool (.v r1)),(2,rc J (gotV h1) p81)] hF (hob:=by intro X; subst hB; simp only [AO,Ob.holds,BE.den]<;>and_intros<;>repeat first | trivial | rfl | exact S81 | exact (by rw [hr1]; exact is2_s h1 _ _ 1 5 _ rfl rfl) | exact by rw [hr1]; exact is2_s h1 _ _ 1 5 _ rfl rfl | exact (fun _ _ => by kernel_rfl) | refine ⟨?_,?_⟩ | intro h | exact Int.le_refl _ | decide | omega) fun X8 a0 w1 hF => ?_
 apply test_ok hF rfl<;>intro hb hF
 ·have tr1:(gk h1 1 || gk h1 5)=false:=by subst hB; rw [← hr1]; revert hb; cases r1<;>simp [std]
  exact wp_ret ((rmm hB TA_ok hF (v:=()) (q:=p81) ((X8 2).A 0) ((X8 2).c 0) (by simp [clnM,clnC,← hx0,← hx1,Rs.bind,t0,hm50,tq0,hm70,hm80,tr0,hm90,hm51,tq1,hm71,hm81,tr1])).1)
 have tr1:(gk h1 1 || gk h1 5)=true:=by subst hB; rw [← hr1]; revert hb; cases r1<;>simp [std]
 refine wp_skip ?_
 rcases (del_m 0 b J hJ ((X8 2).A 0) ((X8 2).c 0) p81 hp81 hn81 x1 g1.ver).two (fro_del _ _ _ _) hp81 hn81 with ⟨w91,p91,hm91,O1⟩ | ⟨d1,p91,hm91,hs91,hp91,hn91,S91⟩
 ·refine stp 4 hB TA_ok [31,32,34] [0] [] hF O1 fun _ _ _ _ hF hk => ?_
  exact thm (P:=Tryz.prog) (fn:=Tryz.f128) (q:=p91) hF hk (by simp [clnM,clnC,← hx0,← hx1,Rs.bind,t0,hm50,tq0,hm70,hm80,tr0,hm90,hm51,tq1,hm71,hm81,tr1,hm91])
 have O1:=S91
 refine rg hB TA_ok [0,3,11,12] [0,3] [(4,rc J (.bool (.v d1)) p91)] hF fun X9 a0 w1 hF => ?_
 refine rg hB TA_ok [12,0,3,11] [0,3] [] hF fun X10 a0 w1 hF => ?_
 replace hF:=hF.headS (v':=.int .i64 2) (by subst hB; exact zr) rfl
 refine rounds_next (wp_seq (rg hB TA_ok [13,0,3,11,12] [0,3] [] hF fun X3 a0 w1 hF => ?_))
 replace hF:=hF.headS (v':=.bool .ff) (Sim.bool (by subst hB; rfl)) rfl
 refine wp_seq (test_ff hF rfl (fun hF => ?_))
 exact wp_exit ((rmm hB TA_ok hF (v:=()) (q:=p91) ((X9 4).A 0) ((X9 4).c 0) (by simp [clnM,clnC,← hx0,← hx1,Rs.bind,t0,hm50,tq0,hm70,hm80,tr0,hm90,hm51,tq1,hm71,hm81,tr1,hm91])).2)
theorem clns_m (k0 b:Nat) (J:JobA) (hJ:JobOk J) (A:Option Addr) (c:Nat) (p:Pst) (hp:PstOk p) (hn:p.n ≤ 1000000) (l:Lab) (hl:LOk l) (n:Nat) (ih:ClC n) (hf:p.n < n + 1):RunS 128 k0 b J A c p [labAV l] (fun _ => unitV) (clnM J.budget (n + 1) l p):=RunS.re (clns_m0 b J hJ A c p hp hn l hl n ih hf) (by repeat (first | exact trivial | refine ⟨zr,?_⟩))
theorem cln_c:∀ n,ClC n
 | 0 => fun _ _ _ _ _ _ _ _ _ _ _ h => absurd h (Nat.not_lt_zero _)
 | n + 1 => fun k0 b J hJ A c p hp hn l hl hf => clns_m k0 b J hJ A c p hp hn l hl n (cln_c n) hf
theorem spl_m0 (b:Nat) (J:JobA) (hJ:JobOk J) (A:Option Addr) (c:Nat) (p:Pst) (hp:PstOk p) (hn:p.n ≤ 1000000) (l:Lab) (hl:LOk l) (v:Int) (x:RA) (hx:RaOk x) (n:Nat) (hf:p.n < n):RunS 117 0 b J A c p [labAV l,.int .u64 v,recV x] (fun _ => unitV) (splitM J.budget n l v x p):=by
 intro m w hm hargs hpre
 have SC:=chi_s l hl.u
 have hk0:=hl.ch 0
 have hk1:=hl.ch 1
 simp only [labAV] at SC
 obtain ⟨x0,hx0⟩:=eqv (chV l 0)
 rw [← hx0] at SC hk0
 obtain ⟨x1,hx1⟩:=eqv (chV l 1)
 rw [← hx1] at SC hk1
 have SH:=halv_c x hx l hl.u
 obtain ⟨e,he⟩:=eqv ((halvA x l).2.2)
 rw [← he] at SH
 obtain ⟨r0,hr0⟩:=eqv ((halvA x l).1.rn)
 rw [← hr0] at SH
 obtain ⟨r1,hr1⟩:=eqv ((halvA x l).2.1.rn)
 rw [← hr1] at SH
 have ha0:r0.abs=(halvA x l).1:=by rw [hr0]; exact rn_abs _
 have ha1:r1.abs=(halvA x l).2.1:=by rw [hr1]; exact rn_abs _
 simp only [labAV] at SH
 refine enX 63 hm hpre hargs Tryz.func117 fun B hB a0 hF => ?_
 refine wp_seq (rg hB TA_ok [0,2,5,7] [0,5,7] [] hF fun X0 a0 w1 hF => ?_)
 have O1:=SH
 refine wp_seq (rg hB TA_ok [0,2,5,8,9,10] [0,5,8,9] [(2,.r fun y => .tup [.agg [.int .i64 r0.kd,.sl none (y.A 0) r0.n (y.c 0) 2 (fun i => itC (r0.f i)),.int .i64 r0.nx.len,.int .u64 r0.nx.bits,.int .u64 r0.mrk],.agg [.int .i64 r1.kd,.sl none (y.A 1) r1.n (y.c 1) 2 (fun i => itC (r1.f i)),.int .i64 r1.nx.len,.int .u64 r1.nx.bits,.int .u64 r1.mrk],.int .i64 e])] hF fun X1 a0 w1 hF => ?_)
 refine wp_seq (wp_seq (rg hB TA_ok [23,0,2,5,8,9] [0,5,8,9] [] hF fun X2 a0 w1 hF => ?_))
 apply test_ok hF rfl<;>intro hb hF
 ·have t0:¬ e=0:=by subst hB; simpa [std,sC] using hb
  exact wp_ret ((rmm hB TA_ok hF (v:=()) (q:=p) A c (by simp [splitM,splC,← hx0,← hx1,← ha0,← ha1,← he,Rs.bind,t0])).1)
 have t0:e=0:=by subst hB; simpa [std,sC] using hb
 refine wp_skip (wp_seq (rg hB TA_ok [0,2,5,11] [0,5,11] [] hF fun X3 a0 w1 hF => ?_))
 have O1:=SC
 refine wp_seq (wp_seq (rg hB TA_ok [29,0,2,5,11,28] [0,5,11] [(1,.r fun _ => .agg [.int .i64 x0.len,.int .u64 x0.bits,.int .i64 x1.len,.int .u64 x1.bits])] hF fun X4 a0 w1 hF => ?_))
 refine wp_block (wp_loop_rounds 3 (rounds_first (wp_seq (rg hB TA_ok [30,0,2,5,11,28,29] [0,5,11] [] hF fun X5 a0 w1 hF => ?_))))
 replace hF:=hF.headS (v':=.bool .tt) (Sim.bool (by subst hB; rfl)) rfl
 refine wp_seq (test_tt hF rfl (fun hF => ?_))
 refine wp_skip (wp_seq (wp_block (wp_seq (rg hB TA_ok [0,2,5,11,12,13,28,29] [0,5,11,13] [] hF fun X6 a0 w1 hF => ?_))))
 refine wp_block (loop_pre (ι:=Nat × Pst × Option Addr × Nat) (fun q => []) (fun q => [(0,⟨b,148,runC J q.2.2.1 q.2.2.2 q.2.1⟩)]) (fun q => []) (fun q => splC J.budget l v x0 r0.abs n p=splC J.budget l v x0 r0.abs q.1 q.2.1 ∧ PstOk q.2.1 ∧ q.2.1.n ≤ 1000000 ∧ q.2.1.n < q.1 ∧ q.2.1.n ≤ p.n) (fun q => q.1) (n,p,A,c) ⟨rfl,hp,hn,(by dsimp only; skip; omega),(by dsimp only; skip; omega)⟩ hF ?_)
 rintro ⟨nn0,p0,A0,c0⟩ ⟨hrun0,hp0,hn0,hf0,hle0⟩ a0 w1 hF
 try dsimp only at hrun0
 try dsimp only at hp0
 try dsimp only at hn0
 try dsimp only at hf0
 try dsimp only at hle0
 obtain ⟨m0,rfl⟩:∃ n2,nn0=n2 + 1:=⟨nn0 - 1,by omega⟩
 refine wp_block (wp_seq ?_)
 rcases (get_m 0 b J hJ A0 c0 p0 hp0 hn0 x0).two (fro_get _ _ _) hp0 hn0 with ⟨w70,p70,hm70,O1⟩ | ⟨g0,p70,hm70,hs70,hp70,hn70,S70⟩
 ·refine stp 2 hB TA_ok [33,34] [0] [] hF O1 fun _ _ _ _ hF hk => ?_
  exact thm (P:=Tryz.prog) (fn:=Tryz.f117) (q:=p70) hF hk (by simp [splitM,splC,← hx0,← hx1,← ha0,← ha1,← he,Rs.bind,t0,hrun0,hm70])
 have hl70:=get_lt hm70
 have hg70:=hp0.get hm70
 have O1:=S70
 refine rg hB TA_ok [0,2,5,11,12,13,14,28,29] [0,5,11,13,14] [(2,rc J (gotV g0) p70)] hF fun X7 a0 w1 hF => ?_
 refine wp_seq (wp_seq (rg hB TA_ok [43,0,2,5,11,12,13,14,28,29] [0,5,11,13,14] [] hF fun X8 a0 w1 hF => ?_))
 apply test_ok hF rfl<;>intro hb hF
 ·have tq0:(g0.has && !decide (g0.x.r.kd=5))=true:=by
   have h9:(if g0.has=true then !decide (g0.x.r.kd=5) else false)=true:=by
    have h8:(if g0.has=true then (g0.x.r.kd != 5) else false)=true:=by subst hB; exact hb
    exact h8
   rw [← h9]; cases g0.has<;>rfl
  refine wp_exit (rg hB TA_ok [29,0,2,5,11,28] [0,5,11] [] hF fun X11 a0 w1 hF => ?_)
  replace hF:=hF.headS (v':=.int .i64 1) (by subst hB; exact zr) rfl
  refine rounds_next (wp_seq (rg hB TA_ok [30,0,2,5,11,28,29] [0,5,11] [] hF fun X5 a0 w1 hF => ?_))
  replace hF:=hF.headS (v':=.bool .tt) (Sim.bool (by subst hB; rfl)) rfl
  refine wp_seq (test_tt hF rfl (fun hF => ?_))
  refine wp_skip (wp_seq (wp_block (wp_seq (rg hB TA_ok [0,2,5,11,12,13,28,29] [0,5,11,13] [] hF fun X6 a0 w1 hF => ?_))))
  refine wp_block (loop_pre (ι:=Nat × Pst × Option Addr × Nat) (fun q => []) (fun q => [(0,⟨b,148,runC J q.2.2.1 q.2.2.2 q.2.1⟩)]) (fun q => []) (fun q => splC J.budget l v x1 r1.abs n p70=splC J.budget l v x1 r1.abs q.1 q.2.1 ∧ PstOk q.2.1 ∧ q.2.1.n ≤ 1000000 ∧ q.2.1.n < q.1 ∧ q.2.1.n ≤ p.n) (fun q => q.1) (n,p70,((X7 2).A 0),((X7 2).c 0)) ⟨rfl,hp70,hn70,(by dsimp only; have:=hle0; have:=hs70.le; omega),(by dsimp only; have:=hle0; have:=hs70.le; omega)⟩ hF ?_)
  rintro ⟨nn1,p1,A1,c1⟩ ⟨hrun1,hp1,hn1,hf1,hle1⟩ a0 w1 hF
  try dsimp only at hrun1
  try dsimp only at hp1
  try dsimp only at hn1
  try dsimp only at hf1
  try dsimp only at hle1
  obtain ⟨m1,rfl⟩:∃ n2,nn1=n2 + 1:=⟨nn1 - 1,by omega⟩
  refine wp_block (wp_seq ?_)
  rcases (get_m 0 b J hJ A1 c1 p1 hp1 hn1 x1).two (fro_get _ _ _) hp1 hn1 with ⟨w71,p71,hm71,O1⟩ | ⟨g1,p71,hm71,hs71,hp71,hn71,S71⟩
  ·refine stp 2 hB TA_ok [33,34] [0] [] hF O1 fun _ _ _ _ hF hk => ?_
   exact thm (P:=Tryz.prog) (fn:=Tryz.f117) (q:=p71) hF hk (by simp [splitM,splC,← hx0,← hx1,← ha0,← ha1,← he,Rs.bind,t0,hrun0,hm70,tq0,hrun1,hm71])
  have hl71:=get_lt hm71
  have hg71:=hp1.get hm71
  have O1:=S71
  refine rg hB TA_ok [0,2,5,11,12,13,14,28,29] [0,5,11,13,14] [(2,rc J (gotV g1) p71)] hF fun X7 a0 w1 hF => ?_
  refine wp_seq (wp_seq (rg hB TA_ok [43,0,2,5,11,12,13,14,28,29] [0,5,11,13,14] [] hF fun X8 a0 w1 hF => ?_))
  apply test_ok hF rfl<;>intro hb hF
  ·have tq1:(g1.has && !decide (g1.x.r.kd=5))=true:=by
    have h9:(if g1.has=true then !decide (g1.x.r.kd=5) else false)=true:=by
     have h8:(if g1.has=true then (g1.x.r.kd != 5) else false)=true:=by subst hB; exact hb
     exact h8
    rw [← h9]; cases g1.has<;>rfl
   refine wp_exit (rg hB TA_ok [29,0,2,5,11,28] [0,5,11] [] hF fun X11 a0 w1 hF => ?_)
   replace hF:=hF.headS (v':=.int .i64 2) (by subst hB; exact zr) rfl
   refine rounds_next (wp_seq (rg hB TA_ok [30,0,2,5,11,28,29] [0,5,11] [] hF fun X5 a0 w1 hF => ?_))
   replace hF:=hF.headS (v':=.bool .ff) (Sim.bool (by subst hB; rfl)) rfl
   refine wp_seq (test_ff hF rfl (fun hF => ?_))
   refine wp_exit ?_
   rcases (casi_m 0 b J hJ ((X7 2).A 0) ((X7 2).c 0) p71 hp71 hn71 l v).two (fro_cas _ _ _ _ _) hp71 hn71 with ⟨w12,p12,hm12,O1⟩ | ⟨d2,p12,hm12,hs12,hp12,hn12,S12⟩
   ·have O2:=inn_s
    refine stpD 4 hB TA_ok [58,59,60,61] [0] [(3,.r fun _ => .agg [.int .i64 2,.sl none none 0 0 2 (fun _ => []),.int .i64 (-1),.int .u64 0,.int .u64 0])] hF O1 fun _ _ _ _ hF hk => ?_
    exact thm (P:=Tryz.prog) (fn:=Tryz.f117) (q:=p12) hF hk (by simp [splitM,splC,← hx0,← hx1,← ha0,← ha1,← he,Rs.bind,t0,hrun0,hm70,tq0,hrun1,hm71,tq1,hm12])
   have O1:=inn_s
   have O2:=S12
   refine drg hB TA_ok [] [0] [(3,.r fun _ => .agg [.int .i64 2,.sl none none 0 0 2 (fun _ => []),.int .i64 (-1),.int .u64 0,.int .u64 0]),(4,rc J (.bool (.v d2)) p12)] hF fun X12 a0 w1 hF => ?_
   exact (rmm hB TA_ok hF (v:=()) (q:=p12) ((X12 4).A 0) ((X12 4).c 0) (by simp [splitM,splC,← hx0,← hx1,← ha0,← ha1,← he,Rs.bind,t0,hrun0,hm70,tq0,hrun1,hm71,tq1,hm12])).2
  have tq1:(g1.has && !decide (g1.x.r.kd=5))=false:=by
   have h9:(if g1.has=true then !decide (g1.x.r.kd=5) else false)=false:=by
    have h8:(if g1.has=true then (g1.x.r.kd != 5) else false)=false:=by subst hB; exact hb
    exact h8
   rw [← h9]; cases g1.has<;>rfl
  refine wp_skip (wp_seq (wp_seq ?_))
  rcases (still_m 0 b J hJ ((X7 2).A 0) ((X7 2).c 0) p71 hp71 hn71 l v).two (fro_get _ _ _) hp71 hn71 with ⟨w91,p91,hm91,O1⟩ | ⟨h1,p91,hm91,hs91,hp91,hn91,S91⟩
  ·refine stp 3 hB TA_ok [44,45,46] [0] [] hF O1 fun _ _ _ _ hF hk => ?_
   exact thm (P:=Tryz.prog) (fn:=Tryz.f117) (q:=p91) hF hk (by simp [splitM,splC,← hx0,← hx1,← ha0,← ha1,← he,Rs.bind,t0,hrun0,hm70,tq0,hrun1,hm71,tq1,hm91])
  have hl91:=get_lt hm91
  have hg91:=hp71.get hm91
  try dsimp only at S91
  obtain ⟨e1,he1⟩:=eqv (decide (h1.ver=v))
  rw [← he1] at S91
  have O1:=S91
  refine rg hB TA_ok [48,0,2,5,11,12,13,14,28,29] [0,5,11,13,14] [(3,rc J (.bool (.v e1)) p91)] hF fun X9 a0 w1 hF => ?_
  apply test_ok hF rfl<;>intro hb hF
  ·have t91:¬ h1.ver=v:=by
    have h9:(!e1)=true:=by subst hB; exact hb
    rw [he1] at h9; simpa using h9
   exact wp_ret ((rmm hB TA_ok hF (v:=()) (q:=p91) ((X9 3).A 0) ((X9 3).c 0) (by simp [splitM,splC,← hx0,← hx1,← ha0,← ha1,← he,Rs.bind,t0,hrun0,hm70,tq0,hrun1,hm71,tq1,hm91,t91])).1)
  have t91:h1.ver=v:=by
   have h9:(!e1)=false:=by subst hB; exact hb
   rw [he1] at h9; simpa using h9
  refine wp_skip (wp_seq ?_)
  rcases (cas_m 0 b J hJ ((X9 3).A 0) ((X9 3).c 0) p91 hp91 hn91 x1 g1.ver ⟨(X1 2).A 1,(X1 2).c 1,r1⟩).two (fro_cas _ _ _ _ _) hp91 hn91 with ⟨w101,p101,hm101,O1⟩ | ⟨d1,p101,hm101,hs101,hp101,hn101,S101⟩
  ·refine stpD 7 hB TA_ok [49,50,52,55] [0] [] hF O1 fun _ _ _ _ hF hk => ?_
   exact thm (P:=Tryz.prog) (fn:=Tryz.f117) (q:=p101) hF hk (by simp [splitM,splC,← hx0,← hx1,← ha0,← ha1,← he,Rs.bind,t0,hrun0,hm70,tq0,hrun1,hm71,tq1,hm91,t91,hm101])
  have O1:=S101
  refine drg hB TA_ok [56,0,2,5,11,12,13,28,29] [0,5,11,13] [(7,rc J (.bool (.v d1)) p101)] hF fun X10 a0 w1 hF => ?_
  apply test_ok hF rfl<;>intro hb hF
  ·have td1:d1=true:=by exact hb
   refine wp_exit (rg hB TA_ok [29,0,2,5,11,28] [0,5,11] [] hF fun X11 a0 w1 hF => ?_)
   replace hF:=hF.headS (v':=.int .i64 2) (by subst hB; exact zr) rfl
   refine rounds_next (wp_seq (rg hB TA_ok [30,0,2,5,11,28,29] [0,5,11] [] hF fun X5 a0 w1 hF => ?_))
   replace hF:=hF.headS (v':=.bool .ff) (Sim.bool (by subst hB; rfl)) rfl
   refine wp_seq (test_ff hF rfl (fun hF => ?_))
   refine wp_exit ?_
   rcases (casi_m 0 b J hJ ((X10 7).A 0) ((X10 7).c 0) p101 hp101 hn101 l v).two (fro_cas _ _ _ _ _) hp101 hn101 with ⟨w12,p12,hm12,O1⟩ | ⟨d2,p12,hm12,hs12,hp12,hn12,S12⟩
   ·have O2:=inn_s
    refine stpD 4 hB TA_ok [58,59,60,61] [0] [(3,.r fun _ => .agg [.int .i64 2,.sl none none 0 0 2 (fun _ => []),.int .i64 (-1),.int .u64 0,.int .u64 0])] hF O1 fun _ _ _ _ hF hk => ?_
    exact thm (P:=Tryz.prog) (fn:=Tryz.f117) (q:=p12) hF hk (by simp [splitM,splC,← hx0,← hx1,← ha0,← ha1,← he,Rs.bind,t0,hrun0,hm70,tq0,hrun1,hm71,tq1,hm91,t91,hm101,td1,hm12])
   have O1:=inn_s
   have O2:=S12
   refine drg hB TA_ok [] [0] [(3,.r fun _ => .agg [.int .i64 2,.sl none none 0 0 2 (fun _ => []),.int .i64 (-1),.int .u64 0,.int .u64 0]),(4,rc J (.bool (.v d2)) p12)] hF fun X12 a0 w1 hF => ?_
   exact (rmm hB TA_ok hF (v:=()) (q:=p12) ((X12 4).A 0) ((X12 4).c 0) (by simp [splitM,splC,← hx0,← hx1,← ha0,← ha1,← he,Rs.bind,t0,hrun0,hm70,tq0,hrun1,hm71,tq1,hm91,t91,hm101,td1,hm12])).2
  have td1:d1=false:=by exact hb
  replace hF:=hF.keep [0,2,5,11,12,13,28,29] [0,5,11,13]
  exact wp_skip (⟨(m1,p101,_,_),⟨by rw [hrun1]; simp [splC,Rs.bind,t0,hrun0,hm70,tq0,hrun1,hm71,tq1,hm91,t91,hm101,td1],hp101,hn101,by dsimp only; have:=hl71; have:=hs91.le; have:=hs101.le; have:=hf1; omega,by dsimp only; have:=hl71; have:=hs91.le; have:=hs101.le; have:=hle1; omega⟩,by simp only; omega,hF⟩)
 have tq0:(g0.has && !decide (g0.x.r.kd=5))=false:=by
  have h9:(if g0.has=true then !decide (g0.x.r.kd=5) else false)=false:=by
   have h8:(if g0.has=true then (g0.x.r.kd != 5) else false)=false:=by subst hB; exact hb
   exact h8
  rw [← h9]; cases g0.has<;>rfl
 refine wp_skip (wp_seq (wp_seq ?_))
 rcases (still_m 0 b J hJ ((X7 2).A 0) ((X7 2).c 0) p70 hp70 hn70 l v).two (fro_get _ _ _) hp70 hn70 with ⟨w90,p90,hm90,O1⟩ | ⟨h0,p90,hm90,hs90,hp90,hn90,S90⟩
 ·refine stp 3 hB TA_ok [44,45,46] [0] [] hF O1 fun _ _ _ _ hF hk => ?_
  exact thm (P:=Tryz.prog) (fn:=Tryz.f117) (q:=p90) hF hk (by simp [splitM,splC,← hx0,← hx1,← ha0,← ha1,← he,Rs.bind,t0,hrun0,hm70,tq0,hm90])
 have hl90:=get_lt hm90
 have hg90:=hp70.get hm90
 try dsimp only at S90
 obtain ⟨e0,he0⟩:=eqv (decide (h0.ver=v))
 rw [← he0] at S90
 have O1:=S90
 refine rg hB TA_ok [48,0,2,5,11,12,13,14,28,29] [0,5,11,13,14] [(3,rc J (.bool (.v e0)) p90)] hF fun X9 a0 w1 hF => ?_
 apply test_ok hF rfl<;>intro hb hF
 ·have t90:¬ h0.ver=v:=by
   have h9:(!e0)=true:=by subst hB; exact hb
   rw [he0] at h9; simpa using h9
  exact wp_ret ((rmm hB TA_ok hF (v:=()) (q:=p90) ((X9 3).A 0) ((X9 3).c 0) (by simp [splitM,splC,← hx0,← hx1,← ha0,← ha1,← he,Rs.bind,t0,hrun0,hm70,tq0,hm90,t90])).1)
 have t90:h0.ver=v:=by
  have h9:(!e0)=false:=by subst hB; exact hb
  rw [he0] at h9; simpa using h9
 refine wp_skip (wp_seq ?_)
 rcases (cas_m 0 b J hJ ((X9 3).A 0) ((X9 3).c 0) p90 hp90 hn90 x0 g0.ver ⟨(X1 2).A 0,(X1 2).c 0,r0⟩).two (fro_cas _ _ _ _ _) hp90 hn90 with ⟨w100,p100,hm100,O1⟩ | ⟨d0,p100,hm100,hs100,hp100,hn100,S100⟩
 ·refine stpD 7 hB TA_ok [49,50,52,55] [0] [] hF O1 fun _ _ _ _ hF hk => ?_
  exact thm (P:=Tryz.prog) (fn:=Tryz.f117) (q:=p100) hF hk (by simp [splitM,splC,← hx0,← hx1,← ha0,← ha1,← he,Rs.bind,t0,hrun0,hm70,tq0,hm90,t90,hm100])
 have O1:=S100
 refine drg hB TA_ok [56,0,2,5,11,12,13,28,29] [0,5,11,13] [(7,rc J (.bool (.v d0)) p100)] hF fun X10 a0 w1 hF => ?_
 apply test_ok hF rfl<;>intro hb hF
 ·have td0:d0=true:=by exact hb
  refine wp_exit (rg hB TA_ok [29,0,2,5,11,28] [0,5,11] [] hF fun X11 a0 w1 hF => ?_)
  replace hF:=hF.headS (v':=.int .i64 1) (by subst hB; exact zr) rfl
  refine rounds_next (wp_seq (rg hB TA_ok [30,0,2,5,11,28,29] [0,5,11] [] hF fun X5 a0 w1 hF => ?_))
  replace hF:=hF.headS (v':=.bool .tt) (Sim.bool (by subst hB; rfl)) rfl
  refine wp_seq (test_tt hF rfl (fun hF => ?_))
  refine wp_skip (wp_seq (wp_block (wp_seq (rg hB TA_ok [0,2,5,11,12,13,28,29] [0,5,11,13] [] hF fun X6 a0 w1 hF => ?_))))
  refine wp_block (loop_pre (ι:=Nat × Pst × Option Addr × Nat) (fun q => []) (fun q => [(0,⟨b,148,runC J q.2.2.1 q.2.2.2 q.2.1⟩)]) (fun q => []) (fun q => splC J.budget l v x1 r1.abs n p100=splC J.budget l v x1 r1.abs q.1 q.2.1 ∧ PstOk q.2.1 ∧ q.2.1.n ≤ 1000000 ∧ q.2.1.n < q.1 ∧ q.2.1.n ≤ p.n) (fun q => q.1) (n,p100,((X10 7).A 0),((X10 7).c 0)) ⟨rfl,hp100,hn100,(by dsimp only; have:=hle0; have:=hs70.le; have:=hs90.le; have:=hs100.le; omega),(by dsimp only; have:=hle0; have:=hs70.le; have:=hs90.le; have:=hs100.le; omega)⟩ hF ?_)
  rintro ⟨nn1,p1,A1,c1⟩ ⟨hrun1,hp1,hn1,hf1,hle1⟩ a0 w1 hF
  try dsimp only at hrun1
  try dsimp only at hp1
  try dsimp only at hn1
  try dsimp only at hf1
  try dsimp only at hle1
  obtain ⟨m1,rfl⟩:∃ n2,nn1=n2 + 1:=⟨nn1 - 1,by omega⟩
  refine wp_block (wp_seq ?_)
  rcases (get_m 0 b J hJ A1 c1 p1 hp1 hn1 x1).two (fro_get _ _ _) hp1 hn1 with ⟨w71,p71,hm71,O1⟩ | ⟨g1,p71,hm71,hs71,hp71,hn71,S71⟩
  ·refine stp 2 hB TA_ok [33,34] [0] [] hF O1 fun _ _ _ _ hF hk => ?_
   exact thm (P:=Tryz.prog) (fn:=Tryz.f117) (q:=p71) hF hk (by simp [splitM,splC,← hx0,← hx1,← ha0,← ha1,← he,Rs.bind,t0,hrun0,hm70,tq0,hm90,t90,hm100,td0,hrun1,hm71])
  have hl71:=get_lt hm71
  have hg71:=hp1.get hm71
  have O1:=S71
  refine rg hB TA_ok [0,2,5,11,12,13,14,28,29] [0,5,11,13,14] [(2,rc J (gotV g1) p71)] hF fun X7 a0 w1 hF => ?_
  refine wp_seq (wp_seq (rg hB TA_ok [43,0,2,5,11,12,13,14,28,29] [0,5,11,13,14] [] hF fun X8 a0 w1 hF => ?_))
  apply test_ok hF rfl<;>intro hb hF
  ·have tq1:(g1.has && !decide (g1.x.r.kd=5))=true:=by
    have h9:(if g1.has=true then !decide (g1.x.r.kd=5) else false)=true:=by
     have h8:(if g1.has=true then (g1.x.r.kd != 5) else false)=true:=by subst hB; exact hb
     exact h8
    rw [← h9]; cases g1.has<;>rfl
   refine wp_exit (rg hB TA_ok [29,0,2,5,11,28] [0,5,11] [] hF fun X11 a0 w1 hF => ?_)
   replace hF:=hF.headS (v':=.int .i64 2) (by subst hB; exact zr) rfl
   refine rounds_next (wp_seq (rg hB TA_ok [30,0,2,5,11,28,29] [0,5,11] [] hF fun X5 a0 w1 hF => ?_))
   replace hF:=hF.headS (v':=.bool .ff) (Sim.bool (by subst hB; rfl)) rfl
   refine wp_seq (test_ff hF rfl (fun hF => ?_))
   refine wp_exit ?_
   rcases (casi_m 0 b J hJ ((X7 2).A 0) ((X7 2).c 0) p71 hp71 hn71 l v).two (fro_cas _ _ _ _ _) hp71 hn71 with ⟨w12,p12,hm12,O1⟩ | ⟨d2,p12,hm12,hs12,hp12,hn12,S12⟩
   ·have O2:=inn_s
    refine stpD 4 hB TA_ok [58,59,60,61] [0] [(3,.r fun _ => .agg [.int .i64 2,.sl none none 0 0 2 (fun _ => []),.int .i64 (-1),.int .u64 0,.int .u64 0])] hF O1 fun _ _ _ _ hF hk => ?_
    exact thm (P:=Tryz.prog) (fn:=Tryz.f117) (q:=p12) hF hk (by simp [splitM,splC,← hx0,← hx1,← ha0,← ha1,← he,Rs.bind,t0,hrun0,hm70,tq0,hm90,t90,hm100,td0,hrun1,hm71,tq1,hm12])
   have O1:=inn_s
   have O2:=S12
   refine drg hB TA_ok [] [0] [(3,.r fun _ => .agg [.int .i64 2,.sl none none 0 0 2 (fun _ => []),.int .i64 (-1),.int .u64 0,.int .u64 0]),(4,rc J (.bool (.v d2)) p12)] hF fun X12 a0 w1 hF => ?_
   exact (rmm hB TA_ok hF (v:=()) (q:=p12) ((X12 4).A 0) ((X12 4).c 0) (by simp [splitM,splC,← hx0,← hx1,← ha0,← ha1,← he,Rs.bind,t0,hrun0,hm70,tq0,hm90,t90,hm100,td0,hrun1,hm71,tq1,hm12])).2
  have tq1:(g1.has && !decide (g1.x.r.kd=5))=false:=by
   have h9:(if g1.has=true then !decide (g1.x.r.kd=5) else false)=false:=by
    have h8:(if g1.has=true then (g1.x.r.kd != 5) else false)=false:=by subst hB; exact hb
    exact h8
   rw [← h9]; cases g1.has<;>rfl
  refine wp_skip (wp_seq (wp_seq ?_))
  rcases (still_m 0 b J hJ ((X7 2).A 0) ((X7 2).c 0) p71 hp71 hn71 l v).two (fro_get _ _ _) hp71 hn71 with ⟨w91,p91,hm91,O1⟩ | ⟨h1,p91,hm91,hs91,hp91,hn91,S91⟩
  ·refine stp 3 hB TA_ok [44,45,46] [0] [] hF O1 fun _ _ _ _ hF hk => ?_
   exact thm (P:=Tryz.prog) (fn:=Tryz.f117) (q:=p91) hF hk (by simp [splitM,splC,← hx0,← hx1,← ha0,← ha1,← he,Rs.bind,t0,hrun0,hm70,tq0,hm90,t90,hm100,td0,hrun1,hm71,tq1,hm91])
  have hl91:=get_lt hm91
  have hg91:=hp71.get hm91
  try dsimp only at S91
  obtain ⟨e1,he1⟩:=eqv (decide (h1.ver=v))
  rw [← he1] at S91
  have O1:=S91
  refine rg hB TA_ok [48,0,2,5,11,12,13,14,28,29] [0,5,11,13,14] [(3,rc J (.bool (.v e1)) p91)] hF fun X9 a0 w1 hF => ?_
  apply test_ok hF rfl<;>intro hb hF
  ·have t91:¬ h1.ver=v:=by
    have h9:(!e1)=true:=by subst hB; exact hb
    rw [he1] at h9; simpa using h9
   exact wp_ret ((rmm hB TA_ok hF (v:=()) (q:=p91) ((X9 3).A 0) ((X9 3).c 0) (by simp [splitM,splC,← hx0,← hx1,← ha0,← ha1,← he,Rs.bind,t0,hrun0,hm70,tq0,hm90,t90,hm100,td0,hrun1,hm71,tq1,hm91,t91])).1)
  have t91:h1.ver=v:=by
   have h9:(!e1)=false:=by subst hB; exact hb
   rw [he1] at h9; simpa using h9
  refine wp_skip (wp_seq ?_)
  rcases (cas_m 0 b J hJ ((X9 3).A 0) ((X9 3).c 0) p91 hp91 hn91 x1 g1.ver ⟨(X1 2).A 1,(X1 2).c 1,r1⟩).two (fro_cas _ _ _ _ _) hp91 hn91 with ⟨w101,p101,hm101,O1⟩ | ⟨d1,p101,hm101,hs101,hp101,hn101,S101⟩
  ·refine stpD 7 hB TA_ok [49,50,52,55] [0] [] hF O1 fun _ _ _ _ hF hk => ?_
   exact thm (P:=Tryz.prog) (fn:=Tryz.f117) (q:=p101) hF hk (by simp [splitM,splC,← hx0,← hx1,← ha0,← ha1,← he,Rs.bind,t0,hrun0,hm70,tq0,hm90,t90,hm100,td0,hrun1,hm71,tq1,hm91,t91,hm101])
  have O1:=S101
  refine drg hB TA_ok [56,0,2,5,11,12,13,28,29] [0,5,11,13] [(7,rc J (.bool (.v d1)) p101)] hF fun X10 a0 w1 hF => ?_
  apply test_ok hF rfl<;>intro hb hF
  ·have td1:d1=true:=by exact hb
   refine wp_exit (rg hB TA_ok [29,0,2,5,11,28] [0,5,11] [] hF fun X11 a0 w1 hF => ?_)
   replace hF:=hF.headS (v':=.int .i64 2) (by subst hB; exact zr) rfl
   refine rounds_next (wp_seq (rg hB TA_ok [30,0,2,5,11,28,29] [0,5,11] [] hF fun X5 a0 w1 hF => ?_))
   replace hF:=hF.headS (v':=.bool .ff) (Sim.bool (by subst hB; rfl)) rfl
   refine wp_seq (test_ff hF rfl (fun hF => ?_))
   refine wp_exit ?_
   rcases (casi_m 0 b J hJ ((X10 7).A 0) ((X10 7).c 0) p101 hp101 hn101 l v).two (fro_cas _ _ _ _ _) hp101 hn101 with ⟨w12,p12,hm12,O1⟩ | ⟨d2,p12,hm12,hs12,hp12,hn12,S12⟩
   ·have O2:=inn_s
    refine stpD 4 hB TA_ok [58,59,60,61] [0] [(3,.r fun _ => .agg [.int .i64 2,.sl none none 0 0 2 (fun _ => []),.int .i64 (-1),.int .u64 0,.int .u64 0])] hF O1 fun _ _ _ _ hF hk => ?_
    exact thm (P:=Tryz.prog) (fn:=Tryz.f117) (q:=p12) hF hk (by simp [splitM,splC,← hx0,← hx1,← ha0,← ha1,← he,Rs.bind,t0,hrun0,hm70,tq0,hm90,t90,hm100,td0,hrun1,hm71,tq1,hm91,t91,hm101,td1,hm12])
   have O1:=inn_s
   have O2:=S12
   refine drg hB TA_ok [] [0] [(3,.r fun _ => .agg [.int .i64 2,.sl none none 0 0 2 (fun _ => []),.int .i64 (-1),.int .u64 0,.int .u64 0]),(4,rc J (.bool (.v d2)) p12)] hF fun X12 a0 w1 hF => ?_
   exact (rmm hB TA_ok hF (v:=()) (q:=p12) ((X12 4).A 0) ((X12 4).c 0) (by simp [splitM,splC,← hx0,← hx1,← ha0,← ha1,← he,Rs.bind,t0,hrun0,hm70,tq0,hm90,t90,hm100,td0,hrun1,hm71,tq1,hm91,t91,hm101,td1,hm12])).2
  have td1:d1=false:=by exact hb
  replace hF:=hF.keep [0,2,5,11,12,13,28,29] [0,5,11,13]
  exact wp_skip (⟨(m1,p101,_,_),⟨by rw [hrun1]; simp [splC,Rs.bind,t0,hrun0,hm70,tq0,hm90,t90,hm100,td0,hrun1,hm71,tq1,hm91,t91,hm101,td1],hp101,hn101,by dsimp only; have:=hl71; have:=hs91.le; have:=hs101.le; have:=hf1; omega,by dsimp only; have:=hl71; have:=hs91.le; have:=hs101.le; have:=hle1; omega⟩,by simp only; omega,hF⟩)
 have td0:d0=false:=by exact hb
 replace hF:=hF.keep [0,2,5,11,12,13,28,29] [0,5,11,13]
 exact wp_skip (⟨(m0,p100,_,_),⟨by rw [hrun0]; simp [splC,Rs.bind,t0,hrun0,hm70,tq0,hm90,t90,hm100,td0],hp100,hn100,by dsimp only; have:=hl70; have:=hs90.le; have:=hs100.le; have:=hf0; omega,by dsimp only; have:=hl70; have:=hs90.le; have:=hs100.le; have:=hle0; omega⟩,by simp only; omega,hF⟩)
theorem spl_m (k0 b:Nat) (J:JobA) (hJ:JobOk J) (A:Option Addr) (c:Nat) (p:Pst) (hp:PstOk p) (hn:p.n ≤ 1000000) (l:Lab) (hl:LOk l) (v:Int) (x:RA) (hx:RaOk x) (n:Nat) (hf:p.n < n):RunS 117 k0 b J A c p [labAV l,.int .u64 v,recV x] (fun _ => unitV) (splitM J.budget n l v x p):=RunS.re (spl_m0 b J hJ A c p hp hn l hl v x hx n hf) (by repeat (first | exact trivial | refine ⟨zr,?_⟩))
theorem mrg_m0 (b:Nat) (J:JobA) (hJ:JobOk J) (A:Option Addr) (c:Nat) (p:Pst) (hp:PstOk p) (hn:p.n ≤ 1000000) (l:Lab) (hl:LOk l) (v:Int) (n:Nat) (hth:ThC n) (hf:p.n < n):RunS 118 0 b J A c p [labAV l,.int .u64 v] (fun _ => unitV) (mrgM J.bucket J.budget n (thwM J.bucket J.budget n) l v p):=by
 intro m w hm hargs hpre
 have SC:=chi_s l hl.u
 have hk0:=hl.ch 0
 have hk1:=hl.ch 1
 simp only [labAV] at SC
 obtain ⟨x0,hx0⟩:=eqv (chV l 0)
 rw [← hx0] at SC hk0
 obtain ⟨x1,hx1⟩:=eqv (chV l 1)
 rw [← hx1] at SC hk1
 refine enX 73 hm hpre hargs Tryz.func118 fun B hB a0 hF => ?_
 refine wp_seq (rg hB TA_ok [0,2,4] [0,4] [] hF fun X0 a0 w1 hF => ?_)
 refine wp_seq (rg hB TA_ok [0,2,4,6] [0,4,6] [] hF fun X1 a0 w1 hF => ?_)
 have O1:=SC
 refine wp_seq (wp_seq (rg hB TA_ok [15,0,2,4,6,14] [0,4,6] [(1,.r fun _ => .agg [.int .i64 x0.len,.int .u64 x0.bits,.int .i64 x1.len,.int .u64 x1.bits])] hF fun X2 a0 w1 hF => ?_))
 refine wp_block (wp_loop_rounds 3 (rounds_first (wp_seq (rg hB TA_ok [16,0,2,4,6,14,15] [0,4,6] [] hF fun X3 a0 w1 hF => ?_))))
 replace hF:=hF.headS (v':=.bool .tt) (Sim.bool (by subst hB; rfl)) rfl
 refine wp_seq (test_tt hF rfl (fun hF => ?_))
 refine wp_skip (wp_seq (wp_block (wp_seq (rg hB TA_ok [0,2,4,6,7,8,14,15] [0,4,6,8] [] hF fun X4 a0 w1 hF => ?_))))
 apply wp_seq
 rcases (frz_m 0 b J hJ A c p hp hn l v x0 n (by have:=(Suf.refl p).le; omega)).two (fro_frz _ _ _ _ _ _) hp hn with ⟨w50,p50,hm50,O1⟩ | ⟨z0,p50,hm50,hs50,hp50,hn50,S50⟩
 ·refine stp 4 hB TA_ok [20,21,22,23] [0] [] hF O1 fun _ _ _ _ hF hk => ?_
  exact thm (P:=Tryz.prog) (fn:=Tryz.f118) (q:=p50) hF hk (by simp [mrgM,← hx0,← hx1,Rs.bind,hm50])
 have hz0:∀ y,z0 = .fr y → RaOk y:=fun y hy => frz_ok hp (by rw [hm50,hy])
 have T50:=S50
 unfold encFz at T50
 obtain ⟨y0,hy0⟩:=eqv (fzR z0)
 rw [← hy0] at T50
 obtain ⟨i0,hi0⟩:=eqv (fzI z0)
 rw [← hi0] at T50
 have O1:=T50
 refine rg hB TA_ok [0,2,4,6,7,9,10,14,15] [0,4,6,9] [(4,rc J (.tup [.agg [.int .i64 y0.r.kd,.sl none y0.A y0.r.n y0.c 2 (fun i => itC (y0.r.f i)),.int .i64 y0.r.nx.len,.int .u64 y0.r.nx.bits,.int .u64 y0.r.mrk],.int .i64 i0]) p50)] hF fun X5 a0 w1 hF => ?_
 refine wp_seq (wp_seq (rg hB TA_ok [0,2,4,6,7,9,14,15,27] [0,4,6,9] [] hF fun X6 a0 w1 hF => ?_))
 refine wp_block (wp_seq (wp_block (wp_seq (wp_block (wp_seq (wp_seq (wp_seq (rg hB TA_ok [28,0,2,4,6,7,9,14,15,27] [0,4,6,9] [] hF fun X7 a0 w1 hF => ?_))))))))
 apply test_ok hF rfl<;>intro hb hF
 ·have tz0:z0 = .unfit:=fz_1 (by rw [← hi0]; subst hB; simpa [std,sC] using hb)
  refine wp_exit ?_
  rcases (bck_m 0 b J hJ ((X5 4).A 0) ((X5 4).c 0) p50 hp50 hn50 l hl v n hth (by have:=(Suf.trans (Suf.refl p) hs50).le; omega)).two (fro_bck _ _ (fro_thw _ _ _) _ _ _) hp50 hn50 with ⟨w90,p90,hm90,O1⟩ | ⟨v90,p90,hm90,hs90,hp90,hn90,S90⟩
  ·refine stp 3 hB TA_ok [32,33,34] [0] [] hF O1 fun _ _ _ _ hF hk => ?_
   exact thm (P:=Tryz.prog) (fn:=Tryz.f118) (q:=p90) hF hk (by simp [mrgM,← hx0,← hx1,Rs.bind,hm50,tz0,hm90])
  have O1:=S90
  refine rg hB TA_ok [] [0] [(3,rc J (unitV) p90)] hF fun X9 a0 w1 hF => ?_
  exact wp_seq (wp_ret ((rmm hB TA_ok hF (v:=()) (q:=p90) ((X9 3).A 0) ((X9 3).c 0) (by simp [mrgM,← hx0,← hx1,Rs.bind,hm50,tz0,hm90])).1))
 have ta0:fzI z0 ≠ 1:=by
  have:¬ i0=1:=by subst hB; simpa [std,sC] using hb
  rw [← hi0]; exact this
 refine wp_skip (wp_seq (rg hB TA_ok [30,0,2,4,6,7,9,14,15] [0,4,6,9] [] hF fun X8 a0 w1 hF => ?_))
 apply test_ok hF rfl<;>intro hb hF
 ·have tz0:z0 = .over:=fz_0 (by rw [← hi0]; subst hB; simpa [std,sC] using hb)
  exact wp_exit (wp_seq (wp_ret ((rmm hB TA_ok hF (v:=()) (q:=p50) ((X5 4).A 0) ((X5 4).c 0) (by simp [mrgM,← hx0,← hx1,Rs.bind,hm50,tz0])).1)))
 have tz0:z0 = .fr y0:=by
  rw [hy0]
  refine fz_2 ?_ ta0
  have:¬ i0=0:=by subst hB; simpa [std,sC] using hb
  rw [← hi0]; exact this
 have ty0:=hz0 _ tz0
 refine wp_skip (wp_exit (rg hB TA_ok [0,2,4,6,14,15] [0,4,6] [] hF fun X10 a0 w1 hF => ?_))
 refine rg hB TA_ok [15,0,2,4,6,14] [0,4,6] [] hF fun X11 a0 w1 hF => ?_
 replace hF:=hF.headS (v':=.int .i64 1) (by subst hB; exact zr) rfl
 refine rounds_next (wp_seq (rg hB TA_ok [16,0,2,4,6,14,15] [0,4,6] [] hF fun X3 a0 w1 hF => ?_))
 replace hF:=hF.headS (v':=.bool .tt) (Sim.bool (by subst hB; rfl)) rfl
 refine wp_seq (test_tt hF rfl (fun hF => ?_))
 refine wp_skip (wp_seq (wp_block (wp_seq (rg hB TA_ok [0,2,4,6,7,8,14,15] [0,4,6,8] [] hF fun X4 a0 w1 hF => ?_))))
 apply wp_seq
 rcases (frz_m 0 b J hJ ((X5 4).A 0) ((X5 4).c 0) p50 hp50 hn50 l v x1 n (by have:=(Suf.trans (Suf.refl p) hs50).le; omega)).two (fro_frz _ _ _ _ _ _) hp50 hn50 with ⟨w51,p51,hm51,O1⟩ | ⟨z1,p51,hm51,hs51,hp51,hn51,S51⟩
 ·refine stp 4 hB TA_ok [20,21,22,23] [0] [] hF O1 fun _ _ _ _ hF hk => ?_
  exact thm (P:=Tryz.prog) (fn:=Tryz.f118) (q:=p51) hF hk (by simp [mrgM,← hx0,← hx1,Rs.bind,hm50,tz0,hm51])
 have hz1:∀ y,z1 = .fr y → RaOk y:=fun y hy => frz_ok hp50 (by rw [hm51,hy])
 have T51:=S51
 unfold encFz at T51
 obtain ⟨y1,hy1⟩:=eqv (fzR z1)
 rw [← hy1] at T51
 obtain ⟨i1,hi1⟩:=eqv (fzI z1)
 rw [← hi1] at T51
 have O1:=T51
 refine rg hB TA_ok [0,2,4,6,7,9,10,14,15] [0,4,6,9] [(4,rc J (.tup [.agg [.int .i64 y1.r.kd,.sl none y1.A y1.r.n y1.c 2 (fun i => itC (y1.r.f i)),.int .i64 y1.r.nx.len,.int .u64 y1.r.nx.bits,.int .u64 y1.r.mrk],.int .i64 i1]) p51)] hF fun X5 a0 w1 hF => ?_
 refine wp_seq (wp_seq (rg hB TA_ok [0,2,4,6,7,9,14,15,27] [0,4,6,9] [] hF fun X6 a0 w1 hF => ?_))
 refine wp_block (wp_seq (wp_block (wp_seq (wp_block (wp_seq (wp_seq (wp_seq (rg hB TA_ok [28,0,2,4,6,7,9,14,15,27] [0,4,6,9] [] hF fun X7 a0 w1 hF => ?_))))))))
 apply test_ok hF rfl<;>intro hb hF
 ·have tz1:z1 = .unfit:=fz_1 (by rw [← hi1]; subst hB; simpa [std,sC] using hb)
  refine wp_exit ?_
  rcases (bck_m 0 b J hJ ((X5 4).A 0) ((X5 4).c 0) p51 hp51 hn51 l hl v n hth (by have:=(Suf.trans (Suf.trans (Suf.refl p) hs50) hs51).le; omega)).two (fro_bck _ _ (fro_thw _ _ _) _ _ _) hp51 hn51 with ⟨w91,p91,hm91,O1⟩ | ⟨v91,p91,hm91,hs91,hp91,hn91,S91⟩
  ·refine stp 3 hB TA_ok [32,33,34] [0] [] hF O1 fun _ _ _ _ hF hk => ?_
   exact thm (P:=Tryz.prog) (fn:=Tryz.f118) (q:=p91) hF hk (by simp [mrgM,← hx0,← hx1,Rs.bind,hm50,tz0,hm51,tz1,hm91])
  have O1:=S91
  refine rg hB TA_ok [] [0] [(3,rc J (unitV) p91)] hF fun X9 a0 w1 hF => ?_
  exact wp_seq (wp_ret ((rmm hB TA_ok hF (v:=()) (q:=p91) ((X9 3).A 0) ((X9 3).c 0) (by simp [mrgM,← hx0,← hx1,Rs.bind,hm50,tz0,hm51,tz1,hm91])).1))
 have ta1:fzI z1 ≠ 1:=by
  have:¬ i1=1:=by subst hB; simpa [std,sC] using hb
  rw [← hi1]; exact this
 refine wp_skip (wp_seq (rg hB TA_ok [30,0,2,4,6,7,9,14,15] [0,4,6,9] [] hF fun X8 a0 w1 hF => ?_))
 apply test_ok hF rfl<;>intro hb hF
 ·have tz1:z1 = .over:=fz_0 (by rw [← hi1]; subst hB; simpa [std,sC] using hb)
  exact wp_exit (wp_seq (wp_ret ((rmm hB TA_ok hF (v:=()) (q:=p51) ((X5 4).A 0) ((X5 4).c 0) (by simp [mrgM,← hx0,← hx1,Rs.bind,hm50,tz0,hm51,tz1])).1)))
 have tz1:z1 = .fr y1:=by
  rw [hy1]
  refine fz_2 ?_ ta1
  have:¬ i1=0:=by subst hB; simpa [std,sC] using hb
  rw [← hi1]; exact this
 have ty1:=hz1 _ tz1
 refine wp_skip (wp_exit (rg hB TA_ok [0,2,4,6,14,15] [0,4,6] [] hF fun X10 a0 w1 hF => ?_))
 refine rg hB TA_ok [15,0,2,4,6,14] [0,4,6] [] hF fun X11 a0 w1 hF => ?_
 replace hF:=hF.headS (v':=.int .i64 2) (by subst hB; exact zr) rfl
 refine rounds_next (wp_seq (rg hB TA_ok [16,0,2,4,6,14,15] [0,4,6] [] hF fun X3 a0 w1 hF => ?_))
 replace hF:=hF.headS (v':=.bool .ff) (Sim.bool (by subst hB; rfl)) rfl
 refine wp_seq (test_ff hF rfl (fun hF => ?_))
 have SU:=uni_c y0 y1 ty0 ty1
 obtain ⟨r2,hr2⟩:=eqv ((uniA y0 y1).1.rn)
 rw [← hr2] at SU
 obtain ⟨e2,he2⟩:=eqv ((uniA y0 y1).2)
 rw [← he2] at SU
 have ha2:r2.abs=(uniA y0 y1).1:=by rw [hr2]; exact rn_abs _
 have hl2:r2.abs.items.length=r2.n:=by rw [ha2,hr2]; rfl
 have O1:=SU
 refine wp_exit (wp_seq (rg hB TA_ok [0,2,4,11,12] [0,4,11] [(4,.r fun z => .tup [.agg [.int .i64 r2.kd,.sl none (z.A 0) r2.n (z.c 0) 2 (fun i => itC (r2.f i)),.int .i64 r2.nx.len,.int .u64 r2.nx.bits,.int .u64 r2.mrk],.int .i64 e2])] hF fun X12 a0 w1 hF => ?_))
 refine wp_seq (wp_seq (drg hB TA_ok [60,0,2,4,11] [0,4,11] [] hF fun X13 a0 w1 hF => ?_))
 apply test_ok hF rfl<;>intro hb hF
 ·have tu:¬ ((uniA y0 y1).2=0 ∧ (r2.abs.items.length:Int) ≤ J.bucket):=by
   have h9:(if (!decide (e2=0))=true then true else decide ((r2.n:Int) > J.bucket))=true:=by subst hB; exact hb
   rw [← he2,hl2]
   intro h; simp [h.1] at h9; omega
  apply wp_seq
  rcases (bck_m 0 b J hJ ((X5 4).A 0) ((X5 4).c 0) p51 hp51 hn51 l hl v n hth (by have:=(Suf.trans (Suf.trans (Suf.refl p) hs50) hs51).le; omega)).two (fro_bck _ _ (fro_thw _ _ _) _ _ _) hp51 hn51 with ⟨w14,p14,hm14,O1⟩ | ⟨v14,p14,hm14,hs14,hp14,hn14,S14⟩
  ·refine stp 3 hB TA_ok [61,62,63] [0] [] hF O1 fun _ _ _ _ hF hk => ?_
   exact thm (P:=Tryz.prog) (fn:=Tryz.f118) (q:=p14) hF hk (by simp [mrgM,← hx0,← hx1,Rs.bind,hm50,tz0,hm51,tz1,← ha2,if_neg tu,hm14])
  have O1:=S14
  refine rg hB TA_ok [] [0] [(3,rc J (unitV) p14)] hF fun X14 a0 w1 hF => ?_
  exact wp_ret ((rmm hB TA_ok hF (v:=()) (q:=p14) ((X14 3).A 0) ((X14 3).c 0) (by simp [mrgM,← hx0,← hx1,Rs.bind,hm50,tz0,hm51,tz1,← ha2,if_neg tu,hm14])).1)
 have tu:(uniA y0 y1).2=0 ∧ (r2.abs.items.length:Int) ≤ J.bucket:=by
  have h9:(if (!decide (e2=0))=true then true else decide ((r2.n:Int) > J.bucket))=false:=by subst hB; exact hb
  rw [← he2,hl2]
  simp at h9; exact ⟨h9.1,by omega⟩
 refine wp_skip (wp_seq ?_)
 rcases (cas_m 0 b J hJ ((X5 4).A 0) ((X5 4).c 0) p51 hp51 hn51 l v ⟨(X12 4).A 0,(X12 4).c 0,r2⟩).two (fro_cas _ _ _ _ _) hp51 hn51 with ⟨w15,p15,hm15,O1⟩ | ⟨d5,p15,hm15,hs15,hp15,hn15,S15⟩
 ·refine stp 4 hB TA_ok [65,66,67,68] [0] [] hF O1 fun _ _ _ _ hF hk => ?_
  exact thm (P:=Tryz.prog) (fn:=Tryz.f118) (q:=p15) hF hk (by simp [mrgM,← hx0,← hx1,Rs.bind,hm50,tz0,hm51,tz1,← ha2,if_pos tu,hm15])
 have O1:=S15
 refine rg hB TA_ok [69,0,4] [0,4] [(4,rc J (.bool (.v d5)) p15)] hF fun X15 a0 w1 hF => ?_
 apply test_ok hF rfl<;>intro hb hF
 ·have t5:d5=true:=by exact hb
  rcases (cln_c n 0 b J hJ ((X15 4).A 0) ((X15 4).c 0) p15 hp15 hn15 l hl (by have:=(Suf.trans (Suf.trans (Suf.trans (Suf.refl p) hs50) hs51) hs15).le; omega)).two (fro_cln _ _ _ _) hp15 hn15 with ⟨w16,p16,hm16,O1⟩ | ⟨v16,p16,hm16,hs16,hp16,hn16,S16⟩
  ·refine stp 2 hB TA_ok [70,71] [0] [] hF O1 fun _ _ _ _ hF hk => ?_
   exact thm (P:=Tryz.prog) (fn:=Tryz.f118) (q:=p16) hF hk (by simp [mrgM,← hx0,← hx1,Rs.bind,hm50,tz0,hm51,tz1,← ha2,if_pos tu,hm15,t5,hm16])
  have O1:=S16
  refine rg hB TA_ok [] [0] [(2,rc J (unitV) p16)] hF fun X16 a0 w1 hF => ?_
  exact (rmm hB TA_ok hF (v:=()) (q:=p16) ((X16 2).A 0) ((X16 2).c 0) (by simp [mrgM,← hx0,← hx1,Rs.bind,hm50,tz0,hm51,tz1,← ha2,if_pos tu,hm15,t5,hm16])).2
 have t5:d5=false:=by exact hb
 exact wp_skip ((rmm hB TA_ok hF (v:=()) (q:=p15) ((X15 4).A 0) ((X15 4).c 0) (by simp [mrgM,← hx0,← hx1,Rs.bind,hm50,tz0,hm51,tz1,← ha2,if_pos tu,hm15,t5])).2)
theorem mrg_m (k0 b:Nat) (J:JobA) (hJ:JobOk J) (A:Option Addr) (c:Nat) (p:Pst) (hp:PstOk p) (hn:p.n ≤ 1000000) (l:Lab) (hl:LOk l) (v:Int) (n:Nat) (hth:ThC n) (hf:p.n < n):RunS 118 k0 b J A c p [labAV l,.int .u64 v] (fun _ => unitV) (mrgM J.bucket J.budget n (thwM J.bucket J.budget n) l v p):=RunS.re (mrg_m0 b J hJ A c p hp hn l hl v n hth hf) (by repeat (first | exact trivial | refine ⟨zr,?_⟩))
theorem fin_m0 (b:Nat) (J:JobA) (hJ:JobOk J) (A:Option Addr) (c:Nat) (p:Pst) (hp:PstOk p) (hn:p.n ≤ 1000000) (l:Lab) (hl:LOk l) (g:GotA) (hg:GotOk g) (n:Nat) (hth:ThC n) (hf:p.n < n):RunS 110 0 b J A c p [labAV l,gotV g] (fun _ => unitV) (fnsM J.bucket J.budget n l g p):=by
 intro m w hm hargs hpre
 refine enX 26 hm hpre hargs Tryz.func110 fun B hB a0 hF => ?_
 refine wp_seq (rg hB TA_ok [0,4,5] [0,4,5] [] hF fun X0 a0 w1 hF => ?_)
 obtain ⟨q1,hq1⟩:=eqv (gk g 3)
 refine wp_block (wp_seq ?_)
 refine rg hB TA_ok [6,0,4,5] [0,4,5,8] [(2,.r fun _ => .bool (.v q1))] hF (hob:=by intro X; subst hB; simp only [AO,Ob.holds,BE.den]<;>and_intros<;>repeat first | trivial | rfl | exact (by rw [hq1]; exact is1_s g _ _ 3 _ rfl) | exact by rw [hq1]; exact is1_s g _ _ 3 _ rfl | exact (fun _ _ => by kernel_rfl) | refine ⟨?_,?_⟩ | intro h | exact Int.le_refl _ | decide | omega) fun X1 a0 w1 hF => ?_
 apply test_ok hF rfl<;>intro hb hF
 ·have tq1:gk g 3=true:=by rw [← hq1]; exact hb
  rcases (spl_m 0 b J hJ A c p hp hn l hl g.ver g.x hg.ra n hf).two (fro_split _ _ _ _ _ _) hp hn with ⟨w2,p2,hm2,O1⟩ | ⟨v2,p2,hm2,hs2,hp2,hn2,S2⟩
  ·refine stp 6 hB TA_ok [10,11,13,15] [0] [] hF O1 fun _ _ _ _ hF hk => ?_
   exact thm (P:=Tryz.prog) (fn:=Tryz.f110) (q:=p2) hF hk (by simp [fnsM,finM,Rs.bind,tq1,hm2])
  have O1:=S2
  refine rg hB TA_ok [] [0] [(6,rc J (unitV) p2)] hF fun X2 a0 w1 hF => ?_
  exact (rmm hB TA_ok hF (v:=()) (q:=p2) ((X2 6).A 0) ((X2 6).c 0) (by simp [fnsM,finM,Rs.bind,tq1,hm2])).2
 have tq1:gk g 3=false:=by rw [← hq1]; exact hb
 refine wp_seq (rg hB TA_ok [17,0,4,5] [0,4,5] [] hF fun X3 a0 w1 hF => ?_)
 apply test_ok hF rfl<;>intro hb hF
 ·have t2:l.len < 64:=by subst hB; simpa [std,sC] using hb
  rcases (mrg_m 0 b J hJ A c p hp hn l hl g.ver n hth hf).two (fro_mrg _ _ _ _ (fro_thw _ _ _) _ _ _) hp hn with ⟨w4,p4,hm4,O1⟩ | ⟨v4,p4,hm4,hs4,hp4,hn4,S4⟩
  ·refine stp 4 hB TA_ok [21,22,24] [0] [] hF O1 fun _ _ _ _ hF hk => ?_
   exact thm (P:=Tryz.prog) (fn:=Tryz.f110) (q:=p4) hF hk (by simp [fnsM,finM,Rs.bind,tq1,t2,hm4])
  have O1:=S4
  refine rg hB TA_ok [] [0] [(4,rc J (unitV) p4)] hF fun X4 a0 w1 hF => ?_
  exact (rmm hB TA_ok hF (v:=()) (q:=p4) ((X4 4).A 0) ((X4 4).c 0) (by simp [fnsM,finM,Rs.bind,tq1,t2,hm4])).2
 have t2:¬ l.len < 64:=by subst hB; simpa [std,sC] using hb
 exact wp_skip ((rmm hB TA_ok hF (v:=()) (q:=p) A c (by simp [fnsM,finM,Rs.bind,tq1,t2])).2)
theorem fin_m (k0 b:Nat) (J:JobA) (hJ:JobOk J) (A:Option Addr) (c:Nat) (p:Pst) (hp:PstOk p) (hn:p.n ≤ 1000000) (l:Lab) (hl:LOk l) (g:GotA) (hg:GotOk g) (n:Nat) (hth:ThC n) (hf:p.n < n):RunS 110 k0 b J A c p [labAV l,gotV g] (fun _ => unitV) (fnsM J.bucket J.budget n l g p):=RunS.re (fin_m0 b J hJ A c p hp hn l hl g hg n hth hf) (by repeat (first | exact trivial | refine ⟨zr,?_⟩))
theorem thw_m0 (b:Nat) (J:JobA) (hJ:JobOk J) (A:Option Addr) (c:Nat) (p:Pst) (hp:PstOk p) (hn:p.n ≤ 1000000) (l:Lab) (hl:LOk l) (n:Nat) (hfin:∀ j,j < n → FinC j) (hf:p.n < n):RunS 113 0 b J A c p [labAV l] (fun _ => unitV) (thwM J.bucket J.budget n l p):=by
 intro m w hm hargs hpre
 have SP:=par_s l hl.u
 have hpar:=hl.par
 simp only [labAV] at SP
 obtain ⟨up,hup⟩:=eqv (parV l)
 rw [← hup] at SP hpar
 obtain ⟨ue,hue⟩:=eqv (parE l)
 rw [← hue] at SP
 refine enX 46 hm hpre hargs Tryz.func113 fun B hB a0 hF => ?_
 refine wp_seq (rg hB TA_ok [0,3] [0,3] [] hF fun X0 a0 w1 hF => ?_)
 have O1:=SP
 refine wp_seq (rg hB TA_ok [0,3,4,5] [0,3,4] [(1,.r fun _ => .tup [.agg [.int .i64 up.len,.int .u64 up.bits],.int .i64 ue])] hF fun X1 a0 w1 hF => ?_)
 refine wp_seq (wp_seq (rg hB TA_ok [14,0,3,4] [0,3,4] [] hF fun X2 a0 w1 hF => ?_))
 apply test_ok hF rfl<;>intro hb hF
 ·have t0:¬ ue=0:=by subst hB; simpa [std,sC] using hb
  exact wp_ret ((rmm hB TA_ok hF (v:=()) (q:=p) A c (by simp [thwM,← hup,← hue,Rs.bind,t0])).1)
 have t0:ue=0:=by subst hB; simpa [std,sC] using hb
 refine wp_skip (wp_block (loop_pre (ι:=Nat × Pst × Option Addr × Nat) (fun q => []) (fun q => [(0,⟨b,148,runC J q.2.2.1 q.2.2.2 q.2.1⟩)]) (fun q => []) (fun q => thwL J.bucket J.budget n l up p=thwL J.bucket J.budget q.1 l up q.2.1 ∧ PstOk q.2.1 ∧ q.2.1.n ≤ 1000000 ∧ q.2.1.n < q.1 ∧ q.1 ≤ n) (fun q => q.1) (n,p,A,c) ⟨rfl,hp,hn,hf,Nat.le_refl _⟩ hF ?_))
 rintro ⟨nn,p0,A0,c0⟩ ⟨hrun,hp0,hn0,hf0,hnn⟩ a0 w1 hF
 try dsimp only at hrun
 try dsimp only at hp0
 try dsimp only at hn0
 try dsimp only at hf0
 try dsimp only at hnn
 obtain ⟨n2,rfl⟩:∃ n2,nn=n2 + 1:=⟨nn - 1,by omega⟩
 refine wp_block (wp_seq ?_)
 rcases (get_m 0 b J hJ A0 c0 p0 hp0 hn0 l).two (fro_get _ _ _) hp0 hn0 with ⟨w3,p3,hm3,O1⟩ | ⟨g3,p3,hm3,hs3,hp3,hn3,S3⟩
 ·refine stp 2 hB TA_ok [15,16] [0] [] hF O1 fun _ _ _ _ hF hk => ?_
  exact thm (P:=Tryz.prog) (fn:=Tryz.f113) (q:=p3) hF hk (by simp [thwM,← hup,← hue,Rs.bind,t0,hrun,thwL_succ,hm3])
 have hl3:=get_lt hm3
 have hg3:=hp0.get hm3
 have O1:=S3
 refine rg hB TA_ok [0,3,4,6] [0,3,4,6] [(2,rc J (gotV g3) p3)] hF fun X3 a0 w1 hF => ?_
 obtain ⟨q4,hq4⟩:=eqv (gk g3 5)
 refine wp_seq (wp_seq ?_)
 refine rg hB TA_ok [21,0,3,4,6] [0,3,4,6] [(2,.r fun _ => .bool (.v q4))] hF (hob:=by intro X; subst hB; simp only [AO,Ob.holds,BE.den]<;>and_intros<;>repeat first | trivial | rfl | exact (by rw [hq4]; exact is1_s g3 _ _ 5 _ rfl) | exact by rw [hq4]; exact is1_s g3 _ _ 5 _ rfl | exact (fun _ _ => by kernel_rfl) | refine ⟨?_,?_⟩ | intro h | exact Int.le_refl _ | decide | omega) fun X4 a0 w1 hF => ?_
 apply test_ok hF rfl<;>intro hb hF
 ·have tq4:gk g3 5=false:=by subst hB; rw [← hq4]; revert hb; cases q4<;>simp [std]
  exact wp_ret ((rmm hB TA_ok hF (v:=()) (q:=p3) ((X3 2).A 0) ((X3 2).c 0) (by simp [thwM,← hup,← hue,Rs.bind,t0,hrun,thwL_succ,hm3,tq4])).1)
 have tq4:gk g3 5=true:=by subst hB; rw [← hq4]; revert hb; cases q4<;>simp [std]
 refine wp_skip (wp_seq ?_)
 rcases (get_m 0 b J hJ ((X3 2).A 0) ((X3 2).c 0) p3 hp3 hn3 up).two (fro_get _ _ _) hp3 hn3 with ⟨w5,p5,hm5,O1⟩ | ⟨g5,p5,hm5,hs5,hp5,hn5,S5⟩
 ·refine stp 2 hB TA_ok [22,23] [0] [] hF O1 fun _ _ _ _ hF hk => ?_
  exact thm (P:=Tryz.prog) (fn:=Tryz.f113) (q:=p5) hF hk (by simp [thwM,← hup,← hue,Rs.bind,t0,hrun,thwL_succ,hm3,tq4,hm5])
 have hl5:=get_lt hm5
 have hg5:=hp3.get hm5
 have O1:=S5
 refine rg hB TA_ok [0,3,4,6,7] [0,3,4,6,7] [(2,rc J (gotV g5) p5)] hF fun X5 a0 w1 hF => ?_
 obtain ⟨q6,hq6⟩:=eqv ((gk g5 3 || gk g5 4))
 refine wp_seq (wp_seq ?_)
 refine rg hB TA_ok [27,0,3,4,6,7] [0,3,4,6,7,26] [(2,.r fun _ => .bool (.v q6))] hF (hob:=by intro X; subst hB; simp only [AO,Ob.holds,BE.den]<;>and_intros<;>repeat first | trivial | rfl | exact (by rw [hq6]; exact is2_s g5 _ _ 3 4 _ rfl rfl) | exact by rw [hq6]; exact is2_s g5 _ _ 3 4 _ rfl rfl | exact (fun _ _ => by kernel_rfl) | refine ⟨?_,?_⟩ | intro h | exact Int.le_refl _ | decide | omega) fun X6 a0 w1 hF => ?_
 apply test_ok hF rfl<;>intro hb hF
 ·have tq6:(gk g5 3 || gk g5 4)=true:=by rw [← hq6]; exact hb
  rcases (hfin n2 (by omega) 0 b J hJ ((X5 2).A 0) ((X5 2).c 0) p5 hp5 hn5 up hpar g5 hg5 (by have:=hl3; have:=hl5; omega)).two (fro_fns _ _ _ _ _ _) hp5 hn5 with ⟨w7,p7,hm7,O1⟩ | ⟨v7,p7,hm7,hs7,hp7,hn7,S7⟩
  ·refine stp 3 hB TA_ok [28,29,30] [0] [] hF O1 fun _ _ _ _ hF hk => ?_
   exact thm (P:=Tryz.prog) (fn:=Tryz.f113) (q:=p7) hF hk (by simp [thwM,← hup,← hue,Rs.bind,t0,hrun,thwL_succ,hm3,tq4,hm5,tq6,hm7])
  have O1:=S7
  refine rg hB TA_ok [0,3,4,6,7] [0,3,4,6,7] [(3,rc J (unitV) p7)] hF fun X7 a0 w1 hF => ?_
  apply wp_seq
  rcases Bool.eq_false_or_eq_true (gk g5 2) with t8 | t8
  ·rcases (cas_m 0 b J hJ ((X7 3).A 0) ((X7 3).c 0) p7 hp7 hn7 l g3.ver (asR 1 g3.x 0)).two (fro_cas _ _ _ _ _) hp7 hn7 with ⟨w8,p8,hm8,O1⟩ | ⟨d8,p8,hm8,hs8,hp8,hn8,S8⟩
   ·refine stpD 12 hB TA_ok [36,37,38,40,43] [0] [(2,.r fun _ => .bool .tt),(11,.r fun _ => recV (asR 1 g3.x 0))] hF O1 (hob:=by intro X; subst hB; simp only [AO,Ob.holds,BE.den]<;>and_intros<;>repeat first | trivial | rfl | exact ((is1_s g5 _ _ 2 _ rfl).res fun _ => Sim.bool (by rw [t8]; rfl)) | exact as_s 1 g3.x 0 | exact (fun _ _ => by kernel_rfl) | refine ⟨?_,?_⟩ | intro h | exact Int.le_refl _ | decide | omega) fun _ _ _ _ hF hk => ?_
    exact thm (P:=Tryz.prog) (fn:=Tryz.f113) (q:=p8) hF hk (by simp [thwM,← hup,← hue,Rs.bind,t0,hrun,thwL_succ,hm3,tq4,hm5,tq6,hm7,t8,hm8])
   refine drg hB TA_ok [45,0,3,4] [0,3,4] [(2,.r fun _ => .bool .tt),(11,.r fun _ => recV (asR 1 g3.x 0)),(12,rc J (.bool (.v d8)) p8)] hF (hob:=by intro X; subst hB; simp only [AO,Ob.holds,BE.den]<;>and_intros<;>repeat first | trivial | rfl | exact ((is1_s g5 _ _ 2 _ rfl).res fun _ => Sim.bool (by rw [t8]; rfl)) | exact as_s 1 g3.x 0 | exact S8 | exact (fun _ _ => by kernel_rfl) | refine ⟨?_,?_⟩ | intro h | exact Int.le_refl _ | decide | omega) fun X8 a0 w1 hF => ?_
   apply test_ok hF rfl<;>intro hb hF
   ·have t9:d8=true:=by exact hb
    exact wp_ret ((rmm hB TA_ok hF (v:=()) (q:=p8) ((X8 12).A 0) ((X8 12).c 0) (by simp [thwM,← hup,← hue,Rs.bind,t0,hrun,thwL_succ,hm3,tq4,hm5,tq6,hm7,t8,hm8,t9])).1)
   have t9:d8=false:=by exact hb
   replace hF:=hF.keep [0,3,4] [0,3,4]
   exact wp_skip (⟨(n2,p8,_,_),⟨by rw [hrun]; simp [thwL_succ,Rs.bind,t0,hrun,thwL_succ,hm3,tq4,hm5,tq6,hm7,t8,hm8,t9],hp8,hn8,by dsimp only; have:=hl3; have:=hs5.le; have:=hs7.le; have:=hs8.le; have:=hf0; omega,by dsimp only; omega⟩,by simp only; omega,hF⟩)
  refine drg hB TA_ok [45,0,3,4] [0,3,4] [(2,.r fun _ => .bool .ff)] hF (hob:=by intro X; subst hB; simp only [AO,Ob.holds,BE.den]<;>and_intros<;>repeat first | trivial | rfl | exact ((is1_s g5 _ _ 2 _ rfl).res fun _ => Sim.bool (by rw [t8]; rfl)) | exact as_s 1 g3.x 0 | exact (fun _ _ => by kernel_rfl) | refine ⟨?_,?_⟩ | intro h | exact Int.le_refl _ | decide | omega) fun X8 a0 w1 hF => ?_
  refine test_tt hF rfl (fun hF => ?_)
  exact wp_ret ((rmm hB TA_ok hF (v:=()) (q:=p7) ((X7 3).A 0) ((X7 3).c 0) (by simp [thwM,← hup,← hue,Rs.bind,t0,hrun,thwL_succ,hm3,tq4,hm5,tq6,hm7,t8])).1)
 have tq6:(gk g5 3 || gk g5 4)=false:=by rw [← hq6]; exact hb
 refine wp_skip (wp_seq ?_)
 rcases Bool.eq_false_or_eq_true (gk g5 2) with t8 | t8
 ·rcases (cas_m 0 b J hJ ((X5 2).A 0) ((X5 2).c 0) p5 hp5 hn5 l g3.ver (asR 1 g3.x 0)).two (fro_cas _ _ _ _ _) hp5 hn5 with ⟨w8,p8,hm8,O1⟩ | ⟨d8,p8,hm8,hs8,hp8,hn8,S8⟩
  ·refine stpD 12 hB TA_ok [36,37,38,40,43] [0] [(2,.r fun _ => .bool .tt),(11,.r fun _ => recV (asR 1 g3.x 0))] hF O1 (hob:=by intro X; subst hB; simp only [AO,Ob.holds,BE.den]<;>and_intros<;>repeat first | trivial | rfl | exact ((is1_s g5 _ _ 2 _ rfl).res fun _ => Sim.bool (by rw [t8]; rfl)) | exact as_s 1 g3.x 0 | exact (fun _ _ => by kernel_rfl) | refine ⟨?_,?_⟩ | intro h | exact Int.le_refl _ | decide | omega) fun _ _ _ _ hF hk => ?_
   exact thm (P:=Tryz.prog) (fn:=Tryz.f113) (q:=p8) hF hk (by simp [thwM,← hup,← hue,Rs.bind,t0,hrun,thwL_succ,hm3,tq4,hm5,tq6,t8,hm8])
  refine drg hB TA_ok [45,0,3,4] [0,3,4] [(2,.r fun _ => .bool .tt),(11,.r fun _ => recV (asR 1 g3.x 0)),(12,rc J (.bool (.v d8)) p8)] hF (hob:=by intro X; subst hB; simp only [AO,Ob.holds,BE.den]<;>and_intros<;>repeat first | trivial | rfl | exact ((is1_s g5 _ _ 2 _ rfl).res fun _ => Sim.bool (by rw [t8]; rfl)) | exact as_s 1 g3.x 0 | exact S8 | exact (fun _ _ => by kernel_rfl) | refine ⟨?_,?_⟩ | intro h | exact Int.le_refl _ | decide | omega) fun X8 a0 w1 hF => ?_
  apply test_ok hF rfl<;>intro hb hF
  ·have t9:d8=true:=by exact hb
   exact wp_ret ((rmm hB TA_ok hF (v:=()) (q:=p8) ((X8 12).A 0) ((X8 12).c 0) (by simp [thwM,← hup,← hue,Rs.bind,t0,hrun,thwL_succ,hm3,tq4,hm5,tq6,t8,hm8,t9])).1)
  have t9:d8=false:=by exact hb
  replace hF:=hF.keep [0,3,4] [0,3,4]
  exact wp_skip (⟨(n2,p8,_,_),⟨by rw [hrun]; simp [thwL_succ,Rs.bind,t0,hrun,thwL_succ,hm3,tq4,hm5,tq6,t8,hm8,t9],hp8,hn8,by dsimp only; have:=hl3; have:=hs5.le; have:=(Suf.refl p5).le; have:=hs8.le; have:=hf0; omega,by dsimp only; omega⟩,by simp only; omega,hF⟩)
 refine drg hB TA_ok [45,0,3,4] [0,3,4] [(2,.r fun _ => .bool .ff)] hF (hob:=by intro X; subst hB; simp only [AO,Ob.holds,BE.den]<;>and_intros<;>repeat first | trivial | rfl | exact ((is1_s g5 _ _ 2 _ rfl).res fun _ => Sim.bool (by rw [t8]; rfl)) | exact as_s 1 g3.x 0 | exact (fun _ _ => by kernel_rfl) | refine ⟨?_,?_⟩ | intro h | exact Int.le_refl _ | decide | omega) fun X8 a0 w1 hF => ?_
 refine test_tt hF rfl (fun hF => ?_)
 exact wp_ret ((rmm hB TA_ok hF (v:=()) (q:=p5) ((X5 2).A 0) ((X5 2).c 0) (by simp [thwM,← hup,← hue,Rs.bind,t0,hrun,thwL_succ,hm3,tq4,hm5,tq6,t8])).1)
theorem thw_m (k0 b:Nat) (J:JobA) (hJ:JobOk J) (A:Option Addr) (c:Nat) (p:Pst) (hp:PstOk p) (hn:p.n ≤ 1000000) (l:Lab) (hl:LOk l) (n:Nat) (hfin:∀ j,j < n → FinC j) (hf:p.n < n):RunS 113 k0 b J A c p [labAV l] (fun _ => unitV) (thwM J.bucket J.budget n l p):=RunS.re (thw_m0 b J hJ A c p hp hn l hl n hfin hf) (by repeat (first | exact trivial | refine ⟨zr,?_⟩))
theorem th_fin:∀ n,ThC n ∧ FinC n:=by
 intro n
 induction n using Nat.strongRecOn with
 | _ n ih =>
  have h1:ThC n:=fun k0 b J hJ A c p hp hn l hl hf => thw_m k0 b J hJ A c p hp hn l hl n (fun j hj => (ih j hj).2) hf
  exact ⟨h1,fun k0 b J hJ A c p hp hn l hl g hg hf => fin_m k0 b J hJ A c p hp hn l hl g hg n h1 hf⟩
theorem thw_c (n:Nat):ThC n:=(th_fin n).1
theorem fin_c (n:Nat):FinC n:=(th_fin n).2
end Go.Proofs.YtjgnoldondblaaaGreat.Sym
