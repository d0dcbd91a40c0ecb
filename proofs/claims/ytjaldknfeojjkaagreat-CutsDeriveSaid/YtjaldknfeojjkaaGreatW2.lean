/-
  Texts of the proof, part 2. Conditions: each lemma names its own.
-/
import Derived.Test.YtjaldknfeojjkaaGreatW1
import Derived.Shelf.Small.Bits
import Derived.Test.YtjaldknfeojjkaaGreatProg
import Derived.Maps.RangeWalk
set_option linter.unusedVariables false
set_option linter.unusedSimpArgs false
set_option maxRecDepth 100000
set_option maxHeartbeats 16000000
namespace Go.Proofs.YtjaldknfeojjkaaGreat
open Go.RowKit Go.MapKept
open Go.ChangeMaps (setBlock)
theorem dgt_zero {l:List Nat} {n:Nat} (h:vl l<4294967296 ^ n) (i:Nat) (hi:n<=i):dgt l i=0:=by
 by_cases hl:i<l.length
 ·have h1:=vl_at (l:=l) (t:=i) (Nat.le_of_lt hl);have h2:=vl_drop hl;rw [<- dgt_in hl] at h2;rcases Nat.eq_zero_or_pos (dgt l i) with h0 | h0
  ·exact h0
  ·have h3:=Nat.mul_le_mul_left (4294967296 ^ i) (show 1<=vl (l.drop i) by omega);have h4:=pow_mono hi;omega
 ·exact dgt_out (by omega)
theorem dg_last {n k:Nat} (hk:(dg n).length=k+1):0<dgt (dg n) k/\4294967296 ^ k*dgt (dg n) k<=n/\n<4294967296 ^ k*(dgt (dg n) k+1):=by
 have hlt:k<(dg n).length:=by omega
 have h1:=vl_take_dgt (dg n) k;rw [List.take_of_length_le (by omega),vl_dg] at h1;have h2:=vl_lt ((dg_dig n).take k);rw [List.length_take,Nat.min_eq_left (by omega)] at h2;have hne:=(dg_canon n).2;rw [List.getLast?_eq_getElem?,hk,Nat.add_sub_cancel,List.getElem?_eq_getElem hlt] at hne;rw [<- dgt_in hlt] at hne;refine ⟨Nat.pos_of_ne_zero (fun h=>hne (by rw [h])),by omega,?_⟩;rw [Nat.mul_add]; omega
theorem dg_len_eq {n k:Nat} (h1:4294967296 ^ k<=n) (h2:n<4294967296 ^ (k+1)):(dg n).length=k+1:=by
 have h3:=dg_length_le h2;have h4:=dg_lt n;by_cases h:(dg n).length<=k
 ·have:=pow_mono h;omega
 ·omega
theorem div_norm {B k n:Nat} (hk:(dg B).length=k+1) (hn:n<=32) (hf:2 ^ n*dgt (dg B) k<4294967296) :
  (dg (2 ^ n*B)).length=k+1/\4294967296 ^ k<=B:=by
 obtain ⟨h1,h2,h3⟩:=dg_last hk;generalize dgt (dg B) k=t at *;have hp:4294967296=2 ^ n*2 ^ (32 - n):=by rw [<- Nat.pow_add,show n+(32 - n)=32 by omega]
 have ht:2 ^ n*(t+1)<=4294967296:=by
  rw [hp] at hf ⊢;exact Nat.mul_le_mul_left _ (Nat.lt_of_mul_lt_mul_left hf)
 have hB:4294967296 ^ k<=B:=Nat.le_trans (Nat.le_mul_of_pos_right _ h1) h2;refine ⟨dg_len_eq (Nat.le_trans hB (Nat.le_mul_of_pos_left _ (Nat.two_pow_pos n))) ?_,hB⟩;have h5:2 ^ n*B<2 ^ n*(4294967296 ^ k*(t+1)):=Nat.mul_lt_mul_of_pos_left h3 (Nat.two_pow_pos n);have h6:=Nat.mul_le_mul_left (4294967296 ^ k) ht;rw [Nat.mul_left_comm] at h5;rw [pow_next];omega
theorem div_first {u:List Nat} {A B k n la m:Nat} (hv:vl u=2 ^ n*A) (hA:A<4294967296 ^ la) (hl:u.length=la+1) (hm:m+(k+1)=la+1) (hB:4294967296 ^ k<=B):vl (u.drop m)<2 ^ n*B:=by
 have h1:=vl_at (l:=u) (t:=m) (by omega);have h2:4294967296 ^ m*vl (u.drop m)<4294967296 ^ m*(2 ^ n*B):=by
  have h3:2 ^ n*A<2 ^ n*4294967296 ^ la:=Nat.mul_lt_mul_of_pos_left hA (Nat.two_pow_pos n);have h4:4294967296 ^ la=4294967296 ^ m*4294967296 ^ k:=(by rw [<- Nat.pow_add]; congr 1; omega);have h5:4294967296 ^ m*(2 ^ n*4294967296 ^ k)<=4294967296 ^ m*(2 ^ n*B):=Nat.mul_le_mul_left _ (Nat.mul_le_mul_left _ hB);rw [h4,Nat.mul_left_comm] at h3;omega
 exact Nat.lt_of_mul_lt_mul_left h2
theorem top_three {l:List Nat} {k:Nat} (hd:Dig l) (h:vl l<4294967296 ^ (k+3)) (hl:k+3<=l.length) :
  vl l=((dgt l (k+2)*4294967296+dgt l (k+1))*4294967296+dgt l k)*4294967296 ^ k+vl (l.take k):=by
 have h0:vl l=vl (l.take (k+3)):=vl_high (fun i hi=>dgt_zero h i hi);rw [vl_take_dgt,vl_take_dgt,vl_take_dgt,pow_next (k+1),pow_next k] at h0;rw [h0];generalize 4294967296 ^ k=P at *;generalize dgt l (k+2)=x at *;generalize dgt l (k+1)=y at *;generalize dgt l k=z at *;have e1:P*4294967296*4294967296*x=x*4294967296*4294967296*P:=by rw [Nat.mul_comm,<- Nat.mul_assoc,<- Nat.mul_assoc,Nat.mul_right_comm _ P,Nat.mul_right_comm _ P]
 have e2:P*4294967296*y=y*4294967296*P:=by rw [Nat.mul_comm,<- Nat.mul_assoc,Nat.mul_right_comm]
 have e3:P*z=z*P:=Nat.mul_comm _ _;simp only [Nat.add_mul];omega
theorem top_two {n k:Nat} (hk:(dg n).length=k+2):n=(dgt (dg n) (k+1)*4294967296+dgt (dg n) k)*4294967296 ^ k+vl ((dg n).take k):=by
 have h0:=vl_take_dgt (dg n) (k+1);rw [List.take_of_length_le (by omega),vl_dg,vl_take_dgt,pow_next] at h0;generalize 4294967296 ^ k=P at *;generalize dgt (dg n) (k+1)=x at *;generalize dgt (dg n) k=y at *;have e2:P*4294967296*x=x*4294967296*P:=by rw [Nat.mul_comm,<- Nat.mul_assoc,Nat.mul_right_comm]
 have e3:P*y=y*P:=Nat.mul_comm _ _;rw [Nat.add_mul];omega
structure BackSt (l:List Nat) (n i:Nat) (o:List Nat):Prop where
 dig:Dig o
 len:o.length=l.length
 same:∀ j,i<=j->dgt o j=dgt l j
 val:vl (o.take i)=vl l / 2 ^ n % 4294967296 ^ i
theorem BackSt.zero {l:List Nat} (hd:Dig l) (n:Nat):BackSt l n 0 l:=⟨hd,rfl,fun _ _=>rfl,by rw [Nat.pow_zero,Nat.mod_one]; rfl⟩
theorem back_digit {l:List Nat} (hd:Dig l) {n i:Nat} (hn:n<32):vl l / 2 ^ n / 4294967296 ^ i % 4294967296=(dgt l (i+1)*4294967296+dgt l i) / 2 ^ n % 4294967296:=by
 have key:∀ m,∃ T,vl (l.take (i+2+m))=vl (l.take i)+4294967296 ^ i*(dgt l i+4294967296*dgt l (i+1)+18446744073709551616*T):=fun m=>by
  induction m with
  | zero =>
   refine ⟨0,?_⟩;rw [Nat.add_zero,vl_take_dgt,vl_take_dgt,pow_next i,Nat.mul_assoc,Nat.add_assoc,Nat.mul_add,Nat.mul_add,Nat.mul_zero]; rfl
  | succ m ih =>
   obtain ⟨T,ih⟩:=ih;refine ⟨T+4294967296 ^ m*dgt l (i+2+m),?_⟩;rw [<- Nat.add_assoc,vl_take_dgt,ih];have e:4294967296 ^ (i+2+m)=4294967296 ^ i*(18446744073709551616*4294967296 ^ m):=(by rw [Nat.pow_add,Nat.pow_add,Nat.mul_assoc]);rw [e];simp only [Nat.mul_add,Nat.mul_assoc];omega
 obtain ⟨T,hT⟩:=key l.length;rw [vl_take_all (by omega)] at hT;have hlt:vl (l.take i)<4294967296 ^ i:=Nat.lt_of_lt_of_le (vl_lt (hd.take i)) (pow_mono (by rw [List.length_take]; omega));have hp:0<4294967296 ^ i:=Nat.pow_pos (by omega);have h1:vl l / 4294967296 ^ i=dgt l i+4294967296*dgt l (i+1)+18446744073709551616*T:=by
  rw [hT,Nat.add_mul_div_left _ _ hp,Nat.div_eq_of_lt hlt,Nat.zero_add]
 have hdd:vl l / 2 ^ n / 4294967296 ^ i=vl l / 4294967296 ^ i / 2 ^ n:=by rw [Nat.div_div_eq_div_mul,Nat.div_div_eq_div_mul,Nat.mul_comm]
 have he:18446744073709551616*T=2 ^ n*(4294967296*(2 ^ (32 - n)*T)):=by
  have hq:(2:Nat) ^ n*2 ^ (32 - n)=4294967296:=(by rw [<- Nat.pow_add,show n+(32 - n)=32 by omega]);calc 18446744073709551616*T=4294967296*(4294967296*T):=by omega
   _=2 ^ n*2 ^ (32 - n)*(4294967296*T):=by rw [hq]
   _=_:=by rw [Nat.mul_assoc,Nat.mul_left_comm (2 ^ (32 - n))]
 rw [hdd,h1,he,Nat.add_mul_div_left _ _ (Nat.two_pow_pos n),Nat.add_mul_mod_self_left,Nat.mul_comm 4294967296 (dgt l (i+1)),Nat.add_comm (dgt l i)]
theorem BackSt.step {l:List Nat} (hd:Dig l) {n i d:Nat} (hn:n<32) {o:List Nat} (hi:i<l.length) (h:BackSt l n i o) (he:d=(dgt o (i+1)*4294967296+dgt o i) / 2 ^ n % 4294967296):BackSt l n (i+1) (o.set i d):=by
 have hlt:i<o.length:=by rw [h.len]; exact hi
 have hdl:d<4294967296:=by rw [he]; exact Nat.mod_lt _ (by omega)
 refine ⟨h.dig.set _ _ hdl,by simp [h.len],fun j hj=>by rw [dgt_set hlt,if_neg (by omega)]; exact h.same j (by omega),?_⟩;rw [vl_take_dgt,dgt_set hlt,if_pos rfl,List.take_set_of_le (Nat.le_refl _),h.val,pow_next,Nat.mod_mul,back_digit hd hn,he,h.same _ (by omega),h.same _ (Nat.le_refl _)]
theorem BackSt.done {l:List Nat} {n k:Nat} {o:List Nat} (h:BackSt l n k o) {R:Nat} (hv:vl l=2 ^ n*R) (hR:R<4294967296 ^ k):vl (o.take k)=R:=by
 rw [h.val,hv,Nat.mul_div_cancel_left _ (Nat.two_pow_pos n),Nat.mod_eq_of_lt hR]
end Go.Proofs.YtjaldknfeojjkaaGreat
namespace Go.Proofs
open Go.Shelf
def Tryz.lays128_ren:Go.Shelf.Ren:=⟨fun | 128=>150 | n=>n,fun | 51=>129 | 3=>3 | 4=>4 | 46=>114 | 5=>5 | 9=>9 | n=>n,fun | n=>n⟩
theorem Tryz.lays128:Go.Proofs.Lays.n128 Tryz.prog Tryz.lays128_ren:={
 mixed:=by kernel_rfl
 f128:=Tryz.func150.trans (congrArg some (by kernel_rfl))
 t3:=Tryz.underlying3
 a3:=Tryz.isAgg3
 z3:=Tryz.sizeOf3
 v3:=Tryz.zeroValue3
 t4:=Tryz.underlying4
 a4:=Tryz.isAgg4
 z4:=Tryz.sizeOf4
 v4:=Tryz.zeroValue4
 t5:=Tryz.underlying5
 a5:=Tryz.isAgg5
 z5:=Tryz.sizeOf5
 v5:=Tryz.zeroValue5
 t9:=Tryz.underlying9
 a9:=Tryz.isAgg9
 z9:=Tryz.sizeOf9
 v9:=Tryz.zeroValue9
 t46:=Tryz.underlying114
 a46:=Tryz.isAgg114
 z46:=Tryz.sizeOf114
 v46:=Tryz.zeroValue114
 t51:=Tryz.underlying129
 a51:=Tryz.isAgg129
 z51:=Tryz.sizeOf129
 v51:=Tryz.zeroValue129 }
theorem Tryz.bits_Len32 (x:Int) (w:World) (h0:0<=x) (h1:x<=4294967295) :
  Calls Tryz.prog 150 #[.int .u32 x] w fun e w'=>e=.returned (.int .i64 (Lib.bitLen x.toNat))/\w'=w:=Any.bits_Len32 Tryz.lays128 x w h0 h1
def Tryz.lays133_ren:Go.Shelf.Ren:=⟨fun | 128=>150 | 133=>235 | n=>n,fun | 51=>129 | 3=>3 | 4=>4 | 46=>114 | 5=>5 | 9=>9 | n=>n,fun | n=>n⟩
theorem Tryz.lays133:Go.Proofs.Lays.n133 Tryz.prog Tryz.lays133_ren:={
 mixed:=by kernel_rfl
 f128:=Tryz.func150.trans (congrArg some (by kernel_rfl))
 f133:=Tryz.func235.trans (congrArg some (by kernel_rfl))
 t3:=Tryz.underlying3
 a3:=Tryz.isAgg3
 z3:=Tryz.sizeOf3
 v3:=Tryz.zeroValue3
 t4:=Tryz.underlying4
 a4:=Tryz.isAgg4
 z4:=Tryz.sizeOf4
 v4:=Tryz.zeroValue4
 t5:=Tryz.underlying5
 a5:=Tryz.isAgg5
 z5:=Tryz.sizeOf5
 v5:=Tryz.zeroValue5
 t9:=Tryz.underlying9
 a9:=Tryz.isAgg9
 z9:=Tryz.sizeOf9
 v9:=Tryz.zeroValue9
 t46:=Tryz.underlying114
 a46:=Tryz.isAgg114
 z46:=Tryz.sizeOf114
 v46:=Tryz.zeroValue114
 t51:=Tryz.underlying129
 a51:=Tryz.isAgg129
 z51:=Tryz.sizeOf129
 v51:=Tryz.zeroValue129 }
theorem Tryz.bits_LeadingZeros32 (x:Int) (w:World) (h0:0<=x) (h1:x<=4294967295) :
  Calls Tryz.prog 235 #[.int .u32 x] w fun e w'=>e=.returned (.int .i64 (32 - (Lib.bitLen x.toNat:Int)))/\w'=w:=Any.bits_LeadingZeros32 Tryz.lays133 x w h0 h1
end Go.Proofs
namespace Go.Proofs.YtjaldknfeojjkaaGreat
open Go.RowKit Go.MapKept
open Go.ChangeMaps (setBlock)
theorem Rds.off {S:Nat->Prop} {w w':World} {b o n c:Nat} {l:List Nat} (h:Rds w (.slice (some ⟨b,o,none⟩) n c) l) (hx:Ext S w w') (hb:¬ S b):Rds w' (.slice (some ⟨b,o,none⟩) n c) l:=by
 obtain ⟨h0,ao,c',e,h1,h2,h3,h4⟩:=h;cases e;refine ⟨h0,_,_,rfl,h1,h2,h3,fun hp=>?_⟩;obtain ⟨b',off,e,hbl,hc⟩:=h4 hp;cases e;exact ⟨b,o,rfl,Nat.lt_of_lt_of_le hbl hx.size,fun i d hi=>(hx.cell (p:=⟨b,o+i,none⟩) hbl hb).trans (hc i d hi)⟩
theorem Rds.at {w:World} {b o n c:Nat} {l:List Nat} (h:Rds w (.slice (some ⟨b,o,none⟩) n c) l):n=l.length/\∀ i,i<l.length->w.cell? ⟨b,o+i,none⟩=some (.int .u32 (dgt l i)):=by
 obtain ⟨h0,ao,c',e,h1,h2,h3,h4⟩:=h;cases e;refine ⟨rfl,fun i hi=>?_⟩;obtain ⟨b',off,e,hbl,hc⟩:=h4 (by omega);cases e;rw [dgt_in hi];exact hc i _ (List.getElem?_eq_getElem hi)
theorem Rds.head {w:World} {ao:Option Addr} {c m:Nat} {l:List Nat} (h:Rds w (.slice ao m c) l) (n:Nat) (hn:n<=m):Rds w (.slice ao n c) (l.take n):=by
 obtain ⟨hd,ao',c',e,h1,h2,h3,h4⟩:=h;cases e;have hl:(l.take n).length=n:=by rw [List.length_take]; omega
 refine ⟨hd.take n,ao,c,by rw [hl],by omega,h2,h3,fun hp=>?_⟩;obtain ⟨b,off,e,hb,hc⟩:=h4 (by omega);refine ⟨b,off,e,hb,fun i d hi=>hc i d ?_⟩;have hlt:=(List.getElem?_eq_some_iff.1 hi).1;rwa [List.getElem?_take_of_lt (by omega)] at hi
theorem Rds.base {w:World} {ao:Option Addr} {n c:Nat} {l:List Nat} (h:Rds w (.slice ao n c) l) (hp:0<l.length):∃ b o,ao=some ⟨b,o,none⟩/\b<w.heap.size:=by
 obtain ⟨h0,ao,c',e,h1,h2,h3,h4⟩:=h;cases e;obtain ⟨b,off,e,hbl,_⟩:=h4 hp;exact ⟨b,off,e,hbl⟩
theorem Arr.extS {S:Nat->Prop} {w w':World} {b:Nat} {l:List Nat} (h:Arr w b l) (hx:Ext S w w') (hb:¬ S b):Arr w' b l:=by
 obtain ⟨cur,h,ht⟩:=h;exact ⟨cur,(hx.blk (blk_lt h) hb).trans h,ht⟩
theorem bitLenAux_lt:∀ (f x:Nat),x<2 ^ f->x<2 ^ (Lib.bitLenAux f x)
 | 0,x,h=>by simpa [Lib.bitLenAux] using h
 | f+1,x,h=>by
  unfold Lib.bitLenAux;split
  ·subst_vars; exact Nat.two_pow_pos _
  ·have:=bitLenAux_lt f (x / 2) (by rw [Nat.pow_succ] at h; omega);rw [Nat.add_comm,Nat.pow_succ]; omega
theorem bitLen_lt {x:Nat} (h:x<4294967296):x<2 ^ (Lib.bitLen x):=bitLenAux_lt 64 x (Nat.lt_trans h (by decide))
theorem lead_ok {t:Nat} (h0:0<t) (h:t<4294967296):∃ n:Nat,n<32/\(32:Int) - (Lib.bitLen t:Int)=n/\2 ^ n*t<4294967296:=by
 have h1:=bitLen_lt h;have h2:Lib.bitLen t<=32:=Any.bitLen_le32 t (by omega) (by omega);generalize Lib.bitLen t=m at *;have hm:0<m:=by
  rcases Nat.eq_zero_or_pos m with rfl | h
  ·simp at h1; omega
  ·exact h
 refine ⟨32 - m,by omega,by omega,?_⟩;have h3:2 ^ (32 - m)*t<2 ^ (32 - m)*2 ^ m:=Nat.mul_lt_mul_of_pos_left h1 (Nat.two_pow_pos _);rw [<- Nat.pow_add,show 32 - m+m=32 by omega] at h3;exact h3
def DivPost (w:World) (x y:Nat) (r:Ending) (w':World):Prop :=
 if y=0 then r=.returned (.tuple #[.slice none 0 0,.slice none 0 0,.int .i64 2])/\w'=w
 else ∃ v1 v2,r=.returned (.tuple #[v1,v2,.int .i64 0])/\IsNat w' v1 (x / y)/\IsNat w' v2 (x % y)/\XF w w'
theorem DivPost.mk {w w':World} {x y:Nat} {v1 v2:Value} (h:¬ y=0) (h1:IsNat w' v1 (x / y)) (h2:IsNat w' v2 (x % y)) (hx:XF w w'):DivPost w x y (.returned (.tuple #[v1,v2,.int .i64 0])) w':=by
 unfold DivPost; rw [if_neg h]; exact ⟨v1,v2,rfl,h1,h2,hx⟩
theorem IsNat.nil (w:World):IsNat w (.slice none 0 0) 0:=by unfold IsNat; rw [dg_zero]; exact Rds.nil w
theorem dg_one {n:Nat} (h:(dg n).length=1):dgt (dg n) 0=n/\0<n/\n<4294967296:=by
 obtain ⟨h1,h2,h3⟩:=dg_last (k:=0) h;have h4:=dg_lt n;rw [h] at h4;simp at h2 h3;omega
theorem dg_mono {a b:Nat} (h:a<=b):(dg a).length<=(dg b).length:=dg_length_le (Nat.lt_of_le_of_lt h (dg_lt b))
theorem divmod_any (w:World) (va vb:Value) (a b:List Nat) (ha:Rds w va a) (hb:Rds w vb b) (hal:a.length<=268435455) (hbl:b.length<=268435455) :
  Calls Tryz.prog 226 #[va,vb] w (DivPost w (vl a) (vl b)):=by
 have Ta:=bH (trim_any w va a ha);have Tb:=bH (trim_any w vb b hb);have la:=trimL_length a ha.1;have lb:=trimL_length b hb.1;unfold trimL at Ta Tb la lb;generalize vl a=x at *;generalize vl b=y at *;obtain ⟨m,hm⟩:∃ m,(dg x).length=m:=⟨_,rfl⟩;obtain ⟨k,hk⟩:∃ k,(dg y).length=k:=⟨_,rfl⟩;have hml:m<=268435455:=by omega
 have hkl:k<=268435455:=by omega
 have Hm:=bH hm;have Hk:=bH hk;clear ha hb la lb hal hbl hm hk;go_enter Tryz.func226,Tryz.ntmps226;go_wp2_with fail;refine Ta.o.mono ?_;rintro r w' ⟨hw,v1,rfl,h1⟩; obtain rfl:=hw.symm;have H1:=bH h1;clear hw Ta;go_wp2_with fail;refine Tb.o.mono ?_;rintro r w' ⟨hw,v2,rfl,h2⟩; obtain rfl:=hw.symm;have H2:=bH h2;obtain ⟨ao,ca,rfl,_⟩:=h1.2;obtain ⟨bo,cb,rfl,_⟩:=h2.2;rw [Hm.o] at H1 ⊢;rw [Hk.o] at H2 ⊢;clear hw Tb h1 h2;by_cases hy:k=0
 ·subst hy;have hy0:y=0:=dg_eq_nil.1 (List.eq_nil_of_length_eq_zero Hk.o);have HP:Hid (DivPost w x y (.returned (.tuple #[.slice none 0 0,.slice none 0 0,.int .i64 2])) w):=bH (by unfold DivPost; rw [if_pos hy0]; exact ⟨rfl,rfl⟩);clear hy0;go_wp2;go_ret3;exact HP.o
 ·have hy0:¬ y=0:=fun h=>hy (by rw [<- Hk.o,h,dg_zero]; rfl);have k1:¬ (k:Int)=0:=(by omega);have HC:=bH (cmp_any w _ _ _ _ H1.o H2.o (by rw [Hm.o]; omega) (by rw [Hk.o]; omega));rw [vl_dg,vl_dg] at HC;by_cases hxy:x<y
  ·have e:cmpN x y = -1:=(by unfold cmpN; rw [if_pos hxy]);rw [e] at HC;have HCl:=bH (clone_any w _ _ H1.o (by rw [Hm.o]; omega));have Hxy:=bH hxy;have Hy0:=bH hy0;clear e hxy hy0;go_wp2_with fail;refine HC.o.mono ?_;rintro r w' ⟨rfl,hw⟩; obtain rfl:=hw.symm;go_wp2_with fail;refine HCl.o.mono ?_;rintro r w9 ⟨v9,rfl,ho,hx⟩;have HP:Hid (DivPost w x y (.returned (.tuple #[.slice none 0 0,v9,.int .i64 0])) w9):=bH (DivPost.mk Hy0.o (by rw [Nat.div_eq_of_lt Hxy.o]; exact IsNat.nil _) (by rw [Nat.mod_eq_of_lt Hxy.o]; exact ho.rds (dg_dig _)) hx);clear ho hx;go_wp2;go_ret3;exact HP.o
  ·have e:¬ cmpN x y<0:=(by unfold cmpN; rw [if_neg hxy]; split <;> omega);generalize hq:cmpN x y=cq at *;clear hq;have hmono:=dg_mono (show y<=x by omega);rw [Hm.o,Hk.o] at hmono;have Hxy:=bH hxy;have Hy0:=bH hy0;clear hxy hy0;obtain ⟨bb,ob,rfl,hbb⟩:=H2.o.base (by rw [Hk.o]; omega);have hc:=H2.o.at.2;rw [Hk.o] at hc;by_cases k2:k=1
   ·subst k2;obtain ⟨y1,y2,y3⟩:=dg_one Hk.o;have c0:=hc 0 (by omega);rw [y1] at c0;simp only [Nat.add_zero] at c0;have HS:=bH (short_any w _ _ H1.o (by rw [Hm.o]; omega) (by rw [Hm.o]; omega) y y2 y3);rw [vl_dg] at HS;clear hc y1;go_wp2_with fail;refine HC.o.mono ?_;rintro r w' ⟨rfl,hw⟩; obtain rfl:=hw.symm;go_wp2_with fail;refine HS.o.mono ?_;rintro r w9 ⟨v9,rfl,h9,hx⟩;have HF:=bH (from_any w9 (x % y) (by have:=Nat.mod_lt x y2; omega));have H9:=bH h9;have HX:=bH hx;obtain ⟨rr,hrr⟩:∃ rr,x % y=rr:=⟨_,rfl⟩;rw [hrr] at HF ⊢;have Hrr:=bH hrr;clear h9 hx hrr;go_wp2_with fail;refine HF.o.mono ?_;rintro r w8 ⟨v8,rfl,h8,hx8⟩;have HP:Hid (DivPost w x y (.returned (.tuple #[v9,v8,.int .i64 0])) w8):=bH (DivPost.mk Hy0.o (H9.o.keep hx8) (by rw [Hrr.o]; exact h8) (HX.o.trans hx8));clear h8 hx8;go_wp2;go_ret3;exact HP.o
   ·obtain ⟨k1',hk1⟩:∃ k1',k=k1'+1:=⟨k - 1,by omega⟩;obtain ⟨k2',hk2⟩:∃ k2',k1'=k2'+1:=⟨k1' - 1,by omega⟩;have hkd':(dg y).length=k1'+1:=(by have:=Hk.o; omega);have Hlast:=dg_last (n:=y) (k:=k1') hkd';have c0:=hc k1' (by omega);obtain ⟨t,ht⟩:∃ t,dgt (dg y) k1'=t:=⟨_,rfl⟩;have htl:=dgt_lt (dg_dig y) k1';rw [ht] at c0 htl Hlast;obtain ⟨n,hn,hbit,hnt⟩:=lead_ok Hlast.1 htl;obtain ⟨hV,hB⟩:=div_norm (n:=n) hkd' (by omega) (by rw [ht]; exact hnt);obtain ⟨V,hVe⟩:∃ V,2 ^ n*y=V:=⟨_,rfl⟩;rw [hVe] at hV;have HL:=bH (Tryz.bits_LeadingZeros32 (t:Int) w (by omega) (by omega));rw [Int.toNat_natCast,hbit] at HL;have HS1:=bH (shift_any w _ _ H1.o (by rw [Hm.o]; omega) n hn);have HV:=bH (bI hV (bI hB hVe));have i0:(k:Int) - 1=k1':=(by omega);have i1:(0:Int)<=(k1':Int):=(by omega);have i2:(k1':Int)<(k:Int):=(by omega);have HK:=bH (bI hk1 hk2);have hk3:2<=k:=(by omega);clear hc Hlast hnt hV hB hkd' hbit hVe hk1 hk2;have Ht:=bH ht;clear ht;go_wp2_with fail;refine HC.o.mono ?_;rintro r w' ⟨rfl,hw⟩; obtain rfl:=hw.symm;go_wp2_with fail;refine HL.o.mono ?_;rintro r w' ⟨rfl,hw⟩; obtain rfl:=hw.symm;clear hw HL HC c0 htl Ht;go_wp2_with fail;refine HS1.o.mono ?_;rintro r w1 ⟨lu,rfl,hA,hd,hl,hv,hx⟩;have HS2:=bH (shift_any w1 _ _ (H2.o.keep hx) (by rw [Hk.o]; omega) n hn);rw [vl_dg] at hv;rw [Hm.o] at hl;obtain ⟨M,hM⟩:∃ M,m+1=M:=⟨_,rfl⟩;rw [hM] at hl;rw [hl];have hU1:=hA.lt;obtain ⟨U,hU⟩:∃ U,w.heap.size=U:=⟨_,rfl⟩;rw [hU] at hA hU1 ⊢;have HA1:=bH (bI hA (bI hd (bI hl (bI hv hx))));clear hA hd hl hv hx;go_wp2_with fail;refine HS2.o.mono ?_;rintro r w2 ⟨lv,rfl,hA,hd,hl,hv,hx⟩;rw [vl_dg,HV.o.2.2] at hv;rw [Hk.o] at hl;have hT:=trim_at w2 _ lv (hA.rds hd (by rw [hl]; omega));unfold trimL at hT;rw [hv] at hT;have HT:=bH hT;have HX2:=bH hx;have hBl:=hA.lt;clear hA hd hl hv hx hT HS2;obtain ⟨Bv,hBv⟩:∃ Bv,w1.heap.size=Bv:=⟨_,rfl⟩;rw [hBv] at HT hBl ⊢;have hUB:¬ Bv=U:=(by omega);go_wp2_with fail;refine HT.o.mono ?_;rintro r w' ⟨hw,v3,rfl,h3,hcut⟩; obtain rfl:=hw.symm;obtain ⟨n3,rfl⟩:=hcut _ _ _ rfl;have hn3:=h3.at.1;rw [HV.o.1,<- HK.o.1] at hn3;subst hn3;have H3:=bH h3;clear hw h3 hcut HT;obtain ⟨mm,hmm⟩:∃ mm,M - n3=mm:=⟨_,rfl⟩;have hmi:(M:Int) - n3=mm:=(by omega);obtain ⟨w3,hmk,hQ,hxq⟩:=run_make_nat w2 mm (by omega);obtain ⟨Q,hQe⟩:∃ Q,w2.heap.size=Q:=⟨_,rfl⟩;have hs2:=HX2.o.size;rw [hQe] at hmk hQ hs2 hBl;have hUQ:¬ Q=U:=(by omega);have hfirst:=div_first (u:=lu) (A:=x) (B:=y) (k:=k1') (n:=n) (la:=m) (m:=mm) HA1.o.2.2.2.1 (by have:=dg_lt x; rwa [Hm.o] at this) (by rw [HA1.o.2.2.1]; omega) (by have:=HK.o.1; omega) HV.o.2.1;rw [HV.o.2.2] at hfirst;have hst0:=DivSt.start (m:=mm) HA1.o.2.1 hfirst;rw [HA1.o.2.2.2.1] at hst0;have HI:=bH (bI hst0 (bI (HA1.o.1.ext (HX2.o.trans hxq)) (bI hQ (bI (H3.o.keep hxq) ((HA1.o.2.2.2.2.trans HX2.o).trans hxq)))));have HLu:=bH HA1.o.2.2.1;clear hfirst hst0 hQ hxq hs2 HA1;go_wp2_with fail;go_loopg [14] mm (fun g v14 wr=>∃ (i:Nat) (u q:List Nat),i<=mm/\g=i/\v14=.int .i64 ((i:Int) - 1)/\DivSt (2 ^ n*x) V mm i u q/\u.length=M/\Arr wr U u/\Arr wr Q q/\Rds wr (.slice (some ⟨Bv,0,none⟩) n3 n3) (dg V)/\XF w wr);case atStart=>exact ⟨mm,lu,_,Nat.le_refl _,rfl,rfl,HI.o.1,HLu.o,HI.o.2.1,HI.o.2.2.1,HI.o.2.2.2.1,HI.o.2.2.2.2⟩
    case round =>
     obtain ⟨i,u,q,him,hg,rfl,hst,hlu,hAu,hAq,hrv,hx⟩:=hrel;obtain rfl:=hg.symm;clear HI HLu hmk;by_cases h0:i=0
     ·subst h0;have hdn:=hst.done;rw [<- HV.o.2.2,Nat.mul_div_mul_left _ _ (Nat.two_pow_pos n),Nat.mul_mod_mul_left] at hdn;have HD:=bH hdn;have HQ:=bH (bI hst.qdig (bI hst.qlen hAq));have HB0:=bH (bI (BackSt.zero hst.udig n) (bI hAu hx));have Hud:=bH hst.udig;have p1:((0:Nat):Int) - 1 = -1:=(by omega);rw [p1];have HLu:=bH hlu;clear hst hdn hlu hAu hAq hrv hx p1 i0 i2 i1;go_wp2_with fail;go_loopg [124] n3 (fun g v124 wr2=>∃ (i:Nat) (o:List Nat),i<=n3/\g=n3 - i/\v124=.int .i64 i/\BackSt u n i o/\Arr wr2 U o/\Arr wr2 Q q/\XF w wr2);case atStart=>exact ⟨0,u,Nat.zero_le _,rfl,rfl,HB0.o.1,HB0.o.2.1,HQ.o.2.2,HB0.o.2.2⟩
      case round =>
       obtain ⟨i,o,hi,rfl,rfl,hst,hAo,hAq,hx⟩:=hrel;clear HB0;have hlo:=hst.len.trans HLu.o;have hro:=hAo.rds' hst.dig (c:=M) (by omega) (by unfold maxLen; omega);rw [hlo] at hro;by_cases hin:i<n3
       ·have d1:=digit_any wr _ o hro (i+1) (by omega);have d0:=digit_any wr _ o hro i (by omega);have l1:=dgt_lt hst.dig (i+1);have l0:=dgt_lt hst.dig i;have hnx:=fun d he=>BackSt.step (d:=d) Hud.o hn (by have:=HLu.o; omega) hst he;have c2:=hAo.cell i (by omega);have f2:=hAo.free i;generalize dgt o (i+1)=X at *;generalize dgt o i=Y at *;have hor:=or_digits l1 l0;obtain ⟨T,hT⟩:∃ T,X*4294967296+Y=T:=⟨_,rfl⟩;rw [hT] at hor hnx;have HD1:=bH d1;have HD0:=bH d0;have Hnx:=bH hnx;have HA:=bH (bI hAo (bI hAq hx));obtain ⟨I1,hI1⟩:∃ I1,i+1=I1:=⟨_,rfl⟩;have i3:(i:Int)+1=I1:=(by omega);rw [hI1] at HD1 Hnx;have HI1:=bH hI1;clear hI1;clear d1 d0 hnx hst hAo hAq hx hro hT hlo;go_wp2_with fail;refine HD1.o.mono ?_;rintro r w' ⟨rfl,hw⟩; obtain rfl:=hw.symm;go_wp2_with fail;refine HD0.o.mono ?_;rintro r w' ⟨rfl,hw⟩; obtain rfl:=hw.symm;go_wp2;have q1:(T:Int) / 2 ^ n % 4294967296=((T / 2 ^ n % 4294967296:Nat):Int):=(by rw [Int.natCast_emod,Int.natCast_ediv,Int.natCast_pow]; rfl);rw [q1];go_roundg (n3 - I1);case measure=>have:=HI1.o; omega
        case rel =>
         have hxs:=(Ext.refl (fun z=>z=U) wr).setCell (p:=⟨U,i,none⟩) (.int .u32 (T / 2 ^ n % 4294967296:Nat)) (fun _=>rfl);obtain ⟨h1,h2,h3⟩:=HA.o;exact ⟨I1,_,by have:=HI1.o; omega,rfl,by go_num,Hnx.o _ rfl,h1.set i _,h2.extS hxs hUQ,h3.own hxs (fun z e=>by omega)⟩
       ·obtain rfl:i=n3:=(by omega);have hV:=dg_lt V;rw [HV.o.1,<- HK.o.1] at hV;have hyV:x % y<4294967296 ^ i:=by
         have h1:=Nat.mod_lt x (Nat.pos_of_ne_zero Hy0.o);have h2:=HV.o.2.2;have h3:=Nat.le_mul_of_pos_left y (Nat.two_pow_pos n);omega
        have hR:=hst.done HD.o.2 hyV;have hq:=hAq.rds' HQ.o.1 (c:=mm) (by rw [HQ.o.2.1]; exact Nat.le_refl _) (by unfold maxLen; omega);rw [HQ.o.2.1] at hq;have HTq:=bH (fun W (hW:XF wr W)=>trim_any W _ q (hq.keep hW));unfold trimL at HTq;rw [HD.o.1] at HTq;have HFu:=bH (fun W (hW:XF wr W)=>fresh_any W _ _ ((hro.head i (by omega)).keep hW) (by rw [List.length_take]; omega));rw [hR] at HFu;have HX:=bH hx;have hiM:(i:Int)<=(M:Int):=(by omega);have hi0:(0:Int)<=(i:Int):=(by omega);clear hst hAo hAq hx hro hlo hin hV hyV hR hq;go_upto_region 23 with fail;go_region_law (first
         | (go_simp; go_at_call 219; (with_reducible refine (HTq.o _ ?_).mono ?_); (repeat (first | exact Ext.refl _ _ | apply Ext.drew | assumption)); rintro r w7 ⟨hw7,v9,rfl,h9⟩; subst hw7)
         | (go_simp; go_at_call 205; (with_reducible refine (HFu.o _ ?_).mono ?_); (repeat (first | exact Ext.refl _ _ | apply Ext.drew | assumption)); rintro r w8 ⟨v8,rfl,h8,hx8⟩))
        all_goals (have HP:Hid (DivPost w x y (.returned (.tuple #[v9,v8,.int .i64 0])) w8):=bH (DivPost.mk Hy0.o (h9.keep hx8) h8 (HX.o.drew.trans hx8)))
        all_goals clear h9 h8 hx8
        all_goals go_wp2
        all_goals go_ret3
        all_goals exact HP.o
     ·obtain ⟨j,rfl⟩:∃ j,i=j+1:=⟨i - 1,by omega⟩;have hk1:=HK.o.1;have hk2:=HK.o.2;have hju:j<u.length:=(by omega);have hd3:=hst.udig.drop j;have hnl:=hst.next_lt hju;have hVk:=dg_lt V;rw [HV.o.1] at hVk;have hXk:vl (u.drop j)<4294967296 ^ (k2'+3):=by
       have h1:4294967296*V<4294967296*4294967296 ^ (k1'+1):=Nat.mul_lt_mul_of_pos_left hVk (by omega);rw [Nat.mul_comm 4294967296 (4294967296 ^ (k1'+1)),<- Nat.pow_succ] at h1;rw [show k2'+3=(k1'+1).succ by omega];exact Nat.lt_trans hnl h1
      have htop:=top_three hd3 hXk (by rw [List.length_drop]; omega);have hVtop:=top_two (n:=V) (k:=k2') (by rw [HV.o.1]; omega);have hVlast:=dg_last (n:=V) (k:=k2'+1) (by rw [HV.o.1]; omega);have hX0:=vl_take_lt hd3 k2';have hV0:=vl_take_lt (dg_dig V) k2';rw [dgt_drop,dgt_drop,dgt_drop] at htop;have hXl:=dgt_lt hst.udig (j+(k2'+2));have hYl:=dgt_lt hst.udig (j+(k2'+1));have hZl:=dgt_lt hst.udig (j+k2');have hFl:=dgt_lt (dg_dig V) (k2'+1);have hSl:=dgt_lt (dg_dig V) k2';have cx:=hAu.cell (j+(k2'+2)) (by omega);have cy:=hAu.cell (j+(k2'+1)) (by omega);have cz:=hAu.cell (j+k2') (by omega);have hvc:=hrv.at.2;have cf:=hvc (k2'+1) (by rw [HV.o.1]; omega);have cs:=hvc k2' (by rw [HV.o.1]; omega);rw [Nat.zero_add] at cf cs;obtain ⟨hxf,hg1,hg2⟩:=guess_ok hVlast.1 htop hX0 hVtop hV0 hYl hSl hnl;have hF0:=hVlast.1;generalize hXe:dgt u (j+(k2'+2))=X at *;generalize hYe:dgt u (j+(k2'+1))=Y at *;generalize hZe:dgt u (j+k2')=Z at *;generalize hFe:dgt (dg V) (k2'+1)=F at *;generalize hSe:dgt (dg V) k2'=S at *;have HE:=bH (fun W=>estimate_any W X Y Z F S hF0 hFl hxf hYl hZl hSl);have hGl:guess X Y Z F S<4294967296:=Nat.lt_of_le_of_lt (Nat.min_le_left _ _) (by omega);generalize guess X Y Z F S=G at *;have hfit:G*vl (dg V)<=vl (u.drop j)+vl (dg V):=by
       rw [vl_dg];have h1:=Nat.mul_le_mul_right V hg2;rw [Nat.add_mul,Nat.one_mul] at h1;have h2:=Nat.div_mul_le_self (vl (u.drop j)) V;omega
      have HR:=bH (fun N=>reduce_any (wr.drewN N) U M M u (.slice (some ⟨Bv,0,none⟩) n3 n3) (dg V) j G (hAu.ext ((Ext.refl _ wr).drewN N)) hlu hst.udig (fun W hW=>(hrv.keep ((Ext.refl _ wr).drewN N)).off hW (by omega)) (k1'+2) (by rw [HV.o.1]) (by omega) (by omega) hGl (fun i hi=>dgt_zero hXk i (by omega)) hfit);have hlq:j<q.length:=(by rw [hst.qlen]; omega);have HG:=bH (fun (q':Nat) (u':List Nat) (h1:q'<=G) h2 h3 h4 h5 h6=>DivSt.step (d:=q') (u':=u') hst (show j<mm by omega) h2 hju (by omega) h3 h4 h5 (digit_rest hg1 (show 0<V by have:=HV.o.2.2; have:=hVlast.2.1; have:=Nat.mul_le_mul (show 1<=4294967296 ^ (k2'+1) from Nat.pow_pos (by omega)) hF0; omega) h5 h6));obtain ⟨P0,hP0⟩:∃ P0,j+(k2'+2)=P0:=⟨_,rfl⟩;obtain ⟨P1,hP1⟩:∃ P1,j+(k2'+1)=P1:=⟨_,rfl⟩;obtain ⟨P2,hP2⟩:∃ P2,j+k2'=P2:=⟨_,rfl⟩;obtain ⟨R1,hR1⟩:∃ R1,k2'+1=R1:=⟨_,rfl⟩;rw [hP0] at cx;rw [hP1] at cy;rw [hP2] at cz;rw [hR1] at cf;have p1:((j+1:Nat):Int) - 1=j:=(by omega);have i0a:(0:Int)<=(j:Int)+n3:=(by omega);have i0b:(j:Int)+n3<(M:Int):=(by omega);have i0c:((j:Int)+n3).toNat=P0:=(by omega);have i1a:(0:Int)<=(j:Int)+n3 - 1:=(by omega);have i1b:(j:Int)+n3 - 1<(M:Int):=(by omega);have i1c:((j:Int)+n3 - 1).toNat=P1:=(by omega);have i2a:(0:Int)<=(j:Int)+n3 - 2:=(by omega);have i2b:(j:Int)+n3 - 2<(M:Int):=(by omega);have i2c:((j:Int)+n3 - 2).toNat=P2:=(by omega);have i3a:(0:Int)<=(n3:Int) - 1:=(by omega);have i3b:(n3:Int) - 1<(n3:Int):=(by omega);have i3c:((n3:Int) - 1).toNat=R1:=(by omega);have i4a:(0:Int)<=(n3:Int) - 2:=(by omega);have i4b:(n3:Int) - 2<(n3:Int):=(by omega);have i4c:((n3:Int) - 2).toNat=k2':=(by omega);have b5:j<mm:=(by omega);have hql:=hst.qlen;have HS:=bH (bI hAq (bI hql hx));have HLu:=bH hlu;have Hrv:=bH hrv;rw [p1];clear i0 i2 hk1 hk2 hd3 hnl hVk hXk htop hVtop hVlast hX0 hV0 hvc hxf hg1 hg2 hXe hYe hZe hFe hSe hfit hP0 hP1 hP2 hR1 hst hlu hAu hAq hrv hx hql p1 him hju hlq;go_upto_region 16 with fail;go_quiet ((go_at_call 237; exact (HE.o _).mono (fun r w' h=>⟨h.1,(by obtain ⟨n,e⟩:=h.2; exact ⟨_,e.trans (World.drewN_drewN _ _ _)⟩)⟩)));go_wp2_with fail;refine (HR.o _).mono ?_;rintro r w9 ⟨q',u',rfl,hq',hA9,hd9,hl9,hs9,hv9,hdq9,hx9⟩;rw [vl_dg] at hv9 hdq9;have hnew:=HG.o q' u' hq' hl9 hd9 (fun p hp=>hs9 p (.inl hp)) hv9 hdq9;have hq32:(q':Int) % 4294967296=q':=(by omega);have aq:=(HS.o.1.ext ((Ext.refl _ wr).drewN _)).extS hx9 hUQ;have f2:=aq.free j;have c2:=aq.cell j (by rw [HS.o.2.1]; omega);have HN:=bH (bI hnew (bI (hl9.trans HLu.o) (bI hA9 (bI (aq.set j q') (bI ((Hrv.o.keep ((Ext.refl _ wr).drewN _)).off hx9 hUB) ((HS.o.2.2.drewN _).own hx9 (fun z e=>by omega)))))));clear hq' hA9 hd9 hl9 hs9 hv9 hdq9 hx9 hnew aq HE HR HG;go_wp2;go_roundg j;case measure=>omega
      case rel =>
       have hxs:=(Ext.refl (fun z=>z=Q) w9).setCell (p:=⟨Q,j,none⟩) (.int .u32 (q':Nat)) (fun _=>rfl);obtain ⟨h1,h2,h3,h4,h5,h6⟩:=HN.o;exact ⟨j,u',_,by omega,rfl,by go_num,h1,h2,h3.extS hxs (fun e=>hUQ e.symm),h4,h5.off hxs (by omega),h6.own hxs (fun z e=>by omega)⟩
theorem dg_two_lt {n:Nat} (h:(dg n).length<=2):n<18446744073709551616:=Nat.lt_of_lt_of_le (dg_lt n) (pow_mono h)
theorem gcd_any (w:World) (va vb:Value) (a b:List Nat) (ha:Rds w va a) (hb:Rds w vb b) (hal:a.length<=268435455) (hbl:b.length<=268435455) :
  Calls Tryz.prog 203 #[va,vb] w (NatPost w (Nat.gcd (vl a) (vl b))):=by
 have Fa:=bH (fresh_any w va a ha (by omega));have Fb:=bH (fun W (hW:XF w W)=>fresh_any W vb b (hb.keep hW) (by omega));have la:=trimL_length a ha.1;have lb:=trimL_length b hb.1;unfold trimL at la lb;have hla:(dg (vl a)).length<=268435455:=by omega
 have hlb:(dg (vl b)).length<=268435455:=by omega
 generalize vl a=x0 at *;generalize vl b=y0 at *;have HL:=bH (bI hla hlb);clear ha hb hal hbl la lb hla hlb;go_enter Tryz.func203,Tryz.ntmps203;go_wp2_with fail;refine Fa.o.mono ?_;rintro r w1 ⟨v1,rfl,h1,hx1⟩;have Fb1:=bH (Fb.o w1 hx1);have H1:=bH (bI h1 hx1);clear h1 hx1 Fa Fb;go_wp2_with fail;refine Fb1.o.mono ?_;rintro r w2 ⟨v2,rfl,h2,hx2⟩;have HI:=bH (bI (H1.o.1.keep hx2) (bI h2 (H1.o.2.trans hx2)));clear h2 hx2 Fb1 H1;go_wp2_with fail;go_loopg [0,1] y0 (fun g v0 v1 wr=>∃ x y:Nat,g=y/\IsNat wr v0 x/\IsNat wr v1 y/\(dg x).length<=268435455/\(dg y).length<=268435455/\Nat.gcd x y=Nat.gcd x0 y0/\XF w wr);case atStart=>exact ⟨x0,y0,rfl,HI.o.1,HI.o.2.1,HL.o.1,HL.o.2,rfl,HI.o.2.2⟩
 case round =>
  rename_i v0 v1;obtain ⟨x,y,hg,h0,h1,hlx,hly,hgc,hx⟩:=hrel;obtain rfl:=hg.symm;clear HI HL;have h0':=h0;have h1':=h1;obtain ⟨ao,ca,rfl,_⟩:=h0'.2;obtain ⟨bo,cb,rfl,_⟩:=h1'.2;by_cases hy:y=0
  ·subst hy;rw [Nat.gcd_zero_right] at hgc;rw [dg_zero];have HP:Hid (NatPost w (Nat.gcd x0 y0) (.returned (.slice ao (dg x).length ca)) wr):=bH ⟨_,rfl,by rw [<- hgc]; exact h0,hx⟩;clear h0 h1 h0' h1' hgc hx hlx hly;generalize (dg x).length=lx at *;simp only [List.length_nil];go_wp2;go_ret;exact HP.o
  ·obtain ⟨m,hm⟩:∃ m,(dg x).length=m:=⟨_,rfl⟩;obtain ⟨k,hk⟩:∃ k,(dg y).length=k:=⟨_,rfl⟩;have hk0:0<k:=by
    rcases Nat.eq_zero_or_pos k with h | h
    ·exact absurd (dg_eq_nil.1 (List.eq_nil_of_length_eq_zero (hk.trans h))) hy
    ·exact h
   have hki:(0:Int)<(k:Int):=(by omega);have HD:=divmod_any wr _ _ _ _ h0 h1 hlx hly;have HS:=fun h2 h3=>small_any wr _ _ _ _ h0 h1 h2 h3;rw [vl_dg,vl_dg,hm,hk] at HD HS;have hlx':=hlx;have hly':=hly;rw [hm] at hlx';rw [hk] at hly';have H0:=bH (bI h0 (bI h1 (bI hx hgc)));have Hm:=bH (bI hm (bI hk (bI hlx hly)));rw [hm,hk];have Hy:=bH hy;by_cases h22:m<=2/\k<=2
   ·have HS':=bH (HS (dg_two_lt (by omega)) (dg_two_lt (by omega)));have m2:(m:Int)<=2:=(by omega);have k2:(k:Int)<=2:=(by omega);clear h0 h1 h0' h1' hgc hx hlx hly hm hk HD HS h22 hy;go_wp2_with fail;refine HS'.o.mono ?_;rintro r w9 ⟨v9,rfl,h9,hx9⟩;have HP:Hid (NatPost w (Nat.gcd x0 y0) (.returned v9) w9):=bH ⟨_,rfl,by rw [<- H0.o.2.2.2]; exact h9,H0.o.2.2.1.trans hx9⟩;clear h9 hx9;go_wp2;go_ret;exact HP.o
   ·have hD':DivPost wr x y=fun r w'=>∃ v1 v2,r=.returned (.tuple #[v1,v2,.int .i64 0])/\IsNat w' v1 (x / y)/\IsNat w' v2 (x % y)/\XF wr w':=by
     funext r w'; unfold DivPost; rw [if_neg hy]
    rw [hD'] at HD;have HD':=bH HD;have hlt:=Nat.mod_lt x (Nat.pos_of_ne_zero hy);have hmono:=dg_mono (Nat.le_of_lt hlt);have hgn:Nat.gcd y (x % y)=Nat.gcd x0 y0:=(by rw [<- hgc,Nat.gcd_comm y,<- Nat.gcd_rec,Nat.gcd_comm]);have HN:=bH (bI hlt (bI hgn (Nat.le_trans hmono hly)));have hcase:¬ (m:Int)<=2∨((m:Int)<=2/\¬ (k:Int)<=2):=(by omega);clear h0 h1 h0' h1' hgc hx hlx hly hm hk HD HS h22 hy hD' hlt hmono hgn;rcases hcase with m2 | ⟨m2,k2⟩;all_goals
     go_wp2_with fail
     refine HD'.o.mono ?_
     rintro r w9 ⟨v8,v9,rfl,_,h9,hx9⟩
     have HF:Hid (IsNat w9 (.slice bo k cb) y/\IsNat w9 v9 (x % y)/\XF w w9):=bH ⟨by have:=H0.o.2.1.keep hx9; rw [Hm.o.2.1] at this; exact this,h9,H0.o.2.2.1.trans hx9⟩
     clear h9 hx9
     go_wp2
     go_roundg (x % y)
    case measure=>exact HN.o.1
    case rel=>exact ⟨y,x % y,rfl,HF.o.1,HF.o.2.1,Hm.o.2.2.2,HN.o.2.2,HN.o.2.1,HF.o.2.2⟩
    case measure=>exact HN.o.1
    case rel=>exact ⟨y,x % y,rfl,HF.o.1,HF.o.2.1,Hm.o.2.2.2,HN.o.2.2,HN.o.2.1,HF.o.2.2⟩
def BitsPost (w:World) (n:Nat) (r:Ending) (w':World):Prop:=∃ m:Nat,r=.returned (.int .i64 m)/\w'=w/\(m=0↔n=0)
theorem bits_any (w:World) (v:Value) (l:List Nat) (h:Rds w v l) (hl:l.length<=268435455):Calls Tryz.prog 186 #[v] w (BitsPost w (vl l)):=by
 have HT:=bH (trim_any w v l h);have ll:=trimL_length l h.1;unfold trimL at HT ll;generalize vl l=n at *;have hl2:(dg n).length<=268435455:=by omega
 clear h ll hl;go_enter Tryz.func186,Tryz.ntmps186;go_wp2_with fail;refine HT.o.mono ?_;rintro r w' ⟨hw,v1,rfl,h1⟩; obtain rfl:=hw.symm;obtain ⟨ao,c,rfl,_⟩:=id h1.2;obtain ⟨k,hk⟩:∃ k,(dg n).length=k:=⟨_,rfl⟩;rw [hk] at h1 hl2 ⊢;by_cases h0:k=0
 ·subst h0;have hn:n=0:=dg_eq_nil.1 (List.eq_nil_of_length_eq_zero hk);have HP:Hid (BitsPost w n (.returned (.int .i64 0)) w):=bH ⟨0,rfl,rfl,by simp [hn]⟩;clear hn h1 hk HT;go_wp2;go_ret;exact HP.o
 ·obtain ⟨j,hj⟩:∃ j,k=j+1:=⟨k - 1,by omega⟩;obtain ⟨bb,ob,rfl,hbb⟩:=h1.base (by omega);have c0:=h1.at.2 j (by omega);obtain ⟨hp,_,_⟩:=dg_last (n:=n) (k:=j) (by omega);have htl:=dgt_lt (dg_dig n) j;generalize dgt (dg n) j=t at *;have HL:=bH (Tryz.bits_Len32 (t:Int) w (by omega) (by omega));rw [Int.toNat_natCast] at HL;have hbl:=bitLen_lt htl;have hb32:=Any.bitLen_le32 t (by omega) (by omega);rw [Int.toNat_natCast] at hb32;generalize Lib.bitLen t=q at *;have hq0:0<q:=by
   rcases Nat.eq_zero_or_pos q with rfl | h
   ·simp at hbl; omega
   ·exact h
  have hne:¬ n=0:=fun h=>h0 (by rw [<- hk,h,dg_zero]; rfl);obtain ⟨S,hS⟩:∃ S,32*j+q=S:=⟨_,rfl⟩;have HP:Hid (BitsPost w n (.returned (.int .i64 S)) w):=bH ⟨S,rfl,rfl,by constructor <;> intro h <;> omega⟩;have i0:(k:Int) - 1=j:=(by omega);have i1:(j:Int)<(k:Int):=(by omega);have i2:(32:Int)*j+q=S:=(by omega);have i3:¬ (k:Int)=0:=(by omega);clear h1 hk HT hj hp hbl hS hne;go_wp2_with fail;refine HL.o.mono ?_;rintro r w' ⟨rfl,hw⟩; obtain rfl:=hw.symm;clear hw HL c0;go_wp2;go_ret;exact HP.o
def sg (neg:Bool) (n:Nat):Int:=if neg then -(n:Int) else n
theorem sg_natAbs (neg:Bool) (n:Nat):(sg neg n).natAbs=n:=by unfold sg; split <;> omega
theorem sg_neg (neg:Bool) (n:Nat):decide (sg neg n<0)=(neg && decide (0<n)):=by
 unfold sg;cases neg
 ·simp
 ·simp
def Rint (w:World) (v:Value) (z:Int) (L:Nat):Prop:=∃ neg mag l,v=.agg #[.bool neg,mag]/\Rds w mag l/\l.length<=L/\z=sg neg (vl l)
def IsInt (w:World) (v:Value) (z:Int):Prop:=∃ mag,v=.agg #[.bool (decide (z<0)),mag]/\IsNat w mag z.natAbs
def IntPost (w:World) (z:Int) (r:Ending) (w':World):Prop:=∃ v,r=.returned v/\IsInt w' v z/\XF w w'
theorem IsNat.keep {w w':World} {v:Value} {n:Nat} (h:IsNat w v n) (hx:XF w w'):IsNat w' v n:=Rds.keep h hx
theorem Rint.keep {w w':World} {v:Value} {z:Int} {L:Nat} (h:Rint w v z L) (hx:XF w w'):Rint w' v z L:=by
 obtain ⟨neg,mag,l,h1,h2,h3⟩:=h;exact ⟨neg,mag,l,h1,h2.keep hx,h3⟩
theorem IsInt.keep {w w':World} {v:Value} {z:Int} (h:IsInt w v z) (hx:XF w w'):IsInt w' v z:=by
 obtain ⟨mag,h1,h2⟩:=h;exact ⟨mag,h1,h2.keep hx⟩
theorem IsInt.reads {w:World} {v:Value} {z:Int} {L:Nat} (h:IsInt w v z) (hl:(dg z.natAbs).length<=L):Rint w v z L:=by
 obtain ⟨mag,h1,h2⟩:=h;refine ⟨_,mag,_,h1,h2,hl,?_⟩;rw [vl_dg];unfold sg;split
 ·rename_i h; have:=of_decide_eq_true h; omega
 ·rename_i h; have:¬ z<0:=fun h'=>h (decide_eq_true h'); omega
theorem IsInt.mk {w:World} {mag:Value} {n:Nat} (neg:Bool) (h:IsNat w mag n):IsInt w (.agg #[.bool (neg && decide (0<n)),mag]) (sg neg n) :=
 ⟨mag,by rw [sg_neg],by rw [sg_natAbs]; exact h⟩
theorem IsNat.shape {w:World} {v:Value} {n:Nat} (h:IsNat w v n):∃ ao c,v=.slice ao (dg n).length c:=by
 obtain ⟨ao,c,h,_⟩:=h.2;exact ⟨ao,c,h⟩
theorem signed_any (w:World) (neg:Bool) (mag:Value) (n:Nat) (h:IsNat w mag n) (hl:(dg n).length<=268435455) :
  Calls Tryz.prog 154 #[.bool neg,mag] w (IntPost w (sg neg n)):=by
 have HB:=bH (fun W (hW:XF w W)=>bits_any W mag _ (h.keep hW) hl);rw [vl_dg] at HB;have HI:=bH (IsInt.mk neg h);obtain ⟨ao,c,rfl⟩:=h.shape;clear h;generalize (dg n).length=m at *;go_enter Tryz.func154,Tryz.ntmps154;cases neg
 ·go_wp2;refine bodyPost_ret (v:=.agg #[.bool false,.slice ao m c]) (by simp [results,Tryz.results154,go_sem]) rfl ⟨_,rfl,?_,?_⟩
  ·have:=HI.o.keep ((Ext.refl _ w).alloc (.cells #[.bool false,.slice ao m c] 62));rwa [Bool.false_and] at this
  ·exact (Ext.refl _ w).alloc _
 ·go_wp2_with fail;refine (HB.o _ ((Ext.refl _ w).alloc _)).mono ?_;rintro r w' ⟨q,rfl,hw,hq⟩;subst hw;have hd:decide (0<n)=decide ((0:Int)<(q:Int)):=by
   by_cases h0:n=0
   ·rw [h0,hq.2 h0]; rfl
   ·have:¬ q=0:=fun h=>h0 (hq.1 h);rw [decide_eq_true (by omega:0<n),decide_eq_true (by omega:(0:Int)<(q:Int))]
  have HI':=bH HI.o;rw [hd,Bool.true_and] at HI';clear hd hq HI HB;go_wp2;refine bodyPost_ret (v:=.agg #[.bool (decide ((0:Int)<(q:Int))),.slice ao m c]) (by simp [results,Tryz.results154,go_sem]) rfl ⟨_,rfl,?_,?_⟩
  ·exact HI'.o.keep (by repeat (first | exact Ext.refl _ _ | apply Ext.alloc))
  ·repeat (first | exact Ext.refl _ _ | apply Ext.alloc)
def NoDig (w:World) (k:Nat):Prop:=∀ i d,w.cell? ⟨k,i,none⟩≠some (.int .u32 d)
theorem Rds.past {S:Nat->Prop} {w w':World} {v:Value} {l:List Nat} (h:Rds w v l) (hx:Ext S w w') (hS:∀ k,k<w.heap.size->S k->NoDig w k):Rds w' v l:=by
 obtain ⟨h0,ao,c,rfl,h1,h2,h3,h4⟩:=h;refine ⟨h0,_,_,rfl,h1,h2,h3,fun hp=>?_⟩;obtain ⟨b,off,e,hbl,hc⟩:=h4 hp;have hn:¬ S b:=fun hs=>hS b hbl hs (off+0) _ (hc 0 l[0] (List.getElem?_eq_getElem hp));exact ⟨b,off,e,Nat.lt_of_lt_of_le hbl hx.size,fun i d hi=>(hx.cell (p:=⟨b,off+i,none⟩) hbl hn).trans (hc i d hi)⟩
def BoxI (w:World) (b:Nat) (neg:Bool) (mag:Value):Prop:=blk w b=some (.cells #[.bool neg,mag] 62 (0,0))/\∀ k d,mag≠.int k d
theorem Rds.noInt {w:World} {v:Value} {l:List Nat} (h:Rds w v l) (k:IntKind) (d:Int):v≠.int k d:=by
 obtain ⟨_,ao,c,rfl,_⟩:=h;intro e; cases e
theorem BoxI.lt {w:World} {b:Nat} {neg:Bool} {mag:Value} (h:BoxI w b neg mag):b<w.heap.size:=blk_lt h.1
theorem BoxI.facts {w:World} {b:Nat} {neg:Bool} {mag:Value} (h:BoxI w b neg mag):w.cell? ⟨b,0,none⟩=some (.bool neg)/\w.cell? ⟨b,1,none⟩=some mag/\w.frozen? ⟨b,0,none⟩=false/\w.frozen? ⟨b,1,none⟩=false :=
 ⟨by simpa using cell_of_cells h.1 0,by simpa using cell_of_cells h.1 1,free_of_cells h.1 0,free_of_cells h.1 1⟩
theorem BoxI.noDig {w:World} {b:Nat} {neg:Bool} {mag:Value} (h:BoxI w b neg mag):NoDig w b:=fun i d=>by
 rw [cell_of_cells h.1 i];match i with
 | 0=>simp
 | 1=>simpa using h.2 .u32 d
 | i+2=>simp
theorem BoxI.ext {S:Nat->Prop} {w w':World} {b:Nat} {neg:Bool} {mag:Value} (h:BoxI w b neg mag) (hx:Ext S w w') (hn:¬ S b):BoxI w' b neg mag:=⟨(hx.blk h.lt hn).trans h.1,h.2⟩
structure Put (w w':World) (r:Nat) (neg:Bool) (mag:Value):Prop where
 box:BoxI w' r neg mag
 ext:Ext (fun k=>k=r) w w'
 rds:∀ v l,Rds w v l->Rds w' v l
theorem BoxI.put {w:World} {r:Nat} {n0 neg:Bool} {m0 mag:Value} (h:BoxI w r n0 m0) (hm:∀ k d,mag≠.int k d):Put w ((w.setCell ⟨r,0,none⟩ (.bool neg)).setCell ⟨r,1,none⟩ mag) r neg mag:=by
 have hx:Ext (fun k=>k=r) w ((w.setCell ⟨r,0,none⟩ (.bool neg)).setCell ⟨r,1,none⟩ mag):=((Ext.refl (fun k=>k=r) w).setCell (p:=⟨r,0,none⟩) _ (fun _=>rfl)).setCell (p:=⟨r,1,none⟩) _ (fun _=>rfl);refine ⟨⟨?_,hm⟩,hx,fun v l hr=>hr.past hx (fun k _ e=>by subst e; exact h.noDig)⟩;have h1:=blk_setCell_same h.1 0 (.bool neg);have h2:=blk_setCell_same h1 1 mag;simpa using h2
theorem Put.int {w w':World} {r:Nat} {neg:Bool} {mag v:Value} {z:Int} (h:Put w w' r neg mag) (hi:IsInt w v z):IsInt w' v z:=by
 obtain ⟨m,h1,h2⟩:=hi;exact ⟨m,h1,h.rds _ _ h2⟩
theorem IsInt.shape {w:World} {v:Value} {z:Int} (h:IsInt w v z):∃ neg ao n c,v=.agg #[.bool neg,.slice ao n c]:=by
 obtain ⟨m,h1,h2⟩:=h;obtain ⟨ao,c,rfl⟩:=h2.shape;exact ⟨_,_,_,_,h1⟩
theorem no_int (ao:Option Addr) (n c:Nat):∀ k d,Value.slice ao n c≠.int k d:=fun _ _ h=>by cases h
theorem isign_any (w:World) (v:Value) (z:Int) (L:Nat) (h:Rint w v z L) (hL:L<=268435455) :
  Calls Tryz.prog 152 #[v] w fun r w'=>r=.returned (.int .i64 z.sign)/\XF w w':=by
 obtain ⟨neg,mag,l,rfl,hr,hl,rfl⟩:=h;have HB:=bH (fun W (hW:XF w W)=>bits_any W mag l (hr.keep hW) (by omega));have hs:(sg neg (vl l)).sign=if vl l=0 then 0 else if neg then -1 else 1:=by
  unfold sg;by_cases h0:vl l=0
  ·rw [h0]; cases neg <;> rfl
  ·rw [if_neg h0];cases neg
   ·simp; omega
   ·simp; omega
 rw [hs];generalize vl l=n at *;clear hs hr hl;by_cases h0:n=0
 ·rw [if_pos h0];have H0:=bH h0;clear h0;go_enter Tryz.func152,Tryz.ntmps152;go_wp2_with fail;refine (HB.o _ ((Ext.refl _ w).alloc _)).mono ?_;rintro r w' ⟨q,rfl,hw,hq⟩;subst hw;obtain rfl:=hq.2 H0.o;clear HB hq;go_wp2;go_ret;exact ⟨rfl,(Ext.refl _ w).alloc _⟩
 ·rw [if_neg h0];have H0:=bH h0;clear h0;go_enter Tryz.func152,Tryz.ntmps152;go_wp2_with fail;refine (HB.o _ ((Ext.refl _ w).alloc _)).mono ?_;rintro r w' ⟨q,rfl,hw,hq⟩;subst hw;have hq0:¬ (q:Int)=0:=fun h=>H0.o (hq.1 (by omega));clear hq HB;cases neg
  ·go_wp2;go_ret;exact ⟨rfl,(Ext.refl _ w).alloc _⟩
  ·go_wp2;go_ret;exact ⟨rfl,(Ext.refl _ w).alloc _⟩
theorem ifrom_any (w:World) (k:Int) (h0:-9223372036854775808<=k) (h1:k<=9223372036854775807) :
  Calls Tryz.prog 89 #[.int .i64 k] w (IntPost w k):=by
 by_cases hk:k<0
 ·obtain ⟨n,hn⟩:∃ n:Nat,k = -(n:Int):=⟨k.natAbs,by omega⟩;have HF:=bH (fun W=>from_any W n (by omega));have HS:=bH (fun W v h=>signed_any W true v n h (Nat.le_trans (dg_two (n:=n) (by omega)).1 (by omega)));have hz:sg true n=k:=(by unfold sg; simp [hn]);rw [hz] at HS;have q1:IntKind.u64.wrap (-IntKind.u64.wrap (-(n:Int)))=n:=(by rw [wrapU,wrapU]; omega);subst hn;clear hz;go_enter Tryz.func89,Tryz.ntmps89;go_wp2_with fail;refine (HF.o _).mono ?_;rintro r w1 ⟨v1,rfl,h1,hx1⟩;have HS1:=bH (HS.o w1 v1 h1);obtain ⟨ao,c,rfl⟩:=h1.shape;have hb0:BoxI (w.alloc (.cells #[.bool false,.slice none 0 0] 62)) w.heap.size false (.slice none 0 0):=⟨blk_alloc_at _ _,fun _ _ h=>(by cases h)⟩;have HB1:=bH (hb0.ext hx1 id);have HX1:=bH (((Ext.refl (fun _=>False) w).alloc _).trans hx1);clear hb0 h1 hx1;go_wp2_with fail;refine HS1.o.mono ?_;rintro r w2 ⟨v2,rfl,h2,hx2⟩;have hb2:=HB1.o.ext hx2 id;obtain ⟨f0,f1,f2,f3⟩:=hb2.facts;obtain ⟨neg,so,sn,sc,rfl⟩:=h2.shape;have hp:=hb2.put (neg:=neg) (no_int so sn sc);have HR:Hid (IsInt _ _ (-(n:Int))/\XF w _):=bH ⟨hp.int h2,(HX1.o.trans hx2).own hp.ext (fun k e=>by omega)⟩;have hg:=hp.box.facts;have HG:=bH hg;clear hb2 h2 hx2 hp hg;go_wp2;generalize (w2.setCell ⟨w.heap.size,0,none⟩ (.bool neg)).setCell ⟨w.heap.size,1,none⟩ (.slice so sn sc)=w9 at *;obtain ⟨g0,g1,_⟩:=HG.o;exact bodyPost_ret (v:=.agg #[.bool neg,.slice so sn sc]) (by simp [results,Tryz.results89,go_sem,g0,g1]) rfl ⟨_,rfl,HR.o.1,HR.o.2⟩
 ·obtain ⟨n,hn⟩:∃ n:Nat,k=(n:Int):=⟨k.natAbs,by omega⟩;have HF:=bH (fun W=>from_any W n (by omega));have HS:=bH (fun W v h=>signed_any W false v n h (Nat.le_trans (dg_two (n:=n) (by omega)).1 (by omega)));have hz:sg false n=k:=(by unfold sg; simp [hn]);rw [hz] at HS;have q1:IntKind.u64.wrap (n:Int)=n:=(by rw [wrapU]; omega);subst hn;clear hz;go_enter Tryz.func89,Tryz.ntmps89;go_wp2_with fail;refine (HF.o _).mono ?_;rintro r w1 ⟨v1,rfl,h1,hx1⟩;have HS1:=bH (HS.o w1 v1 h1);obtain ⟨ao,c,rfl⟩:=h1.shape;have hb0:BoxI (w.alloc (.cells #[.bool false,.slice none 0 0] 62)) w.heap.size false (.slice none 0 0):=⟨blk_alloc_at _ _,fun _ _ h=>(by cases h)⟩;have HB1:=bH (hb0.ext hx1 id);have HX1:=bH (((Ext.refl (fun _=>False) w).alloc _).trans hx1);clear hb0 h1 hx1;go_wp2_with fail;refine HS1.o.mono ?_;rintro r w2 ⟨v2,rfl,h2,hx2⟩;have hb2:=HB1.o.ext hx2 id;obtain ⟨f0,f1,f2,f3⟩:=hb2.facts;obtain ⟨neg,so,sn,sc,rfl⟩:=h2.shape;have hp:=hb2.put (neg:=neg) (no_int so sn sc);have HR:Hid (IsInt _ _ (n:Int)/\XF w _):=bH ⟨hp.int h2,(HX1.o.trans hx2).own hp.ext (fun k e=>by omega)⟩;have hg:=hp.box.facts;have HG:=bH hg;clear hb2 h2 hx2 hp hg;go_wp2;generalize (w2.setCell ⟨w.heap.size,0,none⟩ (.bool neg)).setCell ⟨w.heap.size,1,none⟩ (.slice so sn sc)=w9 at *;obtain ⟨g0,g1,_⟩:=HG.o;exact bodyPost_ret (v:=.agg #[.bool neg,.slice so sn sc]) (by simp [results,Tryz.results89,go_sem,g0,g1]) rfl ⟨_,rfl,HR.o.1,HR.o.2⟩
theorem boxI_new {W:World} {k:Nat} (hk:k=W.heap.size) (neg:Bool) (ao:Option Addr) (n c:Nat):BoxI (W.alloc (.cells #[.bool neg,.slice ao n c] 62)) k neg (.slice ao n c):=by
 subst hk; exact ⟨blk_alloc_at _ _,no_int ao n c⟩
theorem BoxI.alloc {W:World} {k:Nat} {neg:Bool} {mag:Value} (h:BoxI W k neg mag) (o:Obj):BoxI (W.alloc o) k neg mag:=h.ext ((Ext.refl (fun _=>False) W).alloc o) id
theorem sg_not (neg:Bool) (n:Nat):sg (!neg) n = -sg neg n:=by cases neg <;> simp [sg]
theorem dg_len_add {x y a b:Nat} (hx:x<4294967296 ^ a) (hy:y<4294967296 ^ b):(dg (x+y)).length<=max a b+1:=by
 refine dg_length_le ?_;have h1:=pow_mono (Nat.le_max_left a b);have h2:=pow_mono (Nat.le_max_right a b);rw [pow_next];omega
theorem dg_len_mul {x y a b:Nat} (hx:x<4294967296 ^ a) (hy:y<4294967296 ^ b):(dg (x*y)).length<=a+b:=by
 refine dg_length_le ?_;rw [Nat.pow_add];exact Nat.mul_lt_mul'' hx hy
theorem ineg_any (w:World) (v:Value) (z:Int) (L:Nat) (h:Rint w v z L) (hL:L<=134217728) :
  Calls Tryz.prog 165 #[v] w (IntPost w (-z)):=by
 obtain ⟨neg,mag,l,rfl,hr,hl,rfl⟩:=h;have HA:=bH (fun W (hW:XF w W)=>add_any W mag (.slice none 0 0) l [] (hr.keep hW) (Rds.nil W) (by omega) (by simp));have hln:(dg (vl l)).length<=134217728:=Nat.le_trans (dg_length_le (vl_lt hr.1)) (Nat.le_trans hl hL);rw [show vl l+vl []=vl l from rfl] at HA;have HS:=bH (fun W v h=>signed_any W (!neg) v (vl l) h (by omega));rw [sg_not] at HS;have hmi:=hr.noInt;obtain ⟨ao,c,rfl,_⟩:=hr.2;generalize l.length=m at *;generalize vl l=n at *;clear hr hl hln;go_enter Tryz.func165,Tryz.ntmps165;go_upto_region 0 with fail;go_cut [1,2] (fun v1 v2 wx=>∃ b r,v1=.pointer (some ⟨b,0,none⟩)/\v2=.pointer (some ⟨r,0,none⟩)/\BoxI wx b neg (.slice ao m c)/\BoxI wx r false (.slice none 0 0)/\w.heap.size<=r/\XF w wx);case first =>
  go_wp2;go_meet;exact ⟨_,_,rfl,rfl,(boxI_new rfl neg ao m c).alloc _,boxI_new (by simp) false none 0 0,(by omega),((Ext.refl _ w).alloc _).alloc _⟩
 case rest =>
  obtain ⟨b,r,rfl,rfl,hb,hrb,hle,hx⟩:=hcut;obtain ⟨c0,c1,_⟩:=hb.facts;have HB:=bH (bI hb (bI hrb hx));clear hb hrb hx;go_upto_region 1 with fail;go_region_law (first
   | (go_simp; go_at_call 171; (with_reducible refine (HA.o _ ?_).mono ?_); (exact HB.o.2.2.drew); rintro r5 w5 ⟨v5,rfl,h5,hx5⟩; have hS5:=HS.o w5 v5 h5; obtain ⟨c05,c15,_⟩:=((HB.o.1.ext (Ext.refl (fun _=>False) wc).drew id).ext hx5 id).facts; have hr5:=(HB.o.2.1.ext (Ext.refl (fun _=>False) wc).drew id).ext hx5 id; have hX5:=HB.o.2.2.drew.trans hx5; obtain ⟨ao5,k5,rfl⟩:=h5.shape)
   | (go_simp; go_at_call 154; (with_reducible refine hS5.mono ?_); rintro r6 w6 ⟨v6,rfl,h6,hx6⟩; have hr6:=hr5.ext hx6 id; obtain ⟨d0,d1,d2,d3⟩:=hr6.facts; have hX6:=hX5.trans hx6; obtain ⟨neg6,so,sn,sc,rfl⟩:=h6.shape))
  all_goals
   have hp:=hr6.put (neg:=neg6) (no_int so sn sc)
   have HR:=bH (bI (hp.int h6) (bI (hX6.own hp.ext (fun k e=>by omega)) hp.box))
   clear hp h6 hX6 hr6 hx6 d0 d1 d2 d3
   generalize (w6.setCell ⟨r,0,none⟩ (.bool neg6)).setCell ⟨r,1,none⟩ (.slice so sn sc)=w9 at *
   obtain ⟨g0,g1,_⟩:=HR.o.2.2.facts
   go_wp2
   exact bodyPost_ret (v:=.agg #[.bool neg6,.slice so sn sc]) (by simp [results,Tryz.results165,go_sem,g0,g1]) rfl ⟨_,rfl,HR.o.1,HR.o.2.1⟩
abbrev SI2 (b b':Nat) (n n':Bool) (m m':Value) (W:World):Prop :=
 W.cell? ⟨b,0,none⟩=some (.bool n)/\W.cell? ⟨b,1,none⟩=some m/\W.cell? ⟨b',0,none⟩=some (.bool n')/\W.cell? ⟨b',1,none⟩=some m'
theorem SI2.of {b b':Nat} {n n':Bool} {m m':Value} {W:World} (h:BoxI W b n m) (h':BoxI W b' n' m'):SI2 b b' n n' m m' W:=⟨h.facts.1,h.facts.2.1,h'.facts.1,h'.facts.2.1⟩
theorem SI2.drew {b b':Nat} {n n':Bool} {m m':Value} {W:World} (h:SI2 b b' n n' m m' W):SI2 b b' n n' m m' W.drew:=h
theorem SI2.set {b b':Nat} {n n':Bool} {m m':Value} {W:World} (h:SI2 b b' n n' m m' W) (p:Addr) (u:Value) (h1:¬ b=p.block) (h2:¬ b'=p.block):SI2 b b' n n' m m' (W.setCell p u):=by
 obtain ⟨a,b,c,d⟩:=h;exact ⟨(World.cell?_setCell_other _ _ _ _ (fun e=>h1 (by rw [e]))).trans a,(World.cell?_setCell_other _ _ _ _ (fun e=>h1 (by rw [e]))).trans b,(World.cell?_setCell_other _ _ _ _ (fun e=>h2 (by rw [e]))).trans c,(World.cell?_setCell_other _ _ _ _ (fun e=>h2 (by rw [e]))).trans d⟩
theorem sg_mul (a b:Bool) (x y:Nat):sg (a != b) (x*y)=sg a x*sg b y:=by
 cases a <;> cases b <;> simp [sg,Int.neg_mul,Int.mul_neg]
theorem Rint.open {w:World} {v:Value} {z:Int} {L:Nat} (h:Rint w v z L):∃ neg ao m c l,v=.agg #[.bool neg,.slice ao m c]/\Rds w (.slice ao m c) l/\l.length<=L/\z=sg neg (vl l):=by
 obtain ⟨neg,mag,l,rfl,hr,hl,rfl⟩:=h;obtain ⟨ao,c,rfl,_⟩:=id hr.2;exact ⟨neg,ao,_,c,l,rfl,hr,hl,rfl⟩
theorem imul_any (w:World) (v v':Value) (z z':Int) (L:Nat) (h:Rint w v z L) (h':Rint w v' z' L) (hL:L<=67108864) :
  Calls Tryz.prog 132 #[v,v'] w (IntPost w (z*z')):=by
 obtain ⟨neg,ao,m,c,l,rfl,hr,hl,rfl⟩:=h.open;obtain ⟨neg',ao',m',c',l',rfl,hr',hl',rfl⟩:=h'.open;have HA:=bH (fun W (hW:XF w W)=>mul_any W _ _ l l' (hr.keep hW) (hr'.keep hW) (by omega) (by omega));have hln:=dg_len_mul (vl_lt hr.1) (vl_lt hr'.1);rw [<- sg_mul];obtain ⟨s,hs⟩:∃ s,(neg != neg')=s:=⟨_,rfl⟩;rw [hs];have hs':(!(neg == neg'))=s:=hs;have HS:=bH (fun W v h=>signed_any W s v (vl l*vl l') h (by omega));generalize vl l*vl l'=n at *;clear hr hl hln hr' hl' h h' hs;go_enter Tryz.func132,Tryz.ntmps132;go_upto_region 0 with fail;go_cut [2,3,4] (fun v1 v2 v3 wx=>∃ b b' r,v1=.pointer (some ⟨b,0,none⟩)/\v2=.pointer (some ⟨b',0,none⟩)/\v3=.pointer (some ⟨r,0,none⟩)/\BoxI wx b neg (.slice ao m c)/\BoxI wx b' neg' (.slice ao' m' c')/\BoxI wx r false (.slice none 0 0)/\¬ b=r/\¬ b'=r/\w.heap.size<=r/\XF w wx);case first =>
  go_wp2;go_meet;exact ⟨_,_,_,rfl,rfl,rfl,((boxI_new rfl neg ao m c).alloc _).alloc _,(boxI_new (by simp) neg' ao' m' c').alloc _,boxI_new (by simp) false none 0 0,(by omega),(by omega),(by omega),(((Ext.refl _ w).alloc _).alloc _).alloc _⟩
 case rest =>
  obtain ⟨b,b',r,rfl,rfl,rfl,hb,hb',hrb,n1,n2,hle,hx⟩:=hcut;have hS:=SI2.of hb hb';have HB:=bH (bI hb (bI hb' (bI hrb hx)));clear hb hb' hrb hx;go_upto_region 1 with fail;go_region_held3 (SI2 b b' neg neg' (.slice ao m c) (.slice ao' m' c'))
   (repeat (first | (with_reducible assumption) | (with_reducible refine SI2.drew ?_) | (with_reducible refine SI2.set ?_ _ _ ?_ ?_) | (dsimp only; omega)))
   (first
    | (go_at_call 185; (with_reducible refine (HA.o _ ?_).mono ?_); (exact HB.o.2.2.2.drew); rintro r5 w5 ⟨v5,rfl,h5,hx5⟩; have hS5:=HS.o w5 v5 h5; have hK5:=SI2.of ((HB.o.1.ext (Ext.refl (fun _=>False) wc).drew id).ext hx5 id) ((HB.o.2.1.ext (Ext.refl (fun _=>False) wc).drew id).ext hx5 id); have hr5:=(HB.o.2.2.1.ext (Ext.refl (fun _=>False) wc).drew id).ext hx5 id; have hX5:=HB.o.2.2.2.drew.trans hx5; obtain ⟨ao5,k5,rfl⟩:=h5.shape)
    | (go_at_call 154; (with_reducible refine hS5.mono ?_); rintro r6 w6 ⟨v6,rfl,h6,hx6⟩; have hr6:=hr5.ext hx6 id; obtain ⟨d0,d1,d2,d3⟩:=hr6.facts; have hX6:=hX5.trans hx6; have hK6:=SI2.of (((HB.o.1.ext (Ext.refl (fun _=>False) wc).drew id).ext hx5 id).ext hx6 id) (((HB.o.2.1.ext (Ext.refl (fun _=>False) wc).drew id).ext hx5 id).ext hx6 id); obtain ⟨neg6,so,sn,sc,rfl⟩:=h6.shape))
  all_goals
   have hp:=hr6.put (neg:=neg6) (no_int so sn sc)
   have HR:=bH (bI (hp.int h6) (bI (hX6.own hp.ext (fun k e=>by omega)) hp.box))
   clear hp h6 hX6 hr6 hx6 d0 d1 d2 d3
   generalize (w6.setCell ⟨r,0,none⟩ (.bool neg6)).setCell ⟨r,1,none⟩ (.slice so sn sc)=w9 at *
   obtain ⟨g0,g1,_⟩:=HR.o.2.2.facts
   go_wp2
   exact bodyPost_ret (v:=.agg #[.bool neg6,.slice so sn sc]) (by simp [results,Tryz.results132,go_sem,g0,g1]) rfl ⟨_,rfl,HR.o.1,HR.o.2.1⟩
theorem sg_add (a:Bool) (x y:Nat):sg a (x+y)=sg a x+sg a y:=by cases a <;> simp [sg] <;> omega
theorem sg_sub (a b:Bool) (x y:Nat) (h:y<=x) (hab:¬ a=b):sg a (x - y)=sg a x+sg b y:=by
 cases a <;> cases b <;> simp [sg] at*<;> omega
theorem dg_len_max {n x y a b:Nat} (h:n<=max x y) (hx:x<4294967296 ^ a) (hy:y<4294967296 ^ b):(dg n).length<=max a b:=by
 refine dg_length_le ?_;have h1:=pow_mono (Nat.le_max_left a b);have h2:=pow_mono (Nat.le_max_right a b);omega
theorem iadd_any (w:World) (v v':Value) (z z':Int) (L:Nat) (h:Rint w v z L) (h':Rint w v' z' L) (hL:L<=134217728) :
  Calls Tryz.prog 119 #[v,v'] w (IntPost w (z+z')):=by
 obtain ⟨neg,ao,m,c,l,rfl,hr,hl,rfl⟩:=h.open;obtain ⟨neg',ao',m',c',l',rfl,hr',hl',rfl⟩:=h'.open;have HA:=bH (fun W (hW:XF w W)=>add_any W _ _ l l' (hr.keep hW) (hr'.keep hW) (by omega) (by omega));have HC:=bH (fun W (hW:XF w W)=>cmp_any W _ _ l l' (hr.keep hW) (hr'.keep hW) (by omega) (by omega));have HD:=bH (fun W (h1:Rds W (.slice ao m c) l) (h2:Rds W (.slice ao' m' c') l')=>sub_any W _ _ l l' h1 h2 (by omega) (by omega));have HD':=bH (fun W (h1:Rds W (.slice ao m c) l) (h2:Rds W (.slice ao' m' c') l')=>sub_any W _ _ l' l h2 h1 (by omega) (by omega));have hln:=dg_len_add (vl_lt hr.1) (vl_lt hr'.1);have hS2:=fun n (h:n<=max (vl l) (vl l'))=>dg_len_max h (vl_lt hr.1) (vl_lt hr'.1);have HS:=bH (fun W s v n (h:IsNat W v n) (hn:n<=max (vl l) (vl l')∨n=vl l+vl l')=>signed_any W s v n h (by
  rcases hn with hn | rfl
  ·have:=hS2 n hn; omega
  ·omega))
 have HR0:=bH (bI hr hr');generalize vl l=x at *;generalize vl l'=y at *;clear hr hl hln hr' hl' h h' hS2;obtain ⟨Z,hZ⟩:∃ Z,sg neg x+sg neg' y=Z:=⟨_,rfl⟩;rw [hZ];have HZ:=bH hZ;clear hZ;go_enter Tryz.func119,Tryz.ntmps119;go_upto_region 0 with fail;go_cut [2,3,4] (fun v1 v2 v3 wx=>∃ b b' r,v1=.pointer (some ⟨b,0,none⟩)/\v2=.pointer (some ⟨b',0,none⟩)/\v3=.pointer (some ⟨r,0,none⟩)/\BoxI wx b neg (.slice ao m c)/\BoxI wx b' neg' (.slice ao' m' c')/\BoxI wx r false (.slice none 0 0)/\¬ b=b'/\¬ b=r/\¬ b'=r/\w.heap.size<=b/\w.heap.size<=b'/\w.heap.size<=r/\XF w wx);case first =>
  go_wp2;go_meet;exact ⟨_,_,_,rfl,rfl,rfl,((boxI_new rfl neg ao m c).alloc _).alloc _,(boxI_new (by simp) neg' ao' m' c').alloc _,boxI_new (by simp) false none 0 0,(by omega),(by omega),(by omega),(by omega),(by omega),(by omega),(((Ext.refl _ w).alloc _).alloc _).alloc _⟩
 case rest =>
  obtain ⟨b,b',r,rfl,rfl,rfl,hb,hb',hrb,n0,n1,n2,le1,le2,hle,hx⟩:=hcut;have hS:=SI2.of hb hb';obtain ⟨c0,c1,c2,c3⟩:=hb.facts;obtain ⟨e0,e1,e2,e3⟩:=hb'.facts;have HB:=bH (bI hb (bI hb' (bI hrb hx)));clear hb hb' hrb hx;by_cases hn:neg=neg'
  ·subst hn;have HS1:=bH (fun W v h=>HS.o W neg v (x+y) h (.inr rfl));rw [sg_add,HZ.o] at HS1;clear c2 c3 e2 e3;go_upto_region 2 with fail;go_region_held3 (SI2 b b' neg neg (.slice ao m c) (.slice ao' m' c'))
    (repeat (first | (with_reducible assumption) | (with_reducible refine SI2.drew ?_) | (with_reducible refine SI2.set ?_ _ _ ?_ ?_) | (dsimp only; omega)))
    (first
     | (go_at_call 171; (with_reducible refine (HA.o _ ?_).mono ?_); (exact HB.o.2.2.2.drew); rintro r5 w5 ⟨v5,rfl,h5,hx5⟩; have hS5:=HS1.o w5 v5 h5; have hK5:=SI2.of ((HB.o.1.ext (Ext.refl (fun _=>False) wc).drew id).ext hx5 id) ((HB.o.2.1.ext (Ext.refl (fun _=>False) wc).drew id).ext hx5 id); have hr5:=(HB.o.2.2.1.ext (Ext.refl (fun _=>False) wc).drew id).ext hx5 id; have hX5:=HB.o.2.2.2.drew.trans hx5; obtain ⟨ao5,k5,rfl⟩:=h5.shape)
     | (go_at_call 154; (with_reducible refine hS5.mono ?_); rintro r6 w6 ⟨v6,rfl,h6,hx6⟩; have hr6:=hr5.ext hx6 id; obtain ⟨d0,d1,d2,d3⟩:=hr6.facts; have hX6:=hX5.trans hx6; have hK6:=SI2.of (((HB.o.1.ext (Ext.refl (fun _=>False) wc).drew id).ext hx5 id).ext hx6 id) (((HB.o.2.1.ext (Ext.refl (fun _=>False) wc).drew id).ext hx5 id).ext hx6 id); obtain ⟨neg6,so,sn,sc,rfl⟩:=h6.shape))
   all_goals
    have hp:=hr6.put (neg:=neg6) (no_int so sn sc)
    have HR:=bH (bI (hp.int h6) (bI (hX6.own hp.ext (fun k e=>by omega)) hp.box))
    clear hp h6 hX6 hr6 hx6 d0 d1 d2 d3
    generalize (w6.setCell ⟨r,0,none⟩ (.bool neg6)).setCell ⟨r,1,none⟩ (.slice so sn sc)=w9 at *
    obtain ⟨g0,g1,_⟩:=HR.o.2.2.facts
    go_wp2
    exact bodyPost_ret (v:=.agg #[.bool neg6,.slice so sn sc]) (by simp [results,Tryz.results119,go_sem,g0,g1]) rfl ⟨_,rfl,HR.o.1,HR.o.2.1⟩
  ·have hne:(neg == neg')=false:=(by simpa using hn);have HC1:=bH (HC.o wc HB.o.2.2.2);by_cases hxy:x<y
   ·have e:cmpN x y = -1:=(by unfold cmpN; rw [if_pos hxy]);rw [e] at HC1;have HS1:=bH (fun W v h=>HS.o W neg' v (y - x) h (.inl (by omega)));rw [sg_sub neg' neg y x (by omega) (fun h=>hn h.symm),Int.add_comm,HZ.o] at HS1;have Hxy:=bH hxy;clear e hn hxy;go_wp2_with fail;refine HC1.o.mono ?_;rintro r7 w' ⟨rfl,hw⟩; obtain rfl:=hw.symm;clear hw HC1;go_upto_region 4 with fail;go_cut [] (fun wx=>BoxI wx b neg' (.slice ao' m' c')/\BoxI wx b' neg (.slice ao m c)/\BoxI wx r false (.slice none 0 0)/\Rds wx (.slice ao m c) l/\Rds wx (.slice ao' m' c') l'/\XF w wx);case first =>
     go_wp2;go_meet;have hp1:=HB.o.1.put (neg:=neg') (no_int ao' m' c');have hp2:=(HB.o.2.1.ext hp1.ext (fun e=>n0 e.symm)).put (neg:=neg) (no_int ao m c);exact ⟨hp1.box.ext hp2.ext n0,hp2.box,(HB.o.2.2.1.ext hp1.ext (fun e=>n1 e.symm)).ext hp2.ext (fun e=>n2 e.symm),hp2.rds _ _ (hp1.rds _ _ (HR0.o.1.keep HB.o.2.2.2)),hp2.rds _ _ (hp1.rds _ _ (HR0.o.2.keep HB.o.2.2.2)),(HB.o.2.2.2.own hp1.ext (fun k e=>by omega)).own hp2.ext (fun k e=>by omega)⟩
    case rest =>
     obtain ⟨hb,hb',hrb,hr1,hr2,hx⟩:=hcut;have HD1:=bH (HD'.o wc hr1 hr2);have hnl:¬ y<x:=(by have:=Hxy.o; omega);obtain ⟨c0,c1,_⟩:=hb.facts;obtain ⟨e0,e1,_⟩:=hb'.facts;have HB':=bH (bI hb (bI hrb hx));have Hnl:=bH hnl;clear hb hb' hrb hx hnl;go_wp2_with fail;refine HD1.o.mono ?_;intro r7 w7 hp7;unfold SubPost at hp7;rw [if_neg Hnl.o] at hp7;obtain ⟨v7,rfl,h7,hx7⟩:=hp7;have HS7:=bH (HS1.o w7 v7 h7);obtain ⟨c07,c17,_⟩:=(HB'.o.1.ext hx7 id).facts;have HB7:=bH (bI (HB'.o.2.1.ext hx7 id) (HB'.o.2.2.trans hx7));obtain ⟨ao7,k7,rfl⟩:=h7.shape;clear h7 hx7;go_wp2_with fail;refine HS7.o.mono ?_;rintro r8 w6 ⟨v6,rfl,h6,hx6⟩;have hr6:=HB7.o.1.ext hx6 id;obtain ⟨d0,d1,d2,d3⟩:=hr6.facts;have hX6:=HB7.o.2.trans hx6;obtain ⟨neg6,so,sn,sc,rfl⟩:=h6.shape;have hp:=hr6.put (neg:=neg6) (no_int so sn sc);have HR:=bH (bI (hp.int h6) (bI (hX6.own hp.ext (fun k e=>by omega)) hp.box));clear hp h6 hX6 hr6 hx6;go_wp2;generalize (w6.setCell ⟨r,0,none⟩ (.bool neg6)).setCell ⟨r,1,none⟩ (.slice so sn sc)=w9 at *;obtain ⟨g0,g1,_⟩:=HR.o.2.2.facts;exact bodyPost_ret (v:=.agg #[.bool neg6,.slice so sn sc]) (by simp [results,Tryz.results119,go_sem,g0,g1]) rfl ⟨_,rfl,HR.o.1,HR.o.2.1⟩
   ·have e:¬ cmpN x y<0:=(by unfold cmpN; rw [if_neg hxy]; split <;> omega);generalize hq:cmpN x y=cq at *;have HS1:=bH (fun W v h=>HS.o W neg v (x - y) h (.inl (by omega)));rw [sg_sub neg neg' x y (by omega) hn,HZ.o] at HS1;have Hxy:=bH hxy;clear hq hn hxy;go_wp2_with fail;refine HC1.o.mono ?_;rintro r7 w' ⟨rfl,hw⟩; obtain rfl:=hw.symm;clear hw HC1;obtain ⟨hb,hb',hrb,hx⟩:=HB.o;have HD1:=bH (HD.o wc (HR0.o.1.keep hx) (HR0.o.2.keep hx));have hnl:¬ x<y:=Hxy.o;obtain ⟨c0,c1,_⟩:=hb.facts;obtain ⟨e0,e1,_⟩:=hb'.facts;have HB':=bH (bI hb (bI hrb hx));have Hnl:=bH hnl;clear hb hb' hrb hx hnl;go_wp2_with fail;refine HD1.o.mono ?_;intro r7 w7 hp7;unfold SubPost at hp7;rw [if_neg Hnl.o] at hp7;obtain ⟨v7,rfl,h7,hx7⟩:=hp7;have HS7:=bH (HS1.o w7 v7 h7);obtain ⟨c07,c17,_⟩:=(HB'.o.1.ext hx7 id).facts;have HB7:=bH (bI (HB'.o.2.1.ext hx7 id) (HB'.o.2.2.trans hx7));obtain ⟨ao7,k7,rfl⟩:=h7.shape;clear h7 hx7;go_wp2_with fail;refine HS7.o.mono ?_;rintro r8 w6 ⟨v6,rfl,h6,hx6⟩;have hr6:=HB7.o.1.ext hx6 id;obtain ⟨d0,d1,d2,d3⟩:=hr6.facts;have hX6:=HB7.o.2.trans hx6;obtain ⟨neg6,so,sn,sc,rfl⟩:=h6.shape;have hp:=hr6.put (neg:=neg6) (no_int so sn sc);have HR:=bH (bI (hp.int h6) (bI (hX6.own hp.ext (fun k e=>by omega)) hp.box));clear hp h6 hX6 hr6 hx6;go_wp2;generalize (w6.setCell ⟨r,0,none⟩ (.bool neg6)).setCell ⟨r,1,none⟩ (.slice so sn sc)=w9 at *;obtain ⟨g0,g1,_⟩:=HR.o.2.2.facts;exact bodyPost_ret (v:=.agg #[.bool neg6,.slice so sn sc]) (by simp [results,Tryz.results119,go_sem,g0,g1]) rfl ⟨_,rfl,HR.o.1,HR.o.2.1⟩
theorem Rint.len {w:World} {v:Value} {z:Int} {L:Nat} (h:Rint w v z L):(dg z.natAbs).length<=L:=by
 obtain ⟨neg,mag,l,rfl,hr,hl,rfl⟩:=h;rw [sg_natAbs];exact Nat.le_trans (dg_length_le (vl_lt hr.1)) hl
theorem Rint.mono {w:World} {v:Value} {z:Int} {L M:Nat} (h:Rint w v z L) (hl:L<=M):Rint w v z M:=by
 obtain ⟨neg,mag,l,h1,hr,h2,h3⟩:=h;exact ⟨neg,mag,l,h1,hr,Nat.le_trans h2 hl,h3⟩
theorem len_add {x y:Int} {L:Nat} (hx:(dg x.natAbs).length<=L) (hy:(dg y.natAbs).length<=L):(dg (x+y).natAbs).length<=L+1:=by
 have h1:=dg_lt x.natAbs;have h2:=dg_lt y.natAbs;have h3:=Nat.lt_of_lt_of_le h1 (pow_mono hx);have h4:=Nat.lt_of_lt_of_le h2 (pow_mono hy);refine dg_length_le ?_;rw [pow_next];omega
theorem len_mul {x y:Int} {L M:Nat} (hx:(dg x.natAbs).length<=L) (hy:(dg y.natAbs).length<=M):(dg (x*y).natAbs).length<=L+M:=by
 have h3:=Nat.lt_of_lt_of_le (dg_lt x.natAbs) (pow_mono hx);have h4:=Nat.lt_of_lt_of_le (dg_lt y.natAbs) (pow_mono hy);rw [Int.natAbs_mul];exact dg_len_mul h3 h4
theorem isub_any (w:World) (v v':Value) (z z':Int) (L:Nat) (h:Rint w v z L) (h':Rint w v' z' L) (hL:L<=134217728) :
  Calls Tryz.prog 184 #[v,v'] w (IntPost w (z - z')):=by
 have HN:=bH (fun W (hW:XF w W)=>ineg_any W v' z' L (h'.keep hW) hL);have hl':(dg (-z').natAbs).length<=L:=by rw [Int.natAbs_neg]; exact h'.len
 have HA:=bH (fun W (hW:XF w W) u (hu:IsInt W u (-z'))=>iadd_any W v u z (-z') L (h.keep hW) (hu.reads hl') hL);rw [<- Int.sub_eq_add_neg] at HA;obtain ⟨neg,ao,m,c,l,rfl,_,_,_⟩:=h.open;obtain ⟨neg',ao',m',c',l',rfl,_,_,_⟩:=h'.open;clear h h' hl';go_enter Tryz.func184,Tryz.ntmps184;go_upto_region 0 with fail;go_cut [2,3,4] (fun v1 v2 v3 wx=>∃ b b' r,v1=.pointer (some ⟨b,0,none⟩)/\v2=.pointer (some ⟨b',0,none⟩)/\v3=.pointer (some ⟨r,0,none⟩)/\BoxI wx b neg (.slice ao m c)/\BoxI wx b' neg' (.slice ao' m' c')/\BoxI wx r false (.slice none 0 0)/\¬ b=r/\¬ b'=r/\w.heap.size<=r/\XF w wx);case first =>
  go_wp2;go_meet;exact ⟨_,_,_,rfl,rfl,rfl,((boxI_new rfl neg ao m c).alloc _).alloc _,(boxI_new (by simp) neg' ao' m' c').alloc _,boxI_new (by simp) false none 0 0,(by omega),(by omega),(by omega),(((Ext.refl _ w).alloc _).alloc _).alloc _⟩
 case rest =>
  obtain ⟨b,b',r,rfl,rfl,rfl,hb,hb',hrb,n1,n2,hle,hx⟩:=hcut;have hS:=SI2.of hb hb';have HB:=bH (bI hb (bI hb' (bI hrb hx)));clear hb hb' hrb hx;go_upto_region 1 with fail;go_region_held3 (SI2 b b' neg neg' (.slice ao m c) (.slice ao' m' c'))
   (repeat (first | (with_reducible assumption) | (with_reducible refine SI2.drew ?_) | (with_reducible refine SI2.set ?_ _ _ ?_ ?_) | (dsimp only; omega)))
   (first
    | (go_at_call 165; (with_reducible refine (HN.o _ ?_).mono ?_); (exact HB.o.2.2.2.drew); rintro r5 w5 ⟨v5,rfl,h5,hx5⟩; have hX5:=HB.o.2.2.2.drew.trans hx5; have hA5:=HA.o w5 hX5 v5 h5; have hK5:=SI2.of ((HB.o.1.ext (Ext.refl (fun _=>False) wc).drew id).ext hx5 id) ((HB.o.2.1.ext (Ext.refl (fun _=>False) wc).drew id).ext hx5 id); have hr5:=(HB.o.2.2.1.ext (Ext.refl (fun _=>False) wc).drew id).ext hx5 id; obtain ⟨neg5,ao5,n5,k5,rfl⟩:=h5.shape)
    | (go_at_call 119; (with_reducible refine hA5.mono ?_); rintro r6 w6 ⟨v6,rfl,h6,hx6⟩; have hr6:=hr5.ext hx6 id; obtain ⟨d0,d1,d2,d3⟩:=hr6.facts; have hX6:=hX5.trans hx6; have hK6:=SI2.of (((HB.o.1.ext (Ext.refl (fun _=>False) wc).drew id).ext hx5 id).ext hx6 id) (((HB.o.2.1.ext (Ext.refl (fun _=>False) wc).drew id).ext hx5 id).ext hx6 id); obtain ⟨neg6,so,sn,sc,rfl⟩:=h6.shape))
  all_goals
   have hp:=hr6.put (neg:=neg6) (no_int so sn sc)
   have HR:=bH (bI (hp.int h6) (bI (hX6.own hp.ext (fun k e=>by omega)) hp.box))
   clear hp h6 hX6 hr6 hx6 d0 d1 d2 d3
   generalize (w6.setCell ⟨r,0,none⟩ (.bool neg6)).setCell ⟨r,1,none⟩ (.slice so sn sc)=w9 at *
   obtain ⟨g0,g1,_⟩:=HR.o.2.2.facts
   go_wp2
   exact bodyPost_ret (v:=.agg #[.bool neg6,.slice so sn sc]) (by simp [results,Tryz.results184,go_sem,g0,g1]) rfl ⟨_,rfl,HR.o.1,HR.o.2.1⟩
theorem icmp_any (w:World) (v v':Value) (z z':Int) (L:Nat) (h:Rint w v z L) (h':Rint w v' z' L) (hL:L<=134217728) :
  Calls Tryz.prog 131 #[v,v'] w fun r w'=>r=.returned (.int .i64 (z - z').sign)/\XF w w':=by
 have HN:=bH (fun W (hW:XF w W)=>isub_any W v v' z z' L (h.keep hW) (h'.keep hW) hL);have hl':(dg (z - z').natAbs).length<=L+1:=by
  rw [Int.sub_eq_add_neg];exact len_add h.len (by rw [Int.natAbs_neg]; exact h'.len)
 have HA:=bH (fun W u (hu:IsInt W u (z - z'))=>isign_any W u (z - z') (L+1) (hu.reads hl') (by omega));obtain ⟨neg,ao,m,c,l,rfl,_,_,_⟩:=h.open;obtain ⟨neg',ao',m',c',l',rfl,_,_,_⟩:=h'.open;clear h h' hl';generalize z - z'=d at *;go_enter Tryz.func131,Tryz.ntmps131;go_wp2_with fail;refine (HN.o _ (((Ext.refl _ w).alloc _).alloc _)).mono ?_;rintro r5 w5 ⟨v5,rfl,h5,hx5⟩;have hA5:=bH (HA.o w5 v5 h5);have HX:=bH ((((Ext.refl (fun _=>False) w).alloc _).alloc _).trans hx5);clear h5 hx5;go_wp2_with fail;refine hA5.o.mono ?_;rintro r6 w6 ⟨rfl,hx6⟩;have HX6:=bH (HX.o.trans hx6);clear hx6;go_wp2;go_ret;exact ⟨rfl,HX6.o⟩
abbrev SI3 (b b' b2:Nat) (n n' n2:Bool) (m m' m2:Value) (W:World):Prop :=
 W.cell? ⟨b,0,none⟩=some (.bool n)/\W.cell? ⟨b,1,none⟩=some m/\W.cell? ⟨b',0,none⟩=some (.bool n')/\W.cell? ⟨b',1,none⟩=some m'/\W.cell? ⟨b2,0,none⟩=some (.bool n2)/\W.cell? ⟨b2,1,none⟩=some m2
theorem SI3.of {b b' b2:Nat} {n n' n2:Bool} {m m' m2:Value} {W:World} (h:BoxI W b n m) (h':BoxI W b' n' m') (h2:BoxI W b2 n2 m2):SI3 b b' b2 n n' n2 m m' m2 W:=⟨h.facts.1,h.facts.2.1,h'.facts.1,h'.facts.2.1,h2.facts.1,h2.facts.2.1⟩
theorem SI3.drew {b b' b2:Nat} {n n' n2:Bool} {m m' m2:Value} {W:World} (h:SI3 b b' b2 n n' n2 m m' m2 W):SI3 b b' b2 n n' n2 m m' m2 W.drew:=h
theorem cell_other {W:World} {b i:Nat} {p:Addr} {u:Value} {x:Option Value} (h:W.cell? ⟨b,i,none⟩=x) (hn:¬ b=p.block):(W.setCell p u).cell? ⟨b,i,none⟩=x :=
 (World.cell?_setCell_other _ _ _ _ (fun e=>hn (by rw [e]))).trans h
theorem SI3.set {b b' b2:Nat} {n n' n2:Bool} {m m' m2:Value} {W:World} (h:SI3 b b' b2 n n' n2 m m' m2 W) (p:Addr) (u:Value) (h1:¬ b=p.block) (h2:¬ b'=p.block) (h3:¬ b2=p.block):SI3 b b' b2 n n' n2 m m' m2 (W.setCell p u):=by
 obtain ⟨a1,a2,a3,a4,a5,a6⟩:=h;exact ⟨cell_other a1 h1,cell_other a2 h1,cell_other a3 h2,cell_other a4 h2,cell_other a5 h3,cell_other a6 h3⟩
theorem sg_zero (b:Bool):sg b 0=0:=by cases b <;> rfl
theorem tdiv_nat (x y:Nat):(x:Int).tdiv (y:Int)=((x / y:Nat):Int):=rfl
theorem sign_pos {x:Nat} (h:0<x):(x:Int).sign=1:=Int.sign_eq_one_of_pos (by omega)
theorem sg_tdiv (z z':Int):sg (decide (z.sign*z'.sign<0)) (z.natAbs / z'.natAbs)=z.tdiv z':=by
 by_cases hq:z.natAbs / z'.natAbs=0
 ·rw [hq,sg_zero];have:(z.tdiv z').natAbs=0:=(by rw [Int.natAbs_tdiv]; exact hq);omega
 ·have hy:0<z'.natAbs:=Nat.pos_of_ne_zero (fun h=>hq (by rw [h,Nat.div_zero]));have hx:0<z.natAbs:=Nat.pos_of_ne_zero (fun h=>hq (by rw [h,Nat.zero_div]));rcases Int.natAbs_eq z with h | h <;> rcases Int.natAbs_eq z' with h' | h' <;> generalize z.natAbs=x at*<;> generalize z'.natAbs=y at*<;> subst h <;> subst h'
  ·rw [sign_pos hx,sign_pos hy]; rfl
  ·rw [Int.sign_neg,sign_pos hx,sign_pos hy,Int.tdiv_neg]; rfl
  ·rw [Int.sign_neg,sign_pos hx,sign_pos hy,Int.neg_tdiv]; rfl
  ·rw [Int.sign_neg,Int.sign_neg,sign_pos hx,sign_pos hy,Int.neg_tdiv,Int.tdiv_neg,Int.neg_neg]; rfl
theorem quof_any (w:World) (a b:Bool):Calls Tryz.prog 227 #[.bool a,.bool b] w fun r w'=>r=.returned (.bool false)/\w'=w:=by
 go_enter Tryz.func227,Tryz.ntmps227;go_wp2;go_ret;exact ⟨rfl,rfl⟩
def QuoPost (w:World) (z z':Int) (r:Ending) (w':World):Prop :=
 ∃ q s,r=.returned (.tuple #[q,s,.int .i64 0])/\IsInt w' q (z.tdiv z')/\IsInt w' s (z - z.tdiv z'*z')/\XF w w'
theorem divide_any (w:World) (v v':Value) (z z':Int) (L:Nat) (h:Rint w v z L) (h':Rint w v' z' L) (h0:¬ z'=0) (hL:L<=33554432) :
  Calls Tryz.prog 214 #[v,v',.func (.func 227) #[] #[]] w (QuoPost w z z'):=by
 have HG1:=bH (fun W (hW:XF w W)=>isign_any W v z L (h.keep hW) (by omega));have HG2:=bH (fun W (hW:XF w W)=>isign_any W v' z' L (h'.keep hW) (by omega));have hlq:(dg (z.tdiv z').natAbs).length<=L:=by
  rw [Int.natAbs_tdiv];exact Nat.le_trans (dg_mono (Nat.div_le_self _ _)) h.len
 have HM:=bH (fun W (hW:XF w W) u (hu:IsInt W u (z.tdiv z'))=>imul_any W u v' (z.tdiv z') z' L (hu.reads hlq) (h'.keep hW) (by omega));have HU:=bH (fun W (hW:XF w W) u (hu:IsInt W u (z.tdiv z'*z'))=>isub_any W v u z (z.tdiv z'*z') (L+L) ((h.keep hW).mono (by omega)) (hu.reads (len_mul hlq h'.len)) (by omega));have hsg:=sg_tdiv z z';have hlz:=h.len;obtain ⟨neg,ao,m,c,l,rfl,hr,hl,hz⟩:=h.open;obtain ⟨neg',ao',m',c',l',rfl,hr',hl',hz'⟩:=h'.open;have HD:=bH (fun W (hW:XF w W)=>divmod_any W _ _ l l' (hr.keep hW) (hr'.keep hW) (by omega) (by omega));have e1:vl l=z.natAbs:=by rw [hz,sg_natAbs]
 have e2:vl l'=z'.natAbs:=by rw [hz',sg_natAbs]
 rw [e1,e2] at HD;have hy0:¬ z'.natAbs=0:=by omega
 have hDP:∀ W,DivPost W z.natAbs z'.natAbs=fun r w'=>∃ v1 v2,r=.returned (.tuple #[v1,v2,.int .i64 0])/\IsNat w' v1 (z.natAbs / z'.natAbs)/\IsNat w' v2 (z.natAbs % z'.natAbs)/\XF W w':=fun W=>by
  funext r w'; unfold DivPost; rw [if_neg hy0]
 simp only [hDP] at HD;have HS:=bH (fun W v n (hn:IsNat W v (z.natAbs / z'.natAbs))=>signed_any W n v _ hn (Nat.le_trans (Nat.le_trans (dg_mono (Nat.div_le_self _ _)) hlz) (by omega)));have hPb:-1<=z.sign*z'.sign/\z.sign*z'.sign<=1:=by
  rcases Int.sign_trichotomy z with h | h | h <;> rcases Int.sign_trichotomy z' with h' | h' | h' <;> rw [h,h'] <;> decide
 have hPw:IntKind.i64.wrap (z.sign*z'.sign)=z.sign*z'.sign:=IntWalk.i64_in _ (by omega);obtain ⟨PP,hPP⟩:∃ PP,z.sign*z'.sign=PP:=⟨_,rfl⟩;rw [hPP] at hPw hPb hsg;obtain ⟨P,hP⟩:∃ P,decide (PP<0)=P:=⟨_,rfl⟩;rw [hP] at hsg;have Hsg:=bH hsg;generalize z.natAbs / z'.natAbs=x at *;generalize z.natAbs % z'.natAbs=y at *;unfold QuoPost;have hq:∀ t t':Int,t=t->t'=t'->True:=fun _ _ _ _=>trivial;clear hr hr' hl hl' h h' hz hz' e1 e2 hy0 hDP hlq hlz hsg hq;generalize z.tdiv z'=q at *;generalize z - q*z'=s at *;generalize q*z'=qz at *;generalize z.sign=sz at *;generalize z'.sign=sz' at *;go_enter Tryz.func214,Tryz.ntmps214;go_upto_region 0 with fail;go_cut [3,4,6,7,8] (fun v1 v2 v3 v4 v8 wx=>∃ b b' r r',v1=.pointer (some ⟨b,0,none⟩)/\v2=.pointer (some ⟨b',0,none⟩)/\v3=.pointer (some ⟨r,0,none⟩)/\v4=.pointer (some ⟨r',0,none⟩)/\v8=.int .i64 0/\BoxI wx b neg (.slice ao m c)/\BoxI wx b' neg' (.slice ao' m' c')/\BoxI wx r false (.slice none 0 0)/\BoxI wx r' false (.slice none 0 0)/\¬ b=r/\¬ b'=r/\¬ b=r'/\¬ b'=r'/\¬ r=r'/\w.heap.size<=r/\w.heap.size<=r'/\XF w wx);case first =>
  go_wp2;go_meet;exact ⟨_,_,_,_,rfl,rfl,rfl,rfl,rfl,(((boxI_new rfl neg ao m c).alloc _).alloc _).alloc _,((boxI_new (by simp) neg' ao' m' c').alloc _).alloc _,(boxI_new (by simp) false none 0 0).alloc _,boxI_new (by simp) false none 0 0,(by omega),(by omega),(by omega),(by omega),(by omega),(by omega),(by omega),((((Ext.refl _ w).alloc _).alloc _).alloc _).alloc _⟩
 case rest =>
  obtain ⟨b,b',r,r',rfl,rfl,rfl,rfl,rfl,hb,hb',hrb,hrb',n1,n2,n3,n4,n5,hle,hle',hx⟩:=hcut;obtain ⟨c0,c1,_⟩:=hb.facts;obtain ⟨e0,e1,_⟩:=hb'.facts;have HD1:=bH (HD.o wc hx);have HB:=bH (bI hb (bI hb' (bI hrb (bI hrb' hx))));clear hb hb' hrb hrb' hx;go_wp2_with fail;refine HD1.o.mono ?_;rintro r1 w1 ⟨v1,v2,rfl,h1,h2,hx1⟩;have hS:=SI2.of (HB.o.1.ext hx1 id) (HB.o.2.1.ext hx1 id);have HX1:=bH (bI hx1 h1);obtain ⟨ao2,c2,rfl⟩:=h2.shape;obtain ⟨ao1,c1',rfl⟩:=h1.shape;clear h1 h2 hx1 c0 c1 e0 e1;generalize (dg y).length=ly at *;generalize (dg x).length=lx at *;go_upto_region 4 with fail;go_region_held3 (SI2 b b' neg neg' (.slice ao m c) (.slice ao' m' c'))
   (repeat (first | (with_reducible assumption) | (with_reducible refine SI2.drew ?_) | (with_reducible refine SI2.set ?_ _ _ ?_ ?_) | (dsimp only; omega)))
   (first
    | (go_at_call 152; (with_reducible refine (HG1.o _ ?_).mono ?_); (exact (HB.o.2.2.2.2.trans HX1.o.1).drew); rintro r2 w2 ⟨rfl,hx2⟩; have hX2:=HX1.o.1.drew.trans hx2; have hK2:=SI2.of (HB.o.1.ext hX2 id) (HB.o.2.1.ext hX2 id))
    | (go_at_call 152; (with_reducible refine (HG2.o _ ?_).mono ?_); (exact HB.o.2.2.2.2.trans hX2); rintro r3 w3 ⟨rfl,hx3⟩; have hX3:=hX2.trans hx3; have hK3:=SI2.of (HB.o.1.ext hX3 id) (HB.o.2.1.ext hX3 id)))
  have h13:XF w1 w3:=(Ext.refl _ w1).drew.trans (hx2.trans hx3);have HX3:=bH (bI (HX1.o.2.keep h13) hX3);clear hK2 hK3 hX2 hX3 hx2 hx3 h13 hS hPw hPP hPb;go_wp2_with fail;refine (quof_any _ _ _).mono ?_;rintro r4 w4 ⟨rfl,hw⟩; obtain rfl:=hw.symm;clear hw;have HS3:=bH (HS.o w3 _ P HX3.o.1);rw [Hsg.o] at HS3;go_wp2_with fail;refine HS3.o.mono ?_;rintro r5 w5 ⟨v5,rfl,h5,hx5⟩;have HX5:=bH (bI h5 (HX3.o.2.trans hx5));obtain ⟨neg5,ao5,n6,k5,rfl⟩:=h5.shape;clear h5 hx5 HS3;go_upto_region 8 with fail;obtain ⟨bq,hbq⟩:∃ bq,w5.heap.size=bq:=⟨_,rfl⟩;have hbox:=boxI_new hbq.symm neg5 ao5 n6 k5;have hx57:=(Ext.refl (fun _=>False) w5).alloc (.cells #[.bool neg5,.slice ao5 n6 k5] 62);rw [hbq];generalize w5.alloc (.cells #[.bool neg5,.slice ao5 n6 k5] 62)=w7 at *;have hX7:=HX5.o.2.trans hx57;have hI7:=HX5.o.1.keep hx57;have HM7:=bH (HM.o w7.drew (HB.o.2.2.2.2.trans hX7).drew _ (hI7.keep (Ext.refl _ w7).drew));have hS:=SI3.of (HB.o.1.ext hX7 id) (HB.o.2.1.ext hX7 id) hbox;have HX7:=bH (bI hX7 (bI hI7 hbox));have hq1:¬ bq=r:=fun e=>by
   have h1:=HB.o.2.2.1.lt;have h2:=HX5.o.2.size;omega
  have hq2:¬ bq=r':=fun e=>by
   have h1:=HB.o.2.2.2.1.lt;have h2:=HX5.o.2.size;omega
  clear hX7 hI7 hbox hx57 hbq HX5 HX3 HX1 hP;go_region_held3 (SI3 b b' bq neg neg' neg5 (.slice ao m c) (.slice ao' m' c') (.slice ao5 n6 k5))
   (repeat (first | (with_reducible assumption) | (with_reducible refine SI3.drew ?_) | (with_reducible refine SI3.set ?_ _ _ ?_ ?_ ?_) | (dsimp only; omega)))
   (first
    | (go_at_call 132; (with_reducible refine HM7.o.mono ?_); rintro r8 w8 ⟨v8,rfl,h8,hx8⟩; have hx78:=(Ext.refl (fun _=>False) w7).drew.trans hx8; have hX8:=HX7.o.1.trans hx78; have hU8:=HU.o w8 (HB.o.2.2.2.2.trans hX8) v8 h8; have hK8:=SI3.of (HB.o.1.ext hX8 id) (HB.o.2.1.ext hX8 id) (HX7.o.2.2.ext hx78 id); obtain ⟨neg8,ao8,n8,k8,rfl⟩:=h8.shape)
    | (go_at_call 184; (with_reducible refine hU8.mono ?_); rintro r9 w9 ⟨v9,rfl,h9,hx9⟩; have hx79:=hx78.trans hx9; have hX9:=HX7.o.1.trans hx79; have hK9:=SI3.of (HB.o.1.ext hX9 id) (HB.o.2.1.ext hX9 id) (HX7.o.2.2.ext hx79 id); have hr9:=HB.o.2.2.1.ext hX9 id; have hr9':=HB.o.2.2.2.1.ext hX9 id; obtain ⟨d0,d1,d2,d3⟩:=hr9.facts; obtain ⟨f0,f1,f2,f3⟩:=hr9'.facts; obtain ⟨neg9,ao9,n9,k9,rfl⟩:=h9.shape))
  have hp1:=hr9.put (neg:=neg5) (no_int ao5 n6 k5);have hp2:=(hr9'.ext hp1.ext (fun e=>n5 e.symm)).put (neg:=neg9) (no_int ao9 n9 k9);have HR:=bH (bI (hp2.int (hp1.int (HX7.o.2.1.keep hx79))) (bI (hp2.int (hp1.int h9)) (bI (((HB.o.2.2.2.2.trans hX9).own hp1.ext (fun k e=>by omega)).own hp2.ext (fun k e=>by omega)) (bI (hp1.box.ext hp2.ext n5) hp2.box))));clear hp1 hp2 h8 h9 hx8 hx9 hx78 hx79 hX8 hX9 hK8 hK9 hU8 d0 d1 d2 d3 f0 f1 f2 f3 hr9 hr9' hS;generalize (((w9.setCell ⟨r,0,none⟩ (.bool neg5)).setCell ⟨r,1,none⟩ (.slice ao5 n6 k5)).setCell ⟨r',0,none⟩ (.bool neg9)).setCell ⟨r',1,none⟩ (.slice ao9 n9 k9)=w10 at *;obtain ⟨g0,g1,_⟩:=HR.o.2.2.2.1.facts;obtain ⟨g2,g3,_⟩:=HR.o.2.2.2.2.facts;go_wp2;exact bodyPost_ret (v:=.tuple #[.agg #[.bool neg5,.slice ao5 n6 k5],.agg #[.bool neg9,.slice ao9 n9 k9],.int .i64 0]) (by simp [results,Tryz.results214,go_sem,g0,g1,g2,g3]) rfl ⟨_,_,rfl,HR.o.1,HR.o.2.1,HR.o.2.2.1⟩
theorem quo_any (w:World) (v v':Value) (z z':Int) (L:Nat) (h:Rint w v z L) (h':Rint w v' z' L) (h0:¬ z'=0) (hL:L<=33554432) :
  Calls Tryz.prog 204 #[v,v'] w (QuoPost w z z'):=by
 have HD:=bH (fun W (hW:XF w W)=>divide_any W v v' z z' L (h.keep hW) (h'.keep hW) h0 hL);obtain ⟨neg,ao,m,c,l,rfl,_,_,_⟩:=h.open;obtain ⟨neg',ao',m',c',l',rfl,_,_,_⟩:=h'.open;clear h h';unfold QuoPost at *;generalize z.tdiv z'=q at *;generalize z - q*z'=s at *;go_enter Tryz.func204,Tryz.ntmps204;go_upto_region 0 with fail;go_cut [2,3,4,5,6] (fun v1 v2 v3 v4 v8 wx=>∃ b b' r r',v1=.pointer (some ⟨b,0,none⟩)/\v2=.pointer (some ⟨b',0,none⟩)/\v3=.pointer (some ⟨r,0,none⟩)/\v4=.pointer (some ⟨r',0,none⟩)/\v8=.int .i64 0/\BoxI wx b neg (.slice ao m c)/\BoxI wx b' neg' (.slice ao' m' c')/\BoxI wx r false (.slice none 0 0)/\BoxI wx r' false (.slice none 0 0)/\¬ r=r'/\w.heap.size<=r/\w.heap.size<=r'/\XF w wx);case first =>
  go_wp2;go_meet;exact ⟨_,_,_,_,rfl,rfl,rfl,rfl,rfl,(((boxI_new rfl neg ao m c).alloc _).alloc _).alloc _,((boxI_new (by simp) neg' ao' m' c').alloc _).alloc _,(boxI_new (by simp) false none 0 0).alloc _,boxI_new (by simp) false none 0 0,(by omega),(by omega),(by omega),((((Ext.refl _ w).alloc _).alloc _).alloc _).alloc _⟩
 case rest =>
  obtain ⟨b,b',r,r',rfl,rfl,rfl,rfl,rfl,hb,hb',hrb,hrb',n5,hle,hle',hx⟩:=hcut;obtain ⟨c0,c1,_⟩:=hb.facts;obtain ⟨e0,e1,_⟩:=hb'.facts;have HD1:=bH (HD.o wc hx);have HB:=bH (bI hrb (bI hrb' hx));clear hb hb' hrb hrb' hx;go_wp2_with fail;refine HD1.o.mono ?_;rintro r1 w9 ⟨v1,v2,rfl,h1,h2,hx1⟩;have hr9:=HB.o.1.ext hx1 id;have hr9':=HB.o.2.1.ext hx1 id;obtain ⟨d0,d1,d2,d3⟩:=hr9.facts;obtain ⟨f0,f1,f2,f3⟩:=hr9'.facts;obtain ⟨neg5,ao5,n6,k5,rfl⟩:=h1.shape;obtain ⟨neg9,ao9,n9,k9,rfl⟩:=h2.shape;have hp1:=hr9.put (neg:=neg5) (no_int ao5 n6 k5);have hp2:=(hr9'.ext hp1.ext (fun e=>n5 e.symm)).put (neg:=neg9) (no_int ao9 n9 k9);have HR:=bH (bI (hp2.int (hp1.int h1)) (bI (hp2.int (hp1.int h2)) (bI (((HB.o.2.2.trans hx1).own hp1.ext (fun k e=>by omega)).own hp2.ext (fun k e=>by omega)) (bI (hp1.box.ext hp2.ext n5) hp2.box))));clear hp1 hp2 h1 h2 hx1 hr9 hr9' c0 c1 e0 e1;go_wp2;generalize (((w9.setCell ⟨r,0,none⟩ (.bool neg5)).setCell ⟨r,1,none⟩ (.slice ao5 n6 k5)).setCell ⟨r',0,none⟩ (.bool neg9)).setCell ⟨r',1,none⟩ (.slice ao9 n9 k9)=w10 at *;obtain ⟨g0,g1,_⟩:=HR.o.2.2.2.1.facts;obtain ⟨g2,g3,_⟩:=HR.o.2.2.2.2.facts;exact bodyPost_ret (v:=.tuple #[.agg #[.bool neg5,.slice ao5 n6 k5],.agg #[.bool neg9,.slice ao9 n9 k9],.int .i64 0]) (by simp [results,Tryz.results204,go_sem,g0,g1,g2,g3]) rfl ⟨_,_,rfl,HR.o.1,HR.o.2.1,HR.o.2.2.1⟩
def dn (d:Nat):Nat:=if d=0 then 1 else d
theorem dn_pos (d:Nat):0<dn d:=by unfold dn; split <;> omega
def Rrat (w:World) (v:Value) (q:Rat) (L:Nat):Prop:=∃ neg mag dv' l d,v=.agg #[.bool neg,mag,dv']/\Rds w mag l/\l.length<=L/\Rds w dv' d/\d.length<=L/\q=mkRat (sg neg (vl l)) (dn (vl d))
def dw (d:Nat):Nat:=if d=1 then 0 else d
def IsRat (w:World) (v:Value) (q:Rat):Prop:=∃ mag dv',v=.agg #[.bool (decide (q.num<0)),mag,dv']/\IsNat w mag q.num.natAbs/\IsNat w dv' (dw q.den)
def RatPost (w:World) (q:Rat) (r:Ending) (w':World):Prop:=∃ v,r=.returned v/\IsRat w' v q/\XF w w'
def RintPost (w:World) (z:Int) (L:Nat) (r:Ending) (w':World):Prop:=∃ v,r=.returned v/\Rint w' v z L/\XF w w'
def Sz (q:Rat) (L:Nat):Prop:=(dg q.num.natAbs).length<=L/\(dg q.den).length<=L
theorem Rrat.keep {w w':World} {v:Value} {q:Rat} {L:Nat} (h:Rrat w v q L) (hx:XF w w'):Rrat w' v q L:=by
 obtain ⟨neg,mag,dv',l,d,h1,h2,h3,h4,h5⟩:=h;exact ⟨neg,mag,dv',l,d,h1,h2.keep hx,h3,h4.keep hx,h5⟩
theorem IsRat.keep {w w':World} {v:Value} {q:Rat} (h:IsRat w v q) (hx:XF w w'):IsRat w' v q:=by
 obtain ⟨mag,dv',h1,h2,h3⟩:=h;exact ⟨mag,dv',h1,h2.keep hx,h3.keep hx⟩
theorem dn_dw (q:Rat):dn (dw q.den)=q.den:=by
 have:=q.den_nz;unfold dn dw;by_cases h:q.den=1
 ·rw [if_pos h,if_pos rfl,h]
 ·rw [if_neg h,if_neg this]
theorem dw_le (d:Nat):dw d<=d:=by unfold dw; split <;> omega
theorem sg_self (z:Int):sg (decide (z<0)) z.natAbs=z:=by
 unfold sg;split
 ·rename_i h; have:=of_decide_eq_true h; omega
 ·rename_i h; have:¬ z<0:=fun h'=>h (decide_eq_true h'); omega
theorem IsRat.reads {w:World} {v:Value} {q:Rat} {L:Nat} (h:IsRat w v q) (hl:Sz q L):Rrat w v q L:=by
 obtain ⟨mag,dv',h1,h2,h3⟩:=h;exact ⟨_,mag,dv',_,_,h1,h2,hl.1,h3,Nat.le_trans (dg_mono (dw_le _)) hl.2,by rw [vl_dg,vl_dg,dn_dw,sg_self,Rat.mkRat_self]⟩
theorem Rrat.open {w:World} {v:Value} {q:Rat} {L:Nat} (h:Rrat w v q L):∃ neg ao m c ao' m' c' l d,v=.agg #[.bool neg,.slice ao m c,.slice ao' m' c']/\Rint w (.agg #[.bool neg,.slice ao m c]) (sg neg (vl l)) L/\Rds w (.slice ao' m' c') d/\m'=d.length/\d.length<=L/\q=mkRat (sg neg (vl l)) (dn (vl d)):=by
 obtain ⟨neg,mag,dv',l,d,rfl,h1,h2,h3,h4,h5⟩:=h;obtain ⟨ao,c,rfl,_⟩:=id h1.2;obtain ⟨ao',c',rfl,_⟩:=id h3.2;exact ⟨neg,ao,_,c,ao',_,c',l,d,rfl,⟨neg,_,l,rfl,h1,h2,rfl⟩,h3,rfl,h4,h5⟩
def BoxR (w:World) (b:Nat) (neg:Bool) (mag den:Value):Prop:=blk w b=some (.cells #[.bool neg,mag,den] 64 (0,0))/\(∀ k d,mag≠.int k d)/\∀ k d,den≠.int k d
theorem BoxR.lt {w:World} {b:Nat} {neg:Bool} {mag den:Value} (h:BoxR w b neg mag den):b<w.heap.size:=blk_lt h.1
theorem BoxR.facts {w:World} {b:Nat} {neg:Bool} {mag den:Value} (h:BoxR w b neg mag den):w.cell? ⟨b,0,none⟩=some (.bool neg)/\w.cell? ⟨b,1,none⟩=some mag/\w.cell? ⟨b,2,none⟩=some den/\w.frozen? ⟨b,0,none⟩=false/\w.frozen? ⟨b,1,none⟩=false/\w.frozen? ⟨b,2,none⟩=false :=
 ⟨by simpa using cell_of_cells h.1 0,by simpa using cell_of_cells h.1 1,by simpa using cell_of_cells h.1 2,free_of_cells h.1 0,free_of_cells h.1 1,free_of_cells h.1 2⟩
theorem BoxR.noDig {w:World} {b:Nat} {neg:Bool} {mag den:Value} (h:BoxR w b neg mag den):NoDig w b:=fun i d=>by
 rw [cell_of_cells h.1 i];match i with
 | 0=>simp
 | 1=>simpa using h.2.1 .u32 d
 | 2=>simpa using h.2.2 .u32 d
 | i+3=>simp
theorem BoxR.ext {S:Nat->Prop} {w w':World} {b:Nat} {neg:Bool} {mag den:Value} (h:BoxR w b neg mag den) (hx:Ext S w w') (hn:¬ S b):BoxR w' b neg mag den:=⟨(hx.blk h.lt hn).trans h.1,h.2⟩
theorem boxR_new {W:World} {k:Nat} (hk:k=W.heap.size) (neg:Bool) (ao:Option Addr) (n c:Nat) (ao':Option Addr) (n' c':Nat):BoxR (W.alloc (.cells #[.bool neg,.slice ao n c,.slice ao' n' c'] 64)) k neg (.slice ao n c) (.slice ao' n' c'):=by
 subst hk; exact ⟨blk_alloc_at _ _,no_int ao n c,no_int ao' n' c'⟩
theorem BoxR.alloc {W:World} {k:Nat} {neg:Bool} {mag den:Value} (h:BoxR W k neg mag den) (o:Obj):BoxR (W.alloc o) k neg mag den:=h.ext ((Ext.refl (fun _=>False) W).alloc o) id
structure PutR (w w':World) (r:Nat) (neg:Bool) (mag den:Value):Prop where
 box:BoxR w' r neg mag den
 ext:Ext (fun k=>k=r) w w'
 rds:∀ v l,Rds w v l->Rds w' v l
theorem BoxR.put {w:World} {r:Nat} {n0 neg:Bool} {m0 mag d0 den:Value} (h:BoxR w r n0 m0 d0) (hm:∀ k d,mag≠.int k d) (hd:∀ k d,den≠.int k d):PutR w (((w.setCell ⟨r,0,none⟩ (.bool neg)).setCell ⟨r,1,none⟩ mag).setCell ⟨r,2,none⟩ den) r neg mag den:=by
 have hx:Ext (fun k=>k=r) w (((w.setCell ⟨r,0,none⟩ (.bool neg)).setCell ⟨r,1,none⟩ mag).setCell ⟨r,2,none⟩ den):=(((Ext.refl (fun k=>k=r) w).setCell (p:=⟨r,0,none⟩) _ (fun _=>rfl)).setCell (p:=⟨r,1,none⟩) _ (fun _=>rfl)).setCell (p:=⟨r,2,none⟩) _ (fun _=>rfl);refine ⟨⟨?_,hm,hd⟩,hx,fun v l hr=>hr.past hx (fun k _ e=>by subst e; exact h.noDig)⟩;have h1:=blk_setCell_same h.1 0 (.bool neg);have h2:=blk_setCell_same h1 1 mag;have h3:=blk_setCell_same h2 2 den;simpa using h3
theorem PutR.rat {w w':World} {r:Nat} {neg:Bool} {mag den v:Value} {q:Rat} (h:PutR w w' r neg mag den) (hi:IsRat w v q):IsRat w' v q:=by
 obtain ⟨mag,dv',h1,h2,h3⟩:=hi;exact ⟨mag,dv',h1,h.rds _ _ h2,h.rds _ _ h3⟩
theorem IsRat.shape {w:World} {v:Value} {q:Rat} (h:IsRat w v q):∃ neg ao n c ao' n' c',v=.agg #[.bool neg,.slice ao n c,.slice ao' n' c']:=by
 obtain ⟨mag,dv',rfl,h2,h3⟩:=h;obtain ⟨ao,c,rfl⟩:=h2.shape;obtain ⟨ao',c',rfl⟩:=h3.shape;exact ⟨_,ao,_,c,ao',_,c',rfl⟩
theorem IsRat.mk {w:World} {neg:Bool} {mag dv':Value} {q:Rat} (h:IsInt w (.agg #[.bool neg,mag]) q.num) (hd:IsNat w dv' (dw q.den)):IsRat w (.agg #[.bool neg,mag,dv']) q:=by
 obtain ⟨m,h1,h2⟩:=h;injection h1 with h1;simp at h1;obtain ⟨rfl,rfl⟩:=h1;exact ⟨mag,dv',rfl,h2,hd⟩
theorem IsRat.ofInt {w:World} {neg:Bool} {mag:Value} {z:Int} (h:IsInt w (.agg #[.bool neg,mag]) z):IsRat w (.agg #[.bool neg,mag,.slice none 0 0]) (z:Rat) :=
 IsRat.mk (by rw [Rat.num_intCast]; exact h) (by rw [Rat.den_intCast]; exact IsNat.nil w)
theorem Rint.shape {w:World} {v:Value} {z:Int} {L:Nat} (h:Rint w v z L):∃ neg ao n c,v=.agg #[.bool neg,.slice ao n c]:=by
 obtain ⟨neg,ao,m,c,l,h1,_⟩:=h.open;exact ⟨neg,ao,m,c,h1⟩
theorem div_gcd {z:Int} {g:Nat} (hg:0<g) (h:g∣z.natAbs):∃ k:Int,z=g*k/\z / (g:Int)=k/\z.tdiv g=k:=by
 obtain ⟨k,hk⟩:=Int.ofNat_dvd_left.2 h;have hg0:(g:Int)≠0:=by omega
 exact ⟨k,hk,by rw [hk,Int.mul_ediv_cancel_left _ hg0],by rw [hk,Int.mul_tdiv_cancel_left _ hg0]⟩
theorem sign_mkRat (z:Int) {d:Nat} (hd:0<d):(mkRat z d).num.sign=z.sign:=by
 have hg:0<d.gcd z.natAbs:=Nat.gcd_pos_of_pos_left _ hd;obtain ⟨k,h1,h2,_⟩:=div_gcd hg (Nat.gcd_dvd_right d z.natAbs);rw [Rat.num_mkRat,if_neg (by omega),h2];generalize d.gcd z.natAbs=g at *;rw [h1,Int.sign_mul,sign_pos hg,Int.one_mul]
theorem den_any (w:World) (v:Value) (neg:Bool) (ao:Option Addr) (m c:Nat) (ao':Option Addr) (m' c':Nat) (d:List Nat) (L:Nat) (hv:v=.agg #[.bool neg,.slice ao m c,.slice ao' m' c'])
  (h:Rds w (.slice ao' m' c') d) (hl:d.length<=L) (hL:L<=268435455) (h1:1<=L) :
  Calls Tryz.prog 133 #[v] w (RintPost w (dn (vl d):Nat) L):=by
 subst hv;have HB:=bH (fun W (hW:XF w W)=>bits_any W _ d (h.keep hW) (by omega));have HF:=bH (fun W=>ifrom_any W 1 (by omega) (by omega));have HR:=bH (bI h hl);clear h hl;obtain ⟨Z,hZ⟩:∃ Z:Int,(dn (vl d):Int)=Z:=⟨_,rfl⟩;rw [hZ];by_cases h0:vl d=0
 ·have hz:Z=1:=(by rw [<- hZ]; unfold dn; rw [if_pos h0]; rfl);subst hz;have H0:=bH h0;clear h0 hZ;go_enter Tryz.func133,Tryz.ntmps133;go_wp2_with fail;refine (HB.o _ (((Ext.refl _ w).alloc _).alloc _)).mono ?_;rintro r w' ⟨q,rfl,hw,hq⟩;subst hw;obtain rfl:=hq.2 H0.o;clear HB hq;obtain ⟨rb,hrb⟩:∃ rb,w.heap.size+1=rb:=⟨_,rfl⟩;have hb0:=boxI_new (W:=w.alloc (.cells #[.bool neg,.slice ao m c,.slice ao' m' c'] 64)) (k:=rb) (by simp; omega) false none 0 0;have hx0:XF w ((w.alloc (.cells #[.bool neg,.slice ao m c,.slice ao' m' c'] 64)).alloc (.cells #[.bool false,.slice none 0 0] 62)):=((Ext.refl _ w).alloc _).alloc _;rw [hrb];generalize (w.alloc (.cells #[.bool neg,.slice ao m c,.slice ao' m' c'] 64)).alloc (.cells #[.bool false,.slice none 0 0] 62)=w1 at *;have HB0:=bH (bI hb0 hx0);clear hb0 hx0;go_wp2_with fail;refine (HF.o _).mono ?_;rintro r6 w6 ⟨v6,rfl,h6,hx6⟩;have hr6:=HB0.o.1.ext hx6 id;obtain ⟨d0,d1,d2,d3⟩:=hr6.facts;have hX6:=HB0.o.2.trans hx6;obtain ⟨neg6,so,sn,sc,rfl⟩:=h6.shape;have hp:=hr6.put (neg:=neg6) (no_int so sn sc);have HR:=bH (bI ((hp.int h6).reads (L:=L) (Nat.le_trans (dg_length_le (k:=1) (by decide)) h1)) (bI (hX6.own hp.ext (fun k e=>by omega)) hp.box));clear hp h6 hX6 hr6 hx6;go_wp2;generalize (w6.setCell ⟨rb,0,none⟩ (.bool neg6)).setCell ⟨rb,1,none⟩ (.slice so sn sc)=w9 at *;obtain ⟨g0,g1,_⟩:=HR.o.2.2.facts;exact bodyPost_ret (v:=.agg #[.bool neg6,.slice so sn sc]) (by simp [results,Tryz.results133,go_sem,g0,g1]) rfl ⟨_,rfl,HR.o.1,HR.o.2.1⟩
 ·have hz:Z=(vl d:Int):=(by rw [<- hZ]; unfold dn; rw [if_neg h0]);have HZ:=bH hz;have H0:=bH h0;clear h0 hZ hz;go_enter Tryz.func133,Tryz.ntmps133;go_wp2_with fail;refine (HB.o _ (((Ext.refl _ w).alloc _).alloc _)).mono ?_;rintro r w' ⟨q,rfl,hw,hq⟩;subst hw;have hq0:¬ (q:Int)=0:=fun h=>H0.o (hq.1 (by omega));clear HB hq;have hx0:XF w ((w.alloc (.cells #[.bool neg,.slice ao m c,.slice ao' m' c'] 64)).alloc (.cells #[.bool false,.slice ao' m' c'] 62)):=((Ext.refl _ w).alloc _).alloc _;have HX0:=bH hx0;clear hx0;go_wp2;exact bodyPost_ret (v:=.agg #[.bool false,.slice ao' m' c']) (by simp [results,Tryz.results133,go_sem]) rfl ⟨_,rfl,⟨false,_,d,rfl,HR.o.1.keep HX0.o,HR.o.2,by rw [HZ.o]; rfl⟩,HX0.o⟩
theorem rfrom_any (w:World) (k:Int) (h0:-9223372036854775808<=k) (h1:k<=9223372036854775807) :
  Calls Tryz.prog 85 #[.int .i64 k] w (RatPost w (k:Rat)):=by
 have HF:=bH (fun W=>ifrom_any W k h0 h1);obtain ⟨q,hq⟩:∃ q:Rat,(k:Rat)=q:=⟨_,rfl⟩;have hof:∀ W neg mag,IsInt W (.agg #[.bool neg,mag]) k->IsRat W (.agg #[.bool neg,mag,.slice none 0 0]) q:=fun W neg mag h=>by rw [<- hq]; exact IsRat.ofInt h
 have Hof:=bH hof;rw [hq];clear hof hq h0 h1;go_enter Tryz.func85,Tryz.ntmps85;go_wp2_with fail;refine (HF.o _).mono ?_;rintro r6 w6 ⟨v6,rfl,h6,hx6⟩;have hr6:=(boxR_new rfl false none 0 0 none 0 0 (W:=w)).ext hx6 id;obtain ⟨d0,d1,d2,d3,d4,d5⟩:=hr6.facts;have hX6:=((Ext.refl (fun _=>False) w).alloc _).trans hx6;obtain ⟨neg6,so,sn,sc,rfl⟩:=h6.shape;have hp:=hr6.put (neg:=neg6) (no_int so sn sc) (no_int none 0 0);have HR:=bH (bI (hp.rat (Hof.o _ _ _ h6)) (bI (hX6.own hp.ext (fun k e=>by omega)) hp.box));clear hp h6 hX6 hr6 hx6;go_wp2;generalize ((w6.setCell ⟨w.heap.size,0,none⟩ (.bool neg6)).setCell ⟨w.heap.size,1,none⟩ (.slice so sn sc)).setCell ⟨w.heap.size,2,none⟩ (.slice none 0 0)=w9 at *;obtain ⟨g0,g1,g2,_⟩:=HR.o.2.2.facts;exact bodyPost_ret (v:=.agg #[.bool neg6,.slice so sn sc,.slice none 0 0]) (by simp [results,Tryz.results85,go_sem,g0,g1,g2]) rfl ⟨_,rfl,HR.o.1,HR.o.2.1⟩
theorem rsign_any (w:World) (v:Value) (q:Rat) (L:Nat) (h:Rrat w v q L) (hL:L<=268435455) :
  Calls Tryz.prog 112 #[v] w fun r w'=>r=.returned (.int .i64 q.num.sign)/\XF w w':=by
 obtain ⟨neg,ao,m,c,ao',m',c',l,d,rfl,h1,_,_,_,rfl⟩:=h.open;rw [sign_mkRat _ (dn_pos _)];have HS:=bH (fun W (hW:XF w W)=>isign_any W _ _ L (h1.keep hW) hL);generalize sg neg (vl l)=z at *;clear h h1;go_enter Tryz.func112,Tryz.ntmps112;go_wp2_with fail;refine (HS.o _ ((Ext.refl _ w).alloc _)).mono ?_;rintro r6 w6 ⟨rfl,hx6⟩;have HX6:=bH (((Ext.refl (fun _=>False) w).alloc _).trans hx6);clear hx6;go_wp2;go_ret;exact ⟨rfl,HX6.o⟩
theorem red_num {z:Int} {y:Nat} (hy:0<y):z.tdiv ((Nat.gcd z.natAbs y:Nat):Int)=(mkRat z y).num/\(y:Int).tdiv ((Nat.gcd z.natAbs y:Nat):Int)=((mkRat z y).den:Int):=by
 have hg:0<Nat.gcd z.natAbs y:=Nat.gcd_pos_of_pos_right _ hy;have hc:y.gcd z.natAbs=Nat.gcd z.natAbs y:=Nat.gcd_comm _ _;obtain ⟨k,h1,h2,h3⟩:=div_gcd hg (Nat.gcd_dvd_left z.natAbs y);rw [Rat.num_mkRat,Rat.den_mkRat,if_neg (by omega),if_neg (by omega),hc,h2,h3];exact ⟨rfl,tdiv_nat _ _⟩
theorem cmpN_one (d:Nat):cmpN d 1=0↔d=1:=by unfold cmpN; split <;> (try split) <;> omega
abbrev S1 (b:Nat) (m:Value) (W:World):Prop:=W.cell? ⟨b,1,none⟩=some m
theorem S1.drew {b:Nat} {m:Value} {W:World} (h:S1 b m W):S1 b m W.drew:=h
theorem reduced_any (w:World) (v v':Value) (z:Int) (y L:Nat) (h:Rint w v z L) (h':Rint w v' (y:Int) L) (hy:0<y) (hL:L<=33554432) :
  Calls Tryz.prog 153 #[v,v'] w (RatPost w (mkRat z y)):=by
 have HSg:=bH (fun W (hW:XF w W)=>isign_any W v' y L (h'.keep hW) (by omega));rw [sign_pos hy] at HSg;obtain ⟨hq1,hq2⟩:=red_num (z:=z) hy;have hg:0<Nat.gcd z.natAbs y:=Nat.gcd_pos_of_pos_right _ hy;have hgl:(dg (Nat.gcd z.natAbs y)).length<=L:=Nat.le_trans (dg_mono (Nat.gcd_le_right _ hy)) h'.len;have HQ1:=bH (fun W (hW:XF w W) ao n c (hu:IsNat W (.slice ao n c) (Nat.gcd z.natAbs y))=>quo_any W v (.agg #[.bool false,.slice ao n c]) z ((Nat.gcd z.natAbs y:Nat):Int) L (h.keep hW) ⟨false,_,_,rfl,hu,hgl,by rw [vl_dg]; rfl⟩ (by omega) hL);have HQ2:=bH (fun W (hW:XF w W) ao n c (hu:IsNat W (.slice ao n c) (Nat.gcd z.natAbs y))=>quo_any W v' (.agg #[.bool false,.slice ao n c]) y ((Nat.gcd z.natAbs y:Nat):Int) L (h'.keep hW) ⟨false,_,_,rfl,hu,hgl,by rw [vl_dg]; rfl⟩ (by omega) hL);unfold QuoPost at HQ1 HQ2;simp only [hq1,hq2] at HQ1 HQ2;have hdl:(dg (mkRat z y).den).length<=L:=by
  have:(mkRat z y).den<=y:=by
   have e:=hq2;rw [tdiv_nat] at e;have:=Nat.div_le_self y (Nat.gcd z.natAbs y);omega
  exact Nat.le_trans (dg_mono this) h'.len
 have HC:=bH (fun W u u' (h1:IsNat W u (mkRat z y).den) (h2:IsNat W u' 1)=>cmp_any W u u' _ _ h1 h2 (by omega) (Nat.le_trans (dg_two (n:=1) (by decide)).1 (by decide)));simp only [vl_dg] at HC;have hF:∀ W,Calls Tryz.prog 155 #[.int .u64 1] W (NatPost W 1):=fun W=>from_any W 1 (by decide);have HF:=bH hF;clear hF;obtain ⟨neg,ao,m,c,l,rfl,hr,hl,hz⟩:=h.open;obtain ⟨neg',ao',m',c',l',rfl,hr',hl',hz'⟩:=h'.open;have HG:=bH (fun W (hW:XF w W)=>gcd_any W _ _ l l' (hr.keep hW) (hr'.keep hW) (by omega) (by omega));have e1:vl l=z.natAbs:=by rw [hz,sg_natAbs]
 have e2:vl l'=y:=by have:=congrArg Int.natAbs hz'; rw [sg_natAbs] at this; simpa using this.symm
 rw [e1,e2] at HG;clear hq1 hq2 hg hgl hdl hr hr' hl hl' hz hz' e1 e2 h h';generalize Nat.gcd z.natAbs y=g at *;generalize mkRat z y=q at *;go_enter Tryz.func153,Tryz.ntmps153;go_upto_region 0 with fail;go_cut [2,3,4] (fun v1 v2 v3 wx=>∃ b b' r,v1=.pointer (some ⟨b,0,none⟩)/\v2=.pointer (some ⟨b',0,none⟩)/\v3=.pointer (some ⟨r,0,none⟩)/\BoxI wx b neg (.slice ao m c)/\BoxI wx b' neg' (.slice ao' m' c')/\BoxR wx r false (.slice none 0 0) (.slice none 0 0)/\w.heap.size<=r/\XF w wx);case first =>
  go_wp2;go_meet;exact ⟨_,_,_,rfl,rfl,rfl,((boxI_new rfl neg ao m c).alloc _).alloc _,(boxI_new (by simp) neg' ao' m' c').alloc _,boxR_new (by simp) false none 0 0 none 0 0,(by omega),(((Ext.refl _ w).alloc _).alloc _).alloc _⟩
 case rest =>
  obtain ⟨b,b',r,rfl,rfl,rfl,hb,hb',hrb,hle,hx⟩:=hcut;obtain ⟨e0,e1,_⟩:=hb'.facts;have HB:=bH (bI hb (bI hb' (bI hrb hx)));clear hb hb' hrb hx;go_wp2_with fail;refine (HSg.o _ HB.o.2.2.2).mono ?_;rintro r1 w1 ⟨rfl,hx1⟩;have HX1:=bH hx1;obtain ⟨c10,c11,_⟩:=(HB.o.1.ext hx1 id).facts;obtain ⟨e10,e11,_⟩:=(HB.o.2.1.ext hx1 id).facts;have HG1:=bH (HG.o w1 (HB.o.2.2.2.trans hx1));clear hx1 e0 e1;go_wp2_with fail;refine HG1.o.mono ?_;rintro r2 w2 ⟨vg,rfl,hg2,hx2⟩;obtain ⟨aog,cg,rfl⟩:=hg2.shape;generalize (dg g).length=ng at *;clear c10 c11 e10 e11 HG1;have hbg:=boxI_new (W:=w2) rfl false aog ng cg;have hx23:=(Ext.refl (fun _=>False) w2).alloc (.cells #[.bool false,.slice aog ng cg] 62);have hX3:=(HX1.o.trans hx2).trans hx23;go_upto_region 4 with fail;obtain ⟨bg,hbge⟩:∃ bg,w2.heap.size=bg:=⟨_,rfl⟩;rw [hbge] at hbg ⊢;generalize w2.alloc (.cells #[.bool false,.slice aog ng cg] 62)=w3 at *;obtain ⟨c0,c1,_⟩:=(HB.o.1.ext hX3 id).facts;obtain ⟨g0,g1,_⟩:=hbg.facts;have HQ13:=bH (HQ1.o w3 (HB.o.2.2.2.trans hX3) aog ng cg (hg2.keep hx23));have HX3:=bH (bI hX3 (bI hbg (hg2.keep hx23)));clear hg2 hx2 hX3 hbg hx23 hbge HX1;go_wp2_with fail;refine HQ13.o.mono ?_;rintro r4 w4 ⟨vn,vs,rfl,hn4,hs4,hx4⟩;obtain ⟨nn,aon,mn,cn,rfl⟩:=hn4.shape;obtain ⟨ns,aos,ms,cs,rfl⟩:=hs4.shape;have hX4:=HX3.o.1.trans hx4;clear c0 c1 g0 g1;go_upto_region 5 with fail;obtain ⟨bn,hbne⟩:∃ bn,w4.heap.size=bn:=⟨_,rfl⟩;have hbn:=(boxI_new (W:=w4) rfl nn aon mn cn).alloc (.cells #[.bool ns,.slice aos ms cs] 62);have hx45:=((Ext.refl (fun _=>False) w4).alloc (.cells #[.bool nn,.slice aon mn cn] 62)).alloc (.cells #[.bool ns,.slice aos ms cs] 62);rw [hbne] at hbn ⊢;generalize (w4.alloc (.cells #[.bool nn,.slice aon mn cn] 62)).alloc (.cells #[.bool ns,.slice aos ms cs] 62)=w5 at *;have hX5:=hX4.trans hx45;obtain ⟨e0,e1,_⟩:=(HB.o.2.1.ext hX5 id).facts;obtain ⟨g0,g1,_⟩:=(HX3.o.2.1.ext (hx4.trans hx45) id).facts;have HQ25:=bH (HQ2.o w5 (HB.o.2.2.2.trans hX5) aog ng cg (HX3.o.2.2.keep (hx4.trans hx45)));have HX5:=bH (bI hX5 (bI (hn4.keep hx45) hbn));clear hX4 hx4 hX5 hx45 hbn hn4 hs4 hbne;go_wp2_with fail;refine HQ25.o.mono ?_;rintro r6 w6 ⟨vd,vt,rfl,hd6,ht6,hx6⟩;obtain ⟨nd,aod,md,cd,rfl⟩:=hd6.shape;obtain ⟨nt,aot,mt,ct,rfl⟩:=ht6.shape;have hX6:=HX5.o.1.trans hx6;clear e0 e1 g0 g1;go_upto_region 6 with fail;obtain ⟨bd,hbde⟩:∃ bd,w6.heap.size=bd:=⟨_,rfl⟩;have hbd:=(boxI_new (W:=w6) rfl nd aod md cd).alloc (.cells #[.bool nt,.slice aot mt ct] 62);have hx67:=((Ext.refl (fun _=>False) w6).alloc (.cells #[.bool nd,.slice aod md cd] 62)).alloc (.cells #[.bool nt,.slice aot mt ct] 62);rw [hbde] at hbd ⊢;generalize (w6.alloc (.cells #[.bool nd,.slice aod md cd] 62)).alloc (.cells #[.bool nt,.slice aot mt ct] 62)=w7 at *;have hX7:=hX6.trans hx67;have hnd:IsNat w7 (.slice aod md cd) q.den:=by
   obtain ⟨m0,h1,h2⟩:=hd6.keep hx67;cases h1;rw [Int.natAbs_natCast] at h2;exact h2
  have hS:S1 bd (.slice aod md cd) w7:=hbd.facts.2.1;have HX7:=bH (bI hX7 (bI (HX5.o.2.1.keep (hx6.trans hx67)) (bI (HX5.o.2.2.ext (hx6.trans hx67) id) (bI hbd hnd))));clear hX6 hx6 hX7 hx67 hbd hd6 ht6 hbde hnd;go_region_held3 (S1 bd (.slice aod md cd))
   (repeat (first | (with_reducible assumption) | (with_reducible refine S1.drew ?_)))
   (first
    | (go_at_call 155; (with_reducible refine (HF.o _).mono ?_); rintro r8 w8 ⟨v8,rfl,h8,hx8⟩; have hx78:=(Ext.refl (fun _=>False) w7).drew.trans hx8; have hK8:S1 bd (.slice aod md cd) w8:=(HX7.o.2.2.2.1.ext hx78 id).facts.2.1; have hC8:=HC.o w8 _ _ (HX7.o.2.2.2.2.keep hx78) h8)
    | (go_at_call 172; (with_reducible refine hC8.mono ?_); rintro r9 w' ⟨rfl,hw⟩; obtain rfl:=hw.symm))
  have hX8:=HX7.o.1.trans hx78;have hr8:=HB.o.2.2.1.ext hX8 id;obtain ⟨d0,d1,d2,d3,d4,d5⟩:=hr8.facts;obtain ⟨c0,c1,_⟩:=(HX7.o.2.2.1.ext hx78 id).facts;have hn8:=HX7.o.2.1.keep hx78;have hd8:=HX7.o.2.2.2.2.keep hx78;have hXw:=HB.o.2.2.2.trans hX8;have hc1:=cmpN_one q.den;generalize cmpN q.den 1=cq at *;by_cases h1:q.den=1
  ·have hcq:=hc1.2 h1;subst hcq;have hp:=hr8.put (neg:=nn) (no_int aon mn cn) (no_int none 0 0);have hR0:IsRat w8 (.agg #[.bool nn,.slice aon mn cn,.slice none 0 0]) q:=IsRat.mk hn8 (by rw [h1]; exact IsNat.nil w8);have HR:=bH (bI (hp.rat hR0) (bI (hXw.own hp.ext (fun k e=>by omega)) hp.box));clear hp hR0 hn8 hd8 hr8 hXw hX8 hx8 hx78 h8 hC8 hK8 hS hc1 h1;go_wp2;generalize ((w8.setCell ⟨r,0,none⟩ (.bool nn)).setCell ⟨r,1,none⟩ (.slice aon mn cn)).setCell ⟨r,2,none⟩ (.slice none 0 0)=w9 at *;obtain ⟨g0,g1,g2,_⟩:=HR.o.2.2.facts;exact bodyPost_ret (v:=.agg #[.bool nn,.slice aon mn cn,.slice none 0 0]) (by simp [results,Tryz.results153,go_sem,g0,g1,g2]) rfl ⟨_,rfl,HR.o.1,HR.o.2.1⟩
  ·have hcq:¬ cq=0:=fun e=>h1 (hc1.1 e);have hp:=hr8.put (neg:=nn) (no_int aon mn cn) (no_int aod md cd);have hR0:IsRat w8 (.agg #[.bool nn,.slice aon mn cn,.slice aod md cd]) q:=IsRat.mk hn8 (by unfold dw; rw [if_neg h1]; exact hd8);have HR:=bH (bI (hp.rat hR0) (bI (hXw.own hp.ext (fun k e=>by omega)) hp.box));clear hp hR0 hn8 hd8 hr8 hXw hX8 hx8 hx78 h8 hC8 hS hc1 h1;have hcb:(cq == 0)=false:=(by simpa using hcq);go_wp2;generalize ((w8.setCell ⟨r,0,none⟩ (.bool nn)).setCell ⟨r,1,none⟩ (.slice aon mn cn)).setCell ⟨r,2,none⟩ (.slice aod md cd)=w9 at *;obtain ⟨g0,g1,g2,_⟩:=HR.o.2.2.facts;exact bodyPost_ret (v:=.agg #[.bool nn,.slice aon mn cn,.slice aod md cd]) (by simp [results,Tryz.results153,go_sem,g0,g1,g2]) rfl ⟨_,rfl,HR.o.1,HR.o.2.1⟩
abbrev SI4 (b1 b2 b3 b4:Nat) (n1 n2 n3 n4:Bool) (m1 m2 m3 m4:Value) (W:World):Prop :=
 W.cell? ⟨b1,0,none⟩=some (.bool n1)/\W.cell? ⟨b1,1,none⟩=some m1/\W.cell? ⟨b2,0,none⟩=some (.bool n2)/\W.cell? ⟨b2,1,none⟩=some m2/\W.cell? ⟨b3,0,none⟩=some (.bool n3)/\W.cell? ⟨b3,1,none⟩=some m3/\W.cell? ⟨b4,0,none⟩=some (.bool n4)/\W.cell? ⟨b4,1,none⟩=some m4
section
variable {b1 b2 b3 b4:Nat} {n1 n2 n3 n4:Bool} {m1 m2 m3 m4:Value} {W:World}
def Box4 (W:World) (b1 b2 b3 b4:Nat) (n1 n2 n3 n4:Bool) (m1 m2 m3 m4:Value):Prop:=BoxI W b1 n1 m1/\BoxI W b2 n2 m2/\BoxI W b3 n3 m3/\BoxI W b4 n4 m4
theorem Box4.s (h:Box4 W b1 b2 b3 b4 n1 n2 n3 n4 m1 m2 m3 m4):SI4 b1 b2 b3 b4 n1 n2 n3 n4 m1 m2 m3 m4 W:=⟨h.1.facts.1,h.1.facts.2.1,h.2.1.facts.1,h.2.1.facts.2.1,h.2.2.1.facts.1,h.2.2.1.facts.2.1,h.2.2.2.facts.1,h.2.2.2.facts.2.1⟩
theorem Box4.keep {W':World} (h:Box4 W b1 b2 b3 b4 n1 n2 n3 n4 m1 m2 m3 m4) (hx:XF W W'):Box4 W' b1 b2 b3 b4 n1 n2 n3 n4 m1 m2 m3 m4:=⟨h.1.ext hx id,h.2.1.ext hx id,h.2.2.1.ext hx id,h.2.2.2.ext hx id⟩
theorem SI4.drew (h:SI4 b1 b2 b3 b4 n1 n2 n3 n4 m1 m2 m3 m4 W):SI4 b1 b2 b3 b4 n1 n2 n3 n4 m1 m2 m3 m4 W.drew:=h
theorem SI4.set (h:SI4 b1 b2 b3 b4 n1 n2 n3 n4 m1 m2 m3 m4 W) (p:Addr) (u:Value) (h1:¬ b1=p.block) (h2:¬ b2=p.block) (h3:¬ b3=p.block) (h4:¬ b4=p.block):SI4 b1 b2 b3 b4 n1 n2 n3 n4 m1 m2 m3 m4 (W.setCell p u):=by
 obtain ⟨a1,a2,a3,a4,a5,a6,a7,a8⟩:=h;exact ⟨cell_other a1 h1,cell_other a2 h1,cell_other a3 h2,cell_other a4 h2,cell_other a5 h3,cell_other a6 h3,cell_other a7 h4,cell_other a8 h4⟩
end
def TwoInt (w:World) (Z Y:Int) (r:Ending) (w':World):Prop:=∃ a b,r=.returned (.tuple #[a,b])/\IsInt w' a Z/\IsInt w' b Y/\XF w w'
theorem mulf_any (w:World) (p q r s:Value) (zp zq zr zs:Int) (L:Nat) (hp:Rint w p zp L) (hq:Rint w q zq L) (hr:Rint w r zr L) (hs:Rint w s zs L) (hL:L<=4194304) :
  Calls Tryz.prog 168 #[p,q,r,s] w (TwoInt w (zp*zr) (zq*zs)):=by
 have H1:=bH (fun W (hW:XF w W)=>imul_any W p r zp zr L (hp.keep hW) (hr.keep hW) (by omega));have H2:=bH (fun W (hW:XF w W)=>imul_any W q s zq zs L (hq.keep hW) (hs.keep hW) (by omega));obtain ⟨n1,a1,l1,c1,_,rfl,_,_,_⟩:=hp.open;obtain ⟨n2,a2,l2,c2,_,rfl,_,_,_⟩:=hq.open;obtain ⟨n3,a3,l3,c3,_,rfl,_,_,_⟩:=hr.open;obtain ⟨n4,a4,l4,c4,_,rfl,_,_,_⟩:=hs.open;clear hp hq hr hs;unfold TwoInt;generalize zp*zr=Z at *;generalize zq*zs=Y at *;go_enter Tryz.func168,Tryz.ntmps168;go_upto_region 0 with fail;go_cut [4,5,6,7,8,9] (fun v1 v2 v3 v4 v5 v6 wx=>∃ b1 b2 b3 b4 r1 r2,v1=.pointer (some ⟨b1,0,none⟩)/\v2=.pointer (some ⟨b2,0,none⟩)/\v3=.pointer (some ⟨b3,0,none⟩)/\v4=.pointer (some ⟨b4,0,none⟩)/\v5=.pointer (some ⟨r1,0,none⟩)/\v6=.pointer (some ⟨r2,0,none⟩)/\Box4 wx b1 b2 b3 b4 n1 n2 n3 n4 (.slice a1 l1 c1) (.slice a2 l2 c2) (.slice a3 l3 c3) (.slice a4 l4 c4)/\BoxI wx r1 false (.slice none 0 0)/\BoxI wx r2 false (.slice none 0 0)/\b1<r1/\b2<r1/\b3<r1/\b4<r1/\r1<r2/\w.heap.size<=r1/\XF w wx);case first =>
  go_wp2;go_meet;exact ⟨_,_,_,_,_,_,rfl,rfl,rfl,rfl,rfl,rfl,⟨(((((boxI_new rfl n1 a1 l1 c1).alloc _).alloc _).alloc _).alloc _).alloc _,((((boxI_new (by simp) n2 a2 l2 c2).alloc _).alloc _).alloc _).alloc _,(((boxI_new (by simp) n3 a3 l3 c3).alloc _).alloc _).alloc _,((boxI_new (by simp) n4 a4 l4 c4).alloc _).alloc _⟩,(boxI_new (by simp) false none 0 0).alloc _,boxI_new (by simp) false none 0 0,(by omega),(by omega),(by omega),(by omega),(by omega),(by omega),((((((Ext.refl _ w).alloc _).alloc _).alloc _).alloc _).alloc _).alloc _⟩
 case rest =>
  obtain ⟨b1,b2,b3,b4,r1,r2,rfl,rfl,rfl,rfl,rfl,rfl,hb,hr1,hr2,i1,i2,i3,i4,i5,hle,hx⟩:=hcut;have hS:=hb.s;have HB:=bH (bI hb (bI hr1 (bI hr2 hx)));clear hb hr1 hr2 hx;go_upto_region 1 with fail;go_region_held3 (SI4 b1 b2 b3 b4 n1 n2 n3 n4 (.slice a1 l1 c1) (.slice a2 l2 c2) (.slice a3 l3 c3) (.slice a4 l4 c4))
   (repeat (first | (with_reducible assumption) | (with_reducible refine SI4.drew ?_) | (with_reducible refine SI4.set ?_ _ _ ?_ ?_ ?_ ?_) | (dsimp only; omega)))
   (first
    | (go_at_call 132; (with_reducible refine (H1.o _ (HB.o.2.2.2.drew)).mono ?_); rintro q1 w11 ⟨v11,rfl,h11,hx11⟩; have hX1:=(Ext.refl (fun _=>False) wc).drew.trans hx11; have hK1:=(HB.o.1.keep hX1).s; obtain ⟨ng1,ag1,lg1,cg1,rfl⟩:=h11.shape)
    | (go_at_call 132; (with_reducible refine (H2.o _ (HB.o.2.2.2.trans hX1)).mono ?_); rintro q2 w12 ⟨v12,rfl,h12,hx12⟩; have hX2:=hX1.trans hx12; have hK2:=(HB.o.1.keep hX2).s; have hR1:=HB.o.2.1.ext hX2 id; have hR2:=HB.o.2.2.1.ext hX2 id; obtain ⟨d0,d1,d2,d3⟩:=hR1.facts; obtain ⟨f0,f1,f2,f3⟩:=hR2.facts; obtain ⟨ng2,ag2,lg2,cg2,rfl⟩:=h12.shape))
  have hp1:=hR1.put (neg:=ng1) (no_int ag1 lg1 cg1);have hp2:=(hR2.ext hp1.ext (fun e=>by omega)).put (neg:=ng2) (no_int ag2 lg2 cg2);have HR:=bH (bI (hp2.int (hp1.int (h11.keep hx12))) (bI (hp2.int (hp1.int h12)) (bI (((HB.o.2.2.2.trans hX2).own hp1.ext (fun k e=>by omega)).own hp2.ext (fun k e=>by omega)) (bI (hp1.box.ext hp2.ext (fun e=>by omega)) hp2.box))));clear hp1 hp2 hR1 hR2 hS d0 d1 d2 d3 f0 f1 f2 f3 h11 hx11 hX1 hK1 h12 hx12 hX2 hK2;generalize (((w12.setCell ⟨r1,0,none⟩ (.bool ng1)).setCell ⟨r1,1,none⟩ (.slice ag1 lg1 cg1)).setCell ⟨r2,0,none⟩ (.bool ng2)).setCell ⟨r2,1,none⟩ (.slice ag2 lg2 cg2)=w20 at *;obtain ⟨g0,g1,_⟩:=HR.o.2.2.2.1.facts;obtain ⟨g2,g3,_⟩:=HR.o.2.2.2.2.facts;go_wp2;exact bodyPost_ret (v:=.tuple #[.agg #[.bool ng1,.slice ag1 lg1 cg1],.agg #[.bool ng2,.slice ag2 lg2 cg2]]) (by simp [results,Tryz.results168,go_sem,g0,g1,g2,g3]) rfl ⟨_,_,rfl,HR.o.1,HR.o.2.1,HR.o.2.2.1⟩
theorem addf_any (w:World) (p q r s:Value) (zp zq zr zs:Int) (L:Nat) (hp:Rint w p zp L) (hq:Rint w q zq L) (hr:Rint w r zr L) (hs:Rint w s zs L) (hL:L<=4194304) :
  Calls Tryz.prog 169 #[p,q,r,s] w (TwoInt w (zp*zs+zr*zq) (zq*zs)):=by
 have H1:=bH (fun W (hW:XF w W)=>imul_any W p s zp zs L (hp.keep hW) (hs.keep hW) (by omega));have H2:=bH (fun W (hW:XF w W)=>imul_any W r q zr zq L (hr.keep hW) (hq.keep hW) (by omega));have H4:=bH (fun W (hW:XF w W)=>imul_any W q s zq zs L (hq.keep hW) (hs.keep hW) (by omega));have hl1:=len_mul hp.len hs.len;have hl2:=len_mul hr.len hq.len;have H3:=bH (fun W u u' (hu:IsInt W u (zp*zs)) (hu':IsInt W u' (zr*zq))=>iadd_any W u u' _ _ (L+L) (hu.reads hl1) (hu'.reads hl2) (by omega));clear hl1 hl2;obtain ⟨n1,a1,l1,c1,_,rfl,_,_,_⟩:=hp.open;obtain ⟨n2,a2,l2,c2,_,rfl,_,_,_⟩:=hq.open;obtain ⟨n3,a3,l3,c3,_,rfl,_,_,_⟩:=hr.open;obtain ⟨n4,a4,l4,c4,_,rfl,_,_,_⟩:=hs.open;clear hp hq hr hs;unfold TwoInt;generalize zp*zs=Z1 at *;generalize zr*zq=Z2 at *;generalize zq*zs=Y at *;go_enter Tryz.func169,Tryz.ntmps169;go_upto_region 0 with fail;go_cut [4,5,6,7,8,9] (fun v1 v2 v3 v4 v5 v6 wx=>∃ b1 b2 b3 b4 r1 r2,v1=.pointer (some ⟨b1,0,none⟩)/\v2=.pointer (some ⟨b2,0,none⟩)/\v3=.pointer (some ⟨b3,0,none⟩)/\v4=.pointer (some ⟨b4,0,none⟩)/\v5=.pointer (some ⟨r1,0,none⟩)/\v6=.pointer (some ⟨r2,0,none⟩)/\Box4 wx b1 b2 b3 b4 n1 n2 n3 n4 (.slice a1 l1 c1) (.slice a2 l2 c2) (.slice a3 l3 c3) (.slice a4 l4 c4)/\BoxI wx r1 false (.slice none 0 0)/\BoxI wx r2 false (.slice none 0 0)/\b1<r1/\b2<r1/\b3<r1/\b4<r1/\r1<r2/\w.heap.size<=r1/\XF w wx);case first =>
  go_wp2;go_meet;exact ⟨_,_,_,_,_,_,rfl,rfl,rfl,rfl,rfl,rfl,⟨(((((boxI_new rfl n1 a1 l1 c1).alloc _).alloc _).alloc _).alloc _).alloc _,((((boxI_new (by simp) n2 a2 l2 c2).alloc _).alloc _).alloc _).alloc _,(((boxI_new (by simp) n3 a3 l3 c3).alloc _).alloc _).alloc _,((boxI_new (by simp) n4 a4 l4 c4).alloc _).alloc _⟩,(boxI_new (by simp) false none 0 0).alloc _,boxI_new (by simp) false none 0 0,(by omega),(by omega),(by omega),(by omega),(by omega),(by omega),((((((Ext.refl _ w).alloc _).alloc _).alloc _).alloc _).alloc _).alloc _⟩
 case rest =>
  obtain ⟨b1,b2,b3,b4,r1,r2,rfl,rfl,rfl,rfl,rfl,rfl,hb,hr1,hr2,i1,i2,i3,i4,i5,hle,hx⟩:=hcut;have hS:=hb.s;have HB:=bH (bI hb (bI hr1 (bI hr2 hx)));clear hb hr1 hr2 hx;go_upto_region 1 with fail;go_region_held3 (SI4 b1 b2 b3 b4 n1 n2 n3 n4 (.slice a1 l1 c1) (.slice a2 l2 c2) (.slice a3 l3 c3) (.slice a4 l4 c4))
   (repeat (first | (with_reducible assumption) | (with_reducible refine SI4.drew ?_) | (with_reducible refine SI4.set ?_ _ _ ?_ ?_ ?_ ?_) | (dsimp only; omega)))
   (first
    | (go_at_call 132; (with_reducible refine (H1.o _ (HB.o.2.2.2.drew)).mono ?_); rintro q1 w11 ⟨v11,rfl,h11,hx11⟩; have hX1:=(Ext.refl (fun _=>False) wc).drew.trans hx11; have hK1:=(HB.o.1.keep hX1).s; obtain ⟨ng1,ag1,lg1,cg1,rfl⟩:=h11.shape)
    | (go_at_call 132; (with_reducible refine (H2.o _ (HB.o.2.2.2.trans hX1)).mono ?_); rintro q2 w12 ⟨v12,rfl,h12,hx12⟩; have hX2:=hX1.trans hx12; have hK2:=(HB.o.1.keep hX2).s; have hA:=H3.o _ _ _ (h11.keep hx12) h12; obtain ⟨ng2,ag2,lg2,cg2,rfl⟩:=h12.shape)
    | (go_at_call 119; (with_reducible refine hA.mono ?_); rintro q3 w13 ⟨v13,rfl,h13,hx13⟩; have hX3:=hX2.trans hx13; have hK3:=(HB.o.1.keep hX3).s; obtain ⟨ng3,ag3,lg3,cg3,rfl⟩:=h13.shape)
    | (go_at_call 132; (with_reducible refine (H4.o _ (HB.o.2.2.2.trans hX3)).mono ?_); rintro q4 w14 ⟨v14,rfl,h14,hx14⟩; have hX4:=hX3.trans hx14; have hK4:=(HB.o.1.keep hX4).s; have hR1:=HB.o.2.1.ext hX4 id; have hR2:=HB.o.2.2.1.ext hX4 id; obtain ⟨d0,d1,d2,d3⟩:=hR1.facts; obtain ⟨f0,f1,f2,f3⟩:=hR2.facts; obtain ⟨ng4,ag4,lg4,cg4,rfl⟩:=h14.shape))
  have hp1:=hR1.put (neg:=ng3) (no_int ag3 lg3 cg3);have hp2:=(hR2.ext hp1.ext (fun e=>by omega)).put (neg:=ng4) (no_int ag4 lg4 cg4);have HR:=bH (bI (hp2.int (hp1.int (h13.keep hx14))) (bI (hp2.int (hp1.int h14)) (bI (((HB.o.2.2.2.trans hX4).own hp1.ext (fun k e=>by omega)).own hp2.ext (fun k e=>by omega)) (bI (hp1.box.ext hp2.ext (fun e=>by omega)) hp2.box))));clear hp1 hp2 hR1 hR2 hS d0 d1 d2 d3 f0 f1 f2 f3 h11 hx11 hX1 hK1 h12 hx12 hX2 hK2 h13 hx13 hX3 hK3 h14 hx14 hX4 hK4;generalize (((w14.setCell ⟨r1,0,none⟩ (.bool ng3)).setCell ⟨r1,1,none⟩ (.slice ag3 lg3 cg3)).setCell ⟨r2,0,none⟩ (.bool ng4)).setCell ⟨r2,1,none⟩ (.slice ag4 lg4 cg4)=w20 at *;obtain ⟨g0,g1,_⟩:=HR.o.2.2.2.1.facts;obtain ⟨g2,g3,_⟩:=HR.o.2.2.2.2.facts;go_wp2;exact bodyPost_ret (v:=.tuple #[.agg #[.bool ng3,.slice ag3 lg3 cg3],.agg #[.bool ng4,.slice ag4 lg4 cg4]]) (by simp [results,Tryz.results169,go_sem,g0,g1,g2,g3]) rfl ⟨_,_,rfl,HR.o.1,HR.o.2.1,HR.o.2.2.1⟩
abbrev SR2 (b1 b2:Nat) (n1 n2:Bool) (m1 e1 m2 e2:Value) (W:World):Prop :=
 W.cell? ⟨b1,0,none⟩=some (.bool n1)/\W.cell? ⟨b1,1,none⟩=some m1/\W.cell? ⟨b1,2,none⟩=some e1/\W.cell? ⟨b2,0,none⟩=some (.bool n2)/\W.cell? ⟨b2,1,none⟩=some m2/\W.cell? ⟨b2,2,none⟩=some e2
section
variable {b1 b2:Nat} {n1 n2:Bool} {m1 e1 m2 e2:Value} {W:World}
theorem SR2.of (h:BoxR W b1 n1 m1 e1) (h':BoxR W b2 n2 m2 e2):SR2 b1 b2 n1 n2 m1 e1 m2 e2 W:=⟨h.facts.1,h.facts.2.1,h.facts.2.2.1,h'.facts.1,h'.facts.2.1,h'.facts.2.2.1⟩
theorem SR2.drew (h:SR2 b1 b2 n1 n2 m1 e1 m2 e2 W):SR2 b1 b2 n1 n2 m1 e1 m2 e2 W.drew:=h
theorem SR2.set (h:SR2 b1 b2 n1 n2 m1 e1 m2 e2 W) (p:Addr) (u:Value) (h1:¬ b1=p.block) (h2:¬ b2=p.block):SR2 b1 b2 n1 n2 m1 e1 m2 e2 (W.setCell p u):=by
 obtain ⟨a1,a2,a3,a4,a5,a6⟩:=h;exact ⟨cell_other a1 h1,cell_other a2 h1,cell_other a3 h1,cell_other a4 h2,cell_other a5 h2,cell_other a6 h2⟩
end
abbrev SR1 (b1:Nat) (n1:Bool) (m1 e1:Value) (W:World):Prop :=
 W.cell? ⟨b1,0,none⟩=some (.bool n1)/\W.cell? ⟨b1,1,none⟩=some m1/\W.cell? ⟨b1,2,none⟩=some e1
section
variable {b1:Nat} {n1:Bool} {m1 e1:Value} {W:World}
theorem SR1.of (h:BoxR W b1 n1 m1 e1):SR1 b1 n1 m1 e1 W:=⟨h.facts.1,h.facts.2.1,h.facts.2.2.1⟩
theorem SR1.drew (h:SR1 b1 n1 m1 e1 W):SR1 b1 n1 m1 e1 W.drew:=h
theorem SR1.set (h:SR1 b1 n1 m1 e1 W) (p:Addr) (u:Value) (h1:¬ b1=p.block):SR1 b1 n1 m1 e1 (W.setCell p u):=by
 obtain ⟨a1,a2,a3⟩:=h;exact ⟨cell_other a1 h1,cell_other a2 h1,cell_other a3 h1⟩
end
theorem dn_len {w:World} {v:Value} {d:List Nat} {L:Nat} (h:Rds w v d) (hl:d.length<=L) (h0:1<=L):(dg (dn (vl d))).length<=L:=by
 unfold dn;split
 ·exact Nat.le_trans (dg_length_le (k:=1) (by decide)) h0
 ·exact Nat.le_trans (dg_length_le (vl_lt h.1)) hl
theorem cross_add (w:World) (v v':Value) (q q':Rat) (L:Nat) (h:Rrat w v q L) (h':Rrat w v' q' L) (h0:1<=L) (hL:L<=4194304) :
  Calls Tryz.prog 167 #[v,v',.func (.func 169) #[] #[]] w (RatPost w (q+q')):=by
 obtain ⟨n1,a1,l1,c1,x1,y1,k1,l,d,rfl,hr,hd,hm,hdl,hq⟩:=h.open;clear hm;obtain ⟨n2,a2,l2,c2,x2,y2,k2,l',d',rfl,hr',hd',hm,hdl',hq'⟩:=h'.open;clear hm;have HD1:=bH (fun W (hW:XF w W)=>den_any W _ n1 a1 l1 c1 x1 y1 k1 d L rfl (hd.keep hW) hdl (by omega) h0);have HD2:=bH (fun W (hW:XF w W)=>den_any W _ n2 a2 l2 c2 x2 y2 k2 d' L rfl (hd'.keep hW) hdl' (by omega) h0);have HF:=bH (fun W (hW:XF w W) u u' hu hu'=>addf_any W _ u _ u' _ (dn (vl d):Nat) _ (dn (vl d'):Nat) L (hr.keep hW) hu (hr'.keep hW) hu' hL);have hY:((dn (vl d):Nat):Int)*((dn (vl d'):Nat):Int)=((dn (vl d)*dn (vl d'):Nat):Int):=by simp
 have hdl1:(dg (((dn (vl d):Nat):Int)).natAbs).length<=L:=by rw [Int.natAbs_natCast]; exact dn_len hd hdl h0
 have hdl2:(dg (((dn (vl d'):Nat):Int)).natAbs).length<=L:=by rw [Int.natAbs_natCast]; exact dn_len hd' hdl' h0
 have hYl:=len_mul hdl1 hdl2;have hZl:(dg (sg n1 (vl l)*((dn (vl d'):Nat):Int)+sg n2 (vl l')*((dn (vl d):Nat):Int)).natAbs).length<=L+L+1:=len_add (len_mul hr.len hdl2) (len_mul hr'.len hdl1);clear hdl1 hdl2;have HRd:=bH (fun W u u' (hu:IsInt W u (sg n1 (vl l)*((dn (vl d'):Nat):Int)+sg n2 (vl l')*((dn (vl d):Nat):Int))) (hu':IsInt W u' (((dn (vl d):Nat):Int)*((dn (vl d'):Nat):Int)))=>reduced_any W u u' (sg n1 (vl l)*((dn (vl d'):Nat):Int)+sg n2 (vl l')*((dn (vl d):Nat):Int)) (dn (vl d)*dn (vl d')) (L+L+1) (hu.reads hZl) (by rw [<- hY]; exact hu'.reads (by have:=hYl; omega)) (Nat.mul_pos (dn_pos _) (dn_pos _)) (by omega));have hres:mkRat (sg n1 (vl l)*((dn (vl d'):Nat):Int)+sg n2 (vl l')*((dn (vl d):Nat):Int)) (dn (vl d)*dn (vl d'))=q+q':=by
  rw [hq,hq'];rw [Rat.mkRat_add_mkRat _ _ (Nat.ne_of_gt (dn_pos _)) (Nat.ne_of_gt (dn_pos _))]
 rw [hres] at HRd;clear hr hr' hd hd' hdl hdl' hq hq' h h' hY hres hZl hYl;generalize q+q'=Q at *;unfold TwoInt at HF;generalize sg n1 (vl l)*((dn (vl d'):Nat):Int)+sg n2 (vl l')*((dn (vl d):Nat):Int)=Z at *;generalize ((dn (vl d):Nat):Int)*((dn (vl d'):Nat):Int)=Y at *;generalize ((dn (vl d):Nat):Int)=D1 at *;generalize ((dn (vl d'):Nat):Int)=D2 at *;go_enter Tryz.func167,Tryz.ntmps167;go_upto_region 0 with fail;go_cut [3,4,6] (fun v1 v2 v3 wx=>∃ b1 b2 r,v1=.pointer (some ⟨b1,0,none⟩)/\v2=.pointer (some ⟨b2,0,none⟩)/\v3=.pointer (some ⟨r,0,none⟩)/\BoxR wx b1 n1 (.slice a1 l1 c1) (.slice x1 y1 k1)/\BoxR wx b2 n2 (.slice a2 l2 c2) (.slice x2 y2 k2)/\BoxR wx r false (.slice none 0 0) (.slice none 0 0)/\b1<r/\b2<r/\w.heap.size<=r/\XF w wx);case first =>
  go_wp2;go_meet;exact ⟨_,_,_,rfl,rfl,rfl,((boxR_new rfl n1 a1 l1 c1 x1 y1 k1).alloc _).alloc _,(boxR_new (by simp) n2 a2 l2 c2 x2 y2 k2).alloc _,boxR_new (by simp) false none 0 0 none 0 0,(by omega),(by omega),(by omega),(((Ext.refl _ w).alloc _).alloc _).alloc _⟩
 case rest =>
  obtain ⟨b1,b2,r,rfl,rfl,rfl,hb1,hb2,hrb,i1,i2,hle,hx⟩:=hcut;have hS:=SR2.of hb1 hb2;have HB:=bH (bI hb1 (bI hb2 (bI hrb hx)));clear hb1 hb2 hrb hx;go_upto_region 1 with fail;go_region_held3 (SR2 b1 b2 n1 n2 (.slice a1 l1 c1) (.slice x1 y1 k1) (.slice a2 l2 c2) (.slice x2 y2 k2))
   (repeat (first | (with_reducible assumption) | (with_reducible refine SR2.drew ?_) | (with_reducible refine SR2.set ?_ _ _ ?_ ?_) | (dsimp only; omega)))
   (first
    | (go_at_call 133; (with_reducible refine (HD1.o _ HB.o.2.2.2.drew).mono ?_); rintro q1 w11 ⟨v11,rfl,h11,hx11⟩; have hX1:=(Ext.refl (fun _=>False) wc).drew.trans hx11; have hK1:=SR2.of (HB.o.1.ext hX1 id) (HB.o.2.1.ext hX1 id); obtain ⟨ng1,ag1,lg1,cg1,rfl⟩:=h11.shape)
    | (go_at_call 133; (with_reducible refine (HD2.o _ (HB.o.2.2.2.trans hX1)).mono ?_); rintro q2 w12 ⟨v12,rfl,h12,hx12⟩; have hX2:=hX1.trans hx12; have hK2:=SR2.of (HB.o.1.ext hX2 id) (HB.o.2.1.ext hX2 id); have hF:=HF.o w12 (HB.o.2.2.2.trans hX2) _ _ (h11.keep hx12) h12; obtain ⟨ng2,ag2,lg2,cg2,rfl⟩:=h12.shape)
    | (go_at_call 169; (with_reducible refine hF.mono ?_); rintro q3 w13 ⟨va,vb,rfl,ha,hb,hx13⟩; have hX3:=hX2.trans hx13; have hK3:=SR2.of (HB.o.1.ext hX3 id) (HB.o.2.1.ext hX3 id); have hR:=HRd.o w13 _ _ ha hb; obtain ⟨ng3,ag3,lg3,cg3,rfl⟩:=ha.shape; obtain ⟨ng4,ag4,lg4,cg4,rfl⟩:=hb.shape)
    | (go_at_call 153; (with_reducible refine hR.mono ?_); rintro q4 w14 ⟨v14,rfl,h14,hx14⟩; have hX4:=hX3.trans hx14; have hK4:=SR2.of (HB.o.1.ext hX4 id) (HB.o.2.1.ext hX4 id); have hr4:=HB.o.2.2.1.ext hX4 id; obtain ⟨d0,d1,d2,d3,d4,d5⟩:=hr4.facts; obtain ⟨ng,sa,sn,sc,ta,tn,tc,rfl⟩:=h14.shape))
  have hp:=hr4.put (neg:=ng) (no_int sa sn sc) (no_int ta tn tc);have HR:=bH (bI (hp.rat h14) (bI ((HB.o.2.2.2.trans hX4).own hp.ext (fun k e=>by omega)) hp.box));clear hp hr4 h11 h12 ha hb h14 hx11 hx12 hx13 hx14 hX1 hX2 hX3 hX4 hK1 hK2 hK3 hK4 hS hF hR d0 d1 d2 d3 d4 d5;generalize ((w14.setCell ⟨r,0,none⟩ (.bool ng)).setCell ⟨r,1,none⟩ (.slice sa sn sc)).setCell ⟨r,2,none⟩ (.slice ta tn tc)=w20 at *;obtain ⟨g0,g1,g2,_⟩:=HR.o.2.2.facts;go_wp2;exact bodyPost_ret (v:=.agg #[.bool ng,.slice sa sn sc,.slice ta tn tc]) (by simp [results,Tryz.results167,go_sem,g0,g1,g2]) rfl ⟨_,rfl,HR.o.1,HR.o.2.1⟩
theorem cross_mul (w:World) (v v':Value) (q q':Rat) (L:Nat) (h:Rrat w v q L) (h':Rrat w v' q' L) (h0:1<=L) (hL:L<=4194304) :
  Calls Tryz.prog 167 #[v,v',.func (.func 168) #[] #[]] w (RatPost w (q*q')):=by
 obtain ⟨n1,a1,l1,c1,x1,y1,k1,l,d,rfl,hr,hd,hm,hdl,hq⟩:=h.open;clear hm;obtain ⟨n2,a2,l2,c2,x2,y2,k2,l',d',rfl,hr',hd',hm,hdl',hq'⟩:=h'.open;clear hm;have HD1:=bH (fun W (hW:XF w W)=>den_any W _ n1 a1 l1 c1 x1 y1 k1 d L rfl (hd.keep hW) hdl (by omega) h0);have HD2:=bH (fun W (hW:XF w W)=>den_any W _ n2 a2 l2 c2 x2 y2 k2 d' L rfl (hd'.keep hW) hdl' (by omega) h0);have HF:=bH (fun W (hW:XF w W) u u' hu hu'=>mulf_any W _ u _ u' _ (dn (vl d):Nat) _ (dn (vl d'):Nat) L (hr.keep hW) hu (hr'.keep hW) hu' hL);have hY:((dn (vl d):Nat):Int)*((dn (vl d'):Nat):Int)=((dn (vl d)*dn (vl d'):Nat):Int):=by simp
 have hdl1:(dg (((dn (vl d):Nat):Int)).natAbs).length<=L:=by rw [Int.natAbs_natCast]; exact dn_len hd hdl h0
 have hdl2:(dg (((dn (vl d'):Nat):Int)).natAbs).length<=L:=by rw [Int.natAbs_natCast]; exact dn_len hd' hdl' h0
 have hYl:=len_mul hdl1 hdl2;have hZl:(dg (sg n1 (vl l)*sg n2 (vl l')).natAbs).length<=L+L+1:=Nat.le_trans (len_mul hr.len hr'.len) (by omega);clear hdl1 hdl2;have HRd:=bH (fun W u u' (hu:IsInt W u (sg n1 (vl l)*sg n2 (vl l'))) (hu':IsInt W u' (((dn (vl d):Nat):Int)*((dn (vl d'):Nat):Int)))=>reduced_any W u u' (sg n1 (vl l)*sg n2 (vl l')) (dn (vl d)*dn (vl d')) (L+L+1) (hu.reads hZl) (by rw [<- hY]; exact hu'.reads (by have:=hYl; omega)) (Nat.mul_pos (dn_pos _) (dn_pos _)) (by omega));have hres:mkRat (sg n1 (vl l)*sg n2 (vl l')) (dn (vl d)*dn (vl d'))=q*q':=by
  rw [hq,hq'];rw [Rat.mkRat_mul_mkRat]
 rw [hres] at HRd;clear hr hr' hd hd' hdl hdl' hq hq' h h' hY hres hZl hYl;generalize q*q'=Q at *;unfold TwoInt at HF;generalize sg n1 (vl l)*sg n2 (vl l')=Z at *;generalize ((dn (vl d):Nat):Int)*((dn (vl d'):Nat):Int)=Y at *;generalize ((dn (vl d):Nat):Int)=D1 at *;generalize ((dn (vl d'):Nat):Int)=D2 at *;go_enter Tryz.func167,Tryz.ntmps167;go_upto_region 0 with fail;go_cut [3,4,6] (fun v1 v2 v3 wx=>∃ b1 b2 r,v1=.pointer (some ⟨b1,0,none⟩)/\v2=.pointer (some ⟨b2,0,none⟩)/\v3=.pointer (some ⟨r,0,none⟩)/\BoxR wx b1 n1 (.slice a1 l1 c1) (.slice x1 y1 k1)/\BoxR wx b2 n2 (.slice a2 l2 c2) (.slice x2 y2 k2)/\BoxR wx r false (.slice none 0 0) (.slice none 0 0)/\b1<r/\b2<r/\w.heap.size<=r/\XF w wx);case first =>
  go_wp2;go_meet;exact ⟨_,_,_,rfl,rfl,rfl,((boxR_new rfl n1 a1 l1 c1 x1 y1 k1).alloc _).alloc _,(boxR_new (by simp) n2 a2 l2 c2 x2 y2 k2).alloc _,boxR_new (by simp) false none 0 0 none 0 0,(by omega),(by omega),(by omega),(((Ext.refl _ w).alloc _).alloc _).alloc _⟩
 case rest =>
  obtain ⟨b1,b2,r,rfl,rfl,rfl,hb1,hb2,hrb,i1,i2,hle,hx⟩:=hcut;have hS:=SR2.of hb1 hb2;have HB:=bH (bI hb1 (bI hb2 (bI hrb hx)));clear hb1 hb2 hrb hx;go_upto_region 1 with fail;go_region_held3 (SR2 b1 b2 n1 n2 (.slice a1 l1 c1) (.slice x1 y1 k1) (.slice a2 l2 c2) (.slice x2 y2 k2))
   (repeat (first | (with_reducible assumption) | (with_reducible refine SR2.drew ?_) | (with_reducible refine SR2.set ?_ _ _ ?_ ?_) | (dsimp only; omega)))
   (first
    | (go_at_call 133; (with_reducible refine (HD1.o _ HB.o.2.2.2.drew).mono ?_); rintro q1 w11 ⟨v11,rfl,h11,hx11⟩; have hX1:=(Ext.refl (fun _=>False) wc).drew.trans hx11; have hK1:=SR2.of (HB.o.1.ext hX1 id) (HB.o.2.1.ext hX1 id); obtain ⟨ng1,ag1,lg1,cg1,rfl⟩:=h11.shape)
    | (go_at_call 133; (with_reducible refine (HD2.o _ (HB.o.2.2.2.trans hX1)).mono ?_); rintro q2 w12 ⟨v12,rfl,h12,hx12⟩; have hX2:=hX1.trans hx12; have hK2:=SR2.of (HB.o.1.ext hX2 id) (HB.o.2.1.ext hX2 id); have hF:=HF.o w12 (HB.o.2.2.2.trans hX2) _ _ (h11.keep hx12) h12; obtain ⟨ng2,ag2,lg2,cg2,rfl⟩:=h12.shape)
    | (go_at_call 168; (with_reducible refine hF.mono ?_); rintro q3 w13 ⟨va,vb,rfl,ha,hb,hx13⟩; have hX3:=hX2.trans hx13; have hK3:=SR2.of (HB.o.1.ext hX3 id) (HB.o.2.1.ext hX3 id); have hR:=HRd.o w13 _ _ ha hb; obtain ⟨ng3,ag3,lg3,cg3,rfl⟩:=ha.shape; obtain ⟨ng4,ag4,lg4,cg4,rfl⟩:=hb.shape)
    | (go_at_call 153; (with_reducible refine hR.mono ?_); rintro q4 w14 ⟨v14,rfl,h14,hx14⟩; have hX4:=hX3.trans hx14; have hK4:=SR2.of (HB.o.1.ext hX4 id) (HB.o.2.1.ext hX4 id); have hr4:=HB.o.2.2.1.ext hX4 id; obtain ⟨d0,d1,d2,d3,d4,d5⟩:=hr4.facts; obtain ⟨ng,sa,sn,sc,ta,tn,tc,rfl⟩:=h14.shape))
  have hp:=hr4.put (neg:=ng) (no_int sa sn sc) (no_int ta tn tc);have HR:=bH (bI (hp.rat h14) (bI ((HB.o.2.2.2.trans hX4).own hp.ext (fun k e=>by omega)) hp.box));clear hp hr4 h11 h12 ha hb h14 hx11 hx12 hx13 hx14 hX1 hX2 hX3 hX4 hK1 hK2 hK3 hK4 hS hF hR d0 d1 d2 d3 d4 d5;generalize ((w14.setCell ⟨r,0,none⟩ (.bool ng)).setCell ⟨r,1,none⟩ (.slice sa sn sc)).setCell ⟨r,2,none⟩ (.slice ta tn tc)=w20 at *;obtain ⟨g0,g1,g2,_⟩:=HR.o.2.2.facts;go_wp2;exact bodyPost_ret (v:=.agg #[.bool ng,.slice sa sn sc,.slice ta tn tc]) (by simp [results,Tryz.results167,go_sem,g0,g1,g2]) rfl ⟨_,rfl,HR.o.1,HR.o.2.1⟩
theorem rneg_any (w:World) (v:Value) (q:Rat) (L:Nat) (h:Rrat w v q L) (h0:1<=L) (hL:L<=4194304) :
  Calls Tryz.prog 166 #[v] w (RatPost w (-q)):=by
 obtain ⟨n1,a1,l1,c1,x1,y1,k1,l,d,rfl,hr,hd,hm,hdl,hq⟩:=h.open;clear hm;have HN:=bH (fun W (hW:XF w W)=>ineg_any W _ _ L (hr.keep hW) (by omega));have HD1:=bH (fun W (hW:XF w W)=>den_any W _ n1 a1 l1 c1 x1 y1 k1 d L rfl (hd.keep hW) hdl (by omega) h0);have hnl:(dg (-sg n1 (vl l)).natAbs).length<=L:=by rw [Int.natAbs_neg]; exact hr.len
 have HRd:=bH (fun W u u' (hu:IsInt W u (-sg n1 (vl l))) hu'=>reduced_any W u u' (-sg n1 (vl l)) (dn (vl d)) L (hu.reads hnl) hu' (dn_pos _) (by omega));rw [<- Rat.neg_mkRat,<- hq] at HRd;clear hr hd hdl hq h hnl;generalize -q=Q at *;generalize -sg n1 (vl l)=Z at *;generalize ((dn (vl d):Nat):Int)=D1 at *;go_enter Tryz.func166,Tryz.ntmps166;go_upto_region 0 with fail;go_cut [1,2] (fun v1 v3 wx=>∃ b1 r,v1=.pointer (some ⟨b1,0,none⟩)/\v3=.pointer (some ⟨r,0,none⟩)/\BoxR wx b1 n1 (.slice a1 l1 c1) (.slice x1 y1 k1)/\BoxR wx r false (.slice none 0 0) (.slice none 0 0)/\b1<r/\w.heap.size<=r/\XF w wx);case first =>
  go_wp2;go_meet;exact ⟨_,_,rfl,rfl,(boxR_new rfl n1 a1 l1 c1 x1 y1 k1).alloc _,boxR_new (by simp) false none 0 0 none 0 0,(by omega),(by omega),((Ext.refl _ w).alloc _).alloc _⟩
 case rest =>
  obtain ⟨b1,r,rfl,rfl,hb1,hrb,i1,hle,hx⟩:=hcut;have hS:=SR1.of hb1;have HB:=bH (bI hb1 (bI hrb hx));clear hb1 hrb hx;go_upto_region 1 with fail;go_region_held3 (SR1 b1 n1 (.slice a1 l1 c1) (.slice x1 y1 k1))
   (repeat (first | (with_reducible assumption) | (with_reducible refine SR1.drew ?_) | (with_reducible refine SR1.set ?_ _ _ ?_) | (dsimp only; omega)))
   (first
    | (go_at_call 165; (with_reducible refine (HN.o _ HB.o.2.2.drew).mono ?_); rintro q1 w11 ⟨v11,rfl,h11,hx11⟩; have hX1:=(Ext.refl (fun _=>False) wc).drew.trans hx11; have hK1:=SR1.of (HB.o.1.ext hX1 id); obtain ⟨ng1,ag1,lg1,cg1,rfl⟩:=h11.shape)
    | (go_at_call 133; (with_reducible refine (HD1.o _ (HB.o.2.2.trans hX1)).mono ?_); rintro q2 w12 ⟨v12,rfl,h12,hx12⟩; have hX2:=hX1.trans hx12; have hK2:=SR1.of (HB.o.1.ext hX2 id); have hR:=HRd.o w12 _ _ (h11.keep hx12) h12; obtain ⟨ng2,ag2,lg2,cg2,rfl⟩:=h12.shape)
    | (go_at_call 153; (with_reducible refine hR.mono ?_); rintro q4 w14 ⟨v14,rfl,h14,hx14⟩; have hX4:=hX2.trans hx14; have hK4:=SR1.of (HB.o.1.ext hX4 id); have hr4:=HB.o.2.1.ext hX4 id; obtain ⟨d0,d1,d2,d3,d4,d5⟩:=hr4.facts; obtain ⟨ng,sa,sn,sc,ta,tn,tc,rfl⟩:=h14.shape))
  have hp:=hr4.put (neg:=ng) (no_int sa sn sc) (no_int ta tn tc);have HR:=bH (bI (hp.rat h14) (bI ((HB.o.2.2.trans hX4).own hp.ext (fun k e=>by omega)) hp.box));clear hp hr4 h11 h12 h14 hx11 hx12 hx14 hX1 hX2 hX4 hK1 hK2 hK4 hS hR d0 d1 d2 d3 d4 d5;generalize ((w14.setCell ⟨r,0,none⟩ (.bool ng)).setCell ⟨r,1,none⟩ (.slice sa sn sc)).setCell ⟨r,2,none⟩ (.slice ta tn tc)=w20 at *;obtain ⟨g0,g1,g2,_⟩:=HR.o.2.2.facts;go_wp2;exact bodyPost_ret (v:=.agg #[.bool ng,.slice sa sn sc,.slice ta tn tc]) (by simp [results,Tryz.results166,go_sem,g0,g1,g2]) rfl ⟨_,rfl,HR.o.1,HR.o.2.1⟩
end Go.Proofs.YtjaldknfeojjkaaGreat
