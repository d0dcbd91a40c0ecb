/-
  Texts of the proof, part 5. Conditions: each lemma names its own.
-/
import Derived.Test.YtjaldknfeojjkaaGreatW1
import Derived.Test.YtjaldknfeojjkaaGreatW4
import Derived.Laws.RangeAny
import Derived.Maps.RangeWalk
set_option linter.unusedVariables false
set_option linter.unusedSimpArgs false
set_option maxRecDepth 100000
set_option maxHeartbeats 16000000
namespace Go.Proofs.YtjaldknfeojjkaaGreat
open Go.RowKit Go.MapKept
open Go.ChangeMaps (setBlock)
open Go.RowKit Go.MapKept Go.Lib
theorem Below.ext {w w':World} (h:Below w.heap.size w w'):XF w w':=⟨h.os,h.tape,h.output,h.size,fun k hk _=>h.block k hk⟩
theorem limited1_pred (w:World):PredAt Tryz.prog 106 #[] (fun z:Int=>Value.int .i64 z) (fun z=>!limB z) w:=fun W z _=>by
 unfold FnGives limB;by_cases h1:z < -1099511627776
 ·go_enter Tryz.func106,Tryz.ntmps106;go_wp2;go_ret;exact ⟨ret_bool (by first | rfl | (simp; done) | (simp; omega) | omega),0,rfl⟩
 ·by_cases h2:1099511627776<z
  ·go_enter Tryz.func106,Tryz.ntmps106;go_wp2;go_ret;exact ⟨ret_bool (by first | rfl | (simp; done) | (simp; omega) | omega),0,rfl⟩
  ·go_enter Tryz.func106,Tryz.ntmps106;go_wp2;go_ret;exact ⟨ret_bool (by first | rfl | (simp; done) | (simp; omega) | omega),0,rfl⟩
theorem any_not_all {α:Type} (f:α->Bool):∀ l:List α,(!l.any fun z=>!f z)=l.all f
 | []=>rfl
 | a :: l=>by
  rw [List.any_cons,List.all_cons,<- any_not_all f l];cases f a <;> cases (l.any fun z=>!f z) <;> rfl
theorem limited_any (w:World) (b off c:Nat) (l:List Int) (hl:l.length<=9223372036854775807) (hc:∀ j z,l[j]?=some z->w.cell? ⟨b,off+j,none⟩=some (.int .i64 z)) :
  Calls Tryz.prog 57 #[.slice (some ⟨b,off,none⟩) l.length c] w (BoolPost w (l.all limB)):=by
 have hq:=Tryz.slices_ContainsFunc (fun z:Int=>Value.int .i64 z) (fun z=>!limB z) 106 #[] (enters_of Tryz.func106 (by kernel_rfl) rfl) b off l.length c l w (limited1_pred w) (Nat.le_refl _) hl (fun j hj=>(by
  rw [getElem!_pos l j hj];exact hc j _ (List.getElem?_eq_getElem hj)))
 rw [List.take_length] at hq;have ha:=any_not_all limB l;generalize (l.any fun z=>!limB z)=x at *;have HQ:=bH hq;have HA:=bH ha;clear hq ha hc;generalize l.all limB=y at *;generalize l.length=n at *;go_enter Tryz.func57,Tryz.ntmps57;go_wp2_with (go_at_call 105; refine HQ.o.mono ?_; rintro e w' ⟨rfl,q,rfl⟩);go_ret;exact ⟨ret_bool HA.o,(Ext.refl _ w).drewN q⟩
theorem name1_pred (w:World):PredAt Tryz.prog 109 #[] encR (fun r=>decide (r<32) || decide (126<r)) w:=fun W z _=>by
 unfold FnGives;show Calls Tryz.prog 109 #[.int .i32 (z:Int)] W _;by_cases h1:z<32
 ·have h1':(z:Int)<32:=(by omega);go_enter Tryz.func109,Tryz.ntmps109;go_wp2;go_ret;exact ⟨ret_bool (by first | rfl | (simp; done) | (simp; omega) | omega),0,rfl⟩
 ·have h1':¬ (z:Int)<32:=(by omega);by_cases h2:126<z
  ·have h2':(126:Int)<z:=(by omega);go_enter Tryz.func109,Tryz.ntmps109;go_wp2;go_ret;exact ⟨ret_bool (by first | rfl | (simp; done) | (simp; omega) | omega),0,rfl⟩
  ·have h2':¬ (126:Int)<z:=(by omega);go_enter Tryz.func109,Tryz.ntmps109;go_wp2;go_ret;exact ⟨ret_bool (by first | rfl | (simp; done) | (simp; omega) | omega),0,rfl⟩
def badR (r:Nat):Bool:=decide (r<32) || decide (126<r)
theorem idx_bad (s:ByteArray):∀ (f pos:Nat),s.size<=pos+f->(0<=idxFuncFrom badR true s f pos↔∃ i,pos<=i/\∃ h:i<s.size,badR (s[i]'h).toNat=true)
 | 0,pos,h=>by
  unfold idxFuncFrom;constructor
  ·intro h1; omega
  ·rintro ⟨i,h1,h2,_⟩; omega
 | f+1,pos,h=>by
  unfold idxFuncFrom;by_cases hp:pos<s.size
  ·rw [if_pos hp];by_cases ha:(s[pos]'hp).toNat<128
   ·rw [decode_ascii s pos hp ha];by_cases hb:badR (s[pos]'hp).toNat=true
    ·rw [if_pos hb];exact ⟨fun _=>⟨pos,Nat.le_refl _,hp,hb⟩,fun _=>by omega⟩
    ·rw [if_neg hb,idx_bad s f (pos+1) (by omega)];constructor
     ·rintro ⟨i,h1,h2⟩; exact ⟨i,by omega,h2⟩
     ·rintro ⟨i,h1,h2,h3⟩;refine ⟨i,?_,h2,h3⟩;rcases Nat.lt_or_ge pos i with h4 | h4
      ·omega
      ·obtain rfl:i=pos:=(by omega);exact absurd h3 hb
   ·have hd:=(decode_high s pos hp (by omega)).1;have hb:badR (Utf8.decode s pos).1=true:=(by unfold badR; rw [decide_eq_true (p:=(126<_)) (by omega)]; simp);rw [if_pos hb];refine ⟨fun _=>⟨pos,Nat.le_refl _,hp,?_⟩,fun _=>by omega⟩;unfold badR;rw [decide_eq_true (p:=(126<(s[pos]'hp).toNat)) (by omega)]; simp
  ·rw [if_neg hp];constructor
   ·intro h1; omega
   ·rintro ⟨i,h1,h2,_⟩; omega
theorem name_idx (s:ByteArray):(!decide (0<=idxFunc badR true s))=nameB s:=by
 have h:=idx_bad s s.size 0 (by omega);have hl:s.toList=s.data.toList:=ByteArray.toList_eq s;cases hq:nameB s with
 | true =>
  rw [decide_eq_false]; rfl;intro h0;obtain ⟨i,_,hi,hb⟩:=h.1 h0;unfold nameB at hq;rw [hl,List.all_eq_true] at hq;have:=hq (s[i]'hi) (by
   show s.data[i] ∈ s.data.toList;simp)
  unfold badR at hb;simp only [Bool.and_eq_true,Bool.or_eq_true,decide_eq_true_eq] at this hb;omega
 | false =>
  rw [decide_eq_true]; rfl;refine h.2 ?_;unfold nameB at hq;rw [hl,List.all_eq_false] at hq;obtain ⟨x,hx,hb⟩:=hq;obtain ⟨i,hi,rfl⟩:=List.getElem_of_mem hx;have hi':i<s.size:=(by rw [Array.length_toList] at hi; exact hi);refine ⟨i,Nat.zero_le _,hi',?_⟩;unfold badR;simp only [Bool.and_eq_true,decide_eq_true_eq,Bool.or_eq_true] at hb ⊢;have e:s[i]'hi'=s.data.toList[i]:=by
   show s.data[i]=_;rw [Array.getElem_toList]
  rw [e];omega
open Go.RowKit Go.MapKept Go.Lib
theorem limited_one (w:World) (z:Int) (c:Nat):Calls Tryz.prog 57 #[.slice (some ⟨w.heap.size,0,none⟩) 1 c] (w.alloc (.cells #[.int .i64 z] 2)) (BoolPost (w.alloc (.cells #[.int .i64 z] 2)) (limB z)):=by
 have h:=limited_any (w.alloc (.cells #[.int .i64 z] 2)) w.heap.size 0 c [z] (by simp) (fun j u hj=>by
  have:=cells_new (w:=w) [Value.int .i64 z] 2 rfl j (.int .i64 u) (by
   match j,hj with
   | 0,hj=>cases hj; rfl
   | j+1,hj=>simp at hj)
  simpa [Addr.add_lit] using this)
 simpa using h
theorem name_any (w:World) (s:ByteArray):Calls Tryz.prog 108 #[.string s,.func (.func 109) #[] #[]] w fun r w'=>r=.returned (.bool (!nameB s))/\XF w w':=by
 refine (Tryz.strings_ContainsFunc 109 #[] (enters_of Tryz.func109 (by kernel_rfl) rfl) _ s w (name1_pred w)).mono ?_;rintro r w' ⟨rfl,hb⟩;refine ⟨ret_bool ?_,Below.ext hb⟩;have:=name_idx s;unfold badR at this;rw [<- this,Bool.not_not]
theorem termsB_cons (n last:Int) (t:TermV) (l:List TermV):termsB n last (t :: l)=(decide (last<t.var) && decide (t.var<n) && !decide (t.coef=0) && limB t.coef && termsB n t.var l):=rfl
theorem validRow_any (w:World) (vars:Nat) (hv:vars<=9223372036854775807) (r:RowV) (ta:Option Addr) (tc:Nat) (hok:RowOk r) (ht:Tms w (.slice ta r.terms.length tc) r.terms) :
  Calls Tryz.prog 60 #[.int .i64 vars,.agg #[.string r.name,.int .i64 r.group,.int .i64 r.kind,.slice ta r.terms.length tc,.int .i64 r.bound]] w (BoolPost w (rowB vars r)):=by
 have hns:r.name.size<=9223372036854775807:=by have:=hok.name; unfold maxLen at this; omega
 have hg:=hok.group;have hk:=hok.kind;unfold InR at hg hk;obtain ⟨-,-,-,-,htn,-⟩:=ht.shape;have HT:=bH ht;have HR:=bH (show rowB vars r=(decide (0<=r.kind) && decide (r.kind<=2) && decide (0<=r.group) && decide (r.group<=60) && decide (r.name.size<=80) && limB r.bound && nameB r.name && termsB vars (-1) r.terms) from rfl);have hb1:=blk_alloc_at w (.cells #[.string r.name,.int .i64 r.group,.int .i64 r.kind,.slice ta r.terms.length tc,.int .i64 r.bound] 35);have hx1:=(Ext.refl (fun _=>False) w).alloc (.cells #[.string r.name,.int .i64 r.group,.int .i64 r.kind,.slice ta r.terms.length tc,.int .i64 r.bound] 35);have HB:=bH (bI hb1 hx1);clear ht hok hb1 hx1;obtain ⟨tl,htl⟩:∃ tl,r.terms.length=tl:=⟨_,rfl⟩;have HTL:=bH htl;rw [htl] at htn HT HB ⊢;clear htl;obtain ⟨gr,hgr⟩:∃ gr,r.group=gr:=⟨_,rfl⟩;rw [hgr] at hg HR HB ⊢;clear hgr;obtain ⟨kd,hkd⟩:∃ kd,r.kind=kd:=⟨_,rfl⟩;rw [hkd] at hk HR HB ⊢;clear hkd;obtain ⟨bd,hbd⟩:∃ bd,r.bound=bd:=⟨_,rfl⟩;rw [hbd] at HR HB ⊢;clear hbd;obtain ⟨nm,hnm⟩:∃ nm,r.name=nm:=⟨_,rfl⟩;rw [hnm] at hns HR HB ⊢;clear hnm;go_enter Tryz.func60,Tryz.ntmps60;go_upto_region 1 with fail;generalize hw1:w.alloc (.cells #[.string nm,.int .i64 gr,.int .i64 kd,.slice ta tl tc,.int .i64 bd] 35)=w1 at *;clear hw1;obtain ⟨rb,hrb⟩:∃ rb,w.heap.size=rb:=⟨_,rfl⟩;rw [hrb] at HB ⊢;clear hrb;have e0:=cellq HB.o.1 0 rfl;have e1:=cellq HB.o.1 1 rfl;have e2:=cellq HB.o.1 2 rfl;have e3:=cellq HB.o.1 3 rfl;have e4:=cellq HB.o.1 4 rfl;by_cases c1:80<nm.size
 ·have c1':(80:Int)<(nm.size:Int):=(by omega);go_wp2;go_ret;exact ⟨ret_bool (by rw [HR.o,decide_eq_false (p:=(nm.size<=80)) (by omega)]; simp),HB.o.2⟩
 have c1':¬ (80:Int)<(nm.size:Int):=by omega
 by_cases c2:gr<0
 ·go_wp2;go_ret;exact ⟨ret_bool (by rw [HR.o,decide_eq_false (p:=(0<=gr)) (by omega)]; simp),HB.o.2⟩
 by_cases c3:60<gr
 ·go_wp2;go_ret;exact ⟨ret_bool (by rw [HR.o,decide_eq_false (p:=(gr<=60)) (by omega)]; simp),HB.o.2⟩
 by_cases c4:kd<0
 ·go_wp2;go_ret;exact ⟨ret_bool (by rw [HR.o,decide_eq_false (p:=(0<=kd)) (by omega)]; simp),HB.o.2⟩
 by_cases c5:2<kd
 ·go_wp2;go_ret;exact ⟨ret_bool (by rw [HR.o,decide_eq_false (p:=(kd<=2)) (by omega)]; simp),HB.o.2⟩
 have HL:=bH (fun W (z:Int) c=>limited_one W z c);have HN:=bH (fun W=>name_any W nm);have HR2:Hid (rowB vars r=(limB bd && nameB nm && termsB vars (-1) r.terms)):=bH (by
  rw [HR.o,decide_eq_true (p:=(0<=kd)) (by omega),decide_eq_true (p:=(kd<=2)) (by omega),decide_eq_true (p:=(0<=gr)) (by omega),decide_eq_true (p:=(gr<=60)) (by omega),decide_eq_true (p:=(nm.size<=80)) (by omega)];simp)
 clear HR;go_wp2_with fail;refine (HL.o w1 bd _).mono ?_;rintro r2 w2 ⟨rfl,hx2⟩;have hx12:=((Ext.refl (fun _=>False) w1).alloc (.cells #[.int .i64 bd] 2)).trans hx2;have HB2:=bH (bI (blk_keep HB.o.1 hx12) (HB.o.2.trans hx12));clear hx2 hx12 HB e0 e1 e2 e3 e4;cases hlb:limB bd with
 | false =>
  rw [hlb] at HR2;clear hlb;go_wp2;go_ret;exact ⟨ret_bool (by rw [HR2.o]; rfl),HB2.o.2⟩
 | true =>
  rw [hlb] at HR2;clear hlb;have e3:=cellq HB2.o.1 3 rfl;go_wp2_with fail;go_loopg [42,5] tl (fun gg v42 v5 wr=>∃ (k:Nat) (la:Int),k<=tl/\gg=tl - k/\v42=.int .i64 k/\v5=.int .i64 la∧-9223372036854775808<=la/\la<=9223372036854775807/\termsB vars (-1) r.terms=termsB vars la (r.terms.drop k)/\XF w2 wr);case atStart=>exact ⟨0,-1,Nat.zero_le _,rfl,rfl,rfl,by omega,by omega,rfl,Ext.refl _ _⟩
  case round =>
   clear e3;obtain ⟨k,la,hk,rfl,rfl,rfl,hla0,hla1,heq,hx⟩:=hrel;have HX:=bH (bI heq hx);clear heq hx;by_cases hin:k<tl
   ·have i0:(k:Int)<(tl:Int):=(by omega);have hkl:k<r.terms.length:=(by rw [HTL.o]; exact hin);have hdr:r.terms.drop k=r.t k :: r.terms.drop (k+1):=by
     rw [List.drop_eq_getElem_cons hkl,r.t_at hkl]
    have HD:=bH (HX.o.1.trans (by rw [hdr,termsB_cons]));obtain ⟨b,off,rfl,-,e0,e1,htok⟩:=(HT.o.keep (HB2.o.2.trans HX.o.2)).atr k hkl;have hva:=htok.var;have hco:=htok.coef;unfold InR at hva hco;clear hdr hkl htok;obtain ⟨tv,htv⟩:∃ tv,(r.t k).var=tv:=⟨_,rfl⟩;obtain ⟨co,hco'⟩:∃ co,(r.t k).coef=co:=⟨_,rfl⟩;rw [htv] at e0 HD hva;rw [hco'] at e1 HD hco;clear htv hco';have hb3:=blk_alloc_at wr (.cells #[.int .i64 tv,.int .i64 co] 70);have hx3:=(Ext.refl (fun _=>False) wr).alloc (.cells #[.int .i64 tv,.int .i64 co] 70);have HB3:=bH (bI hb3 hx3);clear hb3 hx3;go_upto_region 7 with fail;generalize hw3:wr.alloc (.cells #[.int .i64 tv,.int .i64 co] 70)=w3 at *;clear hw3;obtain ⟨tb,htb⟩:∃ tb,wr.heap.size=tb:=⟨_,rfl⟩;rw [htb] at HB3 ⊢;clear htb e0 e1;obtain ⟨x0,x1⟩:w3.cell? ⟨tb,0,none⟩=some (.int .i64 tv)/\w3.cell? ⟨tb,1,none⟩=some (.int .i64 co):=⟨cellq HB3.o.1 0 rfl,cellq HB3.o.1 1 rfl⟩;have HE:=bH ((HB2.o.2.trans HX.o.2).trans HB3.o.2);by_cases t1:tv<=la
    ·go_wp2;go_ret;exact ⟨ret_bool (by rw [HR2.o,HD.o,decide_eq_false (p:=(la<tv)) (by omega)]; simp),HE.o⟩
    by_cases t2:(vars:Int)<=tv
    ·go_wp2;go_ret;exact ⟨ret_bool (by rw [HR2.o,HD.o,decide_eq_false (p:=(tv<(vars:Int))) (by omega)]; simp),HE.o⟩
    by_cases t3:co=0
    ·have t3':(co == 0)=true:=(by simpa using t3);subst t3;go_wp2;go_ret;exact ⟨ret_bool (by rw [HR2.o,HD.o]; simp),HE.o⟩
    have t3':(co == 0)=false:=(by simpa using t3);have HD2:Hid (termsB vars (-1) r.terms=(limB co && termsB vars tv (r.terms.drop (k+1)))):=bH (by
     rw [HD.o,decide_eq_true (p:=(la<tv)) (by omega),decide_eq_true (p:=(tv<(vars:Int))) (by omega),decide_eq_false t3]; simp)
    clear HD;go_wp2_with fail;refine (HL.o w3 co _).mono ?_;rintro r4 w4 ⟨rfl,hx4⟩;have hx34:=((Ext.refl (fun _=>False) w3).alloc (.cells #[.int .i64 co] 2)).trans hx4;have HX4:=bH ((HX.o.2.trans HB3.o.2).trans hx34);have y0:=cell_keep x0 hx34;clear hx4 hx34 x0 x1 HE;cases hlc:limB co with
    | false =>
     rw [hlc] at HD2;clear hlc;go_wp2;go_ret;exact ⟨ret_bool (by rw [HR2.o,HD2.o]; simp),HB2.o.2.trans HX4.o⟩
    | true =>
     rw [hlc] at HD2;clear hlc;go_wp2;go_roundg (tl - (k+1));case measure=>omega
     case rel=>exact ⟨k+1,tv,by omega,rfl,by go_num,rfl,by omega,by omega,by rw [HD2.o]; simp,HX4.o⟩
   ·obtain rfl:k=tl:=(by omega);have HF:Hid (termsB vars (-1) r.terms=true):=bH (by
     rw [HX.o.1,List.drop_of_length_le (by rw [HTL.o]; exact Nat.le_refl _)]; rfl)
    have e0:=cell_keep (cellq HB2.o.1 0 rfl) HX.o.2;go_wp2_with fail;refine (HN.o wr).mono ?_;rintro r4 w4 ⟨rfl,hx4⟩;have HX4:=bH ((HB2.o.2.trans HX.o.2).trans hx4);clear hx4 e0;go_wp2;go_ret;exact ⟨ret_bool (by rw [HR2.o,HF.o]; simp),HX4.o⟩
open Go.RowKit Go.MapKept Go.Lib
theorem rows_empty (w:World) (ao:Option Addr) (c:Nat) (fv:Value):Calls Tryz.prog 58 #[.slice ao 0 c,fv] w fun r w'=>r=.returned (.bool false)/\w'=w:=by
 have h:∀ W,Calls Tryz.prog 107 #[.slice ao 0 c,fv] W fun r w'=>r=.returned (.int .i64 (-1))/\w'=W:=fun W=>by
  go_enter Tryz.func107,Tryz.ntmps107;go_wp2_with fail;go_loopg [8] 0 (fun gg s8 wr=>s8=.int .i64 0/\wr=W);case atStart=>exact ⟨rfl,rfl⟩
  case round =>
   obtain ⟨rfl,rfl⟩:=hrel;go_wp2;go_ret;exact ⟨rfl,rfl⟩
 have H:=bH h;clear h;go_enter Tryz.func58,Tryz.ntmps58;go_wp2_with (go_at_call 107; refine (H.o _).mono ?_; rintro e w' ⟨rfl,rfl⟩);go_ret;exact ⟨rfl,rfl⟩
def rowC (p:ProgV) (tvs:List Value) (j:Nat):List Value:=cR (p.r j) (tvs.getD j (.slice none 0 0))
theorem valid1_any (w:World) (pb:Nat) (vv rv:Value) (p:ProgV) (hp:blk w pb=some (.cells #[vv,rv] 25 (0,0))) (hv:Vrs w vv p.vars) (r:RowV) (tv:Value) (ht:Tms w tv r.terms) (hok:RowOk r) :
  Calls Tryz.prog 59 #[.agg (cR r tv).toArray,.pointer (some ⟨pb,0,none⟩)] w (BoolPost w (!rowB p.vars.length r)):=by
 obtain ⟨vo,vc,rfl,-,hn,-⟩:=hv.shape;obtain ⟨ta,tc,rfl,-,-,-⟩:=ht.shape;have HR:=bH (fun W (hW:XF w W)=>validRow_any W p.vars.length hn r ta tc hok (ht.keep hW));have hx:=(Ext.refl (fun _=>False) w).alloc (.cells #[.string r.name,.int .i64 r.group,.int .i64 r.kind,.slice ta r.terms.length tc,.int .i64 r.bound] 35);have z0:=cell_keep (cellq hp 0 rfl) hx;have HX:=bH hx;clear hv ht hok hp hx;generalize p.vars.length=n at *;generalize r.terms.length=tl at *;generalize rowB n r=b at *;show Calls Tryz.prog 59 #[.agg #[.string r.name,.int .i64 r.group,.int .i64 r.kind,.slice ta tl tc,.int .i64 r.bound],.pointer (some ⟨pb,0,none⟩)] w _;go_enter Tryz.func59,Tryz.ntmps59;go_wp2_with (go_at_call 60; refine (HR.o _ HX.o).mono ?_; rintro e w' ⟨rfl,hx'⟩);go_ret;exact ⟨rfl,HX.o.trans hx'⟩
theorem all_range {α:Type} (f:α->Bool) (l:List α) (d:α):(!(List.range l.length).any fun j=>!f (l.getD j d))=l.all f:=by
 rw [any_not_all];have h:(List.range l.length).map (fun j=>l.getD j d)=l:=by
  refine List.ext_getElem (by simp) (fun i h1 h2=>?_);simp [List.getElem?_eq_getElem h2]
 conv=>rhs; rw [<- h]
 rw [List.all_map]; rfl
theorem rows_any (w:World) (pb:Nat) (vv rv:Value) (p:ProgV) (hp:blk w pb=some (.cells #[vv,rv] 25 (0,0))) (hv:Vrs w vv p.vars) (hr:Rws w rv p.rows) :
  Calls Tryz.prog 58 #[rv,.func (.func 59) #[] #[.pointer (some ⟨pb,0,none⟩)]] w fun r w'=>r=.returned (.bool (!p.rows.all (rowB p.vars.length)))/\XF w w':=by
 obtain ⟨ro,rc,rfl,-,hn,-⟩:=hr.shape;by_cases h0:p.rows.length=0
 ·rw [h0];refine (rows_empty w ro rc _).mono ?_;rintro r w' ⟨rfl,rfl⟩;refine ⟨ret_bool ?_,Ext.refl _ _⟩;rw [List.eq_nil_of_length_eq_zero h0]; rfl
 obtain ⟨tvs,hl,⟨ao,c,e,h1,h2,h3,h4⟩,h5⟩:=hr;rw [List.length_zipWith,hl,Nat.min_self] at e h1 h4;cases e;obtain ⟨b,off,rfl,hlt,hc⟩:=h4 (by omega);have hall:∀ j,Tms w (tvs.getD j (.slice none 0 0)) (p.r j).terms/\RowOk (p.r j):=fun j=>by
  by_cases hj:j<p.rows.length
  ·have hj':j<tvs.length:=(by omega);have:=h5 j _ _ (List.getElem?_eq_getElem hj) (List.getElem?_eq_getElem hj');rw [p.r_at hj] at this;rw [getD_lt hj'];exact this
  ·have e1:p.r j=row0:=by
    unfold ProgV.r;rw [List.getD_eq_getElem?_getD,List.getElem?_eq_none (by omega)]; rfl
   rw [List.getD_eq_getElem?_getD,List.getElem?_eq_none (by omega),e1];refine ⟨⟨Sl.nil w 2,fun t ht=>(by cases ht)⟩,⟨?_,?_,?_,?_⟩⟩
   ·show (0:Nat)<=maxLen; exact Nat.zero_le _
   all_goals (constructor <;> (show (_:Int)<=_) <;> decide)
 have hq:=AnyQ.slices_ContainsFunc Tryz.laysRow8 5 Tryz.isAgg35 Tryz.sizeOf35 (rowC p tvs) (fun _=>rfl) (fun j=>!rowB p.vars.length (p.r j)) 59 #[.pointer (some ⟨pb,0,none⟩)] (enters_of Tryz.func59 (by kernel_rfl) rfl) b off p.rows.length rc (List.range p.rows.length) w
  (fun W j hW=>by
   have hx:=Below.ext hW;refine (valid1_any W pb vv _ p (blk_keep hp hx) (hv.keep hx) (p.r j) _ ((hall j).1.keep hx) (hall j).2).mono ?_;rintro e w' ⟨rfl,hx'⟩;exact ⟨rfl,(hx.trans hx').below⟩)
  (by simp) hn hlt (fun j hj i v hi=>by
   rw [List.length_range] at hj;rw [getElem!_pos _ j (by simpa using hj),List.getElem_range] at hi;refine hc j _ ?_ i v hi;have hj':j<tvs.length:=(by omega);rw [List.getElem?_zipWith,List.getElem?_eq_getElem hj,List.getElem?_eq_getElem hj',p.r_at hj];show some (cR (p.r j) tvs[j])=some (cR (p.r j) (tvs.getD j _));rw [getD_lt hj'])
 refine hq.mono ?_;rintro r w' ⟨rfl,hb⟩;refine ⟨ret_bool ?_,Below.ext hb⟩;have ht:List.take p.rows.length (List.range p.rows.length)=List.range p.rows.length:=by
  rw [List.take_of_length_le (by simp)]
 rw [ht,<- all_range (rowB p.vars.length) p.rows row0,Bool.not_not];rfl
theorem varB_eq (v:VarV):varB v=([v.lo,v.up,v.co].all limB && !(v.op && !decide (v.up=0))):=by
 unfold varB;simp [Bool.and_assoc]
theorem all_next {α:Type} {f:α->Bool} {l:List α} {d:α} {i:Nat} (hi:i<l.length) (h:(l.take i).all f=true) (hf:f (l.getD i d)=true):(l.take (i+1)).all f=true:=by
 rw [List.take_succ_eq_append_getElem hi,List.all_append,h,Bool.true_and,List.all_cons,List.all_nil,Bool.and_true,<- getD_lt hi d];exact hf
theorem all_fails {α:Type} {f:α->Bool} {l:List α} {d:α} {i:Nat} (hi:i<l.length) (hf:f (l.getD i d)=false):l.all f=false:=by
 rw [List.all_eq_false];exact ⟨_,List.getElem_mem hi,by rw [<- getD_lt hi d,hf]; simp⟩
theorem Valid_any (w:World) (pv:Value) (p:ProgV) (hp:IsPrg w pv p):Calls Tryz.prog 33 #[pv] w (BoolPost w (validB p)):=by
 obtain ⟨vv,rv,rfl,hv,hr⟩:=hp;obtain ⟨vo,vc,rfl,-,hn,-⟩:=hv.shape;obtain ⟨ro,rc,rfl,-,hrn,-⟩:=hr.shape;have HV:=bH (bI hv hr);have HR:=bH (show validB p=(decide (p.vars.length<=400) && decide (p.rows.length<=4000) && p.vars.all varB && p.rows.all (rowB p.vars.length)) from rfl);have hb:=blk_alloc_at w (.cells #[.slice vo p.vars.length vc,.slice ro p.rows.length rc] 25);have hx:=(Ext.refl (fun _=>False) w).alloc (.cells #[.slice vo p.vars.length vc,.slice ro p.rows.length rc] 25);have HB:=bH (bI hb hx);have HW:=bH (fun W (hW:XF w W) pb hpb=>rows_any W pb _ _ p hpb (hv.keep hW) (hr.keep hW));clear hv hr hb hx;obtain ⟨n,hn'⟩:∃ n,p.vars.length=n:=⟨_,rfl⟩;have HN:=bH hn';rw [hn'] at hn HV HR HB HW ⊢;clear hn';obtain ⟨m,hm'⟩:∃ m,p.rows.length=m:=⟨_,rfl⟩;rw [hm'] at hrn HV HR HB HW ⊢;clear hm';generalize p.rows.all (rowB n)=rb at *;go_enter Tryz.func33,Tryz.ntmps33;go_upto_region 1 with fail;generalize hw1:w.alloc (.cells #[.slice vo n vc,.slice ro m rc] 25)=w1 at *;clear hw1;obtain ⟨pb,hpb⟩:∃ pb,w.heap.size=pb:=⟨_,rfl⟩;rw [hpb] at HB ⊢;clear hpb;have z0:=cellq HB.o.1 0 rfl;have z1:=cellq HB.o.1 1 rfl;by_cases c1:400<n
 ·have c1':(400:Int)<(n:Int):=(by omega);go_wp2;go_ret;exact ⟨ret_bool (by rw [HR.o,decide_eq_false (p:=(n<=400)) (by omega)]; simp),HB.o.2⟩
 have c1':¬ (400:Int)<(n:Int):=by omega
 by_cases c2:4000<m
 ·have c2':(4000:Int)<(m:Int):=(by omega);go_wp2;go_ret;exact ⟨ret_bool (by rw [HR.o,decide_eq_false (p:=(m<=4000)) (by omega)]; simp),HB.o.2⟩
 have c2':¬ (4000:Int)<(m:Int):=by omega
 have HR2:Hid (validB p=(p.vars.all varB && rb)):=bH (by rw [HR.o,decide_eq_true (p:=(n<=400)) (by omega),decide_eq_true (p:=(m<=4000)) (by omega)]; simp);clear HR;go_wp2_with fail;go_loopg [18] n (fun gg v18 wr=>∃ i:Nat,i<=n/\gg=n - i/\v18=.int .i64 i/\(p.vars.take i).all varB=true/\XF w1 wr);case atStart=>exact ⟨0,Nat.zero_le _,rfl,rfl,rfl,Ext.refl _ _⟩
 case round =>
  clear z0 z1;obtain ⟨i,hi,rfl,rfl,hall,hx⟩:=hrel;have HX:=bH (bI hall hx);clear hall hx;by_cases hin:i<n
  ·have i0:(i:Int)<(n:Int):=(by omega);have HI:Hid (i<p.vars.length):=bH (by rw [HN.o]; exact hin);obtain ⟨b,off,rfl,-,e0,e1,e2,e3,e4,-⟩:=(HV.o.1.keep (HB.o.2.trans HX.o.2)).atp i HI.o;have hb1:=BoxV.new wr (p.v i);have hx1:=(Ext.refl (fun _=>False) wr).alloc (.cells #[.int .i64 (p.v i).lo,.int .i64 (p.v i).up,.bool (p.v i).op,.bool (p.v i).ig,.int .i64 (p.v i).co] 73);have HB1:=bH (bI hb1 hx1);have HVB:=bH (varB_eq (p.v i));clear hb1 hx1;go_upto_region 6 with fail;generalize hw2:wr.alloc (.cells #[.int .i64 (p.v i).lo,.int .i64 (p.v i).up,.bool (p.v i).op,.bool (p.v i).ig,.int .i64 (p.v i).co] 73)=w2 at *;clear hw2 e0 e1 e2 e3 e4;obtain ⟨vb,hvb⟩:∃ vb,wr.heap.size=vb:=⟨_,rfl⟩;rw [hvb] at HB1 ⊢;clear hvb;obtain ⟨f0,f1,f2,-,f4⟩:=HB1.o.1.facts;have HL:=bH (limited_any (w2.alloc (.cells #[.int .i64 (p.v i).lo,.int .i64 (p.v i).up,.int .i64 (p.v i).co] 2)) w2.heap.size 0 3 [(p.v i).lo,(p.v i).up,(p.v i).co] (by simp) (fun j u hj=>(by
    have:=cells_new (w:=w2) [Value.int .i64 (p.v i).lo,.int .i64 (p.v i).up,.int .i64 (p.v i).co] 2 rfl j (.int .i64 u) (by
     match j,hj with
     | 0,hj=>cases hj; rfl
     | 1,hj=>cases hj; rfl
     | 2,hj=>cases hj; rfl
     | j+3,hj=>simp at hj)
    simpa [Addr.add_lit] using this)))
   simp only [List.length_cons,List.length_nil,Nat.zero_add] at HL;obtain ⟨lb,hlb⟩:∃ lb,[(p.v i).lo,(p.v i).up,(p.v i).co].all limB=lb:=⟨_,rfl⟩;rw [hlb] at HL HVB;clear hlb;generalize (p.v i).lo=lo at *;generalize (p.v i).up=up at *;generalize (p.v i).op=o at *;generalize (p.v i).ig=ig at *;generalize (p.v i).co=co at *;go_wp2_with fail;refine HL.o.mono ?_;rintro r3 w3 ⟨rfl,hx3⟩;have hx23:=((Ext.refl (fun _=>False) w2).alloc (.cells #[.int .i64 lo,.int .i64 up,.int .i64 co] 2)).trans hx3;have HX3:=bH ((HX.o.2.trans HB1.o.2).trans hx23);have g1:=cell_keep f1 hx23;have g2:=cell_keep f2 hx23;clear f0 f1 f2 f4 hx3 hx23 HL HB1;cases lb with
   | false =>
    go_wp2;go_ret;exact ⟨ret_bool (by rw [HR2.o,all_fails (d:=var0) HI.o (HVB.o.trans rfl)]; rfl),HB.o.2.trans HX3.o⟩
   | true =>
    cases o with
    | false =>
     go_wp2;go_roundg (n - (i+1));case measure=>omega
     case rel=>exact ⟨i+1,by omega,rfl,by go_num,all_next (d:=var0) HI.o HX.o.1 (HVB.o.trans rfl),HX3.o⟩
    | true =>
     by_cases hu:up=0
     ·have hu':(up == 0)=true:=(by simpa using hu);have HVB':=bH (HVB.o.trans (show _=true by rw [decide_eq_true hu]; rfl));clear HVB;subst hu;go_wp2;go_roundg (n - (i+1));case measure=>omega
      case rel=>exact ⟨i+1,by omega,rfl,by go_num,all_next (d:=var0) HI.o HX.o.1 HVB'.o,HX3.o⟩
     ·have hu':(up == 0)=false:=(by simpa using hu);have hu2:(up != 0)=true:=(by simpa using hu);have HVB':=bH (HVB.o.trans (show _=false by rw [decide_eq_false hu]; rfl));clear HVB;go_wp2;go_ret;exact ⟨ret_bool (by rw [HR2.o,all_fails (d:=var0) HI.o HVB'.o]; rfl),HB.o.2.trans HX3.o⟩
  ·obtain rfl:i=n:=(by omega);have HF:Hid (p.vars.all varB=true):=bH (by
    have:=HX.o.1;rw [List.take_of_length_le (by rw [HN.o]; exact Nat.le_refl _)] at this;exact this)
   have z1:=cell_keep (cellq HB.o.1 1 rfl) HX.o.2;have HW2:=bH (HW.o wr (HB.o.2.trans HX.o.2) pb (blk_keep HB.o.1 HX.o.2));go_wp2_with fail;refine HW2.o.mono ?_;rintro r3 w3 ⟨rfl,hx3⟩;have HX3:=bH ((HB.o.2.trans HX.o.2).trans hx3);clear hx3 z1 HW2;go_wp2;go_ret;exact ⟨ret_bool (by rw [HR2.o,HF.o]; simp),HX3.o⟩
open Go.RowKit Go.MapKept Go.Lib
theorem inn_any (w:World) (n:Int):Calls Tryz.prog 38 #[.int .i64 n] w (BoolPost w (limB n)):=by
 go_enter Tryz.func38,Tryz.ntmps38;by_cases h1:-1099511627776<=n
 ·by_cases h2:n<=1099511627776
  ·go_wp2;go_ret;exact ⟨ret_bool (by simp [limB,h1,h2]),Ext.refl _ _⟩
  ·go_wp2;go_ret;exact ⟨ret_bool (by simp [limB,h1,h2]),Ext.refl _ _⟩
 ·go_wp2;go_ret;exact ⟨ret_bool (by unfold limB; rw [decide_eq_false (p:=(-1099511627776<=n)) (by omega)]; rfl),Ext.refl _ _⟩
def chB (c:Nat):Bool:=decide (32<=c) && decide (c<=126)
theorem nameB_true {s:ByteArray} (h:∀ i (hi:i<s.size),chB (s[i]'hi).toNat=true):nameB s=true:=by
 unfold nameB;rw [ByteArray.toList_eq,List.all_eq_true];intro x hx;obtain ⟨i,hi,rfl⟩:=List.getElem_of_mem hx;have hi':i<s.size:=by rw [Array.length_toList] at hi; exact hi
 have:=h i hi';rw [Array.getElem_toList];exact this
theorem nameB_false {s:ByteArray} {i:Nat} (hi:i<s.size) (h:chB (s[i]'hi).toNat=false):nameB s=false:=by
 unfold nameB;rw [ByteArray.toList_eq,List.all_eq_false];refine ⟨s[i]'hi,?_,?_⟩
 ·show s.data[i] ∈ s.data.toList;simp
 ·have:chB (s[i]'hi).toNat≠true:=(by rw [h]; decide);exact this
theorem ValidRow_any (w:World) (vars:Nat) (hv:vars<=9223372036854775807) (r:RowV) (ta:Option Addr) (tc:Nat) (hok:RowOk r) (ht:Tms w (.slice ta r.terms.length tc) r.terms) :
  Calls Tryz.prog 16 #[.int .i64 vars,.agg #[.string r.name,.int .i64 r.group,.int .i64 r.kind,.slice ta r.terms.length tc,.int .i64 r.bound]] w (BoolPost w (rowB vars r)):=by
 have hns:r.name.size<=9223372036854775807:=by have:=hok.name; unfold maxLen at this; omega
 have hg:=hok.group;have hk:=hok.kind;unfold InR at hg hk;obtain ⟨-,-,-,-,htn,-⟩:=ht.shape;have HT:=bH ht;have HR:=bH (show rowB vars r=(decide (0<=r.kind) && decide (r.kind<=2) && decide (0<=r.group) && decide (r.group<=60) && decide (r.name.size<=80) && limB r.bound && nameB r.name && termsB vars (-1) r.terms) from rfl);have hb1:=blk_alloc_at w (.cells #[.string r.name,.int .i64 r.group,.int .i64 r.kind,.slice ta r.terms.length tc,.int .i64 r.bound] 35);have hx1:=(Ext.refl (fun _=>False) w).alloc (.cells #[.string r.name,.int .i64 r.group,.int .i64 r.kind,.slice ta r.terms.length tc,.int .i64 r.bound] 35);have HB:=bH (bI hb1 hx1);clear ht hok hb1 hx1;obtain ⟨tl,htl⟩:∃ tl,r.terms.length=tl:=⟨_,rfl⟩;have HTL:=bH htl;rw [htl] at htn HT HB ⊢;clear htl;obtain ⟨gr,hgr⟩:∃ gr,r.group=gr:=⟨_,rfl⟩;rw [hgr] at hg HR HB ⊢;clear hgr;obtain ⟨kd,hkd⟩:∃ kd,r.kind=kd:=⟨_,rfl⟩;rw [hkd] at hk HR HB ⊢;clear hkd;obtain ⟨bd,hbd⟩:∃ bd,r.bound=bd:=⟨_,rfl⟩;rw [hbd] at HR HB ⊢;clear hbd;obtain ⟨nm,hnm⟩:∃ nm,r.name=nm:=⟨_,rfl⟩;rw [hnm] at hns HR HB ⊢;clear hnm;go_enter Tryz.func16,Tryz.ntmps16;go_upto_region 1 with fail;generalize hw1:w.alloc (.cells #[.string nm,.int .i64 gr,.int .i64 kd,.slice ta tl tc,.int .i64 bd] 35)=w1 at *;clear hw1;obtain ⟨rb,hrb⟩:∃ rb,w.heap.size=rb:=⟨_,rfl⟩;rw [hrb] at HB ⊢;clear hrb;have e0:=cellq HB.o.1 0 rfl;have e1:=cellq HB.o.1 1 rfl;have e2:=cellq HB.o.1 2 rfl;have e4:=cellq HB.o.1 4 rfl;by_cases c4:kd<0
 ·go_wp2;go_ret;exact ⟨ret_bool (by rw [HR.o,decide_eq_false (p:=(0<=kd)) (by omega)]; simp),HB.o.2⟩
 by_cases c5:2<kd
 ·go_wp2;go_ret;exact ⟨ret_bool (by rw [HR.o,decide_eq_false (p:=(kd<=2)) (by omega)]; simp),HB.o.2⟩
 by_cases c2:gr<0
 ·go_wp2;go_ret;exact ⟨ret_bool (by rw [HR.o,decide_eq_false (p:=(0<=gr)) (by omega)]; simp),HB.o.2⟩
 by_cases c3:60<gr
 ·go_wp2;go_ret;exact ⟨ret_bool (by rw [HR.o,decide_eq_false (p:=(gr<=60)) (by omega)]; simp),HB.o.2⟩
 by_cases c1:80<nm.size
 ·have c1':(80:Int)<(nm.size:Int):=(by omega);go_wp2;go_ret;exact ⟨ret_bool (by rw [HR.o,decide_eq_false (p:=(nm.size<=80)) (by omega)]; simp),HB.o.2⟩
 have c1':¬ (80:Int)<(nm.size:Int):=by omega
 have HR2:Hid (rowB vars r=(limB bd && nameB nm && termsB vars (-1) r.terms)):=bH (by
  rw [HR.o,decide_eq_true (p:=(0<=kd)) (by omega),decide_eq_true (p:=(kd<=2)) (by omega),decide_eq_true (p:=(0<=gr)) (by omega),decide_eq_true (p:=(gr<=60)) (by omega),decide_eq_true (p:=(nm.size<=80)) (by omega)];simp)
 clear HR;go_wp2_with fail;refine (inn_any w1 bd).mono ?_;rintro r2 w2 ⟨rfl,hx2⟩;have HB2:=bH (bI (blk_keep HB.o.1 hx2) (HB.o.2.trans hx2));clear hx2 HB e0 e1 e2 e4;cases hlb:limB bd with
 | false =>
  rw [hlb] at HR2;clear hlb;go_wp2;go_ret;exact ⟨ret_bool (by rw [HR2.o]; rfl),HB2.o.2⟩
 | true =>
  rw [hlb] at HR2;clear hlb c1 c1' c2 c3 c4 c5 hg hk;have e0:=cellq HB2.o.1 0 rfl;obtain ⟨ns,hnsz⟩:∃ ns,nm.size=ns:=⟨_,rfl⟩;have HNS:=bH hnsz;go_wp2_with fail;go_loopg [5] ns (fun gg v5 wr=>∃ (k:Nat),k<=ns/\gg=ns - k/\v5=.int .i64 k/\(∀ j (hj:j<nm.size),j<k->chB (nm[j]'hj).toNat=true)/\wr=w2);case atStart=>exact ⟨0,Nat.zero_le _,rfl,rfl,(fun j _ h=>absurd h (Nat.not_lt_zero _)),rfl⟩
  case round =>
   obtain ⟨k,hk,rfl,rfl,hall,hwr⟩:=hrel;obtain rfl:=hwr.symm;have HA:=bH hall;clear hall;by_cases hin:k<ns
   ·have i0:(k:Int)<(nm.size:Int):=(by omega);have i1:(0:Int)<=(k:Int):=(by omega);have hin':k<nm.size:=(by omega);have HC:=bH (fun (h:chB (nm[k]'hin').toNat=false)=>nameB_false hin' h);have HC2:Hid (chB (nm[k]'hin').toNat=true->∀ j (hj:j<nm.size),j<k+1->chB (nm[j]'hj).toNat=true):=bH (fun h j hj hjk=>by
     by_cases e:j=k
     ·subst e; exact h
     ·exact HA.o j hj (by omega))
    have hch:(nm[k]'hin').toNat<256:=(by have:=(nm[k]'hin').toNat_lt; omega);by_cases t1:(nm[k]'hin').toNat<32
    ·have t1':((nm[k]'hin').toNat:Int)<32:=(by omega);have HF:=bH (HC.o (by unfold chB; rw [decide_eq_false (by omega)]; rfl));go_wp2;go_ret;exact ⟨ret_bool (by rw [HR2.o,HF.o]; rfl),HB2.o.2⟩
    have t1':¬ ((nm[k]'hin').toNat:Int)<32:=(by omega);by_cases t2:126<(nm[k]'hin').toNat
    ·have t2':(126:Int)<((nm[k]'hin').toNat:Int):=(by omega);have HF:=bH (HC.o (by unfold chB; rw [decide_eq_false (p:=((nm[k]'hin').toNat<=126)) (by omega)]; simp));go_wp2;go_ret;exact ⟨ret_bool (by rw [HR2.o,HF.o]; rfl),HB2.o.2⟩
    have t2':¬ (126:Int)<((nm[k]'hin').toNat:Int):=(by omega);have HN:=bH (HC2.o (by unfold chB; rw [decide_eq_true (p:=(32<=(nm[k]'hin').toNat)) (by omega),decide_eq_true (p:=((nm[k]'hin').toNat<=126)) (by omega)]; rfl));clear HC HC2;go_wp2;go_roundg (ns - (k+1));case measure=>omega
    case rel=>exact ⟨k+1,by omega,rfl,by go_num,HN.o,rfl⟩
   ·obtain rfl:k=ns:=(by omega);have HR3:Hid (rowB vars r=termsB vars (-1) r.terms):=bH (by
     rw [HR2.o,nameB_true (fun i hi=>HA.o i hi (by have:=HNS.o; omega))]; rfl)
    clear HR2 HA;have e3:=cellq HB2.o.1 3 rfl;go_wp2_with fail;go_loopg [7,6] tl (fun gg v7 v6 wr=>∃ (k:Nat) (la:Int),k<=tl/\gg=tl - k/\v7=.int .i64 k/\v6=.int .i64 la∧-9223372036854775808<=la/\la<=9223372036854775807/\termsB vars (-1) r.terms=termsB vars la (r.terms.drop k)/\XF w2 wr);case atStart=>exact ⟨0,-1,Nat.zero_le _,rfl,rfl,rfl,by omega,by omega,rfl,Ext.refl _ _⟩
    case round =>
     clear e3 e0;obtain ⟨k,la,hk,rfl,rfl,rfl,hla0,hla1,heq,hx⟩:=hrel;have HX:=bH (bI heq hx);have e3:=cell_keep (cellq HB2.o.1 3 rfl) hx;clear heq hx;by_cases hin:k<tl
     ·have i0:(k:Int)<(tl:Int):=(by omega);have i1:(0:Int)<=(k:Int):=(by omega);have hkl:k<r.terms.length:=(by rw [HTL.o]; exact hin);have hdr:r.terms.drop k=r.t k :: r.terms.drop (k+1):=by
       rw [List.drop_eq_getElem_cons hkl,r.t_at hkl]
      have HD:=bH (HX.o.1.trans (by rw [hdr,termsB_cons]));obtain ⟨b,off,rfl,-,e0,e1,htok⟩:=(HT.o.keep (HB2.o.2.trans HX.o.2)).atr k hkl;have hva:=htok.var;have hco:=htok.coef;unfold InR at hva hco;clear hdr hkl htok;obtain ⟨tv,htv⟩:∃ tv,(r.t k).var=tv:=⟨_,rfl⟩;obtain ⟨co,hco'⟩:∃ co,(r.t k).coef=co:=⟨_,rfl⟩;rw [htv] at e0 HD hva;rw [hco'] at e1 HD hco;clear htv hco';have hb3:=blk_alloc_at wr (.cells #[.int .i64 tv,.int .i64 co] 70);have hx3:=(Ext.refl (fun _=>False) wr).alloc (.cells #[.int .i64 tv,.int .i64 co] 70);have HB3:=bH (bI hb3 hx3);clear hb3 hx3;go_upto_region 13 with fail;generalize hw3:wr.alloc (.cells #[.int .i64 tv,.int .i64 co] 70)=w3 at *;clear hw3;obtain ⟨tb,htb⟩:∃ tb,wr.heap.size=tb:=⟨_,rfl⟩;rw [htb] at HB3 ⊢;clear htb e0 e1 e3;obtain ⟨x0,x1⟩:w3.cell? ⟨tb,0,none⟩=some (.int .i64 tv)/\w3.cell? ⟨tb,1,none⟩=some (.int .i64 co):=⟨cellq HB3.o.1 0 rfl,cellq HB3.o.1 1 rfl⟩;have HE:=bH ((HB2.o.2.trans HX.o.2).trans HB3.o.2);by_cases t1:tv<=la
      ·go_wp2;go_ret;exact ⟨ret_bool (by rw [HR3.o,HD.o,decide_eq_false (p:=(la<tv)) (by omega)]; simp),HE.o⟩
      by_cases t2:(vars:Int)<=tv
      ·go_wp2;go_ret;exact ⟨ret_bool (by rw [HR3.o,HD.o,decide_eq_false (p:=(tv<(vars:Int))) (by omega)]; simp),HE.o⟩
      by_cases t3:co=0
      ·have t3':(co == 0)=true:=(by simpa using t3);subst t3;go_wp2;go_ret;exact ⟨ret_bool (by rw [HR3.o,HD.o]; simp),HE.o⟩
      have t3':(co == 0)=false:=(by simpa using t3);have HD2:Hid (termsB vars (-1) r.terms=(limB co && termsB vars tv (r.terms.drop (k+1)))):=bH (by
       rw [HD.o,decide_eq_true (p:=(la<tv)) (by omega),decide_eq_true (p:=(tv<(vars:Int))) (by omega),decide_eq_false t3]; simp)
      clear HD;go_wp2_with fail;refine (inn_any w3 co).mono ?_;rintro r4 w4 ⟨rfl,hx4⟩;have HX4:=bH ((HX.o.2.trans HB3.o.2).trans hx4);have y0:=cell_keep x0 hx4;clear hx4 x0 x1 HE;cases hlc:limB co with
      | false =>
       rw [hlc] at HD2;clear hlc;go_wp2;go_ret;exact ⟨ret_bool (by rw [HR3.o,HD2.o]; simp),HB2.o.2.trans HX4.o⟩
      | true =>
       rw [hlc] at HD2;clear hlc;go_wp2;go_roundg (tl - (k+1));case measure=>omega
       case rel=>exact ⟨k+1,tv,by omega,rfl,by go_num,rfl,by omega,by omega,by rw [HD2.o]; rfl,HX4.o⟩
     ·obtain rfl:k=tl:=(by omega);have HF:Hid (rowB vars r=true):=bH (by
       rw [HR3.o,HX.o.1,List.drop_of_length_le (by rw [HTL.o]; exact Nat.le_refl _)]; rfl)
      go_wp2;go_ret;exact ⟨ret_bool HF.o.symm,HB2.o.2.trans HX.o.2⟩
section
variable {P:Program} {md:Region.Mode} {l:List Oper} {Q:Exit->Act->World->Prop} {S:World->Prop} {k:Nat}
theorem ht (i:Nat) {oi:Oper} {v:Value} {fuel:Nat} {listed:Array Bool} {a:Act} {w:World} (hi:l[i]?=some oi:=by rfl) (hs:Region.noSelect l.toArray=true:=by kernel_rfl) (hf:Region.free md l.toArray listed i=true:=by kernel_rfl)
  (hr:(Region.ready md l.toArray listed).contains i=true:=by kernel_rfl) (hQ:∀ c a w,Q (.panic c) (a.put oi.dst v) w->Q (.panic c) a w:=by exact fun _ _ _ h=>h) (hw:Region.wanted oi (yielded l.toArray a.tmps)=true:=by rfl)
  (he:∀ w,S w->(execOp a.eval oi).run P w=.ok (.value v) w:=by (intro w hSw; (try go_frame); (try dsimp only at hSw); go_simp) <;> with_reducible rfl) (hS:S w:=by assumption) (h:wpAnyH P md l.toArray Q S fuel (listed.setIfInBounds i true) (a.put oi.dst v) w):wpAnyH P md l.toArray Q S (fuel+1) listed a w :=
 held_take i hi hs hf hr hQ hw he hS h
theorem hk (i:Nat) {oi:Oper} {fuel:Nat} {listed:Array Bool} {a:Act} {w:World} (hi:l[i]?=some oi:=by rfl) (hs:Region.noSelect l.toArray=true:=by kernel_rfl) (hf:Region.free md l.toArray listed i=true:=by kernel_rfl)
  (hr:(Region.ready md l.toArray listed).contains i=true:=by kernel_rfl) (hQ:∀ c a w,Q (.panic c) (a.put oi.dst undef) w->Q (.panic c) a w:=by exact fun _ _ _ h=>h) (hw:Region.wanted oi (yielded l.toArray a.tmps)=false:=by rfl)
  (hS:S w:=by assumption) (h:wpAnyH P md l.toArray Q S fuel (listed.setIfInBounds i true) (a.put oi.dst undef) w):wpAnyH P md l.toArray Q S (fuel+1) listed a w :=
 held_skip i hi hs hf hr hQ hw hS h
theorem hst (i:Nat) {oi:Oper} {fuel:Nat} {listed:Array Bool} {a:Act} {w:World} (hi:l[i]?=some oi:=by rfl) (hr:Region.ready md l.toArray listed=[i]:=by kernel_rfl)
  (h:∀ K':Act->World->Prop,Shut (∀ a w,S w->(S w->wpAnyH P md l.toArray Q S fuel (listed.setIfInBounds i true) a w)->K' a w)->if Region.wanted oi (yielded l.toArray a.tmps)=true then Oper.wp P oi a w K' Q else K' (a.put oi.dst undef) w) :
  wpAnyH P md l.toArray Q S (fuel+1) listed a w:=held_step i hi hr h
theorem et (i:Nat) {oi:Oper} {v:Value} {fuel:Nat} {listed:Array Bool} {a:Act} {w:World} (hi:l[i]?=some oi:=by rfl) (hs:Region.noSelect l.toArray=true:=by kernel_rfl) (hf:Region.free md l.toArray listed i=true:=by kernel_rfl)
  (hr:(Region.ready md l.toArray listed).contains i=true:=by kernel_rfl) (hk:waits md l k i=true:=by kernel_rfl) (hQ:∀ c a w,Q (.panic c) (a.put oi.dst v) w->Q (.panic c) a w:=by exact fun _ _ _ h=>h) (hw:Region.wanted oi (yielded l.toArray a.tmps)=true:=by rfl)
  (he:∀ w,S w->(execOp a.eval oi).run P w=.ok (.value v) w:=by (intro w hSw; (try go_frame); (try dsimp only at hSw); go_simp) <;> with_reducible rfl) (hS:S w:=by assumption) (h:Ends P md l.toArray Q S k fuel (listed.setIfInBounds i true) (a.put oi.dst v) w):Ends P md l.toArray Q S k (fuel+1) listed a w :=
 ends_take i hi hs hf hr hk hQ hw he hS h
theorem est (i:Nat) {oi:Oper} {fuel:Nat} {listed:Array Bool} {a:Act} {w:World} (hi:l[i]?=some oi:=by rfl) (hr:Region.ready md l.toArray listed=[i]:=by kernel_rfl)
  (h:∀ K':Act->World->Prop,Shut (∀ a w,S w->(S w->Ends P md l.toArray Q S k fuel (listed.setIfInBounds i true) a w)->K' a w)->if Region.wanted oi (yielded l.toArray a.tmps)=true then Oper.wp P oi a w K' Q else K' (a.put oi.dst undef) w) :
  Ends P md l.toArray Q S k (fuel+1) listed a w:=ends_step i hi hr h
end
section
variable {w0 W:World}
theorem cq {b i:Nat} {v:Value} (h:w0.cell? ⟨b,i,none⟩=some v):∀ W,XF w0 W->W.cell? ⟨b,i,none⟩=some v:=fun _ hx=>cell_keep h hx
theorem cqo {S:Nat->Prop} {b i:Nat} {v:Value} (h:w0.cell? ⟨b,i,none⟩=some v) (hn:¬ S b):∀ W,Ext S w0 W->W.cell? ⟨b,i,none⟩=some v:=fun _ hx=>(hx.cell (p:=⟨b,i,none⟩) (World.block_lt_of_cell? _ _ h) hn).trans h
theorem Ext.none {S:Nat->Prop} (h:XF w0 W):Ext S w0 W:=h.mono (fun _ _ h=>h.elim)
end
def sizeA (m T L:Nat):Nat:=1+m*(T*(L+3)+2)
theorem combA_sz {p:ProgV} {y:List Rat} {w:World} {v:Value} {L T:Nat} (hr:Rws w v p.rows) (hy:∀ i:Int,Sz (atQ y i) L) (hT:∀ i,i<p.rows.length->(p.r i).terms.length<=T) (j:Nat):Sz (combA p y j) (sizeA p.rows.length T L):=by
 rw [combA_eq];refine (sumTo_sz (M:=1+T*(L+3)) (fun i hi=>?_)).mono (by
  unfold sizeA;rw [show 1+T*(L+3)+1=T*(L+3)+2 from by omega];exact Nat.le_refl _)
 refine (sumTo_sz (M:=L+2) (fun k hk=>termA_sz (hy i) (hr.term_ok hi k hk) j)).mono ?_;have:=Nat.mul_le_mul_right (L+3) (hT i hi);show 1+(p.r i).terms.length*(L+3)<=_;omega
section
variable {α:Type}
def iget:List (Int × α)->Int->Option α
 | [],_=>none
 | (k,v) :: r,s=>if k=s then some v else iget r s
def iput:List (Int × α)->Int->α->List (Int × α)
 | [],s,v=>[(s,v)]
 | (k,x) :: r,s,v=>if k=s then (k,v) :: r else (k,x) :: iput r s v
theorem iget_none {l:List (Int × α)} {s:Int} (h:iget l s=none):∀ p ∈ l,p.1≠s:=by
 induction l with
 | nil=>intro p hp; cases hp
 | cons q r ih =>
  obtain ⟨a,b⟩:=q;simp only [iget] at h;split at h
  ·cases h
  ·rename_i hn;intro p hp;rcases List.mem_cons.1 hp with rfl | hp
   ·exact hn
   ·exact ih h p hp
end
def IntMap (es:Array MapEntry) (l:List (Int × Value)):Prop :=
 es.toList.map (fun e=>(e.key,e.val))=l.map fun p=>(Value.int .i64 p.1,p.2)
theorem findNow_int (s:Int):∀ (es:List MapEntry) (l:List (Int × Value)) (i:Nat),es.map (fun e=>(e.key,e.val))=(l.map fun p=>(Value.int .i64 p.1,p.2)) ->
  (iget l s=none/\Instr.findNow (.int .i64) (.int .i64 s) es i=some none/\∀ v,iput l s v=l++[(s,v)]) ∨
  ∃ j e v,iget l s=some v/\Instr.findNow (.int .i64) (.int .i64 s) es i=some (some (i+j,v))/\es[j]?=some e/\e.key=.int .i64 s /\
   ∀ u,(es.modify j fun e=>{ e with key:=.int .i64 s,val:=u }).map (fun e=>(e.key,e.val))=(iput l s u).map fun p=>(Value.int .i64 p.1,p.2)
 | [],[],i,_=>.inl ⟨rfl,rfl,fun _=>rfl⟩
 | [],_ :: _,_,h=>by simp at h
 | _ :: _,[],_,h=>by simp at h
 | e :: es,(k,v) :: l,i,h=>by
  simp only [List.map_cons,List.cons.injEq,Prod.mk.injEq] at h
  obtain ⟨⟨hk,hv⟩,hr⟩:=h
  by_cases hs:k=s
  ·subst hs
   refine .inr ⟨0,e,v,by simp [iget],by simp [Instr.findNow,Instr.sameNow,hk,hv],rfl,hk,fun u=>?_⟩
   simp [iput,hr]
  ·have hne:(s == k)=false:=by
    cases hq:s == k
    ·rfl
    ·exact absurd (eq_of_beq hq).symm hs
   rcases findNow_int s es l (i+1) hr with ⟨h1,h2,h3⟩ | ⟨j,e',v',h1,h2,h3,h4,h5⟩
   ·exact .inl ⟨by simp [iget,hs,h1],by simp [Instr.findNow,Instr.sameNow,hk,hne,h2],fun v=>by simp [iput,hs,h3]⟩
   ·refine .inr ⟨j+1,e',v',by simp [iget,hs,h1],by simp [Instr.findNow,Instr.sameNow,hk,hne,h2]; omega,by simpa using h3,h4,fun u=>?_⟩
    have:=h5 u
    simp [iput,hs,hk,hv,this]
section
variable {P:Program} {t k e:TypeId} {w:World} {b:Nat} {es:Array MapEntry} {clock:Nat} {l:List (Int × Value)}
theorem run_lookup_int (ht:P.underlying t=some (.map k e)) (hk:P.underlying k=some (.int .i64)) (hb:blk w b=some (.map es clock)) (hl:IntMap es l)
  {z:Value} (hz:(zeroValue e).run P w=.ok z w) (s:Int) (ok:Bool) :
  (Instr.lookup t (.map (some b)) (.int .i64 s) ok).run P w=.ok (if ok then .tuple #[(iget l s).getD z,.bool (iget l s).isSome] else (iget l s).getD z) w:=by
 rcases findNow_int s es.toList l 0 hl with ⟨h1,h2,_⟩ | ⟨j,e',v,h1,h2,_⟩
 ·simp [Instr.lookup,run_underlying ht,MapKept.run_getObj_map hb,MapKept.run_checkKey hk (show IsKey (.int .i64) (.int .i64 s) from rfl),MapKept.run_findKey hk h2,Result.andThen,hz,h1]
 ·simp [Instr.lookup,run_underlying ht,MapKept.run_getObj_map hb,MapKept.run_checkKey hk (show IsKey (.int .i64) (.int .i64 s) from rfl),MapKept.run_findKey hk h2,Result.andThen,h1]
theorem run_update_int (ht:P.underlying t=some (.map k e)) (hk:P.underlying k=some (.int .i64)) (hl:IntMap es l) (hst:Stamped es clock) (s:Int) (u:Value) :
  ∃ es' clock',(∀ w:World,blk w b=some (.map es clock)->(Instr.mapUpdate t (.map (some b)) (.int .i64 s) u).run P w=.ok () (setBlock w b (.map es' clock')))/\IntMap es' (iput l s u)/\Stamped es' clock':=by
 rcases findNow_int s es.toList l 0 hl with ⟨h1,h2,h3⟩ | ⟨j,e',v,h1,h2,h4,h5,h6⟩
 ·refine ⟨es.push { key:=.int .i64 s,val:=u,born:=clock },clock+1,fun w hb=>?_,?_,?_⟩
  ·simp [Instr.mapUpdate,run_underlying ht,MapKept.run_getObj_map hb,MapKept.run_checkKey hk (show IsKey (.int .i64) (.int .i64 s) from rfl),MapKept.run_findKey hk h2,Result.andThen,MapKept.run_setObj_map _ hb,ChangeMaps.setBlock]
  ·unfold IntMap at *;simp [hl,h3]
  ·refine stamped_push hst (fun x hx e=>?_);have:(x.key,x.val) ∈ es.toList.map (fun e=>(e.key,e.val)):=List.mem_map.2 ⟨x,hx,rfl⟩;rw [hl] at this;obtain ⟨p,hp,hpe⟩:=List.mem_map.1 this;refine iget_none h1 p hp ?_;have hk2:Value.int .i64 p.1=x.key:=congrArg Prod.fst hpe;rw [e] at hk2;exact (Value.int.inj hk2).2
 ·refine ⟨es.modify j fun e=>{ e with key:=.int .i64 s,val:=u },clock,fun w hb=>?_,?_,?_⟩
  ·have h4':es[j]?=some e':=(by simpa using h4);simp only [Nat.zero_add] at h2;simp [Instr.mapUpdate,run_underlying ht,MapKept.run_getObj_map hb,MapKept.run_checkKey hk (show IsKey (.int .i64) (.int .i64 s) from rfl),MapKept.run_findKey hk h2,Result.andThen,MapKept.run_setObj_map _ hb,ChangeMaps.setBlock,h4',h5,run_keyThatStays (show IsKey (.int .i64) (.int .i64 s) from rfl)]
  ·unfold IntMap;have:=h6 u;rw [Array.toList_modify];exact this
  ·refine stamped_modify hst j _ (fun _ _=>rfl) (fun x _ hx=>?_);have h4':es[j]?=some e':=(by simpa using h4);rw [h4'] at hx;cases hx;exact h5.symm
end
structure RatV where
 neg:Bool
 mag:List Nat
 den:List Nat
def ratV0:RatV:=⟨false,[],[]⟩
def RatV.q (r:RatV):Rat:=mkRat (sg r.neg (vl r.mag)) (dn (vl r.den))
def IsRaw (w:World) (v:Value) (r:RatV):Prop:=∃ mv dv',v=.agg #[.bool r.neg,mv,dv']/\Rds w mv r.mag/\Rds w dv' r.den
theorem IsRaw.keep {w w':World} {v:Value} {r:RatV} (h:IsRaw w v r) (hx:XF w w'):IsRaw w' v r:=by
 obtain ⟨mv,dv',e,h1,h2⟩:=h;exact ⟨mv,dv',e,h1.keep hx,h2.keep hx⟩
theorem IsRaw.reads {w:World} {v:Value} {r:RatV} (h:IsRaw w v r) {L:Nat} (h1:r.mag.length<=L) (h2:r.den.length<=L):Rrat w v r.q L:=by
 obtain ⟨mv,dv',e,h3,h4⟩:=h;exact ⟨r.neg,mv,dv',r.mag,r.den,e,h3,h1,h4,h2,rfl⟩
def Raws (w:World) (v:Value) (rs:List RatV):Prop:=∃ cs:List (List Value),cs.length=rs.length/\Sl w v 3 cs/\∀ (i:Nat) c r,cs[i]?=some c->rs[i]?=some r->IsRaw w (.agg c.toArray) r
theorem Raws.keep {w w':World} {v:Value} {rs:List RatV} (h:Raws w v rs) (hx:XF w w'):Raws w' v rs:=by
 obtain ⟨cs,h1,h2,h3⟩:=h;exact ⟨cs,h1,h2.keep hx,fun i c q hc hq=>(h3 i c q hc hq).keep hx⟩
theorem Raws.shape {w:World} {v:Value} {rs:List RatV} (h:Raws w v rs):∃ ao c,v=.slice ao rs.length c/\(ao=none->c=0)/\rs.length<=9223372036854775807/\rs.length<=c:=by
 obtain ⟨cs,h0,h1,_⟩:=h;obtain ⟨ao,c,h1,h2⟩:=h1.shape;rw [h0] at h1 h2;exact ⟨ao,c,h1,h2⟩
def fewR (d:Nat) (r:RatV):Bool:=decide (r.mag.length<=d) && decide (r.den.length<=d)
def fewL (d:Nat) (rs:List RatV):Bool:=rs.all (fewR d)
def valL (rs:List RatV):List Rat:=rs.map RatV.q
theorem Raws.rats {w:World} {v:Value} {rs:List RatV} (h:Raws w v rs) {L:Nat} (hf:fewL L rs=true):Rats w v (valL rs) L:=by
 obtain ⟨cs,h1,h2,h3⟩:=h;refine ⟨cs,by unfold valL; rw [List.length_map,h1],h2,fun i c q hc hq=>?_⟩;unfold valL at hq;rw [List.getElem?_map] at hq;obtain ⟨r,hr,rfl⟩:=Option.map_eq_some_iff.1 hq;unfold fewL at hf;have:=List.all_eq_true.1 hf r (List.mem_of_getElem? hr);unfold fewR at this;simp only [Bool.and_eq_true,decide_eq_true_eq] at this;exact (h3 i c r hc hr).reads this.1 this.2
theorem Raws.at {w:World} {ao:Option Addr} {n c:Nat} {rs:List RatV} (h:Raws w (.slice ao n c) rs) (i:Nat) (hi:i<rs.length):∃ b off a1 m1 c1 a2 m2 c2,ao=some ⟨b,off,none⟩/\b<w.heap.size /\
  w.cell? ⟨b,off+i*3,none⟩=some (.bool (rs.getD i ratV0).neg)/\w.cell? ⟨b,off+i*3+1,none⟩=some (.slice a1 m1 c1)/\w.cell? ⟨b,off+i*3+2,none⟩=some (.slice a2 m2 c2)/\m1=(rs.getD i ratV0).mag.length/\m2=(rs.getD i ratV0).den.length/\IsRaw w (.agg #[.bool (rs.getD i ratV0).neg,.slice a1 m1 c1,.slice a2 m2 c2]) (rs.getD i ratV0):=by
 rw [getD_lt hi];obtain ⟨cs,h0,h1,h2⟩:=h;have hi':i<cs.length:=by omega
 obtain ⟨b,off,g1,g2,g3⟩:=h1.at (i:=i) (List.getElem?_eq_getElem hi');have k1:=h2 i _ _ (List.getElem?_eq_getElem hi') (List.getElem?_eq_getElem hi);obtain ⟨mv,dv',e,k2,k3⟩:=id k1;obtain ⟨a1,c1,rfl⟩:∃ a c,mv=.slice a rs[i].mag.length c:=by obtain ⟨_,a,c,e,_⟩:=k2; exact ⟨a,c,e⟩
 obtain ⟨a2,c2,rfl⟩:∃ a c,dv'=.slice a rs[i].den.length c:=by obtain ⟨_,a,c,e,_⟩:=k3; exact ⟨a,c,e⟩
 rw [e] at k1;have ec:cs[i]=[.bool rs[i].neg,.slice a1 rs[i].mag.length c1,.slice a2 rs[i].den.length c2]:=by
  injection e with e;have:=congrArg Array.toList e;simpa using this
 rw [ec] at g3;exact ⟨b,off,a1,_,c1,a2,_,c2,g1,g2,g3 0 _ rfl,g3 1 _ rfl,g3 2 _ rfl,rfl,rfl,k1⟩
theorem Rds.len63 {w:World} {v:Value} {l:List Nat} (h:Rds w v l):l.length<=9223372036854775807:=by
 obtain ⟨_,_,c,_,h1,h2,_⟩:=h;unfold maxLen at h2;omega
theorem Few_any (w:World) (v:Value) (rs:List RatV) (d:Nat) (hd:d<=1000000) (h:Raws w v rs):Calls Tryz.prog 39 #[.int .i64 d,v] w (BoolPost w (fewL d rs)):=by
 obtain ⟨ao,c,rfl,-,hn,-⟩:=h.shape;have HR:=bH h;obtain ⟨n,hn'⟩:∃ n,rs.length=n:=⟨_,rfl⟩;have HN:=bH hn';rw [hn'] at hn HR ⊢;clear hn' h;go_enter Tryz.func39,Tryz.ntmps39;go_wp2_with fail;go_loopg [5] n (fun gg v5 wr=>∃ i:Nat,i<=n/\gg=n - i/\v5=.int .i64 i/\(rs.take i).all (fewR d)=true/\XF w wr);case atStart=>exact ⟨0,Nat.zero_le _,rfl,rfl,rfl,Ext.refl _ _⟩
 case round =>
  obtain ⟨i,hi,rfl,rfl,hall,hx⟩:=hrel;have HX:=bH (bI hall hx);clear hall hx;by_cases hin:i<n
  ·have i0:(i:Int)<(n:Int):=(by omega);have i1:(0:Int)<=(i:Int):=(by omega);have HI:Hid (i<rs.length):=bH (by rw [HN.o]; exact hin);obtain ⟨b,off,a1,m1,c1,a2,m2,c2,rfl,-,e0,e1,e2,hm1,hm2,hraw⟩:=(HR.o.keep HX.o.2).at i HI.o;have hl1:m1<=9223372036854775807:=by
    obtain ⟨mv,dv',e,k2,k3⟩:=hraw;rw [hm1]; exact k2.len63
   have hl2:m2<=9223372036854775807:=by
    obtain ⟨mv,dv',e,k2,k3⟩:=hraw;rw [hm2]; exact k3.len63
   have HF:=bH (show fewR d (rs.getD i ratV0)=(decide (m1<=d) && decide (m2<=d)) from by unfold fewR; rw [hm1,hm2]);clear hraw hm1 hm2;generalize (rs.getD i ratV0).neg=ng at *;by_cases q1:d<m1
   ·have q1':(d:Int)<(m1:Int):=(by omega);go_wp2;go_ret;exact ⟨ret_bool (all_fails (d:=ratV0) HI.o (by rw [HF.o,decide_eq_false (p:=m1<=d) (by omega)]; rfl)).symm,HX.o.2⟩
   ·have q1':¬ (d:Int)<(m1:Int):=(by omega);by_cases q2:d<m2
    ·have q2':(d:Int)<(m2:Int):=(by omega);go_wp2;go_ret;exact ⟨ret_bool (all_fails (d:=ratV0) HI.o (by rw [HF.o,decide_eq_false (p:=m2<=d) (by omega)]; simp)).symm,HX.o.2⟩
    ·have q2':¬ (d:Int)<(m2:Int):=(by omega);go_wp2;go_roundg (n - (i+1));case measure=>omega
     case rel=>exact ⟨i+1,by omega,rfl,by go_num,all_next (d:=ratV0) HI.o HX.o.1 (by rw [HF.o,decide_eq_true (p:=m1<=d) (by omega),decide_eq_true (p:=m2<=d) (by omega)]; rfl),HX.o.2⟩
  ·obtain rfl:i=n:=(by omega);have HT:Hid (fewL d rs=true):=bH (by
    have:=HX.o.1;rw [List.take_of_length_le (by rw [HN.o]; exact Nat.le_refl _)] at this;exact this)
   go_wp2;go_ret;exact ⟨ret_bool HT.o.symm,HX.o.2⟩
def shortB (rs:List RatV) (k:Nat):Bool:=decide (rs.length<=k) && fewL 4 rs
theorem Short_any (w:World) (v:Value) (rs:List RatV) (k:Nat) (hk:k<=1000000) (h:Raws w v rs):Calls Tryz.prog 17 #[v,.int .i64 k] w (BoolPost w (shortB rs k)):=by
 obtain ⟨ao,c,rfl,-,hn,-⟩:=h.shape;have HF:=bH (Few_any w _ rs 4 (by omega) h);have HS:=bH (show shortB rs k=(decide (rs.length<=k) && fewL 4 rs) from rfl);clear h;generalize rs.length=n at *;generalize fewL 4 rs=fb at *;by_cases q:n<=k
 ·have q':(n:Int)<=(k:Int):=(by omega);go_enter Tryz.func17,Tryz.ntmps17;go_wp2_with fail;refine HF.o.mono ?_;rintro r w' ⟨rfl,hx⟩;have HX:=bH hx;clear hx;go_wp2;go_ret;exact ⟨ret_bool (by rw [HS.o,decide_eq_true q]; rfl),HX.o⟩
 ·have q':¬ (n:Int)<=(k:Int):=(by omega);go_enter Tryz.func17,Tryz.ntmps17;go_wp2;go_ret;exact ⟨ret_bool (by rw [HS.o,decide_eq_false q]; rfl),Ext.refl _ w⟩
def fewRow (k:Nat) (r:RowV):Bool:=decide (r.terms.length<=2*k) && decide (r.name.size<=100)
def fewP (p:ProgV) (k m:Nat):Bool:=p.rows.all (fewRow k) && decide (p.vars.length<=k) && decide (p.rows.length<=m)
theorem FewP_any (w:World) (pv:Value) (p:ProgV) (k m:Nat) (hk:k<=1000000) (hm:m<=1000000) (hp:IsPrg w pv p):Calls Tryz.prog 10 #[pv,.int .i64 k,.int .i64 m] w (BoolPost w (fewP p k m)):=by
 obtain ⟨vv,rv,rfl,hv,hr⟩:=hp;obtain ⟨vo,vc,rfl,-,hvn,-⟩:=hv.shape;obtain ⟨ro,rc,rfl,-,hrn,-⟩:=hr.shape;have HV:=bH hr;have HF:=bH (show fewP p k m=(p.rows.all (fewRow k) && decide (p.vars.length<=k) && decide (p.rows.length<=m)) from rfl);clear hv hr;generalize p.vars.length=vn at *;obtain ⟨n,hn'⟩:∃ n,p.rows.length=n:=⟨_,rfl⟩;have HN:=bH hn';rw [hn'] at hrn HV HF ⊢;clear hn';have HB:=bH (bI (blk_alloc_at w (.cells #[.slice vo vn vc,.slice ro n rc] 25)) ((Ext.refl (fun _=>False) w).alloc (.cells #[.slice vo vn vc,.slice ro n rc] 25)));go_enter Tryz.func10,Tryz.ntmps10;go_upto_region 1 with fail;generalize hw1:w.alloc (.cells #[.slice vo vn vc,.slice ro n rc] 25)=w1 at *;clear hw1;obtain ⟨pb,hpb⟩:∃ pb,w.heap.size=pb:=⟨_,rfl⟩;rw [hpb] at HB ⊢;clear hpb;go_wp2_with fail;go_loopg [7] n (fun gg v7 wr=>∃ i:Nat,i<=n/\gg=n - i/\v7=.int .i64 i/\(p.rows.take i).all (fewRow k)=true/\XF w1 wr);case atStart=>exact ⟨0,Nat.zero_le _,rfl,rfl,rfl,Ext.refl _ _⟩
 case round =>
  obtain ⟨i,hi,rfl,rfl,hall,hx⟩:=hrel;have HX:=bH (bI hall hx);clear hall hx;have z0:=cell_keep (cellq HB.o.1 0 rfl) HX.o.2;have z1:=cell_keep (cellq HB.o.1 1 rfl) HX.o.2;by_cases hin:i<n
  ·have i0:(i:Int)<(n:Int):=(by omega);have i1:(0:Int)<=(i:Int):=(by omega);have HI:Hid (i<p.rows.length):=bH (by rw [HN.o]; exact hin);obtain ⟨b,off,ta,tc,rfl,-,e0,e1,e2,e3,e4,hok,htm⟩:=(HV.o.keep (HB.o.2.trans HX.o.2)).atp i HI.o;have hns:(p.r i).name.size<=9223372036854775807:=(by have:=hok.name; unfold maxLen at this; omega);obtain ⟨-,-,-,-,htn,-⟩:=htm.shape;have HR:=bH (show fewRow k (p.rows.getD i row0)=(decide ((p.r i).terms.length<=2*k) && decide ((p.r i).name.size<=100)) from rfl);clear hok htm;generalize (p.r i).terms.length=tl at *;generalize (p.r i).name=nm at *;obtain ⟨kk,hkk⟩:∃ kk,2*k=kk:=⟨_,rfl⟩;have hk2:(2:Int)*(k:Int)=(kk:Int):=(by omega);rw [hkk] at HR;have hkk63:kk<=9223372036854775807:=(by omega);clear hkk;by_cases q1:kk<tl
   ·have q1':(kk:Int)<(tl:Int):=(by omega);go_wp2;go_ret;exact ⟨ret_bool (by rw [HF.o,all_fails (d:=row0) HI.o (by rw [HR.o,decide_eq_false (p:=tl<=kk) (by omega)]; rfl)]; rfl),HB.o.2.trans HX.o.2⟩
   ·have q1':¬ (kk:Int)<(tl:Int):=(by omega);by_cases q2:100<nm.size
    ·have q2':(100:Int)<(nm.size:Int):=(by omega);go_wp2;go_ret;exact ⟨ret_bool (by rw [HF.o,all_fails (d:=row0) HI.o (by rw [HR.o,decide_eq_false (p:=nm.size<=100) (by omega)]; simp)]; rfl),HB.o.2.trans HX.o.2⟩
    ·have q2':¬ (100:Int)<(nm.size:Int):=(by omega);go_wp2;go_roundg (n - (i+1));case measure=>omega
     case rel=>exact ⟨i+1,by omega,rfl,by go_num,all_next (d:=row0) HI.o HX.o.1 (by rw [HR.o,decide_eq_true (p:=tl<=kk) (by omega),decide_eq_true (p:=nm.size<=100) (by omega)]; rfl),HX.o.2⟩
  ·obtain rfl:i=n:=(by omega);have HF2:Hid (fewP p k m=(decide (vn<=k) && decide (i<=m))):=bH (by
    have:=HX.o.1;rw [List.take_of_length_le (by rw [HN.o]; exact Nat.le_refl _)] at this;rw [HF.o,this]; rfl)
   by_cases q1:vn<=k
   ·have q1':(vn:Int)<=(k:Int):=(by omega);by_cases q2:i<=m
    ·have q2':(i:Int)<=(m:Int):=(by omega);go_wp2;go_ret;exact ⟨ret_bool (by rw [HF2.o,decide_eq_true q1,decide_eq_true q2]; rfl),HB.o.2.trans HX.o.2⟩
    ·have q2':¬ (i:Int)<=(m:Int):=(by omega);go_wp2;go_ret;exact ⟨ret_bool (by rw [HF2.o,decide_eq_true q1,decide_eq_false q2]; rfl),HB.o.2.trans HX.o.2⟩
   ·have q1':¬ (vn:Int)<=(k:Int):=(by omega);go_wp2;go_ret;exact ⟨ret_bool (by rw [HF2.o,decide_eq_false q1]; rfl),HB.o.2.trans HX.o.2⟩
def NoD (xs:List Value):Prop:=∀ u ∈ xs,∀ d,u≠.int .u32 d
theorem noDig_cells {w:World} {g:Nat} {cur:Array Value} {t:TypeId} {fr:Nat × Nat} (h:blk w g=some (.cells cur t fr)) (hn:NoD cur.toList):NoDig w g:=fun i d hc=>by
 rw [cell_of_cells h] at hc;exact hn _ (by rw [<- Array.getElem?_toList] at hc; exact List.mem_of_getElem? hc) d rfl
theorem NoDig.cells {w:World} {g:Nat} {cur:Array Value} {t:TypeId} {fr:Nat × Nat} (hn:NoDig w g) (h:blk w g=some (.cells cur t fr)):NoD cur.toList:=fun u hu d e=>by
 obtain ⟨i,hi,rfl⟩:=List.getElem_of_mem hu;refine hn i d ?_;rw [cell_of_cells h,<- Array.getElem?_toList,List.getElem?_eq_getElem hi,e]
theorem NoD.append {xs ys:List Value} (h:NoD xs) (k:NoD ys):NoD (xs++ys):=fun u hu=>(List.mem_append.1 hu).elim (h u) (k u)
theorem NoD.take {xs:List Value} (h:NoD xs) (n:Nat):NoD (xs.take n):=fun u hu=>h u (List.mem_of_mem_take hu)
theorem NoD.drop {xs:List Value} (h:NoD xs) (n:Nat):NoD (xs.drop n):=fun u hu=>h u (List.mem_of_mem_drop hu)
theorem noD_zero {z:Array Value} (h:NoD z.toList) (n:Nat):NoD (Builtin.zeroCells z n).toList:=fun u hu=>by
 unfold Builtin.zeroCells at hu;rw [Array.toList_map] at hu;obtain ⟨i,hi,rfl⟩:=List.mem_map.1 hu;have hi':i<n*z.size:=by simpa using hi
 have hz:0<z.size:=Nat.pos_of_ne_zero (fun e=>by rw [e] at hi'; simp at hi');have hm:i % z.size<z.size:=Nat.mod_lt _ hz;rw [getElem!_pos z _ hm];exact h _ (by rw [<- Array.getElem_toList]; exact List.getElem_mem _)
section
variable {P:Program}
theorem append_noDig (w:World) (base:Nat) (t ty e:TypeId) (i:TypeInfo) (z:Value) (ht:P.underlying t=some (.slice e)) (hi:P.info? e=some i) (hz:i.zero=some z)
  (hzs:z.cells.size=i.size) (hzn:NoD z.cells.toList)
  (v:Value) (n:Nat) (xs:List Value) (hown:w.ownsRow base e i.size v n xs) (hnd:∀ g,v.ownBlock=some g->NoDig w g) (hxs:NoD xs)
  (a:Addr) (m c:Nat) (news:List Value) (hl:news.length=m*i.size) (hnews:∀ j u,news[j]?=some u->w.cell? (a.add j)=some u) (h1:∀ u ∈ news,u.oneCell'=true) (hnn:NoD news) (hm:0<m)
  (h63:n+m<=maxLen) (hbytes:(n+m)*i.bytes<=140737488355328) :
  ∀ v' w',(Builtin.append_ #[t,t] ty #[v,.slice (some a) m c]).run P w=.ok v' w'->∀ g,v'.ownBlock=some g->NoDig w' g:=by
 intro v' w' hrun g' hg';have hsmall:n+m<=9223372036854775807:=by simp only [maxLen] at h63; omega
 rcases hown.2 with ⟨rfl,rfl⟩ | ⟨g,cap,cur,rfl,hbg,hg,hnc,hcm,hcs,htake⟩
 ·have hr:=run_append_nil (P:=P) w t ty e i z ht hi hz a m c news hl hnews hm (by omega) (by have hb:=hbytes; simp only [Nat.zero_add] at hb; omega);rw [hr] at hrun;injection hrun with h2 h3;subst h2 h3;cases hg';refine noDig_cells (show blk (w.drew.alloc _) w.heap.size=some _ from blk_alloc_at w.drew _) ?_;rw [Array.toList_append];exact (by simpa using hnn:NoD news.toArray.toList).append (noD_zero hzn _)
 ·by_cases hroom:n+m<=cap
  ·have hfit:n*i.size+news.length<=cur.size:=(by rw [hl,hcs,<- Nat.add_mul]; exact Nat.mul_le_mul_right _ hroom);have hr:=run_append_room (P:=P) w t ty e i ht hi g n cap cur hg a m c news hl hnews h1 hroom hfit;rw [hr] at hrun;injection hrun with h2 h3;subst h2 h3;cases hg';have hc:=(hnd g rfl).cells (show blk w g=some _ from hg);refine noDig_cells (show blk (w.setRow g _) g=some _ from setRow_heap w g cur _ e _ hg) ?_;exact ((hc.take _).append hnn).append (hc.drop _)
  ·have holds:∀ j u,xs[j]?=some u->w.cell? ((⟨g,0,none⟩:Addr).add j)=some u:=hown.cells (g:=g) rfl;have hr:=run_append_grow (P:=P) w t ty e i z ht hi hz ⟨g,0,none⟩ n cap xs hown.1 holds a m c news hl hnews (by omega) (by omega) (growslice_fits (by omega) hbytes);rw [hr] at hrun;injection hrun with h2 h3;subst h2 h3;cases hg';refine noDig_cells (show blk (w.drew.alloc _) w.heap.size=some _ from blk_alloc_at w.drew _) ?_;rw [Array.toList_append,Array.toList_append];exact (hxs.append (by simpa using hnn:NoD news.toArray.toList)).append (noD_zero hzn _)
end
theorem times_any (w:World) (k:Int) (v:Value) (q:Rat) (L:Nat) (hk:InR k) (h:Rrat w v q L) (hL:L<=1000000):Calls Tryz.prog 67 #[.int .i64 k,v] w (RatPost w ((k:Rat)*q)):=by
 obtain ⟨ng,a1,m1,c1,a2,m2,c2,rfl⟩:=h.shape;have HF:=bH (fun W=>Rrfrom_any W k hk.1 hk.2);have hx:=((Ext.refl (fun _=>False) w).alloc (.cells #[.bool ng,.slice a1 m1 c1,.slice a2 m2 c2] 64)).alloc (.cells #[.bool false,.slice none 0 0,.slice none 0 0] 64);have hb0:=(boxR_new (W:=w) rfl ng a1 m1 c1 a2 m2 c2).alloc (.cells #[.bool false,.slice none 0 0,.slice none 0 0] 64);have hb1:=boxR_new (W:=w.alloc (.cells #[.bool ng,.slice a1 m1 c1,.slice a2 m2 c2] 64)) rfl false none 0 0 none 0 0;rw [World.size_alloc] at hb1;have HM:=bH (fun W u (hW:XF ((w.alloc (.cells #[.bool ng,.slice a1 m1 c1,.slice a2 m2 c2] 64)).alloc (.cells #[.bool false,.slice none 0 0,.slice none 0 0] 64)) W) (hu:IsRat W u (k:Rat))=>Rrmul_any W u _ _ q (L+2) (hu.reads ((Sz.int hk).mono (by omega))) ((h.keep (hx.trans hW)).mono (by omega)) (by omega) (by omega));have HB:=bH (bI hb1 hx);clear h hk;obtain ⟨Q,hQ⟩:∃ Q,(k:Rat)*q=Q:=⟨_,rfl⟩;rw [hQ] at HM ⊢;clear hQ;generalize (k:Rat)=kq at *;go_enter Tryz.func67,Tryz.ntmps67;go_upto_region 1 with fail;generalize hw1:(w.alloc (.cells #[.bool ng,.slice a1 m1 c1,.slice a2 m2 c2] 64)).alloc (.cells #[.bool false,.slice none 0 0,.slice none 0 0] 64)=w1 at *;clear hw1 hb1 hx;obtain ⟨xb,hxb⟩:∃ xb,w.heap.size=xb:=⟨_,rfl⟩;have hxw:w.heap.size<=xb:=Nat.le_of_eq hxb;rw [hxb] at HB hb0 ⊢;clear hxb;obtain ⟨f0,f1,f2,-⟩:=hb0.facts;have hS:S3 xb xb xb 0 1 2 (.bool ng) (.slice a1 m1 c1) (.slice a2 m2 c2) w1:=⟨f0,f1,f2⟩;clear f0 f1 f2 hb0;refine ends_begin 4 (S3 xb xb xb 0 1 2 (.bool ng) (.slice a1 m1 c1) (.slice a2 m2 c2)) (by kernel_rfl) (hS.drew) (fun hHeld=>?_);refine ends_take 0 (v:=?_) rfl (by kernel_rfl) (by kernel_rfl) (by kernel_rfl) (by kernel_rfl) (fun _ _ _ h=>h) (by rfl) ?_ (by assumption) ?_;rotate_left
 ·((intro w hSw; (try dsimp only at hSw); go_simp) <;> with_reducible rfl)
 (try go_frame);refine ends_take 2 (v:=?_) rfl (by kernel_rfl) (by kernel_rfl) (by kernel_rfl) (by kernel_rfl) (fun _ _ _ h=>h) (by rfl) ?_ (by assumption) ?_;rotate_left
 ·((intro w hSw; (try dsimp only at hSw); go_simp) <;> with_reducible rfl)
 (try go_frame);refine ends_step 1 rfl (by kernel_rfl) (fun K hK=>?_);(go_simp; go_at_call 31; (with_reducible refine (HF.o _).mono ?_); rintro q1 w11 ⟨v11,rfl,h11,hx11⟩; have hX1:=(Ext.refl (fun _=>False) w1).drew.trans hx11; have hK1:=hS.keep hX1; have hM:=HM.o w11 _ hX1 h11; obtain ⟨n11,a11,l11,c11,a11',l11',c11',rfl⟩:=h11.shape);refine hK.o _ _ (hK1) (fun hHeld=>?_);clear hK K;(try go_frame);refine ends_step 3 rfl (by kernel_rfl) (fun K hK=>?_);(go_simp; go_at_call 92; (with_reducible refine hM.mono ?_); rintro q2 w12 ⟨v12,rfl,h12,hx12⟩; have hX2:=hX1.trans hx12; have hK2:=hS.keep hX2; obtain ⟨n12,a12,l12,c12,a12',l12',c12',rfl⟩:=h12.shape; have hbr:=HB.o.1.keep hX2);refine hK.o _ _ (hK2) (fun hHeld=>?_);clear hK K;(try go_frame);obtain ⟨d0,d1,d2,d3,d4,d5⟩:=hbr.facts;refine ends_last rfl (by kernel_rfl) (fun K hK=>?_);go_simp;refine hK.o _ _ ?_;clear hK K;(try go_frame);refine ends_done (by kernel_rfl) ?_ _;have HP:=bH (rat_put (w:=w) hbr (by omega) (HB.o.2.trans hX2) h12);clear hX1 hX2 hK1 hK2 h11 h12 hx11 hx12 hM hS hbr d0 d1 d2 d3 d4 d5 hHeld HF HM;go_wp2;generalize ((w12.setCell ⟨xb+1,0,none⟩ (.bool n12)).setCell ⟨xb+1,1,none⟩ (.slice a12 l12 c12)).setCell ⟨xb+1,2,none⟩ (.slice a12' l12' c12')=w9 at *;obtain ⟨g0,g1,g2,_⟩:=HP.o.1.facts;exact bodyPost_ret (v:=.agg #[.bool n12,.slice a12 l12 c12,.slice a12' l12' c12']) (by simp [results,Tryz.results67,go_sem,g0,g1,g2]) rfl HP.o.2
theorem blk_alloc_at' (w:World) (o:Obj) (k:Nat) (h:k=w.heap.size):blk (w.alloc o) k=some o:=by subst h; exact blk_alloc_at w o
def PrgPost (w:World) (p:ProgV) (r:Ending) (w':World):Prop:=∃ v,r=.returned v/\IsPrg w' v p/\XF w w'
section
variable {β:Type} {f:β->List Value} {T:TypeId}
def SOwn (f:β->List Value) (T:TypeId) (w:World) (base:Nat) (v:Value) (l:List β):Prop:=w.ownsRow base T 5 v l.length (l.flatMap f)
theorem SOwn.keep {w w':World} {base:Nat} {v:Value} {l:List β} (h:SOwn f T w base v l) (hx:XF w w'):SOwn f T w' base v l:=ownsRow_ext h hx (fun _ _ h=>h)
theorem SOwn.lt {w:World} {base:Nat} {v:Value} {l:List β} (h:SOwn f T w base v l):∀ g,v.ownBlock=some g->base<=g/\g<w.heap.size:=World.ownsRow.lt h
theorem SOwn.shape {w:World} {base:Nat} {v:Value} {l:List β} (h:SOwn f T w base v l):∃ ao cap,v=.slice ao l.length cap:=ownsRow_shape h
theorem SOwn.empty {w:World} {g base:Nat} (h:blk w g=some (.cells #[] T (0,0))) (hb:base<=g):SOwn f T w base (.slice (some ⟨g,0,none⟩) 0 0) []:=ownsRow_empty 5 hb h
def SArr (f:β->List Value) (T:TypeId) (w:World) (g:Nat) (l:List β):Prop:=∃ cur,blk w g=some (.cells cur T (0,0))/\∀ k x,l[k]?=some x->∀ j,j<5->cur[k*5+j]?=(f x)[j]?
theorem SArr.cell {w:World} {g:Nat} {l:List β} (hf:∀ x,(f x).length=5) (h:SArr f T w g l) {k:Nat} {x:β} (hk:l[k]?=some x) {j:Nat} {u:Value} (hu:(f x)[j]?=some u):w.cell? ⟨g,k*5+j,none⟩=some u/\w.frozen? ⟨g,k*5+j,none⟩=false:=by
 obtain ⟨cur,h1,h2⟩:=h;have hj:j<5:=by rw [<- hf x]; exact (List.getElem?_eq_some_iff.1 hu).1
 exact ⟨by rw [cell_of_cells h1,h2 k x hk j hj]; exact hu,free_of_cells h1 _⟩
theorem SArr.sl {w:World} {g:Nat} {l:List β} {c:Nat} (hf:∀ x,(f x).length=5) (h:SArr f T w g l) (hc:l.length<=c) (hm:c<=maxLen):Sl w (.slice (some ⟨g,0,none⟩) l.length c) 5 (l.map f):=by
 refine ⟨some ⟨g,0,none⟩,c,by rw [List.length_map],by rw [List.length_map]; exact hc,hm,(fun e=>by cases e),fun _=>⟨g,0,rfl,?_,fun i r hi j u hu=>?_⟩⟩
 ·obtain ⟨cur,h1,_⟩:=h; exact blk_lt h1
 ·rw [List.getElem?_map] at hi;obtain ⟨x,hx,rfl⟩:=Option.map_eq_some_iff.1 hi;rw [Nat.zero_add];exact (h.cell hf hx hu).1
theorem SOwn.arr {w:World} {base:Nat} {ao:Option Addr} {n c:Nat} {l:List β} (hf:∀ x,(f x).length=5) (h:SOwn f T w base (.slice ao n c) l):(n=0/\l=[]/\(ao=none->c=0)/\c<=maxLen)∨∃ g,ao=some ⟨g,0,none⟩/\base<=g/\n=l.length/\n<=c/\c<=maxLen/\SArr f T w g l:=by
 rcases h.2 with ⟨e,h0⟩ | ⟨g,cap,cur,e,hb,hg,hnc,hcm,hcs,htake⟩
 ·cases e;exact .inl ⟨rfl,List.eq_nil_of_length_eq_zero h0,fun _=>rfl,Nat.zero_le _⟩
 ·cases e;refine .inr ⟨g,rfl,hb,rfl,hnc,hcm,cur,hg,fun k x hk j hj=>?_⟩;have hkl:k<l.length:=(List.getElem?_eq_some_iff.1 hk).1;have hget:=fm_get (f:=f) (m:=5) hf l k hk j hj;rw [<- htake,List.getElem?_take,if_pos (by omega),Array.getElem?_toList] at hget;exact hget
theorem SOwn.sl {w:World} {base:Nat} {v:Value} {l:List β} (hf:∀ x,(f x).length=5) (h:SOwn f T w base v l):Sl w v 5 (l.map f):=by
 obtain ⟨ao,cap,rfl⟩:=h.shape;rcases h.arr hf with ⟨h0,rfl,hc,hm⟩ | ⟨g,rfl,_,_,h1,h2,h3⟩
 ·exact ⟨ao,cap,rfl,Nat.zero_le _,hm,hc,fun h=>absurd h (Nat.lt_irrefl 0)⟩
 ·exact h3.sl hf h1 h2
end
abbrev RT:=RowV × Value
def cRT (y:RT):List Value:=cR y.1 y.2
theorem cV_len (x:VarV):(cV x).length=5:=rfl
theorem cRT_len (x:RT):(cRT x).length=5:=rfl
section
variable {B:Nat} {y:RT} {oa:Option (List VarV)} {ob:Option (List RT)} {c d:Bool} {w5 w w':World} {vA vB vC vD:Value}
end
theorem IsPrg.slicesP {w:World} {pv:Value} {p:ProgV} (h:IsPrg w pv p):∃ vo vn vc ro rn rc,pv=.agg #[.slice vo vn vc,.slice ro rn rc]:=by
 obtain ⟨vv,rv,rfl,hv,hr⟩:=h;obtain ⟨vo,vc,rfl,-⟩:=hv.shape;obtain ⟨ro,rc,rfl,-⟩:=hr.shape;exact ⟨vo,_,vc,ro,_,rc,rfl⟩
def cI (n:Int):List Value:=[.int .i64 n]
def Inz (w:World) (v:Value) (l:List Int):Prop:=Sl w v 1 (l.map cI)
theorem Inz.shape {w:World} {v:Value} {l:List Int} (h:Inz w v l):∃ ao c,v=.slice ao l.length c/\l.length<=maxLen:=by
 obtain ⟨ao,c,rfl,h1,h2,_⟩:=h;rw [List.length_map] at h1 ⊢;exact ⟨ao,c,rfl,Nat.le_trans h1 h2⟩
theorem Inz.keep {w w':World} {v:Value} {l:List Int} (h:Inz w v l) (hx:XF w w'):Inz w' v l:=Sl.keep h hx
theorem Inz.at_ {w:World} {ao:Option Addr} {n c:Nat} {l:List Int} (h:Inz w (.slice ao n c) l) {i:Nat} (hi:i<l.length):∃ b off,ao=some ⟨b,off,none⟩/\w.cell? ⟨b,off+i,none⟩=some (.int .i64 (l.getD i 0)):=by
 obtain ⟨b,off,h1,h2,h3⟩:=Sl.at h (i:=i) (r:=cI l[i]) (by rw [List.getElem?_map,List.getElem?_eq_getElem hi]; rfl);refine ⟨b,off,h1,?_⟩;have:=h3 0 _ rfl;rw [Nat.mul_one,Nat.add_zero] at this;rw [getD_lt hi];exact this
def IRow (w:World) (base:Nat) (v:Value) (l:List Int):Prop:=w.ownsRow base 3 1 v l.length (l.map fun n=>Value.int .i64 n)
theorem IRow.inz {w:World} {base:Nat} {v:Value} {l:List Int} (h:IRow w base v l):Inz w v l:=by
 rcases h.2 with ⟨rfl,h0⟩ | ⟨g,cap,cur,rfl,hb,hg,hnc,hcm,hcs,htake⟩
 ·exact ⟨none,0,by rw [List.length_map,h0],by rw [List.length_map,h0]; exact Nat.le_refl _,by unfold maxLen; decide,fun _=>rfl,fun h=>by rw [List.length_map,h0] at h; exact absurd h (Nat.lt_irrefl 0)⟩
 ·refine ⟨some ⟨g,0,none⟩,cap,by rw [List.length_map],by rw [List.length_map]; exact hnc,hcm,(fun e=>by cases e),fun _=>⟨g,0,rfl,blk_lt hg,fun i r hi j u hu=>?_⟩⟩;rw [List.getElem?_map] at hi;obtain ⟨x,hx,rfl⟩:=Option.map_eq_some_iff.1 hi;have hi':i<l.length:=(List.getElem?_eq_some_iff.1 hx).1;match j,hu with
  | 0,hu =>
   cases hu;rw [Nat.zero_add,Nat.mul_one,Nat.add_zero,cell_of_cells hg,<- Array.getElem?_toList];have h2:(cur.toList.take (l.length*1))[i]?=some (.int .i64 x):=by
    rw [htake,List.getElem?_map,hx]; rfl
   rw [List.getElem?_take_of_lt (by omega)] at h2;exact h2
  | j+1,hu=>simp [cI] at hu
theorem ints_eq {a b:List Int} {n:Nat} (ha:a.length=n) (hb:b.length=n) (h:∀ i,i<n->a.getD i 0=b.getD i 0):a=b:=by
 refine List.ext_getElem (by omega) fun i h1 h2=>?_;have:=h i (by omega);rwa [getD_lt h1,getD_lt h2] at this
theorem Ints4_any (w:World) (av bv:Value) (a b:List Int) (ha:Inz w av a) (hb:Inz w bv b):Calls Tryz.prog 32 #[av,bv] w (BoolPost w (decide (a=b))):=by
 obtain ⟨ao,ac,rfl,ham⟩:=ha.shape;obtain ⟨bo,bc,rfl,hbm⟩:=hb.shape;have hmax:maxLen<=9223372036854775807:=by unfold maxLen; decide
 have HA:=bH (bI ha hb);clear ha hb;obtain ⟨n,hn⟩:∃ n,a.length=n:=⟨_,rfl⟩;obtain ⟨m,hm⟩:∃ m,b.length=m:=⟨_,rfl⟩;have HN:=bH (bI hn hm);rw [hn] at HA ham ⊢;rw [hm] at HA hbm ⊢;clear hn hm;by_cases hnm:n=m
 ·subst hnm;have n1:(n:Int)<=9223372036854775807:=(by omega);go_enter Tryz.func32,Tryz.ntmps32;go_upto_region 3 with fail;go_wp2_with fail;go_loopg [5] n (fun gg v5 wr=>∃ k:Nat,k<=n/\gg=n - k/\v5=.int .i64 k/\(∀ i,i<k->a.getD i 0=b.getD i 0)/\XF w wr);case atStart=>exact ⟨0,Nat.zero_le _,rfl,rfl,fun i hi=>absurd hi (Nat.not_lt_zero i),Ext.refl _ _⟩
  case round =>
   obtain ⟨k,hk,rfl,rfl,hall,hx⟩:=hrel;have HAl:=bH (bI hall hx);clear hall hx;by_cases hkn:k<n
   ·have k0:(k:Int)<(n:Int):=(by omega);have k1:(0:Int)<=(k:Int):=(by omega);obtain ⟨b1,o1,rfl,e0⟩:=(HA.o.1.keep HAl.o.2).at_ (i:=k) (by rw [HN.o.1]; exact hkn);obtain ⟨b2,o2,rfl,e1⟩:=(HA.o.2.keep HAl.o.2).at_ (i:=k) (by rw [HN.o.2]; exact hkn);by_cases he:a.getD k 0=b.getD k 0
    ·have HE:=bH he;rw [he] at e0;clear he;generalize b.getD k 0=s at e0 e1;go_upto_region 6 with fail;go_quiet (fail);go_wp2;go_roundg (n - (k+1));case measure=>omega
     case rel=>exact ⟨k+1,by omega,rfl,by go_num,fun i hi=>by
      by_cases e:i=k
      ·subst e; exact HE.o
      ·exact HAl.o.1 i (by omega),HAl.o.2.trans (Ext.drewN (Ext.refl _ wr) _)⟩
    ·have HE:=bH he;obtain ⟨s,hs⟩:∃ s,a.getD k 0=s:=⟨_,rfl⟩;obtain ⟨t,ht⟩:∃ t,b.getD k 0=t:=⟨_,rfl⟩;rw [hs] at e0 he;rw [ht] at e1 he;clear hs ht;have h2:(s == t)=false:=(by simpa using he);have h3:decide (s=t)=false:=(by simpa using he);go_upto_region 6 with fail;go_quiet (fail);go_wp2;go_ret;exact ⟨ret_bool (by rw [decide_eq_false (fun e=>HE.o (by rw [e]))]),HAl.o.2.trans (Ext.drewN (Ext.refl _ wr) _)⟩
   ·obtain rfl:n=k:=(by omega);go_wp2;go_ret;exact ⟨ret_bool (by rw [decide_eq_true (ints_eq HN.o.1 HN.o.2 HAl.o.1)]),HAl.o.2⟩
 ·have h1:¬ ((n:Int)=(m:Int)):=(by omega);have h2:((n:Int) == (m:Int))=false:=(by simpa using h1);have h3:decide ((n:Int)=(m:Int))=false:=(by simpa using h1);have HE:=bH hnm;clear hnm;go_enter Tryz.func32,Tryz.ntmps32;go_wp2;go_ret;exact ⟨ret_bool (by rw [decide_eq_false (fun e=>HE.o (by rw [<- HN.o.1,<- HN.o.2,e]))]),Ext.refl _ _⟩
theorem SameRow_any (w:World) (r:RowV) (ta tb:Option Addr) (tc td:Nat) (h1:Tms w (.slice ta r.terms.length tc) r.terms) (h2:Tms w (.slice tb r.terms.length td) r.terms) :
  Calls Tryz.prog 27 #[.agg #[.string r.name,.int .i64 r.group,.int .i64 r.kind,.slice ta r.terms.length tc,.int .i64 r.bound],.agg #[.string r.name,.int .i64 r.group,.int .i64 r.kind,.slice tb r.terms.length td,.int .i64 r.bound]] w (BoolPost w true):=by
 obtain ⟨-,-,-,-,htn,-⟩:=h1.shape;have hmax:maxLen<=9223372036854775807:=by unfold maxLen; decide
 have HT:=bH (bI h1 h2);clear h1 h2;obtain ⟨n,hn⟩:∃ n,r.terms.length=n:=⟨_,rfl⟩;have HN:=bH hn;rw [hn] at HT htn ⊢;clear hn;obtain ⟨nm,hnm⟩:∃ x,r.name=x:=⟨_,rfl⟩;obtain ⟨gr,hgr⟩:∃ x,r.group=x:=⟨_,rfl⟩;obtain ⟨kd,hkd⟩:∃ x,r.kind=x:=⟨_,rfl⟩;obtain ⟨bd,hbd⟩:∃ x,r.bound=x:=⟨_,rfl⟩;rw [hnm,hgr,hkd,hbd];clear hnm hgr hkd hbd;have hxa:=(Ext.refl (fun _=>False) w).alloc (.cells #[.string nm,.int .i64 gr,.int .i64 kd,.slice ta n tc,.int .i64 bd] 35);have hxb:=(Ext.refl (fun _=>False) (w.alloc (.cells #[.string nm,.int .i64 gr,.int .i64 kd,.slice ta n tc,.int .i64 bd] 35))).alloc (.cells #[.string nm,.int .i64 gr,.int .i64 kd,.slice tb n td,.int .i64 bd] 35);have hb2:blk ((w.alloc (.cells #[.string nm,.int .i64 gr,.int .i64 kd,.slice ta n tc,.int .i64 bd] 35)).alloc (.cells #[.string nm,.int .i64 gr,.int .i64 kd,.slice tb n td,.int .i64 bd] 35)) (w.heap.size+1)=some (.cells #[.string nm,.int .i64 gr,.int .i64 kd,.slice tb n td,.int .i64 bd] 35 (0,0)):=by
  have h:=blk_alloc_at (w.alloc (.cells #[.string nm,.int .i64 gr,.int .i64 kd,.slice ta n tc,.int .i64 bd] 35)) (.cells #[.string nm,.int .i64 gr,.int .i64 kd,.slice tb n td,.int .i64 bd] 35);rwa [World.size_alloc] at h
 have HB:=bH (bI (blk_keep (blk_alloc_at w (.cells #[.string nm,.int .i64 gr,.int .i64 kd,.slice ta n tc,.int .i64 bd] 35)) hxb) (bI hb2 (hxa.trans hxb)));clear hxa hxb hb2;go_enter Tryz.func27,Tryz.ntmps27;go_upto_region 1 with fail;generalize (w.alloc (.cells #[.string nm,.int .i64 gr,.int .i64 kd,.slice ta n tc,.int .i64 bd] 35)).alloc (.cells #[.string nm,.int .i64 gr,.int .i64 kd,.slice tb n td,.int .i64 bd] 35)=w1 at *;obtain ⟨rb,hrb⟩:∃ q,w.heap.size=q:=⟨_,rfl⟩;rw [hrb] at HB ⊢;clear hrb;have e0:=cellq HB.o.1 0 rfl;have e1:=cellq HB.o.1 1 rfl;have e2:=cellq HB.o.1 2 rfl;have e3:=cellq HB.o.1 3 rfl;have e4:=cellq HB.o.1 4 rfl;have f0:=cellq HB.o.2.1 0 rfl;have f1:=cellq HB.o.2.1 1 rfl;have f2:=cellq HB.o.2.1 2 rfl;have f3:=cellq HB.o.2.1 3 rfl;have f4:=cellq HB.o.2.1 4 rfl;have hq:(nm.toList == nm.toList)=true:=by simp
 go_upto_region 3 with fail;clear e0 e1 e2 e4 f0 f1 f2 f4 hq;go_wp2_with fail;go_loopg [5] n (fun gg v5 wr=>∃ k:Nat,k<=n/\gg=n - k/\v5=.int .i64 k/\XF w1 wr);case atStart=>exact ⟨0,Nat.zero_le _,rfl,rfl,Ext.refl _ _⟩
 case round =>
  clear e3 f3;obtain ⟨k,hk,rfl,rfl,hx⟩:=hrel;have HX:=bH hx;clear hx;have e3:=cellq (blk_keep HB.o.1 HX.o) 3 rfl;have f3:=cellq (blk_keep HB.o.2.1 HX.o) 3 rfl;by_cases hkn:k<n
  ·have k0:(k:Int)<(n:Int):=(by omega);have k1:(0:Int)<=(k:Int):=(by omega);have hkl:k<r.terms.length:=(by rw [HN.o]; exact hkn);obtain ⟨b1,o1,rfl,-,g0,g1,-⟩:=(HT.o.1.keep (HB.o.2.2.trans HX.o)).at k hkl;obtain ⟨b2,o2,rfl,-,j0,j1,-⟩:=(HT.o.2.keep (HB.o.2.2.trans HX.o)).at k hkl;generalize r.terms.getD k term0=t at *;obtain ⟨tv,tc⟩:=t;dsimp only at g0 g1 j0 j1;clear hkl;go_upto_region 6 with fail;go_quiet (fail);go_wp2;go_roundg (n - (k+1));case measure=>omega
   case rel=>exact ⟨k+1,by omega,rfl,by go_num,HX.o.trans (Ext.drewN (Ext.refl _ wr) _)⟩
  ·obtain rfl:n=k:=(by omega);go_wp2;go_ret;exact ⟨rfl,HB.o.2.2.trans HX.o⟩
theorem prg_parts {w:World} {vo ro:Option Addr} {vn vc rn rc:Nat} {p:ProgV} (h:IsPrg w (.agg #[.slice vo vn vc,.slice ro rn rc]) p):Vrs w (.slice vo vn vc) p.vars/\Rws w (.slice ro rn rc) p.rows/\p.vars.length=vn/\p.rows.length=rn:=by
 obtain ⟨vv,rv,e,h1,h2⟩:=h;cases e;refine ⟨h1,h2,?_,?_⟩
 ·obtain ⟨_,_,e,_⟩:=h1.shape;cases e; rfl
 ·obtain ⟨_,_,e,_⟩:=h2.shape;cases e; rfl
theorem Same4_any (w:World) (pv qv:Value) (p:ProgV) (hp:IsPrg w pv p) (hq:IsPrg w qv p):Calls Tryz.prog 28 #[pv,qv] w (BoolPost w true):=by
 obtain ⟨vo,vn,vc,ro,rn,rc,rfl⟩:=hp.slicesP;obtain ⟨xo,xn,xc,yo,yn,yc,rfl⟩:=hq.slicesP;have HL:=bH (bI (prg_parts hp).2.2.1 (prg_parts hp).2.2.2);obtain rfl:vn=xn:=by rw [<- (prg_parts hp).2.2.1]; exact (prg_parts hq).2.2.1
 obtain rfl:rn=yn:=by rw [<- (prg_parts hp).2.2.2]; exact (prg_parts hq).2.2.2
 have hmax:maxLen<=9223372036854775807:=by unfold maxLen; decide
 have hvn:vn<=9223372036854775807:=by
  obtain ⟨_,_,e,_,h,_⟩:=(prg_parts hp).1.shape;rw [<- (prg_parts hp).2.2.1]; omega
 have hrn:rn<=9223372036854775807:=by
  obtain ⟨_,_,e,_,h,_⟩:=(prg_parts hp).2.1.shape;rw [<- (prg_parts hp).2.2.2]; omega
 have HP:=bH (bI hp hq);clear hp hq;have hxa:=(Ext.refl (fun _=>False) w).alloc (.cells #[.slice vo vn vc,.slice ro rn rc] 25);have hxb:=(Ext.refl (fun _=>False) (w.alloc (.cells #[.slice vo vn vc,.slice ro rn rc] 25))).alloc (.cells #[.slice xo vn xc,.slice yo rn yc] 25);have hb2:blk ((w.alloc (.cells #[.slice vo vn vc,.slice ro rn rc] 25)).alloc (.cells #[.slice xo vn xc,.slice yo rn yc] 25)) (w.heap.size+1)=some (.cells #[.slice xo vn xc,.slice yo rn yc] 25 (0,0)):=by
  have h:=blk_alloc_at (w.alloc (.cells #[.slice vo vn vc,.slice ro rn rc] 25)) (.cells #[.slice xo vn xc,.slice yo rn yc] 25);rwa [World.size_alloc] at h
 have HB:=bH (bI (blk_keep (blk_alloc_at w (.cells #[.slice vo vn vc,.slice ro rn rc] 25)) hxb) (bI hb2 (hxa.trans hxb)));clear hxa hxb hb2;go_enter Tryz.func28,Tryz.ntmps28;go_upto_region 1 with fail;generalize (w.alloc (.cells #[.slice vo vn vc,.slice ro rn rc] 25)).alloc (.cells #[.slice xo vn xc,.slice yo rn yc] 25)=w1 at *;obtain ⟨rb,hrb⟩:∃ q,w.heap.size=q:=⟨_,rfl⟩;rw [hrb] at HB ⊢;clear hrb;have e0:=cellq HB.o.1 0 rfl;have e1:=cellq HB.o.1 1 rfl;have f0:=cellq HB.o.2.1 0 rfl;have f1:=cellq HB.o.2.1 1 rfl;go_upto_region 3 with fail;go_wp2_with fail;go_loopg [5] vn (fun gg v5 wr=>∃ k:Nat,k<=vn/\gg=vn - k/\v5=.int .i64 k/\XF w1 wr);case atStart=>exact ⟨0,Nat.zero_le _,rfl,rfl,Ext.refl _ _⟩
 case round =>
  clear e0 e1 f0 f1;obtain ⟨k,hk,rfl,rfl,hx⟩:=hrel;have HX:=bH hx;clear hx;have e0:=cellq (blk_keep HB.o.1 HX.o) 0 rfl;have e1:=cellq (blk_keep HB.o.1 HX.o) 1 rfl;have f0:=cellq (blk_keep HB.o.2.1 HX.o) 0 rfl;have f1:=cellq (blk_keep HB.o.2.1 HX.o) 1 rfl;by_cases hkn:k<vn
  ·have k0:(k:Int)<(vn:Int):=(by omega);have k1:(0:Int)<=(k:Int):=(by omega);have hkl:k<p.vars.length:=(by rw [HL.o.1]; exact hkn);obtain ⟨b1,o1,rfl,-,g0,g1,g2,g3,g4,-⟩:=(prg_parts (HP.o.1.keep (HB.o.2.2.trans HX.o))).1.atp k hkl;obtain ⟨b2,o2,rfl,-,j0,j1,j2,j3,j4,-⟩:=(prg_parts (HP.o.2.keep (HB.o.2.2.trans HX.o))).1.atp k hkl;generalize p.v k=t at g0 g1 g2 g3 g4 j0 j1 j2 j3 j4;obtain ⟨lo,up,op,ig,co⟩:=t;dsimp only at g0 g1 g2 g3 g4 j0 j1 j2 j3 j4;clear hkl e1 f1;go_upto_region 6 with fail;go_quiet (fail);go_wp2;go_roundg (vn - (k+1));case measure=>omega
   case rel=>exact ⟨k+1,by omega,rfl,by go_num,HX.o.trans (Ext.drewN (Ext.refl _ wr) _)⟩
  ·obtain rfl:vn=k:=(by omega);obtain ⟨wo,rfl⟩:∃ x,x=wr:=⟨_,rfl⟩;go_upto_region 8 with fail;go_wp2_with fail;go_loopg [6] rn (fun gg v6 wr=>∃ k:Nat,k<=rn/\gg=rn - k/\v6=.int .i64 k/\XF w1 wr);case atStart=>exact ⟨0,Nat.zero_le _,rfl,rfl,HX.o⟩
   case round =>
    clear e0 e1 f0 f1 HX;obtain ⟨k,hk,rfl,rfl,hx⟩:=hrel;have HX:=bH hx;clear hx;have e1:=cellq (blk_keep HB.o.1 HX.o) 1 rfl;have f1:=cellq (blk_keep HB.o.2.1 HX.o) 1 rfl;by_cases hkn:k<rn
    ·have k0:(k:Int)<(rn:Int):=(by omega);have k1:(0:Int)<=(k:Int):=(by omega);have hkl:k<p.rows.length:=(by rw [HL.o.2]; exact hkn);obtain ⟨b1,o1,ta,tc,rfl,-,g0,g1,g2,g3,g4,-,hT1⟩:=(prg_parts (HP.o.1.keep (HB.o.2.2.trans HX.o))).2.1.atp k hkl;obtain ⟨b2,o2,tb,td,rfl,-,j0,j1,j2,j3,j4,-,hT2⟩:=(prg_parts (HP.o.2.keep (HB.o.2.2.trans HX.o))).2.1.atp k hkl;generalize p.r k=r at g0 g1 g2 g3 g4 hT1 j0 j1 j2 j3 j4 hT2;have e1:=cq e1;have f1:=cq f1;have g0:=cq g0;have g1:=cq g1;have g2:=cq g2;have g3:=cq g3;have g4:=cq g4;have j0:=cq j0;have j1:=cq j1;have j2:=cq j2;have j3:=cq j3;have j4:=cq j4;have HSr:=bH (fun W (hW:XF wr W)=>SameRow_any W r ta tb tc td (hT1.keep hW) (hT2.keep hW));clear hT1 hT2 hkl;go_upto_region 11 with fail;refine wp_region_held_drew (S:=(XF wr)) (by kernel_rfl) ((Ext.refl _ wr).drew) (fun hHeld=>?_);refine ht 0 (h:=(ht 1 (h:=(ht 2 (h:=(ht 3 (h:=(ht 4 (h:=(ht 5 (h:=(ht 6 (h:=(ht 7 (h:=(ht 8 (h:=(ht 9 (h:=?_)))))))))))))))))));(try go_frame);refine hst 10 (h:=fun K hK=>?_);(go_simp; go_at_call 27; (with_reducible refine (HSr.o _ hHeld).mono ?_); rintro q5 w5 ⟨rfl,hx5⟩; have hX5:=hHeld.trans hx5);refine hK.o _ _ (hX5) (fun hHeld=>?_);clear hK K;(try go_frame);refine ht 11 (h:=?_);(try go_frame);refine wpAnyH_done (by kernel_rfl) ?_ _;go_wp2;go_roundg (rn - (k+1));case measure=>omega
     case rel=>exact ⟨k+1,by omega,rfl,by go_num,HX.o.trans hX5⟩
    ·obtain rfl:rn=k:=(by omega);go_wp2;go_ret;exact ⟨rfl,HB.o.2.2.trans HX.o⟩
theorem Tryz.infoVar:(Tryz.prog.info? 73).map (fun i=>(i.zero,i.size,i.bytes))=some (some (.agg #[.int .i64 0,.int .i64 0,.bool false,.bool false,.int .i64 0]),5,32):=by kernel_rfl
theorem Tryz.infoRow:(Tryz.prog.info? 35).map (fun i=>(i.zero,i.size,i.bytes))=some (some (.agg #[.string ⟨#[]⟩,.int .i64 0,.int .i64 0,.slice none 0 0,.int .i64 0]),5,64):=by kernel_rfl
section
variable {β:Type} {f:β->List Value} {T ts:TypeId}
end
theorem cV_one (x:VarV):∀ u ∈ cV x,u.oneCell'=true:=fun u hu=>by
 simp [cV] at hu;rcases hu with rfl | rfl | rfl | rfl | rfl <;> rfl
theorem cRT_one {y:RT} {ao:Option Addr} {n c:Nat} (h:y.2=.slice ao n c):∀ u ∈ cRT y,u.oneCell'=true:=fun u hu=>by
 simp [cRT,cR] at hu;rcases hu with rfl | rfl | rfl | rfl | rfl <;> first | rfl | (rw [h]; rfl)
theorem Rws.pairs {w:World} {v:Value} {l:List RowV} (h:Rws w v l):∃ prs:List RT,prs.map (·.1)=l/\Sl w v 5 (prs.map cRT)/\∀ y ∈ prs,Tms w y.2 y.1.terms/\RowOk y.1:=by
 obtain ⟨tvs,h1,h2,h3⟩:=h;refine ⟨l.zip tvs,?_,?_,fun y hy=>?_⟩
 ·rw [List.map_fst_zip (by omega)]
 ·have:(l.zip tvs).map cRT=List.zipWith cR l tvs:=by
   rw [List.zip_eq_zipWith,List.map_zipWith]; rfl
  rw [this]; exact h2
 ·obtain ⟨i,hi,rfl⟩:=List.getElem_of_mem hy;rw [List.getElem_zip];have hl:i<l.length/\i<tvs.length:=(by rw [List.length_zip] at hi; omega);exact h3 i _ _ (List.getElem?_eq_getElem hl.1) (List.getElem?_eq_getElem hl.2)
theorem Rws.ofPairs {w:World} {v:Value} {prs:List RT} (h:Sl w v 5 (prs.map cRT)) (hT:∀ y ∈ prs,Tms w y.2 y.1.terms/\RowOk y.1):Rws w v (prs.map (·.1)):=by
 refine ⟨prs.map (·.2),by simp,?_,fun i r tv hr ht=>?_⟩
 ·have:List.zipWith cR (prs.map (·.1)) (prs.map (·.2))=prs.map cRT:=by
   rw [List.zipWith_map,List.zipWith_self]; rfl
  rw [this]; exact h
 ·rw [List.getElem?_map] at hr ht;obtain ⟨y,hy,rfl⟩:=Option.map_eq_some_iff.1 hr;rw [hy] at ht;cases ht;exact hT y (List.mem_of_getElem? hy)
theorem typ_ne {w:World} {k k':Nat} {T T':TypeId} {a a':Array Value} (h:blk w k=some (.cells a T (0,0))) (h':blk w k'=some (.cells a' T' (0,0))) (hn:T≠T'):k≠k':=fun e=>by
 subst e;rw [h] at h';cases h';exact hn rfl
def TyB (w:World) (k:Nat) (T:TypeId):Prop:=∃ arr,blk w k=some (.cells arr T (0,0))
theorem TyB.ne {w:World} {k k':Nat} {T T':TypeId} (h:TyB w k T) (h':TyB w k' T') (hn:T≠T'):k≠k':=by
 obtain ⟨a,h1⟩:=h;obtain ⟨b,h2⟩:=h';exact typ_ne h1 h2 hn
theorem wpList_append_el {w:World} {ops:Array Oper} {rest:List Oper} {o:Oper} {a:Act} {Q:Exit->Act->World->Prop} {β:Type} {f:β->List Value} {T ts:TypeId} {z:Value} {size bytes:Nat} (hgd:o.guard=none) (s x:Operand)
  (ho:o.op=.call { callee:=.builtin .append,args:=#[s,x],argTypes:=#[ts,ts] }) (hf:∀ x,(f x).length=size) (x0:β) (h1:∀ u ∈ f x0,u.oneCell'=true) (ht:Tryz.prog.underlying ts=some (.slice T)) (hi:(Tryz.prog.info? T).map (fun i=>(i.zero,i.size,i.bytes))=some (some z,size,bytes)) (hz:z.cells.size=size) (hsz:0<size) (hbs:bytes<=1000)
  (base:Nat) (v:Value) (l:List β) (hs:a.eval s=v) (hown:w.ownsRow base T size v l.length (l.flatMap f)) (ad:Addr) (c:Nat) (hx:a.eval x=.slice (some ad) 1 c) (hsrc:∀ j u,(f x0)[j]?=some u->w.cell? (ad.add j)=some u) (hl:l.length<=100000) (hbase:base<=w.heap.size)
  (h:∀ v' w',w'.ownsRow base T size v' (l++[x0]).length ((l++[x0]).flatMap f)->Ext (fun k=>v.ownBlock=some k) w w'->(v'.ownBlock=v.ownBlock∨v'.ownBlock=some w.heap.size)->wpList Tryz.prog ops Q rest (a.put o.dst v') w') :
  wpList Tryz.prog ops Q (o :: rest) a w:=by
 obtain ⟨i0,hi0,hz0,hz1,hz2⟩:=info_parts hi;refine wpList_append_any hgd s x ts ho base T i0 z size bytes ht hi0 hz0 hz1 hz2 hz hsz v l.length (l.flatMap f) hs hown (some ad) 1 c (fun e=>by cases e) (f x0) hx (by rw [hf,Nat.one_mul]) (.inr ⟨ad,rfl,hsrc⟩) h1 (by unfold maxLen; omega) (Nat.le_trans (Nat.mul_le_mul (show l.length+1<=100001 by omega) hbs) (by decide)) hbase (fun v' w' g1 g2 g3=>h v' w' ?_ ?_ g3)
 ·rw [List.length_append,List.flatMap_append];simpa using g1
 ·exact (Ext.refl (fun k=>v.ownBlock=some k) w).grown g2 (fun k hk _=>hk)
theorem step_append_el {w:World} {ops:Array Oper} {o:Oper} {a:Act} {K:Act->World->Prop} {Q:Exit->Act->World->Prop} {E:Prop} {β:Type} {f:β->List Value} {T ts:TypeId} {z:Value} {size bytes:Nat} (hgd:o.guard=none) (s x:Operand)
  (ho:o.op=.call { callee:=.builtin .append,args:=#[s,x],argTypes:=#[ts,ts] }) (hf:∀ x,(f x).length=size) (x0:β) (h1:∀ u ∈ f x0,u.oneCell'=true) (ht:Tryz.prog.underlying ts=some (.slice T)) (hi:(Tryz.prog.info? T).map (fun i=>(i.zero,i.size,i.bytes))=some (some z,size,bytes)) (hz:z.cells.size=size) (hsz:0<size) (hbs:bytes<=1000)
  (base:Nat) (v:Value) (l:List β) (hs:a.eval s=v) (hown:w.ownsRow base T size v l.length (l.flatMap f)) (ad:Addr) (c:Nat) (hx:a.eval x=.slice (some ad) 1 c) (hsrc:∀ j u,(f x0)[j]?=some u->w.cell? (ad.add j)=some u) (hl:l.length<=100000) (hbase:base<=w.heap.size)
  (h:∀ v' w',w'.ownsRow base T size v' (l++[x0]).length ((l++[x0]).flatMap f)->Ext (fun k=>v.ownBlock=some k) w w'->(v'.ownBlock=v.ownBlock∨v'.ownBlock=some w.heap.size)->K (a.put o.dst v') w') :
  if Region.wanted o (yielded ops a.tmps)=true then Oper.wp Tryz.prog o a w K Q else E:=by
 obtain ⟨i0,hi0,hz0,hz1,hz2⟩:=info_parts hi;refine step_append_any hgd s x ts ho base T i0 z size bytes ht hi0 hz0 hz1 hz2 hz hsz v l.length (l.flatMap f) hs hown (some ad) 1 c (fun e=>by cases e) (f x0) hx (by rw [hf,Nat.one_mul]) (.inr ⟨ad,rfl,hsrc⟩) h1 (by unfold maxLen; omega) (Nat.le_trans (Nat.mul_le_mul (show l.length+1<=100001 by omega) hbs) (by decide)) hbase (fun v' w' g1 g2 g3=>h v' w' ?_ ?_ g3)
 ·rw [List.length_append,List.flatMap_append];simpa using g1
 ·exact (Ext.refl (fun k=>v.ownBlock=some k) w).grown g2 (fun k hk _=>hk)
theorem own_ty {w:World} {base:Nat} {T:TypeId} {s n:Nat} {v:Value} {xs:List Value} (h:w.ownsRow base T s v n xs):∀ g,v.ownBlock=some g->TyB w g T:=fun g hg=>by
 rcases h.2 with ⟨rfl,_⟩ | ⟨g2,cap,cur,rfl,_,h2,_⟩
 ·cases hg
 ·cases hg; exact ⟨_,h2⟩
theorem own_down {w:World} {b b' s n:Nat} {T:TypeId} {v:Value} {xs:List Value} (h:w.ownsRow b T s v n xs) (hb:b'<=b):w.ownsRow b' T s v n xs:=by
 refine ⟨h.1,?_⟩;rcases h.2 with h | ⟨g,cap,cur,e,h1,h2⟩
 ·exact .inl h
 ·exact .inr ⟨g,cap,cur,e,Nat.le_trans hb h1,h2⟩
theorem own_sl {β:Type} {f:β->List Value} {m:Nat} {w:World} {base:Nat} {T:TypeId} {v:Value} {l:List β} (hf:∀ x,(f x).length=m) (h:w.ownsRow base T m v l.length (l.flatMap f)):Sl w v m (l.map f):=by
 rcases h.2 with ⟨rfl,h0⟩ | ⟨g,cap,cur,rfl,hb,hg,hnc,hcm,hcs,htake⟩
 ·exact ⟨none,0,by rw [List.length_map,h0],by rw [List.length_map,h0]; exact Nat.le_refl _,by unfold maxLen; decide,fun _=>rfl,fun h=>by rw [List.length_map,h0] at h; exact absurd h (Nat.lt_irrefl 0)⟩
 ·refine ⟨some ⟨g,0,none⟩,cap,by rw [List.length_map],by rw [List.length_map]; exact hnc,hcm,(fun e=>by cases e),fun _=>⟨g,0,rfl,blk_lt hg,fun i r hi j u hu=>?_⟩⟩;rw [List.getElem?_map] at hi;obtain ⟨x,hx,rfl⟩:=Option.map_eq_some_iff.1 hi;have hj:j<m:=(by rw [<- hf x]; exact (List.getElem?_eq_some_iff.1 hu).1);have hget:=fm_get hf l i hx j hj;rw [hu,<- htake,List.getElem?_take] at hget;rw [Nat.zero_add,cell_of_cells hg,<- Array.getElem?_toList];split at hget
  ·exact hget
  ·cases hget
theorem sl_lies {β:Type} {f:β->List Value} {m:Nat} {w:World} {ao:Option Addr} {n c:Nat} {l:List β} (hm:0<m) (hf:∀ x,(f x).length=m) (h:Sl w (.slice ao n c) m (l.map f)):n=l.length/\(ao=none->c=0)/\Lies w ao l.length (l.flatMap f):=by
 obtain ⟨ao',c',e,h1,h2,h3,h4⟩:=h;cases e;rw [List.length_map] at h4 ⊢;refine ⟨rfl,h3,?_⟩;by_cases h0:l.length=0
 ·exact .inl h0
 ·obtain ⟨b,off,rfl,hb,hc⟩:=h4 (by omega);refine .inr ⟨_,rfl,fun j u hu=>?_⟩;have hj:j<l.length*m:=by
   have:=(List.getElem?_eq_some_iff.1 hu).1;rwa [fm_length hf] at this
  have hi:j / m<l.length:=(Nat.div_lt_iff_lt_mul hm).2 hj;have hr:j % m<m:=Nat.mod_lt _ hm;have hg:=fm_get (f:=f) (m:=m) hf l (j / m) (List.getElem?_eq_getElem hi) (j % m) hr;rw [Nat.div_add_mod'] at hg;have:=hc (j / m) _ (by rw [List.getElem?_map,List.getElem?_eq_getElem hi]; rfl) (j % m) u (hg.symm.trans hu);rw [Nat.add_assoc,Nat.div_add_mod'] at this;simpa [Addr.add_lit] using this
theorem wpList_append_list {w:World} {ops:Array Oper} {rest:List Oper} {o:Oper} {a:Act} {Q:Exit->Act->World->Prop} {β:Type} {f:β->List Value} {T ts:TypeId} {z:Value} {size bytes:Nat} {l:List β} (hgd:o.guard=none) (s x:Operand)
  (ho:o.op=.call { callee:=.builtin .append,args:=#[s,x],argTypes:=#[ts,ts] }) (hf:∀ x,(f x).length=size) (l2:List β) (h1:∀ x ∈ l2,∀ u ∈ f x,u.oneCell'=true) (ht:Tryz.prog.underlying ts=some (.slice T)) (hi:(Tryz.prog.info? T).map (fun i=>(i.zero,i.size,i.bytes))=some (some z,size,bytes)) (hz:z.cells.size=size) (hsz:0<size) (hbs:bytes<=1000)
  (base:Nat) (v:Value) (hs:a.eval s=v) (hown:w.ownsRow base T size v l.length (l.flatMap f)) (ao:Option Addr) (n c:Nat) (hx:a.eval x=.slice ao n c) (hsl:Sl w (.slice ao n c) size (l2.map f)) (hl:l.length+l2.length<=1000) (hbase:base<=w.heap.size)
  (h:∀ v' w',w'.ownsRow base T size v' (l++l2).length ((l++l2).flatMap f)->Ext (fun k=>v.ownBlock=some k) w w'->(v'.ownBlock=v.ownBlock∨v'.ownBlock=some w.heap.size)->wpList Tryz.prog ops Q rest (a.put o.dst v') w') :
  wpList Tryz.prog ops Q (o :: rest) a w:=by
 obtain ⟨i0,hi0,hz0,hz1,hz2⟩:=info_parts hi;obtain ⟨rfl,hc,hnews⟩:=sl_lies hsz hf hsl;refine wpList_append_any hgd s x ts ho base T i0 z size bytes ht hi0 hz0 hz1 hz2 hz hsz v l.length (l.flatMap f) hs hown ao l2.length c hc (l2.flatMap f) hx (fm_length hf l2) hnews (fun u hu=>?_) (by unfold maxLen; omega) (Nat.le_trans (Nat.mul_le_mul hl hbs) (by decide)) hbase (fun v' w' g1 g2 g3=>h v' w' ?_ ?_ g3)
 ·obtain ⟨x,hm,hu⟩:=List.mem_flatMap.1 hu;exact h1 x hm u hu
 ·rw [List.length_append,List.flatMap_append];exact g1
 ·exact (Ext.refl (fun k=>v.ownBlock=some k) w).grown g2 (fun k hk _=>hk)
theorem wpList_append_new {w:World} {ops:Array Oper} {rest:List Oper} {o:Oper} {a:Act} {Q:Exit->Act->World->Prop} {β:Type} {f:β->List Value} {T ts:TypeId} {z:Value} {size bytes:Nat} (hgd:o.guard=none) (s x:Operand)
  (ho:o.op=.call { callee:=.builtin .append,args:=#[s,x],argTypes:=#[ts,ts] }) (hf:∀ x,(f x).length=size) (l2:List β) (h1:∀ x ∈ l2,∀ u ∈ f x,u.oneCell'=true) (ht:Tryz.prog.underlying ts=some (.slice T)) (hi:(Tryz.prog.info? T).map (fun i=>(i.zero,i.size,i.bytes))=some (some z,size,bytes)) (hz:z.cells.size=size) (hsz:0<size) (hbs:bytes<=1000)
  (base:Nat) (v:Value) (hs:a.eval s=v) (hown:w.ownsRow base T size v 0 []) (ao:Option Addr) (n c:Nat) (hx:a.eval x=.slice ao n c) (hsl:Sl w (.slice ao n c) size (l2.map f)) (hl:l2.length<=1000) (hbase:base<=w.heap.size)
  (h:∀ v' w',w'.ownsRow base T size v' l2.length (l2.flatMap f)->Ext (fun k=>v.ownBlock=some k) w w'->(v'.ownBlock=v.ownBlock∨v'.ownBlock=some w.heap.size)->wpList Tryz.prog ops Q rest (a.put o.dst v') w') :
  wpList Tryz.prog ops Q (o :: rest) a w:=wpList_append_list (l:=[]) hgd s x ho hf l2 h1 ht hi hz hsz hbs base v hs hown ao n c hx hsl (by rw [List.length_nil,Nat.zero_add]; exact hl) hbase h
theorem prg_of {w:World} {va vb:Value} {vars:List VarV} {l:List RT} (h1:Sl w va 5 (vars.map cV)) (h2:∀ x ∈ vars,VarOk x) (h3:Sl w vb 5 (l.map cRT)) (h4:∀ y ∈ l,Tms w y.2 y.1.terms/\RowOk y.1):IsPrg w (.agg #[va,vb]) ⟨vars,l.map (·.1)⟩:=⟨_,_,rfl,⟨h1,h2⟩,Rws.ofPairs h3 h4⟩
def withoutP (p:ProgV) (l:List Int):ProgV:=⟨p.vars,p.rows.filter fun r=>decide (r.group=0) || !decide (r.group ∈ l)⟩
section
variable {w0 w w':World} {ob:Nat} {va v v':Value} {vars:List VarV} {prs:List RT} {y:RT}
end
section
variable {P:Program} {md:Region.Mode} {ops:Array Oper} {Q:Exit->Act->World->Prop} {S:World->Prop} {k:Nat->Bool}
def EndsL (P:Program) (md:Region.Mode) (ops:Array Oper) (Q:Exit->Act->World->Prop) (S:World->Prop) (k:Nat->Bool):Nat->Array Bool->Act->World->Prop
 | 0,ls,a,w=>Region.ready md ops ls=[]/\Q .normal a w
 | n+1,ls,a,w=>(Region.ready md ops ls=[]->Q .normal a w)/\∀ i ∈ Region.ready md ops ls,wpOp P ops Q i (fun a' w'=>(k i=false->S w')/\EndsL P md ops Q S k n (ls.setIfInBounds i true) a' w') a w
theorem EndsL.any:∀ (n:Nat) (ls:Array Bool) (a:Act) (w:World),EndsL P md ops Q S k n ls a w->wpAny P md ops Q n ls a w
 | 0,_,_,_,h=>h
 | n+1,_,_,_,h=>⟨h.1,fun i hi=>wpOp_mono (fun a w h=>EndsL.any n _ a w h.2) (h.2 i hi)⟩
def Wts (md:Region.Mode) (ops:Array Oper) (j i:Nat):Prop:=∃ ok,ops[j]?=some ok/\∃ e ∈ ok.after,Region.binds md e=true/\e.on=i
theorem EndsL.take {i:Nat} {oi:Oper} {v:Value} (hi:ops[i]?=some oi) (hsel:∀ (j:Nat) (o:Oper) cs b,ops[j]?=some o->o.op≠.select cs b) (hQ:∀ c a w,Q (.panic c) (a.put oi.dst v) w->Q (.panic c) a w) :
  ∀ (n:Nat) (ls:Array Bool) (a:Act) (w:World),Apart md ops i oi ls->i ∈ Region.ready md ops ls->(k i=false/\∀ j,k j=true->Wts md ops j i∨∃ p,Wts md ops j p/\Wts md ops p i)->(∀ p,Wts md ops p i->ls.getD p false=false)->YieldsIf P ops S oi v a->S w->EndsL P md ops Q S k n (ls.setIfInBounds i true) (a.put oi.dst v) w->EndsL P md ops Q S k (n+1) ls a w:=by
 have first:∀ (n:Nat) (ls:Array Bool) (a:Act) (w:World),i ∈ Region.ready md ops ls->YieldsIf P ops S oi v a->S w->EndsL P md ops Q S k n (ls.setIfInBounds i true) (a.put oi.dst v) w->wpOp P ops Q i (fun a' w'=>(k i=false->S w')/\EndsL P md ops Q S k n (ls.setIfInBounds i true) a' w') a w :=
  fun n ls a w _ hy hS H=>hy.wpOp hi hS ⟨fun _=>hS,H⟩
 intro n;induction n with
 | zero =>
  intro ls a w _ hr _ _ hy hS H;refine ⟨fun h=>(by rw [h] at hr; cases hr),fun j hj=>?_⟩;rcases Decidable.em (j=i) with e | e
  ·rw [e]; exact first 0 ls a w hr hy hS H
  ·have:=ready_mono hj e;rw [H.1] at this; cases this
 | succ n ih =>
  intro ls a w hap hr hk hnl hy hS H;refine ⟨fun h=>(by rw [h] at hr; cases hr),fun j hj=>?_⟩;rcases Decidable.em (j=i) with e | e
  ·rw [e]; exact first (n+1) ls a w hr hy hS H
  ·obtain ⟨hju,oj,hoj,_⟩:=mem_ready.1 hj;have h2:=wpOp_putIf hoj (hap j oj hoj e hju (unlisted hr hoj hj)) (fun cs b=>hsel i oi cs b hi) (fun cs b=>hsel j oj cs b hoj) hQ hy (H.2 j (ready_mono hj e));refine wpOp_mono (fun a' w' h3=>?_) h2;have hr':i ∈ Region.ready md ops (ls.setIfInBounds j true):=ready_mono hr (Ne.symm e);have hjk:k j=false:=by
    cases hkj:k j with
    | false=>rfl
    | true =>
     have hno:∀ p,Wts md ops j p->p≠i/\ls.getD p false=true:=fun p ⟨ok,ho,e',he,hb,hon⟩=>by
      rw [hoj] at ho; cases ho;refine ⟨fun ep=>unlisted hr hoj hj e' he hb (hon.trans ep),?_⟩;obtain ⟨_,o2,ho2,hall⟩:=mem_ready.1 hj;rw [hoj] at ho2; cases ho2;rw [<- hon]; exact hall e' he hb
     rcases hk.2 j hkj with h4 | ⟨p,h4,h5⟩
     ·exact absurd rfl (hno i h4).1
     ·have h6:=(hno p h4).2;rw [hnl p h5] at h6; cases h6
   have hnl':∀ p,Wts md ops p i->(ls.setIfInBounds j true).getD p false=false:=fun p hp=>by
    have hpj:p≠j:=fun ep=>by
     obtain ⟨ok,ho,e',he,hb,hon⟩:=hp;rw [ep,hoj] at ho; cases ho;exact unlisted hr hoj hj e' he hb hon
    rw [getD_set_ne false (Ne.symm hpj)]; exact hnl p hp
   have hS':S w':=h3.2.1 hjk;exact ⟨fun _=>hS',ih _ a' w' (hap.next hju) hr' hk hnl' h3.1 hS' (by rw [Array.setIfInBounds_comm _ _ e]; exact h3.2.2)⟩
end
section
variable {P:Program} {md:Region.Mode} {l:List Oper} {Q:Exit->Act->World->Prop} {S:World->Prop} {k:Nat}
def waits2 (md:Region.Mode) (l:List Oper) (j i:Nat):Bool:=waits md l j i || (List.range l.length).any fun p=>waits md l j p && waits md l p i
def waitsL (md:Region.Mode) (l:List Oper) (k i:Nat):Bool:=decide (i<k) && (List.range l.length).all fun j=>!decide (k<=j) || waits2 md l j i
def idleL (md:Region.Mode) (l:List Oper) (ls:Array Bool) (i:Nat):Bool:=(List.range l.length).all fun p=>!waits md l p i || !ls.getD p false
theorem wts_of {j i:Nat} (h:waits md l j i=true):Wts md l.toArray j i:=waits_spec h
theorem of_wts {j i:Nat} (h:Wts md l.toArray j i):waits md l j i=true:=by
 obtain ⟨ok,ho,e,he,hb,hon⟩:=h;have ho':l[j]?=some ok:=by simpa using ho
 unfold waits;rw [ho'];exact Array.any_eq_true'.2 ⟨e,he,by rw [hb,hon]; simp⟩
theorem idleL_spec {ls:Array Bool} {i:Nat} (h:idleL md l ls i=true):∀ p,Wts md l.toArray p i->ls.getD p false=false:=fun p hp=>by
 have hlt:p<l.length:=by
  obtain ⟨ok,ho,_⟩:=hp;have:=(Array.getElem?_eq_some_iff.1 ho).1;simpa using this
 unfold idleL at h;have h2:=List.all_eq_true.1 h p (List.mem_range.2 hlt);rw [of_wts hp] at h2;simpa using h2
theorem waitsL_spec {i:Nat} (h:waitsL md l k i=true):(fun j=>decide (k<=j) && decide (j<l.length)) i=false/\∀ j,(fun j=>decide (k<=j) && decide (j<l.length)) j=true->Wts md l.toArray j i∨∃ p,Wts md l.toArray j p/\Wts md l.toArray p i:=by
 unfold waitsL at h;simp only [Bool.and_eq_true,decide_eq_true_eq,List.all_eq_true] at h;refine ⟨by simp only [Bool.and_eq_false_iff,decide_eq_false_iff_not]; left; omega,fun j hj=>?_⟩;simp only [Bool.and_eq_true,decide_eq_true_eq] at hj;have h2:=h.2 j (List.mem_range.2 hj.2);rw [decide_eq_true hj.1] at h2;have h3:waits2 md l j i=true:=by simpa using h2
 unfold waits2 at h3;rw [Bool.or_eq_true] at h3;rcases h3 with h3 | h3
 ·exact .inl (wts_of h3)
 ·obtain ⟨p,_,hp⟩:=List.any_eq_true.1 h3;rw [Bool.and_eq_true] at hp;exact .inr ⟨p,wts_of hp.1,wts_of hp.2⟩
abbrev EndsK (P:Program) (md:Region.Mode) (l:List Oper) (Q:Exit->Act->World->Prop) (S:World->Prop) (k:Nat) (n:Nat) (ls:Array Bool) (a:Act) (w:World):Prop:=EndsL P md l.toArray Q S (fun j=>decide (k<=j) && decide (j<l.length)) n ls a w
theorem lt (i:Nat) {oi:Oper} {v:Value} {fuel:Nat} {listed:Array Bool} {a:Act} {w:World} (hi:l[i]?=some oi:=by rfl) (hs:Region.noSelect l.toArray=true:=by kernel_rfl) (hf:Region.free md l.toArray listed i=true:=by kernel_rfl)
  (hr:(Region.ready md l.toArray listed).contains i=true:=by kernel_rfl) (hk:waitsL md l k i=true:=by kernel_rfl) (hnl:idleL md l listed i=true:=by kernel_rfl) (hQ:∀ c a w,Q (.panic c) (a.put oi.dst v) w->Q (.panic c) a w:=by exact fun _ _ _ h=>h) (hw:Region.wanted oi (yielded l.toArray a.tmps)=true:=by rfl)
  (he:∀ w,S w->(execOp a.eval oi).run P w=.ok (.value v) w:=by (intro w hSw; (try go_frame); (try dsimp only at hSw); go_simp) <;> with_reducible rfl) (hS:S w:=by assumption) (h:EndsK P md l Q S k fuel (listed.setIfInBounds i true) (a.put oi.dst v) w):EndsK P md l Q S k (fuel+1) listed a w :=
 have hi':l.toArray[i]?=some oi:=by simpa using hi
 EndsL.take hi' (Region.noSelect_spec hs) hQ fuel listed a w (Region.free_spec hi' hf) (by simpa using hr) (waitsL_spec hk) (idleL_spec hnl) (.inl ⟨hw,he⟩) hS h
theorem lst (i:Nat) {oi:Oper} {fuel:Nat} {listed:Array Bool} {a:Act} {w:World} (hi:l[i]?=some oi:=by rfl) (hr:Region.ready md l.toArray listed=[i]:=by kernel_rfl)
  (h:∀ K':Act->World->Prop,Shut (∀ a w,S w->(S w->EndsK P md l Q S k fuel (listed.setIfInBounds i true) a w)->K' a w)->if Region.wanted oi (yielded l.toArray a.tmps)=true then Oper.wp P oi a w K' Q else K' (a.put oi.dst undef) w) :
  EndsK P md l Q S k (fuel+1) listed a w:=by
 refine ⟨fun h0=>(by rw [hr] at h0; cases h0),fun j hj=>?_⟩;rw [hr] at hj;obtain rfl:=List.mem_singleton.1 hj;exact wpOp_step (by simpa using hi) (fun K' hK=>h K' (fun a w hS hW=>hK a w ⟨fun _=>hS,hW hS⟩))
theorem ll (i:Nat) {oi:Oper} {fuel:Nat} {listed:Array Bool} {a:Act} {w:World} (hi:l[i]?=some oi:=by rfl) (hr:Region.ready md l.toArray listed=[i]:=by kernel_rfl) (hk:(decide (k<=i) && decide (i<l.length))=true:=by kernel_rfl)
  (h:∀ K':Act->World->Prop,Shut (∀ a w,EndsK P md l Q S k fuel (listed.setIfInBounds i true) a w->K' a w)->if Region.wanted oi (yielded l.toArray a.tmps)=true then Oper.wp P oi a w K' Q else K' (a.put oi.dst undef) w) :
  EndsK P md l Q S k (fuel+1) listed a w:=by
 refine ⟨fun h0=>(by rw [hr] at h0; cases h0),fun j hj=>?_⟩;rw [hr] at hj;obtain rfl:=List.mem_singleton.1 hj;exact wpOp_step (by simpa using hi) (fun K' hK=>h K' (fun a w hW=>hK a w ⟨fun e=>absurd (hk.symm.trans e) (by decide),hW⟩))
theorem ldone {listed:Array Bool} {a:Act} {w:World} (hr:Region.ready md l.toArray listed=[]) (h:Q .normal a w):∀ fuel,EndsK P md l Q S k fuel listed a w
 | 0=>⟨hr,h⟩
 | _+1=>⟨fun _=>h,by rw [hr]; simp⟩
theorem lbegin {id:Nat} {a:Act} {w:World} (k:Nat) (S:World->Prop) (hm:P.follows .mixedOrders=true) (hS:S w.drew)
  (h:S w.drew->EndsK P .any l Q S k l.toArray.size (Array.replicate l.toArray.size false) a w.drew):(Code.region id l.toArray true).wp P Q a w :=
 wp_region_any hm (EndsL.any _ _ _ _ (h hS))
end
section
variable {P:Program} {md:Region.Mode} {ops:Array Oper} {Q:Exit->Act->World->Prop} {S S':World->Prop} {k:Nat->Bool}
def EndsM (P:Program) (md:Region.Mode) (ops:Array Oper) (Q:Exit->Act->World->Prop) (S:World->Prop) (k:Nat->Bool):Nat->Array Bool->Act->World->Prop
 | 0,ls,a,w=>Region.ready md ops ls=[]/\Q .normal a w
 | n+1,ls,a,w=>(Region.ready md ops ls=[]->Q .normal a w)/\∀ i ∈ Region.ready md ops ls,wpOp P ops Q i (fun a' w'=>(k i=false->S w->S w')/\EndsM P md ops Q S k n (ls.setIfInBounds i true) a' w') a w
theorem EndsM.any:∀ (n:Nat) (ls:Array Bool) (a:Act) (w:World),EndsM P md ops Q S k n ls a w->wpAny P md ops Q n ls a w
 | 0,_,_,_,h=>h
 | n+1,_,_,_,h=>⟨h.1,fun i hi=>wpOp_mono (fun a w h=>EndsM.any n _ a w h.2) (h.2 i hi)⟩
theorem EndsM.takeF {i:Nat} {oi:Oper} {v:Value} (hi:ops[i]?=some oi) (hsel:∀ (j:Nat) (o:Oper) cs b,ops[j]?=some o->o.op≠.select cs b) (hQ:∀ c a w,Q (.panic c) (a.put oi.dst v) w->Q (.panic c) a w) :
  ∀ (n:Nat) (ls:Array Bool) (a:Act) (w:World),Apart md ops i oi ls->i ∈ Region.ready md ops ls->YieldsIf P ops (fun _=>True) oi v a->EndsM P md ops Q S k n (ls.setIfInBounds i true) (a.put oi.dst v) w->EndsM P md ops Q S k (n+1) ls a w:=by
 have first:∀ (n:Nat) (ls:Array Bool) (a:Act) (w:World),YieldsIf P ops (fun _=>True) oi v a->EndsM P md ops Q S k n (ls.setIfInBounds i true) (a.put oi.dst v) w->wpOp P ops Q i (fun a' w'=>(k i=false->S w->S w')/\EndsM P md ops Q S k n (ls.setIfInBounds i true) a' w') a w :=
  fun n ls a w hy H=>hy.wpOp hi trivial ⟨fun _ hs=>hs,H⟩
 intro n;induction n with
 | zero =>
  intro ls a w _ hr hy H;refine ⟨fun h=>(by rw [h] at hr; cases hr),fun j hj=>?_⟩;rcases Decidable.em (j=i) with e | e
  ·rw [e]; exact first 0 ls a w hy H
  ·have:=ready_mono hj e;rw [H.1] at this; cases this
 | succ n ih =>
  intro ls a w hap hr hy H;refine ⟨fun h=>(by rw [h] at hr; cases hr),fun j hj=>?_⟩;rcases Decidable.em (j=i) with e | e
  ·rw [e]; exact first (n+1) ls a w hy H
  ·obtain ⟨hju,oj,hoj,_⟩:=mem_ready.1 hj;have h2:=wpOp_putIf hoj (hap j oj hoj e hju (unlisted hr hoj hj)) (fun cs b=>hsel i oi cs b hi) (fun cs b=>hsel j oj cs b hoj) hQ hy (H.2 j (ready_mono hj e));refine wpOp_mono (fun a' w' h3=>?_) h2;have hr':i ∈ Region.ready md ops (ls.setIfInBounds j true):=ready_mono hr (Ne.symm e);exact ⟨h3.2.1,ih _ a' w' (hap.next hju) hr' h3.1 (by rw [Array.setIfInBounds_comm _ _ e]; exact h3.2.2)⟩
theorem EndsM.takeD {i:Nat} {oi:Oper} {v:Value} (D:Nat->Prop) (hi:ops[i]?=some oi) (hsel:∀ (j:Nat) (o:Oper) cs b,ops[j]?=some o->o.op≠.select cs b) (hQ:∀ c a w,Q (.panic c) (a.put oi.dst v) w->Q (.panic c) a w)
  (hD:∀ p,D p->∃ q,Wts md ops p q/\(q=i∨D q)) (hk:k i=false/\∀ j,k j=true->D j) :
  ∀ (n:Nat) (ls:Array Bool) (a:Act) (w:World),Apart md ops i oi ls->i ∈ Region.ready md ops ls->(∀ p,D p->ls.getD p false=false)->YieldsIf P ops S oi v a->S w->EndsM P md ops Q S k n (ls.setIfInBounds i true) (a.put oi.dst v) w->EndsM P md ops Q S k (n+1) ls a w:=by
 have first:∀ (n:Nat) (ls:Array Bool) (a:Act) (w:World),i ∈ Region.ready md ops ls->YieldsIf P ops S oi v a->S w->EndsM P md ops Q S k n (ls.setIfInBounds i true) (a.put oi.dst v) w->wpOp P ops Q i (fun a' w'=>(k i=false->S w->S w')/\EndsM P md ops Q S k n (ls.setIfInBounds i true) a' w') a w :=
  fun n ls a w _ hy hS H=>hy.wpOp hi hS ⟨fun _ hs=>hs,H⟩
 intro n;induction n with
 | zero =>
  intro ls a w _ hr _ hy hS H;refine ⟨fun h=>(by rw [h] at hr; cases hr),fun j hj=>?_⟩;rcases Decidable.em (j=i) with e | e
  ·rw [e]; exact first 0 ls a w hr hy hS H
  ·have:=ready_mono hj e;rw [H.1] at this; cases this
 | succ n ih =>
  intro ls a w hap hr hnl hy hS H;refine ⟨fun h=>(by rw [h] at hr; cases hr),fun j hj=>?_⟩;rcases Decidable.em (j=i) with e | e
  ·rw [e]; exact first (n+1) ls a w hr hy hS H
  ·obtain ⟨hju,oj,hoj,_⟩:=mem_ready.1 hj;have h2:=wpOp_putIf hoj (hap j oj hoj e hju (unlisted hr hoj hj)) (fun cs b=>hsel i oi cs b hi) (fun cs b=>hsel j oj cs b hoj) hQ hy (H.2 j (ready_mono hj e));refine wpOp_mono (fun a' w' h3=>?_) h2;have hr':i ∈ Region.ready md ops (ls.setIfInBounds j true):=ready_mono hr (Ne.symm e);have hno:∀ p,Wts md ops j p->p≠i/\ls.getD p false=true:=fun p ⟨ok,ho,e',he,hb,hon⟩=>by
    rw [hoj] at ho; cases ho;refine ⟨fun ep=>unlisted hr hoj hj e' he hb (hon.trans ep),?_⟩;obtain ⟨_,o2,ho2,hall⟩:=mem_ready.1 hj;rw [hoj] at ho2; cases ho2;rw [<- hon]; exact hall e' he hb
   have hnD:¬ D j:=fun hd=>by
    obtain ⟨q,h4,h5⟩:=hD j hd;rcases h5 with h5 | h5
    ·exact (hno q h4).1 h5
    ·have h6:=(hno q h4).2;rw [hnl q h5] at h6; cases h6
   have hjk:k j=false:=by
    cases hkj:k j with
    | false=>rfl
    | true=>exact absurd (hk.2 j hkj) hnD
   have hnl':∀ p,D p->(ls.setIfInBounds j true).getD p false=false:=fun p hp=>by
    have hpj:p≠j:=fun ep=>hnD (ep ▸ hp);rw [getD_set_ne false (Ne.symm hpj)]; exact hnl p hp
   have hS':S w':=h3.2.1 hjk hS;exact ⟨h3.2.1,ih _ a' w' (hap.next hju) hr' hnl' h3.1 hS' (by rw [Array.setIfInBounds_comm _ _ e]; exact h3.2.2)⟩
end
section
variable {P:Program} {md:Region.Mode} {l:List Oper} {Q:Exit->Act->World->Prop} {S:World->Prop} {k:Nat}
def hangs (md:Region.Mode) (o:Oper) (i:Nat) (D:List Nat):Bool:=o.after.any fun e=>Region.binds md e && (e.on == i || D.contains e.on)
def depsOf (md:Region.Mode) (i:Nat):List Oper->Nat->List Nat->List Nat
 | [],_,D=>D
 | o :: l,j,D=>depsOf md i l (j+1) (if hangs md o i D then j :: D else D)
def depsOk (md:Region.Mode) (l:List Oper) (i:Nat) (D:List Nat):Bool:=D.all fun p=>match l[p]? with | some o=>hangs md o i D | none=>false
def lateOk (l:List Oper) (k i:Nat) (D:List Nat):Bool:=decide (i<k) && (List.range l.length).all fun j=>!decide (k<=j) || D.contains j
def idleD (ls:Array Bool) (D:List Nat):Bool:=D.all fun p=>!ls.getD p false
theorem depsOk_spec {i:Nat} {D:List Nat} (h:depsOk md l i D=true):∀ p,p ∈ D->∃ q,Wts md l.toArray p q/\(q=i∨q ∈ D):=fun p hp=>by
 have h1:=List.all_eq_true.1 h p hp;split at h1
 ·rename_i o ho;obtain ⟨e,he,hb⟩:=Array.any_eq_true'.1 h1;simp only [Bool.and_eq_true,Bool.or_eq_true,beq_iff_eq,List.contains_iff_mem] at hb;exact ⟨e.on,⟨o,by simpa using ho,e,he,hb.1,rfl⟩,hb.2⟩
 ·cases h1
theorem lateOk_spec {i:Nat} {D:List Nat} (h:lateOk l k i D=true):(fun j=>decide (k<=j) && decide (j<l.length)) i=false/\∀ j,(fun j=>decide (k<=j) && decide (j<l.length)) j=true->j ∈ D:=by
 unfold lateOk at h;simp only [Bool.and_eq_true,decide_eq_true_eq,List.all_eq_true] at h;refine ⟨by simp only [Bool.and_eq_false_iff,decide_eq_false_iff_not]; left; omega,fun j hj=>?_⟩;simp only [Bool.and_eq_true,decide_eq_true_eq] at hj;have h2:=h.2 j (List.mem_range.2 hj.2);rw [decide_eq_true hj.1] at h2;simpa using h2
abbrev EndsMk (P:Program) (md:Region.Mode) (l:List Oper) (Q:Exit->Act->World->Prop) (S:World->Prop) (k:Nat) (n:Nat) (ls:Array Bool) (a:Act) (w:World):Prop:=EndsM P md l.toArray Q S (fun j=>decide (k<=j) && decide (j<l.length)) n ls a w
theorem mf (i:Nat) {oi:Oper} {v:Value} {fuel:Nat} {listed:Array Bool} {a:Act} {w:World} (hi:l[i]?=some oi:=by rfl) (hs:Region.noSelect l.toArray=true:=by kernel_rfl) (hf:Region.free md l.toArray listed i=true:=by kernel_rfl)
  (hr:(Region.ready md l.toArray listed).contains i=true:=by kernel_rfl) (hQ:∀ c a w,Q (.panic c) (a.put oi.dst v) w->Q (.panic c) a w:=by exact fun _ _ _ h=>h) (hw:Region.wanted oi (yielded l.toArray a.tmps)=true:=by rfl)
  (he:∀ w,True->(execOp a.eval oi).run P w=.ok (.value v) w:=by (intro w _; (try go_frame); go_simp) <;> with_reducible rfl) (h:EndsMk P md l Q S k fuel (listed.setIfInBounds i true) (a.put oi.dst v) w):EndsMk P md l Q S k (fuel+1) listed a w :=
 have hi':l.toArray[i]?=some oi:=by simpa using hi
 EndsM.takeF hi' (Region.noSelect_spec hs) hQ fuel listed a w (Region.free_spec hi' hf) (by simpa using hr) (.inl ⟨hw,he⟩) h
theorem mu (i:Nat) {oi:Oper} {v:Value} {fuel:Nat} {listed:Array Bool} {a:Act} {w:World} (hi:l[i]?=some oi:=by rfl) (hs:Region.noSelect l.toArray=true:=by kernel_rfl) (hf:Region.free md l.toArray listed i=true:=by kernel_rfl)
  (hr:(Region.ready md l.toArray listed).contains i=true:=by kernel_rfl) (hk:depsOk md l i (depsOf md i l 0 [])=true:=by kernel_rfl) (hl:lateOk l k i (depsOf md i l 0 [])=true:=by kernel_rfl) (hnl:idleD listed (depsOf md i l 0 [])=true:=by kernel_rfl) (hQ:∀ c a w,Q (.panic c) (a.put oi.dst v) w->Q (.panic c) a w:=by exact fun _ _ _ h=>h) (hw:Region.wanted oi (yielded l.toArray a.tmps)=true:=by rfl)
  (he:∀ w,S w->(execOp a.eval oi).run P w=.ok (.value v) w:=by (intro w hSw; (try go_frame); (try dsimp only at hSw); go_simp) <;> with_reducible rfl) (hS:S w:=by assumption) (h:EndsMk P md l Q S k fuel (listed.setIfInBounds i true) (a.put oi.dst v) w):EndsMk P md l Q S k (fuel+1) listed a w :=
 have hi':l.toArray[i]?=some oi:=by simpa using hi
 EndsM.takeD (fun p=>p ∈ depsOf md i l 0 []) hi' (Region.noSelect_spec hs) hQ (depsOk_spec hk) (lateOk_spec hl) fuel listed a w (Region.free_spec hi' hf) (by simpa using hr) (fun p hp=>by have:=List.all_eq_true.1 hnl p hp; simpa using this) (.inl ⟨hw,he⟩) hS h
theorem mst (i:Nat) {oi:Oper} {fuel:Nat} {listed:Array Bool} {a:Act} {w:World} (hi:l[i]?=some oi:=by rfl) (hr:Region.ready md l.toArray listed=[i]:=by kernel_rfl)
  (h:∀ K':Act->World->Prop,Shut (∀ a w,S w->(S w->EndsMk P md l Q S k fuel (listed.setIfInBounds i true) a w)->K' a w)->if Region.wanted oi (yielded l.toArray a.tmps)=true then Oper.wp P oi a w K' Q else K' (a.put oi.dst undef) w) :
  EndsMk P md l Q S k (fuel+1) listed a w:=by
 refine ⟨fun h0=>(by rw [hr] at h0; cases h0),fun j hj=>?_⟩;rw [hr] at hj;obtain rfl:=List.mem_singleton.1 hj;exact wpOp_step (by simpa using hi) (fun K' hK=>h K' (fun a w hS hW=>hK a w ⟨fun _ _=>hS,hW hS⟩))
theorem ml (i:Nat) {oi:Oper} {fuel:Nat} {listed:Array Bool} {a:Act} {w:World} (hi:l[i]?=some oi:=by rfl) (hr:Region.ready md l.toArray listed=[i]:=by kernel_rfl) (hk:(decide (k<=i) && decide (i<l.length))=true:=by kernel_rfl)
  (h:∀ K':Act->World->Prop,Shut (∀ a w,EndsMk P md l Q S k fuel (listed.setIfInBounds i true) a w->K' a w)->if Region.wanted oi (yielded l.toArray a.tmps)=true then Oper.wp P oi a w K' Q else K' (a.put oi.dst undef) w) :
  EndsMk P md l Q S k (fuel+1) listed a w:=by
 refine ⟨fun h0=>(by rw [hr] at h0; cases h0),fun j hj=>?_⟩;rw [hr] at hj;obtain rfl:=List.mem_singleton.1 hj;exact wpOp_step (by simpa using hi) (fun K' hK=>h K' (fun a w hW=>hK a w ⟨fun e=>absurd (hk.symm.trans e) (by decide),hW⟩))
theorem mdone {listed:Array Bool} {a:Act} {w:World} (hr:Region.ready md l.toArray listed=[]) (h:Q .normal a w):∀ fuel,EndsMk P md l Q S k fuel listed a w
 | 0=>⟨hr,h⟩
 | _+1=>⟨fun _=>h,by rw [hr]; simp⟩
theorem mbegin {id:Nat} {a:Act} {w:World} (k:Nat) (S:World->Prop) (hm:P.follows .mixedOrders=true) (hS:S w.drew)
  (h:S w.drew->EndsMk P .any l Q S k l.toArray.size (Array.replicate l.toArray.size false) a w.drew):(Code.region id l.toArray true).wp P Q a w :=
 wp_region_any hm (EndsM.any _ _ _ _ (h hS))
end
def keepR (l:List Int) (r:RowV):Bool:=decide (r.group=0) || !decide (r.group ∈ l)
theorem filter_snoc {α:Type} {f:α->Bool} {l:List α} {d:α} {i:Nat} (hi:i<l.length):(l.take (i+1)).filter f=(l.take i).filter f++if f (l.getD i d) then [l.getD i d] else []:=by
 rw [List.take_succ_eq_append_getElem hi,List.filter_append,getD_lt hi d];by_cases h:f l[i] <;> simp [h]
theorem Tryz.infoTerm:(Tryz.prog.info? 70).map (fun i=>(i.zero,i.size,i.bytes))=some (some (.agg #[.int .i64 0,.int .i64 0]),2,16):=by kernel_rfl
theorem cT_len' (x:TermV):(cT x).length=2:=rfl
theorem cT_one' (x:TermV):∀ u ∈ cT x,u.oneCell'=true:=fun u hu=>by
 simp [cT] at hu;rcases hu with rfl | rfl <;> rfl
theorem cloneV_any (w:World) (ao:Option Addr) (n c:Nat) (l:List VarV) (h:Sl w (.slice ao n c) 5 (l.map cV)) (hn:l.length<=1000):Calls Tryz.prog 97 #[.slice ao n c] w (fun r w'=>∃ v',r=.returned v'/\w'.ownsRow w.heap.size 73 5 v' l.length (l.flatMap cV)/\XF w w'):=by
 have q22:∀ (w:World) (a:Option Addr) (n c n' c':Nat),(binOp .eql 22 (.slice a n c) (.slice none n' c')).run Tryz.prog w=.ok (.bool a.isNone) w:=fun w a n c n' c'=>Lib.run_eql_slice_nil w _ _ a n c n' c' Tryz.underlying22;cases ao with
 | none =>
  obtain ⟨rfl,hc,hl⟩:=sl_lies (by decide) cV_len h;have h0:l=[]:=by
   rcases hl with h | ⟨a,e,_⟩
   ·exact List.eq_nil_of_length_eq_zero h
   ·cases e
  subst h0;clear h hl hc;go_enter Tryz.func97,Tryz.ntmps97;go_wp2;go_ret;exact ⟨_,rfl,World.ownsRow_nil _ _ _ 5,Ext.refl _ _⟩
 | some ad =>
  have hx1:XF w (w.alloc (.cells #[] 73)):=(Ext.refl _ w).alloc _;have HX:=bH (bI (h.keep hx1) (bI (show (w.alloc (.cells #[] 73)).ownsRow w.heap.size 73 5 (.slice (some ⟨w.heap.size,0,none⟩) 0 0) 0 [] from ownsRow_empty 5 (Nat.le_refl _) (blk_alloc_at w (.cells #[] 73))) hx1));clear h hx1;go_enter Tryz.func97,Tryz.ntmps97;go_wp2_with (at_builtin; refine wpList_append_new (f:=cV) rfl (.tmp 5) (.tmp 6) rfl cV_len l (fun x _=>cV_one x) Tryz.underlying22 Tryz.infoVar rfl (by decide) (by decide) w.heap.size (.slice (some ⟨w.heap.size,0,none⟩) 0 0) rfl HX.o.2.1 (some ad) n c rfl HX.o.1 hn HX.o.2.2.size ?_; intro v' w' g1 g2 g3; obtain ⟨ao9,ac9,rfl⟩:=ownsRow_shape g1);go_ret;exact ⟨_,rfl,g1,HX.o.2.2.own g2 (fun k hk=>by cases hk; exact Nat.le_refl _)⟩
theorem cloneT_any (w:World) (ao:Option Addr) (n c:Nat) (l:List TermV) (h:Sl w (.slice ao n c) 2 (l.map cT)) (hn:l.length<=1000):Calls Tryz.prog 99 #[.slice ao n c] w (fun r w'=>∃ v',r=.returned v'/\w'.ownsRow w.heap.size 70 2 v' l.length (l.flatMap cT)/\XF w w'):=by
 have q22:∀ (w:World) (a:Option Addr) (n c n' c':Nat),(binOp .eql 33 (.slice a n c) (.slice none n' c')).run Tryz.prog w=.ok (.bool a.isNone) w:=fun w a n c n' c'=>Lib.run_eql_slice_nil w _ _ a n c n' c' Tryz.underlying33;cases ao with
 | none =>
  obtain ⟨rfl,hc,hl⟩:=sl_lies (by decide) cT_len' h;have h0:l=[]:=by
   rcases hl with h | ⟨a,e,_⟩
   ·exact List.eq_nil_of_length_eq_zero h
   ·cases e
  subst h0;clear h hl hc;go_enter Tryz.func99,Tryz.ntmps99;go_wp2;go_ret;exact ⟨_,rfl,World.ownsRow_nil _ _ _ 2,Ext.refl _ _⟩
 | some ad =>
  have hx1:XF w (w.alloc (.cells #[] 70)):=(Ext.refl _ w).alloc _;have HX:=bH (bI (h.keep hx1) (bI (show (w.alloc (.cells #[] 70)).ownsRow w.heap.size 70 2 (.slice (some ⟨w.heap.size,0,none⟩) 0 0) 0 [] from ownsRow_empty 2 (Nat.le_refl _) (blk_alloc_at w (.cells #[] 70))) hx1));clear h hx1;go_enter Tryz.func99,Tryz.ntmps99;go_wp2_with (at_builtin; refine wpList_append_new (f:=cT) rfl (.tmp 5) (.tmp 6) rfl cT_len' l (fun x _=>cT_one' x) Tryz.underlying33 Tryz.infoTerm rfl (by decide) (by decide) w.heap.size (.slice (some ⟨w.heap.size,0,none⟩) 0 0) rfl HX.o.2.1 (some ad) n c rfl HX.o.1 hn HX.o.2.2.size ?_; intro v' w' g1 g2 g3; obtain ⟨ao9,ac9,rfl⟩:=ownsRow_shape g1);go_ret;exact ⟨_,rfl,g1,HX.o.2.2.own g2 (fun k hk=>by cases hk; exact Nat.le_refl _)⟩
theorem fm_set {β:Type} {f:β->List Value} {m:Nat} (hf:∀ x,(f x).length=m):∀ (l:List β) (k:Nat) {x y:β} {j:Nat} {u:Value},l[k]?=some x->j<m->f y=(f x).set j u->(l.set k y).flatMap f=(l.flatMap f).set (k*m+j) u
 | [],k,x,y,j,u,h,_,_=>by simp at h
 | a :: l,0,x,y,j,u,h,hj,hy=>by
  simp at h;subst h;simp only [List.set_cons_zero,List.flatMap_cons,Nat.zero_mul,Nat.zero_add];rw [hy,List.set_append_left _ _ (by rw [hf]; exact hj)]
 | a :: l,k+1,x,y,j,u,h,hj,hy=>by
  simp only [List.getElem?_cons_succ] at h;simp only [List.set_cons_succ,List.flatMap_cons];rw [List.set_append_right _ _ (by rw [hf,Nat.succ_mul]; omega),fm_set hf l k h hj hy,hf];congr 2;rw [Nat.succ_mul]; omega
theorem typ_ne' {w:World} {k k':Nat} {T T':TypeId} (h:TyB w k T) (h':TyB w k' T') (hn:T≠T'):k≠k':=TyB.ne h h' hn
theorem SOwn.set {β:Type} {f:β->List Value} {T:TypeId} {w:World} {base g n c:Nat} {l:List β} (hf:∀ x,(f x).length=5) (h:SOwn f T w base (.slice (some ⟨g,0,none⟩) n c) l) {k j:Nat} {x y:β} {u:Value} (hk:l[k]?=some x) (hj:j<5) (hy:f y=(f x).set j u) :
  SOwn f T (w.setCell ⟨g,k*5+j,none⟩ u) base (.slice (some ⟨g,0,none⟩) n c) (l.set k y)/\w.frozen? ⟨g,k*5+j,none⟩=false/\w.cell? ⟨g,k*5+j,none⟩=(f x)[j]?/\base<=g/\TyB w g T:=by
 have hkl:k<l.length:=(List.getElem?_eq_some_iff.1 hk).1;rcases h.2 with ⟨e,h0⟩ | ⟨g',cap,cur,e,hb,hg,hnc,hcm,hcs,htake⟩
 ·omega
 ·cases e;have hget:=fm_get (f:=f) (m:=5) hf l k hk j hj;refine ⟨?_,free_of_cells hg _,?_,hb,⟨_,hg⟩⟩
  ·refine ⟨by rw [List.length_set,fm_length hf]; rw [List.length_set],.inr ⟨g,c,_,by rw [List.length_set],hb,blk_setCell_same hg (k*5+j) u,by rw [List.length_set]; exact hnc,hcm,by rw [Array.size_setIfInBounds]; exact hcs,?_⟩⟩;rw [List.length_set,fm_set hf l k hk hj hy,<- htake,Array.toList_setIfInBounds];rw [List.take_set]
  ·rw [cell_of_cells hg,<- Array.getElem?_toList,<- hget,<- htake,List.getElem?_take_of_lt (by omega)]
theorem oneL_snoc (vars:List VarV) (l:List Int) (v:Int):oneL vars (l++[v])=(oneL vars l).set v.toNat { (oneL vars l).getD v.toNat var0 with lo:=1 }:=by
 unfold oneL; rw [List.foldl_append]; rfl
theorem take_snoc {α:Type} {l:List α} {i:Nat} {d:α} (h:i<l.length):l.take (i+1)=l.take i++[l.getD i d]:=by
 rw [List.take_succ_eq_append_getElem h,getD_lt h]
structure QSt (w wr:World) (pb rb qb:Nat) (pc rc:Array Value) (rT:TypeId) (vv:Value) (l:List VarV):Prop where
 ext:XF w wr
 bp:blk wr pb=some (.cells pc 25 (0,0))
 br:blk wr rb=some (.cells rc rT (0,0))
 bq:blk wr qb=some (.cells #[vv,.slice none 0 0] 25 (0,0))
 own:SOwn cV 73 wr w.heap.size vv l
section
variable {w wr w':World} {pb rb qb:Nat} {pc rc:Array Value} {rT:TypeId} {vv:Value} {l:List VarV}
theorem QSt.keep (h:QSt w wr pb rb qb pc rc rT vv l) (hx:XF wr w'):QSt w w' pb rb qb pc rc rT vv l :=
 ⟨h.ext.trans hx,blk_keep h.bp hx,blk_keep h.br hx,blk_keep h.bq hx,h.own.keep hx⟩
theorem QSt.past {s:Nat} (h:QSt w wr pb rb qb pc rc rT vv l) (hx:Ext (fun k=>k=s) wr w') (hs:TyB wr s 64) (hr:rT≠64) (hl:w.heap.size<=s):QSt w w' pb rb qb pc rc rT vv l :=
 ⟨h.ext.own hx (fun k e=>by have e':k=s:=e; omega),(hx.blk (blk_lt h.bp) (fun e=>typ_ne' ⟨_,h.bp⟩ hs (by decide) e)).trans h.bp,(hx.blk (blk_lt h.br) (fun e=>typ_ne' ⟨_,h.br⟩ hs hr e)).trans h.br,(hx.blk (blk_lt h.bq) (fun e=>typ_ne' ⟨_,h.bq⟩ hs (by decide) e)).trans h.bq,
  ownsRow_ext h.own hx (fun g hg e=>typ_ne' (own_ty h.own g hg) hs (by decide) e)⟩
theorem QSt.set {g n c k:Nat} (h:QSt w wr pb rb qb pc rc rT (.slice (some ⟨g,0,none⟩) n c) l) (hr:rT≠73) (hk:k<l.length) :
  QSt w (wr.setCell ⟨g,k*5,none⟩ (.int .i64 1)) pb rb qb pc rc rT (.slice (some ⟨g,0,none⟩) n c) (l.set k { l.getD k var0 with lo:=1 })/\wr.frozen? ⟨g,k*5,none⟩=false/\∃ u,wr.cell? ⟨g,k*5,none⟩=some u:=by
 have hk2:l[k]?=some (l.getD k var0):=by rw [getD_lt hk]; exact List.getElem?_eq_getElem hk
 obtain ⟨h1,h2,h3,h4,h5⟩:=SOwn.set cV_len h.own (k:=k) (j:=0) (x:=l.getD k var0) (y:={ l.getD k var0 with lo:=1 }) (u:=.int .i64 1) hk2 (by decide) rfl;rw [Nat.add_zero] at h1 h2 h3;have hx:=(Ext.refl (fun k=>k=g) wr).setCell (p:=⟨g,k*5,none⟩) (.int .i64 1) (fun _=>rfl);exact ⟨⟨h.ext.own hx (fun k e=>by have e':k=g:=e; omega),(hx.blk (blk_lt h.bp) (fun e=>typ_ne' ⟨_,h.bp⟩ h5 (by decide) e)).trans h.bp,(hx.blk (blk_lt h.br) (fun e=>typ_ne' ⟨_,h.br⟩ h5 hr e)).trans h.br,(hx.blk (blk_lt h.bq) (fun e=>typ_ne' ⟨_,h.bq⟩ h5 (by decide) e)).trans h.bq,h1⟩,h2,_,h3⟩
theorem QSt.prg {p:ProgV} {vs:List Int} (h:QSt w wr pb rb qb pc rc rT vv (oneL p.vars vs)) (hv:∀ x ∈ p.vars,VarOk x):IsPrg wr (.agg #[vv,.slice none 0 0]) (oneP p vs):=by
 have hok:∀ x ∈ oneL p.vars vs,VarOk x:=by
  have:∀ (vs:List Int) (l:List VarV),(∀ x ∈ l,VarOk x)->∀ x ∈ oneL l vs,VarOk x:=fun vs=>by
   induction vs with
   | nil=>exact fun l h=>h
   | cons v vs ih =>
    intro l hl;refine ih _ (fun x hx=>?_);rcases List.mem_or_eq_of_mem_set hx with h | h
    ·exact hl x h
    ·subst h;have h0:VarOk (l.getD v.toNat var0):=by
      by_cases hlt:v.toNat<l.length
      ·rw [getD_lt hlt]; exact hl _ (List.getElem_mem _)
      ·rw [List.getD_eq_getElem?_getD,List.getElem?_eq_none (by omega)];exact ⟨(by decide:(-9223372036854775808:Int)<=0/\(0:Int)<=9223372036854775807),(by decide:(-9223372036854775808:Int)<=0/\(0:Int)<=9223372036854775807),(by decide:(-9223372036854775808:Int)<=0/\(0:Int)<=9223372036854775807)⟩
     exact ⟨(by decide:(-9223372036854775808:Int)<=1/\(1:Int)<=9223372036854775807),h0.up,h0.co⟩
  exact this vs p.vars hv
 exact ⟨_,_,rfl,⟨h.own.sl cV_len,hok⟩,⟨[],rfl,Sl.nil wr 5,fun i r tv h=>by cases h⟩⟩
end
theorem cfL_next {n:Nat} {sg:Int} {ts:List TermV} {k v:Nat} (hk:k<ts.length) (hv:(ts.getD k term0).var=v) (hn:v<n):∀ j,(fun i=>if i=v then (sg:Rat)*((ts.getD k term0).coef:Rat) else atQ (cfL n sg (ts.take k)) i) j=atQ (cfL n sg (ts.take (k+1))) j:=fun j=>by
 rw [take_snoc (d:=term0) hk,cfL_snoc,hv,show (v:Int).toNat=v by omega];generalize (sg:Rat)*((ts.getD k term0).coef:Rat)=c;show (if j=v then c else atQ (cfL n sg (ts.take k)) j)=atQ ((cfL n sg (ts.take k)).set v c) j;have hl:=cfL_length n sg (ts.take k);generalize cfL n sg (ts.take k)=l at *;rw [atQ_nat,atQ_nat,List.getD_eq_getElem?_getD,List.getD_eq_getElem?_getD];by_cases e:j=v
 ·subst e;rw [if_pos rfl,List.getElem?_set_self (by omega)]; rfl
 ·rw [if_neg e,List.getElem?_set_ne (fun h=>e h.symm)]
theorem listTo_atQ {l:List Rat} {n:Nat} (h:l.length=n):listTo n (fun j=>atQ l j)=l:=by
 refine List.ext_getElem (by rw [listTo_length,h]) fun i h1 h2=>?_;simp only [listTo,List.getElem_map,List.getElem_range];rw [atQ_nat,getD_lt h2]
theorem cfL_sz {n:Nat} {sg:Int} (hs:InR sg) {ts:List TermV} (ht:∀ t ∈ ts,InR t.coef) (j:Nat):Sz (atQ (cfL n sg ts) j) 4:=by
 have h0:∀ (ts:List TermV),(∀ t ∈ ts,InR t.coef)->∀ (l:List Rat),(∀ q ∈ l,Sz q 4)->∀ q ∈ ts.foldl (fun l t=>l.set t.var.toNat ((sg:Rat)*(t.coef:Rat))) l,Sz q 4:=fun ts=>by
  induction ts with
  | nil=>exact fun _ l h=>h
  | cons t ts ih =>
   intro ht l hl;refine ih (fun s hs=>ht s (List.mem_cons_of_mem _ hs)) _ (fun q hq=>?_);rcases List.mem_or_eq_of_mem_set hq with h | h
   ·exact hl q h
   ·rw [h]; exact (Sz.int hs).mul (Sz.int (ht t (List.mem_cons_self ..)))
 rw [atQ_nat];by_cases hj:j<(cfL n sg ts).length
 ·rw [getD_lt hj];exact h0 ts ht (List.replicate n 0) (fun q hq=>by rw [List.eq_of_mem_replicate hq]; exact Sz.zero.mono (by decide)) _ (List.getElem_mem _)
 ·rw [List.getD_eq_getElem?_getD,List.getElem?_eq_none (by omega)];exact Sz.zero.mono (by decide)
end Go.Proofs.YtjaldknfeojjkaaGreat
