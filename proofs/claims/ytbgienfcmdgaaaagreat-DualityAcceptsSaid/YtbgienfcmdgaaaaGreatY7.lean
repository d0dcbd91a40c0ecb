/-
  Texts of the proof, part 7. Conditions: each lemma names its own.
-/
import Derived.Test.YtbgienfcmdgaaaaGreatY1
import Derived.Test.YtbgienfcmdgaaaaGreatY4
import Derived.Test.YtbgienfcmdgaaaaGreatY5
import Derived.Test.YtbgienfcmdgaaaaGreatY6
import Derived.Maps.RangeWalk
set_option linter.unusedVariables false
set_option linter.unusedSimpArgs false
set_option maxRecDepth 100000
set_option maxHeartbeats 16000000
namespace Go.Proofs.YtbgienfcmdgaaaaGreat
open Go.RowKit Go.MapKept
open Go.ChangeMaps (setBlock)
open Go.RowKit Go.MapKept Go.Lib
theorem inn_any (w:World) (n:Int):Calls Tryz.prog 81 #[.int .i64 n] w (BoolPost w (limB n)):=by
 go_enter Tryz.func81,Tryz.ntmps81
 by_cases h1:-1099511627776<=n
 ·by_cases h2:n<=1099511627776
  ·go_wp2
   go_ret
   exact ⟨ret_bool (by simp [limB,h1,h2]),Ext.refl _ _⟩
  ·go_wp2
   go_ret
   exact ⟨ret_bool (by simp [limB,h1,h2]),Ext.refl _ _⟩
 ·go_wp2
  go_ret
  exact ⟨ret_bool (by unfold limB; rw [decide_eq_false (p:=(-1099511627776<=n)) (by omega)]; rfl),Ext.refl _ _⟩
def chB (c:Nat):Bool:=decide (32<=c) && decide (c<=126)
theorem nameB_true {s:ByteArray} (h:∀ i (hi:i<s.size),chB (s[i]'hi).toNat=true):nameB s=true:=by
 unfold nameB
 rw [ByteArray.toList_eq,List.all_eq_true]
 intro x hx
 obtain ⟨i,hi,rfl⟩:=List.getElem_of_mem hx
 have hi':i<s.size:=by rw [Array.length_toList] at hi; exact hi
 have:=h i hi'
 rw [Array.getElem_toList]
 exact this
theorem nameB_false {s:ByteArray} {i:Nat} (hi:i<s.size) (h:chB (s[i]'hi).toNat=false):nameB s=false:=by
 unfold nameB
 rw [ByteArray.toList_eq,List.all_eq_false]
 refine ⟨s[i]'hi,?_,?_⟩
 ·show s.data[i] ∈ s.data.toList
  simp
 ·have:chB (s[i]'hi).toNat≠true:=by rw [h]; decide
  exact this
theorem ValidRow_any (w:World) (vars:Nat) (hv:vars<=9223372036854775807) (r:RowV) (ta:Option Addr) (tc:Nat) (hok:RowOk r) (ht:Tms w (.slice ta r.terms.length tc) r.terms) :
  Calls Tryz.prog 34 #[.int .i64 vars,.agg #[.string r.name,.int .i64 r.group,.int .i64 r.kind,.slice ta r.terms.length tc,.int .i64 r.bound]] w (BoolPost w (rowB vars r)):=by
 have hns:r.name.size<=9223372036854775807:=by have:=hok.name; unfold maxLen at this; omega
 have hg:=hok.group
 have hk:=hok.kind
 unfold InR at hg hk
 obtain ⟨-,-,-,-,htn,-⟩:=ht.shape
 have HT:=bH ht
 have HR:=bH (show rowB vars r=(decide (0<=r.kind) && decide (r.kind<=2) && decide (0<=r.group) && decide (r.group<=60) && decide (r.name.size<=80) && limB r.bound && nameB r.name && termsB vars (-1) r.terms) from rfl)
 have hb1:=blk_alloc_at w (.cells #[.string r.name,.int .i64 r.group,.int .i64 r.kind,.slice ta r.terms.length tc,.int .i64 r.bound] 58)
 have hx1:=(Ext.refl (fun _=>False) w).alloc (.cells #[.string r.name,.int .i64 r.group,.int .i64 r.kind,.slice ta r.terms.length tc,.int .i64 r.bound] 58)
 have HB:=bH (bI hb1 hx1)
 clear ht hok hb1 hx1
 obtain ⟨tl,htl⟩:∃ tl,r.terms.length=tl:=⟨_,rfl⟩
 have HTL:=bH htl
 rw [htl] at htn HT HB ⊢
 clear htl
 obtain ⟨gr,hgr⟩:∃ gr,r.group=gr:=⟨_,rfl⟩
 rw [hgr] at hg HR HB ⊢
 clear hgr
 obtain ⟨kd,hkd⟩:∃ kd,r.kind=kd:=⟨_,rfl⟩
 rw [hkd] at hk HR HB ⊢
 clear hkd
 obtain ⟨bd,hbd⟩:∃ bd,r.bound=bd:=⟨_,rfl⟩
 rw [hbd] at HR HB ⊢
 clear hbd
 obtain ⟨nm,hnm⟩:∃ nm,r.name=nm:=⟨_,rfl⟩
 rw [hnm] at hns HR HB ⊢
 clear hnm
 go_enter Tryz.func34,Tryz.ntmps34
 go_upto_region 1 with fail
 generalize hw1:w.alloc (.cells #[.string nm,.int .i64 gr,.int .i64 kd,.slice ta tl tc,.int .i64 bd] 58)=w1 at *
 clear hw1
 obtain ⟨rb,hrb⟩:∃ rb,w.heap.size=rb:=⟨_,rfl⟩
 rw [hrb] at HB ⊢
 clear hrb
 have e0:=cellq HB.out.1 0 rfl
 have e1:=cellq HB.out.1 1 rfl
 have e2:=cellq HB.out.1 2 rfl
 have e4:=cellq HB.out.1 4 rfl
 by_cases c4:kd<0
 ·go_wp2
  go_ret
  exact ⟨ret_bool (by rw [HR.out,decide_eq_false (p:=(0<=kd)) (by omega)]; simp),HB.out.2⟩
 by_cases c5:2<kd
 ·go_wp2
  go_ret
  exact ⟨ret_bool (by rw [HR.out,decide_eq_false (p:=(kd<=2)) (by omega)]; simp),HB.out.2⟩
 by_cases c2:gr<0
 ·go_wp2
  go_ret
  exact ⟨ret_bool (by rw [HR.out,decide_eq_false (p:=(0<=gr)) (by omega)]; simp),HB.out.2⟩
 by_cases c3:60<gr
 ·go_wp2
  go_ret
  exact ⟨ret_bool (by rw [HR.out,decide_eq_false (p:=(gr<=60)) (by omega)]; simp),HB.out.2⟩
 by_cases c1:80<nm.size
 ·have c1':(80:Int)<(nm.size:Int):=by omega
  go_wp2
  go_ret
  exact ⟨ret_bool (by rw [HR.out,decide_eq_false (p:=(nm.size<=80)) (by omega)]; simp),HB.out.2⟩
 have c1':¬ (80:Int)<(nm.size:Int):=by omega
 have HR2:Hid (rowB vars r=(limB bd && nameB nm && termsB vars (-1) r.terms)):=bH (by
  rw [HR.out,decide_eq_true (p:=(0<=kd)) (by omega),decide_eq_true (p:=(kd<=2)) (by omega),decide_eq_true (p:=(0<=gr)) (by omega),decide_eq_true (p:=(gr<=60)) (by omega),decide_eq_true (p:=(nm.size<=80)) (by omega)]
  simp)
 clear HR
 go_wp2_with fail
 refine (inn_any w1 bd).mono ?_
 rintro r2 w2 ⟨rfl,hx2⟩
 have HB2:=bH (bI (blk_keep HB.out.1 hx2) (HB.out.2.trans hx2))
 clear hx2 HB e0 e1 e2 e4
 cases hlb:limB bd with
 | false =>
  rw [hlb] at HR2
  clear hlb
  go_wp2
  go_ret
  exact ⟨ret_bool (by rw [HR2.out]; rfl),HB2.out.2⟩
 | true =>
  rw [hlb] at HR2
  clear hlb c1 c1' c2 c3 c4 c5 hg hk
  have e0:=cellq HB2.out.1 0 rfl
  obtain ⟨ns,hnsz⟩:∃ ns,nm.size=ns:=⟨_,rfl⟩
  have HNS:=bH hnsz
  go_wp2_with fail
  go_loopg [5] ns (fun gg v5 wr=>∃ (k:Nat),k<=ns/\gg=ns - k/\v5=.int .i64 k/\(∀ j (hj:j<nm.size),j<k->chB (nm[j]'hj).toNat=true)/\wr=w2)
  case atStart=>exact ⟨0,Nat.zero_le _,rfl,rfl,(fun j _ h=>absurd h (Nat.not_lt_zero _)),rfl⟩
  case round =>
   obtain ⟨k,hk,rfl,rfl,hall,hwr⟩:=hrel
   obtain rfl:=hwr.symm
   have HA:=bH hall
   clear hall
   by_cases hin:k<ns
   ·have i0:(k:Int)<(nm.size:Int):=by omega
    have i1:(0:Int)<=(k:Int):=by omega
    have hin':k<nm.size:=by omega
    have HC:=bH (fun (h:chB (nm[k]'hin').toNat=false)=>nameB_false hin' h)
    have HC2:Hid (chB (nm[k]'hin').toNat=true->∀ j (hj:j<nm.size),j<k+1->chB (nm[j]'hj).toNat=true):=bH (fun h j hj hjk=>by
     by_cases e:j=k
     ·subst e; exact h
     ·exact HA.out j hj (by omega))
    have hch:(nm[k]'hin').toNat<256:=by have:=(nm[k]'hin').toNat_lt; omega
    by_cases t1:(nm[k]'hin').toNat<32
    ·have t1':((nm[k]'hin').toNat:Int)<32:=by omega
     have HF:=bH (HC.out (by unfold chB; rw [decide_eq_false (by omega)]; rfl))
     go_wp2
     go_ret
     exact ⟨ret_bool (by rw [HR2.out,HF.out]; rfl),HB2.out.2⟩
    have t1':¬ ((nm[k]'hin').toNat:Int)<32:=by omega
    by_cases t2:126<(nm[k]'hin').toNat
    ·have t2':(126:Int)<((nm[k]'hin').toNat:Int):=by omega
     have HF:=bH (HC.out (by unfold chB; rw [decide_eq_false (p:=((nm[k]'hin').toNat<=126)) (by omega)]; simp))
     go_wp2
     go_ret
     exact ⟨ret_bool (by rw [HR2.out,HF.out]; rfl),HB2.out.2⟩
    have t2':¬ (126:Int)<((nm[k]'hin').toNat:Int):=by omega
    have HN:=bH (HC2.out (by unfold chB; rw [decide_eq_true (p:=(32<=(nm[k]'hin').toNat)) (by omega),decide_eq_true (p:=((nm[k]'hin').toNat<=126)) (by omega)]; rfl))
    clear HC HC2
    go_wp2
    go_roundg (ns - (k+1))
    case measure=>omega
    case rel=>exact ⟨k+1,by omega,rfl,by go_num,HN.out,rfl⟩
   ·obtain rfl:k=ns:=by omega
    have HR3:Hid (rowB vars r=termsB vars (-1) r.terms):=bH (by
     rw [HR2.out,nameB_true (fun i hi=>HA.out i hi (by have:=HNS.out; omega))]; rfl)
    clear HR2 HA
    have e3:=cellq HB2.out.1 3 rfl
    go_wp2_with fail
    go_loopg [7,6] tl (fun gg v7 v6 wr=>∃ (k:Nat) (la:Int),k<=tl/\gg=tl - k/\v7=.int .i64 k/\v6=.int .i64 la∧-9223372036854775808<=la/\la<=9223372036854775807/\termsB vars (-1) r.terms=termsB vars la (r.terms.drop k)/\XF w2 wr)
    case atStart=>exact ⟨0,-1,Nat.zero_le _,rfl,rfl,rfl,by omega,by omega,rfl,Ext.refl _ _⟩
    case round =>
     clear e3 e0
     obtain ⟨k,la,hk,rfl,rfl,rfl,hla0,hla1,heq,hx⟩:=hrel
     have HX:=bH (bI heq hx)
     have e3:=cell_keep (cellq HB2.out.1 3 rfl) hx
     clear heq hx
     by_cases hin:k<tl
     ·have i0:(k:Int)<(tl:Int):=by omega
      have i1:(0:Int)<=(k:Int):=by omega
      have hkl:k<r.terms.length:=by rw [HTL.out]; exact hin
      have hdr:r.terms.drop k=r.t k :: r.terms.drop (k+1):=by
       rw [List.drop_eq_getElem_cons hkl,r.t_at hkl]
      have HD:=bH (HX.out.1.trans (by rw [hdr,termsB_cons]))
      obtain ⟨b,off,rfl,-,e0,e1,htok⟩:=(HT.out.keep (HB2.out.2.trans HX.out.2)).atr k hkl
      have hva:=htok.var
      have hco:=htok.coef
      unfold InR at hva hco
      clear hdr hkl htok
      obtain ⟨tv,htv⟩:∃ tv,(r.t k).var=tv:=⟨_,rfl⟩
      obtain ⟨co,hco'⟩:∃ co,(r.t k).coef=co:=⟨_,rfl⟩
      rw [htv] at e0 HD hva
      rw [hco'] at e1 HD hco
      clear htv hco'
      have hb3:=blk_alloc_at wr (.cells #[.int .i64 tv,.int .i64 co] 76)
      have hx3:=(Ext.refl (fun _=>False) wr).alloc (.cells #[.int .i64 tv,.int .i64 co] 76)
      have HB3:=bH (bI hb3 hx3)
      clear hb3 hx3
      go_upto_region 13 with fail
      generalize hw3:wr.alloc (.cells #[.int .i64 tv,.int .i64 co] 76)=w3 at *
      clear hw3
      obtain ⟨tb,htb⟩:∃ tb,wr.heap.size=tb:=⟨_,rfl⟩
      rw [htb] at HB3 ⊢
      clear htb e0 e1 e3
      obtain ⟨x0,x1⟩:w3.cell? ⟨tb,0,none⟩=some (.int .i64 tv)/\w3.cell? ⟨tb,1,none⟩=some (.int .i64 co):=⟨cellq HB3.out.1 0 rfl,cellq HB3.out.1 1 rfl⟩
      have HE:=bH ((HB2.out.2.trans HX.out.2).trans HB3.out.2)
      by_cases t1:tv<=la
      ·go_wp2
       go_ret
       exact ⟨ret_bool (by rw [HR3.out,HD.out,decide_eq_false (p:=(la<tv)) (by omega)]; simp),HE.out⟩
      by_cases t2:(vars:Int)<=tv
      ·go_wp2
       go_ret
       exact ⟨ret_bool (by rw [HR3.out,HD.out,decide_eq_false (p:=(tv<(vars:Int))) (by omega)]; simp),HE.out⟩
      by_cases t3:co=0
      ·have t3':(co == 0)=true:=by simpa using t3
       subst t3
       go_wp2
       go_ret
       exact ⟨ret_bool (by rw [HR3.out,HD.out]; simp),HE.out⟩
      have t3':(co == 0)=false:=by simpa using t3
      have HD2:Hid (termsB vars (-1) r.terms=(limB co && termsB vars tv (r.terms.drop (k+1)))):=bH (by
       rw [HD.out,decide_eq_true (p:=(la<tv)) (by omega),decide_eq_true (p:=(tv<(vars:Int))) (by omega),decide_eq_false t3]; simp)
      clear HD
      go_wp2_with fail
      refine (inn_any w3 co).mono ?_
      rintro r4 w4 ⟨rfl,hx4⟩
      have HX4:=bH ((HX.out.2.trans HB3.out.2).trans hx4)
      have y0:=cell_keep x0 hx4
      clear hx4 x0 x1 HE
      cases hlc:limB co with
      | false =>
       rw [hlc] at HD2
       clear hlc
       go_wp2
       go_ret
       exact ⟨ret_bool (by rw [HR3.out,HD2.out]; simp),HB2.out.2.trans HX4.out⟩
      | true =>
       rw [hlc] at HD2
       clear hlc
       go_wp2
       go_roundg (tl - (k+1))
       case measure=>omega
       case rel=>exact ⟨k+1,tv,by omega,rfl,by go_num,rfl,by omega,by omega,by rw [HD2.out]; rfl,HX4.out⟩
     ·obtain rfl:k=tl:=by omega
      have HF:Hid (rowB vars r=true):=bH (by
       rw [HR3.out,HX.out.1,List.drop_of_length_le (by rw [HTL.out]; exact Nat.le_refl _)]; rfl)
      go_wp2
      go_ret
      exact ⟨ret_bool HF.out.symm,HB2.out.2.trans HX.out.2⟩
theorem Valid4_any (w:World) (pv:Value) (p:ProgV) (hp:IsPrg w pv p) :
  Calls Tryz.prog 36 #[pv] w (BoolPost w (validB p)):=by
 obtain ⟨vv,rv,rfl,hv,hr⟩:=hp
 obtain ⟨vo,vc,rfl,-,hnv,-⟩:=hv.shape
 obtain ⟨ro,rc,rfl,-,hnr,-⟩:=hr.shape
 have HV:=bH (bI hv hr)
 clear hv hr
 obtain ⟨n,hn'⟩:∃ n,p.vars.length=n:=⟨_,rfl⟩
 obtain ⟨m,hm'⟩:∃ m,p.rows.length=m:=⟨_,rfl⟩
 have HN:=bH (bI hn' hm')
 have HR:=bH (show validB p=(decide (n<=400) && decide (m<=4000) && p.vars.all varB && p.rows.all (rowB n)) from by unfold validB; rw [hn',hm'])
 rw [hn'] at hnv ⊢ HV
 rw [hm'] at hnr ⊢ HV
 clear hn' hm'
 have HB:=bH (bI (blk_alloc_at w (.cells #[.slice vo n vc,.slice ro m rc] 25)) ((Ext.refl (fun _=>False) w).alloc (.cells #[.slice vo n vc,.slice ro m rc] 25)))
 go_enter Tryz.func36,Tryz.ntmps36
 go_upto_region 1 with fail
 generalize hw1:w.alloc (.cells #[.slice vo n vc,.slice ro m rc] 25)=w1 at *
 clear hw1
 obtain ⟨pb,hpb⟩:∃ pb,w.heap.size=pb:=⟨_,rfl⟩
 rw [hpb] at HB ⊢
 clear hpb
 have z0:=cellq HB.out.1 0 rfl
 have z1:=cellq HB.out.1 1 rfl
 by_cases c1:400<n
 ·have c1':(400:Int)<(n:Int):=by omega
  go_wp2
  go_ret
  exact ⟨ret_bool (by rw [HR.out,decide_eq_false (p:=(n<=400)) (by omega)]; simp),HB.out.2⟩
 have c1':¬ (400:Int)<(n:Int):=by omega
 by_cases c2:4000<m
 ·have c2':(4000:Int)<(m:Int):=by omega
  go_wp2
  go_ret
  exact ⟨ret_bool (by rw [HR.out,decide_eq_false (p:=(m<=4000)) (by omega)]; simp),HB.out.2⟩
 have c2':¬ (4000:Int)<(m:Int):=by omega
 have HR2:Hid (validB p=(p.vars.all varB && p.rows.all (rowB n))):=bH (by rw [HR.out,decide_eq_true (p:=(n<=400)) (by omega),decide_eq_true (p:=(m<=4000)) (by omega)]; simp)
 clear HR
 go_wp2_with fail
 go_loopg [3,4] n (fun gg v3 v4 wr=>∃ i:Nat,i<=n/\gg=n - i/\v3=.int .i64 i/\(p.vars.take i).all varB=true/\(wr.cell? ⟨pb,0,none⟩=some (.slice vo n vc)/\wr.cell? ⟨pb,1,none⟩=some (.slice ro m rc))/\XF w wr)
 case atStart=>exact ⟨0,Nat.zero_le _,rfl,rfl,rfl,⟨z0,z1⟩,HB.out.2⟩
 case round =>
  clear z0 z1
  obtain ⟨i,hi,rfl,rfl,hall,⟨z0,z1⟩,hx⟩:=hrel
  have HX:=bH (bI hall (bI hx (bI z0 z1)))
  clear hall
  by_cases hin:i<n
  ·have i0:(i:Int)<(n:Int):=by omega
   have i1:(0:Int)<=(i:Int):=by omega
   have HI:Hid (i<p.vars.length):=bH (by rw [HN.out.1]; exact hin)
   obtain ⟨b,off,rfl,-,e0,e1,e2,e3,e4,-⟩:=(HV.out.1.keep HX.out.2.1).atp i HI.out
   have hb1:=BoxV.new wr (p.v i)
   have hx1:=(Ext.refl (fun _=>False) wr).alloc (.cells #[.int .i64 (p.v i).lo,.int .i64 (p.v i).up,.bool (p.v i).op,.bool (p.v i).ig,.int .i64 (p.v i).co] 63)
   have HB1:=bH (bI hb1 hx1)
   have HVB:=bH (show varB (p.vars.getD i var0)=(limB (p.v i).lo && limB (p.v i).up && limB (p.v i).co && !((p.v i).op && !decide ((p.v i).up=0))) from rfl)
   clear hb1 hx1 hx
   go_upto_region 7 with fail
   generalize hw2:wr.alloc (.cells #[.int .i64 (p.v i).lo,.int .i64 (p.v i).up,.bool (p.v i).op,.bool (p.v i).ig,.int .i64 (p.v i).co] 63)=w2 at *
   clear hw2 e0 e1 e2 e3 e4 z0 z1
   obtain ⟨vb,hvb⟩:∃ vb,wr.heap.size=vb:=⟨_,rfl⟩
   rw [hvb] at HB1 ⊢
   clear hvb
   generalize p.v i=vv at *
   obtain ⟨lo,up,o,ig,co⟩:=vv
   dsimp only at HVB
   have f0:w2.cell? ⟨vb,0,none⟩=some (.int .i64 lo):=HB1.out.1.facts.1
   go_wp2_with fail
   refine (inn_any _ _).mono ?_
   rintro r3 w3 ⟨rfl,hx3⟩
   have HB3:=bH (bI (HB1.out.1.keep hx3) (HB1.out.2.trans hx3))
   clear hx3 HB1 f0
   cases hl:limB lo with
   | false =>
    rw [hl] at HVB
    go_wp2
    go_ret
    exact ⟨ret_bool (by rw [HR2.out,all_fails (d:=var0) HI.out (HVB.out.trans rfl)]; rfl),HX.out.2.1.trans HB3.out.2⟩
   | true =>
   rw [hl] at HVB
   clear hl
   have f1:w3.cell? ⟨vb,1,none⟩=some (.int .i64 up):=HB3.out.1.facts.2.1
   go_wp2_with fail
   refine (inn_any _ _).mono ?_
   rintro r4 w4 ⟨rfl,hx4⟩
   have HB4:=bH (bI (HB3.out.1.keep hx4) (HB3.out.2.trans hx4))
   clear hx4 HB3 f1
   cases hl:limB up with
   | false =>
    rw [hl] at HVB
    go_wp2
    go_ret
    exact ⟨ret_bool (by rw [HR2.out,all_fails (d:=var0) HI.out (HVB.out.trans rfl)]; rfl),HX.out.2.1.trans HB4.out.2⟩
   | true =>
   rw [hl] at HVB
   clear hl
   have f4:w4.cell? ⟨vb,4,none⟩=some (.int .i64 co):=HB4.out.1.facts.2.2.2.2
   go_wp2_with fail
   refine (inn_any _ _).mono ?_
   rintro r5 w5 ⟨rfl,hx5⟩
   have HB5:=bH (bI (HB4.out.1.keep hx5) (HB4.out.2.trans hx5))
   clear hx5 HB4 f4
   cases hl:limB co with
   | false =>
    rw [hl] at HVB
    go_wp2
    go_ret
    exact ⟨ret_bool (by rw [HR2.out,all_fails (d:=var0) HI.out (HVB.out.trans rfl)]; rfl),HX.out.2.1.trans HB5.out.2⟩
   | true =>
   rw [hl] at HVB
   clear hl
   have f1:w5.cell? ⟨vb,1,none⟩=some (.int .i64 up):=HB5.out.1.facts.2.1
   have f2:w5.cell? ⟨vb,2,none⟩=some (.bool o):=HB5.out.1.facts.2.2.1
   have HZ:=bH (bI (cell_keep HX.out.2.2.1 HB5.out.2) (cell_keep HX.out.2.2.2 HB5.out.2))
   cases o with
   | false =>
    go_wp2
    go_roundg (n - (i+1))
    case measure=>omega
    case rel=>exact ⟨i+1,by omega,rfl,by go_num,all_next (d:=var0) HI.out HX.out.1 (HVB.out.trans rfl),HZ.out,HX.out.2.1.trans HB5.out.2⟩
   | true =>
    by_cases hu:up=0
    ·have HVB':=bH (HVB.out.trans (show _=true by rw [decide_eq_true hu]; rfl))
     clear HVB
     subst hu
     go_wp2
     go_roundg (n - (i+1))
     case measure=>omega
     case rel=>exact ⟨i+1,by omega,rfl,by go_num,all_next (d:=var0) HI.out HX.out.1 HVB'.out,HZ.out,HX.out.2.1.trans HB5.out.2⟩
    ·have hu':(up == 0)=false:=by simpa using hu
     have hu2:(up != 0)=true:=by simpa using hu
     have HVB':=bH (HVB.out.trans (show _=false by rw [decide_eq_false hu]; rfl))
     clear HVB
     go_wp2
     go_ret
     exact ⟨ret_bool (by rw [HR2.out,all_fails (d:=var0) HI.out HVB'.out]; rfl),HX.out.2.1.trans HB5.out.2⟩
  ·obtain rfl:n=i:=by omega
   have HF:Hid (validB p=p.rows.all (rowB n)):=bH (by
    have:=HX.out.1
    rw [List.take_of_length_le (by rw [HN.out.1]; exact Nat.le_refl _)] at this
    rw [HR2.out,this]; rfl)
   clear HR2 hi hin hx
   have HVr:=bH (HV.out.2.keep HX.out.2.1)
   have HRow:=bH (fun W (hW:XF w W) (i:Nat) (hi:i<p.rows.length) ta tc (hok:RowOk (p.r i)) (ht:Tms w (.slice ta (p.r i).terms.length tc) (p.r i).terms)=>ValidRow_any W n (by omega) (p.r i) ta tc hok (ht.keep hW))
   go_wp2_with fail
   go_loopg [5] m (fun gg v5 wr=>∃ i:Nat,i<=m/\gg=m - i/\v5=.int .i64 i/\(p.rows.take i).all (rowB n)=true/\(wr.cell? ⟨pb,0,none⟩=some (.slice vo n vc)/\wr.cell? ⟨pb,1,none⟩=some (.slice ro m rc))/\XF w wr)
   case atStart=>exact ⟨0,Nat.zero_le _,rfl,rfl,rfl,HX.out.2.2,HX.out.2.1⟩
   case round =>
    clear z0 z1 HX HVr
    obtain ⟨i,hi,rfl,rfl,hall,⟨z0,z1⟩,hx⟩:=hrel
    have HX:=bH (bI hall (bI hx (bI z0 z1)))
    clear hall
    by_cases hin:i<m
    ·have i0:(i:Int)<(m:Int):=by omega
     have i1:(0:Int)<=(i:Int):=by omega
     have HI:Hid (i<p.rows.length):=bH (by rw [HN.out.2]; exact hin)
     obtain ⟨b,off,ta,tc,rfl,-,e0,e1,e2,e3,e4,hrok,htm⟩:=HV.out.2.atp i HI.out
     replace e0:=cell_keep e0 hx
     replace e1:=cell_keep e1 hx
     replace e2:=cell_keep e2 hx
     replace e3:=cell_keep e3 hx
     replace e4:=cell_keep e4 hx
     have HH:=bH (fun W (hW:XF w W)=>HRow.out W hW i HI.out ta tc hrok htm)
     clear hrok htm
     obtain ⟨hb,hhb⟩:∃ hb,rowB n (p.r i)=hb:=⟨_,rfl⟩
     have HHB:=bH hhb
     rw [hhb] at HH
     clear hhb
     generalize (p.r i).terms.length=tl at *
     generalize (p.r i).name=nm at *
     generalize (p.r i).group=gr at *
     generalize (p.r i).kind=k at *
     generalize (p.r i).bound=bd at *
     have hS:S7 pb pb b b b b b 0 1 (off+i*5) (off+i*5+1) (off+i*5+2) (off+i*5+3) (off+i*5+4) (.slice vo n vc) (.slice (some ⟨b,off,none⟩) m rc) (.string nm) (.int .i64 gr) (.int .i64 k) (.slice ta tl tc) (.int .i64 bd) wr:=⟨z0,z1,e0,e1,e2,e3,e4⟩
     have hxw:=hx
     clear z0 z1 e0 e1 e2 e3 e4 hx
     go_upto_region 12 with fail
     refine wp_region_held_drew (S:=(S7 pb pb b b b b b 0 1 (off+i*5) (off+i*5+1) (off+i*5+2) (off+i*5+3) (off+i*5+4) (.slice vo n vc) (.slice (some ⟨b,off,none⟩) m rc) (.string nm) (.int .i64 gr) (.int .i64 k) (.slice ta tl tc) (.int .i64 bd))) (by kernel_rfl) (hS.drew) (fun hHeld=>?_)
     refine ht 0 (h:=?_)
     (try go_frame)
     refine ht 1 (h:=?_)
     (try go_frame)
     refine ht 2 (h:=?_)
     (try go_frame)
     refine ht 3 (h:=?_)
     (try go_frame)
     refine ht 4 (h:=?_)
     (try go_frame)
     refine ht 5 (h:=?_)
     (try go_frame)
     refine ht 6 (h:=?_)
     (try go_frame)
     refine ht 7 (h:=?_)
     (try go_frame)
     refine held_step 8 rfl (by kernel_rfl) (fun K hK=>?_)
     (go_simp; go_at_call 34; (with_reducible refine (HH.out _ (hxw.drew)).mono ?_); rintro q1 w11 ⟨rfl,hx11⟩; have hX1:=(Ext.refl (fun _=>False) wr).drew.trans hx11; have hK1:=hS.keep hX1)
     refine hK.out _ _ (hK1) (fun hHeld=>?_)
     clear hK K
     (try go_frame)
     refine ht 9 (h:=?_)
     (try go_frame)
     refine wpAnyH_done (by kernel_rfl) ?_ _
     have y0:=hK1.1
     have y1:=hK1.2.1
     have HXa:=bH (bI (HX.out.2.1.trans hX1) (bI y0 y1))
     clear hX1 hK1 hS hx11 hxw hHeld y0 y1
     cases hb with
     | true =>
      go_wp2
      go_roundg (m - (i+1))
      case measure=>omega
      case rel=>exact ⟨i+1,by omega,rfl,by go_num,all_next (d:=row0) HI.out HX.out.1 HHB.out,HXa.out.2,HXa.out.1⟩
     | false =>
      go_wp2
      go_ret
      exact ⟨ret_bool (by rw [HF.out,all_fails (d:=row0) HI.out HHB.out]),HXa.out.1⟩
    ·obtain rfl:i=m:=by omega
     have HG:Hid (validB p=true):=bH (by
      have:=HX.out.1
      rw [List.take_of_length_le (by rw [HN.out.2]; exact Nat.le_refl _)] at this
      rw [HF.out,this])
     go_wp2
     go_ret
     exact ⟨ret_bool (by rw [HG.out]),HX.out.2.1⟩
section
variable {w wr w':World} {pb rb bb B n:Nat} {va vb:Value} {f g:Nat->Rat} {q:Rat}
theorem IsRat.past {v:Value} (h:IsRat w v q) (hr:∀ v l,Rds w v l->Rds w' v l):IsRat w' v q:=by
 obtain ⟨mag,dv',g1,g2,g3⟩:=h
 exact ⟨mag,dv',g1,hr _ _ g2,hr _ _ g3⟩
end
def CRats (w:World) (v:Value) (l:List Rat) (L:Nat):Prop :=
 ∃ cs:List RatC,cs.length=l.length/\Sl w v 3 (cs.map RatC.cells)/\∀ (i:Nat) c q,cs[i]?=some c->l[i]?=some q->IsRat w c.v q/\Sz q L
theorem CRats.keep {w w':World} {v:Value} {l:List Rat} {L:Nat} (h:CRats w v l L) (hx:XF w w'):CRats w' v l L:=by
 obtain ⟨cs,h1,h2,h3⟩:=h
 exact ⟨cs,h1,h2.keep hx,fun i c q hc hq=>⟨(h3 i c q hc hq).1.keep hx,(h3 i c q hc hq).2⟩⟩
theorem CRats.rats {w:World} {v:Value} {l:List Rat} {L:Nat} (h:CRats w v l L):Rats w v l L:=by
 obtain ⟨cs,h1,h2,h3⟩:=h
 refine ⟨cs.map RatC.cells,by rw [List.length_map,h1],h2,fun i c q hc hq=>?_⟩
 rw [List.getElem?_map] at hc
 obtain ⟨x,hx,rfl⟩:=Option.map_eq_some_iff.1 hc
 exact (h3 i x q hx hq).1.reads (h3 i x q hx hq).2
theorem CRats.shape {w:World} {v:Value} {l:List Rat} {L:Nat} (h:CRats w v l L):∃ ao c,v=.slice ao l.length c/\(ao=none->c=0)/\l.length<=9223372036854775807/\l.length<=c:=h.rats.shape
theorem CRats.nil (w:World) (L:Nat):CRats w (.slice none 0 0) [] L:=⟨[],rfl,Sl.nil w 3,fun i c q hc=>by simp at hc⟩
def IsOutC (w:World) (v:Value) (o:OutV) (L:Nat):Prop:=∃ neg a1 m1 c1 a2 m2 c2 pv mv rv,v=.agg #[.int .i64 o.kind,.bool neg,.slice a1 m1 c1,.slice a2 m2 c2,pv,mv,rv]/\(IsRat w (.agg #[.bool neg,.slice a1 m1 c1,.slice a2 m2 c2]) o.val/\Sz o.val L)/\CRats w pv o.pt L/\CRats w mv o.mu L/\CRats w rv o.ray L/\InR o.kind
structure RCap (w:World) (g m:Nat) (f:Nat->Rat):Prop where
 row:∃ arr,blk w g=some (.cells arr 31 (0,0))/\m*3<=arr.size
 noDig:NoDig w g
 cells:∀ i,i<m->∃ neg a1 m1 c1 a2 m2 c2,w.cell? ⟨g,i*3,none⟩=some (.bool neg)/\w.cell? ⟨g,i*3+1,none⟩=some (.slice a1 m1 c1)/\w.cell? ⟨g,i*3+2,none⟩=some (.slice a2 m2 c2)/\IsRat w (.agg #[.bool neg,.slice a1 m1 c1,.slice a2 m2 c2]) (f i)
def SameSz (w w':World) (g:Nat):Prop:=∀ arr T,blk w g=some (.cells arr T (0,0))->∃ arr',blk w' g=some (.cells arr' T (0,0))/\arr'.size=arr.size
theorem SameSz.trans {w w1 w2:World} {g:Nat} (h:SameSz w w1 g) (h':SameSz w1 w2 g):SameSz w w2 g:=fun arr T ha=>by
 obtain ⟨a1,e1,s1⟩:=h arr T ha
 obtain ⟨a2,e2,s2⟩:=h' a1 T e1
 exact ⟨a2,e2,s2.trans s1⟩
theorem RArr.cap {w:World} {b n:Nat} {f:Nat->Rat} (h:RArr w b n f):RCap w b n f:=by
 obtain ⟨arr,h1,h2⟩:=h.row
 exact ⟨⟨arr,h1,Nat.le_of_eq h2.symm⟩,h.noDig,h.cells⟩
section
variable {w w':World} {g m:Nat} {f f':Nat->Rat}
theorem RCap.lt (h:RCap w g m f):g<w.heap.size:=by
 obtain ⟨arr,h1,_⟩:=h.row
 exact blk_lt h1
theorem RCap.free (h:RCap w g m f) (i:Nat):w.frozen? ⟨g,i,none⟩=false:=by
 obtain ⟨arr,h1,_⟩:=h.row
 exact free_of_cells h1 i
theorem RCap.congr (h:RCap w g m f) (hg:∀ i,i<m->f i=f' i):RCap w g m f' :=
 ⟨h.row,h.noDig,fun i hi=>by rw [<- hg i hi]; exact h.cells i hi⟩
theorem RCap.past {S:Nat->Prop} (h:RCap w g m f) (hx:Ext S w w') (hn:¬ S g) (hr:∀ v l,Rds w v l->Rds w' v l):RCap w' g m f:=by
 have hlt:=h.lt
 obtain ⟨arr,h1,h2⟩:=h.row
 refine ⟨⟨arr,(hx.blk hlt hn).trans h1,h2⟩,fun i d hc=>h.noDig i d (by rw [<- hx.cell (p:=⟨g,i,none⟩) hlt hn]; exact hc),fun i hi=>?_⟩
 obtain ⟨neg,a1,m1,c1,a2,m2,c2,e0,e1,e2,hq⟩:=h.cells i hi
 exact ⟨neg,a1,m1,c1,a2,m2,c2,(hx.cell (p:=⟨g,i*3,none⟩) hlt hn).trans e0,(hx.cell (p:=⟨g,i*3+1,none⟩) hlt hn).trans e1,(hx.cell (p:=⟨g,i*3+2,none⟩) hlt hn).trans e2,hq.past hr⟩
theorem RCap.keep (h:RCap w g m f) (hx:XF w w'):RCap w' g m f:=h.past hx id (fun _ _ hr=>hr.keep hx)
theorem RCap.put (h:RCap w g m f) {j:Nat} (hj:j<m) {neg:Bool} {a1 a2:Option Addr} {m1 c1 m2 c2:Nat} {q:Rat} (hq:IsRat w (.agg #[.bool neg,.slice a1 m1 c1,.slice a2 m2 c2]) q) :
  RCap (((w.setCell ⟨g,j*3,none⟩ (.bool neg)).setCell ⟨g,j*3+1,none⟩ (.slice a1 m1 c1)).setCell ⟨g,j*3+2,none⟩ (.slice a2 m2 c2)) g m (fun k=>if k=j then q else f k) /\
  Ext (fun k=>k=g) w (((w.setCell ⟨g,j*3,none⟩ (.bool neg)).setCell ⟨g,j*3+1,none⟩ (.slice a1 m1 c1)).setCell ⟨g,j*3+2,none⟩ (.slice a2 m2 c2)) /\
  (∀ v l,Rds w v l->Rds (((w.setCell ⟨g,j*3,none⟩ (.bool neg)).setCell ⟨g,j*3+1,none⟩ (.slice a1 m1 c1)).setCell ⟨g,j*3+2,none⟩ (.slice a2 m2 c2)) v l) /\
  SameSz w (((w.setCell ⟨g,j*3,none⟩ (.bool neg)).setCell ⟨g,j*3+1,none⟩ (.slice a1 m1 c1)).setCell ⟨g,j*3+2,none⟩ (.slice a2 m2 c2)) g:=by
 have hx:Ext (fun k=>k=g) w (((w.setCell ⟨g,j*3,none⟩ (.bool neg)).setCell ⟨g,j*3+1,none⟩ (.slice a1 m1 c1)).setCell ⟨g,j*3+2,none⟩ (.slice a2 m2 c2)):=(((Ext.refl (fun k=>k=g) w).setCell (p:=⟨g,j*3,none⟩) _ (fun _=>rfl)).setCell (p:=⟨g,j*3+1,none⟩) _ (fun _=>rfl)).setCell (p:=⟨g,j*3+2,none⟩) _ (fun _=>rfl)
 have hr:∀ v l,Rds w v l->Rds (((w.setCell ⟨g,j*3,none⟩ (.bool neg)).setCell ⟨g,j*3+1,none⟩ (.slice a1 m1 c1)).setCell ⟨g,j*3+2,none⟩ (.slice a2 m2 c2)) v l:=fun v l hv=>hv.past hx (fun k _ e=>by subst e; exact h.noDig)
 refine ⟨⟨?_,fun i d hc=>?_,fun i hi=>?_⟩,hx,hr,fun arr T ha=>⟨_,blk_setCell_same (blk_setCell_same (blk_setCell_same ha _ (.bool neg)) _ (.slice a1 m1 c1)) _ (.slice a2 m2 c2),by simp⟩⟩
 ·obtain ⟨arr,h1,h2⟩:=h.row
  have k1:=blk_setCell_same h1 (j*3) (.bool neg)
  have k2:=blk_setCell_same k1 (j*3+1) (.slice a1 m1 c1)
  have k3:=blk_setCell_same k2 (j*3+2) (.slice a2 m2 c2)
  exact ⟨_,k3,by simpa using h2⟩
 ·simp only [cell?_setCell_if] at hc
  split at hc
  ·cases hw:w.cell? ⟨g,i,none⟩ <;> simp_all
  ·split at hc
   ·cases hw:w.cell? ⟨g,i,none⟩ <;> simp_all
   ·split at hc
    ·cases hw:w.cell? ⟨g,i,none⟩ <;> simp_all
    ·exact h.noDig i d hc
 ·obtain ⟨n0,b1,l1,d1,b2,l2,d2,e0,e1,e2,hf⟩:=h.cells i hi
  by_cases hij:i=j
  ·subst hij
   rw [if_pos rfl]
   refine ⟨neg,a1,m1,c1,a2,m2,c2,?_,?_,?_,hq.past hr⟩
   ·simp only [cell?_setCell_if]
    rw [if_neg (by omega),if_neg (by omega),if_pos (by simp),e0]; rfl
   ·simp only [cell?_setCell_if]
    rw [if_neg (by omega),if_pos (by simp),if_neg (by omega),e1]; rfl
   ·simp only [cell?_setCell_if]
    rw [if_pos (by simp),if_neg (by omega),if_neg (by omega),e2]; rfl
  ·rw [if_neg hij]
   refine ⟨n0,b1,l1,d1,b2,l2,d2,?_,?_,?_,hf.past hr⟩
   ·simp only [cell?_setCell_if]
    rw [if_neg (by omega),if_neg (by omega),if_neg (by omega),e0]
   ·simp only [cell?_setCell_if]
    rw [if_neg (by omega),if_neg (by omega),if_neg (by omega),e1]
   ·simp only [cell?_setCell_if]
    rw [if_neg (by omega),if_neg (by omega),if_neg (by omega),e2]
end
structure OneRow (w w':World) (g m:Nat) (f:Nat->Rat):Prop where
 row:RCap w' g m f
 ext:Ext (fun k=>k=g) w w'
 rds:∀ v l,Rds w v l->Rds w' v l
 sz:SameSz w w' g
theorem OneRow.refl {w:World} {g m:Nat} {f:Nat->Rat} (h:RCap w g m f):OneRow w w g m f:=⟨h,Ext.refl _ _,fun _ _ h=>h,fun arr T ha=>⟨arr,ha,rfl⟩⟩
theorem OneRow.next {w w1 w2:World} {g m:Nat} {f f':Nat->Rat} (h:OneRow w w1 g m f) (hr:RCap w2 g m f') (hx:Ext (fun k=>k=g) w1 w2) (hd:∀ v l,Rds w1 v l->Rds w2 v l) (hz:SameSz w1 w2 g):OneRow w w2 g m f':=⟨hr,h.ext.trans hx,fun v l k=>hd v l (h.rds v l k),h.sz.trans hz⟩
theorem OneRow.keep {w w1 w2:World} {g m:Nat} {f:Nat->Rat} (h:OneRow w w1 g m f) (hx:XF w1 w2):OneRow w w2 g m f:=h.next (h.row.keep hx) hx.none (fun _ _ hr=>hr.keep hx) (fun arr T ha=>⟨arr,blk_keep ha hx,rfl⟩)
def scaled (m:Nat) (ft ff:Nat->Rat) (kq:Rat) (but:Int) (i:Nat):Rat:=if i<m/\(i:Int)≠but then ft i - kq*ff i else ft i
theorem addScaled_any (w:World) (gt gf nt ct m cf:Nat) (ft ff:Nat->Rat) (kv:Value) (kq:Rat) (but:Int) (L:Nat) (hto:RCap w gt nt ft) (hfrom:RCap w gf m ff) (hne:gf≠gt) (hm:m<=nt) (hnt:nt<=1000000)
  (hk:IsRat w kv kq) (hkz:Sz kq L) (hft:∀ i,i<m->Sz (ft i) L) (hff:∀ i,i<m->Sz (ff i) L) (h1:1<=L) (hL:L<=1000000) :
  Calls Tryz.prog 200 #[.slice (some ⟨gt,0,none⟩) nt ct,.slice (some ⟨gf,0,none⟩) m cf,kv,.int .i64 but] w (fun r w'=>r=.returned (.tuple #[])/\OneRow w w' gt nt (scaled m ft ff kq but)):=by
 obtain ⟨kn,ka,km,kc,ka2,km2,kc2,rfl⟩:=hk.shape
 have hb:=boxR_new (W:=w) rfl kn ka km kc ka2 km2 kc2
 have hxa:=(Ext.refl (fun _=>False) w).alloc (.cells #[.bool kn,.slice ka km kc,.slice ka2 km2 kc2] 31)
 have HSg:=bH (fun W u q (hu:IsRat W u q) (hz:Sz q L)=>rsign_any W u q L (hu.reads hz) (by omega))
 have HZ:=bH (bI hkz (bI hft hff))
 have HO:=bH (show OneRow w (w.alloc (.cells #[.bool kn,.slice ka km kc,.slice ka2 km2 kc2] 31)) gt nt (fun i=>if i<0/\(i:Int)≠but then ft i - kq*ff i else ft i) from (OneRow.refl (hto.congr (fun i _=>(if_neg (by omega)).symm))).keep hxa)
 have HFr:=bH (bI (hfrom.keep hxa) (bI hb (bI (hk.keep hxa) (show gt<w.heap.size from hto.lt))))
 clear hb hxa hto hfrom hk hkz hft hff
 go_enter Tryz.func200,Tryz.ntmps200
 go_upto_region 1 with fail
 generalize w.alloc (.cells #[.bool kn,.slice ka km kc,.slice ka2 km2 kc2] 31)=w1 at *
 obtain ⟨kb,hkb⟩:∃ kb,w.heap.size=kb:=⟨_,rfl⟩
 have hkw:w.heap.size<=kb:=Nat.le_of_eq hkb
 rw [hkb] at HFr ⊢
 clear hkb
 go_wp2_with fail
 go_loopg [12,8,9] m (fun gg v12 v8 v9 wr=>∃ j:Nat,j<=m/\gg=m - j/\v12=.int .i64 j/\OneRow w wr gt nt (fun i=>if i<j/\(i:Int)≠but then ft i - kq*ff i else ft i)/\(RCap wr gf m ff/\BoxR wr kb kn (.slice ka km kc) (.slice ka2 km2 kc2)/\IsRat wr (.agg #[.bool kn,.slice ka km kc,.slice ka2 km2 kc2]) kq))
 case atStart=>exact ⟨0,Nat.zero_le _,rfl,rfl,HO.out,HFr.out.1,HFr.out.2.1,HFr.out.2.2.1⟩
 case round =>
  clear HO
  obtain ⟨i,hi,rfl,rfl,ho,hfr,hkb,hkq⟩:=hrel
  have HS:=bH (bI ho (bI hfr (bI hkb hkq)))
  clear ho hfr hkb hkq
  by_cases hin:i<m
  ·have i0:(i:Int)<(m:Int):=by omega
   have i1:(0:Int)<=(i:Int):=by omega
   have i2:(i:Int)<(nt:Int):=by omega
   obtain ⟨n3,a3,l3,c3,a3',l3',c3',e0,e1,e2,hq3⟩:=HS.out.2.1.cells i hin
   have hxa:=(Ext.refl (fun _=>False) wr).alloc (.cells #[.bool n3,.slice a3 l3 c3,.slice a3' l3' c3'] 31)
   have hb3:=boxR_new (W:=wr) rfl n3 a3 l3 c3 a3' l3' c3'
   have HSt:=bH (bI (HS.out.1.keep hxa) (bI (HS.out.2.1.keep hxa) (bI (HS.out.2.2.1.keep hxa) (bI (HS.out.2.2.2.keep hxa) (bI hb3 (hq3.keep hxa))))))
   have hgtr:gt<wr.heap.size:=HS.out.1.row.lt
   have hkbr:kb<wr.heap.size:=HS.out.2.2.1.lt
   clear hxa hb3 hq3 HS
   go_upto_region 4 with fail
   generalize wr.alloc (.cells #[.bool n3,.slice a3 l3 c3,.slice a3' l3' c3'] 31)=w3 at *
   generalize wr.heap.size=ab at *
   clear e0 e1 e2
   by_cases hib:(i:Int)=but
   ·have HN:=bH (show OneRow w w3 gt nt (fun k=>if k<i+1/\(k:Int)≠but then ft k - kq*ff k else ft k) from ⟨HSt.out.1.row.congr (fun k _=>by
     by_cases hk:k=i
     ·subst hk; rw [if_neg (by omega),if_neg (by omega)]
     ·by_cases hk2:k<i/\(k:Int)≠but
      ·rw [if_pos hk2,if_pos ⟨by omega,hk2.2⟩]
      ·rw [if_neg hk2,if_neg (by omega)]),HSt.out.1.ext,HSt.out.1.rds,HSt.out.1.sz⟩)
    subst hib
    have hnb:((i:Int) != (i:Int))=false:=by simp
    go_wp2
    go_roundg (m - (i+1))
    case measure=>omega
    case rel=>exact ⟨i+1,by omega,rfl,by go_num,HN.out,HSt.out.2.1,HSt.out.2.2.1,HSt.out.2.2.2.1⟩
   have hib1:((i:Int) == but)=false:=by simpa using hib
   have hib2:((i:Int) != but)=true:=by simpa using hib
   obtain ⟨x0,x1,x2,-⟩:=HSt.out.2.2.2.2.1.facts
   have HSg3:=bH (HSg.out w3 _ _ HSt.out.2.2.2.2.2 (HZ.out.2.2 i hin))
   go_wp2_with fail
   refine HSg3.out.mono ?_
   rintro r4 w4 ⟨rfl,hx4⟩
   replace HSt:=bH (bI (HSt.out.1.keep hx4) (bI (HSt.out.2.1.keep hx4) (bI (HSt.out.2.2.1.keep hx4) (bI (HSt.out.2.2.2.1.keep hx4) (bI (HSt.out.2.2.2.2.1.keep hx4) (HSt.out.2.2.2.2.2.keep hx4))))))
   have Hsz:=bH (sign_zero (ff i))
   clear hx4 x0 x1 x2 HSg3
   generalize (ff i).num.sign=sg at *
   by_cases hsg:sg=0
   ·have hz:=Hsz.out.1 hsg
    have HN:=bH (show OneRow w w4 gt nt (fun k=>if k<i+1/\(k:Int)≠but then ft k - kq*ff k else ft k) from ⟨HSt.out.1.row.congr (fun k _=>by
     by_cases hk:k=i
     ·subst hk; rw [if_neg (by omega),if_pos ⟨by omega,hib⟩,hz]; grind
     ·by_cases hk2:k<i/\(k:Int)≠but
      ·rw [if_pos hk2,if_pos ⟨by omega,hk2.2⟩]
      ·rw [if_neg hk2,if_neg (by omega)]),HSt.out.1.ext,HSt.out.1.rds,HSt.out.1.sz⟩)
    subst hsg
    clear hz
    go_wp2
    go_roundg (m - (i+1))
    case measure=>omega
    case rel=>exact ⟨i+1,by omega,rfl,by go_num,HN.out,HSt.out.2.1,HSt.out.2.2.1,HSt.out.2.2.2.1⟩
   ·have hs1:(sg == 0)=false:=by simpa using hsg
    have hs2:(sg != 0)=true:=by simpa using hsg
    obtain ⟨x0,x1,x2,-⟩:=HSt.out.2.2.2.2.1.facts
    obtain ⟨y0,y1,y2,-⟩:=HSt.out.2.2.1.facts
    obtain ⟨on,oa,ol,oc,oa2,ol2,oc2,o0,o1,o2,hoq⟩:=HSt.out.1.row.cells i (by omega)
    rw [if_neg (by omega)] at hoq
    have hpz:=HZ.out.1.mul (HZ.out.2.2 i hin)
    have HM:=bH (fun W (hW:XF w4 W)=>rmul_any W _ _ kq (ff i) L ((HSt.out.2.2.2.1.keep hW).reads HZ.out.1) ((HSt.out.2.2.2.2.2.keep hW).reads (HZ.out.2.2 i hin)) h1 (by omega))
    have HSb:=bH (fun W u (hW:XF w4 W) (hu:IsRat W u (kq*ff i))=>rsub_any W _ u (ft i) _ (L+L) ((hoq.keep hW).reads ((HZ.out.2.1 i hin).mono (by omega))) (hu.reads hpz) (by omega) (by omega))
    have HI:=bH (bI hin hib)
    clear hoq hpz
    go_upto_region 5 with fail
    replace x0:=cq x0
    replace x1:=cq x1
    replace x2:=cq x2
    replace y0:=cq y0
    replace y1:=cq y1
    replace y2:=cq y2
    replace o0:=cq o0
    replace o1:=cq o1
    replace o2:=cq o2
    have HE:=bH (show ∀ k,(if k=i then ft i - kq*ff i else if k<i/\(k:Int)≠but then ft k - kq*ff k else ft k)=(if k<i+1/\(k:Int)≠but then ft k - kq*ff k else ft k) from fun k=>by
     by_cases hk:k=i
     ·subst hk; rw [if_pos rfl,if_pos ⟨by omega,hib⟩]
     ·rw [if_neg hk]
      by_cases hk2:k<i/\(k:Int)≠but
      ·rw [if_pos hk2,if_pos ⟨by omega,hk2.2⟩]
      ·rw [if_neg hk2,if_neg (by omega)])
    refine ends_begin 11 (XF w4) (by kernel_rfl) ((Ext.refl _ w4).drew) (fun hHeld=>?_)
    refine et 0 (h:=(et 1 (h:=(et 2 (h:=(et 3 (h:=(et 4 (h:=(et 5 (h:=(et 6 (h:=(et 7 (h:=?_)))))))))))))))
    (try go_frame)
    refine est 8 (h:=fun K hK=>?_)
    (go_simp; go_at_call 112; (with_reducible refine (HM.out _ hHeld).mono ?_); rintro q1 w11 ⟨v11,rfl,h11,hx11⟩; have hX1:=hHeld.trans hx11; have hT:=HSb.out w11 _ hX1 h11; obtain ⟨n11,a11,l11,c11,a11',l11',c11',rfl⟩:=h11.shape)
    refine hK.out _ _ (hX1) (fun hHeld=>?_)
    clear hK K
    (try go_frame)
    refine est 9 (h:=fun K hK=>?_)
    (go_simp; go_at_call 65; (with_reducible refine hT.mono ?_); rintro q2 w12 ⟨v12,rfl,h12,hx12⟩; have hX2:=hX1.trans hx12; obtain ⟨n12,a12,l12,c12,a12',l12',c12',rfl⟩:=h12.shape)
    refine hK.out _ _ (hX2) (fun hHeld=>?_)
    clear hK K
    (try go_frame)
    refine et 10 (h:=?_)
    (try go_frame)
    have HT2:=bH (HSt.out.1.row.keep hX2)
    have fz0:=HT2.out.free (i*3)
    have fz1:=HT2.out.free (i*3+1)
    have fz2:=HT2.out.free (i*3+2)
    have t0:=o0 _ hX2
    have t1:=o1 _ hX2
    have t2:=o2 _ hX2
    refine ends_last rfl (by kernel_rfl) (fun K hK=>?_)
    go_simp
    refine hK.out _ _ ?_
    clear hK K
    (try go_frame)
    refine ends_done (by kernel_rfl) ?_ _
    obtain ⟨p1,p2,p3,p4⟩:=HT2.out.put (show i<nt by omega) h12
    have HN:=bH (bI ((HSt.out.1.keep hX2).next (p1.congr (fun k _=>HE.out k)) p2 p3 p4) (bI ((HSt.out.2.1.keep hX2).past p2 hne p3) (bI ((HSt.out.2.2.1.keep hX2).ext p2 (fun e=>by have e':kb=gt:=e; have:=HFr.out.2.2.2; omega)) ((HSt.out.2.2.2.1.keep hX2).past p3))))
    clear p1 p2 p3 p4 HT2 fz0 fz1 fz2 t0 t1 t2 x0 x1 x2 y0 y1 y2 o0 o1 o2 h11 h12 hx11 hx12 hX1 hX2 hT hHeld HM HSb HE
    generalize ((w12.setCell ⟨gt,i*3,none⟩ (.bool n12)).setCell ⟨gt,i*3+1,none⟩ (.slice a12 l12 c12)).setCell ⟨gt,i*3+2,none⟩ (.slice a12' l12' c12')=w9 at *
    go_wp2
    go_roundg (m - (i+1))
    case measure=>omega
    case rel=>exact ⟨i+1,by omega,rfl,by go_num,HN.out⟩
  ·obtain rfl:i=m:=by omega
   have HN:=bH (show OneRow w wr gt nt (scaled i ft ff kq but) from HS.out.1)
   go_wp2
   exact bodyPost_end (v:=.tuple #[]) (by simp [results,Tryz.results200,go_sem]) rfl ⟨rfl,HN.out⟩
theorem none_any (w:World) (k:Int):Calls Tryz.prog 174 #[.int .i64 k] w (RatPost w 0):=by
 have hb:=boxR_new (W:=w) rfl false none 0 0 none 0 0
 have hx:=(Ext.refl (fun _=>False) w).alloc (.cells #[.bool false,.slice none 0 0,.slice none 0 0] 31)
 have hp:=hb.put (neg:=false) (no_int none 0 0) (no_int none 0 0)
 obtain ⟨d0,d1,d2,d3,d4,d5⟩:=hb.facts
 have HR:=bH (bI hp.box (hx.own hp.ext (fun k e=>by omega)))
 clear hb hx hp
 go_enter Tryz.func174,Tryz.ntmps174
 go_upto_region 1 with fail
 generalize w.alloc (.cells #[.bool false,.slice none 0 0,.slice none 0 0] 31)=w1 at *
 generalize w.heap.size=r at *
 go_wp2
 generalize ((w1.setCell ⟨r,0,none⟩ (.bool false)).setCell ⟨r,1,none⟩ (.slice none 0 0)).setCell ⟨r,2,none⟩ (.slice none 0 0)=w9 at *
 obtain ⟨g0,g1,g2,_⟩:=HR.out.1.facts
 exact bodyPost_ret (v:=.agg #[.bool false,.slice none 0 0,.slice none 0 0]) (by simp [results,Tryz.results174,go_sem,g0,g1,g2]) rfl ⟨_,rfl,IsRat.zero _,HR.out.2⟩
def NRow (w:World) (v:Value) (m:Nat) (b:Nat->Nat):Prop:=∃ ao c,v=.slice ao m c/\m<=9223372036854775807/\∀ i,i<m->∃ g off,ao=some ⟨g,off,none⟩/\w.cell? ⟨g,off+i,none⟩=some (.int .i64 (b i))
theorem NRow.keep {w w':World} {v:Value} {m:Nat} {b:Nat->Nat} (h:NRow w v m b) (hx:XF w w'):NRow w' v m b:=by
 obtain ⟨ao,c,e,h1,h2⟩:=h
 refine ⟨ao,c,e,h1,fun i hi=>?_⟩
 obtain ⟨g,off,e2,h3⟩:=h2 i hi
 exact ⟨g,off,e2,cell_keep h3 hx⟩
def pickB (key:Nat->Rat) (b:Nat->Nat) (k:Nat):Option Nat->Option Nat
 | none=>some k
 | some j=>if (key k - key j).num.sign<0∨((key k - key j).num.sign=0/\b k<b j) then some k else some j
def bestTo (acc:Nat->Bool) (key:Nat->Rat) (b:Nat->Nat):Nat->Option Nat
 | 0=>none
 | k+1=>if acc k then pickB key b k (bestTo acc key b k) else bestTo acc key b k
theorem bestTo_lt {acc:Nat->Bool} {key:Nat->Rat} {b:Nat->Nat}:∀ {k j:Nat},bestTo acc key b k=some j->j<k/\acc j=true
 | 0,j,h=>by cases h
 | k+1,j,h=>by
  unfold bestTo at h
  split at h
  ·rename_i ha
   cases hi:bestTo acc key b k with
   | none =>
    rw [hi] at h
    cases h; exact ⟨by omega,ha⟩
   | some i =>
    rw [hi] at h
    unfold pickB at h
    simp only at h
    split at h
    ·cases h; exact ⟨by omega,ha⟩
    ·cases h
     have:=bestTo_lt hi
     exact ⟨by omega,this.2⟩
  ·have:=bestTo_lt h
   exact ⟨by omega,this.2⟩
def optI:Option Nat->Int
 | none=>-1
 | some j=>j
theorem least_any (w:World) (v:Value) (m:Nat) (b:Nat->Nat) (F1 F2:Nat) (caps1 caps2:Array Value) (acc:Nat->Bool) (key:Nat->Rat) (L:Nat) (hv:NRow w v m b) (hm:m<=1000000)
  (eg1:∀ args W,(callFunc F1 args).run Tryz.prog W=.ok (.enter F1 args) W) (eg2:∀ args W,(callFunc F2 args).run Tryz.prog W=.ok (.enter F2 args) W)
  (H1:∀ W,XF w W->∀ k:Nat,k<m->Calls Tryz.prog F1 (#[.int .i64 k]++caps1) W (BoolPost W (acc k)))
  (H2:∀ W,XF w W->∀ k:Nat,k<m->acc k=true->Calls Tryz.prog F2 (#[.int .i64 k]++caps2) W (RatPost W (key k)))
  (hz:∀ k,k<m->acc k=true->Sz (key k) L) (h1:1<=L) (hL:L<=4194304) :
  Calls Tryz.prog 172 #[v,.func (.func F1) #[] caps1,.func (.func F2) #[] caps2] w (fun r w'=>r=.returned (.int .i64 (optI (bestTo acc key b m)))/\XF w w'):=by
 have HV:=bH hv
 obtain ⟨ao,c,rfl,-,-⟩:=hv
 have HH1:=bH H1
 have HH2:=bH H2
 have HZ:=bH hz
 have HC:=bH (fun W u u' q q' (hu:IsRat W u q) (hq:Sz q L) (hu':IsRat W u' q') (hq':Sz q' L)=>rcmp_any W u u' q q' L (hu.reads hq) (hu'.reads hq') h1 hL)
 clear H1 H2 hz
 have hb:=boxR_new (W:=w) rfl false none 0 0 none 0 0
 have HB:=bH (bI hb ((Ext.refl (fun _=>False) w).alloc (.cells #[.bool false,.slice none 0 0,.slice none 0 0] 31)))
 clear hb
 go_enter Tryz.func172,Tryz.ntmps172
 go_upto_region 3 with fail
 generalize w.alloc (.cells #[.bool false,.slice none 0 0,.slice none 0 0] 31)=w1 at *
 obtain ⟨vb,hvb⟩:∃ vb,w.heap.size=vb:=⟨_,rfl⟩
 have hvw:w.heap.size<=vb:=Nat.le_of_eq hvb
 rw [hvb] at HB ⊢
 clear hvb
 go_wp2_with fail
 go_loopg [15,9,10,7,11,12] m (fun gg v15 v9 v10 v7 v11 v12 wr=>∃ (i:Nat) (bt:Option Nat),i<=m/\gg=m - i/\v15=.int .i64 i/\v7=.int .i64 (optI bt)/\bestTo acc key b i=bt/\(∃ q sn s1 sm1 sc1 s2 sm2 sc2,BoxR wr vb sn (.slice s1 sm1 sc1) (.slice s2 sm2 sc2)/\IsRat wr (.agg #[.bool sn,.slice s1 sm1 sc1,.slice s2 sm2 sc2]) q/\(∀ j,bt=some j->q=key j))/\XF w wr)
 case atStart=>exact ⟨0,none,Nat.zero_le _,rfl,rfl,rfl,rfl,⟨0,_,_,_,_,_,_,_,HB.out.1,IsRat.zero _,fun j h=>by cases h⟩,HB.out.2⟩
 case round =>
  obtain ⟨i,bt,hi,rfl,rfl,rfl,hbt,hbox,hx⟩:=hrel
  have HX:=bH (bI hbt (bI hbox hx))
  clear hbt hbox hx HB
  by_cases hin:i<m
  ·have i0:(i:Int)<(m:Int):=by omega
   have i1:(0:Int)<=(i:Int):=by omega
   obtain ⟨_,_,e,-,hcs⟩:=HV.out.keep HX.out.2.2
   cases e
   obtain ⟨g,off,rfl,e0⟩:=hcs i hin
   have HCs:=bH hcs
   have HK:=bH (HH1.out wr HX.out.2.2 i hin)
   clear hcs
   have HS:=bH (show bestTo acc key b (i+1)=if acc i then pickB key b i bt else bt from by rw [<- HX.out.1]; rfl)
   go_wp2_with fail
   refine HK.out.mono ?_
   rintro r2 w2 ⟨rfl,hx2⟩
   have HX2:=bH (HX.out.2.2.trans hx2)
   obtain ⟨q,sn,s1,sm1,sc1,s2,sm2,sc2,hbx,hq,hqk⟩:=HX.out.2.1
   have HBx:=bH (bI (hbx.keep hx2) (bI (hq.keep hx2) hqk))
   have E0:=bH (fun j (hj:j<m)=>(by
    obtain ⟨g',off',e',h'⟩:=HCs.out j hj
    cases e'
    exact cell_keep h' hx2:w2.cell? ⟨g,off+j,none⟩=some (.int .i64 (b j))))
   have HBl:=bH (fun j=>(bestTo_lt (acc:=acc) (key:=key) (b:=b) (k:=i) (j:=j)))
   rw [HX.out.1] at HBl
   clear hx2 hbx hq hqk HK e0
   obtain ⟨ai,hai⟩:∃ ai,acc i=ai:=⟨_,rfl⟩
   have HAi:=bH hai
   rw [hai]
   rw [hai] at HS
   clear hai
   cases ai with
   | false =>
    go_wp2
    go_roundg (m - (i+1))
    case measure=>omega
    case rel=>exact ⟨i+1,bt,by omega,rfl,by go_num,rfl,HS.out,⟨q,sn,s1,sm1,sc1,s2,sm2,sc2,HBx.out⟩,HX2.out⟩
   | true =>
   have HK2:=bH (HH2.out w2 HX2.out i hin HAi.out)
   have HZi:=bH (HZ.out i hin HAi.out)
   go_wp2_with fail
   refine HK2.out.mono ?_
   rintro r3 w3 ⟨v3,rfl,h3,hx3⟩
   obtain ⟨n3,a3,l3,c3,a3',l3',c3',rfl⟩:=h3.shape
   have hxa:=(Ext.refl (fun _=>False) w3).alloc (.cells #[.bool n3,.slice a3 l3 c3,.slice a3' l3' c3'] 31)
   have hx4:=hx3.trans hxa
   have HB4:=bH (bI (HBx.out.1.keep hx4) (bI (HBx.out.2.1.keep hx4) (bI (boxR_new (W:=w3) rfl n3 a3 l3 c3 a3' l3' c3') (bI (h3.keep hxa) (HX2.out.trans hx4)))))
   have E4:=bH (fun j hj=>cell_keep (E0.out j hj) hx4)
   have HQk:=bH HBx.out.2.2
   have hvb3:vb<w3.heap.size:=by have:=(HBx.out.1.keep hx3).lt; exact this
   clear h3 hx3 hxa hx4 HK2 HBx E0
   go_upto_region 8 with fail
   generalize w3.alloc (.cells #[.bool n3,.slice a3 l3 c3,.slice a3' l3' c3'] 31)=w4 at *
   generalize w3.heap.size=xb at *
   cases bt with
   | none =>
    have hopt:optI none = -1:=rfl
    have hop2:¬ (0:Int)≤-1:=by decide
    rw [hopt]
    have hbr:=HB4.out.1
    obtain ⟨d0,d1,d2,d3,d4,d5⟩:=hbr.facts
    obtain ⟨x0,x1,x2,-⟩:=HB4.out.2.2.1.facts
    have hp:=hbr.put (neg:=n3) (no_int a3 l3 c3) (no_int a3' l3' c3')
    have hdr:=(Ext.refl (fun _=>False) (((w4.setCell ⟨vb,0,none⟩ (.bool n3)).setCell ⟨vb,1,none⟩ (.slice a3 l3 c3)).setCell ⟨vb,2,none⟩ (.slice a3' l3' c3'))).drew
    have HR:=bH (bI (hp.box.keep hdr) (bI ((hp.rat HB4.out.2.2.2.1).keep hdr) ((HB4.out.2.2.2.2.own hp.ext (fun k e=>by omega)).drew)))
    clear hp hbr hdr
    go_upto_region 12 with fail
    go_region
    go_upto_region 13 with fail
    generalize (((w4.setCell ⟨vb,0,none⟩ (.bool n3)).setCell ⟨vb,1,none⟩ (.slice a3 l3 c3)).setCell ⟨vb,2,none⟩ (.slice a3' l3' c3')).drew=w9 at *
    go_wp2
    go_roundg (m - (i+1))
    case measure=>omega
    case rel=>exact ⟨i+1,some i,by omega,rfl,by go_num,rfl,(by rw [HS.out]; rfl),⟨key i,_,_,_,_,_,_,_,HR.out.1,HR.out.2.1,fun j h=>by cases h; rfl⟩,HR.out.2.2⟩
   | some j =>
    have hopt:optI (some j)=(j:Int):=rfl
    rw [hopt]
    have hj:=HBl.out j rfl
    have hjm:j<m:=by omega
    have j0:(0:Int)<=(j:Int):=by omega
    have j1:(j:Int)<(m:Int):=by omega
    have hqj:=HQk.out j rfl
    subst hqj
    have HCq:=bH (HC.out w4 _ _ _ _ HB4.out.2.2.2.1 HZi.out HB4.out.2.1 (HZ.out j hjm hj.2))
    obtain ⟨d0,d1,d2,-⟩:=HB4.out.1.facts
    obtain ⟨x0,x1,x2,-⟩:=HB4.out.2.2.1.facts
    have HP:=bH (show pickB key b i (some j)=if (key i - key j).num.sign<0∨((key i - key j).num.sign=0/\b i<b j) then some i else some j from rfl)
    clear hj hopt
    go_wp2_with fail
    refine HCq.out.mono ?_
    rintro r5 w5 ⟨rfl,hx5⟩
    have HB5:=bH (bI (HB4.out.1.keep hx5) (bI (HB4.out.2.1.keep hx5) (bI (HB4.out.2.2.1.keep hx5) (bI (HB4.out.2.2.2.1.keep hx5) (HB4.out.2.2.2.2.trans hx5)))))
    have e1:=cell_keep (E4.out j hjm) hx5
    have HJ:=bH hjm
    clear hx5 HCq HB4 d0 d1 d2 x0 x1 x2
    obtain ⟨sg,hsg⟩:∃ sg,(key i - key j).num.sign=sg:=⟨_,rfl⟩
    rw [hsg] at HP ⊢
    clear hsg
    by_cases hs:sg<0
    ·have HE:=bH (show bestTo acc key b (i+1)=some i from by rw [HS.out,if_pos trivial,HP.out,if_pos (Or.inl hs)])
     have hbr:=HB5.out.1
     obtain ⟨d0,d1,d2,d3,d4,d5⟩:=hbr.facts
     obtain ⟨x0,x1,x2,-⟩:=HB5.out.2.2.1.facts
     have hp:=hbr.put (neg:=n3) (no_int a3 l3 c3) (no_int a3' l3' c3')
     have hdr:=(Ext.refl (fun _=>False) (((w5.setCell ⟨vb,0,none⟩ (.bool n3)).setCell ⟨vb,1,none⟩ (.slice a3 l3 c3)).setCell ⟨vb,2,none⟩ (.slice a3' l3' c3'))).drew
     have HR:=bH (bI (hp.box.keep hdr) (bI ((hp.rat HB5.out.2.2.2.1).keep hdr) ((HB5.out.2.2.2.2.own hp.ext (fun k e=>by omega)).drew)))
     clear hp hbr hdr
     go_upto_region 12 with fail
     go_region
     go_upto_region 13 with fail
     generalize (((w5.setCell ⟨vb,0,none⟩ (.bool n3)).setCell ⟨vb,1,none⟩ (.slice a3 l3 c3)).setCell ⟨vb,2,none⟩ (.slice a3' l3' c3')).drew=w9 at *
     go_wp2
     go_roundg (m - (i+1))
     case measure=>omega
     case rel=>exact ⟨i+1,some i,by omega,rfl,by go_num,rfl,HE.out,⟨key i,_,_,_,_,_,_,_,HR.out.1,HR.out.2.1,fun j h=>by cases h; rfl⟩,HR.out.2.2⟩
    by_cases hs0:sg=0
    ·subst hs0
     by_cases hb:b i<b j
     ·have hbi:(b i:Int)<(b j:Int):=by omega
      have HE:=bH (show bestTo acc key b (i+1)=some i from by rw [HS.out,if_pos trivial,HP.out,if_pos (Or.inr ⟨rfl,hb⟩)])
      have hbr:=HB5.out.1
      obtain ⟨d0,d1,d2,d3,d4,d5⟩:=hbr.facts
      obtain ⟨x0,x1,x2,-⟩:=HB5.out.2.2.1.facts
      have hp:=hbr.put (neg:=n3) (no_int a3 l3 c3) (no_int a3' l3' c3')
      have hdr:=(Ext.refl (fun _=>False) (((w5.setCell ⟨vb,0,none⟩ (.bool n3)).setCell ⟨vb,1,none⟩ (.slice a3 l3 c3)).setCell ⟨vb,2,none⟩ (.slice a3' l3' c3'))).drew
      have HR:=bH (bI (hp.box.keep hdr) (bI ((hp.rat HB5.out.2.2.2.1).keep hdr) ((HB5.out.2.2.2.2.own hp.ext (fun k e=>by omega)).drew)))
      clear hp hbr hdr
      go_upto_region 12 with fail
      go_region
      go_upto_region 13 with fail
      generalize (((w5.setCell ⟨vb,0,none⟩ (.bool n3)).setCell ⟨vb,1,none⟩ (.slice a3 l3 c3)).setCell ⟨vb,2,none⟩ (.slice a3' l3' c3')).drew=w9 at *
      go_wp2
      go_roundg (m - (i+1))
      case measure=>omega
      case rel=>exact ⟨i+1,some i,by omega,rfl,by go_num,rfl,HE.out,⟨key i,_,_,_,_,_,_,_,HR.out.1,HR.out.2.1,fun j h=>by cases h; rfl⟩,HR.out.2.2⟩
     ·have hbi:¬ (b i:Int)<(b j:Int):=by omega
      have HE:=bH (show bestTo acc key b (i+1)=some j from by rw [HS.out,if_pos trivial,HP.out,if_neg (by omega)])
      go_wp2
      go_roundg (m - (i+1))
      case measure=>omega
      case rel=>exact ⟨i+1,some j,by omega,rfl,by go_num,rfl,HE.out,⟨key j,_,_,_,_,_,_,_,HB5.out.1,HB5.out.2.1,fun j h=>by cases h; rfl⟩,HB5.out.2.2.2.2⟩
    ·have hs1:(sg == 0)=false:=by simpa using hs0
     have HE:=bH (show bestTo acc key b (i+1)=some j from by rw [HS.out,if_pos trivial,HP.out,if_neg (by omega)])
     go_wp2
     go_roundg (m - (i+1))
     case measure=>omega
     case rel=>exact ⟨i+1,some j,by omega,rfl,by go_num,rfl,HE.out,⟨key j,_,_,_,_,_,_,_,HB5.out.1,HB5.out.2.1,fun j h=>by cases h; rfl⟩,HB5.out.2.2.2.2⟩
  ·obtain rfl:i=m:=by omega
   go_wp2
   go_ret
   exact ⟨by rw [HX.out.1]; rfl,HX.out.2.2⟩
structure TabV where
 pv:Value
 pr:Value
 u:Value
 mp:Value
 ba:Value
 fr:Value
 be:Value
 al:Value
 d:Value
 l:Value
 rb:Nat->Nat
structure TabF where
 n:Nat
 m:Nat
 ba:Nat->Nat
 fr:Nat->Nat
 be:Nat->Rat
 d:Nat->Rat
 al:Nat->Nat->Rat
def IntAt (w:World) (base:Nat) (v:Value) (m:Nat) (b:Nat->Nat):Prop :=
 (v=.slice none 0 0/\m=0)∨∃ g cap arr,v=.slice (some ⟨g,0,none⟩) m cap/\base<=g/\m<=cap/\cap<=maxLen/\blk w g=some (.cells arr 3 (0,0))/\arr.size=cap/\NoDig w g/\∀ i,i<m->arr[i]?=some (.int .i64 (b i))
def SlcAt (w:World) (base:Nat) (v:Value) (m:Nat) (f:Nat->Value):Prop :=
 (v=.slice none 0 0/\m=0)∨∃ g cap arr,v=.slice (some ⟨g,0,none⟩) m cap/\base<=g/\m<=cap/\cap<=maxLen/\blk w g=some (.cells arr 32 (0,0))/\arr.size=cap/\∀ i,i<m->arr[i]?=some (f i)
def RatAt (w:World) (base:Nat) (v:Value) (m:Nat) (f:Nat->Rat):Prop :=
 (v=.slice none 0 0/\m=0)∨∃ g cap,v=.slice (some ⟨g,0,none⟩) m cap/\base<=g/\m<=cap/\cap<=maxLen/\RCap w g m f/\∃ arr,blk w g=some (.cells arr 31 (0,0))/\arr.size=cap*3
section
variable {w w':World} {base:Nat} {v:Value} {m:Nat}
theorem IntAt.past {S:Nat->Prop} {b:Nat->Nat} (h:IntAt w base v m b) (hx:Ext S w w') (hn:∀ g,v.ownBlock=some g->¬ S g):IntAt w' base v m b:=by
 rcases h with h | ⟨g,cap,arr,rfl,h1,h2,h3,h4,h5,h6,h7⟩
 ·exact .inl h
 ·exact .inr ⟨g,cap,arr,rfl,h1,h2,h3,(hx.blk (blk_lt h4) (hn g rfl)).trans h4,h5,fun i d hc=>h6 i d (by rw [<- hx.cell (p:=⟨g,i,none⟩) (blk_lt h4) (hn g rfl)]; exact hc),h7⟩
theorem SlcAt.past {S:Nat->Prop} {f:Nat->Value} (h:SlcAt w base v m f) (hx:Ext S w w') (hn:∀ g,v.ownBlock=some g->¬ S g):SlcAt w' base v m f:=by
 rcases h with h | ⟨g,cap,arr,rfl,h1,h2,h3,h4,h5⟩
 ·exact .inl h
 ·exact .inr ⟨g,cap,arr,rfl,h1,h2,h3,(hx.blk (blk_lt h4) (hn g rfl)).trans h4,h5⟩
theorem RatAt.past {S:Nat->Prop} {f:Nat->Rat} (h:RatAt w base v m f) (hx:Ext S w w') (hn:∀ g,v.ownBlock=some g->¬ S g) (hr:∀ u l,Rds w u l->Rds w' u l):RatAt w' base v m f:=by
 rcases h with h | ⟨g,cap,rfl,h1,h2,h3,h4,arr,h5,h6⟩
 ·exact .inl h
 ·exact .inr ⟨g,cap,rfl,h1,h2,h3,h4.past hx (hn g rfl) hr,arr,(hx.blk (blk_lt h5) (hn g rfl)).trans h5,h6⟩
theorem IntAt.typ {b:Nat->Nat} (h:IntAt w base v m b):∀ g,v.ownBlock=some g->∃ arr,blk w g=some (.cells arr 3 (0,0)):=fun g hg=>by
 rcases h with ⟨rfl,_⟩ | ⟨g',cap,arr,rfl,h1,h2,h3,h4,h5⟩
 ·cases hg
 ·cases hg; exact ⟨arr,h4⟩
theorem SlcAt.typ {f:Nat->Value} (h:SlcAt w base v m f):∀ g,v.ownBlock=some g->∃ arr,blk w g=some (.cells arr 32 (0,0)):=fun g hg=>by
 rcases h with ⟨rfl,_⟩ | ⟨g',cap,arr,rfl,h1,h2,h3,h4,h5⟩
 ·cases hg
 ·cases hg; exact ⟨arr,h4⟩
theorem RatAt.typ {f:Nat->Rat} (h:RatAt w base v m f):∀ g,v.ownBlock=some g->∃ arr,blk w g=some (.cells arr 31 (0,0)):=fun g hg=>by
 rcases h with ⟨rfl,_⟩ | ⟨g',cap,rfl,h1,h2,h3,h4,arr,h5,h6⟩
 ·cases hg
 ·cases hg; exact ⟨arr,h5⟩
theorem IntAt.low {b:Nat->Nat} (h:IntAt w base v m b):∀ g,v.ownBlock=some g->base<=g:=fun g hg=>by
 rcases h with ⟨rfl,_⟩ | ⟨g',cap,arr,rfl,h1,h2,h3,h4,h5⟩
 ·cases hg
 ·cases hg; exact h1
theorem RatAt.low {f:Nat->Rat} (h:RatAt w base v m f):∀ g,v.ownBlock=some g->base<=g:=fun g hg=>by
 rcases h with ⟨rfl,_⟩ | ⟨g',cap,rfl,h1,_⟩
 ·cases hg
 ·cases hg; exact h1
theorem typ_ne {g g':Nat} {a b:Array Value} {T U:TypeId} (h:blk w g=some (.cells a T (0,0))) (h':blk w g'=some (.cells b U (0,0))) (hn:T≠U):g≠g':=fun e=>by
 rw [e,h'] at h
 injection h with h
 injection h with _ h2 _
 exact hn h2.symm
end
theorem IntAt.nrow {w:World} {base m:Nat} {v:Value} {b:Nat->Nat} (h:IntAt w base v m b) (hm:m<=1000000):NRow w v m b:=by
 rcases h with ⟨rfl,rfl⟩ | ⟨g,cap,arr,rfl,_,_,_,h3,_,_,h5⟩
 ·exact ⟨none,0,rfl,Nat.zero_le _,fun i hi=>absurd hi (Nat.not_lt_zero i)⟩
 ·exact ⟨_,cap,rfl,by omega,fun i hi=>⟨g,0,rfl,by rw [Nat.zero_add]; exact (cell_of_cells h3 i).trans (h5 i hi)⟩⟩
structure TabAt (w:World) (base tb:Nat) (V:TabV) (T:TabF):Prop where
 box:blk w tb=some (.cells #[V.pv,V.pr,V.u,V.mp,V.ba,V.fr,V.be,V.al,V.d,V.l] 140 (0,0))
 ba:IntAt w base V.ba T.m T.ba
 fr:IntAt w base V.fr T.n T.fr
 be:RatAt w base V.be T.m T.be
 d:RatAt w base V.d T.n T.d
 al:SlcAt w base V.al T.m (fun i=>.slice (some ⟨V.rb i,0,none⟩) T.n T.n)
 rows:∀ i,i<T.m->RCap w (V.rb i) T.n (T.al i)/\base<=V.rb i
 rr:∀ i j,i<T.m->j<T.m->i≠j->V.rb i≠V.rb j
 rbe:∀ i,i<T.m->V.be.ownBlock≠some (V.rb i)
 rd:∀ i,i<T.m->V.d.ownBlock≠some (V.rb i)
 bed:∀ g,V.be.ownBlock=some g->V.d.ownBlock≠some g
 bf:∀ g,V.ba.ownBlock=some g->V.fr.ownBlock≠some g
 small:T.n<=1000/\T.m<=1000
section
variable {w w':World} {base tb:Nat} {V:TabV} {T:TabF}
theorem TabAt.keep (h:TabAt w base tb V T) (hx:XF w w'):TabAt w' base tb V T :=
 have hr:∀ u l,Rds w u l->Rds w' u l:=fun _ _ hr=>hr.keep hx
 ⟨blk_keep h.box hx,h.ba.past hx (fun _ _=>id),h.fr.past hx (fun _ _=>id),h.be.past hx (fun _ _=>id) hr,h.d.past hx (fun _ _=>id) hr,h.al.past hx (fun _ _=>id),fun i hi=>⟨(h.rows i hi).1.keep hx,(h.rows i hi).2⟩,h.rr,h.rbe,h.rd,h.bed,h.bf,h.small⟩
theorem TabAt.rat (h:TabAt w base tb V T) {g:Nat} {a:Array Value} (hg:blk w g=some (.cells a 31 (0,0))) (hx:Ext (fun k=>k=g) w w') (hr:∀ u l,Rds w u l->Rds w' u l) :
  blk w' tb=some (.cells #[V.pv,V.pr,V.u,V.mp,V.ba,V.fr,V.be,V.al,V.d,V.l] 140 (0,0))/\IntAt w' base V.ba T.m T.ba/\IntAt w' base V.fr T.n T.fr/\SlcAt w' base V.al T.m (fun i=>.slice (some ⟨V.rb i,0,none⟩) T.n T.n) /\
  (V.be.ownBlock≠some g->RatAt w' base V.be T.m T.be)/\(V.d.ownBlock≠some g->RatAt w' base V.d T.n T.d)/\∀ i,i<T.m->V.rb i≠g->RCap w' (V.rb i) T.n (T.al i):=by
 refine ⟨(hx.blk (blk_lt h.box) (typ_ne h.box hg (by decide))).trans h.box,h.ba.past hx (fun g' hg'=>?_),h.fr.past hx (fun g' hg'=>?_),h.al.past hx (fun g' hg'=>?_),fun hn=>h.be.past hx (fun g' hg' e=>hn (by rw [hg',show g'=g from e])) hr,fun hn=>h.d.past hx (fun g' hg' e=>hn (by rw [hg',show g'=g from e])) hr,fun i hi hn=>(h.rows i hi).1.past hx hn hr⟩
 ·obtain ⟨arr,h1⟩:=h.ba.typ g' hg'; exact typ_ne h1 hg (by decide)
 ·obtain ⟨arr,h1⟩:=h.fr.typ g' hg'; exact typ_ne h1 hg (by decide)
 ·obtain ⟨arr,h1⟩:=h.al.typ g' hg'; exact typ_ne h1 hg (by decide)
theorem TabAt.setRow (h:TabAt w base tb V T) {k:Nat} (hk:k<T.m) {f:Nat->Rat} (ho:OneRow w w' (V.rb k) T.n f):TabAt w' base tb V { T with al:=fun i=>if i=k then f else T.al i }:=by
 obtain ⟨arr,ha,_⟩:=(h.rows k hk).1.row
 obtain ⟨g1,g2,g3,g4,g5,g6,g7⟩:=h.rat ha ho.ext ho.rds
 refine ⟨g1,g2,g3,g5 (h.rbe k hk),g6 (h.rd k hk),g4,fun i hi=>⟨?_,(h.rows i hi).2⟩,h.rr,h.rbe,h.rd,h.bed,h.bf,h.small⟩
 show RCap w' (V.rb i) T.n (if i=k then f else T.al i)
 by_cases e:i=k
 ·subst e; rw [if_pos rfl]; exact ho.row
 ·rw [if_neg e]; exact g7 i hi (h.rr i k hi hk e)
theorem OneRow.at {g m cap:Nat} {f f':Nat->Rat} (ho:OneRow w w' g m f') (h:RatAt w base (.slice (some ⟨g,0,none⟩) m cap) m f):RatAt w' base (.slice (some ⟨g,0,none⟩) m cap) m f':=by
 rcases h with ⟨e,_⟩ | ⟨g',cap',e,h1,h2,h3,h4,arr,h5,h6⟩
 ·cases e
 ·cases e
  obtain ⟨arr',h7,h8⟩:=ho.sz arr _ h5
  exact .inr ⟨g,cap,rfl,h1,h2,h3,ho.row,arr',h7,h8.trans h6⟩
theorem TabAt.setBe (h:TabAt w base tb V T) {g cap:Nat} (hv:V.be=.slice (some ⟨g,0,none⟩) T.m cap) {f:Nat->Rat} (ho:OneRow w w' g T.m f):TabAt w' base tb V { T with be:=f }:=by
 have hob:V.be.ownBlock=some g:=by rw [hv]; rfl
 obtain ⟨arr,ha⟩:=h.be.typ g hob
 obtain ⟨g1,g2,g3,g4,g5,g6,g7⟩:=h.rat ha ho.ext ho.rds
 refine ⟨g1,g2,g3,?_,g6 (h.bed g hob),g4,fun i hi=>⟨g7 i hi (fun e=>h.rbe i hi (by rw [hob,e])),(h.rows i hi).2⟩,h.rr,h.rbe,h.rd,h.bed,h.bf,h.small⟩
 have h2:=h.be
 show RatAt w' base V.be T.m f
 rw [hv] at h2 ⊢
 exact ho.at h2
theorem TabAt.setD (h:TabAt w base tb V T) {g cap:Nat} (hv:V.d=.slice (some ⟨g,0,none⟩) T.n cap) {f:Nat->Rat} (ho:OneRow w w' g T.n f):TabAt w' base tb V { T with d:=f }:=by
 have hob:V.d.ownBlock=some g:=by rw [hv]; rfl
 obtain ⟨arr,ha⟩:=h.d.typ g hob
 obtain ⟨g1,g2,g3,g4,g5,g6,g7⟩:=h.rat ha ho.ext ho.rds
 refine ⟨g1,g2,g3,g5 (fun e=>h.bed g e hob),?_,g4,fun i hi=>⟨g7 i hi (fun e=>h.rd i hi (by rw [hob,e])),(h.rows i hi).2⟩,h.rr,h.rbe,h.rd,h.bed,h.bf,h.small⟩
 have h2:=h.d
 show RatAt w' base V.d T.n f
 rw [hv] at h2 ⊢
 exact ho.at h2
end
theorem sumTo_nonneg {f:Nat->Rat} {n:Nat} (h:∀ i,i<n->0<=f i):0<=sumTo n f:=by
 have:=sumTo_le (f:=fun _=>0) (g:=f) (n:=n) h
 rw [sumTo_zero] at this
 exact this
theorem top_of (f:Nat->Nat):∀ k:Nat,0<k->∃ e,e<k/\∀ i,i<k->f i<=f e
 | 0,h=>absurd h (Nat.lt_irrefl 0)
 | k+1,_=>by
  by_cases hk:0<k
  ·obtain ⟨e,he,hm⟩:=top_of f k hk
   by_cases h:f k<=f e
   ·exact ⟨e,by omega,fun i hi=>by
     by_cases hik:i=k
     ·rw [hik]; exact h
     ·exact hm i (by omega)⟩
   ·exact ⟨k,by omega,fun i hi=>by
     by_cases hik:i=k
     ·rw [hik]; exact Nat.le_refl _
     ·have:=hm i (by omega); omega⟩
  ·exact ⟨0,by omega,fun i hi=>by
    obtain rfl:i=0:=by omega
    exact Nat.le_refl _⟩
structure PStep (N:Nat) (D:Tb) (v u:Nat):Prop where
 uN:u<N
 free:D.B u=false
 neg:D.d u<0
 first:∀ t,t<N->D.B t=false->D.d t<0->u<=t
 basic:D.B v=true
 pos:0<D.M v u
 ratio:∀ i,D.B i=true->0<D.M i u->D.b v / D.M v u<D.b i / D.M i u∨(D.b v / D.M v u=D.b i / D.M i u/\v<=i)
structure DStep (N:Nat) (D:Tb) (v u:Nat):Prop where
 basic:D.B v=true
 neg:D.b v<0
 first:∀ i,D.B i=true->D.b i<0->v<=i
 uN:u<N
 free:D.B u=false
 mneg:D.M v u<0
 ratio:∀ t,t<N->D.B t=false->D.M v t<0->D.d u / -D.M v u<D.d t / -D.M v t∨(D.d u / -D.M v u=D.d t / -D.M v t/\u<=t)
structure Chain (N:Nat) (c:Nat->Tb) (pv pu:Nat->Nat) (k:Nat):Prop where
 wf:Wf N (c 0)
 next:∀ i,i<k->c (i+1)=pivT (c i) (pv i) (pu i)
 basic:∀ i,i<k->(c i).B (pv i)=true
 free:∀ i,i<k->(c i).B (pu i)=false
 uN:∀ i,i<k->pu i<N
 ne:∀ i,i<k->(c i).M (pv i) (pu i)≠0
section
variable {N:Nat} {c:Nat->Tb} {pv pu:Nat->Nat} {k:Nat}
theorem Chain.wfs (h:Chain N c pv pu k):∀ i,i<=k->Wf N (c i)
 | 0,_=>h.wf
 | i+1,hi=>by
  rw [h.next i (by omega)]
  exact pivT_wf (h.wfs i (by omega)) (h.basic i (by omega)) (h.free i (by omega)) (h.uN i (by omega)) (h.ne i (by omega))
theorem Chain.equ (h:Chain N c pv pu k):∀ i,i<=k->Equ N (c 0) (c i)
 | 0,_=>Equ.refl N _
 | i+1,hi=>by
  refine (h.equ i (by omega)).trans ?_
  rw [h.next i (by omega)]
  exact pivT_equ (h.basic i (by omega)) (h.free i (by omega)) (h.ne i (by omega))
theorem Chain.equ2 (h:Chain N c pv pu k) {i j:Nat} (hi:i<=k) (hj:j<=k):Equ N (c i) (c j):=(h.equ i hi).symm.trans (h.equ j hj)
theorem Chain.shift (h:Chain N c pv pu k) {i n:Nat} (hn:i+n<=k):Chain N (fun j=>c (i+j)) (fun j=>pv (i+j)) (fun j=>pu (i+j)) n :=
 ⟨h.wfs i (by omega),fun j hj=>h.next (i+j) (by omega),fun j hj=>h.basic (i+j) (by omega),fun j hj=>h.free (i+j) (by omega),fun j hj=>h.uN (i+j) (by omega),fun j hj=>h.ne (i+j) (by omega)⟩
theorem Chain.stepB (h:Chain N c pv pu k) {i:Nat} (hi:i<k) (t:Nat):(c (i+1)).B t=if t=pu i then true else if t=pv i then false else (c i).B t:=by
 rw [h.next i hi]; rfl
theorem Chain.down (h:Chain N c pv pu k) {r:Nat} (hr:∀ i,i<k->pu i≠r):∀ {i j:Nat},i<=j->j<=k->(c j).B r=true->(c i).B r=true:=by
 intro i j hij hj
 induction j with
 | zero =>
      obtain rfl:i=0:=by omega
      exact id
 | succ j ih =>
  by_cases e:i=j+1
  ·subst e; exact id
  ·intro hb
   refine ih (by omega) (by omega) ?_
   rw [h.stepB (by omega),if_neg (fun e=>hr j (by omega) e.symm)] at hb
   split at hb
   ·cases hb
   ·exact hb
theorem Chain.up (h:Chain N c pv pu k) {r:Nat} (hr:∀ i,i<k->pv i≠r):∀ {i j:Nat},i<=j->j<=k->(c i).B r=true->(c j).B r=true:=by
 intro i j hij hj
 induction j with
 | zero =>
      obtain rfl:i=0:=by omega
      exact id
 | succ j ih =>
  by_cases e:i=j+1
  ·subst e; exact id
  ·intro hb
   have:=ih (by omega) (by omega) hb
   rw [h.stepB (by omega)]
   split
   ·rfl
   ·rw [if_neg (fun e=>hr j (by omega) e.symm)]; exact this
theorem Chain.enters (h:Chain N c pv pu k) (hc:∀ t,(c 0).B t=(c k).B t) {r i j:Nat} (hi:i<=k) (hj:j<=k) (h1:(c i).B r=true) (h2:(c j).B r=false):∃ e,e<k/\pu e=r:=by
 refine Classical.byContradiction fun hn=>?_
 have hr:∀ e,e<k->pu e≠r:=fun e he e2=>hn ⟨e,he,e2⟩
 have h3:=h.down hr (Nat.zero_le i) hi h1
 rw [hc] at h3
 have h4:=h.down hr hj (Nat.le_refl k) h3
 rw [h2] at h4; cases h4
theorem Chain.leaves (h:Chain N c pv pu k) (hc:∀ t,(c 0).B t=(c k).B t) {r i j:Nat} (hi:i<=k) (hj:j<=k) (h1:(c i).B r=true) (h2:(c j).B r=false):∃ e,e<k/\pv e=r:=by
 refine Classical.byContradiction fun hn=>?_
 have hr:∀ e,e<k->pv e≠r:=fun e he e2=>hn ⟨e,he,e2⟩
 have h3:=h.up hr hi (Nat.le_refl k) h1
 rw [<- hc] at h3
 have h4:=h.up hr (Nat.zero_le j) hj h3
 rw [h2] at h4; cases h4
theorem Chain.enters_free (h:Chain N c pv pu k) {e:Nat} (he:e<k):(c (e+1)).B (pu e)=true:=by
 rw [h.stepB he,if_pos rfl]
theorem mono_chain {f:Nat->Rat}:∀ {n:Nat},(∀ i,i<n->f i<=f (i+1))->∀ {i j:Nat},i<=j->j<=n->f i<=f j:=by
 intro n h i j hij hj
 induction j with
 | zero =>
      obtain rfl:i=0:=by omega
      exact Rat.le_refl
 | succ j ih =>
  by_cases e:i=j+1
  ·subst e; exact Rat.le_refl
  ·exact Rat.le_trans (ih (by omega) (by omega)) (h j (by omega))
theorem flat_chain {f:Nat->Rat} {n:Nat} (h:∀ i,i<n->f i<=f (i+1)) (he:f 0=f n) {i:Nat} (hi:i<n):f i=f (i+1):=by
 have h1:=mono_chain h (Nat.zero_le i) (by omega)
 have h2:=mono_chain h (show i+1<=n by omega) (Nat.le_refl n)
 have h3:=h i hi
 exact Rat.le_antisymm h3 (by rw [he] at h1; exact Rat.le_trans h2 h1)
end
section
variable {N:Nat} {D:Tb} {v u:Nat}
theorem div_nonneg {a b:Rat} (h:0<=a) (hb:0<b):0<=a / b:=by
 rw [Rat.div_def]
 exact Rat.mul_nonneg h (Rat.le_of_lt (Rat.inv_pos.2 hb))
theorem PStep.keep (hw:Wf N D) (h:PStep N D v u) (hb:∀ w,0<=D.b w) (w:Nat):0<=(pivT D v u).b w:=by
 have h0:=div_nonneg (hb v) h.pos
 show 0<=(if w=u then D.b v / D.M v u else if w=v then 0 else D.b w - D.M w u*(D.b v / D.M v u))
 split
 ·exact h0
 ·split
  ·exact Rat.le_refl
  ·by_cases hm:0<D.M w u
   ·by_cases hB:D.B w=true
    ·have h1:D.b v / D.M v u<=D.b w / D.M w u:=by
      rcases h.ratio w hB hm with e | e
      ·exact Rat.le_of_lt e
      ·rw [e.1]; exact Rat.le_refl
     have h2:=Rat.mul_le_mul_of_nonneg_left h1 (Rat.le_of_lt hm)
     have h3:D.M w u*(D.b w / D.M w u)=D.b w:=by
      have:D.M w u≠0:=fun e=>by rw [e] at hm; exact absurd hm (by decide)
      grind
     rw [h3] at h2
     grind
    ·have:=hw.row w (by simpa using hB) u
     rw [this] at hm
     exact absurd hm (by decide)
   ·have h1:D.M w u*(D.b v / D.M v u)<=0:=by
     have:=Rat.mul_nonneg (a:=-D.M w u) (by grind) h0
     grind
    have:=hb w
    grind
theorem DStep.keep (hw:Wf N D) (h:DStep N D v u) (hd:∀ t,t<N->0<=D.d t) (t:Nat) (ht:t<N):0<=(pivT D v u).d t:=by
 show 0<=D.d t - D.d u*(D.M v t / D.M v u)
 have hu:=hd u h.uN
 have hm:0 < -D.M v u:=by have:=h.mneg; grind
 by_cases hn:D.M v t<0
 ·have hf:D.B t=false:=by
   cases hB:D.B t with
   | false=>rfl
   | true =>
    rw [hw.unit v t h.basic hB] at hn
    split at hn <;> exact absurd hn (by decide)
  have h1:D.d u / -D.M v u<=D.d t / -D.M v t:=by
   rcases h.ratio t ht hf hn with e | e
   ·exact Rat.le_of_lt e
   ·rw [e.1]; exact Rat.le_refl
  have hn2:0 < -D.M v t:=by grind
  have h2:=Rat.mul_le_mul_of_nonneg_left h1 (Rat.le_of_lt hn2)
  have h3:-D.M v t*(D.d t / -D.M v t)=D.d t:=by grind
  have h4:-D.M v t*(D.d u / -D.M v u)=D.d u*(D.M v t / D.M v u):=by grind
  rw [h3,h4] at h2
  grind
 ·have h1:0<=D.M v t / -D.M v u:=div_nonneg (by grind) hm
  have h2:=Rat.mul_nonneg hu h1
  have h3:D.d u*(D.M v t / -D.M v u) = -(D.d u*(D.M v t / D.M v u)):=by grind
  rw [h3] at h2
  have:=hd t ht
  grind
end
section
variable {N:Nat} {c:Nat->Tb} {pv pu:Nat->Nat} {k:Nat}
theorem Chain.ofP (hw:Wf N (c 0)) (hn:∀ i,i<k->c (i+1)=pivT (c i) (pv i) (pu i)) (hs:∀ i,i<k->PStep N (c i) (pv i) (pu i)):Chain N c pv pu k :=
 ⟨hw,hn,fun i hi=>(hs i hi).basic,fun i hi=>(hs i hi).free,fun i hi=>(hs i hi).uN,fun i hi e=>by have:=(hs i hi).pos; rw [e] at this; exact absurd this (by decide)⟩
theorem Chain.ofD (hw:Wf N (c 0)) (hn:∀ i,i<k->c (i+1)=pivT (c i) (pv i) (pu i)) (hs:∀ i,i<k->DStep N (c i) (pv i) (pu i)):Chain N c pv pu k :=
 ⟨hw,hn,fun i hi=>(hs i hi).basic,fun i hi=>(hs i hi).free,fun i hi=>(hs i hi).uN,fun i hi e=>by have:=(hs i hi).mneg; rw [e] at this; exact absurd this (by decide)⟩
theorem keepP (h:Chain N c pv pu k) (hs:∀ i,i<k->PStep N (c i) (pv i) (pu i)) (hb:∀ w,0<=(c 0).b w):∀ i,i<=k->∀ w,0<=(c i).b w
 | 0,_=>hb
 | i+1,hi=>by
  rw [h.next i (by omega)]
  exact (hs i (by omega)).keep (h.wfs i (by omega)) (keepP h hs hb i (by omega))
theorem keepD (h:Chain N c pv pu k) (hs:∀ i,i<k->DStep N (c i) (pv i) (pu i)) (hd:∀ t,t<N->0<=(c 0).d t):∀ i,i<=k->∀ t,t<N->0<=(c i).d t
 | 0,_=>hd
 | i+1,hi=>by
  rw [h.next i (by omega)]
  exact (hs i (by omega)).keep (h.wfs i (by omega)) (keepD h hs hd i (by omega))
theorem sum_ext {D:Tb} (f:Nat->Rat) {s:Nat} (hs:s<N) (hf:D.B s=false):sumTo N (fun u=>if D.B u then 0 else f u*extT N D 0 (oneAt s) u)=f s:=by
 rw [<- sum_oneAt (D:=D) f hs hf]
 refine sumTo_congr fun u _=>?_
 cases hu:D.B u with
 | true=>rfl
 | false=>rw [ext_free hu]
theorem noCycleP (h:Chain N c pv pu k) (hs:∀ i,i<k->PStep N (c i) (pv i) (pu i)) (hb:∀ w,0<=(c 0).b w) (hk:0<k) (hc:∀ t,(c 0).B t=(c k).B t):False:=by
 have hbs:=keepP h hs hb
 have hz0:(c 0).z=(c k).z:=((h.equ k (Nat.le_refl k)).same h.wf (h.wfs k (Nat.le_refl k)) hc).2.2.2
 have hq:∀ i,i<k->0<=(c i).b (pv i) / (c i).M (pv i) (pu i):=fun i hi=>div_nonneg (hbs i (by omega) _) (hs i hi).pos
 have hzn:∀ i,i<k->(c (i+1)).z=(c i).z+(c i).d (pu i)*((c i).b (pv i) / (c i).M (pv i) (pu i)):=fun i hi=>by rw [h.next i hi]; rfl
 have hmono:∀ i,i<k→-(c i).z≤-(c (i+1)).z:=fun i hi=>by
  have h1:=Rat.mul_nonneg (a:=-(c i).d (pu i)) (by have:=(hs i hi).neg; grind) (hq i hi)
  rw [hzn i hi]; grind
 have hflat:∀ i,i<k->(c i).b (pv i) / (c i).M (pv i) (pu i)=0:=fun i hi=>by
  have h1:=flat_chain (f:=fun i=>-(c i).z) hmono (by rw [hz0]) hi
  have h2:=hzn i hi
  have h3:(c i).d (pu i)*((c i).b (pv i) / (c i).M (pv i) (pu i))=0:=by grind
  have h4:=(hs i hi).neg
  have h5:(c i).d (pu i)≠0:=fun e=>by rw [e] at h4; exact absurd h4 (by decide)
  rcases Rat.mul_eq_zero.1 h3 with e | e
  ·exact absurd e h5
  ·exact e
 have hbc:∀ i,i<k->∀ w,(c (i+1)).b w=(c i).b w:=fun i hi w=>by
  have hf:=hflat i hi
  rw [h.next i hi]
  show (if w=pu i then (c i).b (pv i) / (c i).M (pv i) (pu i) else if w=pv i then 0 else (c i).b w - (c i).M w (pu i)*((c i).b (pv i) / (c i).M (pv i) (pu i)))=_
  rw [hf]
  split
  ·rename_i e; rw [e,(h.wfs i (by omega)).rhs _ (h.free i hi)]
  ·split
   ·rename_i e
    rw [e]
    have:(c i).M (pv i) (pu i)≠0:=h.ne i hi
    grind
   ·grind
 have hb0:∀ i,i<=k->∀ w,(c i).b w=(c 0).b w:=by
  intro i
  induction i with
  | zero=>exact fun _ _=>rfl
  | succ i ih=>exact fun hi w=>(hbc i (by omega) w).trans (ih (by omega) w)
 have hfz:∀ {r i j},i<=k->j<=k->(c i).B r=false->(c j).b r=0:=fun {r i j} hi hj hB=>by
  rw [hb0 j hj,<- hb0 i hi]; exact (h.wfs i hi).rhs _ hB
 obtain ⟨e,he,hmax⟩:=top_of pu k hk
 obtain ⟨t,ht⟩:∃ t,pu e=t:=⟨_,rfl⟩
 rw [ht] at hmax
 have hEs:=hs e he
 have hEf:=h.free e he
 rw [ht] at hEs hEf
 obtain ⟨l,hl,hlt⟩:=h.leaves hc (show e+1<=k by omega) (show e<=k by omega) (by rw [<- ht]; exact h.enters_free he) hEf
 have hDs:=hs l hl
 have hDb:=h.basic l hl
 rw [hlt] at hDs hDb
 have hst:pu l<=t:=hmax l hl
 have hDf:=h.free l hl
 have hsN:=h.uN l hl
 obtain ⟨s,hsd⟩:∃ s,pu l=s:=⟨_,rfl⟩
 rw [hsd] at hDs hst hDf hsN
 have hsne:s≠t:=fun e=>by rw [e,hDb] at hDf; cases hDf
 have hpos:∀ j,j<N->j<t->0<=(c e).d j:=fun j hj hjt=>by
  refine Rat.not_lt.1 fun hn=>?_
  cases hB:(c e).B j with
  | true=>rw [(h.wfs e (by omega)).cost j hB] at hn; exact absurd hn (by decide)
  | false=>have:=hEs.first j hj hB hn; omega
 have hsol:=ext_sol (h.wfs l (by omega)) 0 (oneAt s)
 have hobj:=(h.equ2 (show l<=k by omega) (show e<=k by omega)).obj 0 _ hsol
 rw [obj_free (h.wfs l (by omega)),sum_ext _ hsN hDf] at hobj
 have hneg:=hDs.neg
 have hsum:0<=sumTo N fun j=>(c e).d j*extT N (c l) 0 (oneAt s) j:=by
  refine sumTo_nonneg fun j hj=>?_
  cases hB:(c l).B j with
  | false =>
   rw [ext_free hB]
   unfold oneAt
   split
   ·rename_i e2
    have:=hpos j hj (by omega)
    grind
   ·grind
  | true =>
   rw [ext_basic hB,sum_oneAt _ hsN hDf]
   cases hE:(c e).B j with
   | true=>rw [(h.wfs e (by omega)).cost j hE]; grind
   | false =>
    obtain ⟨e2,he2,hj2⟩:=h.enters hc (show l<=k by omega) (show e<=k by omega) hB hE
    have hjt:j<=t:=by have:=hmax e2 he2; omega
    by_cases e3:j=t
    ·subst e3
     have h1:=hEs.neg
     have h2:=hDs.pos
     have:=Rat.mul_nonneg (a:=-(c e).d j) (b:=(c l).M j s) (by grind) (by grind)
     grind
    ·have h1:=hpos j hj (by omega)
     have h2:(c l).M j s<=0:=by
      refine Rat.not_lt.1 fun hp=>?_
      have hbt:=hfz (r:=t) (show e<=k by omega) (show l<=k by omega) hEf
      have hbj:=hfz (r:=j) (show e<=k by omega) (show l<=k by omega) hE
      rcases hDs.ratio j hB hp with h3 | h3
      ·rw [hbt,hbj] at h3
       have e1:(0:Rat) / (c l).M t s=0:=by grind
       have e2:(0:Rat) / (c l).M j s=0:=by grind
       rw [e1,e2] at h3
       exact absurd h3 (by decide)
      ·omega
     have:=Rat.mul_nonneg (a:=(c e).d j) (b:=-(c l).M j s) h1 (by grind)
     grind
 unfold objT at hobj
 grind
theorem noCycleD (h:Chain N c pv pu k) (hs:∀ i,i<k->DStep N (c i) (pv i) (pu i)) (hd:∀ t,t<N->0<=(c 0).d t) (hk:0<k) (hc:∀ t,(c 0).B t=(c k).B t):False:=by
 have hds:=keepD h hs hd
 have hz0:(c 0).z=(c k).z:=((h.equ k (Nat.le_refl k)).same h.wf (h.wfs k (Nat.le_refl k)) hc).2.2.2
 have hq:∀ i,i<k->0<(c i).b (pv i) / (c i).M (pv i) (pu i):=fun i hi=>by
  have h1:=(hs i hi).neg
  have h2:=(hs i hi).mneg
  have e:(c i).b (pv i) / (c i).M (pv i) (pu i) = -(c i).b (pv i)*(-(c i).M (pv i) (pu i))⁻¹:=by grind
  rw [e]
  exact Rat.mul_pos (by grind) (Rat.inv_pos.2 (by grind))
 have hzn:∀ i,i<k->(c (i+1)).z=(c i).z+(c i).d (pu i)*((c i).b (pv i) / (c i).M (pv i) (pu i)):=fun i hi=>by rw [h.next i hi]; rfl
 have hmono:∀ i,i<k->(c i).z<=(c (i+1)).z:=fun i hi=>by
  have h1:=Rat.mul_nonneg (hds i (by omega) (pu i) (h.uN i hi)) (Rat.le_of_lt (hq i hi))
  rw [hzn i hi]; grind
 have hflat:∀ i,i<k->(c i).d (pu i)=0:=fun i hi=>by
  have h1:=flat_chain (f:=fun i=>(c i).z) hmono hz0 hi
  have h2:=hzn i hi
  have h3:(c i).d (pu i)*((c i).b (pv i) / (c i).M (pv i) (pu i))=0:=by grind
  have h4:=hq i hi
  rcases Rat.mul_eq_zero.1 h3 with e | e
  ·exact e
  ·rw [e] at h4; exact absurd h4 (by decide)
 have hdc:∀ i,i<k->∀ t,(c (i+1)).d t=(c i).d t:=fun i hi t=>by
  have hf:=hflat i hi
  rw [h.next i hi]
  show (c i).d t - (c i).d (pu i)*((c i).M (pv i) t / (c i).M (pv i) (pu i))=_
  rw [hf]; grind
 have hd0:∀ i,i<=k->∀ t,(c i).d t=(c 0).d t:=by
  intro i
  induction i with
  | zero=>exact fun _ _=>rfl
  | succ i ih=>exact fun hi t=>(hdc i (by omega) t).trans (ih (by omega) t)
 have hfz:∀ {r i j},i<=k->j<=k->(c i).B r=true->(c j).d r=0:=fun {r i j} hi hj hB=>by
  rw [hd0 j hj,<- hd0 i hi]; exact (h.wfs i hi).cost _ hB
 obtain ⟨e,he,hmax⟩:=top_of pu k hk
 obtain ⟨t,ht⟩:∃ t,pu e=t:=⟨_,rfl⟩
 rw [ht] at hmax
 have hDs:=hs e he
 have hDf:=h.free e he
 have htN:=h.uN e he
 rw [ht] at hDs hDf htN
 obtain ⟨l,hl,hlt⟩:=h.leaves hc (show e+1<=k by omega) (show e<=k by omega) (by rw [<- ht]; exact h.enters_free he) hDf
 have hEs:=hs l hl
 have hEb:=h.basic l hl
 rw [hlt] at hEs hEb
 have hDb:=h.basic e he
 obtain ⟨s,hsd⟩:∃ s,pv e=s:=⟨_,rfl⟩
 rw [hsd] at hDs hDb
 have hsne:s≠t:=fun e=>by rw [e,hDf] at hDb; cases hDb
 have hs2:(c (e+1)).B s=false:=by rw [h.stepB he,if_neg (by rw [ht]; exact hsne),if_pos hsd.symm]
 obtain ⟨e2,he2,hs3⟩:=h.enters hc (show e<=k by omega) (show e+1<=k by omega) hDb hs2
 have hst:s<t:=by have:=hmax e2 he2; omega
 have hpos:∀ j,(c l).B j=true->j<t->0<=(c l).b j:=fun j hB hjt=>by
  refine Rat.not_lt.1 fun hn=>?_
  have:=hEs.first j hB hn; omega
 have hsol:=(h.equ2 (show l<=k by omega) (show e<=k by omega)).sol 1 _ |>.1 (ext_sol (h.wfs l (by omega)) 1 (fun _=>0))
 have hrow:=hsol s hDb
 have hneg:=hDs.neg
 have hsum:0<=sumTo N fun j=>(c e).M s j*extT N (c l) 1 (fun _=>0) j:=by
  refine sumTo_nonneg fun j hj=>?_
  cases hB:(c l).B j with
  | false=>rw [ext_free hB]; grind
  | true =>
   rw [ext_basic hB,sum_none]
   cases hE:(c e).B j with
   | true =>
    rw [(h.wfs e (by omega)).unit s j hDb hE]
    split
    ·rename_i e3
     subst e3
     have:=hpos s hB hst
     grind
    ·grind
   | false =>
    obtain ⟨e3,he3,hj3⟩:=h.enters hc (show l<=k by omega) (show e<=k by omega) hB hE
    have hjt:j<=t:=by have:=hmax e3 he3; omega
    by_cases e4:j=t
    ·subst e4
     have h1:=hEs.neg
     have h2:=hDs.mneg
     have:=Rat.mul_nonneg (a:=-(c e).M s j) (b:=-(c l).b j) (by grind) (by grind)
     grind
    ·have h1:=hpos j hB (by omega)
     have h2:0<=(c e).M s j:=by
      refine Rat.not_lt.1 fun hp=>?_
      have hdt:=hfz (r:=t) (show l<=k by omega) (show e<=k by omega) hEb
      have hdj:=hfz (r:=j) (show l<=k by omega) (show e<=k by omega) hB
      rcases hDs.ratio j hj hE hp with h3 | h3
      ·rw [hdt,hdj] at h3
       have e1:(0:Rat) / -(c e).M s t=0:=by grind
       have e2:(0:Rat) / -(c e).M s j=0:=by grind
       rw [e1,e2] at h3
       exact absurd h3 (by decide)
      ·omega
     have:=Rat.mul_nonneg h2 h1
     grind
 grind
end
theorem pig:∀ (n:Nat) (f:Nat->Nat),(∀ i,i<=n->f i<n)->∃ i j,i<j/\j<=n/\f i=f j
 | 0,f,h=>absurd (h 0 (Nat.le_refl 0)) (Nat.not_lt_zero _)
 | n+1,f,h=>by
  by_cases hex:∃ i,i<=n/\f i=f (n+1)
  ·obtain ⟨i,hi,e⟩:=hex
   exact ⟨i,n+1,by omega,Nat.le_refl _,e⟩
  ·have hne:∀ i,i<=n->f i≠f (n+1):=fun i hi e=>hex ⟨i,hi,e⟩
   have hv:=h (n+1) (Nat.le_refl _)
   obtain ⟨i,j,h1,h2,h3⟩:=pig n (fun i=>if f (n+1)<f i then f i - 1 else f i) (fun i hi=>by
    have h4:=h i (by omega)
    have h5:=hne i hi
    show (if f (n+1)<f i then f i - 1 else f i)<n
    split <;> omega)
   refine ⟨i,j,h1,by omega,?_⟩
   have h4:=hne i (by omega)
   have h5:=hne j h2
   split at h3 <;> split at h3 <;> omega
def codeB:Nat->(Nat->Bool)->Nat
 | 0,_=>0
 | n+1,B=>codeB n B+if B n then 2 ^ n else 0
theorem codeB_lt:∀ (n:Nat) (B:Nat->Bool),codeB n B<2 ^ n
 | 0,_=>by simp [codeB]
 | n+1,B=>by
  have h:=codeB_lt n B
  show codeB n B+(if B n then 2 ^ n else 0)<2 ^ (n+1)
  rw [Nat.pow_succ]
  split <;> omega
theorem codeB_inj:∀ {n:Nat} {B C:Nat->Bool},codeB n B=codeB n C->∀ t,t<n->B t=C t
 | 0,_,_,_,t,h=>absurd h (Nat.not_lt_zero t)
 | n+1,B,C,h,t,ht=>by
  have hb:=codeB_lt n B
  have hc:=codeB_lt n C
  have h':codeB n B+(if B n then 2 ^ n else 0)=codeB n C+(if C n then 2 ^ n else 0):=h
  have hn:B n=C n:=by
   cases hB:B n <;> cases hC:C n <;> simp [hB,hC] at h' <;> first | rfl | omega
  rw [hn] at h'
  have h2:codeB n B=codeB n C:=by omega
  by_cases e:t=n
  ·rw [e]; exact hn
  ·exact codeB_inj h2 t (by omega)
section
variable {N:Nat} {c:Nat->Tb} {pv pu:Nat->Nat} {k:Nat}
theorem short_of (h:Chain N c pv pu k) (hno:∀ i j,i<j->j<=k->¬ ∀ t,(c i).B t=(c j).B t):k<2 ^ N:=by
 refine Nat.lt_of_not_le fun hk=>?_
 obtain ⟨i,j,h1,h2,h3⟩:=pig (2 ^ N) (fun i=>codeB N (c i).B) (fun i _=>codeB_lt N _)
 refine hno i j h1 (by omega) fun t=>?_
 by_cases ht:t<N
 ·exact codeB_inj h3 t ht
 ·have hi:(c i).B t=false:=by
   cases hb:(c i).B t with
   | false=>rfl
   | true=>exact absurd ((h.wfs i (by omega)).dom t hb) ht
  have hj:(c j).B t=false:=by
   cases hb:(c j).B t with
   | false=>rfl
   | true=>exact absurd ((h.wfs j (by omega)).dom t hb) ht
  rw [hi,hj]
theorem shortP (h:Chain N c pv pu k) (hs:∀ i,i<k->PStep N (c i) (pv i) (pu i)) (hb:∀ w,0<=(c 0).b w):k<2 ^ N :=
 short_of h fun i j hij hj he=>noCycleP (h.shift (i:=i) (n:=j - i) (by omega)) (fun m hm=>hs (i+m) (by omega)) (fun w=>keepP h hs hb i (by omega) w) (by omega) (fun t=>by
  show (c (i+0)).B t=(c (i+(j - i))).B t
  rw [Nat.add_zero,show i+(j - i)=j from by omega]; exact he t)
theorem shortD (h:Chain N c pv pu k) (hs:∀ i,i<k->DStep N (c i) (pv i) (pu i)) (hd:∀ t,t<N->0<=(c 0).d t):k<2 ^ N :=
 short_of h fun i j hij hj he=>noCycleD (h.shift (i:=i) (n:=j - i) (by omega)) (fun m hm=>hs (i+m) (by omega)) (fun t ht=>keepD h hs hd i (by omega) t ht) (by omega) (fun t=>by
  show (c (i+0)).B t=(c (i+(j - i))).B t
  rw [Nat.add_zero,show i+(j - i)=j from by omega]; exact he t)
end
def cntN (f:Nat->Bool):Nat->Nat
 | 0=>0
 | n+1=>cntN f n+if f n then 1 else 0
theorem cntN_zero {f:Nat->Bool}:∀ {n:Nat},cntN f n=0->∀ t,t<n->f t=false
 | 0,_,t,h=>absurd h (Nat.not_lt_zero t)
 | n+1,h,t,ht=>by
  have h':cntN f n+(if f n then 1 else 0)=0:=h
  by_cases e:t=n
  ·subst e
   cases hf:f t with
   | false=>rfl
   | true=>rw [hf] at h'; simp at h'
  ·exact cntN_zero (n:=n) (by omega) t (by omega)
theorem cntN_pos {f:Nat->Bool}:∀ {n:Nat},0<cntN f n->∃ t,t<n/\f t=true
 | 0,h=>absurd h (Nat.lt_irrefl 0)
 | n+1,h=>by
  cases hf:f n with
  | true=>exact ⟨n,by omega,hf⟩
  | false =>
   have h':0<cntN f n+(if f n then 1 else 0):=h
   rw [hf] at h'
   obtain ⟨t,ht,h2⟩:=cntN_pos (n:=n) (by simpa using h')
   exact ⟨t,by omega,h2⟩
theorem cntN_congr {f g:Nat->Bool}:∀ {n:Nat},(∀ t,t<n->f t=g t)->cntN f n=cntN g n
 | 0,_=>rfl
 | n+1,h=>by
  show cntN f n+(if f n then 1 else 0)=cntN g n+(if g n then 1 else 0)
  rw [cntN_congr (n:=n) (fun t ht=>h t (by omega)),h n (by omega)]
theorem cntN_drop {f g:Nat->Bool} {u:Nat}:∀ {n:Nat},u<n->f u=true->g u=false->(∀ t,t<n->t≠u->f t=g t)->cntN f n=cntN g n+1
 | 0,h,_,_,_=>absurd h (Nat.not_lt_zero _)
 | n+1,h,hf,hg,he=>by
  show cntN f n+(if f n then 1 else 0)=cntN g n+(if g n then 1 else 0)+1
  by_cases e:u=n
  ·subst e
   rw [hf,hg,cntN_congr (fun t ht=>he t (by omega) (by omega))]
   simp
  ·rw [cntN_drop (n:=n) (by omega) hf hg (fun t ht hne=>he t (by omega) hne),he n (by omega) (Ne.symm e)]
   omega
theorem cntN_le {f:Nat->Bool} {m:Nat} (hf:∀ t,m<=t->f t=false):∀ n:Nat,cntN f n<=m
 | 0=>Nat.zero_le _
 | n+1=>by
  by_cases h:n<m
  ·have:∀ n,cntN f n<=n:=fun n=>by
    induction n with
    | zero=>exact Nat.le_refl _
    | succ n ih =>
     show cntN f n+(if f n then 1 else 0)<=n+1
     split <;> omega
   have:=this (n+1)
   omega
  ·show cntN f n+(if f n then 1 else 0)<=m
   rw [hf n (by omega)]
   have:=cntN_le hf n
   simpa using this
structure Bnd (N:Nat) (D:Tb) (s:Nat):Prop where
 M:∀ w t,t<N->Sz (D.M w t) s
 b:∀ w,Sz (D.b w) s
 d:∀ t,t<N->Sz (D.d t) s
theorem Sz.inv {q:Rat} {L:Nat} (h:Sz q L) (h1:1<=L):Sz q⁻¹ L:=by
 by_cases h0:q=0
 ·subst h0
  rw [Rat.inv_zero]; exact Sz.zero.mono h1
 ·refine ⟨?_,?_⟩
  ·rw [Rat.num_inv,Int.natAbs_mul,Int.natAbs_natCast]
   have hs:q.num.sign.natAbs=1:=by
    have:q.num≠0:=fun e=>h0 (Rat.num_eq_zero.1 e)
    rcases Int.lt_or_gt_of_ne this with h | h
    ·rw [Int.sign_eq_neg_one_of_neg h]; rfl
    ·rw [Int.sign_eq_one_of_pos h]; rfl
   rw [hs,Nat.one_mul]; exact h.2
  ·rw [Rat.den_inv,if_neg (fun e=>h0 (Rat.num_eq_zero.1 e))]; exact h.1
theorem Sz.div {q q':Rat} {L M:Nat} (h:Sz q L) (h':Sz q' M) (h1:1<=M):Sz (q / q') (L+M):=by
 rw [Rat.div_def]; exact h.mul (h'.inv h1)
def TabV.S (V:TabV) (m:Nat) (k:Nat):Prop:=V.ba.ownBlock=some k∨V.fr.ownBlock=some k∨V.be.ownBlock=some k∨V.d.ownBlock=some k∨∃ i,i<m/\k=V.rb i
def invF (T:TabF) (i c:Nat):Rat:=1 / T.al i c
def rowF (T:TabF) (i c:Nat) (j:Nat):Rat:=if j=c then invF T i c else T.al i j*invF T i c
def pivF (T:TabF) (i c:Nat):TabF where
 n:=T.n
 m:=T.m
 ba:=fun k=>if k=i then T.fr c else T.ba k
 fr:=fun j=>if j=c then T.ba i else T.fr j
 be:=fun k=>if k=i then T.be i*invF T i c else T.be k - T.al k c*(T.be i*invF T i c)
 d:=fun j=>if j=c then -(T.d c*invF T i c) else T.d j - T.d c*rowF T i c j
 al:=fun k=>if k=i then rowF T i c else fun j=>if j=c then -(T.al k c*invF T i c) else T.al k j - T.al k c*rowF T i c j
structure PvSt (w wr:World) (base tb:Nat) (V:TabV) (T:TabF) (ib:Nat) (q:Rat) (x:RatC):Prop where
 tab:TabAt wr base tb V T
 ext:Ext (V.S T.m) w wr
 rds:∀ v l,Rds w v l->Rds wr v l
 box:BoxR wr ib x.ng (.slice x.a1 x.m1 x.c1) (.slice x.a2 x.m2 x.c2)
 inv:IsRat wr x.v q
 new:w.heap.size<=ib
 old:∀ k,V.S T.m k->k<w.heap.size
section
variable {w wr w':World} {base tb:Nat} {V:TabV} {T:TabF} {ib:Nat} {q:Rat} {x:RatC}
theorem PvSt.keep (h:PvSt w wr base tb V T ib q x) (hx:XF wr w'):PvSt w w' base tb V T ib q x :=
 ⟨h.tab.keep hx,h.ext.trans hx.none,fun v l k=>(h.rds v l k).keep hx,h.box.keep hx,h.inv.keep hx,h.new,h.old⟩
theorem PvSt.row (h:PvSt w wr base tb V T ib q x) {k:Nat} (hk:k<T.m) {f:Nat->Rat} (ho:OneRow wr w' (V.rb k) T.n f):PvSt w w' base tb V { T with al:=fun i=>if i=k then f else T.al i } ib q x:=by
 have hs:V.S T.m (V.rb k):=.inr (.inr (.inr (.inr ⟨k,hk,rfl⟩)))
 have hlt:=h.old _ hs
 exact ⟨h.tab.setRow hk ho,h.ext.trans (ho.ext.mono (fun i _ e=>by have e':i=V.rb k:=e; rw [e']; exact hs)),fun v l k=>ho.rds v l (h.rds v l k),h.box.ext ho.ext (fun e=>by have e':ib=V.rb k:=e; have:=h.new; omega),h.inv.past ho.rds,h.new,h.old⟩
theorem PvSt.be (h:PvSt w wr base tb V T ib q x) {g cap:Nat} (hv:V.be=.slice (some ⟨g,0,none⟩) T.m cap) {f:Nat->Rat} (ho:OneRow wr w' g T.m f):PvSt w w' base tb V { T with be:=f } ib q x:=by
 have hs:V.S T.m g:=.inr (.inr (.inl (by rw [hv]; rfl)))
 have hlt:=h.old _ hs
 exact ⟨h.tab.setBe hv ho,h.ext.trans (ho.ext.mono (fun i _ e=>by have e':i=g:=e; rw [e']; exact hs)),fun v l k=>ho.rds v l (h.rds v l k),h.box.ext ho.ext (fun e=>by have e':ib=g:=e; have:=h.new; omega),h.inv.past ho.rds,h.new,h.old⟩
theorem PvSt.d (h:PvSt w wr base tb V T ib q x) {g cap:Nat} (hv:V.d=.slice (some ⟨g,0,none⟩) T.n cap) {f:Nat->Rat} (ho:OneRow wr w' g T.n f):PvSt w w' base tb V { T with d:=f } ib q x:=by
 have hs:V.S T.m g:=.inr (.inr (.inr (.inl (by rw [hv]; rfl))))
 have hlt:=h.old _ hs
 exact ⟨h.tab.setD hv ho,h.ext.trans (ho.ext.mono (fun i _ e=>by have e':i=g:=e; rw [e']; exact hs)),fun v l k=>ho.rds v l (h.rds v l k),h.box.ext ho.ext (fun e=>by have e':ib=g:=e; have:=h.new; omega),h.inv.past ho.rds,h.new,h.old⟩
end
theorem TabAt.old {w:World} {base tb:Nat} {V:TabV} {T:TabF} (h:TabAt w base tb V T):∀ k,V.S T.m k->k<w.heap.size:=fun k hk=>by
 rcases hk with hk | hk | hk | hk | ⟨i,hi,rfl⟩
 ·obtain ⟨_,h1⟩:=h.ba.typ k hk; exact blk_lt h1
 ·obtain ⟨_,h1⟩:=h.fr.typ k hk; exact blk_lt h1
 ·obtain ⟨_,h1⟩:=h.be.typ k hk; exact blk_lt h1
 ·obtain ⟨_,h1⟩:=h.d.typ k hk; exact blk_lt h1
 ·exact (h.rows i hi).1.lt
theorem RatAt.open {w:World} {base:Nat} {v:Value} {m:Nat} {f:Nat->Rat} (h:RatAt w base v m f) (hm:0<m):∃ g cap,v=.slice (some ⟨g,0,none⟩) m cap/\m<=cap/\cap<=maxLen/\RCap w g m f:=by
 rcases h with ⟨_,e⟩ | ⟨g,cap,e,_,h1,h2,h3,_⟩
 ·omega
 ·exact ⟨g,cap,e,h1,h2,h3⟩
theorem SlcAt.open {w:World} {base:Nat} {v:Value} {m:Nat} {f:Nat->Value} (h:SlcAt w base v m f) (hm:0<m):∃ g cap,v=.slice (some ⟨g,0,none⟩) m cap/\m<=cap/\cap<=maxLen/\∀ i,i<m->w.cell? ⟨g,i,none⟩=some (f i):=by
 rcases h with ⟨_,e⟩ | ⟨g,cap,arr,e,_,h1,h2,h3,h4,h5⟩
 ·omega
 ·exact ⟨g,cap,e,h1,h2,fun i hi=>(cell_of_cells h3 i).trans (h5 i hi)⟩
theorem IntAt.open {w:World} {base:Nat} {v:Value} {m:Nat} {b:Nat->Nat} (h:IntAt w base v m b) (hm:0<m):∃ g cap,v=.slice (some ⟨g,0,none⟩) m cap/\m<=cap/\cap<=maxLen/\(∀ i,i<m->w.cell? ⟨g,i,none⟩=some (.int .i64 (b i)))/\∀ i,w.frozen? ⟨g,i,none⟩=false:=by
 rcases h with ⟨_,e⟩ | ⟨g,cap,arr,e,_,h1,h2,h3,h4,_,h5⟩
 ·omega
 ·exact ⟨g,cap,e,h1,h2,fun i hi=>(cell_of_cells h3 i).trans (h5 i hi),fun i=>free_of_cells h3 i⟩
theorem RatAt.cap' {w:World} {base m g cap:Nat} {v:Value} {f:Nat->Rat} (h:RatAt w base v m f) (e:v=.slice (some ⟨g,0,none⟩) m cap):RCap w g m f:=by
 rcases h with ⟨h,_⟩ | ⟨g',cap',h,_,_,_,h3,_⟩
 ·rw [h] at e; cases e
 ·rw [h] at e; cases e; exact h3
theorem SlcAt.cell' {w:World} {base m g cap:Nat} {v:Value} {f:Nat->Value} (h:SlcAt w base v m f) (e:v=.slice (some ⟨g,0,none⟩) m cap) {i:Nat} (hi:i<m):w.cell? ⟨g,i,none⟩=some (f i):=by
 rcases h with ⟨h,_⟩ | ⟨g',cap',arr,h,_,_,_,h3,_,h5⟩
 ·rw [h] at e; cases e
 ·rw [h] at e; cases e; exact (cell_of_cells h3 i).trans (h5 i hi)
theorem IntAt.cell' {w:World} {base m g cap:Nat} {v:Value} {b:Nat->Nat} (h:IntAt w base v m b) (e:v=.slice (some ⟨g,0,none⟩) m cap) {i:Nat} (hi:i<m):w.cell? ⟨g,i,none⟩=some (.int .i64 (b i))/\w.frozen? ⟨g,i,none⟩=false:=by
 rcases h with ⟨h,_⟩ | ⟨g',cap',arr,h,_,_,_,h3,_,_,h5⟩
 ·rw [h] at e; cases e
 ·rw [h] at e; cases e; exact ⟨(cell_of_cells h3 i).trans (h5 i hi),free_of_cells h3 i⟩
structure TSame (T T':TabF):Prop where
 n:T.n=T'.n
 m:T.m=T'.m
 ba:∀ k,k<T.m->T.ba k=T'.ba k
 fr:∀ k,k<T.n->T.fr k=T'.fr k
 be:∀ k,k<T.m->T.be k=T'.be k
 d:∀ k,k<T.n->T.d k=T'.d k
 al:∀ k l,k<T.m->l<T.n->T.al k l=T'.al k l
theorem IntAt.congr {w:World} {base m:Nat} {v:Value} {b b':Nat->Nat} (h:IntAt w base v m b) (e:∀ k,k<m->b k=b' k):IntAt w base v m b':=by
 rcases h with h | ⟨g,cap,arr,rfl,h1,h2,h3,h4,h5,h6,h7⟩
 ·exact .inl h
 ·exact .inr ⟨g,cap,arr,rfl,h1,h2,h3,h4,h5,h6,fun i hi=>by rw [<- e i hi]; exact h7 i hi⟩
theorem RatAt.congr {w:World} {base m:Nat} {v:Value} {f f':Nat->Rat} (h:RatAt w base v m f) (e:∀ k,k<m->f k=f' k):RatAt w base v m f':=by
 rcases h with h | ⟨g,cap,rfl,h1,h2,h3,h4,h5⟩
 ·exact .inl h
 ·exact .inr ⟨g,cap,rfl,h1,h2,h3,h4.congr e,h5⟩
theorem TabAt.congr {w:World} {base tb:Nat} {V:TabV} {T T':TabF} (h:TabAt w base tb V T) (e:TSame T T'):TabAt w base tb V T':=by
 obtain ⟨n,m,ba,fr,be,d,al⟩:=T
 obtain ⟨n',m',ba',fr',be',d',al'⟩:=T'
 obtain ⟨rfl,rfl,e1,e2,e3,e4,e5⟩:=e
 exact ⟨h.box,h.ba.congr e1,h.fr.congr e2,h.be.congr e3,h.d.congr e4,h.al,fun i hi=>⟨(h.rows i hi).1.congr (fun j hj=>e5 i j hi hj),(h.rows i hi).2⟩,h.rr,h.rbe,h.rd,h.bed,h.bf,h.small⟩
theorem PvSt.congr {w wr:World} {base tb:Nat} {V:TabV} {T T':TabF} {ib:Nat} {q:Rat} {x:RatC} (h:PvSt w wr base tb V T ib q x) (e:TSame T T'):PvSt w wr base tb V T' ib q x:=by
 have hm:=e.m
 exact ⟨h.tab.congr e,by rw [<- hm]; exact h.ext,h.rds,h.box,h.inv,h.new,by rw [<- hm]; exact h.old⟩
theorem TSame.ofAl {T:TabF} {f f':Nat->Nat->Rat} (h:∀ k l,k<T.m->l<T.n->f k l=f' k l):TSame { T with al:=f } { T with al:=f' }:=⟨rfl,rfl,fun _ _=>rfl,fun _ _=>rfl,fun _ _=>rfl,fun _ _=>rfl,h⟩
def pv1 (T:TabF) (i c j:Nat):TabF:={ T with al:=fun k=>if k=i then fun l=>if l<j/\l≠c then T.al i l*invF T i c else T.al i l else T.al k }
theorem pv1_at (T:TabF) (i c j:Nat):(pv1 T i c j).al i j=T.al i j:=by
 show (if i=i then fun l=>if l<j/\l≠c then T.al i l*invF T i c else T.al i l else T.al i) j=_
 rw [if_pos rfl]; exact if_neg (by omega)
theorem pv1_zero (T:TabF) (i c:Nat):TSame T (pv1 T i c 0):=.ofAl (T:=T) (fun k l _ _=>by
 by_cases hk:k=i
 ·subst hk; rw [if_pos rfl]; exact (if_neg (by omega)).symm
 ·rw [if_neg hk])
theorem pv1_skip (T:TabF) (i c j:Nat) (h:j=c∨T.al i j=0):TSame (pv1 T i c j) (pv1 T i c (j+1)):=.ofAl (T:=T) (fun k l _ _=>by
 by_cases hk:k=i
 ·subst hk; rw [if_pos rfl,if_pos rfl]
  show (if l<j/\l≠c then T.al k l*invF T k c else T.al k l)=if l<j+1/\l≠c then T.al k l*invF T k c else T.al k l
  by_cases hl:l=j
  ·subst hl
   rw [if_neg (by omega)]
   rcases h with h | h
   ·rw [if_neg (by omega)]
   ·split
    ·rw [h]; grind
    ·rfl
  ·by_cases hl2:l<j/\l≠c
   ·rw [if_pos hl2,if_pos ⟨by omega,hl2.2⟩]
   ·rw [if_neg hl2,if_neg (by omega)]
 ·rw [if_neg hk,if_neg hk])
theorem pv1_next (T:TabF) (i c j:Nat) (h:j≠c):TSame { pv1 T i c j with al:=fun k=>if k=i then (fun l=>if l=j then T.al i j*invF T i c else (pv1 T i c j).al i l) else (pv1 T i c j).al k } (pv1 T i c (j+1)):=.ofAl (T:=T) (fun k l _ _=>by
 by_cases hk:k=i
 ·subst hk
  show (if k=k then (fun l=>if l=j then T.al k j*invF T k c else (pv1 T k c j).al k l) else (pv1 T k c j).al k) l=(if k=k then fun l=>if l<j+1/\l≠c then T.al k l*invF T k c else T.al k l else T.al k) l
  rw [if_pos rfl,if_pos rfl]
  show (if l=j then T.al k j*invF T k c else (if k=k then fun l=>if l<j/\l≠c then T.al k l*invF T k c else T.al k l else T.al k) l)=if l<j+1/\l≠c then T.al k l*invF T k c else T.al k l
  rw [if_pos rfl]
  by_cases hl:l=j
  ·subst hl; rw [if_pos rfl,if_pos ⟨by omega,h⟩]
  ·rw [if_neg hl]
   show (if l<j/\l≠c then T.al k l*invF T k c else T.al k l)=_
   by_cases hl2:l<j/\l≠c
   ·rw [if_pos hl2,if_pos ⟨by omega,hl2.2⟩]
   ·rw [if_neg hl2,if_neg (by omega)]
 ·show (if k=i then _ else (if k=i then _ else T.al k)) l=(if k=i then _ else T.al k) l
  rw [if_neg hk,if_neg hk,if_neg hk])
def pv2 (T:TabF) (i c:Nat):TabF:={ T with al:=fun k=>if k=i then rowF T i c else T.al k }
theorem pv1_last (T:TabF) (i c:Nat):TSame { pv1 T i c T.n with al:=fun k=>if k=i then (fun l=>if l=c then invF T i c else (pv1 T i c T.n).al i l) else (pv1 T i c T.n).al k } (pv2 T i c):=.ofAl (T:=T) (fun k l _ hl=>by
 by_cases hk:k=i
 ·subst hk
  show (if k=k then (fun l=>if l=c then invF T k c else (pv1 T k c T.n).al k l) else (pv1 T k c T.n).al k) l=(if k=k then rowF T k c else T.al k) l
  rw [if_pos rfl,if_pos rfl]
  show (if l=c then invF T k c else (if k=k then fun l=>if l<T.n/\l≠c then T.al k l*invF T k c else T.al k l else T.al k) l)=if l=c then invF T k c else T.al k l*invF T k c
  rw [if_pos rfl]
  by_cases hc:l=c
  ·rw [if_pos hc,if_pos hc]
  ·rw [if_neg hc,if_neg hc]; exact if_pos ⟨hl,hc⟩
 ·show (if k=i then _ else (if k=i then _ else T.al k)) l=(if k=i then _ else T.al k) l
  rw [if_neg hk,if_neg hk,if_neg hk])
def pv4 (T:TabF) (i c j:Nat):TabF:={ T with
 al:=fun k=>if k=i then rowF T i c else if k<j then fun l=>if l=c then -(T.al k c*invF T i c) else T.al k l - T.al k c*rowF T i c l else T.al k
 be:=fun k=>if k=i then T.be i*invF T i c else if k<j then T.be k - T.al k c*(T.be i*invF T i c) else T.be k }
theorem pv4_zero (T:TabF) (i c:Nat):TSame { pv2 T i c with be:=fun k=>if k=i then T.be i*invF T i c else (pv2 T i c).be k } (pv4 T i c 0):=⟨rfl,rfl,fun _ _=>rfl,fun _ _=>rfl,fun k _=>by
 show (if k=i then T.be i*invF T i c else T.be k)=if k=i then T.be i*invF T i c else if k<0 then T.be k - T.al k c*(T.be i*invF T i c) else T.be k
 by_cases hk:k=i
 ·rw [if_pos hk,if_pos hk]
 ·rw [if_neg hk,if_neg hk,if_neg (Nat.not_lt_zero k)],fun _ _=>rfl,fun k l _ _=>by
 show (if k=i then rowF T i c else T.al k) l=(if k=i then rowF T i c else if k<0 then _ else T.al k) l
 by_cases hk:k=i
 ·rw [if_pos hk,if_pos hk]
 ·rw [if_neg hk,if_neg hk,if_neg (Nat.not_lt_zero k)]⟩
theorem pv4_be (T:TabF) (i c j k:Nat):(pv4 T i c j).be k=if k=i then T.be i*invF T i c else if k<j then T.be k - T.al k c*(T.be i*invF T i c) else T.be k:=rfl
theorem pv4_al (T:TabF) (i c j k:Nat):(pv4 T i c j).al k=if k=i then rowF T i c else if k<j then fun l=>if l=c then -(T.al k c*invF T i c) else T.al k l - T.al k c*rowF T i c l else T.al k:=rfl
theorem pv4_row (T:TabF) (i c j:Nat):(pv4 T i c j).al i=rowF T i c:=by rw [pv4_al,if_pos rfl]
theorem pv4_at (T:TabF) {i c j:Nat} (h:j≠i):(pv4 T i c j).al j=T.al j:=by rw [pv4_al,if_neg h,if_neg (Nat.lt_irrefl j)]
theorem pv4_bi (T:TabF) (i c j:Nat):(pv4 T i c j).be i=T.be i*invF T i c:=by rw [pv4_be,if_pos rfl]
theorem pv4_bat (T:TabF) {i c j:Nat} (h:j≠i):(pv4 T i c j).be j=T.be j:=by rw [pv4_be,if_neg h,if_neg (Nat.lt_irrefl j)]
theorem pv4_skip (T:TabF) (i c j:Nat) (h:j=i∨T.al j c=0):TSame (pv4 T i c j) (pv4 T i c (j+1)):=⟨rfl,rfl,fun _ _=>rfl,fun _ _=>rfl,fun k _=>by
 rw [pv4_be,pv4_be]
 by_cases hk:k=i
 ·rw [if_pos hk,if_pos hk]
 ·rw [if_neg hk,if_neg hk]
  by_cases hj:k=j
  ·subst hj
   rw [if_neg (Nat.lt_irrefl k),if_pos (Nat.lt_succ_self k)]
   rcases h with h | h
   ·exact absurd h hk
   ·rw [h]; grind
  ·by_cases hl:k<j
   ·rw [if_pos hl,if_pos (show k<j+1 by omega)]
   ·rw [if_neg hl,if_neg (by omega)],fun _ _=>rfl,fun k l _ _=>by
 rw [pv4_al,pv4_al]
 by_cases hk:k=i
 ·rw [if_pos hk,if_pos hk]
 ·rw [if_neg hk,if_neg hk]
  by_cases hj:k=j
  ·subst hj
   rw [if_neg (Nat.lt_irrefl k),if_pos (Nat.lt_succ_self k)]
   rcases h with h | h
   ·exact absurd h hk
   ·show T.al k l=if l=c then -(T.al k c*invF T i c) else T.al k l - T.al k c*rowF T i c l
    split
    ·next e=>rw [e,h]; grind
    ·rw [h]; grind
  ·by_cases hl:k<j
   ·rw [if_pos hl,if_pos (show k<j+1 by omega)]
   ·rw [if_neg hl,if_neg (by omega)]⟩
def rowS (T:TabF) (i c j:Nat):Nat->Rat:=scaled T.n (T.al j) (rowF T i c) (T.al j c) c
def pv4a (T:TabF) (i c j:Nat):TabF:={ pv4 T i c j with al:=fun k=>if k=j then rowS T i c j else (pv4 T i c j).al k }
def pv4b (T:TabF) (i c j:Nat):TabF:={ pv4a T i c j with al:=fun k=>if k=j then (fun l=>if l=c then -(T.al j c*invF T i c) else rowS T i c j l) else (pv4a T i c j).al k }
theorem pv4_next (T:TabF) (i c j:Nat) (h:j≠i):TSame { pv4b T i c j with be:=fun k=>if k=j then T.be j - T.al j c*(T.be i*invF T i c) else (pv4b T i c j).be k } (pv4 T i c (j+1)):=⟨rfl,rfl,fun _ _=>rfl,fun _ _=>rfl,fun k _=>by
 show (if k=j then T.be j - T.al j c*(T.be i*invF T i c) else (pv4 T i c j).be k)=_
 rw [pv4_be,pv4_be]
 by_cases hj:k=j
 ·subst hj; rw [if_pos rfl,if_neg h,if_pos (Nat.lt_succ_self k)]
 ·rw [if_neg hj]
  by_cases hk:k=i
  ·rw [if_pos hk,if_pos hk]
  ·rw [if_neg hk,if_neg hk]
   by_cases hl:k<j
   ·rw [if_pos hl,if_pos (show k<j+1 by omega)]
   ·rw [if_neg hl,if_neg (by omega)],fun _ _=>rfl,fun k l _ hn=>by
 show (if k=j then (fun l=>if l=c then -(T.al j c*invF T i c) else rowS T i c j l) else if k=j then rowS T i c j else (pv4 T i c j).al k) l=_
 rw [pv4_al,pv4_al]
 by_cases hj:k=j
 ·subst hj; rw [if_pos rfl,if_neg h,if_pos (Nat.lt_succ_self k)]
  show (if l=c then -(T.al k c*invF T i c) else if l<T.n/\(l:Int)≠(c:Int) then T.al k l - T.al k c*rowF T i c l else T.al k l)=if l=c then -(T.al k c*invF T i c) else T.al k l - T.al k c*rowF T i c l
  by_cases hc:l=c
  ·rw [if_pos hc,if_pos hc]
  ·rw [if_neg hc,if_neg hc,if_pos ⟨hn,by omega⟩]
 ·rw [if_neg hj,if_neg hj]
  by_cases hk:k=i
  ·rw [if_pos hk,if_pos hk]
  ·rw [if_neg hk,if_neg hk]
   by_cases hl:k<j
   ·rw [if_pos hl,if_pos (show k<j+1 by omega)]
   ·rw [if_neg hl,if_neg (by omega)]⟩
def pv5 (T:TabF) (i c:Nat):TabF:={ pivF T i c with ba:=T.ba,fr:=T.fr }
theorem pv4_last (T:TabF) (i c:Nat) (D:Nat->Rat) (h:∀ l,l<T.n->D l=(pivF T i c).d l):TSame { pv4 T i c T.m with d:=D } (pv5 T i c):=⟨rfl,rfl,fun _ _=>rfl,fun _ _=>rfl,fun k hk=>by
 show (pv4 T i c T.m).be k=if k=i then T.be i*invF T i c else T.be k - T.al k c*(T.be i*invF T i c)
 rw [pv4_be]
 by_cases hi:k=i
 ·rw [if_pos hi,if_pos hi]
 ·rw [if_neg hi,if_neg hi]; exact if_pos hk,h,fun k l hk _=>by
 show (pv4 T i c T.m).al k l=(if k=i then rowF T i c else fun j=>if j=c then -(T.al k c*invF T i c) else T.al k j - T.al k c*rowF T i c j) l
 rw [pv4_al]
 by_cases hi:k=i
 ·rw [if_pos hi,if_pos hi]
 ·rw [if_neg hi,if_neg hi]; exact congrFun (if_pos hk) l⟩
theorem pv5_zero (T:TabF) (i c:Nat) (h:T.d c=0):TSame (pv4 T i c T.m) (pv5 T i c):=pv4_last T i c T.d (fun l _=>by
 show T.d l=if l=c then -(T.d c*invF T i c) else T.d l - T.d c*rowF T i c l
 split
 ·next e=>rw [e,h]; grind
 ·rw [h]; grind)
def pv4d (T:TabF) (i c:Nat):TabF:={ pv4 T i c T.m with d:=scaled T.n T.d (rowF T i c) (T.d c) c }
theorem pv5_set (T:TabF) (i c:Nat):TSame { pv4d T i c with d:=fun l=>if l=c then -(T.d c*invF T i c) else scaled T.n T.d (rowF T i c) (T.d c) c l } (pv5 T i c):=pv4_last T i c _ (fun l hl=>by
 show (if l=c then -(T.d c*invF T i c) else if l<T.n/\(l:Int)≠(c:Int) then T.d l - T.d c*rowF T i c l else T.d l)=if l=c then -(T.d c*invF T i c) else T.d l - T.d c*rowF T i c l
 by_cases hc:l=c
 ·rw [if_pos hc,if_pos hc]
 ·rw [if_neg hc,if_neg hc,if_pos ⟨hl,by omega⟩])
theorem Sz.row {T:TabF} {i c s:Nat} (hs:1<=s) (hc:Sz (T.al i c) s) {j:Nat} (hj:Sz (T.al i j) s):Sz (rowF T i c j) (2*s):=by
 have hi:Sz (invF T i c) s:=by show Sz (1 / T.al i c) s; rw [Rat.div_def,Rat.one_mul]; exact hc.inv hs
 unfold rowF
 split
 ·exact hi.mono (by omega)
 ·exact (hj.mul hi).mono (by omega)
theorem Sz.invF {T:TabF} {i c s:Nat} (hs:1<=s) (hc:Sz (T.al i c) s):Sz (invF T i c) s:=by show Sz (1 / T.al i c) s; rw [Rat.div_def,Rat.one_mul]; exact hc.inv hs
theorem IntAt.put {w:World} {base m g cap:Nat} {b:Nat->Nat} (h:IntAt w base (.slice (some ⟨g,0,none⟩) m cap) m b) {j:Nat} (x:Nat) :
  IntAt (w.setCell ⟨g,j,none⟩ (.int .i64 x)) base (.slice (some ⟨g,0,none⟩) m cap) m (fun k=>if k=j then x else b k)/\Ext (fun k=>k=g) w (w.setCell ⟨g,j,none⟩ (.int .i64 x))/\∀ v l,Rds w v l->Rds (w.setCell ⟨g,j,none⟩ (.int .i64 x)) v l:=by
 rcases h with ⟨h,_⟩ | ⟨g',cap',arr,h,h1,h2,h3,h4,h5,h6,h7⟩
 ·cases h
 ·cases h
  have hx:Ext (fun k=>k=g) w (w.setCell ⟨g,j,none⟩ (.int .i64 x)):=(Ext.refl (fun k=>k=g) w).setCell (p:=⟨g,j,none⟩) _ (fun _=>rfl)
  refine ⟨.inr ⟨g,cap,_,rfl,h1,h2,h3,blk_setCell_same h4 j _,by simpa using h5,fun i d hc=>?_,fun i hi=>?_⟩,hx,fun v l hv=>hv.past hx (fun k _ e=>by subst e; exact h6)⟩
  ·rw [cell?_setCell_if] at hc
   split at hc
   ·cases hw:w.cell? ⟨g,i,none⟩ <;> simp_all
   ·exact h6 i d hc
  ·show (arr.setIfInBounds j (.int .i64 x))[i]?=some (.int .i64 ((if i=j then x else b i:Nat):Int))
   by_cases e:i=j
   ·subst e
    have:=h7 i hi
    rw [if_pos rfl,Array.getElem?_setIfInBounds_self_of_lt (by
     rcases Nat.lt_or_ge i arr.size with h | h
     ·exact h
     ·rw [Array.getElem?_eq_none h] at this; cases this)]
   ·rw [if_neg e,Array.getElem?_setIfInBounds_ne (fun h=>e h.symm)]; exact h7 i hi
theorem TabAt.swap {w w':World} {base tb:Nat} {V:TabV} {T:TabF} (h:TabAt w base tb V T) {gb gf cb cf i c:Nat} (hb:V.ba=.slice (some ⟨gb,0,none⟩) T.m cb) (hf:V.fr=.slice (some ⟨gf,0,none⟩) T.n cf) (x y:Nat)
  (e:w'=(w.setCell ⟨gb,i,none⟩ (.int .i64 x)).setCell ⟨gf,c,none⟩ (.int .i64 y)) :
  TabAt w' base tb V { T with ba:=fun k=>if k=i then x else T.ba k,fr:=fun k=>if k=c then y else T.fr k }/\Ext (V.S T.m) w w'/\∀ v l,Rds w v l->Rds w' v l:=by
 have hob:V.ba.ownBlock=some gb:=by rw [hb]; rfl
 have hof:V.fr.ownBlock=some gf:=by rw [hf]; rfl
 have hne:gb≠gf:=fun e=>h.bf gb hob (by rw [hof,e])
 obtain ⟨arb,tyb⟩:=h.ba.typ gb hob
 obtain ⟨arf,tyf⟩:=h.fr.typ gf hof
 have h1:=h.ba
 have h2:=h.fr
 rw [hb] at h1
 rw [hf] at h2
 obtain ⟨p1,p2,p3⟩:=h1.put (j:=i) x
 have h2':=h2.past p2 (fun g hg e=>hne (by cases hg; exact e.symm))
 obtain ⟨q1,q2,q3⟩:=h2'.put (j:=c) y
 rw [<- e] at q1 q2 q3
 have p1':=p1.past q2 (fun g hg e=>hne (by cases hg; exact e))
 have hx:Ext (fun k=>k=gb∨k=gf) w w':=(p2.mono (fun _ _ e=>.inl e)).trans (q2.mono (fun _ _ e=>.inr e))
 have hr:∀ v l,Rds w v l->Rds w' v l:=fun v l k=>q3 v l (p3 v l k)
 have nr:∀ g a,blk w g=some (.cells a 31 (0,0))->¬ (g=gb∨g=gf):=fun g a hg e=>by
  rcases e with e | e
  ·exact typ_ne hg tyb (by decide) e
  ·exact typ_ne hg tyf (by decide) e
 refine ⟨⟨?_,by rw [hb]; exact p1',by rw [hf]; exact q1,h.be.past hx (fun g hg=>?_) hr,h.d.past hx (fun g hg=>?_) hr,h.al.past hx (fun g hg=>?_),fun k hk=>⟨?_,(h.rows k hk).2⟩,h.rr,h.rbe,h.rd,h.bed,h.bf,h.small⟩,hx.mono (fun k _ e=>?_),hr⟩
 ·refine (hx.blk (blk_lt h.box) (fun e=>?_)).trans h.box
  rcases e with e | e
  ·exact typ_ne h.box tyb (by decide) e
  ·exact typ_ne h.box tyf (by decide) e
 ·obtain ⟨arr,h1⟩:=h.be.typ g hg; exact nr g arr h1
 ·obtain ⟨arr,h1⟩:=h.d.typ g hg; exact nr g arr h1
 ·obtain ⟨arr,h1⟩:=h.al.typ g hg
  intro e
  rcases e with e | e
  ·exact typ_ne h1 tyb (by decide) e
  ·exact typ_ne h1 tyf (by decide) e
 ·obtain ⟨arr,h1,_⟩:=(h.rows k hk).1.row
  exact (h.rows k hk).1.past hx (nr _ arr h1) hr
 ·rcases e with e | e
  ·exact .inl (by rw [hob,e])
  ·exact .inr (.inl (by rw [hof,e]))
def limBo (p:ProgV) (l:LimV):Int:=if l.row<0 then (p.v l.var).up - (p.v l.var).lo else 0
structure PrgAt (w:World) (tb:Nat) (p:ProgV):Prop where
 ex:∃ vo vc ro rc,w.cell? ⟨tb,0,none⟩=some (.slice vo p.vars.length vc)/\w.cell? ⟨tb,1,none⟩=some (.slice ro p.rows.length rc)/\Vrs w (.slice vo p.vars.length vc) p.vars/\Rws w (.slice ro p.rows.length rc) p.rows/\(p.vars.length:Int)<=9223372036854775807/\(p.rows.length:Int)<=9223372036854775807
 valid:validB p=true
theorem PrgAt.keep {w w':World} {tb:Nat} {p:ProgV} (h:PrgAt w tb p) (hx:XF w w'):PrgAt w' tb p:=by
 obtain ⟨vo,vc,ro,rc,h1,h2,h3,h4,h5⟩:=h.ex
 exact ⟨⟨vo,vc,ro,rc,cell_keep h1 hx,cell_keep h2 hx,h3.keep hx,h4.keep hx,h5⟩,h.valid⟩
theorem limB_in {n:Int} (h:limB n=true):-1099511627776<=n/\n<=1099511627776:=by
 unfold limB at h
 simpa using h
theorem var_lims {v:VarV} (h:varB v=true):(-1099511627776<=v.lo/\v.lo<=1099511627776)/\(-1099511627776<=v.up/\v.up<=1099511627776)/\(-1099511627776<=v.co/\v.co<=1099511627776):=by
 unfold varB at h
 simp only [Bool.and_eq_true] at h
 exact ⟨limB_in h.1.1.1,limB_in h.1.1.2,limB_in h.1.2⟩
def PartsPost (w:World) (p:ProgV) (l:LimV) (r:Ending) (w':World):Prop:=∃ tso tsc,r=.returned (.tuple #[.slice tso (limTs p l).length tsc,.int .i64 (limBo p l),.int .i64 (limSg l)])/\Tms w' (.slice tso (limTs p l).length tsc) (limTs p l)/\XF w w'
theorem parts_any (w:World) (tb:Nat) (p:ProgV) (l:LimV) (h:PrgAt w tb p) (hl:LimOk p l) :
  Calls Tryz.prog 201 #[.pointer (some ⟨tb,0,none⟩),.agg #[.int .i64 l.row,.int .i64 l.var,.bool l.tur]] w (PartsPost w p l):=by
 obtain ⟨row,var,tur⟩:=l
 have hxa:=(Ext.refl (fun _=>False) w).alloc (.cells #[.int .i64 row,.int .i64 var,.bool tur] 142)
 have hb0:blk (w.alloc (.cells #[.int .i64 row,.int .i64 var,.bool tur] 142)) w.heap.size=some (.cells #[.int .i64 row,.int .i64 var,.bool tur] 142 (0,0)):=blk_alloc_at _ _
 have hval:=h.valid
 obtain ⟨vo,vc,ro,rc,h1,h2,h3,h4,h5,h6⟩:=(h.keep hxa).ex
 clear h
 have HX:=bH (bI hxa (bI h3 h4))
 have l0:=cellq hb0 0 rfl
 have l1:=cellq hb0 1 rfl
 have l2:=cellq hb0 2 rfl
 have l1':=l1
 clear hb0 hxa h3 h4
 rcases hl with ⟨g1,g2,g3,g4⟩ | ⟨g1,g2,g3,g4,g5⟩
 ·obtain ⟨b,off,rfl,hlt,e0,e1,e2,e3,e4,-⟩:=HX.out.2.1.atp var g2
  have g1:row = -1:=g1
  subst g1
  have i0:(0:Int)<=(var:Int):=by omega
  have g2:var<p.vars.length:=g2
  have i1:(var:Int)<(p.vars.length:Int):=by omega
  obtain ⟨⟨q1,q2⟩,⟨q3,q4⟩,-⟩:=var_lims (valid_var hval g2)
  have HE:=bH (show limBo p ⟨-1,var,tur⟩=(p.v var).up - (p.v var).lo from rfl)
  have HE2:=bH (show limTs p ⟨-1,var,tur⟩=[⟨var,1⟩] from rfl)
  have hw:IntKind.i64.wrap ((p.v var).up - (p.v var).lo)=(p.v var).up - (p.v var).lo:=IntWalk.i64_in _ (by omega)
  have h5v:(var:Int)<=9223372036854775807:=by omega
  clear g2 g3 g4 hval h5 h6
  generalize p.v var=v at *
  have g1':((-1:Int)<0):=by decide
  clear l1'
  go_enter Tryz.func201,Tryz.ntmps201
  go_upto_region 2 with fail
  generalize w.alloc (.cells #[.int .i64 (-1),.int .i64 var,.bool tur] 142)=w1 at *
  generalize w.heap.size=lb at *
  replace h1:=cq h1
  replace l1:=cq l1
  replace e0:=cq e0
  replace e1:=cq e1
  replace e2:=cq e2
  replace e3:=cq e3
  replace e4:=cq e4
  have hB:BoxV ((w1.alloc (.cells #[.int .i64 v.lo,.int .i64 v.up,.bool v.op,.bool v.ig,.int .i64 v.co] 63)).drew) w1.heap.size v:=BoxV.new w1 v
  have hxb:XF w1 ((w1.alloc (.cells #[.int .i64 v.lo,.int .i64 v.up,.bool v.op,.bool v.ig,.int .i64 v.co] 63)).drew):=((Ext.refl (fun _=>False) w1).alloc _).drew
  have k1:=l1 _ hxb
  have HB:=bH (bI hB hxb)
  obtain ⟨f0,f1,-⟩:=hB.facts
  clear hB hxb
  refine wp_region_held_drew (S:=(XF w1)) (by kernel_rfl) ((Ext.refl _ w1).drew) (fun hHeld=>?_)
  refine ht 0 (h:=(ht 1 (h:=(ht 2 (h:=(ht 3 (h:=(ht 4 (h:=(ht 5 (h:=(ht 6 (h:=(ht 7 (h:=(ht 8 (h:=?_)))))))))))))))))
  (try go_frame)
  refine hst 9 (h:=fun K hK=>?_)
  go_simp
  refine hK.out _ _ (hHeld.alloc _) (fun hHeld=>?_)
  clear hK K
  (try go_frame)
  refine hst 10 (h:=fun K hK=>?_)
  go_simp
  refine hK.out _ _ ((Ext.refl (fun _=>False) w1).drew.alloc _) (fun hHeld=>?_)
  clear hK K
  (try go_frame)
  refine wpAnyH_done (by kernel_rfl) ?_ _
  go_upto_region 3 with fail
  generalize (w1.alloc (.cells #[.int .i64 v.lo,.int .i64 v.up,.bool v.op,.bool v.ig,.int .i64 v.co] 63)).drew=w3 at *
  generalize w1.heap.size=vb at *
  replace k1:=cq k1
  replace f0:=cq f0
  replace f1:=cq f1
  refine wp_region_held_drew (S:=(XF w3)) (by kernel_rfl) ((Ext.refl _ w3).drew) (fun hHeld=>?_)
  refine ht 0 (h:=(ht 1 (h:=(ht 2 (h:=(ht 4 (h:=(ht 5 (h:=(ht 6 (h:=(ht 7 (h:=(ht 8 (h:=?_)))))))))))))))
  (try go_frame)
  refine hst 3 (h:=fun K hK=>?_)
  go_simp
  refine hK.out _ _ (hHeld.alloc _) (fun hHeld=>?_)
  clear hK K
  (try go_frame)
  refine ht 9 (h:=(ht 10 (h:=(ht 11 (h:=?_)))))
  (try go_frame)
  refine wpAnyH_done (by kernel_rfl) ?_ _
  have HR:=bH (show Tms ((w3.alloc (.cells #[.int .i64 var,.int .i64 1] 76)).drew) (.slice (some ⟨w3.heap.size,0,none⟩) 1 1) [⟨var,1⟩]/\XF w ((w3.alloc (.cells #[.int .i64 var,.int .i64 1] 76)).drew) from by
   have hb:blk ((w3.alloc (.cells #[.int .i64 var,.int .i64 1] 76)).drew) w3.heap.size=some (.cells #[.int .i64 var,.int .i64 1] 76 (0,0)):=blk_alloc_at w3 _
   refine ⟨⟨⟨some ⟨w3.heap.size,0,none⟩,1,rfl,Nat.le_refl _,by decide,(fun e=>by cases e),fun _=>⟨w3.heap.size,0,rfl,blk_lt hb,fun i r hi j u hu=>?_⟩⟩,fun t ht=>?_⟩,(HX.out.1.trans (HB.out.2.trans (((Ext.refl (fun _=>False) w3).alloc _).drew)))⟩
   ·have:i=0:=by
     cases i with
     | zero=>rfl
     | succ i=>simp at hi
    subst this
    simp at hi
    subst hi
    rw [cell_of_cells hb]
    simpa [cT] using hu
   ·simp at ht
    subst ht
    exact ⟨⟨by show -9223372036854775808<=(var:Int); omega,h5v⟩,⟨(by show -9223372036854775808<=(1:Int); omega),(by show (1:Int)<=9223372036854775807; omega)⟩⟩)
  go_wp2
  exact bodyPost_ret (v:=.tuple #[.slice (some ⟨w3.heap.size,0,none⟩) 1 1,.int .i64 (v.up - v.lo),.int .i64 1]) (by simp [results,Tryz.results201,go_sem,hw]) rfl ⟨_,_,by rw [HE.out,HE2.out]; rfl,HR.out⟩
 ·have g1:0<=row:=g1
  have g2:row.toNat<p.rows.length:=g2
  obtain ⟨ri,rfl⟩:∃ ri:Nat,row=ri:=⟨row.toNat,by omega⟩
  obtain ⟨b,off,ta,tc,rfl,hlt,e0,e1,e2,e3,e4,-,htm⟩:=HX.out.2.2.atp ri g2
  have i1:(ri:Int)<(p.rows.length:Int):=by omega
  have HT:=bH (bI htm (show limTs p ⟨ri,var,tur⟩=(p.r ri).terms from if_neg (by show ¬ (ri:Int)<0; omega)))
  have HE:=bH (show limBo p ⟨ri,var,tur⟩=0/\limSg ⟨ri,var,tur⟩=if tur then -1 else 1 from ⟨if_neg (by show ¬ (ri:Int)<0; omega),if_neg (by show ¬ (ri:Int)<0; omega)⟩)
  clear htm g2 g3 g4 g5 hval h5 h6 l1 l1'
  generalize p.r ri=rr at *
  have g1':¬ ((ri:Int)<0):=by omega
  go_enter Tryz.func201,Tryz.ntmps201
  go_upto_region 4 with fail
  generalize w.alloc (.cells #[.int .i64 ri,.int .i64 var,.bool tur] 142)=w1 at *
  generalize w.heap.size=lb at *
  replace h2:=cq h2
  replace l0:=cq l0
  replace l2:=cq l2
  replace e0:=cq e0
  replace e1:=cq e1
  replace e2:=cq e2
  replace e3:=cq e3
  replace e4:=cq e4
  have hB:blk ((w1.alloc (.cells #[.string rr.name,.int .i64 rr.group,.int .i64 rr.kind,.slice ta rr.terms.length tc,.int .i64 rr.bound] 58)).drew) w1.heap.size=some (.cells #[.string rr.name,.int .i64 rr.group,.int .i64 rr.kind,.slice ta rr.terms.length tc,.int .i64 rr.bound] 58 (0,0)):=blk_alloc_at w1 _
  have hxb:XF w1 ((w1.alloc (.cells #[.string rr.name,.int .i64 rr.group,.int .i64 rr.kind,.slice ta rr.terms.length tc,.int .i64 rr.bound] 58)).drew):=((Ext.refl (fun _=>False) w1).alloc _).drew
  have k2:=l2 _ hxb
  have HB:=bH (bI hB hxb)
  have f3:=cellq hB 3 rfl
  clear hB hxb
  refine wp_region_held_drew (S:=(XF w1)) (by kernel_rfl) ((Ext.refl _ w1).drew) (fun hHeld=>?_)
  refine ht 0 (h:=(ht 1 (h:=(ht 2 (h:=(ht 3 (h:=(ht 4 (h:=(ht 5 (h:=(ht 6 (h:=(ht 7 (h:=(ht 8 (h:=?_)))))))))))))))))
  (try go_frame)
  refine hst 9 (h:=fun K hK=>?_)
  go_simp
  refine hK.out _ _ (hHeld.alloc _) (fun hHeld=>?_)
  clear hK K
  (try go_frame)
  refine hst 10 (h:=fun K hK=>?_)
  go_simp
  refine hK.out _ _ ((Ext.refl (fun _=>False) w1).drew.alloc _) (fun hHeld=>?_)
  clear hK K
  (try go_frame)
  refine ht 11 (h:=?_)
  (try go_frame)
  refine wpAnyH_done (by kernel_rfl) ?_ _
  go_upto_region 5 with fail
  generalize (w1.alloc (.cells #[.string rr.name,.int .i64 rr.group,.int .i64 rr.kind,.slice ta rr.terms.length tc,.int .i64 rr.bound] 58)).drew=w3 at *
  generalize w1.heap.size=vb at *
  have HR:=bH (show PartsPost w p ⟨ri,var,tur⟩ (.returned (.tuple #[.slice ta rr.terms.length tc,.int .i64 0,.int .i64 (if tur then -1 else 1)])) w3 from by
   refine ⟨ta,tc,?_,?_,?_⟩
   ·rw [HT.out.2,HE.out.1,HE.out.2]
   ·rw [HT.out.2]; exact HT.out.1.keep HB.out.2
   ·exact HX.out.1.trans HB.out.2)
  cases tur with
  | true =>
   go_wp2
   exact bodyPost_ret (v:=.tuple #[.slice ta rr.terms.length tc,.int .i64 0,.int .i64 (-1)]) (by simp [results,Tryz.results201,go_sem]) rfl HR.out
  | false =>
   go_wp2
   exact bodyPost_ret (v:=.tuple #[.slice ta rr.terms.length tc,.int .i64 0,.int .i64 1]) (by simp [results,Tryz.results201,go_sem]) rfl HR.out
def distN (ba:Nat->Nat) (be:Nat->Rat):Nat->Nat->Rat
 | 0,_=>0
 | m+1,v=>if ba m=v then be m else distN ba be m v
theorem distN_sz {ba:Nat->Nat} {be:Nat->Rat} {s:Nat} (hs:1<=s):∀ {m:Nat},(∀ k,k<m->Sz (be k) s)->∀ v,Sz (distN ba be m v) s
 | 0,_,_=>Sz.zero.mono hs
 | m+1,h,v=>by
  unfold distN
  split
  ·exact h m (by omega)
  ·exact distN_sz hs (fun k hk=>h k (by omega)) v
theorem distances_any (w:World) (base tb:Nat) (V:TabV) (T:TabF) (p:ProgV) (h:TabAt w base tb V T) (hp:PrgAt w tb p) (hn:p.vars.length<=1000000) :
  Calls Tryz.prog 140 #[.pointer (some ⟨tb,0,none⟩)] w (RowPost w p.vars.length (distN T.ba T.be T.m)):=by
 have hm:=h.small.2
 obtain ⟨w1,hmk,hA,hx1⟩:=run_make_rats w p.vars.length hn
 obtain ⟨B,hB⟩:∃ B,w.heap.size=B:=⟨_,rfl⟩
 have hBw:w.heap.size<=B:=Nat.le_of_eq hB
 rw [hB] at hmk hA
 obtain ⟨vo,vc,ro,rc,h1,h2,h3,-,h5,-⟩:=hp.ex
 obtain ⟨bo,bc,hbv,hbm,hbc⟩:=h.ba.nrow (by omega)
 have hbox:=h.box
 rw [hbv] at hbox
 have c4:=cell_keep (cellq hbox 4 rfl) hx1
 have HA:=bH (bI hA (bI hx1 h))
 have HC:=bH hbc
 clear hA hx1 h hp h3 hbc hbox h2
 obtain ⟨n,hn'⟩:∃ n,p.vars.length=n:=⟨_,rfl⟩
 rw [hn'] at HA hmk h1 h5 hn ⊢
 clear hn'
 go_enter Tryz.func140,Tryz.ntmps140
 go_wp2_with fail
 go_loopg [18,4,5] T.m (fun gg v18 v4 v5 wr=>∃ i:Nat,i<=T.m/\gg=T.m - i/\v18=.int .i64 i/\RArr wr B n (distN T.ba T.be i)/\XF w wr)
 case atStart=>exact ⟨0,Nat.zero_le _,rfl,rfl,HA.out.1,HA.out.2.1⟩
 case round =>
  obtain ⟨i,hi,rfl,rfl,harr,hx⟩:=hrel
  have HX:=bH (bI harr hx)
  clear harr hx
  by_cases hin:i<T.m
  ·have i0:(i:Int)<(T.m:Int):=by omega
   have i1:(0:Int)<=(i:Int):=by omega
   obtain ⟨g,off,rfl,hcell⟩:=HC.out i hin
   obtain ⟨gb,cb,hbe,k1,k2,hrc⟩:=HA.out.2.2.be.open (by omega)
   have hbox:=HA.out.2.2.box
   rw [hbe] at hbox
   have c6:=cell_keep (cellq hbox 6 rfl) HX.out.2
   have c5:=cell_keep hcell HX.out.2
   obtain ⟨ng,a1,m1,c1,a2,m2,c2,e0,e1,e2,hq⟩:=hrc.cells i hin
   replace e0:=cell_keep e0 HX.out.2
   replace e1:=cell_keep e1 HX.out.2
   replace e2:=cell_keep e2 HX.out.2
   have HQ:=bH (hq.keep HX.out.2)
   clear hq hrc hbox hcell HA
   have HD:=bH (show ∀ k,distN T.ba T.be (i+1) k=if T.ba i=k then T.be i else distN T.ba T.be i k from fun _=>rfl)
   generalize T.ba i=v at *
   by_cases hv:v<n
   ·have v0:(v:Int)<(n:Int):=by omega
    have v1:(0:Int)<=(v:Int):=by omega
    obtain ⟨n0,b1,l1,d1,b2,l2,d2,z0,z1,z2,-⟩:=HX.out.1.cells v hv
    have f0:=HX.out.1.free (v*3)
    have f1:=HX.out.1.free (v*3+1)
    have f2:=HX.out.1.free (v*3+2)
    obtain ⟨p1,p2,p3⟩:=HX.out.1.put hv HQ.out
    have HP:=bH (bI p1 (HX.out.2.own p2 (fun k e=>by omega)))
    clear p1 p2 p3 HQ HX
    go_wp2
    generalize ((wr.setCell ⟨B,v*3,none⟩ (.bool ng)).setCell ⟨B,v*3+1,none⟩ (.slice a1 m1 c1)).setCell ⟨B,v*3+2,none⟩ (.slice a2 m2 c2)=w9 at *
    go_roundg (T.m - (i+1))
    case measure=>omega
    case rel=>exact ⟨i+1,by omega,rfl,by go_num,HP.out.1.congr (fun k _=>(by
     rw [HD.out k]
     by_cases e:k=v
     ·rw [if_pos e,if_pos e.symm]
     ·rw [if_neg e,if_neg (Ne.symm e)])),HP.out.2⟩
   ·have v0:¬ (v:Int)<(n:Int):=by omega
    go_wp2
    go_roundg (T.m - (i+1))
    case measure=>omega
    case rel=>exact ⟨i+1,by omega,rfl,by go_num,HX.out.1.congr (fun k hk=>(by rw [HD.out k,if_neg (by omega)])),HX.out.2⟩
  ·obtain rfl:i=T.m:=by omega
   go_wp2
   go_ret
   exact ⟨B,rfl,hBw,HX.out.1,HX.out.2⟩
theorem point_any (w:World) (base tb s:Nat) (V:TabV) (T:TabF) (p:ProgV) (h:TabAt w base tb V T) (hp:PrgAt w tb p) (hn:p.vars.length<=1000000) (hz:∀ k,k<T.m->Sz (T.be k) s) (hs2:2<=s) (hs:s<=4000000) :
  Calls Tryz.prog 143 #[.pointer (some ⟨tb,0,none⟩)] w (RowPost w p.vars.length (fun i=>distN T.ba T.be T.m i+((p.v i).lo:Rat))):=by
 have hdz:∀ v,Sz (distN T.ba T.be T.m v) s:=fun v=>distN_sz (by omega) hz v
 have HD:=bH (distances_any w base tb V T p h hp hn)
 have HW:=bH (bI hp hdz)
 have hvar:∀ i,i<p.vars.length->varB (p.v i)=true:=fun i hi=>valid_var hp.valid hi
 have HVa:=bH hvar
 obtain ⟨vo,vc,ro,rc,h1,h2,h3,-,h5,-⟩:=hp.ex
 have HVr:=bH h3
 clear h hp h3 h2 hdz hvar hz
 obtain ⟨n,hn'⟩:∃ n,p.vars.length=n:=⟨_,rfl⟩
 have HN:=bH hn'
 rw [hn'] at HD h1 h5 hn HVa HVr ⊢
 clear hn'
 go_enter Tryz.func143,Tryz.ntmps143
 go_wp2_with fail
 refine HD.out.mono ?_
 rintro r1 w1 ⟨B,rfl,hBw,harr,hx1⟩
 replace h1:=cell_keep h1 hx1
 have HA:=bH (bI harr hx1)
 clear harr hx1 HD
 go_wp2_with fail
 go_loopg [14,4,5] n (fun gg v14 v4 v5 wr=>∃ i:Nat,i<=n/\gg=n - i/\v14=.int .i64 i/\RArr wr B n (fun k=>if k<i then distN T.ba T.be T.m k+((p.v k).lo:Rat) else distN T.ba T.be T.m k)/\XF w wr)
 case atStart=>exact ⟨0,Nat.zero_le _,rfl,rfl,HA.out.1.congr (fun i _=>(by simp)),HA.out.2⟩
 case round =>
  clear HA
  obtain ⟨i,hi,rfl,rfl,harr,hx⟩:=hrel
  have HX:=bH (bI harr hx)
  clear harr hx
  by_cases hin:i<n
  ·have i0:(i:Int)<(n:Int):=by omega
   have i1:(0:Int)<=(i:Int):=by omega
   have hrow:=HVr.out.keep HX.out.2
   obtain ⟨b,off,rfl,hlt,e0,e1,e2,e3,e4,-⟩:=hrow.atp i (by rw [HN.out]; exact hin)
   clear hrow
   obtain ⟨⟨q1,q2⟩,-⟩:=var_lims (HVa.out i hin)
   have hb1:=BoxV.new wr (p.v i)
   have hx1:=(Ext.refl (fun _=>False) wr).alloc (.cells #[.int .i64 (p.v i).lo,.int .i64 (p.v i).up,.bool (p.v i).op,.bool (p.v i).ig,.int .i64 (p.v i).co] 63)
   have HB1:=bH (bI hb1 hx1)
   clear hb1 hx1
   go_upto_region 5 with fail
   obtain ⟨rb,hrb⟩:∃ rb,wr.heap.size=rb:=⟨_,rfl⟩
   rw [hrb] at HB1 ⊢
   generalize wr.alloc (.cells #[.int .i64 (p.v i).lo,.int .i64 (p.v i).up,.bool (p.v i).op,.bool (p.v i).ig,.int .i64 (p.v i).co] 63)=w3 at *
   clear e0 e1 e2 e3 e4
   have f0:=cq HB1.out.1.facts.1
   have HX3:=bH (HX.out.2.trans HB1.out.2)
   have HB:=bH (HX.out.1.keep HB1.out.2)
   obtain ⟨on,oa,ol,oc,oa2,ol2,oc2,o0,o1,o2,hoq⟩:=HB.out.cells i hin
   rw [if_neg (by omega)] at hoq
   have HF:=bH (fun W=>rfrom_any W (p.v i).lo (by omega) (by omega))
   have hzz:=HW.out.2 i
   have HAd:=bH (fun W u (hW:XF w3 W) (hu:IsRat W u ((p.v i).lo:Rat))=>radd_any W _ u (distN T.ba T.be T.m i) _ s ((hoq.keep hW).reads hzz) (hu.reads ((Sz.int ⟨by omega,by omega⟩).mono hs2)) (by omega) (by omega))
   replace o0:=cq o0
   replace o1:=cq o1
   replace o2:=cq o2
   clear hoq hzz HX HB1
   refine ends_begin 11 (XF w3) (by kernel_rfl) ((Ext.refl _ w3).drew) (fun hHeld=>?_)
   refine et 0 (h:=(et 1 (h:=(et 2 (h:=(et 3 (h:=(et 4 (h:=(et 5 (h:=(et 6 (h:=(et 7 (h:=?_)))))))))))))))
   (try go_frame)
   refine est 8 (h:=fun K hK=>?_)
   (go_simp; go_at_call 66; (with_reducible refine (HF.out _).mono ?_); rintro q1 w11 ⟨v11,rfl,h11,hx11⟩; have hX1:=hHeld.trans hx11; have hT:=HAd.out w11 _ hX1 h11; obtain ⟨n11,a11,l11,c11,a11',l11',c11',rfl⟩:=h11.shape)
   refine hK.out _ _ (hX1) (fun hHeld=>?_)
   clear hK K
   (try go_frame)
   refine est 9 (h:=fun K hK=>?_)
   (go_simp; go_at_call 67; (with_reducible refine hT.mono ?_); rintro q2 w12 ⟨v12,rfl,h12,hx12⟩; have hX2:=hX1.trans hx12; obtain ⟨n12,a12,l12,c12,a12',l12',c12',rfl⟩:=h12.shape)
   refine hK.out _ _ (hX2) (fun hHeld=>?_)
   clear hK K
   (try go_frame)
   refine et 10 (h:=?_)
   (try go_frame)
   have HT2:=bH (HB.out.keep hX2)
   have fz0:=HT2.out.free (i*3)
   have fz1:=HT2.out.free (i*3+1)
   have fz2:=HT2.out.free (i*3+2)
   have t0:=o0 _ hX2
   have t1:=o1 _ hX2
   have t2:=o2 _ hX2
   refine ends_last rfl (by kernel_rfl) (fun K hK=>?_)
   go_simp
   refine hK.out _ _ ?_
   clear hK K
   (try go_frame)
   refine ends_done (by kernel_rfl) ?_ _
   obtain ⟨p1,p2,p3⟩:=HT2.out.put (show i<n from hin) h12
   have HP:=bH (bI p1 ((HX3.out.trans hX2).own p2 (fun k e=>by omega)))
   clear p1 p2 p3 HT2 fz0 fz1 fz2 t0 t1 t2 o0 o1 o2 h11 h12 hx11 hx12 hX1 hX2 hT hHeld HAd HF f0 HB HX3
   generalize ((w12.setCell ⟨B,i*3,none⟩ (.bool n12)).setCell ⟨B,i*3+1,none⟩ (.slice a12 l12 c12)).setCell ⟨B,i*3+2,none⟩ (.slice a12' l12' c12')=w9 at *
   go_wp2
   go_roundg (n - (i+1))
   case measure=>omega
   case rel=>exact ⟨i+1,by omega,rfl,by go_num,HP.out.1.congr (fun k _=>(by
    by_cases h1:k=i
    ·subst h1; simp
    ·rw [if_neg h1]
     by_cases h2:k<i
     ·rw [if_pos h2,if_pos (by omega)]
     ·rw [if_neg h2,if_neg (by omega)])),HP.out.2⟩
  ·obtain rfl:i=n:=by omega
   go_wp2
   go_ret
   exact ⟨B,rfl,hBw,HX.out.1.congr (fun k hk=>by rw [if_pos hk]),HX.out.2⟩
def rayN (T:TabF) (c:Nat):Nat->Nat->Rat
 | 0,v=>if T.fr c=v then 1 else 0
 | m+1,v=>if T.ba m=v then -T.al m c else rayN T c m v
theorem ray_any (w:World) (base tb s c:Nat) (V:TabV) (T:TabF) (p:ProgV) (h:TabAt w base tb V T) (hp:PrgAt w tb p) (hn:p.vars.length<=1000000) (hc:c<T.n) (hz:∀ k,k<T.m->Sz (T.al k c) s) (h1s:1<=s) (hs:s<=4000000) :
  Calls Tryz.prog 142 #[.pointer (some ⟨tb,0,none⟩),.int .i64 c] w (RowPost w p.vars.length (rayN T c T.m)):=by
 have hm:=h.small.2
 have hn2:=h.small.1
 obtain ⟨w1,hmk,hA,hx1⟩:=run_make_rats w p.vars.length hn
 obtain ⟨B,hB⟩:∃ B,w.heap.size=B:=⟨_,rfl⟩
 have hBw:w.heap.size<=B:=Nat.le_of_eq hB
 rw [hB] at hmk hA
 obtain ⟨vo,vc,ro,rc,h1,h2,h3,-,h5,-⟩:=hp.ex
 obtain ⟨bo,bc,hbv,hbm,hbc⟩:=h.ba.nrow (by omega)
 obtain ⟨fo,fc,hfv,hfm,hfc⟩:=h.fr.nrow (by omega)
 obtain ⟨g0,off0,rfl,hcellf⟩:=hfc c hc
 have hbox:=h.box
 rw [hbv,hfv] at hbox
 have c4:=cell_keep (cellq hbox 4 rfl) hx1
 have c5:=cell_keep (cellq hbox 5 rfl) hx1
 replace hcellf:=cell_keep hcellf hx1
 have HA:=bH (bI hA (bI hx1 h))
 have HC:=bH hbc
 have HZ:=bH hz
 have k0:(c:Int)<(T.n:Int):=by omega
 have k1:(0:Int)<=(c:Int):=by omega
 clear hA hx1 h hp h3 hbc hbox h2 hz hfc
 obtain ⟨n,hn'⟩:∃ n,p.vars.length=n:=⟨_,rfl⟩
 rw [hn'] at HA hmk h1 h5 hn ⊢
 clear hn'
 have HFr:=bH (show ∀ v,rayN T c 0 v=if T.fr c=v then 1 else 0 from fun _=>rfl)
 have HF:=bH (fun W=>rfrom_any W 1 (by omega) (by omega))
 generalize T.fr c=fv at *
 go_enter Tryz.func142,Tryz.ntmps142
 go_upto_if 26 with fail
 go_cut [] (fun wx=>RArr wx B n (rayN T c 0)/\XF w wx)
 case first =>
  by_cases hv:fv<n
  ·have v0:(fv:Int)<(n:Int):=by omega
   have v1:(0:Int)<=(fv:Int):=by omega
   go_wp2_with fail
   refine HF.out _ |>.mono ?_
   rintro r3 w3 ⟨v3,rfl,h3,hx3⟩
   obtain ⟨ng,sa,sn,sc,ta,tn,tc,rfl⟩:=h3.shape
   have harr3:=HA.out.1.keep hx3
   obtain ⟨n0,b1,l1,d1,b2,l2,d2,e0,e1,e2,-⟩:=harr3.cells fv hv
   have f0:=harr3.free (fv*3)
   have f1:=harr3.free (fv*3+1)
   have f2:=harr3.free (fv*3+2)
   obtain ⟨p1,p2,p3⟩:=harr3.put hv h3
   have HP:=bH (bI p1 ((HA.out.2.1.trans hx3).own p2 (fun k e=>by omega)))
   clear p1 p2 p3 harr3 h3 hx3
   go_wp2
   go_meet
   exact ⟨HP.out.1.congr (fun k _=>(by
     rw [HFr.out k]
     by_cases e:k=fv
     ·rw [if_pos e,if_pos e.symm]; rfl
     ·rw [if_neg e,if_neg (Ne.symm e)])),HP.out.2⟩
  ·have v0:¬ (fv:Int)<(n:Int):=by omega
   go_wp2
   go_meet
   exact ⟨HA.out.1.congr (fun k hk=>(by rw [HFr.out k,if_neg (by omega)])),HA.out.2.1⟩
 case rest =>
  obtain ⟨harr,hx⟩:=hcut
  have HS:=bH (bI harr hx)
  have hbox:=HA.out.2.2.box
  rw [hbv,hfv] at hbox
  clear c4 c5 hcellf hmk
  replace c4:=cell_keep (cellq hbox 4 rfl) hx
  clear harr hx hbox
  go_wp2_with fail
  go_loopg [36,7,8] T.m (fun gg v36 v7 v8 wr=>∃ i:Nat,i<=T.m/\gg=T.m - i/\v36=.int .i64 i/\RArr wr B n (rayN T c i)/\XF w wr)
  case atStart=>exact ⟨0,Nat.zero_le _,rfl,rfl,HS.out.1,HS.out.2⟩
  case round =>
   clear HS
   obtain ⟨i,hi,rfl,rfl,harr,hx⟩:=hrel
   have HX:=bH (bI harr hx)
   clear harr hx
   by_cases hin:i<T.m
   ·have i0:(i:Int)<(T.m:Int):=by omega
    have i1:(0:Int)<=(i:Int):=by omega
    obtain ⟨g,off,rfl,hcell⟩:=HC.out i hin
    obtain ⟨ga,ca,hal,a1,a2,hrc⟩:=HA.out.2.2.al.open (by omega)
    have hbox:=HA.out.2.2.box
    rw [hal] at hbox
    have c7:=cell_keep (cellq hbox 7 rfl) HX.out.2
    have c8:=cell_keep (hrc i hin) HX.out.2
    have c9:=cell_keep hcell HX.out.2
    obtain ⟨ng,x1,m1,n1,x2,m2,n2,e0,e1,e2,hq⟩:=(HA.out.2.2.rows i hin).1.cells c (by omega)
    replace e0:=cell_keep e0 HX.out.2
    replace e1:=cell_keep e1 HX.out.2
    replace e2:=cell_keep e2 HX.out.2
    have HNg:=bH (rneg_any wr _ (T.al i c) s ((hq.keep HX.out.2).reads (HZ.out i hin)) h1s (by omega))
    clear hq hrc hbox hcell
    have HD:=bH (show ∀ k,rayN T c (i+1) k=if T.ba i=k then -T.al i c else rayN T c i k from fun _=>rfl)
    generalize T.ba i=v at *
    by_cases hv:v<n
    ·have v0:(v:Int)<(n:Int):=by omega
     have v1:(0:Int)<=(v:Int):=by omega
     go_wp2_with fail
     refine HNg.out.mono ?_
     rintro r3 w3 ⟨v3,rfl,h3,hx3⟩
     obtain ⟨ng',sa,sn,sc,ta,tn,tc,rfl⟩:=h3.shape
     have harr3:=HX.out.1.keep hx3
     obtain ⟨n0,b1,l1,d1,b2,l2,d2,z0,z1,z2,-⟩:=harr3.cells v hv
     have f0:=harr3.free (v*3)
     have f1:=harr3.free (v*3+1)
     have f2:=harr3.free (v*3+2)
     obtain ⟨p1,p2,p3⟩:=harr3.put hv h3
     have HP:=bH (bI p1 ((HX.out.2.trans hx3).own p2 (fun k e=>by omega)))
     clear p1 p2 p3 harr3 h3 hx3 HNg HX e0 e1 e2 c7 c8 c9
     go_wp2
     generalize ((w3.setCell ⟨B,v*3,none⟩ (.bool ng')).setCell ⟨B,v*3+1,none⟩ (.slice sa sn sc)).setCell ⟨B,v*3+2,none⟩ (.slice ta tn tc)=w9 at *
     go_roundg (T.m - (i+1))
     case measure=>omega
     case rel=>exact ⟨i+1,by omega,rfl,by go_num,HP.out.1.congr (fun k _=>(by
      rw [HD.out k]
      by_cases e:k=v
      ·rw [if_pos e,if_pos e.symm]
      ·rw [if_neg e,if_neg (Ne.symm e)])),HP.out.2⟩
    ·have v0:¬ (v:Int)<(n:Int):=by omega
     clear HNg e0 e1 e2 c7 c8
     go_wp2
     go_roundg (T.m - (i+1))
     case measure=>omega
     case rel=>exact ⟨i+1,by omega,rfl,by go_num,HX.out.1.congr (fun k hk=>(by rw [HD.out k,if_neg (by omega)])),HX.out.2⟩
   ·obtain rfl:i=T.m:=by omega
    go_wp2
    go_ret
    exact ⟨B,rfl,hBw,HX.out.1,HX.out.2⟩
end Go.Proofs.YtbgienfcmdgaaaaGreat
