/-
  Texts of the proof, part 4. Conditions: each lemma names its own.
-/
import Derived.Test.YtglepbhkilbbcaaGreatDoorZ1
import Derived.Test.YtglepbhkilbbcaaGreatDoorZ2
import Derived.Test.YtglepbhkilbbcaaGreatDoorZ3
import Derived.Lib.SlicesS
import Derived.Lib.ItoaMem
import Derived.Maps.RangeWalk
set_option linter.unusedVariables false
set_option linter.unusedSimpArgs false
set_option maxRecDepth 100000
set_option maxHeartbeats 16000000
namespace Go.Proofs.YtglepbhkilbbcaaGreatDoor
open Go.RowKit Go.MapKept
open Go.ChangeMaps (setBlock)
open Go.RowKit Go.MapKept Go.Lib
theorem rows_empty (w:World) (ao:Option Addr) (c:Nat) (fv:Value):Calls Tryz.prog 44 #[.slice ao 0 c,fv] w fun r w'=>r=.returned (.bool false)/\w'=w:=by
 have h:∀ W,Calls Tryz.prog 86 #[.slice ao 0 c,fv] W fun r w'=>r=.returned (.int .i64 (-1))/\w'=W:=fun W=>by
  go_enter Tryz.func86,Tryz.ntmps86
  go_wp2_with fail
  go_loopg [8] 0 (fun gg s8 wr=>s8=.int .i64 0/\wr=W)
  case atStart=>exact ⟨rfl,rfl⟩
  case round =>
   obtain ⟨rfl,rfl⟩:=hrel
   go_wp2
   go_ret
   exact ⟨rfl,rfl⟩
 have H:=bH h
 clear h
 go_enter Tryz.func44,Tryz.ntmps44
 go_wp2_with (go_at_call 86; refine (H.out _).mono ?_; rintro e w' ⟨rfl,rfl⟩)
 go_ret
 exact ⟨rfl,rfl⟩
def rowC (p:ProgV) (tvs:List Value) (j:Nat):List Value:=cR (p.r j) (tvs.getD j (.slice none 0 0))
theorem valid1_any (w:World) (pb:Nat) (vv rv:Value) (p:ProgV) (hp:blk w pb=some (.cells #[vv,rv] 25 (0,0))) (hv:Vrs w vv p.vars) (r:RowV) (tv:Value) (ht:Tms w tv r.terms) (hok:RowOk r) :
  Calls Tryz.prog 45 #[.agg (cR r tv).toArray,.pointer (some ⟨pb,0,none⟩)] w (BoolPost w (!rowB p.vars.length r)):=by
 obtain ⟨vo,vc,rfl,-,hn,-⟩:=hv.shape
 obtain ⟨ta,tc,rfl,-,-,-⟩:=ht.shape
 have HR:=bH (fun W (hW:XF w W)=>validRow_any W p.vars.length hn r ta tc hok (ht.keep hW))
 have hx:=(Ext.refl (fun _=>False) w).alloc (.cells #[.string r.name,.int .i64 r.group,.int .i64 r.kind,.slice ta r.terms.length tc,.int .i64 r.bound] 75)
 have z0:=cell_keep (cellq hp 0 rfl) hx
 have HX:=bH hx
 clear hv ht hok hp hx
 generalize p.vars.length=n at *
 generalize r.terms.length=tl at *
 generalize rowB n r=b at *
 show Calls Tryz.prog 45 #[.agg #[.string r.name,.int .i64 r.group,.int .i64 r.kind,.slice ta tl tc,.int .i64 r.bound],.pointer (some ⟨pb,0,none⟩)] w _
 go_enter Tryz.func45,Tryz.ntmps45
 go_wp2_with (go_at_call 46; refine (HR.out _ HX.out).mono ?_; rintro e w' ⟨rfl,hx'⟩)
 go_ret
 exact ⟨rfl,HX.out.trans hx'⟩
theorem all_range {α:Type} (f:α->Bool) (l:List α) (d:α):(!(List.range l.length).any fun j=>!f (l.getD j d))=l.all f:=by
 rw [any_not_all]
 have h:(List.range l.length).map (fun j=>l.getD j d)=l:=by
  refine List.ext_getElem (by simp) (fun i h1 h2=>?_)
  simp [List.getElem?_eq_getElem h2]
 conv=>rhs; rw [<- h]
 rw [List.all_map]; rfl
theorem rows_any (w:World) (pb:Nat) (vv rv:Value) (p:ProgV) (hp:blk w pb=some (.cells #[vv,rv] 25 (0,0))) (hv:Vrs w vv p.vars) (hr:Rws w rv p.rows) :
  Calls Tryz.prog 44 #[rv,.func (.func 45) #[] #[.pointer (some ⟨pb,0,none⟩)]] w fun r w'=>r=.returned (.bool (!p.rows.all (rowB p.vars.length)))/\XF w w':=by
 obtain ⟨ro,rc,rfl,-,hn,-⟩:=hr.shape
 by_cases h0:p.rows.length=0
 ·rw [h0]
  refine (rows_empty w ro rc _).mono ?_
  rintro r w' ⟨rfl,rfl⟩
  refine ⟨ret_bool ?_,Ext.refl _ _⟩
  rw [List.eq_nil_of_length_eq_zero h0]; rfl
 obtain ⟨tvs,hl,⟨ao,c,e,h1,h2,h3,h4⟩,h5⟩:=hr
 rw [List.length_zipWith,hl,Nat.min_self] at e h1 h4
 cases e
 obtain ⟨b,off,rfl,hlt,hc⟩:=h4 (by omega)
 have hall:∀ j,Tms w (tvs.getD j (.slice none 0 0)) (p.r j).terms/\RowOk (p.r j):=fun j=>by
  by_cases hj:j<p.rows.length
  ·have hj':j<tvs.length:=by omega
   have:=h5 j _ _ (List.getElem?_eq_getElem hj) (List.getElem?_eq_getElem hj')
   rw [p.r_at hj] at this
   rw [getD_lt hj']
   exact this
  ·have e1:p.r j=row0:=by
    unfold ProgV.r
    rw [List.getD_eq_getElem?_getD,List.getElem?_eq_none (by omega)]; rfl
   rw [List.getD_eq_getElem?_getD,List.getElem?_eq_none (by omega),e1]
   refine ⟨⟨Sl.nil w 2,fun t ht=>(by cases ht)⟩,⟨?_,?_,?_,?_⟩⟩
   ·show (0:Nat)<=maxLen; exact Nat.zero_le _
   all_goals (constructor <;> (show (_:Int)<=_) <;> decide)
 have hq:=AnyQ.slices_ContainsFunc Tryz.laysRow8 5 Tryz.isAgg75 Tryz.sizeOf75 (rowC p tvs) (fun _=>rfl) (fun j=>!rowB p.vars.length (p.r j)) 45 #[.pointer (some ⟨pb,0,none⟩)] (enters_of Tryz.func45 (by kernel_rfl) rfl) b off p.rows.length rc (List.range p.rows.length) w
  (fun W j hW=>by
   have hx:=Below.ext hW
   refine (valid1_any W pb vv _ p (blk_keep hp hx) (hv.keep hx) (p.r j) _ ((hall j).1.keep hx) (hall j).2).mono ?_
   rintro e w' ⟨rfl,hx'⟩
   exact ⟨rfl,(hx.trans hx').below⟩)
  (by simp) hn hlt (fun j hj i v hi=>by
   rw [List.length_range] at hj
   rw [getElem!_pos _ j (by simpa using hj),List.getElem_range] at hi
   refine hc j _ ?_ i v hi
   have hj':j<tvs.length:=by omega
   rw [List.getElem?_zipWith,List.getElem?_eq_getElem hj,List.getElem?_eq_getElem hj',p.r_at hj]
   show some (cR (p.r j) tvs[j])=some (cR (p.r j) (tvs.getD j _))
   rw [getD_lt hj'])
 refine hq.mono ?_
 rintro r w' ⟨rfl,hb⟩
 refine ⟨ret_bool ?_,Below.ext hb⟩
 have ht:List.take p.rows.length (List.range p.rows.length)=List.range p.rows.length:=by
  rw [List.take_of_length_le (by simp)]
 rw [ht,<- all_range (rowB p.vars.length) p.rows row0,Bool.not_not]
 rfl
theorem varB_eq (v:VarV):varB v=([v.lo,v.up,v.co].all limB && !(v.op && !decide (v.up=0))):=by
 unfold varB
 simp [Bool.and_assoc]
theorem all_next {α:Type} {f:α->Bool} {l:List α} {d:α} {i:Nat} (hi:i<l.length) (h:(l.take i).all f=true) (hf:f (l.getD i d)=true):(l.take (i+1)).all f=true:=by
 rw [List.take_succ_eq_append_getElem hi,List.all_append,h,Bool.true_and,List.all_cons,List.all_nil,Bool.and_true,<- getD_lt hi d]
 exact hf
theorem all_fails {α:Type} {f:α->Bool} {l:List α} {d:α} {i:Nat} (hi:i<l.length) (hf:f (l.getD i d)=false):l.all f=false:=by
 rw [List.all_eq_false]
 exact ⟨_,List.getElem_mem hi,by rw [<- getD_lt hi d,hf]; simp⟩
theorem Valid_any (w:World) (pv:Value) (p:ProgV) (hp:IsPrg w pv p):Calls Tryz.prog 10 #[pv] w (BoolPost w (validB p)):=by
 obtain ⟨vv,rv,rfl,hv,hr⟩:=hp
 obtain ⟨vo,vc,rfl,-,hn,-⟩:=hv.shape
 obtain ⟨ro,rc,rfl,-,hrn,-⟩:=hr.shape
 have HV:=bH (bI hv hr)
 have HR:=bH (show validB p=(decide (p.vars.length<=400) && decide (p.rows.length<=4000) && p.vars.all varB && p.rows.all (rowB p.vars.length)) from rfl)
 have hb:=blk_alloc_at w (.cells #[.slice vo p.vars.length vc,.slice ro p.rows.length rc] 25)
 have hx:=(Ext.refl (fun _=>False) w).alloc (.cells #[.slice vo p.vars.length vc,.slice ro p.rows.length rc] 25)
 have HB:=bH (bI hb hx)
 have HW:=bH (fun W (hW:XF w W) pb hpb=>rows_any W pb _ _ p hpb (hv.keep hW) (hr.keep hW))
 clear hv hr hb hx
 obtain ⟨n,hn'⟩:∃ n,p.vars.length=n:=⟨_,rfl⟩
 have HN:=bH hn'
 rw [hn'] at hn HV HR HB HW ⊢
 clear hn'
 obtain ⟨m,hm'⟩:∃ m,p.rows.length=m:=⟨_,rfl⟩
 rw [hm'] at hrn HV HR HB HW ⊢
 clear hm'
 generalize p.rows.all (rowB n)=rb at *
 go_enter Tryz.func10,Tryz.ntmps10
 go_upto_region 1 with fail
 generalize hw1:w.alloc (.cells #[.slice vo n vc,.slice ro m rc] 25)=w1 at *
 clear hw1
 obtain ⟨pb,hpb⟩:∃ pb,w.heap.size=pb:=⟨_,rfl⟩
 rw [hpb] at HB ⊢
 clear hpb
 have z0:=cellq HB.out.1 0 rfl
 have z1:=cellq HB.out.1 1 rfl
 by_cases c1:400<n
 ·have c1':(400:Int)<(n:Int):=by omega
  go_wp2
  go_ret
  exact ⟨ret_bool (by rw [HR.out,decide_eq_false (p:=(n<=400)) (by omega)]; simp),HB.out.2⟩
 have c1':¬ (400:Int)<(n:Int):=by omega
 by_cases c2:4000<m
 ·have c2':(4000:Int)<(m:Int):=by omega
  go_wp2
  go_ret
  exact ⟨ret_bool (by rw [HR.out,decide_eq_false (p:=(m<=4000)) (by omega)]; simp),HB.out.2⟩
 have c2':¬ (4000:Int)<(m:Int):=by omega
 have HR2:Hid (validB p=(p.vars.all varB && rb)):=bH (by rw [HR.out,decide_eq_true (p:=(n<=400)) (by omega),decide_eq_true (p:=(m<=4000)) (by omega)]; simp)
 clear HR
 go_wp2_with fail
 go_loopg [18] n (fun gg v18 wr=>∃ i:Nat,i<=n/\gg=n - i/\v18=.int .i64 i/\(p.vars.take i).all varB=true/\XF w1 wr)
 case atStart=>exact ⟨0,Nat.zero_le _,rfl,rfl,rfl,Ext.refl _ _⟩
 case round =>
  clear z0 z1
  obtain ⟨i,hi,rfl,rfl,hall,hx⟩:=hrel
  have HX:=bH (bI hall hx)
  clear hall hx
  by_cases hin:i<n
  ·have i0:(i:Int)<(n:Int):=by omega
   have HI:Hid (i<p.vars.length):=bH (by rw [HN.out]; exact hin)
   obtain ⟨b,off,rfl,-,e0,e1,e2,e3,e4,-⟩:=(HV.out.1.keep (HB.out.2.trans HX.out.2)).atp i HI.out
   have hb1:=BoxV.new wr (p.v i)
   have hx1:=(Ext.refl (fun _=>False) wr).alloc (.cells #[.int .i64 (p.v i).lo,.int .i64 (p.v i).up,.bool (p.v i).op,.bool (p.v i).ig,.int .i64 (p.v i).co] 57)
   have HB1:=bH (bI hb1 hx1)
   have HVB:=bH (varB_eq (p.v i))
   clear hb1 hx1
   go_upto_region 6 with fail
   generalize hw2:wr.alloc (.cells #[.int .i64 (p.v i).lo,.int .i64 (p.v i).up,.bool (p.v i).op,.bool (p.v i).ig,.int .i64 (p.v i).co] 57)=w2 at *
   clear hw2 e0 e1 e2 e3 e4
   obtain ⟨vb,hvb⟩:∃ vb,wr.heap.size=vb:=⟨_,rfl⟩
   rw [hvb] at HB1 ⊢
   clear hvb
   obtain ⟨f0,f1,f2,-,f4⟩:=HB1.out.1.facts
   have HL:=bH (limited_any (w2.alloc (.cells #[.int .i64 (p.v i).lo,.int .i64 (p.v i).up,.int .i64 (p.v i).co] 2)) w2.heap.size 0 3 [(p.v i).lo,(p.v i).up,(p.v i).co] (by simp) (fun j u hj=>(by
    have:=cells_new (w:=w2) [Value.int .i64 (p.v i).lo,.int .i64 (p.v i).up,.int .i64 (p.v i).co] 2 rfl j (.int .i64 u) (by
     match j,hj with
     | 0,hj=>cases hj; rfl
     | 1,hj=>cases hj; rfl
     | 2,hj=>cases hj; rfl
     | j+3,hj=>simp at hj)
    simpa [Addr.add_lit] using this)))
   simp only [List.length_cons,List.length_nil,Nat.zero_add] at HL
   obtain ⟨lb,hlb⟩:∃ lb,[(p.v i).lo,(p.v i).up,(p.v i).co].all limB=lb:=⟨_,rfl⟩
   rw [hlb] at HL HVB
   clear hlb
   generalize (p.v i).lo=lo at *
   generalize (p.v i).up=up at *
   generalize (p.v i).op=o at *
   generalize (p.v i).ig=ig at *
   generalize (p.v i).co=co at *
   go_wp2_with fail
   refine HL.out.mono ?_
   rintro r3 w3 ⟨rfl,hx3⟩
   have hx23:=((Ext.refl (fun _=>False) w2).alloc (.cells #[.int .i64 lo,.int .i64 up,.int .i64 co] 2)).trans hx3
   have HX3:=bH ((HX.out.2.trans HB1.out.2).trans hx23)
   have g1:=cell_keep f1 hx23
   have g2:=cell_keep f2 hx23
   clear f0 f1 f2 f4 hx3 hx23 HL HB1
   cases lb with
   | false =>
    go_wp2
    go_ret
    exact ⟨ret_bool (by rw [HR2.out,all_fails (d:=var0) HI.out (HVB.out.trans rfl)]; rfl),HB.out.2.trans HX3.out⟩
   | true =>
    cases o with
    | false =>
     go_wp2
     go_roundg (n - (i+1))
     case measure=>omega
     case rel=>exact ⟨i+1,by omega,rfl,by go_num,all_next (d:=var0) HI.out HX.out.1 (HVB.out.trans rfl),HX3.out⟩
    | true =>
     by_cases hu:up=0
     ·have hu':(up == 0)=true:=by simpa using hu
      have HVB':=bH (HVB.out.trans (show _=true by rw [decide_eq_true hu]; rfl))
      clear HVB
      subst hu
      go_wp2
      go_roundg (n - (i+1))
      case measure=>omega
      case rel=>exact ⟨i+1,by omega,rfl,by go_num,all_next (d:=var0) HI.out HX.out.1 HVB'.out,HX3.out⟩
     ·have hu':(up == 0)=false:=by simpa using hu
      have hu2:(up != 0)=true:=by simpa using hu
      have HVB':=bH (HVB.out.trans (show _=false by rw [decide_eq_false hu]; rfl))
      clear HVB
      go_wp2
      go_ret
      exact ⟨ret_bool (by rw [HR2.out,all_fails (d:=var0) HI.out HVB'.out]; rfl),HB.out.2.trans HX3.out⟩
  ·obtain rfl:i=n:=by omega
   have HF:Hid (p.vars.all varB=true):=bH (by
    have:=HX.out.1
    rw [List.take_of_length_le (by rw [HN.out]; exact Nat.le_refl _)] at this
    exact this)
   have z1:=cell_keep (cellq HB.out.1 1 rfl) HX.out.2
   have HW2:=bH (HW.out wr (HB.out.2.trans HX.out.2) pb (blk_keep HB.out.1 HX.out.2))
   go_wp2_with fail
   refine HW2.out.mono ?_
   rintro r3 w3 ⟨rfl,hx3⟩
   have HX3:=bH ((HB.out.2.trans HX.out.2).trans hx3)
   clear hx3 z1 HW2
   go_wp2
   go_ret
   exact ⟨ret_bool (by rw [HR2.out,HF.out]; simp),HX3.out⟩
def insB (p:ProgV) (x:List Rat) (i:Nat):Bool:=decide (((p.v i).lo:Rat)<=atQ x i) && ((p.v i).op || decide (atQ x i<=((p.v i).up:Rat)))
theorem insideB_eq (p:ProgV) (x:List Rat):insideB p x=allTo p.vars.length (insB p x):=rfl
theorem insB_sign (p:ProgV) (x:List Rat) (i:Nat):insB p x i=(!decide ((atQ x i - ((p.v i).lo:Rat)).num.sign<0) && ((p.v i).op || !decide (0<(atQ x i - ((p.v i).up:Rat)).num.sign))):=by
 have hr1:=sign_lt (atQ x i - ((p.v i).lo:Rat))
 have hr2:=sign_gt (atQ x i - ((p.v i).up:Rat))
 unfold insB
 congr 1
 ·rw [<- decide_not]; exact decide_eq_decide.2 ⟨fun h h2=>by have:=hr1.1 h2; grind,fun h=>Rat.not_lt.1 (fun h2=>h (hr1.2 (by grind)))⟩
 ·congr 1
  rw [<- decide_not]; exact decide_eq_decide.2 ⟨fun h h2=>by have:=hr2.1 h2; grind,fun h=>Rat.not_lt.1 (fun h2=>h (hr2.2 (by grind)))⟩
theorem Inside_any (w:World) (pv xv:Value) (p:ProgV) (x:List Rat) (L:Nat) (hp:IsPrg w pv p) (hy:Rats w xv x L) (h1:1<=L) (hL:L<=4194000) :
  Calls Tryz.prog 16 #[pv,xv] w (BoolPost w (insideB p x)):=by
 obtain ⟨vv,rv,rfl,hr,-⟩:=hp
 obtain ⟨vo,vc,rfl,-,hn,-⟩:=hr.shape
 obtain ⟨yo,yc,rfl,-,hyn,-⟩:=hy.shape
 have HV:=bH (bI hr hy)
 obtain ⟨n,hn'⟩:∃ n,p.vars.length=n:=⟨_,rfl⟩
 have HN:=bH hn'
 have HA:=bH (fun W (hW:XF w W) (i:Nat)=>lat_any W _ x L (hy.keep hW) i)
 have HC:=bH (fun W u u' q (k:Int) (hk:InR k) (hu:Rrat W u q L) (hu':IsRat W u' (k:Rat))=>rcmp_any W u u' q (k:Rat) (L+2) (hu.mono (by omega)) (hu'.reads ((Sz.int hk).mono (by omega))) (by omega) (by omega))
 clear hr hy
 rw [hn'] at hn ⊢ HV
 clear hn'
 generalize x.length=yn at *
 go_enter Tryz.func16,Tryz.ntmps16
 go_wp2_with fail
 go_loopg [11] n (fun gg v11 wr=>∃ i:Nat,i<=n/\gg=n - i/\v11=.int .i64 i/\allTo i (insB p x)=true/\XF w wr)
 case atStart=>exact ⟨0,Nat.zero_le _,rfl,rfl,rfl,(Ext.refl _ _).alloc _⟩
 case round =>
  obtain ⟨i,hi,rfl,rfl,hall,hx⟩:=hrel
  have HX:=bH (bI hall hx)
  clear hall hx
  by_cases hin:i<n
  ·have i0:(i:Int)<(n:Int):=by omega
   have hrow:=(HV.out.1.keep HX.out.2)
   obtain ⟨b,off,rfl,hlt,e0,e1,e2,e3,e4,hok⟩:=hrow.atp i (by rw [HN.out]; exact hin)
   clear hrow
   have HA1:=bH (fun W (hW:XF wr W)=>HA.out W (HX.out.2.trans hW) i)
   have hb1:=BoxV.new wr (p.v i)
   have hx1:=(Ext.refl (fun _=>False) wr).alloc (.cells #[.int .i64 (p.v i).lo,.int .i64 (p.v i).up,.bool (p.v i).op,.bool (p.v i).ig,.int .i64 (p.v i).co] 57)
   have HB:=bH (bI hb1 (bI hx1 hok))
   clear hb1 hx1 hok
   go_upto_region 4 with fail
   obtain ⟨rb,hrb⟩:∃ rb,wr.heap.size=rb:=⟨_,rfl⟩
   rw [hrb] at HB ⊢
   generalize wr.alloc (.cells #[.int .i64 (p.v i).lo,.int .i64 (p.v i).up,.bool (p.v i).op,.bool (p.v i).ig,.int .i64 (p.v i).co] 57)=w1 at *
   clear e0 e1 e2 e3 e4
   go_wp2_with fail
   refine (HA1.out w1 HB.out.2.1).mono ?_
   rintro r2 w2 ⟨v2,rfl,h2,hx2⟩
   obtain ⟨xn,xa,xm,xc,ya,ym,yc',rfl⟩:=h2.shape
   have hx3:=hx2.alloc (.cells #[.bool xn,.slice xa xm xc,.slice ya ym yc'] 42)
   have hb3:=boxR_new (W:=w2) rfl xn xa xm xc ya ym yc'
   have h3:=h2.keep ((Ext.refl (fun _=>False) w2).alloc (.cells #[.bool xn,.slice xa xm xc,.slice ya ym yc'] 42))
   have HB3:=bH (bI hb3 (bI (HB.out.1.keep hx3) (bI h3 ((HX.out.2.trans HB.out.2.1).trans hx3))))
   have HO:=bH HB.out.2.2
   clear hb3 h3 h2 hx2 hx3 HA1 HB
   go_upto_region 5 with fail
   obtain ⟨cb,hcb⟩:∃ cb,w2.heap.size=cb:=⟨_,rfl⟩
   rw [hcb] at HB3 ⊢
   clear hcb
   generalize w2.alloc (.cells #[.bool xn,.slice xa xm xc,.slice ya ym yc'] 42)=w3 at *
   have HF1:=bH (fun W=>rfrom_any W (p.v i).lo HO.out.lo.1 HO.out.lo.2)
   have HF2:=bH (fun W=>rfrom_any W (p.v i).up HO.out.up.1 HO.out.up.2)
   have HC1:=bH (fun W u (hW:XF w3 W) hu=>HC.out W _ u _ _ HO.out.lo (HB3.out.2.2.1.keep hW) hu)
   have HC2:=bH (fun W u (hW:XF w3 W) hu=>HC.out W _ u _ _ HO.out.up (HB3.out.2.2.1.keep hW) hu)
   have HR:=bH (insB_sign p x i)
   obtain ⟨f0,f1,f2,-,-⟩:=HB3.out.2.1.facts
   obtain ⟨g0,g1,g2,-⟩:=HB3.out.1.facts
   have hS:S6 rb rb rb cb cb cb 0 1 2 0 1 2 (.int .i64 (p.v i).lo) (.int .i64 (p.v i).up) (.bool (p.v i).op) (.bool xn) (.slice xa xm xc) (.slice ya ym yc') w3:=⟨f0,f1,f2,g0,g1,g2⟩
   clear f0 f1 f2 g0 g1 g2 HC HA HO
   generalize (atQ x i - ((p.v i).lo:Rat)).num.sign=s1 at *
   generalize (atQ x i - ((p.v i).up:Rat)).num.sign=s2 at *
   generalize ((p.v i).lo:Rat)=lq at *
   generalize ((p.v i).up:Rat)=uq at *
   generalize (p.v i).lo=lo at *
   generalize (p.v i).up=up at *
   generalize (p.v i).op=o at *
   have hcase:s1<0∨(¬ s1<0/\o=true)∨(¬ s1<0/\o=false/\0<s2)∨(¬ s1<0/\o=false/\¬ 0<s2):=by cases o <;> simp <;> omega
   rcases hcase with hs | ⟨hs,rfl⟩ | ⟨hs0,rfl,hs⟩ | ⟨hs0,rfl,hs⟩
   ·have hd:decide (s1<0)=true:=decide_eq_true hs
    refine wp_region_held_drew (S:=(S6 rb rb rb cb cb cb 0 1 2 0 1 2 (.int .i64 lo) (.int .i64 up) (.bool o) (.bool xn) (.slice xa xm xc) (.slice ya ym yc'))) (by kernel_rfl) (hS.drew) (fun hHeld=>?_)
    refine ht 0 (h:=?_)
    (try go_frame)
    refine ht 1 (h:=?_)
    (try go_frame)
    refine ht 2 (h:=?_)
    (try go_frame)
    refine held_step 3 rfl (by kernel_rfl) (fun K hK=>?_)
    (go_simp; go_at_call 57; (with_reducible refine (HF1.out _).mono ?_); rintro q1 w11 ⟨v11,rfl,h11,hx11⟩; have hX1:=(Ext.refl (fun _=>False) w3).drew.trans hx11; have hK1:=hS.keep hX1; have hC1:=HC1.out w11 _ hX1 h11; obtain ⟨n11,a11,l11,c11,a12,l12,c12,rfl⟩:=h11.shape)
    refine hK.out _ _ (hK1) (fun hHeld=>?_)
    clear hK K
    (try go_frame)
    refine held_step 4 rfl (by kernel_rfl) (fun K hK=>?_)
    (go_simp; go_at_call 56; (with_reducible refine hC1.mono ?_); rintro q2 w12 ⟨rfl,hx12⟩; have hX2:=hX1.trans hx12; have hK2:=hS.keep hX2)
    refine hK.out _ _ (hK2) (fun hHeld=>?_)
    clear hK K
    (try go_frame)
    refine ht 5 (h:=?_)
    (try go_frame)
    refine ht 6 (h:=?_)
    (try go_frame)
    refine held_skip 7 rfl (by kernel_rfl) (by kernel_rfl) (by kernel_rfl) (fun _ _ _ h=>h) (by rfl) (by assumption) ?_
    (try go_frame)
    refine held_skip 8 rfl (by kernel_rfl) (by kernel_rfl) (by kernel_rfl) (fun _ _ _ h=>h) (by rfl) (by assumption) ?_
    (try go_frame)
    refine held_skip 9 rfl (by kernel_rfl) (by kernel_rfl) (by kernel_rfl) (fun _ _ _ h=>h) (by rfl) (by assumption) ?_
    (try go_frame)
    refine held_skip 10 rfl (by kernel_rfl) (by kernel_rfl) (by kernel_rfl) (fun _ _ _ h=>h) (by rfl) (by assumption) ?_
    (try go_frame)
    refine held_skip 11 rfl (by kernel_rfl) (by kernel_rfl) (by kernel_rfl) (fun _ _ _ h=>h) (by rfl) (by assumption) ?_
    (try go_frame)
    refine held_skip 12 rfl (by kernel_rfl) (by kernel_rfl) (by kernel_rfl) (fun _ _ _ h=>h) (by rfl) (by assumption) ?_
    (try go_frame)
    refine held_skip 13 rfl (by kernel_rfl) (by kernel_rfl) (by kernel_rfl) (fun _ _ _ h=>h) (by rfl) (by assumption) ?_
    (try go_frame)
    refine held_skip 14 rfl (by kernel_rfl) (by kernel_rfl) (by kernel_rfl) (fun _ _ _ h=>h) (by rfl) (by assumption) ?_
    (try go_frame)
    refine held_skip 15 rfl (by kernel_rfl) (by kernel_rfl) (by kernel_rfl) (fun _ _ _ h=>h) (by rfl) (by assumption) ?_
    (try go_frame)
    refine held_skip 16 rfl (by kernel_rfl) (by kernel_rfl) (by kernel_rfl) (fun _ _ _ h=>h) (by rfl) (by assumption) ?_
    (try go_frame)
    refine held_skip 17 rfl (by kernel_rfl) (by kernel_rfl) (by kernel_rfl) (fun _ _ _ h=>h) (by rfl) (by assumption) ?_
    (try go_frame)
    refine ht 18 (h:=?_)
    (try go_frame)
    refine wpAnyH_done (by kernel_rfl) ?_ _
    have HXX:=bH (HB3.out.2.2.2.trans hX2)
    clear hX1 hX2 h11 hx11 hx12 hC1 hK1 hK2 hS hHeld
    go_wp2
    go_ret
    exact ⟨ret_bool (allTo_false (f:=insB p x) (i:=i) (by rw [HN.out]; exact hin) (by rw [HR.out]; simp [hs])).symm,HXX.out⟩
   ·have hd:decide (s1<0)=false:=decide_eq_false hs
    refine wp_region_held_drew (S:=(S6 rb rb rb cb cb cb 0 1 2 0 1 2 (.int .i64 lo) (.int .i64 up) (.bool true) (.bool xn) (.slice xa xm xc) (.slice ya ym yc'))) (by kernel_rfl) (hS.drew) (fun hHeld=>?_)
    refine ht 0 (h:=?_)
    (try go_frame)
    refine ht 1 (h:=?_)
    (try go_frame)
    refine ht 2 (h:=?_)
    (try go_frame)
    refine held_step 3 rfl (by kernel_rfl) (fun K hK=>?_)
    (go_simp; go_at_call 57; (with_reducible refine (HF1.out _).mono ?_); rintro q1 w11 ⟨v11,rfl,h11,hx11⟩; have hX1:=(Ext.refl (fun _=>False) w3).drew.trans hx11; have hK1:=hS.keep hX1; have hC1:=HC1.out w11 _ hX1 h11; obtain ⟨n11,a11,l11,c11,a12,l12,c12,rfl⟩:=h11.shape)
    refine hK.out _ _ (hK1) (fun hHeld=>?_)
    clear hK K
    (try go_frame)
    refine held_step 4 rfl (by kernel_rfl) (fun K hK=>?_)
    (go_simp; go_at_call 56; (with_reducible refine hC1.mono ?_); rintro q2 w12 ⟨rfl,hx12⟩; have hX2:=hX1.trans hx12; have hK2:=hS.keep hX2)
    refine hK.out _ _ (hK2) (fun hHeld=>?_)
    clear hK K
    (try go_frame)
    refine ht 5 (h:=?_)
    (try go_frame)
    refine ht 6 (h:=?_)
    (try go_frame)
    refine ht 7 (h:=?_)
    (try go_frame)
    refine ht 8 (h:=?_)
    (try go_frame)
    refine ht 9 (h:=?_)
    (try go_frame)
    refine ht 10 (h:=?_)
    (try go_frame)
    refine held_skip 11 rfl (by kernel_rfl) (by kernel_rfl) (by kernel_rfl) (fun _ _ _ h=>h) (by rfl) (by assumption) ?_
    (try go_frame)
    refine held_skip 12 rfl (by kernel_rfl) (by kernel_rfl) (by kernel_rfl) (fun _ _ _ h=>h) (by rfl) (by assumption) ?_
    (try go_frame)
    refine held_skip 13 rfl (by kernel_rfl) (by kernel_rfl) (by kernel_rfl) (fun _ _ _ h=>h) (by rfl) (by assumption) ?_
    (try go_frame)
    refine held_skip 14 rfl (by kernel_rfl) (by kernel_rfl) (by kernel_rfl) (fun _ _ _ h=>h) (by rfl) (by assumption) ?_
    (try go_frame)
    refine held_skip 15 rfl (by kernel_rfl) (by kernel_rfl) (by kernel_rfl) (fun _ _ _ h=>h) (by rfl) (by assumption) ?_
    (try go_frame)
    refine held_skip 16 rfl (by kernel_rfl) (by kernel_rfl) (by kernel_rfl) (fun _ _ _ h=>h) (by rfl) (by assumption) ?_
    (try go_frame)
    refine ht 17 (h:=?_)
    (try go_frame)
    refine ht 18 (h:=?_)
    (try go_frame)
    refine wpAnyH_done (by kernel_rfl) ?_ _
    have HXX:=bH (HB3.out.2.2.2.trans hX2)
    clear hX1 hX2 h11 hx11 hx12 hC1 hK1 hK2 hS hHeld
    go_wp2
    go_roundg (n - (i+1))
    case measure=>omega
    case rel=>exact ⟨i+1,by omega,rfl,by go_num,allTo_next HX.out.1 (by rw [HR.out]; simp [hs]),HXX.out⟩
   ·have hd:decide (s1<0)=false:=decide_eq_false hs0; have hd2:decide (0<s2)=true:=decide_eq_true hs
    refine wp_region_held_drew (S:=(S6 rb rb rb cb cb cb 0 1 2 0 1 2 (.int .i64 lo) (.int .i64 up) (.bool false) (.bool xn) (.slice xa xm xc) (.slice ya ym yc'))) (by kernel_rfl) (hS.drew) (fun hHeld=>?_)
    refine ht 0 (h:=?_)
    (try go_frame)
    refine ht 1 (h:=?_)
    (try go_frame)
    refine ht 2 (h:=?_)
    (try go_frame)
    refine held_step 3 rfl (by kernel_rfl) (fun K hK=>?_)
    (go_simp; go_at_call 57; (with_reducible refine (HF1.out _).mono ?_); rintro q1 w11 ⟨v11,rfl,h11,hx11⟩; have hX1:=(Ext.refl (fun _=>False) w3).drew.trans hx11; have hK1:=hS.keep hX1; have hC1:=HC1.out w11 _ hX1 h11; obtain ⟨n11,a11,l11,c11,a12,l12,c12,rfl⟩:=h11.shape)
    refine hK.out _ _ (hK1) (fun hHeld=>?_)
    clear hK K
    (try go_frame)
    refine held_step 4 rfl (by kernel_rfl) (fun K hK=>?_)
    (go_simp; go_at_call 56; (with_reducible refine hC1.mono ?_); rintro q2 w12 ⟨rfl,hx12⟩; have hX2:=hX1.trans hx12; have hK2:=hS.keep hX2)
    refine hK.out _ _ (hK2) (fun hHeld=>?_)
    clear hK K
    (try go_frame)
    refine ht 5 (h:=?_)
    (try go_frame)
    refine ht 6 (h:=?_)
    (try go_frame)
    refine ht 7 (h:=?_)
    (try go_frame)
    refine ht 8 (h:=?_)
    (try go_frame)
    refine ht 9 (h:=?_)
    (try go_frame)
    refine ht 10 (h:=?_)
    (try go_frame)
    refine ht 11 (h:=?_)
    (try go_frame)
    refine ht 12 (h:=?_)
    (try go_frame)
    refine ht 13 (h:=?_)
    (try go_frame)
    refine held_step 14 rfl (by kernel_rfl) (fun K hK=>?_)
    (go_simp; go_at_call 57; (with_reducible refine (HF2.out _).mono ?_); rintro q3 w13 ⟨v13,rfl,h13,hx13⟩; have hX3:=hX2.trans hx13; have hK3:=hS.keep hX3; have hC2:=HC2.out w13 _ hX3 h13; obtain ⟨n13,a13,l13,c13,a14,l14,c14,rfl⟩:=h13.shape)
    refine hK.out _ _ (hK3) (fun hHeld=>?_)
    clear hK K
    (try go_frame)
    refine held_step 15 rfl (by kernel_rfl) (fun K hK=>?_)
    (go_simp; go_at_call 56; (with_reducible refine hC2.mono ?_); rintro q4 w14 ⟨rfl,hx14⟩; have hX4:=hX3.trans hx14; have hK4:=hS.keep hX4)
    refine hK.out _ _ (hK4) (fun hHeld=>?_)
    clear hK K
    (try go_frame)
    refine ht 16 (h:=?_)
    (try go_frame)
    refine ht 17 (h:=?_)
    (try go_frame)
    refine ht 18 (h:=?_)
    (try go_frame)
    refine wpAnyH_done (by kernel_rfl) ?_ _
    have HXX:=bH (HB3.out.2.2.2.trans hX4)
    clear hX1 hX2 h11 hx11 hx12 hC1 hK1 hK2 hS hHeld hX3 hX4 h13 hx13 hx14 hC2 hK3 hK4
    go_wp2
    go_ret
    exact ⟨ret_bool (allTo_false (f:=insB p x) (i:=i) (by rw [HN.out]; exact hin) (by rw [HR.out]; simp [hs])).symm,HXX.out⟩
   ·have hd:decide (s1<0)=false:=decide_eq_false hs0; have hd2:decide (0<s2)=false:=decide_eq_false hs
    refine wp_region_held_drew (S:=(S6 rb rb rb cb cb cb 0 1 2 0 1 2 (.int .i64 lo) (.int .i64 up) (.bool false) (.bool xn) (.slice xa xm xc) (.slice ya ym yc'))) (by kernel_rfl) (hS.drew) (fun hHeld=>?_)
    refine ht 0 (h:=?_)
    (try go_frame)
    refine ht 1 (h:=?_)
    (try go_frame)
    refine ht 2 (h:=?_)
    (try go_frame)
    refine held_step 3 rfl (by kernel_rfl) (fun K hK=>?_)
    (go_simp; go_at_call 57; (with_reducible refine (HF1.out _).mono ?_); rintro q1 w11 ⟨v11,rfl,h11,hx11⟩; have hX1:=(Ext.refl (fun _=>False) w3).drew.trans hx11; have hK1:=hS.keep hX1; have hC1:=HC1.out w11 _ hX1 h11; obtain ⟨n11,a11,l11,c11,a12,l12,c12,rfl⟩:=h11.shape)
    refine hK.out _ _ (hK1) (fun hHeld=>?_)
    clear hK K
    (try go_frame)
    refine held_step 4 rfl (by kernel_rfl) (fun K hK=>?_)
    (go_simp; go_at_call 56; (with_reducible refine hC1.mono ?_); rintro q2 w12 ⟨rfl,hx12⟩; have hX2:=hX1.trans hx12; have hK2:=hS.keep hX2)
    refine hK.out _ _ (hK2) (fun hHeld=>?_)
    clear hK K
    (try go_frame)
    refine ht 5 (h:=?_)
    (try go_frame)
    refine ht 6 (h:=?_)
    (try go_frame)
    refine ht 7 (h:=?_)
    (try go_frame)
    refine ht 8 (h:=?_)
    (try go_frame)
    refine ht 9 (h:=?_)
    (try go_frame)
    refine ht 10 (h:=?_)
    (try go_frame)
    refine ht 11 (h:=?_)
    (try go_frame)
    refine ht 12 (h:=?_)
    (try go_frame)
    refine ht 13 (h:=?_)
    (try go_frame)
    refine held_step 14 rfl (by kernel_rfl) (fun K hK=>?_)
    (go_simp; go_at_call 57; (with_reducible refine (HF2.out _).mono ?_); rintro q3 w13 ⟨v13,rfl,h13,hx13⟩; have hX3:=hX2.trans hx13; have hK3:=hS.keep hX3; have hC2:=HC2.out w13 _ hX3 h13; obtain ⟨n13,a13,l13,c13,a14,l14,c14,rfl⟩:=h13.shape)
    refine hK.out _ _ (hK3) (fun hHeld=>?_)
    clear hK K
    (try go_frame)
    refine held_step 15 rfl (by kernel_rfl) (fun K hK=>?_)
    (go_simp; go_at_call 56; (with_reducible refine hC2.mono ?_); rintro q4 w14 ⟨rfl,hx14⟩; have hX4:=hX3.trans hx14; have hK4:=hS.keep hX4)
    refine hK.out _ _ (hK4) (fun hHeld=>?_)
    clear hK K
    (try go_frame)
    refine ht 16 (h:=?_)
    (try go_frame)
    refine ht 17 (h:=?_)
    (try go_frame)
    refine ht 18 (h:=?_)
    (try go_frame)
    refine wpAnyH_done (by kernel_rfl) ?_ _
    have HXX:=bH (HB3.out.2.2.2.trans hX4)
    clear hX1 hX2 h11 hx11 hx12 hC1 hK1 hK2 hS hHeld hX3 hX4 h13 hx13 hx14 hC2 hK3 hK4
    go_wp2
    go_roundg (n - (i+1))
    case measure=>omega
    case rel=>exact ⟨i+1,by omega,rfl,by go_num,allTo_next HX.out.1 (by rw [HR.out]; simp [hs,hs0]),HXX.out⟩
  ·obtain rfl:i=n:=by omega
   go_wp2
   go_ret
   exact ⟨ret_bool (by rw [insideB_eq,HN.out]; exact HX.out.1.symm),HX.out.2⟩
def fewRow (k:Nat) (r:RowV):Bool:=decide (r.terms.length<=2*k) && decide (r.name.size<=100)
def fewP (p:ProgV) (k m:Nat):Bool:=p.rows.all (fewRow k) && decide (p.vars.length<=k) && decide (p.rows.length<=m)
theorem FewP_any (w:World) (pv:Value) (p:ProgV) (k m:Nat) (hk:k<=1000000) (hm:m<=1000000) (hp:IsPrg w pv p):Calls Tryz.prog 9 #[pv,.int .i64 k,.int .i64 m] w (BoolPost w (fewP p k m)):=by
 obtain ⟨vv,rv,rfl,hv,hr⟩:=hp
 obtain ⟨vo,vc,rfl,-,hvn,-⟩:=hv.shape
 obtain ⟨ro,rc,rfl,-,hrn,-⟩:=hr.shape
 have HV:=bH hr
 have HF:=bH (show fewP p k m=(p.rows.all (fewRow k) && decide (p.vars.length<=k) && decide (p.rows.length<=m)) from rfl)
 clear hv hr
 generalize p.vars.length=vn at *
 obtain ⟨n,hn'⟩:∃ n,p.rows.length=n:=⟨_,rfl⟩
 have HN:=bH hn'
 rw [hn'] at hrn HV HF ⊢
 clear hn'
 have HB:=bH (bI (blk_alloc_at w (.cells #[.slice vo vn vc,.slice ro n rc] 25)) ((Ext.refl (fun _=>False) w).alloc (.cells #[.slice vo vn vc,.slice ro n rc] 25)))
 go_enter Tryz.func9,Tryz.ntmps9
 go_upto_region 1 with fail
 generalize hw1:w.alloc (.cells #[.slice vo vn vc,.slice ro n rc] 25)=w1 at *
 clear hw1
 obtain ⟨pb,hpb⟩:∃ pb,w.heap.size=pb:=⟨_,rfl⟩
 rw [hpb] at HB ⊢
 clear hpb
 go_wp2_with fail
 go_loopg [7] n (fun gg v7 wr=>∃ i:Nat,i<=n/\gg=n - i/\v7=.int .i64 i/\(p.rows.take i).all (fewRow k)=true/\XF w1 wr)
 case atStart=>exact ⟨0,Nat.zero_le _,rfl,rfl,rfl,Ext.refl _ _⟩
 case round =>
  obtain ⟨i,hi,rfl,rfl,hall,hx⟩:=hrel
  have HX:=bH (bI hall hx)
  clear hall hx
  have z0:=cell_keep (cellq HB.out.1 0 rfl) HX.out.2
  have z1:=cell_keep (cellq HB.out.1 1 rfl) HX.out.2
  by_cases hin:i<n
  ·have i0:(i:Int)<(n:Int):=by omega
   have i1:(0:Int)<=(i:Int):=by omega
   have HI:Hid (i<p.rows.length):=bH (by rw [HN.out]; exact hin)
   obtain ⟨b,off,ta,tc,rfl,-,e0,e1,e2,e3,e4,hok,htm⟩:=(HV.out.keep (HB.out.2.trans HX.out.2)).atp i HI.out
   have hns:(p.r i).name.size<=9223372036854775807:=by have:=hok.name; unfold maxLen at this; omega
   obtain ⟨-,-,-,-,htn,-⟩:=htm.shape
   have HR:=bH (show fewRow k (p.rows.getD i row0)=(decide ((p.r i).terms.length<=2*k) && decide ((p.r i).name.size<=100)) from rfl)
   clear hok htm
   generalize (p.r i).terms.length=tl at *
   generalize (p.r i).name=nm at *
   obtain ⟨kk,hkk⟩:∃ kk,2*k=kk:=⟨_,rfl⟩
   have hk2:(2:Int)*(k:Int)=(kk:Int):=by omega
   rw [hkk] at HR
   have hkk63:kk<=9223372036854775807:=by omega
   clear hkk
   by_cases q1:kk<tl
   ·have q1':(kk:Int)<(tl:Int):=by omega
    go_wp2
    go_ret
    exact ⟨ret_bool (by rw [HF.out,all_fails (d:=row0) HI.out (by rw [HR.out,decide_eq_false (p:=tl<=kk) (by omega)]; rfl)]; rfl),HB.out.2.trans HX.out.2⟩
   ·have q1':¬ (kk:Int)<(tl:Int):=by omega
    by_cases q2:100<nm.size
    ·have q2':(100:Int)<(nm.size:Int):=by omega
     go_wp2
     go_ret
     exact ⟨ret_bool (by rw [HF.out,all_fails (d:=row0) HI.out (by rw [HR.out,decide_eq_false (p:=nm.size<=100) (by omega)]; simp)]; rfl),HB.out.2.trans HX.out.2⟩
    ·have q2':¬ (100:Int)<(nm.size:Int):=by omega
     go_wp2
     go_roundg (n - (i+1))
     case measure=>omega
     case rel=>exact ⟨i+1,by omega,rfl,by go_num,all_next (d:=row0) HI.out HX.out.1 (by rw [HR.out,decide_eq_true (p:=tl<=kk) (by omega),decide_eq_true (p:=nm.size<=100) (by omega)]; rfl),HX.out.2⟩
  ·obtain rfl:i=n:=by omega
   have HF2:Hid (fewP p k m=(decide (vn<=k) && decide (i<=m))):=bH (by
    have:=HX.out.1
    rw [List.take_of_length_le (by rw [HN.out]; exact Nat.le_refl _)] at this
    rw [HF.out,this]; rfl)
   by_cases q1:vn<=k
   ·have q1':(vn:Int)<=(k:Int):=by omega
    by_cases q2:i<=m
    ·have q2':(i:Int)<=(m:Int):=by omega
     go_wp2
     go_ret
     exact ⟨ret_bool (by rw [HF2.out,decide_eq_true q1,decide_eq_true q2]; rfl),HB.out.2.trans HX.out.2⟩
    ·have q2':¬ (i:Int)<=(m:Int):=by omega
     go_wp2
     go_ret
     exact ⟨ret_bool (by rw [HF2.out,decide_eq_true q1,decide_eq_false q2]; rfl),HB.out.2.trans HX.out.2⟩
   ·have q1':¬ (vn:Int)<=(k:Int):=by omega
    go_wp2
    go_ret
    exact ⟨ret_bool (by rw [HF2.out,decide_eq_false q1]; rfl),HB.out.2.trans HX.out.2⟩
def NoD (xs:List Value):Prop:=∀ u ∈ xs,∀ d,u≠.int .u32 d
theorem noDig_cells {w:World} {g:Nat} {cur:Array Value} {t:TypeId} {fr:Nat × Nat} (h:blk w g=some (.cells cur t fr)) (hn:NoD cur.toList):NoDig w g:=fun i d hc=>by
 rw [cell_of_cells h] at hc
 exact hn _ (by rw [<- Array.getElem?_toList] at hc; exact List.mem_of_getElem? hc) d rfl
theorem NoDig.cells {w:World} {g:Nat} {cur:Array Value} {t:TypeId} {fr:Nat × Nat} (hn:NoDig w g) (h:blk w g=some (.cells cur t fr)):NoD cur.toList:=fun u hu d e=>by
 obtain ⟨i,hi,rfl⟩:=List.getElem_of_mem hu
 refine hn i d ?_
 rw [cell_of_cells h,<- Array.getElem?_toList,List.getElem?_eq_getElem hi,e]
theorem NoD.append {xs ys:List Value} (h:NoD xs) (k:NoD ys):NoD (xs++ys):=fun u hu=>(List.mem_append.1 hu).elim (h u) (k u)
theorem NoD.take {xs:List Value} (h:NoD xs) (n:Nat):NoD (xs.take n):=fun u hu=>h u (List.mem_of_mem_take hu)
theorem NoD.drop {xs:List Value} (h:NoD xs) (n:Nat):NoD (xs.drop n):=fun u hu=>h u (List.mem_of_mem_drop hu)
theorem noD_zero {z:Array Value} (h:NoD z.toList) (n:Nat):NoD (Builtin.zeroCells z n).toList:=fun u hu=>by
 unfold Builtin.zeroCells at hu
 rw [Array.toList_map] at hu
 obtain ⟨i,hi,rfl⟩:=List.mem_map.1 hu
 have hi':i<n*z.size:=by simpa using hi
 have hz:0<z.size:=Nat.pos_of_ne_zero (fun e=>by rw [e] at hi'; simp at hi')
 have hm:i % z.size<z.size:=Nat.mod_lt _ hz
 rw [getElem!_pos z _ hm]
 exact h _ (by rw [<- Array.getElem_toList]; exact List.getElem_mem _)
section
variable {P:Program}
theorem append_noDig (w:World) (base:Nat) (t ty e:TypeId) (i:TypeInfo) (z:Value) (ht:P.underlying t=some (.slice e)) (hi:P.info? e=some i) (hz:i.zero=some z)
  (hzs:z.cells.size=i.size) (hzn:NoD z.cells.toList)
  (v:Value) (n:Nat) (xs:List Value) (hown:w.ownsRow base e i.size v n xs) (hnd:∀ g,v.ownBlock=some g->NoDig w g) (hxs:NoD xs)
  (a:Addr) (m c:Nat) (news:List Value) (hl:news.length=m*i.size) (hnews:∀ j u,news[j]?=some u->w.cell? (a.add j)=some u) (h1:∀ u ∈ news,u.oneCell'=true) (hnn:NoD news) (hm:0<m)
  (h63:n+m<=maxLen) (hbytes:(n+m)*i.bytes<=140737488355328) :
  ∀ v' w',(Builtin.append_ #[t,t] ty #[v,.slice (some a) m c]).run P w=.ok v' w'->∀ g,v'.ownBlock=some g->NoDig w' g:=by
 intro v' w' hrun g' hg'
 have hsmall:n+m<=9223372036854775807:=by simp only [maxLen] at h63; omega
 rcases hown.2 with ⟨rfl,rfl⟩ | ⟨g,cap,cur,rfl,hbg,hg,hnc,hcm,hcs,htake⟩
 ·have hr:=run_append_nil (P:=P) w t ty e i z ht hi hz a m c news hl hnews hm (by omega) (by have hb:=hbytes; simp only [Nat.zero_add] at hb; omega)
  rw [hr] at hrun
  injection hrun with h2 h3
  subst h2 h3
  cases hg'
  refine noDig_cells (show blk (w.drew.alloc _) w.heap.size=some _ from blk_alloc_at w.drew _) ?_
  rw [Array.toList_append]
  exact (by simpa using hnn:NoD news.toArray.toList).append (noD_zero hzn _)
 ·by_cases hroom:n+m<=cap
  ·have hfit:n*i.size+news.length<=cur.size:=by rw [hl,hcs,<- Nat.add_mul]; exact Nat.mul_le_mul_right _ hroom
   have hr:=run_append_room (P:=P) w t ty e i ht hi g n cap cur hg a m c news hl hnews h1 hroom hfit
   rw [hr] at hrun
   injection hrun with h2 h3
   subst h2 h3
   cases hg'
   have hc:=(hnd g rfl).cells (show blk w g=some _ from hg)
   refine noDig_cells (show blk (w.setRow g _) g=some _ from setRow_heap w g cur _ e _ hg) ?_
   exact ((hc.take _).append hnn).append (hc.drop _)
  ·have holds:∀ j u,xs[j]?=some u->w.cell? ((⟨g,0,none⟩:Addr).add j)=some u:=hown.cells (g:=g) rfl
   have hr:=run_append_grow (P:=P) w t ty e i z ht hi hz ⟨g,0,none⟩ n cap xs hown.1 holds a m c news hl hnews (by omega) (by omega) (growslice_fits (by omega) hbytes)
   rw [hr] at hrun
   injection hrun with h2 h3
   subst h2 h3
   cases hg'
   refine noDig_cells (show blk (w.drew.alloc _) w.heap.size=some _ from blk_alloc_at w.drew _) ?_
   rw [Array.toList_append,Array.toList_append]
   exact (hxs.append (by simpa using hnn:NoD news.toArray.toList)).append (noD_zero hzn _)
end
structure RatC where
 ng:Bool
 a1:Option Addr
 m1:Nat
 c1:Nat
 a2:Option Addr
 m2:Nat
 c2:Nat
def RatC.cells (x:RatC):List Value:=[.bool x.ng,.slice x.a1 x.m1 x.c1,.slice x.a2 x.m2 x.c2]
def RatC.v (x:RatC):Value:=.agg #[.bool x.ng,.slice x.a1 x.m1 x.c1,.slice x.a2 x.m2 x.c2]
theorem ratC_noD (x:RatC):NoD x.cells:=fun u hu d e=>by
 subst e
 simp [RatC.cells] at hu
theorem ratC_one (x:RatC):∀ u ∈ x.cells,u.oneCell'=true:=fun u hu=>by
 simp [RatC.cells] at hu
 rcases hu with rfl | rfl | rfl <;> rfl
theorem ratsC_noD (cs:List RatC):NoD (cs.flatMap RatC.cells):=fun u hu=>by
 obtain ⟨x,hx,hu⟩:=List.mem_flatMap.1 hu
 exact ratC_noD x u hu
def ROwn (w:World) (base:Nat) (v:Value) (l:List Rat) (L:Nat):Prop :=
 ∃ cs:List RatC,cs.length=l.length/\w.ownsRow base 42 3 v l.length (cs.flatMap RatC.cells)/\(∀ g,v.ownBlock=some g->NoDig w g)/\∀ (i:Nat) c q,cs[i]?=some c->l[i]?=some q->Rrat w c.v q L
theorem ROwn.shape {w:World} {base:Nat} {v:Value} {l:List Rat} {L:Nat} (h:ROwn w base v l L):∃ ao cap,v=.slice ao l.length cap:=by
 obtain ⟨cs,_,h1,_⟩:=h
 exact ownsRow_shape h1
theorem ROwn.lt {w:World} {base:Nat} {v:Value} {l:List Rat} {L:Nat} (h:ROwn w base v l L):∀ g,v.ownBlock=some g->base<=g/\g<w.heap.size:=by
 obtain ⟨cs,_,h1,_⟩:=h
 exact h1.lt
theorem ROwn.past {S:Nat->Prop} {w w':World} {base:Nat} {v:Value} {l:List Rat} {L:Nat} (h:ROwn w base v l L) (hx:Ext S w w') (hn:∀ g,v.ownBlock=some g->¬ S g) (hr:∀ u d,Rds w u d->Rds w' u d):ROwn w' base v l L:=by
 have hlt:=h.lt
 obtain ⟨cs,h1,h2,h3,h4⟩:=h
 refine ⟨cs,h1,ownsRow_ext h2 hx hn,fun g hg i d hc=>h3 g hg i d ?_,fun i c q hc hq=>?_⟩
 ·rw [<- hx.cell (p:=⟨g,i,none⟩) (hlt g hg).2 (hn g hg)]; exact hc
 ·obtain ⟨n,m,d,l,k,g1,g2,g3,g4,g5⟩:=h4 i c q hc hq
  exact ⟨n,m,d,l,k,g1,hr _ _ g2,g3,hr _ _ g4,g5⟩
theorem ROwn.keep {w w':World} {base:Nat} {v:Value} {l:List Rat} {L:Nat} (h:ROwn w base v l L) (hx:XF w w'):ROwn w' base v l L:=h.past hx (fun _ _ h=>h) (fun _ _ hr=>hr.keep hx)
theorem ROwn.rats {w:World} {base:Nat} {v:Value} {l:List Rat} {L:Nat} (h:ROwn w base v l L):Rats w v l L:=by
 obtain ⟨cs,h1,h2,h3,h4⟩:=h
 rcases h2.2 with ⟨rfl,h0⟩ | ⟨g,cap,cur,rfl,hb,hg,hnc,hcm,hcs,htake⟩
 ·have hl:=List.eq_nil_of_length_eq_zero h0
  subst hl
  exact Rats.nil w L
 ·refine ⟨cs.map RatC.cells,by rw [List.length_map,h1],⟨some ⟨g,0,none⟩,cap,by rw [List.length_map,h1],by rw [List.length_map,h1]; exact hnc,hcm,(fun e=>by cases e),fun hp=>⟨g,0,rfl,(Array.getElem?_eq_some_iff.1 hg).1,fun i r hi j u hu=>?_⟩⟩,fun i c q hc hq=>?_⟩
  ·rw [List.getElem?_map] at hi
   obtain ⟨x,hx,rfl⟩:=Option.map_eq_some_iff.1 hi
   have hil:i<cs.length:=(List.getElem?_eq_some_iff.1 hx).1
   have hj:j<3:=(List.getElem?_eq_some_iff.1 hu).1
   have hget:=fm_get (f:=RatC.cells) (m:=3) (fun _=>rfl) cs i hx j hj
   rw [<- htake] at hget
   rw [Nat.zero_add,cell_of_cells (show blk w g=some _ from hg),<- Array.getElem?_toList,<- hu,<- hget,List.getElem?_take,if_pos (by
    have:i<l.length:=by omega
    omega)]
  ·rw [List.getElem?_map] at hc
   obtain ⟨x,hx,rfl⟩:=Option.map_eq_some_iff.1 hc
   exact h4 i x q hx hq
theorem run_append_rat (w:World) (base:Nat) (v:Value) (l:List Rat) (L:Nat) (x:RatC) (q:Rat) (ad:Addr) (c:Nat) (ty:TypeId) (h:ROwn w base v l L) (hq:Rrat w x.v q L) (hsrc:∀ j u,x.cells[j]?=some u->w.cell? (ad.add j)=some u) (hl:l.length<=1000000) (hbase:base<=w.heap.size) :
  ∃ v' w',(Builtin.append_ #[32,32] ty #[v,.slice (some ad) 1 c]).run Tryz.prog w=.ok v' w'/\ROwn w' base v' (l++[q]) L/\Ext (fun k=>v.ownBlock=some k) w w'/\(∀ u d,Rds w u d->Rds w' u d):=by
 obtain ⟨i0,hi,hz0,hz1,hz2⟩:=info_parts Tryz.infoRat
 obtain ⟨cs,h1,h2,h3,h4⟩:=h
 have h2':w.ownsRow base 42 i0.size v l.length (cs.flatMap RatC.cells):=by rw [hz1]; exact h2
 have hsz:(Value.agg #[.bool false,.slice none 0 0,.slice none 0 0]).cells.size=i0.size:=by rw [hz1]; rfl
 have hzn:NoD (Value.agg #[.bool false,.slice none 0 0,.slice none 0 0]).cells.toList:=ratC_noD ⟨false,none,0,0,none,0,0⟩
 have hbt:(l.length+1)*i0.bytes<=140737488355328:=by rw [hz2]; omega
 have h63:l.length+1<=maxLen:=by unfold maxLen; omega
 obtain ⟨v',w',hr,g1,g2,_,g5⟩:=run_append_own_at (P:=Tryz.prog) w base 32 ty 42 i0 _ i0.size i0.bytes Tryz.underlying32 hi hz0 rfl rfl hsz (by rw [hz1]; decide) v l.length _ h2' ad 1 c x.cells (by rw [hz1]; rfl) hsrc (ratC_one x) h63 hbt hbase
 have hx:Ext (fun k=>v.ownBlock=some k) w w':=(Ext.refl (fun k=>v.ownBlock=some k) w).grown g2 (fun k hk _=>hk)
 have hrd:∀ u d,Rds w u d->Rds w' u d:=fun u d hu=>hu.past hx (fun k _ hk=>h3 k hk)
 have hnd:=append_noDig (P:=Tryz.prog) w base 32 ty 42 i0 _ Tryz.underlying32 hi hz0 hsz hzn v l.length _ h2' h3 (ratsC_noD cs) ad 1 c x.cells (by rw [hz1]; rfl) hsrc (ratC_one x) (ratC_noD x) (by omega) h63 hbt v' w' hr
 refine ⟨v',w',hr,⟨cs++[x],by rw [List.length_append,List.length_append,h1]; rfl,?_,hnd,fun i c' q' hc' hq'=>?_⟩,hx,hrd⟩
 ·rw [List.length_append,List.flatMap_append,List.flatMap_cons,List.flatMap_nil,List.append_nil]
  rw [hz1] at g1
  exact g1
 ·have hkeep:∀ {c:RatC} {q:Rat},Rrat w c.v q L->Rrat w' c.v q L:=fun hh=>by
   obtain ⟨n,m,d,l,k,e1,e2,e3,e4,e5⟩:=hh
   exact ⟨n,m,d,l,k,e1,hrd _ _ e2,e3,hrd _ _ e4,e5⟩
  by_cases hi':i<cs.length
  ·rw [List.getElem?_append_left hi'] at hc'
   rw [List.getElem?_append_left (by omega)] at hq'
   exact hkeep (h4 i c' q' hc' hq')
  ·rw [List.getElem?_append_right (by omega)] at hc' hq'
   have e:i - cs.length=0:=by
    have:=(List.getElem?_eq_some_iff.1 hc').1
    simp at this
    omega
   rw [e] at hc'
   rw [show i - l.length=0 from by omega] at hq'
   cases hc'; cases hq'
   exact hkeep hq
theorem wpList_append_rat {w:World} {ops:Array Oper} {rest:List Oper} {o:Oper} {a:Act} {Q:Exit->Act->World->Prop} (hgd:o.guard=none) (s x:Operand)
  (ho:o.op=.call { callee:=.builtin .append,args:=#[s,x],argTypes:=#[32,32] })
  (base:Nat) (v:Value) (l:List Rat) (L:Nat) (hs:a.eval s=v) (hown:ROwn w base v l L) (e:RatC) (q:Rat) (hq:Rrat w e.v q L) (ad:Addr) (c:Nat) (hx:a.eval x=.slice (some ad) 1 c) (hsrc:∀ j u,e.cells[j]?=some u->w.cell? (ad.add j)=some u) (hl:l.length<=1000000) (hbase:base<=w.heap.size)
  (h:∀ v' w',ROwn w' base v' (l++[q]) L->Ext (fun k=>v.ownBlock=some k) w w'->(∀ u d,Rds w u d->Rds w' u d)->wpList Tryz.prog ops Q rest (a.put o.dst v') w') :
  wpList Tryz.prog ops Q (o :: rest) a w:=by
 refine wpList_plain hgd fun K hK=>?_
 obtain ⟨v',w',hr,h2,h3,h5⟩:=run_append_rat w base v l L e q ad c o.type hown hq hsrc hl hbase
 unfold Oper.wp execOp
 simp only [ho,resolve,invoke,builtin,Sem.run_bind,Sem.run_pure,Result.andThen_ok,List.map_toArray,List.map_cons,List.map_nil,hs,hx,hr]
 exact hK _ _ (h v' w' h2 h3 h5)
theorem terms_any (w:World) (tv:Value) (ts:List TermV) (h:Tms w tv ts) (hl:ts.length<=1000) (hc:∀ t ∈ ts,limB t.coef=true) (ht:Tab10 w):Calls Tryz.prog 51 #[tv] w (StrPost w (termsT ts)):=by
 obtain ⟨ao,c,rfl,-⟩:=id h.1
 rw [List.length_map] at h ⊢
 have HT:=bH (bI h (bI hc ht))
 obtain ⟨n,hn⟩:∃ n,ts.length=n:=⟨_,rfl⟩
 have HN:=bH hn
 rw [hn] at HT hl ⊢
 clear h hc ht hn
 have HNu:=bH (fun W m (hW:XF w W) (hm:InR m)=>number_any W m hm (HT.out.2.2.keep hW))
 have HIt:=bH (fun W m (hW:XF w W) (hm:InR m)=>itoa_any W m hm (HT.out.2.2.keep hW))
 go_enter Tryz.func51,Tryz.ntmps51
 go_upto_region 2 with fail
 go_wp2_with fail
 go_loopg [11,3,4,5,6,7,8] n (fun gg v11 v3 v4 v5 v6 v7 v8 wr=>∃ (k:Nat) (v:Value),k<=n/\gg=n - k/\v11=.int .i64 k/\v=v3/\SRow wr w.heap.size v (partsT ts k)/\XF w wr)
 case atStart=>exact ⟨0,_,Nat.zero_le _,rfl,rfl,rfl,World.ownsRow_nil _ _ _ 1,Ext.refl _ _⟩
 case round =>
  obtain ⟨k,v,hk,rfl,rfl,rfl,hs,hx⟩:=hrel
  have HR:=bH (bI hs hx)
  clear hs hx
  by_cases hkn:k<n
  ·have k0:(k:Int)<(n:Int):=by omega
   have k1:(0:Int)<=(k:Int):=by omega
   obtain ⟨b,off,rfl,hlt,e0,e1,hok⟩:=(HT.out.1.keep HR.out.2).at k (by rw [HN.out]; exact hkn)
   have hmem:ts.getD k term0 ∈ ts:=by rw [getD_lt (by rw [HN.out]; exact hkn) term0]; exact List.getElem_mem _
   have hlc:=absI_in (HT.out.2.1 _ hmem)
   have hlb:=HT.out.2.1 _ hmem
   unfold limB at hlb
   simp only [Bool.and_eq_true,decide_eq_true_eq] at hlb
   have hvr:=hok.var
   have HPn:=bH (partsT_next ts k)
   obtain ⟨t,htt⟩:∃ t,ts.getD k term0=t:=⟨_,rfl⟩
   rw [htt] at e0 e1 hlb hvr HPn
   obtain ⟨tv,htv⟩:∃ x,t.var=x:=⟨_,rfl⟩
   obtain ⟨tc,htc⟩:∃ x,t.coef=x:=⟨_,rfl⟩
   rw [htv] at e0 hvr
   rw [htc] at e1 hlb
   have HV:=bH (bI htv htc)
   obtain ⟨hb1,hb2⟩:=hlb
   clear hok hmem hlc htt htv htc
   have hxa:=(Ext.refl (fun _=>False) wr).alloc (.cells #[.int .i64 tv,.int .i64 tc] 99)
   have HB:=bH (bI (blk_alloc_at wr (.cells #[.int .i64 tv,.int .i64 tc] 99)) (bI (HR.out.1.keep hxa) (HR.out.2.trans hxa)))
   clear hxa hlt
   go_upto_region 5 with fail
   generalize wr.alloc (.cells #[.int .i64 tv,.int .i64 tc] 99)=w4 at *
   generalize wr.heap.size=tb at *
   clear e0 e1
   have e0:=cq (cellq HB.out.1 0 rfl)
   have e1:=cq (cellq HB.out.1 1 rfl)
   have hs1:=numT_size hvr
   have hq1:¬ 9223372036854775807<1+(numT tv).size:=by omega
   have hvr2:=hvr
   have HIt2:=bH (fun W (hW:XF w4 W)=>HIt.out W tv (HB.out.2.2.trans hW) hvr2)
   have HNu2:=bH (fun W m (hW:XF w4 W) (hm:InR m)=>HNu.out W m (HB.out.2.2.trans hW) hm)
   clear hvr2
   refine wp_region_held_drew (S:=(XF w4)) (by kernel_rfl) ((Ext.refl _ w4).drew) (fun hHeld=>?_)
   refine ht 0 (h:=(ht 1 (h:=(ht 4 (h:=(ht 5 (h:=(ht 6 (h:=?_)))))))))
   (try go_frame)
   refine hst 2 (h:=fun K hK=>?_)
   (go_simp; go_at_call 50; (with_reducible refine (HIt2.out _ (hHeld:XF w4 _)).mono ?_); rintro q1 w11 ⟨rfl,hx11⟩; have hX1:=hHeld.trans hx11)
   refine hK.out _ _ (hX1) (fun hHeld=>?_)
   clear hK K
   (try go_frame)
   refine ht 3 (h:=(ht 7 (h:=(ht 8 (h:=?_)))))
   (try go_frame)
   refine wpAnyH_done (by kernel_rfl) ?_ _
   have HW:=bH (bI (HB.out.2.1.keep hX1) (bI (HB.out.2.2.trans hX1) hX1))
   have hle1:w.heap.size<=w11.heap.size+1:=by have:=HW.out.2.1.size; omega
   have c0:=cellq (blk_keep HB.out.1 hX1) 0 rfl
   have c1:=cellq (blk_keep HB.out.1 hX1) 1 rfl
   clear e0 e1 hHeld hx11 hX1 HIt2 HNu HIt
   by_cases hk0:k=0
   ·subst hk0
    by_cases hc:tc<0
    ·by_cases h1:absI tc=1
     ·have hab:absI tc = -tc:=if_pos hc
      rw [hab] at h1
      have hm:max tc (-tc) = -tc:=by omega
      obtain rfl:tc = -1:=by omega
      have HZ:=bH (show termT 0 t=⟨#[45]⟩++(⟨#[120]⟩++numT tv) from by unfold termT yT xT; rw [HV.out.1,HV.out.2]; rw [if_pos rfl]; rw [if_pos (by omega)]; rw [if_pos (by rw [hab]; first | done | rfl)])
      have hq4:¬ 9223372036854775807<1+(1+(numT tv).size):=by omega
      go_wp2_with (first | (at_builtin; refine wpList_appS rfl (.tmp 57) (.tmp 59) rfl w.heap.size v (partsT ts 0) rfl (HW.out.1.keep (((Ext.refl (fun _=>False) w11).alloc _))) (⟨#[45]⟩++(⟨#[120]⟩++numT tv)) rfl (cellq (blk_alloc_at w11 _) 0 rfl) (by rw [partsT_len]; omega) (by rw [World.size_alloc]; exact hle1) ?_; intro v9 w9 hs9 hx9))
      have hlow:=(World.ownsRow.lt HW.out.1)
      have hx0:=(HW.out.2.1.trans (((Ext.refl (fun _=>False) w11).alloc (.cells #[.string (⟨#[45]⟩++(⟨#[120]⟩++numT tv))] 9)))).own hx9 (fun k hk=>(hlow k hk).1)
      rw [<- HZ.out,<- HPn.out] at hs9
      clear hx9 hlow
      go_wp2
      go_roundg (n - (0+1))
      case measure=>omega
      case rel=>exact ⟨0+1,_,by omega,rfl,by go_num,rfl,hs9,hx0⟩
     ·have hab:absI tc = -tc:=if_pos hc
      rw [hab] at h1
      have hm:max tc (-tc) = -tc:=by omega
      have HZ:=bH (show termT 0 t=⟨#[45]⟩++(numT (-tc)++⟨#[32]⟩++(⟨#[120]⟩++numT tv)) from by unfold termT yT xT; rw [HV.out.1,HV.out.2]; rw [if_pos rfl]; rw [if_pos (by omega)]; rw [if_neg (by rw [hab]; exact h1)]; rw [hab])
      have hs2:=numT_size (n:=-tc) (by unfold InR; omega)
      have hq2:¬ 9223372036854775807<(numT (-tc)).size+1:=by omega
      have hq3:¬ 9223372036854775807<(numT (-tc)).size+1+(1+(numT tv).size):=by omega
      have hq4:¬ 9223372036854775807<1+((numT (-tc)).size+1+(1+(numT tv).size)):=by omega
      go_wp2_with (first | (go_at_call 49; refine (HNu2.out w11 (-tc) HW.out.2.2 (by unfold InR; omega)).mono ?_; rintro q2 w12 ⟨rfl,hx12⟩; have hle2:w.heap.size<=w12.heap.size+1:=by have:=hx12.size; omega) | (at_builtin; refine wpList_appS rfl (.tmp 57) (.tmp 59) rfl w.heap.size v (partsT ts 0) rfl (HW.out.1.keep (hx12.trans ((Ext.refl (fun _=>False) w12).alloc _))) (⟨#[45]⟩++(numT (-tc)++⟨#[32]⟩++(⟨#[120]⟩++numT tv))) rfl (cellq (blk_alloc_at w12 _) 0 rfl) (by rw [partsT_len]; omega) (by rw [World.size_alloc]; exact hle2) ?_; intro v9 w9 hs9 hx9))
      have hlow:=(World.ownsRow.lt HW.out.1)
      have hx0:=(HW.out.2.1.trans (hx12.trans ((Ext.refl (fun _=>False) w12).alloc (.cells #[.string (⟨#[45]⟩++(numT (-tc)++⟨#[32]⟩++(⟨#[120]⟩++numT tv)))] 9)))).own hx9 (fun k hk=>(hlow k hk).1)
      rw [<- HZ.out,<- HPn.out] at hs9
      clear hx9 hlow
      go_wp2
      go_roundg (n - (0+1))
      case measure=>omega
      case rel=>exact ⟨0+1,_,by omega,rfl,by go_num,rfl,hs9,hx0⟩
    ·by_cases h1:absI tc=1
     ·have hab:absI tc=tc:=if_neg hc
      rw [hab] at h1
      have hm:max tc (-tc)=tc:=by omega
      subst h1
      have HZ:=bH (show termT 0 t=⟨#[120]⟩++numT tv from by unfold termT yT xT; rw [HV.out.1,HV.out.2]; rw [if_pos rfl]; rw [if_neg (by omega)]; rw [if_pos (by rw [hab])])
      go_wp2_with (first | (at_builtin; refine wpList_appS rfl (.tmp 57) (.tmp 59) rfl w.heap.size v (partsT ts 0) rfl (HW.out.1.keep (((Ext.refl (fun _=>False) w11).alloc _))) (⟨#[120]⟩++numT tv) rfl (cellq (blk_alloc_at w11 _) 0 rfl) (by rw [partsT_len]; omega) (by rw [World.size_alloc]; exact hle1) ?_; intro v9 w9 hs9 hx9))
      have hlow:=(World.ownsRow.lt HW.out.1)
      have hx0:=(HW.out.2.1.trans (((Ext.refl (fun _=>False) w11).alloc (.cells #[.string (⟨#[120]⟩++numT tv)] 9)))).own hx9 (fun k hk=>(hlow k hk).1)
      rw [<- HZ.out,<- HPn.out] at hs9
      clear hx9 hlow
      go_wp2
      go_roundg (n - (0+1))
      case measure=>omega
      case rel=>exact ⟨0+1,_,by omega,rfl,by go_num,rfl,hs9,hx0⟩
     ·have hab:absI tc=tc:=if_neg hc
      rw [hab] at h1
      have hm:max tc (-tc)=tc:=by omega
      have HZ:=bH (show termT 0 t=numT (tc)++⟨#[32]⟩++(⟨#[120]⟩++numT tv) from by unfold termT yT xT; rw [HV.out.1,HV.out.2]; rw [if_pos rfl]; rw [if_neg (by omega)]; rw [if_neg (by rw [hab]; exact h1)]; rw [hab])
      have hs2:=numT_size (n:=tc) (by unfold InR; omega)
      have hq2:¬ 9223372036854775807<(numT (tc)).size+1:=by omega
      have hq3:¬ 9223372036854775807<(numT (tc)).size+1+(1+(numT tv).size):=by omega
      go_wp2_with (first | (go_at_call 49; refine (HNu2.out w11 (tc) HW.out.2.2 (by unfold InR; omega)).mono ?_; rintro q2 w12 ⟨rfl,hx12⟩; have hle2:w.heap.size<=w12.heap.size+1:=by have:=hx12.size; omega) | (at_builtin; refine wpList_appS rfl (.tmp 57) (.tmp 59) rfl w.heap.size v (partsT ts 0) rfl (HW.out.1.keep (hx12.trans ((Ext.refl (fun _=>False) w12).alloc _))) (numT (tc)++⟨#[32]⟩++(⟨#[120]⟩++numT tv)) rfl (cellq (blk_alloc_at w12 _) 0 rfl) (by rw [partsT_len]; omega) (by rw [World.size_alloc]; exact hle2) ?_; intro v9 w9 hs9 hx9))
      have hlow:=(World.ownsRow.lt HW.out.1)
      have hx0:=(HW.out.2.1.trans (hx12.trans ((Ext.refl (fun _=>False) w12).alloc (.cells #[.string (numT (tc)++⟨#[32]⟩++(⟨#[120]⟩++numT tv))] 9)))).own hx9 (fun k hk=>(hlow k hk).1)
      rw [<- HZ.out,<- HPn.out] at hs9
      clear hx9 hlow
      go_wp2
      go_roundg (n - (0+1))
      case measure=>omega
      case rel=>exact ⟨0+1,_,by omega,rfl,by go_num,rfl,hs9,hx0⟩
   ·have k2:¬ ((k:Int)=0):=by omega
    have k3:(0:Int)<(k:Int):=by omega
    have k4:((k:Int) == 0)=false:=by simpa using k2
    by_cases hc:tc<0
    ·by_cases h1:absI tc=1
     ·have hab:absI tc = -tc:=if_pos hc
      rw [hab] at h1
      have hm:max tc (-tc) = -tc:=by omega
      obtain rfl:tc = -1:=by omega
      have HZ:=bH (show termT k t=⟨#[45,32]⟩++(⟨#[120]⟩++numT tv) from by unfold termT yT xT; rw [HV.out.1,HV.out.2]; rw [if_neg hk0]; rw [if_pos (by omega)]; rw [if_pos (by rw [hab]; first | done | rfl)])
      have hq4:¬ 9223372036854775807<2+(1+(numT tv).size):=by omega
      go_wp2_with (first | (at_builtin; refine wpList_appS rfl (.tmp 57) (.tmp 59) rfl w.heap.size v (partsT ts k) rfl (HW.out.1.keep (((Ext.refl (fun _=>False) w11).alloc _))) (⟨#[45,32]⟩++(⟨#[120]⟩++numT tv)) rfl (cellq (blk_alloc_at w11 _) 0 rfl) (by rw [partsT_len]; omega) (by rw [World.size_alloc]; exact hle1) ?_; intro v9 w9 hs9 hx9))
      have hlow:=(World.ownsRow.lt HW.out.1)
      have hx0:=(HW.out.2.1.trans (((Ext.refl (fun _=>False) w11).alloc (.cells #[.string (⟨#[45,32]⟩++(⟨#[120]⟩++numT tv))] 9)))).own hx9 (fun k hk=>(hlow k hk).1)
      rw [<- HZ.out,<- HPn.out] at hs9
      clear hx9 hlow
      go_wp2
      go_roundg (n - (k+1))
      case measure=>omega
      case rel=>exact ⟨k+1,_,by omega,rfl,by go_num,rfl,hs9,hx0⟩
     ·have hab:absI tc = -tc:=if_pos hc
      rw [hab] at h1
      have hm:max tc (-tc) = -tc:=by omega
      have HZ:=bH (show termT k t=⟨#[45,32]⟩++(numT (-tc)++⟨#[32]⟩++(⟨#[120]⟩++numT tv)) from by unfold termT yT xT; rw [HV.out.1,HV.out.2]; rw [if_neg hk0]; rw [if_pos (by omega)]; rw [if_neg (by rw [hab]; exact h1)]; rw [hab])
      have hs2:=numT_size (n:=-tc) (by unfold InR; omega)
      have hq2:¬ 9223372036854775807<(numT (-tc)).size+1:=by omega
      have hq3:¬ 9223372036854775807<(numT (-tc)).size+1+(1+(numT tv).size):=by omega
      have hq4:¬ 9223372036854775807<2+((numT (-tc)).size+1+(1+(numT tv).size)):=by omega
      go_wp2_with (first | (go_at_call 49; refine (HNu2.out w11 (-tc) HW.out.2.2 (by unfold InR; omega)).mono ?_; rintro q2 w12 ⟨rfl,hx12⟩; have hle2:w.heap.size<=w12.heap.size+1:=by have:=hx12.size; omega) | (at_builtin; refine wpList_appS rfl (.tmp 57) (.tmp 59) rfl w.heap.size v (partsT ts k) rfl (HW.out.1.keep (hx12.trans ((Ext.refl (fun _=>False) w12).alloc _))) (⟨#[45,32]⟩++(numT (-tc)++⟨#[32]⟩++(⟨#[120]⟩++numT tv))) rfl (cellq (blk_alloc_at w12 _) 0 rfl) (by rw [partsT_len]; omega) (by rw [World.size_alloc]; exact hle2) ?_; intro v9 w9 hs9 hx9))
      have hlow:=(World.ownsRow.lt HW.out.1)
      have hx0:=(HW.out.2.1.trans (hx12.trans ((Ext.refl (fun _=>False) w12).alloc (.cells #[.string (⟨#[45,32]⟩++(numT (-tc)++⟨#[32]⟩++(⟨#[120]⟩++numT tv)))] 9)))).own hx9 (fun k hk=>(hlow k hk).1)
      rw [<- HZ.out,<- HPn.out] at hs9
      clear hx9 hlow
      go_wp2
      go_roundg (n - (k+1))
      case measure=>omega
      case rel=>exact ⟨k+1,_,by omega,rfl,by go_num,rfl,hs9,hx0⟩
    ·by_cases h1:absI tc=1
     ·have hab:absI tc=tc:=if_neg hc
      rw [hab] at h1
      have hm:max tc (-tc)=tc:=by omega
      subst h1
      have HZ:=bH (show termT k t=⟨#[43,32]⟩++(⟨#[120]⟩++numT tv) from by unfold termT yT xT; rw [HV.out.1,HV.out.2]; rw [if_neg hk0]; rw [if_neg (by omega)]; rw [if_pos (by rw [hab])])
      have hq4:¬ 9223372036854775807<2+(1+(numT tv).size):=by omega
      go_wp2_with (first | (at_builtin; refine wpList_appS rfl (.tmp 57) (.tmp 59) rfl w.heap.size v (partsT ts k) rfl (HW.out.1.keep (((Ext.refl (fun _=>False) w11).alloc _))) (⟨#[43,32]⟩++(⟨#[120]⟩++numT tv)) rfl (cellq (blk_alloc_at w11 _) 0 rfl) (by rw [partsT_len]; omega) (by rw [World.size_alloc]; exact hle1) ?_; intro v9 w9 hs9 hx9))
      have hlow:=(World.ownsRow.lt HW.out.1)
      have hx0:=(HW.out.2.1.trans (((Ext.refl (fun _=>False) w11).alloc (.cells #[.string (⟨#[43,32]⟩++(⟨#[120]⟩++numT tv))] 9)))).own hx9 (fun k hk=>(hlow k hk).1)
      rw [<- HZ.out,<- HPn.out] at hs9
      clear hx9 hlow
      go_wp2
      go_roundg (n - (k+1))
      case measure=>omega
      case rel=>exact ⟨k+1,_,by omega,rfl,by go_num,rfl,hs9,hx0⟩
     ·have hab:absI tc=tc:=if_neg hc
      rw [hab] at h1
      have hm:max tc (-tc)=tc:=by omega
      have HZ:=bH (show termT k t=⟨#[43,32]⟩++(numT (tc)++⟨#[32]⟩++(⟨#[120]⟩++numT tv)) from by unfold termT yT xT; rw [HV.out.1,HV.out.2]; rw [if_neg hk0]; rw [if_neg (by omega)]; rw [if_neg (by rw [hab]; exact h1)]; rw [hab])
      have hs2:=numT_size (n:=tc) (by unfold InR; omega)
      have hq2:¬ 9223372036854775807<(numT (tc)).size+1:=by omega
      have hq3:¬ 9223372036854775807<(numT (tc)).size+1+(1+(numT tv).size):=by omega
      have hq4:¬ 9223372036854775807<2+((numT (tc)).size+1+(1+(numT tv).size)):=by omega
      go_wp2_with (first | (go_at_call 49; refine (HNu2.out w11 (tc) HW.out.2.2 (by unfold InR; omega)).mono ?_; rintro q2 w12 ⟨rfl,hx12⟩; have hle2:w.heap.size<=w12.heap.size+1:=by have:=hx12.size; omega) | (at_builtin; refine wpList_appS rfl (.tmp 57) (.tmp 59) rfl w.heap.size v (partsT ts k) rfl (HW.out.1.keep (hx12.trans ((Ext.refl (fun _=>False) w12).alloc _))) (⟨#[43,32]⟩++(numT (tc)++⟨#[32]⟩++(⟨#[120]⟩++numT tv))) rfl (cellq (blk_alloc_at w12 _) 0 rfl) (by rw [partsT_len]; omega) (by rw [World.size_alloc]; exact hle2) ?_; intro v9 w9 hs9 hx9))
      have hlow:=(World.ownsRow.lt HW.out.1)
      have hx0:=(HW.out.2.1.trans (hx12.trans ((Ext.refl (fun _=>False) w12).alloc (.cells #[.string (⟨#[43,32]⟩++(numT (tc)++⟨#[32]⟩++(⟨#[120]⟩++numT tv)))] 9)))).own hx9 (fun k hk=>(hlow k hk).1)
      rw [<- HZ.out,<- HPn.out] at hs9
      clear hx9 hlow
      go_wp2
      go_roundg (n - (k+1))
      case measure=>omega
      case rel=>exact ⟨k+1,_,by omega,rfl,by go_num,rfl,hs9,hx0⟩
  ·obtain rfl:n=k:=by omega
   by_cases h0:n=0
   ·subst h0
    have hts:ts=[]:=List.eq_nil_of_length_eq_zero HN.out
    obtain ⟨ao',ac',rfl⟩:∃ ao ac,v=.slice ao 0 ac:=by
     obtain ⟨a1,c1,e⟩:=ownsRow_shape HR.out.1
     rw [partsT_len] at e
     exact ⟨a1,c1,e⟩
    go_wp2
    go_ret
    exact ⟨by rw [hts]; rfl,HR.out.2⟩
   ·obtain ⟨g,gc,rfl,hcg,hlt,hlo,hcells⟩:=HR.out.1.cells (by rw [partsT_len]; omega)
    rw [partsT_len] at hcg ⊢
    have n0:¬ ((n:Int)=0):=by omega
    have n1:((n:Int) == 0)=false:=by simpa using n0
    have n2:decide ((n:Int)=0)=false:=by simpa using n0
    have HJ:=bH (Tryz.strings_Join g 0 gc (partsT ts n) ⟨#[32]⟩ wr (fun j x hx=>by rw [Nat.zero_add]; exact hcells j x hx) hlt (by rw [partsT_len]; omega) (by rw [partsT_len]; exact hcg) (by
     refine Nat.le_trans (join_le (c:=50) (fun x hx=>?_)) ?_
     ·obtain ⟨y,hy,rfl⟩:=List.mem_map.1 hx
      obtain ⟨i,hi,rfl⟩:=List.mem_map.1 hy
      have hin:i<ts.length:=by rw [HN.out]; exact List.mem_range.1 hi
      have hm:ts.getD i term0 ∈ ts:=by rw [getD_lt hin term0]; exact List.getElem_mem _
      exact termT_size (HT.out.1.2 _ hm).var (HT.out.2.1 _ hm)
     ·rw [List.length_map,partsT_len]; omega))
    rw [partsT_len] at HJ
    clear hcells
    go_wp2_with (go_at_call 91; refine HJ.out.mono ?_; rintro q2 w12 ⟨rfl,hx12⟩)
    go_ret
    exact ⟨by unfold termsT; rw [if_neg (fun e=>h0 (by rw [<- HN.out,e]; rfl)),HN.out]; rfl,HR.out.2.trans (Below.ext hx12)⟩
open Go.RowKit Go.MapKept Go.Lib
theorem inn_any (w:World) (n:Int):Calls Tryz.prog 47 #[.int .i64 n] w (BoolPost w (limB n)):=by
 go_enter Tryz.func47,Tryz.ntmps47
 by_cases h1:-1099511627776<=n
 ·by_cases h2:n<=1099511627776
  ·go_wp2
   go_ret
   exact ⟨ret_bool (by simp [limB,h1,h2]),Ext.refl _ _⟩
  ·go_wp2
   go_ret
   exact ⟨ret_bool (by simp [limB,h1,h2]),Ext.refl _ _⟩
 ·go_wp2
  go_ret
  exact ⟨ret_bool (by unfold limB; rw [decide_eq_false (p:=(-1099511627776<=n)) (by omega)]; rfl),Ext.refl _ _⟩
def chB (c:Nat):Bool:=decide (32<=c) && decide (c<=126)
theorem nameB_true {s:ByteArray} (h:∀ i (hi:i<s.size),chB (s[i]'hi).toNat=true):nameB s=true:=by
 unfold nameB
 rw [ByteArray.toList_eq,List.all_eq_true]
 intro x hx
 obtain ⟨i,hi,rfl⟩:=List.getElem_of_mem hx
 have hi':i<s.size:=by rw [Array.length_toList] at hi; exact hi
 have:=h i hi'
 rw [Array.getElem_toList]
 exact this
theorem nameB_false {s:ByteArray} {i:Nat} (hi:i<s.size) (h:chB (s[i]'hi).toNat=false):nameB s=false:=by
 unfold nameB
 rw [ByteArray.toList_eq,List.all_eq_false]
 refine ⟨s[i]'hi,?_,?_⟩
 ·show s.data[i] ∈ s.data.toList
  simp
 ·have:chB (s[i]'hi).toNat≠true:=by rw [h]; decide
  exact this
theorem ValidRow_any (w:World) (vars:Nat) (hv:vars<=9223372036854775807) (r:RowV) (ta:Option Addr) (tc:Nat) (hok:RowOk r) (ht:Tms w (.slice ta r.terms.length tc) r.terms) :
  Calls Tryz.prog 48 #[.int .i64 vars,.agg #[.string r.name,.int .i64 r.group,.int .i64 r.kind,.slice ta r.terms.length tc,.int .i64 r.bound]] w (BoolPost w (rowB vars r)):=by
 have hns:r.name.size<=9223372036854775807:=by have:=hok.name; unfold maxLen at this; omega
 have hg:=hok.group
 have hk:=hok.kind
 unfold InR at hg hk
 obtain ⟨-,-,-,-,htn,-⟩:=ht.shape
 have HT:=bH ht
 have HR:=bH (show rowB vars r=(decide (0<=r.kind) && decide (r.kind<=2) && decide (0<=r.group) && decide (r.group<=60) && decide (r.name.size<=80) && limB r.bound && nameB r.name && termsB vars (-1) r.terms) from rfl)
 have hb1:=blk_alloc_at w (.cells #[.string r.name,.int .i64 r.group,.int .i64 r.kind,.slice ta r.terms.length tc,.int .i64 r.bound] 75)
 have hx1:=(Ext.refl (fun _=>False) w).alloc (.cells #[.string r.name,.int .i64 r.group,.int .i64 r.kind,.slice ta r.terms.length tc,.int .i64 r.bound] 75)
 have HB:=bH (bI hb1 hx1)
 clear ht hok hb1 hx1
 obtain ⟨tl,htl⟩:∃ tl,r.terms.length=tl:=⟨_,rfl⟩
 have HTL:=bH htl
 rw [htl] at htn HT HB ⊢
 clear htl
 obtain ⟨gr,hgr⟩:∃ gr,r.group=gr:=⟨_,rfl⟩
 rw [hgr] at hg HR HB ⊢
 clear hgr
 obtain ⟨kd,hkd⟩:∃ kd,r.kind=kd:=⟨_,rfl⟩
 rw [hkd] at hk HR HB ⊢
 clear hkd
 obtain ⟨bd,hbd⟩:∃ bd,r.bound=bd:=⟨_,rfl⟩
 rw [hbd] at HR HB ⊢
 clear hbd
 obtain ⟨nm,hnm⟩:∃ nm,r.name=nm:=⟨_,rfl⟩
 rw [hnm] at hns HR HB ⊢
 clear hnm
 go_enter Tryz.func48,Tryz.ntmps48
 go_upto_region 1 with fail
 generalize hw1:w.alloc (.cells #[.string nm,.int .i64 gr,.int .i64 kd,.slice ta tl tc,.int .i64 bd] 75)=w1 at *
 clear hw1
 obtain ⟨rb,hrb⟩:∃ rb,w.heap.size=rb:=⟨_,rfl⟩
 rw [hrb] at HB ⊢
 clear hrb
 have e0:=cellq HB.out.1 0 rfl
 have e1:=cellq HB.out.1 1 rfl
 have e2:=cellq HB.out.1 2 rfl
 have e4:=cellq HB.out.1 4 rfl
 by_cases c4:kd<0
 ·go_wp2
  go_ret
  exact ⟨ret_bool (by rw [HR.out,decide_eq_false (p:=(0<=kd)) (by omega)]; simp),HB.out.2⟩
 by_cases c5:2<kd
 ·go_wp2
  go_ret
  exact ⟨ret_bool (by rw [HR.out,decide_eq_false (p:=(kd<=2)) (by omega)]; simp),HB.out.2⟩
 by_cases c2:gr<0
 ·go_wp2
  go_ret
  exact ⟨ret_bool (by rw [HR.out,decide_eq_false (p:=(0<=gr)) (by omega)]; simp),HB.out.2⟩
 by_cases c3:60<gr
 ·go_wp2
  go_ret
  exact ⟨ret_bool (by rw [HR.out,decide_eq_false (p:=(gr<=60)) (by omega)]; simp),HB.out.2⟩
 by_cases c1:80<nm.size
 ·have c1':(80:Int)<(nm.size:Int):=by omega
  go_wp2
  go_ret
  exact ⟨ret_bool (by rw [HR.out,decide_eq_false (p:=(nm.size<=80)) (by omega)]; simp),HB.out.2⟩
 have c1':¬ (80:Int)<(nm.size:Int):=by omega
 have HR2:Hid (rowB vars r=(limB bd && nameB nm && termsB vars (-1) r.terms)):=bH (by
  rw [HR.out,decide_eq_true (p:=(0<=kd)) (by omega),decide_eq_true (p:=(kd<=2)) (by omega),decide_eq_true (p:=(0<=gr)) (by omega),decide_eq_true (p:=(gr<=60)) (by omega),decide_eq_true (p:=(nm.size<=80)) (by omega)]
  simp)
 clear HR
 go_wp2_with fail
 refine (inn_any w1 bd).mono ?_
 rintro r2 w2 ⟨rfl,hx2⟩
 have HB2:=bH (bI (blk_keep HB.out.1 hx2) (HB.out.2.trans hx2))
 clear hx2 HB e0 e1 e2 e4
 cases hlb:limB bd with
 | false =>
  rw [hlb] at HR2
  clear hlb
  go_wp2
  go_ret
  exact ⟨ret_bool (by rw [HR2.out]; rfl),HB2.out.2⟩
 | true =>
  rw [hlb] at HR2
  clear hlb c1 c1' c2 c3 c4 c5 hg hk
  have e0:=cellq HB2.out.1 0 rfl
  obtain ⟨ns,hnsz⟩:∃ ns,nm.size=ns:=⟨_,rfl⟩
  have HNS:=bH hnsz
  go_wp2_with fail
  go_loopg [5] ns (fun gg v5 wr=>∃ (k:Nat),k<=ns/\gg=ns - k/\v5=.int .i64 k/\(∀ j (hj:j<nm.size),j<k->chB (nm[j]'hj).toNat=true)/\wr=w2)
  case atStart=>exact ⟨0,Nat.zero_le _,rfl,rfl,(fun j _ h=>absurd h (Nat.not_lt_zero _)),rfl⟩
  case round =>
   obtain ⟨k,hk,rfl,rfl,hall,hwr⟩:=hrel
   obtain rfl:=hwr.symm
   have HA:=bH hall
   clear hall
   by_cases hin:k<ns
   ·have i0:(k:Int)<(nm.size:Int):=by omega
    have i1:(0:Int)<=(k:Int):=by omega
    have hin':k<nm.size:=by omega
    have HC:=bH (fun (h:chB (nm[k]'hin').toNat=false)=>nameB_false hin' h)
    have HC2:Hid (chB (nm[k]'hin').toNat=true->∀ j (hj:j<nm.size),j<k+1->chB (nm[j]'hj).toNat=true):=bH (fun h j hj hjk=>by
     by_cases e:j=k
     ·subst e; exact h
     ·exact HA.out j hj (by omega))
    have hch:(nm[k]'hin').toNat<256:=by have:=(nm[k]'hin').toNat_lt; omega
    by_cases t1:(nm[k]'hin').toNat<32
    ·have t1':((nm[k]'hin').toNat:Int)<32:=by omega
     have HF:=bH (HC.out (by unfold chB; rw [decide_eq_false (by omega)]; rfl))
     go_wp2
     go_ret
     exact ⟨ret_bool (by rw [HR2.out,HF.out]; rfl),HB2.out.2⟩
    have t1':¬ ((nm[k]'hin').toNat:Int)<32:=by omega
    by_cases t2:126<(nm[k]'hin').toNat
    ·have t2':(126:Int)<((nm[k]'hin').toNat:Int):=by omega
     have HF:=bH (HC.out (by unfold chB; rw [decide_eq_false (p:=((nm[k]'hin').toNat<=126)) (by omega)]; simp))
     go_wp2
     go_ret
     exact ⟨ret_bool (by rw [HR2.out,HF.out]; rfl),HB2.out.2⟩
    have t2':¬ (126:Int)<((nm[k]'hin').toNat:Int):=by omega
    have HN:=bH (HC2.out (by unfold chB; rw [decide_eq_true (p:=(32<=(nm[k]'hin').toNat)) (by omega),decide_eq_true (p:=((nm[k]'hin').toNat<=126)) (by omega)]; rfl))
    clear HC HC2
    go_wp2
    go_roundg (ns - (k+1))
    case measure=>omega
    case rel=>exact ⟨k+1,by omega,rfl,by go_num,HN.out,rfl⟩
   ·obtain rfl:k=ns:=by omega
    have HR3:Hid (rowB vars r=termsB vars (-1) r.terms):=bH (by
     rw [HR2.out,nameB_true (fun i hi=>HA.out i hi (by have:=HNS.out; omega))]; rfl)
    clear HR2 HA
    have e3:=cellq HB2.out.1 3 rfl
    go_wp2_with fail
    go_loopg [7,6] tl (fun gg v7 v6 wr=>∃ (k:Nat) (la:Int),k<=tl/\gg=tl - k/\v7=.int .i64 k/\v6=.int .i64 la∧-9223372036854775808<=la/\la<=9223372036854775807/\termsB vars (-1) r.terms=termsB vars la (r.terms.drop k)/\XF w2 wr)
    case atStart=>exact ⟨0,-1,Nat.zero_le _,rfl,rfl,rfl,by omega,by omega,rfl,Ext.refl _ _⟩
    case round =>
     clear e3 e0
     obtain ⟨k,la,hk,rfl,rfl,rfl,hla0,hla1,heq,hx⟩:=hrel
     have HX:=bH (bI heq hx)
     have e3:=cell_keep (cellq HB2.out.1 3 rfl) hx
     clear heq hx
     by_cases hin:k<tl
     ·have i0:(k:Int)<(tl:Int):=by omega
      have i1:(0:Int)<=(k:Int):=by omega
      have hkl:k<r.terms.length:=by rw [HTL.out]; exact hin
      have hdr:r.terms.drop k=r.t k :: r.terms.drop (k+1):=by
       rw [List.drop_eq_getElem_cons hkl,r.t_at hkl]
      have HD:=bH (HX.out.1.trans (by rw [hdr,termsB_cons]))
      obtain ⟨b,off,rfl,-,e0,e1,htok⟩:=(HT.out.keep (HB2.out.2.trans HX.out.2)).atr k hkl
      have hva:=htok.var
      have hco:=htok.coef
      unfold InR at hva hco
      clear hdr hkl htok
      obtain ⟨tv,htv⟩:∃ tv,(r.t k).var=tv:=⟨_,rfl⟩
      obtain ⟨co,hco'⟩:∃ co,(r.t k).coef=co:=⟨_,rfl⟩
      rw [htv] at e0 HD hva
      rw [hco'] at e1 HD hco
      clear htv hco'
      have hb3:=blk_alloc_at wr (.cells #[.int .i64 tv,.int .i64 co] 99)
      have hx3:=(Ext.refl (fun _=>False) wr).alloc (.cells #[.int .i64 tv,.int .i64 co] 99)
      have HB3:=bH (bI hb3 hx3)
      clear hb3 hx3
      go_upto_region 13 with fail
      generalize hw3:wr.alloc (.cells #[.int .i64 tv,.int .i64 co] 99)=w3 at *
      clear hw3
      obtain ⟨tb,htb⟩:∃ tb,wr.heap.size=tb:=⟨_,rfl⟩
      rw [htb] at HB3 ⊢
      clear htb e0 e1 e3
      obtain ⟨x0,x1⟩:w3.cell? ⟨tb,0,none⟩=some (.int .i64 tv)/\w3.cell? ⟨tb,1,none⟩=some (.int .i64 co):=⟨cellq HB3.out.1 0 rfl,cellq HB3.out.1 1 rfl⟩
      have HE:=bH ((HB2.out.2.trans HX.out.2).trans HB3.out.2)
      by_cases t1:tv<=la
      ·go_wp2
       go_ret
       exact ⟨ret_bool (by rw [HR3.out,HD.out,decide_eq_false (p:=(la<tv)) (by omega)]; simp),HE.out⟩
      by_cases t2:(vars:Int)<=tv
      ·go_wp2
       go_ret
       exact ⟨ret_bool (by rw [HR3.out,HD.out,decide_eq_false (p:=(tv<(vars:Int))) (by omega)]; simp),HE.out⟩
      by_cases t3:co=0
      ·have t3':(co == 0)=true:=by simpa using t3
       subst t3
       go_wp2
       go_ret
       exact ⟨ret_bool (by rw [HR3.out,HD.out]; simp),HE.out⟩
      have t3':(co == 0)=false:=by simpa using t3
      have HD2:Hid (termsB vars (-1) r.terms=(limB co && termsB vars tv (r.terms.drop (k+1)))):=bH (by
       rw [HD.out,decide_eq_true (p:=(la<tv)) (by omega),decide_eq_true (p:=(tv<(vars:Int))) (by omega),decide_eq_false t3]; simp)
      clear HD
      go_wp2_with fail
      refine (inn_any w3 co).mono ?_
      rintro r4 w4 ⟨rfl,hx4⟩
      have HX4:=bH ((HX.out.2.trans HB3.out.2).trans hx4)
      have y0:=cell_keep x0 hx4
      clear hx4 x0 x1 HE
      cases hlc:limB co with
      | false =>
       rw [hlc] at HD2
       clear hlc
       go_wp2
       go_ret
       exact ⟨ret_bool (by rw [HR3.out,HD2.out]; simp),HB2.out.2.trans HX4.out⟩
      | true =>
       rw [hlc] at HD2
       clear hlc
       go_wp2
       go_roundg (tl - (k+1))
       case measure=>omega
       case rel=>exact ⟨k+1,tv,by omega,rfl,by go_num,rfl,by omega,by omega,by rw [HD2.out]; rfl,HX4.out⟩
     ·obtain rfl:k=tl:=by omega
      have HF:Hid (rowB vars r=true):=bH (by
       rw [HR3.out,HX.out.1,List.drop_of_length_le (by rw [HTL.out]; exact Nat.le_refl _)]; rfl)
      go_wp2
      go_ret
      exact ⟨ret_bool HF.out.symm,HB2.out.2.trans HX.out.2⟩
theorem ROwn.empty {w:World} {g base:Nat} (L:Nat) (h:blk w g=some (.cells #[] 42 (0,0))) (hb:base<=g):ROwn w base (.slice (some ⟨g,0,none⟩) 0 0) [] L :=
 ⟨[],rfl,ownsRow_empty 3 hb h,(fun g' e=>by cases e; exact noDig_cells h (fun u hu=>by cases hu)),(fun i c q h=>by simp at h)⟩
def RatsPost (w:World) (l:List Rat) (L:Nat) (r:Ending) (w':World):Prop:=∃ v,r=.returned v/\Rats w' v l L/\XF w w'
theorem ext_own {w0 w w':World} {v:Value} (h:XF w0 w) (hx:Ext (fun k=>v.ownBlock=some k) w w') (hb:∀ g,v.ownBlock=some g->w0.heap.size<=g):XF w0 w' :=
 h.own hx (fun k hk=>hb k hk)
def qOf (ns:List Int) (i:Nat):Rat:=((ns.getD i 0:Int):Rat)
theorem Ints_any (w:World) (b c:Nat) (ns:List Int) (L:Nat) (hc:∀ i,i<ns.length->w.cell? ⟨b,i,none⟩=some (.int .i64 (ns.getD i 0))) (hr:∀ x ∈ ns,InR x) (hn0:ns.length<=1000) (h1:2<=L) :
  Calls Tryz.prog 41 #[.slice (some ⟨b,0,none⟩) ns.length c] w (RatsPost w (listTo ns.length (qOf ns)) L):=by
 have HF:=bH (fun W (hW:XF w W) i (hi:i<ns.length)=>bI (cell_keep (hc i hi) hW) (Rrfrom_any W (ns.getD i 0) (hr _ (by rw [List.getD_eq_getElem?_getD,List.getElem?_eq_getElem hi]; exact List.getElem_mem hi)).1 (hr _ (by rw [List.getD_eq_getElem?_getD,List.getElem?_eq_getElem hi]; exact List.getElem_mem hi)).2))
 have HSz:=bH (fun i (hi:i<ns.length)=>(Sz.int (hr (ns.getD i 0) (by rw [List.getD_eq_getElem?_getD,List.getElem?_eq_getElem hi]; exact List.getElem_mem hi))).mono h1)
 clear hc hr
 have HQ:=bH (show ∀ i,((ns.getD i 0:Int):Rat)=qOf ns i from fun _=>rfl)
 generalize qOf ns=qf at *
 obtain ⟨n,hn'⟩:∃ n,ns.length=n:=⟨_,rfl⟩
 rw [hn'] at hn0 HF HSz ⊢
 clear hn'
 generalize (fun i=>ns.getD i 0)=nf at *
 have hb2:=blk_alloc_at w (.cells #[] 42)
 have HB:=bH (bI (ROwn.empty (base:=w.heap.size) L hb2 (Nat.le_refl _)) ((Ext.refl (fun _=>False) w).alloc (.cells #[] 42)))
 clear hb2
 go_enter Tryz.func41,Tryz.ntmps41
 go_upto_region 2 with fail
 generalize hw1:(w.alloc (.cells #[] 42))=w1 at *
 clear hw1
 obtain ⟨bs,hbs⟩:∃ bs,w.heap.size=bs:=⟨_,rfl⟩
 have HBs:=bH hbs
 rw [hbs] at HB ⊢
 clear hbs
 go_wp2_with fail
 go_loopg [4,3] n (fun gg v4 v3 wr=>∃ (i:Nat) (v:Value),i<=n/\gg=n - i/\v4=.int .i64 i/\v3=v/\ROwn wr bs v (listTo i qf) L/\XF w wr)
 case atStart=>exact ⟨0,_,Nat.zero_le _,rfl,rfl,rfl,HB.out.1,HB.out.2⟩
 case round =>
  obtain ⟨i,v,hi,rfl,rfl,rfl,ho,hx⟩:=hrel
  obtain ⟨ao,cap,rfl⟩:=ho.shape
  have hll:(listTo i qf).length=i:=listTo_length _ _
  rw [hll] at ho ⊢
  by_cases hin:i<n
  ·have i0:(i:Int)<(n:Int):=by omega
   have i1:(0:Int)<=(i:Int):=by omega
   have hcell:=(HF.out wr hx i hin).1
   have HA1:=bH (HF.out wr hx i hin).2
   have HSi:=bH (HSz.out i hin)
   have HQi:=bH (HQ.out i)
   generalize ns.getD i 0=nv at *
   have HO:=bH (bI ho hx)
   have HLl:=bH hll
   clear ho hx hll
   go_wp2_with fail
   refine HA1.out.mono ?_
   rintro r2 w2 ⟨v2,rfl,h2,hx2⟩
   obtain ⟨n2,a2,l2,c2,a2',l2',c2',rfl⟩:=h2.shape
   have hxa:=(Ext.refl (fun _=>False) w2).alloc (.cells #[.bool n2,.slice a2 l2 c2,.slice a2' l2' c2'] 42)
   have HO2:=bH (bI (HO.out.1.keep (hx2.trans hxa)) (bI ((HQi.out ▸ h2.reads HSi.out).keep hxa) ((HO.out.2.trans hx2).trans hxa)))
   have HSz2:=bH (show bs<=(w2.alloc (.cells #[.bool n2,.slice a2 l2 c2,.slice a2' l2' c2'] 42)).heap.size from by have:=HO2.out.2.2.size; have:=HBs.out; omega)
   have HG:=bH (fun g e=>(HO2.out.1.lt g e).1)
   clear h2 hx2 hxa HA1 hcell
   go_wp2_with (at_builtin; refine wpList_append_rat rfl (.tmp 12) (.tmp 18) rfl bs _ _ L rfl HO2.out.1 ⟨n2,a2,l2,c2,a2',l2',c2'⟩ (qf i) HO2.out.2.1 ⟨w2.heap.size,0,none⟩ 1 rfl (cells_new (RatC.cells ⟨n2,a2,l2,c2,a2',l2',c2'⟩) _ rfl) (by rw [HLl.out]; omega) HSz2.out ?_; intro v5 w5 hown5 hx5 hrd5; have HN:Hid (ROwn w5 bs v5 (listTo (i+1) qf) L):=bH (by rw [listTo_succ]; exact hown5); have HX5:Hid (XF w w5):=bH (ext_own HO2.out.2.2 hx5 (fun g e=>by have:=HG.out g e; have:=HBs.out; omega)); clear hown5 hx5 hrd5)
   go_roundg (n - (i+1))
   case measure=>omega
   case rel=>exact ⟨i+1,_,by omega,rfl,by go_num,rfl,HN.out,HX5.out⟩
  ·obtain rfl:i=n:=by omega
   have HO:=bH (bI ho hx)
   clear ho hx
   go_wp2
   go_ret
   exact ⟨_,rfl,by have:=HO.out.1.rats; exact this,HO.out.2⟩
theorem blk_alloc_at' (w:World) (o:Obj) (k:Nat) (h:k=w.heap.size):blk (w.alloc o) k=some o:=by subst h; exact blk_alloc_at w o
def PrgPost (w:World) (p:ProgV) (r:Ending) (w':World):Prop:=∃ v,r=.returned v/\IsPrg w' v p/\XF w w'
abbrev RT:=RowV × Value
section
variable {B:Nat} {y:RT} {oa:Option (List VarV)} {ob:Option (List RT)} {c d:Bool} {w5 w w':World} {vA vB vC vD:Value}
end
theorem IsPrg.slices5 {w:World} {pv:Value} {p:ProgV} (h:IsPrg w pv p):∃ vo vn vc ro rn rc,pv=.agg #[.slice vo vn vc,.slice ro rn rc]:=by
 obtain ⟨vv,rv,rfl,hv,hr⟩:=h
 obtain ⟨vo,vc,rfl,-⟩:=hv.shape
 obtain ⟨ro,rc,rfl,-⟩:=hr.shape
 exact ⟨vo,_,vc,ro,_,rc,rfl⟩
theorem termsB_coef {n:Int}:∀ {l:List TermV} {last:Int},termsB n last l=true->∀ k,k<l.length->limB (l.getD k term0).coef=true
 | [],_,_,k,hk=>by simp at hk
 | t :: l,last,h,k,hk=>by
  unfold termsB at h
  simp only [Bool.and_eq_true] at h
  cases k with
  | zero=>exact h.1.2
  | succ k=>exact termsB_coef h.2 k (by simpa using hk)
theorem step_appS {w:World} {ops:Array Oper} {o:Oper} {a:Act} {K:Act->World->Prop} {Q:Exit->Act->World->Prop} {E:Prop} (hgd:o.guard=none) (s x:Operand)
  (ho:o.op=.call { callee:=.builtin .append,args:=#[s,x],argTypes:=#[30,30] }) (base:Nat) (v:Value) (l:List ByteArray) (hs:a.eval s=v) (hown:SRow w base v l) (y:ByteArray) {b:Nat} {c:Nat} (hx:a.eval x=.slice (some ⟨b,0,none⟩) 1 c) (hc:w.cell? ⟨b,0,none⟩=some (.string y)) (hl:l.length<=100000) (hbase:base<=w.heap.size)
  (h:∀ v' w',SRow w' base v' (l++[y])->Ext (fun k=>v.ownBlock=some k) w w'->(v'.ownBlock=v.ownBlock∨v'.ownBlock=some w.heap.size)->K (a.put o.dst v') w') :
  if Region.wanted o (yielded ops a.tmps)=true then Oper.wp Tryz.prog o a w K Q else E:=by
 obtain ⟨i0,hi0,hz0,hz1,hz2⟩:=info_parts Tryz.infoString
 refine step_append_any hgd s x 30 ho base 9 i0 _ 1 16 Tryz.underlying30 hi0 hz0 hz1 hz2 rfl (by decide) v l.length (l.map Value.string) hs hown (some ⟨b,0,none⟩) 1 c (fun e=>by cases e) [.string y] hx rfl (.inr ⟨_,rfl,fun j u hu=>?_⟩) (fun u hu=>by simp at hu; subst hu; rfl) (by unfold maxLen; omega) (by omega) hbase (fun v' w' g1 g2 g3=>h v' w' ?_ ?_ g3)
 ·match j,hu with
  | 0,hu =>
   cases hu
   rw [Addr.add_lit]
   exact hc
  | j+1,hu=>simp at hu
 ·unfold SRow
  rw [List.length_append,List.map_append]
  exact g1
 ·exact (Ext.refl (fun k=>v.ownBlock=some k) w).grown g2 (fun k hk _=>hk)
def Strs (w:World) (v:Value) (l:List ByteArray):Prop:=Sl w v 1 (l.map cS)
theorem SRow.strs {w:World} {base:Nat} {v:Value} {l:List ByteArray} (h:SRow w base v l):Strs w v l:=by
 rcases h.2 with ⟨rfl,h0⟩ | ⟨g,cap,cur,rfl,hb,hg,hnc,hcm,hcs,htake⟩
 ·exact ⟨none,0,by rw [List.length_map,h0],by rw [List.length_map,h0]; exact Nat.le_refl _,by unfold maxLen; decide,fun _=>rfl,fun h=>by rw [List.length_map,h0] at h; exact absurd h (Nat.lt_irrefl 0)⟩
 ·refine ⟨some ⟨g,0,none⟩,cap,by rw [List.length_map],by rw [List.length_map]; exact hnc,hcm,(fun e=>by cases e),fun _=>⟨g,0,rfl,blk_lt hg,fun i r hi j u hu=>?_⟩⟩
  rw [List.getElem?_map] at hi
  obtain ⟨x,hx,rfl⟩:=Option.map_eq_some_iff.1 hi
  have hi':i<l.length:=(List.getElem?_eq_some_iff.1 hx).1
  match j,hu with
  | 0,hu =>
   cases hu
   rw [Nat.zero_add,Nat.mul_one,Nat.add_zero,cell_of_cells hg,<- Array.getElem?_toList]
   have h2:(cur.toList.take (l.length*1))[i]?=some (.string x):=by
    rw [htake,List.getElem?_map,hx]; rfl
   rw [List.getElem?_take_of_lt (by omega)] at h2
   exact h2
  | j+1,hu=>simp [cS] at hu
def upT (v:VarV):ByteArray:=if v.op then ⟨#[111,112,101,110,41]⟩ else numT v.up++⟨#[93]⟩
def kindT (v:VarV):ByteArray:=if v.ig then ⟨#[105,110,116,101,103,101,114]⟩ else ⟨#[114,101,97,108]⟩
def varT (i:Nat) (v:VarV):ByteArray:=⟨#[120]⟩++numT i++⟨#[32,105,110,32,91]⟩++numT v.lo++⟨#[44,32]⟩++upT v++⟨#[32]⟩++kindT v++⟨#[32,99,111,115,116,32]⟩++numT v.co
def signT (k:Int):ByteArray:=if k=0 then ⟨#[60,61]⟩ else if k=1 then ⟨#[62,61]⟩ else ⟨#[61]⟩
def rowT (r:RowV):ByteArray:=r.name++⟨#[32,40]⟩++numT r.group++⟨#[41,58,32]⟩++termsT r.terms++⟨#[32]⟩++signT r.kind++⟨#[32]⟩++numT r.bound
def varsT (p:ProgV) (k:Nat):List ByteArray:=(List.range k).map fun i=>varT i (p.v i)
def rowsT (p:ProgV) (k:Nat):List ByteArray:=(List.range k).map fun i=>rowT (p.r i)
def fmtT (p:ProgV):List ByteArray:=if validB p then varsT p p.vars.length++rowsT p p.rows.length else []
theorem varsT_len (p:ProgV) (k:Nat):(varsT p k).length=k:=by simp [varsT]
theorem rowsT_len (p:ProgV) (k:Nat):(rowsT p k).length=k:=by simp [rowsT]
theorem varsT_next (p:ProgV) (k:Nat):varsT p (k+1)=varsT p k++[varT k (p.v k)]:=by
 unfold varsT
 rw [List.range_succ,List.map_append]; rfl
theorem rowsT_next (p:ProgV) (k:Nat):rowsT p (k+1)=rowsT p k++[rowT (p.r k)]:=by
 unfold rowsT
 rw [List.range_succ,List.map_append]; rfl
theorem upT_size {v:VarV} (h:InR v.up):(upT v).size<=30:=by
 have:=numT_size h
 unfold upT
 split
 ·decide
 ·rw [app_size]; show _+1<=_; omega
theorem kindT_size (v:VarV):(kindT v).size<=7:=by
 unfold kindT
 split <;> decide
theorem signT_size (k:Int):(signT k).size<=2:=by
 unfold signT
 split
 ·decide
 ·split <;> decide
theorem termsT_size {ts:List TermV} (hv:∀ t ∈ ts,InR t.var) (hc:∀ t ∈ ts,limB t.coef=true):(termsT ts).size<=1+ts.length*51:=by
 unfold termsT
 split
 ·show 1<=_; omega
 ·have h:=join_le (l:=(partsT ts ts.length).map (·.data.toList)) (c:=50) (fun x hx=>by
   obtain ⟨y,hy,rfl⟩:=List.mem_map.1 hx
   obtain ⟨i,hi,rfl⟩:=List.mem_map.1 hy
   have hin:i<ts.length:=List.mem_range.1 hi
   have hm:ts.getD i term0 ∈ ts:=by rw [getD_lt hin term0]; exact List.getElem_mem _
   exact termT_size (hv _ hm) (hc _ hm))
  rw [List.length_map,partsT_len] at h
  show (Lib.join _ _).toArray.size<=_
  rw [List.size_toArray]
  omega
def StrsPost (w:World) (l:List ByteArray) (r:Ending) (w':World):Prop:=∃ v,r=.returned v/\Strs w' v l/\XF w w'
theorem sb_at {w:World} {sb:Nat} (h:blk w sb=some (.cells #[.string ⟨#[60,61]⟩,.string ⟨#[62,61]⟩,.string ⟨#[61]⟩] 9 (0,0))) {k:Nat} (hk:k<=2):w.cell? ⟨sb,k,none⟩=some (.string (signT k)):=by
 rcases k with _ | _ | _ | k
 ·exact cellq h 0 rfl
 ·exact cellq h 1 rfl
 ·exact cellq h 2 rfl
 ·omega
theorem Format_any (w:World) (pv:Value) (p:ProgV) (hp:IsPrg w pv p) (ht:Tab10 w) (hT:∀ i,i<p.rows.length->(p.r i).terms.length<=1000):Calls Tryz.prog 13 #[pv] w (StrsPost w (fmtT p)):=by
 obtain ⟨vo,vn,vc,ro,rn,rc,rfl⟩:=hp.slices5
 have HLn:=bH (show p.vars.length=vn/\p.rows.length=rn from by
  obtain ⟨vv,rv,e,h,h2⟩:=hp
  cases e
  obtain ⟨_,_,e,_⟩:=h.shape
  obtain ⟨_,_,e2,_⟩:=h2.shape
  cases e; cases e2
  exact ⟨rfl,rfl⟩)
 have hxa:=(Ext.refl (fun _=>False) w).alloc (.cells #[.slice vo vn vc,.slice ro rn rc] 25)
 have HB:=bH (bI (hp.keep hxa) (bI (blk_alloc_at w (.cells #[.slice vo vn vc,.slice ro rn rc] 25)) hxa))
 have HTm:=bH hT
 have HTb:=bH (fun W (hW:XF w W)=>ht.keep hW)
 clear hp hxa hT ht
 go_enter Tryz.func13,Tryz.ntmps13
 go_upto_region 1 with fail
 generalize w.alloc (.cells #[.slice vo vn vc,.slice ro rn rc] 25)=w1 at *
 obtain ⟨pb,hpb⟩:∃ q,w.heap.size=q:=⟨_,rfl⟩
 rw [hpb] at HB ⊢
 have HPb:=bH hpb
 clear hpb
 have p0:w1.cell? ⟨pb,0,none⟩=some (.slice vo vn vc):=cellq HB.out.2.1 0 rfl
 have p1:w1.cell? ⟨pb,1,none⟩=some (.slice ro rn rc):=cellq HB.out.2.1 1 rfl
 have HVa:=bH (Valid_any w1 (.agg #[.slice vo vn vc,.slice ro rn rc]) p HB.out.1)
 obtain ⟨vb,hvb⟩:∃ vb,validB p=vb:=⟨_,rfl⟩
 rw [hvb] at HVa
 have HVb:=bH hvb
 clear hvb
 cases vb with
 | false =>
  go_wp2_with (go_at_call 10; refine HVa.out.mono ?_; rintro q2 w2 ⟨rfl,hx2⟩)
  go_ret
  exact ⟨_,rfl,by unfold fmtT; rw [HVb.out]; exact (show SRow w2 0 (.slice none 0 0) [] from World.ownsRow_nil _ _ _ 1).strs,HB.out.2.2.trans hx2⟩
 | true =>
 have HFm:=bH (show fmtT p=varsT p vn++rowsT p rn from by unfold fmtT; rw [HVb.out,HLn.out.1,HLn.out.2]; rfl)
 have hnm:=HVb.out
 unfold validB at hnm
 simp only [Bool.and_eq_true,decide_eq_true_eq] at hnm
 have hn4:vn<=400:=by have:=hnm.1.1.1; have:=HLn.out.1; omega
 have hm4:rn<=4000:=by have:=hnm.1.1.2; have:=HLn.out.2; omega
 clear hnm
 rw [HFm.out]
 go_upto_region 4 with (go_at_call 10; refine HVa.out.mono ?_; rintro q2 w2 ⟨rfl,hx2⟩; replace p0:=cell_keep p0 hx2; replace p1:=cell_keep p1 hx2)
 have HP:=bH (bI (HB.out.1.keep hx2) (bI (blk_keep HB.out.2.1 hx2) (HB.out.2.2.trans hx2)))
 clear hx2 HVa HB
 go_wp2_with fail
 go_loopg [17,3,4,5,6,7] vn (fun gg v17 v3 v4 v5 v6 v7 wr=>∃ (k:Nat) (v:Value),k<=vn/\gg=vn - k/\v17=.int .i64 k/\v=v3/\SRow wr w2.heap.size v (varsT p k)/\XF w2 wr)
 case atStart=>exact ⟨0,_,Nat.zero_le _,rfl,rfl,rfl,World.ownsRow_nil _ _ _ 1,Ext.refl _ _⟩
 case round =>
  clear p0 p1
  obtain ⟨i,v,hi,rfl,rfl,rfl,hs,hx⟩:=hrel
  have HM0:=bH (bI hs hx)
  clear hs hx
  by_cases hin:i<vn
  ·have i0:(i:Int)<(vn:Int):=by omega
   have i1:(0:Int)<=(i:Int):=by omega
   have hVs:Vrs wr (.slice vo vn vc) p.vars:=by
    obtain ⟨vv,rv,e,h,h2⟩:=HP.out.1.keep HM0.out.2
    cases e
    exact h
   obtain ⟨b,off,rfl,-,e0,e1,e2,e3,e4,hok⟩:=hVs.atp i (by rw [HLn.out.1]; exact hin)
   clear hVs
   obtain ⟨x,hxv⟩:∃ x,p.v i=x:=⟨_,rfl⟩
   have HNx:=bH (varsT_next p i)
   rw [hxv] at e0 e1 e2 e3 e4 hok HNx
   clear hxv
   obtain ⟨lo,up,op,ig,co⟩:=x
   dsimp only at e0 e1 e2 e3 e4
   have HOk:=bH hok
   obtain ⟨h1,h2,h3⟩:=hok
   dsimp only at h1 h2 h3
   have hxa:=(Ext.refl (fun _=>False) wr).alloc (.cells #[.int .i64 lo,.int .i64 up,.bool op,.bool ig,.int .i64 co] 57)
   have HA0:=bH (bI (blk_alloc_at wr (.cells #[.int .i64 lo,.int .i64 up,.bool op,.bool ig,.int .i64 co] 57)) (bI (HM0.out.1.keep hxa) (bI (HM0.out.2.trans hxa) (fun k hk=>Nat.ne_of_lt (World.ownsRow.lt HM0.out.1 k hk).2:∀ k,v.ownBlock=some k->k≠wr.heap.size))))
   clear hxa
   go_upto_region 7 with fail
   generalize wr.alloc (.cells #[.int .i64 lo,.int .i64 up,.bool op,.bool ig,.int .i64 co] 57)=w4 at *
   generalize wr.heap.size=xb at *
   clear e0 e1 e2 e3 e4
   have e1:=cellq HA0.out.1 1 rfl
   have hs1:=numT_size h2
   have hq1:¬ 9223372036854775807<(numT up).size+1:=by omega
   have HNu:=bH (number_any w4 up h2 (HTb.out _ (HP.out.2.2.trans HA0.out.2.2.1)))
   go_upto_if 27 with (go_at_call 49; refine HNu.out.mono ?_; rintro q5 w5 ⟨rfl,hx5⟩; have e2:=cell_keep (cellq HA0.out.1 2 rfl) hx5)
   have HA:=bH (bI (blk_keep HA0.out.1 hx5) (bI (HA0.out.2.1.keep hx5) (bI (HA0.out.2.2.1.trans hx5) HA0.out.2.2.2)))
   clear hx5 HA0 e1 e2 HNu hq1 hs1 HM0
   have e3:=cellq HA.out.1 3 rfl
   go_cut [6] (fun v6 wx=>v6=.string (upT ⟨lo,up,op,ig,co⟩)/\wx=w5)
   case first =>
    cases op
    ·go_wp2
     go_meet
     exact ⟨rfl,rfl⟩
    ·go_wp2
     go_meet
     exact ⟨rfl,rfl⟩
   case rest =>
   obtain ⟨rfl,rfl⟩:=hcut
   go_upto_if 29 with fail
   go_cut [7] (fun v7 wx=>v7=.string (kindT ⟨lo,up,op,ig,co⟩)/\wx=wc)
   case first =>
    cases ig
    ·go_wp2
     go_meet
     exact ⟨rfl,rfl⟩
    ·go_wp2
     go_meet
     exact ⟨rfl,rfl⟩
   case rest =>
   obtain ⟨rfl,rfl⟩:=hcut
   have hu1:=upT_size (v:=⟨lo,up,op,ig,co⟩) h2
   have hk1:=kindT_size ⟨lo,up,op,ig,co⟩
   obtain ⟨us,hus⟩:∃ s,upT ⟨lo,up,op,ig,co⟩=s:=⟨_,rfl⟩
   obtain ⟨ks,hks⟩:∃ s,kindT ⟨lo,up,op,ig,co⟩=s:=⟨_,rfl⟩
   have HU:=bH (show varT i ⟨lo,up,op,ig,co⟩=⟨#[120]⟩++numT i++⟨#[32,105,110,32,91]⟩++numT lo++⟨#[44,32]⟩++us++⟨#[32]⟩++ks++⟨#[32,99,111,115,116,32]⟩++numT co from by unfold varT; rw [hus,hks])
   rw [hus] at hu1 ⊢
   rw [hks] at hk1 ⊢
   clear hus hks e3
   have hi1:InR (i:Int):=by unfold InR; omega
   have ha1:=numT_size hi1
   have ha2:=numT_size h1
   have ha3:=numT_size h3
   have hz0:¬ 9223372036854775807<1+(numT i).size:=by omega
   have hz1:¬ 9223372036854775807<1+(numT i).size+5:=by omega
   have hz2:¬ 9223372036854775807<1+(numT i).size+5+(numT lo).size:=by omega
   have hz3:¬ 9223372036854775807<1+(numT i).size+5+(numT lo).size+2:=by omega
   have hz4:¬ 9223372036854775807<1+(numT i).size+5+(numT lo).size+2+us.size:=by omega
   have hz5:¬ 9223372036854775807<1+(numT i).size+5+(numT lo).size+2+us.size+1:=by omega
   have hz6:¬ 9223372036854775807<1+(numT i).size+5+(numT lo).size+2+us.size+1+ks.size:=by omega
   have hz7:¬ 9223372036854775807<1+(numT i).size+5+(numT lo).size+2+us.size+1+ks.size+6:=by omega
   have hz8:¬ 9223372036854775807<1+(numT i).size+5+(numT lo).size+2+us.size+1+ks.size+6+(numT co).size:=by omega
   clear ha1 ha2 ha3 hu1 hk1
   have HLo:=bH (fun k (hk:v.ownBlock=some k)=>(World.ownsRow.lt HA.out.2.1 k hk).1)
   have HEx:=bH (fun W (hW:Ext (fun k=>v.ownBlock=some k) wc W)=>(HA.out.2.2.1.own hW (fun k hk=>HLo.out k hk):XF w2 W))
   have HI1:=bH (fun W (hW:Ext (fun k=>v.ownBlock=some k) wc W)=>itoa_any W i hi1 (HTb.out _ (HP.out.2.2.trans (HEx.out W hW))))
   have HN1:=bH (fun W (hW:Ext (fun k=>v.ownBlock=some k) wc W)=>number_any W lo h1 (HTb.out _ (HP.out.2.2.trans (HEx.out W hW))))
   have HN2:=bH (fun W (hW:Ext (fun k=>v.ownBlock=some k) wc W)=>number_any W co h3 (HTb.out _ (HP.out.2.2.trans (HEx.out W hW))))
   have HLw:=bH HA.out.2.2.1.size
   have HLl:=bH (show (varsT p i).length<=100000 from by rw [varsT_len]; omega)
   have e0:=cqo (S:=fun k=>v.ownBlock=some k) (cellq HA.out.1 0 rfl) (fun e=>HA.out.2.2.2 _ e rfl)
   have e4:=cqo (S:=fun k=>v.ownBlock=some k) (cellq HA.out.1 4 rfl) (fun e=>HA.out.2.2.2 _ e rfl)
   have hs0:=HA.out.2.1.keep ((Ext.refl (fun _=>False) wc).drew)
   clear h1 h2 h3 hi1
   go_upto_region 12 with fail
   refine wp_region_held_drew (S:=(Ext (fun k=>v.ownBlock=some k) wc)) (by kernel_rfl) ((Ext.refl _ wc).drew) (fun hHeld=>?_)
   refine ht 0 (h:=(ht 1 (h:=(ht 5 (h:=(ht 6 (h:=(ht 10 (h:=(ht 13 (h:=(ht 16 (h:=(ht 17 (h:=?_)))))))))))))))
   (try go_frame)
   refine hst 2 (h:=fun K hK=>?_)
   (go_simp; go_at_call 50; (with_reducible refine (HI1.out _ hHeld).mono ?_); rintro q1 w11 ⟨rfl,hx1⟩; have hX1:=hHeld.trans (ext_any hx1 _); have hs1:=hs0.keep hx1)
   refine hK.out _ _ (hX1) (fun hHeld=>?_)
   clear hK K
   (try go_frame)
   refine ht 3 (h:=(ht 4 (h:=?_)))
   (try go_frame)
   refine hst 7 (h:=fun K hK=>?_)
   (go_simp; go_at_call 49; (with_reducible refine (HN1.out _ hX1).mono ?_); rintro q2 w12 ⟨rfl,hx2⟩; have hX2:=hX1.trans (ext_any hx2 _); have hs2:=hs1.keep hx2)
   refine hK.out _ _ (hX2) (fun hHeld=>?_)
   clear hK K
   (try go_frame)
   refine ht 8 (h:=(ht 9 (h:=(ht 11 (h:=(ht 12 (h:=(ht 14 (h:=(ht 15 (h:=?_)))))))))))
   (try go_frame)
   refine hst 18 (h:=fun K hK=>?_)
   (go_simp; go_at_call 49; (with_reducible refine (HN2.out _ hX2).mono ?_); rintro q3 w13 ⟨rfl,hx3⟩; have hX3:=hX2.trans (ext_any hx3 _); have hs3:=hs2.keep hx3)
   refine hK.out _ _ (hX3) (fun hHeld=>?_)
   clear hK K
   (try go_frame)
   refine ht 19 (h:=?_)
   (try go_frame)
   refine hst 20 (h:=fun K hK=>?_)
   (go_simp; obtain ⟨S,hS⟩:∃ S,⟨#[120]⟩++numT i++⟨#[32,105,110,32,91]⟩++numT lo++⟨#[44,32]⟩++us++⟨#[32]⟩++ks++⟨#[32,99,111,115,116,32]⟩++numT co=S:=⟨_,rfl⟩; rw [hS]; have HSx:=bH hS; clear hS; have hxa:=(Ext.refl (fun _=>False) w13).alloc (.cells #[.string S] 9); have HAl:=bH (blk_alloc_at w13 (.cells #[.string S] 9)); have HS:=bH (hs3.keep hxa); have hXa:=hX3.trans (ext_any hxa _); have HLs:=bH hXa.size; have HLe:=bH (show w2.heap.size<=(w13.alloc (.cells #[.string S] 9)).heap.size from Nat.le_trans HLw.out hXa.size); clear hxa)
   refine hK.out _ _ (hXa) (fun hHeld=>?_)
   clear hK K
   (try go_frame)
   refine hst 21 (h:=fun K hK=>?_)
   refine step_appS rfl (.tmp 30) (.tmp 50) rfl w2.heap.size v (varsT p i) rfl HS.out S rfl (cellq HAl.out 0 rfl) HLl.out HLe.out (fun v9 w9 hs9 hx9 hl9=>?_); have hxo:=hXa.trans hx9; have HN:=bH (bI hs9 (bI hxo hl9))
   refine hK.out _ _ (hxo) (fun hHeld=>?_)
   clear hK K
   (try go_frame)
   refine ht 22 (h:=?_)
   (try go_frame)
   refine wpAnyH_done (by kernel_rfl) ?_ _
   have HF:=bH (HEx.out _ HN.out.2.1)
   go_wp2
   go_roundg (vn - (i+1))
   case measure=>omega
   case rel=>exact ⟨i+1,_,by omega,rfl,by go_num,rfl,by rw [HNx.out,HU.out,HSx.out]; exact HN.out.1,HF.out⟩
  ·obtain rfl:vn=i:=by omega
   obtain ⟨wo,rfl⟩:∃ x,x=wr:=⟨_,rfl⟩
   have hxs:=(Ext.refl (fun _=>False) wo).alloc (.cells #[.string ⟨#[60,61]⟩,.string ⟨#[62,61]⟩,.string ⟨#[61]⟩] 9)
   have HS0:=bH (bI (blk_alloc_at wo (.cells #[.string ⟨#[60,61]⟩,.string ⟨#[62,61]⟩,.string ⟨#[61]⟩] 9)) (bI (HM0.out.1.keep hxs) (bI (HM0.out.2.trans hxs) (fun k hk=>Nat.ne_of_lt (World.ownsRow.lt HM0.out.1 k hk).2:∀ k,v.ownBlock=some k->k≠wo.heap.size))))
   clear hxs
   go_upto_region 15 with fail
   generalize wo.alloc (.cells #[.string ⟨#[60,61]⟩,.string ⟨#[62,61]⟩,.string ⟨#[61]⟩] 9)=w3 at *
   generalize wo.heap.size=sb at *
   have p0:=cellq (blk_keep HP.out.2.1 HS0.out.2.2.1) 0 rfl
   have p1:=cellq (blk_keep HP.out.2.1 HS0.out.2.2.1) 1 rfl
   go_wp2_with fail
   go_loopg [57,3,10] rn (fun gg v57 v3 v10 wr=>∃ (k:Nat) (v:Value),k<=rn/\gg=rn - k/\v57=.int .i64 k/\v=v3/\SRow wr w2.heap.size v (varsT p vn++rowsT p k)/\XF w2 wr/\blk wr sb=some (.cells #[.string ⟨#[60,61]⟩,.string ⟨#[62,61]⟩,.string ⟨#[61]⟩] 9 (0,0))/\∀ q,v.ownBlock=some q->q≠sb)
   case atStart=>exact ⟨0,_,Nat.zero_le _,rfl,rfl,rfl,by show SRow w3 _ _ (varsT p vn++[]); rw [List.append_nil]; exact HS0.out.2.1,HS0.out.2.2.1,HS0.out.1,HS0.out.2.2.2⟩
   case round =>
    clear p0 p1 HS0 HM0 v
    obtain ⟨i,v,hi,rfl,rfl,rfl,hs,hx,hsb,hne⟩:=hrel
    have HM0:=bH (bI hs (bI hx (bI hsb hne)))
    clear hs hx hsb hne
    by_cases hin:i<rn
    ·have i0:(i:Int)<(rn:Int):=by omega
     have i1:(0:Int)<=(i:Int):=by omega
     have hRs:Rws wr (.slice ro rn rc) p.rows:=by
      obtain ⟨vv,rv,e,h,h2⟩:=HP.out.1.keep HM0.out.2.1
      cases e
      exact h2
     have hil:i<p.rows.length:=by rw [HLn.out.2]; exact hin
     obtain ⟨b,off,ta,tc,rfl,-,e0,e1,e2,e3,e4,hok,hT⟩:=hRs.atp i hil
     clear hRs
     have hrB:=valid_row HVb.out hil
     have htl:=HTm.out i hil
     obtain ⟨r,hrv⟩:∃ r,p.r i=r:=⟨_,rfl⟩
     have HNx:=bH (rowsT_next p i)
     rw [hrv] at e0 e1 e2 e3 e4 hok HNx hT hrB htl
     clear hrv
     obtain ⟨nm,gr,kd,tms,bd⟩:=r
     dsimp only at e0 e1 e2 e3 e4 hT htl
     obtain ⟨h1,h2,-,h3⟩:=hok
     dsimp only at h1 h2 h3
     unfold rowB at hrB
     simp only [Bool.and_eq_true,decide_eq_true_eq] at hrB
     have hnm:nm.size<=80:=hrB.1.1.1.2
     obtain ⟨k,rfl⟩:∃ k:Nat,kd=k:=⟨kd.toNat,by omega⟩
     have hk2:k<=2:=by omega
     have hcf:∀ t ∈ tms,limB t.coef=true:=fun t ht=>by
      obtain ⟨q,hq,rfl⟩:=List.getElem_of_mem ht
      have:=((termsB_coef hrB.2) q hq)
      rwa [getD_lt hq term0] at this
     have hts1:=termsT_size (fun t ht=>(hT.2 t ht).var) hcf
     have htl2:=htl
     obtain ⟨tl,htl'⟩:∃ n,tms.length=n:=⟨_,rfl⟩
     rw [htl'] at e3 hts1 htl hT
     have HTT:=bH (bI hT (bI htl2 hcf))
     clear htl2
     have hxa:=(Ext.refl (fun _=>False) wr).alloc (.cells #[.string nm,.int .i64 gr,.int .i64 k,.slice ta tl tc,.int .i64 bd] 75)
     have HA:=bH (bI (blk_alloc_at wr (.cells #[.string nm,.int .i64 gr,.int .i64 k,.slice ta tl tc,.int .i64 bd] 75)) (bI (HM0.out.1.keep hxa) (bI (HM0.out.2.1.trans hxa) (bI (fun k hk=>Nat.ne_of_lt (World.ownsRow.lt HM0.out.1 k hk).2:∀ k,v.ownBlock=some k->k≠wr.heap.size) (bI (blk_keep HM0.out.2.2.1 hxa) HM0.out.2.2.2)))))
     have HTk:=bH (HTT.out.1.keep hxa)
     clear hxa hrB hT hcf
     go_upto_region 18 with fail
     generalize wr.alloc (.cells #[.string nm,.int .i64 gr,.int .i64 k,.slice ta tl tc,.int .i64 bd] 75)=w5 at *
     generalize wr.heap.size=xb at *
     clear e0 e1 e2 e3 e4 HM0
     obtain ⟨sg,hsg⟩:∃ s,signT k=s:=⟨_,rfl⟩
     have hg1:sg.size<=2:=by rw [<- hsg]; exact signT_size k
     have hsc:=sb_at HA.out.2.2.2.2.1 hk2
     rw [hsg] at hsc
     obtain ⟨ts,hts⟩:∃ s,termsT tms=s:=⟨_,rfl⟩
     have HU:=bH (show rowT ⟨nm,gr,k,tms,bd⟩=nm++⟨#[32,40]⟩++numT gr++⟨#[41,58,32]⟩++ts++⟨#[32]⟩++sg++⟨#[32]⟩++numT bd from by unfold rowT; rw [hsg,hts])
     rw [hts] at hts1
     have ha1:=numT_size h2
     have ha3:=numT_size h3
     have hz0:¬ 9223372036854775807<nm.size+2:=by omega
     have hz1:¬ 9223372036854775807<nm.size+2+(numT gr).size:=by omega
     have hz2:¬ 9223372036854775807<nm.size+2+(numT gr).size+3:=by omega
     have hz3:¬ 9223372036854775807<nm.size+2+(numT gr).size+3+ts.size:=by omega
     have hz4:¬ 9223372036854775807<nm.size+2+(numT gr).size+3+ts.size+1:=by omega
     have hz5:¬ 9223372036854775807<nm.size+2+(numT gr).size+3+ts.size+1+sg.size:=by omega
     have hz6:¬ 9223372036854775807<nm.size+2+(numT gr).size+3+ts.size+1+sg.size+1:=by omega
     have hz7:¬ 9223372036854775807<nm.size+2+(numT gr).size+3+ts.size+1+sg.size+1+(numT bd).size:=by omega
     clear ha1 ha3 hg1 hnm hts1
     have HLo:=bH (fun k (hk:v.ownBlock=some k)=>(World.ownsRow.lt HA.out.2.1 k hk).1)
     have HEx:=bH (fun W (hW:Ext (fun k=>v.ownBlock=some k) w5 W)=>(HA.out.2.2.1.own hW (fun k hk=>HLo.out k hk):XF w2 W))
     have HI1:=bH (fun W (hW:Ext (fun k=>v.ownBlock=some k) w5 W)=>itoa_any W gr h2 (HTb.out _ (HP.out.2.2.trans (HEx.out W hW))))
     have HN2:=bH (fun W (hW:Ext (fun k=>v.ownBlock=some k) w5 W)=>number_any W bd h3 (HTb.out _ (HP.out.2.2.trans (HEx.out W hW))))
     have HT1:=bH (fun W (hW:Ext (fun k=>v.ownBlock=some k) w5 W) (hx:XF w5.drew W)=>hts ▸ terms_any W (.slice ta tl tc) tms (HTk.out.keep ((Ext.refl (fun _=>False) w5).drew.trans hx)) HTT.out.2.1 HTT.out.2.2 (HTb.out _ (HP.out.2.2.trans (HEx.out W hW))))
     have HLw:=bH HA.out.2.2.1.size
     have HLl:=bH (show (varsT p vn++rowsT p i).length<=100000 from by rw [List.length_append,varsT_len,rowsT_len]; omega)
     have e0:=cqo (S:=fun k=>v.ownBlock=some k) (cellq HA.out.1 0 rfl) (fun e=>HA.out.2.2.2.1 _ e rfl)
     have e1:=cqo (S:=fun k=>v.ownBlock=some k) (cellq HA.out.1 1 rfl) (fun e=>HA.out.2.2.2.1 _ e rfl)
     have e2:=cqo (S:=fun k=>v.ownBlock=some k) (cellq HA.out.1 2 rfl) (fun e=>HA.out.2.2.2.1 _ e rfl)
     have e3:=cqo (S:=fun k=>v.ownBlock=some k) (cellq HA.out.1 3 rfl) (fun e=>HA.out.2.2.2.1 _ e rfl)
     have e4:=cqo (S:=fun k=>v.ownBlock=some k) (cellq HA.out.1 4 rfl) (fun e=>HA.out.2.2.2.1 _ e rfl)
     have e5:=cqo (S:=fun k=>v.ownBlock=some k) hsc (fun e=>HA.out.2.2.2.2.2 _ e rfl)
     simp only [List.getElem_toArray,List.getElem_cons_zero,List.getElem_cons_succ] at e0 e1 e2 e3 e4
     have k3:(k:Int)<3:=by omega
     have k4:(0:Int)<=(k:Int):=by omega
     have HSb:=bH (blk_lt HA.out.2.2.2.2.1)
     have hs0:=HA.out.2.1.keep ((Ext.refl (fun _=>False) w5).drew)
     clear h1 h2 h3 hsg hts hsc
     refine wp_region_held_drew (S:=(Ext (fun k=>v.ownBlock=some k) w5)) (by kernel_rfl) ((Ext.refl _ w5).drew) (fun hHeld=>?_)
     refine ht 0 (h:=(ht 1 (h:=(ht 2 (h:=(ht 3 (h:=(ht 4 (h:=(ht 5 (h:=(ht 9 (h:=(ht 10 (h:=(ht 14 (h:=(ht 15 (h:=(ht 16 (h:=(ht 17 (h:=(ht 18 (h:=(ht 21 (h:=(ht 22 (h:=?_)))))))))))))))))))))))))))))
     (try go_frame)
     refine hst 6 (h:=fun K hK=>?_)
     (go_simp; go_at_call 50; (with_reducible refine (HI1.out _ hHeld).mono ?_); rintro q1 w11 ⟨rfl,hx1⟩; have hX1:=hHeld.trans (ext_any hx1 _); have hs1:=hs0.keep hx1)
     refine hK.out _ _ (hX1) (fun hHeld=>?_)
     clear hK K
     (try go_frame)
     refine ht 7 (h:=(ht 8 (h:=?_)))
     (try go_frame)
     refine hst 11 (h:=fun K hK=>?_)
     (go_simp; go_at_call 51; (with_reducible refine (HT1.out _ hX1 hx1).mono ?_); rintro q2 w12 ⟨rfl,hx2⟩; have hX2:=hX1.trans (ext_any hx2 _); have hs2:=hs1.keep hx2)
     refine hK.out _ _ (hX2) (fun hHeld=>?_)
     clear hK K
     (try go_frame)
     refine ht 12 (h:=(ht 13 (h:=(ht 19 (h:=(ht 20 (h:=?_)))))))
     (try go_frame)
     refine hst 23 (h:=fun K hK=>?_)
     (go_simp; go_at_call 49; (with_reducible refine (HN2.out _ hX2).mono ?_); rintro q3 w13 ⟨rfl,hx3⟩; have hX3:=hX2.trans (ext_any hx3 _); have hs3:=hs2.keep hx3)
     refine hK.out _ _ (hX3) (fun hHeld=>?_)
     clear hK K
     (try go_frame)
     refine ht 24 (h:=?_)
     (try go_frame)
     refine hst 25 (h:=fun K hK=>?_)
     (go_simp; obtain ⟨S,hS⟩:∃ S,nm++⟨#[32,40]⟩++numT gr++⟨#[41,58,32]⟩++ts++⟨#[32]⟩++sg++⟨#[32]⟩++numT bd=S:=⟨_,rfl⟩; rw [hS]; have HSx:=bH hS; clear hS; have hxa:=(Ext.refl (fun _=>False) w13).alloc (.cells #[.string S] 9); have HAl:=bH (blk_alloc_at w13 (.cells #[.string S] 9)); have HS:=bH (hs3.keep hxa); have hXa:=hX3.trans (ext_any hxa _); have HLs:=bH hXa.size; have HLe:=bH (show w2.heap.size<=(w13.alloc (.cells #[.string S] 9)).heap.size from Nat.le_trans HLw.out hXa.size); clear hxa)
     refine hK.out _ _ (hXa) (fun hHeld=>?_)
     clear hK K
     (try go_frame)
     refine hst 26 (h:=fun K hK=>?_)
     refine step_appS rfl (.tmp 61) (.tmp 86) rfl w2.heap.size v (varsT p vn++rowsT p i) rfl HS.out S rfl (cellq HAl.out 0 rfl) HLl.out HLe.out (fun v9 w9 hs9 hx9 hl9=>?_); have hxo:=hXa.trans hx9; have HN:=bH (bI hs9 (bI hxo hl9))
     refine hK.out _ _ (hxo) (fun hHeld=>?_)
     clear hK K
     (try go_frame)
     refine ht 27 (h:=?_)
     (try go_frame)
     refine wpAnyH_done (by kernel_rfl) ?_ _
     have HF:=bH (HEx.out _ HN.out.2.1)
     have HSk:=bH (((ext_any HF.out (fun _=>False)):XF w2 w9))
     have HSc:=bH ((HN.out.2.1.blk (HSb.out) (fun e=>HA.out.2.2.2.2.2 _ e rfl)).trans HA.out.2.2.2.2.1)
     have HNw:=bH (show ∀ q,v9.ownBlock=some q->q≠sb from fun q hq=>by
      rcases HN.out.2.2 with e | e
      ·exact HA.out.2.2.2.2.2 q (by rw [<- e]; exact hq)
      ·rw [e] at hq
       have:=Option.some.inj hq
       have:=HSb.out
       have:=HLs.out
       omega)
     go_wp2
     go_roundg (rn - (i+1))
     case measure=>omega
     case rel=>exact ⟨i+1,_,by omega,rfl,by go_num,rfl,by rw [HNx.out,HU.out,HSx.out,<- List.append_assoc]; exact HN.out.1,HF.out,HSc.out,HNw.out⟩
    ·obtain rfl:rn=i:=by omega
     go_wp2
     go_ret
     exact ⟨_,rfl,by rw [HFm.out]; exact HM0.out.1.strs,HP.out.2.2.trans HM0.out.2.1⟩
theorem Strs.shape {w:World} {v:Value} {l:List ByteArray} (h:Strs w v l):∃ ao c,v=.slice ao l.length c/\l.length<=maxLen:=by
 obtain ⟨ao,c,rfl,h1,h2,_⟩:=h
 rw [List.length_map] at h1 ⊢
 exact ⟨ao,c,rfl,Nat.le_trans h1 h2⟩
theorem Strs.keep {w w':World} {v:Value} {l:List ByteArray} (h:Strs w v l) (hx:XF w w'):Strs w' v l:=Sl.keep h hx
theorem Strs.at_ {w:World} {ao:Option Addr} {n c:Nat} {l:List ByteArray} (h:Strs w (.slice ao n c) l) {i:Nat} (hi:i<l.length):∃ b off,ao=some ⟨b,off,none⟩/\w.cell? ⟨b,off+i,none⟩=some (.string (l.getD i ⟨#[]⟩)):=by
 obtain ⟨b,off,h1,h2,h3⟩:=Sl.at h (i:=i) (r:=cS l[i]) (by rw [List.getElem?_map,List.getElem?_eq_getElem hi]; rfl)
 refine ⟨b,off,h1,?_⟩
 have:=h3 0 _ rfl
 rw [Nat.mul_one,Nat.add_zero] at this
 rw [getD_lt hi]
 exact this
theorem strs_eq {a b:List ByteArray} {n:Nat} (ha:a.length=n) (hb:b.length=n) (h:∀ i,i<n->a.getD i ⟨#[]⟩=b.getD i ⟨#[]⟩):a=b:=by
 refine List.ext_getElem (by omega) fun i h1 h2=>?_
 have:=h i (by omega)
 rwa [getD_lt h1,getD_lt h2] at this
theorem Lines_any (w:World) (av bv:Value) (a b:List ByteArray) (ha:Strs w av a) (hb:Strs w bv b):Calls Tryz.prog 12 #[av,bv] w (BoolPost w (decide (a=b))):=by
 obtain ⟨ao,ac,rfl,ham⟩:=ha.shape
 obtain ⟨bo,bc,rfl,hbm⟩:=hb.shape
 have hmax:maxLen<=9223372036854775807:=by unfold maxLen; decide
 have HA:=bH (bI ha hb)
 clear ha hb
 obtain ⟨n,hn⟩:∃ n,a.length=n:=⟨_,rfl⟩
 obtain ⟨m,hm⟩:∃ m,b.length=m:=⟨_,rfl⟩
 have HN:=bH (bI hn hm)
 rw [hn] at HA ham ⊢
 rw [hm] at HA hbm ⊢
 clear hn hm
 by_cases hnm:n=m
 ·subst hnm
  have n1:(n:Int)<=9223372036854775807:=by omega
  go_enter Tryz.func12,Tryz.ntmps12
  go_upto_region 3 with fail
  go_wp2_with fail
  go_loopg [5] n (fun gg v5 wr=>∃ k:Nat,k<=n/\gg=n - k/\v5=.int .i64 k/\(∀ i,i<k->a.getD i ⟨#[]⟩=b.getD i ⟨#[]⟩)/\XF w wr)
  case atStart=>exact ⟨0,Nat.zero_le _,rfl,rfl,fun i hi=>absurd hi (Nat.not_lt_zero i),Ext.refl _ _⟩
  case round =>
   obtain ⟨k,hk,rfl,rfl,hall,hx⟩:=hrel
   have HAl:=bH (bI hall hx)
   clear hall hx
   by_cases hkn:k<n
   ·have k0:(k:Int)<(n:Int):=by omega
    have k1:(0:Int)<=(k:Int):=by omega
    obtain ⟨b1,o1,rfl,e0⟩:=(HA.out.1.keep HAl.out.2).at_ (i:=k) (by rw [HN.out.1]; exact hkn)
    obtain ⟨b2,o2,rfl,e1⟩:=(HA.out.2.keep HAl.out.2).at_ (i:=k) (by rw [HN.out.2]; exact hkn)
    by_cases he:a.getD k ⟨#[]⟩=b.getD k ⟨#[]⟩
    ·have HE:=bH he
     rw [he] at e0
     clear he
     generalize b.getD k ⟨#[]⟩=s at e0 e1
     have hq:(s.toList == s.toList)=true:=by simp
     go_upto_region 6 with fail
     go_quiet (fail)
     go_wp2
     go_roundg (n - (k+1))
     case measure=>omega
     case rel=>exact ⟨k+1,by omega,rfl,by go_num,fun i hi=>by
      by_cases e:i=k
      ·subst e; exact HE.out
      ·exact HAl.out.1 i (by omega),HAl.out.2.trans (Ext.drewN (Ext.refl _ wr) _)⟩
    ·have HE:=bH he
     obtain ⟨s,hs⟩:∃ s,a.getD k ⟨#[]⟩=s:=⟨_,rfl⟩
     obtain ⟨t,ht⟩:∃ t,b.getD k ⟨#[]⟩=t:=⟨_,rfl⟩
     rw [hs] at e0 he
     rw [ht] at e1 he
     clear hs ht
     have he2:(s.toList == t.toList)=false:=(Lib.bytes_beq_false_iff s t).2 he
     go_upto_region 6 with fail
     go_quiet (fail)
     go_wp2
     go_ret
     exact ⟨ret_bool (by rw [decide_eq_false (fun e=>HE.out (by rw [e]))]),HAl.out.2.trans (Ext.drewN (Ext.refl _ wr) _)⟩
   ·obtain rfl:n=k:=by omega
    go_wp2
    go_ret
    exact ⟨ret_bool (by rw [decide_eq_true (strs_eq HN.out.1 HN.out.2 HAl.out.1)]),HAl.out.2⟩
 ·have h1:¬ ((n:Int)=(m:Int)):=by omega
  have h2:((n:Int) == (m:Int))=false:=by simpa using h1
  have h3:decide ((n:Int)=(m:Int))=false:=by simpa using h1
  have HE:=bH hnm
  clear hnm
  go_enter Tryz.func12,Tryz.ntmps12
  go_wp2
  go_ret
  exact ⟨ret_bool (by rw [decide_eq_false (fun e=>HE.out (by rw [<- HN.out.1,<- HN.out.2,e]))]),Ext.refl _ _⟩
def ex4V:List VarV:=[⟨0,3,false,false,2⟩,⟨1,0,true,false,-1⟩]
def ex4T:List TermV:=[⟨0,1⟩,⟨1,-2⟩]
def ex4R:RowV:=⟨⟨#[114]⟩,4,0,ex4T,-2⟩
def ex4:ProgV:=⟨ex4V,[ex4R]⟩
def ex4X:List Rat:=listTo 2 (qOf [0,1])
theorem example4_any (w:World):Calls Tryz.prog 40 #[] w (PrgPost w ex4):=by
 have hx:=Ext.refl (fun _=>False) w
 go_enter Tryz.func40,Tryz.ntmps40
 go_wp2
 (try simp only [Exit.inBlock,Exit.then])
 obtain ⟨bs,hbs⟩:∃ bs,w.heap.size=bs:=⟨_,rfl⟩
 have hx4:=(((hx.alloc (.cells #[.slice (some ⟨w.heap.size+1,0,none⟩) 2 2,.slice (some ⟨w.heap.size+1+1+1,0,none⟩) 1 1] 25)).alloc (.cells #[.int .i64 0,.int .i64 3,.bool false,.bool false,.int .i64 2,.int .i64 1,.int .i64 0,.bool true,.bool false,.int .i64 (-1)] 57)).alloc (.cells #[.int .i64 0,.int .i64 1,.int .i64 1,.int .i64 (-2)] 99)).alloc (.cells #[.string ⟨#[114]⟩,.int .i64 4,.int .i64 0,.slice (some ⟨w.heap.size+1+1,0,none⟩) 2 2,.int .i64 (-2)] 75)
 obtain ⟨W,hW⟩:∃ W,(((w.alloc (.cells #[.slice (some ⟨w.heap.size+1,0,none⟩) 2 2,.slice (some ⟨w.heap.size+1+1+1,0,none⟩) 1 1] 25)).alloc (.cells #[.int .i64 0,.int .i64 3,.bool false,.bool false,.int .i64 2,.int .i64 1,.int .i64 0,.bool true,.bool false,.int .i64 (-1)] 57)).alloc (.cells #[.int .i64 0,.int .i64 1,.int .i64 1,.int .i64 (-2)] 99)).alloc (.cells #[.string ⟨#[114]⟩,.int .i64 4,.int .i64 0,.slice (some ⟨w.heap.size+1+1,0,none⟩) 2 2,.int .i64 (-2)] 75)=W:=⟨_,rfl⟩
 have b0:blk W w.heap.size=some (.cells #[.slice (some ⟨w.heap.size+1,0,none⟩) 2 2,.slice (some ⟨w.heap.size+1+1+1,0,none⟩) 1 1] 25 (0,0)):=by
  rw [<- hW]
  refine (blk_alloc_past _ _ _ (by simp [World.size_alloc] <;> omega)).trans ((blk_alloc_past _ _ _ (by simp [World.size_alloc] <;> omega)).trans ((blk_alloc_past _ _ _ (by simp)).trans (blk_alloc_at _ _)))
 have b1:blk W (w.heap.size+1)=some (.cells #[.int .i64 0,.int .i64 3,.bool false,.bool false,.int .i64 2,.int .i64 1,.int .i64 0,.bool true,.bool false,.int .i64 (-1)] 57 (0,0)):=by
  rw [<- hW]
  refine (blk_alloc_past _ _ _ (by simp [World.size_alloc] <;> omega)).trans ((blk_alloc_past _ _ _ (by simp [World.size_alloc] <;> omega)).trans (blk_alloc_at' _ _ _ (by simp [World.size_alloc])))
 have b2:blk W (w.heap.size+1+1)=some (.cells #[.int .i64 0,.int .i64 1,.int .i64 1,.int .i64 (-2)] 99 (0,0)):=by
  rw [<- hW]
  refine (blk_alloc_past _ _ _ (by simp [World.size_alloc] <;> omega)).trans (blk_alloc_at' _ _ _ (by simp [World.size_alloc]))
 have b3:blk W (w.heap.size+1+1+1)=some (.cells #[.string ⟨#[114]⟩,.int .i64 4,.int .i64 0,.slice (some ⟨w.heap.size+1+1,0,none⟩) 2 2,.int .i64 (-2)] 75 (0,0)):=by
  rw [<- hW]
  exact blk_alloc_at' _ _ _ (by simp [World.size_alloc])
 rw [hW] at hx4 ⊢
 have hs:w.heap.size+1+1+1<W.heap.size:=blk_lt b3
 clear hW
 rw [hbs] at b0 b1 b2 b3 hs ⊢
 refine bodyPost_ret (results_cell_row rfl _ W bs 25 _ (0,0) _ rfl b0 Tryz.underlying25 rfl (by kernel_rfl)) rfl ?_
 refine ⟨_,rfl,⟨_,_,rfl,⟨⟨_,_,rfl,Nat.le_refl _,(by unfold maxLen; decide),(fun e=>by cases e),fun _=>⟨bs+1,0,rfl,by omega,?_⟩⟩,?_⟩,⟨[.slice (some ⟨bs+1+1,0,none⟩) 2 2],rfl,⟨_,_,rfl,Nat.le_refl _,(by unfold maxLen; decide),(fun e=>by cases e),fun _=>⟨bs+1+1+1,0,rfl,by omega,?_⟩⟩,?_⟩⟩,hx4⟩
 ·intro i r hi j u hu
  match i,hi with
  | 0,hi=>cases hi; match j,hu with
   | 0,hu=>cases hu; exact cellq b1 0 rfl
   | 1,hu=>cases hu; exact cellq b1 1 rfl
   | 2,hu=>cases hu; exact cellq b1 2 rfl
   | 3,hu=>cases hu; exact cellq b1 3 rfl
   | 4,hu=>cases hu; exact cellq b1 4 rfl
  | 1,hi=>cases hi; match j,hu with
   | 0,hu=>cases hu; exact cellq b1 5 rfl
   | 1,hu=>cases hu; exact cellq b1 6 rfl
   | 2,hu=>cases hu; exact cellq b1 7 rfl
   | 3,hu=>cases hu; exact cellq b1 8 rfl
   | 4,hu=>cases hu; exact cellq b1 9 rfl
 ·intro x hx
  simp [ex4,ex4V] at hx
  rcases hx with rfl | rfl <;> exact ⟨by unfold InR; decide,by unfold InR; decide,by unfold InR; decide⟩
 ·intro i r hi j u hu
  match i,hi with
  | 0,hi=>cases hi; match j,hu with
   | 0,hu=>cases hu; exact cellq b3 0 rfl
   | 1,hu=>cases hu; exact cellq b3 1 rfl
   | 2,hu=>cases hu; exact cellq b3 2 rfl
   | 3,hu=>cases hu; exact cellq b3 3 rfl
   | 4,hu=>cases hu; exact cellq b3 4 rfl
 ·intro i r tv hr ht
  match i,hr,ht with
  | 0,hr,ht =>
   cases hr; cases ht
   refine ⟨⟨⟨_,_,rfl,Nat.le_refl _,(by unfold maxLen; decide),(fun e=>by cases e),fun _=>⟨bs+1+1,0,rfl,by omega,?_⟩⟩,?_⟩,⟨(by show (1:Nat)<=maxLen; unfold maxLen; decide),by unfold InR; decide,by unfold InR; decide,by unfold InR; decide⟩⟩
   ·intro i r hi j u hu
    match i,hi with
    | 0,hi=>cases hi; match j,hu with
     | 0,hu=>cases hu; exact cellq b2 0 rfl
     | 1,hu=>cases hu; exact cellq b2 1 rfl
    | 1,hi=>cases hi; match j,hu with
     | 0,hu=>cases hu; exact cellq b2 2 rfl
     | 1,hu=>cases hu; exact cellq b2 3 rfl
   ·intro x hx
    have hx:x ∈ ex4T:=hx; simp [ex4T] at hx
    rcases hx with rfl | rfl <;> exact ⟨by unfold InR; decide,by unfold InR; decide⟩
theorem numT_1 {k:Nat} (h:k<10):numT k=⟨#[UInt8.ofNat (48+k)]⟩:=by
 unfold numT
 rw [Lib.itoa_nonneg,Lib.decDigits_one h]
theorem numT_m {k:Nat} (h:k<10) (h1:1<=k):numT (-(k:Int))=⟨#[45,UInt8.ofNat (48+k)]⟩:=by
 unfold numT
 rw [Lib.itoa_neg k h1,Lib.decDigits_one h]
theorem ex4_valid:validB ex4=true:=by decide +kernel
theorem ex4_viol:violQ ex4 ex4X=[]:=by decide +kernel
theorem ex4_in:insideB ex4 ex4X=true:=by decide +kernel
theorem ex4_dot:dotQ ex4T ex4X=((-2:Int):Rat):=by decide +kernel
def ex4L:List ByteArray:=[⟨#[120,48,32,105,110,32,91,48,44,32,51,93,32,114,101,97,108,32,99,111,115,116,32,50]⟩,⟨#[120,49,32,105,110,32,91,49,44,32,111,112,101,110,41,32,114,101,97,108,32,99,111,115,116,32,45,49]⟩,⟨#[114,32,40,52,41,58,32,120,48,32,45,32,50,32,120,49,32,60,61,32,45,50]⟩]
theorem ex4_fmt:fmtT ex4=ex4L:=by
 have n0:=numT_1 (k:=0) (by decide)
 have n1:=numT_1 (k:=1) (by decide)
 have n2:=numT_1 (k:=2) (by decide)
 have n3:=numT_1 (k:=3) (by decide)
 have n4:=numT_1 (k:=4) (by decide)
 have m1:=numT_m (k:=1) (by decide) (by decide)
 have m2:=numT_m (k:=2) (by decide) (by decide)
 have v0:varT 0 ⟨0,3,false,false,2⟩=ex4L.getD 0 ⟨#[]⟩:=by
  show ⟨#[120]⟩++numT (0:Nat)++⟨#[32,105,110,32,91]⟩++numT (0:Nat)++⟨#[44,32]⟩++(numT (3:Nat)++⟨#[93]⟩)++⟨#[32]⟩++⟨#[114,101,97,108]⟩++⟨#[32,99,111,115,116,32]⟩++numT (2:Nat)=_
  rw [n0,n3,n2]
  decide +kernel
 have v1:varT 1 ⟨1,0,true,false,-1⟩=ex4L.getD 1 ⟨#[]⟩:=by
  show ⟨#[120]⟩++numT (1:Nat)++⟨#[32,105,110,32,91]⟩++numT (1:Nat)++⟨#[44,32]⟩++⟨#[111,112,101,110,41]⟩++⟨#[32]⟩++⟨#[114,101,97,108]⟩++⟨#[32,99,111,115,116,32]⟩++numT (-((1:Nat):Int))=_
  rw [n1,m1]
  decide +kernel
 have t0:termT 0 ⟨0,1⟩=⟨#[120,48]⟩:=by
  show ⟨#[120]⟩++numT (0:Nat)=_
  rw [n0]
  decide +kernel
 have t1:termT 1 ⟨1,-2⟩=⟨#[45,32,50,32,120,49]⟩:=by
  show ⟨#[45,32]⟩++(numT (2:Nat)++⟨#[32]⟩++(⟨#[120]⟩++numT (1:Nat)))=_
  rw [n2,n1]
  decide +kernel
 have tt:termsT ex4T=⟨#[120,48,32,45,32,50,32,120,49]⟩:=by
  have hp:partsT ex4T ex4T.length=[termT 0 ⟨0,1⟩,termT 1 ⟨1,-2⟩]:=rfl
  unfold termsT
  rw [if_neg (by unfold ex4T; simp),hp,t0,t1]
  decide +kernel
 have r0:rowT ex4R=ex4L.getD 2 ⟨#[]⟩:=by
  show (⟨#[114]⟩:ByteArray)++⟨#[32,40]⟩++numT (4:Nat)++⟨#[41,58,32]⟩++termsT ex4T++⟨#[32]⟩++⟨#[60,61]⟩++⟨#[32]⟩++numT (-((2:Nat):Int))=_
  rw [n4,tt,m2]
  decide +kernel
 have e:fmtT ex4=[varT 0 ⟨0,3,false,false,2⟩,varT 1 ⟨1,0,true,false,-1⟩,rowT ex4R]:=by
  unfold fmtT
  rw [ex4_valid]
  rfl
 rw [e,v0,v1,r0]
 rfl
theorem ex4L_strs {w:World} {b:Nat} (h:blk w b=some (.cells #[.string (ex4L.getD 0 ⟨#[]⟩),.string (ex4L.getD 1 ⟨#[]⟩),.string (ex4L.getD 2 ⟨#[]⟩)] 9 (0,0))):Strs w (.slice (some ⟨b,0,none⟩) 3 3) ex4L:=by
 refine ⟨some ⟨b,0,none⟩,3,rfl,Nat.le_refl _,by unfold maxLen; decide,(fun e=>by cases e),fun _=>⟨b,0,rfl,blk_lt h,fun i r hi j u hu=>?_⟩⟩
 match i,hi with
 | 0,hi=>cases hi; match j,hu with
  | 0,hu=>cases hu; exact cellq h 0 rfl
 | 1,hi=>cases hi; match j,hu with
  | 0,hu=>cases hu; exact cellq h 1 rfl
 | 2,hi=>cases hi; match j,hu with
  | 0,hu=>cases hu; exact cellq h 2 rfl
theorem awake4_any (w:World) (ht:Tab10 w):Calls Tryz.prog 8 #[] w (BoolPost w true):=by
 have HTb:=bH (fun W (hW:XF w W)=>ht.keep hW)
 clear ht
 have HEx:=bH (fun W=>example4_any W)
 have hIx:∀ x ∈ [(0:Int),1],InR x:=fun x hx=>by
  simp at hx
  rcases hx with rfl | rfl <;> exact ⟨by decide,by decide⟩
 have HIn:=bH (fun W b (hc:∀ i,i<2->W.cell? ⟨b,i,none⟩=some (.int .i64 ([(0:Int),1].getD i 0)))=>show Calls Tryz.prog 41 #[.slice (some ⟨b,0,none⟩) 2 2] W (RatsPost W ex4X 2) from Ints_any W b 2 [0,1] 2 hc hIx (by decide) (by decide))
 clear hIx
 go_enter Tryz.func8,Tryz.ntmps8
 go_upto_region 2 with (go_at_call 40; refine (HEx.out _).mono ?_; rintro q1 w1 ⟨v1,rfl,hp1,hx1⟩; obtain ⟨vo,vn,vc,ro,rn,rc,rfl⟩:=hp1.slices5)
 have hlen:vn=2/\rn=1:=by
  obtain ⟨vv,rv,e,h,h2⟩:=hp1
  cases e
  obtain ⟨_,_,e,_⟩:=h.shape
  obtain ⟨_,_,e2,_⟩:=h2.shape
  cases e; cases e2
  exact ⟨rfl,rfl⟩
 obtain ⟨rfl,rfl⟩:=hlen
 have hxa:=(Ext.refl (fun _=>False) w1).alloc (.cells #[.slice vo 2 vc,.slice ro 1 rc] 25)
 have HP:=bH (bI (hp1.keep hxa) (bI (blk_alloc_at w1 (.cells #[.slice vo 2 vc,.slice ro 1 rc] 25)) (hx1.trans hxa)))
 clear hp1 hx1 hxa
 generalize w1.alloc (.cells #[.slice vo 2 vc,.slice ro 1 rc] 25)=w2 at *
 generalize w1.heap.size=pb at *
 have hxb:=(Ext.refl (fun _=>False) w2).alloc (.cells #[.int .i64 0,.int .i64 1] 2)
 have HI2:=bH (HIn.out (w2.alloc (.cells #[.int .i64 0,.int .i64 1] 2)) w2.heap.size (fun i hi=>by
  match i,hi with
  | 0,_=>exact cellq (blk_alloc_at w2 (.cells #[.int .i64 0,.int .i64 1] 2)) 0 rfl
  | 1,_=>exact cellq (blk_alloc_at w2 (.cells #[.int .i64 0,.int .i64 1] 2)) 1 rfl))
 go_upto_region 3 with (go_at_call 41; refine HI2.out.mono ?_; rintro q3 w3 ⟨v3,rfl,hr3,hx3⟩; obtain ⟨xo,xc,rfl,-⟩:=hr3.shape)
 have HX:=bH (bI (HP.out.1.keep (hxb.trans hx3)) (bI (blk_keep HP.out.2.1 (hxb.trans hx3)) (bI (HP.out.2.2.trans (hxb.trans hx3)) hr3)))
 clear hxb hx3 hr3 HI2 HP HIn HEx
 rw [show ex4X.length=2 from rfl] at HX ⊢
 have HVa:=bH (fun W (hW:XF w3 W)=>show Calls Tryz.prog 10 #[.agg #[.slice vo 2 vc,.slice ro 1 rc]] W (BoolPost W true) from ex4_valid ▸ Valid_any W _ ex4 (HX.out.1.keep hW))
 have HVi:=bH (fun W (hW:XF w3 W)=>Violated_any W _ _ ex4 ex4X 2 2 (HX.out.1.keep hW) (HX.out.2.2.2.keep hW) (by decide) (fun i hi=>by
  match i,hi with
  | 0,_=>decide) (by decide) (by decide))
 rw [ex4_viol] at HVi
 have HIs:=bH (fun W (hW:XF w3 W)=>show Calls Tryz.prog 16 #[.agg #[.slice vo 2 vc,.slice ro 1 rc],.slice xo 2 xc] W (BoolPost W true) from ex4_in ▸ Inside_any W _ _ ex4 ex4X 2 (HX.out.1.keep hW) (HX.out.2.2.2.keep hW) (by decide) (by decide))
 have HFm:=bH (fun W (hW:XF w3 W)=>show Calls Tryz.prog 13 #[.agg #[.slice vo 2 vc,.slice ro 1 rc]] W (StrsPost W ex4L) from ex4_fmt ▸ Format_any W _ ex4 (HX.out.1.keep hW) (HTb.out W (HX.out.2.2.1.trans hW)) (fun i hi=>by
  match i,hi with
  | 0,_=>decide))
 have HFr:=bH (fun W=>Rrfrom_any W (-2) (by decide) (by decide))
 have hRw:Rws w3 (.slice ro 1 rc) ex4.rows:=by
  obtain ⟨vv,rv,e,h,h2⟩:=HX.out.1
  cases e
  exact h2
 obtain ⟨b,off,ta,tc,rfl,hlt,e0,e1,e2,e3,e4,hok,hT⟩:=hRw.atp (p:=ex4) 0 (by decide)
 have hT2:Tms w3 (.slice ta 2 tc) ex4T:=hT
 have HDo:=bH (fun W (hW:XF w3 W)=>show Calls Tryz.prog 42 #[.slice ta 2 tc,.slice xo 2 xc] W (RatPost W ((-2:Int):Rat)) from ex4_dot ▸ Dot_any W _ _ ex4T ex4X 2 (hT2.keep hW) (HX.out.2.2.2.keep hW) (by decide) (by decide))
 have HSm:=bH (fun W u v (hu:IsRat W u ((-2:Int):Rat)) (hv:IsRat W v ((-2:Int):Rat))=>show Calls Tryz.prog 29 #[u,v] W (BoolPost W true) from by
  have h:=Rrsame_any W u v _ _ 2 hu hv (Sz.int (k:=-2) ⟨by decide,by decide⟩) (Sz.int (k:=-2) ⟨by decide,by decide⟩) (by decide)
  rw [decide_eq_true rfl] at h
  exact h)
 have HLi:=bH (fun W u b (hu:Strs W u ex4L) (hv:blk W b=some (.cells #[.string (ex4L.getD 0 ⟨#[]⟩),.string (ex4L.getD 1 ⟨#[]⟩),.string (ex4L.getD 2 ⟨#[]⟩)] 9 (0,0)))=>show Calls Tryz.prog 12 #[u,.slice (some ⟨b,0,none⟩) 3 3] W (BoolPost W true) from by
  have h:=Lines_any W u _ ex4L ex4L hu (ex4L_strs hv)
  rw [decide_eq_true rfl] at h
  exact h)
 have r3:w3.cell? ⟨b,off+3,none⟩=some (.slice ta 2 tc):=by have h:=e3; rw [show off+0*5+3=off+3 by omega] at h; exact h
 have p0:=cellq HX.out.2.1 0 rfl
 have p1:=cellq HX.out.2.1 1 rfl
 clear e0 e1 e2 e3 e4 hok hT hT2 hRw hlt
 go_wp2_with (first | (go_at_call 10; refine (HVa.out _ (Ext.refl _ _)).mono ?_; rintro q4 w4 ⟨rfl,hx4⟩; replace p0:=cell_keep p0 hx4; replace p1:=cell_keep p1 hx4; replace r3:=cell_keep r3 hx4) | (go_at_call 17; refine (HVi.out _ hx4).mono ?_; rintro q5 w5 ⟨v5,rfl,hn5,hx5⟩; obtain ⟨qo,qc,rfl⟩:=hn5.shape; have hX5:=hx4.trans hx5; replace p0:=cell_keep p0 hx5; replace p1:=cell_keep p1 hx5; replace r3:=cell_keep r3 hx5) | (go_at_call 16; refine (HIs.out _ hX5).mono ?_; rintro q6 w6 ⟨rfl,hx6⟩; have hX6:=hX5.trans hx6; replace p0:=cell_keep p0 hx6; replace p1:=cell_keep p1 hx6; replace r3:=cell_keep r3 hx6) | (go_at_call 42; refine (HDo.out _ hX6).mono ?_; rintro q7 w7 ⟨v7,rfl,h7,hx7⟩; obtain ⟨n7,a7,l7,c7,a7',l7',c7',rfl⟩:=h7.shape; have hX7:=hX6.trans hx7; replace p0:=cell_keep p0 hx7; replace p1:=cell_keep p1 hx7; replace r3:=cell_keep r3 hx7) | (go_at_call 20; refine (HFr.out _).mono ?_; rintro q8 w8 ⟨v8,rfl,h8,hx8⟩; obtain ⟨n8,a8,l8,c8,a8',l8',c8',rfl⟩:=h8.shape; have hX8:=hX7.trans hx8; replace p0:=cell_keep p0 hx8; replace p1:=cell_keep p1 hx8; replace r3:=cell_keep r3 hx8) | (go_at_call 29; refine (HSm.out _ _ _ (h7.keep hx8) h8).mono ?_; rintro q9 w9 ⟨rfl,hx9⟩; have hX9:=hX8.trans hx9; replace p0:=cell_keep p0 hx9; replace p1:=cell_keep p1 hx9; replace r3:=cell_keep r3 hx9) | (go_at_call 13; refine (HFm.out _ hX9).mono ?_; rintro q10 w10 ⟨v10,rfl,hs10,hx10⟩; obtain ⟨fo,fc,rfl,-⟩:=hs10.shape; have hX10:=hX9.trans hx10) | (go_at_call 12; refine (HLi.out _ _ _ (hs10.keep ((Ext.refl (fun _=>False) w10).alloc _)) (blk_alloc_at w10 _)).mono ?_; rintro q11 w11 ⟨rfl,hx11⟩))
 go_ret
 exact ⟨rfl,HX.out.2.2.1.trans ((hX10.trans ((Ext.refl (fun _=>False) w10).alloc _)).trans hx11)⟩
theorem few_parts6 {p:ProgV} (h:fewP p 6 6=true):(∀ i,i<p.rows.length->(p.r i).terms.length<=12)/\p.vars.length<=6/\p.rows.length<=6:=by
 unfold fewP at h
 simp only [Bool.and_eq_true,decide_eq_true_eq,List.all_eq_true] at h
 refine ⟨fun i hi=>?_,h.1.2,h.2⟩
 have hm:p.r i ∈ p.rows:=by
  unfold ProgV.r
  rw [getD_lt hi]; exact List.getElem_mem hi
 have:=h.1.1 _ hm
 unfold fewRow at this
 simp only [Bool.and_eq_true,decide_eq_true_eq] at this
 omega
def natT (n:Nat):ByteArray:=⟨(Lib.decDigits n).toArray⟩
def decL (n:Nat):List UInt8:=if n=0 then [] else Lib.decDigits n
theorem decL_next {n:Nat} (h:¬ n=0):decL n=decL (n / 10)++[UInt8.ofNat (48+n % 10)]:=by
 unfold decL
 rw [if_neg h]
 by_cases h10:n<10
 ·rw [Lib.decDigits_one h10,if_pos (by omega),Nat.mod_eq_of_lt h10]; rfl
 ·rw [if_neg (by omega),Lib.decDigits,dif_neg h10]
theorem decL_pos {n:Nat} (h:¬ n=0):decL n=Lib.decDigits n:=if_neg h
theorem decL_len {n:Nat}:(decL n).length<=(Lib.decDigits n).length:=by
 unfold decL
 split
 ·simp
 ·exact Nat.le_refl _
theorem ten_rds (w:World):Rds (w.alloc (.cells #[.int .u32 10] 121)) (.slice (some ⟨w.heap.size,0,none⟩) 1 1) [10]:=by
 refine ⟨Dig.cons (by omega) Dig.nil,_,1,rfl,Nat.le_refl _,by unfold maxLen; omega,fun h=>(by cases h),fun _=>⟨_,0,rfl,by simp,fun i d hi=>?_⟩⟩
 have:=cells_new (w:=w) [.int .u32 10] 121 rfl i (dv d) (by
  match i,hi with
  | 0,hi=>simp at hi ⊢; subst hi; rfl
  | i+1,hi=>simp at hi)
 rwa [Addr.add_lit] at this
theorem dgt_small {d:Nat} (h:d<10):dgt (dg d) 0=d:=by
 by_cases h0:d=0
 ·subst h0; rw [dg_zero]; rfl
 ·rw [dg_pos (by omega)]; show d % 4294967296=d; omega
theorem conv_one (w:World) (e:Nat) (he:e<256):(convert 138 9 (.slice (some ⟨w.heap.size,0,none⟩) 1 1)).run Tryz.prog (w.alloc (.cells #[.int .u8 e] 5))=.ok (.string ⟨#[UInt8.ofNat e]⟩) (w.alloc (.cells #[.int .u8 e] 5)) :=
 run_convert_bytes_back (P:=Tryz.prog) _ 138 9 5 ⟨w.heap.size,0,none⟩ 1 [UInt8.ofNat e] Tryz.underlying138 Tryz.underlying5 Tryz.underlying9 (fun j hj=>by
  obtain rfl:j=0:=by simp at hj; omega
  have h:=cells_new (w:=w) [.int .u8 e] 5 rfl 0 (.int .u8 e) rfl
  rw [h]
  congr 2
  simp
  omega)
theorem Text_any (w:World) (v:Value) (n:Nat) (hv:IsNat w v n) (hn:(dg n).length<=100) (hs:(Lib.decDigits n).length<=1000):Calls Tryz.prog 92 #[v] w (fun r w'=>r=.returned (.string (natT n))/\XF w w'):=by
 have HT:=bH (show Calls Tryz.prog 102 #[v] w (NatPost w n) from by have h:=Trim_any w v (dg n) hv (by omega); rwa [vl_dg] at h)
 have HN:=bH (bI (fun m (h:m<=n)=>Nat.le_trans (dg_mono h) hn) hs)
 obtain ⟨ao0,c0,rfl⟩:=hv.shape
 clear hv hn hs
 generalize (dg n).length=ln at *
 go_enter Tryz.func92,Tryz.ntmps92
 go_upto_region 3 with (go_at_call 102; refine HT.out.mono ?_; rintro q1 w1 ⟨v1,rfl,h1,hx1⟩)
 have H1:=bH (bI h1 hx1)
 clear h1 hx1 HT
 go_wp2_with fail
 go_loopg [0,3,4,5,6] n (fun gg u0 u3 u4 u5 u6 wr=>∃ (m:Nat) (s:ByteArray),gg=m/\m<=n/\u3=.string s/\IsNat wr u0 m/\decL m++s.data.toList=decL n/\XF w wr)
 case atStart=>exact ⟨n,⟨#[]⟩,rfl,Nat.le_refl _,rfl,H1.out.1,by simp,H1.out.2⟩
 case round =>
  clear H1
  obtain ⟨m,s,hg,hm,rfl,h0,hd,hx⟩:=hrel
  obtain rfl:=hg.symm
  obtain ⟨ao,c,rfl⟩:=h0.shape
  have HO:=bH (bI h0 hx)
  have HD:=bH hd
  have hsz:s.size<=1000:=by
   have h1:=congrArg List.length hd
   have h2:=@decL_len n
   have h3:=HN.out.2
   rw [List.length_append] at h1
   have h4:s.data.toList.length=s.size:=rfl
   omega
  clear h0 hx hd
  by_cases h0:m=0
  ·subst h0
   have hl:(dg 0).length=0:=by rw [dg_zero]; rfl
   rw [hl] at HO ⊢
   have hd:s.data.toList=decL n:=by have h:=HD.out; rwa [show decL 0=[] from rfl,List.nil_append] at h
   by_cases hn0:n=0
   ·subst hn0
    obtain rfl:s=⟨#[]⟩:=by
     have h:s.data.toList=[]:=hd
     cases s; simp at h; subst h; rfl
    have HP:=bH (show natT 0=⟨#[48]⟩ from by unfold natT; rw [Lib.decDigits_one (by decide)]; rfl)
    clear hd
    go_wp2
    go_ret
    exact ⟨by rw [HP.out]; rfl,HO.out.2⟩
   ·have hne:¬ s=⟨#[]⟩:=fun e=>by
     subst e
     have h:=decL_next hn0
     rw [<- hd] at h
     have h2:=congrArg List.length h
     simp at h2
    have he2:s.toList.isEmpty=false:=by
     have h:=(Lib.bytes_beq_false_iff s ⟨#[]⟩).2 hne
     rcases hh:s.toList with _ | ⟨a,l⟩
     ·exact absurd h (by simp [hh])
     ·rfl
    have HP:=bH (show natT n=s from by
     unfold natT
     rw [<- decL_pos hn0,<- hd])
    clear hd
    go_wp2
    go_ret
    exact ⟨by rw [HP.out]; rfl,HO.out.2⟩
  ·have hpos:0<(dg m).length:=by rcases Nat.eq_zero_or_pos (dg m).length with h | h; exact absurd (dg_eq_nil.1 (List.eq_nil_of_length_eq_zero h)) h0; exact h
   have HDm:=bH (fun W x t (hx:IsNat W x m) (ht:Rds W t [10])=>show Calls Tryz.prog 104 #[x,t] W (RDivPost W m 10) from by
    have h:=Rdivmod_any W x t (dg m) [10] hx ht (Nat.le_trans (HN.out.1 m hm) (by decide)) (by decide) (by decide)
    rwa [vl_dg] at h)
   have HDg:=bH (fun W x (hx:IsNat W x (m % 10))=>show Calls Tryz.prog 122 #[x,.int .i64 0] W (fun r w'=>r=.returned (.int .u64 (m % 10:Nat))/\w'=W) from by
    have h:=Rdigit_any W x (dg (m % 10)) hx 0 (by decide)
    rwa [dgt_small (by omega)] at h)
   have HNx:=bH (decL_next h0)
   obtain ⟨d,hd⟩:∃ d,m % 10=d:=⟨_,rfl⟩
   obtain ⟨e,he⟩:∃ e,48+d=e:=⟨_,rfl⟩
   have hdl:d<10:=by omega
   rw [hd] at HDg HNx
   rw [he] at HNx
   have hE:(48:Int)+(d:Int)=(e:Int):=by omega
   have hel:(e:Int)<=57:=by omega
   have hwe:IntKind.u8.wrap (e:Int)=(e:Int):=IntWalk.u8_in _ (by omega)
   obtain ⟨lm,hlm⟩:∃ k,(dg m).length=k:=⟨_,rfl⟩
   rw [hlm] at HO hpos ⊢
   have hposI:(0:Int)<(lm:Int):=by omega
   clear hlm
   go_upto_region 5 with (go_at_call 104; refine (HDm.out _ _ _ (Rds.keep HO.out.1 ((Ext.refl (fun _=>False) wr).alloc (.cells #[.int .u32 10] 121))) (ten_rds wr)).mono ?_; rintro q5 w5 ⟨x5,y5,rfl,hq5,hr5,hx5⟩; obtain ⟨ao5,c5,rfl⟩:=IsNat.shape hq5; obtain ⟨ao6,c6,rfl⟩:=IsNat.shape hr5)
   have HW:=bH (bI hq5 (bI hr5 (HO.out.2.trans (((Ext.refl (fun _=>False) wr).alloc (.cells #[.int .u32 10] 121)).trans hx5))))
   clear hq5 hr5 hx5
   (try rw [hd] at HW)
   (try rw [hd])
   have hcv:=conv_one w5 e (by omega)
   obtain ⟨B,hB⟩:∃ B:ByteArray,(⟨#[UInt8.ofNat e]⟩:ByteArray)=B:=⟨_,rfl⟩
   rw [hB] at hcv
   have hBs:B.size=1:=by rw [<- hB]; rfl
   have hcc:¬ 9223372036854775807<B.size+s.size:=by omega
   have HB:=bH hB
   clear hB
   go_wp2_with (go_at_call 122; refine (HDg.out _ _ HW.out.2.1).mono ?_; rintro q6 w6 ⟨rfl,hw⟩; obtain rfl:=hw.symm)
   have hxa:=(Ext.refl (fun _=>False) w5).alloc (.cells #[.int .u8 e] 5)
   go_roundg (m / 10)
   case measure=>omega
   case rel=>exact ⟨m / 10,B++s,rfl,by omega,rfl,Rds.keep HW.out.1 hxa,by rw [<- HD.out,HNx.out,<- HB.out]; simp,HW.out.2.2.trans hxa⟩
theorem numT_nat (m:Nat):numT (m:Int)=natT m:=by unfold numT natT; rw [Lib.itoa_nonneg]
theorem numT_neg {m:Nat} (h:1<=m):numT (-(m:Int))=⟨#[45]⟩++natT m:=by
 unfold numT natT; rw [Lib.itoa_neg m h]; apply ByteArray.ext; simp
theorem natT_size {m:Nat} (h:m<=9223372036854775807):(Lib.decDigits m).length<=21:=by
 have:=Lib.itoa_length_le (m:Int) (by omega) (by omega)
 rwa [Lib.itoa_nonneg] at this
theorem dg_len64 {m:Nat} (h:m<=9223372036854775807):(dg m).length<=100:=Nat.le_trans (dg_two (by omega)).1 (by decide)
theorem Number4_any (w:World) (n:Int) (h0:-9223372036854775807<=n) (h1:n<=9223372036854775807):Calls Tryz.prog 52 #[.int .i64 n] w (StrPost w (numT n)):=by
 by_cases hn:n<0
 ·obtain ⟨m,rfl⟩:∃ m:Nat,n = -(m:Int):=⟨n.natAbs,by omega⟩
  have HF:=bH (fun W=>Rfrom_any W m (by omega))
  have HT:=bH (fun W x (hx:IsNat W x m)=>Text_any W x m hx (dg_len64 (by omega)) (Nat.le_trans (natT_size (by omega)) (by decide)))
  have HR:=bH (numT_neg (m:=m) (by omega))
  have hsz:(natT m).size<=21:=natT_size (by omega)
  have hq:¬ 9223372036854775807<1+(natT m).size:=by omega
  have hw1:IntKind.i64.wrap (- -(m:Int))=(m:Int):=by rw [Int.neg_neg]; exact IntWalk.i64_in _ (by omega)
  have hw2:IntKind.u64.wrap (m:Int)=(m:Int):=IntWalk.u64_in _ (by omega)
  have hnn:- -(m:Int)=(m:Int):=Int.neg_neg _
  go_enter Tryz.func52,Tryz.ntmps52
  go_wp2_with (first | (go_at_call 93; refine (HF.out _).mono ?_; rintro q1 w1 ⟨v1,rfl,h2,hx1⟩) | (go_at_call 92; refine (HT.out _ _ h2).mono ?_; rintro q2 w2 ⟨rfl,hx2⟩))
  go_ret
  exact ⟨by rw [HR.out]; rfl,hx1.trans hx2⟩
 ·obtain ⟨m,rfl⟩:∃ m:Nat,n=(m:Int):=⟨n.toNat,by omega⟩
  have HF:=bH (fun W=>Rfrom_any W m (by omega))
  have HT:=bH (fun W x (hx:IsNat W x m)=>Text_any W x m hx (dg_len64 (by omega)) (Nat.le_trans (natT_size (by omega)) (by decide)))
  have HR:=bH (numT_nat m)
  have hw2:IntKind.u64.wrap (m:Int)=(m:Int):=IntWalk.u64_in _ (by omega)
  go_enter Tryz.func52,Tryz.ntmps52
  go_wp2_with (first | (go_at_call 93; refine (HF.out _).mono ?_; rintro q1 w1 ⟨v1,rfl,h2,hx1⟩) | (go_at_call 92; refine (HT.out _ _ h2).mono ?_; rintro q2 w2 ⟨rfl,hx2⟩))
  go_ret
  exact ⟨by rw [HR.out]; rfl,hx1.trans hx2⟩
end Go.Proofs.YtglepbhkilbbcaaGreatDoor
