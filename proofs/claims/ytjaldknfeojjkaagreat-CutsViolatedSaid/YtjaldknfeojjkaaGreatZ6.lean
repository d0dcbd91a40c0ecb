/-
  Texts of the proof, part 6. Conditions: each lemma names its own.
-/
import Derived.Test.YtjaldknfeojjkaaGreatZ1
import Derived.Test.YtjaldknfeojjkaaGreatZ2
import Derived.Test.YtjaldknfeojjkaaGreatZ3
import Derived.Test.YtjaldknfeojjkaaGreatZ4
import Derived.Test.YtjaldknfeojjkaaGreatZ5
import Derived.Maps.RangeWalk
set_option linter.unusedVariables false
set_option linter.unusedSimpArgs false
set_option maxRecDepth 100000
set_option maxHeartbeats 16000000
namespace Go.Proofs.YtjaldknfeojjkaaGreat
open Go.RowKit Go.MapKept
open Go.ChangeMaps (setBlock)
theorem Violated4_any (w:World) (pv xv:Value) (p:ProgV) (x:List Rat) (L T:Nat) (hp:IsPrg w pv p) (hl:Rats w xv x L) (h1:1<=L) (hT:∀ i,i<p.rows.length->(p.r i).terms.length<=T) (hL:1+T*(L+3)+(L+3)<=1000000) (hn0:p.vars.length<=1000000) (hm:p.rows.length<=1000000) :
  Calls Tryz.prog 14 #[pv,xv] w (NumsPost w (violQ p x)):=by
 obtain ⟨ti,hi0⟩:=info_parts Tryz.infoInt
 have Hi:=bH hi0
 clear hi0
 have HP:=bH hp
 obtain ⟨vv,rv,rfl,-,hr⟩:=hp
 obtain ⟨ro,rc,rfl,-,hn,-⟩:=hr.shape
 have HV:=bH hr
 have HHo:=bH (fun W (hW:XF w W) i (hi:i<p.rows.length) ta tc (hok:RowOk (p.r i)) (htm:Tms w (.slice ta (p.r i).terms.length tc) (p.r i).terms)=>Holds_any W _ _ p (p.r i) x L T ta tc (HP.out.keep hW) hok (htm.keep hW) (hl.keep hW) h1 (hT i hi) hL hn0)
 clear hl hr hT
 obtain ⟨n,hn'⟩:∃ n,p.rows.length=n:=⟨_,rfl⟩
 have HN:=bH hn'
 rw [hn'] at hn hm HV HP HHo ⊢
 unfold violQ
 rw [hn']
 have hvl:∀ i,(violN (fun i=>holdsB (p.r i) (clipQ p x)) i).length<=i:=fun i=>by
  induction i with
  | zero=>exact Nat.le_refl _
  | succ i ih =>
   unfold violN
   split
   ·omega
   ·rw [List.length_append]; simp; exact ih
 have HVL:=bH hvl
 clear hn' hvl HP
 have hb1:blk ((w.alloc (.cells #[vv,.slice ro n rc] 25)).alloc (.cells #[] 3)) w.heap.size=some (.cells #[vv,.slice ro n rc] 25 (0,0)):=(blk_alloc_past _ _ _ (by simp)).trans (blk_alloc_at _ _)
 have hb2:=blk_alloc_at (w.alloc (.cells #[vv,.slice ro n rc] 25)) (.cells #[] 3)
 rw [World.size_alloc] at hb2
 have HB:=bH (bI hb1 (bI (show NOwn _ (w.heap.size+1) (.slice (some ⟨w.heap.size+1,0,none⟩) 0 0) [] from ownsRow_empty 1 (Nat.le_refl _) hb2) (((Ext.refl (fun _=>False) w).alloc (.cells #[vv,.slice ro n rc] 25)).alloc (.cells #[] 3))))
 clear hb1 hb2
 go_enter Tryz.func14,Tryz.ntmps14
 go_upto_region 2 with fail
 generalize hw1:(w.alloc (.cells #[vv,.slice ro n rc] 25)).alloc (.cells #[] 3)=w1 at *
 clear hw1
 obtain ⟨pb,hpb⟩:∃ pb,w.heap.size=pb:=⟨_,rfl⟩
 have HPB:=bH hpb
 rw [hpb] at HB ⊢
 clear hpb
 have z0:=cellq HB.out.1 0 rfl
 have z1:=cellq HB.out.1 1 rfl
 go_wp2_with fail
 go_loopg [6,5] n (fun gg v6 v5 wr=>∃ (i:Nat) (ov:Value),i<=n/\gg=n - i/\v6=.int .i64 i/\v5=ov/\NOwn wr (pb+1) ov (violN (fun i=>holdsB (p.r i) (clipQ p x)) i)/\(wr.cell? ⟨pb,0,none⟩=some vv/\wr.cell? ⟨pb,1,none⟩=some (.slice ro n rc))/\XF w wr)
 case atStart=>exact ⟨0,_,Nat.zero_le _,rfl,rfl,rfl,HB.out.2.1,⟨z0,z1⟩,HB.out.2.2⟩
 case round =>
  clear z0 z1
  obtain ⟨i,ov,hi,rfl,rfl,rfl,ho,⟨z0,z1⟩,hx⟩:=hrel
  have HX:=bH hx
  obtain ⟨ao,cap,rfl⟩:=ho.shape
  have HO:=bH ho
  obtain ⟨ln,hln⟩:∃ ln,(violN (fun i=>holdsB (p.r i) (clipQ p x)) i).length=ln:=⟨_,rfl⟩
  have hlni:ln<=i:=by have:=HVL.out i; omega
  have Hlen:=bH hln
  rw [hln] at HO ⊢
  clear hln ho
  by_cases hin:i<n
  ·have i0:(i:Int)<(n:Int):=by omega
   have i1:(0:Int)<=(i:Int):=by omega
   obtain ⟨b,off,ta,tc,rfl,-,e0,e1,e2,e3,e4,hrok,htm⟩:=HV.out.atp i (by rw [HN.out]; exact hin)
   replace e0:=cell_keep e0 HX.out
   replace e1:=cell_keep e1 HX.out
   replace e2:=cell_keep e2 HX.out
   replace e3:=cell_keep e3 HX.out
   replace e4:=cell_keep e4 HX.out
   have HH:=bH (fun W (hW:XF w W)=>HHo.out W hW i hin ta tc hrok htm)
   have HR:=bH (show ∀ b,holdsB (p.r i) (clipQ p x)=b->(if holdsB (p.r i) (clipQ p x)=true then violN (fun i=>holdsB (p.r i) (clipQ p x)) i else violN (fun i=>holdsB (p.r i) (clipQ p x)) i++[i])=(if b=true then violN (fun i=>holdsB (p.r i) (clipQ p x)) i else violN (fun i=>holdsB (p.r i) (clipQ p x)) i++[i]) from fun b h=>by rw [h])
   clear hrok htm
   obtain ⟨hb,hhb⟩:∃ hb,holdsB (p.r i) (clipQ p x)=hb:=⟨_,rfl⟩
   rw [hhb] at HH
   have HR2:=bH (HR.out hb hhb)
   clear hhb HR
   generalize (p.r i).terms.length=tl at *
   generalize (p.r i).name=nm at *
   generalize (p.r i).group=gr at *
   generalize (p.r i).kind=k at *
   generalize (p.r i).bound=bd at *
   have hS:S7 pb pb b b b b b 0 1 (off+i*5) (off+i*5+1) (off+i*5+2) (off+i*5+3) (off+i*5+4) vv (.slice (some ⟨b,off,none⟩) n rc) (.string nm) (.int .i64 gr) (.int .i64 k) (.slice ta tl tc) (.int .i64 bd) wr:=⟨z0,z1,e0,e1,e2,e3,e4⟩
   have hxw:=hx
   clear z0 z1 e0 e1 e2 e3 e4 hx
   go_upto_region 5 with fail
   refine wp_region_held_drew (S:=(S7 pb pb b b b b b 0 1 (off+i*5) (off+i*5+1) (off+i*5+2) (off+i*5+3) (off+i*5+4) vv (.slice (some ⟨b,off,none⟩) n rc) (.string nm) (.int .i64 gr) (.int .i64 k) (.slice ta tl tc) (.int .i64 bd))) (by kernel_rfl) (hS.drew) (fun hHeld=>?_)
   refine ht 0 (h:=?_)
   (try go_frame)
   refine ht 1 (h:=?_)
   (try go_frame)
   refine ht 2 (h:=?_)
   (try go_frame)
   refine ht 3 (h:=?_)
   (try go_frame)
   refine ht 4 (h:=?_)
   (try go_frame)
   refine ht 5 (h:=?_)
   (try go_frame)
   refine ht 6 (h:=?_)
   (try go_frame)
   refine held_step 7 rfl (by kernel_rfl) (fun K hK=>?_)
   (go_simp; go_at_call 15; (with_reducible refine (HH.out _ (hxw.drew)).mono ?_); rintro q1 w11 ⟨rfl,hx11⟩; have hX1:=(Ext.refl (fun _=>False) wr).drew.trans hx11; have hK1:=hS.keep hX1)
   refine hK.out _ _ (hK1) (fun hHeld=>?_)
   clear hK K
   (try go_frame)
   refine ht 8 (h:=?_)
   (try go_frame)
   refine wpAnyH_done (by kernel_rfl) ?_ _
   have y0:=hK1.1
   have y1:=hK1.2.1
   have HXa:=bH (HX.out.trans hX1)
   have hok13:NOwn w11 (pb+1) (.slice ao ln cap) (violN (fun i=>holdsB (p.r i) (clipQ p x)) i):=HO.out.keep hX1
   clear hX1 hK1 hS hx11 hxw hHeld
   cases hb with
   | true =>
    have HOk:=bH hok13
    have HY:=bH (bI y0 y1)
    clear hok13 y0 y1
    go_wp2
    go_roundg (n - (i+1))
    case measure=>omega
    case rel=>exact ⟨i+1,.slice ao ln cap,by omega,rfl,by go_num,rfl,(by show NOwn w11 (pb+1) _ (if holdsB (p.r i) (clipQ p x)=true then _ else _); rw [HR2.out]; exact HOk.out),HY.out,HXa.out⟩
   | false =>
    have hxa:=(Ext.refl (fun _=>False) w11).alloc (.cells #[.int .i64 (i:Int)] 3)
    have HO1:Hid ((w11.alloc (.cells #[.int .i64 (i:Int)] 3)).ownsRow (pb+1) 3 1 (.slice ao ln cap) ln ((violN (fun i=>holdsB (p.r i) (clipQ p x)) i).map nv)):=bH (by have:=hok13.keep hxa; unfold NOwn at this; rw [Hlen.out] at this; exact this)
    have HGe:=bH (fun g e=>(HO1.out.lt g e).1)
    have HY:=bH (bI (cell_keep y0 hxa) (cell_keep y1 hxa))
    have HSz:=bH (show pb+1<=(w11.alloc (.cells #[.int .i64 (i:Int)] 3)).heap.size from (by have:=World.block_lt_of_cell? _ _ HY.out.1; exact this))
    clear hok13 hxa y0 y1
    go_wp2_with (at_builtin; refine wpList_append_any rfl (.tmp 24) (.tmp 26) 27 rfl (pb+1) 3 ti _ 1 8 Tryz.underlying27 Hi.out.1 Hi.out.2.1 Hi.out.2.2.1 Hi.out.2.2.2 rfl (by decide) _ _ _ rfl HO1.out _ 1 1 (fun e=>by cases e) [.int .i64 (i:Int)] rfl rfl (.inr ⟨_,rfl,cells_new [.int .i64 (i:Int)] _ rfl⟩) (nv_one _) (by simp only [maxLen]; omega) (by omega) HSz.out ?_; intro v5 w5 hown5 hgrow5 hat5; have HO5:Hid (NOwn w5 (pb+1) v5 (violN (fun i=>holdsB (p.r i) (clipQ p x)) i++[i])):=bH (nown_app Hlen.out hown5); have HX5:Hid (XF w w5):=bH ((HXa.out.alloc (.cells #[.int .i64 (i:Int)] 3)).grown hgrow5 (fun k e h=>absurd (HGe.out k e) (by have:=HPB.out; omega))); have HY5:Hid (w5.cell? ⟨pb,0,none⟩=some vv/\w5.cell? ⟨pb,1,none⟩=some (.slice (some ⟨b,off,none⟩) n rc)):=bH ⟨hgrow5.cell HY.out.1 (fun e=>absurd (HGe.out pb e.symm) (by omega)),hgrow5.cell HY.out.2 (fun e=>absurd (HGe.out pb e.symm) (by omega))⟩; clear hown5 hgrow5 hat5)
    go_roundg (n - (i+1))
    case measure=>omega
    case rel=>exact ⟨i+1,v5,by omega,rfl,by go_num,rfl,(by show NOwn w5 (pb+1) v5 (if holdsB (p.r i) (clipQ p x)=true then _ else _); rw [HR2.out]; exact HO5.out),HY5.out,HX5.out⟩
  ·obtain rfl:i=n:=by omega
   go_wp2
   go_ret
   exact ⟨_,rfl,by have:=ownsRow_mono HO.out (show w.heap.size<=pb+1 from by have:=HPB.out; omega); exact this,HX.out⟩
theorem Inside4_any (w:World) (pv xv:Value) (p:ProgV) (x:List Rat) (L:Nat) (hp:IsPrg w pv p) (hy:Rats w xv x L) (h1:1<=L) (hL:L<=1000000) :
  Calls Tryz.prog 18 #[pv,xv] w (BoolPost w (insideB p x)):=by
 obtain ⟨vv,rv,rfl,hr,-⟩:=hp
 obtain ⟨vo,vc,rfl,-,hn,-⟩:=hr.shape
 have HV:=bH hr
 have HA:=bH (fun W (hW:XF w W) (i:Nat)=>At_any W _ x L (hy.keep hW) i)
 have HC:=bH (fun W u u' q (k:Int) (hk:InR k) (hu:Rrat W u q L) (hu':IsRat W u' (k:Rat))=>Rrcmp_any W u u' q (k:Rat) (L+2) (hu.mono (by omega)) (hu'.reads ((Sz.int hk).mono (by omega))) (by omega) (by omega))
 clear hr hy
 obtain ⟨n,hn'⟩:∃ n,p.vars.length=n:=⟨_,rfl⟩
 have HN:=bH hn'
 rw [hn'] at hn ⊢ HV
 clear hn'
 have HB:=bH (bI (blk_alloc_at w (.cells #[.slice vo n vc,rv] 25)) ((Ext.refl (fun _=>False) w).alloc (.cells #[.slice vo n vc,rv] 25)))
 go_enter Tryz.func18,Tryz.ntmps18
 go_upto_region 1 with fail
 generalize hw1:w.alloc (.cells #[.slice vo n vc,rv] 25)=w1 at *
 clear hw1
 obtain ⟨pb,hpb⟩:∃ pb,w.heap.size=pb:=⟨_,rfl⟩
 rw [hpb] at HB ⊢
 clear hpb
 have z0:=cellq HB.out.1 0 rfl
 go_wp2_with fail
 go_loopg [5] n (fun gg v5 wr=>∃ i:Nat,i<=n/\gg=n - i/\v5=.int .i64 i/\allTo i (insB p x)=true/\wr.cell? ⟨pb,0,none⟩=some (.slice vo n vc)/\XF w wr)
 case atStart=>exact ⟨0,Nat.zero_le _,rfl,rfl,rfl,z0,HB.out.2⟩
 case round =>
  clear z0
  obtain ⟨i,hi,rfl,rfl,hall,z0,hx⟩:=hrel
  have HX:=bH hall
  clear hall
  by_cases hin:i<n
  ·have i0:(i:Int)<(n:Int):=by omega
   have i1:(0:Int)<=(i:Int):=by omega
   obtain ⟨b,off,rfl,-,e0,e1,e2,e3,e4,hok⟩:=(HV.out.keep hx).atp i (by rw [HN.out]; exact hin)
   have HAi:=bH (fun W (hW:XF w W)=>HA.out W hW i)
   have hb3:=BoxV.new wr (p.v i)
   have hx3:=(Ext.refl (fun _=>False) wr).alloc (.cells #[.int .i64 (p.v i).lo,.int .i64 (p.v i).up,.bool (p.v i).op,.bool (p.v i).ig,.int .i64 (p.v i).co] 73)
   have HR:=bH (insB_sign p x i)
   go_upto_region 5 with fail
   generalize hw3:wr.alloc (.cells #[.int .i64 (p.v i).lo,.int .i64 (p.v i).up,.bool (p.v i).op,.bool (p.v i).ig,.int .i64 (p.v i).co] 73)=w3 at *
   clear hw3 e0 e1 e2 e3 e4
   obtain ⟨vb,hvb⟩:∃ vb,wr.heap.size=vb:=⟨_,rfl⟩
   rw [hvb] at hb3 ⊢
   clear hvb
   obtain ⟨f0,f1,f2,-,-⟩:=hb3.facts
   have hS:S3 vb vb vb 0 1 2 (.int .i64 (p.v i).lo) (.int .i64 (p.v i).up) (.bool (p.v i).op) w3:=⟨f0,f1,f2⟩
   have HF1:=bH (fun W=>Rrfrom_any W (p.v i).lo hok.lo.1 hok.lo.2)
   have HF2:=bH (fun W=>Rrfrom_any W (p.v i).up hok.up.1 hok.up.2)
   have HC1:=bH (fun W u u' hu hu'=>HC.out W u u' (atQ x i) _ hok.lo hu hu')
   have HC2:=bH (fun W u u' hu hu'=>HC.out W u u' (atQ x i) _ hok.up hu hu')
   have hxw:=hx.trans hx3
   clear f0 f1 f2 hb3 hok hx
   generalize (atQ x i - ((p.v i).lo:Rat)).num.sign=s1 at *
   generalize (atQ x i - ((p.v i).up:Rat)).num.sign=s2 at *
   generalize ((p.v i).lo:Rat)=lq at *
   generalize ((p.v i).up:Rat)=uq at *
   generalize (p.v i).lo=lo at *
   generalize (p.v i).up=up at *
   generalize (p.v i).op=o at *
   have hcase:s1<0∨(¬ s1<0/\o=true)∨(¬ s1<0/\o=false/\0<s2)∨(¬ s1<0/\o=false/\¬ 0<s2):=by cases o <;> simp <;> omega
   rcases hcase with hs | ⟨hs,rfl⟩ | ⟨hs0,rfl,hs⟩ | ⟨hs0,rfl,hs⟩
   ·have hd:decide (s1<0)=true:=decide_eq_true hs
    refine wp_region_held_drew (S:=(S3 vb vb vb 0 1 2 (.int .i64 lo) (.int .i64 up) (.bool o))) (by kernel_rfl) (hS.drew) (fun hHeld=>?_)
    refine ht 0 (h:=?_)
    (try go_frame)
    refine ht 1 (h:=?_)
    (try go_frame)
    refine ht 3 (h:=?_)
    (try go_frame)
    refine ht 4 (h:=?_)
    (try go_frame)
    refine held_step 2 rfl (by kernel_rfl) (fun K hK=>?_)
    (go_simp; go_at_call 40; (with_reducible refine (HAi.out _ (hxw.drew)).mono ?_); rintro q0 w10 ⟨v10,rfl,h10,hx10⟩; have hX0:=(Ext.refl (fun _=>False) w3).drew.trans hx10; have hK0:=hS.keep hX0; obtain ⟨n10,a10,l10,c10,a10',l10',c10',rfl⟩:=h10.shape)
    refine hK.out _ _ (hK0) (fun hHeld=>?_)
    clear hK K
    (try go_frame)
    refine held_step 5 rfl (by kernel_rfl) (fun K hK=>?_)
    (go_simp; go_at_call 31; (with_reducible refine (HF1.out _).mono ?_); rintro q1 w11 ⟨v11,rfl,h11,hx11⟩; have hX1:=hX0.trans hx11; have hK1:=hS.keep hX1; have hC1:=HC1.out w11 _ _ (h10.keep hx11) h11; obtain ⟨n11,a11,l11,c11,a11',l11',c11',rfl⟩:=h11.shape)
    refine hK.out _ _ (hK1) (fun hHeld=>?_)
    clear hK K
    (try go_frame)
    refine held_step 6 rfl (by kernel_rfl) (fun K hK=>?_)
    (go_simp; go_at_call 35; (with_reducible refine hC1.mono ?_); rintro q2 w12 ⟨rfl,hx12⟩; have hX2:=hX1.trans hx12; have hK2:=hS.keep hX2)
    refine hK.out _ _ (hK2) (fun hHeld=>?_)
    clear hK K
    (try go_frame)
    refine ht 7 (h:=?_)
    (try go_frame)
    refine ht 8 (h:=?_)
    (try go_frame)
    refine held_skip 9 rfl (by kernel_rfl) (by kernel_rfl) (by kernel_rfl) (fun _ _ _ h=>h) (by rfl) (by assumption) ?_
    (try go_frame)
    refine held_skip 10 rfl (by kernel_rfl) (by kernel_rfl) (by kernel_rfl) (fun _ _ _ h=>h) (by rfl) (by assumption) ?_
    (try go_frame)
    refine held_skip 11 rfl (by kernel_rfl) (by kernel_rfl) (by kernel_rfl) (fun _ _ _ h=>h) (by rfl) (by assumption) ?_
    (try go_frame)
    refine held_skip 12 rfl (by kernel_rfl) (by kernel_rfl) (by kernel_rfl) (fun _ _ _ h=>h) (by rfl) (by assumption) ?_
    (try go_frame)
    refine held_skip 13 rfl (by kernel_rfl) (by kernel_rfl) (by kernel_rfl) (fun _ _ _ h=>h) (by rfl) (by assumption) ?_
    (try go_frame)
    refine held_skip 14 rfl (by kernel_rfl) (by kernel_rfl) (by kernel_rfl) (fun _ _ _ h=>h) (by rfl) (by assumption) ?_
    (try go_frame)
    refine held_skip 15 rfl (by kernel_rfl) (by kernel_rfl) (by kernel_rfl) (fun _ _ _ h=>h) (by rfl) (by assumption) ?_
    (try go_frame)
    refine held_skip 16 rfl (by kernel_rfl) (by kernel_rfl) (by kernel_rfl) (fun _ _ _ h=>h) (by rfl) (by assumption) ?_
    (try go_frame)
    refine held_skip 17 rfl (by kernel_rfl) (by kernel_rfl) (by kernel_rfl) (fun _ _ _ h=>h) (by rfl) (by assumption) ?_
    (try go_frame)
    refine held_skip 18 rfl (by kernel_rfl) (by kernel_rfl) (by kernel_rfl) (fun _ _ _ h=>h) (by rfl) (by assumption) ?_
    (try go_frame)
    refine held_skip 19 rfl (by kernel_rfl) (by kernel_rfl) (by kernel_rfl) (fun _ _ _ h=>h) (by rfl) (by assumption) ?_
    (try go_frame)
    refine held_skip 20 rfl (by kernel_rfl) (by kernel_rfl) (by kernel_rfl) (fun _ _ _ h=>h) (by rfl) (by assumption) ?_
    (try go_frame)
    refine held_skip 21 rfl (by kernel_rfl) (by kernel_rfl) (by kernel_rfl) (fun _ _ _ h=>h) (by rfl) (by assumption) ?_
    (try go_frame)
    refine ht 22 (h:=?_)
    (try go_frame)
    refine wpAnyH_done (by kernel_rfl) ?_ _
    have HXX:=bH (hxw.trans hX2)
    have z0':=cell_keep (cell_keep z0 hx3) hX2
    clear hX0 hX1 hX2 h10 h11 hx10 hx11 hx12 hC1 hK0 hK1 hK2 hS hHeld hxw z0 hx3
    go_wp2
    go_ret
    exact ⟨ret_bool (allTo_false (f:=insB p x) (i:=i) (by rw [HN.out]; exact hin) (by rw [HR.out]; simp [hs])).symm,HXX.out⟩
   ·have hd:decide (s1<0)=false:=decide_eq_false hs
    refine wp_region_held_drew (S:=(S3 vb vb vb 0 1 2 (.int .i64 lo) (.int .i64 up) (.bool true))) (by kernel_rfl) (hS.drew) (fun hHeld=>?_)
    refine ht 0 (h:=?_)
    (try go_frame)
    refine ht 1 (h:=?_)
    (try go_frame)
    refine ht 3 (h:=?_)
    (try go_frame)
    refine ht 4 (h:=?_)
    (try go_frame)
    refine held_step 2 rfl (by kernel_rfl) (fun K hK=>?_)
    (go_simp; go_at_call 40; (with_reducible refine (HAi.out _ (hxw.drew)).mono ?_); rintro q0 w10 ⟨v10,rfl,h10,hx10⟩; have hX0:=(Ext.refl (fun _=>False) w3).drew.trans hx10; have hK0:=hS.keep hX0; obtain ⟨n10,a10,l10,c10,a10',l10',c10',rfl⟩:=h10.shape)
    refine hK.out _ _ (hK0) (fun hHeld=>?_)
    clear hK K
    (try go_frame)
    refine held_step 5 rfl (by kernel_rfl) (fun K hK=>?_)
    (go_simp; go_at_call 31; (with_reducible refine (HF1.out _).mono ?_); rintro q1 w11 ⟨v11,rfl,h11,hx11⟩; have hX1:=hX0.trans hx11; have hK1:=hS.keep hX1; have hC1:=HC1.out w11 _ _ (h10.keep hx11) h11; obtain ⟨n11,a11,l11,c11,a11',l11',c11',rfl⟩:=h11.shape)
    refine hK.out _ _ (hK1) (fun hHeld=>?_)
    clear hK K
    (try go_frame)
    refine held_step 6 rfl (by kernel_rfl) (fun K hK=>?_)
    (go_simp; go_at_call 35; (with_reducible refine hC1.mono ?_); rintro q2 w12 ⟨rfl,hx12⟩; have hX2:=hX1.trans hx12; have hK2:=hS.keep hX2)
    refine hK.out _ _ (hK2) (fun hHeld=>?_)
    clear hK K
    (try go_frame)
    refine ht 7 (h:=?_)
    (try go_frame)
    refine ht 8 (h:=?_)
    (try go_frame)
    refine ht 9 (h:=?_)
    (try go_frame)
    refine ht 10 (h:=?_)
    (try go_frame)
    refine ht 11 (h:=?_)
    (try go_frame)
    refine ht 12 (h:=?_)
    (try go_frame)
    refine held_skip 13 rfl (by kernel_rfl) (by kernel_rfl) (by kernel_rfl) (fun _ _ _ h=>h) (by rfl) (by assumption) ?_
    (try go_frame)
    refine held_skip 14 rfl (by kernel_rfl) (by kernel_rfl) (by kernel_rfl) (fun _ _ _ h=>h) (by rfl) (by assumption) ?_
    (try go_frame)
    refine held_skip 15 rfl (by kernel_rfl) (by kernel_rfl) (by kernel_rfl) (fun _ _ _ h=>h) (by rfl) (by assumption) ?_
    (try go_frame)
    refine held_skip 16 rfl (by kernel_rfl) (by kernel_rfl) (by kernel_rfl) (fun _ _ _ h=>h) (by rfl) (by assumption) ?_
    (try go_frame)
    refine held_skip 17 rfl (by kernel_rfl) (by kernel_rfl) (by kernel_rfl) (fun _ _ _ h=>h) (by rfl) (by assumption) ?_
    (try go_frame)
    refine held_skip 18 rfl (by kernel_rfl) (by kernel_rfl) (by kernel_rfl) (fun _ _ _ h=>h) (by rfl) (by assumption) ?_
    (try go_frame)
    refine held_skip 19 rfl (by kernel_rfl) (by kernel_rfl) (by kernel_rfl) (fun _ _ _ h=>h) (by rfl) (by assumption) ?_
    (try go_frame)
    refine held_skip 20 rfl (by kernel_rfl) (by kernel_rfl) (by kernel_rfl) (fun _ _ _ h=>h) (by rfl) (by assumption) ?_
    (try go_frame)
    refine ht 21 (h:=?_)
    (try go_frame)
    refine ht 22 (h:=?_)
    (try go_frame)
    refine wpAnyH_done (by kernel_rfl) ?_ _
    have HXX:=bH (hxw.trans hX2)
    have z0':=cell_keep (cell_keep z0 hx3) hX2
    clear hX0 hX1 hX2 h10 h11 hx10 hx11 hx12 hC1 hK0 hK1 hK2 hS hHeld hxw z0 hx3
    go_wp2
    go_roundg (n - (i+1))
    case measure=>omega
    case rel=>exact ⟨i+1,by omega,rfl,by go_num,allTo_next HX.out (by rw [HR.out]; simp [hs]),z0',HXX.out⟩
   ·have hd:decide (s1<0)=false:=decide_eq_false hs0; have hd2:decide (0<s2)=true:=decide_eq_true hs
    refine wp_region_held_drew (S:=(S3 vb vb vb 0 1 2 (.int .i64 lo) (.int .i64 up) (.bool false))) (by kernel_rfl) (hS.drew) (fun hHeld=>?_)
    refine ht 0 (h:=?_)
    (try go_frame)
    refine ht 1 (h:=?_)
    (try go_frame)
    refine ht 3 (h:=?_)
    (try go_frame)
    refine ht 4 (h:=?_)
    (try go_frame)
    refine held_step 2 rfl (by kernel_rfl) (fun K hK=>?_)
    (go_simp; go_at_call 40; (with_reducible refine (HAi.out _ (hxw.drew)).mono ?_); rintro q0 w10 ⟨v10,rfl,h10,hx10⟩; have hX0:=(Ext.refl (fun _=>False) w3).drew.trans hx10; have hK0:=hS.keep hX0; obtain ⟨n10,a10,l10,c10,a10',l10',c10',rfl⟩:=h10.shape)
    refine hK.out _ _ (hK0) (fun hHeld=>?_)
    clear hK K
    (try go_frame)
    refine held_step 5 rfl (by kernel_rfl) (fun K hK=>?_)
    (go_simp; go_at_call 31; (with_reducible refine (HF1.out _).mono ?_); rintro q1 w11 ⟨v11,rfl,h11,hx11⟩; have hX1:=hX0.trans hx11; have hK1:=hS.keep hX1; have hC1:=HC1.out w11 _ _ (h10.keep hx11) h11; obtain ⟨n11,a11,l11,c11,a11',l11',c11',rfl⟩:=h11.shape)
    refine hK.out _ _ (hK1) (fun hHeld=>?_)
    clear hK K
    (try go_frame)
    refine held_step 6 rfl (by kernel_rfl) (fun K hK=>?_)
    (go_simp; go_at_call 35; (with_reducible refine hC1.mono ?_); rintro q2 w12 ⟨rfl,hx12⟩; have hX2:=hX1.trans hx12; have hK2:=hS.keep hX2)
    refine hK.out _ _ (hK2) (fun hHeld=>?_)
    clear hK K
    (try go_frame)
    refine ht 7 (h:=?_)
    (try go_frame)
    refine ht 8 (h:=?_)
    (try go_frame)
    refine ht 9 (h:=?_)
    (try go_frame)
    refine ht 10 (h:=?_)
    (try go_frame)
    refine ht 11 (h:=?_)
    (try go_frame)
    refine ht 12 (h:=?_)
    (try go_frame)
    refine ht 13 (h:=?_)
    (try go_frame)
    refine ht 14 (h:=?_)
    (try go_frame)
    refine ht 16 (h:=?_)
    (try go_frame)
    refine ht 17 (h:=?_)
    (try go_frame)
    refine held_step 15 rfl (by kernel_rfl) (fun K hK=>?_)
    (go_simp; go_at_call 40; (with_reducible refine (HAi.out _ (hxw.trans hX2)).mono ?_); rintro q3 w13 ⟨v13,rfl,h13,hx13⟩; have hX3:=hX2.trans hx13; have hK3:=hS.keep hX3; obtain ⟨n13,a13,l13,c13,a13',l13',c13',rfl⟩:=h13.shape)
    refine hK.out _ _ (hK3) (fun hHeld=>?_)
    clear hK K
    (try go_frame)
    refine held_step 18 rfl (by kernel_rfl) (fun K hK=>?_)
    (go_simp; go_at_call 31; (with_reducible refine (HF2.out _).mono ?_); rintro q4 w14 ⟨v14,rfl,h14,hx14⟩; have hX4:=hX3.trans hx14; have hK4:=hS.keep hX4; have hC2:=HC2.out w14 _ _ (h13.keep hx14) h14; obtain ⟨n14,a14,l14,c14,a14',l14',c14',rfl⟩:=h14.shape)
    refine hK.out _ _ (hK4) (fun hHeld=>?_)
    clear hK K
    (try go_frame)
    refine held_step 19 rfl (by kernel_rfl) (fun K hK=>?_)
    (go_simp; go_at_call 35; (with_reducible refine hC2.mono ?_); rintro q5 w15 ⟨rfl,hx15⟩; have hX5:=hX4.trans hx15; have hK5:=hS.keep hX5)
    refine hK.out _ _ (hK5) (fun hHeld=>?_)
    clear hK K
    (try go_frame)
    refine ht 20 (h:=?_)
    (try go_frame)
    refine ht 21 (h:=?_)
    (try go_frame)
    refine ht 22 (h:=?_)
    (try go_frame)
    refine wpAnyH_done (by kernel_rfl) ?_ _
    have HXX:=bH (hxw.trans hX5)
    have z0':=cell_keep (cell_keep z0 hx3) hX5
    clear hX0 hX1 hX2 h10 h11 hx10 hx11 hx12 hC1 hK0 hK1 hK2 hS hHeld hxw z0 hx3 hX3 hX4 hX5 h13 h14 hx13 hx14 hx15 hC2 hK3 hK4 hK5
    go_wp2
    go_ret
    exact ⟨ret_bool (allTo_false (f:=insB p x) (i:=i) (by rw [HN.out]; exact hin) (by rw [HR.out]; simp [hs])).symm,HXX.out⟩
   ·have hd:decide (s1<0)=false:=decide_eq_false hs0; have hd2:decide (0<s2)=false:=decide_eq_false hs
    refine wp_region_held_drew (S:=(S3 vb vb vb 0 1 2 (.int .i64 lo) (.int .i64 up) (.bool false))) (by kernel_rfl) (hS.drew) (fun hHeld=>?_)
    refine ht 0 (h:=?_)
    (try go_frame)
    refine ht 1 (h:=?_)
    (try go_frame)
    refine ht 3 (h:=?_)
    (try go_frame)
    refine ht 4 (h:=?_)
    (try go_frame)
    refine held_step 2 rfl (by kernel_rfl) (fun K hK=>?_)
    (go_simp; go_at_call 40; (with_reducible refine (HAi.out _ (hxw.drew)).mono ?_); rintro q0 w10 ⟨v10,rfl,h10,hx10⟩; have hX0:=(Ext.refl (fun _=>False) w3).drew.trans hx10; have hK0:=hS.keep hX0; obtain ⟨n10,a10,l10,c10,a10',l10',c10',rfl⟩:=h10.shape)
    refine hK.out _ _ (hK0) (fun hHeld=>?_)
    clear hK K
    (try go_frame)
    refine held_step 5 rfl (by kernel_rfl) (fun K hK=>?_)
    (go_simp; go_at_call 31; (with_reducible refine (HF1.out _).mono ?_); rintro q1 w11 ⟨v11,rfl,h11,hx11⟩; have hX1:=hX0.trans hx11; have hK1:=hS.keep hX1; have hC1:=HC1.out w11 _ _ (h10.keep hx11) h11; obtain ⟨n11,a11,l11,c11,a11',l11',c11',rfl⟩:=h11.shape)
    refine hK.out _ _ (hK1) (fun hHeld=>?_)
    clear hK K
    (try go_frame)
    refine held_step 6 rfl (by kernel_rfl) (fun K hK=>?_)
    (go_simp; go_at_call 35; (with_reducible refine hC1.mono ?_); rintro q2 w12 ⟨rfl,hx12⟩; have hX2:=hX1.trans hx12; have hK2:=hS.keep hX2)
    refine hK.out _ _ (hK2) (fun hHeld=>?_)
    clear hK K
    (try go_frame)
    refine ht 7 (h:=?_)
    (try go_frame)
    refine ht 8 (h:=?_)
    (try go_frame)
    refine ht 9 (h:=?_)
    (try go_frame)
    refine ht 10 (h:=?_)
    (try go_frame)
    refine ht 11 (h:=?_)
    (try go_frame)
    refine ht 12 (h:=?_)
    (try go_frame)
    refine ht 13 (h:=?_)
    (try go_frame)
    refine ht 14 (h:=?_)
    (try go_frame)
    refine ht 16 (h:=?_)
    (try go_frame)
    refine ht 17 (h:=?_)
    (try go_frame)
    refine held_step 15 rfl (by kernel_rfl) (fun K hK=>?_)
    (go_simp; go_at_call 40; (with_reducible refine (HAi.out _ (hxw.trans hX2)).mono ?_); rintro q3 w13 ⟨v13,rfl,h13,hx13⟩; have hX3:=hX2.trans hx13; have hK3:=hS.keep hX3; obtain ⟨n13,a13,l13,c13,a13',l13',c13',rfl⟩:=h13.shape)
    refine hK.out _ _ (hK3) (fun hHeld=>?_)
    clear hK K
    (try go_frame)
    refine held_step 18 rfl (by kernel_rfl) (fun K hK=>?_)
    (go_simp; go_at_call 31; (with_reducible refine (HF2.out _).mono ?_); rintro q4 w14 ⟨v14,rfl,h14,hx14⟩; have hX4:=hX3.trans hx14; have hK4:=hS.keep hX4; have hC2:=HC2.out w14 _ _ (h13.keep hx14) h14; obtain ⟨n14,a14,l14,c14,a14',l14',c14',rfl⟩:=h14.shape)
    refine hK.out _ _ (hK4) (fun hHeld=>?_)
    clear hK K
    (try go_frame)
    refine held_step 19 rfl (by kernel_rfl) (fun K hK=>?_)
    (go_simp; go_at_call 35; (with_reducible refine hC2.mono ?_); rintro q5 w15 ⟨rfl,hx15⟩; have hX5:=hX4.trans hx15; have hK5:=hS.keep hX5)
    refine hK.out _ _ (hK5) (fun hHeld=>?_)
    clear hK K
    (try go_frame)
    refine ht 20 (h:=?_)
    (try go_frame)
    refine ht 21 (h:=?_)
    (try go_frame)
    refine ht 22 (h:=?_)
    (try go_frame)
    refine wpAnyH_done (by kernel_rfl) ?_ _
    have HXX:=bH (hxw.trans hX5)
    have z0':=cell_keep (cell_keep z0 hx3) hX5
    clear hX0 hX1 hX2 h10 h11 hx10 hx11 hx12 hC1 hK0 hK1 hK2 hS hHeld hxw z0 hx3 hX3 hX4 hX5 h13 h14 hx13 hx14 hx15 hC2 hK3 hK4 hK5
    go_wp2
    go_roundg (n - (i+1))
    case measure=>omega
    case rel=>exact ⟨i+1,by omega,rfl,by go_num,allTo_next HX.out (by rw [HR.out]; simp [hs,hs0]),z0',HXX.out⟩
  ·obtain rfl:i=n:=by omega
   go_wp2
   go_ret
   exact ⟨ret_bool (by rw [insideB_eq,HN.out]; exact HX.out.symm),hx⟩
theorem blk_alloc_at' (w:World) (o:Obj) (k:Nat) (h:k=w.heap.size):blk (w.alloc o) k=some o:=by subst h; exact blk_alloc_at w o
def PrgPost (w:World) (p:ProgV) (r:Ending) (w':World):Prop:=∃ v,r=.returned v/\IsPrg w' v p/\XF w w'
section
variable {β:Type} {f:β->List Value} {T:TypeId}
def SOwn (f:β->List Value) (T:TypeId) (w:World) (base:Nat) (v:Value) (l:List β):Prop:=w.ownsRow base T 5 v l.length (l.flatMap f)
theorem SOwn.keep {w w':World} {base:Nat} {v:Value} {l:List β} (h:SOwn f T w base v l) (hx:XF w w'):SOwn f T w' base v l:=ownsRow_ext h hx (fun _ _ h=>h)
theorem SOwn.shape {w:World} {base:Nat} {v:Value} {l:List β} (h:SOwn f T w base v l):∃ ao cap,v=.slice ao l.length cap:=ownsRow_shape h
def SArr (f:β->List Value) (T:TypeId) (w:World) (g:Nat) (l:List β):Prop:=∃ cur,blk w g=some (.cells cur T (0,0))/\∀ k x,l[k]?=some x->∀ j,j<5->cur[k*5+j]?=(f x)[j]?
theorem SArr.cell {w:World} {g:Nat} {l:List β} (hf:∀ x,(f x).length=5) (h:SArr f T w g l) {k:Nat} {x:β} (hk:l[k]?=some x) {j:Nat} {u:Value} (hu:(f x)[j]?=some u):w.cell? ⟨g,k*5+j,none⟩=some u/\w.frozen? ⟨g,k*5+j,none⟩=false:=by
 obtain ⟨cur,h1,h2⟩:=h
 have hj:j<5:=by rw [<- hf x]; exact (List.getElem?_eq_some_iff.1 hu).1
 exact ⟨by rw [cell_of_cells h1,h2 k x hk j hj]; exact hu,free_of_cells h1 _⟩
theorem SArr.sl {w:World} {g:Nat} {l:List β} {c:Nat} (hf:∀ x,(f x).length=5) (h:SArr f T w g l) (hc:l.length<=c) (hm:c<=maxLen):Sl w (.slice (some ⟨g,0,none⟩) l.length c) 5 (l.map f):=by
 refine ⟨some ⟨g,0,none⟩,c,by rw [List.length_map],by rw [List.length_map]; exact hc,hm,(fun e=>by cases e),fun _=>⟨g,0,rfl,?_,fun i r hi j u hu=>?_⟩⟩
 ·obtain ⟨cur,h1,_⟩:=h; exact blk_lt h1
 ·rw [List.getElem?_map] at hi
  obtain ⟨x,hx,rfl⟩:=Option.map_eq_some_iff.1 hi
  rw [Nat.zero_add]
  exact (h.cell hf hx hu).1
theorem SOwn.arr {w:World} {base:Nat} {ao:Option Addr} {n c:Nat} {l:List β} (hf:∀ x,(f x).length=5) (h:SOwn f T w base (.slice ao n c) l):(n=0/\l=[]/\(ao=none->c=0)/\c<=maxLen)∨∃ g,ao=some ⟨g,0,none⟩/\base<=g/\n=l.length/\n<=c/\c<=maxLen/\SArr f T w g l:=by
 rcases h.2 with ⟨e,h0⟩ | ⟨g,cap,cur,e,hb,hg,hnc,hcm,hcs,htake⟩
 ·cases e
  exact .inl ⟨rfl,List.eq_nil_of_length_eq_zero h0,fun _=>rfl,Nat.zero_le _⟩
 ·cases e
  refine .inr ⟨g,rfl,hb,rfl,hnc,hcm,cur,hg,fun k x hk j hj=>?_⟩
  have hkl:k<l.length:=(List.getElem?_eq_some_iff.1 hk).1
  have hget:=fm_get (f:=f) (m:=5) hf l k hk j hj
  rw [<- htake,List.getElem?_take,if_pos (by omega),Array.getElem?_toList] at hget
  exact hget
theorem SOwn.sl {w:World} {base:Nat} {v:Value} {l:List β} (hf:∀ x,(f x).length=5) (h:SOwn f T w base v l):Sl w v 5 (l.map f):=by
 obtain ⟨ao,cap,rfl⟩:=h.shape
 rcases h.arr hf with ⟨h0,rfl,hc,hm⟩ | ⟨g,rfl,_,_,h1,h2,h3⟩
 ·exact ⟨ao,cap,rfl,Nat.zero_le _,hm,hc,fun h=>absurd h (Nat.lt_irrefl 0)⟩
 ·exact h3.sl hf h1 h2
end
abbrev RT:=RowV × Value
theorem cV_len (x:VarV):(cV x).length=5:=rfl
section
variable {B:Nat} {y:RT} {oa:Option (List VarV)} {ob:Option (List RT)} {c d:Bool} {w5 w w':World} {vA vB vC vD:Value}
end
theorem IsPrg.slicesP {w:World} {pv:Value} {p:ProgV} (h:IsPrg w pv p):∃ vo vn vc ro rn rc,pv=.agg #[.slice vo vn vc,.slice ro rn rc]:=by
 obtain ⟨vv,rv,rfl,hv,hr⟩:=h
 obtain ⟨vo,vc,rfl,-⟩:=hv.shape
 obtain ⟨ro,rc,rfl,-⟩:=hr.shape
 exact ⟨vo,_,vc,ro,_,rc,rfl⟩
def cI (n:Int):List Value:=[.int .i64 n]
def Inz (w:World) (v:Value) (l:List Int):Prop:=Sl w v 1 (l.map cI)
theorem Inz.shape {w:World} {v:Value} {l:List Int} (h:Inz w v l):∃ ao c,v=.slice ao l.length c/\l.length<=maxLen:=by
 obtain ⟨ao,c,rfl,h1,h2,_⟩:=h
 rw [List.length_map] at h1 ⊢
 exact ⟨ao,c,rfl,Nat.le_trans h1 h2⟩
theorem Inz.keep {w w':World} {v:Value} {l:List Int} (h:Inz w v l) (hx:XF w w'):Inz w' v l:=Sl.keep h hx
theorem Inz.at_ {w:World} {ao:Option Addr} {n c:Nat} {l:List Int} (h:Inz w (.slice ao n c) l) {i:Nat} (hi:i<l.length):∃ b off,ao=some ⟨b,off,none⟩/\w.cell? ⟨b,off+i,none⟩=some (.int .i64 (l.getD i 0)):=by
 obtain ⟨b,off,h1,h2,h3⟩:=Sl.at h (i:=i) (r:=cI l[i]) (by rw [List.getElem?_map,List.getElem?_eq_getElem hi]; rfl)
 refine ⟨b,off,h1,?_⟩
 have:=h3 0 _ rfl
 rw [Nat.mul_one,Nat.add_zero] at this
 rw [getD_lt hi]
 exact this
def IRow (w:World) (base:Nat) (v:Value) (l:List Int):Prop:=w.ownsRow base 3 1 v l.length (l.map fun n=>Value.int .i64 n)
theorem IRow.inz {w:World} {base:Nat} {v:Value} {l:List Int} (h:IRow w base v l):Inz w v l:=by
 rcases h.2 with ⟨rfl,h0⟩ | ⟨g,cap,cur,rfl,hb,hg,hnc,hcm,hcs,htake⟩
 ·exact ⟨none,0,by rw [List.length_map,h0],by rw [List.length_map,h0]; exact Nat.le_refl _,by unfold maxLen; decide,fun _=>rfl,fun h=>by rw [List.length_map,h0] at h; exact absurd h (Nat.lt_irrefl 0)⟩
 ·refine ⟨some ⟨g,0,none⟩,cap,by rw [List.length_map],by rw [List.length_map]; exact hnc,hcm,(fun e=>by cases e),fun _=>⟨g,0,rfl,blk_lt hg,fun i r hi j u hu=>?_⟩⟩
  rw [List.getElem?_map] at hi
  obtain ⟨x,hx,rfl⟩:=Option.map_eq_some_iff.1 hi
  have hi':i<l.length:=(List.getElem?_eq_some_iff.1 hx).1
  match j,hu with
  | 0,hu =>
   cases hu
   rw [Nat.zero_add,Nat.mul_one,Nat.add_zero,cell_of_cells hg,<- Array.getElem?_toList]
   have h2:(cur.toList.take (l.length*1))[i]?=some (.int .i64 x):=by
    rw [htake,List.getElem?_map,hx]; rfl
   rw [List.getElem?_take_of_lt (by omega)] at h2
   exact h2
  | j+1,hu=>simp [cI] at hu
theorem ints_eq {a b:List Int} {n:Nat} (ha:a.length=n) (hb:b.length=n) (h:∀ i,i<n->a.getD i 0=b.getD i 0):a=b:=by
 refine List.ext_getElem (by omega) fun i h1 h2=>?_
 have:=h i (by omega)
 rwa [getD_lt h1,getD_lt h2] at this
theorem Ints4_any (w:World) (av bv:Value) (a b:List Int) (ha:Inz w av a) (hb:Inz w bv b):Calls Tryz.prog 32 #[av,bv] w (BoolPost w (decide (a=b))):=by
 obtain ⟨ao,ac,rfl,ham⟩:=ha.shape
 obtain ⟨bo,bc,rfl,hbm⟩:=hb.shape
 have hmax:maxLen<=9223372036854775807:=by unfold maxLen; decide
 have HA:=bH (bI ha hb)
 clear ha hb
 obtain ⟨n,hn⟩:∃ n,a.length=n:=⟨_,rfl⟩
 obtain ⟨m,hm⟩:∃ m,b.length=m:=⟨_,rfl⟩
 have HN:=bH (bI hn hm)
 rw [hn] at HA ham ⊢
 rw [hm] at HA hbm ⊢
 clear hn hm
 by_cases hnm:n=m
 ·subst hnm
  have n1:(n:Int)<=9223372036854775807:=by omega
  go_enter Tryz.func32,Tryz.ntmps32
  go_upto_region 3 with fail
  go_wp2_with fail
  go_loopg [5] n (fun gg v5 wr=>∃ k:Nat,k<=n/\gg=n - k/\v5=.int .i64 k/\(∀ i,i<k->a.getD i 0=b.getD i 0)/\XF w wr)
  case atStart=>exact ⟨0,Nat.zero_le _,rfl,rfl,fun i hi=>absurd hi (Nat.not_lt_zero i),Ext.refl _ _⟩
  case round =>
   obtain ⟨k,hk,rfl,rfl,hall,hx⟩:=hrel
   have HAl:=bH (bI hall hx)
   clear hall hx
   by_cases hkn:k<n
   ·have k0:(k:Int)<(n:Int):=by omega
    have k1:(0:Int)<=(k:Int):=by omega
    obtain ⟨b1,o1,rfl,e0⟩:=(HA.out.1.keep HAl.out.2).at_ (i:=k) (by rw [HN.out.1]; exact hkn)
    obtain ⟨b2,o2,rfl,e1⟩:=(HA.out.2.keep HAl.out.2).at_ (i:=k) (by rw [HN.out.2]; exact hkn)
    by_cases he:a.getD k 0=b.getD k 0
    ·have HE:=bH he
     rw [he] at e0
     clear he
     generalize b.getD k 0=s at e0 e1
     go_upto_region 6 with fail
     go_quiet (fail)
     go_wp2
     go_roundg (n - (k+1))
     case measure=>omega
     case rel=>exact ⟨k+1,by omega,rfl,by go_num,fun i hi=>by
      by_cases e:i=k
      ·subst e; exact HE.out
      ·exact HAl.out.1 i (by omega),HAl.out.2.trans (Ext.drewN (Ext.refl _ wr) _)⟩
    ·have HE:=bH he
     obtain ⟨s,hs⟩:∃ s,a.getD k 0=s:=⟨_,rfl⟩
     obtain ⟨t,ht⟩:∃ t,b.getD k 0=t:=⟨_,rfl⟩
     rw [hs] at e0 he
     rw [ht] at e1 he
     clear hs ht
     have h2:(s == t)=false:=by simpa using he
     have h3:decide (s=t)=false:=by simpa using he
     go_upto_region 6 with fail
     go_quiet (fail)
     go_wp2
     go_ret
     exact ⟨ret_bool (by rw [decide_eq_false (fun e=>HE.out (by rw [e]))]),HAl.out.2.trans (Ext.drewN (Ext.refl _ wr) _)⟩
   ·obtain rfl:n=k:=by omega
    go_wp2
    go_ret
    exact ⟨ret_bool (by rw [decide_eq_true (ints_eq HN.out.1 HN.out.2 HAl.out.1)]),HAl.out.2⟩
 ·have h1:¬ ((n:Int)=(m:Int)):=by omega
  have h2:((n:Int) == (m:Int))=false:=by simpa using h1
  have h3:decide ((n:Int)=(m:Int))=false:=by simpa using h1
  have HE:=bH hnm
  clear hnm
  go_enter Tryz.func32,Tryz.ntmps32
  go_wp2
  go_ret
  exact ⟨ret_bool (by rw [decide_eq_false (fun e=>HE.out (by rw [<- HN.out.1,<- HN.out.2,e]))]),Ext.refl _ _⟩
theorem SameRow_any (w:World) (r:RowV) (ta tb:Option Addr) (tc td:Nat) (h1:Tms w (.slice ta r.terms.length tc) r.terms) (h2:Tms w (.slice tb r.terms.length td) r.terms) :
  Calls Tryz.prog 27 #[.agg #[.string r.name,.int .i64 r.group,.int .i64 r.kind,.slice ta r.terms.length tc,.int .i64 r.bound],.agg #[.string r.name,.int .i64 r.group,.int .i64 r.kind,.slice tb r.terms.length td,.int .i64 r.bound]] w (BoolPost w true):=by
 obtain ⟨-,-,-,-,htn,-⟩:=h1.shape
 have hmax:maxLen<=9223372036854775807:=by unfold maxLen; decide
 have HT:=bH (bI h1 h2)
 clear h1 h2
 obtain ⟨n,hn⟩:∃ n,r.terms.length=n:=⟨_,rfl⟩
 have HN:=bH hn
 rw [hn] at HT htn ⊢
 clear hn
 obtain ⟨nm,hnm⟩:∃ x,r.name=x:=⟨_,rfl⟩
 obtain ⟨gr,hgr⟩:∃ x,r.group=x:=⟨_,rfl⟩
 obtain ⟨kd,hkd⟩:∃ x,r.kind=x:=⟨_,rfl⟩
 obtain ⟨bd,hbd⟩:∃ x,r.bound=x:=⟨_,rfl⟩
 rw [hnm,hgr,hkd,hbd]
 clear hnm hgr hkd hbd
 have hxa:=(Ext.refl (fun _=>False) w).alloc (.cells #[.string nm,.int .i64 gr,.int .i64 kd,.slice ta n tc,.int .i64 bd] 35)
 have hxb:=(Ext.refl (fun _=>False) (w.alloc (.cells #[.string nm,.int .i64 gr,.int .i64 kd,.slice ta n tc,.int .i64 bd] 35))).alloc (.cells #[.string nm,.int .i64 gr,.int .i64 kd,.slice tb n td,.int .i64 bd] 35)
 have hb2:blk ((w.alloc (.cells #[.string nm,.int .i64 gr,.int .i64 kd,.slice ta n tc,.int .i64 bd] 35)).alloc (.cells #[.string nm,.int .i64 gr,.int .i64 kd,.slice tb n td,.int .i64 bd] 35)) (w.heap.size+1)=some (.cells #[.string nm,.int .i64 gr,.int .i64 kd,.slice tb n td,.int .i64 bd] 35 (0,0)):=by
  have h:=blk_alloc_at (w.alloc (.cells #[.string nm,.int .i64 gr,.int .i64 kd,.slice ta n tc,.int .i64 bd] 35)) (.cells #[.string nm,.int .i64 gr,.int .i64 kd,.slice tb n td,.int .i64 bd] 35)
  rwa [World.size_alloc] at h
 have HB:=bH (bI (blk_keep (blk_alloc_at w (.cells #[.string nm,.int .i64 gr,.int .i64 kd,.slice ta n tc,.int .i64 bd] 35)) hxb) (bI hb2 (hxa.trans hxb)))
 clear hxa hxb hb2
 go_enter Tryz.func27,Tryz.ntmps27
 go_upto_region 1 with fail
 generalize (w.alloc (.cells #[.string nm,.int .i64 gr,.int .i64 kd,.slice ta n tc,.int .i64 bd] 35)).alloc (.cells #[.string nm,.int .i64 gr,.int .i64 kd,.slice tb n td,.int .i64 bd] 35)=w1 at *
 obtain ⟨rb,hrb⟩:∃ q,w.heap.size=q:=⟨_,rfl⟩
 rw [hrb] at HB ⊢
 clear hrb
 have e0:=cellq HB.out.1 0 rfl
 have e1:=cellq HB.out.1 1 rfl
 have e2:=cellq HB.out.1 2 rfl
 have e3:=cellq HB.out.1 3 rfl
 have e4:=cellq HB.out.1 4 rfl
 have f0:=cellq HB.out.2.1 0 rfl
 have f1:=cellq HB.out.2.1 1 rfl
 have f2:=cellq HB.out.2.1 2 rfl
 have f3:=cellq HB.out.2.1 3 rfl
 have f4:=cellq HB.out.2.1 4 rfl
 have hq:(nm.toList == nm.toList)=true:=by simp
 go_upto_region 3 with fail
 clear e0 e1 e2 e4 f0 f1 f2 f4 hq
 go_wp2_with fail
 go_loopg [5] n (fun gg v5 wr=>∃ k:Nat,k<=n/\gg=n - k/\v5=.int .i64 k/\XF w1 wr)
 case atStart=>exact ⟨0,Nat.zero_le _,rfl,rfl,Ext.refl _ _⟩
 case round =>
  clear e3 f3
  obtain ⟨k,hk,rfl,rfl,hx⟩:=hrel
  have HX:=bH hx
  clear hx
  have e3:=cellq (blk_keep HB.out.1 HX.out) 3 rfl
  have f3:=cellq (blk_keep HB.out.2.1 HX.out) 3 rfl
  by_cases hkn:k<n
  ·have k0:(k:Int)<(n:Int):=by omega
   have k1:(0:Int)<=(k:Int):=by omega
   have hkl:k<r.terms.length:=by rw [HN.out]; exact hkn
   obtain ⟨b1,o1,rfl,-,g0,g1,-⟩:=(HT.out.1.keep (HB.out.2.2.trans HX.out)).at k hkl
   obtain ⟨b2,o2,rfl,-,j0,j1,-⟩:=(HT.out.2.keep (HB.out.2.2.trans HX.out)).at k hkl
   generalize r.terms.getD k term0=t at *
   obtain ⟨tv,tc⟩:=t
   dsimp only at g0 g1 j0 j1
   clear hkl
   go_upto_region 6 with fail
   go_quiet (fail)
   go_wp2
   go_roundg (n - (k+1))
   case measure=>omega
   case rel=>exact ⟨k+1,by omega,rfl,by go_num,HX.out.trans (Ext.drewN (Ext.refl _ wr) _)⟩
  ·obtain rfl:n=k:=by omega
   go_wp2
   go_ret
   exact ⟨rfl,HB.out.2.2.trans HX.out⟩
theorem Tryz.infoVar:(Tryz.prog.info? 73).map (fun i=>(i.zero,i.size,i.bytes))=some (some (.agg #[.int .i64 0,.int .i64 0,.bool false,.bool false,.int .i64 0]),5,32):=by kernel_rfl
section
variable {β:Type} {f:β->List Value} {T ts:TypeId}
end
theorem cV_one (x:VarV):∀ u ∈ cV x,u.oneCell'=true:=fun u hu=>by
 simp [cV] at hu
 rcases hu with rfl | rfl | rfl | rfl | rfl <;> rfl
theorem typ_ne {w:World} {k k':Nat} {T T':TypeId} {a a':Array Value} (h:blk w k=some (.cells a T (0,0))) (h':blk w k'=some (.cells a' T' (0,0))) (hn:T≠T'):k≠k':=fun e=>by
 subst e
 rw [h] at h'
 cases h'
 exact hn rfl
def TyB (w:World) (k:Nat) (T:TypeId):Prop:=∃ arr,blk w k=some (.cells arr T (0,0))
theorem TyB.ne {w:World} {k k':Nat} {T T':TypeId} (h:TyB w k T) (h':TyB w k' T') (hn:T≠T'):k≠k':=by
 obtain ⟨a,h1⟩:=h
 obtain ⟨b,h2⟩:=h'
 exact typ_ne h1 h2 hn
theorem wpList_append_el {w:World} {ops:Array Oper} {rest:List Oper} {o:Oper} {a:Act} {Q:Exit->Act->World->Prop} {β:Type} {f:β->List Value} {T ts:TypeId} {z:Value} {size bytes:Nat} (hgd:o.guard=none) (s x:Operand)
  (ho:o.op=.call { callee:=.builtin .append,args:=#[s,x],argTypes:=#[ts,ts] }) (hf:∀ x,(f x).length=size) (x0:β) (h1:∀ u ∈ f x0,u.oneCell'=true) (ht:Tryz.prog.underlying ts=some (.slice T)) (hi:(Tryz.prog.info? T).map (fun i=>(i.zero,i.size,i.bytes))=some (some z,size,bytes)) (hz:z.cells.size=size) (hsz:0<size) (hbs:bytes<=1000)
  (base:Nat) (v:Value) (l:List β) (hs:a.eval s=v) (hown:w.ownsRow base T size v l.length (l.flatMap f)) (ad:Addr) (c:Nat) (hx:a.eval x=.slice (some ad) 1 c) (hsrc:∀ j u,(f x0)[j]?=some u->w.cell? (ad.add j)=some u) (hl:l.length<=100000) (hbase:base<=w.heap.size)
  (h:∀ v' w',w'.ownsRow base T size v' (l++[x0]).length ((l++[x0]).flatMap f)->Ext (fun k=>v.ownBlock=some k) w w'->(v'.ownBlock=v.ownBlock∨v'.ownBlock=some w.heap.size)->wpList Tryz.prog ops Q rest (a.put o.dst v') w') :
  wpList Tryz.prog ops Q (o :: rest) a w:=by
 obtain ⟨i0,hi0,hz0,hz1,hz2⟩:=info_parts hi
 refine wpList_append_any hgd s x ts ho base T i0 z size bytes ht hi0 hz0 hz1 hz2 hz hsz v l.length (l.flatMap f) hs hown (some ad) 1 c (fun e=>by cases e) (f x0) hx (by rw [hf,Nat.one_mul]) (.inr ⟨ad,rfl,hsrc⟩) h1 (by unfold maxLen; omega) (Nat.le_trans (Nat.mul_le_mul (show l.length+1<=100001 by omega) hbs) (by decide)) hbase (fun v' w' g1 g2 g3=>h v' w' ?_ ?_ g3)
 ·rw [List.length_append,List.flatMap_append]
  simpa using g1
 ·exact (Ext.refl (fun k=>v.ownBlock=some k) w).grown g2 (fun k hk _=>hk)
theorem own_ty {w:World} {base:Nat} {T:TypeId} {s n:Nat} {v:Value} {xs:List Value} (h:w.ownsRow base T s v n xs):∀ g,v.ownBlock=some g->TyB w g T:=fun g hg=>by
 rcases h.2 with ⟨rfl,_⟩ | ⟨g2,cap,cur,rfl,_,h2,_⟩
 ·cases hg
 ·cases hg; exact ⟨_,h2⟩
theorem own_down {w:World} {b b' s n:Nat} {T:TypeId} {v:Value} {xs:List Value} (h:w.ownsRow b T s v n xs) (hb:b'<=b):w.ownsRow b' T s v n xs:=by
 refine ⟨h.1,?_⟩
 rcases h.2 with h | ⟨g,cap,cur,e,h1,h2⟩
 ·exact .inl h
 ·exact .inr ⟨g,cap,cur,e,Nat.le_trans hb h1,h2⟩
theorem own_sl {β:Type} {f:β->List Value} {m:Nat} {w:World} {base:Nat} {T:TypeId} {v:Value} {l:List β} (hf:∀ x,(f x).length=m) (h:w.ownsRow base T m v l.length (l.flatMap f)):Sl w v m (l.map f):=by
 rcases h.2 with ⟨rfl,h0⟩ | ⟨g,cap,cur,rfl,hb,hg,hnc,hcm,hcs,htake⟩
 ·exact ⟨none,0,by rw [List.length_map,h0],by rw [List.length_map,h0]; exact Nat.le_refl _,by unfold maxLen; decide,fun _=>rfl,fun h=>by rw [List.length_map,h0] at h; exact absurd h (Nat.lt_irrefl 0)⟩
 ·refine ⟨some ⟨g,0,none⟩,cap,by rw [List.length_map],by rw [List.length_map]; exact hnc,hcm,(fun e=>by cases e),fun _=>⟨g,0,rfl,blk_lt hg,fun i r hi j u hu=>?_⟩⟩
  rw [List.getElem?_map] at hi
  obtain ⟨x,hx,rfl⟩:=Option.map_eq_some_iff.1 hi
  have hj:j<m:=by rw [<- hf x]; exact (List.getElem?_eq_some_iff.1 hu).1
  have hget:=fm_get hf l i hx j hj
  rw [hu,<- htake,List.getElem?_take] at hget
  rw [Nat.zero_add,cell_of_cells hg,<- Array.getElem?_toList]
  split at hget
  ·exact hget
  ·cases hget
theorem sl_lies {β:Type} {f:β->List Value} {m:Nat} {w:World} {ao:Option Addr} {n c:Nat} {l:List β} (hm:0<m) (hf:∀ x,(f x).length=m) (h:Sl w (.slice ao n c) m (l.map f)):n=l.length/\(ao=none->c=0)/\Lies w ao l.length (l.flatMap f):=by
 obtain ⟨ao',c',e,h1,h2,h3,h4⟩:=h
 cases e
 rw [List.length_map] at h4 ⊢
 refine ⟨rfl,h3,?_⟩
 by_cases h0:l.length=0
 ·exact .inl h0
 ·obtain ⟨b,off,rfl,hb,hc⟩:=h4 (by omega)
  refine .inr ⟨_,rfl,fun j u hu=>?_⟩
  have hj:j<l.length*m:=by
   have:=(List.getElem?_eq_some_iff.1 hu).1
   rwa [fm_length hf] at this
  have hi:j / m<l.length:=(Nat.div_lt_iff_lt_mul hm).2 hj
  have hr:j % m<m:=Nat.mod_lt _ hm
  have hg:=fm_get (f:=f) (m:=m) hf l (j / m) (List.getElem?_eq_getElem hi) (j % m) hr
  rw [Nat.div_add_mod'] at hg
  have:=hc (j / m) _ (by rw [List.getElem?_map,List.getElem?_eq_getElem hi]; rfl) (j % m) u (hg.symm.trans hu)
  rw [Nat.add_assoc,Nat.div_add_mod'] at this
  simpa [Addr.add_lit] using this
theorem wpList_append_list {w:World} {ops:Array Oper} {rest:List Oper} {o:Oper} {a:Act} {Q:Exit->Act->World->Prop} {β:Type} {f:β->List Value} {T ts:TypeId} {z:Value} {size bytes:Nat} {l:List β} (hgd:o.guard=none) (s x:Operand)
  (ho:o.op=.call { callee:=.builtin .append,args:=#[s,x],argTypes:=#[ts,ts] }) (hf:∀ x,(f x).length=size) (l2:List β) (h1:∀ x ∈ l2,∀ u ∈ f x,u.oneCell'=true) (ht:Tryz.prog.underlying ts=some (.slice T)) (hi:(Tryz.prog.info? T).map (fun i=>(i.zero,i.size,i.bytes))=some (some z,size,bytes)) (hz:z.cells.size=size) (hsz:0<size) (hbs:bytes<=1000)
  (base:Nat) (v:Value) (hs:a.eval s=v) (hown:w.ownsRow base T size v l.length (l.flatMap f)) (ao:Option Addr) (n c:Nat) (hx:a.eval x=.slice ao n c) (hsl:Sl w (.slice ao n c) size (l2.map f)) (hl:l.length+l2.length<=1000) (hbase:base<=w.heap.size)
  (h:∀ v' w',w'.ownsRow base T size v' (l++l2).length ((l++l2).flatMap f)->Ext (fun k=>v.ownBlock=some k) w w'->(v'.ownBlock=v.ownBlock∨v'.ownBlock=some w.heap.size)->wpList Tryz.prog ops Q rest (a.put o.dst v') w') :
  wpList Tryz.prog ops Q (o :: rest) a w:=by
 obtain ⟨i0,hi0,hz0,hz1,hz2⟩:=info_parts hi
 obtain ⟨rfl,hc,hnews⟩:=sl_lies hsz hf hsl
 refine wpList_append_any hgd s x ts ho base T i0 z size bytes ht hi0 hz0 hz1 hz2 hz hsz v l.length (l.flatMap f) hs hown ao l2.length c hc (l2.flatMap f) hx (fm_length hf l2) hnews (fun u hu=>?_) (by unfold maxLen; omega) (Nat.le_trans (Nat.mul_le_mul hl hbs) (by decide)) hbase (fun v' w' g1 g2 g3=>h v' w' ?_ ?_ g3)
 ·obtain ⟨x,hm,hu⟩:=List.mem_flatMap.1 hu
  exact h1 x hm u hu
 ·rw [List.length_append,List.flatMap_append]
  exact g1
 ·exact (Ext.refl (fun k=>v.ownBlock=some k) w).grown g2 (fun k hk _=>hk)
theorem wpList_append_new {w:World} {ops:Array Oper} {rest:List Oper} {o:Oper} {a:Act} {Q:Exit->Act->World->Prop} {β:Type} {f:β->List Value} {T ts:TypeId} {z:Value} {size bytes:Nat} (hgd:o.guard=none) (s x:Operand)
  (ho:o.op=.call { callee:=.builtin .append,args:=#[s,x],argTypes:=#[ts,ts] }) (hf:∀ x,(f x).length=size) (l2:List β) (h1:∀ x ∈ l2,∀ u ∈ f x,u.oneCell'=true) (ht:Tryz.prog.underlying ts=some (.slice T)) (hi:(Tryz.prog.info? T).map (fun i=>(i.zero,i.size,i.bytes))=some (some z,size,bytes)) (hz:z.cells.size=size) (hsz:0<size) (hbs:bytes<=1000)
  (base:Nat) (v:Value) (hs:a.eval s=v) (hown:w.ownsRow base T size v 0 []) (ao:Option Addr) (n c:Nat) (hx:a.eval x=.slice ao n c) (hsl:Sl w (.slice ao n c) size (l2.map f)) (hl:l2.length<=1000) (hbase:base<=w.heap.size)
  (h:∀ v' w',w'.ownsRow base T size v' l2.length (l2.flatMap f)->Ext (fun k=>v.ownBlock=some k) w w'->(v'.ownBlock=v.ownBlock∨v'.ownBlock=some w.heap.size)->wpList Tryz.prog ops Q rest (a.put o.dst v') w') :
  wpList Tryz.prog ops Q (o :: rest) a w:=wpList_append_list (l:=[]) hgd s x ho hf l2 h1 ht hi hz hsz hbs base v hs hown ao n c hx hsl (by rw [List.length_nil,Nat.zero_add]; exact hl) hbase h
section
variable {w0 w w':World} {ob:Nat} {va v v':Value} {vars:List VarV} {prs:List RT} {y:RT}
end
section
variable {P:Program} {md:Region.Mode} {ops:Array Oper} {Q:Exit->Act->World->Prop} {S:World->Prop} {k:Nat->Bool}
def EndsL (P:Program) (md:Region.Mode) (ops:Array Oper) (Q:Exit->Act->World->Prop) (S:World->Prop) (k:Nat->Bool):Nat->Array Bool->Act->World->Prop
 | 0,ls,a,w=>Region.ready md ops ls=[]/\Q .normal a w
 | n+1,ls,a,w=>(Region.ready md ops ls=[]->Q .normal a w)/\∀ i ∈ Region.ready md ops ls,wpOp P ops Q i (fun a' w'=>(k i=false->S w')/\EndsL P md ops Q S k n (ls.setIfInBounds i true) a' w') a w
theorem EndsL.any:∀ (n:Nat) (ls:Array Bool) (a:Act) (w:World),EndsL P md ops Q S k n ls a w->wpAny P md ops Q n ls a w
 | 0,_,_,_,h=>h
 | n+1,_,_,_,h=>⟨h.1,fun i hi=>wpOp_mono (fun a w h=>EndsL.any n _ a w h.2) (h.2 i hi)⟩
def Wts (md:Region.Mode) (ops:Array Oper) (j i:Nat):Prop:=∃ ok,ops[j]?=some ok/\∃ e ∈ ok.after,Region.binds md e=true/\e.on=i
theorem EndsL.take {i:Nat} {oi:Oper} {v:Value} (hi:ops[i]?=some oi) (hsel:∀ (j:Nat) (o:Oper) cs b,ops[j]?=some o->o.op≠.select cs b) (hQ:∀ c a w,Q (.panic c) (a.put oi.dst v) w->Q (.panic c) a w) :
  ∀ (n:Nat) (ls:Array Bool) (a:Act) (w:World),Apart md ops i oi ls->i ∈ Region.ready md ops ls->(k i=false/\∀ j,k j=true->Wts md ops j i∨∃ p,Wts md ops j p/\Wts md ops p i)->(∀ p,Wts md ops p i->ls.getD p false=false)->YieldsIf P ops S oi v a->S w->EndsL P md ops Q S k n (ls.setIfInBounds i true) (a.put oi.dst v) w->EndsL P md ops Q S k (n+1) ls a w:=by
 have first:∀ (n:Nat) (ls:Array Bool) (a:Act) (w:World),i ∈ Region.ready md ops ls->YieldsIf P ops S oi v a->S w->EndsL P md ops Q S k n (ls.setIfInBounds i true) (a.put oi.dst v) w->wpOp P ops Q i (fun a' w'=>(k i=false->S w')/\EndsL P md ops Q S k n (ls.setIfInBounds i true) a' w') a w :=
  fun n ls a w _ hy hS H=>hy.wpOp hi hS ⟨fun _=>hS,H⟩
 intro n
 induction n with
 | zero =>
  intro ls a w _ hr _ _ hy hS H
  refine ⟨fun h=>(by rw [h] at hr; cases hr),fun j hj=>?_⟩
  rcases Decidable.em (j=i) with e | e
  ·rw [e]; exact first 0 ls a w hr hy hS H
  ·have:=ready_mono hj e
   rw [H.1] at this; cases this
 | succ n ih =>
  intro ls a w hap hr hk hnl hy hS H
  refine ⟨fun h=>(by rw [h] at hr; cases hr),fun j hj=>?_⟩
  rcases Decidable.em (j=i) with e | e
  ·rw [e]; exact first (n+1) ls a w hr hy hS H
  ·obtain ⟨hju,oj,hoj,_⟩:=mem_ready.1 hj
   have h2:=wpOp_putIf hoj (hap j oj hoj e hju (unlisted hr hoj hj)) (fun cs b=>hsel i oi cs b hi) (fun cs b=>hsel j oj cs b hoj) hQ hy (H.2 j (ready_mono hj e))
   refine wpOp_mono (fun a' w' h3=>?_) h2
   have hr':i ∈ Region.ready md ops (ls.setIfInBounds j true):=ready_mono hr (Ne.symm e)
   have hjk:k j=false:=by
    cases hkj:k j with
    | false=>rfl
    | true =>
     have hno:∀ p,Wts md ops j p->p≠i/\ls.getD p false=true:=fun p ⟨ok,ho,e',he,hb,hon⟩=>by
      rw [hoj] at ho; cases ho
      refine ⟨fun ep=>unlisted hr hoj hj e' he hb (hon.trans ep),?_⟩
      obtain ⟨_,o2,ho2,hall⟩:=mem_ready.1 hj
      rw [hoj] at ho2; cases ho2
      rw [<- hon]; exact hall e' he hb
     rcases hk.2 j hkj with h4 | ⟨p,h4,h5⟩
     ·exact absurd rfl (hno i h4).1
     ·have h6:=(hno p h4).2
      rw [hnl p h5] at h6; cases h6
   have hnl':∀ p,Wts md ops p i->(ls.setIfInBounds j true).getD p false=false:=fun p hp=>by
    have hpj:p≠j:=fun ep=>by
     obtain ⟨ok,ho,e',he,hb,hon⟩:=hp
     rw [ep,hoj] at ho; cases ho
     exact unlisted hr hoj hj e' he hb hon
    rw [getD_set_ne false (Ne.symm hpj)]; exact hnl p hp
   have hS':S w':=h3.2.1 hjk
   exact ⟨fun _=>hS',ih _ a' w' (hap.next hju) hr' hk hnl' h3.1 hS' (by rw [Array.setIfInBounds_comm _ _ e]; exact h3.2.2)⟩
end
section
variable {P:Program} {md:Region.Mode} {l:List Oper} {Q:Exit->Act->World->Prop} {S:World->Prop} {k:Nat}
def waits2 (md:Region.Mode) (l:List Oper) (j i:Nat):Bool:=waits md l j i || (List.range l.length).any fun p=>waits md l j p && waits md l p i
def waitsL (md:Region.Mode) (l:List Oper) (k i:Nat):Bool:=decide (i<k) && (List.range l.length).all fun j=>!decide (k<=j) || waits2 md l j i
def idleL (md:Region.Mode) (l:List Oper) (ls:Array Bool) (i:Nat):Bool:=(List.range l.length).all fun p=>!waits md l p i || !ls.getD p false
theorem wts_of {j i:Nat} (h:waits md l j i=true):Wts md l.toArray j i:=waits_spec h
theorem of_wts {j i:Nat} (h:Wts md l.toArray j i):waits md l j i=true:=by
 obtain ⟨ok,ho,e,he,hb,hon⟩:=h
 have ho':l[j]?=some ok:=by simpa using ho
 unfold waits
 rw [ho']
 exact Array.any_eq_true'.2 ⟨e,he,by rw [hb,hon]; simp⟩
theorem idleL_spec {ls:Array Bool} {i:Nat} (h:idleL md l ls i=true):∀ p,Wts md l.toArray p i->ls.getD p false=false:=fun p hp=>by
 have hlt:p<l.length:=by
  obtain ⟨ok,ho,_⟩:=hp
  have:=(Array.getElem?_eq_some_iff.1 ho).1
  simpa using this
 unfold idleL at h
 have h2:=List.all_eq_true.1 h p (List.mem_range.2 hlt)
 rw [of_wts hp] at h2
 simpa using h2
theorem waitsL_spec {i:Nat} (h:waitsL md l k i=true):(fun j=>decide (k<=j) && decide (j<l.length)) i=false/\∀ j,(fun j=>decide (k<=j) && decide (j<l.length)) j=true->Wts md l.toArray j i∨∃ p,Wts md l.toArray j p/\Wts md l.toArray p i:=by
 unfold waitsL at h
 simp only [Bool.and_eq_true,decide_eq_true_eq,List.all_eq_true] at h
 refine ⟨by simp only [Bool.and_eq_false_iff,decide_eq_false_iff_not]; left; omega,fun j hj=>?_⟩
 simp only [Bool.and_eq_true,decide_eq_true_eq] at hj
 have h2:=h.2 j (List.mem_range.2 hj.2)
 rw [decide_eq_true hj.1] at h2
 have h3:waits2 md l j i=true:=by simpa using h2
 unfold waits2 at h3
 rw [Bool.or_eq_true] at h3
 rcases h3 with h3 | h3
 ·exact .inl (wts_of h3)
 ·obtain ⟨p,_,hp⟩:=List.any_eq_true.1 h3
  rw [Bool.and_eq_true] at hp
  exact .inr ⟨p,wts_of hp.1,wts_of hp.2⟩
abbrev EndsK (P:Program) (md:Region.Mode) (l:List Oper) (Q:Exit->Act->World->Prop) (S:World->Prop) (k:Nat) (n:Nat) (ls:Array Bool) (a:Act) (w:World):Prop:=EndsL P md l.toArray Q S (fun j=>decide (k<=j) && decide (j<l.length)) n ls a w
theorem lt (i:Nat) {oi:Oper} {v:Value} {fuel:Nat} {listed:Array Bool} {a:Act} {w:World} (hi:l[i]?=some oi:=by rfl) (hs:Region.noSelect l.toArray=true:=by kernel_rfl) (hf:Region.free md l.toArray listed i=true:=by kernel_rfl)
  (hr:(Region.ready md l.toArray listed).contains i=true:=by kernel_rfl) (hk:waitsL md l k i=true:=by kernel_rfl) (hnl:idleL md l listed i=true:=by kernel_rfl) (hQ:∀ c a w,Q (.panic c) (a.put oi.dst v) w->Q (.panic c) a w:=by exact fun _ _ _ h=>h) (hw:Region.wanted oi (yielded l.toArray a.tmps)=true:=by rfl)
  (he:∀ w,S w->(execOp a.eval oi).run P w=.ok (.value v) w:=by (intro w hSw; (try go_frame); (try dsimp only at hSw); go_simp) <;> with_reducible rfl) (hS:S w:=by assumption) (h:EndsK P md l Q S k fuel (listed.setIfInBounds i true) (a.put oi.dst v) w):EndsK P md l Q S k (fuel+1) listed a w :=
 have hi':l.toArray[i]?=some oi:=by simpa using hi
 EndsL.take hi' (Region.noSelect_spec hs) hQ fuel listed a w (Region.free_spec hi' hf) (by simpa using hr) (waitsL_spec hk) (idleL_spec hnl) (.inl ⟨hw,he⟩) hS h
theorem lst (i:Nat) {oi:Oper} {fuel:Nat} {listed:Array Bool} {a:Act} {w:World} (hi:l[i]?=some oi:=by rfl) (hr:Region.ready md l.toArray listed=[i]:=by kernel_rfl)
  (h:∀ K':Act->World->Prop,Shut (∀ a w,S w->(S w->EndsK P md l Q S k fuel (listed.setIfInBounds i true) a w)->K' a w)->if Region.wanted oi (yielded l.toArray a.tmps)=true then Oper.wp P oi a w K' Q else K' (a.put oi.dst undef) w) :
  EndsK P md l Q S k (fuel+1) listed a w:=by
 refine ⟨fun h0=>(by rw [hr] at h0; cases h0),fun j hj=>?_⟩
 rw [hr] at hj
 obtain rfl:=List.mem_singleton.1 hj
 exact wpOp_step (by simpa using hi) (fun K' hK=>h K' (fun a w hS hW=>hK a w ⟨fun _=>hS,hW hS⟩))
theorem ll (i:Nat) {oi:Oper} {fuel:Nat} {listed:Array Bool} {a:Act} {w:World} (hi:l[i]?=some oi:=by rfl) (hr:Region.ready md l.toArray listed=[i]:=by kernel_rfl) (hk:(decide (k<=i) && decide (i<l.length))=true:=by kernel_rfl)
  (h:∀ K':Act->World->Prop,Shut (∀ a w,EndsK P md l Q S k fuel (listed.setIfInBounds i true) a w->K' a w)->if Region.wanted oi (yielded l.toArray a.tmps)=true then Oper.wp P oi a w K' Q else K' (a.put oi.dst undef) w) :
  EndsK P md l Q S k (fuel+1) listed a w:=by
 refine ⟨fun h0=>(by rw [hr] at h0; cases h0),fun j hj=>?_⟩
 rw [hr] at hj
 obtain rfl:=List.mem_singleton.1 hj
 exact wpOp_step (by simpa using hi) (fun K' hK=>h K' (fun a w hW=>hK a w ⟨fun e=>absurd (hk.symm.trans e) (by decide),hW⟩))
theorem ldone {listed:Array Bool} {a:Act} {w:World} (hr:Region.ready md l.toArray listed=[]) (h:Q .normal a w):∀ fuel,EndsK P md l Q S k fuel listed a w
 | 0=>⟨hr,h⟩
 | _+1=>⟨fun _=>h,by rw [hr]; simp⟩
theorem lbegin {id:Nat} {a:Act} {w:World} (k:Nat) (S:World->Prop) (hm:P.follows .mixedOrders=true) (hS:S w.drew)
  (h:S w.drew->EndsK P .any l Q S k l.toArray.size (Array.replicate l.toArray.size false) a w.drew):(Code.region id l.toArray true).wp P Q a w :=
 wp_region_any hm (EndsL.any _ _ _ _ (h hS))
end
section
variable {P:Program} {md:Region.Mode} {ops:Array Oper} {Q:Exit->Act->World->Prop} {S S':World->Prop} {k:Nat->Bool}
def EndsM (P:Program) (md:Region.Mode) (ops:Array Oper) (Q:Exit->Act->World->Prop) (S:World->Prop) (k:Nat->Bool):Nat->Array Bool->Act->World->Prop
 | 0,ls,a,w=>Region.ready md ops ls=[]/\Q .normal a w
 | n+1,ls,a,w=>(Region.ready md ops ls=[]->Q .normal a w)/\∀ i ∈ Region.ready md ops ls,wpOp P ops Q i (fun a' w'=>(k i=false->S w->S w')/\EndsM P md ops Q S k n (ls.setIfInBounds i true) a' w') a w
theorem EndsM.any:∀ (n:Nat) (ls:Array Bool) (a:Act) (w:World),EndsM P md ops Q S k n ls a w->wpAny P md ops Q n ls a w
 | 0,_,_,_,h=>h
 | n+1,_,_,_,h=>⟨h.1,fun i hi=>wpOp_mono (fun a w h=>EndsM.any n _ a w h.2) (h.2 i hi)⟩
theorem EndsM.takeF {i:Nat} {oi:Oper} {v:Value} (hi:ops[i]?=some oi) (hsel:∀ (j:Nat) (o:Oper) cs b,ops[j]?=some o->o.op≠.select cs b) (hQ:∀ c a w,Q (.panic c) (a.put oi.dst v) w->Q (.panic c) a w) :
  ∀ (n:Nat) (ls:Array Bool) (a:Act) (w:World),Apart md ops i oi ls->i ∈ Region.ready md ops ls->YieldsIf P ops (fun _=>True) oi v a->EndsM P md ops Q S k n (ls.setIfInBounds i true) (a.put oi.dst v) w->EndsM P md ops Q S k (n+1) ls a w:=by
 have first:∀ (n:Nat) (ls:Array Bool) (a:Act) (w:World),YieldsIf P ops (fun _=>True) oi v a->EndsM P md ops Q S k n (ls.setIfInBounds i true) (a.put oi.dst v) w->wpOp P ops Q i (fun a' w'=>(k i=false->S w->S w')/\EndsM P md ops Q S k n (ls.setIfInBounds i true) a' w') a w :=
  fun n ls a w hy H=>hy.wpOp hi trivial ⟨fun _ hs=>hs,H⟩
 intro n
 induction n with
 | zero =>
  intro ls a w _ hr hy H
  refine ⟨fun h=>(by rw [h] at hr; cases hr),fun j hj=>?_⟩
  rcases Decidable.em (j=i) with e | e
  ·rw [e]; exact first 0 ls a w hy H
  ·have:=ready_mono hj e
   rw [H.1] at this; cases this
 | succ n ih =>
  intro ls a w hap hr hy H
  refine ⟨fun h=>(by rw [h] at hr; cases hr),fun j hj=>?_⟩
  rcases Decidable.em (j=i) with e | e
  ·rw [e]; exact first (n+1) ls a w hy H
  ·obtain ⟨hju,oj,hoj,_⟩:=mem_ready.1 hj
   have h2:=wpOp_putIf hoj (hap j oj hoj e hju (unlisted hr hoj hj)) (fun cs b=>hsel i oi cs b hi) (fun cs b=>hsel j oj cs b hoj) hQ hy (H.2 j (ready_mono hj e))
   refine wpOp_mono (fun a' w' h3=>?_) h2
   have hr':i ∈ Region.ready md ops (ls.setIfInBounds j true):=ready_mono hr (Ne.symm e)
   exact ⟨h3.2.1,ih _ a' w' (hap.next hju) hr' h3.1 (by rw [Array.setIfInBounds_comm _ _ e]; exact h3.2.2)⟩
theorem EndsM.takeD {i:Nat} {oi:Oper} {v:Value} (D:Nat->Prop) (hi:ops[i]?=some oi) (hsel:∀ (j:Nat) (o:Oper) cs b,ops[j]?=some o->o.op≠.select cs b) (hQ:∀ c a w,Q (.panic c) (a.put oi.dst v) w->Q (.panic c) a w)
  (hD:∀ p,D p->∃ q,Wts md ops p q/\(q=i∨D q)) (hk:k i=false/\∀ j,k j=true->D j) :
  ∀ (n:Nat) (ls:Array Bool) (a:Act) (w:World),Apart md ops i oi ls->i ∈ Region.ready md ops ls->(∀ p,D p->ls.getD p false=false)->YieldsIf P ops S oi v a->S w->EndsM P md ops Q S k n (ls.setIfInBounds i true) (a.put oi.dst v) w->EndsM P md ops Q S k (n+1) ls a w:=by
 have first:∀ (n:Nat) (ls:Array Bool) (a:Act) (w:World),i ∈ Region.ready md ops ls->YieldsIf P ops S oi v a->S w->EndsM P md ops Q S k n (ls.setIfInBounds i true) (a.put oi.dst v) w->wpOp P ops Q i (fun a' w'=>(k i=false->S w->S w')/\EndsM P md ops Q S k n (ls.setIfInBounds i true) a' w') a w :=
  fun n ls a w _ hy hS H=>hy.wpOp hi hS ⟨fun _ hs=>hs,H⟩
 intro n
 induction n with
 | zero =>
  intro ls a w _ hr _ hy hS H
  refine ⟨fun h=>(by rw [h] at hr; cases hr),fun j hj=>?_⟩
  rcases Decidable.em (j=i) with e | e
  ·rw [e]; exact first 0 ls a w hr hy hS H
  ·have:=ready_mono hj e
   rw [H.1] at this; cases this
 | succ n ih =>
  intro ls a w hap hr hnl hy hS H
  refine ⟨fun h=>(by rw [h] at hr; cases hr),fun j hj=>?_⟩
  rcases Decidable.em (j=i) with e | e
  ·rw [e]; exact first (n+1) ls a w hr hy hS H
  ·obtain ⟨hju,oj,hoj,_⟩:=mem_ready.1 hj
   have h2:=wpOp_putIf hoj (hap j oj hoj e hju (unlisted hr hoj hj)) (fun cs b=>hsel i oi cs b hi) (fun cs b=>hsel j oj cs b hoj) hQ hy (H.2 j (ready_mono hj e))
   refine wpOp_mono (fun a' w' h3=>?_) h2
   have hr':i ∈ Region.ready md ops (ls.setIfInBounds j true):=ready_mono hr (Ne.symm e)
   have hno:∀ p,Wts md ops j p->p≠i/\ls.getD p false=true:=fun p ⟨ok,ho,e',he,hb,hon⟩=>by
    rw [hoj] at ho; cases ho
    refine ⟨fun ep=>unlisted hr hoj hj e' he hb (hon.trans ep),?_⟩
    obtain ⟨_,o2,ho2,hall⟩:=mem_ready.1 hj
    rw [hoj] at ho2; cases ho2
    rw [<- hon]; exact hall e' he hb
   have hnD:¬ D j:=fun hd=>by
    obtain ⟨q,h4,h5⟩:=hD j hd
    rcases h5 with h5 | h5
    ·exact (hno q h4).1 h5
    ·have h6:=(hno q h4).2
     rw [hnl q h5] at h6; cases h6
   have hjk:k j=false:=by
    cases hkj:k j with
    | false=>rfl
    | true=>exact absurd (hk.2 j hkj) hnD
   have hnl':∀ p,D p->(ls.setIfInBounds j true).getD p false=false:=fun p hp=>by
    have hpj:p≠j:=fun ep=>hnD (ep ▸ hp)
    rw [getD_set_ne false (Ne.symm hpj)]; exact hnl p hp
   have hS':S w':=h3.2.1 hjk hS
   exact ⟨h3.2.1,ih _ a' w' (hap.next hju) hr' hnl' h3.1 hS' (by rw [Array.setIfInBounds_comm _ _ e]; exact h3.2.2)⟩
end
section
variable {P:Program} {md:Region.Mode} {l:List Oper} {Q:Exit->Act->World->Prop} {S:World->Prop} {k:Nat}
def hangs (md:Region.Mode) (o:Oper) (i:Nat) (D:List Nat):Bool:=o.after.any fun e=>Region.binds md e && (e.on == i || D.contains e.on)
def depsOf (md:Region.Mode) (i:Nat):List Oper->Nat->List Nat->List Nat
 | [],_,D=>D
 | o :: l,j,D=>depsOf md i l (j+1) (if hangs md o i D then j :: D else D)
def depsOk (md:Region.Mode) (l:List Oper) (i:Nat) (D:List Nat):Bool:=D.all fun p=>match l[p]? with | some o=>hangs md o i D | none=>false
def lateOk (l:List Oper) (k i:Nat) (D:List Nat):Bool:=decide (i<k) && (List.range l.length).all fun j=>!decide (k<=j) || D.contains j
def idleD (ls:Array Bool) (D:List Nat):Bool:=D.all fun p=>!ls.getD p false
theorem depsOk_spec {i:Nat} {D:List Nat} (h:depsOk md l i D=true):∀ p,p ∈ D->∃ q,Wts md l.toArray p q/\(q=i∨q ∈ D):=fun p hp=>by
 have h1:=List.all_eq_true.1 h p hp
 split at h1
 ·rename_i o ho
  obtain ⟨e,he,hb⟩:=Array.any_eq_true'.1 h1
  simp only [Bool.and_eq_true,Bool.or_eq_true,beq_iff_eq,List.contains_iff_mem] at hb
  exact ⟨e.on,⟨o,by simpa using ho,e,he,hb.1,rfl⟩,hb.2⟩
 ·cases h1
theorem lateOk_spec {i:Nat} {D:List Nat} (h:lateOk l k i D=true):(fun j=>decide (k<=j) && decide (j<l.length)) i=false/\∀ j,(fun j=>decide (k<=j) && decide (j<l.length)) j=true->j ∈ D:=by
 unfold lateOk at h
 simp only [Bool.and_eq_true,decide_eq_true_eq,List.all_eq_true] at h
 refine ⟨by simp only [Bool.and_eq_false_iff,decide_eq_false_iff_not]; left; omega,fun j hj=>?_⟩
 simp only [Bool.and_eq_true,decide_eq_true_eq] at hj
 have h2:=h.2 j (List.mem_range.2 hj.2)
 rw [decide_eq_true hj.1] at h2
 simpa using h2
abbrev EndsMk (P:Program) (md:Region.Mode) (l:List Oper) (Q:Exit->Act->World->Prop) (S:World->Prop) (k:Nat) (n:Nat) (ls:Array Bool) (a:Act) (w:World):Prop:=EndsM P md l.toArray Q S (fun j=>decide (k<=j) && decide (j<l.length)) n ls a w
theorem mf (i:Nat) {oi:Oper} {v:Value} {fuel:Nat} {listed:Array Bool} {a:Act} {w:World} (hi:l[i]?=some oi:=by rfl) (hs:Region.noSelect l.toArray=true:=by kernel_rfl) (hf:Region.free md l.toArray listed i=true:=by kernel_rfl)
  (hr:(Region.ready md l.toArray listed).contains i=true:=by kernel_rfl) (hQ:∀ c a w,Q (.panic c) (a.put oi.dst v) w->Q (.panic c) a w:=by exact fun _ _ _ h=>h) (hw:Region.wanted oi (yielded l.toArray a.tmps)=true:=by rfl)
  (he:∀ w,True->(execOp a.eval oi).run P w=.ok (.value v) w:=by (intro w _; (try go_frame); go_simp) <;> with_reducible rfl) (h:EndsMk P md l Q S k fuel (listed.setIfInBounds i true) (a.put oi.dst v) w):EndsMk P md l Q S k (fuel+1) listed a w :=
 have hi':l.toArray[i]?=some oi:=by simpa using hi
 EndsM.takeF hi' (Region.noSelect_spec hs) hQ fuel listed a w (Region.free_spec hi' hf) (by simpa using hr) (.inl ⟨hw,he⟩) h
theorem mu (i:Nat) {oi:Oper} {v:Value} {fuel:Nat} {listed:Array Bool} {a:Act} {w:World} (hi:l[i]?=some oi:=by rfl) (hs:Region.noSelect l.toArray=true:=by kernel_rfl) (hf:Region.free md l.toArray listed i=true:=by kernel_rfl)
  (hr:(Region.ready md l.toArray listed).contains i=true:=by kernel_rfl) (hk:depsOk md l i (depsOf md i l 0 [])=true:=by kernel_rfl) (hl:lateOk l k i (depsOf md i l 0 [])=true:=by kernel_rfl) (hnl:idleD listed (depsOf md i l 0 [])=true:=by kernel_rfl) (hQ:∀ c a w,Q (.panic c) (a.put oi.dst v) w->Q (.panic c) a w:=by exact fun _ _ _ h=>h) (hw:Region.wanted oi (yielded l.toArray a.tmps)=true:=by rfl)
  (he:∀ w,S w->(execOp a.eval oi).run P w=.ok (.value v) w:=by (intro w hSw; (try go_frame); (try dsimp only at hSw); go_simp) <;> with_reducible rfl) (hS:S w:=by assumption) (h:EndsMk P md l Q S k fuel (listed.setIfInBounds i true) (a.put oi.dst v) w):EndsMk P md l Q S k (fuel+1) listed a w :=
 have hi':l.toArray[i]?=some oi:=by simpa using hi
 EndsM.takeD (fun p=>p ∈ depsOf md i l 0 []) hi' (Region.noSelect_spec hs) hQ (depsOk_spec hk) (lateOk_spec hl) fuel listed a w (Region.free_spec hi' hf) (by simpa using hr) (fun p hp=>by have:=List.all_eq_true.1 hnl p hp; simpa using this) (.inl ⟨hw,he⟩) hS h
theorem mst (i:Nat) {oi:Oper} {fuel:Nat} {listed:Array Bool} {a:Act} {w:World} (hi:l[i]?=some oi:=by rfl) (hr:Region.ready md l.toArray listed=[i]:=by kernel_rfl)
  (h:∀ K':Act->World->Prop,Shut (∀ a w,S w->(S w->EndsMk P md l Q S k fuel (listed.setIfInBounds i true) a w)->K' a w)->if Region.wanted oi (yielded l.toArray a.tmps)=true then Oper.wp P oi a w K' Q else K' (a.put oi.dst undef) w) :
  EndsMk P md l Q S k (fuel+1) listed a w:=by
 refine ⟨fun h0=>(by rw [hr] at h0; cases h0),fun j hj=>?_⟩
 rw [hr] at hj
 obtain rfl:=List.mem_singleton.1 hj
 exact wpOp_step (by simpa using hi) (fun K' hK=>h K' (fun a w hS hW=>hK a w ⟨fun _ _=>hS,hW hS⟩))
theorem ml (i:Nat) {oi:Oper} {fuel:Nat} {listed:Array Bool} {a:Act} {w:World} (hi:l[i]?=some oi:=by rfl) (hr:Region.ready md l.toArray listed=[i]:=by kernel_rfl) (hk:(decide (k<=i) && decide (i<l.length))=true:=by kernel_rfl)
  (h:∀ K':Act->World->Prop,Shut (∀ a w,EndsMk P md l Q S k fuel (listed.setIfInBounds i true) a w->K' a w)->if Region.wanted oi (yielded l.toArray a.tmps)=true then Oper.wp P oi a w K' Q else K' (a.put oi.dst undef) w) :
  EndsMk P md l Q S k (fuel+1) listed a w:=by
 refine ⟨fun h0=>(by rw [hr] at h0; cases h0),fun j hj=>?_⟩
 rw [hr] at hj
 obtain rfl:=List.mem_singleton.1 hj
 exact wpOp_step (by simpa using hi) (fun K' hK=>h K' (fun a w hW=>hK a w ⟨fun e=>absurd (hk.symm.trans e) (by decide),hW⟩))
theorem mdone {listed:Array Bool} {a:Act} {w:World} (hr:Region.ready md l.toArray listed=[]) (h:Q .normal a w):∀ fuel,EndsMk P md l Q S k fuel listed a w
 | 0=>⟨hr,h⟩
 | _+1=>⟨fun _=>h,by rw [hr]; simp⟩
theorem mbegin {id:Nat} {a:Act} {w:World} (k:Nat) (S:World->Prop) (hm:P.follows .mixedOrders=true) (hS:S w.drew)
  (h:S w.drew->EndsMk P .any l Q S k l.toArray.size (Array.replicate l.toArray.size false) a w.drew):(Code.region id l.toArray true).wp P Q a w :=
 wp_region_any hm (EndsM.any _ _ _ _ (h hS))
end
theorem Tryz.infoTerm:(Tryz.prog.info? 70).map (fun i=>(i.zero,i.size,i.bytes))=some (some (.agg #[.int .i64 0,.int .i64 0]),2,16):=by kernel_rfl
theorem cT_len' (x:TermV):(cT x).length=2:=rfl
theorem cT_one' (x:TermV):∀ u ∈ cT x,u.oneCell'=true:=fun u hu=>by
 simp [cT] at hu
 rcases hu with rfl | rfl <;> rfl
theorem cloneV_any (w:World) (ao:Option Addr) (n c:Nat) (l:List VarV) (h:Sl w (.slice ao n c) 5 (l.map cV)) (hn:l.length<=1000):Calls Tryz.prog 97 #[.slice ao n c] w (fun r w'=>∃ v',r=.returned v'/\w'.ownsRow w.heap.size 73 5 v' l.length (l.flatMap cV)/\XF w w'):=by
 have q22:∀ (w:World) (a:Option Addr) (n c n' c':Nat),(binOp .eql 22 (.slice a n c) (.slice none n' c')).run Tryz.prog w=.ok (.bool a.isNone) w:=fun w a n c n' c'=>Lib.run_eql_slice_nil w _ _ a n c n' c' Tryz.underlying22
 cases ao with
 | none =>
  obtain ⟨rfl,hc,hl⟩:=sl_lies (by decide) cV_len h
  have h0:l=[]:=by
   rcases hl with h | ⟨a,e,_⟩
   ·exact List.eq_nil_of_length_eq_zero h
   ·cases e
  subst h0
  clear h hl hc
  go_enter Tryz.func97,Tryz.ntmps97
  go_wp2
  go_ret
  exact ⟨_,rfl,World.ownsRow_nil _ _ _ 5,Ext.refl _ _⟩
 | some ad =>
  have hx1:XF w (w.alloc (.cells #[] 73)):=(Ext.refl _ w).alloc _
  have HX:=bH (bI (h.keep hx1) (bI (show (w.alloc (.cells #[] 73)).ownsRow w.heap.size 73 5 (.slice (some ⟨w.heap.size,0,none⟩) 0 0) 0 [] from ownsRow_empty 5 (Nat.le_refl _) (blk_alloc_at w (.cells #[] 73))) hx1))
  clear h hx1
  go_enter Tryz.func97,Tryz.ntmps97
  go_wp2_with (at_builtin; refine wpList_append_new (f:=cV) rfl (.tmp 5) (.tmp 6) rfl cV_len l (fun x _=>cV_one x) Tryz.underlying22 Tryz.infoVar rfl (by decide) (by decide) w.heap.size (.slice (some ⟨w.heap.size,0,none⟩) 0 0) rfl HX.out.2.1 (some ad) n c rfl HX.out.1 hn HX.out.2.2.size ?_; intro v' w' g1 g2 g3; obtain ⟨ao9,ac9,rfl⟩:=ownsRow_shape g1)
  go_ret
  exact ⟨_,rfl,g1,HX.out.2.2.own g2 (fun k hk=>by cases hk; exact Nat.le_refl _)⟩
theorem fm_set {β:Type} {f:β->List Value} {m:Nat} (hf:∀ x,(f x).length=m):∀ (l:List β) (k:Nat) {x y:β} {j:Nat} {u:Value},l[k]?=some x->j<m->f y=(f x).set j u->(l.set k y).flatMap f=(l.flatMap f).set (k*m+j) u
 | [],k,x,y,j,u,h,_,_=>by simp at h
 | a :: l,0,x,y,j,u,h,hj,hy=>by
  simp at h
  subst h
  simp only [List.set_cons_zero,List.flatMap_cons,Nat.zero_mul,Nat.zero_add]
  rw [hy,List.set_append_left _ _ (by rw [hf]; exact hj)]
 | a :: l,k+1,x,y,j,u,h,hj,hy=>by
  simp only [List.getElem?_cons_succ] at h
  simp only [List.set_cons_succ,List.flatMap_cons]
  rw [List.set_append_right _ _ (by rw [hf,Nat.succ_mul]; omega),fm_set hf l k h hj hy,hf]
  congr 2
  rw [Nat.succ_mul]; omega
theorem typ_ne' {w:World} {k k':Nat} {T T':TypeId} (h:TyB w k T) (h':TyB w k' T') (hn:T≠T'):k≠k':=TyB.ne h h' hn
theorem SOwn.set {β:Type} {f:β->List Value} {T:TypeId} {w:World} {base g n c:Nat} {l:List β} (hf:∀ x,(f x).length=5) (h:SOwn f T w base (.slice (some ⟨g,0,none⟩) n c) l) {k j:Nat} {x y:β} {u:Value} (hk:l[k]?=some x) (hj:j<5) (hy:f y=(f x).set j u) :
  SOwn f T (w.setCell ⟨g,k*5+j,none⟩ u) base (.slice (some ⟨g,0,none⟩) n c) (l.set k y)/\w.frozen? ⟨g,k*5+j,none⟩=false/\w.cell? ⟨g,k*5+j,none⟩=(f x)[j]?/\base<=g/\TyB w g T:=by
 have hkl:k<l.length:=(List.getElem?_eq_some_iff.1 hk).1
 rcases h.2 with ⟨e,h0⟩ | ⟨g',cap,cur,e,hb,hg,hnc,hcm,hcs,htake⟩
 ·omega
 ·cases e
  have hget:=fm_get (f:=f) (m:=5) hf l k hk j hj
  refine ⟨?_,free_of_cells hg _,?_,hb,⟨_,hg⟩⟩
  ·refine ⟨by rw [List.length_set,fm_length hf]; rw [List.length_set],.inr ⟨g,c,_,by rw [List.length_set],hb,blk_setCell_same hg (k*5+j) u,by rw [List.length_set]; exact hnc,hcm,by rw [Array.size_setIfInBounds]; exact hcs,?_⟩⟩
   rw [List.length_set,fm_set hf l k hk hj hy,<- htake,Array.toList_setIfInBounds]
   rw [List.take_set]
  ·rw [cell_of_cells hg,<- Array.getElem?_toList,<- hget,<- htake,List.getElem?_take_of_lt (by omega)]
theorem oneL_snoc (vars:List VarV) (l:List Int) (v:Int):oneL vars (l++[v])=(oneL vars l).set v.toNat { (oneL vars l).getD v.toNat var0 with lo:=1 }:=by
 unfold oneL; rw [List.foldl_append]; rfl
theorem take_snoc {α:Type} {l:List α} {i:Nat} {d:α} (h:i<l.length):l.take (i+1)=l.take i++[l.getD i d]:=by
 rw [List.take_succ_eq_append_getElem h,getD_lt h]
structure QSt (w wr:World) (pb rb qb:Nat) (pc rc:Array Value) (rT:TypeId) (vv:Value) (l:List VarV):Prop where
 ext:XF w wr
 bp:blk wr pb=some (.cells pc 25 (0,0))
 br:blk wr rb=some (.cells rc rT (0,0))
 bq:blk wr qb=some (.cells #[vv,.slice none 0 0] 25 (0,0))
 own:SOwn cV 73 wr w.heap.size vv l
section
variable {w wr w':World} {pb rb qb:Nat} {pc rc:Array Value} {rT:TypeId} {vv:Value} {l:List VarV}
theorem QSt.keep (h:QSt w wr pb rb qb pc rc rT vv l) (hx:XF wr w'):QSt w w' pb rb qb pc rc rT vv l :=
 ⟨h.ext.trans hx,blk_keep h.bp hx,blk_keep h.br hx,blk_keep h.bq hx,h.own.keep hx⟩
theorem QSt.past {s:Nat} (h:QSt w wr pb rb qb pc rc rT vv l) (hx:Ext (fun k=>k=s) wr w') (hs:TyB wr s 64) (hr:rT≠64) (hl:w.heap.size<=s):QSt w w' pb rb qb pc rc rT vv l :=
 ⟨h.ext.own hx (fun k e=>by have e':k=s:=e; omega),(hx.blk (blk_lt h.bp) (fun e=>typ_ne' ⟨_,h.bp⟩ hs (by decide) e)).trans h.bp,(hx.blk (blk_lt h.br) (fun e=>typ_ne' ⟨_,h.br⟩ hs hr e)).trans h.br,(hx.blk (blk_lt h.bq) (fun e=>typ_ne' ⟨_,h.bq⟩ hs (by decide) e)).trans h.bq,
  ownsRow_ext h.own hx (fun g hg e=>typ_ne' (own_ty h.own g hg) hs (by decide) e)⟩
theorem QSt.set {g n c k:Nat} (h:QSt w wr pb rb qb pc rc rT (.slice (some ⟨g,0,none⟩) n c) l) (hr:rT≠73) (hk:k<l.length) :
  QSt w (wr.setCell ⟨g,k*5,none⟩ (.int .i64 1)) pb rb qb pc rc rT (.slice (some ⟨g,0,none⟩) n c) (l.set k { l.getD k var0 with lo:=1 })/\wr.frozen? ⟨g,k*5,none⟩=false/\∃ u,wr.cell? ⟨g,k*5,none⟩=some u:=by
 have hk2:l[k]?=some (l.getD k var0):=by rw [getD_lt hk]; exact List.getElem?_eq_getElem hk
 obtain ⟨h1,h2,h3,h4,h5⟩:=SOwn.set cV_len h.own (k:=k) (j:=0) (x:=l.getD k var0) (y:={ l.getD k var0 with lo:=1 }) (u:=.int .i64 1) hk2 (by decide) rfl
 rw [Nat.add_zero] at h1 h2 h3
 have hx:=(Ext.refl (fun k=>k=g) wr).setCell (p:=⟨g,k*5,none⟩) (.int .i64 1) (fun _=>rfl)
 exact ⟨⟨h.ext.own hx (fun k e=>by have e':k=g:=e; omega),(hx.blk (blk_lt h.bp) (fun e=>typ_ne' ⟨_,h.bp⟩ h5 (by decide) e)).trans h.bp,(hx.blk (blk_lt h.br) (fun e=>typ_ne' ⟨_,h.br⟩ h5 hr e)).trans h.br,(hx.blk (blk_lt h.bq) (fun e=>typ_ne' ⟨_,h.bq⟩ h5 (by decide) e)).trans h.bq,h1⟩,h2,_,h3⟩
theorem QSt.prg {p:ProgV} {vs:List Int} (h:QSt w wr pb rb qb pc rc rT vv (oneL p.vars vs)) (hv:∀ x ∈ p.vars,VarOk x):IsPrg wr (.agg #[vv,.slice none 0 0]) (oneP p vs):=by
 have hok:∀ x ∈ oneL p.vars vs,VarOk x:=by
  have:∀ (vs:List Int) (l:List VarV),(∀ x ∈ l,VarOk x)->∀ x ∈ oneL l vs,VarOk x:=fun vs=>by
   induction vs with
   | nil=>exact fun l h=>h
   | cons v vs ih =>
    intro l hl
    refine ih _ (fun x hx=>?_)
    rcases List.mem_or_eq_of_mem_set hx with h | h
    ·exact hl x h
    ·subst h
     have h0:VarOk (l.getD v.toNat var0):=by
      by_cases hlt:v.toNat<l.length
      ·rw [getD_lt hlt]; exact hl _ (List.getElem_mem _)
      ·rw [List.getD_eq_getElem?_getD,List.getElem?_eq_none (by omega)]
       exact ⟨(by decide:(-9223372036854775808:Int)<=0/\(0:Int)<=9223372036854775807),(by decide:(-9223372036854775808:Int)<=0/\(0:Int)<=9223372036854775807),(by decide:(-9223372036854775808:Int)<=0/\(0:Int)<=9223372036854775807)⟩
     exact ⟨(by decide:(-9223372036854775808:Int)<=1/\(1:Int)<=9223372036854775807),h0.up,h0.co⟩
  exact this vs p.vars hv
 exact ⟨_,_,rfl,⟨h.own.sl cV_len,hok⟩,⟨[],rfl,Sl.nil wr 5,fun i r tv h=>by cases h⟩⟩
end
theorem cfL_next {n:Nat} {sg:Int} {ts:List TermV} {k v:Nat} (hk:k<ts.length) (hv:(ts.getD k term0).var=v) (hn:v<n):∀ j,(fun i=>if i=v then (sg:Rat)*((ts.getD k term0).coef:Rat) else atQ (cfL n sg (ts.take k)) i) j=atQ (cfL n sg (ts.take (k+1))) j:=fun j=>by
 rw [take_snoc (d:=term0) hk,cfL_snoc,hv,show (v:Int).toNat=v by omega]
 generalize (sg:Rat)*((ts.getD k term0).coef:Rat)=c
 show (if j=v then c else atQ (cfL n sg (ts.take k)) j)=atQ ((cfL n sg (ts.take k)).set v c) j
 have hl:=cfL_length n sg (ts.take k)
 generalize cfL n sg (ts.take k)=l at *
 rw [atQ_nat,atQ_nat,List.getD_eq_getElem?_getD,List.getD_eq_getElem?_getD]
 by_cases e:j=v
 ·subst e
  rw [if_pos rfl,List.getElem?_set_self (by omega)]; rfl
 ·rw [if_neg e,List.getElem?_set_ne (fun h=>e h.symm)]
theorem listTo_atQ {l:List Rat} {n:Nat} (h:l.length=n):listTo n (fun j=>atQ l j)=l:=by
 refine List.ext_getElem (by rw [listTo_length,h]) fun i h1 h2=>?_
 simp only [listTo,List.getElem_map,List.getElem_range]
 rw [atQ_nat,getD_lt h2]
theorem cfL_sz {n:Nat} {sg:Int} (hs:InR sg) {ts:List TermV} (ht:∀ t ∈ ts,InR t.coef) (j:Nat):Sz (atQ (cfL n sg ts) j) 4:=by
 have h0:∀ (ts:List TermV),(∀ t ∈ ts,InR t.coef)->∀ (l:List Rat),(∀ q ∈ l,Sz q 4)->∀ q ∈ ts.foldl (fun l t=>l.set t.var.toNat ((sg:Rat)*(t.coef:Rat))) l,Sz q 4:=fun ts=>by
  induction ts with
  | nil=>exact fun _ l h=>h
  | cons t ts ih =>
   intro ht l hl
   refine ih (fun s hs=>ht s (List.mem_cons_of_mem _ hs)) _ (fun q hq=>?_)
   rcases List.mem_or_eq_of_mem_set hq with h | h
   ·exact hl q h
   ·rw [h]; exact (Sz.int hs).mul (Sz.int (ht t (List.mem_cons_self ..)))
 rw [atQ_nat]
 by_cases hj:j<(cfL n sg ts).length
 ·rw [getD_lt hj]
  exact h0 ts ht (List.replicate n 0) (fun q hq=>by rw [List.eq_of_mem_replicate hq]; exact Sz.zero.mono (by decide)) _ (List.getElem_mem _)
 ·rw [List.getD_eq_getElem?_getD,List.getElem?_eq_none (by omega)]
  exact Sz.zero.mono (by decide)
structure CvSt (w wr:World) (pb rb qb sb B n:Nat) (pc rc:Array Value) (vv:Value) (l:List VarV) (sg:Int) (f:Nat->Rat):Prop where
 q:QSt w wr pb rb qb pc rc 35 vv l
 arr:RArr wr B n f
 sgn:∃ ng so sn sc s2 sm2 sc2,BoxR wr sb ng (.slice so sn sc) (.slice s2 sm2 sc2)/\IsRat wr (.agg #[.bool ng,.slice so sn sc,.slice s2 sm2 sc2]) (sg:Rat)
 ord:sb<B/\w.heap.size<=sb
section
variable {w wr w':World} {pb rb qb sb B n:Nat} {pc rc:Array Value} {vv:Value} {l:List VarV} {sg:Int} {f g:Nat->Rat}
theorem CvSt.keep (h:CvSt w wr pb rb qb sb B n pc rc vv l sg f) (hx:XF wr w'):CvSt w w' pb rb qb sb B n pc rc vv l sg f :=
 ⟨h.q.keep hx,h.arr.keep hx,(by obtain ⟨ng,so,sn,sc,s2,sm2,sc2,h1,h2⟩:=h.sgn; exact ⟨ng,so,sn,sc,s2,sm2,sc2,h1.keep hx,h2.keep hx⟩),h.ord⟩
theorem CvSt.setArr (h:CvSt w wr pb rb qb sb B n pc rc vv l sg f) {j:Nat} (hj:j<n) {neg:Bool} {a1 a2:Option Addr} {m1 c1 m2 c2:Nat} {u:Rat} (hu:IsRat wr (.agg #[.bool neg,.slice a1 m1 c1,.slice a2 m2 c2]) u) (hg:∀ i,(fun k=>if k=j then u else f k) i=g i) :
  CvSt w (((wr.setCell ⟨B,j*3,none⟩ (.bool neg)).setCell ⟨B,j*3+1,none⟩ (.slice a1 m1 c1)).setCell ⟨B,j*3+2,none⟩ (.slice a2 m2 c2)) pb rb qb sb B n pc rc vv l sg g:=by
 obtain ⟨p1,p2,p3⟩:=h.arr.put hj hu
 obtain ⟨o1,o2⟩:=h.ord
 obtain ⟨arr,hb,_⟩:=h.arr.row
 refine ⟨h.q.past p2 ⟨arr,hb⟩ (by decide) (by omega),p1.congr (fun i _=>hg i),?_,h.ord⟩
 obtain ⟨ng,so,sn,sc,s2,sm2,sc2,h1,h2⟩:=h.sgn
 exact ⟨ng,so,sn,sc,s2,sm2,sc2,h1.ext p2 (fun e=>by have e':sb=B:=e; omega),(by obtain ⟨mag,dv',g1,g2,g3⟩:=h2; exact ⟨mag,dv',g1,p3 _ _ g2,p3 _ _ g3⟩)⟩
end
theorem cfL_zero {n:Nat} {sg:Int} {ts:List TermV} {i:Nat}:atQ (cfL n sg (ts.take 0)) i=0:=by
 rw [atQ_nat]; unfold cfL
 simp [List.getD_eq_getElem?_getD,List.getElem?_replicate]
 split <;> rfl
def covO:Option Rat->Rat->Bool
 | some s,c=>decide (c<s)
 | none,_=>false
theorem covB_eq (p:ProgV) (r:RowV) (vs:List Int):covB p r vs=covO (leastQ (oneP p vs) (cfL p.vars.length (sgR r) r.terms)) ((sgR r:Rat)*(r.bound:Rat)):=by
 unfold covB
 cases leastQ (oneP p vs) (cfL p.vars.length (sgR r) r.terms) <;> rfl
theorem sgR_in (r:RowV):InR (sgR r):=by unfold sgR InR; split <;> omega
theorem sgn_gt {s t:Rat}:decide (0<(s - t).num.sign)=decide (t<s):=by
 rw [decide_eq_decide]
 exact (sign_gt _).trans (by constructor <;> intro h <;> grind)
theorem covers_any (w:World) (pv vsv:Value) (p:ProgV) (r:RowV) (ta:Option Addr) (tc:Nat) (vs:List Int) (hp:IsPrg w pv p) (hok:RowOk r) (ht:Tms w (.slice ta r.terms.length tc) r.terms) (hin:∀ t ∈ r.terms,0<=t.var/\t.var<p.vars.length) (hv:Inz w vsv vs) (hvs:∀ v ∈ vs,0<=v/\v<p.vars.length) (hn:p.vars.length<=1000) :
  Calls Tryz.prog 76 #[pv,.agg #[.string r.name,.int .i64 r.group,.int .i64 r.kind,.slice ta r.terms.length tc,.int .i64 r.bound],vsv] w (BoolPost w (covB p r vs)):=by
 obtain ⟨vv,rv,rfl,hpv,hpr⟩:=hp
 obtain ⟨vo,vc,rfl,-,-,-⟩:=hpv.shape
 obtain ⟨ro,rc,rfl,-,-,-⟩:=hpr.shape
 obtain ⟨so,sc,rfl,hsm⟩:=hv.shape
 obtain ⟨-,-,-,-,htm,-⟩:=ht.shape
 have HCl:=bH (fun W (hW:XF w W)=>cloneV_any W vo p.vars.length vc p.vars (hpv.keep hW).1 (by omega))
 have HVo:=bH hpv.2
 have HT:=bH (bI ht hin)
 have HV:=bH (bI hv hvs)
 have HOk:=bH hok
 have HF1:=bH (fun W=>rfrom_any W 1 (by decide) (by decide))
 have HFm:=bH (fun W=>rfrom_any W (-1) (by decide) (by decide))
 obtain ⟨nm,hnm⟩:∃ x,r.name=x:=⟨_,rfl⟩
 obtain ⟨gr,hgr⟩:∃ x,r.group=x:=⟨_,rfl⟩
 obtain ⟨kd,hkd⟩:∃ x,r.kind=x:=⟨_,rfl⟩
 obtain ⟨bd,hbd⟩:∃ x,r.bound=x:=⟨_,rfl⟩
 obtain ⟨tl,htl⟩:∃ x,r.terms.length=x:=⟨_,rfl⟩
 obtain ⟨n,hn'⟩:∃ x,p.vars.length=x:=⟨_,rfl⟩
 obtain ⟨m,hm'⟩:∃ x,p.rows.length=x:=⟨_,rfl⟩
 obtain ⟨sl,hsl⟩:∃ x,vs.length=x:=⟨_,rfl⟩
 have HE:=bH (bI hbd (bI htl (bI hn' hsl)))
 have HSg:=bH (show sgR r=if kd=1 then -1 else 1 from by rw [<- hkd]; rfl)
 have HSi:=bH (sgR_in r)
 have hmax:n<=1000:=by omega
 have hsm2:(sl:Int)<=9223372036854775807:=by unfold maxLen at hsm; omega
 have htm2:(tl:Int)<=9223372036854775807:=by omega
 clear hsm htm
 rw [hnm,hgr,hkd,hbd,htl,hn',hm',hsl]
 rw [hn'] at HCl HT HV
 rw [htl] at HT
 rw [hsl] at HV
 clear hpv hpr ht hin hv hvs hok hnm hgr hkd hbd htl hn' hm' hsl hn
 have hxa:=(Ext.refl (fun _=>False) w).alloc (.cells #[.slice vo n vc,.slice ro m rc] 25)
 have hxb:=(Ext.refl (fun _=>False) (w.alloc (.cells #[.slice vo n vc,.slice ro m rc] 25))).alloc (.cells #[.string nm,.int .i64 gr,.int .i64 kd,.slice ta tl tc,.int .i64 bd] 35)
 have hb2:blk ((w.alloc (.cells #[.slice vo n vc,.slice ro m rc] 25)).alloc (.cells #[.string nm,.int .i64 gr,.int .i64 kd,.slice ta tl tc,.int .i64 bd] 35)) (w.heap.size+1)=some (.cells #[.string nm,.int .i64 gr,.int .i64 kd,.slice ta tl tc,.int .i64 bd] 35 (0,0)):=by
  have h:=blk_alloc_at (w.alloc (.cells #[.slice vo n vc,.slice ro m rc] 25)) (.cells #[.string nm,.int .i64 gr,.int .i64 kd,.slice ta tl tc,.int .i64 bd] 35)
  rwa [World.size_alloc] at h
 have HB:=bH (bI (blk_keep (blk_alloc_at w (.cells #[.slice vo n vc,.slice ro m rc] 25)) hxb) (bI hb2 (hxa.trans hxb)))
 clear hxa hxb hb2
 go_enter Tryz.func76,Tryz.ntmps76
 go_upto_region 1 with fail
 generalize (w.alloc (.cells #[.slice vo n vc,.slice ro m rc] 25)).alloc (.cells #[.string nm,.int .i64 gr,.int .i64 kd,.slice ta tl tc,.int .i64 bd] 35)=w1 at *
 generalize w.heap.size+1=rb at *
 obtain ⟨pb,hpb⟩:∃ q,w.heap.size=q:=⟨_,rfl⟩
 rw [hpb] at HB ⊢
 clear hpb
 have p0:=cellq HB.out.1 0 rfl
 go_wp2_with fail
 refine (HCl.out w1 HB.out.2.2).mono ?_
 rintro r2 w2 ⟨v2,rfl,h2,hx2⟩
 have hown:SOwn cV 73 w2 w.heap.size v2 p.vars:=by
  unfold SOwn
  rw [HE.out.2.2.1]
  exact own_down h2 HB.out.2.2.size
 obtain ⟨ao,ac,rfl⟩:=ownsRow_shape h2
 have hx3:=(Ext.refl (fun _=>False) w2).alloc (.cells #[.slice ao n ac,.slice none 0 0] 25)
 have HQ:=bH (show QSt w (w2.alloc (.cells #[.slice ao n ac,.slice none 0 0] 25)) pb rb w2.heap.size #[.slice vo n vc,.slice ro m rc] #[.string nm,.int .i64 gr,.int .i64 kd,.slice ta tl tc,.int .i64 bd] 35 (.slice ao n ac) (oneL p.vars []) from
  ⟨(HB.out.2.2.trans hx2).trans hx3,blk_keep HB.out.1 (hx2.trans hx3),blk_keep HB.out.2.1 (hx2.trans hx3),blk_alloc_at w2 _,SOwn.keep hown hx3⟩)
 clear hown h2 hx2 hx3 p0 HB HCl
 go_upto_region 2 with fail
 generalize w2.alloc (.cells #[.slice ao n ac,.slice none 0 0] 25)=w3 at *
 generalize w2.heap.size=qb at *
 go_wp2_with fail
 go_loopg [22] sl (fun gg v22 wr=>∃ k:Nat,k<=sl/\gg=sl - k/\v22=.int .i64 k/\QSt w wr pb rb qb #[.slice vo n vc,.slice ro m rc] #[.string nm,.int .i64 gr,.int .i64 kd,.slice ta tl tc,.int .i64 bd] 35 (.slice ao n ac) (oneL p.vars (vs.take k)))
 case atStart=>exact ⟨0,Nat.zero_le _,rfl,rfl,HQ.out⟩
 case round =>
  clear HQ
  obtain ⟨k,hkk,rfl,rfl,hq⟩:=hrel
  have HQ:=bH hq
  clear hq
  by_cases hkn:k<sl
  ·have k0:(k:Int)<(sl:Int):=by omega
   have k1:(0:Int)<=(k:Int):=by omega
   have hkl:k<vs.length:=by rw [HE.out.2.2.2]; exact hkn
   obtain ⟨b1,o1,rfl,e0⟩:=(HV.out.1.keep HQ.out.ext).at_ (i:=k) hkl
   have hvk:=HV.out.2 (vs.getD k 0) (by rw [getD_lt hkl]; exact List.getElem_mem _)
   have HN:=bH (show oneL p.vars (vs.take (k+1))=(oneL p.vars (vs.take k)).set (vs.getD k 0).toNat { (oneL p.vars (vs.take k)).getD (vs.getD k 0).toNat var0 with lo:=1 } from by rw [take_snoc (d:=0) hkl,oneL_snoc])
   generalize vs.getD k 0=v at *
   obtain ⟨j,rfl⟩:∃ j:Nat,v=j:=⟨v.toNat,by omega⟩
   rw [show ((j:Nat):Int).toNat=j by omega] at HN
   have hjl:j<(oneL p.vars (vs.take k)).length:=by rw [oneL_length,HE.out.2.2.1]; omega
   rcases HQ.out.own.arr cV_len with ⟨h0,h1,-⟩ | ⟨g,rfl,-⟩
   ·rw [h1] at hjl; exact absurd hjl (Nat.not_lt_zero _)
   obtain ⟨hs1,hs2,u,hs3⟩:=HQ.out.set (by decide) hjl
   rw [<- HN.out] at hs1
   have HP:=bH hs1
   have q0:=cellq HQ.out.bq 0 rfl
   have j0:(0:Int)<=(j:Int):=by omega
   have j1:(j:Int)<(n:Int):=by omega
   clear hs1 hvk hjl hkl HN
   go_wp2
   generalize wr.setCell ⟨g,j*5,none⟩ (.int .i64 1)=w9 at *
   go_roundg (sl - (k+1))
   case measure=>omega
   case rel=>exact ⟨k+1,by omega,rfl,by go_num,HP.out⟩
  ·obtain rfl:sl=k:=by omega
   replace HQ:=bH (show QSt w wr pb rb qb #[.slice vo n vc,.slice ro m rc] #[.string nm,.int .i64 gr,.int .i64 kd,.slice ta tl tc,.int .i64 bd] 35 (.slice ao n ac) (oneL p.vars vs) from by have h:=HQ.out; rwa [<- HE.out.2.2.2,List.take_length] at h)
   go_wp2_with fail
   refine (HF1.out _).mono ?_
   rintro r4 w4 ⟨v4,rfl,h4,hx4⟩
   obtain ⟨n4,a4,l4,c4,a4',l4',c4',rfl⟩:=h4.shape
   have hx5:=(Ext.refl (fun _=>False) w4).alloc (.cells #[.bool n4,.slice a4 l4 c4,.slice a4' l4' c4'] 64)
   have HS:=bH (show BoxR (w4.alloc (.cells #[.bool n4,.slice a4 l4 c4,.slice a4' l4' c4'] 64)) w4.heap.size n4 (.slice a4 l4 c4) (.slice a4' l4' c4')/\IsRat (w4.alloc (.cells #[.bool n4,.slice a4 l4 c4,.slice a4' l4' c4'] 64)) (.agg #[.bool n4,.slice a4 l4 c4,.slice a4' l4' c4']) ((1:Int):Rat)/\QSt w (w4.alloc (.cells #[.bool n4,.slice a4 l4 c4,.slice a4' l4' c4'] 64)) pb rb qb #[.slice vo n vc,.slice ro m rc] #[.string nm,.int .i64 gr,.int .i64 kd,.slice ta tl tc,.int .i64 bd] 35 (.slice ao n ac) (oneL p.vars vs)/\w.heap.size<=w4.heap.size from
    ⟨boxR_new rfl n4 a4 l4 c4 a4' l4' c4',h4.keep hx5,HQ.out.keep (hx4.trans hx5),Nat.le_trans HQ.out.ext.size hx4.size⟩)
   clear h4 hx4 hx5 HQ
   obtain ⟨K,hK⟩:∃ K:Bool,decide (kd=1)=K:=⟨_,rfl⟩
   have hK2:(kd == 1)=K:=by rw [<- hK]; by_cases h:kd=1 <;> simp [h]
   go_upto_region 8 with fail
   generalize w4.alloc (.cells #[.bool n4,.slice a4 l4 c4,.slice a4' l4' c4'] 64)=w5 at *
   generalize w4.heap.size=sb at *
   have r2:=cellq HS.out.2.2.1.br 2 rfl
   go_upto_if 35 with fail
   go_cut [] (fun wx=>∃ ng so sn sc s2 sm2 sc2,BoxR wx sb ng (.slice so sn sc) (.slice s2 sm2 sc2)/\IsRat wx (.agg #[.bool ng,.slice so sn sc,.slice s2 sm2 sc2]) ((sgR r:Int):Rat)/\QSt w wx pb rb qb #[.slice vo n vc,.slice ro m rc] #[.string nm,.int .i64 gr,.int .i64 kd,.slice ta tl tc,.int .i64 bd] 35 (.slice ao n ac) (oneL p.vars vs))
   case first =>
    cases K with
    | true =>
     have HSv:=bH (show sgR r = -1 from by rw [HSg.out,if_pos (of_decide_eq_true hK)])
     go_wp2_with fail
     refine (HFm.out _).mono ?_
     rintro r6 w6 ⟨v6,rfl,h6,hx6⟩
     obtain ⟨n6,a6,l6,c6,a6',l6',c6',rfl⟩:=h6.shape
     have hb6:=HS.out.1.keep hx6
     obtain ⟨d0,d1,d2,d3,d4,d5⟩:=hb6.facts
     have hp:=hb6.put (neg:=n6) (no_int a6 l6 c6) (no_int a6' l6' c6')
     have HR:=bH (bI hp.box (bI (hp.rat h6) ((HS.out.2.2.1.keep hx6).past hp.ext ⟨_,hb6.1⟩ (by decide) HS.out.2.2.2)))
     clear hp hb6 h6 hx6
     go_wp2
     go_meet
     exact ⟨_,_,_,_,_,_,_,HR.out.1,by rw [HSv.out]; exact HR.out.2.1,HR.out.2.2⟩
    | false =>
     have HSv:=bH (show sgR r=1 from by rw [HSg.out,if_neg (of_decide_eq_false hK)])
     go_wp2
     go_meet
     exact ⟨_,_,_,_,_,_,_,HS.out.1,by rw [HSv.out]; exact HS.out.2.1,HS.out.2.2.1⟩
   case rest =>
   obtain ⟨ng,so2,sn,sc2,s2,sm2,scc,hb,hq,hst⟩:=hcut
   obtain ⟨w6,rfl⟩:∃ x,x=wc:=⟨_,rfl⟩
   have HLo:=bH HS.out.2.2.2
   have HSl:=bH hb.lt
   obtain ⟨w7,hmk,hA,hx7⟩:=run_make_rats w6 n (by omega)
   have HC:=bH (show CvSt w w7 pb rb qb sb w6.heap.size n #[.slice vo n vc,.slice ro m rc] #[.string nm,.int .i64 gr,.int .i64 kd,.slice ta tl tc,.int .i64 bd] (.slice ao n ac) (oneL p.vars vs) (sgR r) (fun _=>0) from
    ⟨hst.keep hx7,hA,⟨ng,so2,sn,sc2,s2,sm2,scc,hb.keep hx7,hq.keep hx7⟩,HSl.out,HLo.out⟩)
   have p0:=cellq hst.bp 0 rfl
   have HB6:=bH hst.br
   have HX7:=bH hx7
   clear hb hq hst hA hx7 hK hK2 HS r2
   go_upto_region 11 with fail
   clear p0 hmk
   have r3:=cellq (blk_keep HB6.out HX7.out) 3 rfl
   clear HB6 HX7 HSl HLo
   generalize w6.heap.size=B at *
   go_wp2_with fail
   clear r3
   go_loopg [44] tl (fun gg v44 wr=>∃ k:Nat,k<=tl/\gg=tl - k/\v44=.int .i64 k/\CvSt w wr pb rb qb sb B n #[.slice vo n vc,.slice ro m rc] #[.string nm,.int .i64 gr,.int .i64 kd,.slice ta tl tc,.int .i64 bd] (.slice ao n ac) (oneL p.vars vs) (sgR r) (fun j=>atQ (cfL n (sgR r) (r.terms.take k)) j))
   case atStart=>exact ⟨0,Nat.zero_le _,rfl,rfl,⟨HC.out.q,HC.out.arr.congr (fun i _=>cfL_zero.symm),HC.out.sgn,HC.out.ord⟩⟩
   case round =>
    clear HC
    obtain ⟨k,hkk,rfl,rfl,hst⟩:=hrel
    have HCv:=bH hst
    clear hst
    by_cases hkn:k<tl
    ·have k0:(k:Int)<(tl:Int):=by omega
     have k1:(0:Int)<=(k:Int):=by omega
     have hkl:k<r.terms.length:=by rw [HE.out.2.1]; exact hkn
     have hatr:=(HT.out.1.keep HCv.out.q.ext).atr (r:=r) k hkl
     obtain ⟨b1,o1,rfl,-,e0,e1,hto⟩:=hatr
     have hvk:=HT.out.2 (r.t k) (by unfold RowV.t; rw [getD_lt hkl]; exact List.getElem_mem _)
     have HNx:=bH (fun v hv hn=>cfL_next (n:=n) (sg:=sgR r) (ts:=r.terms) (k:=k) (v:=v) hkl hv hn)
     rw [show r.terms.getD k term0=r.t k from rfl] at HNx
     obtain ⟨tv,htv⟩:∃ x,(r.t k).var=x:=⟨_,rfl⟩
     obtain ⟨tcf,htc⟩:∃ x,(r.t k).coef=x:=⟨_,rfl⟩
     rw [htv] at e0 hvk HNx
     rw [htc] at e1 HNx
     have hcin:InR tcf:=by rw [<- htc]; exact hto.coef
     obtain ⟨j,rfl⟩:∃ j:Nat,tv=j:=⟨tv.toNat,by omega⟩
     have Hjn:=bH (show j<n from by omega)
     have HNy:=bH (HNx.out j rfl Hjn.out)
     have HFc:=bH (fun W=>rfrom_any W tcf hcin.1 hcin.2)
     obtain ⟨ng,so2,sn,sc2,s2,sm2,scc,hb,hq⟩:=HCv.out.sgn
     have HMc:=bH (fun W (hW:XF wr W) u (hu:IsRat W u (tcf:Rat))=>rmul_any W _ u _ _ 2 ((hq.keep hW).reads (Sz.int HSi.out)) (hu.reads (Sz.int hcin)) (by decide) (by decide))
     have hx1:=(Ext.refl (fun _=>False) wr).alloc (.cells #[.int .i64 j,.int .i64 tcf] 70)
     have hb1:=blk_alloc_at wr (.cells #[.int .i64 j,.int .i64 tcf] 70)
     have HS2:=bH (bI (HCv.out.keep hx1) (bI (HCv.out.arr.keep hx1) (bI hb1 (hb.keep hx1))))
     have HMc2:=bH (fun W (hW:XF (wr.alloc (.cells #[.int .i64 j,.int .i64 tcf] 70)) W) u hu=>HMc.out W (hx1.trans hW) u hu)
     clear HMc
     have HMc:=HMc2
     have j0:(0:Int)<=(j:Int):=by omega
     have j1:(j:Int)<(n:Int):=by omega
     clear hx1 hb1 hb hq HCv hcin hto hkl hvk htv htc HNx HMc2
     go_upto_region 14 with fail
     generalize wr.alloc (.cells #[.int .i64 j,.int .i64 tcf] 70)=w4 at *
     generalize wr.heap.size=tb at *
     clear e0 e1
     have g0:=cq (cellq HS2.out.2.2.1 0 rfl)
     have g1:=cq (cellq HS2.out.2.2.1 1 rfl)
     have u0:=cq HS2.out.2.2.2.facts.1
     have u1:=cq HS2.out.2.2.2.facts.2.1
     have u2:=cq HS2.out.2.2.2.facts.2.2.1
     refine ends_begin 9 (XF w4) (by kernel_rfl) ((Ext.refl _ w4).drew) (fun hHeld=>?_)
     refine et 0 (h:=(et 1 (h:=(et 2 (h:=(et 3 (h:=(et 4 (h:=(et 5 (h:=?_)))))))))))
     (try go_frame)
     refine est 6 (h:=fun K hK=>?_)
     (go_simp; go_at_call 85; (with_reducible refine (HFc.out _).mono ?_); rintro q1 w11 ⟨v11,rfl,h11,hx11⟩; have hX1:=hHeld.trans hx11; obtain ⟨n11,a11,l11,c11,a11',l11',c11',rfl⟩:=h11.shape)
     refine hK.out _ _ (hX1) (fun hHeld=>?_)
     clear hK K
     (try go_frame)
     refine est 7 (h:=fun K hK=>?_)
     (go_simp; go_at_call 116; (with_reducible refine (HMc.out _ hX1 _ h11).mono ?_); rintro q2 w12 ⟨v12,rfl,h12,hx12⟩; have hX2:=hX1.trans hx12; obtain ⟨n12,a12,l12,c12,a12',l12',c12',rfl⟩:=h12.shape)
     refine hK.out _ _ (hX2) (fun hHeld=>?_)
     clear hK K
     (try go_frame)
     refine et 8 (h:=?_)
     (try go_frame)
     have harr:=HS2.out.2.1.keep hX2
     have f0:=harr.free (j*3)
     have f1:=harr.free (j*3+1)
     have f2:=harr.free (j*3+2)
     obtain ⟨y0,y1,y2,y3,y4,y5,y6,t0,t1,t2,-⟩:=harr.cells j Hjn.out
     refine ends_last rfl (by kernel_rfl) (fun K hK=>?_)
     go_simp
     refine hK.out _ _ ?_
     clear hK K
     (try go_frame)
     refine ends_done (by kernel_rfl) ?_ _
     have HP:=bH ((HS2.out.1.keep hX2).setArr Hjn.out h12 HNy.out)
     clear hX1 hX2 h11 h12 hx11 hx12 f0 f1 f2 t0 t1 t2 harr hHeld u0 u1 u2 g0 g1
     generalize ((w12.setCell ⟨B,j*3,none⟩ (.bool n12)).setCell ⟨B,j*3+1,none⟩ (.slice a12 l12 c12)).setCell ⟨B,j*3+2,none⟩ (.slice a12' l12' c12')=w9 at *
     go_wp2
     go_roundg (tl - (k+1))
     case measure=>omega
     case rel=>exact ⟨k+1,by omega,rfl,by go_num,HP.out⟩
    ·obtain rfl:k=tl:=by omega
     have hkt:r.terms.take k=r.terms:=by rw [<- HE.out.2.1,List.take_length]
     rw [hkt] at HCv
     have hci:∀ x ∈ r.terms,InR x.coef:=fun x hx=>(HT.out.1.2 x hx).coef
     have HLs:=bH (fun W (hW:XF wr W)=>Least_any W (.agg #[.slice ao n ac,.slice none 0 0]) (.slice (some ⟨B,0,none⟩) n n) (oneP p vs) (cfL n (sgR r) r.terms) 4 ((HCv.out.q.prg HVo.out).keep hW) (by
      have h:=(HCv.out.arr.keep hW).rats (L:=4) (fun i _=>cfL_sz HSi.out hci i) (Nat.le_refl n) (by unfold maxLen; omega)
      rwa [listTo_atQ (cfL_length n (sgR r) r.terms)] at h) (by decide) (by rw [oneP_len,HE.out.2.2.1]; omega))
     obtain ⟨OQ,hOQ⟩:∃ x,leastQ (oneP p vs) (cfL n (sgR r) r.terms)=x:=⟨_,rfl⟩
     rw [hOQ] at HLs
     have HCo:=bH (covB_eq p r vs)
     rw [HE.out.2.2.1,hOQ] at HCo
     have HSz:=bH (show ∀ s,OQ=some s->Sz s 10000 from fun s hs=>by
      rw [hs] at hOQ
      obtain ⟨-,-,rfl⟩:=least_some hOQ
      have hvr:Vrs wr (.slice ao n ac) (oneP p vs).vars:=(by obtain ⟨_,_,e,h,_⟩:=HCv.out.q.prg HVo.out; cases e; exact h)
      have h:=sum_size (f:=fun i=>pickQ ((oneP p vs).v i) (atQ (cfL n (sgR r) r.terms) i)) (g:=fun i=>atQ (cfL n (sgR r) r.terms) i) (L:=4) (n:=(oneP p vs).vars.length) (fun i hi=>pick_in hvr _ i hi) (fun i _=>cfL_sz HSi.out hci i) _ (Nat.le_refl _)
      exact h.mono (by rw [oneP_len,HE.out.2.2.1]; omega))
     have q0:=cellq HCv.out.q.bq 0 rfl
     have q1:=cellq HCv.out.q.bq 1 rfl
     clear hOQ hkt hci
     go_wp2_with fail
     refine (HLs.out wr (Ext.refl _ _)).mono ?_
     rintro r8 w8 ⟨hx8,h8⟩
     have HC8:=bH (HCv.out.keep hx8)
     clear HLs HCv hx8 q0 q1
     cases OQ with
     | none =>
      obtain ⟨v8,rfl,h8⟩:=h8
      obtain ⟨n8,a8,l8,c8,a8',l8',c8',rfl⟩:=h8.shape
      have hx9:=(Ext.refl (fun _=>False) w8).alloc (.cells #[.bool n8,.slice a8 l8 c8,.slice a8' l8' c8'] 64)
      have HX:=bH (HC8.out.q.ext.trans hx9)
      clear h8 hx9
      go_upto_region 17 with fail
      generalize w8.alloc (.cells #[.bool n8,.slice a8 l8 c8,.slice a8' l8' c8'] 64)=w5 at *
      refine wp_region_held_drew (S:=(XF w5)) (by kernel_rfl) ((Ext.refl _ w5).drew) (fun hHeld=>?_)
      refine ht 0 (h:=(ht 1 (h:=?_)))
      (try go_frame)
      refine hk 2 (h:=?_)
      (try go_frame)
      refine hk 3 (h:=?_)
      (try go_frame)
      refine hk 4 (h:=?_)
      (try go_frame)
      refine hk 5 (h:=?_)
      (try go_frame)
      refine hk 6 (h:=?_)
      (try go_frame)
      refine hk 7 (h:=?_)
      (try go_frame)
      refine hk 8 (h:=?_)
      (try go_frame)
      refine hk 9 (h:=(ht 10 (h:=(ht 11 (h:=?_)))))
      (try go_frame)
      refine wpAnyH_done (by kernel_rfl) ?_ _
      go_wp2
      go_ret
      exact ⟨ret_bool HCo.out.symm,HX.out.trans hHeld⟩
     | some sv =>
      obtain ⟨v8,rfl,h8⟩:=h8
      obtain ⟨n8,a8,l8,c8,a8',l8',c8',rfl⟩:=h8.shape
      have hx9:=(Ext.refl (fun _=>False) w8).alloc (.cells #[.bool n8,.slice a8 l8 c8,.slice a8' l8' c8'] 64)
      have HC9:=bH (bI (HC8.out.keep hx9) (bI (h8.keep hx9) (boxR_new (W:=w8) rfl n8 a8 l8 c8 a8' l8' c8')))
      clear h8 hx9
      go_upto_region 17 with fail
      generalize w8.alloc (.cells #[.bool n8,.slice a8 l8 c8,.slice a8' l8' c8'] 64)=w5 at *
      generalize w8.heap.size=lb at *
      have hbi:InR bd:=by rw [<- HE.out.1]; exact HOk.out.bound
      have HFb:=bH (fun W=>rfrom_any W bd hbi.1 hbi.2)
      obtain ⟨ng,so2,sn,sc2,s2,sm2,scc,hb,hq⟩:=HC9.out.1.sgn
      have HMb:=bH (fun W (hW:XF w5 W) u (hu:IsRat W u (bd:Rat))=>rmul_any W _ u _ _ 2 ((hq.keep hW).reads (Sz.int HSi.out)) (hu.reads (Sz.int hbi)) (by decide) (by decide))
      have HCb:=bH (fun W (hW:XF w5 W) u (hu:IsRat W u ((sgR r:Rat)*(bd:Rat)))=>rcmp_any W _ u _ _ 10000 ((HC9.out.2.1.keep hW).reads (HSz.out sv rfl)) (hu.reads (((Sz.int HSi.out).mul (Sz.int hbi)).mono (by decide))) (by decide) (by decide))
      have u0:=cq hb.facts.1
      have u1:=cq hb.facts.2.1
      have u2:=cq hb.facts.2.2.1
      have l0:=cq HC9.out.2.2.facts.1
      have l1:=cq HC9.out.2.2.facts.2.1
      have l2:=cq HC9.out.2.2.facts.2.2.1
      have r4:=cq (cellq HC9.out.1.q.br 4 rfl)
      have HCo2:=bH (show covB p r vs=decide (0<(sv - (sgR r:Rat)*(bd:Rat)).num.sign) from by rw [HCo.out,HE.out.1]; exact sgn_gt.symm)
      have HX:=bH HC9.out.1.q.ext
      clear hb hq hbi HC8 HC9 HCo
      generalize (sv - (sgR r:Rat)*(bd:Rat)).num.sign=X at *
      generalize (sgR r:Rat)*(bd:Rat)=Y at *
      refine wp_region_held_drew (S:=(XF w5)) (by kernel_rfl) ((Ext.refl _ w5).drew) (fun hHeld=>?_)
      refine ht 0 (h:=(ht 1 (h:=?_)))
      (try go_frame)
      refine ht 2 (h:=?_)
      (try go_frame)
      refine ht 3 (h:=?_)
      (try go_frame)
      refine ht 4 (h:=?_)
      (try go_frame)
      refine ht 5 (h:=?_)
      (try go_frame)
      refine hst 6 (h:=fun K hK=>?_)
      (go_simp; go_at_call 85; (with_reducible refine (HFb.out _).mono ?_); rintro q1 w11 ⟨v11,rfl,h11,hx11⟩; have hX1:=hHeld.trans hx11; obtain ⟨n11,a11,l11,c11,a11',l11',c11',rfl⟩:=h11.shape)
      refine hK.out _ _ (hX1) (fun hHeld=>?_)
      clear hK K
      (try go_frame)
      refine hst 7 (h:=fun K hK=>?_)
      (go_simp; go_at_call 116; (with_reducible refine (HMb.out _ hX1 _ h11).mono ?_); rintro q2 w12 ⟨v12,rfl,h12,hx12⟩; have hX2:=hX1.trans hx12; obtain ⟨n12,a12,l12,c12,a12',l12',c12',rfl⟩:=h12.shape)
      refine hK.out _ _ (hX2) (fun hHeld=>?_)
      clear hK K
      (try go_frame)
      refine hst 8 (h:=fun K hK=>?_)
      (go_simp; go_at_call 74; (with_reducible refine (HCb.out _ hX2 _ h12).mono ?_); rintro q3 w13 ⟨rfl,hx13⟩; have hX3:=hX2.trans hx13)
      refine hK.out _ _ (hX3) (fun hHeld=>?_)
      clear hK K
      (try go_frame)
      refine ht 9 (h:=(ht 10 (h:=(ht 11 (h:=?_)))))
      (try go_frame)
      refine wpAnyH_done (by kernel_rfl) ?_ _
      go_wp2
      go_ret
      exact ⟨ret_bool HCo2.out.symm,HX.out.trans hX3⟩
theorem dg_len_pos (n:Nat):decide (0<(dg n).length)=decide (0<n):=by
 by_cases h:n=0
 ·subst h; rw [dg_zero]; rfl
 ·have:¬ dg n=[]:=fun e=>h (dg_eq_nil.1 e)
  rw [decide_eq_true (List.length_pos_iff.2 this),decide_eq_true (Nat.pos_of_ne_zero h)]
theorem sg_fdiv {z z':Int} (h:0<z'):sg (decide (z.sign*z'.sign<0)) (z.natAbs / z'.natAbs+if (decide (z.sign*z'.sign<0) && decide (0<z.natAbs % z'.natAbs))=true then 1 else 0)=z / z':=by
 obtain ⟨y,rfl⟩:∃ y:Nat,z'=y:=⟨z'.natAbs,by omega⟩
 have hy:0<y:=by omega
 rw [Int.natAbs_natCast,sign_pos hy,Int.mul_one]
 have hm:=Nat.mod_lt z.natAbs hy
 have hd:=Nat.div_add_mod z.natAbs y
 rcases Int.natAbs_eq z with hz | hz <;> generalize z.natAbs=x at*<;> subst hz
 ·have h0:¬ ((x:Int).sign<0):=by
   rw [Int.sign_neg_iff]; omega
  rw [decide_eq_false h0]
  simp [sg]
 ·by_cases hx:x=0
  ·subst hx; simp [sg]
  ·have h0:(-(x:Int)).sign<0:=by rw [Int.sign_neg_iff]; omega
   rw [decide_eq_true h0]
   unfold sg
   rw [if_pos rfl]
   generalize x / y=q at *
   generalize x % y=r at *
   have hx2:(x:Int)=(y:Int)*q+r:=by rw [<- hd]; simp
   by_cases hr:r=0
   ·subst hr
    rw [if_neg (by simp)]
    refine ((Int.ediv_emod_unique (b:=(y:Int)) (r:=0) (q:=-(q:Int)) h).2 ⟨?_,Int.le_refl _,h⟩).1.symm
    rw [hx2]; simp [Int.mul_neg]
   ·rw [if_pos (by simp; omega)]
    refine ((Int.ediv_emod_unique (b:=(y:Int)) (r:=(y:Int) - r) (q:=-((q+1:Nat):Int)) h).2 ⟨?_,by omega,by omega⟩).1.symm
    rw [hx2,Int.mul_neg]
    have:(y:Int)*((q+1:Nat):Int)=y*q+y:=by rw [Int.natCast_add,Int.mul_add]; simp
    rw [this]
    omega
theorem ediv_len {z z':Int} {L:Nat} (h:0<z') (hl:(dg z.natAbs).length<=L):(dg (z / z').natAbs).length<=L+1:=by
 have h1:(z / z').natAbs<=z.natAbs:=Int.natAbs_ediv_le_natAbs z z'
 exact Nat.le_trans (dg_mono h1) (by omega)
theorem floorf_any (w:World) (a b:Bool):Calls Tryz.prog 215 #[.bool a,.bool b] w fun r w'=>r=.returned (.bool (a && b))/\w'=w:=by
 go_enter Tryz.func215,Tryz.ntmps215
 cases a <;> (go_wp2; go_ret; exact ⟨rfl,rfl⟩)
def FloorPost (w:World) (z z':Int) (r:Ending) (w':World):Prop :=
 ∃ q s,r=.returned (.tuple #[q,s,.int .i64 0])/\IsInt w' q (z / z')/\IsInt w' s (z - z / z'*z')/\XF w w'
theorem dividef_any (w:World) (v v':Value) (z z':Int) (L:Nat) (h:Rint w v z L) (h':Rint w v' z' L) (h0:0<z') (hL:L<=33554432) :
  Calls Tryz.prog 214 #[v,v',.func (.func 215) #[] #[]] w (FloorPost w z z'):=by
 have HG1:=bH (fun W (hW:XF w W)=>isign_any W v z L (h.keep hW) (by omega))
 have HG2:=bH (fun W (hW:XF w W)=>isign_any W v' z' L (h'.keep hW) (by omega))
 have hlq:(dg (z / z').natAbs).length<=L+1:=ediv_len h0 h.len
 have HM:=bH (fun W (hW:XF w W) u (hu:IsInt W u (z / z'))=>imul_any W u v' (z / z') z' (L+1) (hu.reads hlq) ((h'.keep hW).mono (by omega)) (by omega))
 have HU:=bH (fun W (hW:XF w W) u (hu:IsInt W u (z / z'*z'))=>isub_any W v u z (z / z'*z') (L+1+L) ((h.keep hW).mono (by omega)) (hu.reads (len_mul hlq h'.len)) (by omega))
 have hsg:=sg_fdiv (z:=z) h0
 have hlz:=h.len
 obtain ⟨neg,ao,m,c,l,rfl,hr,hl,hz⟩:=h.open
 obtain ⟨neg',ao',m',c',l',rfl,hr',hl',hz'⟩:=h'.open
 have HD:=bH (fun W (hW:XF w W)=>divmod_any W _ _ l l' (hr.keep hW) (hr'.keep hW) (by omega) (by omega))
 have e1:vl l=z.natAbs:=by rw [hz,sg_natAbs]
 have e2:vl l'=z'.natAbs:=by rw [hz',sg_natAbs]
 rw [e1,e2] at HD
 have hy0:¬ z'.natAbs=0:=by omega
 have hDP:∀ W,DivPost W z.natAbs z'.natAbs=fun r w'=>∃ v1 v2,r=.returned (.tuple #[v1,v2,.int .i64 0])/\IsNat w' v1 (z.natAbs / z'.natAbs)/\IsNat w' v2 (z.natAbs % z'.natAbs)/\XF W w':=fun W=>by
  funext r w'; unfold DivPost; rw [if_neg hy0]
 simp only [hDP] at HD
 have hxl:(dg (z.natAbs / z'.natAbs)).length<=L:=Nat.le_trans (dg_mono (Nat.div_le_self _ _)) hlz
 have HS:=bH (fun W v n k (hk:k<=1) (hn:IsNat W v (z.natAbs / z'.natAbs+k))=>signed_any W n v _ hn (Nat.le_trans (dg_len_add (dg_lt _) (Nat.lt_of_le_of_lt hk (show 1<4294967296 ^ 1 by decide))) (by omega)))
 have HF:=bH (fun W=>from_any W 1 (by decide))
 have HA:=bH (fun W va vb (h1:IsNat W va (z.natAbs / z'.natAbs)) (h2:IsNat W vb 1)=>(show Calls Tryz.prog 171 #[va,vb] W (NatPost W (z.natAbs / z'.natAbs+1)) from by have:=add_any W va vb _ _ h1 h2 (by omega) (by rw [dg_1]; decide); rwa [vl_dg,vl_dg] at this))
 have hPb:-1<=z.sign*z'.sign/\z.sign*z'.sign<=1:=by
  rcases Int.sign_trichotomy z with h | h | h <;> rcases Int.sign_trichotomy z' with h' | h' | h' <;> rw [h,h'] <;> decide
 have hPw:IntKind.i64.wrap (z.sign*z'.sign)=z.sign*z'.sign:=IntWalk.i64_in _ (by omega)
 obtain ⟨PP,hPP⟩:∃ PP,z.sign*z'.sign=PP:=⟨_,rfl⟩
 rw [hPP] at hPw hPb hsg
 obtain ⟨P,hP⟩:∃ P,decide (PP<0)=P:=⟨_,rfl⟩
 rw [hP] at hsg
 obtain ⟨D,hD⟩:∃ D,decide (0<z.natAbs % z'.natAbs)=D:=⟨_,rfl⟩
 rw [hD] at hsg
 rw [<- dg_len_pos] at hD
 have HDD:=bH hD
 clear hD
 have Hsg:=bH hsg
 generalize z.natAbs / z'.natAbs=x at *
 generalize z.natAbs % z'.natAbs=y at *
 unfold FloorPost
 have hq:∀ t t':Int,t=t->t'=t'->True:=fun _ _ _ _=>trivial
 clear hr hr' hl hl' h h' hz hz' e1 e2 hy0 hDP hlq hlz hxl hsg hq h0
 generalize z / z'=q at *
 generalize z - q*z'=s at *
 generalize q*z'=qz at *
 generalize z.sign=sz at *
 generalize z'.sign=sz' at *
 go_enter Tryz.func214,Tryz.ntmps214
 go_upto_region 0 with fail
 go_cut [3,4,6,7,8] (fun v1 v2 v3 v4 v8 wx=>∃ b b' r r',v1=.pointer (some ⟨b,0,none⟩)/\v2=.pointer (some ⟨b',0,none⟩)/\v3=.pointer (some ⟨r,0,none⟩)/\v4=.pointer (some ⟨r',0,none⟩)/\v8=.int .i64 0/\BoxI wx b neg (.slice ao m c)/\BoxI wx b' neg' (.slice ao' m' c')/\BoxI wx r false (.slice none 0 0)/\BoxI wx r' false (.slice none 0 0)/\¬ b=r/\¬ b'=r/\¬ b=r'/\¬ b'=r'/\¬ r=r'/\w.heap.size<=r/\w.heap.size<=r'/\XF w wx)
 case first =>
  go_wp2
  go_meet
  exact ⟨_,_,_,_,rfl,rfl,rfl,rfl,rfl,(((boxI_new rfl neg ao m c).alloc _).alloc _).alloc _,((boxI_new (by simp) neg' ao' m' c').alloc _).alloc _,(boxI_new (by simp) false none 0 0).alloc _,boxI_new (by simp) false none 0 0,(by omega),(by omega),(by omega),(by omega),(by omega),(by omega),(by omega),((((Ext.refl _ w).alloc _).alloc _).alloc _).alloc _⟩
 case rest =>
  obtain ⟨b,b',r,r',rfl,rfl,rfl,rfl,rfl,hb,hb',hrb,hrb',n1,n2,n3,n4,n5,hle,hle',hx⟩:=hcut
  obtain ⟨c0,c1,_⟩:=hb.facts
  obtain ⟨e0,e1,_⟩:=hb'.facts
  have HD1:=bH (HD.out wc hx)
  have HB:=bH (bI hb (bI hb' (bI hrb (bI hrb' hx))))
  clear hb hb' hrb hrb' hx
  go_wp2_with fail
  refine HD1.out.mono ?_
  rintro r1 w1 ⟨v1,v2,rfl,h1,h2,hx1⟩
  have hS:=SI2.of (HB.out.1.ext hx1 id) (HB.out.2.1.ext hx1 id)
  have HX1:=bH (bI hx1 h1)
  obtain ⟨ao2,c2,rfl⟩:=h2.shape
  obtain ⟨ao1,c1',rfl⟩:=h1.shape
  clear h1 h2 hx1 c0 c1 e0 e1
  generalize (dg y).length=ly at *
  generalize (dg x).length=lx at *
  go_upto_region 4 with fail
  go_region_held3 (SI2 b b' neg neg' (.slice ao m c) (.slice ao' m' c'))
   (repeat (first | (with_reducible assumption) | (with_reducible refine SI2.drew ?_) | (with_reducible refine SI2.set ?_ _ _ ?_ ?_) | (dsimp only; omega)))
   (first
    | (go_at_call 152; (with_reducible refine (HG1.out _ ?_).mono ?_); (exact (HB.out.2.2.2.2.trans HX1.out.1).drew); rintro r2 w2 ⟨rfl,hx2⟩; have hX2:=HX1.out.1.drew.trans hx2; have hK2:=SI2.of (HB.out.1.ext hX2 id) (HB.out.2.1.ext hX2 id))
    | (go_at_call 152; (with_reducible refine (HG2.out _ ?_).mono ?_); (exact HB.out.2.2.2.2.trans hX2); rintro r3 w3 ⟨rfl,hx3⟩; have hX3:=hX2.trans hx3; have hK3:=SI2.of (HB.out.1.ext hX3 id) (HB.out.2.1.ext hX3 id)))
  have h13:XF w1 w3:=(Ext.refl _ w1).drew.trans (hx2.trans hx3)
  have HX3:=bH (bI (HX1.out.2.keep h13) hX3)
  clear hK2 hK3 hX2 hX3 hx2 hx3 h13 hS hPw hPP hPb
  go_wp2_with fail
  refine (floorf_any _ _ _).mono ?_
  rintro r4 w4 ⟨rfl,hw⟩; obtain rfl:=hw.symm
  clear hw
  obtain ⟨R,hR⟩:∃ R,(P && decide (0<ly))=R:=⟨_,rfl⟩
  rw [hR]
  rw [HDD.out] at hR
  have HRR:=bH hR
  clear hR HDD
  go_upto_if 39 with fail
  go_cut [9] (fun v9 wx=>IsNat wx v9 (x+if R=true then 1 else 0)/\XF w3 wx)
  case first =>
   cases R with
   | false =>
    go_wp2
    go_meet
    exact ⟨by simpa using HX3.out.1,Ext.refl _ _⟩
   | true =>
    go_wp2_with fail
    refine (HF.out _).mono ?_
    rintro r5 w5 ⟨v5,rfl,h5,hx5⟩
    have H5:=bH (bI h5 hx5)
    go_wp2_with fail
    refine (HA.out _ _ _ (HX3.out.1.keep hx5) h5).mono ?_
    rintro r6 w6 ⟨v6,rfl,h6,hx6⟩
    go_wp2
    go_meet
    exact ⟨by simpa using h6,hx5.trans hx6⟩
  case rest =>
  obtain ⟨h9,hx9⟩:=hcut
  have HS3:=bH (HS.out wc _ P (if R=true then 1 else 0) (by split <;> omega) h9)
  rw [<- HRR.out,Hsg.out] at HS3
  rw [<- HRR.out] at h9
  replace HX3:=bH (bI h9 (HX3.out.2.trans hx9))
  clear h9 hx9
  go_wp2_with fail
  refine HS3.out.mono ?_
  rintro r5 w5 ⟨v5,rfl,h5,hx5⟩
  have HX5:=bH (bI h5 (HX3.out.2.trans hx5))
  obtain ⟨neg5,ao5,n6,k5,rfl⟩:=h5.shape
  clear h5 hx5 HS3
  go_upto_region 8 with fail
  obtain ⟨bq,hbq⟩:∃ bq,w5.heap.size=bq:=⟨_,rfl⟩
  have hbox:=boxI_new hbq.symm neg5 ao5 n6 k5
  have hx57:=(Ext.refl (fun _=>False) w5).alloc (.cells #[.bool neg5,.slice ao5 n6 k5] 62)
  rw [hbq]
  generalize w5.alloc (.cells #[.bool neg5,.slice ao5 n6 k5] 62)=w7 at *
  have hX7:=HX5.out.2.trans hx57
  have hI7:=HX5.out.1.keep hx57
  have HM7:=bH (HM.out w7.drew (HB.out.2.2.2.2.trans hX7).drew _ (hI7.keep (Ext.refl _ w7).drew))
  have hS:=SI3.of (HB.out.1.ext hX7 id) (HB.out.2.1.ext hX7 id) hbox
  have HX7:=bH (bI hX7 (bI hI7 hbox))
  have hq1:¬ bq=r:=fun e=>by
   have h1:=HB.out.2.2.1.lt
   have h2:=HX5.out.2.size
   omega
  have hq2:¬ bq=r':=fun e=>by
   have h1:=HB.out.2.2.2.1.lt
   have h2:=HX5.out.2.size
   omega
  clear hX7 hI7 hbox hx57 hbq HX5 HX3 HX1 hP
  go_region_held3 (SI3 b b' bq neg neg' neg5 (.slice ao m c) (.slice ao' m' c') (.slice ao5 n6 k5))
   (repeat (first | (with_reducible assumption) | (with_reducible refine SI3.drew ?_) | (with_reducible refine SI3.set ?_ _ _ ?_ ?_ ?_) | (dsimp only; omega)))
   (first
    | (go_at_call 132; (with_reducible refine HM7.out.mono ?_); rintro r8 w8 ⟨v8,rfl,h8,hx8⟩; have hx78:=(Ext.refl (fun _=>False) w7).drew.trans hx8; have hX8:=HX7.out.1.trans hx78; have hU8:=HU.out w8 (HB.out.2.2.2.2.trans hX8) v8 h8; have hK8:=SI3.of (HB.out.1.ext hX8 id) (HB.out.2.1.ext hX8 id) (HX7.out.2.2.ext hx78 id); obtain ⟨neg8,ao8,n8,k8,rfl⟩:=h8.shape)
    | (go_at_call 184; (with_reducible refine hU8.mono ?_); rintro r9 w9 ⟨v9,rfl,h9,hx9⟩; have hx79:=hx78.trans hx9; have hX9:=HX7.out.1.trans hx79; have hK9:=SI3.of (HB.out.1.ext hX9 id) (HB.out.2.1.ext hX9 id) (HX7.out.2.2.ext hx79 id); have hr9:=HB.out.2.2.1.ext hX9 id; have hr9':=HB.out.2.2.2.1.ext hX9 id; obtain ⟨d0,d1,d2,d3⟩:=hr9.facts; obtain ⟨f0,f1,f2,f3⟩:=hr9'.facts; obtain ⟨neg9,ao9,n9,k9,rfl⟩:=h9.shape))
  have hp1:=hr9.put (neg:=neg5) (no_int ao5 n6 k5)
  have hp2:=(hr9'.ext hp1.ext (fun e=>n5 e.symm)).put (neg:=neg9) (no_int ao9 n9 k9)
  have HR:=bH (bI (hp2.int (hp1.int (HX7.out.2.1.keep hx79))) (bI (hp2.int (hp1.int h9)) (bI (((HB.out.2.2.2.2.trans hX9).own hp1.ext (fun k e=>by omega)).own hp2.ext (fun k e=>by omega)) (bI (hp1.box.ext hp2.ext n5) hp2.box))))
  clear hp1 hp2 h8 h9 hx8 hx9 hx78 hx79 hX8 hX9 hK8 hK9 hU8 d0 d1 d2 d3 f0 f1 f2 f3 hr9 hr9' hS
  generalize (((w9.setCell ⟨r,0,none⟩ (.bool neg5)).setCell ⟨r,1,none⟩ (.slice ao5 n6 k5)).setCell ⟨r',0,none⟩ (.bool neg9)).setCell ⟨r',1,none⟩ (.slice ao9 n9 k9)=w10 at *
  obtain ⟨g0,g1,_⟩:=HR.out.2.2.2.1.facts
  obtain ⟨g2,g3,_⟩:=HR.out.2.2.2.2.facts
  go_wp2
  exact bodyPost_ret (v:=.tuple #[.agg #[.bool neg5,.slice ao5 n6 k5],.agg #[.bool neg9,.slice ao9 n9 k9],.int .i64 0]) (by simp [results,Tryz.results214,go_sem,g0,g1,g2,g3]) rfl ⟨_,_,rfl,HR.out.1,HR.out.2.1,HR.out.2.2.1⟩
theorem floor_any (w:World) (v v':Value) (z z':Int) (L:Nat) (h:Rint w v z L) (h':Rint w v' z' L) (h0:0<z') (hL:L<=33554432) :
  Calls Tryz.prog 174 #[v,v'] w (FloorPost w z z'):=by
 have HD:=bH (fun W (hW:XF w W)=>dividef_any W v v' z z' L (h.keep hW) (h'.keep hW) h0 hL)
 obtain ⟨neg,ao,m,c,l,rfl,_,_,_⟩:=h.open
 obtain ⟨neg',ao',m',c',l',rfl,_,_,_⟩:=h'.open
 clear h h'
 unfold FloorPost at *
 generalize z / z'=q at *
 generalize z - q*z'=s at *
 go_enter Tryz.func174,Tryz.ntmps174
 go_upto_region 0 with fail
 go_cut [2,3,4,5,6] (fun v1 v2 v3 v4 v8 wx=>∃ b b' r r',v1=.pointer (some ⟨b,0,none⟩)/\v2=.pointer (some ⟨b',0,none⟩)/\v3=.pointer (some ⟨r,0,none⟩)/\v4=.pointer (some ⟨r',0,none⟩)/\v8=.int .i64 0/\BoxI wx b neg (.slice ao m c)/\BoxI wx b' neg' (.slice ao' m' c')/\BoxI wx r false (.slice none 0 0)/\BoxI wx r' false (.slice none 0 0)/\¬ r=r'/\w.heap.size<=r/\w.heap.size<=r'/\XF w wx)
 case first =>
  go_wp2
  go_meet
  exact ⟨_,_,_,_,rfl,rfl,rfl,rfl,rfl,(((boxI_new rfl neg ao m c).alloc _).alloc _).alloc _,((boxI_new (by simp) neg' ao' m' c').alloc _).alloc _,(boxI_new (by simp) false none 0 0).alloc _,boxI_new (by simp) false none 0 0,(by omega),(by omega),(by omega),((((Ext.refl _ w).alloc _).alloc _).alloc _).alloc _⟩
 case rest =>
  obtain ⟨b,b',r,r',rfl,rfl,rfl,rfl,rfl,hb,hb',hrb,hrb',n5,hle,hle',hx⟩:=hcut
  obtain ⟨c0,c1,_⟩:=hb.facts
  obtain ⟨e0,e1,_⟩:=hb'.facts
  have HD1:=bH (HD.out wc hx)
  have HB:=bH (bI hrb (bI hrb' hx))
  clear hb hb' hrb hrb' hx
  go_wp2_with fail
  refine HD1.out.mono ?_
  rintro r1 w9 ⟨v1,v2,rfl,h1,h2,hx1⟩
  have hr9:=HB.out.1.ext hx1 id
  have hr9':=HB.out.2.1.ext hx1 id
  obtain ⟨d0,d1,d2,d3⟩:=hr9.facts
  obtain ⟨f0,f1,f2,f3⟩:=hr9'.facts
  obtain ⟨neg5,ao5,n6,k5,rfl⟩:=h1.shape
  obtain ⟨neg9,ao9,n9,k9,rfl⟩:=h2.shape
  have hp1:=hr9.put (neg:=neg5) (no_int ao5 n6 k5)
  have hp2:=(hr9'.ext hp1.ext (fun e=>n5 e.symm)).put (neg:=neg9) (no_int ao9 n9 k9)
  have HR:=bH (bI (hp2.int (hp1.int h1)) (bI (hp2.int (hp1.int h2)) (bI (((HB.out.2.2.trans hx1).own hp1.ext (fun k e=>by omega)).own hp2.ext (fun k e=>by omega)) (bI (hp1.box.ext hp2.ext n5) hp2.box))))
  clear hp1 hp2 h1 h2 hx1 hr9 hr9' c0 c1 e0 e1
  go_wp2
  generalize (((w9.setCell ⟨r,0,none⟩ (.bool neg5)).setCell ⟨r,1,none⟩ (.slice ao5 n6 k5)).setCell ⟨r',0,none⟩ (.bool neg9)).setCell ⟨r',1,none⟩ (.slice ao9 n9 k9)=w10 at *
  obtain ⟨g0,g1,_⟩:=HR.out.2.2.2.1.facts
  obtain ⟨g2,g3,_⟩:=HR.out.2.2.2.2.facts
  exact bodyPost_ret (v:=.tuple #[.agg #[.bool neg5,.slice ao5 n6 k5],.agg #[.bool neg9,.slice ao9 n9 k9],.int .i64 0]) (by simp [results,Tryz.results174,go_sem,g0,g1,g2,g3]) rfl ⟨_,_,rfl,HR.out.1,HR.out.2.1,HR.out.2.2.1⟩
end Go.Proofs.YtjaldknfeojjkaaGreat
