/-
  Texts of the proof, part 6. Conditions: each lemma names its own.
-/
import Derived.Test.YtbgienfcmdgaaaaGreatZ5
import Derived.Maps.RangeWalk
set_option linter.unusedVariables false
set_option linter.unusedSimpArgs false
set_option maxRecDepth 100000
set_option maxHeartbeats 16000000
namespace Go.Proofs.YtbgienfcmdgaaaaGreat
open Go.RowKit Go.MapKept
open Go.ChangeMaps (setBlock)
theorem Violated4_any (w:World) (pv xv:Value) (p:ProgV) (x:List Rat) (L T:Nat) (hp:IsPrg w pv p) (hl:Rats w xv x L) (h1:1<=L) (hT:∀ i,i<p.rows.length->(p.r i).terms.length<=T) (hL:1+T*(L+3)+(L+3)<=1000000) (hn0:p.vars.length<=1000000) (hm:p.rows.length<=1000000) :
  Calls Tryz.prog 22 #[pv,xv] w (NumsPost w (violQ p x)):=by
 obtain ⟨ti,hi0⟩:=info_parts Tryz.infoInt
 have Hi:=bH hi0
 clear hi0
 have HP:=bH hp
 obtain ⟨vv,rv,rfl,-,hr⟩:=hp
 obtain ⟨ro,rc,rfl,-,hn,-⟩:=hr.shape
 have HV:=bH hr
 have HHo:=bH (fun W (hW:XF w W) i (hi:i<p.rows.length) ta tc (hok:RowOk (p.r i)) (htm:Tms w (.slice ta (p.r i).terms.length tc) (p.r i).terms)=>Holds_any W _ _ p (p.r i) x L T ta tc (HP.out.keep hW) hok (htm.keep hW) (hl.keep hW) h1 (hT i hi) hL hn0)
 clear hl hr hT
 obtain ⟨n,hn'⟩:∃ n,p.rows.length=n:=⟨_,rfl⟩
 have HN:=bH hn'
 rw [hn'] at hn hm HV HP HHo ⊢
 unfold violQ
 rw [hn']
 have hvl:∀ i,(violN (fun i=>holdsB (p.r i) (clipQ p x)) i).length<=i:=fun i=>by
  induction i with
  | zero=>exact Nat.le_refl _
  | succ i ih =>
   unfold violN
   split
   ·omega
   ·rw [List.length_append]; simp; exact ih
 have HVL:=bH hvl
 clear hn' hvl HP
 have hb1:blk ((w.alloc (.cells #[vv,.slice ro n rc] 25)).alloc (.cells #[] 3)) w.heap.size=some (.cells #[vv,.slice ro n rc] 25 (0,0)):=(blk_alloc_past _ _ _ (by simp)).trans (blk_alloc_at _ _)
 have hb2:=blk_alloc_at (w.alloc (.cells #[vv,.slice ro n rc] 25)) (.cells #[] 3)
 rw [World.size_alloc] at hb2
 have HB:=bH (bI hb1 (bI (show NOwn _ (w.heap.size+1) (.slice (some ⟨w.heap.size+1,0,none⟩) 0 0) [] from ownsRow_empty 1 (Nat.le_refl _) hb2) (((Ext.refl (fun _=>False) w).alloc (.cells #[vv,.slice ro n rc] 25)).alloc (.cells #[] 3))))
 clear hb1 hb2
 go_enter Tryz.func22,Tryz.ntmps22
 go_upto_region 2 with fail
 generalize hw1:(w.alloc (.cells #[vv,.slice ro n rc] 25)).alloc (.cells #[] 3)=w1 at *
 clear hw1
 obtain ⟨pb,hpb⟩:∃ pb,w.heap.size=pb:=⟨_,rfl⟩
 have HPB:=bH hpb
 rw [hpb] at HB ⊢
 clear hpb
 have z0:=cellq HB.out.1 0 rfl
 have z1:=cellq HB.out.1 1 rfl
 go_wp2_with fail
 go_loopg [6,5] n (fun gg v6 v5 wr=>∃ (i:Nat) (ov:Value),i<=n/\gg=n - i/\v6=.int .i64 i/\v5=ov/\NOwn wr (pb+1) ov (violN (fun i=>holdsB (p.r i) (clipQ p x)) i)/\(wr.cell? ⟨pb,0,none⟩=some vv/\wr.cell? ⟨pb,1,none⟩=some (.slice ro n rc))/\XF w wr)
 case atStart=>exact ⟨0,_,Nat.zero_le _,rfl,rfl,rfl,HB.out.2.1,⟨z0,z1⟩,HB.out.2.2⟩
 case round =>
  clear z0 z1
  obtain ⟨i,ov,hi,rfl,rfl,rfl,ho,⟨z0,z1⟩,hx⟩:=hrel
  have HX:=bH hx
  obtain ⟨ao,cap,rfl⟩:=ho.shape
  have HO:=bH ho
  obtain ⟨ln,hln⟩:∃ ln,(violN (fun i=>holdsB (p.r i) (clipQ p x)) i).length=ln:=⟨_,rfl⟩
  have hlni:ln<=i:=by have:=HVL.out i; omega
  have Hlen:=bH hln
  rw [hln] at HO ⊢
  clear hln ho
  by_cases hin:i<n
  ·have i0:(i:Int)<(n:Int):=by omega
   have i1:(0:Int)<=(i:Int):=by omega
   obtain ⟨b,off,ta,tc,rfl,-,e0,e1,e2,e3,e4,hrok,htm⟩:=HV.out.atp i (by rw [HN.out]; exact hin)
   replace e0:=cell_keep e0 HX.out
   replace e1:=cell_keep e1 HX.out
   replace e2:=cell_keep e2 HX.out
   replace e3:=cell_keep e3 HX.out
   replace e4:=cell_keep e4 HX.out
   have HH:=bH (fun W (hW:XF w W)=>HHo.out W hW i hin ta tc hrok htm)
   have HR:=bH (show ∀ b,holdsB (p.r i) (clipQ p x)=b->(if holdsB (p.r i) (clipQ p x)=true then violN (fun i=>holdsB (p.r i) (clipQ p x)) i else violN (fun i=>holdsB (p.r i) (clipQ p x)) i++[i])=(if b=true then violN (fun i=>holdsB (p.r i) (clipQ p x)) i else violN (fun i=>holdsB (p.r i) (clipQ p x)) i++[i]) from fun b h=>by rw [h])
   clear hrok htm
   obtain ⟨hb,hhb⟩:∃ hb,holdsB (p.r i) (clipQ p x)=hb:=⟨_,rfl⟩
   rw [hhb] at HH
   have HR2:=bH (HR.out hb hhb)
   clear hhb HR
   generalize (p.r i).terms.length=tl at *
   generalize (p.r i).name=nm at *
   generalize (p.r i).group=gr at *
   generalize (p.r i).kind=k at *
   generalize (p.r i).bound=bd at *
   have hS:S7 pb pb b b b b b 0 1 (off+i*5) (off+i*5+1) (off+i*5+2) (off+i*5+3) (off+i*5+4) vv (.slice (some ⟨b,off,none⟩) n rc) (.string nm) (.int .i64 gr) (.int .i64 k) (.slice ta tl tc) (.int .i64 bd) wr:=⟨z0,z1,e0,e1,e2,e3,e4⟩
   have hxw:=hx
   clear z0 z1 e0 e1 e2 e3 e4 hx
   go_upto_region 5 with fail
   refine wp_region_held_drew (S:=(S7 pb pb b b b b b 0 1 (off+i*5) (off+i*5+1) (off+i*5+2) (off+i*5+3) (off+i*5+4) vv (.slice (some ⟨b,off,none⟩) n rc) (.string nm) (.int .i64 gr) (.int .i64 k) (.slice ta tl tc) (.int .i64 bd))) (by kernel_rfl) (hS.drew) (fun hHeld=>?_)
   refine ht 0 (h:=?_)
   (try go_frame)
   refine ht 1 (h:=?_)
   (try go_frame)
   refine ht 2 (h:=?_)
   (try go_frame)
   refine ht 3 (h:=?_)
   (try go_frame)
   refine ht 4 (h:=?_)
   (try go_frame)
   refine ht 5 (h:=?_)
   (try go_frame)
   refine ht 6 (h:=?_)
   (try go_frame)
   refine held_step 7 rfl (by kernel_rfl) (fun K hK=>?_)
   (go_simp; go_at_call 59; (with_reducible refine (HH.out _ (hxw.drew)).mono ?_); rintro q1 w11 ⟨rfl,hx11⟩; have hX1:=(Ext.refl (fun _=>False) wr).drew.trans hx11; have hK1:=hS.keep hX1)
   refine hK.out _ _ (hK1) (fun hHeld=>?_)
   clear hK K
   (try go_frame)
   refine ht 8 (h:=?_)
   (try go_frame)
   refine wpAnyH_done (by kernel_rfl) ?_ _
   have y0:=hK1.1
   have y1:=hK1.2.1
   have HXa:=bH (HX.out.trans hX1)
   have hok13:NOwn w11 (pb+1) (.slice ao ln cap) (violN (fun i=>holdsB (p.r i) (clipQ p x)) i):=HO.out.keep hX1
   clear hX1 hK1 hS hx11 hxw hHeld
   cases hb with
   | true =>
    have HOk:=bH hok13
    have HY:=bH (bI y0 y1)
    clear hok13 y0 y1
    go_wp2
    go_roundg (n - (i+1))
    case measure=>omega
    case rel=>exact ⟨i+1,.slice ao ln cap,by omega,rfl,by go_num,rfl,(by show NOwn w11 (pb+1) _ (if holdsB (p.r i) (clipQ p x)=true then _ else _); rw [HR2.out]; exact HOk.out),HY.out,HXa.out⟩
   | false =>
    have hxa:=(Ext.refl (fun _=>False) w11).alloc (.cells #[.int .i64 (i:Int)] 3)
    have HO1:Hid ((w11.alloc (.cells #[.int .i64 (i:Int)] 3)).ownsRow (pb+1) 3 1 (.slice ao ln cap) ln ((violN (fun i=>holdsB (p.r i) (clipQ p x)) i).map nv)):=bH (by have:=hok13.keep hxa; unfold NOwn at this; rw [Hlen.out] at this; exact this)
    have HGe:=bH (fun g e=>(HO1.out.lt g e).1)
    have HY:=bH (bI (cell_keep y0 hxa) (cell_keep y1 hxa))
    have HSz:=bH (show pb+1<=(w11.alloc (.cells #[.int .i64 (i:Int)] 3)).heap.size from (by have:=World.block_lt_of_cell? _ _ HY.out.1; exact this))
    clear hok13 hxa y0 y1
    go_wp2_with (at_builtin; refine wpList_append_any rfl (.tmp 24) (.tmp 26) 42 rfl (pb+1) 3 ti _ 1 8 Tryz.underlying42 Hi.out.1 Hi.out.2.1 Hi.out.2.2.1 Hi.out.2.2.2 rfl (by decide) _ _ _ rfl HO1.out _ 1 1 (fun e=>by cases e) [.int .i64 (i:Int)] rfl rfl (.inr ⟨_,rfl,cells_new [.int .i64 (i:Int)] _ rfl⟩) (nv_one _) (by simp only [maxLen]; omega) (by omega) HSz.out ?_; intro v5 w5 hown5 hgrow5 hat5; have HO5:Hid (NOwn w5 (pb+1) v5 (violN (fun i=>holdsB (p.r i) (clipQ p x)) i++[i])):=bH (nown_app Hlen.out hown5); have HX5:Hid (XF w w5):=bH ((HXa.out.alloc (.cells #[.int .i64 (i:Int)] 3)).grown hgrow5 (fun k e h=>absurd (HGe.out k e) (by have:=HPB.out; omega))); have HY5:Hid (w5.cell? ⟨pb,0,none⟩=some vv/\w5.cell? ⟨pb,1,none⟩=some (.slice (some ⟨b,off,none⟩) n rc)):=bH ⟨hgrow5.cell HY.out.1 (fun e=>absurd (HGe.out pb e.symm) (by omega)),hgrow5.cell HY.out.2 (fun e=>absurd (HGe.out pb e.symm) (by omega))⟩; clear hown5 hgrow5 hat5)
    go_roundg (n - (i+1))
    case measure=>omega
    case rel=>exact ⟨i+1,v5,by omega,rfl,by go_num,rfl,(by show NOwn w5 (pb+1) v5 (if holdsB (p.r i) (clipQ p x)=true then _ else _); rw [HR2.out]; exact HO5.out),HY5.out,HX5.out⟩
  ·obtain rfl:i=n:=by omega
   go_wp2
   go_ret
   exact ⟨_,rfl,by have:=ownsRow_mono HO.out (show w.heap.size<=pb+1 from by have:=HPB.out; omega); exact this,HX.out⟩
theorem Inside4_any (w:World) (pv xv:Value) (p:ProgV) (x:List Rat) (L:Nat) (hp:IsPrg w pv p) (hy:Rats w xv x L) (h1:1<=L) (hL:L<=1000000) :
  Calls Tryz.prog 21 #[pv,xv] w (BoolPost w (insideB p x)):=by
 obtain ⟨vv,rv,rfl,hr,-⟩:=hp
 obtain ⟨vo,vc,rfl,-,hn,-⟩:=hr.shape
 have HV:=bH hr
 have HA:=bH (fun W (hW:XF w W) (i:Nat)=>At_any W _ x L (hy.keep hW) i)
 have HC:=bH (fun W u u' q (k:Int) (hk:InR k) (hu:Rrat W u q L) (hu':IsRat W u' (k:Rat))=>Rrcmp_any W u u' q (k:Rat) (L+2) (hu.mono (by omega)) (hu'.reads ((Sz.int hk).mono (by omega))) (by omega) (by omega))
 clear hr hy
 obtain ⟨n,hn'⟩:∃ n,p.vars.length=n:=⟨_,rfl⟩
 have HN:=bH hn'
 rw [hn'] at hn ⊢ HV
 clear hn'
 have HB:=bH (bI (blk_alloc_at w (.cells #[.slice vo n vc,rv] 25)) ((Ext.refl (fun _=>False) w).alloc (.cells #[.slice vo n vc,rv] 25)))
 go_enter Tryz.func21,Tryz.ntmps21
 go_upto_region 1 with fail
 generalize hw1:w.alloc (.cells #[.slice vo n vc,rv] 25)=w1 at *
 clear hw1
 obtain ⟨pb,hpb⟩:∃ pb,w.heap.size=pb:=⟨_,rfl⟩
 rw [hpb] at HB ⊢
 clear hpb
 have z0:=cellq HB.out.1 0 rfl
 go_wp2_with fail
 go_loopg [5] n (fun gg v5 wr=>∃ i:Nat,i<=n/\gg=n - i/\v5=.int .i64 i/\allTo i (insB p x)=true/\wr.cell? ⟨pb,0,none⟩=some (.slice vo n vc)/\XF w wr)
 case atStart=>exact ⟨0,Nat.zero_le _,rfl,rfl,rfl,z0,HB.out.2⟩
 case round =>
  clear z0
  obtain ⟨i,hi,rfl,rfl,hall,z0,hx⟩:=hrel
  have HX:=bH hall
  clear hall
  by_cases hin:i<n
  ·have i0:(i:Int)<(n:Int):=by omega
   have i1:(0:Int)<=(i:Int):=by omega
   obtain ⟨b,off,rfl,-,e0,e1,e2,e3,e4,hok⟩:=(HV.out.keep hx).atp i (by rw [HN.out]; exact hin)
   have HAi:=bH (fun W (hW:XF w W)=>HA.out W hW i)
   have hb3:=BoxV.new wr (p.v i)
   have hx3:=(Ext.refl (fun _=>False) wr).alloc (.cells #[.int .i64 (p.v i).lo,.int .i64 (p.v i).up,.bool (p.v i).op,.bool (p.v i).ig,.int .i64 (p.v i).co] 63)
   have HR:=bH (insB_sign p x i)
   go_upto_region 5 with fail
   generalize hw3:wr.alloc (.cells #[.int .i64 (p.v i).lo,.int .i64 (p.v i).up,.bool (p.v i).op,.bool (p.v i).ig,.int .i64 (p.v i).co] 63)=w3 at *
   clear hw3 e0 e1 e2 e3 e4
   obtain ⟨vb,hvb⟩:∃ vb,wr.heap.size=vb:=⟨_,rfl⟩
   rw [hvb] at hb3 ⊢
   clear hvb
   obtain ⟨f0,f1,f2,-,-⟩:=hb3.facts
   have hS:S3 vb vb vb 0 1 2 (.int .i64 (p.v i).lo) (.int .i64 (p.v i).up) (.bool (p.v i).op) w3:=⟨f0,f1,f2⟩
   have HF1:=bH (fun W=>Rrfrom_any W (p.v i).lo hok.lo.1 hok.lo.2)
   have HF2:=bH (fun W=>Rrfrom_any W (p.v i).up hok.up.1 hok.up.2)
   have HC1:=bH (fun W u u' hu hu'=>HC.out W u u' (atQ x i) _ hok.lo hu hu')
   have HC2:=bH (fun W u u' hu hu'=>HC.out W u u' (atQ x i) _ hok.up hu hu')
   have hxw:=hx.trans hx3
   clear f0 f1 f2 hb3 hok hx
   generalize (atQ x i - ((p.v i).lo:Rat)).num.sign=s1 at *
   generalize (atQ x i - ((p.v i).up:Rat)).num.sign=s2 at *
   generalize ((p.v i).lo:Rat)=lq at *
   generalize ((p.v i).up:Rat)=uq at *
   generalize (p.v i).lo=lo at *
   generalize (p.v i).up=up at *
   generalize (p.v i).op=o at *
   have hcase:s1<0∨(¬ s1<0/\o=true)∨(¬ s1<0/\o=false/\0<s2)∨(¬ s1<0/\o=false/\¬ 0<s2):=by cases o <;> simp <;> omega
   rcases hcase with hs | ⟨hs,rfl⟩ | ⟨hs0,rfl,hs⟩ | ⟨hs0,rfl,hs⟩
   ·have hd:decide (s1<0)=true:=decide_eq_true hs
    refine wp_region_held_drew (S:=(S3 vb vb vb 0 1 2 (.int .i64 lo) (.int .i64 up) (.bool o))) (by kernel_rfl) (hS.drew) (fun hHeld=>?_)
    refine ht 0 (h:=?_)
    (try go_frame)
    refine ht 1 (h:=?_)
    (try go_frame)
    refine ht 3 (h:=?_)
    (try go_frame)
    refine ht 4 (h:=?_)
    (try go_frame)
    refine held_step 2 rfl (by kernel_rfl) (fun K hK=>?_)
    (go_simp; go_at_call 30; (with_reducible refine (HAi.out _ (hxw.drew)).mono ?_); rintro q0 w10 ⟨v10,rfl,h10,hx10⟩; have hX0:=(Ext.refl (fun _=>False) w3).drew.trans hx10; have hK0:=hS.keep hX0; obtain ⟨n10,a10,l10,c10,a10',l10',c10',rfl⟩:=h10.shape)
    refine hK.out _ _ (hK0) (fun hHeld=>?_)
    clear hK K
    (try go_frame)
    refine held_step 5 rfl (by kernel_rfl) (fun K hK=>?_)
    (go_simp; go_at_call 32; (with_reducible refine (HF1.out _).mono ?_); rintro q1 w11 ⟨v11,rfl,h11,hx11⟩; have hX1:=hX0.trans hx11; have hK1:=hS.keep hX1; have hC1:=HC1.out w11 _ _ (h10.keep hx11) h11; obtain ⟨n11,a11,l11,c11,a11',l11',c11',rfl⟩:=h11.shape)
    refine hK.out _ _ (hK1) (fun hHeld=>?_)
    clear hK K
    (try go_frame)
    refine held_step 6 rfl (by kernel_rfl) (fun K hK=>?_)
    (go_simp; go_at_call 25; (with_reducible refine hC1.mono ?_); rintro q2 w12 ⟨rfl,hx12⟩; have hX2:=hX1.trans hx12; have hK2:=hS.keep hX2)
    refine hK.out _ _ (hK2) (fun hHeld=>?_)
    clear hK K
    (try go_frame)
    refine ht 7 (h:=?_)
    (try go_frame)
    refine ht 8 (h:=?_)
    (try go_frame)
    refine held_skip 9 rfl (by kernel_rfl) (by kernel_rfl) (by kernel_rfl) (fun _ _ _ h=>h) (by rfl) (by assumption) ?_
    (try go_frame)
    refine held_skip 10 rfl (by kernel_rfl) (by kernel_rfl) (by kernel_rfl) (fun _ _ _ h=>h) (by rfl) (by assumption) ?_
    (try go_frame)
    refine held_skip 11 rfl (by kernel_rfl) (by kernel_rfl) (by kernel_rfl) (fun _ _ _ h=>h) (by rfl) (by assumption) ?_
    (try go_frame)
    refine held_skip 12 rfl (by kernel_rfl) (by kernel_rfl) (by kernel_rfl) (fun _ _ _ h=>h) (by rfl) (by assumption) ?_
    (try go_frame)
    refine held_skip 13 rfl (by kernel_rfl) (by kernel_rfl) (by kernel_rfl) (fun _ _ _ h=>h) (by rfl) (by assumption) ?_
    (try go_frame)
    refine held_skip 14 rfl (by kernel_rfl) (by kernel_rfl) (by kernel_rfl) (fun _ _ _ h=>h) (by rfl) (by assumption) ?_
    (try go_frame)
    refine held_skip 15 rfl (by kernel_rfl) (by kernel_rfl) (by kernel_rfl) (fun _ _ _ h=>h) (by rfl) (by assumption) ?_
    (try go_frame)
    refine held_skip 16 rfl (by kernel_rfl) (by kernel_rfl) (by kernel_rfl) (fun _ _ _ h=>h) (by rfl) (by assumption) ?_
    (try go_frame)
    refine held_skip 17 rfl (by kernel_rfl) (by kernel_rfl) (by kernel_rfl) (fun _ _ _ h=>h) (by rfl) (by assumption) ?_
    (try go_frame)
    refine held_skip 18 rfl (by kernel_rfl) (by kernel_rfl) (by kernel_rfl) (fun _ _ _ h=>h) (by rfl) (by assumption) ?_
    (try go_frame)
    refine held_skip 19 rfl (by kernel_rfl) (by kernel_rfl) (by kernel_rfl) (fun _ _ _ h=>h) (by rfl) (by assumption) ?_
    (try go_frame)
    refine held_skip 20 rfl (by kernel_rfl) (by kernel_rfl) (by kernel_rfl) (fun _ _ _ h=>h) (by rfl) (by assumption) ?_
    (try go_frame)
    refine held_skip 21 rfl (by kernel_rfl) (by kernel_rfl) (by kernel_rfl) (fun _ _ _ h=>h) (by rfl) (by assumption) ?_
    (try go_frame)
    refine ht 22 (h:=?_)
    (try go_frame)
    refine wpAnyH_done (by kernel_rfl) ?_ _
    have HXX:=bH (hxw.trans hX2)
    have z0':=cell_keep (cell_keep z0 hx3) hX2
    clear hX0 hX1 hX2 h10 h11 hx10 hx11 hx12 hC1 hK0 hK1 hK2 hS hHeld hxw z0 hx3
    go_wp2
    go_ret
    exact ⟨ret_bool (allTo_false (f:=insB p x) (i:=i) (by rw [HN.out]; exact hin) (by rw [HR.out]; simp [hs])).symm,HXX.out⟩
   ·have hd:decide (s1<0)=false:=decide_eq_false hs
    refine wp_region_held_drew (S:=(S3 vb vb vb 0 1 2 (.int .i64 lo) (.int .i64 up) (.bool true))) (by kernel_rfl) (hS.drew) (fun hHeld=>?_)
    refine ht 0 (h:=?_)
    (try go_frame)
    refine ht 1 (h:=?_)
    (try go_frame)
    refine ht 3 (h:=?_)
    (try go_frame)
    refine ht 4 (h:=?_)
    (try go_frame)
    refine held_step 2 rfl (by kernel_rfl) (fun K hK=>?_)
    (go_simp; go_at_call 30; (with_reducible refine (HAi.out _ (hxw.drew)).mono ?_); rintro q0 w10 ⟨v10,rfl,h10,hx10⟩; have hX0:=(Ext.refl (fun _=>False) w3).drew.trans hx10; have hK0:=hS.keep hX0; obtain ⟨n10,a10,l10,c10,a10',l10',c10',rfl⟩:=h10.shape)
    refine hK.out _ _ (hK0) (fun hHeld=>?_)
    clear hK K
    (try go_frame)
    refine held_step 5 rfl (by kernel_rfl) (fun K hK=>?_)
    (go_simp; go_at_call 32; (with_reducible refine (HF1.out _).mono ?_); rintro q1 w11 ⟨v11,rfl,h11,hx11⟩; have hX1:=hX0.trans hx11; have hK1:=hS.keep hX1; have hC1:=HC1.out w11 _ _ (h10.keep hx11) h11; obtain ⟨n11,a11,l11,c11,a11',l11',c11',rfl⟩:=h11.shape)
    refine hK.out _ _ (hK1) (fun hHeld=>?_)
    clear hK K
    (try go_frame)
    refine held_step 6 rfl (by kernel_rfl) (fun K hK=>?_)
    (go_simp; go_at_call 25; (with_reducible refine hC1.mono ?_); rintro q2 w12 ⟨rfl,hx12⟩; have hX2:=hX1.trans hx12; have hK2:=hS.keep hX2)
    refine hK.out _ _ (hK2) (fun hHeld=>?_)
    clear hK K
    (try go_frame)
    refine ht 7 (h:=?_)
    (try go_frame)
    refine ht 8 (h:=?_)
    (try go_frame)
    refine ht 9 (h:=?_)
    (try go_frame)
    refine ht 10 (h:=?_)
    (try go_frame)
    refine ht 11 (h:=?_)
    (try go_frame)
    refine ht 12 (h:=?_)
    (try go_frame)
    refine held_skip 13 rfl (by kernel_rfl) (by kernel_rfl) (by kernel_rfl) (fun _ _ _ h=>h) (by rfl) (by assumption) ?_
    (try go_frame)
    refine held_skip 14 rfl (by kernel_rfl) (by kernel_rfl) (by kernel_rfl) (fun _ _ _ h=>h) (by rfl) (by assumption) ?_
    (try go_frame)
    refine held_skip 15 rfl (by kernel_rfl) (by kernel_rfl) (by kernel_rfl) (fun _ _ _ h=>h) (by rfl) (by assumption) ?_
    (try go_frame)
    refine held_skip 16 rfl (by kernel_rfl) (by kernel_rfl) (by kernel_rfl) (fun _ _ _ h=>h) (by rfl) (by assumption) ?_
    (try go_frame)
    refine held_skip 17 rfl (by kernel_rfl) (by kernel_rfl) (by kernel_rfl) (fun _ _ _ h=>h) (by rfl) (by assumption) ?_
    (try go_frame)
    refine held_skip 18 rfl (by kernel_rfl) (by kernel_rfl) (by kernel_rfl) (fun _ _ _ h=>h) (by rfl) (by assumption) ?_
    (try go_frame)
    refine held_skip 19 rfl (by kernel_rfl) (by kernel_rfl) (by kernel_rfl) (fun _ _ _ h=>h) (by rfl) (by assumption) ?_
    (try go_frame)
    refine held_skip 20 rfl (by kernel_rfl) (by kernel_rfl) (by kernel_rfl) (fun _ _ _ h=>h) (by rfl) (by assumption) ?_
    (try go_frame)
    refine ht 21 (h:=?_)
    (try go_frame)
    refine ht 22 (h:=?_)
    (try go_frame)
    refine wpAnyH_done (by kernel_rfl) ?_ _
    have HXX:=bH (hxw.trans hX2)
    have z0':=cell_keep (cell_keep z0 hx3) hX2
    clear hX0 hX1 hX2 h10 h11 hx10 hx11 hx12 hC1 hK0 hK1 hK2 hS hHeld hxw z0 hx3
    go_wp2
    go_roundg (n - (i+1))
    case measure=>omega
    case rel=>exact ⟨i+1,by omega,rfl,by go_num,allTo_next HX.out (by rw [HR.out]; simp [hs]),z0',HXX.out⟩
   ·have hd:decide (s1<0)=false:=decide_eq_false hs0; have hd2:decide (0<s2)=true:=decide_eq_true hs
    refine wp_region_held_drew (S:=(S3 vb vb vb 0 1 2 (.int .i64 lo) (.int .i64 up) (.bool false))) (by kernel_rfl) (hS.drew) (fun hHeld=>?_)
    refine ht 0 (h:=?_)
    (try go_frame)
    refine ht 1 (h:=?_)
    (try go_frame)
    refine ht 3 (h:=?_)
    (try go_frame)
    refine ht 4 (h:=?_)
    (try go_frame)
    refine held_step 2 rfl (by kernel_rfl) (fun K hK=>?_)
    (go_simp; go_at_call 30; (with_reducible refine (HAi.out _ (hxw.drew)).mono ?_); rintro q0 w10 ⟨v10,rfl,h10,hx10⟩; have hX0:=(Ext.refl (fun _=>False) w3).drew.trans hx10; have hK0:=hS.keep hX0; obtain ⟨n10,a10,l10,c10,a10',l10',c10',rfl⟩:=h10.shape)
    refine hK.out _ _ (hK0) (fun hHeld=>?_)
    clear hK K
    (try go_frame)
    refine held_step 5 rfl (by kernel_rfl) (fun K hK=>?_)
    (go_simp; go_at_call 32; (with_reducible refine (HF1.out _).mono ?_); rintro q1 w11 ⟨v11,rfl,h11,hx11⟩; have hX1:=hX0.trans hx11; have hK1:=hS.keep hX1; have hC1:=HC1.out w11 _ _ (h10.keep hx11) h11; obtain ⟨n11,a11,l11,c11,a11',l11',c11',rfl⟩:=h11.shape)
    refine hK.out _ _ (hK1) (fun hHeld=>?_)
    clear hK K
    (try go_frame)
    refine held_step 6 rfl (by kernel_rfl) (fun K hK=>?_)
    (go_simp; go_at_call 25; (with_reducible refine hC1.mono ?_); rintro q2 w12 ⟨rfl,hx12⟩; have hX2:=hX1.trans hx12; have hK2:=hS.keep hX2)
    refine hK.out _ _ (hK2) (fun hHeld=>?_)
    clear hK K
    (try go_frame)
    refine ht 7 (h:=?_)
    (try go_frame)
    refine ht 8 (h:=?_)
    (try go_frame)
    refine ht 9 (h:=?_)
    (try go_frame)
    refine ht 10 (h:=?_)
    (try go_frame)
    refine ht 11 (h:=?_)
    (try go_frame)
    refine ht 12 (h:=?_)
    (try go_frame)
    refine ht 13 (h:=?_)
    (try go_frame)
    refine ht 14 (h:=?_)
    (try go_frame)
    refine ht 16 (h:=?_)
    (try go_frame)
    refine ht 17 (h:=?_)
    (try go_frame)
    refine held_step 15 rfl (by kernel_rfl) (fun K hK=>?_)
    (go_simp; go_at_call 30; (with_reducible refine (HAi.out _ (hxw.trans hX2)).mono ?_); rintro q3 w13 ⟨v13,rfl,h13,hx13⟩; have hX3:=hX2.trans hx13; have hK3:=hS.keep hX3; obtain ⟨n13,a13,l13,c13,a13',l13',c13',rfl⟩:=h13.shape)
    refine hK.out _ _ (hK3) (fun hHeld=>?_)
    clear hK K
    (try go_frame)
    refine held_step 18 rfl (by kernel_rfl) (fun K hK=>?_)
    (go_simp; go_at_call 32; (with_reducible refine (HF2.out _).mono ?_); rintro q4 w14 ⟨v14,rfl,h14,hx14⟩; have hX4:=hX3.trans hx14; have hK4:=hS.keep hX4; have hC2:=HC2.out w14 _ _ (h13.keep hx14) h14; obtain ⟨n14,a14,l14,c14,a14',l14',c14',rfl⟩:=h14.shape)
    refine hK.out _ _ (hK4) (fun hHeld=>?_)
    clear hK K
    (try go_frame)
    refine held_step 19 rfl (by kernel_rfl) (fun K hK=>?_)
    (go_simp; go_at_call 25; (with_reducible refine hC2.mono ?_); rintro q5 w15 ⟨rfl,hx15⟩; have hX5:=hX4.trans hx15; have hK5:=hS.keep hX5)
    refine hK.out _ _ (hK5) (fun hHeld=>?_)
    clear hK K
    (try go_frame)
    refine ht 20 (h:=?_)
    (try go_frame)
    refine ht 21 (h:=?_)
    (try go_frame)
    refine ht 22 (h:=?_)
    (try go_frame)
    refine wpAnyH_done (by kernel_rfl) ?_ _
    have HXX:=bH (hxw.trans hX5)
    have z0':=cell_keep (cell_keep z0 hx3) hX5
    clear hX0 hX1 hX2 h10 h11 hx10 hx11 hx12 hC1 hK0 hK1 hK2 hS hHeld hxw z0 hx3 hX3 hX4 hX5 h13 h14 hx13 hx14 hx15 hC2 hK3 hK4 hK5
    go_wp2
    go_ret
    exact ⟨ret_bool (allTo_false (f:=insB p x) (i:=i) (by rw [HN.out]; exact hin) (by rw [HR.out]; simp [hs])).symm,HXX.out⟩
   ·have hd:decide (s1<0)=false:=decide_eq_false hs0; have hd2:decide (0<s2)=false:=decide_eq_false hs
    refine wp_region_held_drew (S:=(S3 vb vb vb 0 1 2 (.int .i64 lo) (.int .i64 up) (.bool false))) (by kernel_rfl) (hS.drew) (fun hHeld=>?_)
    refine ht 0 (h:=?_)
    (try go_frame)
    refine ht 1 (h:=?_)
    (try go_frame)
    refine ht 3 (h:=?_)
    (try go_frame)
    refine ht 4 (h:=?_)
    (try go_frame)
    refine held_step 2 rfl (by kernel_rfl) (fun K hK=>?_)
    (go_simp; go_at_call 30; (with_reducible refine (HAi.out _ (hxw.drew)).mono ?_); rintro q0 w10 ⟨v10,rfl,h10,hx10⟩; have hX0:=(Ext.refl (fun _=>False) w3).drew.trans hx10; have hK0:=hS.keep hX0; obtain ⟨n10,a10,l10,c10,a10',l10',c10',rfl⟩:=h10.shape)
    refine hK.out _ _ (hK0) (fun hHeld=>?_)
    clear hK K
    (try go_frame)
    refine held_step 5 rfl (by kernel_rfl) (fun K hK=>?_)
    (go_simp; go_at_call 32; (with_reducible refine (HF1.out _).mono ?_); rintro q1 w11 ⟨v11,rfl,h11,hx11⟩; have hX1:=hX0.trans hx11; have hK1:=hS.keep hX1; have hC1:=HC1.out w11 _ _ (h10.keep hx11) h11; obtain ⟨n11,a11,l11,c11,a11',l11',c11',rfl⟩:=h11.shape)
    refine hK.out _ _ (hK1) (fun hHeld=>?_)
    clear hK K
    (try go_frame)
    refine held_step 6 rfl (by kernel_rfl) (fun K hK=>?_)
    (go_simp; go_at_call 25; (with_reducible refine hC1.mono ?_); rintro q2 w12 ⟨rfl,hx12⟩; have hX2:=hX1.trans hx12; have hK2:=hS.keep hX2)
    refine hK.out _ _ (hK2) (fun hHeld=>?_)
    clear hK K
    (try go_frame)
    refine ht 7 (h:=?_)
    (try go_frame)
    refine ht 8 (h:=?_)
    (try go_frame)
    refine ht 9 (h:=?_)
    (try go_frame)
    refine ht 10 (h:=?_)
    (try go_frame)
    refine ht 11 (h:=?_)
    (try go_frame)
    refine ht 12 (h:=?_)
    (try go_frame)
    refine ht 13 (h:=?_)
    (try go_frame)
    refine ht 14 (h:=?_)
    (try go_frame)
    refine ht 16 (h:=?_)
    (try go_frame)
    refine ht 17 (h:=?_)
    (try go_frame)
    refine held_step 15 rfl (by kernel_rfl) (fun K hK=>?_)
    (go_simp; go_at_call 30; (with_reducible refine (HAi.out _ (hxw.trans hX2)).mono ?_); rintro q3 w13 ⟨v13,rfl,h13,hx13⟩; have hX3:=hX2.trans hx13; have hK3:=hS.keep hX3; obtain ⟨n13,a13,l13,c13,a13',l13',c13',rfl⟩:=h13.shape)
    refine hK.out _ _ (hK3) (fun hHeld=>?_)
    clear hK K
    (try go_frame)
    refine held_step 18 rfl (by kernel_rfl) (fun K hK=>?_)
    (go_simp; go_at_call 32; (with_reducible refine (HF2.out _).mono ?_); rintro q4 w14 ⟨v14,rfl,h14,hx14⟩; have hX4:=hX3.trans hx14; have hK4:=hS.keep hX4; have hC2:=HC2.out w14 _ _ (h13.keep hx14) h14; obtain ⟨n14,a14,l14,c14,a14',l14',c14',rfl⟩:=h14.shape)
    refine hK.out _ _ (hK4) (fun hHeld=>?_)
    clear hK K
    (try go_frame)
    refine held_step 19 rfl (by kernel_rfl) (fun K hK=>?_)
    (go_simp; go_at_call 25; (with_reducible refine hC2.mono ?_); rintro q5 w15 ⟨rfl,hx15⟩; have hX5:=hX4.trans hx15; have hK5:=hS.keep hX5)
    refine hK.out _ _ (hK5) (fun hHeld=>?_)
    clear hK K
    (try go_frame)
    refine ht 20 (h:=?_)
    (try go_frame)
    refine ht 21 (h:=?_)
    (try go_frame)
    refine ht 22 (h:=?_)
    (try go_frame)
    refine wpAnyH_done (by kernel_rfl) ?_ _
    have HXX:=bH (hxw.trans hX5)
    have z0':=cell_keep (cell_keep z0 hx3) hX5
    clear hX0 hX1 hX2 h10 h11 hx10 hx11 hx12 hC1 hK0 hK1 hK2 hS hHeld hxw z0 hx3 hX3 hX4 hX5 h13 h14 hx13 hx14 hx15 hC2 hK3 hK4 hK5
    go_wp2
    go_roundg (n - (i+1))
    case measure=>omega
    case rel=>exact ⟨i+1,by omega,rfl,by go_num,allTo_next HX.out (by rw [HR.out]; simp [hs,hs0]),z0',HXX.out⟩
  ·obtain rfl:i=n:=by omega
   go_wp2
   go_ret
   exact ⟨ret_bool (by rw [insideB_eq,HN.out]; exact HX.out.symm),hx⟩
open Go.RowKit Go.MapKept Go.Lib
theorem inn_any (w:World) (n:Int):Calls Tryz.prog 81 #[.int .i64 n] w (BoolPost w (limB n)):=by
 go_enter Tryz.func81,Tryz.ntmps81
 by_cases h1:-1099511627776<=n
 ·by_cases h2:n<=1099511627776
  ·go_wp2
   go_ret
   exact ⟨ret_bool (by simp [limB,h1,h2]),Ext.refl _ _⟩
  ·go_wp2
   go_ret
   exact ⟨ret_bool (by simp [limB,h1,h2]),Ext.refl _ _⟩
 ·go_wp2
  go_ret
  exact ⟨ret_bool (by unfold limB; rw [decide_eq_false (p:=(-1099511627776<=n)) (by omega)]; rfl),Ext.refl _ _⟩
def chB (c:Nat):Bool:=decide (32<=c) && decide (c<=126)
theorem nameB_true {s:ByteArray} (h:∀ i (hi:i<s.size),chB (s[i]'hi).toNat=true):nameB s=true:=by
 unfold nameB
 rw [ByteArray.toList_eq,List.all_eq_true]
 intro x hx
 obtain ⟨i,hi,rfl⟩:=List.getElem_of_mem hx
 have hi':i<s.size:=by rw [Array.length_toList] at hi; exact hi
 have:=h i hi'
 rw [Array.getElem_toList]
 exact this
theorem nameB_false {s:ByteArray} {i:Nat} (hi:i<s.size) (h:chB (s[i]'hi).toNat=false):nameB s=false:=by
 unfold nameB
 rw [ByteArray.toList_eq,List.all_eq_false]
 refine ⟨s[i]'hi,?_,?_⟩
 ·show s.data[i] ∈ s.data.toList
  simp
 ·have:chB (s[i]'hi).toNat≠true:=by rw [h]; decide
  exact this
theorem ValidRow_any (w:World) (vars:Nat) (hv:vars<=9223372036854775807) (r:RowV) (ta:Option Addr) (tc:Nat) (hok:RowOk r) (ht:Tms w (.slice ta r.terms.length tc) r.terms) :
  Calls Tryz.prog 34 #[.int .i64 vars,.agg #[.string r.name,.int .i64 r.group,.int .i64 r.kind,.slice ta r.terms.length tc,.int .i64 r.bound]] w (BoolPost w (rowB vars r)):=by
 have hns:r.name.size<=9223372036854775807:=by have:=hok.name; unfold maxLen at this; omega
 have hg:=hok.group
 have hk:=hok.kind
 unfold InR at hg hk
 obtain ⟨-,-,-,-,htn,-⟩:=ht.shape
 have HT:=bH ht
 have HR:=bH (show rowB vars r=(decide (0<=r.kind) && decide (r.kind<=2) && decide (0<=r.group) && decide (r.group<=60) && decide (r.name.size<=80) && limB r.bound && nameB r.name && termsB vars (-1) r.terms) from rfl)
 have hb1:=blk_alloc_at w (.cells #[.string r.name,.int .i64 r.group,.int .i64 r.kind,.slice ta r.terms.length tc,.int .i64 r.bound] 58)
 have hx1:=(Ext.refl (fun _=>False) w).alloc (.cells #[.string r.name,.int .i64 r.group,.int .i64 r.kind,.slice ta r.terms.length tc,.int .i64 r.bound] 58)
 have HB:=bH (bI hb1 hx1)
 clear ht hok hb1 hx1
 obtain ⟨tl,htl⟩:∃ tl,r.terms.length=tl:=⟨_,rfl⟩
 have HTL:=bH htl
 rw [htl] at htn HT HB ⊢
 clear htl
 obtain ⟨gr,hgr⟩:∃ gr,r.group=gr:=⟨_,rfl⟩
 rw [hgr] at hg HR HB ⊢
 clear hgr
 obtain ⟨kd,hkd⟩:∃ kd,r.kind=kd:=⟨_,rfl⟩
 rw [hkd] at hk HR HB ⊢
 clear hkd
 obtain ⟨bd,hbd⟩:∃ bd,r.bound=bd:=⟨_,rfl⟩
 rw [hbd] at HR HB ⊢
 clear hbd
 obtain ⟨nm,hnm⟩:∃ nm,r.name=nm:=⟨_,rfl⟩
 rw [hnm] at hns HR HB ⊢
 clear hnm
 go_enter Tryz.func34,Tryz.ntmps34
 go_upto_region 1 with fail
 generalize hw1:w.alloc (.cells #[.string nm,.int .i64 gr,.int .i64 kd,.slice ta tl tc,.int .i64 bd] 58)=w1 at *
 clear hw1
 obtain ⟨rb,hrb⟩:∃ rb,w.heap.size=rb:=⟨_,rfl⟩
 rw [hrb] at HB ⊢
 clear hrb
 have e0:=cellq HB.out.1 0 rfl
 have e1:=cellq HB.out.1 1 rfl
 have e2:=cellq HB.out.1 2 rfl
 have e4:=cellq HB.out.1 4 rfl
 by_cases c4:kd<0
 ·go_wp2
  go_ret
  exact ⟨ret_bool (by rw [HR.out,decide_eq_false (p:=(0<=kd)) (by omega)]; simp),HB.out.2⟩
 by_cases c5:2<kd
 ·go_wp2
  go_ret
  exact ⟨ret_bool (by rw [HR.out,decide_eq_false (p:=(kd<=2)) (by omega)]; simp),HB.out.2⟩
 by_cases c2:gr<0
 ·go_wp2
  go_ret
  exact ⟨ret_bool (by rw [HR.out,decide_eq_false (p:=(0<=gr)) (by omega)]; simp),HB.out.2⟩
 by_cases c3:60<gr
 ·go_wp2
  go_ret
  exact ⟨ret_bool (by rw [HR.out,decide_eq_false (p:=(gr<=60)) (by omega)]; simp),HB.out.2⟩
 by_cases c1:80<nm.size
 ·have c1':(80:Int)<(nm.size:Int):=by omega
  go_wp2
  go_ret
  exact ⟨ret_bool (by rw [HR.out,decide_eq_false (p:=(nm.size<=80)) (by omega)]; simp),HB.out.2⟩
 have c1':¬ (80:Int)<(nm.size:Int):=by omega
 have HR2:Hid (rowB vars r=(limB bd && nameB nm && termsB vars (-1) r.terms)):=bH (by
  rw [HR.out,decide_eq_true (p:=(0<=kd)) (by omega),decide_eq_true (p:=(kd<=2)) (by omega),decide_eq_true (p:=(0<=gr)) (by omega),decide_eq_true (p:=(gr<=60)) (by omega),decide_eq_true (p:=(nm.size<=80)) (by omega)]
  simp)
 clear HR
 go_wp2_with fail
 refine (inn_any w1 bd).mono ?_
 rintro r2 w2 ⟨rfl,hx2⟩
 have HB2:=bH (bI (blk_keep HB.out.1 hx2) (HB.out.2.trans hx2))
 clear hx2 HB e0 e1 e2 e4
 cases hlb:limB bd with
 | false =>
  rw [hlb] at HR2
  clear hlb
  go_wp2
  go_ret
  exact ⟨ret_bool (by rw [HR2.out]; rfl),HB2.out.2⟩
 | true =>
  rw [hlb] at HR2
  clear hlb c1 c1' c2 c3 c4 c5 hg hk
  have e0:=cellq HB2.out.1 0 rfl
  obtain ⟨ns,hnsz⟩:∃ ns,nm.size=ns:=⟨_,rfl⟩
  have HNS:=bH hnsz
  go_wp2_with fail
  go_loopg [5] ns (fun gg v5 wr=>∃ (k:Nat),k<=ns/\gg=ns - k/\v5=.int .i64 k/\(∀ j (hj:j<nm.size),j<k->chB (nm[j]'hj).toNat=true)/\wr=w2)
  case atStart=>exact ⟨0,Nat.zero_le _,rfl,rfl,(fun j _ h=>absurd h (Nat.not_lt_zero _)),rfl⟩
  case round =>
   obtain ⟨k,hk,rfl,rfl,hall,hwr⟩:=hrel
   obtain rfl:=hwr.symm
   have HA:=bH hall
   clear hall
   by_cases hin:k<ns
   ·have i0:(k:Int)<(nm.size:Int):=by omega
    have i1:(0:Int)<=(k:Int):=by omega
    have hin':k<nm.size:=by omega
    have HC:=bH (fun (h:chB (nm[k]'hin').toNat=false)=>nameB_false hin' h)
    have HC2:Hid (chB (nm[k]'hin').toNat=true->∀ j (hj:j<nm.size),j<k+1->chB (nm[j]'hj).toNat=true):=bH (fun h j hj hjk=>by
     by_cases e:j=k
     ·subst e; exact h
     ·exact HA.out j hj (by omega))
    have hch:(nm[k]'hin').toNat<256:=by have:=(nm[k]'hin').toNat_lt; omega
    by_cases t1:(nm[k]'hin').toNat<32
    ·have t1':((nm[k]'hin').toNat:Int)<32:=by omega
     have HF:=bH (HC.out (by unfold chB; rw [decide_eq_false (by omega)]; rfl))
     go_wp2
     go_ret
     exact ⟨ret_bool (by rw [HR2.out,HF.out]; rfl),HB2.out.2⟩
    have t1':¬ ((nm[k]'hin').toNat:Int)<32:=by omega
    by_cases t2:126<(nm[k]'hin').toNat
    ·have t2':(126:Int)<((nm[k]'hin').toNat:Int):=by omega
     have HF:=bH (HC.out (by unfold chB; rw [decide_eq_false (p:=((nm[k]'hin').toNat<=126)) (by omega)]; simp))
     go_wp2
     go_ret
     exact ⟨ret_bool (by rw [HR2.out,HF.out]; rfl),HB2.out.2⟩
    have t2':¬ (126:Int)<((nm[k]'hin').toNat:Int):=by omega
    have HN:=bH (HC2.out (by unfold chB; rw [decide_eq_true (p:=(32<=(nm[k]'hin').toNat)) (by omega),decide_eq_true (p:=((nm[k]'hin').toNat<=126)) (by omega)]; rfl))
    clear HC HC2
    go_wp2
    go_roundg (ns - (k+1))
    case measure=>omega
    case rel=>exact ⟨k+1,by omega,rfl,by go_num,HN.out,rfl⟩
   ·obtain rfl:k=ns:=by omega
    have HR3:Hid (rowB vars r=termsB vars (-1) r.terms):=bH (by
     rw [HR2.out,nameB_true (fun i hi=>HA.out i hi (by have:=HNS.out; omega))]; rfl)
    clear HR2 HA
    have e3:=cellq HB2.out.1 3 rfl
    go_wp2_with fail
    go_loopg [7,6] tl (fun gg v7 v6 wr=>∃ (k:Nat) (la:Int),k<=tl/\gg=tl - k/\v7=.int .i64 k/\v6=.int .i64 la∧-9223372036854775808<=la/\la<=9223372036854775807/\termsB vars (-1) r.terms=termsB vars la (r.terms.drop k)/\XF w2 wr)
    case atStart=>exact ⟨0,-1,Nat.zero_le _,rfl,rfl,rfl,by omega,by omega,rfl,Ext.refl _ _⟩
    case round =>
     clear e3 e0
     obtain ⟨k,la,hk,rfl,rfl,rfl,hla0,hla1,heq,hx⟩:=hrel
     have HX:=bH (bI heq hx)
     have e3:=cell_keep (cellq HB2.out.1 3 rfl) hx
     clear heq hx
     by_cases hin:k<tl
     ·have i0:(k:Int)<(tl:Int):=by omega
      have i1:(0:Int)<=(k:Int):=by omega
      have hkl:k<r.terms.length:=by rw [HTL.out]; exact hin
      have hdr:r.terms.drop k=r.t k :: r.terms.drop (k+1):=by
       rw [List.drop_eq_getElem_cons hkl,r.t_at hkl]
      have HD:=bH (HX.out.1.trans (by rw [hdr,termsB_cons]))
      obtain ⟨b,off,rfl,-,e0,e1,htok⟩:=(HT.out.keep (HB2.out.2.trans HX.out.2)).atr k hkl
      have hva:=htok.var
      have hco:=htok.coef
      unfold InR at hva hco
      clear hdr hkl htok
      obtain ⟨tv,htv⟩:∃ tv,(r.t k).var=tv:=⟨_,rfl⟩
      obtain ⟨co,hco'⟩:∃ co,(r.t k).coef=co:=⟨_,rfl⟩
      rw [htv] at e0 HD hva
      rw [hco'] at e1 HD hco
      clear htv hco'
      have hb3:=blk_alloc_at wr (.cells #[.int .i64 tv,.int .i64 co] 76)
      have hx3:=(Ext.refl (fun _=>False) wr).alloc (.cells #[.int .i64 tv,.int .i64 co] 76)
      have HB3:=bH (bI hb3 hx3)
      clear hb3 hx3
      go_upto_region 13 with fail
      generalize hw3:wr.alloc (.cells #[.int .i64 tv,.int .i64 co] 76)=w3 at *
      clear hw3
      obtain ⟨tb,htb⟩:∃ tb,wr.heap.size=tb:=⟨_,rfl⟩
      rw [htb] at HB3 ⊢
      clear htb e0 e1 e3
      obtain ⟨x0,x1⟩:w3.cell? ⟨tb,0,none⟩=some (.int .i64 tv)/\w3.cell? ⟨tb,1,none⟩=some (.int .i64 co):=⟨cellq HB3.out.1 0 rfl,cellq HB3.out.1 1 rfl⟩
      have HE:=bH ((HB2.out.2.trans HX.out.2).trans HB3.out.2)
      by_cases t1:tv<=la
      ·go_wp2
       go_ret
       exact ⟨ret_bool (by rw [HR3.out,HD.out,decide_eq_false (p:=(la<tv)) (by omega)]; simp),HE.out⟩
      by_cases t2:(vars:Int)<=tv
      ·go_wp2
       go_ret
       exact ⟨ret_bool (by rw [HR3.out,HD.out,decide_eq_false (p:=(tv<(vars:Int))) (by omega)]; simp),HE.out⟩
      by_cases t3:co=0
      ·have t3':(co == 0)=true:=by simpa using t3
       subst t3
       go_wp2
       go_ret
       exact ⟨ret_bool (by rw [HR3.out,HD.out]; simp),HE.out⟩
      have t3':(co == 0)=false:=by simpa using t3
      have HD2:Hid (termsB vars (-1) r.terms=(limB co && termsB vars tv (r.terms.drop (k+1)))):=bH (by
       rw [HD.out,decide_eq_true (p:=(la<tv)) (by omega),decide_eq_true (p:=(tv<(vars:Int))) (by omega),decide_eq_false t3]; simp)
      clear HD
      go_wp2_with fail
      refine (inn_any w3 co).mono ?_
      rintro r4 w4 ⟨rfl,hx4⟩
      have HX4:=bH ((HX.out.2.trans HB3.out.2).trans hx4)
      have y0:=cell_keep x0 hx4
      clear hx4 x0 x1 HE
      cases hlc:limB co with
      | false =>
       rw [hlc] at HD2
       clear hlc
       go_wp2
       go_ret
       exact ⟨ret_bool (by rw [HR3.out,HD2.out]; simp),HB2.out.2.trans HX4.out⟩
      | true =>
       rw [hlc] at HD2
       clear hlc
       go_wp2
       go_roundg (tl - (k+1))
       case measure=>omega
       case rel=>exact ⟨k+1,tv,by omega,rfl,by go_num,rfl,by omega,by omega,by rw [HD2.out]; rfl,HX4.out⟩
     ·obtain rfl:k=tl:=by omega
      have HF:Hid (rowB vars r=true):=bH (by
       rw [HR3.out,HX.out.1,List.drop_of_length_le (by rw [HTL.out]; exact Nat.le_refl _)]; rfl)
      go_wp2
      go_ret
      exact ⟨ret_bool HF.out.symm,HB2.out.2.trans HX.out.2⟩
def emB (p:ProgV) (i:Nat):Bool:=(p.v i).op || decide ((p.v i).lo<=(p.v i).up)
theorem Empty4_any (w:World) (pv:Value) (p:ProgV) (hp:IsPrg w pv p) :
  Calls Tryz.prog 146 #[pv] w (BoolPost w (emptyB p)):=by
 obtain ⟨vv,rv,rfl,hr,-⟩:=hp
 obtain ⟨vo,vc,rfl,-,hn,-⟩:=hr.shape
 have HV:=bH hr
 clear hr
 obtain ⟨n,hn'⟩:∃ n,p.vars.length=n:=⟨_,rfl⟩
 have HN:=bH hn'
 rw [hn'] at hn ⊢ HV
 clear hn'
 have HB:=bH (bI (blk_alloc_at w (.cells #[.slice vo n vc,rv] 25)) ((Ext.refl (fun _=>False) w).alloc (.cells #[.slice vo n vc,rv] 25)))
 go_enter Tryz.func146,Tryz.ntmps146
 go_upto_region 1 with fail
 generalize hw1:w.alloc (.cells #[.slice vo n vc,rv] 25)=w1 at *
 clear hw1
 obtain ⟨pb,hpb⟩:∃ pb,w.heap.size=pb:=⟨_,rfl⟩
 rw [hpb] at HB ⊢
 clear hpb
 have z0:=cellq HB.out.1 0 rfl
 go_wp2_with fail
 go_loopg [3] n (fun gg v3 wr=>∃ i:Nat,i<=n/\gg=n - i/\v3=.int .i64 i/\allTo i (emB p)=true/\wr.cell? ⟨pb,0,none⟩=some (.slice vo n vc)/\XF w wr)
 case atStart=>exact ⟨0,Nat.zero_le _,rfl,rfl,rfl,z0,HB.out.2⟩
 case round =>
  clear z0
  obtain ⟨i,hi,rfl,rfl,hall,z0,hx⟩:=hrel
  have HX:=bH (bI hall (bI z0 hx))
  have HXN:=bH (fun N=>hx.drewN N)
  clear hall
  by_cases hin:i<n
  ·have i0:(i:Int)<(n:Int):=by omega
   have i1:(0:Int)<=(i:Int):=by omega
   obtain ⟨b,off,rfl,-,e0,e1,e2,e3,e4,hok⟩:=(HV.out.keep hx).atp i (by rw [HN.out]; exact hin)
   clear e3 e4 hok hx
   obtain ⟨q,hq⟩:∃ q,emB p i=q:=⟨_,rfl⟩
   have HQ:=bH hq
   have HR:Hid (q=((p.v i).op || decide ((p.v i).lo<=(p.v i).up))):=bH hq.symm
   clear hq
   generalize (p.v i).op=o at *
   generalize (p.v i).lo=lo at *
   generalize (p.v i).up=up at *
   cases o with
   | true =>
    have HE:Hid (q=true):=bH HR.out
    go_upto_region 4 with fail
    go_quiet (fail)
    go_wp2
    go_roundg (n - (i+1))
    case measure=>omega
    case rel=>exact ⟨i+1,by omega,rfl,by go_num,allTo_next HX.out.1 (HQ.out.trans HE.out),HX.out.2.1,HXN.out _⟩
   | false =>
    by_cases hlu:up<lo
    ·have HE:Hid (q=false):=bH (HR.out.trans (by simp; omega))
     go_upto_region 4 with fail
     go_quiet (fail)
     go_wp2
     go_ret
     exact ⟨ret_bool (by show true=!allTo p.vars.length (emB p); rw [allTo_false (i:=i) (by rw [HN.out]; exact hin) (HQ.out.trans HE.out)]; rfl),HXN.out _⟩
    ·have HE:Hid (q=true):=bH (HR.out.trans (by simp; omega))
     go_upto_region 4 with fail
     go_quiet (fail)
     go_wp2
     go_roundg (n - (i+1))
     case measure=>omega
     case rel=>exact ⟨i+1,by omega,rfl,by go_num,allTo_next HX.out.1 (HQ.out.trans HE.out),HX.out.2.1,HXN.out _⟩
  ·obtain rfl:i=n:=by omega
   go_wp2
   go_ret
   exact ⟨ret_bool (by show false=!allTo p.vars.length (emB p); rw [HN.out,HX.out.1]; rfl),HX.out.2.2⟩
theorem Signed4_any (w:World) (pv yv:Value) (p:ProgV) (y:List Rat) (L:Nat) (hp:IsPrg w pv p) (hy:Rats w yv y L) (h1:1<=L) (hL:L<=268435455) :
  Calls Tryz.prog 145 #[pv,yv] w (BoolPost w (signedB p y)):=by
 obtain ⟨vv,rv,rfl,-,hr⟩:=hp
 obtain ⟨ro,rc,rfl,-,hn,-⟩:=hr.shape
 have HV:=bH hr
 obtain ⟨n,hn'⟩:∃ n,p.rows.length=n:=⟨_,rfl⟩
 have HN:=bH hn'
 have HA:=bH (fun W (hW:XF w W) (i:Nat)=>At_any W _ y L (hy.keep hW) i)
 have HG:=bH (fun W u q (hu:Rrat W u q L)=>Rrsign_any W u q L hu hL)
 clear hr hy
 rw [hn'] at hn ⊢ HV
 clear hn'
 have HB:=bH (bI (blk_alloc_at w (.cells #[vv,.slice ro n rc] 25)) ((Ext.refl (fun _=>False) w).alloc (.cells #[vv,.slice ro n rc] 25)))
 go_enter Tryz.func145,Tryz.ntmps145
 go_upto_region 1 with fail
 generalize hw1:w.alloc (.cells #[vv,.slice ro n rc] 25)=w1 at *
 clear hw1
 obtain ⟨pb,hpb⟩:∃ pb,w.heap.size=pb:=⟨_,rfl⟩
 rw [hpb] at HB ⊢
 clear hpb
 have z1:=cellq HB.out.1 1 rfl
 go_wp2_with fail
 go_loopg [5,6] n (fun gg v5 v6 wr=>∃ i:Nat,i<=n/\gg=n - i/\v5=.int .i64 i/\allTo i (fun i=>signB (p.r i).kind (atQ y i))=true/\wr.cell? ⟨pb,1,none⟩=some (.slice ro n rc)/\XF w wr)
 case atStart=>exact ⟨0,Nat.zero_le _,rfl,rfl,rfl,z1,HB.out.2⟩
 case round =>
  clear z1
  obtain ⟨i,hi,rfl,rfl,hall,z1,hx⟩:=hrel
  have HX:=bH (bI hall (bI z1 hx))
  clear hall
  by_cases hin:i<n
  ·have i0:(i:Int)<(n:Int):=by omega
   have i1:(0:Int)<=(i:Int):=by omega
   obtain ⟨b,off,ta,tc,rfl,hlt,e0,e1,e2,e3,e4,-,-⟩:=HV.out.atp i (by rw [HN.out]; exact hin)
   have E2:=bH e2
   clear hlt e0 e1 e2 e3 e4 hx
   generalize (p.r i).terms.length=tn at *
   obtain ⟨k,hk⟩:∃ k,(p.r i).kind=k:=⟨_,rfl⟩
   rw [hk] at E2
   have HK:=bH hk
   clear hk
   have HA1:=bH (fun W (hW:XF w W)=>HA.out W hW i)
   go_wp2_with fail
   refine (HA1.out _ HX.out.2.2).mono ?_
   rintro r2 w2 ⟨v2,rfl,h2,hx2⟩
   obtain ⟨n2,a2,l2,c2,a2',l2',c2',rfl⟩:=h2.shape
   have HG2:=bH (HG.out w2 _ _ h2)
   have HX2:=bH hx2
   clear h2 hx2 HA1 z1
   go_wp2_with fail
   refine HG2.out.mono ?_
   rintro r3 w3 ⟨rfl,hx3⟩
   have hx13:=HX2.out.trans hx3
   have e2:=cell_keep E2.out (HX.out.2.2.trans hx13)
   have z1:=cell_keep HX.out.2.1 hx13
   have Z1:=bH z1
   have hs1:=sign_lt (atQ y i)
   have hs2:=sign_gt (atQ y i)
   have HX3:=bH (HX.out.2.2.trans hx13)
   have hres:signB (p.r i).kind (atQ y i)=!(decide (k=1) && decide ((atQ y i).num.sign<0) || decide (k=0) && decide (0<(atQ y i).num.sign)):=by
    unfold signB; rw [HK.out]; congr 2 <;> congr 1 <;> exact decide_eq_decide.2 (by first | exact hs1.symm | exact hs2.symm)
   have HR:=bH hres
   clear hx3 hx13 HX2 HG2 hs1 hs2 hres HK E2
   generalize (atQ y i).num.sign=sg at *
   have hcase:(k=1/\sg<0)∨(k=0/\0<sg)∨(k=1/\¬ sg<0)∨(k=0/\¬ 0<sg)∨(¬ k=1/\¬ k=0):=by omega
   rcases hcase with ⟨rfl,hs⟩ | ⟨rfl,hs⟩ | ⟨rfl,hs⟩ | ⟨rfl,hs⟩ | ⟨hk1,hk0⟩
   ·go_wp2
    go_ret
    exact ⟨ret_bool (allTo_false (i:=i) (by rw [HN.out]; exact hin) (by rw [HR.out]; simp [hs])).symm,HX3.out⟩
   ·go_wp2
    go_ret
    exact ⟨ret_bool (allTo_false (i:=i) (by rw [HN.out]; exact hin) (by rw [HR.out]; simp [hs])).symm,HX3.out⟩
   ·go_wp2
    go_roundg (n - (i+1))
    case measure=>omega
    case rel=>exact ⟨i+1,by omega,rfl,by go_num,allTo_next HX.out.1 (by rw [HR.out]; simp [hs]),Z1.out,HX3.out⟩
   ·go_wp2
    go_roundg (n - (i+1))
    case measure=>omega
    case rel=>exact ⟨i+1,by omega,rfl,by go_num,allTo_next HX.out.1 (by rw [HR.out]; simp [hs]),Z1.out,HX3.out⟩
   ·have k1:(k == 1)=false:=by simpa using hk1
    have k0:(k == 0)=false:=by simpa using hk0
    go_wp2
    go_roundg (n - (i+1))
    case measure=>omega
    case rel=>exact ⟨i+1,by omega,rfl,by go_num,allTo_next HX.out.1 (by rw [HR.out]; simp [hk1,hk0]),Z1.out,HX3.out⟩
  ·obtain rfl:i=n:=by omega
   go_wp2
   go_ret
   exact ⟨ret_bool (by unfold signedB; rw [HN.out]; exact HX.out.1.symm),HX.out.2.2⟩
theorem Valid4_any (w:World) (pv:Value) (p:ProgV) (hp:IsPrg w pv p) :
  Calls Tryz.prog 36 #[pv] w (BoolPost w (validB p)):=by
 obtain ⟨vv,rv,rfl,hv,hr⟩:=hp
 obtain ⟨vo,vc,rfl,-,hnv,-⟩:=hv.shape
 obtain ⟨ro,rc,rfl,-,hnr,-⟩:=hr.shape
 have HV:=bH (bI hv hr)
 clear hv hr
 obtain ⟨n,hn'⟩:∃ n,p.vars.length=n:=⟨_,rfl⟩
 obtain ⟨m,hm'⟩:∃ m,p.rows.length=m:=⟨_,rfl⟩
 have HN:=bH (bI hn' hm')
 have HR:=bH (show validB p=(decide (n<=400) && decide (m<=4000) && p.vars.all varB && p.rows.all (rowB n)) from by unfold validB; rw [hn',hm'])
 rw [hn'] at hnv ⊢ HV
 rw [hm'] at hnr ⊢ HV
 clear hn' hm'
 have HB:=bH (bI (blk_alloc_at w (.cells #[.slice vo n vc,.slice ro m rc] 25)) ((Ext.refl (fun _=>False) w).alloc (.cells #[.slice vo n vc,.slice ro m rc] 25)))
 go_enter Tryz.func36,Tryz.ntmps36
 go_upto_region 1 with fail
 generalize hw1:w.alloc (.cells #[.slice vo n vc,.slice ro m rc] 25)=w1 at *
 clear hw1
 obtain ⟨pb,hpb⟩:∃ pb,w.heap.size=pb:=⟨_,rfl⟩
 rw [hpb] at HB ⊢
 clear hpb
 have z0:=cellq HB.out.1 0 rfl
 have z1:=cellq HB.out.1 1 rfl
 by_cases c1:400<n
 ·have c1':(400:Int)<(n:Int):=by omega
  go_wp2
  go_ret
  exact ⟨ret_bool (by rw [HR.out,decide_eq_false (p:=(n<=400)) (by omega)]; simp),HB.out.2⟩
 have c1':¬ (400:Int)<(n:Int):=by omega
 by_cases c2:4000<m
 ·have c2':(4000:Int)<(m:Int):=by omega
  go_wp2
  go_ret
  exact ⟨ret_bool (by rw [HR.out,decide_eq_false (p:=(m<=4000)) (by omega)]; simp),HB.out.2⟩
 have c2':¬ (4000:Int)<(m:Int):=by omega
 have HR2:Hid (validB p=(p.vars.all varB && p.rows.all (rowB n))):=bH (by rw [HR.out,decide_eq_true (p:=(n<=400)) (by omega),decide_eq_true (p:=(m<=4000)) (by omega)]; simp)
 clear HR
 go_wp2_with fail
 go_loopg [3,4] n (fun gg v3 v4 wr=>∃ i:Nat,i<=n/\gg=n - i/\v3=.int .i64 i/\(p.vars.take i).all varB=true/\(wr.cell? ⟨pb,0,none⟩=some (.slice vo n vc)/\wr.cell? ⟨pb,1,none⟩=some (.slice ro m rc))/\XF w wr)
 case atStart=>exact ⟨0,Nat.zero_le _,rfl,rfl,rfl,⟨z0,z1⟩,HB.out.2⟩
 case round =>
  clear z0 z1
  obtain ⟨i,hi,rfl,rfl,hall,⟨z0,z1⟩,hx⟩:=hrel
  have HX:=bH (bI hall (bI hx (bI z0 z1)))
  clear hall
  by_cases hin:i<n
  ·have i0:(i:Int)<(n:Int):=by omega
   have i1:(0:Int)<=(i:Int):=by omega
   have HI:Hid (i<p.vars.length):=bH (by rw [HN.out.1]; exact hin)
   obtain ⟨b,off,rfl,-,e0,e1,e2,e3,e4,-⟩:=(HV.out.1.keep HX.out.2.1).atp i HI.out
   have hb1:=BoxV.new wr (p.v i)
   have hx1:=(Ext.refl (fun _=>False) wr).alloc (.cells #[.int .i64 (p.v i).lo,.int .i64 (p.v i).up,.bool (p.v i).op,.bool (p.v i).ig,.int .i64 (p.v i).co] 63)
   have HB1:=bH (bI hb1 hx1)
   have HVB:=bH (show varB (p.vars.getD i var0)=(limB (p.v i).lo && limB (p.v i).up && limB (p.v i).co && !((p.v i).op && !decide ((p.v i).up=0))) from rfl)
   clear hb1 hx1 hx
   go_upto_region 7 with fail
   generalize hw2:wr.alloc (.cells #[.int .i64 (p.v i).lo,.int .i64 (p.v i).up,.bool (p.v i).op,.bool (p.v i).ig,.int .i64 (p.v i).co] 63)=w2 at *
   clear hw2 e0 e1 e2 e3 e4 z0 z1
   obtain ⟨vb,hvb⟩:∃ vb,wr.heap.size=vb:=⟨_,rfl⟩
   rw [hvb] at HB1 ⊢
   clear hvb
   generalize p.v i=vv at *
   obtain ⟨lo,up,o,ig,co⟩:=vv
   dsimp only at HVB
   have f0:w2.cell? ⟨vb,0,none⟩=some (.int .i64 lo):=HB1.out.1.facts.1
   go_wp2_with fail
   refine (inn_any _ _).mono ?_
   rintro r3 w3 ⟨rfl,hx3⟩
   have HB3:=bH (bI (HB1.out.1.keep hx3) (HB1.out.2.trans hx3))
   clear hx3 HB1 f0
   cases hl:limB lo with
   | false =>
    rw [hl] at HVB
    go_wp2
    go_ret
    exact ⟨ret_bool (by rw [HR2.out,all_fails (d:=var0) HI.out (HVB.out.trans rfl)]; rfl),HX.out.2.1.trans HB3.out.2⟩
   | true =>
   rw [hl] at HVB
   clear hl
   have f1:w3.cell? ⟨vb,1,none⟩=some (.int .i64 up):=HB3.out.1.facts.2.1
   go_wp2_with fail
   refine (inn_any _ _).mono ?_
   rintro r4 w4 ⟨rfl,hx4⟩
   have HB4:=bH (bI (HB3.out.1.keep hx4) (HB3.out.2.trans hx4))
   clear hx4 HB3 f1
   cases hl:limB up with
   | false =>
    rw [hl] at HVB
    go_wp2
    go_ret
    exact ⟨ret_bool (by rw [HR2.out,all_fails (d:=var0) HI.out (HVB.out.trans rfl)]; rfl),HX.out.2.1.trans HB4.out.2⟩
   | true =>
   rw [hl] at HVB
   clear hl
   have f4:w4.cell? ⟨vb,4,none⟩=some (.int .i64 co):=HB4.out.1.facts.2.2.2.2
   go_wp2_with fail
   refine (inn_any _ _).mono ?_
   rintro r5 w5 ⟨rfl,hx5⟩
   have HB5:=bH (bI (HB4.out.1.keep hx5) (HB4.out.2.trans hx5))
   clear hx5 HB4 f4
   cases hl:limB co with
   | false =>
    rw [hl] at HVB
    go_wp2
    go_ret
    exact ⟨ret_bool (by rw [HR2.out,all_fails (d:=var0) HI.out (HVB.out.trans rfl)]; rfl),HX.out.2.1.trans HB5.out.2⟩
   | true =>
   rw [hl] at HVB
   clear hl
   have f1:w5.cell? ⟨vb,1,none⟩=some (.int .i64 up):=HB5.out.1.facts.2.1
   have f2:w5.cell? ⟨vb,2,none⟩=some (.bool o):=HB5.out.1.facts.2.2.1
   have HZ:=bH (bI (cell_keep HX.out.2.2.1 HB5.out.2) (cell_keep HX.out.2.2.2 HB5.out.2))
   cases o with
   | false =>
    go_wp2
    go_roundg (n - (i+1))
    case measure=>omega
    case rel=>exact ⟨i+1,by omega,rfl,by go_num,all_next (d:=var0) HI.out HX.out.1 (HVB.out.trans rfl),HZ.out,HX.out.2.1.trans HB5.out.2⟩
   | true =>
    by_cases hu:up=0
    ·have HVB':=bH (HVB.out.trans (show _=true by rw [decide_eq_true hu]; rfl))
     clear HVB
     subst hu
     go_wp2
     go_roundg (n - (i+1))
     case measure=>omega
     case rel=>exact ⟨i+1,by omega,rfl,by go_num,all_next (d:=var0) HI.out HX.out.1 HVB'.out,HZ.out,HX.out.2.1.trans HB5.out.2⟩
    ·have hu':(up == 0)=false:=by simpa using hu
     have hu2:(up != 0)=true:=by simpa using hu
     have HVB':=bH (HVB.out.trans (show _=false by rw [decide_eq_false hu]; rfl))
     clear HVB
     go_wp2
     go_ret
     exact ⟨ret_bool (by rw [HR2.out,all_fails (d:=var0) HI.out HVB'.out]; rfl),HX.out.2.1.trans HB5.out.2⟩
  ·obtain rfl:n=i:=by omega
   have HF:Hid (validB p=p.rows.all (rowB n)):=bH (by
    have:=HX.out.1
    rw [List.take_of_length_le (by rw [HN.out.1]; exact Nat.le_refl _)] at this
    rw [HR2.out,this]; rfl)
   clear HR2 hi hin hx
   have HVr:=bH (HV.out.2.keep HX.out.2.1)
   have HRow:=bH (fun W (hW:XF w W) (i:Nat) (hi:i<p.rows.length) ta tc (hok:RowOk (p.r i)) (ht:Tms w (.slice ta (p.r i).terms.length tc) (p.r i).terms)=>ValidRow_any W n (by omega) (p.r i) ta tc hok (ht.keep hW))
   go_wp2_with fail
   go_loopg [5] m (fun gg v5 wr=>∃ i:Nat,i<=m/\gg=m - i/\v5=.int .i64 i/\(p.rows.take i).all (rowB n)=true/\(wr.cell? ⟨pb,0,none⟩=some (.slice vo n vc)/\wr.cell? ⟨pb,1,none⟩=some (.slice ro m rc))/\XF w wr)
   case atStart=>exact ⟨0,Nat.zero_le _,rfl,rfl,rfl,HX.out.2.2,HX.out.2.1⟩
   case round =>
    clear z0 z1 HX HVr
    obtain ⟨i,hi,rfl,rfl,hall,⟨z0,z1⟩,hx⟩:=hrel
    have HX:=bH (bI hall (bI hx (bI z0 z1)))
    clear hall
    by_cases hin:i<m
    ·have i0:(i:Int)<(m:Int):=by omega
     have i1:(0:Int)<=(i:Int):=by omega
     have HI:Hid (i<p.rows.length):=bH (by rw [HN.out.2]; exact hin)
     obtain ⟨b,off,ta,tc,rfl,-,e0,e1,e2,e3,e4,hrok,htm⟩:=HV.out.2.atp i HI.out
     replace e0:=cell_keep e0 hx
     replace e1:=cell_keep e1 hx
     replace e2:=cell_keep e2 hx
     replace e3:=cell_keep e3 hx
     replace e4:=cell_keep e4 hx
     have HH:=bH (fun W (hW:XF w W)=>HRow.out W hW i HI.out ta tc hrok htm)
     clear hrok htm
     obtain ⟨hb,hhb⟩:∃ hb,rowB n (p.r i)=hb:=⟨_,rfl⟩
     have HHB:=bH hhb
     rw [hhb] at HH
     clear hhb
     generalize (p.r i).terms.length=tl at *
     generalize (p.r i).name=nm at *
     generalize (p.r i).group=gr at *
     generalize (p.r i).kind=k at *
     generalize (p.r i).bound=bd at *
     have hS:S7 pb pb b b b b b 0 1 (off+i*5) (off+i*5+1) (off+i*5+2) (off+i*5+3) (off+i*5+4) (.slice vo n vc) (.slice (some ⟨b,off,none⟩) m rc) (.string nm) (.int .i64 gr) (.int .i64 k) (.slice ta tl tc) (.int .i64 bd) wr:=⟨z0,z1,e0,e1,e2,e3,e4⟩
     have hxw:=hx
     clear z0 z1 e0 e1 e2 e3 e4 hx
     go_upto_region 12 with fail
     refine wp_region_held_drew (S:=(S7 pb pb b b b b b 0 1 (off+i*5) (off+i*5+1) (off+i*5+2) (off+i*5+3) (off+i*5+4) (.slice vo n vc) (.slice (some ⟨b,off,none⟩) m rc) (.string nm) (.int .i64 gr) (.int .i64 k) (.slice ta tl tc) (.int .i64 bd))) (by kernel_rfl) (hS.drew) (fun hHeld=>?_)
     refine ht 0 (h:=?_)
     (try go_frame)
     refine ht 1 (h:=?_)
     (try go_frame)
     refine ht 2 (h:=?_)
     (try go_frame)
     refine ht 3 (h:=?_)
     (try go_frame)
     refine ht 4 (h:=?_)
     (try go_frame)
     refine ht 5 (h:=?_)
     (try go_frame)
     refine ht 6 (h:=?_)
     (try go_frame)
     refine ht 7 (h:=?_)
     (try go_frame)
     refine held_step 8 rfl (by kernel_rfl) (fun K hK=>?_)
     (go_simp; go_at_call 34; (with_reducible refine (HH.out _ (hxw.drew)).mono ?_); rintro q1 w11 ⟨rfl,hx11⟩; have hX1:=(Ext.refl (fun _=>False) wr).drew.trans hx11; have hK1:=hS.keep hX1)
     refine hK.out _ _ (hK1) (fun hHeld=>?_)
     clear hK K
     (try go_frame)
     refine ht 9 (h:=?_)
     (try go_frame)
     refine wpAnyH_done (by kernel_rfl) ?_ _
     have y0:=hK1.1
     have y1:=hK1.2.1
     have HXa:=bH (bI (HX.out.2.1.trans hX1) (bI y0 y1))
     clear hX1 hK1 hS hx11 hxw hHeld y0 y1
     cases hb with
     | true =>
      go_wp2
      go_roundg (m - (i+1))
      case measure=>omega
      case rel=>exact ⟨i+1,by omega,rfl,by go_num,all_next (d:=row0) HI.out HX.out.1 HHB.out,HXa.out.2,HXa.out.1⟩
     | false =>
      go_wp2
      go_ret
      exact ⟨ret_bool (by rw [HF.out,all_fails (d:=row0) HI.out HHB.out]),HXa.out.1⟩
    ·obtain rfl:i=m:=by omega
     have HG:Hid (validB p=true):=bH (by
      have:=HX.out.1
      rw [List.take_of_length_le (by rw [HN.out.2]; exact Nat.le_refl _)] at this
      rw [HF.out,this])
     go_wp2
     go_ret
     exact ⟨ret_bool (by rw [HG.out]),HX.out.2.1⟩
structure CmSt (w wr:World) (pb rb bb B n:Nat) (va vb:Value) (f:Nat->Rat) (q:Rat):Prop where
 ext:XF w wr
 p0:wr.cell? ⟨pb,0,none⟩=some va
 p1:wr.cell? ⟨pb,1,none⟩=some vb
 res:BoxR wr rb false (.slice none 0 0) (.slice none 0 0)
 acc:∃ sn s1 sm1 sc1 s2 sm2 sc2,BoxR wr bb sn (.slice s1 sm1 sc1) (.slice s2 sm2 sc2)/\IsRat wr (.agg #[.bool sn,.slice s1 sm1 sc1,.slice s2 sm2 sc2]) q
 arr:RArr wr B n f
 ord:w.heap.size<=pb/\pb<rb/\rb<B/\B<bb
section
variable {w wr w':World} {pb rb bb B n:Nat} {va vb:Value} {f g:Nat->Rat} {q:Rat}
theorem CmSt.keep (h:CmSt w wr pb rb bb B n va vb f q) (hx:XF wr w'):CmSt w w' pb rb bb B n va vb f q :=
 ⟨h.ext.trans hx,cell_keep h.p0 hx,cell_keep h.p1 hx,h.res.keep hx,(by obtain ⟨sn,s1,sm1,sc1,s2,sm2,sc2,h1,h2⟩:=h.acc; exact ⟨sn,s1,sm1,sc1,s2,sm2,sc2,h1.keep hx,h2.keep hx⟩),h.arr.keep hx,h.ord⟩
theorem CmSt.congr (h:CmSt w wr pb rb bb B n va vb f q) {q':Rat} (hg:∀ i,i<n->f i=g i) (hq:q=q'):CmSt w wr pb rb bb B n va vb g q' :=
 ⟨h.ext,h.p0,h.p1,h.res,hq ▸ h.acc,h.arr.congr hg,h.ord⟩
theorem IsRat.past {v:Value} (h:IsRat w v q) (hr:∀ v l,Rds w v l->Rds w' v l):IsRat w' v q:=by
 obtain ⟨mag,dv',g1,g2,g3⟩:=h
 exact ⟨mag,dv',g1,hr _ _ g2,hr _ _ g3⟩
theorem CmSt.setArr (h:CmSt w wr pb rb bb B n va vb f q) {j:Nat} (hj:j<n) {neg:Bool} {a1 a2:Option Addr} {m1 c1 m2 c2:Nat} {u:Rat} (hu:IsRat wr (.agg #[.bool neg,.slice a1 m1 c1,.slice a2 m2 c2]) u) :
  CmSt w (((wr.setCell ⟨B,j*3,none⟩ (.bool neg)).setCell ⟨B,j*3+1,none⟩ (.slice a1 m1 c1)).setCell ⟨B,j*3+2,none⟩ (.slice a2 m2 c2)) pb rb bb B n va vb (fun k=>if k=j then u else f k) q/\Ext (fun k=>k=B) wr (((wr.setCell ⟨B,j*3,none⟩ (.bool neg)).setCell ⟨B,j*3+1,none⟩ (.slice a1 m1 c1)).setCell ⟨B,j*3+2,none⟩ (.slice a2 m2 c2)):=by
 obtain ⟨p1,p2,p3⟩:=h.arr.put hj hu
 obtain ⟨o1,o2,o3,o4⟩:=h.ord
 refine ⟨⟨h.ext.own p2 (fun k e=>by omega),(p2.cell (p:=⟨pb,0,none⟩) (World.block_lt_of_cell? _ _ h.p0) (fun e=>by have:pb=B:=e; omega)).trans h.p0,(p2.cell (p:=⟨pb,1,none⟩) (World.block_lt_of_cell? _ _ h.p1) (fun e=>by have:pb=B:=e; omega)).trans h.p1,h.res.ext p2 (fun e=>by omega),?_,p1,h.ord⟩,p2⟩
 obtain ⟨sn,s1,sm1,sc1,s2,sm2,sc2,h1,h2⟩:=h.acc
 exact ⟨sn,s1,sm1,sc1,s2,sm2,sc2,h1.ext p2 (fun e=>by omega),h2.past p3⟩
theorem CmSt.setAcc (h:CmSt w wr pb rb bb B n va vb f q) {n0:Bool} {m0 d0:Value} (hb:BoxR wr bb n0 m0 d0) {neg:Bool} {a1 a2:Option Addr} {m1 c1 m2 c2:Nat} {u:Rat} (hu:IsRat wr (.agg #[.bool neg,.slice a1 m1 c1,.slice a2 m2 c2]) u) :
  CmSt w (((wr.setCell ⟨bb,0,none⟩ (.bool neg)).setCell ⟨bb,1,none⟩ (.slice a1 m1 c1)).setCell ⟨bb,2,none⟩ (.slice a2 m2 c2)) pb rb bb B n va vb f u:=by
 have hp:=hb.put (neg:=neg) (no_int a1 m1 c1) (no_int a2 m2 c2)
 have p2:=hp.ext
 obtain ⟨o1,o2,o3,o4⟩:=h.ord
 exact ⟨h.ext.own p2 (fun k e=>by omega),(p2.cell (p:=⟨pb,0,none⟩) (World.block_lt_of_cell? _ _ h.p0) (fun e=>by have:pb=bb:=e; omega)).trans h.p0,(p2.cell (p:=⟨pb,1,none⟩) (World.block_lt_of_cell? _ _ h.p1) (fun e=>by have:pb=bb:=e; omega)).trans h.p1,h.res.ext p2 (fun e=>by omega),⟨_,_,_,_,_,_,_,hp.box,hp.rat hu⟩,h.arr.past p2 (fun e=>by omega) hp.rds,h.ord⟩
end
theorem Combine4_any (w:World) (pv yv:Value) (p:ProgV) (y:List Rat) (L T:Nat) (hp:IsPrg w pv p) (hy:Rats w yv y L) (h1:1<=L) (hT:∀ i,i<p.rows.length->(p.r i).terms.length<=T)
  (hL:1+p.rows.length*(T*(L+3)+2)+(1+T*(L+3))+(L+3)<=4000000) (hL2:1+p.rows.length*(L+3)+(L+3)<=4000000) (hL3:L<=1000000) (hvn:p.vars.length<=1000000) :
  Calls Tryz.prog 147 #[pv,yv] w (CombPost w p.vars.length (combA p y) (combB p y)):=by
 obtain ⟨vv,rv,rfl,hv,hr⟩:=hp
 obtain ⟨vo,vc,rfl,-,-,-⟩:=hv.shape
 obtain ⟨ro,rc,rfl,-,hn,-⟩:=hr.shape
 have HA:=bH (fun W (hW:XF w W) (i:Nat)=>At_any W _ y L (hy.keep hW) i)
 have hsz:∀ i j k,i<p.rows.length->k<(p.r i).terms.length->Sz (sumTo i (rowA p y j)+sumTo k (termA (p.r i) (atQ y i) j)) (1+p.rows.length*(T*(L+3)+2)+(1+T*(L+3))+1):=fun i j k hi hk=>by
  have hok:∀ i,i<p.rows.length->∀ k,k<(p.r i).terms.length->TermOk ((p.r i).t k):=fun i hi k hk=>by
   obtain ⟨_,_,_,_,rfl,_,_,_,_,_,_,_,ht⟩:=hr.atp i hi
   exact ht.ok k hk
  have g1:∀ i,i<p.rows.length->∀ k,k<=(p.r i).terms.length->Sz (sumTo k (termA (p.r i) (atQ y i) j)) (1+T*(L+3)):=fun i hi k hk =>
   (sumTo_sz (M:=L+2) (fun k' hk'=>termA_sz (hy.sz h1 i) (hok i hi k' (by omega)) j)).mono (by
    have:=Nat.mul_le_mul_right (L+3) (Nat.le_trans hk (hT i hi))
    show 1+k*(L+3)<=_
    omega)
  have g2:Sz (sumTo i (rowA p y j)) (1+p.rows.length*(T*(L+3)+2)) :=
   (sumTo_sz (M:=1+T*(L+3)) (fun i' hi'=>g1 i' (by omega) _ (Nat.le_refl _))).mono (by
    have:=Nat.mul_le_mul_right (T*(L+3)+2) (Nat.le_of_lt hi)
    rw [show 1+T*(L+3)+1=T*(L+3)+2 from by omega]
    omega)
  exact g2.add (g1 i hi k (by omega))
 have hszb:∀ i,i<p.rows.length->Sz (sumTo i fun k=>((p.r k).bound:Rat)*atQ y k) 4000000:=fun i hi =>
  (sum_size (f:=fun k=>(p.r k).bound) (g:=fun k=>atQ y k) (L:=L) (n:=p.rows.length) (fun k hk=>(hr.ok k hk).bound) (fun k _=>hy.sz h1 _) i (Nat.le_of_lt hi)).mono (by have:=Nat.mul_le_mul_right (L+3) (Nat.le_of_lt hi); omega)
 have Hsz:=bH (bI hsz hszb)
 have Hq:=bH (fun i=>hy.sz h1 i)
 generalize hM:1+p.rows.length*(T*(L+3)+2)+(1+T*(L+3))+1=M at *
 have hML:M+(L+2)<=4000000:=by omega
 have HV:=bH hr
 clear hv hr hy hsz hszb hL hL2 hM hT
 obtain ⟨m,hm'⟩:∃ m,p.rows.length=m:=⟨_,rfl⟩
 have HN:=bH hm'
 have HQB:=bH (show combB p y=sumTo m (fun k=>((p.r k).bound:Rat)*atQ y k) from by unfold combB; rw [hm'])
 rw [hm'] at hn ⊢ HV Hsz
 clear hm'
 obtain ⟨n,hn'⟩:∃ n,p.vars.length=n:=⟨_,rfl⟩
 rw [hn'] at hvn ⊢
 clear hn'
 have hb1:blk ((w.alloc (.cells #[.slice vo n vc,.slice ro m rc] 25)).alloc (.cells #[.bool false,.slice none 0 0,.slice none 0 0] 31)) w.heap.size=some (.cells #[.slice vo n vc,.slice ro m rc] 25 (0,0)):=(blk_alloc_past _ _ _ (by simp)).trans (blk_alloc_at _ _)
 have hb2:=boxR_of (blk_alloc_at (w.alloc (.cells #[.slice vo n vc,.slice ro m rc] 25)) (.cells #[.bool false,.slice none 0 0,.slice none 0 0] 31))
 rw [World.size_alloc] at hb2
 have hxx:=((Ext.refl (fun _=>False) w).alloc (.cells #[.slice vo n vc,.slice ro m rc] 25)).alloc (.cells #[.bool false,.slice none 0 0,.slice none 0 0] 31)
 have hsw:((w.alloc (.cells #[.slice vo n vc,.slice ro m rc] 25)).alloc (.cells #[.bool false,.slice none 0 0,.slice none 0 0] 31)).heap.size=w.heap.size+1+1:=by simp [World.size_alloc]
 obtain ⟨w2,hmk,hA,hx2⟩:=run_make_rats ((w.alloc (.cells #[.slice vo n vc,.slice ro m rc] 25)).alloc (.cells #[.bool false,.slice none 0 0,.slice none 0 0] 31)) n hvn
 rw [hsw] at hmk hA
 have hlt2:=hA.lt
 have hq:CmSt w (w2.alloc (.cells #[.bool false,.slice none 0 0,.slice none 0 0] 31)) w.heap.size (w.heap.size+1) w2.heap.size (w.heap.size+1+1) n (.slice vo n vc) (.slice ro m rc) (fun _=>0) 0:=by
  have hx3:=(Ext.refl (fun _=>False) w2).alloc (.cells #[.bool false,.slice none 0 0,.slice none 0 0] 31)
  have hb:=blk_keep hb1 (hx2.trans hx3)
  exact ⟨(hxx.trans hx2).trans hx3,cellq hb 0 rfl,cellq hb 1 rfl,(hb2.keep hx2).keep hx3,⟨_,_,_,_,_,_,_,boxR_new rfl false none 0 0 none 0 0,IsRat.zero _⟩,hA.keep hx3,by omega⟩
 have HQ:=bH hq
 have HB:=bH (bI hb1 hx2)
 clear hb1 hb2 hxx hA hq
 go_enter Tryz.func147,Tryz.ntmps147
 go_upto_region 1 with fail
 generalize hw1:(w.alloc (.cells #[.slice vo n vc,.slice ro m rc] 25)).alloc (.cells #[.bool false,.slice none 0 0,.slice none 0 0] 31)=w1 at *
 clear hw1
 obtain ⟨pb,hpb⟩:∃ pb,w.heap.size=pb:=⟨_,rfl⟩
 rw [hpb] at HB HQ hmk hlt2 ⊢
 clear hpb hsw
 have z0:=cellq HB.out.1 0 rfl
 go_upto_region 3 with fail
 clear z0 hmk hx2
 obtain ⟨B,hBe⟩:∃ B,pb+1+1=B:=⟨_,rfl⟩
 obtain ⟨rb,hrbe⟩:∃ rb,pb+1=rb:=⟨_,rfl⟩
 rw [hBe] at HQ hlt2 ⊢
 rw [hrbe] at HQ ⊢
 clear hBe hrbe
 generalize w2.alloc (.cells #[.bool false,.slice none 0 0,.slice none 0 0] 31)=w3 at *
 generalize w2.heap.size=bb at *
 have ord:=HQ.out.ord
 have z1:=HQ.out.p1
 go_wp2_with fail
 go_loopg [8,9,10,11] m (fun gg v8 v9 v10 v11 wr=>∃ i:Nat,i<=m/\gg=m - i/\v8=.int .i64 i/\CmSt w wr pb rb bb B n (.slice vo n vc) (.slice ro m rc) (fun j=>sumTo i (rowA p y j)) (sumTo i fun k=>((p.r k).bound:Rat)*atQ y k))
 case atStart=>exact ⟨0,Nat.zero_le _,rfl,rfl,HQ.out.congr (fun _ _=>rfl) rfl⟩
 case round =>
  clear z1
  obtain ⟨i,hi,rfl,rfl,hst⟩:=hrel
  have HC:=bH hst
  clear hst
  have z1:=HC.out.p1
  by_cases hin:i<m
  ·have i0:(i:Int)<(m:Int):=by omega
   have i1:(0:Int)<=(i:Int):=by omega
   obtain ⟨b,off,ta,tc,rfl,hlt,e0,e1,e2,e3,e4,hrok,htm⟩:=HV.out.atp i (by rw [HN.out]; exact hin)
   replace e0:=cell_keep e0 HC.out.ext
   replace e1:=cell_keep e1 HC.out.ext
   replace e2:=cell_keep e2 HC.out.ext
   replace e3:=cell_keep e3 HC.out.ext
   replace e4:=cell_keep e4 HC.out.ext
   have HTM:=bH (bI htm hrok.bound)
   obtain ⟨-,-,-,-,htn,-⟩:=htm.shape
   have HA1:=bH (fun W (hW:XF wr W)=>HA.out W (HC.out.ext.trans hW) i)
   obtain ⟨tl,htl⟩:∃ tl,(p.r i).terms.length=tl:=⟨_,rfl⟩
   have HszI:=bH (fun j k (hk:k<tl)=>Hsz.out.1 i j k hin (by rw [htl]; exact hk))
   have HTL:=bH htl
   rw [htl] at e3 htn HTM
   have HBI:=bH (show ∀ q,(p.r i).bound=q->sumTo (i+1) (fun k=>((p.r k).bound:Rat)*atQ y k)=sumTo i (fun k=>((p.r k).bound:Rat)*atQ y k)+(q:Rat)*atQ y i from fun q h=>by rw [<- h]; rfl)
   replace HBI:=bH (HBI.out _ rfl)
   clear hrok htm htl hlt
   generalize hnm:(p.r i).name=nm at *
   generalize hgr:(p.r i).group=gr at *
   generalize hkd:(p.r i).kind=kd at *
   generalize hbd:(p.r i).bound=bd at *
   have hx3:=(Ext.refl (fun _=>False) wr).alloc (.cells #[.string nm,.int .i64 gr,.int .i64 kd,.slice ta tl tc,.int .i64 bd] 58)
   have hb3:=blk_alloc_at wr (.cells #[.string nm,.int .i64 gr,.int .i64 kd,.slice ta tl tc,.int .i64 bd] 58)
   have hrx:bb<wr.heap.size:=by
    obtain ⟨_,_,_,_,_,_,_,hh,_⟩:=HC.out.acc
    exact hh.lt
   have HC3:=bH (bI (HC.out.keep hx3) hb3)
   clear hb3 hx3 hnm hgr hkd hbd
   go_upto_region 7 with fail
   generalize wr.alloc (.cells #[.string nm,.int .i64 gr,.int .i64 kd,.slice ta tl tc,.int .i64 bd] 58)=w4 at *
   generalize wr.heap.size=rx at *
   clear e0 e1 e2 e3 e4 z1
   have e3:=cellq HC3.out.2 3 rfl
   go_wp2_with fail
   go_loopg [10,11] tl (fun gg v10 v11 wq=>∃ k:Nat,k<=tl/\gg=tl - k/\v10=.int .i64 k/\CmSt w wq pb rb bb B n (.slice vo n vc) (.slice (some ⟨b,off,none⟩) m rc) (fun j=>sumTo i (rowA p y j)+sumTo k (termA (p.r i) (atQ y i) j)) (sumTo i fun k=>((p.r k).bound:Rat)*atQ y k)/\blk wq rx=some (.cells #[.string nm,.int .i64 gr,.int .i64 kd,.slice ta tl tc,.int .i64 bd] 58 (0,0)))
   case atStart=>exact ⟨0,Nat.zero_le _,rfl,rfl,HC3.out.1.congr (fun j _=>(by show _=_+(0:Rat); rw [Rat.add_zero])) rfl,HC3.out.2⟩
   case round =>
    clear e3
    obtain ⟨k,hk,rfl,rfl,hst,hbx⟩:=hrel
    have HCm:=bH hst
    have HBX:=bH hbx
    clear hst hbx
    have e3:=cellq HBX.out 3 rfl
    by_cases hkn:k<tl
    ·have k0:(k:Int)<(tl:Int):=by omega
     have k1:(0:Int)<=(k:Int):=by omega
     obtain ⟨bt,offt,rfl,-,f0,f1,hok⟩:=(HTM.out.1.keep HCm.out.ext).atr k (by rw [HTL.out]; exact hkn)
     have HTA:=bH (show ∀ j,termA (p.r i) (atQ y i) j k=if ((p.r i).t k).var=(j:Int) then (((p.r i).t k).coef:Rat)*atQ y i else 0 from fun _=>rfl)
     have Hsz2:=bH (fun j=>HszI.out j k hkn)
     have HOk:=bH (bI hok.var hok.coef)
     clear hok
     generalize ((p.r i).t k).var=tv at *
     generalize ((p.r i).t k).coef=co at *
     by_cases hin3:0<=tv/\tv<(n:Int)
     ·obtain ⟨v,rfl⟩:∃ v:Nat,tv=v:=⟨tv.toNat,by omega⟩
      have hvn:v<n:=by omega
      have v0:(0:Int)<=(v:Int):=by omega
      have v1:(v:Int)<(n:Int):=by omega
      clear hin3
      obtain ⟨on,oa,ol,oc,oa2,ol2,oc2,o0,o1,o2,hoq⟩:=HCm.out.arr.cells v hvn
      have HAt:=bH (fun W (hW:XF wr W)=>HA.out W (HCm.out.ext.trans hW) i)
      have HTm:=bH (fun W u (hu:Rrat W u (atQ y i) L)=>times_any W co u _ L HOk.out.2 hu hL3)
      have hpr:=(Sz.int HOk.out.2).mul (Hq.out i)
      have HAd:=bH (fun W u (hW:XF wr W) (hu:IsRat W u ((co:Rat)*atQ y i))=>Rradd_any W _ u _ _ (M+(L+2)) ((hoq.keep hW).reads ((Hsz2.out v).mono (by omega))) (hu.reads (hpr.mono (by omega))) (by omega) (by omega))
      have HTv:=bH (show (fun j=>if j=v then (sumTo i (rowA p y v)+sumTo k (termA (p.r i) (atQ y i) v))+(co:Rat)*atQ y i else sumTo i (rowA p y j)+sumTo k (termA (p.r i) (atQ y i) j))=fun j=>sumTo i (rowA p y j)+sumTo (k+1) (termA (p.r i) (atQ y i) j) from funext fun j=>(by
       show _=sumTo i (rowA p y j)+(sumTo k (termA (p.r i) (atQ y i) j)+termA (p.r i) (atQ y i) j k)
       rw [HTA.out]
       by_cases e:j=v
       ·rw [if_pos e,e,if_pos rfl]; grind
       ·rw [if_neg e,if_neg (by omega)]; grind))
      go_upto_region 12 with fail
      replace e3:=cq e3
      replace f0:=cq f0
      replace f1:=cq f1
      replace o0:=cq o0
      replace o1:=cq o1
      replace o2:=cq o2
      have Hv:=bH hvn
      clear hpr hoq Hsz2 HTA hvn HA HA1
      generalize (co:Rat)*atQ y i=PR at *
      generalize atQ y i=AQ at *
      refine ends_begin 18 (XF wr) (by kernel_rfl) ((Ext.refl _ wr).drew) (fun hHeld=>?_)
      refine et 0 (h:=(et 1 (h:=(et 2 (h:=(et 3 (h:=(et 4 (h:=(et 5 (h:=(et 6 (h:=(et 7 (h:=(et 8 (h:=(et 9 (h:=(et 10 (h:=(et 11 (h:=(et 12 (h:=(et 13 (h:=?_)))))))))))))))))))))))))))
      (try go_frame)
      refine est 14 (h:=fun K hK=>?_)
      (go_simp; go_at_call 30; (with_reducible refine (HAt.out _ hHeld).mono ?_); rintro q1 w11 ⟨v11,rfl,h11,hx11⟩; have hX1:=hHeld.trans hx11; have hT:=HTm.out w11 _ h11; obtain ⟨n11,a11,l11,c11,a11',l11',c11',rfl⟩:=h11.shape)
      refine hK.out _ _ (hX1) (fun hHeld=>?_)
      clear hK K
      (try go_frame)
      refine est 15 (h:=fun K hK=>?_)
      (go_simp; go_at_call 71; (with_reducible refine hT.mono ?_); rintro q2 w12 ⟨v12,rfl,h12,hx12⟩; have hX2:=hX1.trans hx12; have hA:=HAd.out w12 _ hX2 h12; obtain ⟨n12,a12,l12,c12,a12',l12',c12',rfl⟩:=h12.shape)
      refine hK.out _ _ (hX2) (fun hHeld=>?_)
      clear hK K
      (try go_frame)
      refine est 16 (h:=fun K hK=>?_)
      (go_simp; go_at_call 29; (with_reducible refine hA.mono ?_); rintro q3 w13 ⟨v13,rfl,h13,hx13⟩; have hX3:=hX2.trans hx13; obtain ⟨n13,a13,l13,c13,a13',l13',c13',rfl⟩:=h13.shape)
      refine hK.out _ _ (hX3) (fun hHeld=>?_)
      clear hK K
      (try go_frame)
      refine et 17 (h:=?_)
      (try go_frame)
      have HC:=bH (HCm.out.keep hX3)
      have fz0:=HC.out.arr.free (v*3)
      have fz1:=HC.out.arr.free (v*3+1)
      have fz2:=HC.out.arr.free (v*3+2)
      have t0:=o0 _ hX3
      have t1:=o1 _ hX3
      have t2:=o2 _ hX3
      refine ends_last rfl (by kernel_rfl) (fun K hK=>?_)
      go_simp
      refine hK.out _ _ ?_
      clear hK K
      (try go_frame)
      refine ends_done (by kernel_rfl) ?_ _
      have HP:=bH (HC.out.setArr Hv.out h13)
      have HBX2:=bH ((HP.out.2.blk (blk_lt (blk_keep HBX.out hX3)) (fun e=>by omega)).trans (blk_keep HBX.out hX3))
      have HPv:=bH (show CmSt w _ pb rb bb B n (.slice vo n vc) (.slice (some ⟨b,off,none⟩) m rc) _ _ from (HTv.out ▸ HP.out.1))
      clear HP HTv HC h11 h12 h13 hx11 hx12 hx13 hX1 hX2 hX3 hT hA t0 t1 t2 fz0 fz1 fz2 o0 o1 o2 e3 f0 f1 hHeld HAd HTm HAt
      generalize ((w13.setCell ⟨B,v*3,none⟩ (.bool n13)).setCell ⟨B,v*3+1,none⟩ (.slice a13 l13 c13)).setCell ⟨B,v*3+2,none⟩ (.slice a13' l13' c13')=w9 at *
      go_wp2
      go_roundg (tl - (k+1))
      case measure=>omega
      case rel=>exact ⟨k+1,by omega,rfl,by go_num,HPv.out,HBX2.out⟩
     ·have hz:∀ j,j<n->termA (p.r i) (atQ y i) j k=0:=fun j hj=>by
       rw [HTA.out,if_neg (by omega)]
      have HE:=bH (HCm.out.congr (g:=fun j=>sumTo i (rowA p y j)+sumTo (k+1) (termA (p.r i) (atQ y i) j)) (fun j hj=>(by show _=sumTo i (rowA p y j)+(sumTo k (termA (p.r i) (atQ y i) j)+termA (p.r i) (atQ y i) j k); rw [hz j hj,Rat.add_zero])) rfl)
      clear hz HTA
      by_cases hin4:0<=tv
      ·have hin5:¬ tv<(n:Int):=by omega
       go_wp2
       go_roundg (tl - (k+1))
       case measure=>omega
       case rel=>exact ⟨k+1,by omega,rfl,by go_num,HE.out,HBX.out⟩
      ·go_wp2
       go_roundg (tl - (k+1))
       case measure=>omega
       case rel=>exact ⟨k+1,by omega,rfl,by go_num,HE.out,HBX.out⟩
    ·obtain rfl:k=tl:=by omega
     have HAt:=bH (fun W (hW:XF wr W)=>HA.out W (HCm.out.ext.trans hW) i)
     have HTm:=bH (fun W u (hu:Rrat W u (atQ y i) L)=>times_any W bd u _ L HTM.out.2 hu hL3)
     obtain ⟨sn,s1,sm1,sc1,s2,sm2,sc2,hsb,hsq⟩:=HCm.out.acc
     have hpr:=(Sz.int HTM.out.2).mul (Hq.out i)
     have HAd:=bH (fun W u (hW:XF wr W) (hu:IsRat W u ((bd:Rat)*atQ y i))=>Rradd_any W _ u _ _ 4000000 ((hsq.keep hW).reads (Hsz.out.2 i hin)) (hu.reads (hpr.mono (by omega))) (by omega) (by omega))
     rw [<- HBI.out] at HAd
     obtain ⟨t0,t1,t2,-⟩:=hsb.facts
     replace t0:=cq t0
     replace t1:=cq t1
     replace t2:=cq t2
     have e4:=cq (cellq HBX.out 4 rfl)
     have HFn:=bH (fun j (_:j<n)=>(show sumTo i (rowA p y j)+sumTo k (termA (p.r i) (atQ y i) j)=sumTo (i+1) (rowA p y j) from (by show _=sumTo i (rowA p y j)+rowA p y j i; unfold rowA; rw [HTL.out])))
     clear hpr hsq HBI HA HA1
     generalize (bd:Rat)*atQ y i=PR at *
     generalize atQ y i=AQ at *
     go_upto_region 13 with fail
     refine ends_begin 8 (XF wr) (by kernel_rfl) ((Ext.refl _ wr).drew) (fun hHeld=>?_)
     refine et 0 (h:=(et 1 (h:=(et 2 (h:=(et 3 (h:=(et 4 (h:=?_)))))))))
     (try go_frame)
     refine est 5 (h:=fun K hK=>?_)
     (go_simp; go_at_call 30; (with_reducible refine (HAt.out _ hHeld).mono ?_); rintro q1 w11 ⟨v11,rfl,h11,hx11⟩; have hX1:=hHeld.trans hx11; have hT:=HTm.out w11 _ h11; obtain ⟨n11,a11,l11,c11,a11',l11',c11',rfl⟩:=h11.shape)
     refine hK.out _ _ (hX1) (fun hHeld=>?_)
     clear hK K
     (try go_frame)
     refine est 6 (h:=fun K hK=>?_)
     (go_simp; go_at_call 71; (with_reducible refine hT.mono ?_); rintro q2 w12 ⟨v12,rfl,h12,hx12⟩; have hX2:=hX1.trans hx12; have hA:=HAd.out w12 _ hX2 h12; obtain ⟨n12,a12,l12,c12,a12',l12',c12',rfl⟩:=h12.shape)
     refine hK.out _ _ (hX2) (fun hHeld=>?_)
     clear hK K
     (try go_frame)
     refine est 7 (h:=fun K hK=>?_)
     (go_simp; go_at_call 29; (with_reducible refine hA.mono ?_); rintro q3 w13 ⟨v13,rfl,h13,hx13⟩; have hX3:=hX2.trans hx13; obtain ⟨n13,a13,l13,c13,a13',l13',c13',rfl⟩:=h13.shape)
     refine hK.out _ _ (hX3) (fun hHeld=>?_)
     clear hK K
     (try go_frame)
     have HC:=bH (HCm.out.keep hX3)
     have hbr:=hsb.keep hX3
     obtain ⟨d0,d1,d2,d3,d4,d5⟩:=hbr.facts
     refine ends_last rfl (by kernel_rfl) (fun K hK=>?_)
     go_simp
     refine hK.out _ _ ?_
     clear hK K
     (try go_frame)
     refine ends_done (by kernel_rfl) ?_ _
     have HP:=bH ((HC.out.setAcc hbr h13).congr HFn.out rfl)
     clear HC h11 h12 h13 hx11 hx12 hx13 hX1 hX2 hX3 hT hA t0 t1 t2 e4 hHeld HAd HTm HAt hbr hsb d0 d1 d2 d3 d4 d5
     generalize ((w13.setCell ⟨bb,0,none⟩ (.bool n13)).setCell ⟨bb,1,none⟩ (.slice a13 l13 c13)).setCell ⟨bb,2,none⟩ (.slice a13' l13' c13')=w9 at *
     go_wp2
     go_roundg (m - (i+1))
     case measure=>omega
     case rel=>exact ⟨i+1,by omega,rfl,by go_num,HP.out⟩
  ·obtain rfl:i=m:=by omega
   obtain ⟨sn,s1,sm1,sc1,s2,sm2,sc2,hsb,hsq⟩:=HC.out.acc
   obtain ⟨t0,t1,t2,-⟩:=hsb.facts
   have hbr:=HC.out.res
   obtain ⟨d0,d1,d2,d3,d4,d5⟩:=hbr.facts
   have HW0:=bH HC.out.ext
   have hp:=hbr.put (neg:=sn) (no_int s1 sm1 sc1) (no_int s2 sm2 sc2)
   have hdr:=(Ext.refl (fun _=>False) (((wr.setCell ⟨rb,0,none⟩ (.bool sn)).setCell ⟨rb,1,none⟩ (.slice s1 sm1 sc1)).setCell ⟨rb,2,none⟩ (.slice s2 sm2 sc2))).drew
   have HR:=bH (bI ((hp.rat hsq).keep hdr) (bI ((HC.out.ext.own hp.ext (fun k e=>by omega)).drew) (bI (hp.box.keep hdr) ((HC.out.arr.past hp.ext (fun e=>by omega) hp.rds).keep hdr))))
   clear hdr
   clear hp hsb hsq hbr
   go_upto_region 14 with fail
   go_region
   go_wp2
   generalize (((wr.setCell ⟨rb,0,none⟩ (.bool sn)).setCell ⟨rb,1,none⟩ (.slice s1 sm1 sc1)).setCell ⟨rb,2,none⟩ (.slice s2 sm2 sc2)).drew=w9 at *
   obtain ⟨g0,g1,g2,_⟩:=HR.out.2.2.1.facts
   refine bodyPost_ret (v:=.tuple #[.slice (some ⟨B,0,none⟩) n n,.agg #[.bool sn,.slice s1 sm1 sc1,.slice s2 sm2 sc2]]) (by simp [results,Tryz.results147,go_sem,g0,g1,g2]) rfl ⟨B,_,rfl,by omega,HR.out.2.2.2.congr (fun j hj=>(combA_eq p y j).symm ▸ HN.out ▸ rfl),HQB.out ▸ HR.out.1,HR.out.2.1⟩
structure AcSt (w wr:World) (pb rb sb:Nat) (va vb:Value) (q:Rat):Prop where
 ext:XF w wr
 p0:wr.cell? ⟨pb,0,none⟩=some va
 p1:wr.cell? ⟨pb,1,none⟩=some vb
 res:BoxR wr rb false (.slice none 0 0) (.slice none 0 0)
 acc:∃ sn s1 sm1 sc1 s2 sm2 sc2,BoxR wr sb sn (.slice s1 sm1 sc1) (.slice s2 sm2 sc2)/\IsRat wr (.agg #[.bool sn,.slice s1 sm1 sc1,.slice s2 sm2 sc2]) q
 ord:w.heap.size<=pb/\pb<rb/\rb<sb
section
variable {w wr w':World} {pb rb sb:Nat} {va vb:Value} {q:Rat}
theorem AcSt.keep (h:AcSt w wr pb rb sb va vb q) (hx:XF wr w'):AcSt w w' pb rb sb va vb q :=
 ⟨h.ext.trans hx,cell_keep h.p0 hx,cell_keep h.p1 hx,h.res.keep hx,(by obtain ⟨sn,s1,sm1,sc1,s2,sm2,sc2,h1,h2⟩:=h.acc; exact ⟨sn,s1,sm1,sc1,s2,sm2,sc2,h1.keep hx,h2.keep hx⟩),h.ord⟩
theorem AcSt.congr (h:AcSt w wr pb rb sb va vb q) {q':Rat} (hq:q=q'):AcSt w wr pb rb sb va vb q':=hq ▸ h
theorem AcSt.setAcc (h:AcSt w wr pb rb sb va vb q) {n0:Bool} {m0 d0:Value} (hb:BoxR wr sb n0 m0 d0) {neg:Bool} {a1 a2:Option Addr} {m1 c1 m2 c2:Nat} {u:Rat} (hu:IsRat wr (.agg #[.bool neg,.slice a1 m1 c1,.slice a2 m2 c2]) u) :
  AcSt w (((wr.setCell ⟨sb,0,none⟩ (.bool neg)).setCell ⟨sb,1,none⟩ (.slice a1 m1 c1)).setCell ⟨sb,2,none⟩ (.slice a2 m2 c2)) pb rb sb va vb u:=by
 have hp:=hb.put (neg:=neg) (no_int a1 m1 c1) (no_int a2 m2 c2)
 have p2:=hp.ext
 obtain ⟨o1,o2,o3⟩:=h.ord
 exact ⟨h.ext.own p2 (fun k e=>by omega),(p2.cell (p:=⟨pb,0,none⟩) (World.block_lt_of_cell? _ _ h.p0) (fun e=>by have:pb=sb:=e; omega)).trans h.p0,(p2.cell (p:=⟨pb,1,none⟩) (World.block_lt_of_cell? _ _ h.p1) (fun e=>by have:pb=sb:=e; omega)).trans h.p1,h.res.ext p2 (fun e=>by omega),⟨_,_,_,_,_,_,_,hp.box,hp.rat hu⟩,h.ord⟩
end
def lwB (p:ProgV) (c:List Rat) (i:Nat):Bool:=!((p.v i).op && decide (atQ c i<0))
theorem Least4_any (w:World) (pv xv:Value) (p:ProgV) (l:List Rat) (L:Nat) (hp:IsPrg w pv p) (hl:Rats w xv l L) (h1:1<=L) (hL:1+p.vars.length*(L+3)+(L+3)<=4000000) (hL3:L<=1000000) :
  Calls Tryz.prog 148 #[pv,xv] w (OptPost w (leastQ p l)):=by
 have HP:=bH hp
 obtain ⟨vv,rv,rfl,hv,-⟩:=hp
 obtain ⟨vo,vc,rfl,-,hn,-⟩:=hv.shape
 have HA:=bH (fun W (hW:XF w W) (i:Nat)=>At_any W _ l L (hl.keep hW) i)
 have HG:=bH (fun W u q (hu:Rrat W u q L)=>Rrsign_any W u q L hu (by omega))
 have hsz:∀ i,i<p.vars.length->Sz (sumTo i fun k=>(pickQ (p.v k) (atQ l k):Rat)*atQ l k) 4000000:=fun i hi =>
  (sum_size (f:=fun k=>pickQ (p.v k) (atQ l k)) (g:=fun k=>atQ l k) (L:=L) (n:=p.vars.length) (fun k hk=>pick_in hv l k hk) (fun k _=>hl.sz h1 _) i (Nat.le_of_lt hi)).mono (by have:=Nat.mul_le_mul_right (L+3) (Nat.le_of_lt hi); omega)
 have Hsz:=bH hsz
 have Hq:=bH (fun i=>hl.sz h1 i)
 have HV:=bH hv
 clear hv hl hsz hL
 obtain ⟨n,hn'⟩:∃ n,p.vars.length=n:=⟨_,rfl⟩
 have HN:=bH hn'
 rw [hn'] at hn HP ⊢ HV Hsz
 clear hn'
 have HQn:Hid (∀ i,i<n->lwB p l i=false->leastQ p l=none):=bH (fun i hi h=>by
  unfold leastQ lowB
  rw [HN.out,show allTo n (fun i=>!((p.v i).op && decide (atQ l i<0)))=false from allTo_false (f:=lwB p l) hi h]
  simp)
 have HQs:Hid (emptyB p=false->allTo n (lwB p l)=true->leastQ p l=some (sumTo n fun k=>(pickQ (p.v k) (atQ l k):Rat)*atQ l k)):=bH (fun h0 h=>by
  unfold leastQ lowB leastS
  rw [HN.out,h0,show allTo n (fun i=>!((p.v i).op && decide (atQ l i<0)))=true from h]
  simp)
 have hb1:blk ((w.alloc (.cells #[.slice vo n vc,rv] 25)).alloc (.cells #[.bool false,.slice none 0 0,.slice none 0 0] 31)) w.heap.size=some (.cells #[.slice vo n vc,rv] 25 (0,0)):=(blk_alloc_past _ _ _ (by simp)).trans (blk_alloc_at _ _)
 have hb2:=boxR_of (blk_alloc_at (w.alloc (.cells #[.slice vo n vc,rv] 25)) (.cells #[.bool false,.slice none 0 0,.slice none 0 0] 31))
 rw [World.size_alloc] at hb2
 have hxx:=((Ext.refl (fun _=>False) w).alloc (.cells #[.slice vo n vc,rv] 25)).alloc (.cells #[.bool false,.slice none 0 0,.slice none 0 0] 31)
 have HB:=bH (bI hb1 (bI hb2 hxx))
 clear hb1 hb2 hxx
 go_enter Tryz.func148,Tryz.ntmps148
 go_upto_region 1 with fail
 generalize hw1:(w.alloc (.cells #[.slice vo n vc,rv] 25)).alloc (.cells #[.bool false,.slice none 0 0,.slice none 0 0] 31)=w1 at *
 clear hw1
 obtain ⟨pb,hpb⟩:∃ pb,w.heap.size=pb:=⟨_,rfl⟩
 have hpw:w.heap.size<=pb:=Nat.le_of_eq hpb
 rw [hpb] at HB ⊢
 clear hpb
 obtain ⟨rb,hrb⟩:∃ rb,pb+1=rb:=⟨_,rfl⟩
 have hpr0:pb<rb:=by omega
 rw [hrb] at HB ⊢
 clear hrb
 have z0:=cellq HB.out.1 0 rfl
 have z1:=cellq HB.out.1 1 rfl
 go_wp2_with fail
 refine (Empty4_any _ _ p (HP.out.keep HB.out.2.2)).mono ?_
 rintro r2 w2 ⟨rfl,hx2⟩
 have HB2:=bH (bI (blk_keep HB.out.1 hx2) (bI (HB.out.2.1.keep hx2) (HB.out.2.2.trans hx2)))
 clear hx2 HB z0 z1 HP
 cases hem:emptyB p with
 | true =>
  have HE:=bH (show leastQ p l=none from by unfold leastQ; rw [hem]; rfl)
  clear hem
  have hbr:=HB2.out.2.1
  obtain ⟨d0,d1,d2,d3,d4,d5⟩:=hbr.facts
  have hp:=hbr.put (neg:=false) (no_int none 0 0) (no_int none 0 0)
  have HR:=bH (bI hp.box (HB2.out.2.2.own hp.ext (fun k e=>by omega)))
  clear hp hbr
  go_wp2
  generalize ((w2.setCell ⟨rb,0,none⟩ (.bool false)).setCell ⟨rb,1,none⟩ (.slice none 0 0)).setCell ⟨rb,2,none⟩ (.slice none 0 0)=w9 at *
  obtain ⟨g0,g1,g2,_⟩:=HR.out.1.facts
  exact bodyPost_ret (v:=.tuple #[.agg #[.bool false,.slice none 0 0,.slice none 0 0],.bool false]) (by simp [results,Tryz.results148,go_sem,g0,g1,g2]) rfl (by rw [HE.out]; exact ⟨HR.out.2,_,rfl,IsRat.zero _⟩)
 | false =>
 replace HQs:=bH (HQs.out hem)
 clear hem
 have hsz2:rb<w2.heap.size:=HB2.out.2.1.lt
 have hq:AcSt w (w2.alloc (.cells #[.bool false,.slice none 0 0,.slice none 0 0] 31)) pb rb w2.heap.size (.slice vo n vc) rv 0:=by
  have hx3:=(Ext.refl (fun _=>False) w2).alloc (.cells #[.bool false,.slice none 0 0,.slice none 0 0] 31)
  have hb:=blk_keep HB2.out.1 hx3
  exact ⟨HB2.out.2.2.trans hx3,cellq hb 0 rfl,cellq hb 1 rfl,HB2.out.2.1.keep hx3,⟨_,_,_,_,_,_,_,boxR_new rfl false none 0 0 none 0 0,IsRat.zero _⟩,by omega⟩
 have HQ:=bH hq
 clear hq
 go_upto_region 4 with fail
 generalize w2.alloc (.cells #[.bool false,.slice none 0 0,.slice none 0 0] 31)=w3 at *
 generalize w2.heap.size=sb at *
 clear HB2
 have z0:=HQ.out.p0
 go_wp2_with fail
 go_loopg [7,8,9] n (fun gg v7 v8 v9 wr=>∃ i:Nat,i<=n/\gg=n - i/\v7=.int .i64 i/\allTo i (lwB p l)=true/\AcSt w wr pb rb sb (.slice vo n vc) rv (sumTo i fun k=>(pickQ (p.v k) (atQ l k):Rat)*atQ l k))
 case atStart=>exact ⟨0,Nat.zero_le _,rfl,rfl,rfl,HQ.out⟩
 case round =>
  clear z0 HQ
  obtain ⟨i,hi,rfl,rfl,hall,hst⟩:=hrel
  have HC:=bH hst
  have HAll:=bH hall
  clear hst hall
  have z0:=HC.out.p0
  have ord:=HC.out.ord
  by_cases hin:i<n
  ·have i0:(i:Int)<(n:Int):=by omega
   have i1:(0:Int)<=(i:Int):=by omega
   obtain ⟨b,off,rfl,-,e0,e1,e2,e3,e4,hok⟩:=(HV.out.keep HC.out.ext).atp i (by rw [HN.out]; exact hin)
   have HNx:=bH (show ∀ v,p.v i=v->sumTo (i+1) (fun k=>(pickQ (p.v k) (atQ l k):Rat)*atQ l k)=sumTo i (fun k=>(pickQ (p.v k) (atQ l k):Rat)*atQ l k)+(pickQ v (atQ l i):Rat)*atQ l i from fun v h=>by rw [<- h]; rfl)
   have HLw:=bH (show ∀ v,p.v i=v->lwB p l i=!(v.op && decide (atQ l i<0)) from fun v h=>by rw [<- h]; rfl)
   replace HNx:=bH (HNx.out _ rfl)
   replace HLw:=bH (HLw.out _ rfl)
   generalize p.v i=vv at *
   obtain ⟨lo,up,o,ig,co⟩:=vv
   dsimp only at e0 e1 e2 e3 e4 HLw
   have hinlo:InR lo:=hok.lo
   have hinup:InR up:=hok.up
   have hx3:=(Ext.refl (fun _=>False) wr).alloc (.cells #[.int .i64 lo,.int .i64 up,.bool o,.bool ig,.int .i64 co] 63)
   have hb3:=blk_alloc_at wr (.cells #[.int .i64 lo,.int .i64 up,.bool o,.bool ig,.int .i64 co] 63)
   have HC3:=bH (bI (HC.out.keep hx3) hb3)
   clear hb3 hx3 hok HC
   go_upto_region 8 with fail
   generalize wr.alloc (.cells #[.int .i64 lo,.int .i64 up,.bool o,.bool ig,.int .i64 co] 63)=w4 at *
   generalize wr.heap.size=vbx at *
   clear e0 e1 e2 e3 e4 z0
   have f0:=cellq HC3.out.2 0 rfl
   go_wp2_with fail
   refine (HA.out _ HC3.out.1.ext i).mono ?_
   rintro r5 w5 ⟨v5,rfl,h5,hx5⟩
   obtain ⟨n5,a5,l5,c5,a5',l5',c5',rfl⟩:=h5.shape
   have HG5:=bH (HG.out w5 _ _ h5)
   have HX5:=bH hx5
   clear h5 hx5 f0
   go_wp2_with fail
   refine HG5.out.mono ?_
   rintro r6 w6 ⟨rfl,hx6⟩
   have HCm:=bH (HC3.out.1.keep (HX5.out.trans hx6))
   have HVb:=bH (blk_keep HC3.out.2 (HX5.out.trans hx6))
   have HSl:=bH (sign_lt (atQ l i))
   clear hx6 HX5 HG5 HC3
   generalize hsg:(atQ l i).num.sign=sg at *
   clear hsg
   by_cases hs:sg<0
   ·have hqn:=HSl.out.1 hs
    cases o with
    | true =>
     have HE:=bH (HQn.out i hin (by rw [HLw.out,decide_eq_true hqn]; rfl))
     have f2:=cellq HVb.out 2 rfl
     have hbr:=HCm.out.res
     obtain ⟨d0,d1,d2,d3,d4,d5⟩:=hbr.facts
     have hp:=hbr.put (neg:=false) (no_int none 0 0) (no_int none 0 0)
     have HR:=bH (bI hp.box (HCm.out.ext.own hp.ext (fun k e=>by omega)))
     clear hp hbr
     go_wp2
     generalize ((w6.setCell ⟨rb,0,none⟩ (.bool false)).setCell ⟨rb,1,none⟩ (.slice none 0 0)).setCell ⟨rb,2,none⟩ (.slice none 0 0)=w9 at *
     obtain ⟨g0,g1,g2,_⟩:=HR.out.1.facts
     exact bodyPost_ret (v:=.tuple #[.agg #[.bool false,.slice none 0 0,.slice none 0 0],.bool false]) (by simp [results,Tryz.results148,go_sem,g0,g1,g2]) rfl (by rw [HE.out]; exact ⟨HR.out.2,_,rfl,IsRat.zero _⟩)
    | false =>
     replace HLw:=bH (show lwB p l i=true from HLw.out)
     rw [show pickQ ⟨lo,up,false,ig,co⟩ (atQ l i)=up from if_pos hqn] at HNx
     have f1:=cellq HVb.out 1 rfl
     have f2:=cellq HVb.out 2 rfl
     clear hqn
     have hxi:=HCm.out.ext
     have HAt:=bH (fun W (hW:XF w6 W)=>HA.out W (hxi.trans hW) i)
     obtain ⟨sn,s1,sm1,sc1,s2,sm2,sc2,hsb,hsq⟩:=HCm.out.acc
     have HTm:=bH (fun W u (hu:Rrat W u (atQ l i) L)=>times_any W up u _ L hinup hu hL3)
     have hpr:=(Sz.int hinup).mul (Hq.out i)
     have HAd:=bH (fun W u (hW:XF w6 W) (hu:IsRat W u ((up:Rat)*atQ l i))=>Rradd_any W _ u _ _ 4000000 ((hsq.keep hW).reads (Hsz.out i hin)) (hu.reads (hpr.mono (by omega))) (by omega) (by omega))
     rw [<- HNx.out] at HAd
     obtain ⟨t0,t1,t2,-⟩:=hsb.facts
     replace t0:=cq t0
     replace t1:=cq t1
     replace t2:=cq t2
     clear hpr hsq
     generalize (up:Rat)*atQ l i=PR at *
     generalize hSR:sumTo (i+1) (fun k=>(pickQ (p.v k) (atQ l k):Rat)*atQ l k)=SR at *
     have HSR:=bH hSR
     clear hSR
     generalize hAQ:atQ l i=AQ at *
     clear hAQ
     go_upto_region 13 with fail
     refine ends_begin 7 (XF w6) (by kernel_rfl) ((Ext.refl _ w6).drew) (fun hHeld=>?_)
     refine et 0 (h:=(et 1 (h:=(et 2 (h:=(et 3 (h:=?_)))))))
     (try go_frame)
     refine est 4 (h:=fun K hK=>?_)
     (go_simp; go_at_call 30; (with_reducible refine (HAt.out _ hHeld).mono ?_); rintro q1 w11 ⟨v11,rfl,h11,hx11⟩; have hX1:=hHeld.trans hx11; have hT:=HTm.out w11 _ h11; obtain ⟨n11,a11,l11,c11,a11',l11',c11',rfl⟩:=h11.shape)
     refine hK.out _ _ (hX1) (fun hHeld=>?_)
     clear hK K
     (try go_frame)
     refine est 5 (h:=fun K hK=>?_)
     (go_simp; go_at_call 71; (with_reducible refine hT.mono ?_); rintro q2 w12 ⟨v12,rfl,h12,hx12⟩; have hX2:=hX1.trans hx12; have hA:=HAd.out w12 _ hX2 h12; obtain ⟨n12,a12,l12,c12,a12',l12',c12',rfl⟩:=h12.shape)
     refine hK.out _ _ (hX2) (fun hHeld=>?_)
     clear hK K
     (try go_frame)
     refine est 6 (h:=fun K hK=>?_)
     (go_simp; go_at_call 29; (with_reducible refine hA.mono ?_); rintro q3 w13 ⟨v13,rfl,h13,hx13⟩; have hX3:=hX2.trans hx13; obtain ⟨n13,a13,l13,c13,a13',l13',c13',rfl⟩:=h13.shape)
     refine hK.out _ _ (hX3) (fun hHeld=>?_)
     clear hK K
     (try go_frame)
     have HC:=bH (HCm.out.keep hX3)
     have hbr:=hsb.keep hX3
     obtain ⟨d0,d1,d2,d3,d4,d5⟩:=hbr.facts
     refine ends_last rfl (by kernel_rfl) (fun K hK=>?_)
     go_simp
     refine hK.out _ _ ?_
     clear hK K
     (try go_frame)
     refine ends_done (by kernel_rfl) ?_ _
     have HP:=bH (HC.out.setAcc hbr h13)
     clear HC h11 h12 h13 hx11 hx12 hx13 hX1 hX2 hX3 hT hA t0 t1 t2 hHeld HAd HTm HAt hbr hsb d0 d1 d2 d3 d4 d5 hxi
     generalize ((w13.setCell ⟨sb,0,none⟩ (.bool n13)).setCell ⟨sb,1,none⟩ (.slice a13 l13 c13)).setCell ⟨sb,2,none⟩ (.slice a13' l13' c13')=w9 at *
     go_wp2
     go_roundg (n - (i+1))
     case measure=>omega
     case rel=>exact ⟨i+1,by omega,rfl,by go_num,allTo_next HAll.out HLw.out,HP.out.congr HSR.out.symm⟩
   ·have hqn:¬ atQ l i<0:=fun h=>hs (HSl.out.2 h)
    replace HLw:=bH (show lwB p l i=true from by rw [HLw.out,decide_eq_false hqn]; simp)
    rw [show pickQ ⟨lo,up,o,ig,co⟩ (atQ l i)=lo from if_neg hqn] at HNx
    clear hqn
    have hxi:=HCm.out.ext
    have HAt:=bH (fun W (hW:XF w6 W)=>HA.out W (hxi.trans hW) i)
    obtain ⟨sn,s1,sm1,sc1,s2,sm2,sc2,hsb,hsq⟩:=HCm.out.acc
    have HTm:=bH (fun W u (hu:Rrat W u (atQ l i) L)=>times_any W lo u _ L hinlo hu hL3)
    have hpr:=(Sz.int hinlo).mul (Hq.out i)
    have HAd:=bH (fun W u (hW:XF w6 W) (hu:IsRat W u ((lo:Rat)*atQ l i))=>Rradd_any W _ u _ _ 4000000 ((hsq.keep hW).reads (Hsz.out i hin)) (hu.reads (hpr.mono (by omega))) (by omega) (by omega))
    rw [<- HNx.out] at HAd
    obtain ⟨t0,t1,t2,-⟩:=hsb.facts
    replace t0:=cq t0
    replace t1:=cq t1
    replace t2:=cq t2
    clear hpr hsq
    generalize (lo:Rat)*atQ l i=PR at *
    generalize hSR:sumTo (i+1) (fun k=>(pickQ (p.v k) (atQ l k):Rat)*atQ l k)=SR at *
    have HSR:=bH hSR
    clear hSR
    generalize hAQ:atQ l i=AQ at *
    clear hAQ
    go_upto_region 13 with fail
    refine ends_begin 7 (XF w6) (by kernel_rfl) ((Ext.refl _ w6).drew) (fun hHeld=>?_)
    refine et 0 (h:=(et 1 (h:=(et 2 (h:=(et 3 (h:=?_)))))))
    (try go_frame)
    refine est 4 (h:=fun K hK=>?_)
    (go_simp; go_at_call 30; (with_reducible refine (HAt.out _ hHeld).mono ?_); rintro q1 w11 ⟨v11,rfl,h11,hx11⟩; have hX1:=hHeld.trans hx11; have hT:=HTm.out w11 _ h11; obtain ⟨n11,a11,l11,c11,a11',l11',c11',rfl⟩:=h11.shape)
    refine hK.out _ _ (hX1) (fun hHeld=>?_)
    clear hK K
    (try go_frame)
    refine est 5 (h:=fun K hK=>?_)
    (go_simp; go_at_call 71; (with_reducible refine hT.mono ?_); rintro q2 w12 ⟨v12,rfl,h12,hx12⟩; have hX2:=hX1.trans hx12; have hA:=HAd.out w12 _ hX2 h12; obtain ⟨n12,a12,l12,c12,a12',l12',c12',rfl⟩:=h12.shape)
    refine hK.out _ _ (hX2) (fun hHeld=>?_)
    clear hK K
    (try go_frame)
    refine est 6 (h:=fun K hK=>?_)
    (go_simp; go_at_call 29; (with_reducible refine hA.mono ?_); rintro q3 w13 ⟨v13,rfl,h13,hx13⟩; have hX3:=hX2.trans hx13; obtain ⟨n13,a13,l13,c13,a13',l13',c13',rfl⟩:=h13.shape)
    refine hK.out _ _ (hX3) (fun hHeld=>?_)
    clear hK K
    (try go_frame)
    have HC:=bH (HCm.out.keep hX3)
    have hbr:=hsb.keep hX3
    obtain ⟨d0,d1,d2,d3,d4,d5⟩:=hbr.facts
    refine ends_last rfl (by kernel_rfl) (fun K hK=>?_)
    go_simp
    refine hK.out _ _ ?_
    clear hK K
    (try go_frame)
    refine ends_done (by kernel_rfl) ?_ _
    have HP:=bH (HC.out.setAcc hbr h13)
    clear HC h11 h12 h13 hx11 hx12 hx13 hX1 hX2 hX3 hT hA t0 t1 t2 hHeld HAd HTm HAt hbr hsb d0 d1 d2 d3 d4 d5 hxi
    generalize ((w13.setCell ⟨sb,0,none⟩ (.bool n13)).setCell ⟨sb,1,none⟩ (.slice a13 l13 c13)).setCell ⟨sb,2,none⟩ (.slice a13' l13' c13')=w9 at *
    go_wp2
    go_roundg (n - (i+1))
    case measure=>omega
    case rel=>exact ⟨i+1,by omega,rfl,by go_num,allTo_next HAll.out HLw.out,HP.out.congr HSR.out.symm⟩
  ·obtain rfl:i=n:=by omega
   have HE:=bH (HQs.out HAll.out)
   obtain ⟨sn,s1,sm1,sc1,s2,sm2,sc2,hsb,hsq⟩:=HC.out.acc
   obtain ⟨t0,t1,t2,-⟩:=hsb.facts
   have hbr:=HC.out.res
   obtain ⟨d0,d1,d2,d3,d4,d5⟩:=hbr.facts
   have hp:=hbr.put (neg:=sn) (no_int s1 sm1 sc1) (no_int s2 sm2 sc2)
   have HR:=bH (bI (hp.rat hsq) (bI (HC.out.ext.own hp.ext (fun k e=>by omega)) hp.box))
   clear hp hsb hsq hbr
   go_wp2
   generalize ((wr.setCell ⟨rb,0,none⟩ (.bool sn)).setCell ⟨rb,1,none⟩ (.slice s1 sm1 sc1)).setCell ⟨rb,2,none⟩ (.slice s2 sm2 sc2)=w9 at *
   obtain ⟨g0,g1,g2,_⟩:=HR.out.2.2.facts
   exact bodyPost_ret (v:=.tuple #[.agg #[.bool sn,.slice s1 sm1 sc1,.slice s2 sm2 sc2],.bool true]) (by simp [results,Tryz.results148,go_sem,g0,g1,g2]) rfl (by rw [HE.out]; exact ⟨HR.out.2.1,_,rfl,HR.out.1⟩)
def bound5 (p:ProgV) (y:List Rat):Option Rat :=
 if signedB p y then (leastQ p (listTo p.vars.length fun i=>((p.v i).co:Rat) - combA p y i)).map (combB p y+·) else none
theorem bound5_eq {p:ProgV} (h:validB p=true) (y:List Rat):boundQ p y=bound5 p y:=by
 unfold boundQ bound5
 rw [h,Bool.true_and]
theorem CmSt.past {S:Nat->Prop} {w wr w':World} {pb rb bb B n:Nat} {va vb:Value} {f:Nat->Rat} {q:Rat} (h:CmSt w wr pb rb bb B n va vb f q) (hx:Ext S wr w') (hn:∀ k,S k->bb<k) (hr:∀ v l,Rds wr v l->Rds w' v l):CmSt w w' pb rb bb B n va vb f q:=by
 obtain ⟨o1,o2,o3,o4⟩:=h.ord
 have hn':∀ k,k<=bb->¬ S k:=fun k hk hs=>by have:=hn k hs; omega
 exact ⟨h.ext.own hx (fun k e=>by have:=hn k e; omega),(hx.cell (p:=⟨pb,0,none⟩) (World.block_lt_of_cell? _ _ h.p0) (hn' pb (by omega))).trans h.p0,(hx.cell (p:=⟨pb,1,none⟩) (World.block_lt_of_cell? _ _ h.p1) (hn' pb (by omega))).trans h.p1,h.res.ext hx (hn' _ (by omega)),
  (by obtain ⟨sn,s1,sm1,sc1,s2,sm2,sc2,h1,h2⟩:=h.acc; exact ⟨sn,s1,sm1,sc1,s2,sm2,sc2,h1.ext hx (hn' _ (Nat.le_refl _)),h2.past hr⟩),h.arr.past hx (hn' _ (by omega)) hr,h.ord⟩
theorem Bound5_any (w:World) (pv yv:Value) (p:ProgV) (y:List Rat) (L T:Nat) (hp:IsPrg w pv p) (hy:Rats w yv y L) (hs:Small p T L) :
  Calls Tryz.prog 144 #[pv,yv] w (OptPost w (bound5 p y)):=by
 have h1:=hs.room.one
 obtain ⟨r1,r2,r3,r4,r5,r6,r7,r8,r9⟩:=hs.room.all
 have HP:=bH hp
 obtain ⟨vv,rv,rfl,hv,hr⟩:=hp
 obtain ⟨vo,vc,rfl,-,hn,-⟩:=hv.shape
 obtain ⟨ro,rc,rfl,-,hrn,-⟩:=hr.shape
 have HV:=bH hv
 have HSig:=bH (fun W (hW:XF w W)=>Signed4_any W _ _ p y L (HP.out.keep hW) (hy.keep hW) h1 (by omega))
 have HCom:=bH (fun W (hW:XF w W)=>Combine4_any W _ _ p y L T (HP.out.keep hW) (hy.keep hW) h1 hs.terms r1 r2 r8 r3)
 have hyz:=hy.sz h1
 have hA:=combA_sz hr hyz hs.terms
 have hB:=combB_sz hr hyz
 have hD:∀ i,i<p.vars.length->Sz (((p.v i).co:Rat) - combA p y i) (sizeA p.rows.length T L+3):=fun i hi=>((Sz.int (hv.ok i hi).co).sub (hA i)).mono (by omega)
 have HLa:=bH (fun W (hW:XF w W) v (ha:Rats W v (listTo p.vars.length fun i=>((p.v i).co:Rat) - combA p y i) (sizeA p.rows.length T L+3)) =>
  Least4_any W _ _ p (listTo p.vars.length fun i=>((p.v i).co:Rat) - combA p y i) (sizeA p.rows.length T L+3) (HP.out.keep hW) ha (by omega) (by omega) (by omega))
 have hlz:=leastS_sz (c:=listTo p.vars.length fun i=>((p.v i).co:Rat) - combA p y i) hv (atQ_listTo_sz hD (by omega))
 have HAd:=bH (fun W u u' q (hu:IsRat W u (combB p y)) (hu':IsRat W u' q) (hq:Sz q (1+p.vars.length*(sizeA p.rows.length T L+3+3)))=>Rradd_any W u u' _ q (1+p.vars.length*(sizeA p.rows.length T L+3+3)+(1+p.rows.length*(L+3))) (hu.reads (hB.mono (by omega))) (hu'.reads (hq.mono (by omega))) (by omega) (by omega))
 have HQ:=bH (show bound5 p y=if signedB p y then (leastQ p (listTo p.vars.length fun i=>((p.v i).co:Rat) - combA p y i)).map (combB p y+·) else none from rfl)
 have HLz:Hid (∀ q,leastQ p (listTo p.vars.length fun i=>((p.v i).co:Rat) - combA p y i)=some q->Sz q (1+p.vars.length*(sizeA p.rows.length T L+3+3))):=bH (fun q hq=>by
  obtain ⟨_,_,e⟩:=least_some hq
  rw [e]; exact hlz)
 have HSs:=bH (fun W u i (hi:i<p.vars.length) v (hu:IsRat W u ((p.v i).co:Rat)) (hv':IsRat W v (combA p y i))=>Rrsub_any W u v _ _ (sizeA p.rows.length T L+3) (hu.reads ((Sz.int (HV.out.ok i hi).co).mono (by omega))) (hv'.reads ((hA i).mono (by omega))) (by omega) (by omega))
 have HDz:=bH hD
 clear hv hr hy hyz hA hB hD hlz HP hs r1 r2 r5 r6 r7 r8 r9 h1
 obtain ⟨n,hn'⟩:∃ n,p.vars.length=n:=⟨_,rfl⟩
 have HNn:=bH hn'
 rw [hn'] at hn r3 HV HSig HCom HLa HAd HQ HLz HSs HDz ⊢
 clear hn'
 obtain ⟨m,hm'⟩:∃ m,p.rows.length=m:=⟨_,rfl⟩
 rw [hm'] at hrn r4 HSig HCom HAd HLz HLa HDz ⊢
 clear hm'
 generalize (1+n*(sizeA m T L+3+3))=szl at *
 generalize hszd:sizeA m T L+3=szd at *
 clear hszd
 obtain ⟨f,hf⟩:∃ f,(fun i=>((p.v i).co:Rat) - combA p y i)=f:=⟨_,rfl⟩
 have HFi:=bH (fun i=>(congrFun hf i:((p.v i).co:Rat) - combA p y i=f i))
 rw [hf] at HLa HQ HLz
 replace HDz:Hid (∀ i,i<n->Sz (f i) szd):=bH (fun i hi=>by rw [<- HFi.out]; exact HDz.out i hi)
 clear hf
 generalize leastQ p (listTo n f)=lq at *
 obtain ⟨b0,b1⟩:blk ((w.alloc (.cells #[.slice vo n vc,.slice ro m rc] 25)).alloc (.cells #[.bool false,.slice none 0 0,.slice none 0 0] 31)) w.heap.size=some (.cells #[.slice vo n vc,.slice ro m rc] 25 (0,0))/\BoxR ((w.alloc (.cells #[.slice vo n vc,.slice ro m rc] 25)).alloc (.cells #[.bool false,.slice none 0 0,.slice none 0 0] 31)) (w.heap.size+1) false (.slice none 0 0) (.slice none 0 0):=by
  refine ⟨(blk_alloc_past _ _ _ (by simp)).trans (blk_alloc_at _ _),?_⟩
  have:=boxR_new (W:=w.alloc (.cells #[.slice vo n vc,.slice ro m rc] 25)) rfl false none 0 0 none 0 0
  rwa [World.size_alloc] at this
 have HB:=bH (bI b0 (bI b1 (((Ext.refl (fun _=>False) w).alloc (.cells #[.slice vo n vc,.slice ro m rc] 25)).alloc (.cells #[.bool false,.slice none 0 0,.slice none 0 0] 31))))
 clear b0 b1
 go_enter Tryz.func144,Tryz.ntmps144
 go_upto_region 1 with fail
 generalize hw1:(w.alloc (.cells #[.slice vo n vc,.slice ro m rc] 25)).alloc (.cells #[.bool false,.slice none 0 0,.slice none 0 0] 31)=w1 at *
 clear hw1
 obtain ⟨pb,hpb⟩:∃ pb,w.heap.size=pb:=⟨_,rfl⟩
 have hpw:w.heap.size<=pb:=Nat.le_of_eq hpb
 rw [hpb] at HB ⊢
 clear hpb
 obtain ⟨rb,hrb⟩:∃ rb,pb+1=rb:=⟨_,rfl⟩
 have hpr:pb<rb:=by omega
 rw [hrb] at HB ⊢
 clear hrb
 have z0:=cellq HB.out.1 0 rfl
 have z1:=cellq HB.out.1 1 rfl
 go_wp2_with fail
 refine (HSig.out w1 HB.out.2.2).mono ?_
 rintro r2 w2 ⟨rfl,hx2⟩
 have HB2:=bH (bI (blk_keep HB.out.1 hx2) (bI (HB.out.2.1.keep hx2) (HB.out.2.2.trans hx2)))
 clear hx2 HB z0 z1 HSig
 obtain ⟨sg,hsg⟩:∃ sg,signedB p y=sg:=⟨_,rfl⟩
 rw [hsg] at HQ ⊢
 clear hsg
 cases sg with
 | false =>
  have HE:=bH (show bound5 p y=none from HQ.out)
  have hbr:=HB2.out.2.1
  obtain ⟨d0,d1,d2,d3,d4,d5⟩:=hbr.facts
  have hp:=hbr.put (neg:=false) (no_int none 0 0) (no_int none 0 0)
  have HR:=bH (bI hp.box (HB2.out.2.2.own hp.ext (fun k e=>by omega)))
  clear hp hbr
  go_wp2
  generalize ((w2.setCell ⟨rb,0,none⟩ (.bool false)).setCell ⟨rb,1,none⟩ (.slice none 0 0)).setCell ⟨rb,2,none⟩ (.slice none 0 0)=w9 at *
  obtain ⟨g0,g1,g2,_⟩:=HR.out.1.facts
  exact bodyPost_ret (v:=.tuple #[.agg #[.bool false,.slice none 0 0,.slice none 0 0],.bool false]) (by simp [results,Tryz.results144,go_sem,g0,g1,g2]) rfl (by rw [HE.out]; exact ⟨HR.out.2,_,rfl,IsRat.zero _⟩)
 | true =>
 replace HQ:=bH (show bound5 p y=lq.map (combB p y+·) from HQ.out)
 have z0:=cellq HB2.out.1 0 rfl
 have z1:=cellq HB2.out.1 1 rfl
 go_wp2_with fail
 refine (HCom.out _ HB2.out.2.2).mono ?_
 rintro r5 w5 ⟨B,cv,rfl,hBw,hA5,hb5,hx5⟩
 obtain ⟨cn,ca,cl,cc,ca2,cl2,cc2,rfl⟩:=hb5.shape
 clear z0 z1
 have hrbB:rb<B:=by have:=HB2.out.2.1.lt; omega
 have hBB:=hA5.lt
 have hxa:=(Ext.refl (fun _=>False) w5).alloc (.cells #[.bool cn,.slice ca cl cc,.slice ca2 cl2 cc2] 31)
 have hxb:=hxa.alloc (.cells #[] 31)
 have hb52:=blk_keep HB2.out.1 (hx5.trans hxb)
 have hbox:=(boxR_new (W:=w5) rfl cn ca cl cc ca2 cl2 cc2).alloc (.cells #[] 31)
 have HC:=bH (show CmSt w ((w5.alloc (.cells #[.bool cn,.slice ca cl cc,.slice ca2 cl2 cc2] 31)).alloc (.cells #[] 31)) pb rb w5.heap.size B n (.slice vo n vc) (.slice ro m rc) (combA p y) (combB p y) from
  ⟨(HB2.out.2.2.trans hx5).trans hxb,cellq hb52 0 rfl,cellq hb52 1 rfl,(HB2.out.2.1.keep hx5).keep hxb,⟨_,_,_,_,_,_,_,hbox,hb5.keep hxb⟩,hA5.keep hxb,by omega⟩)
 have hbe:=blk_alloc_at (w5.alloc (.cells #[.bool cn,.slice ca cl cc,.slice ca2 cl2 cc2] 31)) (.cells #[] 31)
 rw [World.size_alloc] at hbe
 have HE:=bH (ROwn.empty (base:=w5.heap.size+1) szd hbe (Nat.le_refl _))
 clear hxa hxb hb52 hbox hA5 hb5 hx5 HB2 hbe
 go_upto_region 5 with fail
 generalize (w5.alloc (.cells #[.bool cn,.slice ca cl cc,.slice ca2 cl2 cc2] 31)).alloc (.cells #[] 31)=w6 at *
 generalize w5.heap.size=bb at *
 have z0:=HC.out.p0
 go_wp2_with fail
 go_loopg [9,8] n (fun gg v9 v8 wr=>∃ (i:Nat) (v:Value),i<=n/\gg=n - i/\v9=.int .i64 i/\v8=v/\ROwn wr (bb+1) v (listTo i f) szd/\CmSt w wr pb rb bb B n (.slice vo n vc) (.slice ro m rc) (combA p y) (combB p y))
 case atStart=>exact ⟨0,_,Nat.zero_le _,rfl,rfl,rfl,HE.out,HC.out⟩
 case round =>
  clear z0 HE HC
  obtain ⟨i,v,hi,rfl,rfl,rfl,ho,hst⟩:=hrel
  have HCm:=bH hst
  obtain ⟨ao,cap,rfl⟩:=ho.shape
  have hll:(listTo i f).length=i:=listTo_length _ _
  rw [hll] at ho ⊢
  have HLl:=bH hll
  have HO:=bH ho
  clear hst ho hll
  have z0:=HCm.out.p0
  by_cases hin:i<n
  ·have i0:(i:Int)<(n:Int):=by omega
   have i1:(0:Int)<=(i:Int):=by omega
   obtain ⟨b,off,rfl,hblt,-,-,-,-,e4,hok⟩:=HV.out.atp i (by rw [HNn.out]; exact hin)
   obtain ⟨on,oa,ol,oc,oa2,ol2,oc2,o0,o1,o2,hoq⟩:=HCm.out.arr.cells i hin
   replace e4:=cell_keep e4 HCm.out.ext
   have HF:=bH (fun W=>Rrfrom_any W (p.v i).co hok.co.1 hok.co.2)
   have HSub:=bH (fun W u (hW:XF wr W) (hu:IsRat W u ((p.v i).co:Rat))=>HSs.out W u i hin _ hu (hoq.keep hW))
   rw [HFi.out] at HSub
   have HSz:=bH (HDz.out i hin)
   have ord:=HCm.out.ord
   have hgl:∀ g,(Value.slice ao i cap).ownBlock=some g->bb<g:=fun g e=>by have:=(HO.out.lt g e).1; omega
   have HGl:=bH hgl
   have hle:∀ k,k<=bb->¬ (fun k=>(Value.slice ao i cap).ownBlock=some k) k:=fun k hk e=>by have:=hgl k e; omega
   go_upto_region 8 with fail
   replace e4:=cqo (S:=fun k=>(Value.slice ao i cap).ownBlock=some k) e4 (hle b (by omega))
   replace o0:=cqo (S:=fun k=>(Value.slice ao i cap).ownBlock=some k) o0 (hle B (by omega))
   replace o1:=cqo (S:=fun k=>(Value.slice ao i cap).ownBlock=some k) o1 (hle B (by omega))
   replace o2:=cqo (S:=fun k=>(Value.slice ao i cap).ownBlock=some k) o2 (hle B (by omega))
   replace z0:=cqo (S:=fun k=>(Value.slice ao i cap).ownBlock=some k) z0 (hle pb (by omega))
   clear hgl hle hok hoq HSs
   generalize ((p.v i).co:Rat)=coq at *
   generalize (p.v i).co=co at *
   refine wp_region_held_drew (S:=(Ext (fun k=>(Value.slice ao i cap).ownBlock=some k) wr)) (by kernel_rfl) ((Ext.refl _ wr).drew) (fun hHeld=>?_)
   refine ht 0 (h:=(ht 1 (h:=(ht 2 (h:=(ht 3 (h:=(ht 4 (h:=(ht 5 (h:=(ht 6 (h:=(ht 8 (h:=(ht 9 (h:=(ht 10 (h:=(ht 11 (h:=?_)))))))))))))))))))))
   (try go_frame)
   refine hst 7 (h:=fun K hK=>?_)
   (go_simp; go_at_call 32; (with_reducible refine (HF.out _).mono ?_); rintro q1 w11 ⟨v11,rfl,h11,hx11⟩; have hX1:=(Ext.refl (fun _=>False) wr).drew.trans hx11; have hT:=HSub.out w11 _ hX1 h11; obtain ⟨n11,a11,l11,c11,a11',l11',c11',rfl⟩:=h11.shape)
   refine hK.out _ _ (hX1.none) (fun hHeld=>?_)
   clear hK K
   (try go_frame)
   refine hst 12 (h:=fun K hK=>?_)
   (go_simp; go_at_call 70; (with_reducible refine hT.mono ?_); rintro q2 w12 ⟨v12,rfl,h12,hx12⟩; have hX2:=hX1.trans hx12; obtain ⟨n12,a12,l12,c12,a12',l12',c12',rfl⟩:=h12.shape; have hXa:=hX2.alloc (.cells #[.bool n12,.slice a12 l12 c12,.slice a12' l12' c12'] 31); have hha:=(Ext.refl (fun _=>False) w12).alloc (.cells #[.bool n12,.slice a12 l12 c12,.slice a12' l12' c12'] 31); have HO2:=bH (bI (HO.out.keep hXa) (bI ((h12.keep hha).reads HSz.out) (HCm.out.keep hXa))); have HSw:=bH (show bb+1<=(w12.alloc (.cells #[.bool n12,.slice a12 l12 c12,.slice a12' l12' c12'] 31)).heap.size from (by obtain ⟨_,_,_,_,_,_,_,hh,_⟩:=HO2.out.2.2.acc; exact hh.lt)))
   refine hK.out _ _ (hX2.none) (fun hHeld=>?_)
   clear hK K
   (try go_frame)
   refine hst 13 (h:=fun K hK=>?_)
   go_simp
   refine hK.out _ _ (hXa.none) (fun hHeld=>?_)
   clear hK K
   (try go_frame)
   refine hst 14 (h:=fun K hK=>?_)
   refine step_append_rat rfl (.tmp 31) (.tmp 44) rfl (bb+1) _ _ szd rfl HO2.out.1 ⟨n12,a12,l12,c12,a12',l12',c12'⟩ (f i) HO2.out.2.1 ⟨w12.heap.size,0,none⟩ 1 rfl (cells_new (RatC.cells ⟨n12,a12,l12,c12,a12',l12',c12'⟩) _ rfl) (by rw [HLl.out]; omega) HSw.out (fun v15 w15 hown5 hx5 hrd5=>?_)
   refine hK.out _ _ (hXa.none.trans hx5) (fun hHeld=>?_)
   clear hK K
   (try go_frame)
   refine ht 15 (h:=?_)
   (try go_frame)
   refine wpAnyH_done (by kernel_rfl) ?_ _
   have HN5:=bH (show ROwn w15 (bb+1) v15 (listTo (i+1) f) szd from by rw [listTo_succ]; exact hown5)
   have HC5:=bH (HO2.out.2.2.past hx5 (fun k e=>HGl.out k e) hrd5)
   clear hown5 hx5 hrd5 hX1 hX2 hXa hha h11 h12 hx11 hx12 hT HSub HF HO2 HSw z0 e4 o0 o1 o2 hHeld
   go_wp2
   go_roundg (n - (i+1))
   case measure=>omega
   case rel=>exact ⟨i+1,_,by omega,rfl,by go_num,rfl,HN5.out,HC5.out⟩
  ·obtain rfl:i=n:=by omega
   have z1:=HCm.out.p1
   have ord:=HCm.out.ord
   go_wp2_with fail
   refine (HLa.out _ HCm.out.ext _ (by have:=HO.out.rats; exact this)).mono ?_
   rintro r7 w7 hopt
   obtain ⟨n7,a7,l7,c7,a7',l7',c7',rfl,h7,hx7⟩:=OptPost.open hopt
   have hx8:=(Ext.refl (fun _=>False) w7).alloc (.cells #[.bool n7,.slice a7 l7 c7,.slice a7' l7' c7'] 31)
   have HC8:=bH (bI ((HCm.out.keep hx7).keep hx8) (bI (boxR_new (W:=w7) rfl n7 a7 l7 c7 a7' l7' c7') (h7.keep hx8)))
   clear hopt h7 hx7 hx8 z0 z1
   go_upto_region 10 with fail
   generalize w7.alloc (.cells #[.bool n7,.slice a7 l7 c7,.slice a7' l7' c7'] 31)=w8 at *
   generalize w7.heap.size=xb at *
   cases lq with
   | none =>
    have HE:=bH (show bound5 p y=none from HQ.out)
    have hbr:=HC8.out.1.res
    obtain ⟨d0,d1,d2,d3,d4,d5⟩:=hbr.facts
    have hp:=hbr.put (neg:=false) (no_int none 0 0) (no_int none 0 0)
    have HR:=bH (bI hp.box (HC8.out.1.ext.own hp.ext (fun k e=>by omega)))
    clear hp hbr
    go_wp2
    generalize ((w8.setCell ⟨rb,0,none⟩ (.bool false)).setCell ⟨rb,1,none⟩ (.slice none 0 0)).setCell ⟨rb,2,none⟩ (.slice none 0 0)=w9 at *
    obtain ⟨g0,g1,g2,_⟩:=HR.out.1.facts
    exact bodyPost_ret (v:=.tuple #[.agg #[.bool false,.slice none 0 0,.slice none 0 0],.bool false]) (by simp [results,Tryz.results144,go_sem,g0,g1,g2]) rfl (by rw [HE.out]; exact ⟨HR.out.2,_,rfl,IsRat.zero _⟩)
   | some q =>
    have HE:=bH (show bound5 p y=some (combB p y+q) from HQ.out)
    obtain ⟨sn,s1,sm1,sc1,s2,sm2,sc2,hsb,hsq⟩:=HC8.out.1.acc
    obtain ⟨t0,t1,t2,-⟩:=hsb.facts
    obtain ⟨x0,x1,x2,-⟩:=HC8.out.2.1.facts
    have HA9:=bH (HAd.out w8 _ _ q hsq HC8.out.2.2 (HLz.out q rfl))
    clear hsb hsq
    go_wp2_with fail
    refine HA9.out.mono ?_
    rintro r9 w9 ⟨v9,rfl,h9,hx9⟩
    obtain ⟨n9,a9,l9,c9,a9',l9',c9',rfl⟩:=h9.shape
    have hbr:=HC8.out.1.res.keep hx9
    obtain ⟨d0,d1,d2,d3,d4,d5⟩:=hbr.facts
    have hp:=hbr.put (neg:=n9) (no_int a9 l9 c9) (no_int a9' l9' c9')
    have HR:=bH (bI (hp.rat h9) (bI ((HC8.out.1.ext.trans hx9).own hp.ext (fun k e=>by omega)) hp.box))
    clear hp hbr h9 hx9 t0 t1 t2 x0 x1 x2 HA9
    go_wp2
    generalize ((w9.setCell ⟨rb,0,none⟩ (.bool n9)).setCell ⟨rb,1,none⟩ (.slice a9 l9 c9)).setCell ⟨rb,2,none⟩ (.slice a9' l9' c9')=w10 at *
    obtain ⟨g0,g1,g2,_⟩:=HR.out.2.2.facts
    exact bodyPost_ret (v:=.tuple #[.agg #[.bool n9,.slice a9 l9 c9,.slice a9' l9' c9'],.bool true]) (by simp [results,Tryz.results144,go_sem,g0,g1,g2]) rfl (by rw [HE.out]; exact ⟨HR.out.2.1,_,rfl,HR.out.1⟩)
def feas5 (p:ProgV) (x:List Rat):Bool:=insideB p x && decide (violQ p x=[])
theorem feas5_eq {p:ProgV} (h:validB p=true) (x:List Rat):feasB p x=feas5 p x:=by
 unfold feasB feas5
 rw [h,Bool.true_and]
theorem Room.more {n m T L:Nat} (h:Room n m T L):1+T*(L+3)+(L+3)<=1000000/\m<=1000000/\1+n*(L+3)+(L+3)<=1000000:=by
 have h1:=h.sum
 have h2:7<=(n+1)*(m*(T*(L+3)+2)+7):=Nat.le_trans (Nat.le_add_left 7 _) (Nat.le_mul_of_pos_left _ (by omega))
 have h3:m<=m*(L+3):=Nat.le_mul_of_pos_right m (by omega)
 omega
theorem IsFeasible5_any (w:World) (pv xv:Value) (p:ProgV) (x:List Rat) (L T:Nat) (hp:IsPrg w pv p) (hx:Rats w xv x L) (hs:Small p T L) :
  Calls Tryz.prog 48 #[pv,xv] w (BoolPost w (feas5 p x)):=by
 have h1:=hs.room.one
 obtain ⟨r1,r2,r3,r4,r5,r6,r7,r8,r9⟩:=hs.room.all
 obtain ⟨r10,r11,r12⟩:=hs.room.more
 have HI:=bH (fun W (hW:XF w W)=>Inside4_any W _ _ p x L (hp.keep hW) (hx.keep hW) h1 r8)
 have HVi:=bH (fun W (hW:XF w W)=>Violated4_any W _ _ p x L T (hp.keep hW) (hx.keep hW) h1 hs.terms r10 r3 r11)
 obtain ⟨vv,rv,rfl,-,-⟩:=hp
 have HQ:=bH (show feas5 p x=(insideB p x && decide (violQ p x=[])) from rfl)
 clear hx hs r1 r2 r3 r4 r5 r6 r7 r8 r9 r10 r11 r12
 generalize violQ p x=vl at *
 generalize insideB p x=ib at *
 have HB:=bH (bI (blk_alloc_at w (.cells #[vv,rv] 25)) ((Ext.refl (fun _=>False) w).alloc (.cells #[vv,rv] 25)))
 go_enter Tryz.func48,Tryz.ntmps48
 go_upto_region 1 with fail
 generalize w.alloc (.cells #[vv,rv] 25)=w1 at *
 generalize w.heap.size=pb at *
 have z0:=cellq HB.out.1 0 rfl
 have z1:=cellq HB.out.1 1 rfl
 go_wp2_with fail
 refine (HI.out _ HB.out.2).mono ?_
 rintro r2 w2 ⟨rfl,hx2⟩
 have HX2:=bH (HB.out.2.trans hx2)
 replace z0:=cell_keep z0 hx2
 replace z1:=cell_keep z1 hx2
 clear hx2 HI
 cases ib with
 | false =>
  go_wp2
  go_ret
  exact ⟨ret_bool (by rw [HQ.out]; rfl),HX2.out⟩
 | true =>
  go_wp2_with fail
  refine (HVi.out _ HX2.out).mono ?_
  rintro r3 w3 ⟨v3,rfl,ho3,hx3⟩
  obtain ⟨ao,cap,rfl⟩:=ho3.shape
  have HX3:=bH (HX2.out.trans hx3)
  obtain ⟨ln,hln⟩:∃ ln,vl.length=ln:=⟨_,rfl⟩
  have HL:=bH hln
  rw [hln]
  clear hx3 ho3 hln HVi
  by_cases h0:ln=0
  ·subst h0
   have HE:=bH (List.eq_nil_of_length_eq_zero HL.out)
   go_wp2
   go_ret
   exact ⟨ret_bool (by rw [HQ.out,HE.out]; simp),HX3.out⟩
  ·have HE:=bH (show vl≠[] from fun e=>h0 (by rw [<- HL.out,e]; rfl))
   have h0':((ln:Int) == 0)=false:=by simpa using h0
   have h0'':¬ (ln:Int)=0:=by omega
   go_wp2
   go_ret
   exact ⟨ret_bool (by rw [HQ.out,decide_eq_false HE.out]; rfl),HX3.out⟩
structure InSt (w wr:World) (pb bb B n:Nat) (va vb:Value) (f:Nat->Rat) (q:Rat):Prop where
 ext:XF w wr
 p0:wr.cell? ⟨pb,0,none⟩=some va
 p1:wr.cell? ⟨pb,1,none⟩=some vb
 acc:∃ sn s1 sm1 sc1 s2 sm2 sc2,BoxR wr bb sn (.slice s1 sm1 sc1) (.slice s2 sm2 sc2)/\IsRat wr (.agg #[.bool sn,.slice s1 sm1 sc1,.slice s2 sm2 sc2]) q
 arr:RArr wr B n f
 ord:w.heap.size<=pb/\pb<B/\B<bb
section
variable {w wr w':World} {pb bb B n:Nat} {va vb:Value} {f g:Nat->Rat} {q:Rat}
theorem InSt.keep (h:InSt w wr pb bb B n va vb f q) (hx:XF wr w'):InSt w w' pb bb B n va vb f q :=
 ⟨h.ext.trans hx,cell_keep h.p0 hx,cell_keep h.p1 hx,(by obtain ⟨sn,s1,sm1,sc1,s2,sm2,sc2,h1,h2⟩:=h.acc; exact ⟨sn,s1,sm1,sc1,s2,sm2,sc2,h1.keep hx,h2.keep hx⟩),h.arr.keep hx,h.ord⟩
theorem InSt.congr (h:InSt w wr pb bb B n va vb f q) (hg:∀ i,i<n->f i=g i):InSt w wr pb bb B n va vb g q :=
 ⟨h.ext,h.p0,h.p1,h.acc,h.arr.congr hg,h.ord⟩
theorem InSt.setArr (h:InSt w wr pb bb B n va vb f q) {j:Nat} (hj:j<n) {neg:Bool} {a1 a2:Option Addr} {m1 c1 m2 c2:Nat} {u:Rat} (hu:IsRat wr (.agg #[.bool neg,.slice a1 m1 c1,.slice a2 m2 c2]) u) :
  InSt w (((wr.setCell ⟨B,j*3,none⟩ (.bool neg)).setCell ⟨B,j*3+1,none⟩ (.slice a1 m1 c1)).setCell ⟨B,j*3+2,none⟩ (.slice a2 m2 c2)) pb bb B n va vb (fun k=>if k=j then u else f k) q:=by
 obtain ⟨p1,p2,p3⟩:=h.arr.put hj hu
 obtain ⟨o1,o2,o3⟩:=h.ord
 refine ⟨h.ext.own p2 (fun k e=>by omega),(p2.cell (p:=⟨pb,0,none⟩) (World.block_lt_of_cell? _ _ h.p0) (fun e=>by have:pb=B:=e; omega)).trans h.p0,(p2.cell (p:=⟨pb,1,none⟩) (World.block_lt_of_cell? _ _ h.p1) (fun e=>by have:pb=B:=e; omega)).trans h.p1,?_,p1,h.ord⟩
 obtain ⟨sn,s1,sm1,sc1,s2,sm2,sc2,h1,h2⟩:=h.acc
 exact ⟨sn,s1,sm1,sc1,s2,sm2,sc2,h1.ext p2 (fun e=>by omega),h2.past p3⟩
end
def inf5 (p:ProgV) (y:List Rat):Bool:=signedB p y && (emptyB p || match leastQ p (listTo p.vars.length fun i=>-combA p y i) with | some l=>decide (0<combB p y+l) | none=>false)
theorem inf5_eq {p:ProgV} (h:validB p=true) (y:List Rat):infB p y=inf5 p y:=by
 unfold infB inf5
 rw [h,Bool.true_and]
 congr 2
 cases leastQ p (listTo p.vars.length fun i=>-combA p y i) with
 | none=>rfl
 | some l=>exact decide_eq_decide.2 (by constructor <;> intro h <;> grind)
theorem Infeasible5_any (w:World) (pv yv:Value) (p:ProgV) (y:List Rat) (L T:Nat) (hp:IsPrg w pv p) (hy:Rats w yv y L) (hs:Small p T L) :
  Calls Tryz.prog 92 #[pv,yv] w (BoolPost w (inf5 p y)):=by
 have h1:=hs.room.one
 obtain ⟨r1,r2,r3,r4,r5,r6,r7,r8,r9⟩:=hs.room.all
 have HP:=bH hp
 obtain ⟨vv,rv,rfl,hv,hr⟩:=hp
 obtain ⟨vo,vc,rfl,-,hn,-⟩:=hv.shape
 obtain ⟨ro,rc,rfl,-,hrn,-⟩:=hr.shape
 have HSig:=bH (fun W (hW:XF w W)=>Signed4_any W _ _ p y L (HP.out.keep hW) (hy.keep hW) h1 (by omega))
 have HEm:=bH (fun W (hW:XF w W)=>Empty4_any W _ p (HP.out.keep hW))
 have HCom:=bH (fun W (hW:XF w W)=>Combine4_any W _ _ p y L T (HP.out.keep hW) (hy.keep hW) h1 hs.terms r1 r2 r8 r3)
 have hyz:=hy.sz h1
 have hA:=combA_sz hr hyz hs.terms
 have hB:=combB_sz hr hyz
 have hD:∀ i,i<p.vars.length->Sz (-combA p y i) (sizeA p.rows.length T L+3):=fun i hi=>(hA i).neg.mono (by omega)
 have HLa:=bH (fun W (hW:XF w W) B (ha:RArr W B p.vars.length (fun i=>-combA p y i)) =>
  Least4_any W _ _ p (listTo p.vars.length fun i=>-combA p y i) (sizeA p.rows.length T L+3) (HP.out.keep hW) (ha.rats hD (Nat.le_refl _) (by unfold maxLen; omega)) (by omega) (by omega) (by omega))
 have hlz:=leastS_sz (c:=listTo p.vars.length fun i=>-combA p y i) hv (atQ_listTo_sz hD (by omega))
 have HAd:=bH (fun W u u' q (hu:IsRat W u (combB p y)) (hu':IsRat W u' q) (hq:Sz q (1+p.vars.length*(sizeA p.rows.length T L+3+3)))=>Rradd_any W u u' _ q (1+p.vars.length*(sizeA p.rows.length T L+3+3)+(1+p.rows.length*(L+3))) (hu.reads (hB.mono (by omega))) (hu'.reads (hq.mono (by omega))) (by omega) (by omega))
 have HSg:=bH (fun W u q (hu:IsRat W u (combB p y+q)) (hq:Sz q (1+p.vars.length*(sizeA p.rows.length T L+3+3)))=>Rrsign_any W u _ 4000000 (hu.reads ((hB.add hq).mono (by omega))) (by omega))
 have HNg:=bH (fun W u i (hu:IsRat W u (combA p y i))=>Rrneg_any W u _ (sizeA p.rows.length T L+3) (hu.reads ((hA i).mono (by omega))) (by omega) (by omega))
 have HQ:=bH (show inf5 p y=(signedB p y && (emptyB p || match leastQ p (listTo p.vars.length fun i=>-combA p y i) with | some l=>decide (0<combB p y+l) | none=>false)) from rfl)
 have HLz:Hid (∀ q,leastQ p (listTo p.vars.length fun i=>-combA p y i)=some q->Sz q (1+p.vars.length*(sizeA p.rows.length T L+3+3))):=bH (fun q hq=>by
  obtain ⟨_,_,e⟩:=least_some hq
  rw [e]; exact hlz)
 clear hv hr hy hyz hA hB hD hlz HP hs r1 r2 r4 r5 r6 r7 r8 r9 h1
 obtain ⟨n,hn'⟩:∃ n,p.vars.length=n:=⟨_,rfl⟩
 rw [hn'] at hn r3 HSig HEm HCom HLa HAd HSg HQ HLz ⊢
 clear hn'
 obtain ⟨m,hm'⟩:∃ m,p.rows.length=m:=⟨_,rfl⟩
 rw [hm'] at hrn HSig HEm HCom HAd HSg HLz HLa ⊢
 clear hm'
 generalize (1+n*(sizeA m T L+3+3))=szl at *
 generalize leastQ p (listTo n fun i=>-combA p y i)=lq at *
 generalize combB p y=cb at *
 have HB:=bH (bI (blk_alloc_at w (.cells #[.slice vo n vc,.slice ro m rc] 25)) ((Ext.refl (fun _=>False) w).alloc (.cells #[.slice vo n vc,.slice ro m rc] 25)))
 go_enter Tryz.func92,Tryz.ntmps92
 go_upto_region 1 with fail
 generalize w.alloc (.cells #[.slice vo n vc,.slice ro m rc] 25)=w1 at *
 obtain ⟨pb,hpb⟩:∃ pb,w.heap.size=pb:=⟨_,rfl⟩
 have hpw:w.heap.size<=pb:=Nat.le_of_eq hpb
 rw [hpb] at HB ⊢
 clear hpb
 have z0:=cellq HB.out.1 0 rfl
 have z1:=cellq HB.out.1 1 rfl
 go_wp2_with fail
 refine (HSig.out w1 HB.out.2).mono ?_
 rintro r2 w2 ⟨rfl,hx2⟩
 have HB2:=bH (bI (blk_keep HB.out.1 hx2) (HB.out.2.trans hx2))
 clear hx2 HB z0 z1 HSig
 generalize signedB p y=sg at *
 cases sg with
 | false =>
  go_wp2
  go_ret
  exact ⟨ret_bool (by rw [HQ.out]; rfl),HB2.out.2⟩
 | true =>
 have z0:=cellq HB2.out.1 0 rfl
 have z1:=cellq HB2.out.1 1 rfl
 go_wp2_with fail
 refine (HEm.out _ HB2.out.2).mono ?_
 rintro r3 w3 ⟨rfl,hx3⟩
 have HB3:=bH (bI (blk_keep HB2.out.1 hx3) (HB2.out.2.trans hx3))
 clear hx3 HB2 z0 z1 HEm
 generalize emptyB p=eb at *
 cases eb with
 | true =>
  go_wp2
  go_ret
  exact ⟨ret_bool (by rw [HQ.out]; rfl),HB3.out.2⟩
 | false =>
 have z0:=cellq HB3.out.1 0 rfl
 have z1:=cellq HB3.out.1 1 rfl
 go_wp2_with fail
 refine (HCom.out _ HB3.out.2).mono ?_
 rintro r5 w5 ⟨B,cv,rfl,hBw,hA5,hb5,hx5⟩
 obtain ⟨cn,ca,cl,cc,ca2,cl2,cc2,rfl⟩:=hb5.shape
 clear z0 z1
 have hpB:pb<B:=by have:=blk_lt HB3.out.1; omega
 have hBB:=hA5.lt
 have hxa:=(Ext.refl (fun _=>False) w5).alloc (.cells #[.bool cn,.slice ca cl cc,.slice ca2 cl2 cc2] 31)
 have hb52:=blk_keep HB3.out.1 (hx5.trans hxa)
 have HC:=bH (show InSt w (w5.alloc (.cells #[.bool cn,.slice ca cl cc,.slice ca2 cl2 cc2] 31)) pb w5.heap.size B n (.slice vo n vc) (.slice ro m rc) (combA p y) cb from
  ⟨(HB3.out.2.trans hx5).trans hxa,cellq hb52 0 rfl,cellq hb52 1 rfl,⟨_,_,_,_,_,_,_,boxR_new (W:=w5) rfl cn ca cl cc ca2 cl2 cc2,hb5.keep hxa⟩,hA5.keep hxa,by omega⟩)
 clear hxa hb52 hA5 hb5 hx5 HB3
 go_upto_region 6 with fail
 generalize w5.alloc (.cells #[.bool cn,.slice ca cl cc,.slice ca2 cl2 cc2] 31)=w6 at *
 generalize w5.heap.size=bb at *
 go_wp2_with fail
 go_loopg [7] n (fun gg v7 wr=>∃ i:Nat,i<=n/\gg=n - i/\v7=.int .i64 i/\InSt w wr pb bb B n (.slice vo n vc) (.slice ro m rc) (fun k=>if k<i then -combA p y k else combA p y k) cb)
 case atStart=>exact ⟨0,Nat.zero_le _,rfl,rfl,HC.out.congr (fun k _=>(if_neg (Nat.not_lt_zero k)).symm)⟩
 case round =>
  clear HC
  obtain ⟨i,hi,rfl,rfl,hst⟩:=hrel
  have HCm:=bH hst
  clear hst
  by_cases hin:i<n
  ·have i0:(i:Int)<(n:Int):=by omega
   have i1:(0:Int)<=(i:Int):=by omega
   obtain ⟨on,oa,ol,oc,oa2,ol2,oc2,o0,o1,o2,hoq⟩:=HCm.out.arr.cells i hin
   rw [if_neg (Nat.lt_irrefl i)] at hoq
   have HN1:=bH (HNg.out _ _ i hoq)
   have HI:=bH hin
   clear hoq hin
   go_wp2_with fail
   refine HN1.out.mono ?_
   rintro r7 w7 ⟨v7,rfl,h7,hx7⟩
   obtain ⟨n7,a7,l7,c7,a7',l7',c7',rfl⟩:=h7.shape
   have HC7:=bH (HCm.out.keep hx7)
   replace o0:=cell_keep o0 hx7
   replace o1:=cell_keep o1 hx7
   replace o2:=cell_keep o2 hx7
   have f0:=HC7.out.arr.free (i*3)
   have f1:=HC7.out.arr.free (i*3+1)
   have f2:=HC7.out.arr.free (i*3+2)
   have HP:=bH ((HC7.out.setArr HI.out h7).congr (g:=fun k=>if k<i+1 then -combA p y k else combA p y k) (fun k hk=>by
    show (if k=i then -combA p y i else if k<i then -combA p y k else combA p y k)=_
    by_cases e:k=i
    ·rw [if_pos e,if_pos (by omega),e]
    ·rw [if_neg e]
     by_cases e2:k<i
     ·rw [if_pos e2,if_pos (by omega)]
     ·rw [if_neg e2,if_neg (by omega)]))
   have hin:=HI.out
   clear h7 hx7 HC7 HCm HN1
   go_upto_region 8 with fail
   clear o0 o1 o2 f0 f1 f2
   generalize ((w7.setCell ⟨B,i*3,none⟩ (.bool n7)).setCell ⟨B,i*3+1,none⟩ (.slice a7 l7 c7)).setCell ⟨B,i*3+2,none⟩ (.slice a7' l7' c7')=w9 at *
   go_wp2
   go_roundg (n - (i+1))
   case measure=>omega
   case rel=>exact ⟨i+1,by omega,rfl,by go_num,HP.out⟩
  ·obtain rfl:i=n:=by omega
   have z0:=HCm.out.p0
   have z1:=HCm.out.p1
   have HArr:=bH (HCm.out.arr.congr (g:=fun k=>-combA p y k) (fun k hk=>if_pos hk))
   go_wp2_with fail
   refine (HLa.out _ HCm.out.ext B HArr.out).mono ?_
   rintro r7 w7 hopt
   obtain ⟨n7,a7,l7,c7,a7',l7',c7',rfl,h7,hx7⟩:=OptPost.open hopt
   have hx8:=(Ext.refl (fun _=>False) w7).alloc (.cells #[.bool n7,.slice a7 l7 c7,.slice a7' l7' c7'] 31)
   have HC8:=bH (bI ((HCm.out.keep hx7).keep hx8) (bI (boxR_new (W:=w7) rfl n7 a7 l7 c7 a7' l7' c7') (h7.keep hx8)))
   clear hopt h7 hx7 hx8 z0 z1 HArr
   go_upto_region 11 with fail
   generalize w7.alloc (.cells #[.bool n7,.slice a7 l7 c7,.slice a7' l7' c7'] 31)=w8 at *
   generalize w7.heap.size=xb at *
   cases lq with
   | none =>
    go_wp2
    go_ret
    exact ⟨ret_bool (by rw [HQ.out]; rfl),HC8.out.1.ext⟩
   | some q =>
    obtain ⟨sn,s1,sm1,sc1,s2,sm2,sc2,hsb,hsq⟩:=HC8.out.1.acc
    obtain ⟨t0,t1,t2,-⟩:=hsb.facts
    obtain ⟨x0,x1,x2,-⟩:=HC8.out.2.1.facts
    have HA9:=bH (HAd.out w8 _ _ q hsq HC8.out.2.2 (HLz.out q rfl))
    have HQ2:=bH (show inf5 p y=decide (0<cb+q) from HQ.out)
    clear hsb hsq
    go_wp2_with fail
    refine HA9.out.mono ?_
    rintro r9 w9 ⟨v9,rfl,h9,hx9⟩
    have HS9:=bH (HSg.out w9 _ _ h9 (HLz.out q rfl))
    have HX9:=bH (HC8.out.1.ext.trans hx9)
    obtain ⟨n9,a9,l9,c9,a9',l9',c9',rfl⟩:=h9.shape
    clear h9 hx9 HA9
    go_wp2_with fail
    refine HS9.out.mono ?_
    rintro r10 w10 ⟨rfl,hx10⟩
    have HX10:=bH (HX9.out.trans hx10)
    have HG:=bH (sign_gt (cb+q))
    clear hx10 HS9
    generalize (cb+q).num.sign=sg at *
    by_cases hs:0<sg
    ·have HE:=bH (decide_eq_true (HG.out.1 hs))
     go_wp2
     go_ret
     exact ⟨ret_bool (by rw [HQ2.out,HE.out]),HX10.out⟩
    ·have HE:=bH (bI (decide_eq_false (fun h=>hs (HG.out.2 h))) (decide_eq_false hs))
     go_wp2
     go_ret
     exact ⟨ret_bool (by rw [HQ2.out,HE.out.1]; exact HE.out.2),HX10.out⟩
theorem bound5_sz {p:ProgV} {y:List Rat} {w:World} {vv rv:Value} {L T:Nat} (hv:Vrs w vv p.vars) (hr:Rws w rv p.rows) (hyz:∀ i:Int,Sz (atQ y i) L) (hs:Small p T L) {b:Rat} (hb:bound5 p y=some b):Sz b 4000000:=by
 obtain ⟨r1,r2,r3,r4,r5,r6,r7,r8,r9⟩:=hs.room.all
 have hA:=combA_sz hr hyz hs.terms
 have hB:=combB_sz hr hyz
 have hD:∀ i,i<p.vars.length->Sz (((p.v i).co:Rat) - combA p y i) (sizeA p.rows.length T L+3):=fun i hi=>((Sz.int (hv.ok i hi).co).sub (hA i)).mono (by omega)
 have hlz:=leastS_sz (c:=listTo p.vars.length fun i=>((p.v i).co:Rat) - combA p y i) hv (atQ_listTo_sz hD (by omega))
 unfold bound5 at hb
 split at hb
 ·obtain ⟨q,hq,rfl⟩:=Option.map_eq_some_iff.1 hb
  obtain ⟨_,_,e⟩:=least_some hq
  rw [e]
  exact (hB.add hlz).mono (by omega)
 ·cases hb
def opt5 (p:ProgV) (x y:List Rat):Bool:=match bound5 p y with | some b=>feas5 p x && decide ((b - costQ p x).num.sign=0) | none=>false
theorem opt5_eq {p:ProgV} (h:validB p=true) (x y:List Rat):optB p x y=opt5 p x y:=by
 unfold optB opt5
 rw [feas5_eq h,bound5_eq h]
 cases bound5 p y with
 | none=>simp
 | some b =>
  show _=(feas5 p x && decide ((b - costQ p x).num.sign=0))
  congr 1
  refine decide_eq_decide.2 ?_
  rw [sign_zero,Option.some.injEq]
  constructor <;> intro h <;> grind
theorem Optimal5_any (w:World) (pv xv yv:Value) (p:ProgV) (x y:List Rat) (L T:Nat) (hp:IsPrg w pv p) (hx:Rats w xv x L) (hy:Rats w yv y L) (hs:Small p T L) :
  Calls Tryz.prog 91 #[pv,xv,yv] w (BoolPost w (opt5 p x y)):=by
 have h1:=hs.room.one
 obtain ⟨r10,r11,r12⟩:=hs.room.more
 have r7:=hs.room.all.2.2.2.2.2.2.1
 have HBo:=bH (fun W (hW:XF w W)=>Bound5_any W _ _ p y L T (hp.keep hW) (hy.keep hW) hs)
 have HIs:=bH (fun W (hW:XF w W)=>IsFeasible5_any W _ _ p x L T (hp.keep hW) (hx.keep hW) hs)
 have HCo:=bH (fun W (hW:XF w W)=>Cost4_any W _ _ p x L (hp.keep hW) (hx.keep hW) h1 r12)
 obtain ⟨vv,rv,rfl,hv,hr⟩:=hp
 have hcz:=costQ_sz hv (hx.sz h1)
 have HCm:=bH (fun W u u' b (hb:bound5 p y=some b) (hu:IsRat W u b) (hu':IsRat W u' (costQ p x))=>Rrcmp_any W u u' _ _ 4000000 (hu.reads (bound5_sz hv hr (hy.sz h1) hs hb)) (hu'.reads (hcz.mono (by omega))) (by omega) (by omega))
 have HQ:=bH (show opt5 p x y=match bound5 p y with | some b=>feas5 p x && decide ((b - costQ p x).num.sign=0) | none=>false from rfl)
 clear hx hy hv hr hs hcz r7 r10 r11 r12 h1
 generalize bound5 p y=bo at *
 generalize feas5 p x=fe at *
 have HB:=bH (bI (blk_alloc_at w (.cells #[vv,rv] 25)) ((Ext.refl (fun _=>False) w).alloc (.cells #[vv,rv] 25)))
 go_enter Tryz.func91,Tryz.ntmps91
 go_upto_region 1 with fail
 generalize w.alloc (.cells #[vv,rv] 25)=w1 at *
 generalize w.heap.size=pb at *
 have z0:=cellq HB.out.1 0 rfl
 have z1:=cellq HB.out.1 1 rfl
 go_wp2_with fail
 refine (HBo.out _ HB.out.2).mono ?_
 rintro r7 w7 hopt
 obtain ⟨n7,a7,l7,c7,a7',l7',c7',rfl,h7,hx7⟩:=OptPost.open hopt
 have hx8:=(Ext.refl (fun _=>False) w7).alloc (.cells #[.bool n7,.slice a7 l7 c7,.slice a7' l7' c7'] 31)
 have hq8:=h7.keep hx8
 have hb8:=boxR_new (W:=w7) rfl n7 a7 l7 c7 a7' l7' c7'
 have HX8:=bH ((HB.out.2.trans hx7).trans hx8)
 replace z0:=cell_keep z0 (hx7.trans hx8)
 replace z1:=cell_keep z1 (hx7.trans hx8)
 have Z:=bH (bI z0 z1)
 clear z0 z1 hopt h7 hx7 hx8 HBo
 go_upto_region 2 with fail
 generalize w7.alloc (.cells #[.bool n7,.slice a7 l7 c7,.slice a7' l7' c7'] 31)=w8 at *
 generalize w7.heap.size=xb at *
 obtain ⟨t0,t1,t2,-⟩:=hb8.facts
 replace t0:=cq t0
 replace t1:=cq t1
 replace t2:=cq t2
 have z0:=cq Z.out.1
 have z1:=cq Z.out.2
 clear hb8
 cases bo with
 | none =>
  refine wp_region_held_drew (S:=(XF w8)) (by kernel_rfl) ((Ext.refl _ w8).drew) (fun hHeld=>?_)
  refine ht 0 (h:=(ht 1 (h:=?_)))
  (try go_frame)
  refine hk 2 (h:=?_)
  (try go_frame)
  refine hk 3 (h:=?_)
  (try go_frame)
  refine hk 4 (h:=(ht 5 (h:=(ht 6 (h:=?_)))))
  (try go_frame)
  refine hk 7 (h:=?_)
  (try go_frame)
  refine hk 8 (h:=?_)
  (try go_frame)
  refine hk 9 (h:=?_)
  (try go_frame)
  refine hk 10 (h:=?_)
  (try go_frame)
  refine hk 11 (h:=?_)
  (try go_frame)
  refine hk 12 (h:=(ht 13 (h:=(ht 14 (h:=?_)))))
  (try go_frame)
  refine wpAnyH_done (by kernel_rfl) ?_ _
  have HXr:=bH (HX8.out.trans hHeld)
  clear z0 z1 t0 t1 t2 hHeld
  go_wp2
  go_ret
  exact ⟨ret_bool (by rw [HQ.out]),HXr.out⟩
 | some b =>
  replace HCm:=bH (fun W u u' hu hu'=>HCm.out W u u' b rfl hu hu')
  replace HQ:Hid (opt5 p x y=(fe && decide ((b - costQ p x).num.sign=0))):=bH HQ.out
  replace hq8:IsRat w8 _ b:=hq8
  generalize (b - costQ p x).num.sign=sg at *
  cases fe with
  | false =>
   refine wp_region_held_drew (S:=(XF w8)) (by kernel_rfl) ((Ext.refl _ w8).drew) (fun hHeld=>?_)
   refine ht 0 (h:=(ht 1 (h:=?_)))
   (try go_frame)
   refine ht 2 (h:=?_)
   (try go_frame)
   refine ht 3 (h:=?_)
   (try go_frame)
   refine hst 4 (h:=fun K hK=>?_)
   (go_simp; go_at_call 48; (with_reducible refine (HIs.out _ (HX8.out.trans hHeld)).mono ?_); rintro q1 w11 ⟨rfl,hx11⟩; have hX1:=hHeld.trans hx11)
   refine hK.out _ _ (hX1) (fun hHeld=>?_)
   clear hK K
   (try go_frame)
   refine ht 5 (h:=(ht 6 (h:=?_)))
   (try go_frame)
   refine hk 7 (h:=?_)
   (try go_frame)
   refine hk 8 (h:=?_)
   (try go_frame)
   refine hk 9 (h:=?_)
   (try go_frame)
   refine hk 10 (h:=?_)
   (try go_frame)
   refine hk 11 (h:=?_)
   (try go_frame)
   refine hk 12 (h:=(ht 13 (h:=(ht 14 (h:=?_)))))
   (try go_frame)
   refine wpAnyH_done (by kernel_rfl) ?_ _
   have HXr:=bH (HX8.out.trans hX1)
   clear z0 z1 t0 t1 t2 hHeld hX1 hx11
   go_wp2
   go_ret
   exact ⟨ret_bool (by rw [HQ.out]; rfl),HXr.out⟩
  | true =>
   refine wp_region_held_drew (S:=(XF w8)) (by kernel_rfl) ((Ext.refl _ w8).drew) (fun hHeld=>?_)
   refine ht 0 (h:=(ht 1 (h:=?_)))
   (try go_frame)
   refine ht 2 (h:=?_)
   (try go_frame)
   refine ht 3 (h:=?_)
   (try go_frame)
   refine hst 4 (h:=fun K hK=>?_)
   (go_simp; go_at_call 48; (with_reducible refine (HIs.out _ (HX8.out.trans hHeld)).mono ?_); rintro q1 w11 ⟨rfl,hx11⟩; have hX1:=hHeld.trans hx11)
   refine hK.out _ _ (hX1) (fun hHeld=>?_)
   clear hK K
   (try go_frame)
   refine ht 5 (h:=(ht 6 (h:=?_)))
   (try go_frame)
   refine ht 7 (h:=?_)
   (try go_frame)
   refine ht 8 (h:=?_)
   (try go_frame)
   refine ht 9 (h:=?_)
   (try go_frame)
   refine hst 10 (h:=fun K hK=>?_)
   (go_simp; go_at_call 26; (with_reducible refine (HCo.out _ (HX8.out.trans hX1)).mono ?_); rintro q2 w12 ⟨v12,rfl,h12,hx12⟩; have hX2:=hX1.trans hx12; have hC:=HCm.out w12 _ _ (hq8.keep hX2) h12; obtain ⟨n12,a12,l12,c12,a12',l12',c12',rfl⟩:=h12.shape)
   refine hK.out _ _ (hX2) (fun hHeld=>?_)
   clear hK K
   (try go_frame)
   refine hst 11 (h:=fun K hK=>?_)
   (go_simp; go_at_call 25; (with_reducible refine hC.mono ?_); rintro q3 w13 ⟨rfl,hx13⟩; have hX3:=hX2.trans hx13)
   refine hK.out _ _ (hX3) (fun hHeld=>?_)
   clear hK K
   (try go_frame)
   refine ht 12 (h:=(ht 13 (h:=(ht 14 (h:=?_)))))
   (try go_frame)
   refine wpAnyH_done (by kernel_rfl) ?_ _
   have HXr:=bH (HX8.out.trans hX3)
   clear z0 z1 t0 t1 t2 hHeld hX1 hX2 hX3 hx11 hx12 hx13 h12 hC hq8
   by_cases h0:sg=0
   ·subst h0
    go_wp2
    go_ret
    exact ⟨ret_bool (by rw [HQ.out]; rfl),HXr.out⟩
   ·have h0':(sg == 0)=false:=by simpa using h0
    have HE:=bH (decide_eq_false h0)
    go_wp2
    go_ret
    exact ⟨ret_bool (by rw [HQ.out,HE.out]; simpa using h0),HXr.out⟩
def unb5 (p:ProgV) (x z:List Rat):Bool:=feas5 p x && decide (costQ p z<0) && allTo p.vars.length (rayI p z) && allTo p.rows.length (zeroI p z)
theorem unb5_eq {p:ProgV} (h:validB p=true) (x z:List Rat):unbB p x z=unb5 p x z:=by
 rw [show unbB p x z=(feasB p x && decide (costQ p z<0) && allTo p.vars.length (rayI p z) && allTo p.rows.length (zeroI p z)) from rfl,feas5_eq h]
 rfl
theorem Unbounded5_any (w:World) (pv xv zv:Value) (p:ProgV) (x z:List Rat) (L T:Nat) (hp:IsPrg w pv p) (hx:Rats w xv x L) (hz:Rats w zv z L) (hs:Small p T L) :
  Calls Tryz.prog 93 #[pv,xv,zv] w (BoolPost w (unb5 p x z)):=by
 have h1:=hs.room.one
 obtain ⟨r10,r11,r12⟩:=hs.room.more
 obtain ⟨r1,r2,r3,r4,r5,r6,r7,r8,r9⟩:=hs.room.all
 have HP:=bH hp
 have HIs:=bH (fun W (hW:XF w W)=>IsFeasible5_any W _ _ p x L T (hp.keep hW) (hx.keep hW) hs)
 have HCo:=bH (fun W (hW:XF w W)=>Cost4_any W _ _ p z L (hp.keep hW) (hz.keep hW) h1 r12)
 obtain ⟨vv,rv,rfl,hv,hr⟩:=hp
 obtain ⟨vo,vc,rfl,-,hvn,-⟩:=hv.shape
 obtain ⟨ro,rc,rfl,-,hrn,-⟩:=hr.shape
 have hcz:=costQ_sz hv (hz.sz h1)
 have HSg:=bH (fun W u (hu:IsRat W u (costQ p z))=>Rrsign_any W u _ 4000000 (hu.reads (hcz.mono (by omega))) (by omega))
 have HAt:=bH (fun W (hW:XF w W) (i:Nat)=>At_any W _ z L (hz.keep hW) i)
 have HG:=bH (fun W u q (hu:Rrat W u q L)=>Rrsign_any W u q L hu (by omega))
 have HHo:=bH (fun W (hW:XF w W) i (hi:i<p.rows.length) ta tc (hok:RowOk (p.r i)) (htm:Tms w (.slice ta (p.r i).terms.length tc) (p.r i).terms)=>Holds_any W _ _ p { p.r i with bound:=0 } z L T ta tc (HP.out.keep hW) ⟨hok.name,hok.group,hok.kind,(show InR 0 from ⟨by decide,by decide⟩)⟩ (htm.keep hW) (hz.keep hW) h1 (hs.terms i hi) r10 r3)
 have HQ:=bH (show unb5 p x z=(feas5 p x && decide (costQ p z<0) && allTo p.vars.length (rayI p z) && allTo p.rows.length (zeroI p z)) from rfl)
 have HV:=bH (bI hv hr)
 clear hx hz hv hr hs hcz r1 r2 r3 r4 r5 r6 r7 r8 r9 r10 r11 r12 h1
 obtain ⟨n,hn'⟩:∃ n,p.vars.length=n:=⟨_,rfl⟩
 obtain ⟨m,hm'⟩:∃ m,p.rows.length=m:=⟨_,rfl⟩
 have HN:=bH (bI hn' hm')
 rw [hn'] at hvn HV HIs HCo HQ HP HHo ⊢
 rw [hm'] at hrn HV HIs HCo HQ HP HHo ⊢
 clear hn' hm'
 have hcs:decide (costQ p z<0)=decide ((costQ p z).num.sign<0):=decide_eq_decide.2 (sign_lt _).symm
 rw [hcs] at HQ
 clear hcs
 generalize feas5 p x=fe at *
 generalize (costQ p z).num.sign=cs at *
 have HB:=bH (bI (blk_alloc_at w (.cells #[.slice vo n vc,.slice ro m rc] 25)) ((Ext.refl (fun _=>False) w).alloc (.cells #[.slice vo n vc,.slice ro m rc] 25)))
 go_enter Tryz.func93,Tryz.ntmps93
 go_upto_region 1 with fail
 generalize w.alloc (.cells #[.slice vo n vc,.slice ro m rc] 25)=w1 at *
 obtain ⟨pb,hpb⟩:∃ pb,w.heap.size=pb:=⟨_,rfl⟩
 have hpw:w.heap.size<=pb:=Nat.le_of_eq hpb
 rw [hpb] at HB ⊢
 clear hpb
 have z0:=cellq HB.out.1 0 rfl
 have z1:=cellq HB.out.1 1 rfl
 go_wp2_with fail
 refine (HIs.out _ HB.out.2).mono ?_
 rintro r2 w2 ⟨rfl,hx2⟩
 have HB2:=bH (bI (blk_keep HB.out.1 hx2) (HB.out.2.trans hx2))
 clear hx2 HB z0 z1 HIs
 cases fe with
 | false =>
  go_wp2
  go_ret
  exact ⟨ret_bool (by rw [HQ.out]; rfl),HB2.out.2⟩
 | true =>
 have z0:=cellq HB2.out.1 0 rfl
 have z1:=cellq HB2.out.1 1 rfl
 go_wp2_with fail
 refine (HCo.out _ HB2.out.2).mono ?_
 rintro r3 w3 ⟨v3,rfl,h3,hx3⟩
 have HS3:=bH (HSg.out w3 _ h3)
 obtain ⟨n3,a3,l3,c3,a3',l3',c3',rfl⟩:=h3.shape
 have HB3:=bH (bI (blk_keep HB2.out.1 hx3) (HB2.out.2.trans hx3))
 clear hx3 HB2 z0 z1 HCo h3
 go_wp2_with fail
 refine HS3.out.mono ?_
 rintro r4 w4 ⟨rfl,hx4⟩
 have HB4:=bH (bI (blk_keep HB3.out.1 hx4) (HB3.out.2.trans hx4))
 clear hx4 HB3 HS3
 by_cases hc:0<=cs
 ·have HE:=bH (decide_eq_false (p:=cs<0) (by omega))
  go_wp2
  go_ret
  exact ⟨ret_bool (by rw [HQ.out,HE.out]; rfl),HB4.out.2⟩
 replace HQ:Hid (unb5 p x z=(allTo n (rayI p z) && allTo m (zeroI p z))):=bH (by rw [HQ.out,decide_eq_true (p:=cs<0) (by omega)]; simp)
 have z0:=cellq HB4.out.1 0 rfl
 go_wp2_with fail
 go_loopg [7,8] n (fun gg v7 v8 wr=>∃ i:Nat,i<=n/\gg=n - i/\v7=.int .i64 i/\allTo i (rayI p z)=true/\blk wr pb=some (.cells #[.slice vo n vc,.slice ro m rc] 25 (0,0))/\XF w wr)
 case atStart=>exact ⟨0,Nat.zero_le _,rfl,rfl,rfl,HB4.out⟩
 case round =>
  clear z0
  obtain ⟨i,hi,rfl,rfl,hall,hbx⟩:=hrel
  have HX:=bH (bI hall hbx)
  clear hall hbx HB4
  have z0:=cellq HX.out.2.1 0 rfl
  by_cases hin:i<n
  ·have i0:(i:Int)<(n:Int):=by omega
   have i1:(0:Int)<=(i:Int):=by omega
   obtain ⟨b,off,rfl,-,-,-,e2,-,-,-⟩:=HV.out.1.atp i (by rw [HN.out.1]; exact hin)
   have E2:=bH e2
   clear e2
   have HR:=bH (rayI_sign p z i)
   generalize (p.v i).op=o at *
   go_wp2_with fail
   refine (HAt.out _ HX.out.2.2 i).mono ?_
   rintro r5 w5 ⟨v5,rfl,h5,hx5⟩
   obtain ⟨n5,a5,l5,c5,a5',l5',c5',rfl⟩:=h5.shape
   have HG5:=bH (HG.out w5 _ _ h5)
   have HX5:=bH hx5
   clear h5 hx5 z0
   go_wp2_with fail
   refine HG5.out.mono ?_
   rintro r6 w6 ⟨rfl,hx6⟩
   have HX6:=bH (bI (blk_keep HX.out.2.1 (HX5.out.trans hx6)) (HX.out.2.2.trans (HX5.out.trans hx6)))
   have e2:=cell_keep E2.out HX6.out.2
   have z0:=cellq HX6.out.1 0 rfl
   clear hx6 HX5 HG5 E2
   generalize (atQ z i).num.sign=sg at *
   by_cases hs1:sg<0
   ·have HE:=bH (show rayI p z i=false from by rw [HR.out,decide_eq_true hs1]; rfl)
    go_wp2
    go_ret
    exact ⟨ret_bool (by rw [HQ.out,allTo_false (i:=i) hin HE.out]; rfl),HX6.out.2⟩
   by_cases hs2:0<sg
   ·cases o with
    | false =>
     have HE:=bH (show rayI p z i=false from by rw [HR.out,decide_eq_true hs2]; simp)
     go_wp2
     go_ret
     exact ⟨ret_bool (by rw [HQ.out,allTo_false (i:=i) hin HE.out]; rfl),HX6.out.2⟩
    | true =>
     have HE:=bH (show rayI p z i=true from by rw [HR.out,decide_eq_false hs1]; simp)
     go_wp2
     go_roundg (n - (i+1))
     case measure=>omega
     case rel=>exact ⟨i+1,by omega,rfl,by go_num,allTo_next HX.out.1 HE.out,HX6.out⟩
   ·have HE:=bH (show rayI p z i=true from by rw [HR.out,decide_eq_false hs1,decide_eq_false hs2]; simp)
    go_wp2
    go_roundg (n - (i+1))
    case measure=>omega
    case rel=>exact ⟨i+1,by omega,rfl,by go_num,allTo_next HX.out.1 HE.out,HX6.out⟩
  ·obtain rfl:n=i:=by omega
   replace HQ:Hid (unb5 p x z=allTo m (zeroI p z)):=bH (by rw [HQ.out,HX.out.1]; rfl)
   have z1:=cellq HX.out.2.1 1 rfl
   have HX2:=bH HX.out.2
   clear hin hi HX
   go_wp2_with fail
   go_loopg [9,10] m (fun gg v9 v10 wr=>∃ i:Nat,i<=m/\gg=m - i/\v9=.int .i64 i/\allTo i (zeroI p z)=true/\blk wr pb=some (.cells #[.slice vo n vc,.slice ro m rc] 25 (0,0))/\XF w wr)
   case atStart=>exact ⟨0,Nat.zero_le _,rfl,rfl,rfl,HX2.out⟩
   case round =>
    clear z0 z1 HX2
    obtain ⟨i,hi,rfl,rfl,hall,hbx⟩:=hrel
    have HX:=bH (bI hall hbx)
    clear hall hbx
    have z0:=cellq HX.out.2.1 0 rfl
    have z1:=cellq HX.out.2.1 1 rfl
    by_cases hin:i<m
    ·have i0:(i:Int)<(m:Int):=by omega
     have i1:(0:Int)<=(i:Int):=by omega
     obtain ⟨b,off,ta,tc,rfl,-,e0,e1,e2,e3,e4,hrok,htm⟩:=HV.out.2.atp i (by rw [HN.out.2]; exact hin)
     replace e0:=cell_keep e0 HX.out.2.2
     replace e1:=cell_keep e1 HX.out.2.2
     replace e2:=cell_keep e2 HX.out.2.2
     replace e3:=cell_keep e3 HX.out.2.2
     replace e4:=cell_keep e4 HX.out.2.2
     have HH:=bH (fun W (hW:XF w W)=>HHo.out W hW i hin ta tc hrok htm)
     have HZ:=bH (show holdsB { p.r i with bound:=0 } (clipQ p z)=zeroI p z i from rfl)
     rw [HZ.out] at HH
     clear hrok htm HZ
     obtain ⟨zi,hzi⟩:∃ zi,zeroI p z i=zi:=⟨_,rfl⟩
     have HZi:=bH hzi
     rw [hzi] at HH
     clear hzi
     generalize (p.r i).terms.length=tl at *
     generalize (p.r i).name=nm at *
     generalize (p.r i).group=gr at *
     generalize (p.r i).kind=k at *
     generalize (p.r i).bound=bd at *
     have hb3:=blk_alloc_at wr (.cells #[.string nm,.int .i64 gr,.int .i64 k,.slice ta tl tc,.int .i64 bd] 58)
     have hx3:=(Ext.refl (fun _=>False) wr).alloc (.cells #[.string nm,.int .i64 gr,.int .i64 k,.slice ta tl tc,.int .i64 bd] 58)
     have HB3:=bH (bI hb3 (bI (blk_keep HX.out.2.1 hx3) (bI (HX.out.2.2.trans hx3) (show pb<wr.heap.size/\w.heap.size<=wr.heap.size from ⟨blk_lt HX.out.2.1,HX.out.2.2.size⟩))))
     clear hb3 hx3
     go_upto_region 13 with fail
     generalize wr.alloc (.cells #[.string nm,.int .i64 gr,.int .i64 k,.slice ta tl tc,.int .i64 bd] 58)=w3 at *
     generalize wr.heap.size=rx at *
     clear e0 e1 e2 e3 e4 z0 z1
     have hxs:=(Ext.refl (fun i=>i=rx) w3).setCell (p:=⟨rx,4,none⟩) (.int .i64 0) (fun _=>rfl)
     have HB4:=bH (bI (blk_setCell_same HB3.out.1 4 (.int .i64 0)) (bI ((hxs.blk (blk_lt HB3.out.2.1) (fun e=>by have:=HB3.out.2.2.2.1; omega)).trans HB3.out.2.1) (HB3.out.2.2.1.own hxs (fun k e=>by have:=HB3.out.2.2.2.2; omega))))
     have e4:=cellq HB3.out.1 4 rfl
     have f4:=free_of_cells HB3.out.1 4
     clear hxs
     go_upto_region 14 with fail
     clear e4 f4 HB3
     generalize w3.setCell ⟨rx,4,none⟩ (.int .i64 0)=w4 at *
     have z0:=cellq HB4.out.2.1 0 rfl
     have z1:=cellq HB4.out.2.1 1 rfl
     have e0:=cellq HB4.out.1 0 rfl
     have e1:=cellq HB4.out.1 1 rfl
     have e2:=cellq HB4.out.1 2 rfl
     have e3:=cellq HB4.out.1 3 rfl
     have e4:=cellq HB4.out.1 4 rfl
     go_wp2_with fail
     refine (HH.out _ HB4.out.2.2).mono ?_
     rintro r5 w5 ⟨rfl,hx5⟩
     have HX5:=bH (bI (blk_keep HB4.out.2.1 hx5) (HB4.out.2.2.trans hx5))
     clear hx5 HB4 HH z0 z1 e0 e1 e2 e3 e4
     cases zi with
     | true =>
      go_wp2
      go_roundg (m - (i+1))
      case measure=>omega
      case rel=>exact ⟨i+1,by omega,rfl,by go_num,allTo_next HX.out.1 HZi.out,HX5.out⟩
     | false =>
      go_wp2
      go_ret
      exact ⟨ret_bool (by rw [HQ.out,allTo_false (i:=i) hin HZi.out]),HX5.out.2⟩
    ·obtain rfl:i=m:=by omega
     go_wp2
     go_ret
     exact ⟨ret_bool (by rw [HQ.out,HX.out.1]),HX.out.2.2⟩
end Go.Proofs.YtbgienfcmdgaaaaGreat
