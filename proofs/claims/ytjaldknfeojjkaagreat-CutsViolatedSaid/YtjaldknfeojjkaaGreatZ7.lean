/-
  Texts of the proof, part 7. Conditions: each lemma names its own.
-/
import Derived.Test.YtjaldknfeojjkaaGreatZ3
import Derived.Test.YtjaldknfeojjkaaGreatZ4
import Derived.Test.YtjaldknfeojjkaaGreatZ5
import Derived.Test.YtjaldknfeojjkaaGreatZ6
import Derived.Maps.RangeWalk
set_option linter.unusedVariables false
set_option linter.unusedSimpArgs false
set_option maxRecDepth 100000
set_option maxHeartbeats 16000000
namespace Go.Proofs.YtjaldknfeojjkaaGreat
open Go.RowKit Go.MapKept
open Go.ChangeMaps (setBlock)
section
variable {P:Program} {md:Region.Mode} {l:List Oper} {Q:Exit->Act->World->Prop} {S:World->Prop} {k:Nat}
theorem mtwo (i j:Nat) {oi oj:Oper} {fuel:Nat} {listed:Array Bool} {a:Act} {w:World} (hi:l[i]?=some oi) (hj:l[j]?=some oj) (hr:Region.ready md l.toArray listed=[i,j])
  (h1:∀ K':Act->World->Prop,Shut (∀ a w,S w->(S w->EndsMk P md l Q S k fuel (listed.setIfInBounds i true) a w)->K' a w)->if Region.wanted oi (yielded l.toArray a.tmps)=true then Oper.wp P oi a w K' Q else K' (a.put oi.dst undef) w)
  (h2:∀ K':Act->World->Prop,Shut (∀ a w,S w->(S w->EndsMk P md l Q S k fuel (listed.setIfInBounds j true) a w)->K' a w)->if Region.wanted oj (yielded l.toArray a.tmps)=true then Oper.wp P oj a w K' Q else K' (a.put oj.dst undef) w) :
  EndsMk P md l Q S k (fuel+1) listed a w:=by
 refine ⟨fun h0=>(by rw [hr] at h0; cases h0),fun q hq=>?_⟩
 rw [hr] at hq
 rcases List.mem_cons.1 hq with rfl | hq
 ·exact wpOp_step (by simpa using hi) (fun K' hK=>h1 K' (fun a w hS hW=>hK a w ⟨fun _ _=>hS,hW hS⟩))
 ·obtain rfl:=List.mem_singleton.1 hq
  exact wpOp_step (by simpa using hj) (fun K' hK=>h2 K' (fun a w hS hW=>hK a w ⟨fun _ _=>hS,hW hS⟩))
theorem mthree (i j m:Nat) {oi oj om:Oper} {fuel:Nat} {listed:Array Bool} {a:Act} {w:World} (hi:l[i]?=some oi) (hj:l[j]?=some oj) (hm:l[m]?=some om) (hr:Region.ready md l.toArray listed=[i,j,m])
  (h1:∀ K':Act->World->Prop,Shut (∀ a w,S w->(S w->EndsMk P md l Q S k fuel (listed.setIfInBounds i true) a w)->K' a w)->if Region.wanted oi (yielded l.toArray a.tmps)=true then Oper.wp P oi a w K' Q else K' (a.put oi.dst undef) w)
  (h2:∀ K':Act->World->Prop,Shut (∀ a w,S w->(S w->EndsMk P md l Q S k fuel (listed.setIfInBounds j true) a w)->K' a w)->if Region.wanted oj (yielded l.toArray a.tmps)=true then Oper.wp P oj a w K' Q else K' (a.put oj.dst undef) w)
  (h3:∀ K':Act->World->Prop,Shut (∀ a w,S w->(S w->EndsMk P md l Q S k fuel (listed.setIfInBounds m true) a w)->K' a w)->if Region.wanted om (yielded l.toArray a.tmps)=true then Oper.wp P om a w K' Q else K' (a.put om.dst undef) w) :
  EndsMk P md l Q S k (fuel+1) listed a w:=by
 refine ⟨fun h0=>(by rw [hr] at h0; cases h0),fun q hq=>?_⟩
 rw [hr] at hq
 rcases List.mem_cons.1 hq with rfl | hq
 ·exact wpOp_step (by simpa using hi) (fun K' hK=>h1 K' (fun a w hS hW=>hK a w ⟨fun _ _=>hS,hW hS⟩))
 ·rcases List.mem_cons.1 hq with rfl | hq
  ·exact wpOp_step (by simpa using hj) (fun K' hK=>h2 K' (fun a w hS hW=>hK a w ⟨fun _ _=>hS,hW hS⟩))
  ·obtain rfl:=List.mem_singleton.1 hq
   exact wpOp_step (by simpa using hm) (fun K' hK=>h3 K' (fun a w hS hW=>hK a w ⟨fun _ _=>hS,hW hS⟩))
end
structure BoxN (w0 W:World) (s:Nat):Prop where
 box:BoxI W s false (.slice none 0 0)
 low:w0.heap.size<=s
theorem BoxN.new {w0 W:World} {s:Nat} (hl:w0.heap.size<=s) (h:BoxI W s false (.slice none 0 0)):BoxN w0 W s:=⟨h,hl⟩
theorem BoxN.keep {w0 W W':World} {s:Nat} (h:BoxN w0 W s) (hx:XF W W'):BoxN w0 W' s:=⟨h.box.ext hx id,h.low⟩
theorem floor_mk {z:Int} {d:Nat} (h:0<d):(mkRat z d).floor=z / (d:Int):=by
 have hd:(0:Rat)<(d:Rat):=by exact_mod_cast h
 have hdi:(0:Int)<(d:Int):=by omega
 have key:∀ x:Int,x<=(mkRat z d).floor↔x<=z / (d:Int):=fun x=>by
  rw [Rat.le_floor_iff,Int.le_ediv_iff_mul_le hdi,Rat.mkRat_eq_div]
  rw [<- Rat.not_lt,<- Int.not_lt,Rat.div_lt_iff hd,<- Rat.intCast_natCast,<- Rat.intCast_mul,Rat.intCast_lt_intCast]
 exact Int.le_antisymm ((key _).1 (Int.le_refl _)) ((key _).2 (Int.le_refl _))
theorem floor_len {q:Rat} {L:Nat} (h:Sz q L):(dg q.floor.natAbs).length<=L+1:=by
 rw [Rat.floor_def]
 exact ediv_len (by have:=q.den_pos; omega) h.1
theorem rfloor_any (w:World) (v:Value) (q:Rat) (L:Nat) (h:Rrat w v q L) (h0:1<=L) (hL:L<=4194304) :
  Calls Tryz.prog 120 #[v] w (IntPost w q.floor):=by
 obtain ⟨n1,a1,l1,c1,x1,y1,k1,l,d,rfl,hr,hd,hm,hdl,hq⟩:=h.open
 clear hm
 have HDn:=bH (fun W (hW:XF w W)=>den_any W _ n1 a1 l1 c1 x1 y1 k1 d L rfl (hd.keep hW) hdl (by omega) h0)
 have HFl:=bH (fun W (hW:XF w W) u (hu:Rint W u ((dn (vl d):Nat):Int) L)=>floor_any W _ u _ _ L (hr.keep hW) hu (by have:=dn_pos (vl d); omega) (by omega))
 unfold FloorPost at HFl
 rw [<- floor_mk (dn_pos _),<- hq] at HFl
 clear hr hd hdl hq h
 generalize q.floor=z at *
 generalize ((dn (vl d):Nat):Int)=D at *
 generalize sg n1 (vl l) - z*D=y at *
 go_enter Tryz.func120,Tryz.ntmps120
 go_upto_region 0 with fail
 go_cut [1,2] (fun v1 v2 wx=>∃ b1 r,v1=.pointer (some ⟨b1,0,none⟩)/\v2=.pointer (some ⟨r,0,none⟩)/\BoxR wx b1 n1 (.slice a1 l1 c1) (.slice x1 y1 k1)/\BoxI wx r false (.slice none 0 0)/\¬ b1=r/\w.heap.size<=r/\XF w wx)
 case first =>
  go_wp2
  go_meet
  exact ⟨_,_,rfl,rfl,(boxR_new rfl n1 a1 l1 c1 x1 y1 k1).alloc _,boxI_new (by simp) false none 0 0,(by omega),(by omega),((Ext.refl _ w).alloc _).alloc _⟩
 case rest =>
  obtain ⟨b1,r,rfl,rfl,hb1,hrb,i1,hle,hx⟩:=hcut
  obtain ⟨wq,rfl⟩:∃ x,x=wc:=⟨_,rfl⟩
  have HB:=bH (bI hb1 (bI hrb hx))
  clear hb1 hrb hx
  replace HDn:=bH (fun W (hW:XF wq W)=>HDn.out W (HB.out.2.2.trans hW))
  replace HFl:=bH (fun W (hW:XF wq W)=>HFl.out W (HB.out.2.2.trans hW))
  have b0:=cq HB.out.1.facts.1
  have b1':=cq HB.out.1.facts.2.1
  have b2:=cq HB.out.1.facts.2.2.1
  go_upto_region 1 with fail
  go_cut [3] (fun v3 wx=>∃ s9 ng qo qn qc,v3=.pointer (some ⟨s9,0,none⟩)/\BoxI wx s9 ng (.slice qo qn qc)/\IsInt wx (.agg #[.bool ng,.slice qo qn qc]) z/\XF wq wx)
  case first =>
   refine mbegin 11 (XF wq) (by kernel_rfl) ((Ext.refl _ wq).drew) (fun hHeld=>?_)
   refine mu 0 (h:=(mu 1 (h:=(mu 2 (h:=?_)))))
   (try go_frame)
   refine mthree 3 9 10 rfl rfl rfl (by kernel_rfl) (fun K hK=>?_) (fun K hK=>?_) (fun K hK=>?_)
   ·go_simp
    go_at_call 133
    with_reducible refine (HDn.out _ ((Ext.refl _ wq).drew)).mono ?_
    rintro r0 u0 ⟨v3,rfl,h3,hy⟩
    have HV3:=bH h3
    clear h3
    replace hy:=(Ext.refl (fun _=>False) wq).drew.trans hy
    have hx0:XF wq u0:=hy
    clear hy
    refine hK.out _ _ (hx0) (fun hHeld=>?_)
    clear hK K
    (try go_frame)
    refine mthree 4 9 10 rfl rfl rfl (by kernel_rfl) (fun K hK=>?_) (fun K hK=>?_) (fun K hK=>?_)
    ·go_simp
     go_at_call 174
     with_reducible refine (HFl.out _ (hx0) _ HV3.out).mono ?_
     rintro r1 u1 ⟨q4,m4,rfl,h4,hm4,hy⟩
     obtain ⟨ng,qo,qn,qc,rfl⟩:=h4.shape
     obtain ⟨mg,mo,mn,mc,rfl⟩:=hm4.shape
     have HQ4:=bH h4
     have HM4:=bH hm4
     clear h4 hm4
     replace HV3:=bH (HV3.out.keep hy)
     have hx1:XF wq u1:=hx0.trans hy
     clear hy
     refine hK.out _ _ (hx1) (fun hHeld=>?_)
     clear hK K
     (try go_frame)
     refine mu 5 (h:=(mu 6 (h:=(mf 7 (h:=(mf 8 (h:=?_)))))))
     (try go_frame)
     refine mtwo 9 10 rfl rfl (by kernel_rfl) (fun K hK=>?_) (fun K hK=>?_)
     ·go_simp
      have hy:XF u1 ((u1.alloc (.cells #[.bool false,.slice none 0 0] 62))):=((Ext.refl (fun _=>False) u1).alloc (.cells #[.bool false,.slice none 0 0] 62))
      have HO9:=bH (BoxN.new (w0:=wq) (W:=(u1.alloc (.cells #[.bool false,.slice none 0 0] 62))) hx1.size (show BoxI ((u1.alloc (.cells #[.bool false,.slice none 0 0] 62))) u1.heap.size false (.slice none 0 0) from boxI_new (W:=u1) rfl false none 0 0))
      have hx2:XF wq ((u1.alloc (.cells #[.bool false,.slice none 0 0] 62))):=hx1.trans hy
      replace HV3:=bH (HV3.out.keep hy)
      replace HQ4:=bH (HQ4.out.keep hy)
      replace HM4:=bH (HM4.out.keep hy)
      clear hy
      generalize (u1.alloc (.cells #[.bool false,.slice none 0 0] 62))=u2 at *
      generalize u1.heap.size=s9 at *
      refine hK.out _ _ (hx2) (fun hHeld=>?_)
      clear hK K
      (try go_frame)
      refine mst 10 (h:=fun K hK=>?_)
      go_simp
      have hy:XF u2 ((u2.alloc (.cells #[.bool false,.slice none 0 0] 62))):=((Ext.refl (fun _=>False) u2).alloc (.cells #[.bool false,.slice none 0 0] 62))
      have HO10:=bH (BoxN.new (w0:=wq) (W:=(u2.alloc (.cells #[.bool false,.slice none 0 0] 62))) hx2.size (show BoxI ((u2.alloc (.cells #[.bool false,.slice none 0 0] 62))) u2.heap.size false (.slice none 0 0) from boxI_new (W:=u2) rfl false none 0 0))
      have HNE:=bH (show s9≠u2.heap.size from Nat.ne_of_lt HO9.out.box.lt)
      have hx3:XF wq ((u2.alloc (.cells #[.bool false,.slice none 0 0] 62))):=hx2.trans hy
      replace HV3:=bH (HV3.out.keep hy)
      replace HQ4:=bH (HQ4.out.keep hy)
      replace HM4:=bH (HM4.out.keep hy)
      replace HO9:=bH (HO9.out.keep hy)
      clear hy
      generalize (u2.alloc (.cells #[.bool false,.slice none 0 0] 62))=u3 at *
      generalize u2.heap.size=s10 at *
      refine hK.out _ _ (hx3) (fun hHeld=>?_)
      clear hK K
      (try go_frame)
      obtain ⟨c0,c1,c2,c3⟩:=HO9.out.box.facts
      obtain ⟨d0,d1,d2,d3⟩:=HO10.out.box.facts
      refine ml 11 (h:=fun K hK=>?_)
      go_simp
      refine hK.out _ _ ?_
      clear hK K
      (try go_frame)
      have hp9:=HO9.out.box.put (neg:=ng) (no_int qo qn qc)
      obtain ⟨e0,e1,e2,e3⟩:=(HO10.out.box.ext hp9.ext (fun e=>HNE.out e.symm)).facts
      refine ml 12 (h:=fun K hK=>?_)
      go_simp
      refine hK.out _ _ ?_
      clear hK K
      (try go_frame)
      have hp9:=HO9.out.box.put (neg:=ng) (no_int qo qn qc)
      obtain ⟨e0,e1,e2,e3⟩:=(HO10.out.box.ext hp9.ext (fun e=>HNE.out e.symm)).facts
      refine ml 13 (h:=fun K hK=>?_)
      go_simp
      refine hK.out _ _ ?_
      clear hK K
      (try go_frame)
      refine mdone (by kernel_rfl) ?_ _
      have hp10:=(HO10.out.box.ext hp9.ext (fun e=>HNE.out e.symm)).put (neg:=mg) (no_int mo mn mc)
      go_wp2
      go_meet
      exact ⟨s9,ng,qo,qn,qc,rfl,hp9.box.ext hp10.ext HNE.out,hp10.int (hp9.int HQ4.out),(hx3.own hp9.ext (fun k e=>by rw [e]; exact HO9.out.low)).own hp10.ext (fun k e=>by rw [e]; exact HO10.out.low)⟩
     ·go_simp
      have hy:XF u1 ((u1.alloc (.cells #[.bool false,.slice none 0 0] 62))):=((Ext.refl (fun _=>False) u1).alloc (.cells #[.bool false,.slice none 0 0] 62))
      have HO10:=bH (BoxN.new (w0:=wq) (W:=(u1.alloc (.cells #[.bool false,.slice none 0 0] 62))) hx1.size (show BoxI ((u1.alloc (.cells #[.bool false,.slice none 0 0] 62))) u1.heap.size false (.slice none 0 0) from boxI_new (W:=u1) rfl false none 0 0))
      have hx2:XF wq ((u1.alloc (.cells #[.bool false,.slice none 0 0] 62))):=hx1.trans hy
      replace HV3:=bH (HV3.out.keep hy)
      replace HQ4:=bH (HQ4.out.keep hy)
      replace HM4:=bH (HM4.out.keep hy)
      clear hy
      generalize (u1.alloc (.cells #[.bool false,.slice none 0 0] 62))=u2 at *
      generalize u1.heap.size=s10 at *
      refine hK.out _ _ (hx2) (fun hHeld=>?_)
      clear hK K
      (try go_frame)
      refine mst 9 (h:=fun K hK=>?_)
      go_simp
      have hy:XF u2 ((u2.alloc (.cells #[.bool false,.slice none 0 0] 62))):=((Ext.refl (fun _=>False) u2).alloc (.cells #[.bool false,.slice none 0 0] 62))
      have HO9:=bH (BoxN.new (w0:=wq) (W:=(u2.alloc (.cells #[.bool false,.slice none 0 0] 62))) hx2.size (show BoxI ((u2.alloc (.cells #[.bool false,.slice none 0 0] 62))) u2.heap.size false (.slice none 0 0) from boxI_new (W:=u2) rfl false none 0 0))
      have HNE:=bH (show s10≠u2.heap.size from Nat.ne_of_lt HO10.out.box.lt)
      have hx3:XF wq ((u2.alloc (.cells #[.bool false,.slice none 0 0] 62))):=hx2.trans hy
      replace HV3:=bH (HV3.out.keep hy)
      replace HQ4:=bH (HQ4.out.keep hy)
      replace HM4:=bH (HM4.out.keep hy)
      replace HO10:=bH (HO10.out.keep hy)
      clear hy
      generalize (u2.alloc (.cells #[.bool false,.slice none 0 0] 62))=u3 at *
      generalize u2.heap.size=s9 at *
      replace HNE:=bH (Ne.symm HNE.out)
      refine hK.out _ _ (hx3) (fun hHeld=>?_)
      clear hK K
      (try go_frame)
      obtain ⟨c0,c1,c2,c3⟩:=HO9.out.box.facts
      obtain ⟨d0,d1,d2,d3⟩:=HO10.out.box.facts
      refine ml 11 (h:=fun K hK=>?_)
      go_simp
      refine hK.out _ _ ?_
      clear hK K
      (try go_frame)
      have hp9:=HO9.out.box.put (neg:=ng) (no_int qo qn qc)
      obtain ⟨e0,e1,e2,e3⟩:=(HO10.out.box.ext hp9.ext (fun e=>HNE.out e.symm)).facts
      refine ml 12 (h:=fun K hK=>?_)
      go_simp
      refine hK.out _ _ ?_
      clear hK K
      (try go_frame)
      have hp9:=HO9.out.box.put (neg:=ng) (no_int qo qn qc)
      obtain ⟨e0,e1,e2,e3⟩:=(HO10.out.box.ext hp9.ext (fun e=>HNE.out e.symm)).facts
      refine ml 13 (h:=fun K hK=>?_)
      go_simp
      refine hK.out _ _ ?_
      clear hK K
      (try go_frame)
      refine mdone (by kernel_rfl) ?_ _
      have hp10:=(HO10.out.box.ext hp9.ext (fun e=>HNE.out e.symm)).put (neg:=mg) (no_int mo mn mc)
      go_wp2
      go_meet
      exact ⟨s9,ng,qo,qn,qc,rfl,hp9.box.ext hp10.ext HNE.out,hp10.int (hp9.int HQ4.out),(hx3.own hp9.ext (fun k e=>by rw [e]; exact HO9.out.low)).own hp10.ext (fun k e=>by rw [e]; exact HO10.out.low)⟩
    ·go_simp
     have hy:XF u0 ((u0.alloc (.cells #[.bool false,.slice none 0 0] 62))):=((Ext.refl (fun _=>False) u0).alloc (.cells #[.bool false,.slice none 0 0] 62))
     have HO9:=bH (BoxN.new (w0:=wq) (W:=(u0.alloc (.cells #[.bool false,.slice none 0 0] 62))) hx0.size (show BoxI ((u0.alloc (.cells #[.bool false,.slice none 0 0] 62))) u0.heap.size false (.slice none 0 0) from boxI_new (W:=u0) rfl false none 0 0))
     have hx1:XF wq ((u0.alloc (.cells #[.bool false,.slice none 0 0] 62))):=hx0.trans hy
     replace HV3:=bH (HV3.out.keep hy)
     clear hy
     generalize (u0.alloc (.cells #[.bool false,.slice none 0 0] 62))=u1 at *
     generalize u0.heap.size=s9 at *
     refine hK.out _ _ (hx1) (fun hHeld=>?_)
     clear hK K
     (try go_frame)
     refine mtwo 4 10 rfl rfl (by kernel_rfl) (fun K hK=>?_) (fun K hK=>?_)
     ·go_simp
      go_at_call 174
      with_reducible refine (HFl.out _ (hx1) _ HV3.out).mono ?_
      rintro r2 u2 ⟨q4,m4,rfl,h4,hm4,hy⟩
      obtain ⟨ng,qo,qn,qc,rfl⟩:=h4.shape
      obtain ⟨mg,mo,mn,mc,rfl⟩:=hm4.shape
      have HQ4:=bH h4
      have HM4:=bH hm4
      clear h4 hm4
      replace HV3:=bH (HV3.out.keep hy)
      replace HO9:=bH (HO9.out.keep hy)
      have hx2:XF wq u2:=hx1.trans hy
      clear hy
      refine hK.out _ _ (hx2) (fun hHeld=>?_)
      clear hK K
      (try go_frame)
      refine mu 5 (h:=(mu 6 (h:=(mf 7 (h:=(mf 8 (h:=?_)))))))
      (try go_frame)
      refine mst 10 (h:=fun K hK=>?_)
      go_simp
      have hy:XF u2 ((u2.alloc (.cells #[.bool false,.slice none 0 0] 62))):=((Ext.refl (fun _=>False) u2).alloc (.cells #[.bool false,.slice none 0 0] 62))
      have HO10:=bH (BoxN.new (w0:=wq) (W:=(u2.alloc (.cells #[.bool false,.slice none 0 0] 62))) hx2.size (show BoxI ((u2.alloc (.cells #[.bool false,.slice none 0 0] 62))) u2.heap.size false (.slice none 0 0) from boxI_new (W:=u2) rfl false none 0 0))
      have HNE:=bH (show s9≠u2.heap.size from Nat.ne_of_lt HO9.out.box.lt)
      have hx3:XF wq ((u2.alloc (.cells #[.bool false,.slice none 0 0] 62))):=hx2.trans hy
      replace HV3:=bH (HV3.out.keep hy)
      replace HO9:=bH (HO9.out.keep hy)
      replace HQ4:=bH (HQ4.out.keep hy)
      replace HM4:=bH (HM4.out.keep hy)
      clear hy
      generalize (u2.alloc (.cells #[.bool false,.slice none 0 0] 62))=u3 at *
      generalize u2.heap.size=s10 at *
      refine hK.out _ _ (hx3) (fun hHeld=>?_)
      clear hK K
      (try go_frame)
      obtain ⟨c0,c1,c2,c3⟩:=HO9.out.box.facts
      obtain ⟨d0,d1,d2,d3⟩:=HO10.out.box.facts
      refine ml 11 (h:=fun K hK=>?_)
      go_simp
      refine hK.out _ _ ?_
      clear hK K
      (try go_frame)
      have hp9:=HO9.out.box.put (neg:=ng) (no_int qo qn qc)
      obtain ⟨e0,e1,e2,e3⟩:=(HO10.out.box.ext hp9.ext (fun e=>HNE.out e.symm)).facts
      refine ml 12 (h:=fun K hK=>?_)
      go_simp
      refine hK.out _ _ ?_
      clear hK K
      (try go_frame)
      have hp9:=HO9.out.box.put (neg:=ng) (no_int qo qn qc)
      obtain ⟨e0,e1,e2,e3⟩:=(HO10.out.box.ext hp9.ext (fun e=>HNE.out e.symm)).facts
      refine ml 13 (h:=fun K hK=>?_)
      go_simp
      refine hK.out _ _ ?_
      clear hK K
      (try go_frame)
      refine mdone (by kernel_rfl) ?_ _
      have hp10:=(HO10.out.box.ext hp9.ext (fun e=>HNE.out e.symm)).put (neg:=mg) (no_int mo mn mc)
      go_wp2
      go_meet
      exact ⟨s9,ng,qo,qn,qc,rfl,hp9.box.ext hp10.ext HNE.out,hp10.int (hp9.int HQ4.out),(hx3.own hp9.ext (fun k e=>by rw [e]; exact HO9.out.low)).own hp10.ext (fun k e=>by rw [e]; exact HO10.out.low)⟩
     ·go_simp
      have hy:XF u1 ((u1.alloc (.cells #[.bool false,.slice none 0 0] 62))):=((Ext.refl (fun _=>False) u1).alloc (.cells #[.bool false,.slice none 0 0] 62))
      have HO10:=bH (BoxN.new (w0:=wq) (W:=(u1.alloc (.cells #[.bool false,.slice none 0 0] 62))) hx1.size (show BoxI ((u1.alloc (.cells #[.bool false,.slice none 0 0] 62))) u1.heap.size false (.slice none 0 0) from boxI_new (W:=u1) rfl false none 0 0))
      have HNE:=bH (show s9≠u1.heap.size from Nat.ne_of_lt HO9.out.box.lt)
      have hx2:XF wq ((u1.alloc (.cells #[.bool false,.slice none 0 0] 62))):=hx1.trans hy
      replace HV3:=bH (HV3.out.keep hy)
      replace HO9:=bH (HO9.out.keep hy)
      clear hy
      generalize (u1.alloc (.cells #[.bool false,.slice none 0 0] 62))=u2 at *
      generalize u1.heap.size=s10 at *
      refine hK.out _ _ (hx2) (fun hHeld=>?_)
      clear hK K
      (try go_frame)
      refine mst 4 (h:=fun K hK=>?_)
      go_simp
      go_at_call 174
      with_reducible refine (HFl.out _ (hx2) _ HV3.out).mono ?_
      rintro r3 u3 ⟨q4,m4,rfl,h4,hm4,hy⟩
      obtain ⟨ng,qo,qn,qc,rfl⟩:=h4.shape
      obtain ⟨mg,mo,mn,mc,rfl⟩:=hm4.shape
      have HQ4:=bH h4
      have HM4:=bH hm4
      clear h4 hm4
      replace HV3:=bH (HV3.out.keep hy)
      replace HO9:=bH (HO9.out.keep hy)
      replace HO10:=bH (HO10.out.keep hy)
      have hx3:XF wq u3:=hx2.trans hy
      clear hy
      refine hK.out _ _ (hx3) (fun hHeld=>?_)
      clear hK K
      (try go_frame)
      refine mu 5 (h:=(mu 6 (h:=(mf 7 (h:=(mf 8 (h:=?_)))))))
      (try go_frame)
      obtain ⟨c0,c1,c2,c3⟩:=HO9.out.box.facts
      obtain ⟨d0,d1,d2,d3⟩:=HO10.out.box.facts
      refine ml 11 (h:=fun K hK=>?_)
      go_simp
      refine hK.out _ _ ?_
      clear hK K
      (try go_frame)
      have hp9:=HO9.out.box.put (neg:=ng) (no_int qo qn qc)
      obtain ⟨e0,e1,e2,e3⟩:=(HO10.out.box.ext hp9.ext (fun e=>HNE.out e.symm)).facts
      refine ml 12 (h:=fun K hK=>?_)
      go_simp
      refine hK.out _ _ ?_
      clear hK K
      (try go_frame)
      have hp9:=HO9.out.box.put (neg:=ng) (no_int qo qn qc)
      obtain ⟨e0,e1,e2,e3⟩:=(HO10.out.box.ext hp9.ext (fun e=>HNE.out e.symm)).facts
      refine ml 13 (h:=fun K hK=>?_)
      go_simp
      refine hK.out _ _ ?_
      clear hK K
      (try go_frame)
      refine mdone (by kernel_rfl) ?_ _
      have hp10:=(HO10.out.box.ext hp9.ext (fun e=>HNE.out e.symm)).put (neg:=mg) (no_int mo mn mc)
      go_wp2
      go_meet
      exact ⟨s9,ng,qo,qn,qc,rfl,hp9.box.ext hp10.ext HNE.out,hp10.int (hp9.int HQ4.out),(hx3.own hp9.ext (fun k e=>by rw [e]; exact HO9.out.low)).own hp10.ext (fun k e=>by rw [e]; exact HO10.out.low)⟩
    ·go_simp
     have hy:XF u0 ((u0.alloc (.cells #[.bool false,.slice none 0 0] 62))):=((Ext.refl (fun _=>False) u0).alloc (.cells #[.bool false,.slice none 0 0] 62))
     have HO10:=bH (BoxN.new (w0:=wq) (W:=(u0.alloc (.cells #[.bool false,.slice none 0 0] 62))) hx0.size (show BoxI ((u0.alloc (.cells #[.bool false,.slice none 0 0] 62))) u0.heap.size false (.slice none 0 0) from boxI_new (W:=u0) rfl false none 0 0))
     have hx1:XF wq ((u0.alloc (.cells #[.bool false,.slice none 0 0] 62))):=hx0.trans hy
     replace HV3:=bH (HV3.out.keep hy)
     clear hy
     generalize (u0.alloc (.cells #[.bool false,.slice none 0 0] 62))=u1 at *
     generalize u0.heap.size=s10 at *
     refine hK.out _ _ (hx1) (fun hHeld=>?_)
     clear hK K
     (try go_frame)
     refine mtwo 4 9 rfl rfl (by kernel_rfl) (fun K hK=>?_) (fun K hK=>?_)
     ·go_simp
      go_at_call 174
      with_reducible refine (HFl.out _ (hx1) _ HV3.out).mono ?_
      rintro r2 u2 ⟨q4,m4,rfl,h4,hm4,hy⟩
      obtain ⟨ng,qo,qn,qc,rfl⟩:=h4.shape
      obtain ⟨mg,mo,mn,mc,rfl⟩:=hm4.shape
      have HQ4:=bH h4
      have HM4:=bH hm4
      clear h4 hm4
      replace HV3:=bH (HV3.out.keep hy)
      replace HO10:=bH (HO10.out.keep hy)
      have hx2:XF wq u2:=hx1.trans hy
      clear hy
      refine hK.out _ _ (hx2) (fun hHeld=>?_)
      clear hK K
      (try go_frame)
      refine mu 5 (h:=(mu 6 (h:=(mf 7 (h:=(mf 8 (h:=?_)))))))
      (try go_frame)
      refine mst 9 (h:=fun K hK=>?_)
      go_simp
      have hy:XF u2 ((u2.alloc (.cells #[.bool false,.slice none 0 0] 62))):=((Ext.refl (fun _=>False) u2).alloc (.cells #[.bool false,.slice none 0 0] 62))
      have HO9:=bH (BoxN.new (w0:=wq) (W:=(u2.alloc (.cells #[.bool false,.slice none 0 0] 62))) hx2.size (show BoxI ((u2.alloc (.cells #[.bool false,.slice none 0 0] 62))) u2.heap.size false (.slice none 0 0) from boxI_new (W:=u2) rfl false none 0 0))
      have HNE:=bH (show s10≠u2.heap.size from Nat.ne_of_lt HO10.out.box.lt)
      have hx3:XF wq ((u2.alloc (.cells #[.bool false,.slice none 0 0] 62))):=hx2.trans hy
      replace HV3:=bH (HV3.out.keep hy)
      replace HO10:=bH (HO10.out.keep hy)
      replace HQ4:=bH (HQ4.out.keep hy)
      replace HM4:=bH (HM4.out.keep hy)
      clear hy
      generalize (u2.alloc (.cells #[.bool false,.slice none 0 0] 62))=u3 at *
      generalize u2.heap.size=s9 at *
      replace HNE:=bH (Ne.symm HNE.out)
      refine hK.out _ _ (hx3) (fun hHeld=>?_)
      clear hK K
      (try go_frame)
      obtain ⟨c0,c1,c2,c3⟩:=HO9.out.box.facts
      obtain ⟨d0,d1,d2,d3⟩:=HO10.out.box.facts
      refine ml 11 (h:=fun K hK=>?_)
      go_simp
      refine hK.out _ _ ?_
      clear hK K
      (try go_frame)
      have hp9:=HO9.out.box.put (neg:=ng) (no_int qo qn qc)
      obtain ⟨e0,e1,e2,e3⟩:=(HO10.out.box.ext hp9.ext (fun e=>HNE.out e.symm)).facts
      refine ml 12 (h:=fun K hK=>?_)
      go_simp
      refine hK.out _ _ ?_
      clear hK K
      (try go_frame)
      have hp9:=HO9.out.box.put (neg:=ng) (no_int qo qn qc)
      obtain ⟨e0,e1,e2,e3⟩:=(HO10.out.box.ext hp9.ext (fun e=>HNE.out e.symm)).facts
      refine ml 13 (h:=fun K hK=>?_)
      go_simp
      refine hK.out _ _ ?_
      clear hK K
      (try go_frame)
      refine mdone (by kernel_rfl) ?_ _
      have hp10:=(HO10.out.box.ext hp9.ext (fun e=>HNE.out e.symm)).put (neg:=mg) (no_int mo mn mc)
      go_wp2
      go_meet
      exact ⟨s9,ng,qo,qn,qc,rfl,hp9.box.ext hp10.ext HNE.out,hp10.int (hp9.int HQ4.out),(hx3.own hp9.ext (fun k e=>by rw [e]; exact HO9.out.low)).own hp10.ext (fun k e=>by rw [e]; exact HO10.out.low)⟩
     ·go_simp
      have hy:XF u1 ((u1.alloc (.cells #[.bool false,.slice none 0 0] 62))):=((Ext.refl (fun _=>False) u1).alloc (.cells #[.bool false,.slice none 0 0] 62))
      have HO9:=bH (BoxN.new (w0:=wq) (W:=(u1.alloc (.cells #[.bool false,.slice none 0 0] 62))) hx1.size (show BoxI ((u1.alloc (.cells #[.bool false,.slice none 0 0] 62))) u1.heap.size false (.slice none 0 0) from boxI_new (W:=u1) rfl false none 0 0))
      have HNE:=bH (show s10≠u1.heap.size from Nat.ne_of_lt HO10.out.box.lt)
      have hx2:XF wq ((u1.alloc (.cells #[.bool false,.slice none 0 0] 62))):=hx1.trans hy
      replace HV3:=bH (HV3.out.keep hy)
      replace HO10:=bH (HO10.out.keep hy)
      clear hy
      generalize (u1.alloc (.cells #[.bool false,.slice none 0 0] 62))=u2 at *
      generalize u1.heap.size=s9 at *
      replace HNE:=bH (Ne.symm HNE.out)
      refine hK.out _ _ (hx2) (fun hHeld=>?_)
      clear hK K
      (try go_frame)
      refine mst 4 (h:=fun K hK=>?_)
      go_simp
      go_at_call 174
      with_reducible refine (HFl.out _ (hx2) _ HV3.out).mono ?_
      rintro r3 u3 ⟨q4,m4,rfl,h4,hm4,hy⟩
      obtain ⟨ng,qo,qn,qc,rfl⟩:=h4.shape
      obtain ⟨mg,mo,mn,mc,rfl⟩:=hm4.shape
      have HQ4:=bH h4
      have HM4:=bH hm4
      clear h4 hm4
      replace HV3:=bH (HV3.out.keep hy)
      replace HO10:=bH (HO10.out.keep hy)
      replace HO9:=bH (HO9.out.keep hy)
      have hx3:XF wq u3:=hx2.trans hy
      clear hy
      refine hK.out _ _ (hx3) (fun hHeld=>?_)
      clear hK K
      (try go_frame)
      refine mu 5 (h:=(mu 6 (h:=(mf 7 (h:=(mf 8 (h:=?_)))))))
      (try go_frame)
      obtain ⟨c0,c1,c2,c3⟩:=HO9.out.box.facts
      obtain ⟨d0,d1,d2,d3⟩:=HO10.out.box.facts
      refine ml 11 (h:=fun K hK=>?_)
      go_simp
      refine hK.out _ _ ?_
      clear hK K
      (try go_frame)
      have hp9:=HO9.out.box.put (neg:=ng) (no_int qo qn qc)
      obtain ⟨e0,e1,e2,e3⟩:=(HO10.out.box.ext hp9.ext (fun e=>HNE.out e.symm)).facts
      refine ml 12 (h:=fun K hK=>?_)
      go_simp
      refine hK.out _ _ ?_
      clear hK K
      (try go_frame)
      have hp9:=HO9.out.box.put (neg:=ng) (no_int qo qn qc)
      obtain ⟨e0,e1,e2,e3⟩:=(HO10.out.box.ext hp9.ext (fun e=>HNE.out e.symm)).facts
      refine ml 13 (h:=fun K hK=>?_)
      go_simp
      refine hK.out _ _ ?_
      clear hK K
      (try go_frame)
      refine mdone (by kernel_rfl) ?_ _
      have hp10:=(HO10.out.box.ext hp9.ext (fun e=>HNE.out e.symm)).put (neg:=mg) (no_int mo mn mc)
      go_wp2
      go_meet
      exact ⟨s9,ng,qo,qn,qc,rfl,hp9.box.ext hp10.ext HNE.out,hp10.int (hp9.int HQ4.out),(hx3.own hp9.ext (fun k e=>by rw [e]; exact HO9.out.low)).own hp10.ext (fun k e=>by rw [e]; exact HO10.out.low)⟩
   ·go_simp
    have hy:XF wq ((wq.alloc (.cells #[.bool false,.slice none 0 0] 62)).drew):=((Ext.refl (fun _=>False) wq).alloc (.cells #[.bool false,.slice none 0 0] 62)).drew
    have HO9:=bH (BoxN.new (w0:=wq) (W:=(wq.alloc (.cells #[.bool false,.slice none 0 0] 62)).drew) (Ext.refl (fun _=>False) wq).size (show BoxI ((wq.alloc (.cells #[.bool false,.slice none 0 0] 62)).drew) wq.heap.size false (.slice none 0 0) from boxI_new (W:=wq) rfl false none 0 0))
    have hx0:XF wq ((wq.alloc (.cells #[.bool false,.slice none 0 0] 62)).drew):=hy
    clear hy
    generalize (wq.alloc (.cells #[.bool false,.slice none 0 0] 62)).drew=u0 at *
    generalize wq.heap.size=s9 at *
    refine hK.out _ _ (hx0) (fun hHeld=>?_)
    clear hK K
    (try go_frame)
    refine mtwo 3 10 rfl rfl (by kernel_rfl) (fun K hK=>?_) (fun K hK=>?_)
    ·go_simp
     go_at_call 133
     with_reducible refine (HDn.out _ (hx0)).mono ?_
     rintro r1 u1 ⟨v3,rfl,h3,hy⟩
     have HV3:=bH h3
     clear h3
     replace HO9:=bH (HO9.out.keep hy)
     have hx1:XF wq u1:=hx0.trans hy
     clear hy
     refine hK.out _ _ (hx1) (fun hHeld=>?_)
     clear hK K
     (try go_frame)
     refine mtwo 4 10 rfl rfl (by kernel_rfl) (fun K hK=>?_) (fun K hK=>?_)
     ·go_simp
      go_at_call 174
      with_reducible refine (HFl.out _ (hx1) _ HV3.out).mono ?_
      rintro r2 u2 ⟨q4,m4,rfl,h4,hm4,hy⟩
      obtain ⟨ng,qo,qn,qc,rfl⟩:=h4.shape
      obtain ⟨mg,mo,mn,mc,rfl⟩:=hm4.shape
      have HQ4:=bH h4
      have HM4:=bH hm4
      clear h4 hm4
      replace HO9:=bH (HO9.out.keep hy)
      replace HV3:=bH (HV3.out.keep hy)
      have hx2:XF wq u2:=hx1.trans hy
      clear hy
      refine hK.out _ _ (hx2) (fun hHeld=>?_)
      clear hK K
      (try go_frame)
      refine mu 5 (h:=(mu 6 (h:=(mf 7 (h:=(mf 8 (h:=?_)))))))
      (try go_frame)
      refine mst 10 (h:=fun K hK=>?_)
      go_simp
      have hy:XF u2 ((u2.alloc (.cells #[.bool false,.slice none 0 0] 62))):=((Ext.refl (fun _=>False) u2).alloc (.cells #[.bool false,.slice none 0 0] 62))
      have HO10:=bH (BoxN.new (w0:=wq) (W:=(u2.alloc (.cells #[.bool false,.slice none 0 0] 62))) hx2.size (show BoxI ((u2.alloc (.cells #[.bool false,.slice none 0 0] 62))) u2.heap.size false (.slice none 0 0) from boxI_new (W:=u2) rfl false none 0 0))
      have HNE:=bH (show s9≠u2.heap.size from Nat.ne_of_lt HO9.out.box.lt)
      have hx3:XF wq ((u2.alloc (.cells #[.bool false,.slice none 0 0] 62))):=hx2.trans hy
      replace HO9:=bH (HO9.out.keep hy)
      replace HV3:=bH (HV3.out.keep hy)
      replace HQ4:=bH (HQ4.out.keep hy)
      replace HM4:=bH (HM4.out.keep hy)
      clear hy
      generalize (u2.alloc (.cells #[.bool false,.slice none 0 0] 62))=u3 at *
      generalize u2.heap.size=s10 at *
      refine hK.out _ _ (hx3) (fun hHeld=>?_)
      clear hK K
      (try go_frame)
      obtain ⟨c0,c1,c2,c3⟩:=HO9.out.box.facts
      obtain ⟨d0,d1,d2,d3⟩:=HO10.out.box.facts
      refine ml 11 (h:=fun K hK=>?_)
      go_simp
      refine hK.out _ _ ?_
      clear hK K
      (try go_frame)
      have hp9:=HO9.out.box.put (neg:=ng) (no_int qo qn qc)
      obtain ⟨e0,e1,e2,e3⟩:=(HO10.out.box.ext hp9.ext (fun e=>HNE.out e.symm)).facts
      refine ml 12 (h:=fun K hK=>?_)
      go_simp
      refine hK.out _ _ ?_
      clear hK K
      (try go_frame)
      have hp9:=HO9.out.box.put (neg:=ng) (no_int qo qn qc)
      obtain ⟨e0,e1,e2,e3⟩:=(HO10.out.box.ext hp9.ext (fun e=>HNE.out e.symm)).facts
      refine ml 13 (h:=fun K hK=>?_)
      go_simp
      refine hK.out _ _ ?_
      clear hK K
      (try go_frame)
      refine mdone (by kernel_rfl) ?_ _
      have hp10:=(HO10.out.box.ext hp9.ext (fun e=>HNE.out e.symm)).put (neg:=mg) (no_int mo mn mc)
      go_wp2
      go_meet
      exact ⟨s9,ng,qo,qn,qc,rfl,hp9.box.ext hp10.ext HNE.out,hp10.int (hp9.int HQ4.out),(hx3.own hp9.ext (fun k e=>by rw [e]; exact HO9.out.low)).own hp10.ext (fun k e=>by rw [e]; exact HO10.out.low)⟩
     ·go_simp
      have hy:XF u1 ((u1.alloc (.cells #[.bool false,.slice none 0 0] 62))):=((Ext.refl (fun _=>False) u1).alloc (.cells #[.bool false,.slice none 0 0] 62))
      have HO10:=bH (BoxN.new (w0:=wq) (W:=(u1.alloc (.cells #[.bool false,.slice none 0 0] 62))) hx1.size (show BoxI ((u1.alloc (.cells #[.bool false,.slice none 0 0] 62))) u1.heap.size false (.slice none 0 0) from boxI_new (W:=u1) rfl false none 0 0))
      have HNE:=bH (show s9≠u1.heap.size from Nat.ne_of_lt HO9.out.box.lt)
      have hx2:XF wq ((u1.alloc (.cells #[.bool false,.slice none 0 0] 62))):=hx1.trans hy
      replace HO9:=bH (HO9.out.keep hy)
      replace HV3:=bH (HV3.out.keep hy)
      clear hy
      generalize (u1.alloc (.cells #[.bool false,.slice none 0 0] 62))=u2 at *
      generalize u1.heap.size=s10 at *
      refine hK.out _ _ (hx2) (fun hHeld=>?_)
      clear hK K
      (try go_frame)
      refine mst 4 (h:=fun K hK=>?_)
      go_simp
      go_at_call 174
      with_reducible refine (HFl.out _ (hx2) _ HV3.out).mono ?_
      rintro r3 u3 ⟨q4,m4,rfl,h4,hm4,hy⟩
      obtain ⟨ng,qo,qn,qc,rfl⟩:=h4.shape
      obtain ⟨mg,mo,mn,mc,rfl⟩:=hm4.shape
      have HQ4:=bH h4
      have HM4:=bH hm4
      clear h4 hm4
      replace HO9:=bH (HO9.out.keep hy)
      replace HV3:=bH (HV3.out.keep hy)
      replace HO10:=bH (HO10.out.keep hy)
      have hx3:XF wq u3:=hx2.trans hy
      clear hy
      refine hK.out _ _ (hx3) (fun hHeld=>?_)
      clear hK K
      (try go_frame)
      refine mu 5 (h:=(mu 6 (h:=(mf 7 (h:=(mf 8 (h:=?_)))))))
      (try go_frame)
      obtain ⟨c0,c1,c2,c3⟩:=HO9.out.box.facts
      obtain ⟨d0,d1,d2,d3⟩:=HO10.out.box.facts
      refine ml 11 (h:=fun K hK=>?_)
      go_simp
      refine hK.out _ _ ?_
      clear hK K
      (try go_frame)
      have hp9:=HO9.out.box.put (neg:=ng) (no_int qo qn qc)
      obtain ⟨e0,e1,e2,e3⟩:=(HO10.out.box.ext hp9.ext (fun e=>HNE.out e.symm)).facts
      refine ml 12 (h:=fun K hK=>?_)
      go_simp
      refine hK.out _ _ ?_
      clear hK K
      (try go_frame)
      have hp9:=HO9.out.box.put (neg:=ng) (no_int qo qn qc)
      obtain ⟨e0,e1,e2,e3⟩:=(HO10.out.box.ext hp9.ext (fun e=>HNE.out e.symm)).facts
      refine ml 13 (h:=fun K hK=>?_)
      go_simp
      refine hK.out _ _ ?_
      clear hK K
      (try go_frame)
      refine mdone (by kernel_rfl) ?_ _
      have hp10:=(HO10.out.box.ext hp9.ext (fun e=>HNE.out e.symm)).put (neg:=mg) (no_int mo mn mc)
      go_wp2
      go_meet
      exact ⟨s9,ng,qo,qn,qc,rfl,hp9.box.ext hp10.ext HNE.out,hp10.int (hp9.int HQ4.out),(hx3.own hp9.ext (fun k e=>by rw [e]; exact HO9.out.low)).own hp10.ext (fun k e=>by rw [e]; exact HO10.out.low)⟩
    ·go_simp
     have hy:XF u0 ((u0.alloc (.cells #[.bool false,.slice none 0 0] 62))):=((Ext.refl (fun _=>False) u0).alloc (.cells #[.bool false,.slice none 0 0] 62))
     have HO10:=bH (BoxN.new (w0:=wq) (W:=(u0.alloc (.cells #[.bool false,.slice none 0 0] 62))) hx0.size (show BoxI ((u0.alloc (.cells #[.bool false,.slice none 0 0] 62))) u0.heap.size false (.slice none 0 0) from boxI_new (W:=u0) rfl false none 0 0))
     have HNE:=bH (show s9≠u0.heap.size from Nat.ne_of_lt HO9.out.box.lt)
     have hx1:XF wq ((u0.alloc (.cells #[.bool false,.slice none 0 0] 62))):=hx0.trans hy
     replace HO9:=bH (HO9.out.keep hy)
     clear hy
     generalize (u0.alloc (.cells #[.bool false,.slice none 0 0] 62))=u1 at *
     generalize u0.heap.size=s10 at *
     refine hK.out _ _ (hx1) (fun hHeld=>?_)
     clear hK K
     (try go_frame)
     refine mst 3 (h:=fun K hK=>?_)
     go_simp
     go_at_call 133
     with_reducible refine (HDn.out _ (hx1)).mono ?_
     rintro r2 u2 ⟨v3,rfl,h3,hy⟩
     have HV3:=bH h3
     clear h3
     replace HO9:=bH (HO9.out.keep hy)
     replace HO10:=bH (HO10.out.keep hy)
     have hx2:XF wq u2:=hx1.trans hy
     clear hy
     refine hK.out _ _ (hx2) (fun hHeld=>?_)
     clear hK K
     (try go_frame)
     refine mst 4 (h:=fun K hK=>?_)
     go_simp
     go_at_call 174
     with_reducible refine (HFl.out _ (hx2) _ HV3.out).mono ?_
     rintro r3 u3 ⟨q4,m4,rfl,h4,hm4,hy⟩
     obtain ⟨ng,qo,qn,qc,rfl⟩:=h4.shape
     obtain ⟨mg,mo,mn,mc,rfl⟩:=hm4.shape
     have HQ4:=bH h4
     have HM4:=bH hm4
     clear h4 hm4
     replace HO9:=bH (HO9.out.keep hy)
     replace HO10:=bH (HO10.out.keep hy)
     replace HV3:=bH (HV3.out.keep hy)
     have hx3:XF wq u3:=hx2.trans hy
     clear hy
     refine hK.out _ _ (hx3) (fun hHeld=>?_)
     clear hK K
     (try go_frame)
     refine mu 5 (h:=(mu 6 (h:=(mf 7 (h:=(mf 8 (h:=?_)))))))
     (try go_frame)
     obtain ⟨c0,c1,c2,c3⟩:=HO9.out.box.facts
     obtain ⟨d0,d1,d2,d3⟩:=HO10.out.box.facts
     refine ml 11 (h:=fun K hK=>?_)
     go_simp
     refine hK.out _ _ ?_
     clear hK K
     (try go_frame)
     have hp9:=HO9.out.box.put (neg:=ng) (no_int qo qn qc)
     obtain ⟨e0,e1,e2,e3⟩:=(HO10.out.box.ext hp9.ext (fun e=>HNE.out e.symm)).facts
     refine ml 12 (h:=fun K hK=>?_)
     go_simp
     refine hK.out _ _ ?_
     clear hK K
     (try go_frame)
     have hp9:=HO9.out.box.put (neg:=ng) (no_int qo qn qc)
     obtain ⟨e0,e1,e2,e3⟩:=(HO10.out.box.ext hp9.ext (fun e=>HNE.out e.symm)).facts
     refine ml 13 (h:=fun K hK=>?_)
     go_simp
     refine hK.out _ _ ?_
     clear hK K
     (try go_frame)
     refine mdone (by kernel_rfl) ?_ _
     have hp10:=(HO10.out.box.ext hp9.ext (fun e=>HNE.out e.symm)).put (neg:=mg) (no_int mo mn mc)
     go_wp2
     go_meet
     exact ⟨s9,ng,qo,qn,qc,rfl,hp9.box.ext hp10.ext HNE.out,hp10.int (hp9.int HQ4.out),(hx3.own hp9.ext (fun k e=>by rw [e]; exact HO9.out.low)).own hp10.ext (fun k e=>by rw [e]; exact HO10.out.low)⟩
   ·go_simp
    have hy:XF wq ((wq.alloc (.cells #[.bool false,.slice none 0 0] 62)).drew):=((Ext.refl (fun _=>False) wq).alloc (.cells #[.bool false,.slice none 0 0] 62)).drew
    have HO10:=bH (BoxN.new (w0:=wq) (W:=(wq.alloc (.cells #[.bool false,.slice none 0 0] 62)).drew) (Ext.refl (fun _=>False) wq).size (show BoxI ((wq.alloc (.cells #[.bool false,.slice none 0 0] 62)).drew) wq.heap.size false (.slice none 0 0) from boxI_new (W:=wq) rfl false none 0 0))
    have hx0:XF wq ((wq.alloc (.cells #[.bool false,.slice none 0 0] 62)).drew):=hy
    clear hy
    generalize (wq.alloc (.cells #[.bool false,.slice none 0 0] 62)).drew=u0 at *
    generalize wq.heap.size=s10 at *
    refine hK.out _ _ (hx0) (fun hHeld=>?_)
    clear hK K
    (try go_frame)
    refine mtwo 3 9 rfl rfl (by kernel_rfl) (fun K hK=>?_) (fun K hK=>?_)
    ·go_simp
     go_at_call 133
     with_reducible refine (HDn.out _ (hx0)).mono ?_
     rintro r1 u1 ⟨v3,rfl,h3,hy⟩
     have HV3:=bH h3
     clear h3
     replace HO10:=bH (HO10.out.keep hy)
     have hx1:XF wq u1:=hx0.trans hy
     clear hy
     refine hK.out _ _ (hx1) (fun hHeld=>?_)
     clear hK K
     (try go_frame)
     refine mtwo 4 9 rfl rfl (by kernel_rfl) (fun K hK=>?_) (fun K hK=>?_)
     ·go_simp
      go_at_call 174
      with_reducible refine (HFl.out _ (hx1) _ HV3.out).mono ?_
      rintro r2 u2 ⟨q4,m4,rfl,h4,hm4,hy⟩
      obtain ⟨ng,qo,qn,qc,rfl⟩:=h4.shape
      obtain ⟨mg,mo,mn,mc,rfl⟩:=hm4.shape
      have HQ4:=bH h4
      have HM4:=bH hm4
      clear h4 hm4
      replace HO10:=bH (HO10.out.keep hy)
      replace HV3:=bH (HV3.out.keep hy)
      have hx2:XF wq u2:=hx1.trans hy
      clear hy
      refine hK.out _ _ (hx2) (fun hHeld=>?_)
      clear hK K
      (try go_frame)
      refine mu 5 (h:=(mu 6 (h:=(mf 7 (h:=(mf 8 (h:=?_)))))))
      (try go_frame)
      refine mst 9 (h:=fun K hK=>?_)
      go_simp
      have hy:XF u2 ((u2.alloc (.cells #[.bool false,.slice none 0 0] 62))):=((Ext.refl (fun _=>False) u2).alloc (.cells #[.bool false,.slice none 0 0] 62))
      have HO9:=bH (BoxN.new (w0:=wq) (W:=(u2.alloc (.cells #[.bool false,.slice none 0 0] 62))) hx2.size (show BoxI ((u2.alloc (.cells #[.bool false,.slice none 0 0] 62))) u2.heap.size false (.slice none 0 0) from boxI_new (W:=u2) rfl false none 0 0))
      have HNE:=bH (show s10≠u2.heap.size from Nat.ne_of_lt HO10.out.box.lt)
      have hx3:XF wq ((u2.alloc (.cells #[.bool false,.slice none 0 0] 62))):=hx2.trans hy
      replace HO10:=bH (HO10.out.keep hy)
      replace HV3:=bH (HV3.out.keep hy)
      replace HQ4:=bH (HQ4.out.keep hy)
      replace HM4:=bH (HM4.out.keep hy)
      clear hy
      generalize (u2.alloc (.cells #[.bool false,.slice none 0 0] 62))=u3 at *
      generalize u2.heap.size=s9 at *
      replace HNE:=bH (Ne.symm HNE.out)
      refine hK.out _ _ (hx3) (fun hHeld=>?_)
      clear hK K
      (try go_frame)
      obtain ⟨c0,c1,c2,c3⟩:=HO9.out.box.facts
      obtain ⟨d0,d1,d2,d3⟩:=HO10.out.box.facts
      refine ml 11 (h:=fun K hK=>?_)
      go_simp
      refine hK.out _ _ ?_
      clear hK K
      (try go_frame)
      have hp9:=HO9.out.box.put (neg:=ng) (no_int qo qn qc)
      obtain ⟨e0,e1,e2,e3⟩:=(HO10.out.box.ext hp9.ext (fun e=>HNE.out e.symm)).facts
      refine ml 12 (h:=fun K hK=>?_)
      go_simp
      refine hK.out _ _ ?_
      clear hK K
      (try go_frame)
      have hp9:=HO9.out.box.put (neg:=ng) (no_int qo qn qc)
      obtain ⟨e0,e1,e2,e3⟩:=(HO10.out.box.ext hp9.ext (fun e=>HNE.out e.symm)).facts
      refine ml 13 (h:=fun K hK=>?_)
      go_simp
      refine hK.out _ _ ?_
      clear hK K
      (try go_frame)
      refine mdone (by kernel_rfl) ?_ _
      have hp10:=(HO10.out.box.ext hp9.ext (fun e=>HNE.out e.symm)).put (neg:=mg) (no_int mo mn mc)
      go_wp2
      go_meet
      exact ⟨s9,ng,qo,qn,qc,rfl,hp9.box.ext hp10.ext HNE.out,hp10.int (hp9.int HQ4.out),(hx3.own hp9.ext (fun k e=>by rw [e]; exact HO9.out.low)).own hp10.ext (fun k e=>by rw [e]; exact HO10.out.low)⟩
     ·go_simp
      have hy:XF u1 ((u1.alloc (.cells #[.bool false,.slice none 0 0] 62))):=((Ext.refl (fun _=>False) u1).alloc (.cells #[.bool false,.slice none 0 0] 62))
      have HO9:=bH (BoxN.new (w0:=wq) (W:=(u1.alloc (.cells #[.bool false,.slice none 0 0] 62))) hx1.size (show BoxI ((u1.alloc (.cells #[.bool false,.slice none 0 0] 62))) u1.heap.size false (.slice none 0 0) from boxI_new (W:=u1) rfl false none 0 0))
      have HNE:=bH (show s10≠u1.heap.size from Nat.ne_of_lt HO10.out.box.lt)
      have hx2:XF wq ((u1.alloc (.cells #[.bool false,.slice none 0 0] 62))):=hx1.trans hy
      replace HO10:=bH (HO10.out.keep hy)
      replace HV3:=bH (HV3.out.keep hy)
      clear hy
      generalize (u1.alloc (.cells #[.bool false,.slice none 0 0] 62))=u2 at *
      generalize u1.heap.size=s9 at *
      replace HNE:=bH (Ne.symm HNE.out)
      refine hK.out _ _ (hx2) (fun hHeld=>?_)
      clear hK K
      (try go_frame)
      refine mst 4 (h:=fun K hK=>?_)
      go_simp
      go_at_call 174
      with_reducible refine (HFl.out _ (hx2) _ HV3.out).mono ?_
      rintro r3 u3 ⟨q4,m4,rfl,h4,hm4,hy⟩
      obtain ⟨ng,qo,qn,qc,rfl⟩:=h4.shape
      obtain ⟨mg,mo,mn,mc,rfl⟩:=hm4.shape
      have HQ4:=bH h4
      have HM4:=bH hm4
      clear h4 hm4
      replace HO10:=bH (HO10.out.keep hy)
      replace HV3:=bH (HV3.out.keep hy)
      replace HO9:=bH (HO9.out.keep hy)
      have hx3:XF wq u3:=hx2.trans hy
      clear hy
      refine hK.out _ _ (hx3) (fun hHeld=>?_)
      clear hK K
      (try go_frame)
      refine mu 5 (h:=(mu 6 (h:=(mf 7 (h:=(mf 8 (h:=?_)))))))
      (try go_frame)
      obtain ⟨c0,c1,c2,c3⟩:=HO9.out.box.facts
      obtain ⟨d0,d1,d2,d3⟩:=HO10.out.box.facts
      refine ml 11 (h:=fun K hK=>?_)
      go_simp
      refine hK.out _ _ ?_
      clear hK K
      (try go_frame)
      have hp9:=HO9.out.box.put (neg:=ng) (no_int qo qn qc)
      obtain ⟨e0,e1,e2,e3⟩:=(HO10.out.box.ext hp9.ext (fun e=>HNE.out e.symm)).facts
      refine ml 12 (h:=fun K hK=>?_)
      go_simp
      refine hK.out _ _ ?_
      clear hK K
      (try go_frame)
      have hp9:=HO9.out.box.put (neg:=ng) (no_int qo qn qc)
      obtain ⟨e0,e1,e2,e3⟩:=(HO10.out.box.ext hp9.ext (fun e=>HNE.out e.symm)).facts
      refine ml 13 (h:=fun K hK=>?_)
      go_simp
      refine hK.out _ _ ?_
      clear hK K
      (try go_frame)
      refine mdone (by kernel_rfl) ?_ _
      have hp10:=(HO10.out.box.ext hp9.ext (fun e=>HNE.out e.symm)).put (neg:=mg) (no_int mo mn mc)
      go_wp2
      go_meet
      exact ⟨s9,ng,qo,qn,qc,rfl,hp9.box.ext hp10.ext HNE.out,hp10.int (hp9.int HQ4.out),(hx3.own hp9.ext (fun k e=>by rw [e]; exact HO9.out.low)).own hp10.ext (fun k e=>by rw [e]; exact HO10.out.low)⟩
    ·go_simp
     have hy:XF u0 ((u0.alloc (.cells #[.bool false,.slice none 0 0] 62))):=((Ext.refl (fun _=>False) u0).alloc (.cells #[.bool false,.slice none 0 0] 62))
     have HO9:=bH (BoxN.new (w0:=wq) (W:=(u0.alloc (.cells #[.bool false,.slice none 0 0] 62))) hx0.size (show BoxI ((u0.alloc (.cells #[.bool false,.slice none 0 0] 62))) u0.heap.size false (.slice none 0 0) from boxI_new (W:=u0) rfl false none 0 0))
     have HNE:=bH (show s10≠u0.heap.size from Nat.ne_of_lt HO10.out.box.lt)
     have hx1:XF wq ((u0.alloc (.cells #[.bool false,.slice none 0 0] 62))):=hx0.trans hy
     replace HO10:=bH (HO10.out.keep hy)
     clear hy
     generalize (u0.alloc (.cells #[.bool false,.slice none 0 0] 62))=u1 at *
     generalize u0.heap.size=s9 at *
     replace HNE:=bH (Ne.symm HNE.out)
     refine hK.out _ _ (hx1) (fun hHeld=>?_)
     clear hK K
     (try go_frame)
     refine mst 3 (h:=fun K hK=>?_)
     go_simp
     go_at_call 133
     with_reducible refine (HDn.out _ (hx1)).mono ?_
     rintro r2 u2 ⟨v3,rfl,h3,hy⟩
     have HV3:=bH h3
     clear h3
     replace HO10:=bH (HO10.out.keep hy)
     replace HO9:=bH (HO9.out.keep hy)
     have hx2:XF wq u2:=hx1.trans hy
     clear hy
     refine hK.out _ _ (hx2) (fun hHeld=>?_)
     clear hK K
     (try go_frame)
     refine mst 4 (h:=fun K hK=>?_)
     go_simp
     go_at_call 174
     with_reducible refine (HFl.out _ (hx2) _ HV3.out).mono ?_
     rintro r3 u3 ⟨q4,m4,rfl,h4,hm4,hy⟩
     obtain ⟨ng,qo,qn,qc,rfl⟩:=h4.shape
     obtain ⟨mg,mo,mn,mc,rfl⟩:=hm4.shape
     have HQ4:=bH h4
     have HM4:=bH hm4
     clear h4 hm4
     replace HO10:=bH (HO10.out.keep hy)
     replace HO9:=bH (HO9.out.keep hy)
     replace HV3:=bH (HV3.out.keep hy)
     have hx3:XF wq u3:=hx2.trans hy
     clear hy
     refine hK.out _ _ (hx3) (fun hHeld=>?_)
     clear hK K
     (try go_frame)
     refine mu 5 (h:=(mu 6 (h:=(mf 7 (h:=(mf 8 (h:=?_)))))))
     (try go_frame)
     obtain ⟨c0,c1,c2,c3⟩:=HO9.out.box.facts
     obtain ⟨d0,d1,d2,d3⟩:=HO10.out.box.facts
     refine ml 11 (h:=fun K hK=>?_)
     go_simp
     refine hK.out _ _ ?_
     clear hK K
     (try go_frame)
     have hp9:=HO9.out.box.put (neg:=ng) (no_int qo qn qc)
     obtain ⟨e0,e1,e2,e3⟩:=(HO10.out.box.ext hp9.ext (fun e=>HNE.out e.symm)).facts
     refine ml 12 (h:=fun K hK=>?_)
     go_simp
     refine hK.out _ _ ?_
     clear hK K
     (try go_frame)
     have hp9:=HO9.out.box.put (neg:=ng) (no_int qo qn qc)
     obtain ⟨e0,e1,e2,e3⟩:=(HO10.out.box.ext hp9.ext (fun e=>HNE.out e.symm)).facts
     refine ml 13 (h:=fun K hK=>?_)
     go_simp
     refine hK.out _ _ ?_
     clear hK K
     (try go_frame)
     refine mdone (by kernel_rfl) ?_ _
     have hp10:=(HO10.out.box.ext hp9.ext (fun e=>HNE.out e.symm)).put (neg:=mg) (no_int mo mn mc)
     go_wp2
     go_meet
     exact ⟨s9,ng,qo,qn,qc,rfl,hp9.box.ext hp10.ext HNE.out,hp10.int (hp9.int HQ4.out),(hx3.own hp9.ext (fun k e=>by rw [e]; exact HO9.out.low)).own hp10.ext (fun k e=>by rw [e]; exact HO10.out.low)⟩
  case rest =>
  obtain ⟨s9,ng,qo,qn,qc,rfl,hb9,hq9,hx9⟩:=hcut
  clear b0 b1' b2
  have hr9:=HB.out.2.1.ext hx9 id
  obtain ⟨d0,d1,d2,d3⟩:=hr9.facts
  obtain ⟨e0,e1,-⟩:=hb9.facts
  have hp:=hr9.put (neg:=ng) (no_int qo qn qc)
  have HR:=bH (bI (hp.int hq9) (bI ((HB.out.2.2.trans hx9).own hp.ext (fun k e=>by omega)) hp.box))
  clear hp hr9 hb9 hq9 hx9
  go_wp2
  generalize (wc.setCell ⟨r,0,none⟩ (.bool ng)).setCell ⟨r,1,none⟩ (.slice qo qn qc)=w20 at *
  obtain ⟨g0,g1,_⟩:=HR.out.2.2.facts
  exact bodyPost_ret (v:=.agg #[.bool ng,.slice qo qn qc]) (by simp [results,Tryz.results120,go_sem,g0,g1]) rfl ⟨_,rfl,HR.out.1,HR.out.2.1⟩
theorem rceil_any (w:World) (v:Value) (q:Rat) (L:Nat) (h:Rrat w v q L) (h0:1<=L) (hL:L<=4000000) :
  Calls Tryz.prog 114 #[v] w (IntPost w q.ceil):=by
 have hsz:=h.sz h0
 obtain ⟨n1,a1,l1,c1,x1,y1,k1,l,d,rfl,-,-,-,-,-⟩:=h.open
 have HN:=bH (fun W (hW:XF w W)=>rneg_any W _ q L (h.keep hW) h0 (by omega))
 have HF:=bH (fun W u (hu:IsRat W u (-q))=>rfloor_any W u (-q) L (hu.reads hsz.neg) h0 (by omega))
 have HI:=bH (fun W u (hu:IsInt W u ((-q).floor))=>ineg_any W u _ (L+1) (hu.reads (floor_len hsz.neg)) (by omega))
 rw [<- Rat.ceil_eq_neg_floor_neg] at HI
 clear h hsz
 generalize q.ceil=Z at *
 go_enter Tryz.func114,Tryz.ntmps114
 go_upto_region 0 with fail
 go_cut [1,2] (fun v1 v2 wx=>∃ b1 r,v1=.pointer (some ⟨b1,0,none⟩)/\v2=.pointer (some ⟨r,0,none⟩)/\BoxR wx b1 n1 (.slice a1 l1 c1) (.slice x1 y1 k1)/\BoxI wx r false (.slice none 0 0)/\¬ b1=r/\w.heap.size<=r/\XF w wx)
 case first =>
  go_wp2
  go_meet
  exact ⟨_,_,rfl,rfl,(boxR_new rfl n1 a1 l1 c1 x1 y1 k1).alloc _,boxI_new (by simp) false none 0 0,(by omega),(by omega),((Ext.refl _ w).alloc _).alloc _⟩
 case rest =>
  obtain ⟨b1,r,rfl,rfl,hb1,hrb,i1,hle,hx⟩:=hcut
  obtain ⟨c0,c1',c2,-⟩:=hb1.facts
  have HB:=bH (bI hrb hx)
  clear hb1 hrb hx
  go_wp2_with fail
  refine (HN.out _ HB.out.2).mono ?_
  rintro q1 w11 ⟨v11,rfl,h11,hx11⟩
  have H11:=bH (bI h11 hx11)
  clear h11 hx11 c0 c1' c2
  go_wp2_with fail
  refine (HF.out _ _ H11.out.1).mono ?_
  rintro q2 w12 ⟨v12,rfl,h12,hx12⟩
  have H12:=bH (bI h12 (H11.out.2.trans hx12))
  clear h12 hx12 H11
  go_wp2_with fail
  refine (HI.out _ _ H12.out.1).mono ?_
  rintro q3 w13 ⟨v13,rfl,h13,hx13⟩
  obtain ⟨ng,qo,qn,qc,rfl⟩:=h13.shape
  have hX:=H12.out.2.trans hx13
  have hr9:=HB.out.1.ext hX id
  obtain ⟨d0,d1,d2,d3⟩:=hr9.facts
  have hp:=hr9.put (neg:=ng) (no_int qo qn qc)
  have HR:=bH (bI (hp.int h13) (bI ((HB.out.2.trans hX).own hp.ext (fun k e=>by omega)) hp.box))
  clear hp hr9 h13 hx13 hX H12
  go_wp2
  generalize (w13.setCell ⟨r,0,none⟩ (.bool ng)).setCell ⟨r,1,none⟩ (.slice qo qn qc)=w20 at *
  obtain ⟨g0,g1,_⟩:=HR.out.2.2.facts
  exact bodyPost_ret (v:=.agg #[.bool ng,.slice qo qn qc]) (by simp [results,Tryz.results114,go_sem,g0,g1]) rfl ⟨_,rfl,HR.out.1,HR.out.2.1⟩
theorem termsB_lim {n:Int}:∀ {l:List TermV} {last:Int},termsB n last l=true->∀ t ∈ l,limB t.coef=true
 | [],_,_,_,h=>by cases h
 | t :: l,last,h,s,hs=>by
  simp only [termsB,Bool.and_eq_true] at h
  rcases List.mem_cons.1 hs with rfl | hs
  ·exact h.1.2
  ·exact termsB_lim h.2 s hs
def inRB (z:Int):Bool:=decide (-9223372036854775808<=z) && decide (z<=9223372036854775807)
def toR (z:Int):Int:=if inRB z then z else 0
theorem toR_in {z:Int} (h:inRB z=true):toR z=z:=if_pos h
theorem toR_out {z:Int} (h:inRB z=false):toR z=0:=by unfold toR; rw [h]; rfl
def I64Post (w:World) (z:Int) (r:Ending) (w':World):Prop:=r=.returned (.tuple #[.int .i64 (toR z),.bool (inRB z)])/\XF w w'
theorem inRB_neg {n:Nat}:inRB (sg true n)=decide ((n:Int)<=9223372036854775808):=by
 unfold inRB sg
 rw [if_pos rfl]
 rw [show decide (-(n:Int)<=9223372036854775807)=true from decide_eq_true (by omega),Bool.and_true]
 exact decide_eq_decide.2 (by omega)
theorem inRB_pos {n:Nat}:inRB (sg false n)=decide ((n:Int)<9223372036854775808):=by
 unfold inRB sg
 rw [if_neg (by decide)]
 rw [show decide (-9223372036854775808<=(n:Int))=true from decide_eq_true (by omega),Bool.true_and]
 exact decide_eq_decide.2 (by omega)
theorem iint64_any (w:World) (v:Value) (z:Int) (L:Nat) (h:Rint w v z L):Calls Tryz.prog 209 #[v] w (I64Post w z):=by
 obtain ⟨neg,ao,m,c,l,rfl,hr,-,hz⟩:=h.open
 clear h
 have HU:=bH (fun W (hW:XF w W)=>uint_any W _ l (hr.keep hW))
 clear hr
 generalize vl l=n at *
 have HX:=bH ((Ext.refl (fun _=>False) w).alloc (.cells #[.bool neg,.slice ao m c] 62))
 unfold I64Post
 cases neg with
 | true =>
  have HI:=bH (inRB_neg (n:=n))
  rw [<- hz] at HI
  have HZ:=bH hz
  clear hz
  by_cases h1:n<18446744073709551616
  ·rw [if_pos h1,decide_eq_true h1] at HU
   by_cases h2:(n:Int)<=9223372036854775808
   ·have HV:=bH (show toR z = -(n:Int)/\inRB z=true from by
     have hb:inRB z=true:=by rw [HI.out]; exact decide_eq_true h2
     exact ⟨(toR_in hb).trans (by rw [HZ.out]; rfl),hb⟩)
    rw [HV.out.1,HV.out.2]
    clear HI HZ HV
    have HW:=bH (show wrap64 (IntKind.u64.wrap (-(n:Int))) = -(n:Int) from by
     simp [wrap64,IntKind.wrap,IntKind.bits,IntKind.signed]; omega)
    have h5:decide ((n:Int)<=9223372036854775808)=true:=decide_eq_true h2
    go_enter Tryz.func209,Tryz.ntmps209
    go_wp2_with fail
    refine (HU.out _ HX.out).mono ?_
    rintro r w' ⟨rfl,hw⟩; obtain rfl:=hw.symm
    clear hw
    go_wp2
    rw [HW.out]
    go_ret2
    exact ⟨rfl,HX.out⟩
   ·have HV:=bH (show toR z=0/\inRB z=false from by
     have hb:inRB z=false:=by rw [HI.out]; exact decide_eq_false h2
     exact ⟨toR_out hb,hb⟩)
    rw [HV.out.1,HV.out.2]
    clear HI HZ HV
    have h5:decide ((n:Int)<=9223372036854775808)=false:=decide_eq_false h2
    go_enter Tryz.func209,Tryz.ntmps209
    go_wp2_with fail
    refine (HU.out _ HX.out).mono ?_
    rintro r w' ⟨rfl,hw⟩; obtain rfl:=hw.symm
    clear hw
    go_wp2
    go_ret2
    exact ⟨rfl,HX.out⟩
  ·rw [if_neg h1,decide_eq_false h1] at HU
   have HV:=bH (show toR z=0/\inRB z=false from by
    have hb:inRB z=false:=by rw [HI.out]; exact decide_eq_false (by omega)
    exact ⟨toR_out hb,hb⟩)
   rw [HV.out.1,HV.out.2]
   clear HI HZ HV
   go_enter Tryz.func209,Tryz.ntmps209
   go_wp2_with fail
   refine (HU.out _ HX.out).mono ?_
   rintro r w' ⟨rfl,hw⟩; obtain rfl:=hw.symm
   clear hw
   go_wp2
   go_ret2
   exact ⟨rfl,HX.out⟩
 | false =>
  have HI:=bH (inRB_pos (n:=n))
  rw [<- hz] at HI
  have HZ:=bH hz
  clear hz
  by_cases h1:n<18446744073709551616
  ·rw [if_pos h1,decide_eq_true h1] at HU
   by_cases h2:(n:Int)<9223372036854775808
   ·have HV:=bH (show toR z=(n:Int)/\inRB z=true from by
     have hb:inRB z=true:=by rw [HI.out]; exact decide_eq_true h2
     exact ⟨(toR_in hb).trans (by rw [HZ.out]; rfl),hb⟩)
    rw [HV.out.1,HV.out.2]
    clear HI HZ HV
    have HW:=bH (show wrap64 (n:Int)=(n:Int) from by
     simp [wrap64]; omega)
    have h5:decide ((n:Int)<9223372036854775808)=true:=decide_eq_true h2
    go_enter Tryz.func209,Tryz.ntmps209
    go_wp2_with fail
    refine (HU.out _ HX.out).mono ?_
    rintro r w' ⟨rfl,hw⟩; obtain rfl:=hw.symm
    clear hw
    go_wp2
    (try rw [HW.out])
    go_ret2
    exact ⟨rfl,HX.out⟩
   ·have HV:=bH (show toR z=0/\inRB z=false from by
     have hb:inRB z=false:=by rw [HI.out]; exact decide_eq_false h2
     exact ⟨toR_out hb,hb⟩)
    rw [HV.out.1,HV.out.2]
    clear HI HZ HV
    have h5:decide ((n:Int)<9223372036854775808)=false:=decide_eq_false h2
    go_enter Tryz.func209,Tryz.ntmps209
    go_wp2_with fail
    refine (HU.out _ HX.out).mono ?_
    rintro r w' ⟨rfl,hw⟩; obtain rfl:=hw.symm
    clear hw
    go_wp2
    go_ret2
    exact ⟨rfl,HX.out⟩
  ·rw [if_neg h1,decide_eq_false h1] at HU
   have HV:=bH (show toR z=0/\inRB z=false from by
    have hb:inRB z=false:=by rw [HI.out]; exact decide_eq_false (by omega)
    exact ⟨toR_out hb,hb⟩)
   rw [HV.out.1,HV.out.2]
   clear HI HZ HV
   go_enter Tryz.func209,Tryz.ntmps209
   go_wp2_with fail
   refine (HU.out _ HX.out).mono ?_
   rintro r w' ⟨rfl,hw⟩; obtain rfl:=hw.symm
   clear hw
   go_wp2
   go_ret2
   exact ⟨rfl,HX.out⟩
theorem rint64_any (w:World) (n1:Bool) (a1:Option Addr) (l1 c1:Nat) (x1:Option Addr) (y1 k1:Nat) (z:Int) (L:Nat) (h:Rint w (.agg #[.bool n1,.slice a1 l1 c1]) z L) (hd:Rds w (.slice x1 y1 k1) []) (h0:1<=L) (hL:L<=4194304) :
  Calls Tryz.prog 170 #[.agg #[.bool n1,.slice a1 l1 c1,.slice x1 y1 k1]] w (I64Post w z):=by
 have HDn:=bH (fun W (hW:XF w W)=>den_any W _ n1 a1 l1 c1 x1 y1 k1 [] L rfl (hd.keep hW) (by simp) (by omega) h0)
 rw [show ((dn (vl []):Nat):Int)=1 from rfl] at HDn
 have HFl:=bH (fun W (hW:XF w W) u (hu:Rint W u 1 L)=>quo_any W _ u _ _ L (h.keep hW) hu (by decide) (by omega))
 unfold QuoPost at HFl
 rw [Int.tdiv_one,Int.mul_one,Int.sub_self] at HFl
 have HIi:=bH (fun W u (hu:IsInt W u z)=>iint64_any W u z L (hu.reads h.len))
 have HSg:=bH (fun W u (hu:IsInt W u 0)=>isign_any W u 0 1 (hu.reads (by rw [show (0:Int).natAbs=0 from rfl,dg_zero]; decide)) (by omega))
 rw [show (0:Int).sign=0 from rfl] at HSg
 clear h hd
 unfold I64Post at *
 generalize toR z=t at *
 generalize inRB z=b at *
 go_enter Tryz.func170,Tryz.ntmps170
 go_upto_region 0 with fail
 go_cut [1,2,3] (fun v1 v2 v3 wx=>∃ b1,v1=.pointer (some ⟨b1,0,none⟩)/\v2=.int .i64 0/\v3=.bool false/\BoxR wx b1 n1 (.slice a1 l1 c1) (.slice x1 y1 k1)/\XF w wx)
 case first =>
  go_wp2
  go_meet
  exact ⟨_,rfl,rfl,rfl,boxR_new rfl n1 a1 l1 c1 x1 y1 k1,(Ext.refl _ w).alloc _⟩
 case rest =>
  obtain ⟨b1,rfl,rfl,rfl,hb1,hx⟩:=hcut
  obtain ⟨wq,rfl⟩:∃ x,x=wc:=⟨_,rfl⟩
  have HB:=bH (bI hb1 hx)
  clear hb1 hx
  replace HDn:=bH (fun W (hW:XF wq W)=>HDn.out W (HB.out.2.trans hW))
  replace HFl:=bH (fun W (hW:XF wq W)=>HFl.out W (HB.out.2.trans hW))
  have b0:=cq HB.out.1.facts.1
  have b1':=cq HB.out.1.facts.2.1
  have b2:=cq HB.out.1.facts.2.2.1
  go_upto_region 1 with fail
  go_cut [4,5] (fun v4 v5 wx=>∃ s9 s10 ng qo qn qc mg mo mn mc,v4=.pointer (some ⟨s9,0,none⟩)/\v5=.pointer (some ⟨s10,0,none⟩)/\BoxI wx s9 ng (.slice qo qn qc)/\BoxI wx s10 mg (.slice mo mn mc)/\IsInt wx (.agg #[.bool ng,.slice qo qn qc]) z/\IsInt wx (.agg #[.bool mg,.slice mo mn mc]) 0/\XF wq wx)
  case first =>
   refine mbegin 11 (XF wq) (by kernel_rfl) ((Ext.refl _ wq).drew) (fun hHeld=>?_)
   refine mu 0 (h:=(mu 1 (h:=(mu 2 (h:=?_)))))
   (try go_frame)
   refine mthree 3 9 10 rfl rfl rfl (by kernel_rfl) (fun K hK=>?_) (fun K hK=>?_) (fun K hK=>?_)
   ·go_simp
    go_at_call 133
    with_reducible refine (HDn.out _ ((Ext.refl _ wq).drew)).mono ?_
    rintro r0 u0 ⟨v3,rfl,h3,hy⟩
    have HV3:=bH h3
    clear h3
    replace hy:=(Ext.refl (fun _=>False) wq).drew.trans hy
    have hx0:XF wq u0:=hy
    clear hy
    refine hK.out _ _ (hx0) (fun hHeld=>?_)
    clear hK K
    (try go_frame)
    refine mthree 4 9 10 rfl rfl rfl (by kernel_rfl) (fun K hK=>?_) (fun K hK=>?_) (fun K hK=>?_)
    ·go_simp
     go_at_call 204
     with_reducible refine (HFl.out _ (hx0) _ HV3.out).mono ?_
     rintro r1 u1 ⟨q4,m4,rfl,h4,hm4,hy⟩
     obtain ⟨ng,qo,qn,qc,rfl⟩:=h4.shape
     obtain ⟨mg,mo,mn,mc,rfl⟩:=hm4.shape
     have HQ4:=bH h4
     have HM4:=bH hm4
     clear h4 hm4
     replace HV3:=bH (HV3.out.keep hy)
     have hx1:XF wq u1:=hx0.trans hy
     clear hy
     refine hK.out _ _ (hx1) (fun hHeld=>?_)
     clear hK K
     (try go_frame)
     refine mu 5 (h:=(mu 6 (h:=(mf 7 (h:=(mf 8 (h:=?_)))))))
     (try go_frame)
     refine mtwo 9 10 rfl rfl (by kernel_rfl) (fun K hK=>?_) (fun K hK=>?_)
     ·go_simp
      have hy:XF u1 ((u1.alloc (.cells #[.bool false,.slice none 0 0] 62))):=((Ext.refl (fun _=>False) u1).alloc (.cells #[.bool false,.slice none 0 0] 62))
      have HO9:=bH (BoxN.new (w0:=wq) (W:=(u1.alloc (.cells #[.bool false,.slice none 0 0] 62))) hx1.size (show BoxI ((u1.alloc (.cells #[.bool false,.slice none 0 0] 62))) u1.heap.size false (.slice none 0 0) from boxI_new (W:=u1) rfl false none 0 0))
      have hx2:XF wq ((u1.alloc (.cells #[.bool false,.slice none 0 0] 62))):=hx1.trans hy
      replace HV3:=bH (HV3.out.keep hy)
      replace HQ4:=bH (HQ4.out.keep hy)
      replace HM4:=bH (HM4.out.keep hy)
      clear hy
      generalize (u1.alloc (.cells #[.bool false,.slice none 0 0] 62))=u2 at *
      generalize u1.heap.size=s9 at *
      refine hK.out _ _ (hx2) (fun hHeld=>?_)
      clear hK K
      (try go_frame)
      refine mst 10 (h:=fun K hK=>?_)
      go_simp
      have hy:XF u2 ((u2.alloc (.cells #[.bool false,.slice none 0 0] 62))):=((Ext.refl (fun _=>False) u2).alloc (.cells #[.bool false,.slice none 0 0] 62))
      have HO10:=bH (BoxN.new (w0:=wq) (W:=(u2.alloc (.cells #[.bool false,.slice none 0 0] 62))) hx2.size (show BoxI ((u2.alloc (.cells #[.bool false,.slice none 0 0] 62))) u2.heap.size false (.slice none 0 0) from boxI_new (W:=u2) rfl false none 0 0))
      have HNE:=bH (show s9≠u2.heap.size from Nat.ne_of_lt HO9.out.box.lt)
      have hx3:XF wq ((u2.alloc (.cells #[.bool false,.slice none 0 0] 62))):=hx2.trans hy
      replace HV3:=bH (HV3.out.keep hy)
      replace HQ4:=bH (HQ4.out.keep hy)
      replace HM4:=bH (HM4.out.keep hy)
      replace HO9:=bH (HO9.out.keep hy)
      clear hy
      generalize (u2.alloc (.cells #[.bool false,.slice none 0 0] 62))=u3 at *
      generalize u2.heap.size=s10 at *
      refine hK.out _ _ (hx3) (fun hHeld=>?_)
      clear hK K
      (try go_frame)
      obtain ⟨c0,c1,c2,c3⟩:=HO9.out.box.facts
      obtain ⟨d0,d1,d2,d3⟩:=HO10.out.box.facts
      refine ml 11 (h:=fun K hK=>?_)
      go_simp
      refine hK.out _ _ ?_
      clear hK K
      (try go_frame)
      have hp9:=HO9.out.box.put (neg:=ng) (no_int qo qn qc)
      obtain ⟨e0,e1,e2,e3⟩:=(HO10.out.box.ext hp9.ext (fun e=>HNE.out e.symm)).facts
      refine ml 12 (h:=fun K hK=>?_)
      go_simp
      refine hK.out _ _ ?_
      clear hK K
      (try go_frame)
      have hp9:=HO9.out.box.put (neg:=ng) (no_int qo qn qc)
      obtain ⟨e0,e1,e2,e3⟩:=(HO10.out.box.ext hp9.ext (fun e=>HNE.out e.symm)).facts
      refine ml 13 (h:=fun K hK=>?_)
      go_simp
      refine hK.out _ _ ?_
      clear hK K
      (try go_frame)
      refine mdone (by kernel_rfl) ?_ _
      have hp10:=(HO10.out.box.ext hp9.ext (fun e=>HNE.out e.symm)).put (neg:=mg) (no_int mo mn mc)
      go_wp2
      go_meet
      exact ⟨s9,s10,ng,qo,qn,qc,mg,mo,mn,mc,rfl,rfl,hp9.box.ext hp10.ext HNE.out,hp10.box,hp10.int (hp9.int HQ4.out),hp10.int (hp9.int HM4.out),(hx3.own hp9.ext (fun k e=>by rw [e]; exact HO9.out.low)).own hp10.ext (fun k e=>by rw [e]; exact HO10.out.low)⟩
     ·go_simp
      have hy:XF u1 ((u1.alloc (.cells #[.bool false,.slice none 0 0] 62))):=((Ext.refl (fun _=>False) u1).alloc (.cells #[.bool false,.slice none 0 0] 62))
      have HO10:=bH (BoxN.new (w0:=wq) (W:=(u1.alloc (.cells #[.bool false,.slice none 0 0] 62))) hx1.size (show BoxI ((u1.alloc (.cells #[.bool false,.slice none 0 0] 62))) u1.heap.size false (.slice none 0 0) from boxI_new (W:=u1) rfl false none 0 0))
      have hx2:XF wq ((u1.alloc (.cells #[.bool false,.slice none 0 0] 62))):=hx1.trans hy
      replace HV3:=bH (HV3.out.keep hy)
      replace HQ4:=bH (HQ4.out.keep hy)
      replace HM4:=bH (HM4.out.keep hy)
      clear hy
      generalize (u1.alloc (.cells #[.bool false,.slice none 0 0] 62))=u2 at *
      generalize u1.heap.size=s10 at *
      refine hK.out _ _ (hx2) (fun hHeld=>?_)
      clear hK K
      (try go_frame)
      refine mst 9 (h:=fun K hK=>?_)
      go_simp
      have hy:XF u2 ((u2.alloc (.cells #[.bool false,.slice none 0 0] 62))):=((Ext.refl (fun _=>False) u2).alloc (.cells #[.bool false,.slice none 0 0] 62))
      have HO9:=bH (BoxN.new (w0:=wq) (W:=(u2.alloc (.cells #[.bool false,.slice none 0 0] 62))) hx2.size (show BoxI ((u2.alloc (.cells #[.bool false,.slice none 0 0] 62))) u2.heap.size false (.slice none 0 0) from boxI_new (W:=u2) rfl false none 0 0))
      have HNE:=bH (show s10≠u2.heap.size from Nat.ne_of_lt HO10.out.box.lt)
      have hx3:XF wq ((u2.alloc (.cells #[.bool false,.slice none 0 0] 62))):=hx2.trans hy
      replace HV3:=bH (HV3.out.keep hy)
      replace HQ4:=bH (HQ4.out.keep hy)
      replace HM4:=bH (HM4.out.keep hy)
      replace HO10:=bH (HO10.out.keep hy)
      clear hy
      generalize (u2.alloc (.cells #[.bool false,.slice none 0 0] 62))=u3 at *
      generalize u2.heap.size=s9 at *
      replace HNE:=bH (Ne.symm HNE.out)
      refine hK.out _ _ (hx3) (fun hHeld=>?_)
      clear hK K
      (try go_frame)
      obtain ⟨c0,c1,c2,c3⟩:=HO9.out.box.facts
      obtain ⟨d0,d1,d2,d3⟩:=HO10.out.box.facts
      refine ml 11 (h:=fun K hK=>?_)
      go_simp
      refine hK.out _ _ ?_
      clear hK K
      (try go_frame)
      have hp9:=HO9.out.box.put (neg:=ng) (no_int qo qn qc)
      obtain ⟨e0,e1,e2,e3⟩:=(HO10.out.box.ext hp9.ext (fun e=>HNE.out e.symm)).facts
      refine ml 12 (h:=fun K hK=>?_)
      go_simp
      refine hK.out _ _ ?_
      clear hK K
      (try go_frame)
      have hp9:=HO9.out.box.put (neg:=ng) (no_int qo qn qc)
      obtain ⟨e0,e1,e2,e3⟩:=(HO10.out.box.ext hp9.ext (fun e=>HNE.out e.symm)).facts
      refine ml 13 (h:=fun K hK=>?_)
      go_simp
      refine hK.out _ _ ?_
      clear hK K
      (try go_frame)
      refine mdone (by kernel_rfl) ?_ _
      have hp10:=(HO10.out.box.ext hp9.ext (fun e=>HNE.out e.symm)).put (neg:=mg) (no_int mo mn mc)
      go_wp2
      go_meet
      exact ⟨s9,s10,ng,qo,qn,qc,mg,mo,mn,mc,rfl,rfl,hp9.box.ext hp10.ext HNE.out,hp10.box,hp10.int (hp9.int HQ4.out),hp10.int (hp9.int HM4.out),(hx3.own hp9.ext (fun k e=>by rw [e]; exact HO9.out.low)).own hp10.ext (fun k e=>by rw [e]; exact HO10.out.low)⟩
    ·go_simp
     have hy:XF u0 ((u0.alloc (.cells #[.bool false,.slice none 0 0] 62))):=((Ext.refl (fun _=>False) u0).alloc (.cells #[.bool false,.slice none 0 0] 62))
     have HO9:=bH (BoxN.new (w0:=wq) (W:=(u0.alloc (.cells #[.bool false,.slice none 0 0] 62))) hx0.size (show BoxI ((u0.alloc (.cells #[.bool false,.slice none 0 0] 62))) u0.heap.size false (.slice none 0 0) from boxI_new (W:=u0) rfl false none 0 0))
     have hx1:XF wq ((u0.alloc (.cells #[.bool false,.slice none 0 0] 62))):=hx0.trans hy
     replace HV3:=bH (HV3.out.keep hy)
     clear hy
     generalize (u0.alloc (.cells #[.bool false,.slice none 0 0] 62))=u1 at *
     generalize u0.heap.size=s9 at *
     refine hK.out _ _ (hx1) (fun hHeld=>?_)
     clear hK K
     (try go_frame)
     refine mtwo 4 10 rfl rfl (by kernel_rfl) (fun K hK=>?_) (fun K hK=>?_)
     ·go_simp
      go_at_call 204
      with_reducible refine (HFl.out _ (hx1) _ HV3.out).mono ?_
      rintro r2 u2 ⟨q4,m4,rfl,h4,hm4,hy⟩
      obtain ⟨ng,qo,qn,qc,rfl⟩:=h4.shape
      obtain ⟨mg,mo,mn,mc,rfl⟩:=hm4.shape
      have HQ4:=bH h4
      have HM4:=bH hm4
      clear h4 hm4
      replace HV3:=bH (HV3.out.keep hy)
      replace HO9:=bH (HO9.out.keep hy)
      have hx2:XF wq u2:=hx1.trans hy
      clear hy
      refine hK.out _ _ (hx2) (fun hHeld=>?_)
      clear hK K
      (try go_frame)
      refine mu 5 (h:=(mu 6 (h:=(mf 7 (h:=(mf 8 (h:=?_)))))))
      (try go_frame)
      refine mst 10 (h:=fun K hK=>?_)
      go_simp
      have hy:XF u2 ((u2.alloc (.cells #[.bool false,.slice none 0 0] 62))):=((Ext.refl (fun _=>False) u2).alloc (.cells #[.bool false,.slice none 0 0] 62))
      have HO10:=bH (BoxN.new (w0:=wq) (W:=(u2.alloc (.cells #[.bool false,.slice none 0 0] 62))) hx2.size (show BoxI ((u2.alloc (.cells #[.bool false,.slice none 0 0] 62))) u2.heap.size false (.slice none 0 0) from boxI_new (W:=u2) rfl false none 0 0))
      have HNE:=bH (show s9≠u2.heap.size from Nat.ne_of_lt HO9.out.box.lt)
      have hx3:XF wq ((u2.alloc (.cells #[.bool false,.slice none 0 0] 62))):=hx2.trans hy
      replace HV3:=bH (HV3.out.keep hy)
      replace HO9:=bH (HO9.out.keep hy)
      replace HQ4:=bH (HQ4.out.keep hy)
      replace HM4:=bH (HM4.out.keep hy)
      clear hy
      generalize (u2.alloc (.cells #[.bool false,.slice none 0 0] 62))=u3 at *
      generalize u2.heap.size=s10 at *
      refine hK.out _ _ (hx3) (fun hHeld=>?_)
      clear hK K
      (try go_frame)
      obtain ⟨c0,c1,c2,c3⟩:=HO9.out.box.facts
      obtain ⟨d0,d1,d2,d3⟩:=HO10.out.box.facts
      refine ml 11 (h:=fun K hK=>?_)
      go_simp
      refine hK.out _ _ ?_
      clear hK K
      (try go_frame)
      have hp9:=HO9.out.box.put (neg:=ng) (no_int qo qn qc)
      obtain ⟨e0,e1,e2,e3⟩:=(HO10.out.box.ext hp9.ext (fun e=>HNE.out e.symm)).facts
      refine ml 12 (h:=fun K hK=>?_)
      go_simp
      refine hK.out _ _ ?_
      clear hK K
      (try go_frame)
      have hp9:=HO9.out.box.put (neg:=ng) (no_int qo qn qc)
      obtain ⟨e0,e1,e2,e3⟩:=(HO10.out.box.ext hp9.ext (fun e=>HNE.out e.symm)).facts
      refine ml 13 (h:=fun K hK=>?_)
      go_simp
      refine hK.out _ _ ?_
      clear hK K
      (try go_frame)
      refine mdone (by kernel_rfl) ?_ _
      have hp10:=(HO10.out.box.ext hp9.ext (fun e=>HNE.out e.symm)).put (neg:=mg) (no_int mo mn mc)
      go_wp2
      go_meet
      exact ⟨s9,s10,ng,qo,qn,qc,mg,mo,mn,mc,rfl,rfl,hp9.box.ext hp10.ext HNE.out,hp10.box,hp10.int (hp9.int HQ4.out),hp10.int (hp9.int HM4.out),(hx3.own hp9.ext (fun k e=>by rw [e]; exact HO9.out.low)).own hp10.ext (fun k e=>by rw [e]; exact HO10.out.low)⟩
     ·go_simp
      have hy:XF u1 ((u1.alloc (.cells #[.bool false,.slice none 0 0] 62))):=((Ext.refl (fun _=>False) u1).alloc (.cells #[.bool false,.slice none 0 0] 62))
      have HO10:=bH (BoxN.new (w0:=wq) (W:=(u1.alloc (.cells #[.bool false,.slice none 0 0] 62))) hx1.size (show BoxI ((u1.alloc (.cells #[.bool false,.slice none 0 0] 62))) u1.heap.size false (.slice none 0 0) from boxI_new (W:=u1) rfl false none 0 0))
      have HNE:=bH (show s9≠u1.heap.size from Nat.ne_of_lt HO9.out.box.lt)
      have hx2:XF wq ((u1.alloc (.cells #[.bool false,.slice none 0 0] 62))):=hx1.trans hy
      replace HV3:=bH (HV3.out.keep hy)
      replace HO9:=bH (HO9.out.keep hy)
      clear hy
      generalize (u1.alloc (.cells #[.bool false,.slice none 0 0] 62))=u2 at *
      generalize u1.heap.size=s10 at *
      refine hK.out _ _ (hx2) (fun hHeld=>?_)
      clear hK K
      (try go_frame)
      refine mst 4 (h:=fun K hK=>?_)
      go_simp
      go_at_call 204
      with_reducible refine (HFl.out _ (hx2) _ HV3.out).mono ?_
      rintro r3 u3 ⟨q4,m4,rfl,h4,hm4,hy⟩
      obtain ⟨ng,qo,qn,qc,rfl⟩:=h4.shape
      obtain ⟨mg,mo,mn,mc,rfl⟩:=hm4.shape
      have HQ4:=bH h4
      have HM4:=bH hm4
      clear h4 hm4
      replace HV3:=bH (HV3.out.keep hy)
      replace HO9:=bH (HO9.out.keep hy)
      replace HO10:=bH (HO10.out.keep hy)
      have hx3:XF wq u3:=hx2.trans hy
      clear hy
      refine hK.out _ _ (hx3) (fun hHeld=>?_)
      clear hK K
      (try go_frame)
      refine mu 5 (h:=(mu 6 (h:=(mf 7 (h:=(mf 8 (h:=?_)))))))
      (try go_frame)
      obtain ⟨c0,c1,c2,c3⟩:=HO9.out.box.facts
      obtain ⟨d0,d1,d2,d3⟩:=HO10.out.box.facts
      refine ml 11 (h:=fun K hK=>?_)
      go_simp
      refine hK.out _ _ ?_
      clear hK K
      (try go_frame)
      have hp9:=HO9.out.box.put (neg:=ng) (no_int qo qn qc)
      obtain ⟨e0,e1,e2,e3⟩:=(HO10.out.box.ext hp9.ext (fun e=>HNE.out e.symm)).facts
      refine ml 12 (h:=fun K hK=>?_)
      go_simp
      refine hK.out _ _ ?_
      clear hK K
      (try go_frame)
      have hp9:=HO9.out.box.put (neg:=ng) (no_int qo qn qc)
      obtain ⟨e0,e1,e2,e3⟩:=(HO10.out.box.ext hp9.ext (fun e=>HNE.out e.symm)).facts
      refine ml 13 (h:=fun K hK=>?_)
      go_simp
      refine hK.out _ _ ?_
      clear hK K
      (try go_frame)
      refine mdone (by kernel_rfl) ?_ _
      have hp10:=(HO10.out.box.ext hp9.ext (fun e=>HNE.out e.symm)).put (neg:=mg) (no_int mo mn mc)
      go_wp2
      go_meet
      exact ⟨s9,s10,ng,qo,qn,qc,mg,mo,mn,mc,rfl,rfl,hp9.box.ext hp10.ext HNE.out,hp10.box,hp10.int (hp9.int HQ4.out),hp10.int (hp9.int HM4.out),(hx3.own hp9.ext (fun k e=>by rw [e]; exact HO9.out.low)).own hp10.ext (fun k e=>by rw [e]; exact HO10.out.low)⟩
    ·go_simp
     have hy:XF u0 ((u0.alloc (.cells #[.bool false,.slice none 0 0] 62))):=((Ext.refl (fun _=>False) u0).alloc (.cells #[.bool false,.slice none 0 0] 62))
     have HO10:=bH (BoxN.new (w0:=wq) (W:=(u0.alloc (.cells #[.bool false,.slice none 0 0] 62))) hx0.size (show BoxI ((u0.alloc (.cells #[.bool false,.slice none 0 0] 62))) u0.heap.size false (.slice none 0 0) from boxI_new (W:=u0) rfl false none 0 0))
     have hx1:XF wq ((u0.alloc (.cells #[.bool false,.slice none 0 0] 62))):=hx0.trans hy
     replace HV3:=bH (HV3.out.keep hy)
     clear hy
     generalize (u0.alloc (.cells #[.bool false,.slice none 0 0] 62))=u1 at *
     generalize u0.heap.size=s10 at *
     refine hK.out _ _ (hx1) (fun hHeld=>?_)
     clear hK K
     (try go_frame)
     refine mtwo 4 9 rfl rfl (by kernel_rfl) (fun K hK=>?_) (fun K hK=>?_)
     ·go_simp
      go_at_call 204
      with_reducible refine (HFl.out _ (hx1) _ HV3.out).mono ?_
      rintro r2 u2 ⟨q4,m4,rfl,h4,hm4,hy⟩
      obtain ⟨ng,qo,qn,qc,rfl⟩:=h4.shape
      obtain ⟨mg,mo,mn,mc,rfl⟩:=hm4.shape
      have HQ4:=bH h4
      have HM4:=bH hm4
      clear h4 hm4
      replace HV3:=bH (HV3.out.keep hy)
      replace HO10:=bH (HO10.out.keep hy)
      have hx2:XF wq u2:=hx1.trans hy
      clear hy
      refine hK.out _ _ (hx2) (fun hHeld=>?_)
      clear hK K
      (try go_frame)
      refine mu 5 (h:=(mu 6 (h:=(mf 7 (h:=(mf 8 (h:=?_)))))))
      (try go_frame)
      refine mst 9 (h:=fun K hK=>?_)
      go_simp
      have hy:XF u2 ((u2.alloc (.cells #[.bool false,.slice none 0 0] 62))):=((Ext.refl (fun _=>False) u2).alloc (.cells #[.bool false,.slice none 0 0] 62))
      have HO9:=bH (BoxN.new (w0:=wq) (W:=(u2.alloc (.cells #[.bool false,.slice none 0 0] 62))) hx2.size (show BoxI ((u2.alloc (.cells #[.bool false,.slice none 0 0] 62))) u2.heap.size false (.slice none 0 0) from boxI_new (W:=u2) rfl false none 0 0))
      have HNE:=bH (show s10≠u2.heap.size from Nat.ne_of_lt HO10.out.box.lt)
      have hx3:XF wq ((u2.alloc (.cells #[.bool false,.slice none 0 0] 62))):=hx2.trans hy
      replace HV3:=bH (HV3.out.keep hy)
      replace HO10:=bH (HO10.out.keep hy)
      replace HQ4:=bH (HQ4.out.keep hy)
      replace HM4:=bH (HM4.out.keep hy)
      clear hy
      generalize (u2.alloc (.cells #[.bool false,.slice none 0 0] 62))=u3 at *
      generalize u2.heap.size=s9 at *
      replace HNE:=bH (Ne.symm HNE.out)
      refine hK.out _ _ (hx3) (fun hHeld=>?_)
      clear hK K
      (try go_frame)
      obtain ⟨c0,c1,c2,c3⟩:=HO9.out.box.facts
      obtain ⟨d0,d1,d2,d3⟩:=HO10.out.box.facts
      refine ml 11 (h:=fun K hK=>?_)
      go_simp
      refine hK.out _ _ ?_
      clear hK K
      (try go_frame)
      have hp9:=HO9.out.box.put (neg:=ng) (no_int qo qn qc)
      obtain ⟨e0,e1,e2,e3⟩:=(HO10.out.box.ext hp9.ext (fun e=>HNE.out e.symm)).facts
      refine ml 12 (h:=fun K hK=>?_)
      go_simp
      refine hK.out _ _ ?_
      clear hK K
      (try go_frame)
      have hp9:=HO9.out.box.put (neg:=ng) (no_int qo qn qc)
      obtain ⟨e0,e1,e2,e3⟩:=(HO10.out.box.ext hp9.ext (fun e=>HNE.out e.symm)).facts
      refine ml 13 (h:=fun K hK=>?_)
      go_simp
      refine hK.out _ _ ?_
      clear hK K
      (try go_frame)
      refine mdone (by kernel_rfl) ?_ _
      have hp10:=(HO10.out.box.ext hp9.ext (fun e=>HNE.out e.symm)).put (neg:=mg) (no_int mo mn mc)
      go_wp2
      go_meet
      exact ⟨s9,s10,ng,qo,qn,qc,mg,mo,mn,mc,rfl,rfl,hp9.box.ext hp10.ext HNE.out,hp10.box,hp10.int (hp9.int HQ4.out),hp10.int (hp9.int HM4.out),(hx3.own hp9.ext (fun k e=>by rw [e]; exact HO9.out.low)).own hp10.ext (fun k e=>by rw [e]; exact HO10.out.low)⟩
     ·go_simp
      have hy:XF u1 ((u1.alloc (.cells #[.bool false,.slice none 0 0] 62))):=((Ext.refl (fun _=>False) u1).alloc (.cells #[.bool false,.slice none 0 0] 62))
      have HO9:=bH (BoxN.new (w0:=wq) (W:=(u1.alloc (.cells #[.bool false,.slice none 0 0] 62))) hx1.size (show BoxI ((u1.alloc (.cells #[.bool false,.slice none 0 0] 62))) u1.heap.size false (.slice none 0 0) from boxI_new (W:=u1) rfl false none 0 0))
      have HNE:=bH (show s10≠u1.heap.size from Nat.ne_of_lt HO10.out.box.lt)
      have hx2:XF wq ((u1.alloc (.cells #[.bool false,.slice none 0 0] 62))):=hx1.trans hy
      replace HV3:=bH (HV3.out.keep hy)
      replace HO10:=bH (HO10.out.keep hy)
      clear hy
      generalize (u1.alloc (.cells #[.bool false,.slice none 0 0] 62))=u2 at *
      generalize u1.heap.size=s9 at *
      replace HNE:=bH (Ne.symm HNE.out)
      refine hK.out _ _ (hx2) (fun hHeld=>?_)
      clear hK K
      (try go_frame)
      refine mst 4 (h:=fun K hK=>?_)
      go_simp
      go_at_call 204
      with_reducible refine (HFl.out _ (hx2) _ HV3.out).mono ?_
      rintro r3 u3 ⟨q4,m4,rfl,h4,hm4,hy⟩
      obtain ⟨ng,qo,qn,qc,rfl⟩:=h4.shape
      obtain ⟨mg,mo,mn,mc,rfl⟩:=hm4.shape
      have HQ4:=bH h4
      have HM4:=bH hm4
      clear h4 hm4
      replace HV3:=bH (HV3.out.keep hy)
      replace HO10:=bH (HO10.out.keep hy)
      replace HO9:=bH (HO9.out.keep hy)
      have hx3:XF wq u3:=hx2.trans hy
      clear hy
      refine hK.out _ _ (hx3) (fun hHeld=>?_)
      clear hK K
      (try go_frame)
      refine mu 5 (h:=(mu 6 (h:=(mf 7 (h:=(mf 8 (h:=?_)))))))
      (try go_frame)
      obtain ⟨c0,c1,c2,c3⟩:=HO9.out.box.facts
      obtain ⟨d0,d1,d2,d3⟩:=HO10.out.box.facts
      refine ml 11 (h:=fun K hK=>?_)
      go_simp
      refine hK.out _ _ ?_
      clear hK K
      (try go_frame)
      have hp9:=HO9.out.box.put (neg:=ng) (no_int qo qn qc)
      obtain ⟨e0,e1,e2,e3⟩:=(HO10.out.box.ext hp9.ext (fun e=>HNE.out e.symm)).facts
      refine ml 12 (h:=fun K hK=>?_)
      go_simp
      refine hK.out _ _ ?_
      clear hK K
      (try go_frame)
      have hp9:=HO9.out.box.put (neg:=ng) (no_int qo qn qc)
      obtain ⟨e0,e1,e2,e3⟩:=(HO10.out.box.ext hp9.ext (fun e=>HNE.out e.symm)).facts
      refine ml 13 (h:=fun K hK=>?_)
      go_simp
      refine hK.out _ _ ?_
      clear hK K
      (try go_frame)
      refine mdone (by kernel_rfl) ?_ _
      have hp10:=(HO10.out.box.ext hp9.ext (fun e=>HNE.out e.symm)).put (neg:=mg) (no_int mo mn mc)
      go_wp2
      go_meet
      exact ⟨s9,s10,ng,qo,qn,qc,mg,mo,mn,mc,rfl,rfl,hp9.box.ext hp10.ext HNE.out,hp10.box,hp10.int (hp9.int HQ4.out),hp10.int (hp9.int HM4.out),(hx3.own hp9.ext (fun k e=>by rw [e]; exact HO9.out.low)).own hp10.ext (fun k e=>by rw [e]; exact HO10.out.low)⟩
   ·go_simp
    have hy:XF wq ((wq.alloc (.cells #[.bool false,.slice none 0 0] 62)).drew):=((Ext.refl (fun _=>False) wq).alloc (.cells #[.bool false,.slice none 0 0] 62)).drew
    have HO9:=bH (BoxN.new (w0:=wq) (W:=(wq.alloc (.cells #[.bool false,.slice none 0 0] 62)).drew) (Ext.refl (fun _=>False) wq).size (show BoxI ((wq.alloc (.cells #[.bool false,.slice none 0 0] 62)).drew) wq.heap.size false (.slice none 0 0) from boxI_new (W:=wq) rfl false none 0 0))
    have hx0:XF wq ((wq.alloc (.cells #[.bool false,.slice none 0 0] 62)).drew):=hy
    clear hy
    generalize (wq.alloc (.cells #[.bool false,.slice none 0 0] 62)).drew=u0 at *
    generalize wq.heap.size=s9 at *
    refine hK.out _ _ (hx0) (fun hHeld=>?_)
    clear hK K
    (try go_frame)
    refine mtwo 3 10 rfl rfl (by kernel_rfl) (fun K hK=>?_) (fun K hK=>?_)
    ·go_simp
     go_at_call 133
     with_reducible refine (HDn.out _ (hx0)).mono ?_
     rintro r1 u1 ⟨v3,rfl,h3,hy⟩
     have HV3:=bH h3
     clear h3
     replace HO9:=bH (HO9.out.keep hy)
     have hx1:XF wq u1:=hx0.trans hy
     clear hy
     refine hK.out _ _ (hx1) (fun hHeld=>?_)
     clear hK K
     (try go_frame)
     refine mtwo 4 10 rfl rfl (by kernel_rfl) (fun K hK=>?_) (fun K hK=>?_)
     ·go_simp
      go_at_call 204
      with_reducible refine (HFl.out _ (hx1) _ HV3.out).mono ?_
      rintro r2 u2 ⟨q4,m4,rfl,h4,hm4,hy⟩
      obtain ⟨ng,qo,qn,qc,rfl⟩:=h4.shape
      obtain ⟨mg,mo,mn,mc,rfl⟩:=hm4.shape
      have HQ4:=bH h4
      have HM4:=bH hm4
      clear h4 hm4
      replace HO9:=bH (HO9.out.keep hy)
      replace HV3:=bH (HV3.out.keep hy)
      have hx2:XF wq u2:=hx1.trans hy
      clear hy
      refine hK.out _ _ (hx2) (fun hHeld=>?_)
      clear hK K
      (try go_frame)
      refine mu 5 (h:=(mu 6 (h:=(mf 7 (h:=(mf 8 (h:=?_)))))))
      (try go_frame)
      refine mst 10 (h:=fun K hK=>?_)
      go_simp
      have hy:XF u2 ((u2.alloc (.cells #[.bool false,.slice none 0 0] 62))):=((Ext.refl (fun _=>False) u2).alloc (.cells #[.bool false,.slice none 0 0] 62))
      have HO10:=bH (BoxN.new (w0:=wq) (W:=(u2.alloc (.cells #[.bool false,.slice none 0 0] 62))) hx2.size (show BoxI ((u2.alloc (.cells #[.bool false,.slice none 0 0] 62))) u2.heap.size false (.slice none 0 0) from boxI_new (W:=u2) rfl false none 0 0))
      have HNE:=bH (show s9≠u2.heap.size from Nat.ne_of_lt HO9.out.box.lt)
      have hx3:XF wq ((u2.alloc (.cells #[.bool false,.slice none 0 0] 62))):=hx2.trans hy
      replace HO9:=bH (HO9.out.keep hy)
      replace HV3:=bH (HV3.out.keep hy)
      replace HQ4:=bH (HQ4.out.keep hy)
      replace HM4:=bH (HM4.out.keep hy)
      clear hy
      generalize (u2.alloc (.cells #[.bool false,.slice none 0 0] 62))=u3 at *
      generalize u2.heap.size=s10 at *
      refine hK.out _ _ (hx3) (fun hHeld=>?_)
      clear hK K
      (try go_frame)
      obtain ⟨c0,c1,c2,c3⟩:=HO9.out.box.facts
      obtain ⟨d0,d1,d2,d3⟩:=HO10.out.box.facts
      refine ml 11 (h:=fun K hK=>?_)
      go_simp
      refine hK.out _ _ ?_
      clear hK K
      (try go_frame)
      have hp9:=HO9.out.box.put (neg:=ng) (no_int qo qn qc)
      obtain ⟨e0,e1,e2,e3⟩:=(HO10.out.box.ext hp9.ext (fun e=>HNE.out e.symm)).facts
      refine ml 12 (h:=fun K hK=>?_)
      go_simp
      refine hK.out _ _ ?_
      clear hK K
      (try go_frame)
      have hp9:=HO9.out.box.put (neg:=ng) (no_int qo qn qc)
      obtain ⟨e0,e1,e2,e3⟩:=(HO10.out.box.ext hp9.ext (fun e=>HNE.out e.symm)).facts
      refine ml 13 (h:=fun K hK=>?_)
      go_simp
      refine hK.out _ _ ?_
      clear hK K
      (try go_frame)
      refine mdone (by kernel_rfl) ?_ _
      have hp10:=(HO10.out.box.ext hp9.ext (fun e=>HNE.out e.symm)).put (neg:=mg) (no_int mo mn mc)
      go_wp2
      go_meet
      exact ⟨s9,s10,ng,qo,qn,qc,mg,mo,mn,mc,rfl,rfl,hp9.box.ext hp10.ext HNE.out,hp10.box,hp10.int (hp9.int HQ4.out),hp10.int (hp9.int HM4.out),(hx3.own hp9.ext (fun k e=>by rw [e]; exact HO9.out.low)).own hp10.ext (fun k e=>by rw [e]; exact HO10.out.low)⟩
     ·go_simp
      have hy:XF u1 ((u1.alloc (.cells #[.bool false,.slice none 0 0] 62))):=((Ext.refl (fun _=>False) u1).alloc (.cells #[.bool false,.slice none 0 0] 62))
      have HO10:=bH (BoxN.new (w0:=wq) (W:=(u1.alloc (.cells #[.bool false,.slice none 0 0] 62))) hx1.size (show BoxI ((u1.alloc (.cells #[.bool false,.slice none 0 0] 62))) u1.heap.size false (.slice none 0 0) from boxI_new (W:=u1) rfl false none 0 0))
      have HNE:=bH (show s9≠u1.heap.size from Nat.ne_of_lt HO9.out.box.lt)
      have hx2:XF wq ((u1.alloc (.cells #[.bool false,.slice none 0 0] 62))):=hx1.trans hy
      replace HO9:=bH (HO9.out.keep hy)
      replace HV3:=bH (HV3.out.keep hy)
      clear hy
      generalize (u1.alloc (.cells #[.bool false,.slice none 0 0] 62))=u2 at *
      generalize u1.heap.size=s10 at *
      refine hK.out _ _ (hx2) (fun hHeld=>?_)
      clear hK K
      (try go_frame)
      refine mst 4 (h:=fun K hK=>?_)
      go_simp
      go_at_call 204
      with_reducible refine (HFl.out _ (hx2) _ HV3.out).mono ?_
      rintro r3 u3 ⟨q4,m4,rfl,h4,hm4,hy⟩
      obtain ⟨ng,qo,qn,qc,rfl⟩:=h4.shape
      obtain ⟨mg,mo,mn,mc,rfl⟩:=hm4.shape
      have HQ4:=bH h4
      have HM4:=bH hm4
      clear h4 hm4
      replace HO9:=bH (HO9.out.keep hy)
      replace HV3:=bH (HV3.out.keep hy)
      replace HO10:=bH (HO10.out.keep hy)
      have hx3:XF wq u3:=hx2.trans hy
      clear hy
      refine hK.out _ _ (hx3) (fun hHeld=>?_)
      clear hK K
      (try go_frame)
      refine mu 5 (h:=(mu 6 (h:=(mf 7 (h:=(mf 8 (h:=?_)))))))
      (try go_frame)
      obtain ⟨c0,c1,c2,c3⟩:=HO9.out.box.facts
      obtain ⟨d0,d1,d2,d3⟩:=HO10.out.box.facts
      refine ml 11 (h:=fun K hK=>?_)
      go_simp
      refine hK.out _ _ ?_
      clear hK K
      (try go_frame)
      have hp9:=HO9.out.box.put (neg:=ng) (no_int qo qn qc)
      obtain ⟨e0,e1,e2,e3⟩:=(HO10.out.box.ext hp9.ext (fun e=>HNE.out e.symm)).facts
      refine ml 12 (h:=fun K hK=>?_)
      go_simp
      refine hK.out _ _ ?_
      clear hK K
      (try go_frame)
      have hp9:=HO9.out.box.put (neg:=ng) (no_int qo qn qc)
      obtain ⟨e0,e1,e2,e3⟩:=(HO10.out.box.ext hp9.ext (fun e=>HNE.out e.symm)).facts
      refine ml 13 (h:=fun K hK=>?_)
      go_simp
      refine hK.out _ _ ?_
      clear hK K
      (try go_frame)
      refine mdone (by kernel_rfl) ?_ _
      have hp10:=(HO10.out.box.ext hp9.ext (fun e=>HNE.out e.symm)).put (neg:=mg) (no_int mo mn mc)
      go_wp2
      go_meet
      exact ⟨s9,s10,ng,qo,qn,qc,mg,mo,mn,mc,rfl,rfl,hp9.box.ext hp10.ext HNE.out,hp10.box,hp10.int (hp9.int HQ4.out),hp10.int (hp9.int HM4.out),(hx3.own hp9.ext (fun k e=>by rw [e]; exact HO9.out.low)).own hp10.ext (fun k e=>by rw [e]; exact HO10.out.low)⟩
    ·go_simp
     have hy:XF u0 ((u0.alloc (.cells #[.bool false,.slice none 0 0] 62))):=((Ext.refl (fun _=>False) u0).alloc (.cells #[.bool false,.slice none 0 0] 62))
     have HO10:=bH (BoxN.new (w0:=wq) (W:=(u0.alloc (.cells #[.bool false,.slice none 0 0] 62))) hx0.size (show BoxI ((u0.alloc (.cells #[.bool false,.slice none 0 0] 62))) u0.heap.size false (.slice none 0 0) from boxI_new (W:=u0) rfl false none 0 0))
     have HNE:=bH (show s9≠u0.heap.size from Nat.ne_of_lt HO9.out.box.lt)
     have hx1:XF wq ((u0.alloc (.cells #[.bool false,.slice none 0 0] 62))):=hx0.trans hy
     replace HO9:=bH (HO9.out.keep hy)
     clear hy
     generalize (u0.alloc (.cells #[.bool false,.slice none 0 0] 62))=u1 at *
     generalize u0.heap.size=s10 at *
     refine hK.out _ _ (hx1) (fun hHeld=>?_)
     clear hK K
     (try go_frame)
     refine mst 3 (h:=fun K hK=>?_)
     go_simp
     go_at_call 133
     with_reducible refine (HDn.out _ (hx1)).mono ?_
     rintro r2 u2 ⟨v3,rfl,h3,hy⟩
     have HV3:=bH h3
     clear h3
     replace HO9:=bH (HO9.out.keep hy)
     replace HO10:=bH (HO10.out.keep hy)
     have hx2:XF wq u2:=hx1.trans hy
     clear hy
     refine hK.out _ _ (hx2) (fun hHeld=>?_)
     clear hK K
     (try go_frame)
     refine mst 4 (h:=fun K hK=>?_)
     go_simp
     go_at_call 204
     with_reducible refine (HFl.out _ (hx2) _ HV3.out).mono ?_
     rintro r3 u3 ⟨q4,m4,rfl,h4,hm4,hy⟩
     obtain ⟨ng,qo,qn,qc,rfl⟩:=h4.shape
     obtain ⟨mg,mo,mn,mc,rfl⟩:=hm4.shape
     have HQ4:=bH h4
     have HM4:=bH hm4
     clear h4 hm4
     replace HO9:=bH (HO9.out.keep hy)
     replace HO10:=bH (HO10.out.keep hy)
     replace HV3:=bH (HV3.out.keep hy)
     have hx3:XF wq u3:=hx2.trans hy
     clear hy
     refine hK.out _ _ (hx3) (fun hHeld=>?_)
     clear hK K
     (try go_frame)
     refine mu 5 (h:=(mu 6 (h:=(mf 7 (h:=(mf 8 (h:=?_)))))))
     (try go_frame)
     obtain ⟨c0,c1,c2,c3⟩:=HO9.out.box.facts
     obtain ⟨d0,d1,d2,d3⟩:=HO10.out.box.facts
     refine ml 11 (h:=fun K hK=>?_)
     go_simp
     refine hK.out _ _ ?_
     clear hK K
     (try go_frame)
     have hp9:=HO9.out.box.put (neg:=ng) (no_int qo qn qc)
     obtain ⟨e0,e1,e2,e3⟩:=(HO10.out.box.ext hp9.ext (fun e=>HNE.out e.symm)).facts
     refine ml 12 (h:=fun K hK=>?_)
     go_simp
     refine hK.out _ _ ?_
     clear hK K
     (try go_frame)
     have hp9:=HO9.out.box.put (neg:=ng) (no_int qo qn qc)
     obtain ⟨e0,e1,e2,e3⟩:=(HO10.out.box.ext hp9.ext (fun e=>HNE.out e.symm)).facts
     refine ml 13 (h:=fun K hK=>?_)
     go_simp
     refine hK.out _ _ ?_
     clear hK K
     (try go_frame)
     refine mdone (by kernel_rfl) ?_ _
     have hp10:=(HO10.out.box.ext hp9.ext (fun e=>HNE.out e.symm)).put (neg:=mg) (no_int mo mn mc)
     go_wp2
     go_meet
     exact ⟨s9,s10,ng,qo,qn,qc,mg,mo,mn,mc,rfl,rfl,hp9.box.ext hp10.ext HNE.out,hp10.box,hp10.int (hp9.int HQ4.out),hp10.int (hp9.int HM4.out),(hx3.own hp9.ext (fun k e=>by rw [e]; exact HO9.out.low)).own hp10.ext (fun k e=>by rw [e]; exact HO10.out.low)⟩
   ·go_simp
    have hy:XF wq ((wq.alloc (.cells #[.bool false,.slice none 0 0] 62)).drew):=((Ext.refl (fun _=>False) wq).alloc (.cells #[.bool false,.slice none 0 0] 62)).drew
    have HO10:=bH (BoxN.new (w0:=wq) (W:=(wq.alloc (.cells #[.bool false,.slice none 0 0] 62)).drew) (Ext.refl (fun _=>False) wq).size (show BoxI ((wq.alloc (.cells #[.bool false,.slice none 0 0] 62)).drew) wq.heap.size false (.slice none 0 0) from boxI_new (W:=wq) rfl false none 0 0))
    have hx0:XF wq ((wq.alloc (.cells #[.bool false,.slice none 0 0] 62)).drew):=hy
    clear hy
    generalize (wq.alloc (.cells #[.bool false,.slice none 0 0] 62)).drew=u0 at *
    generalize wq.heap.size=s10 at *
    refine hK.out _ _ (hx0) (fun hHeld=>?_)
    clear hK K
    (try go_frame)
    refine mtwo 3 9 rfl rfl (by kernel_rfl) (fun K hK=>?_) (fun K hK=>?_)
    ·go_simp
     go_at_call 133
     with_reducible refine (HDn.out _ (hx0)).mono ?_
     rintro r1 u1 ⟨v3,rfl,h3,hy⟩
     have HV3:=bH h3
     clear h3
     replace HO10:=bH (HO10.out.keep hy)
     have hx1:XF wq u1:=hx0.trans hy
     clear hy
     refine hK.out _ _ (hx1) (fun hHeld=>?_)
     clear hK K
     (try go_frame)
     refine mtwo 4 9 rfl rfl (by kernel_rfl) (fun K hK=>?_) (fun K hK=>?_)
     ·go_simp
      go_at_call 204
      with_reducible refine (HFl.out _ (hx1) _ HV3.out).mono ?_
      rintro r2 u2 ⟨q4,m4,rfl,h4,hm4,hy⟩
      obtain ⟨ng,qo,qn,qc,rfl⟩:=h4.shape
      obtain ⟨mg,mo,mn,mc,rfl⟩:=hm4.shape
      have HQ4:=bH h4
      have HM4:=bH hm4
      clear h4 hm4
      replace HO10:=bH (HO10.out.keep hy)
      replace HV3:=bH (HV3.out.keep hy)
      have hx2:XF wq u2:=hx1.trans hy
      clear hy
      refine hK.out _ _ (hx2) (fun hHeld=>?_)
      clear hK K
      (try go_frame)
      refine mu 5 (h:=(mu 6 (h:=(mf 7 (h:=(mf 8 (h:=?_)))))))
      (try go_frame)
      refine mst 9 (h:=fun K hK=>?_)
      go_simp
      have hy:XF u2 ((u2.alloc (.cells #[.bool false,.slice none 0 0] 62))):=((Ext.refl (fun _=>False) u2).alloc (.cells #[.bool false,.slice none 0 0] 62))
      have HO9:=bH (BoxN.new (w0:=wq) (W:=(u2.alloc (.cells #[.bool false,.slice none 0 0] 62))) hx2.size (show BoxI ((u2.alloc (.cells #[.bool false,.slice none 0 0] 62))) u2.heap.size false (.slice none 0 0) from boxI_new (W:=u2) rfl false none 0 0))
      have HNE:=bH (show s10≠u2.heap.size from Nat.ne_of_lt HO10.out.box.lt)
      have hx3:XF wq ((u2.alloc (.cells #[.bool false,.slice none 0 0] 62))):=hx2.trans hy
      replace HO10:=bH (HO10.out.keep hy)
      replace HV3:=bH (HV3.out.keep hy)
      replace HQ4:=bH (HQ4.out.keep hy)
      replace HM4:=bH (HM4.out.keep hy)
      clear hy
      generalize (u2.alloc (.cells #[.bool false,.slice none 0 0] 62))=u3 at *
      generalize u2.heap.size=s9 at *
      replace HNE:=bH (Ne.symm HNE.out)
      refine hK.out _ _ (hx3) (fun hHeld=>?_)
      clear hK K
      (try go_frame)
      obtain ⟨c0,c1,c2,c3⟩:=HO9.out.box.facts
      obtain ⟨d0,d1,d2,d3⟩:=HO10.out.box.facts
      refine ml 11 (h:=fun K hK=>?_)
      go_simp
      refine hK.out _ _ ?_
      clear hK K
      (try go_frame)
      have hp9:=HO9.out.box.put (neg:=ng) (no_int qo qn qc)
      obtain ⟨e0,e1,e2,e3⟩:=(HO10.out.box.ext hp9.ext (fun e=>HNE.out e.symm)).facts
      refine ml 12 (h:=fun K hK=>?_)
      go_simp
      refine hK.out _ _ ?_
      clear hK K
      (try go_frame)
      have hp9:=HO9.out.box.put (neg:=ng) (no_int qo qn qc)
      obtain ⟨e0,e1,e2,e3⟩:=(HO10.out.box.ext hp9.ext (fun e=>HNE.out e.symm)).facts
      refine ml 13 (h:=fun K hK=>?_)
      go_simp
      refine hK.out _ _ ?_
      clear hK K
      (try go_frame)
      refine mdone (by kernel_rfl) ?_ _
      have hp10:=(HO10.out.box.ext hp9.ext (fun e=>HNE.out e.symm)).put (neg:=mg) (no_int mo mn mc)
      go_wp2
      go_meet
      exact ⟨s9,s10,ng,qo,qn,qc,mg,mo,mn,mc,rfl,rfl,hp9.box.ext hp10.ext HNE.out,hp10.box,hp10.int (hp9.int HQ4.out),hp10.int (hp9.int HM4.out),(hx3.own hp9.ext (fun k e=>by rw [e]; exact HO9.out.low)).own hp10.ext (fun k e=>by rw [e]; exact HO10.out.low)⟩
     ·go_simp
      have hy:XF u1 ((u1.alloc (.cells #[.bool false,.slice none 0 0] 62))):=((Ext.refl (fun _=>False) u1).alloc (.cells #[.bool false,.slice none 0 0] 62))
      have HO9:=bH (BoxN.new (w0:=wq) (W:=(u1.alloc (.cells #[.bool false,.slice none 0 0] 62))) hx1.size (show BoxI ((u1.alloc (.cells #[.bool false,.slice none 0 0] 62))) u1.heap.size false (.slice none 0 0) from boxI_new (W:=u1) rfl false none 0 0))
      have HNE:=bH (show s10≠u1.heap.size from Nat.ne_of_lt HO10.out.box.lt)
      have hx2:XF wq ((u1.alloc (.cells #[.bool false,.slice none 0 0] 62))):=hx1.trans hy
      replace HO10:=bH (HO10.out.keep hy)
      replace HV3:=bH (HV3.out.keep hy)
      clear hy
      generalize (u1.alloc (.cells #[.bool false,.slice none 0 0] 62))=u2 at *
      generalize u1.heap.size=s9 at *
      replace HNE:=bH (Ne.symm HNE.out)
      refine hK.out _ _ (hx2) (fun hHeld=>?_)
      clear hK K
      (try go_frame)
      refine mst 4 (h:=fun K hK=>?_)
      go_simp
      go_at_call 204
      with_reducible refine (HFl.out _ (hx2) _ HV3.out).mono ?_
      rintro r3 u3 ⟨q4,m4,rfl,h4,hm4,hy⟩
      obtain ⟨ng,qo,qn,qc,rfl⟩:=h4.shape
      obtain ⟨mg,mo,mn,mc,rfl⟩:=hm4.shape
      have HQ4:=bH h4
      have HM4:=bH hm4
      clear h4 hm4
      replace HO10:=bH (HO10.out.keep hy)
      replace HV3:=bH (HV3.out.keep hy)
      replace HO9:=bH (HO9.out.keep hy)
      have hx3:XF wq u3:=hx2.trans hy
      clear hy
      refine hK.out _ _ (hx3) (fun hHeld=>?_)
      clear hK K
      (try go_frame)
      refine mu 5 (h:=(mu 6 (h:=(mf 7 (h:=(mf 8 (h:=?_)))))))
      (try go_frame)
      obtain ⟨c0,c1,c2,c3⟩:=HO9.out.box.facts
      obtain ⟨d0,d1,d2,d3⟩:=HO10.out.box.facts
      refine ml 11 (h:=fun K hK=>?_)
      go_simp
      refine hK.out _ _ ?_
      clear hK K
      (try go_frame)
      have hp9:=HO9.out.box.put (neg:=ng) (no_int qo qn qc)
      obtain ⟨e0,e1,e2,e3⟩:=(HO10.out.box.ext hp9.ext (fun e=>HNE.out e.symm)).facts
      refine ml 12 (h:=fun K hK=>?_)
      go_simp
      refine hK.out _ _ ?_
      clear hK K
      (try go_frame)
      have hp9:=HO9.out.box.put (neg:=ng) (no_int qo qn qc)
      obtain ⟨e0,e1,e2,e3⟩:=(HO10.out.box.ext hp9.ext (fun e=>HNE.out e.symm)).facts
      refine ml 13 (h:=fun K hK=>?_)
      go_simp
      refine hK.out _ _ ?_
      clear hK K
      (try go_frame)
      refine mdone (by kernel_rfl) ?_ _
      have hp10:=(HO10.out.box.ext hp9.ext (fun e=>HNE.out e.symm)).put (neg:=mg) (no_int mo mn mc)
      go_wp2
      go_meet
      exact ⟨s9,s10,ng,qo,qn,qc,mg,mo,mn,mc,rfl,rfl,hp9.box.ext hp10.ext HNE.out,hp10.box,hp10.int (hp9.int HQ4.out),hp10.int (hp9.int HM4.out),(hx3.own hp9.ext (fun k e=>by rw [e]; exact HO9.out.low)).own hp10.ext (fun k e=>by rw [e]; exact HO10.out.low)⟩
    ·go_simp
     have hy:XF u0 ((u0.alloc (.cells #[.bool false,.slice none 0 0] 62))):=((Ext.refl (fun _=>False) u0).alloc (.cells #[.bool false,.slice none 0 0] 62))
     have HO9:=bH (BoxN.new (w0:=wq) (W:=(u0.alloc (.cells #[.bool false,.slice none 0 0] 62))) hx0.size (show BoxI ((u0.alloc (.cells #[.bool false,.slice none 0 0] 62))) u0.heap.size false (.slice none 0 0) from boxI_new (W:=u0) rfl false none 0 0))
     have HNE:=bH (show s10≠u0.heap.size from Nat.ne_of_lt HO10.out.box.lt)
     have hx1:XF wq ((u0.alloc (.cells #[.bool false,.slice none 0 0] 62))):=hx0.trans hy
     replace HO10:=bH (HO10.out.keep hy)
     clear hy
     generalize (u0.alloc (.cells #[.bool false,.slice none 0 0] 62))=u1 at *
     generalize u0.heap.size=s9 at *
     replace HNE:=bH (Ne.symm HNE.out)
     refine hK.out _ _ (hx1) (fun hHeld=>?_)
     clear hK K
     (try go_frame)
     refine mst 3 (h:=fun K hK=>?_)
     go_simp
     go_at_call 133
     with_reducible refine (HDn.out _ (hx1)).mono ?_
     rintro r2 u2 ⟨v3,rfl,h3,hy⟩
     have HV3:=bH h3
     clear h3
     replace HO10:=bH (HO10.out.keep hy)
     replace HO9:=bH (HO9.out.keep hy)
     have hx2:XF wq u2:=hx1.trans hy
     clear hy
     refine hK.out _ _ (hx2) (fun hHeld=>?_)
     clear hK K
     (try go_frame)
     refine mst 4 (h:=fun K hK=>?_)
     go_simp
     go_at_call 204
     with_reducible refine (HFl.out _ (hx2) _ HV3.out).mono ?_
     rintro r3 u3 ⟨q4,m4,rfl,h4,hm4,hy⟩
     obtain ⟨ng,qo,qn,qc,rfl⟩:=h4.shape
     obtain ⟨mg,mo,mn,mc,rfl⟩:=hm4.shape
     have HQ4:=bH h4
     have HM4:=bH hm4
     clear h4 hm4
     replace HO10:=bH (HO10.out.keep hy)
     replace HO9:=bH (HO9.out.keep hy)
     replace HV3:=bH (HV3.out.keep hy)
     have hx3:XF wq u3:=hx2.trans hy
     clear hy
     refine hK.out _ _ (hx3) (fun hHeld=>?_)
     clear hK K
     (try go_frame)
     refine mu 5 (h:=(mu 6 (h:=(mf 7 (h:=(mf 8 (h:=?_)))))))
     (try go_frame)
     obtain ⟨c0,c1,c2,c3⟩:=HO9.out.box.facts
     obtain ⟨d0,d1,d2,d3⟩:=HO10.out.box.facts
     refine ml 11 (h:=fun K hK=>?_)
     go_simp
     refine hK.out _ _ ?_
     clear hK K
     (try go_frame)
     have hp9:=HO9.out.box.put (neg:=ng) (no_int qo qn qc)
     obtain ⟨e0,e1,e2,e3⟩:=(HO10.out.box.ext hp9.ext (fun e=>HNE.out e.symm)).facts
     refine ml 12 (h:=fun K hK=>?_)
     go_simp
     refine hK.out _ _ ?_
     clear hK K
     (try go_frame)
     have hp9:=HO9.out.box.put (neg:=ng) (no_int qo qn qc)
     obtain ⟨e0,e1,e2,e3⟩:=(HO10.out.box.ext hp9.ext (fun e=>HNE.out e.symm)).facts
     refine ml 13 (h:=fun K hK=>?_)
     go_simp
     refine hK.out _ _ ?_
     clear hK K
     (try go_frame)
     refine mdone (by kernel_rfl) ?_ _
     have hp10:=(HO10.out.box.ext hp9.ext (fun e=>HNE.out e.symm)).put (neg:=mg) (no_int mo mn mc)
     go_wp2
     go_meet
     exact ⟨s9,s10,ng,qo,qn,qc,mg,mo,mn,mc,rfl,rfl,hp9.box.ext hp10.ext HNE.out,hp10.box,hp10.int (hp9.int HQ4.out),hp10.int (hp9.int HM4.out),(hx3.own hp9.ext (fun k e=>by rw [e]; exact HO9.out.low)).own hp10.ext (fun k e=>by rw [e]; exact HO10.out.low)⟩
  case rest =>
  obtain ⟨s9,s10,ng,qo,qn,qc,mg,mo,mn,mc,rfl,rfl,hb9,hb10,hq9,hm9,hx9⟩:=hcut
  clear b0 b1' b2
  obtain ⟨e0,e1,-⟩:=hb10.facts
  have HR:=bH (bI hb9 (bI hq9 (bI hm9 (HB.out.2.trans hx9))))
  clear hb9 hb10 hq9 hm9 hx9
  go_wp2_with fail
  refine (HSg.out _ _ HR.out.2.2.1).mono ?_
  rintro r1 w1 ⟨rfl,hx1⟩
  obtain ⟨f0,f1,-⟩:=(HR.out.1.ext hx1 id).facts
  have HQ:=bH (bI (HR.out.2.1.keep hx1) (HR.out.2.2.2.trans hx1))
  clear hx1 e0 e1
  go_wp2_with fail
  refine (HIi.out _ _ HQ.out.1).mono ?_
  rintro r2 w2 ⟨rfl,hx2⟩
  have HX:=bH (HQ.out.2.trans hx2)
  clear hx2 f0 f1
  go_wp2
  go_ret2
  exact ⟨rfl,HX.out⟩
def LimPost (w:World) (z:Int) (r:Ending) (w':World):Prop:=r=.returned (.tuple #[.int .i64 (toR z),.bool (limB z)])/\XF w w'
theorem lim_parts (z:Int):limB z=(inRB z && (decide (-1099511627776<=toR z) && decide (toR z<=1099511627776))):=by
 unfold limB
 cases h:inRB z with
 | true=>rw [toR_in h]; rfl
 | false =>
  unfold inRB at h
  rw [Bool.false_and,Bool.and_eq_false_iff,decide_eq_false_iff_not,decide_eq_false_iff_not]
  rw [Bool.and_eq_false_iff,decide_eq_false_iff_not,decide_eq_false_iff_not] at h
  omega
theorem climitedR_any (w:World) (n1:Bool) (a1:Option Addr) (l1 c1:Nat) (x1:Option Addr) (y1 k1:Nat) (z:Int) (L:Nat) (h:Rint w (.agg #[.bool n1,.slice a1 l1 c1]) z L) (hd:Rds w (.slice x1 y1 k1) []) (h0:1<=L) (hL:L<=4194304) :
  Calls Tryz.prog 118 #[.agg #[.bool n1,.slice a1 l1 c1,.slice x1 y1 k1]] w (LimPost w z):=by
 have HI:=bH (fun W (hW:XF w W)=>rint64_any W n1 a1 l1 c1 x1 y1 k1 z L (h.keep hW) (hd.keep hW) h0 hL)
 clear h hd
 unfold LimPost
 have HP:=bH (lim_parts z)
 unfold I64Post at HI
 generalize limB z=B at *
 generalize toR z=t at *
 generalize inRB z=b at *
 have HX:=bH ((Ext.refl (fun _=>False) w).alloc (.cells #[.bool n1,.slice a1 l1 c1,.slice x1 y1 k1] 64))
 cases b with
 | false =>
  have HB:=bH (show B=false from HP.out)
  clear HP
  go_enter Tryz.func118,Tryz.ntmps118
  go_wp2_with fail
  refine (HI.out _ HX.out).mono ?_
  rintro r2 w2 ⟨rfl,hx2⟩
  have HX2:=bH (HX.out.trans hx2)
  clear hx2
  go_wp2
  go_ret2
  exact ⟨(by rw [HB.out]; rfl),HX2.out⟩
 | true =>
  by_cases h1:-1099511627776<=t
  ·by_cases h2:t<=1099511627776
   ·have HB:=bH (show B=true from by rw [HP.out,decide_eq_true h1,decide_eq_true h2]; rfl)
    clear HP
    go_enter Tryz.func118,Tryz.ntmps118
    go_wp2_with fail
    refine (HI.out _ HX.out).mono ?_
    rintro r2 w2 ⟨rfl,hx2⟩
    have HX2:=bH (HX.out.trans hx2)
    clear hx2
    go_wp2
    go_ret2
    exact ⟨(by rw [HB.out]; rfl),HX2.out⟩
   ·have HB:=bH (show B=false from by rw [HP.out,decide_eq_true h1,decide_eq_false h2]; rfl)
    have h3:decide (t<=1099511627776)=false:=decide_eq_false h2
    clear HP
    go_enter Tryz.func118,Tryz.ntmps118
    go_wp2_with fail
    refine (HI.out _ HX.out).mono ?_
    rintro r2 w2 ⟨rfl,hx2⟩
    have HX2:=bH (HX.out.trans hx2)
    clear hx2
    go_wp2
    go_ret2
    exact ⟨(by rw [HB.out]; rfl),HX2.out⟩
  ·have HB:=bH (show B=false from by rw [HP.out,decide_eq_false h1]; rfl)
   have h3:decide (-1099511627776<=t)=false:=decide_eq_false h1
   clear HP
   go_enter Tryz.func118,Tryz.ntmps118
   go_wp2_with fail
   refine (HI.out _ HX.out).mono ?_
   rintro r2 w2 ⟨rfl,hx2⟩
   have HX2:=bH (HX.out.trans hx2)
   clear hx2
   go_wp2
   go_ret2
   exact ⟨(by rw [HB.out]; rfl),HX2.out⟩
theorem IsRat.whole {w:World} {b:Bool} {m d:Value} {z:Int} (h:IsRat w (.agg #[.bool b,m,d]) (z:Rat)):IsInt w (.agg #[.bool b,m]) z/\Rds w d []:=by
 obtain ⟨m',d',e,h1,h2⟩:=h
 cases e
 refine ⟨⟨_,rfl,h1⟩,?_⟩
 have h3:IsNat w d (dw 1):=h2
 unfold IsNat dw at h3
 rwa [if_pos rfl,dg_zero] at h3
theorem climited_any (w:World) (v:Value) (z:Int) (L:Nat) (h:IsRat w v (z:Rat)) (hl:(dg z.natAbs).length<=L) (h0:1<=L) (hL:L<=4194304):Calls Tryz.prog 118 #[v] w (LimPost w z):=by
 obtain ⟨n1,a1,l1,c1,x1,y1,k1,rfl⟩:=h.shape
 exact climitedR_any w n1 a1 l1 c1 x1 y1 k1 z L (h.whole.1.reads hl) h.whole.2 h0 hL
theorem IsInt.rat {w:World} {ng:Bool} {ao:Option Addr} {n c:Nat} {z:Int} (h:IsInt w (.agg #[.bool ng,.slice ao n c]) z):IsRat w (.agg #[.bool ng,.slice ao n c,.slice none 0 0]) (z:Rat):=by
 obtain ⟨m,e,hm⟩:=h
 cases e
 refine ⟨_,_,rfl,hm,?_⟩
 show IsNat w (.slice none 0 0) (dw 1)
 unfold IsNat dw
 rw [if_pos rfl,dg_zero]
 exact Rds.nil w
def WholePost (w:World) (ng:Bool) (ao:Option Addr) (n c:Nat) (r:Ending) (w':World):Prop:=r=.returned (.agg #[.bool ng,.slice ao n c,.slice none 0 0])/\XF w w'
theorem whole_any (w:World) (ng:Bool) (ao:Option Addr) (n c:Nat):Calls Tryz.prog 113 #[.agg #[.bool ng,.slice ao n c]] w (WholePost w ng ao n c):=by
 have hr:=boxR_new (W:=w.alloc (.cells #[.bool ng,.slice ao n c] 62)) (k:=w.heap.size+1) (by simp) false none 0 0 none 0 0
 have hb:=(boxI_new (W:=w) rfl ng ao n c).alloc (.cells #[.bool false,.slice none 0 0,.slice none 0 0] 64)
 have hx:=((Ext.refl (fun _=>False) w).alloc (.cells #[.bool ng,.slice ao n c] 62)).alloc (.cells #[.bool false,.slice none 0 0,.slice none 0 0] 64)
 have hlt:w.heap.size<=w.heap.size+1:=by omega
 have HB:=bH (bI hr (bI hx hlt))
 obtain ⟨b0,b1,b2,b3⟩:=hb.facts
 obtain ⟨d0,d1,d2,d3,d4,d5⟩:=hr.facts
 clear hr hb hx hlt
 go_enter Tryz.func113,Tryz.ntmps113
 go_upto_region 1 with fail
 generalize (w.alloc (.cells #[.bool ng,.slice ao n c] 62)).alloc (.cells #[.bool false,.slice none 0 0,.slice none 0 0] 64)=w1 at *
 generalize w.heap.size+1=rb at *
 have hp:=HB.out.1.put (neg:=ng) (no_int ao n c) (no_int none 0 0)
 have HR:=bH (bI (HB.out.2.1.own hp.ext (fun k e=>by rw [e]; exact HB.out.2.2)) hp.box)
 clear hp
 go_wp2
 generalize ((w1.setCell ⟨rb,0,none⟩ (.bool ng)).setCell ⟨rb,1,none⟩ (.slice ao n c)).setCell ⟨rb,2,none⟩ (.slice none 0 0)=w20 at *
 obtain ⟨g0,g1,g2,_⟩:=HR.out.2.facts
 exact bodyPost_ret (v:=.agg #[.bool ng,.slice ao n c,.slice none 0 0]) (by simp [results,Tryz.results113,go_sem,g0,g1,g2]) rfl ⟨rfl,HR.out.1⟩
structure AppG (w w':World) (base:Nat) (e:TypeId) (size:Nat) (v v':Value) (n:Nat) (xs news:List Value):Prop where
 own:w'.ownsRow base e size v' (n+1) (xs++news)
 ext:Ext (fun k=>v.ownBlock=some k) w w'
 rds:∀ u d,Rds w u d->Rds w' u d
 noDig:∀ g,v'.ownBlock=some g->NoDig w' g
theorem step_appG {w:World} {ops:Array Oper} {o:Oper} {a:Act} {K:Act->World->Prop} {Q:Exit->Act->World->Prop} {E:Prop} {z:Value} {size bytes:Nat} {e T:TypeId}
  (hgd:o.guard=none) (s x:Operand) (ho:o.op=.call { callee:=.builtin .append,args:=#[s,x],argTypes:=#[T,T] }) (ht:Tryz.prog.underlying T=some (.slice e)) (hi:(Tryz.prog.info? e).map (fun i=>(i.zero,i.size,i.bytes))=some (some z,size,bytes)) (hzs:z.cells.size=size) (hzn:NoD z.cells.toList) (hsz:0<size) (hbs:bytes<=1000)
  (base:Nat) (v:Value) (n:Nat) (xs:List Value) (hs:a.eval s=v) (hown:w.ownsRow base e size v n xs) (hnd:∀ g,v.ownBlock=some g->NoDig w g) (hxs:NoD xs) (ad:Addr) (c:Nat) (news:List Value) (hx:a.eval x=.slice (some ad) 1 c) (hl:news.length=size) (hsrc:∀ j u,news[j]?=some u->w.cell? (ad.add j)=some u) (h1:∀ u ∈ news,u.oneCell'=true) (hnn:NoD news) (hn:n<=100000) (hbase:base<=w.heap.size)
  (h:∀ v' w',AppG w w' base e size v v' n xs news->K (a.put o.dst v') w') :
  if Region.wanted o (yielded ops a.tmps)=true then Oper.wp Tryz.prog o a w K Q else E:=by
 have hw:Region.wanted o (yielded ops a.tmps)=true:=by simp [Region.wanted,hgd]
 rw [if_pos hw]
 obtain ⟨i0,hi0,hz0,hz1,hz2⟩:=info_parts hi
 have hby:(n+1)*bytes<=140737488355328:=Nat.le_trans (Nat.mul_le_mul (show n+1<=100001 by omega) hbs) (by decide)
 obtain ⟨v',w',hr,g1,g2,g3⟩:=run_append_any (P:=Tryz.prog) (w:=w) base T o.type e i0 z size bytes ht hi0 hz0 hz1 hz2 hzs hsz v n xs hown (some ad) 1 c (fun e=>by cases e) news (by rw [hl]; omega) (.inr ⟨ad,rfl,hsrc⟩) h1 (by unfold maxLen; omega) hby hbase
 have hx':Ext (fun k=>v.ownBlock=some k) w w':=(Ext.refl (fun k=>v.ownBlock=some k) w).grown g2 (fun k hk _=>hk)
 have hnd':=append_noDig (P:=Tryz.prog) w base T o.type e i0 z ht hi0 hz0 (by rw [hz1]; exact hzs) hzn v n xs (by rw [hz1]; exact hown) hnd hxs ad 1 c news (by rw [hz1,hl]; omega) hsrc h1 hnn (by decide) (by unfold maxLen; omega) (by rw [hz2]; exact hby) v' w' hr
 unfold Oper.wp execOp
 simp only [ho,resolve,invoke,builtin,Sem.run_bind,Sem.run_pure,Result.andThen_ok,List.map_toArray,List.map_cons,List.map_nil,hs,hx,hr]
 exact h v' w' ⟨g1,hx',fun u d hu=>hu.past hx' (fun k _ hk=>hnd k hk),hnd'⟩
theorem wpList_appG {w:World} {ops:Array Oper} {rest:List Oper} {o:Oper} {a:Act} {Q:Exit->Act->World->Prop} {z:Value} {size bytes:Nat} {e T:TypeId}
  (hgd:o.guard=none) (s x:Operand) (ho:o.op=.call { callee:=.builtin .append,args:=#[s,x],argTypes:=#[T,T] }) (ht:Tryz.prog.underlying T=some (.slice e)) (hi:(Tryz.prog.info? e).map (fun i=>(i.zero,i.size,i.bytes))=some (some z,size,bytes)) (hzs:z.cells.size=size) (hzn:NoD z.cells.toList) (hsz:0<size) (hbs:bytes<=1000)
  (base:Nat) (v:Value) (n:Nat) (xs:List Value) (hs:a.eval s=v) (hown:w.ownsRow base e size v n xs) (hnd:∀ g,v.ownBlock=some g->NoDig w g) (hxs:NoD xs) (ad:Addr) (c:Nat) (news:List Value) (hx:a.eval x=.slice (some ad) 1 c) (hl:news.length=size) (hsrc:∀ j u,news[j]?=some u->w.cell? (ad.add j)=some u) (h1:∀ u ∈ news,u.oneCell'=true) (hnn:NoD news) (hn:n<=100000) (hbase:base<=w.heap.size)
  (h:∀ v' w',AppG w w' base e size v v' n xs news->wpList Tryz.prog ops Q rest (a.put o.dst v') w') :
  wpList Tryz.prog ops Q (o :: rest) a w:=by
 refine wpList_plain hgd fun K hK=>?_
 have h2:=step_appG (w:=w) (ops:=ops) (o:=o) (a:=a) (K:=K) (Q:=Q) (E:=True) hgd s x ho ht hi hzs hzn hsz hbs base v n xs hs hown hnd hxs ad c news hx hl hsrc h1 hnn hn hbase (fun v' w' ha=>hK _ _ (h v' w' ha))
 rwa [if_pos (by simp [Region.wanted,hgd])] at h2
theorem cT_noD (t:TermV):NoD (cT t):=fun u hu d e=>by
 simp [cT] at hu
 rcases hu with rfl | rfl <;> cases e
theorem cTs_noD (ts:List TermV):NoD (ts.flatMap cT):=fun u hu d e=>by
 obtain ⟨t,_,h⟩:=List.mem_flatMap.1 hu
 exact cT_noD t u h d e
def AccR (w:World) (b:Nat) (q:Rat):Prop:=∃ ng a1 m1 c1 a2 m2 c2,BoxR w b ng (.slice a1 m1 c1) (.slice a2 m2 c2)/\IsRat w (.agg #[.bool ng,.slice a1 m1 c1,.slice a2 m2 c2]) q
theorem IsRat.pastR {w w':World} {v:Value} {q:Rat} (h:IsRat w v q) (hr:∀ v l,Rds w v l->Rds w' v l):IsRat w' v q:=by
 obtain ⟨mag,dv',g1,g2,g3⟩:=h
 exact ⟨mag,dv',g1,hr _ _ g2,hr _ _ g3⟩
theorem AccR.keep {w w':World} {b:Nat} {q:Rat} (h:AccR w b q) (hx:XF w w'):AccR w' b q:=by
 obtain ⟨ng,a1,m1,c1,a2,m2,c2,h1,h2⟩:=h
 exact ⟨ng,a1,m1,c1,a2,m2,c2,h1.keep hx,h2.keep hx⟩
theorem AccR.past {S:Nat->Prop} {w w':World} {b:Nat} {q:Rat} (h:AccR w b q) (hx:Ext S w w') (hb:¬ S b) (hr:∀ v l,Rds w v l->Rds w' v l):AccR w' b q:=by
 obtain ⟨ng,a1,m1,c1,a2,m2,c2,h1,h2⟩:=h
 exact ⟨ng,a1,m1,c1,a2,m2,c2,h1.ext hx hb,h2.pastR hr⟩
theorem AccR.lt {w:World} {b:Nat} {q:Rat} (h:AccR w b q):b<w.heap.size:=by
 obtain ⟨ng,a1,m1,c1,a2,m2,c2,h1,h2⟩:=h
 exact h1.lt
theorem AccR.ty {w:World} {b:Nat} {q:Rat} (h:AccR w b q):TyB w b 64:=by
 obtain ⟨ng,a1,m1,c1,a2,m2,c2,h1,h2⟩:=h
 exact ⟨_,h1.1⟩
def zeroRow:Array Value:=#[.string ⟨#[]⟩,.int .i64 0,.int .i64 0,.slice none 0 0,.int .i64 0]
def cutRow (vt:Value) (b:Int):Array Value:=#[.string ⟨#[99,117,116]⟩,.int .i64 0,.int .i64 1,vt,.int .i64 b]
theorem blk_ext {S:Nat->Prop} {w w':World} {b:Nat} {a:Array Value} {T:TypeId} (h:blk w b=some (.cells a T (0,0))) (hx:Ext S w w') (hn:¬ S b):blk w' b=some (.cells a T (0,0)):=(hx.blk (blk_lt h) hn).trans h
structure RdSt (w wr:World) (pb resb bb rwb mb B n:Nat) (pc:Array Value) (f:Nat->Rat) (qb qm:Rat) (vt:Value) (ts:List TermV):Prop where
 ext:XF w wr
 bp:blk wr pb=some (.cells pc 25 (0,0))
 res:blk wr resb=some (.cells zeroRow 35 (0,0))
 arr:RArr wr B n f
 accb:AccR wr bb qb
 row:blk wr rwb=some (.cells (cutRow vt 0) 35 (0,0))
 accm:AccR wr mb qm
 own:wr.ownsRow w.heap.size 70 2 vt ts.length (ts.flatMap cT)
 nod:∀ g,vt.ownBlock=some g->NoDig wr g
 ord:w.heap.size<=resb/\resb<B/\B<bb/\bb<rwb/\rwb<mb
section
variable {w wr w':World} {pb resb bb rwb mb B n:Nat} {pc:Array Value} {f:Nat->Rat} {qb qm q:Rat} {vt vt':Value} {ts:List TermV} {t:TermV}
theorem RdSt.keep (h:RdSt w wr pb resb bb rwb mb B n pc f qb qm vt ts) (hx:XF wr w'):RdSt w w' pb resb bb rwb mb B n pc f qb qm vt ts :=
 ⟨h.ext.trans hx,blk_keep h.bp hx,blk_keep h.res hx,h.arr.keep hx,h.accb.keep hx,blk_keep h.row hx,h.accm.keep hx,ownsRow_ext h.own hx (fun _ _ e=>e),fun g hg i d hc=>h.nod g hg i d (by rw [<- hx.cell (p:=⟨g,i,none⟩) (World.ownsRow.lt h.own g hg).2 (fun e=>e)]; exact hc),h.ord⟩
theorem RdSt.congr {qb' qm':Rat} {ts':List TermV} (h:RdSt w wr pb resb bb rwb mb B n pc f qb qm vt ts) (h1:qb=qb') (h2:qm=qm') (h3:ts=ts'):RdSt w wr pb resb bb rwb mb B n pc f qb' qm' vt ts':=by
 subst h1; subst h2; subst h3; exact h
theorem RdSt.setBox {s:Nat} (h:RdSt w wr pb resb bb rwb mb B n pc f qb qm vt ts) (hs:s=bb∨s=mb) {n0:Bool} {m0 d0:Value} (hb:BoxR wr s n0 m0 d0) {neg:Bool} {a1 a2:Option Addr} {m1 c1 m2 c2:Nat} (hq:IsRat wr (.agg #[.bool neg,.slice a1 m1 c1,.slice a2 m2 c2]) q) :
  RdSt w (((wr.setCell ⟨s,0,none⟩ (.bool neg)).setCell ⟨s,1,none⟩ (.slice a1 m1 c1)).setCell ⟨s,2,none⟩ (.slice a2 m2 c2)) pb resb bb rwb mb B n pc f (if s=bb then q else qb) (if s=bb then qm else q) vt ts /\
  Ext (fun k=>k=s) wr (((wr.setCell ⟨s,0,none⟩ (.bool neg)).setCell ⟨s,1,none⟩ (.slice a1 m1 c1)).setCell ⟨s,2,none⟩ (.slice a2 m2 c2))/\∀ v l,Rds wr v l->Rds (((wr.setCell ⟨s,0,none⟩ (.bool neg)).setCell ⟨s,1,none⟩ (.slice a1 m1 c1)).setCell ⟨s,2,none⟩ (.slice a2 m2 c2)) v l:=by
 have hp:=hb.put (neg:=neg) (no_int a1 m1 c1) (no_int a2 m2 c2)
 have hx:=hp.ext
 have hr:=hp.rds
 obtain ⟨o0,o1,o2,o3,o4⟩:=h.ord
 have hty:TyB wr s 64:=⟨_,hb.1⟩
 refine ⟨⟨h.ext.own hx (fun k e=>by have e':k=s:=e; omega),blk_ext h.bp hx (fun e=>typ_ne' ⟨_,h.bp⟩ hty (by decide) e),blk_ext h.res hx (fun e=>typ_ne' ⟨_,h.res⟩ hty (by decide) e),h.arr.past hx (fun e=>by have e':B=s:=e; omega) hr,?_,blk_ext h.row hx (fun e=>typ_ne' ⟨_,h.row⟩ hty (by decide) e),?_,ownsRow_ext h.own hx (fun g hg e=>typ_ne' (own_ty h.own g hg) hty (by decide) e),fun g hg i d hc=>h.nod g hg i d (by rw [<- hx.cell (p:=⟨g,i,none⟩) (World.ownsRow.lt h.own g hg).2 (fun e=>typ_ne' (own_ty h.own g hg) hty (by decide) e)]; exact hc),h.ord⟩,hx,hr⟩
 ·by_cases e:s=bb
  ·rw [if_pos e]; subst e
   exact ⟨_,_,_,_,_,_,_,hp.box,hq.pastR hr⟩
  ·rw [if_neg e]
   exact h.accb.past hx (fun e2=>e e2.symm) hr
 ·by_cases e:s=bb
  ·rw [if_pos e]
   exact h.accm.past hx (fun e2=>by have e':mb=s:=e2; omega) hr
  ·rw [if_neg e]
   have e':s=mb:=hs.resolve_left e
   subst e'
   exact ⟨_,_,_,_,_,_,_,hp.box,hq.pastR hr⟩
theorem RdSt.push (h:RdSt w wr pb resb bb rwb mb B n pc f qb qm vt ts) (hA:AppG wr w' w.heap.size 70 2 vt vt' ts.length (ts.flatMap cT) (cT t)) (hsl:∃ ao m c,vt'=.slice ao m c) (h0:∃ ao m c,vt=.slice ao m c) :
  RdSt w (w'.setCell ⟨rwb,3,none⟩ vt') pb resb bb rwb mb B n pc f qb qm vt' (ts++[t])/\blk w' rwb=some (.cells (cutRow vt 0) 35 (0,0)):=by
 obtain ⟨o0,o1,o2,o3,o4⟩:=h.ord
 obtain ⟨hn,hx,hr,hnd⟩:=hA
 have hn':w'.ownsRow w.heap.size 70 2 vt' (ts++[t]).length ((ts++[t]).flatMap cT):=by
  rw [List.length_append,List.flatMap_append]
  simpa using hn
 have hty:∀ k,vt.ownBlock=some k->TyB wr k 70:=own_ty h.own
 have k1:=blk_ext h.bp hx (fun e=>typ_ne' ⟨_,h.bp⟩ (hty _ e) (by decide) rfl)
 have k2:=blk_ext h.res hx (fun e=>typ_ne' ⟨_,h.res⟩ (hty _ e) (by decide) rfl)
 have k3:=blk_ext h.row hx (fun e=>typ_ne' ⟨_,h.row⟩ (hty _ e) (by decide) rfl)
 obtain ⟨arr,ha,hsz⟩:=h.arr.row
 have k4:=h.arr.past hx (fun e=>typ_ne' ⟨_,ha⟩ (hty _ e) (by decide) rfl) hr
 have k5:=h.accb.past hx (fun e=>typ_ne' h.accb.ty (hty _ e) (by decide) rfl) hr
 have k6:=h.accm.past hx (fun e=>typ_ne' h.accm.ty (hty _ e) (by decide) rfl) hr
 have hx2:=(Ext.refl (fun k=>k=rwb) w').setCell (p:=⟨rwb,3,none⟩) vt' (fun _=>rfl)
 have hndr:NoDig w' rwb:=noDig_cells k3 (fun u hu d e=>by
  obtain ⟨ao,m,c,rfl⟩:=h0
  simp [cutRow] at hu
  rcases hu with rfl | rfl | rfl | rfl | rfl <;> cases e)
 have hr2:∀ v l,Rds w' v l->Rds (w'.setCell ⟨rwb,3,none⟩ vt') v l:=fun v l hv=>hv.past hx2 (fun k _ e=>by have e':k=rwb:=e; subst e'; exact hndr)
 refine ⟨⟨(h.ext.own hx (fun k e=>(World.ownsRow.lt h.own k e).1)).own hx2 (fun k e=>by have e':k=rwb:=e; omega),blk_ext k1 hx2 (fun e=>typ_ne' ⟨_,k1⟩ ⟨_,k3⟩ (by decide) e),blk_ext k2 hx2 (fun e=>by have e':resb=rwb:=e; omega),k4.past hx2 (fun e=>by have e':B=rwb:=e; omega) hr2,k5.past hx2 (fun e=>by have e':bb=rwb:=e; omega) hr2,blk_setCell_same k3 3 vt',k6.past hx2 (fun e=>by have e':mb=rwb:=e; omega) hr2,ownsRow_ext hn' hx2 (fun g hg e=>typ_ne' (own_ty hn' g hg) ⟨_,k3⟩ (by decide) e),fun g hg i d hc=>hnd g hg i d (by rw [<- hx2.cell (p:=⟨g,i,none⟩) (World.ownsRow.lt hn' g hg).2 (fun e=>typ_ne' (own_ty hn' g hg) ⟨_,k3⟩ (by decide) e)]; exact hc),h.ord⟩,k3⟩
end
def lowT (p:ProgV) (y:List Rat) (i:Nat):Rat:=sumTo i fun j=>combA p y j*((p.v j).lo:Rat)
def upT' (p:ProgV) (y:List Rat) (i:Nat):Rat:=sumTo i fun j=>(upJ p y j:Rat)*((p.v j).lo:Rat)
def smallT (p:ProgV) (y:List Rat) (i:Nat):Bool:=allTo i fun j=>limB (upJ p y j)
def termsR (p:ProgV) (y:List Rat) (i:Nat):List TermV:=termsTo i fun j=>toR (upJ p y j)
def noneT (p:ProgV) (y:List Rat) (i:Nat):Bool:=allTo i fun j=>(p.v j).ig || decide (combA p y j<=0)
theorem upJ_zero {p:ProgV} {y:List Rat} {i:Nat} (h:combA p y i=0):upJ p y i=0:=by
 unfold upJ; rw [h]; split <;> rfl
theorem toR_zero:toR 0=0:=rfl
theorem skip_sums {p:ProgV} {y:List Rat} {i:Nat} (h:combA p y i=0):combB p y - lowT p y i=combB p y - lowT p y (i+1)/\upT' p y i=upT' p y (i+1)/\termsR p y i=termsR p y (i+1)/\smallT p y (i+1)=smallT p y i:=by
 refine ⟨?_,?_,?_,?_⟩
 ·show _=_ - (lowT p y i+combA p y i*_)
  rw [h]; grind
 ·show _=upT' p y i+(upJ p y i:Rat)*_
  rw [upJ_zero h]
  have h5:((0:Int):Rat)=0:=rfl
  rw [h5]; grind
 ·unfold termsR
  rw [termsTo_succ,upJ_zero h,toR_zero,if_pos rfl,List.append_nil]
 ·show (smallT p y i && limB (upJ p y i))=_
  rw [upJ_zero h,show limB 0=true from by decide,Bool.and_true]
theorem limB_in {z:Int} (h:limB z=true):inRB z=true:=by
 unfold limB at h
 unfold inRB
 simp only [Bool.and_eq_true,decide_eq_true_eq] at h ⊢
 omega
theorem termsR_ok {p:ProgV} {y:List Rat} (h:smallT p y p.vars.length=true):termsR p y p.vars.length=termsTo p.vars.length (upJ p y):=by
 have:∀ n,n<=p.vars.length->termsTo n (fun j=>toR (upJ p y j))=termsTo n (upJ p y):=fun n=>by
  induction n with
  | zero=>exact fun _=>rfl
  | succ n ih =>
   intro hn
   rw [termsTo_succ,termsTo_succ,ih (by omega),toR_in (limB_in (allTo_iff.1 h n (by omega)))]
 exact this _ (Nat.le_refl _)
theorem upT_all {p:ProgV} {y:List Rat}:(upT' p y p.vars.length).floor=upI p y:=by
 have:upT' p y p.vars.length=((upI p y:Int):Rat):=by
  unfold upT' upI
  rw [isum_cast]
  exact sumTo_congr fun j _=>(Rat.intCast_mul _ _).symm
 rw [this,Rat.floor_intCast]
theorem Sz.cast {z:Int} {L:Nat} (h:(dg z.natAbs).length<=L) (h1:1<=L):Sz (z:Rat) L:=⟨by rw [Rat.num_intCast]; exact h,by rw [Rat.den_intCast]; exact Nat.le_trans (dg_length_le (k:=1) (by decide)) h1⟩
theorem ceil_len {q:Rat} {L:Nat} (h:Sz q L):(dg q.ceil.natAbs).length<=L+1:=by
 rw [Rat.ceil_eq_neg_floor_neg,Int.natAbs_neg]
 exact floor_len h.neg
end Go.Proofs.YtjaldknfeojjkaaGreat
