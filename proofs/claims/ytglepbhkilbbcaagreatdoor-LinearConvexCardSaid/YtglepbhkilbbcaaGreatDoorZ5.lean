/-
  Texts of the proof, part 5. Conditions: each lemma names its own.
-/
import Derived.Test.YtglepbhkilbbcaaGreatDoorZ1
import Derived.Test.YtglepbhkilbbcaaGreatDoorZ3
import Derived.Test.YtglepbhkilbbcaaGreatDoorZ4
import Derived.Lib.SlicesS
import Derived.Maps.RangeWalk
set_option linter.unusedVariables false
set_option linter.unusedSimpArgs false
set_option maxRecDepth 100000
set_option maxHeartbeats 16000000
namespace Go.Proofs.YtglepbhkilbbcaaGreatDoor
open Go.RowKit Go.MapKept
open Go.ChangeMaps (setBlock)
structure RatV where
 neg:Bool
 mag:List Nat
 den:List Nat
def ratV0:RatV:=⟨false,[],[]⟩
def RatV.q (r:RatV):Rat:=mkRat (sg r.neg (vl r.mag)) (dn (vl r.den))
def IsRaw (w:World) (v:Value) (r:RatV):Prop:=∃ mv dv',v=.agg #[.bool r.neg,mv,dv']/\Rds w mv r.mag/\Rds w dv' r.den
theorem IsRaw.keep {w w':World} {v:Value} {r:RatV} (h:IsRaw w v r) (hx:XF w w'):IsRaw w' v r:=by
 obtain ⟨mv,dv',e,h1,h2⟩:=h
 exact ⟨mv,dv',e,h1.keep hx,h2.keep hx⟩
theorem IsRaw.reads {w:World} {v:Value} {r:RatV} (h:IsRaw w v r) {L:Nat} (h1:r.mag.length<=L) (h2:r.den.length<=L):Rrat w v r.q L:=by
 obtain ⟨mv,dv',e,h3,h4⟩:=h
 exact ⟨r.neg,mv,dv',r.mag,r.den,e,h3,h1,h4,h2,rfl⟩
def Raws (w:World) (v:Value) (rs:List RatV):Prop:=∃ cs:List (List Value),cs.length=rs.length/\Sl w v 3 cs/\∀ (i:Nat) c r,cs[i]?=some c->rs[i]?=some r->IsRaw w (.agg c.toArray) r
theorem Raws.keep {w w':World} {v:Value} {rs:List RatV} (h:Raws w v rs) (hx:XF w w'):Raws w' v rs:=by
 obtain ⟨cs,h1,h2,h3⟩:=h
 exact ⟨cs,h1,h2.keep hx,fun i c q hc hq=>(h3 i c q hc hq).keep hx⟩
theorem Raws.shape {w:World} {v:Value} {rs:List RatV} (h:Raws w v rs):∃ ao c,v=.slice ao rs.length c/\(ao=none->c=0)/\rs.length<=9223372036854775807/\rs.length<=c:=by
 obtain ⟨cs,h0,h1,_⟩:=h
 obtain ⟨ao,c,h1,h2⟩:=h1.shape
 rw [h0] at h1 h2
 exact ⟨ao,c,h1,h2⟩
def fewR (d:Nat) (r:RatV):Bool:=decide (r.mag.length<=d) && decide (r.den.length<=d)
def fewL (d:Nat) (rs:List RatV):Bool:=rs.all (fewR d)
def valL (rs:List RatV):List Rat:=rs.map RatV.q
theorem Raws.rats {w:World} {v:Value} {rs:List RatV} (h:Raws w v rs) {L:Nat} (hf:fewL L rs=true):Rats w v (valL rs) L:=by
 obtain ⟨cs,h1,h2,h3⟩:=h
 refine ⟨cs,by unfold valL; rw [List.length_map,h1],h2,fun i c q hc hq=>?_⟩
 unfold valL at hq
 rw [List.getElem?_map] at hq
 obtain ⟨r,hr,rfl⟩:=Option.map_eq_some_iff.1 hq
 unfold fewL at hf
 have:=List.all_eq_true.1 hf r (List.mem_of_getElem? hr)
 unfold fewR at this
 simp only [Bool.and_eq_true,decide_eq_true_eq] at this
 exact (h3 i c r hc hr).reads this.1 this.2
theorem Raws.at {w:World} {ao:Option Addr} {n c:Nat} {rs:List RatV} (h:Raws w (.slice ao n c) rs) (i:Nat) (hi:i<rs.length):∃ b off a1 m1 c1 a2 m2 c2,ao=some ⟨b,off,none⟩/\b<w.heap.size /\
  w.cell? ⟨b,off+i*3,none⟩=some (.bool (rs.getD i ratV0).neg)/\w.cell? ⟨b,off+i*3+1,none⟩=some (.slice a1 m1 c1)/\w.cell? ⟨b,off+i*3+2,none⟩=some (.slice a2 m2 c2)/\m1=(rs.getD i ratV0).mag.length/\m2=(rs.getD i ratV0).den.length/\IsRaw w (.agg #[.bool (rs.getD i ratV0).neg,.slice a1 m1 c1,.slice a2 m2 c2]) (rs.getD i ratV0):=by
 rw [getD_lt hi]
 obtain ⟨cs,h0,h1,h2⟩:=h
 have hi':i<cs.length:=by omega
 obtain ⟨b,off,g1,g2,g3⟩:=h1.at (i:=i) (List.getElem?_eq_getElem hi')
 have k1:=h2 i _ _ (List.getElem?_eq_getElem hi') (List.getElem?_eq_getElem hi)
 obtain ⟨mv,dv',e,k2,k3⟩:=id k1
 obtain ⟨a1,c1,rfl⟩:∃ a c,mv=.slice a rs[i].mag.length c:=by obtain ⟨_,a,c,e,_⟩:=k2; exact ⟨a,c,e⟩
 obtain ⟨a2,c2,rfl⟩:∃ a c,dv'=.slice a rs[i].den.length c:=by obtain ⟨_,a,c,e,_⟩:=k3; exact ⟨a,c,e⟩
 rw [e] at k1
 have ec:cs[i]=[.bool rs[i].neg,.slice a1 rs[i].mag.length c1,.slice a2 rs[i].den.length c2]:=by
  injection e with e
  have:=congrArg Array.toList e
  simpa using this
 rw [ec] at g3
 exact ⟨b,off,a1,_,c1,a2,_,c2,g1,g2,g3 0 _ rfl,g3 1 _ rfl,g3 2 _ rfl,rfl,rfl,k1⟩
theorem Rds.len63 {w:World} {v:Value} {l:List Nat} (h:Rds w v l):l.length<=9223372036854775807:=by
 obtain ⟨_,_,c,_,h1,h2,_⟩:=h
 unfold maxLen at h2
 omega
theorem Few_any (w:World) (v:Value) (rs:List RatV) (d:Nat) (hd:d<=1000000) (h:Raws w v rs):Calls Tryz.prog 54 #[.int .i64 d,v] w (BoolPost w (fewL d rs)):=by
 obtain ⟨ao,c,rfl,-,hn,-⟩:=h.shape
 have HR:=bH h
 obtain ⟨n,hn'⟩:∃ n,rs.length=n:=⟨_,rfl⟩
 have HN:=bH hn'
 rw [hn'] at hn HR ⊢
 clear hn' h
 go_enter Tryz.func54,Tryz.ntmps54
 go_wp2_with fail
 go_loopg [5] n (fun gg v5 wr=>∃ i:Nat,i<=n/\gg=n - i/\v5=.int .i64 i/\(rs.take i).all (fewR d)=true/\XF w wr)
 case atStart=>exact ⟨0,Nat.zero_le _,rfl,rfl,rfl,Ext.refl _ _⟩
 case round =>
  obtain ⟨i,hi,rfl,rfl,hall,hx⟩:=hrel
  have HX:=bH (bI hall hx)
  clear hall hx
  by_cases hin:i<n
  ·have i0:(i:Int)<(n:Int):=by omega
   have i1:(0:Int)<=(i:Int):=by omega
   have HI:Hid (i<rs.length):=bH (by rw [HN.out]; exact hin)
   obtain ⟨b,off,a1,m1,c1,a2,m2,c2,rfl,-,e0,e1,e2,hm1,hm2,hraw⟩:=(HR.out.keep HX.out.2).at i HI.out
   have hl1:m1<=9223372036854775807:=by
    obtain ⟨mv,dv',e,k2,k3⟩:=hraw
    rw [hm1]; exact k2.len63
   have hl2:m2<=9223372036854775807:=by
    obtain ⟨mv,dv',e,k2,k3⟩:=hraw
    rw [hm2]; exact k3.len63
   have HF:=bH (show fewR d (rs.getD i ratV0)=(decide (m1<=d) && decide (m2<=d)) from by unfold fewR; rw [hm1,hm2])
   clear hraw hm1 hm2
   generalize (rs.getD i ratV0).neg=ng at *
   by_cases q1:d<m1
   ·have q1':(d:Int)<(m1:Int):=by omega
    go_wp2
    go_ret
    exact ⟨ret_bool (all_fails (d:=ratV0) HI.out (by rw [HF.out,decide_eq_false (p:=m1<=d) (by omega)]; rfl)).symm,HX.out.2⟩
   ·have q1':¬ (d:Int)<(m1:Int):=by omega
    by_cases q2:d<m2
    ·have q2':(d:Int)<(m2:Int):=by omega
     go_wp2
     go_ret
     exact ⟨ret_bool (all_fails (d:=ratV0) HI.out (by rw [HF.out,decide_eq_false (p:=m2<=d) (by omega)]; simp)).symm,HX.out.2⟩
    ·have q2':¬ (d:Int)<(m2:Int):=by omega
     go_wp2
     go_roundg (n - (i+1))
     case measure=>omega
     case rel=>exact ⟨i+1,by omega,rfl,by go_num,all_next (d:=ratV0) HI.out HX.out.1 (by rw [HF.out,decide_eq_true (p:=m1<=d) (by omega),decide_eq_true (p:=m2<=d) (by omega)]; rfl),HX.out.2⟩
  ·obtain rfl:i=n:=by omega
   have HT:Hid (fewL d rs=true):=bH (by
    have:=HX.out.1
    rw [List.take_of_length_le (by rw [HN.out]; exact Nat.le_refl _)] at this
    exact this)
   go_wp2
   go_ret
   exact ⟨ret_bool HT.out.symm,HX.out.2⟩
def shortB (rs:List RatV) (k:Nat):Bool:=decide (rs.length<=k) && fewL 4 rs
theorem Short_any (w:World) (v:Value) (rs:List RatV) (k:Nat) (hk:k<=1000000) (h:Raws w v rs):Calls Tryz.prog 15 #[v,.int .i64 k] w (BoolPost w (shortB rs k)):=by
 obtain ⟨ao,c,rfl,-,hn,-⟩:=h.shape
 have HF:=bH (Few_any w _ rs 4 (by omega) h)
 have HS:=bH (show shortB rs k=(decide (rs.length<=k) && fewL 4 rs) from rfl)
 clear h
 generalize rs.length=n at *
 generalize fewL 4 rs=fb at *
 by_cases q:n<=k
 ·have q':(n:Int)<=(k:Int):=by omega
  go_enter Tryz.func15,Tryz.ntmps15
  go_wp2_with fail
  refine HF.out.mono ?_
  rintro r w' ⟨rfl,hx⟩
  have HX:=bH hx
  clear hx
  go_wp2
  go_ret
  exact ⟨ret_bool (by rw [HS.out,decide_eq_true q]; rfl),HX.out⟩
 ·have q':¬ (n:Int)<=(k:Int):=by omega
  go_enter Tryz.func15,Tryz.ntmps15
  go_wp2
  go_ret
  exact ⟨ret_bool (by rw [HS.out,decide_eq_false q]; rfl),Ext.refl _ w⟩
def fewRow (k:Nat) (r:RowV):Bool:=decide (r.terms.length<=2*k) && decide (r.name.size<=100)
def fewP (p:ProgV) (k m:Nat):Bool:=p.rows.all (fewRow k) && decide (p.vars.length<=k) && decide (p.rows.length<=m)
theorem FewP_any (w:World) (pv:Value) (p:ProgV) (k m:Nat) (hk:k<=1000000) (hm:m<=1000000) (hp:IsPrg w pv p):Calls Tryz.prog 9 #[pv,.int .i64 k,.int .i64 m] w (BoolPost w (fewP p k m)):=by
 obtain ⟨vv,rv,rfl,hv,hr⟩:=hp
 obtain ⟨vo,vc,rfl,-,hvn,-⟩:=hv.shape
 obtain ⟨ro,rc,rfl,-,hrn,-⟩:=hr.shape
 have HV:=bH hr
 have HF:=bH (show fewP p k m=(p.rows.all (fewRow k) && decide (p.vars.length<=k) && decide (p.rows.length<=m)) from rfl)
 clear hv hr
 generalize p.vars.length=vn at *
 obtain ⟨n,hn'⟩:∃ n,p.rows.length=n:=⟨_,rfl⟩
 have HN:=bH hn'
 rw [hn'] at hrn HV HF ⊢
 clear hn'
 have HB:=bH (bI (blk_alloc_at w (.cells #[.slice vo vn vc,.slice ro n rc] 25)) ((Ext.refl (fun _=>False) w).alloc (.cells #[.slice vo vn vc,.slice ro n rc] 25)))
 go_enter Tryz.func9,Tryz.ntmps9
 go_upto_region 1 with fail
 generalize hw1:w.alloc (.cells #[.slice vo vn vc,.slice ro n rc] 25)=w1 at *
 clear hw1
 obtain ⟨pb,hpb⟩:∃ pb,w.heap.size=pb:=⟨_,rfl⟩
 rw [hpb] at HB ⊢
 clear hpb
 go_wp2_with fail
 go_loopg [7] n (fun gg v7 wr=>∃ i:Nat,i<=n/\gg=n - i/\v7=.int .i64 i/\(p.rows.take i).all (fewRow k)=true/\XF w1 wr)
 case atStart=>exact ⟨0,Nat.zero_le _,rfl,rfl,rfl,Ext.refl _ _⟩
 case round =>
  obtain ⟨i,hi,rfl,rfl,hall,hx⟩:=hrel
  have HX:=bH (bI hall hx)
  clear hall hx
  have z0:=cell_keep (cellq HB.out.1 0 rfl) HX.out.2
  have z1:=cell_keep (cellq HB.out.1 1 rfl) HX.out.2
  by_cases hin:i<n
  ·have i0:(i:Int)<(n:Int):=by omega
   have i1:(0:Int)<=(i:Int):=by omega
   have HI:Hid (i<p.rows.length):=bH (by rw [HN.out]; exact hin)
   obtain ⟨b,off,ta,tc,rfl,-,e0,e1,e2,e3,e4,hok,htm⟩:=(HV.out.keep (HB.out.2.trans HX.out.2)).atp i HI.out
   have hns:(p.r i).name.size<=9223372036854775807:=by have:=hok.name; unfold maxLen at this; omega
   obtain ⟨-,-,-,-,htn,-⟩:=htm.shape
   have HR:=bH (show fewRow k (p.rows.getD i row0)=(decide ((p.r i).terms.length<=2*k) && decide ((p.r i).name.size<=100)) from rfl)
   clear hok htm
   generalize (p.r i).terms.length=tl at *
   generalize (p.r i).name=nm at *
   obtain ⟨kk,hkk⟩:∃ kk,2*k=kk:=⟨_,rfl⟩
   have hk2:(2:Int)*(k:Int)=(kk:Int):=by omega
   rw [hkk] at HR
   have hkk63:kk<=9223372036854775807:=by omega
   clear hkk
   by_cases q1:kk<tl
   ·have q1':(kk:Int)<(tl:Int):=by omega
    go_wp2
    go_ret
    exact ⟨ret_bool (by rw [HF.out,all_fails (d:=row0) HI.out (by rw [HR.out,decide_eq_false (p:=tl<=kk) (by omega)]; rfl)]; rfl),HB.out.2.trans HX.out.2⟩
   ·have q1':¬ (kk:Int)<(tl:Int):=by omega
    by_cases q2:100<nm.size
    ·have q2':(100:Int)<(nm.size:Int):=by omega
     go_wp2
     go_ret
     exact ⟨ret_bool (by rw [HF.out,all_fails (d:=row0) HI.out (by rw [HR.out,decide_eq_false (p:=nm.size<=100) (by omega)]; simp)]; rfl),HB.out.2.trans HX.out.2⟩
    ·have q2':¬ (100:Int)<(nm.size:Int):=by omega
     go_wp2
     go_roundg (n - (i+1))
     case measure=>omega
     case rel=>exact ⟨i+1,by omega,rfl,by go_num,all_next (d:=row0) HI.out HX.out.1 (by rw [HR.out,decide_eq_true (p:=tl<=kk) (by omega),decide_eq_true (p:=nm.size<=100) (by omega)]; rfl),HX.out.2⟩
  ·obtain rfl:i=n:=by omega
   have HF2:Hid (fewP p k m=(decide (vn<=k) && decide (i<=m))):=bH (by
    have:=HX.out.1
    rw [List.take_of_length_le (by rw [HN.out]; exact Nat.le_refl _)] at this
    rw [HF.out,this]; rfl)
   by_cases q1:vn<=k
   ·have q1':(vn:Int)<=(k:Int):=by omega
    by_cases q2:i<=m
    ·have q2':(i:Int)<=(m:Int):=by omega
     go_wp2
     go_ret
     exact ⟨ret_bool (by rw [HF2.out,decide_eq_true q1,decide_eq_true q2]; rfl),HB.out.2.trans HX.out.2⟩
    ·have q2':¬ (i:Int)<=(m:Int):=by omega
     go_wp2
     go_ret
     exact ⟨ret_bool (by rw [HF2.out,decide_eq_true q1,decide_eq_false q2]; rfl),HB.out.2.trans HX.out.2⟩
   ·have q1':¬ (vn:Int)<=(k:Int):=by omega
    go_wp2
    go_ret
    exact ⟨ret_bool (by rw [HF2.out,decide_eq_false q1]; rfl),HB.out.2.trans HX.out.2⟩
def NoD (xs:List Value):Prop:=∀ u ∈ xs,∀ d,u≠.int .u32 d
theorem noDig_cells {w:World} {g:Nat} {cur:Array Value} {t:TypeId} {fr:Nat × Nat} (h:blk w g=some (.cells cur t fr)) (hn:NoD cur.toList):NoDig w g:=fun i d hc=>by
 rw [cell_of_cells h] at hc
 exact hn _ (by rw [<- Array.getElem?_toList] at hc; exact List.mem_of_getElem? hc) d rfl
theorem NoDig.cells {w:World} {g:Nat} {cur:Array Value} {t:TypeId} {fr:Nat × Nat} (hn:NoDig w g) (h:blk w g=some (.cells cur t fr)):NoD cur.toList:=fun u hu d e=>by
 obtain ⟨i,hi,rfl⟩:=List.getElem_of_mem hu
 refine hn i d ?_
 rw [cell_of_cells h,<- Array.getElem?_toList,List.getElem?_eq_getElem hi,e]
theorem NoD.append {xs ys:List Value} (h:NoD xs) (k:NoD ys):NoD (xs++ys):=fun u hu=>(List.mem_append.1 hu).elim (h u) (k u)
theorem NoD.take {xs:List Value} (h:NoD xs) (n:Nat):NoD (xs.take n):=fun u hu=>h u (List.mem_of_mem_take hu)
theorem NoD.drop {xs:List Value} (h:NoD xs) (n:Nat):NoD (xs.drop n):=fun u hu=>h u (List.mem_of_mem_drop hu)
theorem noD_zero {z:Array Value} (h:NoD z.toList) (n:Nat):NoD (Builtin.zeroCells z n).toList:=fun u hu=>by
 unfold Builtin.zeroCells at hu
 rw [Array.toList_map] at hu
 obtain ⟨i,hi,rfl⟩:=List.mem_map.1 hu
 have hi':i<n*z.size:=by simpa using hi
 have hz:0<z.size:=Nat.pos_of_ne_zero (fun e=>by rw [e] at hi'; simp at hi')
 have hm:i % z.size<z.size:=Nat.mod_lt _ hz
 rw [getElem!_pos z _ hm]
 exact h _ (by rw [<- Array.getElem_toList]; exact List.getElem_mem _)
section
variable {P:Program}
theorem append_noDig (w:World) (base:Nat) (t ty e:TypeId) (i:TypeInfo) (z:Value) (ht:P.underlying t=some (.slice e)) (hi:P.info? e=some i) (hz:i.zero=some z)
  (hzs:z.cells.size=i.size) (hzn:NoD z.cells.toList)
  (v:Value) (n:Nat) (xs:List Value) (hown:w.ownsRow base e i.size v n xs) (hnd:∀ g,v.ownBlock=some g->NoDig w g) (hxs:NoD xs)
  (a:Addr) (m c:Nat) (news:List Value) (hl:news.length=m*i.size) (hnews:∀ j u,news[j]?=some u->w.cell? (a.add j)=some u) (h1:∀ u ∈ news,u.oneCell'=true) (hnn:NoD news) (hm:0<m)
  (h63:n+m<=maxLen) (hbytes:(n+m)*i.bytes<=140737488355328) :
  ∀ v' w',(Builtin.append_ #[t,t] ty #[v,.slice (some a) m c]).run P w=.ok v' w'->∀ g,v'.ownBlock=some g->NoDig w' g:=by
 intro v' w' hrun g' hg'
 have hsmall:n+m<=9223372036854775807:=by simp only [maxLen] at h63; omega
 rcases hown.2 with ⟨rfl,rfl⟩ | ⟨g,cap,cur,rfl,hbg,hg,hnc,hcm,hcs,htake⟩
 ·have hr:=run_append_nil (P:=P) w t ty e i z ht hi hz a m c news hl hnews hm (by omega) (by have hb:=hbytes; simp only [Nat.zero_add] at hb; omega)
  rw [hr] at hrun
  injection hrun with h2 h3
  subst h2 h3
  cases hg'
  refine noDig_cells (show blk (w.drew.alloc _) w.heap.size=some _ from blk_alloc_at w.drew _) ?_
  rw [Array.toList_append]
  exact (by simpa using hnn:NoD news.toArray.toList).append (noD_zero hzn _)
 ·by_cases hroom:n+m<=cap
  ·have hfit:n*i.size+news.length<=cur.size:=by rw [hl,hcs,<- Nat.add_mul]; exact Nat.mul_le_mul_right _ hroom
   have hr:=run_append_room (P:=P) w t ty e i ht hi g n cap cur hg a m c news hl hnews h1 hroom hfit
   rw [hr] at hrun
   injection hrun with h2 h3
   subst h2 h3
   cases hg'
   have hc:=(hnd g rfl).cells (show blk w g=some _ from hg)
   refine noDig_cells (show blk (w.setRow g _) g=some _ from setRow_heap w g cur _ e _ hg) ?_
   exact ((hc.take _).append hnn).append (hc.drop _)
  ·have holds:∀ j u,xs[j]?=some u->w.cell? ((⟨g,0,none⟩:Addr).add j)=some u:=hown.cells (g:=g) rfl
   have hr:=run_append_grow (P:=P) w t ty e i z ht hi hz ⟨g,0,none⟩ n cap xs hown.1 holds a m c news hl hnews (by omega) (by omega) (growslice_fits (by omega) hbytes)
   rw [hr] at hrun
   injection hrun with h2 h3
   subst h2 h3
   cases hg'
   refine noDig_cells (show blk (w.drew.alloc _) w.heap.size=some _ from blk_alloc_at w.drew _) ?_
   rw [Array.toList_append,Array.toList_append]
   exact (hxs.append (by simpa using hnn:NoD news.toArray.toList)).append (noD_zero hzn _)
end
structure RatC where
 ng:Bool
 a1:Option Addr
 m1:Nat
 c1:Nat
 a2:Option Addr
 m2:Nat
 c2:Nat
def RatC.cells (x:RatC):List Value:=[.bool x.ng,.slice x.a1 x.m1 x.c1,.slice x.a2 x.m2 x.c2]
def RatC.v (x:RatC):Value:=.agg #[.bool x.ng,.slice x.a1 x.m1 x.c1,.slice x.a2 x.m2 x.c2]
theorem ratC_noD (x:RatC):NoD x.cells:=fun u hu d e=>by
 subst e
 simp [RatC.cells] at hu
theorem ratC_one (x:RatC):∀ u ∈ x.cells,u.oneCell'=true:=fun u hu=>by
 simp [RatC.cells] at hu
 rcases hu with rfl | rfl | rfl <;> rfl
theorem ratsC_noD (cs:List RatC):NoD (cs.flatMap RatC.cells):=fun u hu=>by
 obtain ⟨x,hx,hu⟩:=List.mem_flatMap.1 hu
 exact ratC_noD x u hu
def ROwn (w:World) (base:Nat) (v:Value) (l:List Rat) (L:Nat):Prop :=
 ∃ cs:List RatC,cs.length=l.length/\w.ownsRow base 42 3 v l.length (cs.flatMap RatC.cells)/\(∀ g,v.ownBlock=some g->NoDig w g)/\∀ (i:Nat) c q,cs[i]?=some c->l[i]?=some q->Rrat w c.v q L
theorem ROwn.nil (w:World) (base L:Nat):ROwn w base (.slice none 0 0) [] L:=⟨[],rfl,World.ownsRow_nil w base _ 3,(fun g h=>by cases h),(fun i c q h=>by simp at h)⟩
theorem ROwn.shape {w:World} {base:Nat} {v:Value} {l:List Rat} {L:Nat} (h:ROwn w base v l L):∃ ao cap,v=.slice ao l.length cap:=by
 obtain ⟨cs,_,h1,_⟩:=h
 exact ownsRow_shape h1
theorem ROwn.lt {w:World} {base:Nat} {v:Value} {l:List Rat} {L:Nat} (h:ROwn w base v l L):∀ g,v.ownBlock=some g->base<=g/\g<w.heap.size:=by
 obtain ⟨cs,_,h1,_⟩:=h
 exact h1.lt
theorem ROwn.past {S:Nat->Prop} {w w':World} {base:Nat} {v:Value} {l:List Rat} {L:Nat} (h:ROwn w base v l L) (hx:Ext S w w') (hn:∀ g,v.ownBlock=some g->¬ S g) (hr:∀ u d,Rds w u d->Rds w' u d):ROwn w' base v l L:=by
 have hlt:=h.lt
 obtain ⟨cs,h1,h2,h3,h4⟩:=h
 refine ⟨cs,h1,ownsRow_ext h2 hx hn,fun g hg i d hc=>h3 g hg i d ?_,fun i c q hc hq=>?_⟩
 ·rw [<- hx.cell (p:=⟨g,i,none⟩) (hlt g hg).2 (hn g hg)]; exact hc
 ·obtain ⟨n,m,d,l,k,g1,g2,g3,g4,g5⟩:=h4 i c q hc hq
  exact ⟨n,m,d,l,k,g1,hr _ _ g2,g3,hr _ _ g4,g5⟩
theorem ROwn.keep {w w':World} {base:Nat} {v:Value} {l:List Rat} {L:Nat} (h:ROwn w base v l L) (hx:XF w w'):ROwn w' base v l L:=h.past hx (fun _ _ h=>h) (fun _ _ hr=>hr.keep hx)
theorem ROwn.rats {w:World} {base:Nat} {v:Value} {l:List Rat} {L:Nat} (h:ROwn w base v l L):Rats w v l L:=by
 obtain ⟨cs,h1,h2,h3,h4⟩:=h
 rcases h2.2 with ⟨rfl,h0⟩ | ⟨g,cap,cur,rfl,hb,hg,hnc,hcm,hcs,htake⟩
 ·have hl:=List.eq_nil_of_length_eq_zero h0
  subst hl
  exact Rats.nil w L
 ·refine ⟨cs.map RatC.cells,by rw [List.length_map,h1],⟨some ⟨g,0,none⟩,cap,by rw [List.length_map,h1],by rw [List.length_map,h1]; exact hnc,hcm,(fun e=>by cases e),fun hp=>⟨g,0,rfl,(Array.getElem?_eq_some_iff.1 hg).1,fun i r hi j u hu=>?_⟩⟩,fun i c q hc hq=>?_⟩
  ·rw [List.getElem?_map] at hi
   obtain ⟨x,hx,rfl⟩:=Option.map_eq_some_iff.1 hi
   have hil:i<cs.length:=(List.getElem?_eq_some_iff.1 hx).1
   have hj:j<3:=(List.getElem?_eq_some_iff.1 hu).1
   have hget:=fm_get (f:=RatC.cells) (m:=3) (fun _=>rfl) cs i hx j hj
   rw [<- htake] at hget
   rw [Nat.zero_add,cell_of_cells (show blk w g=some _ from hg),<- Array.getElem?_toList,<- hu,<- hget,List.getElem?_take,if_pos (by
    have:i<l.length:=by omega
    omega)]
  ·rw [List.getElem?_map] at hc
   obtain ⟨x,hx,rfl⟩:=Option.map_eq_some_iff.1 hc
   exact h4 i x q hx hq
theorem run_append_rat (w:World) (base:Nat) (v:Value) (l:List Rat) (L:Nat) (x:RatC) (q:Rat) (ad:Addr) (c:Nat) (ty:TypeId) (h:ROwn w base v l L) (hq:Rrat w x.v q L) (hsrc:∀ j u,x.cells[j]?=some u->w.cell? (ad.add j)=some u) (hl:l.length<=1000000) (hbase:base<=w.heap.size) :
  ∃ v' w',(Builtin.append_ #[32,32] ty #[v,.slice (some ad) 1 c]).run Tryz.prog w=.ok v' w'/\ROwn w' base v' (l++[q]) L/\Ext (fun k=>v.ownBlock=some k) w w'/\(∀ u d,Rds w u d->Rds w' u d):=by
 obtain ⟨i0,hi,hz0,hz1,hz2⟩:=info_parts Tryz.infoRat
 obtain ⟨cs,h1,h2,h3,h4⟩:=h
 have h2':w.ownsRow base 42 i0.size v l.length (cs.flatMap RatC.cells):=by rw [hz1]; exact h2
 have hsz:(Value.agg #[.bool false,.slice none 0 0,.slice none 0 0]).cells.size=i0.size:=by rw [hz1]; rfl
 have hzn:NoD (Value.agg #[.bool false,.slice none 0 0,.slice none 0 0]).cells.toList:=ratC_noD ⟨false,none,0,0,none,0,0⟩
 have hbt:(l.length+1)*i0.bytes<=140737488355328:=by rw [hz2]; omega
 have h63:l.length+1<=maxLen:=by unfold maxLen; omega
 obtain ⟨v',w',hr,g1,g2,_,g5⟩:=run_append_own_at (P:=Tryz.prog) w base 32 ty 42 i0 _ i0.size i0.bytes Tryz.underlying32 hi hz0 rfl rfl hsz (by rw [hz1]; decide) v l.length _ h2' ad 1 c x.cells (by rw [hz1]; rfl) hsrc (ratC_one x) h63 hbt hbase
 have hx:Ext (fun k=>v.ownBlock=some k) w w':=(Ext.refl (fun k=>v.ownBlock=some k) w).grown g2 (fun k hk _=>hk)
 have hrd:∀ u d,Rds w u d->Rds w' u d:=fun u d hu=>hu.past hx (fun k _ hk=>h3 k hk)
 have hnd:=append_noDig (P:=Tryz.prog) w base 32 ty 42 i0 _ Tryz.underlying32 hi hz0 hsz hzn v l.length _ h2' h3 (ratsC_noD cs) ad 1 c x.cells (by rw [hz1]; rfl) hsrc (ratC_one x) (ratC_noD x) (by omega) h63 hbt v' w' hr
 refine ⟨v',w',hr,⟨cs++[x],by rw [List.length_append,List.length_append,h1]; rfl,?_,hnd,fun i c' q' hc' hq'=>?_⟩,hx,hrd⟩
 ·rw [List.length_append,List.flatMap_append,List.flatMap_cons,List.flatMap_nil,List.append_nil]
  rw [hz1] at g1
  exact g1
 ·have hkeep:∀ {c:RatC} {q:Rat},Rrat w c.v q L->Rrat w' c.v q L:=fun hh=>by
   obtain ⟨n,m,d,l,k,e1,e2,e3,e4,e5⟩:=hh
   exact ⟨n,m,d,l,k,e1,hrd _ _ e2,e3,hrd _ _ e4,e5⟩
  by_cases hi':i<cs.length
  ·rw [List.getElem?_append_left hi'] at hc'
   rw [List.getElem?_append_left (by omega)] at hq'
   exact hkeep (h4 i c' q' hc' hq')
  ·rw [List.getElem?_append_right (by omega)] at hc' hq'
   have e:i - cs.length=0:=by
    have:=(List.getElem?_eq_some_iff.1 hc').1
    simp at this
    omega
   rw [e] at hc'
   rw [show i - l.length=0 from by omega] at hq'
   cases hc'; cases hq'
   exact hkeep hq
theorem wpList_append_rat {w:World} {ops:Array Oper} {rest:List Oper} {o:Oper} {a:Act} {Q:Exit->Act->World->Prop} (hgd:o.guard=none) (s x:Operand)
  (ho:o.op=.call { callee:=.builtin .append,args:=#[s,x],argTypes:=#[32,32] })
  (base:Nat) (v:Value) (l:List Rat) (L:Nat) (hs:a.eval s=v) (hown:ROwn w base v l L) (e:RatC) (q:Rat) (hq:Rrat w e.v q L) (ad:Addr) (c:Nat) (hx:a.eval x=.slice (some ad) 1 c) (hsrc:∀ j u,e.cells[j]?=some u->w.cell? (ad.add j)=some u) (hl:l.length<=1000000) (hbase:base<=w.heap.size)
  (h:∀ v' w',ROwn w' base v' (l++[q]) L->Ext (fun k=>v.ownBlock=some k) w w'->(∀ u d,Rds w u d->Rds w' u d)->wpList Tryz.prog ops Q rest (a.put o.dst v') w') :
  wpList Tryz.prog ops Q (o :: rest) a w:=by
 refine wpList_plain hgd fun K hK=>?_
 obtain ⟨v',w',hr,h2,h3,h5⟩:=run_append_rat w base v l L e q ad c o.type hown hq hsrc hl hbase
 unfold Oper.wp execOp
 simp only [ho,resolve,invoke,builtin,Sem.run_bind,Sem.run_pure,Result.andThen_ok,List.map_toArray,List.map_cons,List.map_nil,hs,hx,hr]
 exact hK _ _ (h v' w' h2 h3 h5)
theorem terms_any (w:World) (tv:Value) (ts:List TermV) (h:Tms w tv ts) (hl:ts.length<=1000) (hc:∀ t ∈ ts,limB t.coef=true) (ht:Tab10 w):Calls Tryz.prog 51 #[tv] w (StrPost w (termsT ts)):=by
 obtain ⟨ao,c,rfl,-⟩:=id h.1
 rw [List.length_map] at h ⊢
 have HT:=bH (bI h (bI hc ht))
 obtain ⟨n,hn⟩:∃ n,ts.length=n:=⟨_,rfl⟩
 have HN:=bH hn
 rw [hn] at HT hl ⊢
 clear h hc ht hn
 have HNu:=bH (fun W m (hW:XF w W) (hm:InR m)=>number_any W m hm (HT.out.2.2.keep hW))
 have HIt:=bH (fun W m (hW:XF w W) (hm:InR m)=>itoa_any W m hm (HT.out.2.2.keep hW))
 go_enter Tryz.func51,Tryz.ntmps51
 go_upto_region 2 with fail
 go_wp2_with fail
 go_loopg [11,3,4,5,6,7,8] n (fun gg v11 v3 v4 v5 v6 v7 v8 wr=>∃ (k:Nat) (v:Value),k<=n/\gg=n - k/\v11=.int .i64 k/\v=v3/\SRow wr w.heap.size v (partsT ts k)/\XF w wr)
 case atStart=>exact ⟨0,_,Nat.zero_le _,rfl,rfl,rfl,World.ownsRow_nil _ _ _ 1,Ext.refl _ _⟩
 case round =>
  obtain ⟨k,v,hk,rfl,rfl,rfl,hs,hx⟩:=hrel
  have HR:=bH (bI hs hx)
  clear hs hx
  by_cases hkn:k<n
  ·have k0:(k:Int)<(n:Int):=by omega
   have k1:(0:Int)<=(k:Int):=by omega
   obtain ⟨b,off,rfl,hlt,e0,e1,hok⟩:=(HT.out.1.keep HR.out.2).at k (by rw [HN.out]; exact hkn)
   have hmem:ts.getD k term0 ∈ ts:=by rw [getD_lt (by rw [HN.out]; exact hkn) term0]; exact List.getElem_mem _
   have hlc:=absI_in (HT.out.2.1 _ hmem)
   have hlb:=HT.out.2.1 _ hmem
   unfold limB at hlb
   simp only [Bool.and_eq_true,decide_eq_true_eq] at hlb
   have hvr:=hok.var
   have HPn:=bH (partsT_next ts k)
   obtain ⟨t,htt⟩:∃ t,ts.getD k term0=t:=⟨_,rfl⟩
   rw [htt] at e0 e1 hlb hvr HPn
   obtain ⟨tv,htv⟩:∃ x,t.var=x:=⟨_,rfl⟩
   obtain ⟨tc,htc⟩:∃ x,t.coef=x:=⟨_,rfl⟩
   rw [htv] at e0 hvr
   rw [htc] at e1 hlb
   have HV:=bH (bI htv htc)
   obtain ⟨hb1,hb2⟩:=hlb
   clear hok hmem hlc htt htv htc
   have hxa:=(Ext.refl (fun _=>False) wr).alloc (.cells #[.int .i64 tv,.int .i64 tc] 99)
   have HB:=bH (bI (blk_alloc_at wr (.cells #[.int .i64 tv,.int .i64 tc] 99)) (bI (HR.out.1.keep hxa) (HR.out.2.trans hxa)))
   clear hxa hlt
   go_upto_region 5 with fail
   generalize wr.alloc (.cells #[.int .i64 tv,.int .i64 tc] 99)=w4 at *
   generalize wr.heap.size=tb at *
   clear e0 e1
   have e0:=cq (cellq HB.out.1 0 rfl)
   have e1:=cq (cellq HB.out.1 1 rfl)
   have hs1:=numT_size hvr
   have hq1:¬ 9223372036854775807<1+(numT tv).size:=by omega
   have hvr2:=hvr
   have HIt2:=bH (fun W (hW:XF w4 W)=>HIt.out W tv (HB.out.2.2.trans hW) hvr2)
   have HNu2:=bH (fun W m (hW:XF w4 W) (hm:InR m)=>HNu.out W m (HB.out.2.2.trans hW) hm)
   clear hvr2
   refine wp_region_held_drew (S:=(XF w4)) (by kernel_rfl) ((Ext.refl _ w4).drew) (fun hHeld=>?_)
   refine ht 0 (h:=(ht 1 (h:=(ht 4 (h:=(ht 5 (h:=(ht 6 (h:=?_)))))))))
   (try go_frame)
   refine hst 2 (h:=fun K hK=>?_)
   (go_simp; go_at_call 50; (with_reducible refine (HIt2.out _ (hHeld:XF w4 _)).mono ?_); rintro q1 w11 ⟨rfl,hx11⟩; have hX1:=hHeld.trans hx11)
   refine hK.out _ _ (hX1) (fun hHeld=>?_)
   clear hK K
   (try go_frame)
   refine ht 3 (h:=(ht 7 (h:=(ht 8 (h:=?_)))))
   (try go_frame)
   refine wpAnyH_done (by kernel_rfl) ?_ _
   have HW:=bH (bI (HB.out.2.1.keep hX1) (bI (HB.out.2.2.trans hX1) hX1))
   have hle1:w.heap.size<=w11.heap.size+1:=by have:=HW.out.2.1.size; omega
   have c0:=cellq (blk_keep HB.out.1 hX1) 0 rfl
   have c1:=cellq (blk_keep HB.out.1 hX1) 1 rfl
   clear e0 e1 hHeld hx11 hX1 HIt2 HNu HIt
   by_cases hk0:k=0
   ·subst hk0
    by_cases hc:tc<0
    ·by_cases h1:absI tc=1
     ·have hab:absI tc = -tc:=if_pos hc
      rw [hab] at h1
      have hm:max tc (-tc) = -tc:=by omega
      obtain rfl:tc = -1:=by omega
      have HZ:=bH (show termT 0 t=⟨#[45]⟩++(⟨#[120]⟩++numT tv) from by unfold termT yT xT; rw [HV.out.1,HV.out.2]; rw [if_pos rfl]; rw [if_pos (by omega)]; rw [if_pos (by rw [hab]; first | done | rfl)])
      have hq4:¬ 9223372036854775807<1+(1+(numT tv).size):=by omega
      go_wp2_with (first | (at_builtin; refine wpList_appS rfl (.tmp 57) (.tmp 59) rfl w.heap.size v (partsT ts 0) rfl (HW.out.1.keep (((Ext.refl (fun _=>False) w11).alloc _))) (⟨#[45]⟩++(⟨#[120]⟩++numT tv)) rfl (cellq (blk_alloc_at w11 _) 0 rfl) (by rw [partsT_len]; omega) (by rw [World.size_alloc]; exact hle1) ?_; intro v9 w9 hs9 hx9))
      have hlow:=(World.ownsRow.lt HW.out.1)
      have hx0:=(HW.out.2.1.trans (((Ext.refl (fun _=>False) w11).alloc (.cells #[.string (⟨#[45]⟩++(⟨#[120]⟩++numT tv))] 9)))).own hx9 (fun k hk=>(hlow k hk).1)
      rw [<- HZ.out,<- HPn.out] at hs9
      clear hx9 hlow
      go_wp2
      go_roundg (n - (0+1))
      case measure=>omega
      case rel=>exact ⟨0+1,_,by omega,rfl,by go_num,rfl,hs9,hx0⟩
     ·have hab:absI tc = -tc:=if_pos hc
      rw [hab] at h1
      have hm:max tc (-tc) = -tc:=by omega
      have HZ:=bH (show termT 0 t=⟨#[45]⟩++(numT (-tc)++⟨#[32]⟩++(⟨#[120]⟩++numT tv)) from by unfold termT yT xT; rw [HV.out.1,HV.out.2]; rw [if_pos rfl]; rw [if_pos (by omega)]; rw [if_neg (by rw [hab]; exact h1)]; rw [hab])
      have hs2:=numT_size (n:=-tc) (by unfold InR; omega)
      have hq2:¬ 9223372036854775807<(numT (-tc)).size+1:=by omega
      have hq3:¬ 9223372036854775807<(numT (-tc)).size+1+(1+(numT tv).size):=by omega
      have hq4:¬ 9223372036854775807<1+((numT (-tc)).size+1+(1+(numT tv).size)):=by omega
      go_wp2_with (first | (go_at_call 49; refine (HNu2.out w11 (-tc) HW.out.2.2 (by unfold InR; omega)).mono ?_; rintro q2 w12 ⟨rfl,hx12⟩; have hle2:w.heap.size<=w12.heap.size+1:=by have:=hx12.size; omega) | (at_builtin; refine wpList_appS rfl (.tmp 57) (.tmp 59) rfl w.heap.size v (partsT ts 0) rfl (HW.out.1.keep (hx12.trans ((Ext.refl (fun _=>False) w12).alloc _))) (⟨#[45]⟩++(numT (-tc)++⟨#[32]⟩++(⟨#[120]⟩++numT tv))) rfl (cellq (blk_alloc_at w12 _) 0 rfl) (by rw [partsT_len]; omega) (by rw [World.size_alloc]; exact hle2) ?_; intro v9 w9 hs9 hx9))
      have hlow:=(World.ownsRow.lt HW.out.1)
      have hx0:=(HW.out.2.1.trans (hx12.trans ((Ext.refl (fun _=>False) w12).alloc (.cells #[.string (⟨#[45]⟩++(numT (-tc)++⟨#[32]⟩++(⟨#[120]⟩++numT tv)))] 9)))).own hx9 (fun k hk=>(hlow k hk).1)
      rw [<- HZ.out,<- HPn.out] at hs9
      clear hx9 hlow
      go_wp2
      go_roundg (n - (0+1))
      case measure=>omega
      case rel=>exact ⟨0+1,_,by omega,rfl,by go_num,rfl,hs9,hx0⟩
    ·by_cases h1:absI tc=1
     ·have hab:absI tc=tc:=if_neg hc
      rw [hab] at h1
      have hm:max tc (-tc)=tc:=by omega
      subst h1
      have HZ:=bH (show termT 0 t=⟨#[120]⟩++numT tv from by unfold termT yT xT; rw [HV.out.1,HV.out.2]; rw [if_pos rfl]; rw [if_neg (by omega)]; rw [if_pos (by rw [hab])])
      go_wp2_with (first | (at_builtin; refine wpList_appS rfl (.tmp 57) (.tmp 59) rfl w.heap.size v (partsT ts 0) rfl (HW.out.1.keep (((Ext.refl (fun _=>False) w11).alloc _))) (⟨#[120]⟩++numT tv) rfl (cellq (blk_alloc_at w11 _) 0 rfl) (by rw [partsT_len]; omega) (by rw [World.size_alloc]; exact hle1) ?_; intro v9 w9 hs9 hx9))
      have hlow:=(World.ownsRow.lt HW.out.1)
      have hx0:=(HW.out.2.1.trans (((Ext.refl (fun _=>False) w11).alloc (.cells #[.string (⟨#[120]⟩++numT tv)] 9)))).own hx9 (fun k hk=>(hlow k hk).1)
      rw [<- HZ.out,<- HPn.out] at hs9
      clear hx9 hlow
      go_wp2
      go_roundg (n - (0+1))
      case measure=>omega
      case rel=>exact ⟨0+1,_,by omega,rfl,by go_num,rfl,hs9,hx0⟩
     ·have hab:absI tc=tc:=if_neg hc
      rw [hab] at h1
      have hm:max tc (-tc)=tc:=by omega
      have HZ:=bH (show termT 0 t=numT (tc)++⟨#[32]⟩++(⟨#[120]⟩++numT tv) from by unfold termT yT xT; rw [HV.out.1,HV.out.2]; rw [if_pos rfl]; rw [if_neg (by omega)]; rw [if_neg (by rw [hab]; exact h1)]; rw [hab])
      have hs2:=numT_size (n:=tc) (by unfold InR; omega)
      have hq2:¬ 9223372036854775807<(numT (tc)).size+1:=by omega
      have hq3:¬ 9223372036854775807<(numT (tc)).size+1+(1+(numT tv).size):=by omega
      go_wp2_with (first | (go_at_call 49; refine (HNu2.out w11 (tc) HW.out.2.2 (by unfold InR; omega)).mono ?_; rintro q2 w12 ⟨rfl,hx12⟩; have hle2:w.heap.size<=w12.heap.size+1:=by have:=hx12.size; omega) | (at_builtin; refine wpList_appS rfl (.tmp 57) (.tmp 59) rfl w.heap.size v (partsT ts 0) rfl (HW.out.1.keep (hx12.trans ((Ext.refl (fun _=>False) w12).alloc _))) (numT (tc)++⟨#[32]⟩++(⟨#[120]⟩++numT tv)) rfl (cellq (blk_alloc_at w12 _) 0 rfl) (by rw [partsT_len]; omega) (by rw [World.size_alloc]; exact hle2) ?_; intro v9 w9 hs9 hx9))
      have hlow:=(World.ownsRow.lt HW.out.1)
      have hx0:=(HW.out.2.1.trans (hx12.trans ((Ext.refl (fun _=>False) w12).alloc (.cells #[.string (numT (tc)++⟨#[32]⟩++(⟨#[120]⟩++numT tv))] 9)))).own hx9 (fun k hk=>(hlow k hk).1)
      rw [<- HZ.out,<- HPn.out] at hs9
      clear hx9 hlow
      go_wp2
      go_roundg (n - (0+1))
      case measure=>omega
      case rel=>exact ⟨0+1,_,by omega,rfl,by go_num,rfl,hs9,hx0⟩
   ·have k2:¬ ((k:Int)=0):=by omega
    have k3:(0:Int)<(k:Int):=by omega
    have k4:((k:Int) == 0)=false:=by simpa using k2
    by_cases hc:tc<0
    ·by_cases h1:absI tc=1
     ·have hab:absI tc = -tc:=if_pos hc
      rw [hab] at h1
      have hm:max tc (-tc) = -tc:=by omega
      obtain rfl:tc = -1:=by omega
      have HZ:=bH (show termT k t=⟨#[45,32]⟩++(⟨#[120]⟩++numT tv) from by unfold termT yT xT; rw [HV.out.1,HV.out.2]; rw [if_neg hk0]; rw [if_pos (by omega)]; rw [if_pos (by rw [hab]; first | done | rfl)])
      have hq4:¬ 9223372036854775807<2+(1+(numT tv).size):=by omega
      go_wp2_with (first | (at_builtin; refine wpList_appS rfl (.tmp 57) (.tmp 59) rfl w.heap.size v (partsT ts k) rfl (HW.out.1.keep (((Ext.refl (fun _=>False) w11).alloc _))) (⟨#[45,32]⟩++(⟨#[120]⟩++numT tv)) rfl (cellq (blk_alloc_at w11 _) 0 rfl) (by rw [partsT_len]; omega) (by rw [World.size_alloc]; exact hle1) ?_; intro v9 w9 hs9 hx9))
      have hlow:=(World.ownsRow.lt HW.out.1)
      have hx0:=(HW.out.2.1.trans (((Ext.refl (fun _=>False) w11).alloc (.cells #[.string (⟨#[45,32]⟩++(⟨#[120]⟩++numT tv))] 9)))).own hx9 (fun k hk=>(hlow k hk).1)
      rw [<- HZ.out,<- HPn.out] at hs9
      clear hx9 hlow
      go_wp2
      go_roundg (n - (k+1))
      case measure=>omega
      case rel=>exact ⟨k+1,_,by omega,rfl,by go_num,rfl,hs9,hx0⟩
     ·have hab:absI tc = -tc:=if_pos hc
      rw [hab] at h1
      have hm:max tc (-tc) = -tc:=by omega
      have HZ:=bH (show termT k t=⟨#[45,32]⟩++(numT (-tc)++⟨#[32]⟩++(⟨#[120]⟩++numT tv)) from by unfold termT yT xT; rw [HV.out.1,HV.out.2]; rw [if_neg hk0]; rw [if_pos (by omega)]; rw [if_neg (by rw [hab]; exact h1)]; rw [hab])
      have hs2:=numT_size (n:=-tc) (by unfold InR; omega)
      have hq2:¬ 9223372036854775807<(numT (-tc)).size+1:=by omega
      have hq3:¬ 9223372036854775807<(numT (-tc)).size+1+(1+(numT tv).size):=by omega
      have hq4:¬ 9223372036854775807<2+((numT (-tc)).size+1+(1+(numT tv).size)):=by omega
      go_wp2_with (first | (go_at_call 49; refine (HNu2.out w11 (-tc) HW.out.2.2 (by unfold InR; omega)).mono ?_; rintro q2 w12 ⟨rfl,hx12⟩; have hle2:w.heap.size<=w12.heap.size+1:=by have:=hx12.size; omega) | (at_builtin; refine wpList_appS rfl (.tmp 57) (.tmp 59) rfl w.heap.size v (partsT ts k) rfl (HW.out.1.keep (hx12.trans ((Ext.refl (fun _=>False) w12).alloc _))) (⟨#[45,32]⟩++(numT (-tc)++⟨#[32]⟩++(⟨#[120]⟩++numT tv))) rfl (cellq (blk_alloc_at w12 _) 0 rfl) (by rw [partsT_len]; omega) (by rw [World.size_alloc]; exact hle2) ?_; intro v9 w9 hs9 hx9))
      have hlow:=(World.ownsRow.lt HW.out.1)
      have hx0:=(HW.out.2.1.trans (hx12.trans ((Ext.refl (fun _=>False) w12).alloc (.cells #[.string (⟨#[45,32]⟩++(numT (-tc)++⟨#[32]⟩++(⟨#[120]⟩++numT tv)))] 9)))).own hx9 (fun k hk=>(hlow k hk).1)
      rw [<- HZ.out,<- HPn.out] at hs9
      clear hx9 hlow
      go_wp2
      go_roundg (n - (k+1))
      case measure=>omega
      case rel=>exact ⟨k+1,_,by omega,rfl,by go_num,rfl,hs9,hx0⟩
    ·by_cases h1:absI tc=1
     ·have hab:absI tc=tc:=if_neg hc
      rw [hab] at h1
      have hm:max tc (-tc)=tc:=by omega
      subst h1
      have HZ:=bH (show termT k t=⟨#[43,32]⟩++(⟨#[120]⟩++numT tv) from by unfold termT yT xT; rw [HV.out.1,HV.out.2]; rw [if_neg hk0]; rw [if_neg (by omega)]; rw [if_pos (by rw [hab])])
      have hq4:¬ 9223372036854775807<2+(1+(numT tv).size):=by omega
      go_wp2_with (first | (at_builtin; refine wpList_appS rfl (.tmp 57) (.tmp 59) rfl w.heap.size v (partsT ts k) rfl (HW.out.1.keep (((Ext.refl (fun _=>False) w11).alloc _))) (⟨#[43,32]⟩++(⟨#[120]⟩++numT tv)) rfl (cellq (blk_alloc_at w11 _) 0 rfl) (by rw [partsT_len]; omega) (by rw [World.size_alloc]; exact hle1) ?_; intro v9 w9 hs9 hx9))
      have hlow:=(World.ownsRow.lt HW.out.1)
      have hx0:=(HW.out.2.1.trans (((Ext.refl (fun _=>False) w11).alloc (.cells #[.string (⟨#[43,32]⟩++(⟨#[120]⟩++numT tv))] 9)))).own hx9 (fun k hk=>(hlow k hk).1)
      rw [<- HZ.out,<- HPn.out] at hs9
      clear hx9 hlow
      go_wp2
      go_roundg (n - (k+1))
      case measure=>omega
      case rel=>exact ⟨k+1,_,by omega,rfl,by go_num,rfl,hs9,hx0⟩
     ·have hab:absI tc=tc:=if_neg hc
      rw [hab] at h1
      have hm:max tc (-tc)=tc:=by omega
      have HZ:=bH (show termT k t=⟨#[43,32]⟩++(numT (tc)++⟨#[32]⟩++(⟨#[120]⟩++numT tv)) from by unfold termT yT xT; rw [HV.out.1,HV.out.2]; rw [if_neg hk0]; rw [if_neg (by omega)]; rw [if_neg (by rw [hab]; exact h1)]; rw [hab])
      have hs2:=numT_size (n:=tc) (by unfold InR; omega)
      have hq2:¬ 9223372036854775807<(numT (tc)).size+1:=by omega
      have hq3:¬ 9223372036854775807<(numT (tc)).size+1+(1+(numT tv).size):=by omega
      have hq4:¬ 9223372036854775807<2+((numT (tc)).size+1+(1+(numT tv).size)):=by omega
      go_wp2_with (first | (go_at_call 49; refine (HNu2.out w11 (tc) HW.out.2.2 (by unfold InR; omega)).mono ?_; rintro q2 w12 ⟨rfl,hx12⟩; have hle2:w.heap.size<=w12.heap.size+1:=by have:=hx12.size; omega) | (at_builtin; refine wpList_appS rfl (.tmp 57) (.tmp 59) rfl w.heap.size v (partsT ts k) rfl (HW.out.1.keep (hx12.trans ((Ext.refl (fun _=>False) w12).alloc _))) (⟨#[43,32]⟩++(numT (tc)++⟨#[32]⟩++(⟨#[120]⟩++numT tv))) rfl (cellq (blk_alloc_at w12 _) 0 rfl) (by rw [partsT_len]; omega) (by rw [World.size_alloc]; exact hle2) ?_; intro v9 w9 hs9 hx9))
      have hlow:=(World.ownsRow.lt HW.out.1)
      have hx0:=(HW.out.2.1.trans (hx12.trans ((Ext.refl (fun _=>False) w12).alloc (.cells #[.string (⟨#[43,32]⟩++(numT (tc)++⟨#[32]⟩++(⟨#[120]⟩++numT tv)))] 9)))).own hx9 (fun k hk=>(hlow k hk).1)
      rw [<- HZ.out,<- HPn.out] at hs9
      clear hx9 hlow
      go_wp2
      go_roundg (n - (k+1))
      case measure=>omega
      case rel=>exact ⟨k+1,_,by omega,rfl,by go_num,rfl,hs9,hx0⟩
  ·obtain rfl:n=k:=by omega
   by_cases h0:n=0
   ·subst h0
    have hts:ts=[]:=List.eq_nil_of_length_eq_zero HN.out
    obtain ⟨ao',ac',rfl⟩:∃ ao ac,v=.slice ao 0 ac:=by
     obtain ⟨a1,c1,e⟩:=ownsRow_shape HR.out.1
     rw [partsT_len] at e
     exact ⟨a1,c1,e⟩
    go_wp2
    go_ret
    exact ⟨by rw [hts]; rfl,HR.out.2⟩
   ·obtain ⟨g,gc,rfl,hcg,hlt,hlo,hcells⟩:=HR.out.1.cells (by rw [partsT_len]; omega)
    rw [partsT_len] at hcg ⊢
    have n0:¬ ((n:Int)=0):=by omega
    have n1:((n:Int) == 0)=false:=by simpa using n0
    have n2:decide ((n:Int)=0)=false:=by simpa using n0
    have HJ:=bH (Tryz.strings_Join g 0 gc (partsT ts n) ⟨#[32]⟩ wr (fun j x hx=>by rw [Nat.zero_add]; exact hcells j x hx) hlt (by rw [partsT_len]; omega) (by rw [partsT_len]; exact hcg) (by
     refine Nat.le_trans (join_le (c:=50) (fun x hx=>?_)) ?_
     ·obtain ⟨y,hy,rfl⟩:=List.mem_map.1 hx
      obtain ⟨i,hi,rfl⟩:=List.mem_map.1 hy
      have hin:i<ts.length:=by rw [HN.out]; exact List.mem_range.1 hi
      have hm:ts.getD i term0 ∈ ts:=by rw [getD_lt hin term0]; exact List.getElem_mem _
      exact termT_size (HT.out.1.2 _ hm).var (HT.out.2.1 _ hm)
     ·rw [List.length_map,partsT_len]; omega))
    rw [partsT_len] at HJ
    clear hcells
    go_wp2_with (go_at_call 91; refine HJ.out.mono ?_; rintro q2 w12 ⟨rfl,hx12⟩)
    go_ret
    exact ⟨by unfold termsT; rw [if_neg (fun e=>h0 (by rw [<- HN.out,e]; rfl)),HN.out]; rfl,HR.out.2.trans (Below.ext hx12)⟩
theorem ROwn.empty {w:World} {g base:Nat} (L:Nat) (h:blk w g=some (.cells #[] 42 (0,0))) (hb:base<=g):ROwn w base (.slice (some ⟨g,0,none⟩) 0 0) [] L :=
 ⟨[],rfl,ownsRow_empty 3 hb h,(fun g' e=>by cases e; exact noDig_cells h (fun u hu=>by cases hu)),(fun i c q h=>by simp at h)⟩
def RatsPost (w:World) (l:List Rat) (L:Nat) (r:Ending) (w':World):Prop:=∃ v,r=.returned v/\Rats w' v l L/\XF w w'
theorem ext_own {w0 w w':World} {v:Value} (h:XF w0 w) (hx:Ext (fun k=>v.ownBlock=some k) w w') (hb:∀ g,v.ownBlock=some g->w0.heap.size<=g):XF w0 w' :=
 h.own hx (fun k hk=>hb k hk)
def qOf (ns:List Int) (i:Nat):Rat:=((ns.getD i 0:Int):Rat)
theorem Ints_any (w:World) (b c:Nat) (ns:List Int) (L:Nat) (hc:∀ i,i<ns.length->w.cell? ⟨b,i,none⟩=some (.int .i64 (ns.getD i 0))) (hr:∀ x ∈ ns,InR x) (hn0:ns.length<=1000) (h1:2<=L) :
  Calls Tryz.prog 41 #[.slice (some ⟨b,0,none⟩) ns.length c] w (RatsPost w (listTo ns.length (qOf ns)) L):=by
 have HF:=bH (fun W (hW:XF w W) i (hi:i<ns.length)=>bI (cell_keep (hc i hi) hW) (Rrfrom_any W (ns.getD i 0) (hr _ (by rw [List.getD_eq_getElem?_getD,List.getElem?_eq_getElem hi]; exact List.getElem_mem hi)).1 (hr _ (by rw [List.getD_eq_getElem?_getD,List.getElem?_eq_getElem hi]; exact List.getElem_mem hi)).2))
 have HSz:=bH (fun i (hi:i<ns.length)=>(Sz.int (hr (ns.getD i 0) (by rw [List.getD_eq_getElem?_getD,List.getElem?_eq_getElem hi]; exact List.getElem_mem hi))).mono h1)
 clear hc hr
 have HQ:=bH (show ∀ i,((ns.getD i 0:Int):Rat)=qOf ns i from fun _=>rfl)
 generalize qOf ns=qf at *
 obtain ⟨n,hn'⟩:∃ n,ns.length=n:=⟨_,rfl⟩
 rw [hn'] at hn0 HF HSz ⊢
 clear hn'
 generalize (fun i=>ns.getD i 0)=nf at *
 have hb2:=blk_alloc_at w (.cells #[] 42)
 have HB:=bH (bI (ROwn.empty (base:=w.heap.size) L hb2 (Nat.le_refl _)) ((Ext.refl (fun _=>False) w).alloc (.cells #[] 42)))
 clear hb2
 go_enter Tryz.func41,Tryz.ntmps41
 go_upto_region 2 with fail
 generalize hw1:(w.alloc (.cells #[] 42))=w1 at *
 clear hw1
 obtain ⟨bs,hbs⟩:∃ bs,w.heap.size=bs:=⟨_,rfl⟩
 have HBs:=bH hbs
 rw [hbs] at HB ⊢
 clear hbs
 go_wp2_with fail
 go_loopg [4,3] n (fun gg v4 v3 wr=>∃ (i:Nat) (v:Value),i<=n/\gg=n - i/\v4=.int .i64 i/\v3=v/\ROwn wr bs v (listTo i qf) L/\XF w wr)
 case atStart=>exact ⟨0,_,Nat.zero_le _,rfl,rfl,rfl,HB.out.1,HB.out.2⟩
 case round =>
  obtain ⟨i,v,hi,rfl,rfl,rfl,ho,hx⟩:=hrel
  obtain ⟨ao,cap,rfl⟩:=ho.shape
  have hll:(listTo i qf).length=i:=listTo_length _ _
  rw [hll] at ho ⊢
  by_cases hin:i<n
  ·have i0:(i:Int)<(n:Int):=by omega
   have i1:(0:Int)<=(i:Int):=by omega
   have hcell:=(HF.out wr hx i hin).1
   have HA1:=bH (HF.out wr hx i hin).2
   have HSi:=bH (HSz.out i hin)
   have HQi:=bH (HQ.out i)
   generalize ns.getD i 0=nv at *
   have HO:=bH (bI ho hx)
   have HLl:=bH hll
   clear ho hx hll
   go_wp2_with fail
   refine HA1.out.mono ?_
   rintro r2 w2 ⟨v2,rfl,h2,hx2⟩
   obtain ⟨n2,a2,l2,c2,a2',l2',c2',rfl⟩:=h2.shape
   have hxa:=(Ext.refl (fun _=>False) w2).alloc (.cells #[.bool n2,.slice a2 l2 c2,.slice a2' l2' c2'] 42)
   have HO2:=bH (bI (HO.out.1.keep (hx2.trans hxa)) (bI ((HQi.out ▸ h2.reads HSi.out).keep hxa) ((HO.out.2.trans hx2).trans hxa)))
   have HSz2:=bH (show bs<=(w2.alloc (.cells #[.bool n2,.slice a2 l2 c2,.slice a2' l2' c2'] 42)).heap.size from by have:=HO2.out.2.2.size; have:=HBs.out; omega)
   have HG:=bH (fun g e=>(HO2.out.1.lt g e).1)
   clear h2 hx2 hxa HA1 hcell
   go_wp2_with (at_builtin; refine wpList_append_rat rfl (.tmp 12) (.tmp 18) rfl bs _ _ L rfl HO2.out.1 ⟨n2,a2,l2,c2,a2',l2',c2'⟩ (qf i) HO2.out.2.1 ⟨w2.heap.size,0,none⟩ 1 rfl (cells_new (RatC.cells ⟨n2,a2,l2,c2,a2',l2',c2'⟩) _ rfl) (by rw [HLl.out]; omega) HSz2.out ?_; intro v5 w5 hown5 hx5 hrd5; have HN:Hid (ROwn w5 bs v5 (listTo (i+1) qf) L):=bH (by rw [listTo_succ]; exact hown5); have HX5:Hid (XF w w5):=bH (ext_own HO2.out.2.2 hx5 (fun g e=>by have:=HG.out g e; have:=HBs.out; omega)); clear hown5 hx5 hrd5)
   go_roundg (n - (i+1))
   case measure=>omega
   case rel=>exact ⟨i+1,_,by omega,rfl,by go_num,rfl,HN.out,HX5.out⟩
  ·obtain rfl:i=n:=by omega
   have HO:=bH (bI ho hx)
   clear ho hx
   go_wp2
   go_ret
   exact ⟨_,rfl,by have:=HO.out.1.rats; exact this,HO.out.2⟩
theorem blk_alloc_at' (w:World) (o:Obj) (k:Nat) (h:k=w.heap.size):blk (w.alloc o) k=some o:=by subst h; exact blk_alloc_at w o
def PrgPost (w:World) (p:ProgV) (r:Ending) (w':World):Prop:=∃ v,r=.returned v/\IsPrg w' v p/\XF w w'
abbrev RT:=RowV × Value
section
variable {B:Nat} {y:RT} {oa:Option (List VarV)} {ob:Option (List RT)} {c d:Bool} {w5 w w':World} {vA vB vC vD:Value}
end
theorem IsPrg.slices5 {w:World} {pv:Value} {p:ProgV} (h:IsPrg w pv p):∃ vo vn vc ro rn rc,pv=.agg #[.slice vo vn vc,.slice ro rn rc]:=by
 obtain ⟨vv,rv,rfl,hv,hr⟩:=h
 obtain ⟨vo,vc,rfl,-⟩:=hv.shape
 obtain ⟨ro,rc,rfl,-⟩:=hr.shape
 exact ⟨vo,_,vc,ro,_,rc,rfl⟩
theorem termsB_coef {n:Int}:∀ {l:List TermV} {last:Int},termsB n last l=true->∀ k,k<l.length->limB (l.getD k term0).coef=true
 | [],_,_,k,hk=>by simp at hk
 | t :: l,last,h,k,hk=>by
  unfold termsB at h
  simp only [Bool.and_eq_true] at h
  cases k with
  | zero=>exact h.1.2
  | succ k=>exact termsB_coef h.2 k (by simpa using hk)
theorem step_appS {w:World} {ops:Array Oper} {o:Oper} {a:Act} {K:Act->World->Prop} {Q:Exit->Act->World->Prop} {E:Prop} (hgd:o.guard=none) (s x:Operand)
  (ho:o.op=.call { callee:=.builtin .append,args:=#[s,x],argTypes:=#[30,30] }) (base:Nat) (v:Value) (l:List ByteArray) (hs:a.eval s=v) (hown:SRow w base v l) (y:ByteArray) {b:Nat} {c:Nat} (hx:a.eval x=.slice (some ⟨b,0,none⟩) 1 c) (hc:w.cell? ⟨b,0,none⟩=some (.string y)) (hl:l.length<=100000) (hbase:base<=w.heap.size)
  (h:∀ v' w',SRow w' base v' (l++[y])->Ext (fun k=>v.ownBlock=some k) w w'->(v'.ownBlock=v.ownBlock∨v'.ownBlock=some w.heap.size)->K (a.put o.dst v') w') :
  if Region.wanted o (yielded ops a.tmps)=true then Oper.wp Tryz.prog o a w K Q else E:=by
 obtain ⟨i0,hi0,hz0,hz1,hz2⟩:=info_parts Tryz.infoString
 refine step_append_any hgd s x 30 ho base 9 i0 _ 1 16 Tryz.underlying30 hi0 hz0 hz1 hz2 rfl (by decide) v l.length (l.map Value.string) hs hown (some ⟨b,0,none⟩) 1 c (fun e=>by cases e) [.string y] hx rfl (.inr ⟨_,rfl,fun j u hu=>?_⟩) (fun u hu=>by simp at hu; subst hu; rfl) (by unfold maxLen; omega) (by omega) hbase (fun v' w' g1 g2 g3=>h v' w' ?_ ?_ g3)
 ·match j,hu with
  | 0,hu =>
   cases hu
   rw [Addr.add_lit]
   exact hc
  | j+1,hu=>simp at hu
 ·unfold SRow
  rw [List.length_append,List.map_append]
  exact g1
 ·exact (Ext.refl (fun k=>v.ownBlock=some k) w).grown g2 (fun k hk _=>hk)
def Strs (w:World) (v:Value) (l:List ByteArray):Prop:=Sl w v 1 (l.map cS)
theorem SRow.strs {w:World} {base:Nat} {v:Value} {l:List ByteArray} (h:SRow w base v l):Strs w v l:=by
 rcases h.2 with ⟨rfl,h0⟩ | ⟨g,cap,cur,rfl,hb,hg,hnc,hcm,hcs,htake⟩
 ·exact ⟨none,0,by rw [List.length_map,h0],by rw [List.length_map,h0]; exact Nat.le_refl _,by unfold maxLen; decide,fun _=>rfl,fun h=>by rw [List.length_map,h0] at h; exact absurd h (Nat.lt_irrefl 0)⟩
 ·refine ⟨some ⟨g,0,none⟩,cap,by rw [List.length_map],by rw [List.length_map]; exact hnc,hcm,(fun e=>by cases e),fun _=>⟨g,0,rfl,blk_lt hg,fun i r hi j u hu=>?_⟩⟩
  rw [List.getElem?_map] at hi
  obtain ⟨x,hx,rfl⟩:=Option.map_eq_some_iff.1 hi
  have hi':i<l.length:=(List.getElem?_eq_some_iff.1 hx).1
  match j,hu with
  | 0,hu =>
   cases hu
   rw [Nat.zero_add,Nat.mul_one,Nat.add_zero,cell_of_cells hg,<- Array.getElem?_toList]
   have h2:(cur.toList.take (l.length*1))[i]?=some (.string x):=by
    rw [htake,List.getElem?_map,hx]; rfl
   rw [List.getElem?_take_of_lt (by omega)] at h2
   exact h2
  | j+1,hu=>simp [cS] at hu
def upT (v:VarV):ByteArray:=if v.op then ⟨#[111,112,101,110,41]⟩ else numT v.up++⟨#[93]⟩
def kindT (v:VarV):ByteArray:=if v.ig then ⟨#[105,110,116,101,103,101,114]⟩ else ⟨#[114,101,97,108]⟩
def varT (i:Nat) (v:VarV):ByteArray:=⟨#[120]⟩++numT i++⟨#[32,105,110,32,91]⟩++numT v.lo++⟨#[44,32]⟩++upT v++⟨#[32]⟩++kindT v++⟨#[32,99,111,115,116,32]⟩++numT v.co
def signT (k:Int):ByteArray:=if k=0 then ⟨#[60,61]⟩ else if k=1 then ⟨#[62,61]⟩ else ⟨#[61]⟩
def rowT (r:RowV):ByteArray:=r.name++⟨#[32,40]⟩++numT r.group++⟨#[41,58,32]⟩++termsT r.terms++⟨#[32]⟩++signT r.kind++⟨#[32]⟩++numT r.bound
def varsT (p:ProgV) (k:Nat):List ByteArray:=(List.range k).map fun i=>varT i (p.v i)
def rowsT (p:ProgV) (k:Nat):List ByteArray:=(List.range k).map fun i=>rowT (p.r i)
def fmtT (p:ProgV):List ByteArray:=if validB p then varsT p p.vars.length++rowsT p p.rows.length else []
theorem varsT_len (p:ProgV) (k:Nat):(varsT p k).length=k:=by simp [varsT]
theorem rowsT_len (p:ProgV) (k:Nat):(rowsT p k).length=k:=by simp [rowsT]
theorem varsT_next (p:ProgV) (k:Nat):varsT p (k+1)=varsT p k++[varT k (p.v k)]:=by
 unfold varsT
 rw [List.range_succ,List.map_append]; rfl
theorem rowsT_next (p:ProgV) (k:Nat):rowsT p (k+1)=rowsT p k++[rowT (p.r k)]:=by
 unfold rowsT
 rw [List.range_succ,List.map_append]; rfl
theorem upT_size {v:VarV} (h:InR v.up):(upT v).size<=30:=by
 have:=numT_size h
 unfold upT
 split
 ·decide
 ·rw [app_size]; show _+1<=_; omega
theorem kindT_size (v:VarV):(kindT v).size<=7:=by
 unfold kindT
 split <;> decide
theorem signT_size (k:Int):(signT k).size<=2:=by
 unfold signT
 split
 ·decide
 ·split <;> decide
theorem termsT_size {ts:List TermV} (hv:∀ t ∈ ts,InR t.var) (hc:∀ t ∈ ts,limB t.coef=true):(termsT ts).size<=1+ts.length*51:=by
 unfold termsT
 split
 ·show 1<=_; omega
 ·have h:=join_le (l:=(partsT ts ts.length).map (·.data.toList)) (c:=50) (fun x hx=>by
   obtain ⟨y,hy,rfl⟩:=List.mem_map.1 hx
   obtain ⟨i,hi,rfl⟩:=List.mem_map.1 hy
   have hin:i<ts.length:=List.mem_range.1 hi
   have hm:ts.getD i term0 ∈ ts:=by rw [getD_lt hin term0]; exact List.getElem_mem _
   exact termT_size (hv _ hm) (hc _ hm))
  rw [List.length_map,partsT_len] at h
  show (Lib.join _ _).toArray.size<=_
  rw [List.size_toArray]
  omega
def StrsPost (w:World) (l:List ByteArray) (r:Ending) (w':World):Prop:=∃ v,r=.returned v/\Strs w' v l/\XF w w'
theorem sb_at {w:World} {sb:Nat} (h:blk w sb=some (.cells #[.string ⟨#[60,61]⟩,.string ⟨#[62,61]⟩,.string ⟨#[61]⟩] 9 (0,0))) {k:Nat} (hk:k<=2):w.cell? ⟨sb,k,none⟩=some (.string (signT k)):=by
 rcases k with _ | _ | _ | k
 ·exact cellq h 0 rfl
 ·exact cellq h 1 rfl
 ·exact cellq h 2 rfl
 ·omega
theorem Format_any (w:World) (pv:Value) (p:ProgV) (hp:IsPrg w pv p) (ht:Tab10 w) (hT:∀ i,i<p.rows.length->(p.r i).terms.length<=1000):Calls Tryz.prog 13 #[pv] w (StrsPost w (fmtT p)):=by
 obtain ⟨vo,vn,vc,ro,rn,rc,rfl⟩:=hp.slices5
 have HLn:=bH (show p.vars.length=vn/\p.rows.length=rn from by
  obtain ⟨vv,rv,e,h,h2⟩:=hp
  cases e
  obtain ⟨_,_,e,_⟩:=h.shape
  obtain ⟨_,_,e2,_⟩:=h2.shape
  cases e; cases e2
  exact ⟨rfl,rfl⟩)
 have hxa:=(Ext.refl (fun _=>False) w).alloc (.cells #[.slice vo vn vc,.slice ro rn rc] 25)
 have HB:=bH (bI (hp.keep hxa) (bI (blk_alloc_at w (.cells #[.slice vo vn vc,.slice ro rn rc] 25)) hxa))
 have HTm:=bH hT
 have HTb:=bH (fun W (hW:XF w W)=>ht.keep hW)
 clear hp hxa hT ht
 go_enter Tryz.func13,Tryz.ntmps13
 go_upto_region 1 with fail
 generalize w.alloc (.cells #[.slice vo vn vc,.slice ro rn rc] 25)=w1 at *
 obtain ⟨pb,hpb⟩:∃ q,w.heap.size=q:=⟨_,rfl⟩
 rw [hpb] at HB ⊢
 have HPb:=bH hpb
 clear hpb
 have p0:w1.cell? ⟨pb,0,none⟩=some (.slice vo vn vc):=cellq HB.out.2.1 0 rfl
 have p1:w1.cell? ⟨pb,1,none⟩=some (.slice ro rn rc):=cellq HB.out.2.1 1 rfl
 have HVa:=bH (Valid_any w1 (.agg #[.slice vo vn vc,.slice ro rn rc]) p HB.out.1)
 obtain ⟨vb,hvb⟩:∃ vb,validB p=vb:=⟨_,rfl⟩
 rw [hvb] at HVa
 have HVb:=bH hvb
 clear hvb
 cases vb with
 | false =>
  go_wp2_with (go_at_call 10; refine HVa.out.mono ?_; rintro q2 w2 ⟨rfl,hx2⟩)
  go_ret
  exact ⟨_,rfl,by unfold fmtT; rw [HVb.out]; exact (show SRow w2 0 (.slice none 0 0) [] from World.ownsRow_nil _ _ _ 1).strs,HB.out.2.2.trans hx2⟩
 | true =>
 have HFm:=bH (show fmtT p=varsT p vn++rowsT p rn from by unfold fmtT; rw [HVb.out,HLn.out.1,HLn.out.2]; rfl)
 have hnm:=HVb.out
 unfold validB at hnm
 simp only [Bool.and_eq_true,decide_eq_true_eq] at hnm
 have hn4:vn<=400:=by have:=hnm.1.1.1; have:=HLn.out.1; omega
 have hm4:rn<=4000:=by have:=hnm.1.1.2; have:=HLn.out.2; omega
 clear hnm
 rw [HFm.out]
 go_upto_region 4 with (go_at_call 10; refine HVa.out.mono ?_; rintro q2 w2 ⟨rfl,hx2⟩; replace p0:=cell_keep p0 hx2; replace p1:=cell_keep p1 hx2)
 have HP:=bH (bI (HB.out.1.keep hx2) (bI (blk_keep HB.out.2.1 hx2) (HB.out.2.2.trans hx2)))
 clear hx2 HVa HB
 go_wp2_with fail
 go_loopg [17,3,4,5,6,7] vn (fun gg v17 v3 v4 v5 v6 v7 wr=>∃ (k:Nat) (v:Value),k<=vn/\gg=vn - k/\v17=.int .i64 k/\v=v3/\SRow wr w2.heap.size v (varsT p k)/\XF w2 wr)
 case atStart=>exact ⟨0,_,Nat.zero_le _,rfl,rfl,rfl,World.ownsRow_nil _ _ _ 1,Ext.refl _ _⟩
 case round =>
  clear p0 p1
  obtain ⟨i,v,hi,rfl,rfl,rfl,hs,hx⟩:=hrel
  have HM0:=bH (bI hs hx)
  clear hs hx
  by_cases hin:i<vn
  ·have i0:(i:Int)<(vn:Int):=by omega
   have i1:(0:Int)<=(i:Int):=by omega
   have hVs:Vrs wr (.slice vo vn vc) p.vars:=by
    obtain ⟨vv,rv,e,h,h2⟩:=HP.out.1.keep HM0.out.2
    cases e
    exact h
   obtain ⟨b,off,rfl,-,e0,e1,e2,e3,e4,hok⟩:=hVs.atp i (by rw [HLn.out.1]; exact hin)
   clear hVs
   obtain ⟨x,hxv⟩:∃ x,p.v i=x:=⟨_,rfl⟩
   have HNx:=bH (varsT_next p i)
   rw [hxv] at e0 e1 e2 e3 e4 hok HNx
   clear hxv
   obtain ⟨lo,up,op,ig,co⟩:=x
   dsimp only at e0 e1 e2 e3 e4
   have HOk:=bH hok
   obtain ⟨h1,h2,h3⟩:=hok
   dsimp only at h1 h2 h3
   have hxa:=(Ext.refl (fun _=>False) wr).alloc (.cells #[.int .i64 lo,.int .i64 up,.bool op,.bool ig,.int .i64 co] 57)
   have HA0:=bH (bI (blk_alloc_at wr (.cells #[.int .i64 lo,.int .i64 up,.bool op,.bool ig,.int .i64 co] 57)) (bI (HM0.out.1.keep hxa) (bI (HM0.out.2.trans hxa) (fun k hk=>Nat.ne_of_lt (World.ownsRow.lt HM0.out.1 k hk).2:∀ k,v.ownBlock=some k->k≠wr.heap.size))))
   clear hxa
   go_upto_region 7 with fail
   generalize wr.alloc (.cells #[.int .i64 lo,.int .i64 up,.bool op,.bool ig,.int .i64 co] 57)=w4 at *
   generalize wr.heap.size=xb at *
   clear e0 e1 e2 e3 e4
   have e1:=cellq HA0.out.1 1 rfl
   have hs1:=numT_size h2
   have hq1:¬ 9223372036854775807<(numT up).size+1:=by omega
   have HNu:=bH (number_any w4 up h2 (HTb.out _ (HP.out.2.2.trans HA0.out.2.2.1)))
   go_upto_if 27 with (go_at_call 49; refine HNu.out.mono ?_; rintro q5 w5 ⟨rfl,hx5⟩; have e2:=cell_keep (cellq HA0.out.1 2 rfl) hx5)
   have HA:=bH (bI (blk_keep HA0.out.1 hx5) (bI (HA0.out.2.1.keep hx5) (bI (HA0.out.2.2.1.trans hx5) HA0.out.2.2.2)))
   clear hx5 HA0 e1 e2 HNu hq1 hs1 HM0
   have e3:=cellq HA.out.1 3 rfl
   go_cut [6] (fun v6 wx=>v6=.string (upT ⟨lo,up,op,ig,co⟩)/\wx=w5)
   case first =>
    cases op
    ·go_wp2
     go_meet
     exact ⟨rfl,rfl⟩
    ·go_wp2
     go_meet
     exact ⟨rfl,rfl⟩
   case rest =>
   obtain ⟨rfl,rfl⟩:=hcut
   go_upto_if 29 with fail
   go_cut [7] (fun v7 wx=>v7=.string (kindT ⟨lo,up,op,ig,co⟩)/\wx=wc)
   case first =>
    cases ig
    ·go_wp2
     go_meet
     exact ⟨rfl,rfl⟩
    ·go_wp2
     go_meet
     exact ⟨rfl,rfl⟩
   case rest =>
   obtain ⟨rfl,rfl⟩:=hcut
   have hu1:=upT_size (v:=⟨lo,up,op,ig,co⟩) h2
   have hk1:=kindT_size ⟨lo,up,op,ig,co⟩
   obtain ⟨us,hus⟩:∃ s,upT ⟨lo,up,op,ig,co⟩=s:=⟨_,rfl⟩
   obtain ⟨ks,hks⟩:∃ s,kindT ⟨lo,up,op,ig,co⟩=s:=⟨_,rfl⟩
   have HU:=bH (show varT i ⟨lo,up,op,ig,co⟩=⟨#[120]⟩++numT i++⟨#[32,105,110,32,91]⟩++numT lo++⟨#[44,32]⟩++us++⟨#[32]⟩++ks++⟨#[32,99,111,115,116,32]⟩++numT co from by unfold varT; rw [hus,hks])
   rw [hus] at hu1 ⊢
   rw [hks] at hk1 ⊢
   clear hus hks e3
   have hi1:InR (i:Int):=by unfold InR; omega
   have ha1:=numT_size hi1
   have ha2:=numT_size h1
   have ha3:=numT_size h3
   have hz0:¬ 9223372036854775807<1+(numT i).size:=by omega
   have hz1:¬ 9223372036854775807<1+(numT i).size+5:=by omega
   have hz2:¬ 9223372036854775807<1+(numT i).size+5+(numT lo).size:=by omega
   have hz3:¬ 9223372036854775807<1+(numT i).size+5+(numT lo).size+2:=by omega
   have hz4:¬ 9223372036854775807<1+(numT i).size+5+(numT lo).size+2+us.size:=by omega
   have hz5:¬ 9223372036854775807<1+(numT i).size+5+(numT lo).size+2+us.size+1:=by omega
   have hz6:¬ 9223372036854775807<1+(numT i).size+5+(numT lo).size+2+us.size+1+ks.size:=by omega
   have hz7:¬ 9223372036854775807<1+(numT i).size+5+(numT lo).size+2+us.size+1+ks.size+6:=by omega
   have hz8:¬ 9223372036854775807<1+(numT i).size+5+(numT lo).size+2+us.size+1+ks.size+6+(numT co).size:=by omega
   clear ha1 ha2 ha3 hu1 hk1
   have HLo:=bH (fun k (hk:v.ownBlock=some k)=>(World.ownsRow.lt HA.out.2.1 k hk).1)
   have HEx:=bH (fun W (hW:Ext (fun k=>v.ownBlock=some k) wc W)=>(HA.out.2.2.1.own hW (fun k hk=>HLo.out k hk):XF w2 W))
   have HI1:=bH (fun W (hW:Ext (fun k=>v.ownBlock=some k) wc W)=>itoa_any W i hi1 (HTb.out _ (HP.out.2.2.trans (HEx.out W hW))))
   have HN1:=bH (fun W (hW:Ext (fun k=>v.ownBlock=some k) wc W)=>number_any W lo h1 (HTb.out _ (HP.out.2.2.trans (HEx.out W hW))))
   have HN2:=bH (fun W (hW:Ext (fun k=>v.ownBlock=some k) wc W)=>number_any W co h3 (HTb.out _ (HP.out.2.2.trans (HEx.out W hW))))
   have HLw:=bH HA.out.2.2.1.size
   have HLl:=bH (show (varsT p i).length<=100000 from by rw [varsT_len]; omega)
   have e0:=cqo (S:=fun k=>v.ownBlock=some k) (cellq HA.out.1 0 rfl) (fun e=>HA.out.2.2.2 _ e rfl)
   have e4:=cqo (S:=fun k=>v.ownBlock=some k) (cellq HA.out.1 4 rfl) (fun e=>HA.out.2.2.2 _ e rfl)
   have hs0:=HA.out.2.1.keep ((Ext.refl (fun _=>False) wc).drew)
   clear h1 h2 h3 hi1
   go_upto_region 12 with fail
   refine wp_region_held_drew (S:=(Ext (fun k=>v.ownBlock=some k) wc)) (by kernel_rfl) ((Ext.refl _ wc).drew) (fun hHeld=>?_)
   refine ht 0 (h:=(ht 1 (h:=(ht 5 (h:=(ht 6 (h:=(ht 10 (h:=(ht 13 (h:=(ht 16 (h:=(ht 17 (h:=?_)))))))))))))))
   (try go_frame)
   refine hst 2 (h:=fun K hK=>?_)
   (go_simp; go_at_call 50; (with_reducible refine (HI1.out _ hHeld).mono ?_); rintro q1 w11 ⟨rfl,hx1⟩; have hX1:=hHeld.trans (ext_any hx1 _); have hs1:=hs0.keep hx1)
   refine hK.out _ _ (hX1) (fun hHeld=>?_)
   clear hK K
   (try go_frame)
   refine ht 3 (h:=(ht 4 (h:=?_)))
   (try go_frame)
   refine hst 7 (h:=fun K hK=>?_)
   (go_simp; go_at_call 49; (with_reducible refine (HN1.out _ hX1).mono ?_); rintro q2 w12 ⟨rfl,hx2⟩; have hX2:=hX1.trans (ext_any hx2 _); have hs2:=hs1.keep hx2)
   refine hK.out _ _ (hX2) (fun hHeld=>?_)
   clear hK K
   (try go_frame)
   refine ht 8 (h:=(ht 9 (h:=(ht 11 (h:=(ht 12 (h:=(ht 14 (h:=(ht 15 (h:=?_)))))))))))
   (try go_frame)
   refine hst 18 (h:=fun K hK=>?_)
   (go_simp; go_at_call 49; (with_reducible refine (HN2.out _ hX2).mono ?_); rintro q3 w13 ⟨rfl,hx3⟩; have hX3:=hX2.trans (ext_any hx3 _); have hs3:=hs2.keep hx3)
   refine hK.out _ _ (hX3) (fun hHeld=>?_)
   clear hK K
   (try go_frame)
   refine ht 19 (h:=?_)
   (try go_frame)
   refine hst 20 (h:=fun K hK=>?_)
   (go_simp; obtain ⟨S,hS⟩:∃ S,⟨#[120]⟩++numT i++⟨#[32,105,110,32,91]⟩++numT lo++⟨#[44,32]⟩++us++⟨#[32]⟩++ks++⟨#[32,99,111,115,116,32]⟩++numT co=S:=⟨_,rfl⟩; rw [hS]; have HSx:=bH hS; clear hS; have hxa:=(Ext.refl (fun _=>False) w13).alloc (.cells #[.string S] 9); have HAl:=bH (blk_alloc_at w13 (.cells #[.string S] 9)); have HS:=bH (hs3.keep hxa); have hXa:=hX3.trans (ext_any hxa _); have HLs:=bH hXa.size; have HLe:=bH (show w2.heap.size<=(w13.alloc (.cells #[.string S] 9)).heap.size from Nat.le_trans HLw.out hXa.size); clear hxa)
   refine hK.out _ _ (hXa) (fun hHeld=>?_)
   clear hK K
   (try go_frame)
   refine hst 21 (h:=fun K hK=>?_)
   refine step_appS rfl (.tmp 30) (.tmp 50) rfl w2.heap.size v (varsT p i) rfl HS.out S rfl (cellq HAl.out 0 rfl) HLl.out HLe.out (fun v9 w9 hs9 hx9 hl9=>?_); have hxo:=hXa.trans hx9; have HN:=bH (bI hs9 (bI hxo hl9))
   refine hK.out _ _ (hxo) (fun hHeld=>?_)
   clear hK K
   (try go_frame)
   refine ht 22 (h:=?_)
   (try go_frame)
   refine wpAnyH_done (by kernel_rfl) ?_ _
   have HF:=bH (HEx.out _ HN.out.2.1)
   go_wp2
   go_roundg (vn - (i+1))
   case measure=>omega
   case rel=>exact ⟨i+1,_,by omega,rfl,by go_num,rfl,by rw [HNx.out,HU.out,HSx.out]; exact HN.out.1,HF.out⟩
  ·obtain rfl:vn=i:=by omega
   obtain ⟨wo,rfl⟩:∃ x,x=wr:=⟨_,rfl⟩
   have hxs:=(Ext.refl (fun _=>False) wo).alloc (.cells #[.string ⟨#[60,61]⟩,.string ⟨#[62,61]⟩,.string ⟨#[61]⟩] 9)
   have HS0:=bH (bI (blk_alloc_at wo (.cells #[.string ⟨#[60,61]⟩,.string ⟨#[62,61]⟩,.string ⟨#[61]⟩] 9)) (bI (HM0.out.1.keep hxs) (bI (HM0.out.2.trans hxs) (fun k hk=>Nat.ne_of_lt (World.ownsRow.lt HM0.out.1 k hk).2:∀ k,v.ownBlock=some k->k≠wo.heap.size))))
   clear hxs
   go_upto_region 15 with fail
   generalize wo.alloc (.cells #[.string ⟨#[60,61]⟩,.string ⟨#[62,61]⟩,.string ⟨#[61]⟩] 9)=w3 at *
   generalize wo.heap.size=sb at *
   have p0:=cellq (blk_keep HP.out.2.1 HS0.out.2.2.1) 0 rfl
   have p1:=cellq (blk_keep HP.out.2.1 HS0.out.2.2.1) 1 rfl
   go_wp2_with fail
   go_loopg [57,3,10] rn (fun gg v57 v3 v10 wr=>∃ (k:Nat) (v:Value),k<=rn/\gg=rn - k/\v57=.int .i64 k/\v=v3/\SRow wr w2.heap.size v (varsT p vn++rowsT p k)/\XF w2 wr/\blk wr sb=some (.cells #[.string ⟨#[60,61]⟩,.string ⟨#[62,61]⟩,.string ⟨#[61]⟩] 9 (0,0))/\∀ q,v.ownBlock=some q->q≠sb)
   case atStart=>exact ⟨0,_,Nat.zero_le _,rfl,rfl,rfl,by show SRow w3 _ _ (varsT p vn++[]); rw [List.append_nil]; exact HS0.out.2.1,HS0.out.2.2.1,HS0.out.1,HS0.out.2.2.2⟩
   case round =>
    clear p0 p1 HS0 HM0 v
    obtain ⟨i,v,hi,rfl,rfl,rfl,hs,hx,hsb,hne⟩:=hrel
    have HM0:=bH (bI hs (bI hx (bI hsb hne)))
    clear hs hx hsb hne
    by_cases hin:i<rn
    ·have i0:(i:Int)<(rn:Int):=by omega
     have i1:(0:Int)<=(i:Int):=by omega
     have hRs:Rws wr (.slice ro rn rc) p.rows:=by
      obtain ⟨vv,rv,e,h,h2⟩:=HP.out.1.keep HM0.out.2.1
      cases e
      exact h2
     have hil:i<p.rows.length:=by rw [HLn.out.2]; exact hin
     obtain ⟨b,off,ta,tc,rfl,-,e0,e1,e2,e3,e4,hok,hT⟩:=hRs.atp i hil
     clear hRs
     have hrB:=valid_row HVb.out hil
     have htl:=HTm.out i hil
     obtain ⟨r,hrv⟩:∃ r,p.r i=r:=⟨_,rfl⟩
     have HNx:=bH (rowsT_next p i)
     rw [hrv] at e0 e1 e2 e3 e4 hok HNx hT hrB htl
     clear hrv
     obtain ⟨nm,gr,kd,tms,bd⟩:=r
     dsimp only at e0 e1 e2 e3 e4 hT htl
     obtain ⟨h1,h2,-,h3⟩:=hok
     dsimp only at h1 h2 h3
     unfold rowB at hrB
     simp only [Bool.and_eq_true,decide_eq_true_eq] at hrB
     have hnm:nm.size<=80:=hrB.1.1.1.2
     obtain ⟨k,rfl⟩:∃ k:Nat,kd=k:=⟨kd.toNat,by omega⟩
     have hk2:k<=2:=by omega
     have hcf:∀ t ∈ tms,limB t.coef=true:=fun t ht=>by
      obtain ⟨q,hq,rfl⟩:=List.getElem_of_mem ht
      have:=((termsB_coef hrB.2) q hq)
      rwa [getD_lt hq term0] at this
     have hts1:=termsT_size (fun t ht=>(hT.2 t ht).var) hcf
     have htl2:=htl
     obtain ⟨tl,htl'⟩:∃ n,tms.length=n:=⟨_,rfl⟩
     rw [htl'] at e3 hts1 htl hT
     have HTT:=bH (bI hT (bI htl2 hcf))
     clear htl2
     have hxa:=(Ext.refl (fun _=>False) wr).alloc (.cells #[.string nm,.int .i64 gr,.int .i64 k,.slice ta tl tc,.int .i64 bd] 75)
     have HA:=bH (bI (blk_alloc_at wr (.cells #[.string nm,.int .i64 gr,.int .i64 k,.slice ta tl tc,.int .i64 bd] 75)) (bI (HM0.out.1.keep hxa) (bI (HM0.out.2.1.trans hxa) (bI (fun k hk=>Nat.ne_of_lt (World.ownsRow.lt HM0.out.1 k hk).2:∀ k,v.ownBlock=some k->k≠wr.heap.size) (bI (blk_keep HM0.out.2.2.1 hxa) HM0.out.2.2.2)))))
     have HTk:=bH (HTT.out.1.keep hxa)
     clear hxa hrB hT hcf
     go_upto_region 18 with fail
     generalize wr.alloc (.cells #[.string nm,.int .i64 gr,.int .i64 k,.slice ta tl tc,.int .i64 bd] 75)=w5 at *
     generalize wr.heap.size=xb at *
     clear e0 e1 e2 e3 e4 HM0
     obtain ⟨sg,hsg⟩:∃ s,signT k=s:=⟨_,rfl⟩
     have hg1:sg.size<=2:=by rw [<- hsg]; exact signT_size k
     have hsc:=sb_at HA.out.2.2.2.2.1 hk2
     rw [hsg] at hsc
     obtain ⟨ts,hts⟩:∃ s,termsT tms=s:=⟨_,rfl⟩
     have HU:=bH (show rowT ⟨nm,gr,k,tms,bd⟩=nm++⟨#[32,40]⟩++numT gr++⟨#[41,58,32]⟩++ts++⟨#[32]⟩++sg++⟨#[32]⟩++numT bd from by unfold rowT; rw [hsg,hts])
     rw [hts] at hts1
     have ha1:=numT_size h2
     have ha3:=numT_size h3
     have hz0:¬ 9223372036854775807<nm.size+2:=by omega
     have hz1:¬ 9223372036854775807<nm.size+2+(numT gr).size:=by omega
     have hz2:¬ 9223372036854775807<nm.size+2+(numT gr).size+3:=by omega
     have hz3:¬ 9223372036854775807<nm.size+2+(numT gr).size+3+ts.size:=by omega
     have hz4:¬ 9223372036854775807<nm.size+2+(numT gr).size+3+ts.size+1:=by omega
     have hz5:¬ 9223372036854775807<nm.size+2+(numT gr).size+3+ts.size+1+sg.size:=by omega
     have hz6:¬ 9223372036854775807<nm.size+2+(numT gr).size+3+ts.size+1+sg.size+1:=by omega
     have hz7:¬ 9223372036854775807<nm.size+2+(numT gr).size+3+ts.size+1+sg.size+1+(numT bd).size:=by omega
     clear ha1 ha3 hg1 hnm hts1
     have HLo:=bH (fun k (hk:v.ownBlock=some k)=>(World.ownsRow.lt HA.out.2.1 k hk).1)
     have HEx:=bH (fun W (hW:Ext (fun k=>v.ownBlock=some k) w5 W)=>(HA.out.2.2.1.own hW (fun k hk=>HLo.out k hk):XF w2 W))
     have HI1:=bH (fun W (hW:Ext (fun k=>v.ownBlock=some k) w5 W)=>itoa_any W gr h2 (HTb.out _ (HP.out.2.2.trans (HEx.out W hW))))
     have HN2:=bH (fun W (hW:Ext (fun k=>v.ownBlock=some k) w5 W)=>number_any W bd h3 (HTb.out _ (HP.out.2.2.trans (HEx.out W hW))))
     have HT1:=bH (fun W (hW:Ext (fun k=>v.ownBlock=some k) w5 W) (hx:XF w5.drew W)=>hts ▸ terms_any W (.slice ta tl tc) tms (HTk.out.keep ((Ext.refl (fun _=>False) w5).drew.trans hx)) HTT.out.2.1 HTT.out.2.2 (HTb.out _ (HP.out.2.2.trans (HEx.out W hW))))
     have HLw:=bH HA.out.2.2.1.size
     have HLl:=bH (show (varsT p vn++rowsT p i).length<=100000 from by rw [List.length_append,varsT_len,rowsT_len]; omega)
     have e0:=cqo (S:=fun k=>v.ownBlock=some k) (cellq HA.out.1 0 rfl) (fun e=>HA.out.2.2.2.1 _ e rfl)
     have e1:=cqo (S:=fun k=>v.ownBlock=some k) (cellq HA.out.1 1 rfl) (fun e=>HA.out.2.2.2.1 _ e rfl)
     have e2:=cqo (S:=fun k=>v.ownBlock=some k) (cellq HA.out.1 2 rfl) (fun e=>HA.out.2.2.2.1 _ e rfl)
     have e3:=cqo (S:=fun k=>v.ownBlock=some k) (cellq HA.out.1 3 rfl) (fun e=>HA.out.2.2.2.1 _ e rfl)
     have e4:=cqo (S:=fun k=>v.ownBlock=some k) (cellq HA.out.1 4 rfl) (fun e=>HA.out.2.2.2.1 _ e rfl)
     have e5:=cqo (S:=fun k=>v.ownBlock=some k) hsc (fun e=>HA.out.2.2.2.2.2 _ e rfl)
     simp only [List.getElem_toArray,List.getElem_cons_zero,List.getElem_cons_succ] at e0 e1 e2 e3 e4
     have k3:(k:Int)<3:=by omega
     have k4:(0:Int)<=(k:Int):=by omega
     have HSb:=bH (blk_lt HA.out.2.2.2.2.1)
     have hs0:=HA.out.2.1.keep ((Ext.refl (fun _=>False) w5).drew)
     clear h1 h2 h3 hsg hts hsc
     refine wp_region_held_drew (S:=(Ext (fun k=>v.ownBlock=some k) w5)) (by kernel_rfl) ((Ext.refl _ w5).drew) (fun hHeld=>?_)
     refine ht 0 (h:=(ht 1 (h:=(ht 2 (h:=(ht 3 (h:=(ht 4 (h:=(ht 5 (h:=(ht 9 (h:=(ht 10 (h:=(ht 14 (h:=(ht 15 (h:=(ht 16 (h:=(ht 17 (h:=(ht 18 (h:=(ht 21 (h:=(ht 22 (h:=?_)))))))))))))))))))))))))))))
     (try go_frame)
     refine hst 6 (h:=fun K hK=>?_)
     (go_simp; go_at_call 50; (with_reducible refine (HI1.out _ hHeld).mono ?_); rintro q1 w11 ⟨rfl,hx1⟩; have hX1:=hHeld.trans (ext_any hx1 _); have hs1:=hs0.keep hx1)
     refine hK.out _ _ (hX1) (fun hHeld=>?_)
     clear hK K
     (try go_frame)
     refine ht 7 (h:=(ht 8 (h:=?_)))
     (try go_frame)
     refine hst 11 (h:=fun K hK=>?_)
     (go_simp; go_at_call 51; (with_reducible refine (HT1.out _ hX1 hx1).mono ?_); rintro q2 w12 ⟨rfl,hx2⟩; have hX2:=hX1.trans (ext_any hx2 _); have hs2:=hs1.keep hx2)
     refine hK.out _ _ (hX2) (fun hHeld=>?_)
     clear hK K
     (try go_frame)
     refine ht 12 (h:=(ht 13 (h:=(ht 19 (h:=(ht 20 (h:=?_)))))))
     (try go_frame)
     refine hst 23 (h:=fun K hK=>?_)
     (go_simp; go_at_call 49; (with_reducible refine (HN2.out _ hX2).mono ?_); rintro q3 w13 ⟨rfl,hx3⟩; have hX3:=hX2.trans (ext_any hx3 _); have hs3:=hs2.keep hx3)
     refine hK.out _ _ (hX3) (fun hHeld=>?_)
     clear hK K
     (try go_frame)
     refine ht 24 (h:=?_)
     (try go_frame)
     refine hst 25 (h:=fun K hK=>?_)
     (go_simp; obtain ⟨S,hS⟩:∃ S,nm++⟨#[32,40]⟩++numT gr++⟨#[41,58,32]⟩++ts++⟨#[32]⟩++sg++⟨#[32]⟩++numT bd=S:=⟨_,rfl⟩; rw [hS]; have HSx:=bH hS; clear hS; have hxa:=(Ext.refl (fun _=>False) w13).alloc (.cells #[.string S] 9); have HAl:=bH (blk_alloc_at w13 (.cells #[.string S] 9)); have HS:=bH (hs3.keep hxa); have hXa:=hX3.trans (ext_any hxa _); have HLs:=bH hXa.size; have HLe:=bH (show w2.heap.size<=(w13.alloc (.cells #[.string S] 9)).heap.size from Nat.le_trans HLw.out hXa.size); clear hxa)
     refine hK.out _ _ (hXa) (fun hHeld=>?_)
     clear hK K
     (try go_frame)
     refine hst 26 (h:=fun K hK=>?_)
     refine step_appS rfl (.tmp 61) (.tmp 86) rfl w2.heap.size v (varsT p vn++rowsT p i) rfl HS.out S rfl (cellq HAl.out 0 rfl) HLl.out HLe.out (fun v9 w9 hs9 hx9 hl9=>?_); have hxo:=hXa.trans hx9; have HN:=bH (bI hs9 (bI hxo hl9))
     refine hK.out _ _ (hxo) (fun hHeld=>?_)
     clear hK K
     (try go_frame)
     refine ht 27 (h:=?_)
     (try go_frame)
     refine wpAnyH_done (by kernel_rfl) ?_ _
     have HF:=bH (HEx.out _ HN.out.2.1)
     have HSk:=bH (((ext_any HF.out (fun _=>False)):XF w2 w9))
     have HSc:=bH ((HN.out.2.1.blk (HSb.out) (fun e=>HA.out.2.2.2.2.2 _ e rfl)).trans HA.out.2.2.2.2.1)
     have HNw:=bH (show ∀ q,v9.ownBlock=some q->q≠sb from fun q hq=>by
      rcases HN.out.2.2 with e | e
      ·exact HA.out.2.2.2.2.2 q (by rw [<- e]; exact hq)
      ·rw [e] at hq
       have:=Option.some.inj hq
       have:=HSb.out
       have:=HLs.out
       omega)
     go_wp2
     go_roundg (rn - (i+1))
     case measure=>omega
     case rel=>exact ⟨i+1,_,by omega,rfl,by go_num,rfl,by rw [HNx.out,HU.out,HSx.out,<- List.append_assoc]; exact HN.out.1,HF.out,HSc.out,HNw.out⟩
    ·obtain rfl:rn=i:=by omega
     go_wp2
     go_ret
     exact ⟨_,rfl,by rw [HFm.out]; exact HM0.out.1.strs,HP.out.2.2.trans HM0.out.2.1⟩
theorem Strs.shape {w:World} {v:Value} {l:List ByteArray} (h:Strs w v l):∃ ao c,v=.slice ao l.length c/\l.length<=maxLen:=by
 obtain ⟨ao,c,rfl,h1,h2,_⟩:=h
 rw [List.length_map] at h1 ⊢
 exact ⟨ao,c,rfl,Nat.le_trans h1 h2⟩
theorem Strs.keep {w w':World} {v:Value} {l:List ByteArray} (h:Strs w v l) (hx:XF w w'):Strs w' v l:=Sl.keep h hx
theorem Strs.at_ {w:World} {ao:Option Addr} {n c:Nat} {l:List ByteArray} (h:Strs w (.slice ao n c) l) {i:Nat} (hi:i<l.length):∃ b off,ao=some ⟨b,off,none⟩/\w.cell? ⟨b,off+i,none⟩=some (.string (l.getD i ⟨#[]⟩)):=by
 obtain ⟨b,off,h1,h2,h3⟩:=Sl.at h (i:=i) (r:=cS l[i]) (by rw [List.getElem?_map,List.getElem?_eq_getElem hi]; rfl)
 refine ⟨b,off,h1,?_⟩
 have:=h3 0 _ rfl
 rw [Nat.mul_one,Nat.add_zero] at this
 rw [getD_lt hi]
 exact this
theorem strs_eq {a b:List ByteArray} {n:Nat} (ha:a.length=n) (hb:b.length=n) (h:∀ i,i<n->a.getD i ⟨#[]⟩=b.getD i ⟨#[]⟩):a=b:=by
 refine List.ext_getElem (by omega) fun i h1 h2=>?_
 have:=h i (by omega)
 rwa [getD_lt h1,getD_lt h2] at this
theorem Lines_any (w:World) (av bv:Value) (a b:List ByteArray) (ha:Strs w av a) (hb:Strs w bv b):Calls Tryz.prog 12 #[av,bv] w (BoolPost w (decide (a=b))):=by
 obtain ⟨ao,ac,rfl,ham⟩:=ha.shape
 obtain ⟨bo,bc,rfl,hbm⟩:=hb.shape
 have hmax:maxLen<=9223372036854775807:=by unfold maxLen; decide
 have HA:=bH (bI ha hb)
 clear ha hb
 obtain ⟨n,hn⟩:∃ n,a.length=n:=⟨_,rfl⟩
 obtain ⟨m,hm⟩:∃ m,b.length=m:=⟨_,rfl⟩
 have HN:=bH (bI hn hm)
 rw [hn] at HA ham ⊢
 rw [hm] at HA hbm ⊢
 clear hn hm
 by_cases hnm:n=m
 ·subst hnm
  have n1:(n:Int)<=9223372036854775807:=by omega
  go_enter Tryz.func12,Tryz.ntmps12
  go_upto_region 3 with fail
  go_wp2_with fail
  go_loopg [5] n (fun gg v5 wr=>∃ k:Nat,k<=n/\gg=n - k/\v5=.int .i64 k/\(∀ i,i<k->a.getD i ⟨#[]⟩=b.getD i ⟨#[]⟩)/\XF w wr)
  case atStart=>exact ⟨0,Nat.zero_le _,rfl,rfl,fun i hi=>absurd hi (Nat.not_lt_zero i),Ext.refl _ _⟩
  case round =>
   obtain ⟨k,hk,rfl,rfl,hall,hx⟩:=hrel
   have HAl:=bH (bI hall hx)
   clear hall hx
   by_cases hkn:k<n
   ·have k0:(k:Int)<(n:Int):=by omega
    have k1:(0:Int)<=(k:Int):=by omega
    obtain ⟨b1,o1,rfl,e0⟩:=(HA.out.1.keep HAl.out.2).at_ (i:=k) (by rw [HN.out.1]; exact hkn)
    obtain ⟨b2,o2,rfl,e1⟩:=(HA.out.2.keep HAl.out.2).at_ (i:=k) (by rw [HN.out.2]; exact hkn)
    by_cases he:a.getD k ⟨#[]⟩=b.getD k ⟨#[]⟩
    ·have HE:=bH he
     rw [he] at e0
     clear he
     generalize b.getD k ⟨#[]⟩=s at e0 e1
     have hq:(s.toList == s.toList)=true:=by simp
     go_upto_region 6 with fail
     go_quiet (fail)
     go_wp2
     go_roundg (n - (k+1))
     case measure=>omega
     case rel=>exact ⟨k+1,by omega,rfl,by go_num,fun i hi=>by
      by_cases e:i=k
      ·subst e; exact HE.out
      ·exact HAl.out.1 i (by omega),HAl.out.2.trans (Ext.drewN (Ext.refl _ wr) _)⟩
    ·have HE:=bH he
     obtain ⟨s,hs⟩:∃ s,a.getD k ⟨#[]⟩=s:=⟨_,rfl⟩
     obtain ⟨t,ht⟩:∃ t,b.getD k ⟨#[]⟩=t:=⟨_,rfl⟩
     rw [hs] at e0 he
     rw [ht] at e1 he
     clear hs ht
     have he2:(s.toList == t.toList)=false:=(Lib.bytes_beq_false_iff s t).2 he
     go_upto_region 6 with fail
     go_quiet (fail)
     go_wp2
     go_ret
     exact ⟨ret_bool (by rw [decide_eq_false (fun e=>HE.out (by rw [e]))]),HAl.out.2.trans (Ext.drewN (Ext.refl _ wr) _)⟩
   ·obtain rfl:n=k:=by omega
    go_wp2
    go_ret
    exact ⟨ret_bool (by rw [decide_eq_true (strs_eq HN.out.1 HN.out.2 HAl.out.1)]),HAl.out.2⟩
 ·have h1:¬ ((n:Int)=(m:Int)):=by omega
  have h2:((n:Int) == (m:Int))=false:=by simpa using h1
  have h3:decide ((n:Int)=(m:Int))=false:=by simpa using h1
  have HE:=bH hnm
  clear hnm
  go_enter Tryz.func12,Tryz.ntmps12
  go_wp2
  go_ret
  exact ⟨ret_bool (by rw [decide_eq_false (fun e=>HE.out (by rw [<- HN.out.1,<- HN.out.2,e]))]),Ext.refl _ _⟩
def ex4V:List VarV:=[⟨0,3,false,false,2⟩,⟨1,0,true,false,-1⟩]
def ex4T:List TermV:=[⟨0,1⟩,⟨1,-2⟩]
def ex4R:RowV:=⟨⟨#[114]⟩,4,0,ex4T,-2⟩
def ex4:ProgV:=⟨ex4V,[ex4R]⟩
def ex4X:List Rat:=listTo 2 (qOf [0,1])
theorem example4_any (w:World):Calls Tryz.prog 40 #[] w (PrgPost w ex4):=by
 have hx:=Ext.refl (fun _=>False) w
 go_enter Tryz.func40,Tryz.ntmps40
 go_wp2
 (try simp only [Exit.inBlock,Exit.then])
 obtain ⟨bs,hbs⟩:∃ bs,w.heap.size=bs:=⟨_,rfl⟩
 have hx4:=(((hx.alloc (.cells #[.slice (some ⟨w.heap.size+1,0,none⟩) 2 2,.slice (some ⟨w.heap.size+1+1+1,0,none⟩) 1 1] 25)).alloc (.cells #[.int .i64 0,.int .i64 3,.bool false,.bool false,.int .i64 2,.int .i64 1,.int .i64 0,.bool true,.bool false,.int .i64 (-1)] 57)).alloc (.cells #[.int .i64 0,.int .i64 1,.int .i64 1,.int .i64 (-2)] 99)).alloc (.cells #[.string ⟨#[114]⟩,.int .i64 4,.int .i64 0,.slice (some ⟨w.heap.size+1+1,0,none⟩) 2 2,.int .i64 (-2)] 75)
 obtain ⟨W,hW⟩:∃ W,(((w.alloc (.cells #[.slice (some ⟨w.heap.size+1,0,none⟩) 2 2,.slice (some ⟨w.heap.size+1+1+1,0,none⟩) 1 1] 25)).alloc (.cells #[.int .i64 0,.int .i64 3,.bool false,.bool false,.int .i64 2,.int .i64 1,.int .i64 0,.bool true,.bool false,.int .i64 (-1)] 57)).alloc (.cells #[.int .i64 0,.int .i64 1,.int .i64 1,.int .i64 (-2)] 99)).alloc (.cells #[.string ⟨#[114]⟩,.int .i64 4,.int .i64 0,.slice (some ⟨w.heap.size+1+1,0,none⟩) 2 2,.int .i64 (-2)] 75)=W:=⟨_,rfl⟩
 have b0:blk W w.heap.size=some (.cells #[.slice (some ⟨w.heap.size+1,0,none⟩) 2 2,.slice (some ⟨w.heap.size+1+1+1,0,none⟩) 1 1] 25 (0,0)):=by
  rw [<- hW]
  refine (blk_alloc_past _ _ _ (by simp [World.size_alloc] <;> omega)).trans ((blk_alloc_past _ _ _ (by simp [World.size_alloc] <;> omega)).trans ((blk_alloc_past _ _ _ (by simp)).trans (blk_alloc_at _ _)))
 have b1:blk W (w.heap.size+1)=some (.cells #[.int .i64 0,.int .i64 3,.bool false,.bool false,.int .i64 2,.int .i64 1,.int .i64 0,.bool true,.bool false,.int .i64 (-1)] 57 (0,0)):=by
  rw [<- hW]
  refine (blk_alloc_past _ _ _ (by simp [World.size_alloc] <;> omega)).trans ((blk_alloc_past _ _ _ (by simp [World.size_alloc] <;> omega)).trans (blk_alloc_at' _ _ _ (by simp [World.size_alloc])))
 have b2:blk W (w.heap.size+1+1)=some (.cells #[.int .i64 0,.int .i64 1,.int .i64 1,.int .i64 (-2)] 99 (0,0)):=by
  rw [<- hW]
  refine (blk_alloc_past _ _ _ (by simp [World.size_alloc] <;> omega)).trans (blk_alloc_at' _ _ _ (by simp [World.size_alloc]))
 have b3:blk W (w.heap.size+1+1+1)=some (.cells #[.string ⟨#[114]⟩,.int .i64 4,.int .i64 0,.slice (some ⟨w.heap.size+1+1,0,none⟩) 2 2,.int .i64 (-2)] 75 (0,0)):=by
  rw [<- hW]
  exact blk_alloc_at' _ _ _ (by simp [World.size_alloc])
 rw [hW] at hx4 ⊢
 have hs:w.heap.size+1+1+1<W.heap.size:=blk_lt b3
 clear hW
 rw [hbs] at b0 b1 b2 b3 hs ⊢
 refine bodyPost_ret (results_cell_row rfl _ W bs 25 _ (0,0) _ rfl b0 Tryz.underlying25 rfl (by kernel_rfl)) rfl ?_
 refine ⟨_,rfl,⟨_,_,rfl,⟨⟨_,_,rfl,Nat.le_refl _,(by unfold maxLen; decide),(fun e=>by cases e),fun _=>⟨bs+1,0,rfl,by omega,?_⟩⟩,?_⟩,⟨[.slice (some ⟨bs+1+1,0,none⟩) 2 2],rfl,⟨_,_,rfl,Nat.le_refl _,(by unfold maxLen; decide),(fun e=>by cases e),fun _=>⟨bs+1+1+1,0,rfl,by omega,?_⟩⟩,?_⟩⟩,hx4⟩
 ·intro i r hi j u hu
  match i,hi with
  | 0,hi=>cases hi; match j,hu with
   | 0,hu=>cases hu; exact cellq b1 0 rfl
   | 1,hu=>cases hu; exact cellq b1 1 rfl
   | 2,hu=>cases hu; exact cellq b1 2 rfl
   | 3,hu=>cases hu; exact cellq b1 3 rfl
   | 4,hu=>cases hu; exact cellq b1 4 rfl
  | 1,hi=>cases hi; match j,hu with
   | 0,hu=>cases hu; exact cellq b1 5 rfl
   | 1,hu=>cases hu; exact cellq b1 6 rfl
   | 2,hu=>cases hu; exact cellq b1 7 rfl
   | 3,hu=>cases hu; exact cellq b1 8 rfl
   | 4,hu=>cases hu; exact cellq b1 9 rfl
 ·intro x hx
  simp [ex4,ex4V] at hx
  rcases hx with rfl | rfl <;> exact ⟨by unfold InR; decide,by unfold InR; decide,by unfold InR; decide⟩
 ·intro i r hi j u hu
  match i,hi with
  | 0,hi=>cases hi; match j,hu with
   | 0,hu=>cases hu; exact cellq b3 0 rfl
   | 1,hu=>cases hu; exact cellq b3 1 rfl
   | 2,hu=>cases hu; exact cellq b3 2 rfl
   | 3,hu=>cases hu; exact cellq b3 3 rfl
   | 4,hu=>cases hu; exact cellq b3 4 rfl
 ·intro i r tv hr ht
  match i,hr,ht with
  | 0,hr,ht =>
   cases hr; cases ht
   refine ⟨⟨⟨_,_,rfl,Nat.le_refl _,(by unfold maxLen; decide),(fun e=>by cases e),fun _=>⟨bs+1+1,0,rfl,by omega,?_⟩⟩,?_⟩,⟨(by show (1:Nat)<=maxLen; unfold maxLen; decide),by unfold InR; decide,by unfold InR; decide,by unfold InR; decide⟩⟩
   ·intro i r hi j u hu
    match i,hi with
    | 0,hi=>cases hi; match j,hu with
     | 0,hu=>cases hu; exact cellq b2 0 rfl
     | 1,hu=>cases hu; exact cellq b2 1 rfl
    | 1,hi=>cases hi; match j,hu with
     | 0,hu=>cases hu; exact cellq b2 2 rfl
     | 1,hu=>cases hu; exact cellq b2 3 rfl
   ·intro x hx
    have hx:x ∈ ex4T:=hx; simp [ex4T] at hx
    rcases hx with rfl | rfl <;> exact ⟨by unfold InR; decide,by unfold InR; decide⟩
theorem numT_1 {k:Nat} (h:k<10):numT k=⟨#[UInt8.ofNat (48+k)]⟩:=by
 unfold numT
 rw [Lib.itoa_nonneg,Lib.decDigits_one h]
theorem numT_m {k:Nat} (h:k<10) (h1:1<=k):numT (-(k:Int))=⟨#[45,UInt8.ofNat (48+k)]⟩:=by
 unfold numT
 rw [Lib.itoa_neg k h1,Lib.decDigits_one h]
theorem ex4_valid:validB ex4=true:=by decide +kernel
theorem ex4_viol:violQ ex4 ex4X=[]:=by decide +kernel
theorem ex4_in:insideB ex4 ex4X=true:=by decide +kernel
theorem ex4_dot:dotQ ex4T ex4X=((-2:Int):Rat):=by decide +kernel
def ex4L:List ByteArray:=[⟨#[120,48,32,105,110,32,91,48,44,32,51,93,32,114,101,97,108,32,99,111,115,116,32,50]⟩,⟨#[120,49,32,105,110,32,91,49,44,32,111,112,101,110,41,32,114,101,97,108,32,99,111,115,116,32,45,49]⟩,⟨#[114,32,40,52,41,58,32,120,48,32,45,32,50,32,120,49,32,60,61,32,45,50]⟩]
theorem ex4_fmt:fmtT ex4=ex4L:=by
 have n0:=numT_1 (k:=0) (by decide)
 have n1:=numT_1 (k:=1) (by decide)
 have n2:=numT_1 (k:=2) (by decide)
 have n3:=numT_1 (k:=3) (by decide)
 have n4:=numT_1 (k:=4) (by decide)
 have m1:=numT_m (k:=1) (by decide) (by decide)
 have m2:=numT_m (k:=2) (by decide) (by decide)
 have v0:varT 0 ⟨0,3,false,false,2⟩=ex4L.getD 0 ⟨#[]⟩:=by
  show ⟨#[120]⟩++numT (0:Nat)++⟨#[32,105,110,32,91]⟩++numT (0:Nat)++⟨#[44,32]⟩++(numT (3:Nat)++⟨#[93]⟩)++⟨#[32]⟩++⟨#[114,101,97,108]⟩++⟨#[32,99,111,115,116,32]⟩++numT (2:Nat)=_
  rw [n0,n3,n2]
  decide +kernel
 have v1:varT 1 ⟨1,0,true,false,-1⟩=ex4L.getD 1 ⟨#[]⟩:=by
  show ⟨#[120]⟩++numT (1:Nat)++⟨#[32,105,110,32,91]⟩++numT (1:Nat)++⟨#[44,32]⟩++⟨#[111,112,101,110,41]⟩++⟨#[32]⟩++⟨#[114,101,97,108]⟩++⟨#[32,99,111,115,116,32]⟩++numT (-((1:Nat):Int))=_
  rw [n1,m1]
  decide +kernel
 have t0:termT 0 ⟨0,1⟩=⟨#[120,48]⟩:=by
  show ⟨#[120]⟩++numT (0:Nat)=_
  rw [n0]
  decide +kernel
 have t1:termT 1 ⟨1,-2⟩=⟨#[45,32,50,32,120,49]⟩:=by
  show ⟨#[45,32]⟩++(numT (2:Nat)++⟨#[32]⟩++(⟨#[120]⟩++numT (1:Nat)))=_
  rw [n2,n1]
  decide +kernel
 have tt:termsT ex4T=⟨#[120,48,32,45,32,50,32,120,49]⟩:=by
  have hp:partsT ex4T ex4T.length=[termT 0 ⟨0,1⟩,termT 1 ⟨1,-2⟩]:=rfl
  unfold termsT
  rw [if_neg (by unfold ex4T; simp),hp,t0,t1]
  decide +kernel
 have r0:rowT ex4R=ex4L.getD 2 ⟨#[]⟩:=by
  show (⟨#[114]⟩:ByteArray)++⟨#[32,40]⟩++numT (4:Nat)++⟨#[41,58,32]⟩++termsT ex4T++⟨#[32]⟩++⟨#[60,61]⟩++⟨#[32]⟩++numT (-((2:Nat):Int))=_
  rw [n4,tt,m2]
  decide +kernel
 have e:fmtT ex4=[varT 0 ⟨0,3,false,false,2⟩,varT 1 ⟨1,0,true,false,-1⟩,rowT ex4R]:=by
  unfold fmtT
  rw [ex4_valid]
  rfl
 rw [e,v0,v1,r0]
 rfl
theorem ex4L_strs {w:World} {b:Nat} (h:blk w b=some (.cells #[.string (ex4L.getD 0 ⟨#[]⟩),.string (ex4L.getD 1 ⟨#[]⟩),.string (ex4L.getD 2 ⟨#[]⟩)] 9 (0,0))):Strs w (.slice (some ⟨b,0,none⟩) 3 3) ex4L:=by
 refine ⟨some ⟨b,0,none⟩,3,rfl,Nat.le_refl _,by unfold maxLen; decide,(fun e=>by cases e),fun _=>⟨b,0,rfl,blk_lt h,fun i r hi j u hu=>?_⟩⟩
 match i,hi with
 | 0,hi=>cases hi; match j,hu with
  | 0,hu=>cases hu; exact cellq h 0 rfl
 | 1,hi=>cases hi; match j,hu with
  | 0,hu=>cases hu; exact cellq h 1 rfl
 | 2,hi=>cases hi; match j,hu with
  | 0,hu=>cases hu; exact cellq h 2 rfl
theorem awake4_any (w:World) (ht:Tab10 w):Calls Tryz.prog 8 #[] w (BoolPost w true):=by
 have HTb:=bH (fun W (hW:XF w W)=>ht.keep hW)
 clear ht
 have HEx:=bH (fun W=>example4_any W)
 have hIx:∀ x ∈ [(0:Int),1],InR x:=fun x hx=>by
  simp at hx
  rcases hx with rfl | rfl <;> exact ⟨by decide,by decide⟩
 have HIn:=bH (fun W b (hc:∀ i,i<2->W.cell? ⟨b,i,none⟩=some (.int .i64 ([(0:Int),1].getD i 0)))=>show Calls Tryz.prog 41 #[.slice (some ⟨b,0,none⟩) 2 2] W (RatsPost W ex4X 2) from Ints_any W b 2 [0,1] 2 hc hIx (by decide) (by decide))
 clear hIx
 go_enter Tryz.func8,Tryz.ntmps8
 go_upto_region 2 with (go_at_call 40; refine (HEx.out _).mono ?_; rintro q1 w1 ⟨v1,rfl,hp1,hx1⟩; obtain ⟨vo,vn,vc,ro,rn,rc,rfl⟩:=hp1.slices5)
 have hlen:vn=2/\rn=1:=by
  obtain ⟨vv,rv,e,h,h2⟩:=hp1
  cases e
  obtain ⟨_,_,e,_⟩:=h.shape
  obtain ⟨_,_,e2,_⟩:=h2.shape
  cases e; cases e2
  exact ⟨rfl,rfl⟩
 obtain ⟨rfl,rfl⟩:=hlen
 have hxa:=(Ext.refl (fun _=>False) w1).alloc (.cells #[.slice vo 2 vc,.slice ro 1 rc] 25)
 have HP:=bH (bI (hp1.keep hxa) (bI (blk_alloc_at w1 (.cells #[.slice vo 2 vc,.slice ro 1 rc] 25)) (hx1.trans hxa)))
 clear hp1 hx1 hxa
 generalize w1.alloc (.cells #[.slice vo 2 vc,.slice ro 1 rc] 25)=w2 at *
 generalize w1.heap.size=pb at *
 have hxb:=(Ext.refl (fun _=>False) w2).alloc (.cells #[.int .i64 0,.int .i64 1] 2)
 have HI2:=bH (HIn.out (w2.alloc (.cells #[.int .i64 0,.int .i64 1] 2)) w2.heap.size (fun i hi=>by
  match i,hi with
  | 0,_=>exact cellq (blk_alloc_at w2 (.cells #[.int .i64 0,.int .i64 1] 2)) 0 rfl
  | 1,_=>exact cellq (blk_alloc_at w2 (.cells #[.int .i64 0,.int .i64 1] 2)) 1 rfl))
 go_upto_region 3 with (go_at_call 41; refine HI2.out.mono ?_; rintro q3 w3 ⟨v3,rfl,hr3,hx3⟩; obtain ⟨xo,xc,rfl,-⟩:=hr3.shape)
 have HX:=bH (bI (HP.out.1.keep (hxb.trans hx3)) (bI (blk_keep HP.out.2.1 (hxb.trans hx3)) (bI (HP.out.2.2.trans (hxb.trans hx3)) hr3)))
 clear hxb hx3 hr3 HI2 HP HIn HEx
 rw [show ex4X.length=2 from rfl] at HX ⊢
 have HVa:=bH (fun W (hW:XF w3 W)=>show Calls Tryz.prog 10 #[.agg #[.slice vo 2 vc,.slice ro 1 rc]] W (BoolPost W true) from ex4_valid ▸ Valid_any W _ ex4 (HX.out.1.keep hW))
 have HVi:=bH (fun W (hW:XF w3 W)=>Violated_any W _ _ ex4 ex4X 2 2 (HX.out.1.keep hW) (HX.out.2.2.2.keep hW) (by decide) (fun i hi=>by
  match i,hi with
  | 0,_=>decide) (by decide) (by decide))
 rw [ex4_viol] at HVi
 have HIs:=bH (fun W (hW:XF w3 W)=>show Calls Tryz.prog 16 #[.agg #[.slice vo 2 vc,.slice ro 1 rc],.slice xo 2 xc] W (BoolPost W true) from ex4_in ▸ Inside_any W _ _ ex4 ex4X 2 (HX.out.1.keep hW) (HX.out.2.2.2.keep hW) (by decide) (by decide))
 have HFm:=bH (fun W (hW:XF w3 W)=>show Calls Tryz.prog 13 #[.agg #[.slice vo 2 vc,.slice ro 1 rc]] W (StrsPost W ex4L) from ex4_fmt ▸ Format_any W _ ex4 (HX.out.1.keep hW) (HTb.out W (HX.out.2.2.1.trans hW)) (fun i hi=>by
  match i,hi with
  | 0,_=>decide))
 have HFr:=bH (fun W=>Rrfrom_any W (-2) (by decide) (by decide))
 have hRw:Rws w3 (.slice ro 1 rc) ex4.rows:=by
  obtain ⟨vv,rv,e,h,h2⟩:=HX.out.1
  cases e
  exact h2
 obtain ⟨b,off,ta,tc,rfl,hlt,e0,e1,e2,e3,e4,hok,hT⟩:=hRw.atp (p:=ex4) 0 (by decide)
 have hT2:Tms w3 (.slice ta 2 tc) ex4T:=hT
 have HDo:=bH (fun W (hW:XF w3 W)=>show Calls Tryz.prog 42 #[.slice ta 2 tc,.slice xo 2 xc] W (RatPost W ((-2:Int):Rat)) from ex4_dot ▸ Dot_any W _ _ ex4T ex4X 2 (hT2.keep hW) (HX.out.2.2.2.keep hW) (by decide) (by decide))
 have HSm:=bH (fun W u v (hu:IsRat W u ((-2:Int):Rat)) (hv:IsRat W v ((-2:Int):Rat))=>show Calls Tryz.prog 29 #[u,v] W (BoolPost W true) from by
  have h:=Rrsame_any W u v _ _ 2 hu hv (Sz.int (k:=-2) ⟨by decide,by decide⟩) (Sz.int (k:=-2) ⟨by decide,by decide⟩) (by decide)
  rw [decide_eq_true rfl] at h
  exact h)
 have HLi:=bH (fun W u b (hu:Strs W u ex4L) (hv:blk W b=some (.cells #[.string (ex4L.getD 0 ⟨#[]⟩),.string (ex4L.getD 1 ⟨#[]⟩),.string (ex4L.getD 2 ⟨#[]⟩)] 9 (0,0)))=>show Calls Tryz.prog 12 #[u,.slice (some ⟨b,0,none⟩) 3 3] W (BoolPost W true) from by
  have h:=Lines_any W u _ ex4L ex4L hu (ex4L_strs hv)
  rw [decide_eq_true rfl] at h
  exact h)
 have r3:w3.cell? ⟨b,off+3,none⟩=some (.slice ta 2 tc):=by have h:=e3; rw [show off+0*5+3=off+3 by omega] at h; exact h
 have p0:=cellq HX.out.2.1 0 rfl
 have p1:=cellq HX.out.2.1 1 rfl
 clear e0 e1 e2 e3 e4 hok hT hT2 hRw hlt
 go_wp2_with (first | (go_at_call 10; refine (HVa.out _ (Ext.refl _ _)).mono ?_; rintro q4 w4 ⟨rfl,hx4⟩; replace p0:=cell_keep p0 hx4; replace p1:=cell_keep p1 hx4; replace r3:=cell_keep r3 hx4) | (go_at_call 17; refine (HVi.out _ hx4).mono ?_; rintro q5 w5 ⟨v5,rfl,hn5,hx5⟩; obtain ⟨qo,qc,rfl⟩:=hn5.shape; have hX5:=hx4.trans hx5; replace p0:=cell_keep p0 hx5; replace p1:=cell_keep p1 hx5; replace r3:=cell_keep r3 hx5) | (go_at_call 16; refine (HIs.out _ hX5).mono ?_; rintro q6 w6 ⟨rfl,hx6⟩; have hX6:=hX5.trans hx6; replace p0:=cell_keep p0 hx6; replace p1:=cell_keep p1 hx6; replace r3:=cell_keep r3 hx6) | (go_at_call 42; refine (HDo.out _ hX6).mono ?_; rintro q7 w7 ⟨v7,rfl,h7,hx7⟩; obtain ⟨n7,a7,l7,c7,a7',l7',c7',rfl⟩:=h7.shape; have hX7:=hX6.trans hx7; replace p0:=cell_keep p0 hx7; replace p1:=cell_keep p1 hx7; replace r3:=cell_keep r3 hx7) | (go_at_call 20; refine (HFr.out _).mono ?_; rintro q8 w8 ⟨v8,rfl,h8,hx8⟩; obtain ⟨n8,a8,l8,c8,a8',l8',c8',rfl⟩:=h8.shape; have hX8:=hX7.trans hx8; replace p0:=cell_keep p0 hx8; replace p1:=cell_keep p1 hx8; replace r3:=cell_keep r3 hx8) | (go_at_call 29; refine (HSm.out _ _ _ (h7.keep hx8) h8).mono ?_; rintro q9 w9 ⟨rfl,hx9⟩; have hX9:=hX8.trans hx9; replace p0:=cell_keep p0 hx9; replace p1:=cell_keep p1 hx9; replace r3:=cell_keep r3 hx9) | (go_at_call 13; refine (HFm.out _ hX9).mono ?_; rintro q10 w10 ⟨v10,rfl,hs10,hx10⟩; obtain ⟨fo,fc,rfl,-⟩:=hs10.shape; have hX10:=hX9.trans hx10) | (go_at_call 12; refine (HLi.out _ _ _ (hs10.keep ((Ext.refl (fun _=>False) w10).alloc _)) (blk_alloc_at w10 _)).mono ?_; rintro q11 w11 ⟨rfl,hx11⟩))
 go_ret
 exact ⟨rfl,HX.out.2.2.1.trans ((hX10.trans ((Ext.refl (fun _=>False) w10).alloc _)).trans hx11)⟩
section
variable {p:ProgV} {x y:List Rat}
theorem atQ_clip_out {i:Int} (h:¬ (0<=i/\i<p.vars.length)):atQ (clipQ p x) i=0:=by
 by_cases h0:i<0
 ·exact atQ_neg _ h0
 ·refine atQ_out _ ?_
  have:(clipQ p x).length<=p.vars.length:=by unfold clipQ; rw [List.length_take]; omega
  omega
def leastX (p:ProgV) (c:List Rat):List Rat:=listTo p.vars.length fun i=>if atQ c i<0 then ((p.v i).up:Rat) else ((p.v i).lo:Rat)
theorem leastX_law {c:List Rat} {l:Rat} (h:leastQ p c=some l):insideB p (leastX p c)=true/\sumTo p.vars.length (fun i=>atQ c i*atQ (leastX p c) i)=l:=by
 obtain ⟨he,h1,rfl⟩:=least_some h
 constructor
 ·refine allTo_iff.2 fun i hi=>?_
  have h3:=allTo_iff.1 h1 i hi
  unfold emptyB at he
  rw [Bool.not_eq_false'] at he
  have h4:=allTo_iff.1 he i hi
  unfold leastX
  rw [atQ_listTo _ hi]
  generalize p.v i=v at *
  generalize atQ c i=a at *
  simp only [Bool.and_eq_true,Bool.or_eq_true,decide_eq_true_eq,Bool.not_eq_true',Bool.and_eq_false_iff,decide_eq_false_iff_not] at h3 h4 ⊢
  by_cases hn:a<0
  ·rw [if_pos hn]
   rcases h3 with h3 | h3
   ·rcases h4 with h4 | h4
    ·rw [h3] at h4; cases h4
    ·exact ⟨Rat.intCast_le_intCast.2 h4,.inr Rat.le_refl⟩
   ·exact absurd hn h3
  ·rw [if_neg hn]
   refine ⟨Rat.le_refl,?_⟩
   rcases h4 with h4 | h4
   ·exact .inl h4
   ·exact .inr (Rat.intCast_le_intCast.2 h4)
 ·unfold leastS
  refine sumTo_congr fun i hi=>?_
  unfold leastX pickQ
  rw [atQ_listTo _ hi]
  split <;> grind
def mixX (p:ProgV) (a:Rat) (x y:List Rat):List Rat:=listTo p.vars.length fun i=>a*atQ x i+(1 - a)*atQ y i
theorem mix_le {a s t u v:Rat} (h0:0<=a) (h1:a<=1) (hs:s<=u) (ht:t<=v):a*s+(1 - a)*t<=a*u+(1 - a)*v:=by
 have e1:=Rat.mul_le_mul_of_nonneg_left hs h0
 have e2:=Rat.mul_le_mul_of_nonneg_left ht (c:=1 - a) (by grind)
 grind
theorem mix_inside {a:Rat} (h0:0<=a) (h1:a<=1) (hx:insideB p x=true) (hy:insideB p y=true):insideB p (mixX p a x y)=true:=by
 refine allTo_iff.2 fun i hi=>?_
 have h2:=allTo_iff.1 hx i hi
 have h3:=allTo_iff.1 hy i hi
 unfold mixX
 rw [atQ_listTo _ hi]
 generalize p.v i=v at *
 generalize atQ x i=s at *
 generalize atQ y i=t at *
 simp only [Bool.and_eq_true,Bool.or_eq_true,decide_eq_true_eq] at h2 h3 ⊢
 refine ⟨?_,?_⟩
 ·have:=mix_le h0 h1 h2.1 h3.1
  grind
 ·rcases h2.2 with h | h
  ·exact .inl h
  ·rcases h3.2 with h' | h'
   ·exact .inl h'
   ·refine .inr ?_
    have:=mix_le h0 h1 h h'
    grind
theorem mix_dot {a:Rat} (ts:List TermV):dotQ ts (clipQ p (mixX p a x y))=a*dotQ ts (clipQ p x)+(1 - a)*dotQ ts (clipQ p y):=by
 unfold dotQ
 rw [<- sumTo_mul,<- sumTo_mul,<- sumTo_add]
 refine sumTo_congr fun k hk=>?_
 generalize ts.getD k term0=t at *
 by_cases hr:0<=t.var/\t.var<p.vars.length
 ·rw [atQ_clip p _ hr.2,atQ_clip p _ hr.2,atQ_clip p _ hr.2]
  obtain ⟨m,hm⟩:∃ m:Nat,t.var=m:=⟨t.var.toNat,by omega⟩
  rw [hm] at hr ⊢
  unfold mixX
  rw [atQ_listTo _ (by omega)]
  grind
 ·rw [atQ_clip_out hr,atQ_clip_out hr,atQ_clip_out hr]
  grind
theorem mix_viol {a:Rat} (h0:0<=a) (h1:a<=1) (hx:violQ p x=[]) (hy:violQ p y=[]):violQ p (mixX p a x y)=[]:=by
 refine violN_nil.2 fun i hi=>?_
 have h2:=violN_nil.1 hx i hi
 have h3:=violN_nil.1 hy i hi
 unfold holdsB at h2 h3 ⊢
 rw [mix_dot]
 generalize dotQ (p.r i).terms (clipQ p x)=s at *
 generalize dotQ (p.r i).terms (clipQ p y)=t at *
 generalize ((p.r i).bound:Rat)=b at *
 unfold kindB at h2 h3 ⊢
 split
 ·rename_i hk
  rw [if_pos hk] at h2 h3
  have:=mix_le h0 h1 (of_decide_eq_true h2) (of_decide_eq_true h3)
  exact decide_eq_true (by grind)
 ·rename_i hk
  rw [if_neg hk] at h2 h3
  split
  ·rename_i hk2
   rw [if_pos hk2] at h2 h3
   have:=mix_le h0 h1 (of_decide_eq_true h2) (of_decide_eq_true h3)
   exact decide_eq_true (by grind)
  ·rename_i hk2
   rw [if_neg hk2] at h2 h3
   rw [of_decide_eq_true h2,of_decide_eq_true h3]
   exact decide_eq_true (by grind)
theorem mix_cost {a:Rat}:costQ p (mixX p a x y)=a*costQ p x+(1 - a)*costQ p y:=by
 unfold costQ
 rw [<- sumTo_mul,<- sumTo_mul,<- sumTo_add]
 refine sumTo_congr fun i hi=>?_
 unfold mixX
 rw [atQ_listTo _ hi]
 grind
end
section
variable {P:Program} {md:Region.Mode} {ops:Array Oper} {Q:Exit->Act->World->Prop} {S:World->Prop} {k:Nat->Bool}
def Wts (md:Region.Mode) (ops:Array Oper) (j i:Nat):Prop:=∃ ok,ops[j]?=some ok/\∃ e ∈ ok.after,Region.binds md e=true/\e.on=i
end
section
variable {P:Program} {md:Region.Mode} {l:List Oper} {Q:Exit->Act->World->Prop} {S:World->Prop} {k:Nat}
end
section
variable {P:Program} {md:Region.Mode} {ops:Array Oper} {Q:Exit->Act->World->Prop} {S S':World->Prop} {k:Nat->Bool}
def EndsM (P:Program) (md:Region.Mode) (ops:Array Oper) (Q:Exit->Act->World->Prop) (S:World->Prop) (k:Nat->Bool):Nat->Array Bool->Act->World->Prop
 | 0,ls,a,w=>Region.ready md ops ls=[]/\Q .normal a w
 | n+1,ls,a,w=>(Region.ready md ops ls=[]->Q .normal a w)/\∀ i ∈ Region.ready md ops ls,wpOp P ops Q i (fun a' w'=>(k i=false->S w->S w')/\EndsM P md ops Q S k n (ls.setIfInBounds i true) a' w') a w
theorem EndsM.any:∀ (n:Nat) (ls:Array Bool) (a:Act) (w:World),EndsM P md ops Q S k n ls a w->wpAny P md ops Q n ls a w
 | 0,_,_,_,h=>h
 | n+1,_,_,_,h=>⟨h.1,fun i hi=>wpOp_mono (fun a w h=>EndsM.any n _ a w h.2) (h.2 i hi)⟩
theorem EndsM.takeD {i:Nat} {oi:Oper} {v:Value} (D:Nat->Prop) (hi:ops[i]?=some oi) (hsel:∀ (j:Nat) (o:Oper) cs b,ops[j]?=some o->o.op≠.select cs b) (hQ:∀ c a w,Q (.panic c) (a.put oi.dst v) w->Q (.panic c) a w)
  (hD:∀ p,D p->∃ q,Wts md ops p q/\(q=i∨D q)) (hk:k i=false/\∀ j,k j=true->D j) :
  ∀ (n:Nat) (ls:Array Bool) (a:Act) (w:World),Apart md ops i oi ls->i ∈ Region.ready md ops ls->(∀ p,D p->ls.getD p false=false)->YieldsIf P ops S oi v a->S w->EndsM P md ops Q S k n (ls.setIfInBounds i true) (a.put oi.dst v) w->EndsM P md ops Q S k (n+1) ls a w:=by
 have first:∀ (n:Nat) (ls:Array Bool) (a:Act) (w:World),i ∈ Region.ready md ops ls->YieldsIf P ops S oi v a->S w->EndsM P md ops Q S k n (ls.setIfInBounds i true) (a.put oi.dst v) w->wpOp P ops Q i (fun a' w'=>(k i=false->S w->S w')/\EndsM P md ops Q S k n (ls.setIfInBounds i true) a' w') a w :=
  fun n ls a w _ hy hS H=>hy.wpOp hi hS ⟨fun _ hs=>hs,H⟩
 intro n
 induction n with
 | zero =>
  intro ls a w _ hr _ hy hS H
  refine ⟨fun h=>(by rw [h] at hr; cases hr),fun j hj=>?_⟩
  rcases Decidable.em (j=i) with e | e
  ·rw [e]; exact first 0 ls a w hr hy hS H
  ·have:=ready_mono hj e
   rw [H.1] at this; cases this
 | succ n ih =>
  intro ls a w hap hr hnl hy hS H
  refine ⟨fun h=>(by rw [h] at hr; cases hr),fun j hj=>?_⟩
  rcases Decidable.em (j=i) with e | e
  ·rw [e]; exact first (n+1) ls a w hr hy hS H
  ·obtain ⟨hju,oj,hoj,_⟩:=mem_ready.1 hj
   have h2:=wpOp_putIf hoj (hap j oj hoj e hju (unlisted hr hoj hj)) (fun cs b=>hsel i oi cs b hi) (fun cs b=>hsel j oj cs b hoj) hQ hy (H.2 j (ready_mono hj e))
   refine wpOp_mono (fun a' w' h3=>?_) h2
   have hr':i ∈ Region.ready md ops (ls.setIfInBounds j true):=ready_mono hr (Ne.symm e)
   have hno:∀ p,Wts md ops j p->p≠i/\ls.getD p false=true:=fun p ⟨ok,ho,e',he,hb,hon⟩=>by
    rw [hoj] at ho; cases ho
    refine ⟨fun ep=>unlisted hr hoj hj e' he hb (hon.trans ep),?_⟩
    obtain ⟨_,o2,ho2,hall⟩:=mem_ready.1 hj
    rw [hoj] at ho2; cases ho2
    rw [<- hon]; exact hall e' he hb
   have hnD:¬ D j:=fun hd=>by
    obtain ⟨q,h4,h5⟩:=hD j hd
    rcases h5 with h5 | h5
    ·exact (hno q h4).1 h5
    ·have h6:=(hno q h4).2
     rw [hnl q h5] at h6; cases h6
   have hjk:k j=false:=by
    cases hkj:k j with
    | false=>rfl
    | true=>exact absurd (hk.2 j hkj) hnD
   have hnl':∀ p,D p->(ls.setIfInBounds j true).getD p false=false:=fun p hp=>by
    have hpj:p≠j:=fun ep=>hnD (ep ▸ hp)
    rw [getD_set_ne false (Ne.symm hpj)]; exact hnl p hp
   have hS':S w':=h3.2.1 hjk hS
   exact ⟨h3.2.1,ih _ a' w' (hap.next hju) hr' hnl' h3.1 hS' (by rw [Array.setIfInBounds_comm _ _ e]; exact h3.2.2)⟩
end
section
variable {P:Program} {md:Region.Mode} {l:List Oper} {Q:Exit->Act->World->Prop} {S:World->Prop} {k:Nat}
def hangs (md:Region.Mode) (o:Oper) (i:Nat) (D:List Nat):Bool:=o.after.any fun e=>Region.binds md e && (e.on == i || D.contains e.on)
def depsOf (md:Region.Mode) (i:Nat):List Oper->Nat->List Nat->List Nat
 | [],_,D=>D
 | o :: l,j,D=>depsOf md i l (j+1) (if hangs md o i D then j :: D else D)
def depsOk (md:Region.Mode) (l:List Oper) (i:Nat) (D:List Nat):Bool:=D.all fun p=>match l[p]? with | some o=>hangs md o i D | none=>false
def lateOk (l:List Oper) (k i:Nat) (D:List Nat):Bool:=decide (i<k) && (List.range l.length).all fun j=>!decide (k<=j) || D.contains j
def idleD (ls:Array Bool) (D:List Nat):Bool:=D.all fun p=>!ls.getD p false
theorem depsOk_spec {i:Nat} {D:List Nat} (h:depsOk md l i D=true):∀ p,p ∈ D->∃ q,Wts md l.toArray p q/\(q=i∨q ∈ D):=fun p hp=>by
 have h1:=List.all_eq_true.1 h p hp
 split at h1
 ·rename_i o ho
  obtain ⟨e,he,hb⟩:=Array.any_eq_true'.1 h1
  simp only [Bool.and_eq_true,Bool.or_eq_true,beq_iff_eq,List.contains_iff_mem] at hb
  exact ⟨e.on,⟨o,by simpa using ho,e,he,hb.1,rfl⟩,hb.2⟩
 ·cases h1
theorem lateOk_spec {i:Nat} {D:List Nat} (h:lateOk l k i D=true):(fun j=>decide (k<=j) && decide (j<l.length)) i=false/\∀ j,(fun j=>decide (k<=j) && decide (j<l.length)) j=true->j ∈ D:=by
 unfold lateOk at h
 simp only [Bool.and_eq_true,decide_eq_true_eq,List.all_eq_true] at h
 refine ⟨by simp only [Bool.and_eq_false_iff,decide_eq_false_iff_not]; left; omega,fun j hj=>?_⟩
 simp only [Bool.and_eq_true,decide_eq_true_eq] at hj
 have h2:=h.2 j (List.mem_range.2 hj.2)
 rw [decide_eq_true hj.1] at h2
 simpa using h2
abbrev EndsMk (P:Program) (md:Region.Mode) (l:List Oper) (Q:Exit->Act->World->Prop) (S:World->Prop) (k:Nat) (n:Nat) (ls:Array Bool) (a:Act) (w:World):Prop:=EndsM P md l.toArray Q S (fun j=>decide (k<=j) && decide (j<l.length)) n ls a w
theorem mu (i:Nat) {oi:Oper} {v:Value} {fuel:Nat} {listed:Array Bool} {a:Act} {w:World} (hi:l[i]?=some oi:=by rfl) (hs:Region.noSelect l.toArray=true:=by kernel_rfl) (hf:Region.free md l.toArray listed i=true:=by kernel_rfl)
  (hr:(Region.ready md l.toArray listed).contains i=true:=by kernel_rfl) (hk:depsOk md l i (depsOf md i l 0 [])=true:=by kernel_rfl) (hl:lateOk l k i (depsOf md i l 0 [])=true:=by kernel_rfl) (hnl:idleD listed (depsOf md i l 0 [])=true:=by kernel_rfl) (hQ:∀ c a w,Q (.panic c) (a.put oi.dst v) w->Q (.panic c) a w:=by exact fun _ _ _ h=>h) (hw:Region.wanted oi (yielded l.toArray a.tmps)=true:=by rfl)
  (he:∀ w,S w->(execOp a.eval oi).run P w=.ok (.value v) w:=by (intro w hSw; (try go_frame); (try dsimp only at hSw); go_simp) <;> with_reducible rfl) (hS:S w:=by assumption) (h:EndsMk P md l Q S k fuel (listed.setIfInBounds i true) (a.put oi.dst v) w):EndsMk P md l Q S k (fuel+1) listed a w :=
 have hi':l.toArray[i]?=some oi:=by simpa using hi
 EndsM.takeD (fun p=>p ∈ depsOf md i l 0 []) hi' (Region.noSelect_spec hs) hQ (depsOk_spec hk) (lateOk_spec hl) fuel listed a w (Region.free_spec hi' hf) (by simpa using hr) (fun p hp=>by have:=List.all_eq_true.1 hnl p hp; simpa using this) (.inl ⟨hw,he⟩) hS h
theorem mst (i:Nat) {oi:Oper} {fuel:Nat} {listed:Array Bool} {a:Act} {w:World} (hi:l[i]?=some oi:=by rfl) (hr:Region.ready md l.toArray listed=[i]:=by kernel_rfl)
  (h:∀ K':Act->World->Prop,Shut (∀ a w,S w->(S w->EndsMk P md l Q S k fuel (listed.setIfInBounds i true) a w)->K' a w)->if Region.wanted oi (yielded l.toArray a.tmps)=true then Oper.wp P oi a w K' Q else K' (a.put oi.dst undef) w) :
  EndsMk P md l Q S k (fuel+1) listed a w:=by
 refine ⟨fun h0=>(by rw [hr] at h0; cases h0),fun j hj=>?_⟩
 rw [hr] at hj
 obtain rfl:=List.mem_singleton.1 hj
 exact wpOp_step (by simpa using hi) (fun K' hK=>h K' (fun a w hS hW=>hK a w ⟨fun _ _=>hS,hW hS⟩))
theorem ml (i:Nat) {oi:Oper} {fuel:Nat} {listed:Array Bool} {a:Act} {w:World} (hi:l[i]?=some oi:=by rfl) (hr:Region.ready md l.toArray listed=[i]:=by kernel_rfl) (hk:(decide (k<=i) && decide (i<l.length))=true:=by kernel_rfl)
  (h:∀ K':Act->World->Prop,Shut (∀ a w,EndsMk P md l Q S k fuel (listed.setIfInBounds i true) a w->K' a w)->if Region.wanted oi (yielded l.toArray a.tmps)=true then Oper.wp P oi a w K' Q else K' (a.put oi.dst undef) w) :
  EndsMk P md l Q S k (fuel+1) listed a w:=by
 refine ⟨fun h0=>(by rw [hr] at h0; cases h0),fun j hj=>?_⟩
 rw [hr] at hj
 obtain rfl:=List.mem_singleton.1 hj
 exact wpOp_step (by simpa using hi) (fun K' hK=>h K' (fun a w hW=>hK a w ⟨fun e=>absurd (hk.symm.trans e) (by decide),hW⟩))
theorem mdone {listed:Array Bool} {a:Act} {w:World} (hr:Region.ready md l.toArray listed=[]) (h:Q .normal a w):∀ fuel,EndsMk P md l Q S k fuel listed a w
 | 0=>⟨hr,h⟩
 | _+1=>⟨fun _=>h,by rw [hr]; simp⟩
theorem mbegin {id:Nat} {a:Act} {w:World} (k:Nat) (S:World->Prop) (hm:P.follows .mixedOrders=true) (hS:S w.drew)
  (h:S w.drew->EndsMk P .any l Q S k l.toArray.size (Array.replicate l.toArray.size false) a w.drew):(Code.region id l.toArray true).wp P Q a w :=
 wp_region_any hm (EndsM.any _ _ _ _ (h hS))
end
theorem few_parts6 {p:ProgV} (h:fewP p 6 6=true):(∀ i,i<p.rows.length->(p.r i).terms.length<=12)/\p.vars.length<=6/\p.rows.length<=6:=by
 unfold fewP at h
 simp only [Bool.and_eq_true,decide_eq_true_eq,List.all_eq_true] at h
 refine ⟨fun i hi=>?_,h.1.2,h.2⟩
 have hm:p.r i ∈ p.rows:=by
  unfold ProgV.r
  rw [getD_lt hi]; exact List.getElem_mem hi
 have:=h.1.1 _ hm
 unfold fewRow at this
 simp only [Bool.and_eq_true,decide_eq_true_eq] at this
 omega
structure SmSt (w0 w:World) (b:Nat) (q:Rat):Prop where
 ext:XF w0 w
 low:w0.heap.size<=b
 box:∃ ng a1 m1 c1 a2 m2 c2,BoxR w b ng (.slice a1 m1 c1) (.slice a2 m2 c2)/\IsRat w (.agg #[.bool ng,.slice a1 m1 c1,.slice a2 m2 c2]) q
theorem lst1_any (w:World) (pb cb:Nat) (vo ro co xo:Option Addr) (vn vc rn rc cn cc xn xc:Nat) (p:ProgV) (c x:List Rat) (hp:IsPrg w (.agg #[.slice vo vn vc,.slice ro rn rc]) p) (hn6:p.vars.length<=6) (hpb:w.cell? ⟨pb,0,none⟩=some (.slice vo vn vc)) (hcb:w.cell? ⟨cb,0,none⟩=some (.slice co cn cc)) (hc:Rats w (.slice co cn cc) c 4) (hx:Rats w (.slice xo xn xc) x 4) :
  Calls Tryz.prog 27 #[.slice xo xn xc,.pointer (some ⟨pb,0,none⟩),.pointer (some ⟨cb,0,none⟩)] w (RatPost w (sumTo p.vars.length fun j=>atQ c j*atQ x j)):=by
 have hvn:p.vars.length=vn:=by
  obtain ⟨vv,rv,e,h,h2⟩:=hp
  cases e
  obtain ⟨_,_,e,_⟩:=h.shape
  cases e
  rfl
 rw [hvn] at hn6 ⊢
 clear hvn hp
 have HSz:=bH (bI (hc.sz (by decide:1<=4)) (hx.sz (by decide:1<=4)))
 have hxa:=(Ext.refl (fun _=>False) w).alloc (.cells #[.bool false,.slice none 0 0,.slice none 0 0] 42)
 have hxb:=(Ext.refl (fun _=>False) (w.alloc (.cells #[.bool false,.slice none 0 0,.slice none 0 0] 42))).alloc (.cells #[.bool false,.slice none 0 0,.slice none 0 0] 42)
 have HX:=bH (bI (hc.keep (hxa.trans hxb)) (bI (hx.keep (hxa.trans hxb)) (hxa.trans hxb)))
 have p0:=cell_keep hpb (hxa.trans hxb)
 have c0:=cell_keep hcb (hxa.trans hxb)
 have HRb:=bH (show blk ((w.alloc (.cells #[.bool false,.slice none 0 0,.slice none 0 0] 42)).alloc (.cells #[.bool false,.slice none 0 0,.slice none 0 0] 42)) w.heap.size=some (.cells #[.bool false,.slice none 0 0,.slice none 0 0] 42 (0,0)) from blk_keep (blk_alloc_at w (.cells #[.bool false,.slice none 0 0,.slice none 0 0] 42)) hxb)
 have hbx:=boxR_new (W:=w.alloc (.cells #[.bool false,.slice none 0 0,.slice none 0 0] 42)) rfl false none 0 0 none 0 0
 rw [World.size_alloc] at hbx
 have hsz:((w.alloc (.cells #[.bool false,.slice none 0 0,.slice none 0 0] 42)).alloc (.cells #[.bool false,.slice none 0 0,.slice none 0 0] 42)).heap.size=w.heap.size+1+1:=by rw [World.size_alloc,World.size_alloc]
 have HPc:=bH (bI hpb hcb)
 have HCx:=bH (bI hc hx)
 clear hpb hcb hc hx hxa hxb
 go_enter Tryz.func27,Tryz.ntmps27
 go_upto_region 2 with fail
 generalize (w.alloc (.cells #[.bool false,.slice none 0 0,.slice none 0 0] 42)).alloc (.cells #[.bool false,.slice none 0 0,.slice none 0 0] 42)=w0 at *
 obtain ⟨rb,hrb⟩:∃ q,w.heap.size=q:=⟨_,rfl⟩
 rw [hrb] at HRb hbx hsz ⊢
 have HRl:=bH (show w.heap.size<=rb from Nat.le_of_eq hrb)
 have HS0:=bH (show SmSt w w0 (rb+1) 0 from ⟨HX.out.2.2,by omega,_,_,_,_,_,_,_,hbx,IsRat.zero _⟩)
 clear hbx hrb
 go_wp2_with fail
 go_loopg [11,6] vn (fun gg v11 v6 wr=>∃ k:Nat,k<=vn/\gg=vn - k/\v11=.int .i64 k/\SmSt w wr (rb+1) (sumTo k fun j=>atQ c j*atQ x j)/\Ext (fun k=>k=rb+1) w0 wr)
 case atStart=>exact ⟨0,Nat.zero_le _,rfl,rfl,HS0.out,Ext.refl _ _⟩
 case round =>
  clear HS0 p0 c0
  obtain ⟨k,hk,rfl,rfl,hs,hx⟩:=hrel
  have HS:=bH hs
  have HXr:=bH hx
  clear hs hx
  have p0:=cell_keep HPc.out.1 HS.out.ext
  have c0:=cell_keep HPc.out.2 HS.out.ext
  obtain ⟨ng,a1,m1,c1,a2,m2,c2,hbx,hr⟩:=HS.out.box
  have hsz2:Sz (sumTo k fun j=>atQ c j*atQ x j) (1+k*(8+1)):=sumTo_sz (M:=8) (fun j _=>(HSz.out.1 j).mul (HSz.out.2 j))
  have HR:=bH (bI hbx (bI hr hsz2))
  clear hbx hr hsz2
  by_cases hkn:k<vn
  ·have k0:(k:Int)<(vn:Int):=by omega
   have k1:(0:Int)<=(k:Int):=by omega
   obtain ⟨y0,y1,y2,-,-,-⟩:=HR.out.1.facts
   have HAc:=bH (fun W (hW:XF wr W) (i:Int)=>At_any W (.slice co cn cc) c 4 (HCx.out.1.keep (HS.out.ext.trans hW)) i)
   have HAx:=bH (fun W (hW:XF wr W) (i:Int)=>At_any W (.slice xo xn xc) x 4 (HCx.out.2.keep (HS.out.ext.trans hW)) i)
   have HMu:=bH (fun W u v (hW:XF wr W) (hu:Rrat W u (atQ c k) 4) (hv:Rrat W v (atQ x k) 4)=>Rrmul_any W u v _ _ 4 hu hv (by decide) (by decide))
   have HAd:=bH (fun W u (hW:XF wr W) (hu:IsRat W u (atQ c k*atQ x k))=>Rradd_any W (.agg #[.bool ng,.slice a1 m1 c1,.slice a2 m2 c2]) u _ _ 100 ((HR.out.2.1.keep hW).reads (HR.out.2.2.mono (by omega))) (hu.reads (((HSz.out.1 k).mul (HSz.out.2 k)).mono (by decide))) (by decide) (by decide))
   replace p0:=cqo (S:=fun _=>False) p0 id
   replace c0:=cqo (S:=fun _=>False) c0 id
   replace y0:=cqo (S:=fun _=>False) y0 id
   replace y1:=cqo (S:=fun _=>False) y1 id
   replace y2:=cqo (S:=fun _=>False) y2 id
   go_upto_region 5 with fail
   refine mbegin 9 (XF wr) (by kernel_rfl) ((Ext.refl _ wr).drew) (fun hHeld=>?_)
   refine mu 0 (h:=(mu 1 (h:=(mu 2 (h:=(mu 4 (h:=(mu 5 (h:=?_)))))))))
   (try go_frame)
   refine mst 3 (h:=fun K hK=>?_)
   (go_simp; go_at_call 24; (with_reducible refine (HAc.out _ (hHeld) _).mono ?_); rintro q6 w6 ⟨v6,rfl,h6,hx6⟩; have hX6:=(hHeld).trans hx6; obtain ⟨n6,a6,l6,c6,a6',l6',c6',rfl⟩:=h6.shape)
   refine hK.out _ _ (hX6) (fun hHeld=>?_)
   clear hK K
   (try go_frame)
   refine mst 6 (h:=fun K hK=>?_)
   (go_simp; go_at_call 24; (with_reducible refine (HAx.out _ (hX6) _).mono ?_); rintro q7 w7 ⟨v7,rfl,h7,hx7⟩; have hX7:=(hX6).trans hx7; obtain ⟨n7,a7,l7,c7,a7',l7',c7',rfl⟩:=h7.shape)
   refine hK.out _ _ (hX7) (fun hHeld=>?_)
   clear hK K
   (try go_frame)
   refine mst 7 (h:=fun K hK=>?_)
   (go_simp; go_at_call 23; (with_reducible refine (HMu.out _ _ _ hX7 (h6.keep hx7) h7).mono ?_); rintro q8 w8 ⟨v8,rfl,h8,hx8⟩; have hX8:=hX7.trans hx8; obtain ⟨n8,a8,l8,c8,a8',l8',c8',rfl⟩:=h8.shape)
   refine hK.out _ _ (hX8) (fun hHeld=>?_)
   clear hK K
   (try go_frame)
   refine mst 8 (h:=fun K hK=>?_)
   (go_simp; go_at_call 22; (with_reducible refine (HAd.out _ _ hX8 h8).mono ?_); rintro q9 w9 ⟨v9,rfl,h9,hx9⟩; have hX9:=hX8.trans hx9; obtain ⟨n9,a9,l9,c9,a9',l9',c9',rfl⟩:=h9.shape)
   refine hK.out _ _ (hX9) (fun hHeld=>?_)
   clear hK K
   (try go_frame)
   have hbk:=HR.out.1.ext hX9 id
   obtain ⟨d0,d1,d2,d3,d4,d5⟩:=hbk.facts
   have hpt:=hbk.put (neg:=n9) (no_int a9 l9 c9) (no_int a9' l9' c9')
   have HE:=bH (show SmSt w _ (rb+1) (sumTo (k+1) fun j=>atQ c j*atQ x j) from ⟨(HS.out.ext.trans hX9).own hpt.ext (fun q e=>by have e':q=rb+1:=e; have:=HS.out.low; omega),HS.out.low,_,_,_,_,_,_,_,hpt.box,hpt.rat h9⟩)
   have hxS:=hpt.ext
   clear hbk hpt h9
   refine ml 9 (h:=fun K hK=>?_)
   go_simp
   refine hK.out _ _ ?_
   clear hK K
   (try go_frame)
   refine mdone (by kernel_rfl) ?_ _
   have HXn:=bH ((HXr.out.trans (ext_any hX9 _)).trans hxS)
   go_wp2
   go_roundg (vn - (k+1))
   case measure=>omega
   case rel=>exact ⟨k+1,by omega,rfl,by go_num,HE.out,HXn.out⟩
  ·obtain rfl:vn=k:=by omega
   obtain ⟨y0,y1,y2,-,-,-⟩:=HR.out.1.facts
   have hrk:BoxR wr rb false (.slice none 0 0) (.slice none 0 0):=⟨(HXr.out.blk (blk_lt HRb.out) (by omega)).trans HRb.out,no_int _ _ _,no_int _ _ _⟩
   obtain ⟨d0,d1,d2,d3,d4,d5⟩:=hrk.facts
   have hpt:=hrk.put (neg:=ng) (no_int a1 m1 c1) (no_int a2 m2 c2)
   have HQ:=bH (bI hpt.box (bI (hpt.rat HR.out.2.1) (HS.out.ext.own hpt.ext (fun q e=>by have e':q=rb:=e; have:=HRl.out; omega))))
   clear hpt hrk
   go_wp2
   generalize (((wr.setCell ⟨rb,0,none⟩ (.bool ng)).setCell ⟨rb,1,none⟩ (.slice a1 m1 c1)).setCell ⟨rb,2,none⟩ (.slice a2 m2 c2))=w9 at *
   obtain ⟨g0,g1,g2,_⟩:=HQ.out.1.facts
   exact bodyPost_ret (v:=.agg #[.bool ng,.slice a1 m1 c1,.slice a2 m2 c2]) (by simp [results,Tryz.results27,go_sem,g0,g1,g2]) rfl ⟨_,rfl,HQ.out.2.1,HQ.out.2.2⟩
end Go.Proofs.YtglepbhkilbbcaaGreatDoor
