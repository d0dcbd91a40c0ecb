/-
  Texts of the proof, part 8. Conditions: each lemma names its own.
-/
import Derived.Test.YtglepbhkilbbcaaGreatZ4
import Derived.Test.YtglepbhkilbbcaaGreatZ5
import Derived.Test.YtglepbhkilbbcaaGreatZ7
import Derived.Maps.RangeWalk
open Go.Proofs.Tryz
set_option linter.unusedVariables false
set_option linter.unusedSimpArgs false
set_option maxRecDepth 100000
set_option maxHeartbeats 16000000
namespace Go.Proofs.YtglepbhkilbbcaaGreat
open Go.RowKit Go.MapKept
open Go.ChangeMaps (setBlock)
def Bh.S(V:Bh) (m:Nat) (k:Nat):Prop:=V.ba.ownBlock=some k∨V.fr.ownBlock=some k∨V.be.ownBlock=some k∨V.d.ownBlock=some k∨∃i,i<m/\k=V.rb i
def BE(T:AX) (i c:Nat):Rat:=1/T.al i c
def Cy(T:AX) (i c:Nat) (j:Nat):Rat:=if j=c then BE T i c else T.al i j*BE T i c
def DS(T:AX) (i c:Nat):AX where
 n:=T.n
 m:=T.m
 ba:=fun k=>if k=i then T.fr c else T.ba k
 fr:=fun j=>if j=c then T.ba i else T.fr j
 be:=fun k=>if k=i then T.be i*BE T i c else T.be k-T.al k c*(T.be i*BE T i c)
 d:=fun j=>if j=c then -(T.d c*BE T i c) else T.d j-T.d c*Cy T i c j
 al:=fun k=>if k=i then Cy T i c else fun j=>if j=c then -(T.al k c*BE T i c) else T.al k j-T.al k c*Cy T i c j
structure FM(w wr:World) (base tb:Nat) (V:Bh) (T:AX) (ib:Nat) (q:Rat) (x:BW):Prop where
 tab:BG wr base tb V T
 ext:AK (V.S T.m) w wr
 rds:∀v l,Ad w v l->Ad wr v l
 box:Aj wr ib x.ng (.slice x.a1 x.m1 x.c1) (.slice x.a2 x.m2 x.c2)
 inv:AN wr x.v q
 new:w.heap.size<=ib
 old:∀k,V.S T.m k->k<w.heap.size
section
variable {w wr w':World} {base tb:Nat} {V:Bh} {T:AX} {ib:Nat} {q:Rat} {x:BW}
theorem FM.keep(h:FM w wr base tb V T ib q x) (hx:XF wr w'):FM w w' base tb V T ib q x :=
 ⟨h.tab.keep hx,h.ext.trans hx.none,fun v l k=>(h.rds v l k).keep hx,h.box.keep hx,h.inv.keep hx,h.new,h.old⟩
theorem FM.row(h:FM w wr base tb V T ib q x) {k:Nat} (hk:k<T.m) {f:Nat->Rat} (ho:Bd wr w' (V.rb k) T.n f):FM w w' base tb V { T with al:=fun i=>if i=k then f else T.al i } ib q x:=by
 have hs:V.S T.m (V.rb k):=.inr (.inr (.inr (.inr ⟨k,hk,rfl⟩)));have hlt:=h.old _ hs;exact⟨h.tab.setRow hk ho,h.ext.trans (ho.ext.mono (fun i _ e=>by have e':i=V.rb k:=e;rw[e'];exact hs)),fun v l k=>ho.rds v l (h.rds v l k),h.box.ext ho.ext (fun e=>by have e':ib=V.rb k:=e;have:=h.new;omega),h.inv.past ho.rds,h.new,h.old⟩
theorem FM.be(h:FM w wr base tb V T ib q x) {g cap:Nat} (hv:V.be=.slice (some ⟨g,0,none⟩) T.m cap) {f:Nat->Rat} (ho:Bd wr w' g T.m f):FM w w' base tb V { T with be:=f } ib q x:=by
 have hs:V.S T.m g:=.inr (.inr (.inl (by rw[hv];rfl)));have hlt:=h.old _ hs;exact⟨h.tab.setBe hv ho,h.ext.trans (ho.ext.mono (fun i _ e=>by have e':i=g:=e;rw[e'];exact hs)),fun v l k=>ho.rds v l (h.rds v l k),h.box.ext ho.ext (fun e=>by have e':ib=g:=e;have:=h.new;omega),h.inv.past ho.rds,h.new,h.old⟩
theorem FM.d(h:FM w wr base tb V T ib q x) {g cap:Nat} (hv:V.d=.slice (some ⟨g,0,none⟩) T.n cap) {f:Nat->Rat} (ho:Bd wr w' g T.n f):FM w w' base tb V { T with d:=f } ib q x:=by
 have hs:V.S T.m g:=.inr (.inr (.inr (.inl (by rw[hv];rfl))));have hlt:=h.old _ hs;exact⟨h.tab.setD hv ho,h.ext.trans (ho.ext.mono (fun i _ e=>by have e':i=g:=e;rw[e'];exact hs)),fun v l k=>ho.rds v l (h.rds v l k),h.box.ext ho.ext (fun e=>by have e':ib=g:=e;have:=h.new;omega),h.inv.past ho.rds,h.new,h.old⟩
end
theorem BG.old{w:World} {base tb:Nat} {V:Bh} {T:AX} (h:BG w base tb V T):∀k,V.S T.m k->k<w.heap.size:=fun k hk=>by
 rcases hk with hk|hk|hk|hk|⟨i,hi,rfl⟩
 ·obtain⟨_,h1⟩:=h.ba.typ k hk;exact AT h1
 ·obtain⟨_,h1⟩:=h.fr.typ k hk;exact AT h1
 ·obtain⟨_,h1⟩:=h.be.typ k hk;exact AT h1
 ·obtain⟨_,h1⟩:=h.d.typ k hk;exact AT h1
 exact (h.rows i hi).1.lt
theorem A8.open{w:World} {base:Nat} {v:Value} {m:Nat} {f:Nat->Rat} (h:A8 w base v m f) (hm:0<m):∃g cap,v=.slice (some ⟨g,0,none⟩) m cap/\m<=cap/\cap<=maxLen/\B9 w g m f:=by
 rcases h with⟨_,e⟩|⟨g,cap,e,_,h1,h2,h3,_⟩
 ·omega
 exact⟨g,cap,e,h1,h2,h3⟩
theorem Ck.open{w:World} {base:Nat} {v:Value} {m:Nat} {f:Nat->Value} (h:Ck w base v m f) (hm:0<m):∃g cap,v=.slice (some ⟨g,0,none⟩) m cap/\m<=cap/\cap<=maxLen/\∀i,i<m->w.cell? ⟨g,i,none⟩=some (f i):=by
 rcases h with⟨_,e⟩|⟨g,cap,arr,e,_,h1,h2,h3,h4,h5⟩
 ·omega
 exact⟨g,cap,e,h1,h2,fun i hi=>(AS h3 i).trans (h5 i hi)⟩
theorem BQ.open{w:World} {base:Nat} {v:Value} {m:Nat} {b:Nat->Nat} (h:BQ w base v m b) (hm:0<m):∃g cap,v=.slice (some ⟨g,0,none⟩) m cap/\m<=cap/\cap<=maxLen/\(∀i,i<m->w.cell? ⟨g,i,none⟩=some (.int .i64 (b i)))/\∀i,w.frozen? ⟨g,i,none⟩=false:=by
 rcases h with⟨_,e⟩|⟨g,cap,arr,e,_,h1,h2,h3,h4,_,h5⟩
 ·omega
 exact⟨g,cap,e,h1,h2,fun i hi=>(AS h3 i).trans (h5 i hi),fun i=>AC h3 i⟩
theorem A8.cap'{w:World} {base m g cap:Nat} {v:Value} {f:Nat->Rat} (h:A8 w base v m f) (e:v=.slice (some ⟨g,0,none⟩) m cap):B9 w g m f:=by
 rcases h with⟨h,_⟩|⟨g',cap',h,_,_,_,h3,_⟩
 ·rw[h] at e;cases e
 rw[h] at e;cases e;exact h3
theorem Ck.cell'{w:World} {base m g cap:Nat} {v:Value} {f:Nat->Value} (h:Ck w base v m f) (e:v=.slice (some ⟨g,0,none⟩) m cap) {i:Nat} (hi:i<m):w.cell? ⟨g,i,none⟩=some (f i):=by
 rcases h with⟨h,_⟩|⟨g',cap',arr,h,_,_,_,h3,_,h5⟩
 ·rw[h] at e;cases e
 rw[h] at e;cases e;exact (AS h3 i).trans (h5 i hi)
theorem BQ.cell'{w:World} {base m g cap:Nat} {v:Value} {b:Nat->Nat} (h:BQ w base v m b) (e:v=.slice (some ⟨g,0,none⟩) m cap) {i:Nat} (hi:i<m):w.cell? ⟨g,i,none⟩=some (.int .i64 (b i))/\w.frozen? ⟨g,i,none⟩=false:=by
 rcases h with⟨h,_⟩|⟨g',cap',arr,h,_,_,_,h3,_,_,h5⟩
 ·rw[h] at e;cases e
 rw[h] at e;cases e;exact⟨(AS h3 i).trans (h5 i hi),AC h3 i⟩
structure FC(T T':AX):Prop where
 n:T.n=T'.n
 m:T.m=T'.m
 ba:∀k,k<T.m->T.ba k=T'.ba k
 fr:∀k,k<T.n->T.fr k=T'.fr k
 be:∀k,k<T.m->T.be k=T'.be k
 d:∀k,k<T.n->T.d k=T'.d k
 al:∀k l,k<T.m->l<T.n->T.al k l=T'.al k l
theorem BQ.congr{w:World} {base m:Nat} {v:Value} {b b':Nat->Nat} (h:BQ w base v m b) (e:∀k,k<m->b k=b' k):BQ w base v m b':=by
 rcases h with h|⟨g,cap,arr,rfl,h1,h2,h3,h4,h5,h6,h7⟩
 ·exact .inl h
 exact .inr ⟨g,cap,arr,rfl,h1,h2,h3,h4,h5,h6,fun i hi=>by rw[<- e i hi];exact h7 i hi⟩
theorem A8.congr{w:World} {base m:Nat} {v:Value} {f f':Nat->Rat} (h:A8 w base v m f) (e:∀k,k<m->f k=f' k):A8 w base v m f':=by
 rcases h with h|⟨g,cap,rfl,h1,h2,h3,h4,h5⟩
 ·exact .inl h
 exact .inr ⟨g,cap,rfl,h1,h2,h3,h4.congr e,h5⟩
theorem BG.congr{w:World} {base tb:Nat} {V:Bh} {T T':AX} (h:BG w base tb V T) (e:FC T T'):BG w base tb V T':=by
 obtain⟨n,m,ba,fr,be,d,al⟩:=T;obtain⟨n',m',ba',fr',be',d',al'⟩:=T';obtain⟨rfl,rfl,e1,e2,e3,e4,e5⟩:=e;exact⟨h.box,h.ba.congr e1,h.fr.congr e2,h.be.congr e3,h.d.congr e4,h.al,fun i hi=>⟨(h.rows i hi).1.congr (fun j hj=>e5 i j hi hj),(h.rows i hi).2⟩,h.rr,h.rbe,h.rd,h.bed,h.bf,h.small⟩
theorem FM.congr{w wr:World} {base tb:Nat} {V:Bh} {T T':AX} {ib:Nat} {q:Rat} {x:BW} (h:FM w wr base tb V T ib q x) (e:FC T T'):FM w wr base tb V T' ib q x:=by
 have hm:=e.m;exact⟨h.tab.congr e,by rw[<- hm];exact h.ext,h.rds,h.box,h.inv,h.new,by rw[<- hm];exact h.old⟩
theorem FC.ofAl{T:AX} {f f':Nat->Nat->Rat} (h:∀k l,k<T.m->l<T.n->f k l=f' k l):FC { T with al:=f } { T with al:=f' }:=⟨rfl,rfl,fun _ _=>rfl,fun _ _=>rfl,fun _ _=>rfl,fun _ _=>rfl,h⟩
def MW(T:AX) (i c j:Nat):AX:={ T with al:=fun k=>if k=i then fun l=>if l<j/\l≠c then T.al i l*BE T i c else T.al i l else T.al k }
theorem U4(T:AX) (i c j:Nat):(MW T i c j).al i j=T.al i j:=by
 show (if i=i then fun l=>if l<j/\l≠c then T.al i l*BE T i c else T.al i l else T.al i) j=_;rw[if_pos rfl];exact if_neg (by omega)
theorem TE(T:AX) (i c:Nat):FC T (MW T i c 0):=.ofAl (T:=T) (fun k l _ _=>by
 by_cases hk:k=i
 ·subst hk;rw[if_pos rfl];exact (if_neg (by omega)).symm
 rw[if_neg hk])
theorem OD(T:AX) (i c j:Nat) (h:j=c∨T.al i j=0):FC (MW T i c j) (MW T i c (j+1)):=.ofAl (T:=T) (fun k l _ _=>by
 by_cases hk:k=i
 ·subst hk;rw[if_pos rfl,if_pos rfl];show (if l<j/\l≠c then T.al k l*BE T k c else T.al k l)=if l<j+1/\l≠c then T.al k l*BE T k c else T.al k l
  by_cases hl:l=j
  ·subst hl;rw[if_neg (by omega)];rcases h with h|h
   ·rw[if_neg (by omega)]
   split
   ·rw[h];grind
   rfl
  by_cases hl2:l<j/\l≠c
  ·rw[if_pos hl2,if_pos ⟨by omega,hl2.2⟩]
  rw[if_neg hl2,if_neg (by omega)]
 rw[if_neg hk,if_neg hk])
theorem TU(T:AX) (i c j:Nat) (h:j≠c):FC { MW T i c j with al:=fun k=>if k=i then (fun l=>if l=j then T.al i j*BE T i c else (MW T i c j).al i l) else (MW T i c j).al k } (MW T i c (j+1)):=.ofAl (T:=T) (fun k l _ _=>by
 by_cases hk:k=i
 ·subst hk;show (if k=k then (fun l=>if l=j then T.al k j*BE T k c else (MW T k c j).al k l) else (MW T k c j).al k) l=(if k=k then fun l=>if l<j+1/\l≠c then T.al k l*BE T k c else T.al k l else T.al k) l;rw[if_pos rfl,if_pos rfl];show (if l=j then T.al k j*BE T k c else (if k=k then fun l=>if l<j/\l≠c then T.al k l*BE T k c else T.al k l else T.al k) l)=if l<j+1/\l≠c then T.al k l*BE T k c else T.al k l
  rw[if_pos rfl];by_cases hl:l=j
  ·subst hl;rw[if_pos rfl,if_pos ⟨by omega,h⟩]
  rw[if_neg hl];show (if l<j/\l≠c then T.al k l*BE T k c else T.al k l)=_;by_cases hl2:l<j/\l≠c
  ·rw[if_pos hl2,if_pos ⟨by omega,hl2.2⟩]
  rw[if_neg hl2,if_neg (by omega)]
 show (if k=i then _ else (if k=i then _ else T.al k)) l=(if k=i then _ else T.al k) l;rw[if_neg hk,if_neg hk,if_neg hk])
def VN(T:AX) (i c:Nat):AX:={ T with al:=fun k=>if k=i then Cy T i c else T.al k }
theorem Rz(T:AX) (i c:Nat):FC { MW T i c T.n with al:=fun k=>if k=i then (fun l=>if l=c then BE T i c else (MW T i c T.n).al i l) else (MW T i c T.n).al k } (VN T i c):=.ofAl (T:=T) (fun k l _ hl=>by
 by_cases hk:k=i
 ·subst hk;show (if k=k then (fun l=>if l=c then BE T k c else (MW T k c T.n).al k l) else (MW T k c T.n).al k) l=(if k=k then Cy T k c else T.al k) l;rw[if_pos rfl,if_pos rfl];show (if l=c then BE T k c else (if k=k then fun l=>if l<T.n/\l≠c then T.al k l*BE T k c else T.al k l else T.al k) l)=if l=c then BE T k c else T.al k l*BE T k c
  rw[if_pos rfl];by_cases hc:l=c
  ·rw[if_pos hc,if_pos hc]
  rw[if_neg hc,if_neg hc];exact if_pos ⟨hl,hc⟩
 show (if k=i then _ else (if k=i then _ else T.al k)) l=(if k=i then _ else T.al k) l;rw[if_neg hk,if_neg hk,if_neg hk])
def LZ(T:AX) (i c j:Nat):AX:={ T with
 al:=fun k=>if k=i then Cy T i c else if k<j then fun l=>if l=c then -(T.al k c*BE T i c) else T.al k l-T.al k c*Cy T i c l else T.al k
 be:=fun k=>if k=i then T.be i*BE T i c else if k<j then T.be k-T.al k c*(T.be i*BE T i c) else T.be k }
theorem TQ(T:AX) (i c:Nat):FC { VN T i c with be:=fun k=>if k=i then T.be i*BE T i c else (VN T i c).be k } (LZ T i c 0):=⟨rfl,rfl,fun _ _=>rfl,fun _ _=>rfl,fun k _=>by
 show (if k=i then T.be i*BE T i c else T.be k)=if k=i then T.be i*BE T i c else if k<0 then T.be k-T.al k c*(T.be i*BE T i c) else T.be k
 by_cases hk:k=i
 ·rw[if_pos hk,if_pos hk]
 ·rw[if_neg hk,if_neg hk,if_neg (Nat.not_lt_zero k)],fun _ _=>rfl,fun k l _ _=>by
 show (if k=i then Cy T i c else T.al k) l=(if k=i then Cy T i c else if k<0 then _ else T.al k) l;by_cases hk:k=i
 ·rw[if_pos hk,if_pos hk]
 rw[if_neg hk,if_neg hk,if_neg (Nat.not_lt_zero k)]⟩
theorem IS(T:AX) (i c j k:Nat):(LZ T i c j).be k=if k=i then T.be i*BE T i c else if k<j then T.be k-T.al k c*(T.be i*BE T i c) else T.be k:=rfl
theorem IU(T:AX) (i c j k:Nat):(LZ T i c j).al k=if k=i then Cy T i c else if k<j then fun l=>if l=c then -(T.al k c*BE T i c) else T.al k l-T.al k c*Cy T i c l else T.al k:=rfl
theorem Pz(T:AX) (i c j:Nat):(LZ T i c j).al i=Cy T i c:=by rw[IU,if_pos rfl]
theorem Rw(T:AX) {i c j:Nat} (h:j≠i):(LZ T i c j).al j=T.al j:=by rw[IU,if_neg h,if_neg (Nat.lt_irrefl j)]
theorem Ui(T:AX) (i c j:Nat):(LZ T i c j).be i=T.be i*BE T i c:=by rw[IS,if_pos rfl]
theorem UQ(T:AX) {i c j:Nat} (h:j≠i):(LZ T i c j).be j=T.be j:=by rw[IS,if_neg h,if_neg (Nat.lt_irrefl j)]
theorem OJ(T:AX) (i c j:Nat) (h:j=i∨T.al j c=0):FC (LZ T i c j) (LZ T i c (j+1)):=⟨rfl,rfl,fun _ _=>rfl,fun _ _=>rfl,fun k _=>by
 rw[IS,IS];by_cases hk:k=i
 ·rw[if_pos hk,if_pos hk]
 ·rw[if_neg hk,if_neg hk];by_cases hj:k=j
  ·subst hj;rw[if_neg (Nat.lt_irrefl k),if_pos (Nat.lt_succ_self k)];rcases h with h|h
   ·exact absurd h hk
   rw[h];grind
  by_cases hl:k<j
  ·rw[if_pos hl,if_pos (show k<j+1 by omega)]
  rw[if_neg hl,if_neg (by omega)],fun _ _=>rfl,fun k l _ _=>by
 rw[IU,IU];by_cases hk:k=i
 ·rw[if_pos hk,if_pos hk]
 rw[if_neg hk,if_neg hk];by_cases hj:k=j
 ·subst hj;rw[if_neg (Nat.lt_irrefl k),if_pos (Nat.lt_succ_self k)];rcases h with h|h
  ·exact absurd h hk
  show T.al k l=if l=c then -(T.al k c*BE T i c) else T.al k l-T.al k c*Cy T i c l
  split
  ·next e=>rw[e,h];grind
  rw[h];grind
 by_cases hl:k<j
 ·rw[if_pos hl,if_pos (show k<j+1 by omega)]
 rw[if_neg hl,if_neg (by omega)]⟩
def QT(T:AX) (i c j:Nat):Nat->Rat:=KO T.n (T.al j) (Cy T i c) (T.al j c) c
def Tr(T:AX) (i c j:Nat):AX:={ LZ T i c j with al:=fun k=>if k=j then QT T i c j else (LZ T i c j).al k }
def Uh(T:AX) (i c j:Nat):AX:={ Tr T i c j with al:=fun k=>if k=j then (fun l=>if l=c then -(T.al j c*BE T i c) else QT T i c j l) else (Tr T i c j).al k }
theorem Rs(T:AX) (i c j:Nat) (h:j≠i):FC { Uh T i c j with be:=fun k=>if k=j then T.be j-T.al j c*(T.be i*BE T i c) else (Uh T i c j).be k } (LZ T i c (j+1)):=⟨rfl,rfl,fun _ _=>rfl,fun _ _=>rfl,fun k _=>by
 show (if k=j then T.be j-T.al j c*(T.be i*BE T i c) else (LZ T i c j).be k)=_;rw[IS,IS];by_cases hj:k=j
 ·subst hj;rw[if_pos rfl,if_neg h,if_pos (Nat.lt_succ_self k)]
 ·rw[if_neg hj];by_cases hk:k=i
  ·rw[if_pos hk,if_pos hk]
  rw[if_neg hk,if_neg hk];by_cases hl:k<j
  ·rw[if_pos hl,if_pos (show k<j+1 by omega)]
  rw[if_neg hl,if_neg (by omega)],fun _ _=>rfl,fun k l _ hn=>by
 show (if k=j then (fun l=>if l=c then -(T.al j c*BE T i c) else QT T i c j l) else if k=j then QT T i c j else (LZ T i c j).al k) l=_;rw[IU,IU];by_cases hj:k=j
 ·subst hj;rw[if_pos rfl,if_neg h,if_pos (Nat.lt_succ_self k)];show (if l=c then -(T.al k c*BE T i c) else if l<T.n/\(l:Int)≠(c:Int) then T.al k l-T.al k c*Cy T i c l else T.al k l)=if l=c then -(T.al k c*BE T i c) else T.al k l-T.al k c*Cy T i c l
  by_cases hc:l=c
  ·rw[if_pos hc,if_pos hc]
  rw[if_neg hc,if_neg hc,if_pos ⟨hn,by omega⟩]
 rw[if_neg hj,if_neg hj];by_cases hk:k=i
 ·rw[if_pos hk,if_pos hk]
 rw[if_neg hk,if_neg hk];by_cases hl:k<j
 ·rw[if_pos hl,if_pos (show k<j+1 by omega)]
 rw[if_neg hl,if_neg (by omega)]⟩
def Ty(T:AX) (i c:Nat):AX:={ DS T i c with ba:=T.ba,fr:=T.fr }
theorem Ny(T:AX) (i c:Nat) (D:Nat->Rat) (h:∀l,l<T.n->D l=(DS T i c).d l):FC { LZ T i c T.m with d:=D } (Ty T i c):=⟨rfl,rfl,fun _ _=>rfl,fun _ _=>rfl,fun k hk=>by
 show (LZ T i c T.m).be k=if k=i then T.be i*BE T i c else T.be k-T.al k c*(T.be i*BE T i c)
 rw[IS];by_cases hi:k=i
 ·rw[if_pos hi,if_pos hi]
 ·rw[if_neg hi,if_neg hi];exact if_pos hk,h,fun k l hk _=>by
 show (LZ T i c T.m).al k l=(if k=i then Cy T i c else fun j=>if j=c then -(T.al k c*BE T i c) else T.al k j-T.al k c*Cy T i c j) l;rw[IU];by_cases hi:k=i
 ·rw[if_pos hi,if_pos hi]
 rw[if_neg hi,if_neg hi];exact congrFun (if_pos hk) l⟩
theorem Sy(T:AX) (i c:Nat) (h:T.d c=0):FC (LZ T i c T.m) (Ty T i c):=Ny T i c T.d (fun l _=>by
 show T.d l=if l=c then -(T.d c*BE T i c) else T.d l-T.d c*Cy T i c l
 split
 ·next e=>rw[e,h];grind
 rw[h];grind)
def Um(T:AX) (i c:Nat):AX:={ LZ T i c T.m with d:=KO T.n T.d (Cy T i c) (T.d c) c }
theorem Tt(T:AX) (i c:Nat):FC { Um T i c with d:=fun l=>if l=c then -(T.d c*BE T i c) else KO T.n T.d (Cy T i c) (T.d c) c l } (Ty T i c):=Ny T i c _ (fun l hl=>by
 show (if l=c then -(T.d c*BE T i c) else if l<T.n/\(l:Int)≠(c:Int) then T.d l-T.d c*Cy T i c l else T.d l)=if l=c then -(T.d c*BE T i c) else T.d l-T.d c*Cy T i c l
 by_cases hc:l=c
 ·rw[if_pos hc,if_pos hc]
 rw[if_neg hc,if_neg hc,if_pos ⟨hl,by omega⟩])
theorem Sz.row{T:AX} {i c s:Nat} (hs:1<=s) (hc:Sz (T.al i c) s) {j:Nat} (hj:Sz (T.al i j) s):Sz (Cy T i c j) (2*s):=by
 have hi:Sz (BE T i c) s:=by show Sz (1/T.al i c) s;rw[Rat.div_def,Rat.one_mul];exact hc.inv hs
 unfold Cy;split
 ·exact hi.mono (by omega)
 exact (hj.mul hi).mono (by omega)
theorem Sz.invF{T:AX} {i c s:Nat} (hs:1<=s) (hc:Sz (T.al i c) s):Sz (BE T i c) s:=by show Sz (1/T.al i c) s;rw[Rat.div_def,Rat.one_mul];exact hc.inv hs
theorem BQ.put{w:World} {base m g cap:Nat} {b:Nat->Nat} (h:BQ w base (.slice (some ⟨g,0,none⟩) m cap) m b) {j:Nat} (x:Nat) :
  BQ (w.setCell ⟨g,j,none⟩ (.int .i64 x)) base (.slice (some ⟨g,0,none⟩) m cap) m (fun k=>if k=j then x else b k)/\AK (fun k=>k=g) w (w.setCell ⟨g,j,none⟩ (.int .i64 x))/\∀v l,Ad w v l->Ad (w.setCell ⟨g,j,none⟩ (.int .i64 x)) v l:=by
 rcases h with⟨h,_⟩|⟨g',cap',arr,h,h1,h2,h3,h4,h5,h6,h7⟩
 ·cases h
 cases h;have hx:AK (fun k=>k=g) w (w.setCell ⟨g,j,none⟩ (.int .i64 x)):=(AK.refl (fun k=>k=g) w).setCell (p:=⟨g,j,none⟩) _ (fun _=>rfl);refine⟨.inr ⟨g,cap,_,rfl,h1,h2,h3,AI h4 j _,by simpa using h5,fun i d hc=>?_,fun i hi=>?_⟩,hx,fun v l hv=>hv.past hx (fun k _ e=>by subst e;exact h6)⟩
 ·rw[AJ?_setCell_if] at hc;split at hc
  ·cases hw:w.cell? ⟨g,i,none⟩<;>simp_all
  exact h6 i d hc
 show (arr.setIfInBounds j (.int .i64 x))[i]?=some (.int .i64 ((if i=j then x else b i:Nat):Int));by_cases e:i=j
 ·subst e;have:=h7 i hi;rw[if_pos rfl,Array.getElem?_setIfInBounds_self_of_lt (by
   rcases Nat.lt_or_ge i arr.size with h|h
   ·exact h
   rw[Array.getElem?_eq_none h] at this;cases this)]
 rw[if_neg e,Array.getElem?_setIfInBounds_ne (fun h=>e h.symm)];exact h7 i hi
theorem BG.swap{w w':World} {base tb:Nat} {V:Bh} {T:AX} (h:BG w base tb V T) {gb gf cb cf i c:Nat} (hb:V.ba=.slice (some ⟨gb,0,none⟩) T.m cb) (hf:V.fr=.slice (some ⟨gf,0,none⟩) T.n cf) (x y:Nat)
  (e:w'=(w.setCell ⟨gb,i,none⟩ (.int .i64 x)).setCell ⟨gf,c,none⟩ (.int .i64 y)) :
  BG w' base tb V { T with ba:=fun k=>if k=i then x else T.ba k,fr:=fun k=>if k=c then y else T.fr k }/\AK (V.S T.m) w w'/\∀v l,Ad w v l->Ad w' v l:=by
 have hob:V.ba.ownBlock=some gb:=by rw[hb];rfl
 have hof:V.fr.ownBlock=some gf:=by rw[hf];rfl
 have hne:gb≠gf:=fun e=>h.bf gb hob (by rw[hof,e]);obtain⟨arb,tyb⟩:=h.ba.typ gb hob;obtain⟨arf,tyf⟩:=h.fr.typ gf hof;have h1:=h.ba;have h2:=h.fr;rw[hb] at h1;rw[hf] at h2;obtain⟨p1,p2,p3⟩:=h1.put (j:=i) x;have h2':=h2.past p2 (fun g hg e=>hne (by cases hg;exact e.symm));obtain⟨q1,q2,q3⟩:=h2'.put (j:=c) y;rw[<- e] at q1 q2 q3;have p1':=p1.past q2 (fun g hg e=>hne (by cases hg;exact e));have hx:AK (fun k=>k=gb∨k=gf) w w':=(p2.mono (fun _ _ e=>.inl e)).trans (q2.mono (fun _ _ e=>.inr e));have hr:∀v l,Ad w v l->Ad w' v l:=fun v l k=>q3 v l (p3 v l k);have nr:∀g a,Au w g=some (.cells a 34 (0,0))->¬(g=gb∨g=gf):=fun g a hg e=>by
  rcases e with e|e
  ·exact ES hg tyb (by decide) e
  exact ES hg tyf (by decide) e
 refine⟨⟨?_,by rw[hb];exact p1',by rw[hf];exact q1,h.be.past hx (fun g hg=>?_) hr,h.d.past hx (fun g hg=>?_) hr,h.al.past hx (fun g hg=>?_),fun k hk=>⟨?_,(h.rows k hk).2⟩,h.rr,h.rbe,h.rd,h.bed,h.bf,h.small⟩,hx.mono (fun k _ e=>?_),hr⟩
 ·refine (hx.blk (AT h.box) (fun e=>?_)).trans h.box;rcases e with e|e
  ·exact ES h.box tyb (by decide) e
  exact ES h.box tyf (by decide) e
 ·obtain⟨arr,h1⟩:=h.be.typ g hg;exact nr g arr h1
 ·obtain⟨arr,h1⟩:=h.d.typ g hg;exact nr g arr h1
 ·obtain⟨arr,h1⟩:=h.al.typ g hg;intro e;rcases e with e|e
  ·exact ES h1 tyb (by decide) e
  exact ES h1 tyf (by decide) e
 ·obtain⟨arr,h1,_⟩:=(h.rows k hk).1.row;exact (h.rows k hk).1.past hx (nr _ arr h1) hr
 rcases e with e|e
 ·exact .inl (by rw[hob,e])
 exact .inr (.inl (by rw[hof,e]))
def Jo(p:AH) (l:AZ):Int:=if l.row<0 then (p.v l.var).up-(p.v l.var).lo else 0
structure Hf(w:World) (tb:Nat) (p:AH):Prop where
 ex:∃vo vc ro rc,w.cell? ⟨tb,0,none⟩=some (.slice vo p.vars.length vc)/\w.cell? ⟨tb,1,none⟩=some (.slice ro p.rows.length rc)/\Ju w (.slice vo p.vars.length vc) p.vars/\LX w (.slice ro p.rows.length rc) p.rows/\(p.vars.length:Int)<=9223372036854775807/\(p.rows.length:Int)<=9223372036854775807
 valid:AU p=true
theorem Hf.keep{w w':World} {tb:Nat} {p:AH} (h:Hf w tb p) (hx:XF w w'):Hf w' tb p:=by
 obtain⟨vo,vc,ro,rc,h1,h2,h3,h4,h5⟩:=h.ex;exact⟨⟨vo,vc,ro,rc,AB h1 hx,AB h2 hx,h3.keep hx,h4.keep hx,h5⟩,h.valid⟩
theorem IX{n:Int} (h:CT n=true):-1099511627776<=n/\n<=1099511627776:=by
 unfold CT at h;simpa using h
theorem Dv{v:Ey} (h:Gk v=true):(-1099511627776<=v.lo/\v.lo<=1099511627776)/\(-1099511627776<=v.up/\v.up<=1099511627776)/\(-1099511627776<=v.co/\v.co<=1099511627776):=by
 unfold Gk at h;simp only[Bool.and_eq_true] at h;exact⟨IX h.1.1.1,IX h.1.1.2,IX h.1.2⟩
def Lt(w:World) (p:AH) (l:AZ) (r:Ending) (w':World):Prop:=∃tso tsc,r=.returned (.tuple #[.slice tso (AV p l).length tsc,.int .i64 (Jo p l),.int .i64 (A6 l)])/\G8 w' (.slice tso (AV p l).length tsc) (AV p l)/\XF w w'
theorem MT(w:World) (tb:Nat) (p:AH) (l:AZ) (h:Hf w tb p) (hl:BF p l) :
  Calls prog 220 #[.pointer (some ⟨tb,0,none⟩),.agg #[.int .i64 l.row,.int .i64 l.var,.bool l.tur]] w (Lt w p l):=by
 obtain⟨row,var,tur⟩:=l;have hxa:=(AK.refl (fun _=>False) w).alloc (.cells #[.int .i64 row,.int .i64 var,.bool tur] 124);have hb0:Au (w.alloc (.cells #[.int .i64 row,.int .i64 var,.bool tur] 124)) w.heap.size=some (.cells #[.int .i64 row,.int .i64 var,.bool tur] 124 (0,0)):=AD _ _;have hval:=h.valid;obtain⟨vo,vc,ro,rc,h1,h2,h3,h4,h5,h6⟩:=(h.keep hxa).ex;clear h;have HX:=bH (bI hxa (bI h3 h4));have l0:=AA hb0 0 rfl;have l1:=AA hb0 1 rfl;have l2:=AA hb0 2 rfl;have l1':=l1;clear hb0 hxa h3 h4;rcases hl with⟨g1,g2,g3,g4⟩|⟨g1,g2,g3,g4,g5⟩
 ·obtain⟨b,off,rfl,hlt,e0,e1,e2,e3,e4,-⟩:=HX.o.2.1.atp var g2;have g1:row = -1:=g1;subst g1;have i0:(0:Int)<=(var:Int):=(by omega);have g2:var<p.vars.length:=g2;have i1:(var:Int)<(p.vars.length:Int):=(by omega);obtain⟨⟨q1,q2⟩,⟨q3,q4⟩,-⟩:=Dv (CZ hval g2);have HE:=bH (show Jo p ⟨-1,var,tur⟩=(p.v var).up-(p.v var).lo from rfl);have HE2:=bH (show AV p ⟨-1,var,tur⟩=[⟨var,1⟩] from rfl);have hw:IntKind.i64.wrap ((p.v var).up-(p.v var).lo)=(p.v var).up-(p.v var).lo:=IntWalk.i64_in _ (by omega);have h5v:(var:Int)<=9223372036854775807:=(by omega);clear g2 g3 g4 hval h5 h6;generalize p.v var=v at *;have g1':((-1:Int)<0):=(by decide);clear l1';go_enter func220,ntmps220;go_upto_region 2 with fail;generalize w.alloc (.cells #[.int .i64 (-1),.int .i64 var,.bool tur] 124)=w1 at *;generalize w.heap.size=lb at *;replace h1:=cq h1;replace l1:=cq l1;replace e0:=cq e0;replace e1:=cq e1;replace e2:=cq e2;replace e3:=cq e3;replace e4:=cq e4;have hB:IK ((w1.alloc (.cells #[.int .i64 v.lo,.int .i64 v.up,.bool v.op,.bool v.ig,.int .i64 v.co] 77)).drew) w1.heap.size v:=IK.new w1 v;have hxb:XF w1 ((w1.alloc (.cells #[.int .i64 v.lo,.int .i64 v.up,.bool v.op,.bool v.ig,.int .i64 v.co] 77)).drew):=((AK.refl (fun _=>False) w1).alloc _).drew;have k1:=l1 _ hxb;have HB:=bH (bI hB hxb);obtain⟨f0,f1,-⟩:=hB.facts;clear hB hxb;refine wp_region_held_drew (S:=(XF w1)) (by kernel_rfl) ((AK.refl _ w1).drew) (fun hHeld=>?_);refine ht 0 (h:=(ht 1 (h:=(ht 2 (h:=(ht 3 (h:=(ht 4 (h:=(ht 5 (h:=(ht 6 (h:=(ht 7 (h:=(ht 8 (h:=?_)))))))))))))))));(try go_frame);refine Aa 9 (h:=fun K hK=>?_);go_simp;refine hK.o _ _ (hHeld.alloc _) (fun hHeld=>?_);clear hK K;(try go_frame);refine Aa 10 (h:=fun K hK=>?_);go_simp;refine hK.o _ _ ((AK.refl (fun _=>False) w1).drew.alloc _) (fun hHeld=>?_);clear hK K;(try go_frame);refine wpAnyH_done (by kernel_rfl) ?_ _;go_upto_region 3 with fail;generalize (w1.alloc (.cells #[.int .i64 v.lo,.int .i64 v.up,.bool v.op,.bool v.ig,.int .i64 v.co] 77)).drew=w3 at *;generalize w1.heap.size=vb at *;replace k1:=cq k1;replace f0:=cq f0;replace f1:=cq f1;refine wp_region_held_drew (S:=(XF w3)) (by kernel_rfl) ((AK.refl _ w3).drew) (fun hHeld=>?_);refine ht 0 (h:=(ht 1 (h:=(ht 2 (h:=(ht 4 (h:=(ht 5 (h:=(ht 6 (h:=(ht 7 (h:=(ht 8 (h:=?_)))))))))))))));(try go_frame);refine Aa 3 (h:=fun K hK=>?_);go_simp;refine hK.o _ _ (hHeld.alloc _) (fun hHeld=>?_);clear hK K;(try go_frame);refine ht 9 (h:=(ht 10 (h:=(ht 11 (h:=?_)))));(try go_frame);refine wpAnyH_done (by kernel_rfl) ?_ _;have HR:=bH (show G8 ((w3.alloc (.cells #[.int .i64 var,.int .i64 1] 95)).drew) (.slice (some ⟨w3.heap.size,0,none⟩) 1 1) [⟨var,1⟩]/\XF w ((w3.alloc (.cells #[.int .i64 var,.int .i64 1] 95)).drew) from by
   have hb:Au ((w3.alloc (.cells #[.int .i64 var,.int .i64 1] 95)).drew) w3.heap.size=some (.cells #[.int .i64 var,.int .i64 1] 95 (0,0)):=AD w3 _;refine⟨⟨⟨some ⟨w3.heap.size,0,none⟩,1,rfl,Nat.le_refl _,by decide,(fun e=>by cases e),fun _=>⟨w3.heap.size,0,rfl,AT hb,fun i r hi j u hu=>?_⟩⟩,fun t ht=>?_⟩,(HX.o.1.trans (HB.o.2.trans (((AK.refl (fun _=>False) w3).alloc _).drew)))⟩
   ·have:i=0:=by
     cases i with
     | zero=>rfl
     | succ i=>simp at hi
    subst this;simp at hi;subst hi;rw[AS hb];simpa[cT] using hu
   simp at ht;subst ht;exact⟨⟨by show -9223372036854775808<=(var:Int);omega,h5v⟩,⟨(by show -9223372036854775808<=(1:Int);omega),(by show (1:Int)<=9223372036854775807;omega)⟩⟩)
  go_wp2;exact bodyPost_ret (v:=.tuple #[.slice (some ⟨w3.heap.size,0,none⟩) 1 1,.int .i64 (v.up-v.lo),.int .i64 1]) (by simp[results,results220,go_sem,hw]) rfl ⟨_,_,by rw[HE.o,HE2.o];rfl,HR.o⟩
 have g1:0<=row:=g1;have g2:row.toNat<p.rows.length:=g2;obtain⟨ri,rfl⟩:∃ri:Nat,row=ri:=⟨row.toNat,by omega⟩;obtain⟨b,off,ta,tc,rfl,hlt,e0,e1,e2,e3,e4,-,htm⟩:=HX.o.2.2.atp ri g2;have i1:(ri:Int)<(p.rows.length:Int):=(by omega);have HT:=bH (bI htm (show AV p ⟨ri,var,tur⟩=(p.r ri).terms from if_neg (by show ¬(ri:Int)<0;omega)));have HE:=bH (show Jo p ⟨ri,var,tur⟩=0/\A6 ⟨ri,var,tur⟩=if tur then -1 else 1 from⟨if_neg (by show ¬(ri:Int)<0;omega),if_neg (by show ¬(ri:Int)<0;omega)⟩);clear htm g2 g3 g4 g5 hval h5 h6 l1 l1';generalize p.r ri=rr at *;have g1':¬((ri:Int)<0):=(by omega);go_enter func220,ntmps220;go_upto_region 4 with fail;generalize w.alloc (.cells #[.int .i64 ri,.int .i64 var,.bool tur] 124)=w1 at *;generalize w.heap.size=lb at *;replace h2:=cq h2;replace l0:=cq l0;replace l2:=cq l2;replace e0:=cq e0;replace e1:=cq e1;replace e2:=cq e2;replace e3:=cq e3;replace e4:=cq e4;have hB:Au ((w1.alloc (.cells #[.string rr.name,.int .i64 rr.group,.int .i64 rr.kind,.slice ta rr.terms.length tc,.int .i64 rr.bound] 51)).drew) w1.heap.size=some (.cells #[.string rr.name,.int .i64 rr.group,.int .i64 rr.kind,.slice ta rr.terms.length tc,.int .i64 rr.bound] 51 (0,0)):=AD w1 _;have hxb:XF w1 ((w1.alloc (.cells #[.string rr.name,.int .i64 rr.group,.int .i64 rr.kind,.slice ta rr.terms.length tc,.int .i64 rr.bound] 51)).drew):=((AK.refl (fun _=>False) w1).alloc _).drew;have k2:=l2 _ hxb;have HB:=bH (bI hB hxb);have f3:=AA hB 3 rfl;clear hB hxb;refine wp_region_held_drew (S:=(XF w1)) (by kernel_rfl) ((AK.refl _ w1).drew) (fun hHeld=>?_);refine ht 0 (h:=(ht 1 (h:=(ht 2 (h:=(ht 3 (h:=(ht 4 (h:=(ht 5 (h:=(ht 6 (h:=(ht 7 (h:=(ht 8 (h:=?_)))))))))))))))));(try go_frame);refine Aa 9 (h:=fun K hK=>?_);go_simp;refine hK.o _ _ (hHeld.alloc _) (fun hHeld=>?_);clear hK K;(try go_frame);refine Aa 10 (h:=fun K hK=>?_);go_simp;refine hK.o _ _ ((AK.refl (fun _=>False) w1).drew.alloc _) (fun hHeld=>?_);clear hK K;(try go_frame);refine ht 11 (h:=?_);(try go_frame);refine wpAnyH_done (by kernel_rfl) ?_ _;go_upto_region 5 with fail;generalize (w1.alloc (.cells #[.string rr.name,.int .i64 rr.group,.int .i64 rr.kind,.slice ta rr.terms.length tc,.int .i64 rr.bound] 51)).drew=w3 at *;generalize w1.heap.size=vb at *;have HR:=bH (show Lt w p ⟨ri,var,tur⟩ (.returned (.tuple #[.slice ta rr.terms.length tc,.int .i64 0,.int .i64 (if tur then -1 else 1)])) w3 from by
  refine⟨ta,tc,?_,?_,?_⟩
  ·rw[HT.o.2,HE.o.1,HE.o.2]
  ·rw[HT.o.2];exact HT.o.1.keep HB.o.2
  exact HX.o.1.trans HB.o.2)
 cases tur with
 | true =>
  go_wp2;exact bodyPost_ret (v:=.tuple #[.slice ta rr.terms.length tc,.int .i64 0,.int .i64 (-1)]) (by simp[results,results220,go_sem]) rfl HR.o
 | false =>
  go_wp2;exact bodyPost_ret (v:=.tuple #[.slice ta rr.terms.length tc,.int .i64 0,.int .i64 1]) (by simp[results,results220,go_sem]) rfl HR.o
def BS(ba:Nat->Nat) (be:Nat->Rat):Nat->Nat->Rat
 | 0,_=>0
 | m+1,v=>if ba m=v then be m else BS ba be m v
theorem In{ba:Nat->Nat} {be:Nat->Rat} {s:Nat} (hs:1<=s):∀{m:Nat},(∀k,k<m->Sz (be k) s)->∀v,Sz (BS ba be m v) s
 | 0,_,_=>Sz.zero.mono hs
 | m+1,h,v=>by
  unfold BS;split
  ·exact h m (by omega)
  exact In hs (fun k hk=>h k (by omega)) v
theorem FH(w:World) (base tb:Nat) (V:Bh) (T:AX) (p:AH) (h:BG w base tb V T) (hp:Hf w tb p) (hn:p.vars.length<=1000000) :
  Calls prog 92 #[.pointer (some ⟨tb,0,none⟩)] w (Gu w p.vars.length (BS T.ba T.be T.m)):=by
 have hm:=h.small.2;obtain⟨w1,hmk,hA,hx1⟩:=A7 w p.vars.length hn;obtain⟨B,hB⟩:=bN w.heap.size;have hBw:w.heap.size<=B:=Nat.le_of_eq hB;rw[hB] at hmk hA;obtain⟨vo,vc,ro,rc,h1,h2,h3,-,h5,-⟩:=hp.ex;obtain⟨bo,bc,hbv,hbm,hbc⟩:=h.ba.nrow (by omega);have hbox:=h.box;rw[hbv] at hbox;have c4:=AB (AA hbox 4 rfl) hx1;have HA:=bH (bI hA (bI hx1 h));have HC:=bH hbc;clear hA hx1 h hp h3 hbc hbox h2;obtain⟨n,hn'⟩:=bN p.vars.length;rw[hn'] at HA hmk h1 h5 hn ⊢;clear hn';go_enter func92,ntmps92;go_wp2_with fail;go_loopg [18,4,5] T.m (fun gg v18 v4 v5 wr=>∃i:Nat,i<=T.m/\gg=T.m-i/\v18=.int .i64 i/\BT wr B n (BS T.ba T.be i)/\XF w wr);case atStart=>exact⟨0,Nat.zero_le _,rfl,rfl,HA.o.1,HA.o.2.1⟩
 case round =>
  obtain⟨i,hi,rfl,rfl,harr,hx⟩:=hrel;have HX:=bH (bI harr hx);clear harr hx;by_cases hin:i<T.m
  ·have i0:(i:Int)<(T.m:Int):=(by omega);have i1:(0:Int)<=(i:Int):=(by omega);obtain⟨g,off,rfl,hcell⟩:=HC.o i hin;obtain⟨gb,cb,hbe,k1,k2,hrc⟩:=HA.o.2.2.be.open (by omega);have hbox:=HA.o.2.2.box;rw[hbe] at hbox;have c6:=AB (AA hbox 6 rfl) HX.o.2;have c5:=AB hcell HX.o.2;obtain⟨ng,a1,m1,c1,a2,m2,c2,e0,e1,e2,hq⟩:=hrc.cells i hin;replace e0:=AB e0 HX.o.2;replace e1:=AB e1 HX.o.2;replace e2:=AB e2 HX.o.2;have HQ:=bH (hq.keep HX.o.2);clear hq hrc hbox hcell HA;have HD:=bH (show ∀k,BS T.ba T.be (i+1) k=if T.ba i=k then T.be i else BS T.ba T.be i k from fun _=>rfl);generalize T.ba i=v at *;by_cases hv:v<n
   ·have v0:(v:Int)<(n:Int):=(by omega);have v1:(0:Int)<=(v:Int):=(by omega);obtain⟨n0,b1,l1,d1,b2,l2,d2,z0,z1,z2,-⟩:=HX.o.1.cells v hv;have f0:=HX.o.1.free (v*3);have f1:=HX.o.1.free (v*3+1);have f2:=HX.o.1.free (v*3+2);obtain⟨p1,p2,p3⟩:=HX.o.1.put hv HQ.o;have HP:=bH (bI p1 (HX.o.2.own p2 (fun k e=>by omega)));clear p1 p2 p3 HQ HX;go_wp2;generalize ((wr.setCell ⟨B,v*3,none⟩ (.bool ng)).setCell ⟨B,v*3+1,none⟩ (.slice a1 m1 c1)).setCell ⟨B,v*3+2,none⟩ (.slice a2 m2 c2)=w9 at *;go_roundg (T.m-(i+1));case measure=>omega
    case rel=>exact⟨i+1,by omega,rfl,by go_num,HP.o.1.congr (fun k _=>(by
     rw[HD.o k];by_cases e:k=v
     ·rw[if_pos e,if_pos e.symm]
     rw[if_neg e,if_neg (Ne.symm e)])),HP.o.2⟩
   have v0:¬(v:Int)<(n:Int):=(by omega);go_wp2;go_roundg (T.m-(i+1));case measure=>omega
   case rel=>exact⟨i+1,by omega,rfl,by go_num,HX.o.1.congr (fun k hk=>(by rw[HD.o k,if_neg (by omega)])),HX.o.2⟩
  obtain rfl:i=T.m:=(by omega);go_wp2;go_ret;exact⟨B,rfl,hBw,HX.o.1,HX.o.2⟩
theorem Lw(w:World) (base tb s:Nat) (V:Bh) (T:AX) (p:AH) (h:BG w base tb V T) (hp:Hf w tb p) (hn:p.vars.length<=1000000) (hz:∀k,k<T.m->Sz (T.be k) s) (hs2:2<=s) (hs:s<=4000000) :
  Calls prog 95 #[.pointer (some ⟨tb,0,none⟩)] w (Gu w p.vars.length (fun i=>BS T.ba T.be T.m i+((p.v i).lo:Rat))):=by
 have hdz:∀v,Sz (BS T.ba T.be T.m v) s:=fun v=>In (by omega) hz v;have HD:=bH (FH w base tb V T p h hp hn);have HW:=bH (bI hp hdz);have hvar:∀i,i<p.vars.length->Gk (p.v i)=true:=fun i hi=>CZ hp.valid hi;have HVa:=bH hvar;obtain⟨vo,vc,ro,rc,h1,h2,h3,-,h5,-⟩:=hp.ex;have HVr:=bH h3;clear h hp h3 h2 hdz hvar hz;obtain⟨n,hn'⟩:=bN p.vars.length;have HN:=bH hn';rw[hn'] at HD h1 h5 hn HVa HVr ⊢;clear hn';go_enter func95,ntmps95;go_wp2_with fail;refine HD.o.mono ?_;rintro r1 w1 ⟨B,rfl,hBw,harr,hx1⟩;replace h1:=AB h1 hx1;have HA:=bH (bI harr hx1);clear harr hx1 HD;go_wp2_with fail;go_loopg [14,4,5] n (fun gg v14 v4 v5 wr=>∃i:Nat,i<=n/\gg=n-i/\v14=.int .i64 i/\BT wr B n (fun k=>if k<i then BS T.ba T.be T.m k+((p.v k).lo:Rat) else BS T.ba T.be T.m k)/\XF w wr);case atStart=>exact⟨0,Nat.zero_le _,rfl,rfl,HA.o.1.congr (fun i _=>(by simp)),HA.o.2⟩
 case round =>
  clear HA;obtain⟨i,hi,rfl,rfl,harr,hx⟩:=hrel;have HX:=bH (bI harr hx);clear harr hx;by_cases hin:i<n
  ·have i0:(i:Int)<(n:Int):=(by omega);have i1:(0:Int)<=(i:Int):=(by omega);have hrow:=HVr.o.keep HX.o.2;obtain⟨b,off,rfl,hlt,e0,e1,e2,e3,e4,-⟩:=hrow.atp i (by rw[HN.o];exact hin);clear hrow;obtain⟨⟨q1,q2⟩,-⟩:=Dv (HVa.o i hin);have hb1:=IK.new wr (p.v i);have hx1:=(AK.refl (fun _=>False) wr).alloc (.cells #[.int .i64 (p.v i).lo,.int .i64 (p.v i).up,.bool (p.v i).op,.bool (p.v i).ig,.int .i64 (p.v i).co] 77);have HB1:=bH (bI hb1 hx1);clear hb1 hx1;go_upto_region 5 with fail;obtain⟨rb,hrb⟩:=bN wr.heap.size;rw[hrb] at HB1 ⊢;generalize wr.alloc (.cells #[.int .i64 (p.v i).lo,.int .i64 (p.v i).up,.bool (p.v i).op,.bool (p.v i).ig,.int .i64 (p.v i).co] 77)=w3 at *;clear e0 e1 e2 e3 e4;have f0:=cq HB1.o.1.facts.1;have HX3:=bH (HX.o.2.trans HB1.o.2);have HB:=bH (HX.o.1.keep HB1.o.2);obtain⟨on,oa,ol,oc,oa2,ol2,oc2,o0,o1,o2,hoq⟩:=HB.o.cells i hin;rw[if_neg (by omega)] at hoq;have HF:=bH (fun W=>Bx W (p.v i).lo (by omega) (by omega));have hzz:=HW.o.2 i;have HAd:=bH (fun W u (hW:XF w3 W) (hu:AN W u ((p.v i).lo:Rat))=>GW W _ u (BS T.ba T.be T.m i) _ s ((hoq.keep hW).reads hzz) (hu.reads ((Sz.int ⟨by omega,by omega⟩).mono hs2)) (by omega) (by omega));replace o0:=cq o0;replace o1:=cq o1;replace o2:=cq o2;clear hoq hzz HX HB1;refine A4 11 (XF w3) (by kernel_rfl) ((AK.refl _ w3).drew) (fun hHeld=>?_);refine et 0 (h:=(et 1 (h:=(et 2 (h:=(et 3 (h:=(et 4 (h:=(et 5 (h:=(et 6 (h:=(et 7 (h:=?_)))))))))))))));(try go_frame);refine GY 8 (h:=fun K hK=>?_);(go_simp;go_at_call 86;(with_reducible refine (HF.o _).mono ?_);rintro q1 w11 ⟨v11,rfl,h11,hx11⟩;have hX1:=hHeld.trans hx11;have hT:=HAd.o w11 _ hX1 h11;obtain⟨n11,a11,l11,c11,a11',l11',c11',rfl⟩:=h11.shape);refine hK.o _ _ (hX1) (fun hHeld=>?_);clear hK K;(try go_frame);refine GY 9 (h:=fun K hK=>?_);(go_simp;go_at_call 160;(with_reducible refine hT.mono ?_);rintro q2 w12 ⟨v12,rfl,h12,hx12⟩;have hX2:=hX1.trans hx12;obtain⟨n12,a12,l12,c12,a12',l12',c12',rfl⟩:=h12.shape);refine hK.o _ _ (hX2) (fun hHeld=>?_);clear hK K;(try go_frame);refine et 10 (h:=?_);(try go_frame);have HT2:=bH (HB.o.keep hX2);have fz0:=HT2.o.free (i*3);have fz1:=HT2.o.free (i*3+1);have fz2:=HT2.o.free (i*3+2);have t0:=o0 _ hX2;have t1:=o1 _ hX2;have t2:=o2 _ hX2;refine BJ rfl (by kernel_rfl) (fun K hK=>?_);go_simp;refine hK.o _ _ ?_;clear hK K;(try go_frame);refine BL (by kernel_rfl) ?_ _;obtain⟨p1,p2,p3⟩:=HT2.o.put (show i<n from hin) h12;have HP:=bH (bI p1 ((HX3.o.trans hX2).own p2 (fun k e=>by omega)));clear p1 p2 p3 HT2 fz0 fz1 fz2 t0 t1 t2 o0 o1 o2 h11 h12 hx11 hx12 hX1 hX2 hT hHeld HAd HF f0 HB HX3;generalize ((w12.setCell ⟨B,i*3,none⟩ (.bool n12)).setCell ⟨B,i*3+1,none⟩ (.slice a12 l12 c12)).setCell ⟨B,i*3+2,none⟩ (.slice a12' l12' c12')=w9 at *;go_wp2;go_roundg (n-(i+1));case measure=>omega
   case rel=>exact⟨i+1,by omega,rfl,by go_num,HP.o.1.congr (fun k _=>(by
    by_cases h1:k=i
    ·subst h1;simp
    rw[if_neg h1];by_cases h2:k<i
    ·rw[if_pos h2,if_pos (by omega)]
    rw[if_neg h2,if_neg (by omega)])),HP.o.2⟩
  obtain rfl:i=n:=(by omega);go_wp2;go_ret;exact⟨B,rfl,hBw,HX.o.1.congr (fun k hk=>by rw[if_pos hk]),HX.o.2⟩
def FE(T:AX) (c:Nat):Nat->Nat->Rat
 | 0,v=>if T.fr c=v then 1 else 0
 | m+1,v=>if T.ba m=v then -T.al m c else FE T c m v
theorem Tz(w:World) (base tb s c:Nat) (V:Bh) (T:AX) (p:AH) (h:BG w base tb V T) (hp:Hf w tb p) (hn:p.vars.length<=1000000) (hc:c<T.n) (hz:∀k,k<T.m->Sz (T.al k c) s) (h1s:1<=s) (hs:s<=4000000) :
  Calls prog 94 #[.pointer (some ⟨tb,0,none⟩),.int .i64 c] w (Gu w p.vars.length (FE T c T.m)):=by
 have hm:=h.small.2;have hn2:=h.small.1;obtain⟨w1,hmk,hA,hx1⟩:=A7 w p.vars.length hn;obtain⟨B,hB⟩:=bN w.heap.size;have hBw:w.heap.size<=B:=Nat.le_of_eq hB;rw[hB] at hmk hA;obtain⟨vo,vc,ro,rc,h1,h2,h3,-,h5,-⟩:=hp.ex;obtain⟨bo,bc,hbv,hbm,hbc⟩:=h.ba.nrow (by omega);obtain⟨fo,fc,hfv,hfm,hfc⟩:=h.fr.nrow (by omega);obtain⟨g0,off0,rfl,hcellf⟩:=hfc c hc;have hbox:=h.box;rw[hbv,hfv] at hbox;have c4:=AB (AA hbox 4 rfl) hx1;have c5:=AB (AA hbox 5 rfl) hx1;replace hcellf:=AB hcellf hx1;have HA:=bH (bI hA (bI hx1 h));have HC:=bH hbc;have HZ:=bH hz;have k0:(c:Int)<(T.n:Int):=by omega
 have k1:(0:Int)<=(c:Int):=by omega
 clear hA hx1 h hp h3 hbc hbox h2 hz hfc;obtain⟨n,hn'⟩:=bN p.vars.length;rw[hn'] at HA hmk h1 h5 hn ⊢;clear hn';have HFr:=bH (show ∀v,FE T c 0 v=if T.fr c=v then 1 else 0 from fun _=>rfl);have HF:=bH (fun W=>Bx W 1 (by omega) (by omega));generalize T.fr c=fv at *;go_enter func94,ntmps94;go_upto_if 26 with fail;go_cut [] (fun wx=>BT wx B n (FE T c 0)/\XF w wx);case first =>
  by_cases hv:fv<n
  ·have v0:(fv:Int)<(n:Int):=(by omega);have v1:(0:Int)<=(fv:Int):=(by omega);go_wp2_with fail;refine HF.o _ |>.mono ?_;rintro r3 w3 ⟨v3,rfl,h3,hx3⟩;obtain⟨ng,sa,sn,sc,ta,tn,tc,rfl⟩:=h3.shape;have harr3:=HA.o.1.keep hx3;obtain⟨n0,b1,l1,d1,b2,l2,d2,e0,e1,e2,-⟩:=harr3.cells fv hv;have f0:=harr3.free (fv*3);have f1:=harr3.free (fv*3+1);have f2:=harr3.free (fv*3+2);obtain⟨p1,p2,p3⟩:=harr3.put hv h3;have HP:=bH (bI p1 ((HA.o.2.1.trans hx3).own p2 (fun k e=>by omega)));clear p1 p2 p3 harr3 h3 hx3;go_wp2;go_meet;exact⟨HP.o.1.congr (fun k _=>(by
     rw[HFr.o k];by_cases e:k=fv
     ·rw[if_pos e,if_pos e.symm];rfl
     rw[if_neg e,if_neg (Ne.symm e)])),HP.o.2⟩
  have v0:¬(fv:Int)<(n:Int):=(by omega);go_wp2;go_meet;exact⟨HA.o.1.congr (fun k hk=>(by rw[HFr.o k,if_neg (by omega)])),HA.o.2.1⟩
 case rest =>
  obtain⟨harr,hx⟩:=hcut;have HS:=bH (bI harr hx);have hbox:=HA.o.2.2.box;rw[hbv,hfv] at hbox;clear c4 c5 hcellf hmk;replace c4:=AB (AA hbox 4 rfl) hx;clear harr hx hbox;go_wp2_with fail;go_loopg [36,7,8] T.m (fun gg v36 v7 v8 wr=>∃i:Nat,i<=T.m/\gg=T.m-i/\v36=.int .i64 i/\BT wr B n (FE T c i)/\XF w wr);case atStart=>exact⟨0,Nat.zero_le _,rfl,rfl,HS.o.1,HS.o.2⟩
  case round =>
   clear HS;obtain⟨i,hi,rfl,rfl,harr,hx⟩:=hrel;have HX:=bH (bI harr hx);clear harr hx;by_cases hin:i<T.m
   ·have i0:(i:Int)<(T.m:Int):=(by omega);have i1:(0:Int)<=(i:Int):=(by omega);obtain⟨g,off,rfl,hcell⟩:=HC.o i hin;obtain⟨ga,ca,hal,a1,a2,hrc⟩:=HA.o.2.2.al.open (by omega);have hbox:=HA.o.2.2.box;rw[hal] at hbox;have c7:=AB (AA hbox 7 rfl) HX.o.2;have c8:=AB (hrc i hin) HX.o.2;have c9:=AB hcell HX.o.2;obtain⟨ng,x1,m1,n1,x2,m2,n2,e0,e1,e2,hq⟩:=(HA.o.2.2.rows i hin).1.cells c (by omega);replace e0:=AB e0 HX.o.2;replace e1:=AB e1 HX.o.2;replace e2:=AB e2 HX.o.2;have HNg:=bH (GT wr _ (T.al i c) s ((hq.keep HX.o.2).reads (HZ.o i hin)) h1s (by omega));clear hq hrc hbox hcell;have HD:=bH (show ∀k,FE T c (i+1) k=if T.ba i=k then -T.al i c else FE T c i k from fun _=>rfl);generalize T.ba i=v at *;by_cases hv:v<n
    ·have v0:(v:Int)<(n:Int):=(by omega);have v1:(0:Int)<=(v:Int):=(by omega);go_wp2_with fail;refine HNg.o.mono ?_;rintro r3 w3 ⟨v3,rfl,h3,hx3⟩;obtain⟨ng',sa,sn,sc,ta,tn,tc,rfl⟩:=h3.shape;have harr3:=HX.o.1.keep hx3;obtain⟨n0,b1,l1,d1,b2,l2,d2,z0,z1,z2,-⟩:=harr3.cells v hv;have f0:=harr3.free (v*3);have f1:=harr3.free (v*3+1);have f2:=harr3.free (v*3+2);obtain⟨p1,p2,p3⟩:=harr3.put hv h3;have HP:=bH (bI p1 ((HX.o.2.trans hx3).own p2 (fun k e=>by omega)));clear p1 p2 p3 harr3 h3 hx3 HNg HX e0 e1 e2 c7 c8 c9;go_wp2;generalize ((w3.setCell ⟨B,v*3,none⟩ (.bool ng')).setCell ⟨B,v*3+1,none⟩ (.slice sa sn sc)).setCell ⟨B,v*3+2,none⟩ (.slice ta tn tc)=w9 at *;go_roundg (T.m-(i+1));case measure=>omega
     case rel=>exact⟨i+1,by omega,rfl,by go_num,HP.o.1.congr (fun k _=>(by
      rw[HD.o k];by_cases e:k=v
      ·rw[if_pos e,if_pos e.symm]
      rw[if_neg e,if_neg (Ne.symm e)])),HP.o.2⟩
    have v0:¬(v:Int)<(n:Int):=(by omega);clear HNg e0 e1 e2 c7 c8;go_wp2;go_roundg (T.m-(i+1));case measure=>omega
    case rel=>exact⟨i+1,by omega,rfl,by go_num,HX.o.1.congr (fun k hk=>(by rw[HD.o k,if_neg (by omega)])),HX.o.2⟩
   obtain rfl:i=T.m:=(by omega);go_wp2;go_ret;exact⟨B,rfl,hBw,HX.o.1,HX.o.2⟩
def PA(w:World) (b:Nat) (q:Rat):Prop:=∃ng a1 m1 c1 a2 m2 c2,Aj w b ng (.slice a1 m1 c1) (.slice a2 m2 c2)/\AN w (.agg #[.bool ng,.slice a1 m1 c1,.slice a2 m2 c2]) q
theorem PA.keep{w w':World} {b:Nat} {q:Rat} (h:PA w b q) (hx:XF w w'):PA w' b q:=by
 obtain⟨ng,a1,m1,c1,a2,m2,c2,h1,h2⟩:=h;exact⟨ng,a1,m1,c1,a2,m2,c2,h1.keep hx,h2.keep hx⟩
def Sx(p:AH) (ts:List B1) (i:Nat):Rat:=AG i fun k=>((ts.getD k AW).coef:Rat)*((p.v (ts.getD k AW).var.toNat).lo:Rat)
theorem R0{p:AH} (hv:AU p=true) {w:World} {v:Value} {ts:List B1} (ht:G8 w v ts) (hin:∀k,k<ts.length->0<=(ts.getD k AW).var/\(ts.getD k AW).var<p.vars.length) {i:Nat} (hi:i<=ts.length):Sz (Sx p ts i) (1+i*(2+3)) :=
 Dl (f:=fun k=>(ts.getD k AW).coef) (g:=fun k=>((p.v (ts.getD k AW).var.toNat).lo:Rat)) (n:=ts.length) (fun k hk=>(ht.ok k hk).coef) (fun k hk=>by
  obtain⟨h0,h1⟩:=hin k hk;obtain⟨⟨q1,q2⟩,-⟩:=Dv (CZ hv (show (ts.getD k AW).var.toNat<p.vars.length by omega));exact Sz.int ⟨by omega,by omega⟩) i hi
theorem Pi{ts:List B1} {z:List Rat} {L:Nat} (hf:∀k,k<ts.length->EX (ts.getD k AW).coef) (hz:∀i:Int,Sz (Am z i) L):Sz (Bs ts z) (1+ts.length*(L+3)) :=
 Dl (f:=fun k=>(ts.getD k AW).coef) (g:=fun k=>Am z (ts.getD k AW).var) (n:=ts.length) hf (fun k _=>hz _) _ (Nat.le_refl _)
theorem Jr(w:World) (tb:Nat) (p:AH) (l:AZ) (zo:Option Addr) (zm zc:Nat) (z:List Rat) (L:Nat) (dir:Bool) (h:Hf w tb p) (hl:BF p l) (hz:B2 w (.slice zo zm zc) z L) (h1L:2<=L) (hL:(AV p l).length*(L+8)+L+20<=2000000) :
  Calls prog 162 #[.pointer (some ⟨tb,0,none⟩),.agg #[.int .i64 l.row,.int .i64 l.var,.bool l.tur],.slice zo zm zc,.bool dir] w (Aw w (BM p l z dir)):=by
 have hin:=hl.terms h.valid;have HIn:=bH (bI h.valid (bI hin hl));have HP:=bH (fun W (hW:XF w W)=>MT W tb p l (h.keep hW) hl);have HE:=bH (show BM p l z dir=((if dir then 0 else Cs p l)-Bs (AV p l) z)*(A6 l:Rat) from rfl);have HT:=bH (bI h hz);have hbo:-9223372036854775808<=Jo p l/\Jo p l<=9223372036854775807:=by
  unfold Jo;rcases hl with⟨g1,g2,_⟩|⟨g1,_⟩
  ·obtain⟨⟨q1,q2⟩,⟨q3,q4⟩,-⟩:=Dv (CZ h.valid g2);rw[if_pos (by omega)];omega
  rw[if_neg (by omega)];omega
 have hsg:A6 l=1∨A6 l = -1:=by
  unfold A6;split
  ·exact .inl rfl
  split
  ·exact .inr rfl
  exact .inl rfl
 have hA:=Nat.mul_add (AV p l).length L 8;have HLen:=bH (show 1+(AV p l).length*(L+3)+(L+3)<=4000000/\(AV p l).length*5+20<=2000000/\1+(AV p l).length*(L+3)+(AV p l).length*5+10<=2000000 from by
  have h2:=Nat.mul_add (AV p l).length L 3;omega)
 have HF:=bH (fun W=>Bx W (Jo p l) hbo.1 hbo.2);have HF0:=bH (fun W=>Bx W 0 (by omega) (by omega));have HFs:=bH (fun W=>Bx W (A6 l) (by rcases hsg with e|e<;>omega) (by rcases hsg with e|e<;>omega));have hsz:Sz (A6 l:Rat) 2:=Sz.int ⟨by rcases hsg with e|e<;>omega,by rcases hsg with e|e<;>omega⟩;have HSg:=bH hsz;clear hbo hsg hin hA hL h hz hsz;generalize BM p l z dir=res at *;generalize hsgn:A6 l=sgn at *;have HSgn:=bH hsgn;clear hsgn;generalize hbnd:Jo p l=bo at *;have HBnd:=bH hbnd;clear hbnd;obtain⟨ts,hts⟩:=bN (AV p l);rw[hts] at HE HIn HLen;obtain⟨row,var,tur⟩:=l;have hxa:=(AK.refl (fun _=>False) w).alloc (.cells #[.int .i64 row,.int .i64 var,.bool tur] 124);have hxb:=hxa.alloc (.cells #[.bool false,.slice none 0 0,.slice none 0 0] 34);have hb0:Au ((w.alloc (.cells #[.int .i64 row,.int .i64 var,.bool tur] 124)).alloc (.cells #[.bool false,.slice none 0 0,.slice none 0 0] 34)) w.heap.size=some (.cells #[.int .i64 row,.int .i64 var,.bool tur] 124 (0,0)):=(Ap _ _ _ (by simp)).trans (AD _ _);have hb1:Aj ((w.alloc (.cells #[.int .i64 row,.int .i64 var,.bool tur] 124)).alloc (.cells #[.bool false,.slice none 0 0,.slice none 0 0] 34)) (w.heap.size+1) false (.slice none 0 0) (.slice none 0 0):=by
  have:=AO (W:=w.alloc (.cells #[.int .i64 row,.int .i64 var,.bool tur] 124)) rfl false none 0 0 none 0 0;simpa using this
 have l0:=AA hb0 0 rfl;have l1:=AA hb0 1 rfl;have l2:=AA hb0 2 rfl;have HB:=bH (bI hxb hb1);have HP1:=bH (HP.o _ hxb);clear hxa hxb hb0 hb1 HP;go_enter func162,ntmps162;go_upto_region 1 with fail;generalize (w.alloc (.cells #[.int .i64 row,.int .i64 var,.bool tur] 124)).alloc (.cells #[.bool false,.slice none 0 0,.slice none 0 0] 34)=w1 at *;obtain⟨lb,hlb⟩:=bN w.heap.size;have hwl:w.heap.size<=lb:=Nat.le_of_eq hlb;rw[hlb] at HB l0 l1 l2 ⊢;clear hlb;go_upto_region 2 with (go_at_call 220;refine HP1.o.mono ?_;rintro r2 w2 ⟨tso,tsc,rfl,htm,hx2⟩);rw[hts] at htm;have HTs:=bH hts;clear hts;rw[HBnd.o,HSgn.o];replace l0:=AB l0 hx2;replace l1:=AB l1 hx2;replace l2:=AB l2 hx2;have HB2:=bH (bI (HB.o.1.trans hx2) (bI (HB.o.2.keep hx2) htm));clear HB HP1 hx2 htm l1 l2;go_upto_region 3 with (go_at_call 86;refine (HF0.o _).mono ?_;rintro r3 w3 ⟨v3,rfl,h3,hx3⟩;obtain⟨n3,a3,l3,c3,a3',l3',c3',rfl⟩:=h3.shape);have hxn:=(AK.refl (fun _=>False) w3).alloc (.cells #[.bool n3,.slice a3 l3 c3,.slice a3' l3' c3'] 34);have hsb:=AO (W:=w3) rfl n3 a3 l3 c3 a3' l3' c3';have hs2:w2.heap.size<=w3.heap.size:=hx3.size;have hs1:lb+1<w2.heap.size:=HB2.o.2.1.lt;have HS:=bH (bI (hx3.trans hxn) (bI hsb (h3.keep hxn)));replace l0:=AB (AB l0 hx3) hxn;clear hxn hsb h3 hx3;generalize w3.alloc (.cells #[.bool n3,.slice a3 l3 c3,.slice a3' l3' c3'] 34)=w5 at *;generalize w3.heap.size=sb at *;have HOwn:=bH (fun W (hx:AK (fun k=>k=sb) w5 W)=>show XF w2 W from HS.o.1.own hx (fun k e=>by have e':k=sb:=e;omega));go_upto_if 24 with fail;go_cut [] (fun wx=>PA wx sb (if dir then 0 else Cs p ⟨row,var,tur⟩)/\AK (fun k=>k=sb) w5 wx);case first =>
  cases dir with
  | true =>
   go_wp2;go_meet;exact⟨⟨n3,a3,l3,c3,a3',l3',c3',HS.o.2.1,by
    have e:((0:Int):Rat)=0:=rfl;have:=HS.o.2.2;rw[e] at this;exact this⟩,AK.refl _ _⟩
  | false =>
   have hbl:∀W,XF w5 W->W.frozen? ⟨sb,0,none⟩=false/\W.frozen? ⟨sb,1,none⟩=false/\W.frozen? ⟨sb,2,none⟩=false:=fun W hW=>(HS.o.2.1.keep hW).facts.2.2.2;go_upto_if 29 with (go_at_call 86;refine (HF.o _).mono ?_;rintro r6 w6 ⟨v6,rfl,h6,hx6⟩;obtain⟨n6,a6,m6,c6,a6',m6',c6',rfl⟩:=h6.shape;have hbt:=HS.o.2.1.keep hx6;obtain⟨d0,d1,d2,d3,d4,d5⟩:=hbt.facts;have hl6:=AB l0 hx6;have hne:¬lb=sb:=(by omega));have hpt:=hbt.put (neg:=n6) (AF a6 m6 c6) (AF a6' m6' c6');have HQ:=bH (bI hpt.box (bI (hpt.rat h6) ((hx6.none (S:=fun k=>k=sb)).trans hpt.ext)));have hl7:=(hpt.ext.cell (p:=⟨lb,0,none⟩) (World.block_lt_of_cell? _ _ hl6) (fun e=>hne e)).trans hl6;clear hpt hbt d0 d1 d2 d3 d4 d5 h6 hx6;generalize ((w6.setCell ⟨sb,0,none⟩ (.bool n6)).setCell ⟨sb,1,none⟩ (.slice a6 m6 c6)).setCell ⟨sb,2,none⟩ (.slice a6' m6' c6')=w7 at *;clear hl6;rcases hl with⟨g1,g2,g3,g4⟩|⟨g1,g2,g3,g4,g5⟩
   ·have g1:row = -1:=g1;subst g1;have HV:=bH (show ((bo:Int):Rat)=Cs p ⟨-1,var,tur⟩ from by
     rw[<- HBnd.o];rfl)
    clear g2 g3 g4;go_wp2;go_meet;refine⟨⟨n6,a6,m6,c6,a6',m6',c6',HQ.o.1,?_⟩,HQ.o.2.2⟩;have:=HQ.o.2.1;rw[HV.o] at this;exact this
   have g1:0<=row:=g1;have g2:row.toNat<p.rows.length:=g2;obtain⟨ri,rfl⟩:∃ri:Nat,row=ri:=⟨row.toNat,by omega⟩;have g2:ri<p.rows.length:=g2;have HV:=bH (show Cs p ⟨ri,var,tur⟩=((p.r ri).bound:Rat)-Sx p ts ts.length from by
    have e:Cs p ⟨ri,var,tur⟩=((p.r ri).bound:Rat)-KZ p (AV p ⟨ri,var,tur⟩):=if_neg (by show ¬(ri:Int)<0;omega);rw[e,HTs.o];rfl)
   have r0:¬((ri:Int)<0):=(by omega);have r1:(ri:Int)<(p.rows.length:Int):=(by omega);have hx7:=(HB2.o.1.trans (HOwn.o _ HQ.o.2.2));obtain⟨vo,vc,ro,rc,h1,h2,h3,h4,h5,h6⟩:=(HT.o.1.keep hx7).ex;have hrow:=HT.o.1.valid;have hrb:=BR hrow g2;obtain⟨b,off,ta,tlc,rfl,hlt,e0,e1,e2,e3,e4,hok,-⟩:=h4.atp ri g2;have HFr:=bH (fun W=>Bx W (p.r ri).bound hok.bound.1 hok.bound.2);have HBz:=bH (Sz.int (k:=(p.r ri).bound) hok.bound);clear hrow hrb hok e0 e1 e2 e3 g1 g3 g4 g5 h1 h5 h6 HBnd;generalize (p.r ri).bound=bnd at *;replace h2:=cq h2;replace e4:=cq e4;replace hl7:=cq hl7;have HSsb:=bH HQ.o.1;go_upto_region 6 with fail;refine A4 11 (XF w7) (by kernel_rfl) ((AK.refl _ w7).drew) (fun hHeld=>?_);refine et 0 (h:=(et 1 (h:=(et 2 (h:=(et 3 (h:=(et 4 (h:=(et 5 (h:=(et 6 (h:=(et 7 (h:=(et 8 (h:=(et 9 (h:=?_)))))))))))))))))));(try go_frame);refine GY 10 (h:=fun K hK=>?_);(go_simp;go_at_call 86;(with_reducible refine (HFr.o _).mono ?_);rintro q1 w11 ⟨v11,rfl,h11,hx11⟩;have hX1:=hHeld.trans hx11;obtain⟨n11,a11,l11,c11,a11',l11',c11',rfl⟩:=h11.shape);refine hK.o _ _ (hX1) (fun hHeld=>?_);clear hK K;(try go_frame);have hbt:=HSsb.o.keep hX1;obtain⟨d0,d1,d2,d3,d4,d5⟩:=hbt.facts;have hpt:=hbt.put (neg:=n11) (AF a11 l11 c11) (AF a11' l11' c11');have HPt:=bH (bI hpt.box (bI (hpt.rat h11) (bI hpt.ext hpt.rds)));refine BJ rfl (by kernel_rfl) (fun K hK=>?_);go_simp;refine hK.o _ _ ?_;clear hK K;(try go_frame);refine BL (by kernel_rfl) ?_ _;clear hl7 h2 e4 HFr d0 d1 d2 d3 d4 d5 hHeld;have HP:=bH (bI (show PA _ sb ((bnd:Rat)-Sx p ts 0) from⟨_,_,_,_,_,_,_,HPt.o.1,by
    have e:(bnd:Rat)-Sx p ts 0=(bnd:Rat):=(by show (bnd:Rat)-0=_;grind);rw[e];exact HPt.o.2.1⟩) (HQ.o.2.2.trans (hX1.none.trans HPt.o.2.2.1)))
   clear hbt hpt h11 hx11 hX1 HPt HSsb HQ;generalize ((w11.setCell ⟨sb,0,none⟩ (.bool n11)).setCell ⟨sb,1,none⟩ (.slice a11 l11 c11)).setCell ⟨sb,2,none⟩ (.slice a11' l11' c11')=w9 at *;go_wp2_with fail;go_loopg [43,14] ts.length (fun gg v43 v14 wr=>∃i:Nat,i<=ts.length/\gg=ts.length-i/\v43=.int .i64 i/\PA wr sb ((bnd:Rat)-Sx p ts i)/\AK (fun k=>k=sb) w5 wr);case atStart=>exact⟨0,Nat.zero_le _,rfl,rfl,HP.o⟩
   case round =>
    clear HP;obtain⟨i,hi,rfl,rfl,hacc,hx⟩:=hrel;have HX:=bH (bI hacc (bI hx (HOwn.o _ hx)));clear hacc hx;by_cases hin:i<ts.length
    ·have i0:(i:Int)<(ts.length:Int):=(by omega);have i1:(0:Int)<=(i:Int):=(by omega);obtain⟨tb2,toff,rfl,htl,t0,t1,htok⟩:=(HB2.o.2.2.keep HX.o.2.2).at i hin;obtain⟨v0,v1⟩:=HIn.o.2.1 i hin;have hxa:=(AK.refl (fun _=>False) wr).alloc (.cells #[.int .i64 (ts.getD i AW).var,.int .i64 (ts.getD i AW).coef] 95);have hb1:=AD wr (.cells #[.int .i64 (ts.getD i AW).var,.int .i64 (ts.getD i AW).coef] 95);have HLz:=bH (R0 HIn.o.1 HB2.o.2.2 HIn.o.2.1 (Nat.le_of_lt hin));have HNx:=bH (show (bnd:Rat)-Sx p ts i-((ts.getD i AW).coef:Rat)*((p.v (ts.getD i AW).var.toNat).lo:Rat)=(bnd:Rat)-Sx p ts (i+1) from by
      show _=(bnd:Rat)-(Sx p ts i+((ts.getD i AW).coef:Rat)*((p.v (ts.getD i AW).var.toNat).lo:Rat));grind)
     generalize ts.getD i AW=tm at *;obtain⟨vn,hvn⟩:∃vn:Nat,tm.var=vn:=⟨tm.var.toNat,by omega⟩;rw[hvn] at t0 v1 HNx hxa hb1;rw[show ((vn:Nat):Int).toNat=vn from rfl] at HNx;clear hvn v0;have v2:vn<p.vars.length:=(by omega);have v3:(0:Int)<=(vn:Int):=(by omega);have HX8:=bH (bI (HX.o.1.keep hxa) (bI (HX.o.2.1.trans hxa.none) (HX.o.2.2.trans hxa)));have f0:=AA hb1 0 rfl;have f1:=AA hb1 1 rfl;clear hb1 hxa;go_upto_region 10 with fail;generalize wr.alloc (.cells #[.int .i64 (vn:Int),.int .i64 tm.coef] 95)=w8 at *;generalize wr.heap.size=tbx at *;obtain⟨vo,vc,ro,rc,h1,h2,h3,h4,h5,h6⟩:=(HT.o.1.keep (HB2.o.1.trans HX8.o.2.2)).ex;obtain⟨b3,off3,rfl,hlt3,e0,e1,e2,e3,e4,-⟩:=h3.atp vn v2;obtain⟨⟨q1,q2⟩,-⟩:=Dv (CZ HIn.o.1 v2);obtain⟨on,oa,ol,oc,oa',ol',oc',hob,hoq⟩:=HX8.o.1;obtain⟨o0,o1,o2,-⟩:=hob.facts;have HSsb:=bH hob;have HFc:=bH (fun W=>Bx W tm.coef htok.coef.1 htok.coef.2);have HFl:=bH (fun W=>Bx W (p.v vn).lo (by omega) (by omega));have hz1:=Sz.int (k:=tm.coef) htok.coef;have hz2:=Sz.int (k:=(p.v vn).lo) ⟨by omega,by omega⟩;have HM:=bH (fun W u v (hW:XF w8 W) (hu:AN W u (tm.coef:Rat)) (hv:AN W v ((p.v vn).lo:Rat))=>DW W u v _ _ 2 (hu.reads hz1) (hv.reads hz2) (by omega) (by omega));have HSu:=bH (fun W u (hW:XF w8 W) (hu:AN W u ((tm.coef:Rat)*((p.v vn).lo:Rat)))=>Fh W _ u ((bnd:Rat)-Sx p ts i) _ (2+(1+i*5)+1) ((hoq.keep hW).reads ((HBz.o.sub HLz.o).mono (by omega))) (hu.reads ((hz1.mul hz2).mono (by omega))) (by omega) (by have:=HLen.o.2.1;omega));clear hoq hob hz1 hz2 e1 e2 e3 e4 h2 h3 h4 h5 h6 htok t0 t1;generalize (p.v vn).lo=lo at *;replace h1:=cq h1;replace e0:=cq e0;replace f0:=cq f0;replace f1:=cq f1;replace o0:=cq o0;replace o1:=cq o1;replace o2:=cq o2;refine A4 17 (XF w8) (by kernel_rfl) ((AK.refl _ w8).drew) (fun hHeld=>?_);refine et 0 (h:=(et 1 (h:=(et 2 (h:=(et 4 (h:=(et 5 (h:=(et 6 (h:=(et 7 (h:=(et 8 (h:=(et 9 (h:=(et 10 (h:=(et 11 (h:=(et 12 (h:=(et 13 (h:=?_)))))))))))))))))))))))));(try go_frame);refine GY 3 (h:=fun K hK=>?_);(go_simp;go_at_call 86;(with_reducible refine (HFc.o _).mono ?_);rintro q1 w11 ⟨v11,rfl,h11,hx11⟩;have hX1:=hHeld.trans hx11;obtain⟨n11,a11,l11,c11,a11',l11',c11',rfl⟩:=h11.shape);refine hK.o _ _ (hX1) (fun hHeld=>?_);clear hK K;(try go_frame);refine GY 14 (h:=fun K hK=>?_);(go_simp;go_at_call 86;(with_reducible refine (HFl.o _).mono ?_);rintro q2 w12 ⟨v12,rfl,h12,hx12⟩;have hX2:=hX1.trans hx12;replace h11:=h11.keep hx12;obtain⟨n12,a12,l12,c12,a12',l12',c12',rfl⟩:=h12.shape);refine hK.o _ _ (hX2) (fun hHeld=>?_);clear hK K;(try go_frame);refine GY 15 (h:=fun K hK=>?_);(go_simp;go_at_call 179;(with_reducible refine (HM.o _ _ _ hX2 h11 h12).mono ?_);rintro q3 w13 ⟨v13,rfl,h13,hx13⟩;have hX3:=hX2.trans hx13;obtain⟨n13,a13,l13,c13,a13',l13',c13',rfl⟩:=h13.shape);refine hK.o _ _ (hX3) (fun hHeld=>?_);clear hK K;(try go_frame);refine GY 16 (h:=fun K hK=>?_);(go_simp;go_at_call 161;(with_reducible refine (HSu.o _ _ hX3 h13).mono ?_);rintro q4 w14 ⟨v14,rfl,h14,hx14⟩;have hX4:=hX3.trans hx14;obtain⟨n14,a14,l14,c14,a14',l14',c14',rfl⟩:=h14.shape);refine hK.o _ _ (hX4) (fun hHeld=>?_);clear hK K;(try go_frame);have hbt:=HSsb.o.keep hX4;obtain⟨d0,d1,d2,d3,d4,d5⟩:=hbt.facts;have hpt:=hbt.put (neg:=n14) (AF a14 l14 c14) (AF a14' l14' c14');have HPt:=bH (bI hpt.box (bI (hpt.rat h14) (bI hpt.ext hpt.rds)));refine BJ rfl (by kernel_rfl) (fun K hK=>?_);go_simp;refine hK.o _ _ ?_;clear hK K;(try go_frame);refine BL (by kernel_rfl) ?_ _;have HP:=bH (bI (show PA _ sb ((bnd:Rat)-Sx p ts (i+1)) from⟨_,_,_,_,_,_,_,HPt.o.1,by
      have:=HPt.o.2.1;rw[HNx.o] at this;exact this⟩) (HX8.o.2.1.trans (hX4.none.trans HPt.o.2.2.1)))
     clear hbt hpt h11 h12 h13 h14 hx11 hx12 hx13 hx14 hX1 hX2 hX3 hX4 HPt HSsb HX8 HX hHeld d0 d1 d2 d3 d4 d5 o0 o1 o2 h1 e0 f0 f1 HFc HFl HM HSu;generalize ((w14.setCell ⟨sb,0,none⟩ (.bool n14)).setCell ⟨sb,1,none⟩ (.slice a14 l14 c14)).setCell ⟨sb,2,none⟩ (.slice a14' l14' c14')=w9 at *;have hlen:=HLen.o.2.1;go_wp2;go_roundg (ts.length-(i+1));case measure=>omega
     case rel=>exact⟨i+1,by omega,rfl,by go_num,HP.o⟩
    obtain rfl:i=ts.length:=(by omega);go_wp2;go_meet;refine⟨?_,HX.o.2.1⟩;rw[HV.o];exact HX.o.1
 case rest =>
  obtain⟨⟨ng,b1,k1,d1,b2,k2,d2,hbx,hqx⟩,hxx⟩:=hcut;have hxc:=HOwn.o _ hxx;have HR:=bH (bI hbx (bI hqx (bI (HB2.o.1.trans hxc) (HB2.o.2.1.keep hxc))));have HDo:=bH (fun W (hW:XF wc W)=>Te W _ _ ts z L ((HB2.o.2.2.keep hxc).keep hW) (HT.o.2.keep ((HB2.o.1.trans hxc).trans hW)) (by omega) HLen.o.1);obtain⟨o0,o1,o2,-⟩:=hbx.facts;have HSsb:=bH hbx;have hbz:Sz (if dir then 0 else Cs p ⟨row,var,tur⟩) (ts.length*5+6):=by
   cases dir with
   | true=>exact Sz.zero.mono (by omega)
   | false =>
    show Sz (Cs p ⟨row,var,tur⟩) _;rcases hl with⟨g1,g2,_⟩|⟨g1,g2,_⟩
    ·obtain⟨⟨q1,q2⟩,⟨q3,q4⟩,-⟩:=Dv (CZ HIn.o.1 g2);have e:Cs p ⟨row,var,tur⟩=(((p.v var).up-(p.v var).lo:Int):Rat):=if_pos (by have g1:row = -1:=g1;show row<0;omega);rw[e];have q1:-1099511627776<=(p.v var).lo:=q1;have q2:(p.v var).lo<=1099511627776:=q2;have q3:-1099511627776<=(p.v var).up:=q3;have q4:(p.v var).up<=1099511627776:=q4;exact (Sz.int ⟨by omega,by omega⟩).mono (by omega)
    have e:Cs p ⟨row,var,tur⟩=((p.r row.toNat).bound:Rat)-Sx p ts ts.length:=by
     have e:Cs p ⟨row,var,tur⟩=((p.r row.toNat).bound:Rat)-KZ p (AV p ⟨row,var,tur⟩):=if_neg (by have g1:0<=row:=g1;show ¬row<0;omega);rw[e,HTs.o];rfl
    rw[e];obtain⟨vo,vc,ro,rc,h1,h2,h3,h4,h5,h6⟩:=HT.o.1.ex;exact ((Sz.int (h4.ok _ g2).bound).sub (R0 HIn.o.1 HB2.o.2.2 HIn.o.2.1 (Nat.le_refl _))).mono (by omega)
  have HDz:Hid (Sz (Bs ts z) (1+ts.length*(L+3))):=bH (Pi (ts:=ts) (fun k hk=>(HB2.o.2.2.ok k hk).coef) (HT.o.2.sz (by omega)));have HSu:=bH (fun W u (hW:XF wc W) (hu:AN W u (Bs ts z))=>Fh W _ u (if dir then 0 else Cs p ⟨row,var,tur⟩) _ (1+ts.length*(L+3)+ts.length*5+8) ((hqx.keep hW).reads (hbz.mono (by omega))) (hu.reads (HDz.o.mono (by omega))) (by omega) (by have:=HLen.o.2.2;omega));have HTz:=bH (show Sz ((if dir then 0 else Cs p ⟨row,var,tur⟩)-Bs ts z) (ts.length*5+6+(1+ts.length*(L+3))+1) from hbz.sub HDz.o);clear hbx hqx hbz hxc l0;generalize (if dir then 0 else Cs p ⟨row,var,tur⟩)=q0 at *;replace o0:=cq o0;replace o1:=cq o1;replace o2:=cq o2;go_upto_region 12 with fail;refine A4 5 (XF wc) (by kernel_rfl) ((AK.refl _ wc).drew) (fun hHeld=>?_);refine et 0 (h:=(et 1 (h:=(et 2 (h:=?_)))));(try go_frame);refine GY 3 (h:=fun K hK=>?_);(go_simp;go_at_call 122;(with_reducible refine (HDo.o _ hHeld).mono ?_);rintro q1 w11 ⟨v11,rfl,h11,hx11⟩;have hX1:=hHeld.trans hx11;obtain⟨n11,a11,l11,c11,a11',l11',c11',rfl⟩:=h11.shape);refine hK.o _ _ (hX1) (fun hHeld=>?_);clear hK K;(try go_frame);refine GY 4 (h:=fun K hK=>?_);(go_simp;go_at_call 161;(with_reducible refine (HSu.o _ _ hX1 h11).mono ?_);rintro q2 w12 ⟨v12,rfl,h12,hx12⟩;have hX2:=hX1.trans hx12;obtain⟨n12,a12,l12,c12,a12',l12',c12',rfl⟩:=h12.shape);refine hK.o _ _ (hX2) (fun hHeld=>?_);clear hK K;(try go_frame);have hbt:=HSsb.o.keep hX2;obtain⟨d0,d1,d2,d3,d4,d5⟩:=hbt.facts;have hpt:=hbt.put (neg:=n12) (AF a12 l12 c12) (AF a12' l12' c12');have HPt:=bH (bI hpt.box (bI (hpt.rat h12) (bI hpt.ext hpt.rds)));refine BJ rfl (by kernel_rfl) (fun K hK=>?_);go_simp;refine hK.o _ _ ?_;clear hK K;(try go_frame);refine BL (by kernel_rfl) ?_ _;have HP:=bH (bI HPt.o.1 (bI HPt.o.2.1 (bI ((HR.o.2.2.1.trans hX2).own HPt.o.2.2.1 (fun k e=>by have e':k=sb:=e;omega)) ((HR.o.2.2.2.keep hX2).ext HPt.o.2.2.1 (fun e=>by have e':lb+1=sb:=e;omega)))));clear hbt hpt h11 h12 hx11 hx12 hX1 hX2 HPt HSsb HR hHeld d0 d1 d2 d3 d4 d5 o0 o1 o2 HDo HSu;generalize ((w12.setCell ⟨sb,0,none⟩ (.bool n12)).setCell ⟨sb,1,none⟩ (.slice a12 l12 c12)).setCell ⟨sb,2,none⟩ (.slice a12' l12' c12')=w9 at *;obtain⟨o0,o1,o2,-⟩:=HP.o.1.facts;replace o0:=cq o0;replace o1:=cq o1;replace o2:=cq o2;have HSrb:=bH HP.o.2.2.2;have hqy:=HP.o.2.1;have HM:=bH (fun W u (hW:XF w9 W) (hu:AN W u (sgn:Rat))=>DW W _ u (q0-Bs ts z) (sgn:Rat) (ts.length*5+6+(1+ts.length*(L+3))+1) ((hqy.keep hW).reads HTz.o) (hu.reads (HSg.o.mono (by omega))) (by omega) (by have:=HLen.o.2.2;omega));clear hqy;go_upto_region 13 with fail;refine A4 4 (XF w9) (by kernel_rfl) ((AK.refl _ w9).drew) (fun hHeld=>?_);refine et 0 (h:=(et 1 (h:=?_)));(try go_frame);refine GY 2 (h:=fun K hK=>?_);(go_simp;go_at_call 86;(with_reducible refine (HFs.o _).mono ?_);rintro q1 w11 ⟨v11,rfl,h11,hx11⟩;have hX1:=hHeld.trans hx11;obtain⟨n11,a11,l11,c11,a11',l11',c11',rfl⟩:=h11.shape);refine hK.o _ _ (hX1) (fun hHeld=>?_);clear hK K;(try go_frame);refine GY 3 (h:=fun K hK=>?_);(go_simp;go_at_call 179;(with_reducible refine (HM.o _ _ hX1 h11).mono ?_);rintro q2 w12 ⟨v12,rfl,h12,hx12⟩;have hX2:=hX1.trans hx12;obtain⟨n12,a12,l12,c12,a12',l12',c12',rfl⟩:=h12.shape);refine hK.o _ _ (hX2) (fun hHeld=>?_);clear hK K;(try go_frame);have hbt:=HSrb.o.keep hX2;obtain⟨d0,d1,d2,d3,d4,d5⟩:=hbt.facts;have hpt:=hbt.put (neg:=n12) (AF a12 l12 c12) (AF a12' l12' c12');have HPt:=bH (bI hpt.box (bI (hpt.rat h12) (bI hpt.ext hpt.rds)));refine BJ rfl (by kernel_rfl) (fun K hK=>?_);go_simp;refine hK.o _ _ ?_;clear hK K;(try go_frame);refine BL (by kernel_rfl) ?_ _;have HQ:=bH (bI HPt.o.1 (bI HPt.o.2.1 ((HP.o.2.2.1.trans hX2).own HPt.o.2.2.1 (fun k e=>by have e':k=lb+1:=e;omega))));clear hbt hpt h11 h12 hx11 hx12 hX1 hX2 HPt HSrb HP hHeld d0 d1 d2 d3 d4 d5 o0 o1 o2 HM;generalize ((w12.setCell ⟨lb+1,0,none⟩ (.bool n12)).setCell ⟨lb+1,1,none⟩ (.slice a12 l12 c12)).setCell ⟨lb+1,2,none⟩ (.slice a12' l12' c12')=w10 at *;obtain⟨g0,g1,g2,_⟩:=HQ.o.1.facts;go_wp2;exact bodyPost_ret (v:=.agg #[.bool n12,.slice a12 l12 c12,.slice a12' l12' c12']) (by simp[results,results162,go_sem,g0,g1,g2]) rfl ⟨_,rfl,by rw[HE.o];exact HQ.o.2.1,HQ.o.2.2⟩
def Dn(l:AZ):List Value:=[.int .i64 l.row,.int .i64 l.var,.bool l.tur]
theorem GK(l:AZ):(Dn l).length=3:=rfl
theorem CX(l:AZ):E1 (Dn l):=fun u hu d e=>by
 simp[Dn] at hu;rcases hu with rfl|rfl|rfl<;>cases e
theorem FZ(l:AZ):∀u∈Dn l,u.oneCell'=true:=fun u hu=>by
 simp[Dn] at hu;rcases hu with rfl|rfl|rfl<;>rfl
theorem Ek(ls:List AZ):E1 (ls.flatMap Dn):=fun u hu=>by
 obtain⟨x,hx,hu⟩:=List.mem_flatMap.1 hu;exact CX x u hu
structure DV(w:World) (base:Nat) (v:Value) (us:List AZ):Prop where
 own:w.ownsRow base 124 3 v us.length (us.flatMap Dn)
 noDig:∀g,v.ownBlock=some g->BN w g
section
variable {w w':World} {base:Nat} {v:Value} {us:List AZ}
theorem DV.past{S:Nat->Prop} (h:DV w base v us) (hx:AK S w w') (hn:∀g,v.ownBlock=some g->¬S g):DV w' base v us :=
 ⟨C9 h.own hx hn,fun g hg i d hc=>h.noDig g hg i d (by rw[<- hx.cell (p:=⟨g,i,none⟩) (h.own.lt g hg).2 (hn g hg)];exact hc)⟩
theorem DV.keep(h:DV w base v us) (hx:XF w w'):DV w' base v us:=h.past hx (fun _ _=>id)
theorem DV.shape(h:DV w base v us):∃ao cap,v=.slice ao us.length cap:=Ag h.own
theorem DV.at(h:DV w base v us) {i:Nat} (hi:i<us.length):∃g cap,v=.slice (some ⟨g,0,none⟩) us.length cap/\w.cell? ⟨g,i*3,none⟩=some (.int .i64 (us.getD i BB).row)/\w.cell? ⟨g,i*3+1,none⟩=some (.int .i64 (us.getD i BB).var)/\w.cell? ⟨g,i*3+2,none⟩=some (.bool (us.getD i BB).tur):=by
 rcases h.own.2 with⟨_,h0⟩|⟨g,cap,cur,rfl,_⟩
 ·omega
 rw[BZ hi BB];have hx:=List.getElem?_eq_getElem hi;exact⟨g,cap,rfl,PX GK h.own i hx 0 (by decide) rfl,PX GK h.own i hx 1 (by decide) rfl,PX GK h.own i hx 2 (by decide) rfl⟩
theorem DV.typ(h:DV w base v us):∀g,v.ownBlock=some g->∃arr,Au w g=some (.cells arr 124 (0,0)):=fun g hg=>by
 rcases h.own.2 with⟨rfl,_⟩|⟨g',cap,cur,rfl,_,h3,_⟩
 ·cases hg
 cases hg;exact⟨cur,h3⟩
end
def RV(w:World) (v:Value) (m:Nat) (q:Nat->Rat):Prop:=∃ao c,v=.slice ao m c/\m<=9223372036854775807/\∀i,i<m->∃g off,ao=some ⟨g,off,none⟩ /\
 ∃ng a1 m1 c1 a2 m2 c2,w.cell? ⟨g,off+i*3,none⟩=some (.bool ng)/\w.cell? ⟨g,off+i*3+1,none⟩=some (.slice a1 m1 c1)/\w.cell? ⟨g,off+i*3+2,none⟩=some (.slice a2 m2 c2)/\AN w (.agg #[.bool ng,.slice a1 m1 c1,.slice a2 m2 c2]) (q i)
theorem RV.keep{w w':World} {v:Value} {m:Nat} {q:Nat->Rat} (h:RV w v m q) (hx:XF w w'):RV w' v m q:=by
 obtain⟨ao,c,e,h1,h2⟩:=h;refine⟨ao,c,e,h1,fun i hi=>?_⟩;obtain⟨g,off,e2,ng,a1,m1,c1,a2,m2,c2,k0,k1,k2,k3⟩:=h2 i hi;exact⟨g,off,e2,ng,a1,m1,c1,a2,m2,c2,AB k0 hx,AB k1 hx,AB k2 hx,k3.keep hx⟩
theorem A8.qrow{w:World} {base m:Nat} {v:Value} {f:Nat->Rat} (h:A8 w base v m f) (hm:m<=1000000):RV w v m f:=by
 rcases h with⟨rfl,rfl⟩|⟨g,cap,rfl,_,_,_,h3,_⟩
 ·exact⟨none,0,rfl,Nat.zero_le _,fun i hi=>absurd hi (Nat.not_lt_zero i)⟩
 refine⟨_,cap,rfl,by omega,fun i hi=>⟨g,0,rfl,?_⟩⟩;obtain⟨ng,a1,m1,c1,a2,m2,c2,k0,k1,k2,k3⟩:=h3.cells i hi;refine⟨ng,a1,m1,c1,a2,m2,c2,?_,?_,?_,k3⟩
 ·rw[Nat.zero_add];exact k0
 ·rw[Nat.zero_add];exact k1
 rw[Nat.zero_add];exact k2
section
variable {P:Program} {md:Region.Mode} {ops:Array Oper} {Q:Exit->Act->World->Prop} {S S':World->Prop} {k:Nat->Bool}
def Dz(P:Program) (md:Region.Mode) (ops:Array Oper) (Q:Exit->Act->World->Prop) (S:World->Prop) (k:Nat->Bool):Nat->Array Bool->Act->World->Prop
 | 0,ls,a,w=>Region.ready md ops ls=[]/\Q .normal a w
 | n+1,ls,a,w=>(Region.ready md ops ls=[]->Q .normal a w)/\∀i∈Region.ready md ops ls,wpOp P ops Q i (fun a' w'=>(k i=false->S w->S w')/\Dz P md ops Q S k n (ls.setIfInBounds i true) a' w') a w
theorem Dz.any:∀(n:Nat) (ls:Array Bool) (a:Act) (w:World),Dz P md ops Q S k n ls a w->wpAny P md ops Q n ls a w
 | 0,_,_,_,h=>h
 | n+1,_,_,_,h=>⟨h.1,fun i hi=>wpOp_mono (fun a w h=>Dz.any n _ a w h.2) (h.2 i hi)⟩
theorem Dz.takeF{i:Nat} {oi:Oper} {v:Value} (hi:ops[i]?=some oi) (hsel:∀(j:Nat) (o:Oper) cs b,ops[j]?=some o->o.op≠.select cs b) (hQ:∀c a w,Q (.panic c) (a.put oi.dst v) w->Q (.panic c) a w) :
  ∀(n:Nat) (ls:Array Bool) (a:Act) (w:World),Iu md ops i oi ls->i∈Region.ready md ops ls->YieldsIf P ops (fun _=>True) oi v a->Dz P md ops Q S k n (ls.setIfInBounds i true) (a.put oi.dst v) w->Dz P md ops Q S k (n+1) ls a w:=by
 have first:∀(n:Nat) (ls:Array Bool) (a:Act) (w:World),YieldsIf P ops (fun _=>True) oi v a->Dz P md ops Q S k n (ls.setIfInBounds i true) (a.put oi.dst v) w->wpOp P ops Q i (fun a' w'=>(k i=false->S w->S w')/\Dz P md ops Q S k n (ls.setIfInBounds i true) a' w') a w :=
  fun n ls a w hy H=>hy.wpOp hi trivial ⟨fun _ hs=>hs,H⟩
 intro n;induction n with
 | zero =>
  intro ls a w _ hr hy H;refine⟨fun h=>(by rw[h] at hr;cases hr),fun j hj=>?_⟩;rcases Decidable.em (j=i) with e|e
  ·rw[e];exact first 0 ls a w hy H
  have:=ready_mono hj e;rw[H.1] at this;cases this
 | succ n ih =>
  intro ls a w hap hr hy H;refine⟨fun h=>(by rw[h] at hr;cases hr),fun j hj=>?_⟩;rcases Decidable.em (j=i) with e|e
  ·rw[e];exact first (n+1) ls a w hy H
  obtain⟨hju,oj,hoj,_⟩:=mem_ready.1 hj;have h2:=wpOp_putIf hoj (hap j oj hoj e hju (C6 hr hoj hj)) (fun cs b=>hsel i oi cs b hi) (fun cs b=>hsel j oj cs b hoj) hQ hy (H.2 j (ready_mono hj e));refine wpOp_mono (fun a' w' h3=>?_) h2;have hr':i∈Region.ready md ops (ls.setIfInBounds j true):=ready_mono hr (Ne.symm e);exact⟨h3.2.1,ih _ a' w' (hap.next hju) hr' h3.1 (by rw[Array.setIfInBounds_comm _ _ e];exact h3.2.2)⟩
theorem Dz.takeD{i:Nat} {oi:Oper} {v:Value} (D:Nat->Prop) (hi:ops[i]?=some oi) (hsel:∀(j:Nat) (o:Oper) cs b,ops[j]?=some o->o.op≠.select cs b) (hQ:∀c a w,Q (.panic c) (a.put oi.dst v) w->Q (.panic c) a w)
  (hD:∀p,D p->∃q,Nx md ops p q/\(q=i∨D q)) (hk:k i=false/\∀j,k j=true->D j) :
  ∀(n:Nat) (ls:Array Bool) (a:Act) (w:World),Iu md ops i oi ls->i∈Region.ready md ops ls->(∀p,D p->ls.getD p false=false)->YieldsIf P ops S oi v a->S w->Dz P md ops Q S k n (ls.setIfInBounds i true) (a.put oi.dst v) w->Dz P md ops Q S k (n+1) ls a w:=by
 have first:∀(n:Nat) (ls:Array Bool) (a:Act) (w:World),i∈Region.ready md ops ls->YieldsIf P ops S oi v a->S w->Dz P md ops Q S k n (ls.setIfInBounds i true) (a.put oi.dst v) w->wpOp P ops Q i (fun a' w'=>(k i=false->S w->S w')/\Dz P md ops Q S k n (ls.setIfInBounds i true) a' w') a w :=
  fun n ls a w _ hy hS H=>hy.wpOp hi hS ⟨fun _ hs=>hs,H⟩
 intro n;induction n with
 | zero =>
  intro ls a w _ hr _ hy hS H;refine⟨fun h=>(by rw[h] at hr;cases hr),fun j hj=>?_⟩;rcases Decidable.em (j=i) with e|e
  ·rw[e];exact first 0 ls a w hr hy hS H
  have:=ready_mono hj e;rw[H.1] at this;cases this
 | succ n ih =>
  intro ls a w hap hr hnl hy hS H;refine⟨fun h=>(by rw[h] at hr;cases hr),fun j hj=>?_⟩;rcases Decidable.em (j=i) with e|e
  ·rw[e];exact first (n+1) ls a w hr hy hS H
  obtain⟨hju,oj,hoj,_⟩:=mem_ready.1 hj;have h2:=wpOp_putIf hoj (hap j oj hoj e hju (C6 hr hoj hj)) (fun cs b=>hsel i oi cs b hi) (fun cs b=>hsel j oj cs b hoj) hQ hy (H.2 j (ready_mono hj e));refine wpOp_mono (fun a' w' h3=>?_) h2;have hr':i∈Region.ready md ops (ls.setIfInBounds j true):=ready_mono hr (Ne.symm e);have hno:∀p,Nx md ops j p->p≠i/\ls.getD p false=true:=fun p ⟨ok,ho,e',he,hb,hon⟩=>by
   rw[hoj] at ho;cases ho;refine⟨fun ep=>C6 hr hoj hj e' he hb (hon.trans ep),?_⟩;obtain⟨_,o2,ho2,hall⟩:=mem_ready.1 hj;rw[hoj] at ho2;cases ho2;rw[<- hon];exact hall e' he hb
  have hnD:¬D j:=fun hd=>by
   obtain⟨q,h4,h5⟩:=hD j hd;rcases h5 with h5|h5
   ·exact (hno q h4).1 h5
   have h6:=(hno q h4).2;rw[hnl q h5] at h6;cases h6
  have hjk:k j=false:=by
   cases hkj:k j with
   | false=>rfl
   | true=>exact absurd (hk.2 j hkj) hnD
  have hnl':∀p,D p->(ls.setIfInBounds j true).getD p false=false:=fun p hp=>by
   have hpj:p≠j:=fun ep=>hnD (ep▸hp);rw[getD_set_ne false (Ne.symm hpj)];exact hnl p hp
  have hS':S w':=h3.2.1 hjk hS;exact⟨h3.2.1,ih _ a' w' (hap.next hju) hr' hnl' h3.1 hS' (by rw[Array.setIfInBounds_comm _ _ e];exact h3.2.2)⟩
end
section
variable {P:Program} {md:Region.Mode} {l:List Oper} {Q:Exit->Act->World->Prop} {S:World->Prop} {k:Nat}
def UU(md:Region.Mode) (o:Oper) (i:Nat) (D:List Nat):Bool:=o.after.any fun e=>Region.binds md e&&(e.on == i||D.contains e.on)
def F0(md:Region.Mode) (i:Nat):List Oper->Nat->List Nat->List Nat
 | [],_,D=>D
 | o::l,j,D=>F0 md i l (j+1) (if UU md o i D then j::D else D)
def PM(md:Region.Mode) (l:List Oper) (i:Nat) (D:List Nat):Bool:=D.all fun p=>match l[p]? with|some o=>UU md o i D|none=>false
def Mj(l:List Oper) (k i:Nat) (D:List Nat):Bool:=decide (i<k)&&(List.range l.length).all fun j=>!decide (k<=j)||D.contains j
def UV(ls:Array Bool) (D:List Nat):Bool:=D.all fun p=>!ls.getD p false
theorem Jj{i:Nat} {D:List Nat} (h:PM md l i D=true):∀p,p∈D->∃q,Nx md l.toArray p q/\(q=i∨q∈D):=fun p hp=>by
 have h1:=List.all_eq_true.1 h p hp;split at h1
 ·rename_i o ho;obtain⟨e,he,hb⟩:=Array.any_eq_true'.1 h1;simp only[Bool.and_eq_true,Bool.or_eq_true,beq_iff_eq,List.contains_iff_mem] at hb;exact⟨e.on,⟨o,by simpa using ho,e,he,hb.1,rfl⟩,hb.2⟩
 cases h1
theorem Jg{i:Nat} {D:List Nat} (h:Mj l k i D=true):(fun j=>decide (k<=j)&&decide (j<l.length)) i=false/\∀j,(fun j=>decide (k<=j)&&decide (j<l.length)) j=true->j∈D:=by
 unfold Mj at h;simp only[Bool.and_eq_true,decide_eq_true_eq,List.all_eq_true] at h;refine⟨by simp only[Bool.and_eq_false_iff,decide_eq_false_iff_not];left;omega,fun j hj=>?_⟩;simp only[Bool.and_eq_true,decide_eq_true_eq] at hj;have h2:=h.2 j (List.mem_range.2 hj.2);rw[decide_eq_true hj.1] at h2;simpa using h2
abbrev EC(P:Program) (md:Region.Mode) (l:List Oper) (Q:Exit->Act->World->Prop) (S:World->Prop) (k:Nat) (n:Nat) (ls:Array Bool) (a:Act) (w:World):Prop:=Dz P md l.toArray Q S (fun j=>decide (k<=j)&&decide (j<l.length)) n ls a w
theorem mf(i:Nat) {oi:Oper} {v:Value} {fuel:Nat} {listed:Array Bool} {a:Act} {w:World} (hi:l[i]?=some oi:=by rfl) (hs:Region.noSelect l.toArray=true:=by kernel_rfl) (hf:Region.free md l.toArray listed i=true:=by kernel_rfl)
  (hr:(Region.ready md l.toArray listed).contains i=true:=by kernel_rfl) (hQ:∀c a w,Q (.panic c) (a.put oi.dst v) w->Q (.panic c) a w:=by exact fun _ _ _ h=>h) (hw:Region.wanted oi (yielded l.toArray a.tmps)=true:=by rfl)
  (he:∀w,True->(execOp a.eval oi).run P w=.ok (.value v) w:=by (intro w _;(try go_frame);go_simp)<;>with_reducible rfl) (h:EC P md l Q S k fuel (listed.setIfInBounds i true) (a.put oi.dst v) w):EC P md l Q S k (fuel+1) listed a w :=
 have hi':l.toArray[i]?=some oi:=by simpa using hi
 Dz.takeF hi' (Region.noSelect_spec hs) hQ fuel listed a w (Region.free_spec hi' hf) (by simpa using hr) (.inl ⟨hw,he⟩) h
theorem mu(i:Nat) {oi:Oper} {v:Value} {fuel:Nat} {listed:Array Bool} {a:Act} {w:World} (hi:l[i]?=some oi:=by rfl) (hs:Region.noSelect l.toArray=true:=by kernel_rfl) (hf:Region.free md l.toArray listed i=true:=by kernel_rfl)
  (hr:(Region.ready md l.toArray listed).contains i=true:=by kernel_rfl) (hk:PM md l i (F0 md i l 0 [])=true:=by kernel_rfl) (hl:Mj l k i (F0 md i l 0 [])=true:=by kernel_rfl) (hnl:UV listed (F0 md i l 0 [])=true:=by kernel_rfl) (hQ:∀c a w,Q (.panic c) (a.put oi.dst v) w->Q (.panic c) a w:=by exact fun _ _ _ h=>h) (hw:Region.wanted oi (yielded l.toArray a.tmps)=true:=by rfl)
  (he:∀w,S w->(execOp a.eval oi).run P w=.ok (.value v) w:=by (intro w hSw;(try go_frame);(try dsimp only at hSw);go_simp)<;>with_reducible rfl) (hS:S w:=by assumption) (h:EC P md l Q S k fuel (listed.setIfInBounds i true) (a.put oi.dst v) w):EC P md l Q S k (fuel+1) listed a w :=
 have hi':l.toArray[i]?=some oi:=by simpa using hi
 Dz.takeD (fun p=>p∈F0 md i l 0 []) hi' (Region.noSelect_spec hs) hQ (Jj hk) (Jg hl) fuel listed a w (Region.free_spec hi' hf) (by simpa using hr) (fun p hp=>by have:=List.all_eq_true.1 hnl p hp;simpa using this) (.inl ⟨hw,he⟩) hS h
theorem Ez(i:Nat) {oi:Oper} {fuel:Nat} {listed:Array Bool} {a:Act} {w:World} (hi:l[i]?=some oi:=by rfl) (hr:Region.ready md l.toArray listed=[i]:=by kernel_rfl)
  (h:∀K':Act->World->Prop,Shut (∀a w,S w->(S w->EC P md l Q S k fuel (listed.setIfInBounds i true) a w)->K' a w)->if Region.wanted oi (yielded l.toArray a.tmps)=true then Oper.wp P oi a w K' Q else K' (a.put oi.dst undef) w) :
  EC P md l Q S k (fuel+1) listed a w:=by
 refine⟨fun h0=>(by rw[hr] at h0;cases h0),fun j hj=>?_⟩;rw[hr] at hj;obtain rfl:=List.mem_singleton.1 hj;exact wpOp_step (by simpa using hi) (fun K' hK=>h K' (fun a w hS hW=>hK a w ⟨fun _ _=>hS,hW hS⟩))
theorem ml(i:Nat) {oi:Oper} {fuel:Nat} {listed:Array Bool} {a:Act} {w:World} (hi:l[i]?=some oi:=by rfl) (hr:Region.ready md l.toArray listed=[i]:=by kernel_rfl) (hk:(decide (k<=i)&&decide (i<l.length))=true:=by kernel_rfl)
  (h:∀K':Act->World->Prop,Shut (∀a w,EC P md l Q S k fuel (listed.setIfInBounds i true) a w->K' a w)->if Region.wanted oi (yielded l.toArray a.tmps)=true then Oper.wp P oi a w K' Q else K' (a.put oi.dst undef) w) :
  EC P md l Q S k (fuel+1) listed a w:=by
 refine⟨fun h0=>(by rw[hr] at h0;cases h0),fun j hj=>?_⟩;rw[hr] at hj;obtain rfl:=List.mem_singleton.1 hj;exact wpOp_step (by simpa using hi) (fun K' hK=>h K' (fun a w hW=>hK a w ⟨fun e=>absurd (hk.symm.trans e) (by decide),hW⟩))
theorem Dr{listed:Array Bool} {a:Act} {w:World} (hr:Region.ready md l.toArray listed=[]) (h:Q .normal a w):∀fuel,EC P md l Q S k fuel listed a w
 | 0=>⟨hr,h⟩
 | _+1=>⟨fun _=>h,by rw[hr];simp⟩
theorem Dq{id:Nat} {a:Act} {w:World} (k:Nat) (S:World->Prop) (hm:P.follows .mixedOrders=true) (hS:S w.drew)
  (h:S w.drew->EC P .any l Q S k l.toArray.size (Array.replicate l.toArray.size false) a w.drew):(Code.region id l.toArray true).wp P Q a w :=
 wp_region_any hm (Dz.any _ _ _ _ (h hS))
end
theorem Tryz.infoInt1:(prog.info? 3).map (fun i=>(i.zero,i.size,i.bytes))=some (some (.int .i64 0),1,8):=by kernel_rfl
theorem Tryz.infoLimit:(prog.info? 124).map (fun i=>(i.zero,i.size,i.bytes))=some (some (.agg #[.int .i64 0,.int .i64 0,.bool false]),3,24):=by kernel_rfl
theorem Tryz.infoRats:(prog.info? 35).map (fun i=>(i.zero,i.size,i.bytes))=some (some (.slice none 0 0),1,24):=by kernel_rfl
structure Le(w w':World) (base:Nat) (e:TypeId) (size:Nat) (v v':Value) (n:Nat) (xs news:List Value):Prop where
 own:w'.ownsRow base e size v' (n+1) (xs++news)
 ext:AK (fun k=>v.ownBlock=some k) w w'
 rds:∀u d,Ad w u d->Ad w' u d
 noDig:∀g,v'.ownBlock=some g->BN w' g
 lies:v'.ownBlock=v.ownBlock∨v'.ownBlock=some w.heap.size
theorem B0{w:World} {ops:Array Oper} {o:Oper} {a:Act} {K:Act->World->Prop} {Q:Exit->Act->World->Prop} {E:Prop} {z:Value} {size bytes:Nat} {e T:TypeId}
  (hgd:o.guard=none) (s x:Operand) (ho:o.op=.call { callee:=.builtin .append,args:=#[s,x],argTypes:=#[T,T] }) (ht:prog.underlying T=some (.slice e)) (hi:(prog.info? e).map (fun i=>(i.zero,i.size,i.bytes))=some (some z,size,bytes)) (hzs:z.cells.size=size) (hzn:E1 z.cells.toList) (hsz:0<size) (hbs:bytes<=1000)
  (base:Nat) (v:Value) (n:Nat) (xs:List Value) (hs:a.eval s=v) (hown:w.ownsRow base e size v n xs) (hnd:∀g,v.ownBlock=some g->BN w g) (hxs:E1 xs) (ad:Addr) (c:Nat) (news:List Value) (hx:a.eval x=.slice (some ad) 1 c) (hl:news.length=size) (hsrc:∀j u,news[j]?=some u->w.cell? (ad.add j)=some u) (h1:∀u∈news,u.oneCell'=true) (hnn:E1 news) (hn:n<=100000) (hbase:base<=w.heap.size)
  (h:∀v' w',Le w w' base e size v v' n xs news->K (a.put o.dst v') w') :
  if Region.wanted o (yielded ops a.tmps)=true then Oper.wp prog o a w K Q else E:=by
 have hw:Region.wanted o (yielded ops a.tmps)=true:=by simp[Region.wanted,hgd]
 rw[if_pos hw];obtain⟨i0,hi0,hz0,hz1,hz2⟩:=info_parts hi;have hby:(n+1)*bytes<=140737488355328:=Nat.le_trans (Nat.mul_le_mul (show n+1<=100001 by omega) hbs) (by decide);obtain⟨v',w',hr,g1,g2,g3⟩:=DE (P:=prog) (w:=w) base T o.type e i0 z size bytes ht hi0 hz0 hz1 hz2 hzs hsz v n xs hown (some ad) 1 c (fun e=>by cases e) news (by rw[hl];omega) (.inr ⟨ad,rfl,hsrc⟩) h1 (by unfold maxLen;omega) hby hbase;have hx':AK (fun k=>v.ownBlock=some k) w w':=(AK.refl (fun k=>v.ownBlock=some k) w).grown g2 (fun k hk _=>hk);have hnd':=EZ (P:=prog) w base T o.type e i0 z ht hi0 hz0 (by rw[hz1];exact hzs) hzn v n xs (by rw[hz1];exact hown) hnd hxs ad 1 c news (by rw[hz1,hl];omega) hsrc h1 hnn (by decide) (by unfold maxLen;omega) (by rw[hz2];exact hby) v' w' hr;unfold Oper.wp execOp;simp only[ho,resolve,invoke,builtin,Sem.run_bind,Sem.run_pure,Result.andThen_ok,List.map_toArray,List.map_cons,List.map_nil,hs,hx,hr];exact h v' w' ⟨g1,hx',fun u d hu=>hu.past hx' (fun k _ hk=>hnd k hk),hnd',g3⟩
theorem Le.new{w w':World} {base size n:Nat} {e:TypeId} {v v':Value} {xs news:List Value} (h:Le w w' base e size v v' n xs news):∀g,v'.ownBlock=some g->v.ownBlock=some g∨w.heap.size<=g:=fun g hg=>by
 rcases h.lies with e|e
 ·exact .inl (by rw[<- e];exact hg)
 rw[e] at hg;cases hg;exact .inr (Nat.le_refl _)
theorem Mr{arr:Array Value} {f:Nat->Value}:∀{m:Nat},(∀i,i<m->arr[i]?=some (f i))->arr.toList.take m=(List.range m).map f
 | 0,_=>by simp
 | m+1,h=>by
  have hm:=h m (by omega);have hlt:m<arr.size:=(Array.getElem?_eq_some_iff.1 hm).1;rw[List.take_add_one,Mr (fun i hi=>h i (by omega)),List.range_succ,List.map_append];simp[hm]
section
variable {w w':World} {base:Nat} {v v':Value} {m:Nat}
def Ex(m:Nat) (b:Nat->Nat):List Value:=(List.range m).map fun i=>.int .i64 (b i)
theorem Gd(m:Nat) (b:Nat->Nat):E1 (Ex m b):=fun u hu d e=>by
 obtain⟨i,_,rfl⟩:=List.mem_map.1 hu;cases e
theorem BQ.own{b:Nat->Nat} (h:BQ w base v m b):w.ownsRow base 3 1 v m (Ex m b)/\∀g,v.ownBlock=some g->BN w g:=by
 rcases h with⟨rfl,rfl⟩|⟨g,cap,arr,rfl,h1,h2,h3,h4,h5,h6,h7⟩
 ·exact⟨World.ownsRow_nil w base _ 1,fun g hg=>by cases hg⟩
 refine⟨⟨by simp[Ex],.inr ⟨g,cap,arr,rfl,h1,h4,h2,h3,by omega,?_⟩⟩,fun g' hg=>by cases hg;exact h6⟩;rw[Nat.mul_one];exact Mr h7
theorem BQ.of{b:Nat->Nat} (h:w.ownsRow base 3 1 v m (Ex m b)) (hn:∀g,v.ownBlock=some g->BN w g):BQ w base v m b:=by
 rcases h.2 with⟨rfl,h0⟩|⟨g,cap,cur,rfl,h1,h2,h3,h4,h5,h6⟩
 ·exact .inl ⟨rfl,h0⟩
 refine .inr ⟨g,cap,cur,rfl,h1,h3,h4,h2,by omega,hn g rfl,fun i hi=>?_⟩;have:(cur.toList.take (m*1))[i]?=(Ex m b)[i]?:=(by rw[h6]);rw[List.getElem?_take_of_lt (by omega)] at this;rw[<- Array.getElem?_toList,this];simp[Ex,hi]
theorem BQ.app{b:Nat->Nat} {x:Nat} (h:Le w w' base 3 1 v v' m (Ex m b) [.int .i64 x]):BQ w' base v' (m+1) (fun i=>if i=m then x else b i):=by
 refine BQ.of ?_ h.noDig;have:Ex (m+1) (fun i=>if i=m then x else b i)=Ex m b++[.int .i64 x]:=by
  unfold Ex;rw[List.range_succ,List.map_append];congr 1
  ·refine List.map_congr_left fun i hi=>?_;show Value.int .i64 ((if i=m then x else b i:Nat):Int)=_;rw[if_neg (by have:=List.mem_range.1 hi;omega)]
  simp
 rw[this];exact h.own
def Eu(m:Nat) (f:Nat->Value):List Value:=(List.range m).map f
theorem Ck.own{f:Nat->Value} (h:Ck w base v m f):w.ownsRow base 35 1 v m (Eu m f):=by
 rcases h with⟨rfl,rfl⟩|⟨g,cap,arr,rfl,h1,h2,h3,h4,h5,h7⟩
 ·exact World.ownsRow_nil w base _ 1
 refine⟨by simp[Eu],.inr ⟨g,cap,arr,rfl,h1,h4,h2,h3,by omega,?_⟩⟩;rw[Nat.mul_one];exact Mr h7
theorem Ck.of{f:Nat->Value} (h:w.ownsRow base 35 1 v m (Eu m f)):Ck w base v m f:=by
 rcases h.2 with⟨rfl,h0⟩|⟨g,cap,cur,rfl,h1,h2,h3,h4,h5,h6⟩
 ·exact .inl ⟨rfl,h0⟩
 refine .inr ⟨g,cap,cur,rfl,h1,h3,h4,h2,by omega,fun i hi=>?_⟩;have:(cur.toList.take (m*1))[i]?=(Eu m f)[i]?:=(by rw[h6]);rw[List.getElem?_take_of_lt (by omega)] at this;rw[<- Array.getElem?_toList,this];simp[Eu,hi]
theorem Ck.app{f:Nat->Value} {x:Value} (h:Le w w' base 35 1 v v' m (Eu m f) [x]):Ck w' base v' (m+1) (fun i=>if i=m then x else f i):=by
 refine Ck.of ?_;have:Eu (m+1) (fun i=>if i=m then x else f i)=Eu m f++[x]:=by
  unfold Eu;rw[List.range_succ,List.map_append];congr 1
  ·exact List.map_congr_left fun i hi=>by rw[if_neg (by have:=List.mem_range.1 hi;omega)]
  simp
 rw[this];exact h.own
theorem Ck.congr{f g:Nat->Value} (h:Ck w base v m f) (e:∀i,i<m->f i=g i):Ck w base v m g:=by
 rcases h with h|⟨b,cap,arr,h1,h2,h3,h4,h5,h6,h7⟩
 ·exact .inl h
 exact .inr ⟨b,cap,arr,h1,h2,h3,h4,h5,h6,fun i hi=>by rw[<- e i hi];exact h7 i hi⟩
def GS(w:World) (xs:List Value) (m:Nat) (f:Nat->Rat):Prop:=∀i,i<m->∃ng a1 m1 c1 a2 m2 c2,xs[i*3]?=some (.bool ng)/\xs[i*3+1]?=some (.slice a1 m1 c1)/\xs[i*3+2]?=some (.slice a2 m2 c2)/\AN w (.agg #[.bool ng,.slice a1 m1 c1,.slice a2 m2 c2]) (f i)
theorem A8.own{f:Nat->Rat} (h:A8 w base v m f):∃xs,w.ownsRow base 34 3 v m xs/\(∀g,v.ownBlock=some g->BN w g)/\E1 xs/\GS w xs m f:=by
 rcases h with⟨rfl,rfl⟩|⟨g,cap,rfl,h1,h2,h3,h4,arr,h5,h6⟩
 ·exact⟨[],World.ownsRow_nil w base _ 3,fun g hg=>(by cases hg),fun u hu=>(by cases hu),fun i hi=>absurd hi (Nat.not_lt_zero i)⟩
 refine⟨arr.toList.take (m*3),⟨?_,.inr ⟨g,cap,arr,rfl,h1,h5,h2,h3,h6,rfl⟩⟩,fun g' hg=>(by cases hg;exact h4.noDig),(h4.noDig.cells h5).take _,fun i hi=>?_⟩
 ·rw[List.length_take,Array.length_toList,h6];have:=Nat.mul_le_mul_right 3 h2;omega
 obtain⟨ng,a1,m1,c1,a2,m2,c2,k0,k1,k2,k3⟩:=h4.cells i hi;rw[AS h5] at k0 k1 k2;refine⟨ng,a1,m1,c1,a2,m2,c2,?_,?_,?_,k3⟩
 ·rw[List.getElem?_take_of_lt (by omega),Array.getElem?_toList];exact k0
 ·rw[List.getElem?_take_of_lt (by omega),Array.getElem?_toList];exact k1
 rw[List.getElem?_take_of_lt (by omega),Array.getElem?_toList];exact k2
theorem A8.of{xs:List Value} {f:Nat->Rat} (h:w.ownsRow base 34 3 v m xs) (hn:∀g,v.ownBlock=some g->BN w g) (hq:GS w xs m f):A8 w base v m f:=by
 have hcl:=h.1;rcases h.2 with⟨rfl,h0⟩|⟨g,cap,cur,rfl,h1,h2,h3,h4,h5,h6⟩
 ·exact .inl ⟨rfl,h0⟩
 refine .inr ⟨g,cap,rfl,h1,h3,h4,⟨⟨cur,h2,by rw[h5];exact Nat.mul_le_mul_right 3 h3⟩,hn g rfl,fun i hi=>?_⟩,cur,h2,h5⟩;obtain⟨ng,a1,m1,c1,a2,m2,c2,k0,k1,k2,k3⟩:=hq i hi;rw[<- h6] at k0 k1 k2;rw[List.getElem?_take_of_lt (by omega),Array.getElem?_toList] at k0 k1 k2;exact⟨ng,a1,m1,c1,a2,m2,c2,(AS h2 _).trans k0,(AS h2 _).trans k1,(AS h2 _).trans k2,k3⟩
theorem A8.app{xs:List Value} {f:Nat->Rat} {x:BW} {q:Rat} (h:Le w w' base 34 3 v v' m xs x.cells) (hq:GS w xs m f) (hl:xs.length=m*3) (hx:AN w x.v q):A8 w' base v' (m+1) (fun i=>if i=m then q else f i):=by
 refine A8.of h.own h.noDig fun i hi=>?_;by_cases e:i=m
 ·subst e;refine⟨x.ng,x.a1,x.m1,x.c1,x.a2,x.m2,x.c2,?_,?_,?_,?_⟩
  ·rw[List.getElem?_append_right (by omega),show i*3-xs.length=0 by omega];rfl
  ·rw[List.getElem?_append_right (by omega),show i*3+1-xs.length=1 by omega];rfl
  ·rw[List.getElem?_append_right (by omega),show i*3+2-xs.length=2 by omega];rfl
  rw[if_pos rfl];exact hx.past h.rds
 obtain⟨ng,a1,m1,c1,a2,m2,c2,k0,k1,k2,k3⟩:=hq i (by omega);refine⟨ng,a1,m1,c1,a2,m2,c2,?_,?_,?_,?_⟩
 ·rw[List.getElem?_append_left (by omega)];exact k0
 ·rw[List.getElem?_append_left (by omega)];exact k1
 ·rw[List.getElem?_append_left (by omega)];exact k2
 rw[if_neg e];exact k3.past h.rds
theorem DV.app{us:List AZ} {l:AZ} (h:Le w w' base 124 3 v v' us.length (us.flatMap Dn) (Dn l)):DV w' base v' (us++[l]):=by
 refine⟨?_,h.noDig⟩;have:=h.own;rw[List.length_append,List.flatMap_append];simpa using this
end
section
variable {P:Program} {md:Region.Mode} {l:List Oper} {Q:Exit->Act->World->Prop} {S:World->Prop} {k:Nat}
theorem SG(i j:Nat) {oi oj:Oper} {fuel:Nat} {listed:Array Bool} {a:Act} {w:World} (hi:l[i]?=some oi) (hj:l[j]?=some oj) (hr:Region.ready md l.toArray listed=[i,j])
  (h1:∀K':Act->World->Prop,Shut (∀a w,S w->(S w->EC P md l Q S k fuel (listed.setIfInBounds i true) a w)->K' a w)->if Region.wanted oi (yielded l.toArray a.tmps)=true then Oper.wp P oi a w K' Q else K' (a.put oi.dst undef) w)
  (h2:∀K':Act->World->Prop,Shut (∀a w,S w->(S w->EC P md l Q S k fuel (listed.setIfInBounds j true) a w)->K' a w)->if Region.wanted oj (yielded l.toArray a.tmps)=true then Oper.wp P oj a w K' Q else K' (a.put oj.dst undef) w) :
  EC P md l Q S k (fuel+1) listed a w:=by
 refine⟨fun h0=>(by rw[hr] at h0;cases h0),fun q hq=>?_⟩;rw[hr] at hq;rcases List.mem_cons.1 hq with rfl|hq
 ·exact wpOp_step (by simpa using hi) (fun K' hK=>h1 K' (fun a w hS hW=>hK a w ⟨fun _ _=>hS,hW hS⟩))
 obtain rfl:=List.mem_singleton.1 hq;exact wpOp_step (by simpa using hj) (fun K' hK=>h2 K' (fun a w hS hW=>hK a w ⟨fun _ _=>hS,hW hS⟩))
end
structure Bh.All(V:Bh) (m k:Nat):Prop where
 ex:V.ba.ownBlock=some k∨V.fr.ownBlock=some k∨V.be.ownBlock=some k∨V.d.ownBlock=some k∨V.al.ownBlock=some k∨V.u.ownBlock=some k∨V.l.ownBlock=some k∨V.mp=.map (some k)∨∃i,i<m/\k=V.rb i
def Iz(w:World) (base:Nat) (v:Value) (ms:List AZ):Prop:=∃mb es clock,v=.map (some mb)/\base<=mb/\Au w mb=some (.map es clock)/\F3 es ms/\Stamped es clock
structure Bp(w:World) (base:Nat) (V:Bh) (n m1 m2 m3:Nat) (F:AX) (us ls ms:List AZ):Prop where
 ba:BQ w base V.ba m1 F.ba
 fr:BQ w base V.fr n F.fr
 be:A8 w base V.be m2 F.be
 d:A8 w base V.d n F.d
 al:Ck w base V.al m3 (fun i=>.slice (some ⟨V.rb i,0,none⟩) n n)
 aln:∀g,V.al.ownBlock=some g->BN w g
 rows:∀i,i<m3->B9 w (V.rb i) n (F.al i)/\base<=V.rb i
 rr:∀i j,i<m3->j<m3->i≠j->V.rb i≠V.rb j
 rbe:∀i,i<m3->V.be.ownBlock≠some (V.rb i)
 rd:∀i,i<m3->V.d.ownBlock≠some (V.rb i)
 bed:∀g,V.be.ownBlock=some g->V.d.ownBlock≠some g
 bf:∀g,V.ba.ownBlock=some g->V.fr.ownBlock≠some g
 u:DV w base V.u us
 l:DV w base V.l ls
 ul:∀g,V.u.ownBlock=some g->V.l.ownBlock≠some g
 mp:Iz w base V.mp ms
section
variable {w w':World} {base tb n m1 m2 m3:Nat} {V:Bh} {F:AX} {us ls ms:List AZ}
theorem Iz.past{S:Nat->Prop} {v:Value} (h:Iz w base v ms) (hx:AK S w w') (hn:∀k,v=.map (some k)->¬S k):Iz w' base v ms:=by
 obtain⟨mb,es,clock,h1,h2,h3,h4⟩:=h;exact⟨mb,es,clock,h1,h2,(hx.blk (AT h3) (hn mb h1)).trans h3,h4⟩
def DT(w:World) (k:Nat) (T:TypeId):Prop:=∃arr,Au w k=some (.cells arr T (0,0))
theorem DT.ne{k k':Nat} {T T':TypeId} (h:DT w k T) (h':DT w k' T') (hn:T≠T'):k≠k':=by
 obtain⟨a,ha⟩:=h;obtain⟨b,hb⟩:=h';exact ES ha hb hn
theorem DT.neMap{k mb:Nat} {T:TypeId} {es:Array MapEntry} {clock:Nat} (h:DT w k T) (hb:Au w mb=some (.map es clock)):k≠mb:=fun e=>by
 obtain⟨a,ha⟩:=h;rw[e,hb] at ha;cases ha
theorem Bp.rowT(h:Bp w base V n m1 m2 m3 F us ls ms) {i:Nat} (hi:i<m3):DT w (V.rb i) 34:=by
 obtain⟨arr,ha,_⟩:=(h.rows i hi).1.row;exact⟨arr,ha⟩
theorem Bp.past{S:Nat->Prop} (h:Bp w base V n m1 m2 m3 F us ls ms) (hx:AK S w w') (hr:∀u l,Ad w u l->Ad w' u l) (hn:∀k,V.All m3 k->¬S k):Bp w' base V n m1 m2 m3 F us ls ms where
 ba:=h.ba.past hx fun g hg=>hn g ⟨.inl hg⟩
 fr:=h.fr.past hx fun g hg=>hn g ⟨.inr (.inl hg)⟩
 be:=h.be.past hx (fun g hg=>hn g ⟨.inr (.inr (.inl hg))⟩) hr
 d:=h.d.past hx (fun g hg=>hn g ⟨.inr (.inr (.inr (.inl hg)))⟩) hr
 al:=h.al.past hx fun g hg=>hn g ⟨.inr (.inr (.inr (.inr (.inl hg))))⟩
 aln:=fun g hg i d hc=>h.aln g hg i d (by
  obtain⟨arr,ha⟩:=h.al.typ g hg;rw[<- hx.cell (p:=⟨g,i,none⟩) (AT ha) (hn g ⟨.inr (.inr (.inr (.inr (.inl hg))))⟩)];exact hc)
 rows:=fun i hi=>⟨(h.rows i hi).1.past hx (hn _ ⟨.inr (.inr (.inr (.inr (.inr (.inr (.inr (.inr ⟨i,hi,rfl⟩)))))))⟩) hr,(h.rows i hi).2⟩
 rr:=h.rr
 rbe:=h.rbe
 rd:=h.rd
 bed:=h.bed
 bf:=h.bf
 u:=h.u.past hx fun g hg=>hn g ⟨.inr (.inr (.inr (.inr (.inr (.inl hg)))))⟩
 l:=h.l.past hx fun g hg=>hn g ⟨.inr (.inr (.inr (.inr (.inr (.inr (.inl hg))))))⟩
 ul:=h.ul
 mp:=h.mp.past hx fun g hg=>hn g ⟨.inr (.inr (.inr (.inr (.inr (.inr (.inr (.inl hg)))))))⟩
theorem Bp.keep(h:Bp w base V n m1 m2 m3 F us ls ms) (hx:XF w w'):Bp w' base V n m1 m2 m3 F us ls ms:=h.past hx (fun _ _ hr=>hr.keep hx) (fun _ _=>id)
theorem Bp.old(h:Bp w base V n m1 m2 m3 F us ls ms) {k:Nat} (hk:V.All m3 k):k<w.heap.size:=by
 rcases hk.ex with hk|hk|hk|hk|hk|hk|hk|hk|⟨i,hi,rfl⟩
 ·obtain⟨_,h1⟩:=h.ba.typ k hk;exact AT h1
 ·obtain⟨_,h1⟩:=h.fr.typ k hk;exact AT h1
 ·obtain⟨_,h1⟩:=h.be.typ k hk;exact AT h1
 ·obtain⟨_,h1⟩:=h.d.typ k hk;exact AT h1
 ·obtain⟨_,h1⟩:=h.al.typ k hk;exact AT h1
 ·exact (h.u.own.lt k hk).2
 ·exact (h.l.own.lt k hk).2
 ·obtain⟨mb,es,clock,h1,_,h3,_⟩:=h.mp;rw[h1] at hk;cases hk;exact AT h3
 exact (h.rows i hi).1.lt
theorem Bp.low(h:Bp w base V n m1 m2 m3 F us ls ms) {k:Nat} (hk:V.All m3 k):base<=k:=by
 rcases hk.ex with hk|hk|hk|hk|hk|hk|hk|hk|⟨i,hi,rfl⟩
 ·exact h.ba.low k hk
 ·exact h.fr.low k hk
 ·exact h.be.low k hk
 ·exact h.d.low k hk
 ·rcases h.al with⟨e,_⟩|⟨g,cap,arr,e,h1,_⟩
  ·rw[e] at hk;cases hk
  rw[e] at hk;cases hk;exact h1
 ·exact (h.u.own.lt k hk).1
 ·exact (h.l.own.lt k hk).1
 ·obtain⟨mb,es,clock,h1,h2,_⟩:=h.mp;rw[h1] at hk;cases hk;exact h2
 exact (h.rows i hi).2
theorem Bp.ne(h:Bp w base V n m1 m2 m3 F us ls ms) {b:Nat} {T:TypeId} (hb:DT w b T) (h1:T≠3) (h2:T≠34) (h3:T≠35) (h4:T≠124) {k:Nat} (hk:V.All m3 k):k≠b:=by
 rcases hk.ex with hk|hk|hk|hk|hk|hk|hk|hk|⟨i,hi,rfl⟩
 ·exact DT.ne (h.ba.typ k hk) hb (Ne.symm h1)
 ·exact DT.ne (h.fr.typ k hk) hb (Ne.symm h1)
 ·exact DT.ne (h.be.typ k hk) hb (Ne.symm h2)
 ·exact DT.ne (h.d.typ k hk) hb (Ne.symm h2)
 ·exact DT.ne (h.al.typ k hk) hb (Ne.symm h3)
 ·exact DT.ne (h.u.typ k hk) hb (Ne.symm h4)
 ·exact DT.ne (h.l.typ k hk) hb (Ne.symm h4)
 ·obtain⟨mb,es,clock,h5,_,h6,_⟩:=h.mp;rw[h5] at hk;cases hk;exact (hb.neMap h6).symm
 exact DT.ne (h.rowT hi) hb (Ne.symm h2)
theorem Bp.box(h:Bp w base V n m1 m2 m3 F us ls ms) {arr:Array Value} (hb:Au w tb=some (.cells arr 122 (0,0))) (hnd:BN w tb) (i:Nat) (u:Value):Bp (w.setCell ⟨tb,i,none⟩ u) base V n m1 m2 m3 F us ls ms/\(∀v l,Ad w v l->Ad (w.setCell ⟨tb,i,none⟩ u) v l)/\AK (fun k=>k=tb) w (w.setCell ⟨tb,i,none⟩ u):=by
 have hx:AK (fun k=>k=tb) w (w.setCell ⟨tb,i,none⟩ u):=(AK.refl (fun k=>k=tb) w).setCell (p:=⟨tb,i,none⟩) _ (fun _=>rfl);have hr:∀v l,Ad w v l->Ad (w.setCell ⟨tb,i,none⟩ u) v l:=fun v l hv=>hv.past hx (fun k _ e=>by subst e;exact hnd);exact⟨h.past hx hr (fun k hk=>h.ne ⟨arr,hb⟩ (by decide) (by decide) (by decide) (by decide) hk),hr,hx⟩
section
variable (h:Bp w base V n m1 m2 m3 F us ls ms)
include h
theorem Bp.appBa{v':Value} {x:Nat} (ha:Le w w' base 3 1 V.ba v' m1 (Ex m1 F.ba) [.int .i64 x]):Bp w' base { V with ba:=v' } n (m1+1) m2 m3 { F with ba:=fun i=>if i=m1 then x else F.ba i } us ls ms:=by
 have ne:∀{k:Nat} {T:TypeId},DT w k T->T≠3->¬V.ba.ownBlock=some k:=fun hk hT e=>DT.ne (h.ba.typ _ e) hk (Ne.symm hT) rfl;exact {
     ba:=BQ.app ha
     fr:=h.fr.past ha.ext fun g hg e=>h.bf g e hg
     be:=h.be.past ha.ext (fun g hg=>ne (h.be.typ g hg) (by decide)) ha.rds
     d:=h.d.past ha.ext (fun g hg=>ne (h.d.typ g hg) (by decide)) ha.rds
     al:=h.al.past ha.ext fun g hg=>ne (h.al.typ g hg) (by decide)
     aln:=fun g hg i d hc=>h.aln g hg i d (by
      obtain⟨arr,ha2⟩:=h.al.typ g hg;rw[<- ha.ext.cell (p:=⟨g,i,none⟩) (AT ha2) (ne ⟨arr,ha2⟩ (by decide))];exact hc)
     rows:=fun i hi=>⟨(h.rows i hi).1.past ha.ext (ne (h.rowT hi) (by decide)) ha.rds,(h.rows i hi).2⟩
     rr:=h.rr
     rbe:=h.rbe
     rd:=h.rd
     bed:=h.bed
     bf:=fun g hg e=>by
      rcases ha.new g hg with e2|e2
      ·exact h.bf g e2 e
      obtain⟨arr,ha2⟩:=h.fr.typ g e;have:=AT ha2;omega
     u:=h.u.past ha.ext fun g hg=>ne (h.u.typ g hg) (by decide)
     l:=h.l.past ha.ext fun g hg=>ne (h.l.typ g hg) (by decide)
     ul:=h.ul
     mp:=h.mp.past ha.ext fun k hk e=>by
      obtain⟨mb,es,clock,h5,_,h6,_⟩:=h.mp;rw[h5] at hk;cases hk;exact DT.neMap (h.ba.typ _ e) h6 rfl }
theorem Bp.appU{v':Value} {x:AZ} (ha:Le w w' base 124 3 V.u v' us.length (us.flatMap Dn) (Dn x)):Bp w' base { V with u:=v' } n m1 m2 m3 F (us++[x]) ls ms:=by
 have ne:∀{k:Nat} {T:TypeId},DT w k T->T≠124->¬V.u.ownBlock=some k:=fun hk hT e=>DT.ne (h.u.typ _ e) hk (Ne.symm hT) rfl;exact {
     ba:=h.ba.past ha.ext fun g hg=>ne (h.ba.typ g hg) (by decide)
     fr:=h.fr.past ha.ext fun g hg=>ne (h.fr.typ g hg) (by decide)
     be:=h.be.past ha.ext (fun g hg=>ne (h.be.typ g hg) (by decide)) ha.rds
     d:=h.d.past ha.ext (fun g hg=>ne (h.d.typ g hg) (by decide)) ha.rds
     al:=h.al.past ha.ext fun g hg=>ne (h.al.typ g hg) (by decide)
     aln:=fun g hg i d hc=>h.aln g hg i d (by
      obtain⟨arr,ha2⟩:=h.al.typ g hg;rw[<- ha.ext.cell (p:=⟨g,i,none⟩) (AT ha2) (ne ⟨arr,ha2⟩ (by decide))];exact hc)
     rows:=fun i hi=>⟨(h.rows i hi).1.past ha.ext (ne (h.rowT hi) (by decide)) ha.rds,(h.rows i hi).2⟩
     rr:=h.rr
     rbe:=h.rbe
     rd:=h.rd
     bed:=h.bed
     bf:=h.bf
     u:=DV.app ha
     l:=h.l.past ha.ext fun g hg e=>h.ul g e hg
     ul:=fun g hg e=>by
      rcases ha.new g hg with e2|e2
      ·exact h.ul g e2 e
      have:=(h.l.own.lt g e).2;omega
     mp:=h.mp.past ha.ext fun k hk e=>by
      obtain⟨mb,es,clock,h5,_,h6,_⟩:=h.mp;rw[h5] at hk;cases hk;exact DT.neMap (h.u.typ _ e) h6 rfl }
theorem Bp.appBe{v':Value} {x:BW} {q:Rat} {xs:List Value} (ha:Le w w' base 34 3 V.be v' m2 xs x.cells) (hq:GS w xs m2 F.be) (hl:xs.length=m2*3) (hx:AN w x.v q):Bp w' base { V with be:=v' } n m1 (m2+1) m3 { F with be:=fun i=>if i=m2 then q else F.be i } us ls ms:=by
 have ne:∀{k:Nat} {T:TypeId},DT w k T->T≠34->¬V.be.ownBlock=some k:=fun hk hT e=>DT.ne (h.be.typ _ e) hk (Ne.symm hT) rfl;exact {
     ba:=h.ba.past ha.ext fun g hg=>ne (h.ba.typ g hg) (by decide)
     fr:=h.fr.past ha.ext fun g hg=>ne (h.fr.typ g hg) (by decide)
     be:=A8.app ha hq hl hx
     d:=h.d.past ha.ext (fun g hg e=>h.bed g e hg) ha.rds
     al:=h.al.past ha.ext fun g hg=>ne (h.al.typ g hg) (by decide)
     aln:=fun g hg i d hc=>h.aln g hg i d (by
      obtain⟨arr,ha2⟩:=h.al.typ g hg;rw[<- ha.ext.cell (p:=⟨g,i,none⟩) (AT ha2) (ne ⟨arr,ha2⟩ (by decide))];exact hc)
     rows:=fun i hi=>⟨(h.rows i hi).1.past ha.ext (h.rbe i hi) ha.rds,(h.rows i hi).2⟩
     rr:=h.rr
     rbe:=fun i hi e=>by
      rcases ha.new _ e with e2|e2
      ·exact h.rbe i hi e2
      have e3:w.heap.size<=V.rb i:=e2;have:=(h.rows i hi).1.lt;omega
     rd:=h.rd
     bed:=fun g hg e=>by
      rcases ha.new g hg with e2|e2
      ·exact h.bed g e2 e
      obtain⟨arr,ha2⟩:=h.d.typ g e;have:=AT ha2;omega
     bf:=h.bf
     u:=h.u.past ha.ext fun g hg=>ne (h.u.typ g hg) (by decide)
     l:=h.l.past ha.ext fun g hg=>ne (h.l.typ g hg) (by decide)
     ul:=h.ul
     mp:=h.mp.past ha.ext fun k hk e=>by
      obtain⟨mb,es,clock,h5,_,h6,_⟩:=h.mp;rw[h5] at hk;cases hk;exact DT.neMap (h.be.typ _ e) h6 rfl }
theorem Bp.appAl{v':Value} {nb:Nat} {f:Nat->Rat} (ha:Le w w' base 35 1 V.al v' m3 (Eu m3 (fun i=>.slice (some ⟨V.rb i,0,none⟩) n n)) [.slice (some ⟨nb,0,none⟩) n n]) (hrow:B9 w nb n f) (hlow:base<=nb) (hrb:∀i,i<m3->V.rb i≠nb) (hbe:V.be.ownBlock≠some nb) (hd:V.d.ownBlock≠some nb) :
  Bp w' base { V with al:=v',rb:=fun i=>if i=m3 then nb else V.rb i } n m1 m2 (m3+1) { F with al:=fun i=>if i=m3 then f else F.al i } us ls ms:=by
 have ne:∀{k:Nat} {T:TypeId},DT w k T->T≠35->¬V.al.ownBlock=some k:=fun hk hT e=>DT.ne (h.al.typ _ e) hk (Ne.symm hT) rfl;have hnb:DT w nb 34:=by
  obtain⟨arr,h1,_⟩:=hrow.row;exact⟨arr,h1⟩
 exact {
     ba:=h.ba.past ha.ext fun g hg=>ne (h.ba.typ g hg) (by decide)
     fr:=h.fr.past ha.ext fun g hg=>ne (h.fr.typ g hg) (by decide)
     be:=h.be.past ha.ext (fun g hg=>ne (h.be.typ g hg) (by decide)) ha.rds
     d:=h.d.past ha.ext (fun g hg=>ne (h.d.typ g hg) (by decide)) ha.rds
     al:=(Ck.app ha).congr (fun i hi=>by
      dsimp only;by_cases e:i=m3
      ·rw[if_pos e,if_pos e]
      rw[if_neg e,if_neg e])
     aln:=ha.noDig
     rows:=fun i hi=>by
      dsimp only;by_cases e:i=m3
      ·rw[if_pos e,if_pos e];exact⟨hrow.past ha.ext (ne hnb (by decide)) ha.rds,hlow⟩
      rw[if_neg e,if_neg e];exact⟨(h.rows i (by omega)).1.past ha.ext (ne (h.rowT (by omega)) (by decide)) ha.rds,(h.rows i (by omega)).2⟩
     rr:=fun i j hi hj hne=>by
      dsimp only;by_cases e:i=m3
      ·rw[if_pos e,if_neg (by omega)];exact (hrb j (by omega)).symm
      rw[if_neg e];by_cases e2:j=m3
      ·rw[if_pos e2];exact hrb i (by omega)
      rw[if_neg e2];exact h.rr i j (by omega) (by omega) hne
     rbe:=fun i hi=>by
      dsimp only;by_cases e:i=m3
      ·rw[if_pos e];exact hbe
      rw[if_neg e];exact h.rbe i (by omega)
     rd:=fun i hi=>by
      dsimp only;by_cases e:i=m3
      ·rw[if_pos e];exact hd
      rw[if_neg e];exact h.rd i (by omega)
     bed:=h.bed
     bf:=h.bf
     u:=h.u.past ha.ext fun g hg=>ne (h.u.typ g hg) (by decide)
     l:=h.l.past ha.ext fun g hg=>ne (h.l.typ g hg) (by decide)
     ul:=h.ul
     mp:=h.mp.past ha.ext fun k hk e=>by
      obtain⟨mb,es,clock,h5,_,h6,_⟩:=h.mp;rw[h5] at hk;cases hk;exact DT.neMap (h.al.typ _ e) h6 rfl }
end
theorem Bp.setMap(h:Bp w base V n m1 m2 m3 F us ls ms) {mb:Nat} (hv:V.mp=.map (some mb)) {ms':List AZ} (hx:AK (fun k=>k=mb) w w') (hnd:BN w mb) (hm:Iz w' base V.mp ms'):Bp w' base V n m1 m2 m3 F us ls ms':=by
 obtain⟨mb',es,clock,h5,_,h6,_⟩:=h.mp;rw[hv] at h5;cases h5;have hr:∀u l,Ad w u l->Ad w' u l:=fun u l hu=>hu.past hx (fun k _ e=>by subst e;exact hnd);have ne:∀{k:Nat} {T:TypeId},DT w k T->¬k=mb:=fun hk=>hk.neMap h6;exact {
     ba:=h.ba.past hx fun g hg=>ne (h.ba.typ g hg)
     fr:=h.fr.past hx fun g hg=>ne (h.fr.typ g hg)
     be:=h.be.past hx (fun g hg=>ne (h.be.typ g hg)) hr
     d:=h.d.past hx (fun g hg=>ne (h.d.typ g hg)) hr
     al:=h.al.past hx fun g hg=>ne (h.al.typ g hg)
     aln:=fun g hg i d hc=>h.aln g hg i d (by
      obtain⟨arr,ha2⟩:=h.al.typ g hg;rw[<- hx.cell (p:=⟨g,i,none⟩) (AT ha2) (ne ⟨arr,ha2⟩)];exact hc)
     rows:=fun i hi=>⟨(h.rows i hi).1.past hx (ne (h.rowT hi)) hr,(h.rows i hi).2⟩
     rr:=h.rr
     rbe:=h.rbe
     rd:=h.rd
     bed:=h.bed
     bf:=h.bf
     u:=h.u.past hx fun g hg=>ne (h.u.typ g hg)
     l:=h.l.past hx fun g hg=>ne (h.l.typ g hg)
     ul:=h.ul
     mp:=hm }
end
def Cd(p:AH) (us:List AZ) (v:Nat) (q:Rat) (r:Nat):Rat:=if v<p.vars.length then 0 else if (us.getD (v-p.vars.length) BB).row=(r:Int) then (if (us.getD (v-p.vars.length) BB).tur then q else -q) else 0
def Cv(p:AH) (us:List AZ) (f:Nat->Nat) (g:Nat->Rat):Nat->Nat->Rat
 | 0,_=>0
 | k+1,r=>Cv p us f g k r+Cd p us (f k) (g k) r
theorem Sh{p:AH} {us:List AZ} {v:Nat} {q:Rat} {L:Nat} (h:Sz q L) (h1:1<=L) (r:Nat):Sz (Cd p us v q r) L:=by
 unfold Cd;split
 ·exact Sz.zero.mono h1
 split
 ·split
  ·exact h
  exact h.neg
 exact Sz.zero.mono h1
theorem Id{p:AH} {us:List AZ} {f:Nat->Nat} {g:Nat->Rat} {L:Nat} (h1:1<=L) (r:Nat):∀{k:Nat},(∀i,i<k->Sz (g i) L)->Sz (Cv p us f g k r) (1+k*(L+1))
 | 0,_=>by rw[Nat.zero_mul];exact Sz.zero
 | k+1,h=>((Id h1 r (k:=k) (fun i hi=>h i (by omega))).add (Sh (h k (by omega)) h1 r)).mono (by rw[Nat.add_mul k 1];omega)
theorem Jx(w:World) (base tb m L:Nat) (uv vv wv:Value) (p:AH) (us:List AZ) (f:Nat->Nat) (g:Nat->Rat) (h:Hf w tb p) (hu2:w.cell? ⟨tb,2,none⟩=some uv) (hu:DV w base uv us) (hok:EY p us) (hv:Mz w vv m f) (hw:RV w wv m g)
  (hf:∀k,k<m->f k<p.vars.length+us.length) (hg:∀k,k<m->Sz (g k) L) (h1L:1<=L) (hL:m*(L+1)+L+10<=4000000) (hn:p.rows.length<=1000000) (hun:us.length<=1000000) :
  Calls prog 89 #[.pointer (some ⟨tb,0,none⟩),vv,wv] w (Gu w p.rows.length (Cv p us f g m)):=by
 obtain⟨w1,hmk,hA,hx1⟩:=A7 w p.rows.length hn;obtain⟨B,hB⟩:=bN w.heap.size;have hBw:w.heap.size<=B:=Nat.le_of_eq hB;rw[hB] at hmk hA;obtain⟨uo,uc,rfl⟩:=hu.shape;obtain⟨va,vcap,rfl,hvm,hvc⟩:=hv;obtain⟨wa,wcap,rfl,hwm,hwc⟩:=hw;obtain⟨vo,vc,ro,rc,h1,h2,-,-,h5,h6⟩:=h.ex;have HA:=bH (bI hA hx1);have HC:=bH (bI hvc (bI hwc (bI hu (bI hok (bI hf (bI hg (bI h1 hu2)))))));have HSg:=bH (fun W u q (hu:AN W u q) (hz:Sz q L)=>Bt W u q L (hu.reads hz) (by omega));clear hA hx1 hvc hwc hu hok hf hg hu2 h1 h;obtain⟨m2,hm2⟩:=bN p.rows.length;have HM2:=bH hm2;rw[hm2] at HA hmk h2 h6 hn ⊢;clear hm2;obtain⟨n,hn'⟩:=bN p.vars.length;have HN:=bH hn';rw[hn'] at h5 HC;clear hn';obtain⟨un,hun'⟩:=bN us.length;have HUn:=bH hun';rw[hun'] at HC hun;clear hun';go_enter func89,ntmps89;go_wp2_with fail;go_loopg [20,8,9,10] m (fun gg v20 v8 v9 v10 wr=>∃i:Nat,i<=m/\gg=m-i/\v20=.int .i64 i/\BT wr B m2 (Cv p us f g i)/\XF w wr);case atStart=>exact⟨0,Nat.zero_le _,rfl,rfl,HA.o.1,HA.o.2⟩
 case round =>
  clear HA;obtain⟨i,hi,rfl,rfl,harr,hx⟩:=hrel;have HX:=bH (bI harr hx);clear harr hx;by_cases hin:i<m
  ·have i0:(i:Int)<(m:Int):=(by omega);have i1:(0:Int)<=(i:Int):=(by omega);obtain⟨vb,voff,rfl,hcv⟩:=HC.o.1 i hin;obtain⟨wb,woff,rfl,ng,a1,m1,c1,a2,m2',c2,e0,e1,e2,hq⟩:=HC.o.2.1 i hin;have hfi:=HC.o.2.2.2.2.1 i hin;have hgz:=HC.o.2.2.2.2.2.1 i hin;have k1:=AB HC.o.2.2.2.2.2.2.1 HX.o.2;have k2:=AB HC.o.2.2.2.2.2.2.2 HX.o.2;replace hcv:=AB hcv HX.o.2;replace e0:=AB e0 HX.o.2;replace e1:=AB e1 HX.o.2;replace e2:=AB e2 HX.o.2;have HQ:=bH (bI (hq.keep HX.o.2) hgz);have HMs:=bH (show ∀r,Cd p us (f i) (g i) r=if f i<n then 0 else if (us.getD (f i-n) BB).row=(r:Int) then (if (us.getD (f i-n) BB).tur then g i else -(g i)) else 0 from fun r=>by
    unfold Cd;rw[HN.o])
   have HNx:=bH (show ∀r,Cv p us f g (i+1) r=Cv p us f g i r+Cd p us (f i) (g i) r from fun _=>rfl);clear hq hgz;obtain⟨v,hvv⟩:=bN (f i);have HVv:=bH hvv;rw[hvv] at hcv hfi HMs;clear hvv;by_cases hv:v<n
   ·have v0:(v:Int)<(n:Int):=(by omega);have HP:=bH (bI (HX.o.1.congr (g:=Cv p us f g (i+1)) (fun r _=>by
     rw[HNx.o,HVv.o,HMs.o,if_pos hv];grind)) HX.o.2)
    clear HX e0 e1 e2;go_wp2;go_roundg (m-(i+1));case measure=>omega
    case rel=>exact⟨i+1,by omega,rfl,by go_num,HP.o⟩
   have v0:¬(v:Int)<(n:Int):=(by omega);have HSg1:=bH (HSg.o wr _ _ HQ.o.1 HQ.o.2);have Hsz:=bH (By (g i));go_upto_if 40 with (go_at_call 151;refine HSg1.o.mono ?_;rintro r5 w5 ⟨rfl,hx5⟩);replace k1:=AB k1 hx5;replace k2:=AB k2 hx5;replace e0:=AB e0 hx5;replace e1:=AB e1 hx5;replace e2:=AB e2 hx5;replace HX:=bH (bI (HX.o.1.keep hx5) (HX.o.2.trans hx5));replace HQ:=bH (bI (HQ.o.1.keep hx5) HQ.o.2);clear hx5 HSg1 hcv;generalize (g i).num.sign=sg at *;by_cases hsg:sg=0
   ·have HP:=bH (bI (HX.o.1.congr (g:=Cv p us f g (i+1)) (fun r _=>by
     rw[HNx.o,HVv.o,HMs.o,Hsz.o.1 hsg];split
     ·grind
     split
     ·split<;>grind
     grind)) HX.o.2)
    subst hsg;clear HX e0 e1 e2;go_wp2;go_roundg (m-(i+1));case measure=>omega
    case rel=>exact⟨i+1,by omega,rfl,by go_num,HP.o⟩
   have hs1:(sg == 0)=false:=(by simpa using hsg);have hs2:(sg != 0)=true:=(by simpa using hsg);obtain⟨j,rfl⟩:∃j,v=n+j:=⟨v-n,by omega⟩;have hj:j<un:=(by omega);rw[show n+j-n=j from by omega] at HMs;have j0:(0:Int)<=(j:Int):=(by omega);have j1:(j:Int)<(un:Int):=(by omega);have j2:((n+j:Nat):Int)-(n:Int)=(j:Int):=(by omega);obtain⟨ug,ucap,hue,u0,u1,u2⟩:=(HC.o.2.2.1.keep HX.o.2).at (show j<us.length by rw[HUn.o];exact hj);cases hue;have hlok:=HC.o.2.2.2.1 j (by rw[HUn.o];exact hj);generalize us.getD j BB=l at *;obtain⟨row,var,tur⟩:=l;have hw6:IntKind.i64.wrap ((n:Int)+(j:Int)-(n:Int))=(j:Int):=(by rw[show (n:Int)+(j:Int)-(n:Int)=(j:Int) by omega];exact IntWalk.i64_in _ (by omega));go_upto_region 6 with fail;replace k1:=cq k1;replace k2:=cq k2;replace u0:=cq u0;replace u1:=cq u1;replace u2:=cq u2;have hb6:Au ((w5.alloc (.cells #[.int .i64 row,.int .i64 var,.bool tur] 124)).drew) w5.heap.size=some (.cells #[.int .i64 row,.int .i64 var,.bool tur] 124 (0,0)):=AD w5 _;have hx6:XF w5 ((w5.alloc (.cells #[.int .i64 row,.int .i64 var,.bool tur] 124)).drew):=((AK.refl (fun _=>False) w5).alloc _).drew;have g0:=AA hb6 0 rfl;have g2:=AA hb6 2 rfl;refine wp_region_held_drew (S:=(XF w5)) (by kernel_rfl) ((AK.refl _ w5).drew) (fun hHeld=>?_);refine ht 0 (h:=(ht 1 (h:=(ht 2 (h:=(ht 3 (h:=(ht 4 (h:=(ht 5 (h:=(ht 6 (h:=(ht 7 (h:=(ht 8 (h:=(ht 9 (h:=(ht 10 (h:=(ht 11 (h:=(ht 12 (h:=(ht 13 (h:=?_)))))))))))))))))))))))))));(try go_frame);refine Aa 14 (h:=fun K hK=>?_);go_simp;refine hK.o _ _ (hHeld.alloc _) (fun hHeld=>?_);clear hK K;(try go_frame);refine Aa 15 (h:=fun K hK=>?_);go_simp;refine hK.o _ _ ((AK.refl (fun _=>False) w5).drew.alloc _) (fun hHeld=>?_);clear hK K;(try go_frame);refine wpAnyH_done (by kernel_rfl) ?_ _;have HX8:=bH (HX.o.2.trans hx6);have HB:=bH (HX.o.1.keep hx6);have hq8:=HQ.o.1.keep hx6;replace e0:=AB e0 hx6;replace e1:=AB e1 hx6;replace e2:=AB e2 hx6;go_upto_region 8 with fail;clear k1 k2 u0 u1 u2 hb6 hx6 hHeld hw6;generalize (w5.alloc (.cells #[.int .i64 row,.int .i64 var,.bool tur] 124)).drew=w8 at *;generalize w5.heap.size=lb at *;rcases hlok with⟨y1,_⟩|⟨y1,y2,_⟩
   ·have y1:row = -1:=y1;subst y1;have HP:=bH (bI (HB.o.congr (g:=Cv p us f g (i+1)) (fun r _=>by
     rw[HNx.o,HVv.o,HMs.o,if_neg hv,if_neg (show ¬(-1:Int)=(r:Int) by omega)];grind)) HX8.o)
    clear HX HB e0 e1 e2 hq8;go_wp2;go_roundg (m-(i+1));case measure=>omega
    case rel=>exact⟨i+1,by omega,rfl,by go_num,HP.o⟩
   have y1:0<=row:=y1;have y2:row.toNat<p.rows.length:=y2;obtain⟨ri,rfl⟩:∃ri:Nat,row=ri:=⟨row.toNat,by omega⟩;have r1:ri<m2:=(by have:=HM2.o;have y2:ri<p.rows.length:=y2;omega);have r2:¬((ri:Int)<0):=(by omega);have r3:(0:Int)<=(ri:Int):=(by omega);have r4:(ri:Int)<(m2:Int):=(by omega);clear y1 y2;replace HMs:=bH (show ∀r,Cd p us (f i) (g i) r=if ri=r then (if tur then g i else -(g i)) else 0 from fun r=>by
    rw[HVv.o,HMs.o r,if_neg hv];by_cases e:ri=r
    ·rw[if_pos e,if_pos (by show (ri:Int)=(r:Int);omega)]
    rw[if_neg e,if_neg (by show ¬(ri:Int)=(r:Int);omega)])
   obtain⟨on,oa,ol,oc,oa',ol',oc',o0,o1,o2,hoq⟩:=HB.o.cells ri r1;have hmz:=Id (p:=p) (us:=us) (f:=f) (g:=g) h1L ri (k:=i) (fun k hk=>HC.o.2.2.2.2.2.1 k (show k<m by omega));have hmi:=Nat.mul_le_mul_right (L+1) (Nat.le_of_lt hin);have hgz:=HQ.o.2;cases tur with
   | true =>
    have HAd:=bH (fun W (hW:XF w8 W)=>GW W _ _ (Cv p us f g i ri) (g i) (1+i*(L+1)+L) ((hoq.keep hW).reads (hmz.mono (by omega))) ((hq8.keep hW).reads (hgz.mono (by omega))) (by omega) (by omega));clear hoq hmz hmi hgz hq8;replace e0:=cq e0;replace e1:=cq e1;replace e2:=cq e2;replace o0:=cq o0;replace o1:=cq o1;replace o2:=cq o2;go_upto_region 10 with fail;replace g0:=cq g0;refine A4 14 (XF w8) (by kernel_rfl) ((AK.refl _ w8).drew) (fun hHeld=>?_);refine et 0 (h:=(et 1 (h:=(et 2 (h:=(et 3 (h:=(et 4 (h:=(et 5 (h:=(et 6 (h:=(et 7 (h:=(et 8 (h:=(et 9 (h:=(et 10 (h:=(et 11 (h:=?_)))))))))))))))))))))));(try go_frame);refine GY 12 (h:=fun K hK=>?_);(go_simp;go_at_call 160;(with_reducible refine (HAd.o _ hHeld).mono ?_);rintro q1 w11 ⟨v11,rfl,h11,hx11⟩;have hX1:=hHeld.trans hx11;obtain⟨n11,a11,l11,c11,a11',l11',c11',rfl⟩:=h11.shape);refine hK.o _ _ (hX1) (fun hHeld=>?_);clear hK K;(try go_frame);refine et 13 (h:=?_);(try go_frame);have HT2:=bH (HB.o.keep hX1);have fz0:=HT2.o.free (ri*3);have fz1:=HT2.o.free (ri*3+1);have fz2:=HT2.o.free (ri*3+2);have t0:=o0 _ hX1;have t1:=o1 _ hX1;have t2:=o2 _ hX1;refine BJ rfl (by kernel_rfl) (fun K hK=>?_);go_simp;refine hK.o _ _ ?_;clear hK K;(try go_frame);refine BL (by kernel_rfl) ?_ _;obtain⟨p1,p2,p3⟩:=HT2.o.put (show ri<m2 from r1) h11;have HP:=bH (bI (p1.congr (f:=_) (g:=Cv p us f g (i+1)) (fun r _=>by
     show (if r=ri then _ else _)=Cv p us f g i r+Cd p us (f i) (g i) r;rw[HMs.o r];by_cases e:r=ri
     ·rw[if_pos e,if_pos e.symm,e];rfl
     rw[if_neg e,if_neg (Ne.symm e)];grind)) ((HX8.o.trans hX1).own p2 (fun k e=>by omega)))
    clear p1 p2 p3 HT2 fz0 fz1 fz2 t0 t1 t2 o0 o1 o2 e0 e1 e2 h11 hx11 hX1 hHeld HAd HB HX8 g0 g2;generalize ((w11.setCell ⟨B,ri*3,none⟩ (.bool n11)).setCell ⟨B,ri*3+1,none⟩ (.slice a11 l11 c11)).setCell ⟨B,ri*3+2,none⟩ (.slice a11' l11' c11')=w9 at *;go_wp2;go_roundg (m-(i+1));case measure=>omega
    case rel=>exact⟨i+1,by omega,rfl,by go_num,HP.o⟩
   | false =>
    have HAd:=bH (fun W (hW:XF w8 W)=>Fh W _ _ (Cv p us f g i ri) (g i) (1+i*(L+1)+L) ((hoq.keep hW).reads (hmz.mono (by omega))) ((hq8.keep hW).reads (hgz.mono (by omega))) (by omega) (by omega));clear hoq hmz hmi hgz hq8;replace e0:=cq e0;replace e1:=cq e1;replace e2:=cq e2;replace o0:=cq o0;replace o1:=cq o1;replace o2:=cq o2;go_upto_region 7 with fail;replace g0:=cq g0;refine A4 14 (XF w8) (by kernel_rfl) ((AK.refl _ w8).drew) (fun hHeld=>?_);refine et 0 (h:=(et 1 (h:=(et 2 (h:=(et 3 (h:=(et 4 (h:=(et 5 (h:=(et 6 (h:=(et 7 (h:=(et 8 (h:=(et 9 (h:=(et 10 (h:=(et 11 (h:=?_)))))))))))))))))))))));(try go_frame);refine GY 12 (h:=fun K hK=>?_);(go_simp;go_at_call 161;(with_reducible refine (HAd.o _ hHeld).mono ?_);rintro q1 w11 ⟨v11,rfl,h11,hx11⟩;have hX1:=hHeld.trans hx11;obtain⟨n11,a11,l11,c11,a11',l11',c11',rfl⟩:=h11.shape);refine hK.o _ _ (hX1) (fun hHeld=>?_);clear hK K;(try go_frame);refine et 13 (h:=?_);(try go_frame);have HT2:=bH (HB.o.keep hX1);have fz0:=HT2.o.free (ri*3);have fz1:=HT2.o.free (ri*3+1);have fz2:=HT2.o.free (ri*3+2);have t0:=o0 _ hX1;have t1:=o1 _ hX1;have t2:=o2 _ hX1;refine BJ rfl (by kernel_rfl) (fun K hK=>?_);go_simp;refine hK.o _ _ ?_;clear hK K;(try go_frame);refine BL (by kernel_rfl) ?_ _;obtain⟨p1,p2,p3⟩:=HT2.o.put (show ri<m2 from r1) h11;have HP:=bH (bI (p1.congr (f:=_) (g:=Cv p us f g (i+1)) (fun r _=>by
     show (if r=ri then _ else _)=Cv p us f g i r+Cd p us (f i) (g i) r;rw[HMs.o r];by_cases e:r=ri
     ·rw[if_pos e,if_pos e.symm,e];exact Rat.sub_eq_add_neg _ _
     rw[if_neg e,if_neg (Ne.symm e)];grind)) ((HX8.o.trans hX1).own p2 (fun k e=>by omega)))
    clear p1 p2 p3 HT2 fz0 fz1 fz2 t0 t1 t2 o0 o1 o2 e0 e1 e2 h11 hx11 hX1 hHeld HAd HB HX8 g0 g2;generalize ((w11.setCell ⟨B,ri*3,none⟩ (.bool n11)).setCell ⟨B,ri*3+1,none⟩ (.slice a11 l11 c11)).setCell ⟨B,ri*3+2,none⟩ (.slice a11' l11' c11')=w9 at *;go_wp2;go_roundg (m-(i+1));case measure=>omega
    case rel=>exact⟨i+1,by omega,rfl,by go_num,HP.o⟩
  obtain rfl:i=m:=(by omega);go_wp2;go_ret;exact⟨B,rfl,hBw,HX.o.1,HX.o.2⟩
def Cj(f:Nat->Nat) (v:Nat):Nat->Option Nat
 | 0=>none
 | m+1=>match Cj f v m with
  | some i=>some i
  | none=>if f m=v then some m else none
theorem Ej{f:Nat->Nat} {v:Nat}:∀{m i:Nat},Cj f v m=some i->i<m/\f i=v
 | 0,_,h=>by cases h
 | m+1,i,h=>by
  unfold Cj at h;cases hm:Cj f v m with
  | some j =>
   rw[hm] at h;cases h;have:=Ej hm;exact⟨by omega,this.2⟩
  | none =>
   rw[hm] at h;dsimp only at h;split at h
   ·rename_i e;cases h;exact⟨by omega,e⟩
   cases h
theorem Gr{f:Nat->Nat} {v:Nat}:∀{m:Nat},Cj f v m=none->∀i,i<m->f i≠v
 | 0,_,i,hi=>by omega
 | m+1,h,i,hi=>by
  unfold Cj at h;cases hm:Cj f v m with
  | some j=>rw[hm] at h;cases h
  | none =>
   rw[hm] at h;dsimp only at h;split at h
   ·cases h
   rename_i e;by_cases e2:i=m
   ·rw[e2];exact e
   exact Gr hm i (by omega)
theorem Pr{f:Nat->Nat} {v m i:Nat} (h:Cj f v m=some i):∀k,Cj f v (m+k)=some i
 | 0=>h
 | k+1=>by
  show (match Cj f v (m+k) with|some i=>some i|none=>_)=_;rw[Pr h k]
theorem Li(w:World) (v:Value) (m:Nat) (f:Nat->Nat) (x:Nat) (h:Mz w v m f):Calls prog 210 #[v,.int .i64 x] w (fun r w'=>r=.returned (.int .i64 (DG (Cj f x m)))/\w'=w):=by
 obtain⟨ao,c,rfl,hm,hc⟩:=h;have HC:=bH hc;clear hc;go_enter func210,ntmps210;go_wp2_with fail;go_loopg [8,5] m (fun gg v8 v5 wr=>∃i:Nat,i<=m/\gg=m-i/\v8=.int .i64 i/\Cj f x i=none/\wr=w);case atStart=>exact⟨0,Nat.zero_le _,rfl,rfl,rfl,rfl⟩
 case round =>
  obtain⟨i,hi,rfl,rfl,hno,rfl⟩:=hrel;have HN:=bH hno;clear hno;by_cases hin:i<m
  ·have i0:(i:Int)<(m:Int):=(by omega);have i1:(0:Int)<=(i:Int):=(by omega);obtain⟨g,off,rfl,hcell⟩:=HC.o i hin;have HS:=bH (show Cj f x (i+1)=if f i=x then some i else none from by
    show (match Cj f x i with|some i=>some i|none=>_)=_;rw[HN.o])
   by_cases he:f i=x
   ·have HR:=bH (show DG (Cj f x m)=(i:Int) from by
     have h1:Cj f x (i+1)=some i:=(by rw[HS.o,if_pos he]);have:=Pr h1 (m-(i+1));rw[show i+1+(m-(i+1))=m by omega] at this;rw[this];rfl)
    have he2:((f i:Int) == (x:Int))=true:=(by simp[he]);have he3:((x:Int) == (f i:Int))=true:=(by simp[he]);rw[he] at hcell;clear HC;go_wp2;go_ret;exact⟨by rw[HR.o];rfl,rfl⟩
   have HR:=bH (show Cj f x (i+1)=none from by rw[HS.o,if_neg he]);have he2:((f i:Int) == (x:Int))=false:=(by simp;omega);have he3:((x:Int) == (f i:Int))=false:=(by simp;omega);clear HC HS;generalize f i=y at *;go_wp2;go_roundg (m-(i+1));case measure=>omega
   case rel=>exact⟨i+1,by omega,rfl,by go_num,HR.o,rfl⟩
  obtain rfl:i=m:=(by omega);go_wp2;go_ret;exact⟨by rw[HN.o];rfl,rfl⟩
def RZ(T:AX) (v c:Nat):Rat:=match Cj T.fr v T.n with
 | some c'=>if c=c' then 1 else 0
 | none=>match Cj T.ba v T.m with
  | some r=>-(T.al r c)
  | none=>0
def DF(p:AH) (T:AX) (l:AZ):Nat->Nat->Rat
 | 0,_=>0
 | i+1,c=>DF p T l i c+((((AV p l).getD i AW).coef*A6 l:Int):Rat)*RZ T ((AV p l).getD i AW).var.toNat c
def JG(p:AH) (T:AX) (us:List AZ) (l:AZ):AX where
 n:=T.n
 m:=T.m+1
 ba:=fun i=>if i=T.m then p.vars.length+us.length else T.ba i
 fr:=T.fr
 be:=fun i=>if i=T.m then BM p l (AP p.vars.length (BS T.ba T.be T.m)) false else T.be i
 d:=T.d
 al:=fun i=>if i=T.m then DF p T l (AV p l).length else T.al i
structure Di(w0 w:World) (tb:Nat) (V:Bh) (T:AX) (p:AH) (us ls:List AZ):Prop where
 rest:Bp w w0.heap.size V T.n T.m T.m T.m T us ls us
 box:Au w tb=some (.cells #[V.pv,V.pr,V.u,V.mp,V.ba,V.fr,V.be,V.al,V.d,V.l] 122 (0,0))
 tbl:w0.heap.size<=tb
 vars:Ju w0 V.pv p.vars
 rows:LX w0 V.pr p.rows
 valid:AU p=true
 old:XF w0 w
 small:T.n<=1000/\T.m<=1000
 hm:T.m=us.length
 hn:T.n=p.vars.length
 oks:EY p us
def Cr(v:Value):Prop:=∀k d,v≠.int k d
section
variable {w0 w w':World} {tb:Nat} {V:Bh} {T:AX} {p:AH} {us ls:List AZ}
theorem Di.at(h:Di w0 w tb V T p us ls):BG w w0.heap.size tb V T :=
 ⟨h.box,h.rest.ba,h.rest.fr,h.rest.be,h.rest.d,h.rest.al,h.rest.rows,h.rest.rr,h.rest.rbe,h.rest.rd,h.rest.bed,h.rest.bf,h.small⟩
theorem Di.prg(h:Di w0 w tb V T p us ls):Hf w tb p:=by
 obtain⟨vo,vc,e1,_,h1,_⟩:=h.vars.shape;obtain⟨ro,rc,e2,_,h2,_⟩:=h.rows.shape;have hv:=h.vars.keep h.old;have hr:=h.rows.keep h.old;have hb:=h.box;rw[e1] at hv hb;rw[e2] at hr hb;exact⟨⟨vo,vc,ro,rc,AA hb 0 rfl,AA hb 1 rfl,hv,hr,by omega,by omega⟩,h.valid⟩
theorem Di.keep(h:Di w0 w tb V T p us ls) (hx:XF w w'):Di w0 w' tb V T p us ls :=
 ⟨h.rest.keep hx,AM h.box hx,h.tbl,h.vars,h.rows,h.valid,h.old.trans hx,h.small,h.hm,h.hn,h.oks⟩
theorem Ai{v:Value} {ao:Option Addr} {n c:Nat} (h:v=.slice ao n c):Cr v:=fun k d e=>by rw[h] at e;cases e
theorem BQ.notInt{base m:Nat} {v:Value} {b:Nat->Nat} (h:BQ w base v m b):Cr v:=by
 rcases h with⟨e,_⟩|⟨g,cap,arr,e,_⟩<;>exact Ai e
theorem A8.notInt{base m:Nat} {v:Value} {b:Nat->Rat} (h:A8 w base v m b):Cr v:=by
 rcases h with⟨e,_⟩|⟨g,cap,e,_⟩<;>exact Ai e
theorem Ck.notInt{base m:Nat} {v:Value} {b:Nat->Value} (h:Ck w base v m b):Cr v:=by
 rcases h with⟨e,_⟩|⟨g,cap,arr,e,_⟩<;>exact Ai e
theorem Qr{base n m1 m2 m3:Nat} {F:AX} {ms:List AZ} (h:Bp w base V n m1 m2 m3 F us ls ms) {pv pr u mp ba fr be al d l:Value} (hb:Au w tb=some (.cells #[pv,pr,u,mp,ba,fr,be,al,d,l] 122 (0,0)))
  (h1:Cr pv) (h2:Cr pr) (h3:Cr u) (h4:Cr mp) (h5:Cr ba) (h6:Cr fr) (h7:Cr be) (h8:Cr al) (h9:Cr d) (h10:Cr l):BN w tb:=Ae hb (fun x hx k e=>by
 simp only[List.mem_cons,List.not_mem_nil,or_false] at hx;rcases hx with rfl|rfl|rfl|rfl|rfl|rfl|rfl|rfl|rfl|rfl
 ·exact h1 _ _ e
 ·exact h2 _ _ e
 ·exact h3 _ _ e
 ·exact h4 _ _ e
 ·exact h5 _ _ e
 ·exact h6 _ _ e
 ·exact h7 _ _ e
 ·exact h8 _ _ e
 ·exact h9 _ _ e
 exact h10 _ _ e)
theorem Iz.notInt{base:Nat} {v:Value} {ms:List AZ} (h:Iz w base v ms):Cr v:=fun k d e=>by
 obtain⟨mb,es,clock,h1,_⟩:=h;rw[h1] at e;cases e
theorem Bp.cast{base n m1 m2 m3:Nat} {F F':AX} {ms:List AZ} (h:Bp w base V n m1 m2 m3 F us ls ms) (h1:F.ba=F'.ba) (h2:F.fr=F'.fr) (h3:F.be=F'.be) (h4:F.d=F'.d) (h5:F.al=F'.al):Bp w base V n m1 m2 m3 F' us ls ms :=
 ⟨h1▸h.ba,h2▸h.fr,h3▸h.be,h4▸h.d,h.al,h.aln,h5▸h.rows,h.rr,h.rbe,h.rd,h.bed,h.bf,h.u,h.l,h.ul,h.mp⟩
def Bh.Big(V:Bh) (tb m k:Nat):Prop:=k=tb∨V.All m k
theorem Di.low(h:Di w0 w tb V T p us ls) {k:Nat} (hk:V.Big tb T.m k):w0.heap.size<=k:=by
 rcases hk with rfl|hk
 ·exact h.tbl
 exact h.rest.low hk
theorem Di.lt(h:Di w0 w tb V T p us ls) {k:Nat} (hk:V.Big tb T.m k):k<w.heap.size:=by
 rcases hk with rfl|hk
 ·exact AT h.box
 exact h.rest.old hk
theorem Bh.S_all{m k:Nat} (h:V.S m k):V.All m k:=by
 rcases h with h|h|h|h|⟨i,hi,h⟩
 ·exact⟨.inl h⟩
 ·exact⟨.inr (.inl h)⟩
 ·exact⟨.inr (.inr (.inl h))⟩
 ·exact⟨.inr (.inr (.inr (.inl h)))⟩
 exact⟨.inr (.inr (.inr (.inr (.inr (.inr (.inr (.inr ⟨i,hi,h⟩)))))))⟩
theorem Di.turn(h:Di w0 w tb V T p us ls) {T':AX} (ht:BG w' w0.heap.size tb V T') (hn:T'.n=T.n) (hm:T'.m=T.m) (hx:AK (V.S T.m) w w'):Di w0 w' tb V T' p us ls:=by
 have hS:∀{k:Nat},V.S T.m k->DT w k 3∨DT w k 34:=fun hk=>by
  rcases hk with hk|hk|hk|hk|⟨i,hi,rfl⟩
  ·exact .inl (h.rest.ba.typ _ hk)
  ·exact .inl (h.rest.fr.typ _ hk)
  ·exact .inr (h.rest.be.typ _ hk)
  ·exact .inr (h.rest.d.typ _ hk)
  exact .inr (h.rest.rowT hi)
 have ne:∀{k:Nat} {U:TypeId},DT w k U->U≠3->U≠34->¬V.S T.m k:=fun hk h1 h2 hs=>by
  rcases hS hs with h3|h3
  ·exact DT.ne hk h3 h1 rfl
  exact DT.ne hk h3 h2 rfl
 obtain⟨mb,es,clock,e1,e2,e3,e4⟩:=h.rest.mp;refine⟨⟨hm▸ht.ba,hn▸ht.fr,ht.be,ht.d,ht.al,fun g hg i d hc=>h.rest.aln g hg i d ?_,ht.rows,ht.rr,ht.rbe,ht.rd,ht.bed,ht.bf,h.rest.u.past hx (fun g hg=>ne (h.rest.u.typ g hg) (by decide) (by decide)),h.rest.l.past hx (fun g hg=>ne (h.rest.l.typ g hg) (by decide) (by decide)),h.rest.ul,
  ⟨mb,es,clock,e1,e2,(hx.blk (AT e3) (fun hs=>by
   rcases hS hs with h3|h3
   ·exact h3.neMap e3 rfl
   exact h3.neMap e3 rfl)).trans e3,e4⟩⟩,ht.box,h.tbl,h.vars,h.rows,h.valid,h.old.own hx (fun k hk=>h.rest.low (Bh.S_all hk)),ht.small,hm.trans h.hm,hn.trans h.hn,h.oks⟩
 obtain⟨arr,ha⟩:=h.rest.al.typ g hg;rw[<- hx.cell (p:=⟨g,i,none⟩) (AT ha) (ne ⟨arr,ha⟩ (by decide) (by decide))];exact hc
end
section
variable {P:Program}
theorem Lf(w:World) (base:Nat) (t ty e:TypeId) (i:TypeInfo) (z:Value) (ht:P.underlying t=some (.slice e)) (hi:P.info? e=some i) (hz:i.zero=some z)
  (hzn:E1 z.cells.toList)
  (g cap:Nat) (n:Nat) (xs:List Value) (hown:w.ownsRow base e i.size (.slice (some ⟨g,0,none⟩) n cap) n xs) (hnd:BN w g) (hxs:E1 xs)
  (a:Addr) (m c:Nat) (news:List Value) (hl:news.length=m*i.size) (hnews:∀j u,news[j]?=some u->w.cell? (a.add j)=some u) (h1:∀u∈news,u.oneCell'=true) (hnn:E1 news)
  (h63:n+m<=maxLen) (hbytes:(n+m)*i.bytes<=140737488355328) :
  ∀v' w',(Builtin.append_ #[t,t] ty #[.slice (some ⟨g,0,none⟩) n cap,.slice (some a) m c]).run P w=.ok v' w'->∀g,v'.ownBlock=some g->BN w' g:=by
 intro v' w' hrun g' hg';have hsmall:n+m<=9223372036854775807:=by simp only[maxLen] at h63;omega
 rcases hown.2 with⟨e1,_⟩|⟨g2,cap2,cur,e2,hbg,hg,hnc,hcm,hcs,htake⟩
 ·cases e1
 cases e2;by_cases hroom:n+m<=cap
 ·have hfit:n*i.size+news.length<=cur.size:=(by rw[hl,hcs,<- Nat.add_mul];exact Nat.mul_le_mul_right _ hroom);have hr:=run_append_room (P:=P) w t ty e i ht hi g n cap cur hg a m c news hl hnews h1 hroom hfit;rw[hr] at hrun;injection hrun with h2 h3;subst h2 h3;cases hg';have hc:=hnd.cells (show Au w g=some _ from hg);refine Ae (show Au (w.setRow g _) g=some _ from setRow_heap w g cur _ e _ hg) ?_;exact ((hc.take _).append hnn).append (hc.drop _)
 have holds:∀j u,xs[j]?=some u->w.cell? ((⟨g,0,none⟩:Addr).add j)=some u:=hown.cells (g:=g) rfl;have hr:=run_append_grow (P:=P) w t ty e i z ht hi hz ⟨g,0,none⟩ n cap xs hown.1 holds a m c news hl hnews (by omega) (by omega) (growslice_fits (by omega) hbytes);rw[hr] at hrun;injection hrun with h2 h3;subst h2 h3;cases hg';refine Ae (show Au (w.drew.alloc _) w.heap.size=some _ from AD w.drew _) ?_;rw[Array.toList_append,Array.toList_append];exact (hxs.append (by simpa using hnn:E1 news.toArray.toList)).append (K6 hzn _)
structure VX(w w':World) (base:Nat) (e:TypeId) (size:Nat) (v':Value) (m:Nat) (news:List Value) (g0:Nat):Prop where
 own:w'.ownsRow base e size v' m news
 ext:AK (fun k=>k=g0) w w'
 noDig:∀g,v'.ownBlock=some g->BN w' g
theorem Iw{w:World} {ops:Array Oper} {rest:List Oper} {o:Oper} {a:Act} {Q:Exit->Act->World->Prop} {e T:TypeId} {z:Value} {size bytes:Nat} (hgd:o.guard=none) (s x:Operand)
  (ho:o.op=.call { callee:=.builtin .append,args:=#[s,x],argTypes:=#[T,T] }) (ht:P.underlying T=some (.slice e)) (hi:(P.info? e).map (fun i=>(i.zero,i.size,i.bytes))=some (some z,size,bytes)) (hzs:z.cells.size=size) (hzn:E1 z.cells.toList) (hsz:0<size) (hbs:bytes<=1000)
  (base g0:Nat) (hs:a.eval s=.slice (some ⟨g0,0,none⟩) 0 0) (hg0:Au w g0=some (.cells #[] e (0,0))) (hb0:base<=g0) (ad:Addr) (m c:Nat) (hx:a.eval x=.slice (some ad) m c) (news:List Value) (hl:news.length=m*size) (hsrc:∀j u,news[j]?=some u->w.cell? (ad.add j)=some u) (h1:∀u∈news,u.oneCell'=true) (hnn:E1 news) (hm:m<=100000)
  (h:∀v' w',VX w w' base e size v' m news g0->wpList P ops Q rest (a.put o.dst v') w') :
  wpList P ops Q (o::rest) a w:=by
 refine wpList_plain hgd fun K hK=>?_;obtain⟨i0,hi0,hz0,hz1,hz2⟩:=info_parts hi;have hby:(0+m)*bytes<=140737488355328:=Nat.le_trans (Nat.mul_le_mul (show 0+m<=100000 by omega) hbs) (by decide);have hown:w.ownsRow base e size (.slice (some ⟨g0,0,none⟩) 0 0) 0 []:=⟨by simp,.inr ⟨g0,0,#[],rfl,hb0,hg0,Nat.le_refl _,Nat.zero_le _,by simp,by simp⟩⟩;have hnd:BN w g0:=Ae hg0 (fun u hu=>by simp at hu);obtain⟨v',w',hr,g1,g2,g3⟩:=DE (P:=P) (w:=w) base T o.type e i0 z size bytes ht hi0 hz0 hz1 hz2 hzs hsz _ 0 [] hown (some ad) m c (fun e=>by cases e) news hl (.inr ⟨ad,rfl,hsrc⟩) h1 (by unfold maxLen;omega) hby (Nat.le_trans hb0 (Nat.le_of_lt (AT hg0)));have hnd':=Lf (P:=P) w base T o.type e i0 z ht hi0 hz0 hzn g0 0 0 [] (by rw[hz1];exact hown) hnd (fun u hu=>by cases hu) ad m c news (by rw[hz1];exact hl) hsrc h1 hnn (by unfold maxLen;omega) (by rw[hz2];exact hby) v' w' hr;unfold Oper.wp execOp;simp only[ho,resolve,invoke,builtin,Sem.run_bind,Sem.run_pure,Result.andThen_ok,List.map_toArray,List.map_cons,List.map_nil,hs,hx,hr];refine hK _ _ (h v' w' ⟨by simpa using g1,(AK.refl (fun k=>k=g0) w).grown g2 (fun k hk _=>?_),hnd'⟩);injection hk with hk;exact hk.symm
end
theorem B9.cellsL{w:World} {g m:Nat} {f:Nat->Rat} (h:B9 w g m f):∃xs:List Value,xs.length=m*3/\(∀j u,xs[j]?=some u->w.cell? ((⟨g,0,none⟩:Addr).add j)=some u)/\(∀u∈xs,u.oneCell'=true)/\E1 xs/\GS w xs m f:=by
 obtain⟨arr,h1,h2⟩:=h.row;have hq:GS w (arr.toList.take (m*3)) m f:=fun i hi=>by
  obtain⟨ng,a1,m1,c1,a2,m2,c2,k0,k1,k2,k3⟩:=h.cells i hi;rw[AS h1] at k0 k1 k2;refine⟨ng,a1,m1,c1,a2,m2,c2,?_,?_,?_,k3⟩
  ·rw[List.getElem?_take_of_lt (by omega),Array.getElem?_toList];exact k0
  ·rw[List.getElem?_take_of_lt (by omega),Array.getElem?_toList];exact k1
  rw[List.getElem?_take_of_lt (by omega),Array.getElem?_toList];exact k2
 have hlen:(arr.toList.take (m*3)).length=m*3:=by rw[List.length_take,Array.length_toList];omega
 refine⟨arr.toList.take (m*3),hlen,fun j u hu=>?_,fun u hu=>?_,(h.noDig.cells h1).take _,hq⟩
 ·rw[Addr.add_lit,Nat.zero_add,AS h1];have hj:j<m*3:=(by rw[<- hlen];exact (List.getElem?_eq_some_iff.1 hu).1);rw[List.getElem?_take_of_lt hj,Array.getElem?_toList] at hu;exact hu
 obtain⟨j,hj,rfl⟩:=List.getElem_of_mem hu;rw[hlen] at hj;obtain⟨ng,a1,m1,c1,a2,m2,c2,k0,k1,k2,_⟩:=hq (j/3) (by omega);have h3:j=j/3*3∨j=j/3*3+1∨j=j/3*3+2:=(by omega);have hx:(arr.toList.take (m*3))[j]?=some (arr.toList.take (m*3))[j]:=List.getElem?_eq_getElem (by omega);rcases h3 with h3|h3|h3
 ·rw[<- h3,hx] at k0;injection k0 with k0;rw[k0];rfl
 ·rw[<- h3,hx] at k1;injection k1 with k1;rw[k1];rfl
 rw[<- h3,hx] at k2;injection k2 with k2;rw[k2];rfl
theorem Pb(w:World) (g n cap:Nat) (f:Nat->Rat) (h:B9 w g n f) (hn:n<=100000):Calls prog 88 #[.slice (some ⟨g,0,none⟩) n cap] w (fun r w'=>∃v',r=.returned v'/\A8 w' w.heap.size v' n f/\XF w w'):=by
 have q22:∀(w:World) (a:Option Addr) (n c n' c':Nat),(binOp .eql 35 (.slice a n c) (.slice none n' c')).run prog w=.ok (.bool a.isNone) w:=fun w a n c n' c'=>Lib.run_eql_slice_nil w _ _ a n c n' c' underlying35;have hx1:XF w (w.alloc (.cells #[] 34)):=(AK.refl _ w).alloc _;have hb1:Au (w.alloc (.cells #[] 34)) w.heap.size=some (.cells #[] 34 (0,0)):=AD _ _;obtain⟨xs,k1,k2,k3,k4,k5⟩:=(h.keep hx1).cellsL;have HX:=bH (bI hx1 (bI hb1 (bI k1 (bI k2 (bI k3 (bI k4 k5))))));clear hx1 hb1 k1 k2 k3 k4 k5 h;go_enter func88,ntmps88;go_wp2_with (at_builtin;refine Iw rfl (.tmp 5) (.tmp 6) rfl underlying35 Tryz.infoRat rfl (CL ⟨false,none,0,0,none,0,0⟩) (by decide) (by decide) w.heap.size w.heap.size rfl HX.o.2.1 (Nat.le_refl _) _ _ _ rfl xs HX.o.2.2.1 HX.o.2.2.2.1 HX.o.2.2.2.2.1 HX.o.2.2.2.2.2.1 hn ?_;intro v5 w5 hc5;have HO:=bH hc5);have HR:=bH (show A8 w5 w.heap.size v5 n f/\XF w w5 from by
  have hx:XF w w5:=HX.o.1.own HO.o.ext (fun k e=>by have e':k=w.heap.size:=e;omega);refine⟨A8.of HO.o.own HO.o.noDig (fun i hi=>?_),hx⟩;obtain⟨ng,a1,m1,c1,a2,m2,c2,e0,e1,e2,hq⟩:=HX.o.2.2.2.2.2.2 i hi;refine⟨ng,a1,m1,c1,a2,m2,c2,e0,e1,e2,hq.past (fun v l hv=>hv.past HO.o.ext (fun k _ e=>by
   have e':k=w.heap.size:=e;subst e';exact Ae HX.o.2.1 (fun u hu=>by simp at hu)))⟩)
 go_wp2;go_ret;exact⟨_,rfl,HR.o⟩
theorem Pf(w:World) (v:Value) (base n:Nat) (b:Nat->Nat) (h:BQ w base v n b) (hn:n<=100000):Calls prog 90 #[v] w (fun r w'=>∃v',r=.returned v'/\BQ w' w.heap.size v' n b/\XF w w'):=by
 have q22:∀(w:World) (a:Option Addr) (n c n' c':Nat),(binOp .eql 45 (.slice a n c) (.slice none n' c')).run prog w=.ok (.bool a.isNone) w:=fun w a n c n' c'=>Lib.run_eql_slice_nil w _ _ a n c n' c' underlying45;rcases h with⟨rfl,rfl⟩|⟨g,cap,arr,rfl,h1,h2,h3,h4,h5,h6,h7⟩
 ·go_enter func90,ntmps90;go_wp2;go_ret;exact⟨_,rfl,.inl ⟨rfl,rfl⟩,AK.refl _ _⟩
 have hx1:XF w (w.alloc (.cells #[] 3)):=(AK.refl _ w).alloc _;have hb1:Au (w.alloc (.cells #[] 3)) w.heap.size=some (.cells #[] 3 (0,0)):=AD _ _;have h4':=AM h4 hx1;have HX:=bH (bI hx1 (bI hb1 (show ∀j u,(Ex n b)[j]?=some u->(w.alloc (.cells #[] 3)).cell? ((⟨g,0,none⟩:Addr).add j)=some u from fun j u hu=>by
  rw[Addr.add_lit,Nat.zero_add,AS h4'];have hj:j<n:=(by have:=(List.getElem?_eq_some_iff.1 hu).1;simpa[Ex] using this);rw[h7 j hj];simpa[Ex,hj] using hu)))
 clear hx1 hb1 h4' h4 h5 h6 h7;go_enter func90,ntmps90;go_wp2_with (at_builtin;refine Iw rfl (.tmp 5) (.tmp 6) rfl underlying45 Tryz.infoInt1 rfl (fun u hu d e=>by simp[Value.cells] at hu;rw[hu] at e;cases e) (by decide) (by decide) w.heap.size w.heap.size rfl HX.o.2.1 (Nat.le_refl _) _ _ _ rfl (Ex n b) (by simp[Ex]) HX.o.2.2 (fun u hu=>by obtain⟨i,_,rfl⟩:=List.mem_map.1 hu;rfl) (Gd _ _) hn ?_;intro v5 w5 hc5;have HO:=bH hc5);have HR:=bH (show BQ w5 w.heap.size v5 n b/\XF w w5 from
  ⟨BQ.of HO.o.own HO.o.noDig,HX.o.1.own HO.o.ext (fun k e=>by have e':k=w.heap.size:=e;omega)⟩)
 go_wp2;go_ret;exact⟨_,rfl,HR.o⟩
end Go.Proofs.YtglepbhkilbbcaaGreat
