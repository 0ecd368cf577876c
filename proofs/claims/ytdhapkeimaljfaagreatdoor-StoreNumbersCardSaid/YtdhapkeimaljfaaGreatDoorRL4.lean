/- Parts of the proofs about bulletinlaw29: Jou13, Jou14, Jou15, Jou16, Jou17, Jou18, Jou19, Jou20, His1, His2, His3, His4, His5, His6, Rng0, Num2, His7, His8, Spo1, Spo2, Spo3, Spo4, Num3, Spo5, Spo6, Spo7, Vq, Tab1, Tab2, Tab3, Tab4, Tab5. -/
import Derived.Test.YtdhapkeimaljfaaGreatDoorRL1
import Derived.Test.YtdhapkeimaljfaaGreatDoorRL2
import Derived.Test.YtdhapkeimaljfaaGreatDoorRL3
import Derived.Defers
import Derived.Shelf.SlGeneric
import Derived.Shelf.SlicesE.Clone
import Derived.Ground.SlgnProg
import Derived.Test.YtdhapkeimaljfaaGreatDoorProg
import Derived.WalkMore
set_option maxRecDepth 100000
set_option linter.all false
set_option maxHeartbeats 8000000
namespace Go.Proofs.YtdhapkeimaljfaaGreatDoor
open Go Go.RowKit Go.Proofs Tryz
def bi_:=@List.mem_of_mem_take
def J9:=@World.cell?_of_block
def bp_:=@ByteArray.toList_eq
def X3:=@List.take_length
section
attribute [local go_sem ↓] vO qT zS zI jT j9
attribute [local go_sem] xHv xHg xAp xAn xLm xKn zr zx yA yz xh xg xe xd xx xy xk xj xq xB xw
def xCg (D:Nat)(v:Dev)(d:PD)(j:PJ)(ev:Value)(w:World)(e:Ending)(w':World):Prop:=
 e=.returned (.tuple #[.agg #[.int .i64 j.gen,.int .i64 j.first,ev,.int .i64 (j.secs sha).length],.int .i64 0])/\Kept v.foot w w'/\∃v',v'.p=v.p/\v'.M=v.M/\yj D w' v' (d.puts (j.area*(d.n/2)) (j.secs sha)).1.flushed/\∀k∈v'.foot,k∈v.foot\/w.heap.size<=k
structure WcSt (w:World)(B:Nat)(p n:Nat)(gen first:Nat)(ev hv:Value)(L:List By)(vs:List Value)(k:Nat)(rv:Value)(W:World):Prop where
 bel:Below w.heap.size w W
 st:W.heap[w.heap.size]?=some (.cells (xG p n) 156 (0,0))
 res:W.heap[w.heap.size+1]?=some (.cells zSta 159 (0,0))
 x:W.heap[w.heap.size+1+1]?=some (.cells #[.int .i64 gen,.int .i64 first,ev,.int .i64 0] 159 (0,0))
 rc:RcAt W B rv (k8 gen first L.length hv L vs k)
 rb:∀j,rv.ownBlock=some j->w.heap.size+3<=j
theorem EnAt.blk {w B v L vs}(h:EnAt w B v L vs):∀x∈vs,∀k,x.ownBlock=some k->B<=k/\k<w.heap.size/\v.ownBlock≠some k:=by
 intro x hx k a;obtain⟨i,b,rfl⟩:=bN_.1 hx;obtain⟨h1,_,h3⟩:=h.el i (by rw[<-h.len];exact b);exact⟨(h1.lt a).1,(h1.lt a).2,h3 k a⟩
theorem xOr {w w':World}{B t s n x T v xs cs}(h:w.ownsRow B t s v n xs)(hx:w.heap[x]?=some (.cells cs T (0,0)))(ht:T≠t)(c:∀g,v.ownBlock=some g->g<w.heap.size->g≠x->w'.heap[g]?=w.heap[g]?):w'.ownsRow B t s v n xs:=by
 refine⟨h.1,?_⟩;rcases h.2 with d|⟨g,cap,cur,hv,b,a,r⟩
 ·exact .inl d
 ·refine .inr ⟨g,cap,cur,hv,b,(c g (by rw[hv];rfl) (i_ a).1 (λe=>?_)).trans a,r⟩;grind
theorem RcAt.sameX {w w' B x T v l cs}(h:RcAt w B v l)(hx:w.heap[x]?=some (.cells cs T (0,0)))(ht:T≠238)(c:T≠5)(b:∀g,(v.ownBlock=some g\/∃y∈l,y.2.ownBlock=some g)->g<w.heap.size->g≠x->w'.heap[g]?=w.heap[g]?):RcAt w' B v l:=
 ⟨xOr h.own hx ht (λg a=>b g (.inl a)),λy hy=>⟨xOr (h.el y hy).1 hx c (λg a=>b g (.inr ⟨y,hy,a⟩)),(h.el y hy).2⟩⟩
theorem yB2 {gen first carried hv L vs k y}(h:y∈k8 gen first carried hv L vs k):y.2=hv\/y.2∈vs:=by
 unfold k8 at h;rcases g8.1 h with h|h
 ·exact .inl (by rw[h])
 ·exact .inr (bi_ (List.of_mem_zip (a:=y.1) (b:=y.2) h).2)
theorem EnAt.val {w B g n cap L vs x}(h:EnAt w B (.slice (some ⟨g,0,none⟩) n cap) L vs)(i)(b:i<L.length)(a:n=L.length)(c:w.cell? ⟨g,i,none⟩=some x):vs[i]'(by rw[h.len];exact b)=x:=by
 subst a;have:=bM_ h.own i (by omega);grind
theorem WcSt.next {w B p n gen first ev hv L vs k rv v' W Wa W'}(h:WcSt w B p n gen first ev hv L vs k rv W)(b:Below W.heap.size W Wa)(d:Wa.grownBy W' rv.ownBlock)
  (i:RcAt W' B v' (k8 gen first L.length hv L vs (k+1))) (f:v'.ownBlock=rv.ownBlock\/v'.ownBlock=some Wa.heap.size):WcSt w B p n gen first ev hv L vs (k+1) v' W':=by
 have hs:=(i_ h.x).1;have c:∀g,g<w.heap.size+3->g<W.heap.size->W'.heap[g]?=W.heap[g]?:=λg l a=>(d.block g (b7 a b.size) (λe=>by have:=h.rb g e.symm;omega)).trans (b.block g a)
 refine⟨(h.bel.trans (b.mono h.bel.size)).grown d (by have:=h.bel.size;have:=b.size;omega) (λj e=>by have:=h.rb j e;omega),(c _ (by omega) (by omega)).trans h.st,(c _ (by omega) (by omega)).trans h.res,(c _ (by omega) (by omega)).trans h.x,i,λj e=>?_⟩;rcases f with h1|h1
 ·exact h.rb j (h1▸e)
 ·grind
theorem jP (w g cs):Kept [g] w (w.setRow g cs):=⟨rfl,rfl,rfl,by simp[World.setRow],λk _ a=>setRow_other _ _ _ _ (by simpa using a)⟩
theorem xM2 {d:PD}(h:d.Up):d.flush=(d.flushed,true):=by simp[PD.flush,PD.oper,h.1,h.2]
structure WpSt (D B:Nat)(w w4:World)(v:Dev)(d:PD)(gen first:Nat)(ev:Value)(base:Nat)(R:List PRec)(k:Nat)(W:World):Prop where
 kept:Kept v.foot w W
 mid:∀g,g∉v.foot->g<w4.heap.size->g≠w.heap.size+1+1->W.heap[g]?=w4.heap[g]?
 sz:w4.heap.size<=W.heap.size
 x:W.heap[w.heap.size+1+1]?=some (.cells #[.int .i64 gen,.int .i64 first,ev,.int .i64 (vV R k)] 159 (0,0))
 at':∃v',v'.p=v.p/\v'.M=v.M/\yj D W v' (d.puts base ((R.take k).flatMap (xJ sha))).1/\∀j∈v'.foot,j∈v.foot\/w4.heap.size<=j
theorem WpSt.next {D B w b}{v f e:Dev}{d gen first ev base R k W m a}(h:WpSt D B w b v d gen first ev base R k W)(z:∀k∈v.foot,k<w.heap.size)(h4:w.heap.size+3<=b.heap.size)
  (u:Below W.heap.size W m) (G:∀j∈f.foot,j∈v.foot\/b.heap.size<=j) (s:Kept f.foot m a) (r:e.p=v.p) (y:e.M=v.M) (t:yj D a e (d.puts base ((R.take (k+1)).flatMap (xJ sha))).1) (I:∀j∈e.foot,j∈f.foot\/m.heap.size<=j):
  a.heap[w.heap.size+1+1]?=some (.cells #[.int .i64 gen,.int .i64 first,ev,.int .i64 (vV R k)] 159 (0,0)) /\
  WpSt D B w b v d gen first ev base R (k+1) (a.setCell ⟨w.heap.size+1+1,3,none⟩ (.int .i64 (vV R (k+1)))):=by
 have E:∀g,g∉v.foot->g<b.heap.size->g∉f.foot:=λg l c H=>by grind
 have C:w.heap.size+1+1∉v.foot:=λh=>by have:=z _ h;omega
 have J:=h.sz;have o:∀g,g∉v.foot->g<b.heap.size->a.heap[g]?=W.heap[g]?:=by grind
 have q:=(o (w.heap.size+1+1) C (by omega)).trans h.x;have A:∀j∈e.foot,j∈v.foot\/b.heap.size<=j:=λj i=>by grind
 refine⟨q,⟨?_,λg l c n=>?_,?_,?_,e,r,y,?_,A⟩⟩
 ·refine((h.kept.trans (Kept.of_below (F:=[]) u) (λ_ h=>by cases h)).trans s (λj i=>?_)).trans (qC a (w.heap.size+1+1) 3 _) (λj i=>?_)
  ·grind
  grind
 ·exact(heap_setCell_other a ⟨w.heap.size+1+1,3,none⟩ g _ n).trans ((o g l c).trans (h.mid g l c n))
 ·grind
 ·grind
 ·refine t.keep (by simp[World.setCell]) λj i=>heap_setCell_other a ⟨w.heap.size+1+1,3,none⟩ j _ ?_
  grind
theorem xLr {D B w v d}(h:yj D w v d)(hu:d.Up)(hK:qI w)(j)(Q:j.Ok)(hc:j.carried=j.entries.length)(ev vs)(dY:EnAt w B ev j.entries vs)(hB:B<=w.heap.size)
  (ep:∀x∈vs,∀k,x.ownBlock=some k->k∉v.foot) (aZ:(j.secs sha).length<=d.n/2) (aX:d.pend.length<=900000) (hD:D<=w.heap.size) (an:j.entries.length<=1000) (C_:4<D):
  Calls prog 74 #[.agg (xG v.p d.n),.int .i64 j.area,.int .i64 j.gen,.int .i64 j.first,ev] w (xCg D v d j ev w):=by
 obtain⟨ea,ec,gG⟩:=yK dY.own;obtain⟨gen,oG⟩:∃gen,gen=j.gen:=⟨_,rfl⟩;obtain⟨first,r8⟩:∃first,first=j.first:=⟨_,rfl⟩;obtain⟨L,hL⟩:∃L,L=j.entries:=⟨_,rfl⟩;obtain⟨ln,di⟩:∃ln,ln=L.length:=⟨_,rfl⟩;have Ob:=Q.gen;have fo:=Q.first;rw[<-hL]at gG dY an;rw[<-di]at gG an;rw[<-oG]at Ob⊢;rw[<-r8]at fo⊢;subst gG
 obtain⟨l,aj⟩:∃l,l=(((w.alloc (.cells (xG v.p d.n) 156)).alloc (.cells zSta 159)).alloc (.cells #[.int .i64 gen,.int .i64 first,.slice ea ln ec,.int .i64 0] 159)).alloc (.cells #[.int .i64 first,.int .i64 ln] 3):=⟨_,rfl⟩;have aa:Below w.heap.size w l:=by grind
 have aL:l.heap.size=w.heap.size+4:=by grind
 have h0:l.heap[w.heap.size]?=some (.cells (xG v.p d.n) 156 (0,0)):=by grind
 have h1:l.heap[w.heap.size+1]?=some (.cells zSta 159 (0,0)):=by grind
 have h2:l.heap[w.heap.size+1+1]?=some (.cells #[.int .i64 gen,.int .i64 first,.slice ea ln ec,.int .i64 0] 159 (0,0)):=by grind
 have h3:l.heap[w.heap.size+1+1+1]?=some (.cells #[.int .i64 first,.int .i64 ln] 3 (0,0)):=by grind
 have HHB:=h_ (xNo first ln (by omega) (by omega) (w.heap.size+1+1+1) 2 l (cell_of_row _ _ _ _ _ _ h3) (cell_of_row _ _ _ _ _ _ h3) (by omega));have aq:=h_ aa;have cz:=h_ aL;have H0:=h_ h0;have H1:=h_ h1;have H2:=h_ h2;have HD:=h_ h;have HU:=h_ hu;have HK:=h_ hK;have HJ:=h_ Q;have G:=h_ dY;have fR:=h_ hB;have Vr:=h_ ep;have bS:=h_ (λk hk=>(h.foot_lt k hk).2);have rV:=h_ aZ;have HP:=h_ aX;have Vs:=h_ oG;have IV:=h_ r8;have HL:=h_ hL;have l_:=h_ di;have aF:=h.n2;obtain⟨n,hn⟩:∃n,n=d.n:=⟨_,rfl⟩;rw[<-hn]at aj aF H0 rV⊢;have HN:=h_ hn;have fP:(gen:Int)<=2147483647:=by omega
 have P:(first:Int)<=2147483647:=by omega
 have hl1:(ln:Int)<=1000:=by omega
 have gK:=jV gen first (.slice ea ln ec) 0 rfl;unfold xG at aj⊢;unfold zSta at aj;clear h hu hK Q dY hB ep aZ aX oG r8 hL di hn aa aL h0 h1 h2 h3 Ob fo
 go_enter func74,ntmps74;go_wp2_with fail;rw[<-aj];refine HHB.mono ?_;rintro e t ⟨ai,hv,rfl,ae⟩;obtain⟨b,s,hhv,wN,_,_,_⟩:∃g cap,hv=.slice (some ⟨g,0,none⟩) 16 cap/\l.heap.size<=g/\16<=cap/\cap<=maxLen/\SlB t ⟨g,0,none⟩ (beB 8 first++beB 8 ln):=by
  rcases ae.at with⟨_,h⟩|⟨g,cap,h1,h2,h3,h4,h5⟩
  ·exact absurd (congrArg List.length h) (by simp[xu])
  ·have e:(beB 8 first++beB 8 ln).length=16:=by simp[xu]
   grind
 subst hhv;have ax:=h_ ai;have du:=h_ ae;clear aj ai ae;have IW:Below t.heap.size t (t.alloc (.cells #[.int .i64 1,.int .i64 gen,.int .i64 0,.slice (some ⟨b,0,none⟩) 16 s] 238)):=by grind
 have gO:=ax.size
 have a_:Hid (WcSt w B v.p n gen first (.slice ea ln ec) (.slice (some ⟨b,0,none⟩) 16 s) L vs 0 (.slice (some ⟨t.heap.size,0,none⟩) 1 1) (t.alloc (.cells #[.int .i64 1,.int .i64 gen,.int .i64 0,.slice (some ⟨b,0,none⟩) 16 s] 238))):=h_ (by
  have hs:=cz.out;have ao:=ax.trans (IW.mono ax.size);refine⟨aq.trans (ao.mono aq.size),(ao.block _ (by omega)).trans H0.out,(ao.block _ (by omega)).trans H1.out,(ao.block _ (by omega)).trans H2.out,?_,λj e=>by have:=(G0 e:t.heap.size=j);omega⟩;rw[xX9];refine RcAt.one _ (heap_alloc_new t _) (by have:=fR.out;omega) ⟨?_,by simp,λk e=>by have:=(G0 e:b=k);have:=(du.lt (k:=b) rfl).2;omega⟩;have:=(du.below IW).base (B':=B) (by have:=fR.out;omega);rw[l_.out]at this;exact this)
 have HGB:=h_ wN;clear IW gO wN;go_wp2;go_loopw [35,13] (λu rv wr=>∃k:Nat,∃ra rn rc,u=.int .i64 k/\rv=.slice ra rn rc/\k<=ln/\Hid (WcSt w B v.p n gen first (.slice ea ln ec) (.slice (some ⟨b,0,none⟩) 16 s) L vs k (.slice ra rn rc) wr)) (λu _ _=>ln-(intOf u).toNat)
 case atStart=>exact⟨0,_,_,_,rfl,rfl,n3 _,a_⟩
 case round=>
  obtain⟨k,ra,rn,rc,rfl,rfl,hk,HS⟩:=hrel;by_cases hlt:k<ln
  ·have aM:(k:Int)<ln:=by omega
   have aT:k<L.length:=by grind
   obtain⟨g,cap,f,ecap,hv,bD,NP,hes,ej,d_,og⟩:=G.get k aT;obtain⟨y,hy⟩:∃y,y=L[k]:=⟨_,rfl⟩;rw[<-hy]at bD ej d_ og;have Vt:ea=some ⟨g,0,none⟩:=by injection hv
   subst Vt;have gJ:=(HS.bel.cell (p:=⟨g,k,none⟩) (block_lt_of_cell bD)).trans bD;have aK:Below wr.heap.size wr (wr.alloc (.cells #[.int .i64 2,.int .i64 gen,.int .i64 ((k:Int)+1),.slice (some ⟨f,0,none⟩) y.length ecap] 238)):=by grind
   have oK:=h_ (HS.rc.later aK);have FU:(k8 gen first L.length (.slice (some ⟨b,0,none⟩) 16 s) L vs k).length<=1000000:=by rw[xG2 G.len (by omega)];omega
   have Oc:=h_ FU;have HBR:=h_ (show B<=(wr.alloc (.cells #[.int .i64 2,.int .i64 gen,.int .i64 ((k:Int)+1),.slice (some ⟨f,0,none⟩) y.length ecap] 238)).heap.size by have:=HS.bel.size;have:=fR.out;rw[U7];omega);have IN:vs[k]'(by rw[G.len];exact aT)=.slice (some ⟨f,0,none⟩) y.length ecap:=G.val k aT l_.out bD;have eP:((1+k:Nat):Int)=1+(k:Int):=by omega
   have Da:Hid (k8 gen first L.length (.slice (some ⟨b,0,none⟩) 16 s) L vs (k+1)=k8 gen first L.length (.slice (some ⟨b,0,none⟩) 16 s) L vs k++[(⟨2,gen,1+(k:Int),y⟩,.slice (some ⟨f,0,none⟩) y.length ecap)]):=h_ (by rw[xXa G.len aT,IN,hy,eP])
   have V:Hid (∀i u,(ye 2 gen (1+(k:Int)) (.slice (some ⟨f,0,none⟩) y.length ecap))[i]?=some u->(wr.alloc (.cells #[.int .i64 2,.int .i64 gen,.int .i64 ((k:Int)+1),.slice (some ⟨f,0,none⟩) y.length ecap] 238)).cell? ((⟨wr.heap.size,0,none⟩:Addr).add i)=some u):=h_ (λi u hi=>by
    rw[l8,m0,yD];rw[show 1+(k:Int)=(k:Int)+1 by omega]at hi;simpa[ye]using hi)
   have aY:Hid (OwnB (wr.alloc (.cells #[.int .i64 2,.int .i64 gen,.int .i64 ((k:Int)+1),.slice (some ⟨f,0,none⟩) y.length ecap] 238)) B (.slice (some ⟨f,0,none⟩) y.length ecap) y/\(Value.slice (some ⟨f,0,none⟩) y.length ecap)≠.slice none 0 0/\∀i,(Value.slice (some ⟨f,0,none⟩) y.length ecap).ownBlock=some i->(Value.slice ra rn rc).ownBlock≠some i):=h_ ⟨(og.below HS.bel).below aK,by simp,λi e e2=>by have:=HS.rb i e2;have:=(G0 e:f=i);omega⟩;have dM:=h_ aK;have hk1:k+1<=ln:=hlt;have Vm:(k:Int)<=1000:=by omega
   clear bD ej d_ og aK FU IN hv hy aT eP;go_wp2_with (at_builtin;refine xKd rfl (.tmp 40) (.tmp 46) rfl B _ _ rfl oK.out (⟨2,gen,1+(k:Int),y⟩,.slice (some ⟨f,0,none⟩) y.length ecap) aY.out rfl ⟨wr.heap.size,0,none⟩ rfl V.out Oc.out HBR.out ?_);intro v' a Ea Ag t6;rw[<-Da.out]at Ea;obtain⟨va,vc,t7⟩:=yK Ea.own;have dw:=h_ (HS.next dM.out Ag Ea (by rw[U7];exact t6));rw[t7]at dw;subst t7;clear Ea Ag t6 gJ;go_wp2;go_roundw
   case rel=>exact⟨k+1,_,_,_,by go_num,rfl,hk1,dw⟩
   case measure=>simp[intOf];omega
  ·obtain rfl:k=ln:=by omega
   have Lg:=xG2 (gen:=gen) (first:=first) (carried:=L.length) (hv:=.slice (some ⟨b,0,none⟩) 16 s) (L:=L) (vs:=vs) (k:=k) G.len (by rw[<-l_.out];exact w_ _);obtain⟨RL,So⟩:∃RL,RL=k8 gen first L.length (.slice (some ⟨b,0,none⟩) 16 s) L vs k:=⟨_,rfl⟩;have dK:=HS.rc;have HRB4:=h_ HS.rb;rw[<-So]at dK Lg;obtain⟨ra',rc',IN⟩:=yK dK.own;rw[Lg]at IN;have r_:rn=k+1:=by grind
   subst r_;have Vu:RL.map Prod.fst=js gen first L.length L:=by rw[So,l_.out];exact yB3 G.len
   obtain⟨R,hR⟩:∃R,R=js gen first L.length L:=⟨_,rfl⟩;rw[<-hR]at Vu;have FV:(j.secs sha)=R.flatMap (xJ sha):=by grind [PJ.secs,xHl]
   have Od:∀r∈R,r.Ok:=by grind [xUx,xKy]
   have Oe:R.length=k+1:=by grind
   obtain⟨E,cY⟩:∃E,E=wr:=⟨_,rfl⟩;have h4:=(i_ HS.x).1;have eN:Hid (WpSt D B w wr v d gen first (.slice ea k ec) (j.area*(n/2)) R 0 wr):=h_ ⟨Kept.of_below HS.bel,λ_ _ _ _=>rfl,w_ _,HS.x,v,rfl,rfl,HD.below HS.bel,λj Q=>.inl Q⟩;have Of:=h_ dK;have cW:=h_ HS.st;have Lk:=h_ HS.x;have FW:=h_ HS.res;have Og:=h_ HS.bel;have H4:=h_ h4;have Bs:=h_ Vu;have Hf:=h_ Lg
   have Zi:Hid (∀y∈RL,∀g,y.2.ownBlock=some g->g∉v.foot):=h_ (λy hy g hg=>by
    rw[So]at hy;rcases yB2 hy with h|h
    ·rw[h]at hg;have:=(G0 hg:b=g);grind
    ·exact Vr.out _ h g hg)
   have HRL2:=h_ Oe;have FX:=h_ FV;have Vv:=h_ Od;have Dw:(k:Int)+1<=1001:=by omega
   rw[<-cY]at eN Of cW Lk FW Og H4;have A_:=h_ cY;clear Lg So dK IN Vu hR FV Od Oe cY h4 HS a_ du;have lR:((k+1:Nat):Int)=(k:Int)+1:=by omega
   go_wp2;go_loopw [51] (λu U4=>∃i:Nat,u=.int .i64 i/\i<=k+1/\Hid (WpSt D B w E v d gen first (.slice ea k ec) (j.area*(n/2)) R i U4)) (λu _=>k+1-(intOf u).toNat)
   case atStart=>exact⟨0,rfl,n3 _,by rw[<-A_.out];exact eN⟩
   case round=>
    obtain⟨i,rfl,Fq,HS⟩:=hrel;by_cases hlt2:i<k+1
    ·have mT:(i:Int)<(k:Int)+1:=by omega
     have Bh:=(i_ Lk.out).1;have rW:=HS.mid
     have D9:RcAt wr B (.slice ra (k+1) rc) RL:=Of.sameX Lk.out (by decide) (by decide) λg h1 h2 h3=>rW g (λC=>by
      rcases h1 with h|⟨y,hy,h⟩
      ·grind
      ·exact Zi.out y hy g h C) h2 h3
     obtain⟨gr,rcap,gp,pcap,j_,_,V,eo,Li,o,_,f_⟩:=D9.get i (by rw[Hf.out];exact hlt2);have oh:ra=some ⟨gr,0,none⟩:=by grind
     subst oh;have Dq:i<R.length:=by grind
     have X:(RL[i]'(by rw[Hf.out];exact hlt2)).1=R[i]:=by grind
     rw[X]at V eo o f_;obtain⟨y,hy⟩:∃y,y=R[i]:=⟨_,rfl⟩;have Oh:=Vv.out y (by rw[hy];exact L3 Dq);rw[<-hy]at V eo o f_;obtain⟨ro,rr⟩:=RcAt.rd (show (ye y.kind y.gen y.num (.slice (some ⟨gp,0,none⟩) y.pay.length pcap)).length=4 from rfl) V;unfold ye at rr;have M:=(rW w.heap.size (λC=>W9 _ (bS.out _ C)) (by omega) (by omega)).trans cW.out;have aU:=xM7 y.kind y.gen y.num (.slice (some ⟨gp,0,none⟩) y.pay.length pcap) rfl;obtain⟨a,cC⟩:∃a,a=wr.alloc (.cells #[.int .i64 y.kind,.int .i64 y.gen,.int .i64 y.num,.slice (some ⟨gp,0,none⟩) y.pay.length pcap] 238):=⟨_,rfl⟩;have U:Below wr.heap.size wr a:=by grind
     have Bp:a.heap[wr.heap.size]?=some (.cells #[.int .i64 y.kind,.int .i64 y.gen,.int .i64 y.num,.slice (some ⟨gp,0,none⟩) y.pay.length pcap] 238 (0,0)):=by grind
     have Bt:=(U.block _ (i_ M).1).trans M;have gg:=(U.block _ (i_ HS.x).1).trans HS.x;obtain⟨v1,O,FI,T,P⟩:=HS.at';obtain⟨_,S,mV,_⟩:=PD.puts_up ((R.take i).flatMap (xJ sha)) d (j.area*(n/2)) HU.out;have rH:=xOo ((R.take i).flatMap (xJ sha)) d (j.area*(n/2)) HU.out;have hpdd:=HP.out;have A:=xWm R i Dq;have Eb:=yD7 R (i+1);rw[<-hy]at A;have aZ:=rV.out;rw[FX.out]at aZ;have Bu:=HJ.area;have fQ:j.area*(n/2)+vV R (i+1)<=n:=by
      rcases (show j.area=0\/j.area=1 by omega)with h|h <;> rw[h] <;> omega
     have Oi:((R.take i).flatMap (xJ sha)).length=vV R i:=rfl;have Oj:SlB a ⟨gp,0,none⟩ y.pay:=⟨λq c hq=>(U.cell (by rw[xY];exact Li)).trans (f_.cell q c hq)⟩;have F:=yB6 HU.out (j.area*(n/2)) R i Dq;rw[<-hy]at F;have FY:∀z:xf a,Below wr.heap.size wr z.1:=by grind
     have I:Hid (∀z:xf a,Calls prog 108 #[.agg (xG v.p n),.int .i64 (j.area*(n/2)+vV R i:Nat),.agg (ye y.kind y.gen y.num (.slice (some ⟨gp,0,none⟩) y.pay.length pcap)).toArray] z.1 (xWe D v1 (d.puts (j.area*(n/2)) ((R.take i).flatMap (xJ sha))).1 (j.area*(n/2)+vV R i) y z.1)):=h_ λz=>by
      have hz:=FY z;have h1:=yEx (T.below hz) S ((HK.kept HS.kept (λq hq=>b7 C_ (HD.foot_lt q hq).1)).below hz (w_ _)) (j.area*(n/2)+vV R i) y Oh ⟨gp,0,none⟩ pcap o ⟨λq c hq=>(z.2.cell (by rw[xY];have:=U.size;show gp<a.heap.size;omega)).trans (Oj.cell q c hq)⟩ (by have:=hz.size;show gp<z.1.heap.size;omega) (by rw[mV,<-HN.out];omega) (by rw[rH,Oi];omega) (by have:=hz.size;have:=HS.sz;omega);grind
     have hlt5:wr.heap.size<a.heap.size:=by grind
     have r5:=xF (n:=3) Bt rfl;have z1:∀z:xf a,xp z.1 ⟨w.heap.size,0,none⟩ 3=true:=by grind [xf.ok]
     have z2:∀z:xf a,xo z.1 ⟨w.heap.size,0,none⟩ 3=xG v.p n:=by grind [xf.rd]
     obtain⟨N,fE⟩:∃N,N=n/2:=⟨_,rfl⟩;obtain⟨bs,gX⟩:∃bs,bs=j.area*N:=⟨_,rfl⟩;obtain⟨us,Ec⟩:∃us,us=vV R i:=⟨_,rfl⟩;obtain⟨at_,au⟩:∃at_,at_=bs+us:=⟨_,rfl⟩;have z3:∀z:xf a,Calls prog 88 #[.agg (xG v.p n)] z.1 λe w'=>e=.returned (.int .i64 N)/\∃z':xf a,w'=z'.1:=λz=>xf.call ((xE2 v.p n aF z.1).mono λe w' ⟨h1,h2⟩=>⟨by rw[h1,fE],h2⟩)
     have k5:=cell_of_row a (w.heap.size+1+1) 3 _ _ _ gg;simp only[v_]at k5;rw[<-Ec]at k5;have z4:∀z:xf a,z.1.cell? ⟨w.heap.size+1+1,3,none⟩=some (.int .i64 us):=by grind
     have r6:=xF (n:=4) Bp rfl;have z5:∀z:xf a,xp z.1 ⟨wr.heap.size,0,none⟩ 4=true:=by grind [xf.ok]
     have z6:∀z:xf a,xo z.1 ⟨wr.heap.size,0,none⟩ 4=#[.int .i64 y.kind,.int .i64 y.gen,.int .i64 y.num,.slice (some ⟨gp,0,none⟩) y.pay.length pcap]:=by grind [xf.rd]
     rw[<-fE]at I F fQ;rw[<-gX]at I F fQ;rw[<-Ec]at I F A;rw[<-au]at I F;have Vw:(j.area:Int)*(N:Int)=(bs:Int):=by omega
     have Vx:(bs:Int)+(us:Int)=(at_:Int):=by omega
     have bt:(bs:Int)<=4096:=by omega
     have n4:(N:Int)<=4096:=by omega
     have huz:(us:Int)<=4096:=by omega
     have NM:(j.area:Int)<=1:=by omega
     have Ol:=h_ F;have ol:=h_ A;have Vy:=h_ Ec;have tX:=h_ z3;have bR:=h_ U;have IG:=h_ P;have W:=h_ (And.intro O FI);have AB:=h_ gX;have Se:=h_ fE;have fp:i+1<=k+1:=hlt2;have hiq:(i:Int)<=1001:=by omega
     have nZ:((y6 y.pay.length:Nat):Int)<=4096:=by omega
     have iM:Hid (((us:Nat):Int)+(y6 y.pay.length:Nat)=(vV R (i+1):Nat)):=h_ (by rw[A];simp);have hul4:vV R (i+1)<=4096:=by omega
     clear rW D9 j_ V eo Li o f_ Dq X Oh M F A Eb aZ Bu fQ Oi Oj FY rH mV S T P O FI Bh gX Ec au fE U z3 hy Bp Bt gg k5;go_upto_region 11 with fail
     refine xm cC ?_;clear cC ro rr aU r5 r6;unfold xG at z2 tX;refine uO ?_;refine xAy [0,1,2,3,4,5,6,7,8] [9,10] 4 (λw'=>∃z:xf a,w'=z.1) ⟨⟨_,(z_ _ _).drew⟩,rfl⟩ ?_;simp only[o_]
     repeat (go_big_quiet_step (first|(go_at_call 88;exact tX.out _)))
     refine wpQuiet_nil ?_;rintro _ ⟨z,rfl⟩;clear z1 z2 z4 z5 z6 tX;refine xCo ?_;simp only[o_];unfold xG ye at I;go_wp2_with fail;refine(I.out z).mono ?_;rintro e m ⟨rfl,J,v2,Z,Y,K,db⟩;have dj:=h_ (HS.next bS.out H4.out (bR.trans (z.2.mono bR.size)) IG.out J (Z.trans W.1) (Y.trans W.2) (by rw[<-Se.out,<-AB.out,Ol.out];exact K) db);clear J Z Y K db I;go_wp2;refine T_ ?_;rw[ur];refine xAz [11,12] [13,14] 0 (λw'=>w'=m) rfl ?_;simp only[o_]
     repeat (go_big_quiet_step (fail))
     refine wpQuiet_nil ?_;refine xB0 true rfl (by kernel_rfl) ?_;go_wp2;refine⟨λ_=>rfl,xCo ?_⟩;simp only[o_];go_wp2;refine T_ ?_;rw[ur];refine kB ?_;have mQ:=cell_of_row m (w.heap.size+1+1) 3 _ _ _ dj.1;have ir:=frozen_of_row m (w.heap.size+1+1) 3 _ _ dj.1;simp only[v_]at mQ;rw[<-Vy.out]at mQ;go_wp2;rw[iM.out];go_roundw
     case rel=>exact⟨i+1,by go_num,fp,h_ dj.2⟩
     case measure=>simp[intOf];omega
    ·obtain rfl:i=k+1:=by omega
     obtain⟨v1,O,FI,T,P⟩:=HS.at';have dW:R.take (k+1)=R:=by grind
     rw[dW]at T;obtain⟨_,S,mV,_⟩:=PD.puts_up (R.flatMap (xJ sha)) d (j.area*(n/2)) HU.out;have H:=xI0 T S.1;rw[O]at H;have nL:=h_ H;have Bh:=(i_ Lk.out).1;have M:=(HS.mid w.heap.size (λC=>W9 _ (bS.out _ C)) (by omega) (by omega)).trans cW.out;have c0:=cell_of_row wr w.heap.size 0 _ _ _ M;unfold xG at c0;simp only[v_]at c0;have A:vV R (k+1)=(j.secs sha).length:=by grind [vV]
     have ol:=h_ A;have IG:=h_ P;have W:=h_ (And.intro O FI);have HUP:=h_ S;clear H M A P O FI S mV T dW;go_wp2_with fail;refine nL.mono ?_;rintro e m ⟨rfl,J,v2,Z,Y,K,db⟩;rw[xM2 HUP.out]at K⊢;simp only at K;have mB:∀g,w.heap.size<=g->g<E.heap.size->g∉v1.foot:=λg fP hg2 C=>by grind
     have aV:=HS.sz;have sT:=(J.block _ (b7 (show w.heap.size+1+1<E.heap.size from Bh) aV) (mB _ (by omega) Bh)).trans HS.x;have eX:m.heap[w.heap.size+1]?=some (.cells zSta 159 (0,0)):=(J.block _ (b7 (show w.heap.size+1<E.heap.size by omega) aV) (mB _ (by omega) (by omega))).trans ((HS.mid _ (λC=>by have:=bS.out _ C;omega) (by omega) (by omega)).trans FW.out);rw[ol.out]at sT;have rx:=xF (n:=4) sT rfl;have rx1:=rx.1;have rx2:=rx.2;have aY:xN m (w.heap.size+1) 4=true:=by unfold xN;rw[eX];rfl
     obtain⟨ul,Eb⟩:∃ul,ul=(j.secs sha).length:=⟨_,rfl⟩;rw[<-Eb]at rx2;have Vh:=jV gen first (.slice ea k ec) ul rfl;have HR:=h_ (xF (n:=4) (setRow_heap m (w.heap.size+1) _ #[.int .i64 gen,.int .i64 first,.slice ea k ec,.int .i64 ul] _ _ eX) rfl);have iI:∀q∈v2.foot,q∈v.foot\/E.heap.size<=q:=λq hq=>by grind
     have aC:=h_ (show xCg D v d j (.slice ea k ec) w (.returned (.tuple #[.agg #[.int .i64 gen,.int .i64 first,.slice ea k ec,.int .i64 ul],.int .i64 0])) (m.setRow (w.heap.size+1) #[.int .i64 gen,.int .i64 first,.slice ea k ec,.int .i64 ul])from by
      refine⟨by rw[Eb,Vs.out,IV.out],?_,v2,Z.trans W.1,Y.trans W.2,?_,λq hq=>?_⟩
      ·refine(HS.kept.trans J (λq hq=>?_)).trans (jP m (w.heap.size+1) _) (λq hq=>.inr (by rw[S_.1 hq];omega));rcases IG.out q hq with h1|h1
       ·exact .inl h1
       ·exact .inr (by omega)
      ·rw[<-HN.out,FX.out];refine K.keep (by simp[World.setRow]) λq hq=>setRow_other _ _ _ _ ?_
       rcases iI q hq with h1|h1
       ·have:=bS.out q h1;omega
       ·omega
      ·rcases iI q hq with h1|h1
       ·exact .inl h1
       ·exact .inr (by omega))
     clear sT eX rx J Z Y K db mB Eb nL c0 iI;go_wp2;exact bodyPost_ret (v:=.tuple #[.agg #[.int .i64 gen,.int .i64 first,.slice ea k ec,.int .i64 ul],.int .i64 0]) (uR rfl isAgg159 sizeOf159 _ _ ⟨w.heap.size+1,0,none⟩ _ _ rfl rfl HR.1 HR.2) rfl aC.out
end
section
attribute [local go_sem ↓] zS zI
attribute [local go_sem] xAp xAn zr yA yz xh xg xe xd xx xy xk xj xq xB xw
def yIr (D:Nat)(v:Dev)(d':PD)(w w':World):Prop:=Kept v.foot w w'/\∃v',v'.p=v.p/\v'.M=v.M/\yj D w' v' d'/\∀k∈v'.foot,k∈v.foot\/w.heap.size<=k
theorem xXv {D w v d}(h:yj D w v d)(j:d.Up)(hK:qI w)(I:8<=d.n)(Q:d.pend=[])(J:∀s,s<d.n->decP sha (d.vis s)=none)(X:D<=w.heap.size)(C_:4<D):
  Calls prog 44 #[.pointer (some ⟨v.p,0,none⟩),.int .i64 0,.int .i64 d.n] w λe w'=>e=.returned (.int .i64 0)/\yIr D v (d.puts 0 (zK.secs sha)).1.flushed w w':=by
 obtain⟨g,f⟩:∃g,g=w.alloc (.cells (xG v.p d.n) 156):=⟨_,rfl⟩;have z:Below w.heap.size w g:=by grind
 have k:g.heap[w.heap.size]?=some (.cells (xG v.p d.n) 156 (0,0)):=by grind
 have i:=h_ (xFc (h.below z) I);rw[j.1]at i;have G:genK d 0 d.n=0:=xJ1 sha d.n d 0 J;have r:Hid (∀W,Below w.heap.size w W->Calls prog 73 #[.agg (xG v.p d.n),.int .i64 0] W λe w'=>Below W.heap.size W w'/\e=.returned (.tuple #[.int .i64 0,.int .i64 0])):=h_ λW c=>by
  have:=xP2 (h.below c) j.1 (hK.below c (w_ _)) 0 (by omega) (by rw[G];decide);grind
 have N:zK.Ok:=⟨rfl,by decide,by decide,by decide,by decide,λb c=>by simp[zK]at c⟩;have P:(zK.secs sha).length<=d.n/2:=by grind [uv,zK,j1]
 have l:Hid (∀W,Below w.heap.size w W->Calls prog 74 #[.agg (xG v.p d.n),.int .i64 0,.int .i64 0,.int .i64 0,.slice none 0 0] W (xCg D v d zK (.slice none 0 0) W)):=h_ λW c=>
  xLr (B:=w.heap.size) (h.below c) j (hK.below c (w_ _)) zK N rfl (.slice none 0 0) [] (EnAt.nil W w.heap.size) c.size (λx hx=>by cases hx) P (by rw[Q];exact n3 _) (R_ X c.size) (by decide) C_
 obtain⟨n,m⟩:∃n,n=d.n:=⟨_,rfl⟩;have O:=h_ z;rw[<-m]at f i r l k⊢;have HN:=h_ m;have M:=h_ k;obtain⟨o1,a⟩:=xF (n:=3) k rfl;have Z:xt 3 (xG v.p n)=true:=by simp[xG,xt,Value.oneCell']
 unfold xG at f i r l a Z;rw[f]at o1 a;clear h j hK I Q J G N P m z k;go_enter func44,ntmps44;go_wp2_with fail;rw[<-f];clear f o1 a;refine i.mono ?_;rintro e V ⟨rfl,y⟩;unfold xZv;have t:=h_ (O.trans (y.mono O.size));have C:=(y.block _ (i_ M.out).1).trans M.out;have H:=h_ C;obtain⟨o1,a⟩:=xF (n:=3) C rfl;unfold xG at a;clear y C;go_wp2_with fail;refine(r.out V t.out).mono ?_;rintro e U ⟨u,rfl⟩;have A:=h_ (t.trans (u.mono t.size));have L:=(u.block _ (i_ H.out).1).trans H.out;clear o1 a;obtain⟨o1,a⟩:=xF (n:=3) L rfl;unfold xG at a;clear u L;go_wp2_with fail;refine(l.out U A.out).mono ?_;rintro e T ⟨rfl,K,v',R,E,o,S⟩
 have aC:=h_ (show yIr D v (d.puts 0 (zK.secs sha)).1.flushed w T from ⟨(Kept.of_below (F:=v.foot) A.out).trans K (λq hq=>.inl hq),v',R,E,by
  have Y:zK.area*(d.n/2)=0:=by show 0*_=0;rw[az_]
  rw[Y]at o;exact o,λq hq=>by
  rcases S q hq with h1|h1
  ·exact .inl h1
  ·exact .inr (R_ A.size h1)⟩)
 clear K R E o S o1 a;go_wp2;go_ret;exact⟨rfl,aC.out⟩
end
section
def xX (p n:Nat)(area gen first:Nat)(ev:Value)(used:Nat)(sy fa:Int):Array Value:=#[.pointer (some ⟨p,0,none⟩),.int .i64 0,.int .i64 n,.int .i64 area,.int .i64 gen,.int .i64 first,ev,.int .i64 used,.int .i64 sy,.int .i64 fa]
attribute [local go_sem ↓] zS zI
attribute [local go_sem] xAp xAn zr yA yz xh xg xe xd xx xy xk xj
theorem xR8 {w b p n area gen first used ev sy fa}(h:w.heap[b]?=some (.cells (xX p n area gen first ev used sy fa) 161 (0,0))):xp w ⟨b,0,none⟩ 3=true/\xo w ⟨b,0,none⟩ 3=xG p n:=by
 have:=yl (w:=w) (a:=⟨b,0,none⟩) (cs:=[.pointer (some ⟨p,0,none⟩),.int .i64 0,.int .i64 n]) (λj v c=>by
  rw[l8,cell_of_row _ _ _ _ _ _ h]
  match j,c with
  |0,c=>exact c
  |1,c=>exact c
  |2,c=>exact c)
 exact this
theorem jR {w b p n area gen first used ev sy fa}(h:w.heap[b]?=some (.cells (xX p n area gen first ev used sy fa) 161 (0,0))):
  Calls prog 26 #[.pointer (some ⟨b,0,none⟩)] w λe w'=>e=.returned (.int .i64 fa)/\w=w':=by
 have a:=cell_of_row w b 9 _ _ _ h;simp only[xX,v_]at a;clear h;go_enter func26,ntmps26;go_wp2;go_ret;exact⟨rfl,rfl⟩
theorem xD8 {w:World}{b p n area gen first used:Nat}{ea k ec sy fa}(h:w.heap[b]?=some (.cells (xX p n area gen first (.slice ea k ec) used sy fa) 161 (0,0)))(d:first<=2147483647)(c:k<=2147483647):
  Calls prog 86 #[.pointer (some ⟨b,0,none⟩)] w λe w'=>e=.returned (.int .i64 ((first:Int)+k))/\∃m,w'=w.drewN m:=by
 have c5:=cell_of_row w b 5 _ _ _ h;have a:=cell_of_row w b 6 _ _ _ h;simp only[xX,v_]at c5 a;have f:(first:Int)<=2147483647:=by omega
 have g:(k:Int)<=2147483647:=by omega
 clear h;go_enter func86,ntmps86;go_upto_region 3 with fail
 go_quiet (fail);clear c5 a;go_wp2;go_ret;exact⟨rfl,_,rfl⟩
theorem xP3 (n:Nat)(w)(c:n<=100000):Calls prog 76 #[.int .i64 n] w λe w'=>e=.returned (.tuple #[.int .i64 (y6 n:Nat),.int .i64 0])/\w=w':=by
 have b:(n:Int)<=100000:=by omega
 have a:=h_ (xUg n w (by omega));go_enter func76,ntmps76;go_wp2_with fail;refine a.mono ?_;rintro e w' ⟨rfl,rfl⟩;go_wp2;go_ret2;exact⟨rfl,rfl⟩
theorem xHy {w b p n area gen first used ev sy fa}(h:w.heap[b]?=some (.cells (xX p n area gen first ev used sy fa) 161 (0,0)))(l:n<=4096)(k:used<=n/2):
  Calls prog 49 #[.pointer (some ⟨b,0,none⟩)] w λe w'=>e=.returned (.int .i64 (n/2-used:Nat))/\Below w.heap.size w w':=by
 have d:=cell_of_row w b 7 _ _ _ h;simp only[xX,v_]at d;have g:∀z:xf w,z.1.cell? ⟨b,7,none⟩=some (.int .i64 used):=by grind
 obtain⟨o1,i⟩:=xR8 h;have f:∀z:xf w,xp z.1 ⟨b,0,none⟩ 3=true:=λz=>xf.ok o1 z
 have z3:∀z:xf w,xo z.1 ⟨b,0,none⟩ 3=xG p n:=by grind [xf.rd]
 obtain⟨m,a⟩:∃m,m=n/2:=⟨_,rfl⟩;have z4:∀z:xf w,Calls prog 88 #[.agg (xG p n)] z.1 λe w'=>e=.returned (.int .i64 m)/\∃z':xf w,w'=z'.1:=λz=>xf.call ((xE2 p n l z.1).mono λe w' ⟨h1,h2⟩=>⟨by rw[h1,a],h2⟩)
 have c:=h_ z4;rw[<-a]at k⊢;have q:(m:Int)<=4096:=by omega
 have o:(m:Int)-(used:Int)=((m-used:Nat):Int):=by omega
 have j:(used:Int)<=4096:=by omega
 unfold xG at z3 c;clear z4 h d o1 i a;go_enter func49,ntmps49;go_upto_region 3 with fail
 refine uO ?_;refine xAy [0,1,2,3,4,5,6,7,8,9] [10,11] 0 (λw'=>∃z:xf w,w'=z.1) ⟨⟨_,(z_ _ _).drew⟩,rfl⟩ ?_;simp only[o_]
 repeat (go_big_quiet_step (first|(go_at_call 88;exact c.out _)))
 refine wpQuiet_nil ?_;rintro _ ⟨z,rfl⟩;clear g f z3 c;refine xCo ?_;simp only[o_];go_wp2;refine T_ ?_;rw[ur];refine kB ?_;go_wp2;go_ret;exact⟨rfl,z.2⟩
end
section
attribute [local go_sem ↓] zS zI jT j9
attribute [local go_sem] xAp xAn xLm xKn zr zx yA yz xh xg xe xd xx xy xk xj xq xB xw
theorem yJ2 (w b p n area gen first ev used sy fa)(a c u2:Nat)(x m k)(h:w.heap[b]?=some (.cells (xX p n area gen first ev used sy fa) 161 (0,0))):
  yi prog 159 w (.pointer (some ⟨b,4,none⟩)) (.agg #[.int .i64 a,.int .i64 c,.slice x m k,.int .i64 u2])=.ok .skip (w.setRow b (xX p n area a c (.slice x m k) u2 sy fa)):=by
 have:=ks sizeOf159 w b 4 [.pointer (some ⟨p,0,none⟩),.int .i64 0,.int .i64 n,.int .i64 area,.int .i64 gen,.int .i64 first,ev,.int .i64 used,.int .i64 sy,.int .i64 fa] _ h [.int .i64 a,.int .i64 c,.slice x m k,.int .i64 u2] rfl (by simp) (λy hy=>by simp at hy;rcases hy with rfl|rfl|rfl|rfl <;> rfl);exact this
noncomputable def movJ (n:Nat)(d:PD)(j:PJ)(fi:Nat)(L:List By):PJ:=⟨1-j.area,xJ2 sha n d (1-j.area),fi,L.length,L⟩
theorem yHg {n d j}(h:JRec sha n d j)(a:j.gen+2<=2147483647){fi L}(c:fi<=2147483647)(hl:L.length<2147483647)(e:∀b∈L,b.length<=131072):(movJ n d j fi L).Ok/\(movJ n d j fi L).gen<=j.gen+2:=by
 have ha:=h.ok.area;obtain⟨g1,_,g3⟩:=xHr sha n d (show 1-j.area<2 by omega);have g4:=g3 j.gen h.le;exact⟨⟨g1,R_ g4 a,c,hl,w_ _,e⟩,g4⟩
def xEg (D b:Nat)(v:Dev)(d:PD)(j:PJ)(ev:Value)(w:World)(e:Ending)(w':World):Prop:=
 e=.returned (.int .i64 0)/\Kept (b :: v.foot) w w'/\w'.heap[b]?=some (.cells (xX v.p d.n j.area j.gen j.first ev (j.secs sha).length ((j.first:Int)+j.entries.length) 0) 161 (0,0)) /\
 ∃v',v'.p=v.p/\v'.M=v.M/\yj D w' v' (d.puts (j.area*(d.n/2)) (j.secs sha)).1.flushed/\∀k∈v'.foot,k∈v.foot\/w.heap.size<=k
theorem yBm {D B b w v d}(h:yj D w v d)(R:d.Up)(hK:qI w)(j)(bk:JRec sha d.n d j)(t:j.gen+2<=2147483647)(fi:Nat)(O:fi<=2147483647)(L)(hL:∀b∈L,b.length<=131072)(Sp:1+j1 L<=d.n/2)(ev vs)(dY:EnAt w B ev L vs)(hB:B<=w.heap.size)
  (ep:∀x∈vs,∀k,x.ownBlock=some k->k∉v.foot) (aX:d.pend.length<=900000) (hD:D<=w.heap.size) (an:L.length<=1000) (C_:4<D) (l:b∉v.foot) (E G) (H) (u0) (s0) (r:w.heap[b]?=some (.cells (xX v.p d.n j.area E G H u0 s0 0) 161 (0,0))):
  Calls prog 56 #[.pointer (some ⟨b,0,none⟩),.int .i64 fi,ev] w (xEg D b v d (movJ d.n d j fi L) ev w):=by
 obtain⟨ea,ec,gG⟩:=yK dY.own;obtain⟨ln,I⟩:∃ln,ln=L.length:=⟨_,rfl⟩;rw[<-I]at gG an;subst gG;obtain⟨ho,Om⟩:=yHg bk t O (show L.length<2147483647 by omega) hL;have ha:=bk.ok.area;have hf:=O;obtain⟨J,hJ⟩:∃J,J=movJ d.n d j fi L:=⟨_,rfl⟩;obtain⟨c,Ac⟩:∃c,c=J.area:=⟨_,rfl⟩;obtain⟨a,Vz⟩:∃a,a=J.gen:=⟨_,rfl⟩;obtain⟨fr,Q⟩:∃fr,fr=fi:=⟨_,rfl⟩;have y:J.first=fr:=by rw[hJ,Q];rfl
 have M:J.entries=L:=by rw[hJ];rfl
 have A:J.carried=J.entries.length:=by rw[hJ];rfl
 have FZ:c=1-j.area:=by rw[Ac,hJ];rfl
 have mC:genK d c d.n=a:=by rw[Vz,FZ,hJ];rfl
 rw[<-hJ]at ho Om⊢;have dI:a<=2147483647:=by omega
 have K:(J.secs sha).length<=d.n/2:=by grind [uv]
 have aF:=h.n2;have Z:Hid (∀W,Below w.heap.size w W->Calls prog 73 #[.agg (xG v.p d.n),.int .i64 c] W λe w'=>Below W.heap.size W w'/\e=.returned (.tuple #[.int .i64 a,.int .i64 0])):=h_ λW l=>by
  have:=xP2 (h.below l) R.1 (hK.below l (w_ _)) c (by rw[FZ];omega) (by rw[mC];exact dI);grind
 have N:Hid (∀W,Below w.heap.size w W->Calls prog 74 #[.agg (xG v.p d.n),.int .i64 c,.int .i64 a,.int .i64 fr,.slice ea ln ec] W (xCg D v d J (.slice ea ln ec) W)):=h_ λW l=>by
  have:=xLr (B:=B) (h.below l) R (hK.below l (w_ _)) J ho A (.slice ea ln ec) vs (by rw[M];exact dY.later l) (R_ hB l.size) ep K aX (R_ hD l.size) (by rw[M,<-I];exact an) C_;grind
 have On:=(i_ r).1;have aU:=h.foot_lt;obtain⟨n,T⟩:∃n,n=d.n:=⟨_,rfl⟩;obtain⟨ul,Eb⟩:∃ul,ul=(J.secs sha).length:=⟨_,rfl⟩;rw[<-Q]at hf⊢;rw[<-T]at aF r Z N K;rw[<-Eb]at K;have nG:(1:Int)-(j.area:Int)=(c:Int):=by omega
 have NM:(j.area:Int)<=1:=by omega
 have ha2z:(c:Int)<=1:=by omega
 have Ob:(a:Int)<=2147483647:=by omega
 have fo:(fr:Int)<=2147483647:=by omega
 have Nt:(ln:Int)<=1000:=by omega
 have bF:=h_ r;have HB:=h_ l;have bS:=h_ aU;have HN:=h_ T;have C:=h_ Eb;have pU:=h_ Ac;have FG:=h_ Vz;have Sq:=h_ y;have iY:=h_ (show J.entries.length=ln by rw[M,I]);have c3:=cell_of_row w b 3 _ _ _ r;simp only[xX,v_]at c3;obtain⟨o1,s⟩:=xR8 r;unfold xG at s Z N;clear h R hK bk t O hL Sp dY hB ep aX I hJ Ac Vz Q y M A FZ mC ho Om K T Eb r l aU;go_enter func56,ntmps56;go_wp2_with fail;refine(Z.out w (z_ _ _)).mono ?_;rintro e w2 ⟨ai,rfl⟩;have aE:=(ai.block _ On).trans bF.out;have ld:=h_ aE;have ax:=h_ ai;clear o1 s c3;obtain⟨o1,s⟩:=xR8 aE;unfold xG at s;clear aE ai;go_wp2_with fail;refine(N.out w2 ax.out).mono ?_;rintro e i ⟨rfl,dd,v',Ed,sQ,fB,CW⟩;rw[<-FG.out,Sq.out,<-C.out];have n_:=(dd.block b (b7 On ax.size) HB.out).trans ld.out;have wO:=h_ dd;have HD4:=h_ fB;have KV:=h_ CW;have iE:=h_ (And.intro Ed sQ);have Ee:b<i.heap.size:=by grind
 have ir:=jV a fr (.slice ea ln ec) ul rfl;obtain⟨f,cC⟩:∃f,f=i.alloc (.cells #[.int .i64 a,.int .i64 fr,.slice ea ln ec,.int .i64 ul] 159):=⟨_,rfl⟩;have aO:Below i.heap.size i f:=by grind
 have U:f.heap[i.heap.size]?=some (.cells #[.int .i64 a,.int .i64 fr,.slice ea ln ec,.int .i64 ul] 159 (0,0)):=by grind
 have pO:=(aO.block b Ee).trans n_;clear o1 s dd Ed sQ fB CW;go_upto_region 8 with fail
 refine xm cC ?_;clear cC ir;have z1:∀z:StC i.heap.size #[.int .i64 a,.int .i64 fr,.slice ea ln ec,.int .i64 ul],xp z.1 ⟨i.heap.size,0,none⟩ 4=true:=λz=>(xF (n:=4) z.2 rfl).1
 have z2:∀z:StC i.heap.size #[.int .i64 a,.int .i64 fr,.slice ea ln ec,.int .i64 ul],xo z.1 ⟨i.heap.size,0,none⟩ 4=#[.int .i64 a,.int .i64 fr,.slice ea ln ec,.int .i64 ul]:=λz=>(xF (n:=4) z.2 rfl).2
 haveI:Nonempty (StC i.heap.size #[.int .i64 a,.int .i64 fr,.slice ea ln ec,.int .i64 ul]):=⟨⟨_,U⟩⟩
 have P:=h_ U;have q_:=h_ pO;have bR:=h_ aO;clear U pO aO n_;refine xz [0,1,2,3] [4,5,6,7,8,9] (λw'=>∃z:StC i.heap.size #[.int .i64 a,.int .i64 fr,.slice ea ln ec,.int .i64 ul],w'=z.1) ⟨⟨f.drew,P.out⟩,rfl⟩ ?_;simp only[o_]
 repeat (go_big_quiet_step (fail))
 refine wpQuiet_nil ?_;clear z1 z2;have Y:f.drew.heap[b]?=some (.cells (xX v.p n j.area E G H u0 s0 0) 161 (0,0)):=q_.out;have c3:=cell_of_row f.drew b 3 _ _ _ Y;have f3:=frozen_of_row f.drew b 3 _ _ Y;simp only[xX,v_]at c3;have S:i.heap.size≠b:=by omega
 have X:(f.setCell ⟨b,3,none⟩ (.int .i64 c)).drew.heap[b]?=some (.cells (xX v.p n c E G H u0 s0 0) 161 (0,0)):=by show (f.setCell ⟨b,3,none⟩ (.int .i64 c)).heap[b]?=_;rw[heap_setCell_same f b 3 _ _ _ q_.out];rfl
 have sT:(f.setCell ⟨b,3,none⟩ (.int .i64 c)).drew.heap[i.heap.size]?=some (.cells #[.int .i64 a,.int .i64 fr,.slice ea ln ec,.int .i64 ul] 159 (0,0)):=by grind
 have tI:=yJ2 _ b v.p n c E G H u0 s0 0 a fr ul ea ln ec X;have o:=setRow_heap (f.setCell ⟨b,3,none⟩ (.int .i64 c)).drew b _ (xX v.p n c a fr (.slice ea ln ec) ul s0 0) _ _ X;have HX7:=h_ sT;have Dc:=h_ o;obtain⟨g,V⟩:∃g,g=(f.setCell ⟨b,3,none⟩ (.int .i64 c)).drew.setRow b (xX v.p n c a fr (.slice ea ln ec) ul s0 0):=⟨_,rfl⟩;have IX:=h_ V;rw[<-V]at tI;clear Y X sT o V S;refine yo true ?_;simp only[o_];go_wp2;refine⟨λ_=>⟨⟨f.drew,P.out⟩,rfl⟩,yo true ?_⟩;simp only[o_];go_wp2;refine⟨λ_=>⟨⟨f.drew,P.out⟩,rfl⟩,yo true ?_⟩;simp only[o_];go_wp2;refine⟨λ_=>⟨⟨_,HX7.out⟩,rfl⟩,yE ?_⟩;simp only[o_];go_wp2;refine T_ ?_;have Oo:g.heap[b]?=some (.cells (xX v.p n c a fr (.slice ea ln ec) ul s0 0) 161 (0,0)):=by grind
 have HR7W:=h_ Oo;have Ig:=h_ (xD8 Oo (by omega) (by omega));clear tI c3 f3;go_wp2_with fail;refine Ig.mono ?_;rintro e w8 ⟨rfl,m,rfl⟩;have o:(g.drewN m).heap[b]?=some (.cells (xX v.p n c a fr (.slice ea ln ec) ul s0 0) 161 (0,0)):=by grind
 have c8:=cell_of_row (g.drewN m) b 8 _ _ _ o;have f8:=frozen_of_row (g.drewN m) b 8 _ _ o;simp only[xX,v_]at c8;have sU:((g.drewN m).setCell ⟨b,8,none⟩ (.int .i64 ((fr:Int)+ln))).heap[b]?=some (.cells (xX v.p n c a fr (.slice ea ln ec) ul ((fr:Int)+ln) 0) 161 (0,0)):=by rw[heap_setCell_same _ b 8 _ _ _ o];rfl
 have dO:Kept [b] f g:=by grind
 have AS:Kept (b :: v.foot) w ((g.drewN m).setCell ⟨b,8,none⟩ (.int .i64 ((fr:Int)+ln))):=by grind
 have lU:b∉v'.foot:=by grind
 have u:yj D ((g.drewN m).setCell ⟨b,8,none⟩ (.int .i64 ((fr:Int)+ln))) v' (d.puts (J.area*(d.n/2)) (J.secs sha)).1.flushed:=by
  have k3:=((Kept.of_below (F:=[b]) bR.out).trans dO (λq hq=>.inl hq)).trans (Kept.of_below (F:=[]) (y9 (z_ _ g) m)) (λq hq=>by cases hq);have k4:=k3.trans (qC (g.drewN m) b 8 (.int .i64 ((fr:Int)+ln))) (λq hq=>.inl hq);exact HD4.kept k4 (λq hq hm=>lU (by rw[S_.1 hm]at hq;exact hq))
 have aC:=h_ (show xEg D b v d J (.slice ea ln ec) w (.returned (.int .i64 0)) ((g.drewN m).setCell ⟨b,8,none⟩ (.int .i64 ((fr:Int)+ln))) from
  ⟨rfl,AS,by rw[<-pU.out,<-FG.out,Sq.out,<-C.out,iY.out,<-HN.out];exact sU,v',iE.1,iE.2,u,λq hq=>by
   rcases KV.out q hq with h1|h1
   ·exact .inl h1
   ·exact .inr (R_ ax.size h1)⟩)
 clear o sU dO AS lU u;go_wp2;go_ret;exact aC.out
theorem xXu {D B b w v d}(h:yj D w v d)(f:d.Up)(hK:qI w)(j)(a:JRec sha d.n d j)(c:j.gen+2<=2147483647)(ev vs)(e:EnAt w B ev j.entries vs)(o:B<=w.heap.size)
  (q:∀k∈v.foot,k<B) (t:d.pend=[]) (m:D<=w.heap.size) (r:j.entries.length<=1000) (u:4<D) (l:b∉v.foot) (s:w.heap[b]?=some (.cells (xX v.p d.n j.area j.gen j.first ev 0 0 0) 161 (0,0))):
  Calls prog 56 #[.pointer (some ⟨b,0,none⟩),.int .i64 j.first,ev] w (xEg D b v d (kK sha d.n d j) ev w):=
 yBm h f hK j a c j.first a.ok.first j.entries a.ok.ents a.fit ev vs e o (λx hx k i g=>by have:=(e.blk x hx k i).1;have:=q k g;omega) (by rw[t];exact n3 _) m r u l j.gen j.first ev 0 0 s
end
structure JAt (D:Nat)(w:World)(b:Nat)(v:Dev)(d:PD)(j:PJ)(es:List Nat)(sy fa:Int):Prop where
 ex:∃ev vs,w.heap[b]?=some (.cells (xX v.p d.n j.area j.gen j.first ev (j.secs sha).length sy fa) 161 (0,0))/\EnAt w D ev j.entries vs/\(∀k,ev.ownBlock=some k->k∈es)/\∀x∈vs,∀k,x.ownBlock=some k->k∈es
 dev:yj D w v d
 inv:JInv sha d.n d j
 up:d.down=false
 bB:D<=b
 bv:b∉v.foot
 es_:∀k∈es,D<=k/\k<w.heap.size/\k≠b/\k∉v.foot
theorem JAt.blt {D w b v d j es sy fa}(h:JAt D w b v d j es sy fa):b<w.heap.size:=by
 obtain⟨ev,vs,h1,_⟩:=h.ex;grind
theorem EnAt.kept {w w' F B v L vs}(h:EnAt w B v L vs)(b:Kept F w w')(d:∀k∈F,v.ownBlock≠some k/\∀x∈vs,x.ownBlock≠some k):EnAt w' B v L vs:=
 ⟨yf h.own b (λk a=>(d k a).1),h.len,λi c=>⟨yf (h.el i c).1 b (λk a=>(d k a).2 _ (L3 _)),(h.el i c).2⟩⟩
theorem Tryz.info_ent:(prog.info? 169).map (λi=>(i.zero,i.size,i.bytes))=some (some (.agg #[.int .i64 0,.slice none 0 0]),2,32):=by kernel_rfl
def uD (k:Int)(v:Value):List Value:=[.int .i64 k,v]
def j7:List (Int×By×Value)->List Value:=List.flatMap λx=>uD x.1 x.2.2
theorem xRh (l)(x:Int×By×Value):j7 (l++[x])=j7 l++uD x.1 x.2.2:=by simp[j7]
theorem xJa:∀(l:List (Int×By×Value)) (j:Nat) (a:j<l.length) (i:Nat),i<2->(j7 l)[j*2+i]?=(uD l[j].1 l[j].2.2)[i]?
 |[],j,a,_,_=>by cases a
 |x :: l,0,_,i,b=>by
  have e:j7 (x :: l)=uD x.1 x.2.2++j7 l:=rfl;rw[e,az_,m0,I3 (by simpa[uD]using b)];rfl
 |x :: l,j+1,a,i,b=>by
  have e:j7 (x :: l)=uD x.1 x.2.2++j7 l:=rfl;rw[e,M1 (by simp[uD];omega),show (uD x.1 x.2.2).length=2 from rfl,show (j+1)*2+i-2=j*2+i by omega];exact xJa l j (by simpa using a) i b
structure JeAt (w:World)(B:Nat)(v:Value)(l:List (Int×By×Value)):Prop where
 own:w.ownsRow B 169 2 v l.length (j7 l)
 el:∀x∈l,OwnB w B x.2.2 x.2.1/\x.2.2≠.slice none 0 0/\∀k,x.2.2.ownBlock=some k->v.ownBlock≠some k
theorem JeAt.nil (w B):JeAt w B (.slice none 0 0) []:=⟨D1 _ _ _ _,λx hx=>by cases hx⟩
theorem JeAt.later {w w' B v l}(h:JeAt w B v l)(a:Below w.heap.size w w'):JeAt w' B v l:=
 ⟨kv h.own λg _ b=>a.block g b,λx hx=>⟨(h.el x hx).1.below a,(h.el x hx).2⟩⟩
theorem JeAt.base {w B B' v l}(h:JeAt w B v l)(a:B'<=B):JeAt w B' v l:=
 ⟨⟨h.own.1,h.own.2.imp (λh=>h) λ⟨g,cap,cur,hv,b,r⟩=>⟨g,cap,cur,hv,R_ a b,r⟩⟩,λx hx=>⟨(h.el x hx).1.base a,(h.el x hx).2⟩⟩
theorem JeAt.get {w B v l}(h:JeAt w B v l)(j)(d:j<l.length):∃g cap gp pcap,v=.slice (some ⟨g,0,none⟩) l.length cap/\l.length<=cap /\
  (∀i u,(uD l[j].1 (.slice (some ⟨gp,0,none⟩) l[j].2.1.length pcap))[i]?=some u->w.cell? ⟨g,j*2+i,none⟩=some u) /\
  gp<w.heap.size/\l[j].2.1.length<=pcap/\pcap<=maxLen/\SlB w ⟨gp,0,none⟩ l[j].2.1:=by
 obtain⟨h1,h2,_⟩:=h.el l[j] (L3 d);rcases h1.at with⟨a,_⟩|⟨gp,pcap,hx,_,hl,c,hs⟩
 ·exact absurd a h2
 rcases h.own.2 with⟨_,a⟩|⟨g,cap,cur,hv,k,o,e,n,p,m⟩
 ·omega
 ·refine⟨g,cap,gp,pcap,hv,e,λi u b=>?_,(h1.lt (by rw[hx];rfl)).2,hl,c,hs⟩;have f:i<2:=(L7.1 b).1;have q:(j7 l)[j*2+i]?=some u:=by grind [xJa]
  grind
theorem xKe {rest ops o a}{Q:Exit->Act->World->Prop}{w}(c:o.guard=none)(s x)
  (ho:o.op=.call { callee:=.builtin .append,args:=#[s,x],argTypes:=#[117,117] }) (B) (v) (l) (hs:a.eval s=v) (f:JeAt w B v l)
  (r:Int×By×Value) (C:OwnB w B r.2.2 r.2.1/\r.2.2≠.slice none 0 0/\∀k,r.2.2.ownBlock=some k->v.ownBlock≠some k) (z:r.2.2.oneCell'=true) (ad) (hx:a.eval x=.slice (some ad) 1 1)
  (n:∀j u,(uD r.1 r.2.2)[j]?=some u->w.cell? (ad.add j)=some u) (E:l.length<=1000000) (p:B<=w.heap.size)
  (h:∀v' w',JeAt w' B v' (l++[r])->w.grownBy w' v.ownBlock->(v'.ownBlock=v.ownBlock\/v'.ownBlock=some w.heap.size)->wpList prog ops Q rest (a.put o.dst v') w'):wpList prog ops Q (o :: rest) a w:=by
 obtain⟨i,m,q,A,t⟩:=info_parts Tryz.info_ent;refine wpList_append_own_at w c s x 117 ho B 169 i (.agg #[.int .i64 0,.slice none 0 0]) 2 32 underlying117 m q A t rfl (by decide) v l.length (j7 l) hs f.own ad 1 1 (uD r.1 r.2.2) hx rfl n (λu g=>?_) (by unfold maxLen;omega) (by omega) p λv' w' h1 h2 _ h4=>?_
 ·simp only[uD,g8,ak_,or_false]at g;rcases g with rfl|rfl <;> first|rfl|exact z
 ·refine h v' w' ⟨by rw[xRh];simpa using h1,λy hy=>?_⟩ h2 h4;have b:OwnB w B y.2.2 y.2.1/\y.2.2≠.slice none 0 0/\∀k,y.2.2.ownBlock=some k->v.ownBlock≠some k:=by
   rcases m3.1 hy with h|h
   ·exact f.el y h
   grind
  refine⟨b.1.grown h2 (λk e d=>b.2.2 k d e),b.2.1,λk e d=>?_⟩;rcases h4 with h|h
  ·exact b.2.2 k e (h▸d)
  ·have D:=(b.1.lt e).2;grind
section
attribute [local go_sem ↓] zS zI jT j9
attribute [local go_sem] xAp xAn xLm xKn zr zx yA yz xh xg xe xd xx xy xk xj xq xB xw
theorem JAt.kept {D w w' b v d j es sy fa F}(h:JAt D w b v d j es sy fa)(c:Kept F w w')(f:∀k∈F,k≠b/\k∉v.foot/\k∉es):JAt D w' b v d j es sy fa:=by
 obtain⟨ev,vs,i,h2,h3,h4⟩:=h.ex;have l:=(i_ i).1
 exact⟨⟨ev,vs,(c.block b l (λa=>(f b a).1 rfl)).trans i,h2.kept c (λk a=>⟨λe=>(f k a).2.2 (h3 k e),λx hx e=>(f k a).2.2 (h4 x hx k e)⟩),h3,h4⟩,h.dev.kept c (λk c a=>(f k a).2.1 c),h.inv,h.up,h.bB,h.bv,
  λk g=>⟨(h.es_ k g).1,b7 (h.es_ k g).2.1 c.size,(h.es_ k g).2.2⟩⟩
theorem JAt.below {D w w' b v d j es sy fa}(h:JAt D w b v d j es sy fa)(a:Below w.heap.size w w'):JAt D w' b v d j es sy fa:=
 h.kept (Kept.of_below (F:=[]) a) (λ_ h=>by cases h)
theorem yJq {D w v d}(h:yj D w v d)(l:d.down=true)(j:8<=d.n):
  Calls prog 33 #[.pointer (some ⟨v.p,0,none⟩),.int .i64 0,.int .i64 d.n] w λe w'=>e=.returned (.tuple #[.pointer none,.slice none 0 0,.int .i64 28])/\Below w.heap.size w w':=by
 obtain⟨b,a⟩:∃b,b=w.alloc (.cells (xG v.p d.n) 156):=⟨_,rfl⟩;have i:Below w.heap.size w b:=by grind
 have f:b.heap[w.heap.size]?=some (.cells (xG v.p d.n) 156 (0,0)):=by grind
 have c:=h_ (xFc (h.below i) j);rw[l]at c;obtain⟨n,k⟩:∃n,n=d.n:=⟨_,rfl⟩;have m:=h_ i;rw[<-k]at a c f⊢;have t:=h_ f;obtain⟨o1,g⟩:=xF (n:=3) f rfl;have r:xt 3 (xG v.p n)=true:=by simp[xG,xt,Value.oneCell']
 unfold xG at a c g r;rw[a]at o1 g;clear h l j k i f;go_enter func33,ntmps33;go_wp2_with fail;rw[<-a];clear a o1 g;refine c.mono ?_;rintro e s ⟨rfl,o⟩;unfold xZv;have q:=h_ (m.trans (o.mono m.size));clear o;go_wp2;go_ret3;exact⟨rfl,q.out⟩
theorem yBz (d:PD):d.flushed.n=d.n:=rfl
theorem xC0 {d:PD}(h:d.Up):d.flushed.Up:=h
def xPv (D:Nat)(v:Dev)(d:PD)(J:PJ)(w:World)(e:Ending)(w':World):Prop:=
 ∃b v' es entv l,e=.returned (.tuple #[.pointer (some ⟨b,0,none⟩),entv,.int .i64 0])/\Kept v.foot w w'/\JAt D w' b v' (d.puts (J.area*(d.n/2)) (J.secs sha)).1.flushed J es ((J.first:Int)+J.entries.length) 0/\w.heap.size<=b/\v'.p=v.p/\v'.M=v.M /\
 (∀k∈v'.foot,k∈v.foot\/w.heap.size<=k)/\(∀k∈es,w.heap.size<=k)/\JeAt w' w.heap.size entv l/\l.map (λx=>x.2.1)=J.entries
structure JoSt (w5:World)(first:Nat)(L:List By)(k:Nat)(rv:Value)(W:World):Prop where
 bel:Below w5.heap.size w5 W
 je:∃l,JeAt W w5.heap.size rv l/\l.map (λx=>x.2.1)=L.take k
theorem xLs {D w v d}(h:yj D w v d)(H:d.Up)(hK:qI w)(j)(B:JRec sha d.n d j)(r:j.gen+2<=2147483647)(aX:d.pend=[])(hD:D<=w.heap.size)(an:j.entries.length<=1000)(C_:4<D)(iB:8<=d.n):
  Calls prog 33 #[.pointer (some ⟨v.p,0,none⟩),.int .i64 0,.int .i64 d.n] w (xPv D v d (kK sha d.n d j) w):=by
 obtain⟨U,Q⟩:∃U,U=w.alloc (.cells (xG v.p d.n) 156):=⟨_,rfl⟩;have aa:Below w.heap.size w U:=by grind
 have ah:U.heap[w.heap.size]?=some (.cells (xG v.p d.n) 156 (0,0)):=by grind
 have Y:=h_ (xFc (h.below aa) iB);rw[H.1]at Y;have cU:Hid (∀W,Below w.heap.size w W->Calls prog 55 #[.agg (xG v.p d.n)] W (xWf d W)):=h_ λW t=>xRa (h.below t) H.1 (hK.below t (w_ _)) iB
 have aw:=B.cur sha
 have Sr:Hid (∀W b ev vs,Below w.heap.size w W->EnAt W w.heap.size ev j.entries vs->b∉v.foot->W.heap[b]?=some (.cells (xX v.p d.n j.area j.gen j.first ev 0 0 0) 161 (0,0))->Calls prog 56 #[.pointer (some ⟨b,0,none⟩),.int .i64 j.first,ev] W (xEg D b v d (kK sha d.n d j) ev W)):=h_ λW b ev vs t N bY hr=>
  xXu (h.below t) H (hK.below t (w_ _)) j B r ev vs N t.size (λk hk=>(h.foot_lt k hk).2) aX (R_ hD t.size) an C_ bY hr
 obtain⟨n,hn⟩:∃n,n=d.n:=⟨_,rfl⟩;have aq:=h_ aa;obtain⟨J,hJ⟩:∃J,J=kK sha d.n d j:=⟨_,rfl⟩;obtain⟨_,ru,_,rn,rinv⟩:=B.reopen sha yR H r;have rup:=(PD.puts_up ((kK sha d.n d j).secs sha) d ((1-j.area)*(d.n/2)) H).2.1;have HJA:Hid ((1-j.area)=J.area):=h_ (by rw[hJ];rfl);rw[<-hJ]at ru rn rinv rup Sr⊢;rw[HJA.out]at ru rn rinv rup;have HRE:=h_ (And.intro rn (And.intro rinv rup));have iY:Hid (J.entries=j.entries/\J.first=j.first):=h_ (by rw[hJ];exact⟨rfl,rfl⟩);have F0:=h_ aw;have HD:=h_ h;have IY:=h_ hD;have fo:(j.first:Int)<=2147483647:=by have:=B.ok.first;omega
 have NM:(j.area:Int)<=1:=by have:=B.ok.area;omega
 have Ob:(j.gen:Int)<=2147483647:=by have:=B.ok.gen;omega
 have Oq:=h_ B.ok.ents;have HN:=h_ hn;rw[<-hn]at Q Y ah cU Sr⊢;unfold xG at cU;have bF:=h_ ah;obtain⟨o1,G⟩:=xF (n:=3) ah rfl;have aU:xt 3 (xG v.p n)=true:=by simp[xG,xt,Value.oneCell']
 unfold xG at Q Y G aU;rw[Q]at o1 G;clear h iB hn aa ah hK H B r aX hD C_ aw hJ rn rinv rup ru;go_enter func33,ntmps33;go_wp2_with fail;rw[<-Q];clear Q o1 G;refine Y.mono ?_;rintro e w2 ⟨rfl,ai⟩;unfold xZv;have aE:=(ai.block _ (i_ bF.out).1).trans bF.out;have ld:=h_ aE;have ax:=h_ (aq.trans (ai.mono aq.size));obtain⟨o1,G⟩:=xF (n:=3) aE rfl;unfold xG at G;clear ai aE;go_wp2_with fail;refine(cU.out w2 ax.out).mono ?_;rintro e a ⟨ao,ca,cg,cf,cv,cc,rfl,Fd,pS⟩;have Ef:=pS.2;have VA:=Fd j F0.out;rw[F0.out]at Ef;obtain⟨rfl,rfl,rfl,vs,N⟩:=Ef;subst VA;obtain⟨ea,ec,gG⟩:=yK N.own;obtain⟨ln,di⟩:∃ln,ln=j.entries.length:=⟨_,rfl⟩;rw[<-di]at gG an;subst gG;have l_:=h_ di;have I:=h_ (ax.trans (ao.mono ax.size));have bW:=(ao.block _ (i_ ld.out).1).trans ld.out;have gK:=jV j.gen j.first (.slice ea ln ec) 0 rfl;obtain⟨s,E⟩:∃s,s=(a.alloc (.cells #[.int .i64 j.gen,.int .i64 j.first,.slice ea ln ec,.int .i64 0] 159)).alloc (.cells (xX v.p n j.area j.gen j.first (.slice ea ln ec) 0 0 0) 161):=⟨_,rfl⟩;have aO:Below a.heap.size a s:=by rw[E];exact((z_ _ _).alloc (w_ _) _).alloc (by simp) _
 have sO:s.heap.size=a.heap.size+2:=by rw[E];simp
 have gg:s.heap[a.heap.size]?=some (.cells #[.int .i64 j.gen,.int .i64 j.first,.slice ea ln ec,.int .i64 0] 159 (0,0)):=by
  rw[E,heap_alloc_old _ _ (by simp),heap_alloc_new]
 have rD:s.heap[a.heap.size+1]?=some (.cells (xX v.p n j.area j.gen j.first (.slice ea ln ec) 0 0 0) 161 (0,0)):=by
  have:=heap_alloc_new (a.alloc (.cells #[.int .i64 j.gen,.int .i64 j.first,.slice ea ln ec,.int .i64 0] 159)) (.cells (xX v.p n j.area j.gen j.first (.slice ea ln ec) 0 0 0) 161);rw[U7]at this;rw[E,this]
 have K:=h_ (N.base ax.size);have P:=h_ aO;have C9:=h_ sO;have oO:=h_ gg;have wT:=h_ rD;have S:=h_ (show a.heap.size+1∉v.foot from λA=>by have:=(HD.foot_lt _ A).2;have:=I.size;omega);have Ot:=h_ (Sr.out s (a.heap.size+1) _ vs (I.trans (P.mono I.size)) (K.later P.out) S.out wT.out);have Ou:∀z:World,z.heap[w.heap.size]?=some (.cells (xG v.p n) 156 (0,0))->xp z ⟨w.heap.size,0,none⟩ 3=true/\xo z ⟨w.heap.size,0,none⟩ 3=xG v.p n:=λz hz=>xF (n:=3) hz rfl
 obtain⟨o3,r3⟩:=Ou _ ((heap_alloc_old (w:=a) (o:=.cells #[.int .i64 j.gen,.int .i64 j.first,.slice ea ln ec,.int .i64 0] 159) (h:=(i_ bW).1)).trans bW);unfold xG at r3;obtain⟨o4,r4⟩:=xF (n:=4) (heap_alloc_new a (.cells #[.int .i64 j.gen,.int .i64 j.first,.slice ea ln ec,.int .i64 0] 159)) rfl;have c1:=cell_of_row s a.heap.size 1 _ _ _ gg;have c2:=cell_of_row s a.heap.size 2 _ _ _ gg;simp only[v_]at c1 c2;unfold xX at E;clear pS Fd ao o1 G N aO sO gg rD bW Ou di Sr;go_upto_region 11 with fail
 refine xm E ?_;clear E o3 r3 gK aU o4 r4;go_wp2_with fail;refine Ot.mono ?_;rintro e f ⟨rfl,O,pV,v',Eg,sL,M,Eh⟩;obtain⟨r_,F1,Ov⟩:=HRE.out;have hb53:=P.size;have hB3s:=I.size
 have VB:f.heap[a.heap.size]?=some (.cells #[.int .i64 j.gen,.int .i64 j.first,.slice ea ln ec,.int .i64 0] 159 (0,0)):=(O.block _ (by have:=C9.out;omega) (λA=>by
  rcases g8.1 A with h1|h1
  ·omega
  ·have:=(HD.foot_lt _ h1).2;omega)).trans oO.out
 have IZ:EnAt f w.heap.size (.slice ea ln ec) j.entries vs:=K.under λg fP r=>(O.block g (by omega) (λA=>by
  rcases g8.1 A with h1|h1
  ·omega
  ·have:=(HD.foot_lt _ h1).2;omega)).trans (P.block g r)
 have Ei:∀q∈v'.foot,q∈v.foot\/s.heap.size<=q:=Eh;have I0:∀q∈(Value.slice ea ln ec).ownBlock.toList++vs.filterMap Value.ownBlock,w.heap.size<=q/\q<a.heap.size:=λq hq=>by
  rcases m3.1 hq with h1|h1
  ·exact s5 K.own q (R2.1 h1)
  ·obtain⟨x,hx,he⟩:=ax_.1 h1;exact⟨(K.blk x hx q he).1,(K.blk x hx q he).2.1⟩
 have Ow:=h_ I0;have Bw:JAt D f (a.heap.size+1) v' (d.puts (J.area*(d.n/2)) (J.secs sha)).1.flushed J ((Value.slice ea ln ec).ownBlock.toList++vs.filterMap Value.ownBlock) ((J.first:Int)+J.entries.length) 0:=by
  have gT:(d.puts (J.area*(d.n/2)) (J.secs sha)).1.flushed.n=d.n:=r_;refine⟨⟨.slice ea ln ec,vs,by rw[Eg,gT];exact pV,?_,λq hq=>m3.2 (.inl (R2.2 hq)),λx hx q hq=>m3.2 (.inr (ax_.2 ⟨x,hx,hq⟩))⟩,M,by rw[gT];exact JInv.flushed sha F1,(xC0 Ov).1,by have:=IY.out;omega,λA=>?_,λq hq=>?_⟩
  ·have h1:=IZ.base (B':=D) IY.out;rw[iY.1];exact h1
  ·rcases Ei _ A with h1|h1
   ·exact S.out h1
   ·have:=C9.out;omega
  ·have Z:=I0 q hq;have h9:=O.size;refine⟨by have:=IY.out;omega,by omega,by omega,λA=>?_⟩;rcases Ei _ A with h1|h1
   ·have:=(HD.foot_lt _ h1).2;omega
   ·omega
 have F2:Kept v.foot w f:=by
  refine((Kept.of_below (F:=v.foot) (I.trans (P.mono I.size))).trans O (λq hq=>?_));rcases g8.1 hq with h1|h1
  ·exact .inr (by omega)
  ·exact .inl h1
 have aC:Hid (∀W rv l,Below f.heap.size f W->JeAt W f.heap.size rv l->l.map (λx=>x.2.1)=j.entries->xPv D v d J w (.returned (.tuple #[.pointer (some ⟨a.heap.size+1,0,none⟩),rv,.int .i64 0])) W):=h_ λW rv l t C hl=>by
  refine⟨a.heap.size+1,v',_,rv,l,rfl,F2.trans (Kept.of_below (F:=[]) t) (λ_ h=>by cases h),Bw.below t,by omega,Eg,sL,λq hq=>?_,λq hq=>(Ow.out q hq).1,C.base F2.size,by rw[hl,iY.1]⟩;rcases Ei q hq with h1|h1
  ·exact .inl h1
  ·exact .inr (by omega)
 have c2:=cell_of_row f a.heap.size 2 _ _ _ VB;simp only[v_]at c2;have R:=h_ VB;have VC:=h_ IZ;have a_:Hid (JoSt f j.first j.entries 0 (.slice none 0 0) f):=h_ ⟨z_ _ _,[],JeAt.nil _ _,rfl⟩;have Nt:(ln:Int)<=1000:=by omega
 clear O pV Eg sL M Eh r_ F1 Ov VB IZ Ei I0 Ow Bw F2 c1 Ot wT oO;go_wp2;go_loopw [58,17] (λu rv wr=>∃k:Nat,u=.int .i64 k/\k<=ln/\Hid (JoSt f j.first j.entries k rv wr)) (λu _ _=>ln-(intOf u).toNat)
 case atStart=>exact⟨0,rfl,n3 _,a_⟩
 case round=>
  obtain⟨k,rfl,hk,HS⟩:=hrel;by_cases hlt:k<ln
  ·have aM:(k:Int)<ln:=by omega
   have aT:k<j.entries.length:=by rw[<-l_.out];exact hlt
   obtain⟨g,cap,e0,ecap,hv,bD,NP,hes,ej,d_,og⟩:=VC.get k aT;have Vt:ea=some ⟨g,0,none⟩:=by injection hv
   subst Vt;obtain⟨y,hy⟩:∃y,y=j.entries[k]:=⟨_,rfl⟩;have hyl:y.length<=131072:=by rw[hy];exact Oq.out _ (L3 aT)
   rw[<-hy]at bD ej d_ og;have gJ:=(HS.bel.cell (p:=⟨g,k,none⟩) (block_lt_of_cell bD)).trans bD;have L:=(HS.bel.block _ (i_ R.out).1).trans R.out;have cf:=cell_of_row wr a.heap.size 1 _ _ _ L;simp only[v_]at cf;have z1:∀z:xf wr,z.1.cell? ⟨a.heap.size,1,none⟩=some (.int .i64 j.first):=λz=>z.cell cf
   have Ox:SlB wr.drew ⟨e0,0,none⟩ y:=⟨λq c hq=>(HS.bel.cell (by rw[xY];exact hes)).trans (d_.cell q c hq)⟩;have dV:=h_ (kW ⟨e0,0,none⟩ y ecap wr.drew Ox (by omega));obtain⟨l,C,hl⟩:=HS.je;have pQ:=h_ C;have cO:=h_ hl;have cZ:l.length=k:=by
    have:=congrArg List.length hl;rw[M5,x8,<-l_.out]at this;omega
   have Dd:=h_ cZ;have cD:Hid (j.entries.take (k+1)=j.entries.take k++[y]):=h_ (by rw[d0 aT,hy]);have Dw:(k:Int)<=1000:=by omega
   have hk1:k+1<=ln:=hlt;obtain⟨yn,pW⟩:∃yn,yn=y.length:=⟨_,rfl⟩;rw[<-pW]at gJ dV;have nM:=h_ pW;clear aT bD hes ej d_ og L cf Ox C hl cZ hv hy pW;go_upto_region 18 with fail
   clear gJ;refine xz [0,1,2,3,4,5] [6,7,8,9,10] (λw'=>∃z:xf wr,w'=z.1) ⟨⟨wr.drew,(z_ _ _).drew⟩,rfl⟩ ?_;simp only[o_]
   repeat (go_big_quiet_step (fail))
   refine wpQuiet_nil ?_;clear z1;refine yo true ?_;simp only[o_];go_wp2_with fail;refine dV.mono ?_;rintro e m ⟨cv,rfl,V,I1,co⟩;have T:Below wr.heap.size wr m:=(z_ wr.heap.size wr).drew.trans (co.mono (w_ _));obtain⟨cg,cc,iG,_,_,_,_⟩:∃g cap,cv=.slice (some ⟨g,0,none⟩) y.length cap/\wr.drew.heap.size<=g/\y.length<=cap/\cap<=maxLen/\SlB m ⟨g,0,none⟩ y:=by
    rcases V.at with⟨Z,_⟩|Z
    ·exact absurd Z I1
    ·exact Z
   rw[<-nM.out]at iG;subst iG;have aK:Below m.heap.size m (m.alloc (.cells #[.int .i64 ((j.first:Int)+k),.slice (some ⟨cg,0,none⟩) yn cc] 169)):=(z_ _ _).alloc (w_ _) _;have X:=h_ (T.trans (aK.mono T.size));have HJ8:=h_ ((pQ.later T).later aK)
   have Dc:Hid (OwnB (m.alloc (.cells #[.int .i64 ((j.first:Int)+k),.slice (some ⟨cg,0,none⟩) yn cc] 169)) f.heap.size (.slice (some ⟨cg,0,none⟩) yn cc) y/\(Value.slice (some ⟨cg,0,none⟩) yn cc)≠.slice none 0 0/\∀q,(Value.slice (some ⟨cg,0,none⟩) yn cc).ownBlock=some q->u17.ownBlock≠some q):=h_ ⟨(V.below aK).base HS.bel.size,I1,λq e e2=>by
    have h1:=(V.lt e).1;have h2:=(s5 pQ.own q e2).2;exact absurd h1 (Nat.not_le.2 h2)⟩
   have HC8:Hid (∀i u,(uD ((j.first:Int)+k) (.slice (some ⟨cg,0,none⟩) yn cc))[i]?=some u->(m.alloc (.cells #[.int .i64 ((j.first:Int)+k),.slice (some ⟨cg,0,none⟩) yn cc] 169)).cell? ((⟨m.heap.size,0,none⟩:Addr).add i)=some u):=h_ λi u hi=>by
    rw[l8,m0,yD];simpa[uD]using hi
   have VD:Hid (l.length<=1000000):=h_ (by rw[Dd.out];omega);have Ss:Hid (f.heap.size<=(m.alloc (.cells #[.int .i64 ((j.first:Int)+k),.slice (some ⟨cg,0,none⟩) yn cc] 169)).heap.size):=h_ (R_ HS.bel.size X.size);have VE:Below wr.heap.size wr (m.alloc (.cells #[.int .i64 ((j.first:Int)+k),.slice (some ⟨cg,0,none⟩) yn cc] 169)):=X.out;have Oy:=h_ T;clear V I1 co aK T VE;go_wp2_with fail;refine⟨λ_=>⟨⟨_,Oy.out⟩,rfl⟩,yo true ?_⟩;simp only[o_];go_wp2;refine⟨λ_=>⟨⟨_,Oy.out⟩,rfl⟩,yo true ?_⟩;simp only[o_];go_wp2;refine⟨λ_=>⟨⟨_,X.out⟩,rfl⟩,yE ?_⟩;simp only[o_];go_wp2_with (at_builtin;refine xKe rfl (.tmp 63) (.tmp 71) rfl f.heap.size _ _ rfl HJ8.out ((j.first:Int)+k,y,.slice (some ⟨cg,0,none⟩) yn cc) Dc.out rfl ⟨m.heap.size,0,none⟩ rfl HC8.out VD.out Ss.out ?_);intro v9 w9 Oz D_ _;have dw:Hid (JoSt f j.first j.entries (k+1) v9 w9):=h_ ⟨(HS.bel.trans (X.mono HS.bel.size)).grown D_ Ss.out (λq e=>(s5 pQ.own q e).1),_,Oz,by rw[L8,cO.out,cD.out];rfl⟩;clear Oz D_;go_wp2;refine T_ ?_;go_wp2;go_roundw
   case rel=>exact⟨k+1,by go_num,hk1,dw⟩
   case measure=>simp[intOf];omega
  ·obtain rfl:k=ln:=by omega
   obtain⟨l,C,hl⟩:=HS.je;rw[v6 (by rw[<-l_.out];exact w_ _)]at hl;have HF:=h_ (aC.out wr u17 l HS.bel C hl);clear C hl;go_wp2;go_ret3;exact HF.out
end
theorem xSx (b g w)(h:w.cell? ⟨g,0,none⟩=some (.int .i64 0)):CallsD prog 84 #[.pointer (some ⟨b,0,none⟩),.pointer (some ⟨g,0,none⟩)] .returning w λe u' w'=>u'=.returning/\(e=.returned (.tuple #[])/\w'=w):=by
 go_enter_d func84,ntmps84;go_wp2;go_end0;exact⟨rfl,rfl⟩
theorem xLj (w a v)(h:w.cell? a=some v):(loadVar 55 a).run prog w=.ok v w:=by
 have b:Sem.run prog (isAgg 55) w=.ok false w:=by kernel_rfl
 unfold loadVar;simp[b,h]
theorem xOl {fn p}(h:fn.results=#[.cell p 55])(tmps w a v)(c:tmps.getD p undef=.pointer (some a))(hv:w.cell? a=some v):(results fn tmps).run prog w=.ok v w:=by
 have b:tmps[p]?.getD undef=.pointer (some a):=by simpa using c
 simp[results,h,b,asAddr,xLj w a v hv]
theorem xG0 {fn s p}(h:fn.results=#[.tmp s,.cell p 55])(tmps w a v0 v)(d:tmps.getD s undef=v0)(c:tmps.getD p undef=.pointer (some a))(hv:w.cell? a=some v):(results fn tmps).run prog w=.ok (.tuple #[v0,v]) w:=by
 have b:tmps[p]?.getD undef=.pointer (some a):=by simpa using c
 have e:tmps[s]?.getD undef=v0:=by simpa using d
 simp[results,h,b,e,asAddr,xLj w a v hv]
def xPu (D b:Nat)(v:Dev)(d:PD)(j:PJ)(es:List Nat)(w:World)(e:Ending)(w':World):Prop:=
 e=.returned (.int .i64 0)/\Kept (b :: v.foot) w w'/\∃v' sy',v'.p=v.p/\v'.M=v.M/\JAt D w' b v' d.flush.1 j es sy' 0/\∀k∈v'.foot,k∈v.foot\/w.heap.size<=k
theorem xP0 {D b w v d j es sy}(h:JAt D w b v d j es sy 0)(an:j.entries.length<=100000)(G:d.flush.2=true):
  Calls prog 47 #[.pointer (some ⟨b,0,none⟩)] w (xPu D b v d j es w):=by
 obtain⟨ev,vs,T,s,r,o⟩:=h.ex;have I2:=h_ (And.intro s (And.intro r o));have ae:=s.own;obtain⟨ea,ec,Y⟩:=yK ae;obtain⟨ln,I⟩:∃ln,ln=j.entries.length:=⟨_,rfl⟩;rw[<-I]at Y an;subst Y;have az:=h.blt;obtain⟨m,aj⟩:∃m,m=w.alloc (.cells #[.int .i64 0] 55):=⟨_,rfl⟩;have B:Below w.heap.size w m:=by grind
 have W:m.heap[w.heap.size]?=some (.cells #[.int .i64 0] 55 (0,0)):=by grind
 have C:=(B.block b az).trans T;have F5:=h_ (jR C);have nL:=h_ (xI0 (h.dev.below B) h.up);have VF:=h_ G;have P:=h_ (PD.flush_ok h.up G);clear G;have c0:=cell_of_row m b 0 _ _ _ C;simp only[xX,v_]at c0;have fo:j.first<=2147483647:=h.inv.ok.first;have H:=h_ h;have K:=h_ B;have S:=h_ W;have mM:=h_ C;have l_:=h_ I;clear h B W C ae I T s r o;go_enter_defers func47,ntmps47;go_upto_region 1 with fail
 refine xm aj ?_;clear aj;go_wp2_with fail;refine F5.mono ?_;rintro e i ⟨rfl,rfl⟩;go_wp2_with fail;refine nL.mono ?_;rintro e i ⟨rfl,g,v',u,t,y,l⟩;rw[if_pos VF.out];have bY:b∉v.foot:=H.bv;have M:=(g.block b (b7 az K.size) bY).trans mM.out;have V:=h_ M;have Ig:=h_ (xD8 M fo (by omega));have X:=(g.block w.heap.size (i_ S.out).1 (λc=>W9 _ (H.dev.foot_lt _ c).2)).trans S.out;have U:=h_ X;have mA:=h_ g;have oU:=h_ (And.intro u (And.intro t (And.intro y l)));clear M X g u t y l c0;go_wp2_with fail;refine Ig.mono ?_;rintro e w3 ⟨rfl,z,rfl⟩;have L:Below i.heap.size i (i.drewN z):=by grind
 have A:=(L.block b (i_ V.out).1).trans V.out;have De:=(L.block _ (i_ U.out).1).trans U.out;have c8:=cell_of_row (i.drewN z) b 8 _ _ _ A;have f8:=frozen_of_row (i.drewN z) b 8 _ _ A;simp only[xX,v_]at c8;have E:w.heap.size≠b:=by omega
 obtain⟨a,J⟩:∃a,a=(i.drewN z).setCell ⟨b,8,none⟩ (.int .i64 ((j.first:Int)+ln)):=⟨_,rfl⟩;have O:a.heap[w.heap.size]?=some (.cells #[.int .i64 0] 55 (0,0)):=by grind
 have n_:a.heap[b]?=some (.cells (xX v.p d.n j.area j.gen j.first (.slice ea ln ec) (j.secs sha).length ((j.first:Int)+ln) 0) 161 (0,0)):=by rw[J,heap_setCell_same _ b 8 _ _ _ A];rfl
 have Z:Kept [b] i a:=by grind
 have c4:=cell_of_row a w.heap.size 0 _ _ _ O;have f4:=frozen_of_row a w.heap.size 0 _ _ O;simp only[v_]at c4;have Q:(a.setCell ⟨w.heap.size,0,none⟩ (.int .i64 0)).heap[w.heap.size]?=some (.cells #[.int .i64 0] 55 (0,0)):=by grind
 have dC:Kept [w.heap.size] a (a.setCell ⟨w.heap.size,0,none⟩ (.int .i64 0)):=by grind
 obtain⟨u,t,y,l⟩:=oU.out;have N:b∉v'.foot:=by grind
 have OA:w.heap.size∉v'.foot:=λc=>by
  rcases l _ c with h1|h1
  ·exact W9 _ (H.dev.foot_lt _ h1).2
  grind
 have Bw:JAt D (a.setCell ⟨w.heap.size,0,none⟩ (.int .i64 0)) b v' d.flush.1 j es ((j.first:Int)+ln) 0:=by
  obtain⟨s,r,o⟩:=I2.out;have F7:Kept (w.heap.size :: b :: v.foot) w (a.setCell ⟨w.heap.size,0,none⟩ (.int .i64 0)):=by grind
  have bH:∀k∈es,k∉w.heap.size :: b :: v.foot:=λk hk c=>by
   have h9:=H.es_ k hk;rcases g8.1 c with h1|h1
   ·omega
   grind
  refine⟨⟨_,vs,?_,s.kept F7 (λk c=>⟨λe=>bH k (r k e) c,λx hx e=>bH k (o x hx k e) c⟩),r,o⟩,?_,by rw[P.2.2.1];exact H.inv.congr sha P.2.2.2,P.1,H.bB,N,λq hq=>⟨(H.es_ q hq).1,b7 (H.es_ q hq).2.1 F7.size,(H.es_ q hq).2.2.1,λc=>?_⟩⟩
  ·grind
  ·exact y.kept (F:=[b,w.heap.size]) ((Z.mono (λq hq _=>by simp at hq;simp[hq])).trans dC (λq hq=>.inl (by simp at hq;simp[hq]))) (λq hq c=>by
    simp only[g8,ak_,or_false]at c;rcases c with h1|h1
    ·exact N (h1▸hq)
    ·exact OA (h1▸hq))
  ·rcases l q c with h1|h1
   ·grind
   ·have h0:=(H.es_ q hq).2.1;have:=K.size;omega
 have F2:Kept (b :: v.foot) w (a.setCell ⟨w.heap.size,0,none⟩ (.int .i64 0)):=by grind
 have aC:=h_ (show xPu D b v d j es w (.returned (.int .i64 0)) (a.setCell ⟨w.heap.size,0,none⟩ (.int .i64 0))from ⟨rfl,F2,v',_,u,t,Bw,λq hq=>by
  rcases l q hq with h1|h1
  ·exact .inl h1
  ·exact .inr (R_ K.size h1)⟩)
 have UG:=h_ Q;clear A De E O n_ Z dC u t y l N OA Bw F2 L Q;go_upto_region 9 with fail
 refine xm J ?_;clear J c8 f8;go_wp2;have R:=cell_of_row _ w.heap.size 0 _ _ _ UG.out;refine leaves_cons (f:=84) (args:=#[.pointer (some ⟨b,0,none⟩),.pointer (some ⟨w.heap.size,0,none⟩)]) (by simp) (by simp[go_sem]) ?_;refine(xSx b w.heap.size _ R).mono ?_;rintro e u' w'' ⟨rfl,rfl,rfl⟩;exact⟨_,xOl rfl _ _ _ _ rfl R,aC.out⟩
section
attribute [local go_sem ↓] vO qT zS zI
attribute [local go_sem] xHv xHg xAp xAn zr zx yA yz xh xg xe xd xx xy xk xj xq xB xw
def yA5 (D:Nat)(w:World)(b:Nat)(v:Dev)(d:PD):Prop:=(∃n area gen first ev used sy,w.heap[b]?=some (.cells (xX v.p n area gen first ev used sy 28) 161 (0,0)))/\yj D w v d/\d.down=true
def yA6 (D b:Nat)(v:Dev)(d:PD)(w:World)(e:Ending)(w':World):Prop:=
 e=.returned (.tuple #[.int .i64 0,.int .i64 28])/\Kept (b :: v.foot) w w'/\∃v',v'.p=v.p/\v'.M=v.M/\yA5 D w' b v' d/\∀k∈v'.foot,k∈v.foot\/w.heap.size<=k
theorem xO8 (b g w){p n area gen first used:Nat}{ev sy fa}(a:w.heap[b]?=some (.cells (xX p n area gen first ev used sy fa) 161 (0,0)))(h:w.cell? ⟨g,0,none⟩=some (.int .i64 28)):CallsD prog 84 #[.pointer (some ⟨b,0,none⟩),.pointer (some ⟨g,0,none⟩)] .returning w λe u' w'=>u'=.returning/\(e=.returned (.tuple #[])/\w'=w.setCell ⟨b,9,none⟩ (.int .i64 28)):=by
 have c:=cell_of_row w b 9 _ _ _ a;have d:=frozen_of_row w b 9 _ _ a;simp only[xX,v_]at c;clear a;go_enter_d func84,ntmps84;go_wp2;go_end0;exact⟨rfl,rfl⟩
def xWg (D b:Nat)(v:Dev)(d:PD)(j:PJ)(y:By)(es:List Nat)(sy:Int)(w:World)(e:Ending)(w':World):Prop:=
 e=.returned (.tuple #[.int .i64 ((j.first:Int)+j.entries.length),.int .i64 0])/\Kept (b :: (v.foot++es)) w w'/\∃v' es',v'.p=v.p/\v'.M=v.M /\
  JAt D w' b v' (d.puts (j.area*(d.n/2)+(j.secs sha).length) (xJ sha (j.body y))).1 (j.add y) es' sy 0/\(∀k∈v'.foot,k∈v.foot\/w.heap.size<=k)/\∀k∈es',k∈es\/w.heap.size<=k
def JbC (b:Nat)(cs:Array Value):Type:={ z:World // z.heap[b]?=some (.cells cs 161 (0,0)) }
theorem JbC.cell {b cs}(z:JbC b cs)(j):z.1.cell? ⟨b,j,none⟩=cs[j]?:=cell_of_row _ _ _ _ _ _ z.2
theorem xUt {D b w v d j es sy}(h:JAt D w b v d j es sy 0)(hK:qI w)(y a cap)(hs:SlB w a y)(ha:a.block<w.heap.size)(FS:a.block∉v.foot)(hl:y.length<=cap)(hy:y.length<=100000)
  (gj:(j.secs sha).length+y6 y.length<=d.n/2) (bO:d.pend.length+y6 y.length<=1000000) (an:j.entries.length<=100000) (hD:D<=w.heap.size):
  Calls prog 77 #[.pointer (some ⟨b,0,none⟩),.slice (some a) y.length cap] w λe w'=>((d.puts (j.area*(d.n/2)+(j.secs sha).length) (xJ sha (j.body y))).2=true->xWg D b v d j y es sy w e w')/\((d.puts (j.area*(d.n/2)+(j.secs sha).length) (xJ sha (j.body y))).2=false->yA6 D b v (d.puts (j.area*(d.n/2)+(j.secs sha).length) (xJ sha (j.body y))).1 w e w'):=by
 obtain⟨gd,U⟩:∃gd,gd=(d.puts (j.area*(d.n/2)+(j.secs sha).length) (xJ sha (j.body y))).2:=⟨_,rfl⟩;rw[<-U];have mX:=h_ U;clear U;obtain⟨ev,vs,cy,V,ie,ig⟩:=h.ex;have I2:=h_ (And.intro V (And.intro ie ig));have ae:=V.own;obtain⟨ea,ec,gG⟩:=yK ae;obtain⟨ln,di⟩:∃ln,ln=j.entries.length:=⟨_,rfl⟩;obtain⟨us,iL⟩:∃us,us=(j.secs sha).length:=⟨_,rfl⟩;obtain⟨yn,pW⟩:∃yn,yn=y.length:=⟨_,rfl⟩;obtain⟨nd,cj⟩:∃nd,nd=y6 y.length:=⟨_,rfl⟩;obtain⟨n,T⟩:∃n,n=d.n:=⟨_,rfl⟩;rw[<-di]at gG an;subst gG;rw[<-iL,<-T]at cy;rw[<-iL,<-cj,<-T]at gj;rw[<-cj]at bO;have aF:n<=4096:=by rw[T];exact h.dev.n2
 have az:=(i_ cy).1;obtain⟨L,aj⟩:∃L,L=w.alloc (.cells #[.int .i64 0] 55):=⟨_,rfl⟩;have aa:Below w.heap.size w L:=by grind
 have iN:L.heap[w.heap.size]?=some (.cells #[.int .i64 0] 55 (0,0)):=by grind
 have aI:=(aa.block b az).trans cy;have F5:=h_ (jR aI);have lX:=h_ (xP3 y.length L hy);rw[<-cj,<-pW]at lX;have fo:j.first<=2147483647:=h.inv.ok.first;have harea:=h.inv.ok.area;have oG:=h.inv.ok.gen;have c1:=cell_of_row L w.heap.size 0 _ _ _ iN;have f1:=frozen_of_row L w.heap.size 0 _ _ iN;simp only[v_]at c1;obtain⟨w2,aR⟩:∃w2,w2=L.setCell ⟨w.heap.size,0,none⟩ (.int .i64 0):=⟨_,rfl⟩;have ai:Below w.heap.size w w2:=by grind
 have iA:w2.heap[w.heap.size]?=some (.cells #[.int .i64 0] 55 (0,0)):=by grind
 have aE:=(ai.block b az).trans cy;have c2:=cell_of_row w2 w.heap.size 0 _ _ _ iA;simp only[v_]at c2;have dx:=h_ (xHy aE aF (by omega));have H:=h_ h;have HK:=h_ hK;have HS:=h_ hs;have ax:=h_ ai;have ly:=h_ iA;have ld:=h_ aE;have l_:=h_ di;have ol:=h_ iL;have nM:=h_ pW;have BA:=h_ cj;have HN:=h_ T;have HAV:=h_ FS;have nI:=h_ bO;have IY:=h_ hD;have OB:=h_ gj;rw[<-pW]at hl hy⊢;have NV:(yn:Int)<=100000:=by omega
 have VG:(nd:Int)<=((n/2-us:Nat):Int):=by omega
 have Ek:(nd:Int)<=4096:=by omega
 have VH:((n/2-us:Nat):Int)<=4096:=by omega
 obtain⟨fr,me⟩:∃fr,fr=n/2-us:=⟨_,rfl⟩;rw[<-me]at VG VH dx;clear h aa iN aI ae di hK hs cy V ie ig ai iA aE iL pW cj T FS bO hD me gj;go_enter_defers func77,ntmps77;go_upto_region 1 with fail
 refine xm aj ?_;clear aj;go_wp2_with fail;refine F5.mono ?_;rintro e w' ⟨rfl,rfl⟩;go_wp2_with fail;refine lX.mono ?_;rintro e w' ⟨rfl,rfl⟩;go_upto_region 5 with fail
 refine xm aR ?_;clear aR c1 f1;go_wp2_with fail;refine dx.mono ?_;rintro e A ⟨rfl,ao⟩;have aJ:=h_ (ax.trans (ao.mono ax.size));have De:=(ao.block _ (i_ ly.out).1).trans ly.out;have bW:=(ao.block _ (i_ ld.out).1).trans ld.out;have k4:=cell_of_row A b 4 _ _ _ bW;have k6:=cell_of_row A b 6 _ _ _ bW;simp only[xX,v_]at k4 k6;have z1:∀z:xf A,z.1.cell? ⟨b,4,none⟩=some (.int .i64 j.gen):=by grind
 have z2:∀z:xf A,z.1.cell? ⟨b,6,none⟩=some (.slice ea ln ec):=by grind
 have I4:=h_ De;have F8:=h_ bW;have Nt:(ln:Int)<=100000:=by omega
 have Ob:(j.gen:Int)<=2147483647:=by omega
 clear ao De bW k4 k6;go_upto_region 10 with fail
 refine zh [0,1,2,3,4,5,6,7,8,9,10,11,12,13] [14,15] 2 (λw'=>∃z:xf A,w'=z.1) ⟨⟨_,(z_ _ _).drew⟩,rfl⟩ ?_;simp only[o_]
 repeat (go_big_quiet_step (fail))
 refine wpQuiet_nil ?_;clear z1 z2;refine xBp [14,15] ?_;refine yo true ?_;simp only[o_];go_wp2;refine⟨λ_=>⟨⟨_,(((z_ _ _).alloc (w_ _) _).drew:Below A.heap.size A _)⟩,rfl⟩,yE ?_⟩;simp only[o_];have aU:=xM7 2 j.gen ((ln:Int)+1) (.slice (some a) yn cap) rfl;go_wp2;refine T_ ?_;go_upto_region 11 with fail
 clear aU;obtain⟨r,cY⟩:∃r,r=(A.alloc (.cells #[.int .i64 2,.int .i64 j.gen,.int .i64 ((ln:Int)+1),.slice (some a) yn cap] 238)).drew:=⟨_,rfl⟩;refine xm cY ?_;have aQ:Below A.heap.size A r:=by grind
 have eR:r.heap[A.heap.size]?=some (.cells #[.int .i64 2,.int .i64 j.gen,.int .i64 ((ln:Int)+1),.slice (some a) yn cap] 238 (0,0)):=by grind
 have dF:=h_ (aJ.trans (aQ.mono aJ.size));have n_:=(aQ.block _ (i_ F8.out).1).trans F8.out;have Ej:=(aQ.block _ (i_ I4.out).1).trans I4.out;have k3:=cell_of_row r b 3 _ _ _ n_;have k7:=cell_of_row r b 7 _ _ _ n_;simp only[xX,v_]at k3 k7;have z1:∀z:xf r,z.1.cell? ⟨b,3,none⟩=some (.int .i64 j.area):=by grind
 have z2:∀z:xf r,z.1.cell? ⟨b,7,none⟩=some (.int .i64 us):=by grind
 have r5:=xR8 n_;have z3:∀z:xf r,xp z.1 ⟨b,0,none⟩ 3=true:=by grind [xf.ok]
 have z4:∀z:xf r,xo z.1 ⟨b,0,none⟩ 3=xG v.p n:=by grind [xf.rd]
 have r6:=xF (n:=4) eR rfl;have z5:∀z:xf r,xp z.1 ⟨A.heap.size,0,none⟩ 4=true:=by grind [xf.ok]
 have z6:∀z:xf r,xo z.1 ⟨A.heap.size,0,none⟩ 4=#[.int .i64 2,.int .i64 j.gen,.int .i64 ((ln:Int)+1),.slice (some a) yn cap]:=by grind [xf.rd]
 obtain⟨m2,fE⟩:∃m2,m2=n/2:=⟨_,rfl⟩;obtain⟨bs,gX⟩:∃bs,bs=j.area*m2:=⟨_,rfl⟩;obtain⟨at_,au⟩:∃at_,at_=bs+us:=⟨_,rfl⟩;have OC:at_+nd<=n:=by grind
 have z7:∀z:xf r,Calls prog 88 #[.agg (xG v.p n)] z.1 λe w'=>e=.returned (.int .i64 m2)/\∃z':xf r,w'=z'.1:=λz=>xf.call ((xE2 v.p n aF z.1).mono λe w' ⟨h1,h2⟩=>⟨by rw[h1,fE],h2⟩)
 have eP:((1+j.entries.length:Nat):Int)=(ln:Int)+1:=by grind
 have fA:Hid (∀z:xf r,Calls prog 108 #[.agg (xG v.p n),.int .i64 at_,.agg #[.int .i64 2,.int .i64 j.gen,.int .i64 ((ln:Int)+1),.slice (some a) yn cap]] z.1 (xKb D v d at_ (j.body y) z.1)):=h_ λz=>by
  have hz:=dF.trans (z.2.mono dF.size);have h1:=xUr (H.dev.below hz) H.up (HK.below hz (w_ _)) at_ (j.body y) (xSb H.inv.ok y (by have:=nM.out;omega) (by have:=l_.out;omega)) a cap (by show y.length<=cap;rw[<-nM.out];exact hl) ⟨λq c hq=>(hz.cell (by rw[xY];exact ha)).trans (HS.cell q c hq)⟩ (by have:=hz.size;omega) (by show at_+y6 y.length<=d.n;rw[<-BA.out,<-HN.out];exact OC) (by show d.pend.length+y6 y.length<=1000000;rw[<-BA.out];exact nI.out) (by have:=hz.size;have:=IY.out;omega);grind [ye,PJ.body]
 have Vw:(j.area:Int)*(m2:Int)=(bs:Int):=by omega
 have Vx:(bs:Int)+(us:Int)=(at_:Int):=by omega
 have bt:(bs:Int)<=4096:=by omega
 have n4:(m2:Int)<=4096:=by omega
 have huz:(us:Int)<=4096:=by omega
 have NM:(j.area:Int)<=1:=by omega
 have OD:=h_ z7;have F9:=h_ Ej;have tY:=h_ n_;have ee:Hid (at_=j.area*(d.n/2)+(j.secs sha).length):=h_ (by rw[au,gX,fE,HN.out,ol.out]);have Se:=h_ fE;clear cY aQ eR n_ Ej k3 k7 r5 r6 fE gX au OC z7 eP;unfold xG at z4 OD fA;refine uO ?_;refine xAy [0,1,2,3,4,5,6,7,8,9,10,11,12,13,14,15,16,17,18,19,20] [21,22] 4 (λw'=>∃z:xf r,w'=z.1) ⟨⟨_,(z_ _ _).drew⟩,rfl⟩ ?_;simp only[o_]
 repeat (go_big_quiet_step (first|(go_at_call 88;exact OD.out _)))
 refine wpQuiet_nil ?_;rintro _ ⟨z,rfl⟩;clear z1 z2 z3 z4 z5 z6 OD;refine xCo ?_;simp only[o_];go_wp2_with fail;refine(fA.out z).mono ?_;rintro e o ⟨rfl,dC,Z,P,eW,X,db⟩;have Vj:(d.puts at_ (xJ sha (j.body y))).2=gd:=by rw[ee.out];exact mX.symm
 rw[Vj];clear Vj;cases gd with
 |false=>
  rw[if_neg (by simp)];obtain⟨z,S⟩:=z;have El:Below w.heap.size w z:=by grind
  have M:w.heap.size<z.heap.size:=by grind
  have Y:w.heap.size∉v.foot:=λs=>W9 _ (H.dev.foot_lt _ s).2
  have C:=(dC.block w.heap.size M Y).trans ((S.block _ (i_ F9.out).1).trans F9.out);have pO:=(dC.block b (by show b<z.heap.size;omega) H.bv).trans ((S.block _ (i_ tY.out).1).trans tY.out);have c5:=cell_of_row o w.heap.size 0 _ _ _ C;have f5:=frozen_of_row o w.heap.size 0 _ _ C;simp only[v_]at c5;have BB:Kept v.foot w o:=by grind
  have E:b≠w.heap.size:=by omega
  have N:∀q∈Z.foot,q∈v.foot\/z.heap.size<=q:=db;obtain⟨m,W⟩:∃m,m=o.setCell ⟨w.heap.size,0,none⟩ (.int .i64 28):=⟨_,rfl⟩;have J:m.heap[w.heap.size]?=some (.cells #[.int .i64 28] 55 (0,0)):=by rw[W,heap_setCell_same o w.heap.size 0 _ _ _ C];rfl
  have I:m.heap[b]?=some (.cells (xX v.p n j.area j.gen j.first (.slice ea ln ec) us sy 0) 161 (0,0)):=by rw[W,heap_setCell_other o _ b _ E];exact pO
  have BC:Kept [w.heap.size] o m:=by grind
  have c6:=cell_of_row m w.heap.size 0 _ _ _ J;have f6:=frozen_of_row m w.heap.size 0 _ _ J;simp only[v_]at c6;have St:=h_ (And.intro J I)
  have aC:Hid (∀l,l.heap[w.heap.size]?=some (.cells #[.int .i64 28] 55 (0,0))->l.heap[b]?=m.heap[b]?->Kept [w.heap.size] m l->(l.setCell ⟨b,9,none⟩ (.int .i64 28)).cell? ⟨w.heap.size,0,none⟩=some (.int .i64 28)/\yA6 D b v (d.puts (j.area*(d.n/2)+(j.secs sha).length) (xJ sha (j.body y))).1 w (.returned (.tuple #[.int .i64 0,.int .i64 28])) (l.setCell ⟨b,9,none⟩ (.int .i64 28))):=h_ (λl K B eq=>by
   have eX:=B.trans I;have OE:Kept [b] l (l.setCell ⟨b,9,none⟩ (.int .i64 28)):=by grind
   have OF:Kept [w.heap.size,b] o (l.setCell ⟨b,9,none⟩ (.int .i64 28)):=((BC.mono (F':=[w.heap.size,b]) (λq hq _=>by simp at hq;simp[hq])).trans eq (λq hq=>.inl (by simp at hq;simp[hq]))).trans OE (λq hq=>.inl (by simp at hq;simp[hq]));refine⟨?_,rfl,?_,Z,P,eW,⟨⟨n,j.area,j.gen,j.first,.slice ea ln ec,us,sy,by rw[heap_setCell_same l b 9 _ _ _ eX,P];rfl⟩,?_,?_⟩,λq hq=>?_⟩
   ·rw[cell_of_row _ w.heap.size 0 _ _ _ ((heap_setCell_other l ⟨b,9,none⟩ w.heap.size _ E.symm).trans K)];rfl
   ·refine(BB.mono (F':=b :: v.foot) (λq hq _=>V0 _ hq)).trans OF (λq hq=>?_);simp only[g8,ak_,or_false]at hq;rcases hq with rfl|rfl
    ·exact .inr (w_ _)
    ·exact .inl (cb_ ..)
   ·rw[<-ee.out];refine X.kept OF (λq hq s=>?_);have En:q<z.heap.size->q∈v.foot:=λh1=>by
     rcases N q hq with h2|h2
     ·exact h2
     ·omega
    simp only[g8,ak_,or_false]at s;rcases s with rfl|rfl
    ·exact Y (En M)
    ·exact H.bv (En (by omega))
   ·rw[<-ee.out];obtain⟨kk,_,_,_,_,_,h7⟩:=PD.puts_any (xJ sha (j.body y)) d at_ H.up;exact h7 (by rw[ee.out];exact mX.symm)
   ·rcases N q hq with h2|h2
    ·exact .inl h2
    ·exact .inr (by omega))
  clear dC P eW X db N C pO BB M Y J I BC El S fA;go_wp2;refine T_ ?_;rw[ur];refine xAz [23,24] [25,26] 0 (λw'=>w'=o) rfl ?_;simp only[o_]
  repeat (go_big_quiet_step (fail))
  refine wpQuiet_nil ?_;refine xB0 true rfl (by kernel_rfl) ?_;go_wp2;refine⟨λ_=>rfl,xCo ?_⟩;simp only[o_];go_wp2;refine T_ ?_;rw[ur];refine kB ?_;go_upto_region 12 with fail
  refine xm W ?_;clear W c5 f5;go_wp2;have z0:∀z:xf m,z.1.cell? ⟨w.heap.size,0,none⟩=some (.int .i64 28):=λz=>z.cell c6
  refine xz [0,1] [2] (λw'=>∃z:xf m,w'=z.1) ⟨⟨m.drew,(z_ _ _).drew⟩,rfl⟩ ?_;simp only[o_]
  repeat (go_big_quiet_step (fail))
  refine wpQuiet_nil ?_;clear z0;refine yE ?_;simp only[o_];go_wp2;refine T_ ?_;go_wp2;obtain⟨J,I⟩:=St.out;have K:(m.drew.setCell ⟨w.heap.size,0,none⟩ (.int .i64 28)).heap[w.heap.size]?=some (.cells #[.int .i64 28] 55 (0,0)):=by grind
  have E:b≠w.heap.size:=by omega
  have B:(m.drew.setCell ⟨w.heap.size,0,none⟩ (.int .i64 28)).heap[b]?=m.heap[b]?:=by grind
  obtain⟨hc,bV⟩:=aC.out _ K B (by grind);refine leaves_cons (f:=84) (args:=#[.pointer (some ⟨b,0,none⟩),.pointer (some ⟨w.heap.size,0,none⟩)]) (by simp) (by simp[go_sem]) ?_;refine(xO8 b w.heap.size _ (B.trans I) (cell_of_row _ w.heap.size 0 _ _ _ K)).mono ?_;rintro e u' w'' ⟨rfl,rfl,rfl⟩;exact⟨.tuple #[.int .i64 0,.int .i64 28],xG0 rfl _ _ _ _ _ rfl rfl hc,bV⟩
 |true=>
 rw[if_pos rfl];obtain⟨z,S⟩:=z;have El:Below w.heap.size w z:=by grind
 have M:w.heap.size<z.heap.size:=by grind
 have Y:w.heap.size∉v.foot:=λs=>W9 _ (H.dev.foot_lt _ s).2
 have C:=(dC.block w.heap.size M Y).trans ((S.block _ (i_ F9.out).1).trans F9.out);have pO:=(dC.block b (by show b<z.heap.size;omega) H.bv).trans ((S.block _ (i_ tY.out).1).trans tY.out);have c5:=cell_of_row o w.heap.size 0 _ _ _ C;have f5:=frozen_of_row o w.heap.size 0 _ _ C;simp only[v_]at c5;have BB:Kept v.foot w o:=by grind
 have N:∀q∈Z.foot,q∈v.foot\/z.heap.size<=q:=db;have I5:=h_ BB;have oU:=h_ (And.intro P (And.intro eW (And.intro X N)));have UG:=h_ C;have q_:=h_ pO;have HZS:=h_ M;have E:b≠w.heap.size:=by omega
 obtain⟨m,W⟩:∃m,m=o.setCell ⟨w.heap.size,0,none⟩ (.int .i64 0):=⟨_,rfl⟩;have J:m.heap[w.heap.size]?=some (.cells #[.int .i64 0] 55 (0,0)):=by grind
 have I:m.heap[b]?=some (.cells (xX v.p n j.area j.gen j.first (.slice ea ln ec) us sy 0) 161 (0,0)):=by grind
 have BC:Kept [w.heap.size] o m:=by grind
 have St:=h_ J;have tZ:=h_ I;have I6:=h_ BC;have c6:=cell_of_row m w.heap.size 0 _ _ _ J;simp only[v_]at c6;have Ig:=h_ (xD8 I fo (by omega));have HB4Z:=h_ El;clear dC P eW X db C pO BB N M Y J I BC El S fA;rw[show y6 (j.body y).pay.length=nd from by show y6 y.length=nd;exact BA.symm];go_wp2;refine T_ ?_;rw[ur];refine xAz [23,24] [25,26] 0 (λw'=>w'=o) rfl ?_;simp only[o_]
 repeat (go_big_quiet_step (fail))
 refine wpQuiet_nil ?_;refine xB0 true rfl (by kernel_rfl) ?_;go_wp2;refine⟨λ_=>rfl,xCo ?_⟩;simp only[o_];go_wp2;refine T_ ?_;rw[ur];refine kB ?_;go_upto_region 12 with fail
 refine xm W ?_;clear W c5 f5;go_wp2_with fail;refine Ig.mono ?_;rintro e l ⟨rfl,m7,rfl⟩;have B:Below m.heap.size m (m.drewN m7):=by grind
 have eX:=(B.block b (i_ tZ.out).1).trans tZ.out;have K:=(B.block _ (i_ St.out).1).trans St.out;clear c6;generalize m.drewN m7=l at B eX K⊢
 have OG:SlB l.drew a y:=⟨λq c hq=>by
  have G:=HS.cell q c hq;have hbq:(a.add q).block=a.block:=xY ..;unfold World.cell? at G⊢;rw[show l.drew.heap=l.heap from rfl,hbq,B.block a.block (b7 ha (R_ I5.size I6.size)),I6.block a.block (b7 ha I5.size) (by simp;omega),I5.block a.block ha HAV.out,<-hbq];exact G⟩
 have dV:=h_ (kW a y cap l.drew OG (by have:=nM.out;omega));rw[<-nM.out]at dV;have rf:=h_ B;have F_:=h_ eX;have HE7:=h_ K;have z1:∀z:JbC b (xX v.p n j.area j.gen j.first (.slice ea ln ec) us sy 0),z.1.cell? ⟨b,6,none⟩=some (.slice ea ln ec):=λz=>z.cell 6
 haveI:Nonempty (JbC b (xX v.p n j.area j.gen j.first (.slice ea ln ec) us sy 0)):=⟨⟨l,eX⟩⟩
 clear OG B eX K;go_upto_region 15 with fail
 refine xz [0,1,2,3,4,5,6] [7,8,9,10,11,12,13] (λw'=>∃z:JbC b (xX v.p n j.area j.gen j.first (.slice ea ln ec) us sy 0),w'=z.1) ⟨⟨l.drew,F_.out⟩,rfl⟩ ?_;simp only[o_]
 repeat (go_big_quiet_step (fail))
 refine wpQuiet_nil ?_;clear z1;refine yo true ?_;simp only[o_];go_wp2_with fail;refine dV.mono ?_;rintro e t ⟨cv,rfl,ed,I7,gM⟩;have iO:Below l.heap.size l t:=by grind
 have bG:cv.oneCell'=true:=by
  rcases ed.at with⟨G,_⟩|⟨g,c,G,_⟩ <;> rw[G] <;> rfl
 obtain⟨cg,cc,iG,_,_,_,_⟩:∃g cap,cv=.slice (some ⟨g,0,none⟩) y.length cap/\l.drew.heap.size<=g/\y.length<=cap/\cap<=maxLen/\SlB t ⟨g,0,none⟩ y:=by
  rcases ed.at with⟨G,_⟩|G
  ·exact absurd G I7
  ·exact G
 rw[<-nM.out]at iG;subst iG;have gU:Below t.heap.size t (t.alloc (.cells #[.slice (some ⟨cg,0,none⟩) yn cc] 23)):=by grind
 have nC:=iO.trans (gU.mono iO.size);have om:=(iO.block _ (i_ F_.out).1).trans F_.out;have sU:=(nC.block _ (i_ F_.out).1).trans F_.out;have he9:=(nC.block _ (i_ HE7.out).1).trans HE7.out;have I8:Kept (w.heap.size :: v.foot) w l:=by grind
 have Eo:=I8.trans (Kept.of_below (F:=[]) nC) (λq hq=>by cases hq);obtain⟨V,ie,ig⟩:=I2.out;have Ga:=V.own;rw[<-l_.out]at Ga;have bH:∀k∈es,k<w.heap.size/\k≠b/\k∉v.foot:=λk hk=>(H.es_ k hk).2
 have OH:∀q,(Value.slice ea ln ec).ownBlock=some q->q<w.heap.size/\q≠b/\q∉v.foot:=by grind
 have I9:EnAt (t.alloc (.cells #[.slice (some ⟨cg,0,none⟩) yn cc] 23)) D (.slice ea ln ec) j.entries vs:=V.kept Eo (λk s=>by
  have h5:k∉es:=λhk=>by grind
  exact⟨λe=>h5 (ie k e),λx hx e=>h5 (ig x hx k e)⟩)
 have mR:=I9.own;rw[<-l_.out]at mR;have Fk:OwnB (t.alloc (.cells #[.slice (some ⟨cg,0,none⟩) yn cc] 23)) D (.slice (some ⟨cg,0,none⟩) yn cc) y/\(Value.slice (some ⟨cg,0,none⟩) yn cc)≠.slice none 0 0/\∀k,(Value.slice (some ⟨cg,0,none⟩) yn cc).ownBlock=some k->(Value.slice ea ln ec).ownBlock≠some k:=by
  have h7:w.heap.size<=l.heap.size:=by grind
  refine⟨(ed.below gU).base (by show D<=l.heap.size;have:=IY.out;omega),I7,λk hk e=>?_⟩;have h1:l.heap.size<=k:=(ed.lt hk).1;grind
 have Fw:w.heap.size<cg/\o.heap.size<=cg:=by grind
 have VI:=h_ (And.intro I9 (And.intro Fk Fw));obtain⟨i0,hi,bf,aP,be⟩:=info_parts Tryz.info_slb;have HI:=h_ (And.intro hi (And.intro bf (And.intro aP be)));have tF:Hid ((t.alloc (.cells #[.slice (some ⟨cg,0,none⟩) yn cc] 23)).cell? ⟨t.heap.size,0,none⟩=some (.slice (some ⟨cg,0,none⟩) yn cc)):=h_ (by rw[yD];rfl);have iX:Hid (ln+1<=maxLen):=h_ (by unfold maxLen;omega);have IS:Hid ((ln+1)*24<=140737488355328):=h_ (by omega);have Fj:Hid (D<=(t.alloc (.cells #[.slice (some ⟨cg,0,none⟩) yn cc] 23)).heap.size):=h_ (R_ IY.out Eo.size);have AK:=h_ mR;have Ep:=h_ OH;have Dc:=h_ om;have VJ:=h_ sU;have OI:=h_ he9;have VK:=h_ Eo;have OJ:t.heap.size<(t.alloc (.cells #[.slice (some ⟨cg,0,none⟩) yn cc] 23)).heap.size:=by simp
 have HS89:=h_ OJ;have HK07:=h_ I8;have HB78:=h_ iO;have VL:=h_ nC;clear ed I7 gM iO gU nC om sU he9 I8 Eo V ie ig Ga bH OH I9 Fk Fw mR hi bf aP be OJ dV bG;go_wp2_with fail;refine⟨λ_=>⟨⟨t,Dc.out⟩,rfl⟩,yo true ?_⟩;simp only[o_];go_wp2;refine⟨λ_=>⟨⟨_,VJ.out⟩,rfl⟩,yo true ?_⟩;simp only[o_]
 go_wp2_with (at_builtin;refine wpList_append_own_at _ rfl (.tmp 77) (.tmp 80) 157 rfl D 23 i0 (.slice none 0 0) 1 24 underlying157 HI.1 HI.2.1 HI.2.2.1 HI.2.2.2 rfl (by decide) _ ln _ rfl AK.out ⟨t.heap.size,0,none⟩ 1 1 [.slice (some ⟨cg,0,none⟩) yn cc] rfl rfl (λq u hq=>by
   match q,hq with
   |0,hq=>
    simp only[t1,ag_]at hq;subst hq;rw[l8];exact tF.out) (λu hu=>by simp at hu;rw[hu];rfl) iX.out IS.out Fj.out ?_)
 intro v' Q AL O _ sI;obtain⟨va,vc,VM⟩:=yK AL;have mo:=(O.block b (i_ VJ.out).1 (λe=>(Ep.out b e.symm).2.1 rfl)).trans VJ.out;have VN:=(O.block _ (i_ OI.out).1 (λe=>by have:=(Ep.out _ e.symm).1;omega)).trans OI.out;have Su:=cell_of_row Q b 6 _ _ _ mo;have f10:=frozen_of_row Q b 6 _ _ mo;simp only[xX,v_]at Su;have hvb:∀q,v'.ownBlock=some q->q≠b/\q≠w.heap.size/\((Value.slice ea ln ec).ownBlock=some q\/(w.heap.size<q/\o.heap.size<=q)):=λq hq=>by grind
 subst VM;have VO:∀q:Nat,q=q:=λ_=>rfl
 obtain⟨R,rO⟩:∃R,R=Q.setCell ⟨b,6,none⟩ (.slice va (ln+1) vc):=⟨_,rfl⟩;have mq:R.heap[b]?=some (.cells (xX v.p n j.area j.gen j.first (.slice va (ln+1) vc) us sy 0) 161 (0,0)):=by rw[rO,heap_setCell_same Q b 6 _ _ _ mo];rfl
 have VP:R.heap[w.heap.size]?=some (.cells #[.int .i64 0] 55 (0,0)):=by grind
 have c11:=cell_of_row R b 7 _ _ _ mq;have f11:=frozen_of_row R b 7 _ _ mq;simp only[xX,v_]at c11;obtain⟨i,oQ⟩:∃i,i=R.setCell ⟨b,7,none⟩ (.int .i64 ((us:Int)+nd)):=⟨_,rfl⟩;have VQ:i.heap[b]?=some (.cells (xX v.p n j.area j.gen j.first (.slice va (ln+1) vc) (us+nd) sy 0) 161 (0,0)):=by
  rw[oQ,heap_setCell_same R b 7 _ _ _ mq];have e:((us:Int)+nd)=((us+nd:Nat):Int):=by omega
  rw[e];rfl
 have Er:i.heap[w.heap.size]?=some (.cells #[.int .i64 0] 55 (0,0)):=by grind
 have c12:=cell_of_row i w.heap.size 0 _ _ _ Er;have f12:=frozen_of_row i w.heap.size 0 _ _ Er;simp only[v_]at c12;have OK:(i.setCell ⟨w.heap.size,0,none⟩ (.int .i64 0)).heap[w.heap.size]?=some (.cells #[.int .i64 0] 55 (0,0)):=by rw[heap_setCell_same i w.heap.size 0 _ _ _ Er];rfl
 have OL:(i.setCell ⟨w.heap.size,0,none⟩ (.int .i64 0)).heap[b]?=some (.cells (xX v.p n j.area j.gen j.first (.slice va (ln+1) vc) (us+nd) sy 0) 161 (0,0)):=by grind
 have OM:=h_ OK;have nN:Kept [b,w.heap.size] Q (i.setCell ⟨w.heap.size,0,none⟩ (.int .i64 0)):=by grind
 have BD:Kept ((Value.slice ea ln ec).ownBlock.toList) (t.alloc (.cells #[.slice (some ⟨cg,0,none⟩) yn cc] 23)) Q:=⟨O.os,O.tape,O.output,O.size,λq hq T=>O.block q hq (λe=>T (by rw[<-e];simp))⟩;have Gb:EnAt Q D (.slice va (ln+1) vc) (j.entries++[y]) (vs++[.slice (some ⟨cg,0,none⟩) yn cc]):=by grind [EnAt.app,World.size_alloc,Option.some.injEq]
 have Gc:=h_ Gb
 have aC:Hid (xWg D b v d j y es sy w (.returned (.tuple #[.int .i64 ((j.first:Int)+ln),.int .i64 0])) (i.setCell ⟨w.heap.size,0,none⟩ (.int .i64 0))):=h_ (by
  obtain⟨P,eW,X,N⟩:=oU.out;have M:=HZS.out;have mB:∀q,q<z.heap.size->q∉v.foot->q∉Z.foot:=λq h1 h2 s=>by grind
  have bt:b<z.heap.size:=by omega
  have hevz:∀q,(Value.slice ea ln ec).ownBlock=some q->q∉Z.foot:=λq hq=>mB q (by have:=(Ep.out q hq).1;omega) (Ep.out q hq).2.2
  have Y:w.heap.size∉v.foot:=λs=>W9 _ (H.dev.foot_lt _ s).2
  have bk:=H.inv.added4 sha yR H.up y (by have:=nM.out;omega) (by have:=l_.out;omega) (by have:=OB.out;rw[<-ol.out,<-BA.out,<-HN.out];exact this) mX.symm;refine⟨by rw[l_.out],?_,Z,es++(cg :: (Value.slice va (ln+1) vc).ownBlock.toList),P,eW,?_,λq hq=>?_,λq hq=>?_⟩
  ·have k1:=VK.mono (F':=b :: (w.heap.size :: (v.foot++(Value.slice ea ln ec).ownBlock.toList))) (λq hq _=>by
    rcases g8.1 hq with h1|h1
    ·simp[h1]
    ·simp[h1])
   have k2:=(k1.trans BD (λq hq=>.inl (by simp at hq;simp[hq]))).trans nN (λq hq=>.inl (by simp at hq;rcases hq with h|h <;> simp[h]));refine k2.mono (λq hq hlt=>?_);grind
  ·have gT:(d.puts (j.area*(d.n/2)+(j.secs sha).length) (xJ sha (j.body y))).1.n=d.n:=bk.2.2.1;have hes:∀q∈es++(cg :: (Value.slice va (ln+1) vc).ownBlock.toList),q∈es\/(w.heap.size<q/\o.heap.size<=q):=λq hq=>by grind
   have BE:EnAt (i.setCell ⟨w.heap.size,0,none⟩ (.int .i64 0)) D (.slice va (ln+1) vc) (j.entries++[y]) (vs++[.slice (some ⟨cg,0,none⟩) yn cc]):=Gc.kept nN (λk s=>by
    have h5:k∉es++(cg :: (Value.slice va (ln+1) vc).ownBlock.toList):=λhk=>by
     have h9:k=b\/k=w.heap.size:=by grind
     rcases hes k hk with h1|h1
     ·have h2:=(H.es_ k h1).2;rcases h9 with h|h
      ·exact h2.2.1 h
      ·omega
     ·omega
    refine⟨λe=>h5 (m3.2 (.inr (V0 _ (R2.2 e)))),λx hx e=>h5 ?_⟩;rcases m3.1 hx with h1|h1
    ·grind
    ·rw[S_.1 h1]at e;have:cg=k:=G0 e;exact m3.2 (.inr (by rw[this];exact cb_ ..)))
   have ON:EnAt (i.setCell ⟨w.heap.size,0,none⟩ (.int .i64 0)) D (.slice va (ln+1) vc) (j.add y).entries (vs++[Value.slice (some ⟨cg,0,none⟩) yn cc]):=BE;refine⟨⟨Value.slice va (ln+1) vc,vs++[Value.slice (some ⟨cg,0,none⟩) yn cc],?_,ON,λq hq=>m3.2 (.inr (V0 _ (R2.2 hq))),λx hx q hq=>?_⟩,?_,by rw[gT];exact bk.2.2.2,bk.2.1,H.bB,mB b bt H.bv,λq hq=>?_⟩
   ·rw[P,gT];have cm:((j.add y).secs sha).length=us+nd:=by
     rw[kG,b6,zq,ol.out,BA.out];rfl
    rw[cm,<-HN.out];exact OL
   ·rcases m3.1 hx with h1|h1
    ·grind
    ·rw[S_.1 h1]at hq;have:cg=q:=G0 hq;grind
   ·have k5:Kept (w.heap.size :: (b :: (Value.slice ea ln ec).ownBlock.toList)) o (i.setCell ⟨w.heap.size,0,none⟩ (.int .i64 0)):=by
     have a1:=(I6.mono (F':=w.heap.size :: (b :: (Value.slice ea ln ec).ownBlock.toList)) (λq hq _=>by simp at hq;simp[hq])).trans (Kept.of_below (F:=[]) (rf.trans (VL.mono rf.size))) (λq hq=>by cases hq);exact(a1.trans BD (λq hq=>.inl (by simp at hq;simp[hq]))).trans nN (λq hq=>.inl (by simp at hq;rcases hq with h|h <;> simp[h]))
    rw[<-ee.out];refine X.kept k5 (λq hq s=>?_);rcases g8.1 s with h1|h1
    ·grind
    ·rcases g8.1 h1 with h2|h2
     ·exact mB b bt H.bv (h2▸hq)
     grind
   ·have hd9:D<=q/\q<(i.setCell ⟨w.heap.size,0,none⟩ (.int .i64 0)).heap.size:=by
     rcases m3.1 hq with h1|h1
     ·have h2:=H.es_ q h1;grind
     ·rcases g8.1 h1 with h2|h2
      ·have:=BE.blk (.slice (some ⟨cg,0,none⟩) yn cc) (m3.2 (.inr (S_.2 rfl))) cg rfl;omega
      ·exact s5 BE.own q (R2.1 h2)
    refine⟨hd9.1,hd9.2,?_⟩;rcases hes q hq with h1|h1
    ·have h2:=(H.es_ q h1).2;grind
    ·refine⟨by omega,λs=>?_⟩;rcases N q s with h3|h3
     ·have:=(H.dev.foot_lt _ h3).2;omega
     ·have:=(X.foot_lt _ s).2;omega
  ·grind
  ·rcases m3.1 hq with h1|h1
   ·exact .inl h1
   ·rcases g8.1 h1 with h2|h2
    ·grind
    ·rcases (hvb q (R2.1 h2)).2.2 with h3|h3
     ·grind
     ·exact .inr (by omega))
 have Dx:=h_ mo;clear mo VN hvb mq VP VQ Er OK OL nN BD O AL sI Gb Gc VI VO;go_wp2_with fail;refine⟨λ_=>⟨⟨Q,Dx.out⟩,rfl⟩,yE ?_⟩;simp only[o_];go_wp2;refine T_ ?_;go_upto_region 16 with fail
 refine xm rO ?_;clear rO Su f10;go_upto_region 17 with fail
 refine xm oQ ?_;clear oQ c11 f11;go_wp2;have OO:=cell_of_row _ w.heap.size 0 _ _ _ OM.out;refine leaves_cons (f:=84) (args:=#[.pointer (some ⟨b,0,none⟩),.pointer (some ⟨w.heap.size,0,none⟩)]) (by simp) (by simp[go_sem]) ?_;refine(xSx b w.heap.size _ OO).mono ?_;rintro e u' w'' ⟨rfl,rfl,rfl⟩;exact⟨.tuple #[.int .i64 ((j.first:Int)+ln),.int .i64 0],xG0 rfl _ _ _ _ _ rfl rfl OO,aC.out⟩
end
structure HEnt where
 id:Id32
 arr:Int
 date:Int
 st:Int
 perm:Bool
def qD (x:HEnt):List Value:=xl x.id++[.int .i64 x.arr,.int .i64 x.date,.int .i64 x.st,.bool x.perm]
def xr (x:HEnt):Array Value:=(qD x).toArray
theorem xK4 (x):(qD x).length=36:=by simp[qD,xD]
theorem xM (x):(xr x).size=36:=by simp[xr,xK4]
theorem xDa (x j):(qD x)[32+j]?=[Value.int .i64 x.arr,.int .i64 x.date,.int .i64 x.st,.bool x.perm][j]?:=by simp[qD,M1,xD]
theorem he32 (x):(xr x)[32]?=some (.int .i64 x.arr):=by simpa[xr]using xDa x 0
theorem he33 (x):(xr x)[33]?=some (.int .i64 x.date):=by simpa[xr]using xDa x 1
theorem he34 (x):(xr x)[34]?=some (.int .i64 x.st):=by simpa[xr]using xDa x 2
theorem yF5 (x):∀v∈qD x,v.oneCell'=true:=by
 intro v hv;unfold qD at hv;rcases m3.1 hv with h|h
 ·grind [zT]
 ·simp at h;rcases h with rfl|rfl|rfl|rfl <;> rfl
theorem xE5 (x):xt 36 (xr x)=true:=zY (xM x) (by
 rw[B3];intro v hv;exact yF5 x v (by simpa[xr]using hv))
def HEnt.Ok (x:HEnt):Prop:=0<=x.arr/\x.arr<=105190559/\0<=x.date/\x.date<=105190559/\(x.st=0\/x.st=1)
theorem HEnt.Ok.of {x y}(h:x.Ok)(e:xr x=xr y):y.Ok:=by
 have h1:=(he32 x).symm.trans ((congrArg (λa=>a[32]?) e).trans (he32 y));grind [he33,he34,Option.some.injEq,Value.int.injEq,HEnt.Ok]
theorem xM0 {k u}:∀{l:List (KE Id32)},getK k l=some u->∃e∈l,e.v=u
 |[],h=>by simp[xDd]at h
 |e :: l,h=>by
  rw[vK]at h;split at h
  ·grind
  ·obtain⟨x,hx,a⟩:=xM0 h;grind
def xF2 (es:List (KE Id32))(c:Nat):Prop:=(∀e∈es,e.b<c)/\(es.map (·.b)).Nodup
theorem xF2.nil (c):xF2 [] c:=⟨λe h=>(by cases h),by simp⟩
theorem xWn (k v):∀(l:List (KE Id32)),(updL k v l).map (·.b)=l.map (·.b)
 |[]=>rfl
 |e :: l=>by
  unfold updL;by_cases h:k=e.k
  ·rw[if_pos h];rfl
  ·rw[if_neg h,t8,t8,xWn k v l]
theorem xT1 {k v x}:∀{l:List (KE Id32)},x∈updL k v l->x.v=v\/x∈l
 |[],h=>by cases h
 |e :: l,h=>by
  unfold updL at h;by_cases hk:k=e.k
  ·grind
  ·rw[if_neg hk]at h;rcases g8.1 h with h|h
   ·grind
   ·exact(xT1 h).imp_right (V0 _)
theorem xL4 {k:Id32}{v c l x}(h:x∈putL k v c l):x.v=v\/x∈l:=by
 unfold putL at h;split at h
 ·exact xT1 h
 grind
theorem xF2.put {es c}(h:xF2 es c)(k v):xF2 (putL k v c es) (putC k c es):=by
 unfold putL putC;split
 ·refine⟨λe d=>?_,by rw[xWn];exact h.2⟩;have:e.b∈es.map (·.b):=by grind [xWn,List.mem_map.2]
  obtain⟨e',g,f⟩:=D4.1 this;rw[<-f];exact h.1 e' g
 ·refine⟨λe d=>?_,?_⟩
  ·rcases m3.1 d with d|d
   ·exact Nat.lt_succ_of_lt (h.1 e d)
   grind
  ·rw[L8,M6];refine⟨h.2,by simp,λa ha b f e=>?_⟩;obtain⟨x,hx,rfl⟩:=D4.1 ha;have i:b=c:=by grind
   have:=h.1 x hx;omega
structure Hst where
 p:Nat
 M:Nat
 es:List (KE Id32)
 mc:Nat
 cut:Int
structure yX (B:Nat)(w:World)(v:Hst):Prop where
 blk:w.heap[v.p]?=some (.cells #[.map (some v.M),.int .i64 v.cut] 147 (0,0))
 map:xV ekI w v.M v.es v.mc
 ne:v.p≠v.M
 pB:B<=v.p
 MB:B<=v.M
 vals:(∀k u,getK k v.es=some u->∃x:HEnt,u=.agg (xr x))/\xF2 v.es v.mc/\∀e∈v.es,∃x:HEnt,x.Ok/\e.v=.agg (xr x)
def Hst.foot (v:Hst):List Nat:=[v.p,v.M]
theorem yX.lt {B w v}(h:yX B w v):v.p<w.heap.size/\v.M<w.heap.size:=⟨(i_ h.blk).1,h.map.lt⟩
theorem yX.kept {B w w' v F}(h:yX B w v)(a:Kept F w w')(b:∀k∈v.foot,k∉F):yX B w' v:=
 ⟨(a.block _ h.lt.1 (b _ (by simp[Hst.foot]))).trans h.blk,(a.block _ h.lt.2 (b _ (by simp[Hst.foot]))).trans h.map,h.ne,h.pB,h.MB,h.vals⟩
theorem yX.below {B w w' v}(h:yX B w v)(a:Below w.heap.size w w'):yX B w' v:=h.kept (Kept.of_below (F:=[]) a) (λ_ _ h=>by cases h)
theorem xLv (w):Calls prog 70 #[] w λe w'=>Below w.heap.size w w'/\e=.returned (.pointer (some ⟨w.heap.size+1,0,none⟩))/\yX w.heap.size w' ⟨w.heap.size+1,w.heap.size,[],0,0⟩:=by
 have f:=@run_makeMap prog;have a:Below w.heap.size w ((w.alloc (.map #[] 0)).alloc (.cells #[.map (some w.heap.size),.int .i64 0] 147)):=by grind
 have b:yX w.heap.size ((w.alloc (.map #[] 0)).alloc (.cells #[.map (some w.heap.size),.int .i64 0] 147)) ⟨w.heap.size+1,w.heap.size,[],0,0⟩:=by
  refine⟨?_,?_,by simp,by simp,w_ _,⟨λk u h=>by simp[xDd]at h,xF2.nil _,λe h=>by cases h⟩⟩
  ·grind
  grind [xV]
 have c:=h_ a;have d:=h_ b;clear a b;go_enter func70,ntmps70;go_wp2;go_ret;exact⟨c.out,rfl,d.out⟩
theorem kg (n)(a:0<=n)(h1:n<=105190559)(w):Calls prog 166 #[.int .i64 n] w λe w'=>e=.returned (.bool true)/\w=w':=by
 go_enter func166,ntmps166;go_wp2;go_ret;exact⟨xOk (by simp),rfl⟩
theorem xLf (b es clock w)(c:w.heap[b]?=some (.map es clock)):
  Calls prog 87 #[.map (some b)] w λe w'=>e=.returned (.map (some w.heap.size))/\w.alloc (.map es clock)=w':=by
 have a:prog.underlying 145=some (.map 42 79):=by simp
 have hq:=λw=>run_eql_map_nil_sl (P:=prog) w 145 _ _ (some b) a
 go_enter func87,ntmps87;go_wp2;rw[run_callFunc_extern func91 (by kernel_rfl) (by kernel_rfl) (by kernel_rfl) (e:=Extern.MapsClone.clone) (by kernel_rfl),run_maps_clone_sl w 145 c];simp only[Result.andThen];rw[aF_];go_wp2;rw[run_typeAssert_map_sl _ 145 20 _ _ _ a];simp only[Result.andThen];rw[aF_];go_wp2;go_ret;exact⟨rfl,rfl⟩
theorem xLx {B w v}(h:yX B w v):Calls prog 48 #[.pointer (some ⟨v.p,0,none⟩)] w λe w'=>Below w.heap.size w w'/\∃v',e=.returned (.pointer (some ⟨v'.p,0,none⟩))/\yX w.heap.size w' v'/\v'.es=v.es/\v'.mc=v.mc/\v'.cut=v.cut:=by
 have c0:=cell_of_row w v.p 0 _ _ _ h.blk;have c1:=cell_of_row w v.p 1 _ _ _ h.blk;simp only[v_]at c0 c1;have z0:∀z:xf w,z.1.cell? ⟨v.p,0,none⟩=some (.map (some v.M)):=by grind
 have i:∀z:xf w,z.1.cell? ⟨v.p,1,none⟩=some (.int .i64 v.cut):=by grind
 have l:=h_ (xLf v.M _ v.mc w.drew h.map);have k:=h_ h.vals;clear h c0 c1;go_enter func48,ntmps48;go_upto_region 3 with fail
 refine xz [0,1,2,3,5,6,7,8] [4,9,10,11] (λw'=>∃z:xf w,w'=z.1) ⟨⟨w.drew,(z_ _ _).drew⟩,rfl⟩ ?_;simp only[o_]
 repeat (go_big_quiet_step (fail))
 refine wpQuiet_nil ?_;clear z0 i;refine yo true ?_;simp only[o_];go_wp2_with fail;refine l.mono ?_;rintro e w' ⟨rfl,rfl⟩;have a:Below w.heap.size w (w.drew.alloc (.map (v.es.map (enE ekI)).toArray v.mc)):=by grind
 have b:=heap_alloc_new w.drew (.map (v.es.map (enE ekI)).toArray v.mc);have f:(w.drew.alloc (.map (v.es.map (enE ekI)).toArray v.mc)).heap.size=w.heap.size+1:=by simp
 generalize w.drew.alloc (.map (v.es.map (enE ekI)).toArray v.mc)=w1 at a b f⊢;have j:=h_ a;have d:Below w.heap.size w (w1.alloc (.cells #[.map (some w.heap.size),.int .i64 v.cut] 147)):=by grind
 have c:yX w.heap.size (w1.alloc (.cells #[.map (some w.heap.size),.int .i64 v.cut] 147)) ⟨w1.heap.size,w.heap.size,v.es,v.mc,v.cut⟩:=
  ⟨heap_alloc_new w1 _,(heap_alloc_old _ _ (by show w.heap.size<w1.heap.size;omega)).trans b,by show w1.heap.size≠w.heap.size;omega,a.size,w_ _,k.out⟩
 have g:=h_ (And.intro d c);clear a b f d c;go_wp2_with fail;refine⟨λ_=>⟨⟨w1,j.out⟩,rfl⟩,yE ?_⟩;simp only[o_];go_wp2;refine T_ ?_;go_wp2;go_ret;exact⟨g.1,⟨w1.heap.size,w.heap.size,v.es,v.mc,v.cut⟩,rfl,g.2,rfl,rfl,rfl⟩
section
def ja:=lx_ 79
def vm:=sx_ 79
def xGf:=@yh prog 79 36 isAgg79 sizeOf79
def xFx:=@yk prog 79 36 (by kernel_rfl)
def qy:HEnt:=⟨yI,0,0,0,false⟩
theorem vo (ρ:Operand->Value)(d)(ty:TypeId)(pos af g w):
  Sem.run prog (execOp ρ ⟨d,.alloc 79,ty,pos,af,g⟩) w=.ok (.value (.pointer (some ⟨w.heap.size,0,none⟩))) (w.alloc (.cells (xr qy) 79)):=by kernel_rfl
theorem yAb (w):(zeroValue 79).run prog w=.ok (.agg (xr qy)) w:=by kernel_rfl
theorem xZn {w b x}{t:TypeId}(h:w.heap[b]?=some (.cells (xr x) t (0,0))):xp w ⟨b,0,none⟩ 32=true/\xo w ⟨b,0,none⟩ 32=(xl x.id).toArray:=by
 have:=yl (w:=w) (a:=⟨b,0,none⟩) (cs:=xl x.id) (λj v c=>by
  rw[l8,m0,cell_of_row _ _ _ _ _ _ h];unfold xr qD;rw[l7,I3 (L7.1 c).1];exact c)
 grind [xD]
theorem yX.look {B w v}(h:yX B w v)(k):∃x:HEnt,(getK k v.es=none->x=qy)/\(∀u,getK k v.es=some u->u=.agg (xr x)) /\
  ∀W,W.heap[v.M]?=w.heap[v.M]?->(Instr.lookup 145 (.map (some v.M)) (.agg (xl k).toArray) true).run prog W=.ok (.tuple #[.agg (xr x),.bool (getK k v.es).isSome]) W:=by
 have b:∀W,W.heap[v.M]?=w.heap[v.M]?->(Instr.lookup 145 (.map (some v.M)) (.agg (xl k).toArray) true).run prog W=.ok (.tuple #[(getK k v.es).getD (.agg (xr qy)),.bool (getK k v.es).isSome]) W:=λW a=>by
  have h1:=xDz keyI underlying145 (.agg (xr qy)) yAb W v.M v.es v.mc (by have:=h.map;unfold xV at this⊢;exact a.trans this) k;grind [yG,getK]
 cases hg:getK k v.es with
 |none=>
  simp_all
 |some u=>
  obtain⟨x,hx⟩:=h.vals.1 k u hg;refine⟨x,(λh=>(by cases h)),(λu' h=>(by cases h;exact hx)),λW a=>?_⟩;rw[b W a,hg,<-hx];rfl
attribute [local go_sem ↓] xP xI ja vm vo
attribute [local go_sem] zg zj xGf xFx xh xg xe xd xx xy xk xj xq xB xw
theorem yF4 {B w v}(h:yX B w v)(id):∃x:HEnt,(getK id v.es=none->x=qy)/\(∀u,getK id v.es=some u->u=.agg (xr x)) /\
  Calls prog 22 #[.pointer (some ⟨v.p,0,none⟩),.agg (xl id).toArray] w λe w'=>Below w.heap.size w w'/\e=.returned (.tuple #[.agg (xr x),.bool (getK id v.es).isSome]):=by
 obtain⟨x,l,m,b⟩:=h.look id;refine⟨x,l,m,?_⟩;obtain⟨a,r⟩:∃a,a=(w.alloc (.cells (xl id).toArray 42)).alloc (.cells (xr qy) 79):=⟨_,rfl⟩;have d:Below w.heap.size w a:=by grind
 have k:a.heap[w.heap.size]?=some (.cells (xl id).toArray 42 (0,0)):=by grind
 have s:a.heap[w.heap.size+1]?=some (.cells (xr qy) 79 (0,0)):=by grind
 have f:=h.below d;have c0:=cell_of_row a v.p 0 _ _ _ f.blk;simp only[v_]at c0;have z0:∀z:xf a,z.1.cell? ⟨v.p,0,none⟩=some (.map (some v.M)):=by grind
 have ri:=yx k;have A:∀z:xf a,xp z.1 ⟨w.heap.size,0,none⟩ 32=true:=by grind [xf.ok]
 have y:∀z:xf a,xo z.1 ⟨w.heap.size,0,none⟩ 32=(xl id).toArray:=by grind [xf.rd]
 have z3:∀z:xf a,(Instr.lookup 145 (.map (some v.M)) (.agg (xl id).toArray) true).run prog z.1=.ok (.tuple #[.agg (xr x),.bool (getK id v.es).isSome]) z.1:=λz=>b z.1 ((z.2.block _ f.lt.2).trans (d.block _ h.lt.2))
 obtain⟨ok,o⟩:∃ok,ok=(getK id v.es).isSome:=⟨_,rfl⟩;rw[<-o]at z3⊢;have H:=xE5 x;have E:=xM x;have D:=xM qy;have q:=h_ d;have j:=h_ s;have J:((xr qy).size==36)=true:=by grind
 clear k f c0 ri b l m o d s h E D;go_enter func22,ntmps22;go_upto_region 3 with fail
 refine xm r ?_;clear r;refine xz [0,1,2,3,4,5,6,7,8] [9,10,11] (λw'=>∃z:xf a,w'=z.1) ⟨⟨a.drew,(z_ _ _).drew⟩,rfl⟩ ?_;simp only[o_]
 repeat (go_big_quiet_step (fail))
 refine wpQuiet_nil ?_;clear z0 A y z3;refine yo true ?_;simp only[o_];go_wp2;refine⟨λ_=>⟨⟨_,(((z_ _ _).alloc (w_ _) _).drew:Below a.heap.size a _)⟩,rfl⟩,yo true ?_⟩;simp only[o_];go_wp2;have c:Below a.heap.size a (a.alloc (.cells (xr x) 79)).drew:=by grind
 have g:(a.alloc (.cells (xr x) 79)).drew.heap[a.heap.size]?=some (.cells (xr x) 79 (0,0)):=by grind
 generalize (a.alloc (.cells (xr x) 79)).drew=w2 at c g⊢;have C:=h_ c;have i:=(c.block _ (i_ j.out).1).trans j.out;obtain⟨o2,G⟩:=xF (n:=36) g (xM x);have I:xN w2 (w.heap.size+1) 36=true:=za i (xM qy);have t:=h_ (xF (n:=36) (setRow_heap w2 (w.heap.size+1) _ (xr x) _ _ i) (xM x));have F:=h_ (xH (q.trans (c.mono q.size)) (show w.heap.size<=w.heap.size+1 by omega) (xr x));clear c g i;refine⟨λ_=>⟨⟨w2,C.out⟩,rfl⟩,yE ?_⟩;simp only[o_];go_wp2;refine T_ ?_;go_wp2;exact bodyPost_ret (v:=.tuple #[.agg (xr x),.bool ok]) (uR rfl isAgg79 sizeOf79 _ _ ⟨w.heap.size+1,0,none⟩ _ _ rfl rfl t.1 t.2) rfl ⟨F.out,rfl⟩
end
section
attribute [local go_sem ↓] xP xI ja vm vo
attribute [local go_sem] zg zj xGf xFx xh xg xe xd xx xy xk xj xq xB xw
theorem yBt (x)(hx:x.Ok)(w):Calls prog 199 #[.agg (xr x)] w λe w'=>e=.returned (.int .i64 0)/\Below w.heap.size w w':=by
 obtain⟨a,f⟩:∃a,a=w.alloc (.cells (xr x) 79):=⟨_,rfl⟩;have g:Below w.heap.size w a:=by grind
 have c:a.heap[w.heap.size]?=some (.cells (xr x) 79 (0,0)):=by grind
 have c1:=(cell_of_row a w.heap.size 32 _ _ _ c).trans (he32 x);have c2:=(cell_of_row a w.heap.size 33 _ _ _ c).trans (he33 x);have c3:=(cell_of_row a w.heap.size 34 _ _ _ c).trans (he34 x);have i:=h_ (kg x.arr hx.1 hx.2.1 a);have h:=h_ (kg x.date hx.2.2.1 hx.2.2.2.1 a);have d:=h_ g;have b:=hx.2.2.2.2;clear g c hx;go_enter func199,ntmps199;go_upto_region 1 with fail
 refine xm f ?_;clear f;obtain⟨s,hs⟩:∃s,s=x.st:=⟨_,rfl⟩;rw[<-hs]at b c3;clear hs;go_wp2_with fail;refine i.mono ?_;rintro e w' ⟨rfl,rfl⟩;go_wp2_with fail;refine h.mono ?_;rintro e w' ⟨rfl,rfl⟩;rcases b with rfl|rfl
 ·go_wp2;go_ret;exact⟨rfl,d.out⟩
 ·go_wp2;go_ret;exact⟨rfl,d.out⟩
def yGs (B:Nat)(v:Hst)(x:HEnt)(w:World)(e:Ending)(w':World):Prop:=
 e=.returned (.int .i64 0)/\Kept [v.M] w w'/\yX B w' { v with es:=putL x.id (.agg (xr x)) v.mc v.es,mc:=putC x.id v.mc v.es }
theorem yX.put {B w v}(h:yX B w v)(x)(hx:x.Ok):yX B (w.putObj v.M (.map ((putL x.id (.agg (xr x)) v.mc v.es).map (enE ekI)).toArray (putC x.id v.mc v.es))) { v with es:=putL x.id (.agg (xr x)) v.mc v.es,mc:=putC x.id v.mc v.es }:=by
 refine⟨(x6 h.ne).trans h.blk,h.map.put,h.ne,h.pB,h.MB,λk u a=>?_,h.vals.2.1.put _ _,λe b=>(xL4 b).elim (λh1=>⟨x,hx,h1⟩) (h.vals.2.2 e)⟩;simp only at a;rw[xDc]at a;split at a
 ·grind
 ·exact h.vals.1 k u a
def minB (n:Int):Bool:=decide (0<=n)&&decide (n<=105190559)
theorem xGi (n w):Calls prog 166 #[.int .i64 n] w λe w'=>e=.returned (.bool (minB n))/\w=w':=by
 unfold minB;by_cases h0:0<=n
 ·by_cases h1:n<=105190559
  ·grind [kg]
  ·rw[decide_eq_true h0,decide_eq_false h1];go_enter func166,ntmps166;go_wp2;go_ret;exact⟨xOk (by simp),rfl⟩
 ·rw[decide_eq_false h0,Bool.false_and];go_enter func166,ntmps166;go_wp2;go_ret;exact⟨xOk (by simp),rfl⟩
theorem xY0 (x)(hx:(minB x.arr&&minB x.date)=false)(w):Calls prog 199 #[.agg (xr x)] w λe w'=>e=.returned (.int .i64 13)/\Below w.heap.size w w':=by
 obtain⟨a,g⟩:∃a,a=w.alloc (.cells (xr x) 79):=⟨_,rfl⟩;have h:Below w.heap.size w a:=by grind
 have d:a.heap[w.heap.size]?=some (.cells (xr x) 79 (0,0)):=by grind
 have c1:=(cell_of_row a w.heap.size 32 _ _ _ d).trans (he32 x);have c2:=(cell_of_row a w.heap.size 33 _ _ _ d).trans (he33 x);have j:=h_ (xGi x.arr a);have i:=h_ (xGi x.date a);have f:=h_ h;obtain⟨ba,c⟩:∃ba,ba=minB x.arr:=⟨_,rfl⟩;obtain⟨bd,b⟩:∃bd,bd=minB x.date:=⟨_,rfl⟩;rw[<-c,<-b]at hx;rw[<-c]at j;rw[<-b]at i;clear h d c b;go_enter func199,ntmps199;go_upto_region 1 with fail
 refine xm g ?_;clear g;go_wp2_with fail;refine j.mono ?_;rintro e w' ⟨rfl,rfl⟩;cases ba with
 |false=>
  go_wp2;go_ret;exact⟨rfl,f.out⟩
 |true=>
 cases bd with
 |true=>cases hx
 |false=>
  go_wp2_with fail;refine i.mono ?_;rintro e w' ⟨rfl,rfl⟩;go_wp2;go_ret;exact⟨rfl,f.out⟩
def xJ7 (es:List (KE Id32))(x:HEnt):Int:=if (minB x.arr&&minB x.date)=true then (if (getK x.id es).isSome then 7 else 0)else 13
theorem xR1 {x:HEnt}(h:(minB x.arr&&minB x.date)=true)(a:x.st=0):x.Ok:=by
 unfold minB at h;simp only[A0,decide_eq_true_eq]at h;exact⟨h.1.1,h.1.2,h.2.1,h.2.2,.inl a⟩
theorem yFa {B w v}(h:yX B w v)(x)(A:x.st=0)(hl:v.es.length<=1000):
  Calls prog 323 #[.pointer (some ⟨v.p,0,none⟩),.agg (xr x)] w λe w'=>(xJ7 v.es x=0->yGs B v x w e w')/\(xJ7 v.es x≠0->e=.returned (.int .i64 (xJ7 v.es x))/\Below w.heap.size w w'):=by
 obtain⟨er,b⟩:∃er,er=xJ7 v.es x:=⟨_,rfl⟩;rw[<-b];unfold xJ7 at b;by_cases hmn:(minB x.arr&&minB x.date)=true
 case neg=>
  rw[if_neg hmn]at b;subst b;obtain⟨c,l⟩:∃c,c=w.alloc (.cells (xr x) 79):=⟨_,rfl⟩;have m:Below w.heap.size w c:=by grind
  have i:c.heap[w.heap.size]?=some (.cells (xr x) 79 (0,0)):=by grind
  obtain⟨o1,u⟩:=xF (n:=36) i (xM x);have y:=h_ (xY0 x (by simpa using hmn) c);have j:=h_ m;clear h m i hmn;go_enter func323,ntmps323;go_upto_region 1 with fail
  refine xm l ?_;clear l;go_wp2_with fail;refine y.mono ?_;rintro e a ⟨rfl,g⟩;have f:=h_ (j.trans (g.mono j.size));clear g o1 u;go_wp2;go_ret;exact⟨λe=>(by cases e),λ_=>⟨rfl,f.out⟩⟩
 rw[if_pos hmn]at b;have hx:=xR1 hmn A;clear hmn;obtain⟨c,l⟩:∃c,c=w.alloc (.cells (xr x) 79):=⟨_,rfl⟩;have m:Below w.heap.size w c:=by grind
 have i:c.heap[w.heap.size]?=some (.cells (xr x) 79 (0,0)):=by grind
 obtain⟨o1,u⟩:=xF (n:=36) i (xM x);have y:=h_ (yBt x hx c);have H:=h_ h;have j:=h_ m;have L:=h_ i;have J:=h_ hx;clear h m i hx;go_enter func323,ntmps323;go_upto_region 1 with fail
 refine xm l ?_;clear l;go_wp2_with fail;refine y.mono ?_;rintro e a ⟨rfl,g⟩;have f:=h_ (j.trans (g.mono j.size));have I:=(g.block _ (i_ L.out).1).trans L.out;have O:=h_ I;have G:=H.below f.out;have c0:=cell_of_row a v.p 0 _ _ _ G.blk;simp only[v_]at c0;have z0:∀z:xf a,z.1.cell? ⟨v.p,0,none⟩=some (.map (some v.M)):=by grind
 have ri:=xZn I;have t:∀z:xf a,xp z.1 ⟨w.heap.size,0,none⟩ 32=true:=by grind [xf.ok]
 have s:∀z:xf a,xo z.1 ⟨w.heap.size,0,none⟩ 32=(xl x.id).toArray:=by grind [xf.rd]
 obtain⟨o,X,_,d⟩:=H.look x.id;obtain⟨gk,N⟩:∃gk,gk=(getK x.id v.es).isSome:=⟨_,rfl⟩;rw[<-N]at b d;have V:=h_ b
 have z3:∀z:xf a,(Instr.lookup 145 (.map (some v.M)) (.agg (xl x.id).toArray) true).run prog z.1=.ok (.tuple #[.agg (xr o),.bool gk]) z.1:=λz=>
  d z.1 ((z.2.block _ G.lt.2).trans (f.block _ H.lt.2))
 have fo:=xE5 o;have OP:((xr qy).size==36)=true:=by rw[xM];rfl
 clear I g G c0 ri d o1 u X b N;go_upto_region 6 with fail
 refine xz [0,1,2,3,4,5,6,7,8,9] [10,11,12] (λw'=>∃z:xf a,w'=z.1) ⟨⟨a.drew,(z_ _ _).drew⟩,rfl⟩ ?_;simp only[o_]
 repeat (go_big_quiet_step (fail))
 refine wpQuiet_nil ?_;clear z0 t s z3;refine yo true ?_;simp only[o_];go_wp2;refine⟨λ_=>⟨⟨_,(((z_ _ _).alloc (w_ _) _).drew:Below a.heap.size a _)⟩,rfl⟩,yo true ?_⟩;simp only[o_];go_wp2;have k:Below a.heap.size a (a.alloc (.cells (xr o) 79)).drew:=by grind
 generalize (a.alloc (.cells (xr o) 79)).drew=w3 at k⊢;have Y:=h_ k;have r:=h_ (f.trans (k.mono f.size));have S:=(k.block _ (i_ O.out).1).trans O.out;have W:=h_ S;have E:=H.below r.out;have D:=h_ E;have c0:=cell_of_row w3 v.p 0 _ _ _ E.blk;simp only[v_]at c0;clear k S E;refine⟨λ_=>⟨⟨w3,Y.out⟩,rfl⟩,yE ?_⟩;simp only[o_];go_wp2;refine T_ ?_;have b:=V.out;clear V;cases gk with
 |true=>
  rw[if_pos rfl]at b;subst b;go_wp2;go_ret;exact⟨λe=>(by cases e),λ_=>⟨rfl,r.out⟩⟩
 |false=>
 rw[if_neg (by simp)]at b;subst b;have hq:∀w,Sem.run prog (binOp .eql 145 (.map (some v.M)) (.map none)) w=.ok (.bool false) w:=λw=>run_eql_map_nil w 145 _ _ (some v.M) underlying145
 have Q:=xK9 underlying145 D.map 3;obtain⟨ml,U⟩:∃ml,ml=v.es.length:=⟨_,rfl⟩;rw[<-U]at Q hl;have Nt:(ml:Int)<=1000:=by omega
 have Z:decide (1048576<=(ml:Int))=false:=by grind
 clear U;go_upto_region 9 with fail
 go_upto_region 11 with fail
 clear Q Z;go_upto_region 13 with fail
 have c3:=cell_of_row w3 v.p 0 _ _ _ D.blk;simp only[v_]at c3;have z0:∀z:xf w3,z.1.cell? ⟨v.p,0,none⟩=some (.map (some v.M)):=by grind
 have ri:=xZn W.out;have rr:=xF (n:=36) W.out (xM x);have t:∀z:xf w3,xp z.1 ⟨w.heap.size,0,none⟩ 32=true:=by grind [xf.ok]
 have s:∀z:xf w3,xo z.1 ⟨w.heap.size,0,none⟩ 32=(xl x.id).toArray:=by grind [xf.rd]
 have z3:∀z:xf w3,xp z.1 ⟨w.heap.size,0,none⟩ 36=true:=by grind [xf.ok]
 have z4:∀z:xf w3,xo z.1 ⟨w.heap.size,0,none⟩ 36=xr x:=by grind [xf.rd]
 clear c0 c3 ri rr hq;refine xz [0,1,2,3,4,5,6] [7] (λw'=>∃z:xf w3,w'=z.1) ⟨⟨w3.drew,(z_ _ _).drew⟩,rfl⟩ ?_;simp only[o_]
 repeat (go_big_quiet_step (fail))
 refine wpQuiet_nil ?_;clear z0 t s z3 z4;have C:=D.below ((z_ w3.heap.size w3).drew);have R:(Instr.mapUpdate 145 (.map (some v.M)) (.agg (xl x.id).toArray) (.agg (xr x))).run prog w3.drew=_:=xBu keyI underlying145 w3.drew v.M v.es v.mc C.map x.id (.agg (xr x));have T:=C.put x J.out;have P:Kept [v.M] w (w3.drew.putObj v.M (.map ((putL x.id (.agg (xr x)) v.mc v.es).map (enE ekI)).toArray (putC x.id v.mc v.es))):=(Kept.of_below (F:=[v.M]) (r.trans ((z_ w3.heap.size w3).drew.mono r.size))).trans (xGg _ _ _) (λq hq=>.inl hq);have K:=h_ (And.intro P T);clear C T P;refine yE ?_;simp only[o_];generalize w3.drew.putObj v.M (.map ((putL x.id (.agg (xr x)) v.mc v.es).map (enE ekI)).toArray (putC x.id v.mc v.es))=w5 at R K;go_wp2;refine T_ ?_;clear R;go_wp2;go_ret;exact⟨rfl,K.1,K.2⟩
theorem xUy (x s):(xr x).setIfInBounds 34 (.int .i64 s)=xr { x with st:=s }:=by simp[xr,U1,qD,V7,xD]
def yCx (B:Nat)(v:Hst)(id:Id32)(x:HEnt)(w:World)(e:Ending)(w':World):Prop:=
 e=.returned (.int .i64 0)/\Kept [v.M] w w'/\yX B w' { v with es:=putL id (.agg (xr { x with st:=1 })) v.mc v.es,mc:=putC id v.mc v.es }
theorem yX.putId {B w v}(h:yX B w v)(id x)(c:x.Ok):yX B (w.putObj v.M (.map ((putL id (.agg (xr x)) v.mc v.es).map (enE ekI)).toArray (putC id v.mc v.es))) { v with es:=putL id (.agg (xr x)) v.mc v.es,mc:=putC id v.mc v.es }:=by
 refine⟨(x6 h.ne).trans h.blk,h.map.put,h.ne,h.pB,h.MB,λk u a=>?_,h.vals.2.1.put _ _,λe b=>(xL4 b).elim (λh1=>⟨x,c,h1⟩) (h.vals.2.2 e)⟩;simp only at a;rw[xDc]at a;split at a
 ·grind
 ·exact h.vals.1 k u a
def yGr (B:Nat)(v:Hst)(id:Id32)(x:HEnt)(w:World)(e:Ending)(w':World):Prop:=
 (getK id v.es=none->e=.returned (.int .i64 8)/\Below w.heap.size w w')/\((getK id v.es).isSome=true->(x.st=0->yCx B v id x w e w')/\(x.st=1->e=.returned (.int .i64 10)/\Below w.heap.size w w'))
theorem yBq {B w v}(h:yX B w v)(id):∃x:HEnt,(∀u,getK id v.es=some u->u=.agg (xr x)/\(x.st=0\/x.st=1)) /\
  Calls prog 333 #[.pointer (some ⟨v.p,0,none⟩),.agg (xl id).toArray] w (yGr B v id x w):=by
 obtain⟨x,W,Q,f⟩:=h.look id;have J:∀u,getK id v.es=some u->x.Ok:=λu c=>by
  obtain⟨e,Y,hv⟩:=xM0 c;obtain⟨y,hy,I_⟩:=h.vals.2.2 e Y;grind [HEnt.Ok.of]
 have d:∀u,getK id v.es=some u->x.st=0\/x.st=1:=λu c=>(J u c).2.2.2.2
 refine⟨x,λu c=>⟨Q u c,d u c⟩,?_⟩;obtain⟨ok,k⟩:∃ok,ok=(getK id v.es).isSome:=⟨_,rfl⟩;have j:=h_ k
 have R:Hid (ok=true->HEnt.Ok { x with st:=1 }/\(x.st=0\/x.st=1)):=h_ (λe=>by
  obtain⟨u,c⟩:=bq_.1 (k.symm.trans e);have h2:=J u c;exact⟨⟨h2.1,h2.2.1,h2.2.2.1,h2.2.2.2.1,.inr rfl⟩,d u c⟩)
 rw[<-k]at f;clear W Q J d k;obtain⟨a,V⟩:∃a,a=w.alloc (.cells (xl id).toArray 42):=⟨_,rfl⟩;have m:Below w.heap.size w a:=by grind
 have t:a.heap[w.heap.size]?=some (.cells (xl id).toArray 42 (0,0)):=by grind
 have D:=h.below m;have c0:=cell_of_row a v.p 0 _ _ _ D.blk;simp only[v_]at c0;have z0:∀z:xf a,z.1.cell? ⟨v.p,0,none⟩=some (.map (some v.M)):=by grind
 have ri:=yx t;have r:∀z:xf a,xp z.1 ⟨w.heap.size,0,none⟩ 32=true:=by grind [xf.ok]
 have o:∀z:xf a,xo z.1 ⟨w.heap.size,0,none⟩ 32=(xl id).toArray:=by grind [xf.rd]
 have z3:∀z:xf a,(Instr.lookup 145 (.map (some v.M)) (.agg (xl id).toArray) true).run prog z.1=.ok (.tuple #[.agg (xr x),.bool ok]) z.1:=λz=>f z.1 ((z.2.block _ D.lt.2).trans (m.block _ h.lt.2))
 have ir:=xE5 x;have OP:((xr qy).size==36)=true:=by rw[xM];rfl
 have H:=h_ h;have aq:=h_ m;have L:=h_ t;clear h m t D c0 ri f;go_enter func333,ntmps333;go_upto_region 3 with fail
 refine xm V ?_;clear V;refine xz [0,1,2,3,4,5,6,7,8] [9,10,11] (λw'=>∃z:xf a,w'=z.1) ⟨⟨a.drew,(z_ _ _).drew⟩,rfl⟩ ?_;simp only[o_]
 repeat (go_big_quiet_step (fail))
 refine wpQuiet_nil ?_;clear z0 r o z3;refine yo true ?_;simp only[o_];go_wp2;refine⟨λ_=>⟨⟨_,(((z_ _ _).alloc (w_ _) _).drew:Below a.heap.size a _)⟩,rfl⟩,yo true ?_⟩;simp only[o_];go_wp2;have l:Below a.heap.size a (a.alloc (.cells (xr x) 79)).drew:=by grind
 have i:(a.alloc (.cells (xr x) 79)).drew.heap[a.heap.size]?=some (.cells (xr x) 79 (0,0)):=by grind
 generalize (a.alloc (.cells (xr x) 79)).drew=w2 at l i⊢;have Z:=h_ l;have S:Below w.heap.size w w2:=by grind
 have O:=h_ S;have N:=(cell_of_row w2 a.heap.size 34 _ _ _ i).trans (he34 x);have f34:=frozen_of_row w2 a.heap.size 34 _ _ i;have E:(w2.setCell ⟨a.heap.size,34,none⟩ (.int .i64 1)).heap[a.heap.size]?=some (.cells (xr { x with st:=1 }) 79 (0,0)):=by rw[heap_setCell_same w2 a.heap.size 34 _ _ _ i,xUy]
 have G:Below w.heap.size w (w2.setCell ⟨a.heap.size,34,none⟩ (.int .i64 1)):=by grind
 have s:(w2.setCell ⟨a.heap.size,34,none⟩ (.int .i64 1)).heap[w.heap.size]?=some (.cells (xl id).toArray 42 (0,0)):=(heap_setCell_other w2 ⟨a.heap.size,34,none⟩ w.heap.size _ (by have:=(i_ L.out).1;show w.heap.size≠a.heap.size;omega)).trans ((l.block _ (i_ L.out).1).trans L.out);obtain⟨b,g⟩:∃b,b=w2.setCell ⟨a.heap.size,34,none⟩ (.int .i64 1):=⟨_,rfl⟩;rw[<-g]at E G s;have X:=h_ E;have I:=h_ G;have D8:=h_ s;clear l i E G s S;refine⟨λ_=>⟨⟨w2,Z.out⟩,rfl⟩,yE ?_⟩;simp only[o_];go_wp2;refine T_ ?_;cases ok with
 |false=>
  clear g;go_wp2;go_ret;exact⟨λ_=>⟨rfl,O.out⟩,λe=>(by rw[<-j.out]at e;cases e)⟩
 |true=>
 rcases (R.out rfl).2 with hs|hs
 case inr=>
  rw[hs]at N;have HS:=h_ hs;clear g hs;go_wp2;go_ret;exact⟨λe=>(by rw[e]at j;cases j.out),λ_=>⟨λe=>(by rw[HS.out]at e;cases e),λ_=>⟨rfl,O.out⟩⟩⟩
 rw[hs]at N;have HS:=h_ hs;clear hs;go_upto_region 9 with fail
 refine xm g ?_;clear g N f34;have C:=H.below I.out;have c3:=cell_of_row b v.p 0 _ _ _ C.blk;simp only[v_]at c3;have z0:∀z:xf b,z.1.cell? ⟨v.p,0,none⟩=some (.map (some v.M)):=by grind
 have ri:=yx D8.out;have rr:=xF (n:=36) X.out (xM _);have r:∀z:xf b,xp z.1 ⟨w.heap.size,0,none⟩ 32=true:=by grind [xf.ok]
 have o:∀z:xf b,xo z.1 ⟨w.heap.size,0,none⟩ 32=(xl id).toArray:=by grind [xf.rd]
 have z3:∀z:xf b,xp z.1 ⟨a.heap.size,0,none⟩ 36=true:=by grind [xf.ok]
 have z4:∀z:xf b,xo z.1 ⟨a.heap.size,0,none⟩ 36=xr { x with st:=1 }:=λz=>(xf.rd rr.1 z).trans rr.2
 have A:=C.below ((z_ b.heap.size b).drew);have T:(Instr.mapUpdate 145 (.map (some v.M)) (.agg (xl id).toArray) (.agg (xr { x with st:=1 }))).run prog b.drew=_:=xBu keyI underlying145 b.drew v.M v.es v.mc A.map id (.agg (xr { x with st:=1 }));have U:=A.putId id { x with st:=1 } (R.out rfl).1;have P:Kept [v.M] w (b.drew.putObj v.M (.map ((putL id (.agg (xr { x with st:=1 })) v.mc v.es).map (enE ekI)).toArray (putC id v.mc v.es))):=(Kept.of_below (F:=[v.M]) (I.trans ((z_ b.heap.size b).drew.mono I.size))).trans (xGg _ _ _) (λq hq=>.inl hq);have K:=h_ (And.intro P U);clear C A U P c3 ri rr;refine xz [0,1,2,3,4,5] [6] (λw'=>∃z:xf b,w'=z.1) ⟨⟨b.drew,(z_ _ _).drew⟩,rfl⟩ ?_;simp only[o_]
 repeat (go_big_quiet_step (fail))
 refine wpQuiet_nil ?_;clear z0 r o z3 z4;refine yE ?_;simp only[o_];generalize b.drew.putObj v.M (.map ((putL id (.agg (xr { x with st:=1 })) v.mc v.es).map (enE ekI)).toArray (putC id v.mc v.es))=w5 at T K;go_wp2;refine T_ ?_;clear T;go_wp2;go_ret;exact⟨λe=>(by rw[e]at j;cases j.out),λ_=>⟨λ_=>⟨rfl,K.1,K.2⟩,λe=>(by rw[HS.out]at e;cases e)⟩⟩
end
theorem yF3 (f w):Calls prog 248 #[.slice none 0 0,.int .i64 0,.int .i64 0,f] w λe w'=>e=.returned (.tuple #[])/\w=w':=by
 go_enter func248,ntmps248;go_wp2;refine wp_loop_once ?_;go_wp2;go_end0;exact⟨rfl,rfl⟩
theorem yF1 (f w):Calls prog 220 #[.slice none 0 0,.int .i64 0,.int .i64 0,.int .i64 0,f] w λe w'=>e=.returned (.tuple #[])/\w=w':=by
 have a:=h_ (yF3 f w);go_enter func220,ntmps220;go_wp2;refine wp_loop_once ?_;go_wp2_with fail;refine a.mono ?_;rintro e w' ⟨rfl,rfl⟩;go_wp2
 first|go_end0|(simp only[Exit.inBlock,Exit.then];refine bodyPost_ret (results_none rfl _ _ _) rfl ?_)|refine bodyPost_ret (results_none rfl _ _ _) rfl ?_
 exact⟨rfl,rfl⟩
theorem yBp (f w):Calls prog 193 #[.slice none 0 0,f] w λe w'=>e=.returned (.tuple #[])/\w=w':=by
 have b:=h_ (yF1 f w);have c:=h_ (Tryz.bits_Len 0 w (by decide) (by decide));go_enter func193,ntmps193;go_wp2_with fail;refine c.mono ?_;rintro e w' ⟨rfl,rfl⟩;have a:Lib.bitLen (0:Int).toNat=0:=by decide
 rw[a];go_wp2_with fail;refine b.mono ?_;rintro e w' ⟨rfl,rfl⟩;go_wp2;go_end0;exact⟨rfl,rfl⟩
theorem xNm {B w v}(h:yX B w v)(b:v.es=[])(f):Calls prog 156 #[.pointer (some ⟨v.p,0,none⟩),f] w λe w'=>e=.returned (.slice none 0 0)/\Below w.heap.size w w':=by
 have c0:=cell_of_row w v.p 0 _ _ _ h.blk;simp only[v_]at c0;have a:=h.map;unfold xV at a;rw[b]at a;have d:=run_range_map (P:=prog) w 145 _ _ v.M _ v.mc underlying145 a;obtain⟨W,g⟩:∃W,W=w.alloc (.mapIter (some v.M) v.mc #[] v.mc):=⟨_,rfl⟩;have c:Below w.heap.size w W:=by grind
 have hit:W.heap[w.heap.size]?=some (.mapIter (some v.M) v.mc #[] v.mc):=by grind
 have i:∀ty,(Instr.next (.pointer (some ⟨w.heap.size,0,none⟩)) false ty).run prog W=.ok (.tuple #[.bool false]) W:=λty=>by
  rcases run_next_at (P:=prog) W ty w.heap.size v.M v.mc v.mc #[] _ v.mc hit ((c.block _ h.lt.2).trans a) (λx hx=>by cases hx) (w_ _) with⟨_,h1⟩|⟨e,b,_⟩
  ·exact h1
  ·exact absurd (mem_left b).1 (by simp)
 have j:=h_ c;rw[<-g]at d;clear a c hit h b g;go_enter func156,ntmps156;go_wp2;refine wp_loop_once ?_;clear d c0;go_wp2_with fail;refine(yBp _ W).mono ?_;rintro e w' ⟨rfl,rfl⟩;clear i;go_wp2;go_ret;exact⟨rfl,j.out⟩
theorem yDs {α:Type}{gf n lb}{encs:α->Array Value}{Kp:World->World->Prop}{w}(h:∀y W,Below w.heap.size w W->Calls prog gf (#[y]++lb) W λe W'=>(∃v,e=.returned v)/\Below W.heap.size W W'):
  SeqStopsK Fence.wide n prog gf lb encs Kp (λxs=>xs=[]) (λ_=>False) 0 w:=λl J Jx W f hJ _ _ b=>
 callsIn_wide.2 ((h _ W f).mono λe W' ⟨c,d⟩=>⟨c,.inl ⟨[],rfl,hJ [] W W' none b (ql d none) (λr a=>by cases a)⟩⟩)
theorem xEj {g ps assign body}{Q:Exit->Act->World->Prop}{a w gf lb}(b:a.eval g=.func (.func gf) #[] lb)(eg:∀args w,(callFunc gf args).run prog w=.ok (.enter gf args) w)
  (j:∀y W,Below w.heap.size w W->Calls prog gf (#[y]++lb) W λe W'=>(∃v,e=.returned v)/\Below W.heap.size W W')
  (l:∀(D:Nat) (W:World),w.heap.size<=D->Below w.heap.size w W->W.heap[D]?=some (.deferred (some []))->Q .normal { a with defers:={ target:=.collected D,args:=#[] } :: a.defers } W):(Code.rangeFunc g ps assign body).wp prog Q a w:=
 (wpIn_wide (n:=4)).1 (wpIn_rangeFunc_ownH (α:=Empty) rfl (by omega) b trivial eg (encs:=λx=>x.elim) (Kp:=λ_ _=>True) (yDs j) (λ_ _=>trivial) (λ_ _ _ _ _ _ _ _=>trivial) (z_ _ _) (λx=>x.elim)
  (λ_ W=>Below w.heap.size w W) (λ_ _ _=>False) (λpre A B row h b d=>h.grown b h.size (λk e=>(d k e).1)) (λc pre A B row h b d=>h) (z_ _ _) (λx _ _=>x.elim) (λx=>x.elim)
  (λ_ _ x=>x.elim) (λ_ _ x=>x.elim) (λD xs W i _ f hK=>l D W i f hK) (λ_ _ _ _ _ h=>h.elim))
structure ByB (B:Nat)(w:World)(v:Value)(l:By)(W:World):Prop where
 bel:Below B w W
 own:OwnB W B v l
theorem ByB.app {B w W d a v v' l r}(h:ByB B w v l W)(c:B<=W.heap.size)(b:Below W.heap.size W d)(ho:OwnB a B v' (l++r))(f:d.grownBy a v.ownBlock):ByB B w v' (l++r) a:=
 ⟨(h.bel.trans (b.mono c)).grown f (R_ c b.size) (λ_ e=>(h.own.lt e).1),ho⟩
theorem yCo (a)(n:Nat)(N:n<=4611686018427387904)(v0 w B)(u:OwnB w B v0 a)(s:B<=w.heap.size)(M:a.length<=1000000):
  Calls prog 111 #[v0,.int .i64 n] w λe w'=>Below B w w'/\∃v,e=.returned v/\OwnB w' B v (a++beB 4 n):=by
 have H:Hid (ByB B w v0 (a++(beB 4 n).take 0) w):=h_ ⟨z_ _ _,by simpa using u⟩;have J:=h_ s;clear u s;go_enter func111,ntmps111;go_wp2;go_loopw [5,0] (λi bv wr=>∃j:Nat,i=.int .i64 (3-(j:Int))/\j<=4/\Hid (ByB B w bv (a++(beB 4 n).take j) wr)) (λi _ _=>(intOf i+1).toNat)
 case atStart=>exact⟨0,rfl,by omega,H⟩
 case round=>
  obtain⟨j,rfl,O,k⟩:=hrel;by_cases hlt2:j<4
  ·obtain⟨i,r⟩:∃i:Nat,i=3-j:=⟨_,rfl⟩;have c:(3:Int)-j=(i:Int):=by omega
   rw[c];have hx:=jj n i;have d:=jG 4 n j hlt2;rw[show 4-1-j=i by omega]at d;generalize G:UInt8.ofNat (n/256 ^ i)=b at hx d;have L:(a++(beB 4 n).take j)++[b]=a++(beB 4 n).take (j+1):=by grind [List.take_succ_eq_append_getElem,xu,List.append_assoc]
   have b1:(0:Int)<=8*(i:Int):=by omega
   have b2:8*(i:Int)<=64:=by omega
   have b3:(n:Int)<=4611686018427387904:=by omega
   have m:Below wr.heap.size wr (wr.alloc (.cells #[.int .u8 b.toNat] 5)):=by grind
   have h:OwnB (wr.alloc (.cells #[.int .u8 b.toNat] 5)) B u0 (a++(beB 4 n).take j):=k.own.below m;have p:SlB (wr.alloc (.cells #[.int .u8 b.toNat] 5)) ⟨wr.heap.size,0,none⟩ [b]:=vX wr 5 [b];have y:B<=wr.heap.size:=R_ J.out k.bel.size;have l:∀v' g,OwnB g B v' ((a++(beB 4 n).take j)++[b])->(wr.alloc (.cells #[.int .u8 b.toNat] 5)).grownBy g u0.ownBlock->ByB B w v' (a++(beB 4 n).take (j+1)) g:=λv' g ho A=>by
    have:=k.app y m ho A;grind
   have o:B<=(wr.alloc (.cells #[.int .u8 b.toNat] 5)).heap.size:=by simp;omega
   have t:(a++(beB 4 n).take j).length+[b].length<=1000000000000:=by grind
   rw[hx]at h p l o;have F:=h_ h;have D:=h_ p;have C:=h_ l;have z:=h_ o;have E:=h_ t;have Q:=h_ r;clear r hx d G L m h p l o t c y;go_wp2_with (at_builtin;refine zD rfl (.tmp 10) (.tmp 16) rfl B _ (a++(beB 4 n).take j) rfl F.out ⟨wr.heap.size,0,none⟩ [b] 1 rfl D.out E.out z.out ?_);intro v' w' ho f _;rw[<-B8]at ho;have I:=h_ (C.out v' w' ho f);have q:(i:Int)-1=3-((j+1:Nat):Int):=by grind
   have K:=h_ q;have P:(i:Int)<=3:=by omega
   clear ho f q;go_wp2;go_roundw
   case rel=>exact⟨j+1,by rw[<-K.out],by omega,I⟩
   case measure=>simp[intOf]
  ·obtain rfl:j=4:=by omega
   have x:Hid (ByB B w u0 (a++beB 4 n) wr):=by grind [List.take_of_length_le,xu]
   have c:(3:Int)-(4:Nat)=-1:=by omega
   rw[c];go_wp2;go_ret;exact⟨x.bel,_,rfl,x.own⟩
theorem yCn (a)(n:Nat)(N:n<=4611686018427387904)(v0 w B)(u:OwnB w B v0 a)(s:B<=w.heap.size)(M:a.length<=1000000):
  Calls prog 113 #[v0,.int .i64 n] w λe w'=>Below B w w'/\∃v,e=.returned v/\OwnB w' B v (a++beB 8 n):=by
 have H:Hid (ByB B w v0 (a++(beB 8 n).take 0) w):=h_ ⟨z_ _ _,by simpa using u⟩;have J:=h_ s;clear u s;go_enter func113,ntmps113;go_wp2;go_loopw [5,0] (λi bv wr=>∃j:Nat,i=.int .i64 (7-(j:Int))/\j<=8/\Hid (ByB B w bv (a++(beB 8 n).take j) wr)) (λi _ _=>(intOf i+1).toNat)
 case atStart=>exact⟨0,rfl,by omega,H⟩
 case round=>
  obtain⟨j,rfl,O,k⟩:=hrel;by_cases hlt2:j<8
  ·obtain⟨i,r⟩:∃i:Nat,i=7-j:=⟨_,rfl⟩;have c:(7:Int)-j=(i:Int):=by omega
   rw[c];have hx:=jj n i;have d:=jG 8 n j hlt2;rw[show 8-1-j=i by omega]at d;generalize G:UInt8.ofNat (n/256 ^ i)=b at hx d;have L:(a++(beB 8 n).take j)++[b]=a++(beB 8 n).take (j+1):=by grind [List.take_succ_eq_append_getElem,xu,List.append_assoc]
   have b1:(0:Int)<=8*(i:Int):=by omega
   have b2:8*(i:Int)<=64:=by omega
   have b3:(n:Int)<=4611686018427387904:=by omega
   have m:Below wr.heap.size wr (wr.alloc (.cells #[.int .u8 b.toNat] 5)):=by grind
   have h:OwnB (wr.alloc (.cells #[.int .u8 b.toNat] 5)) B u0 (a++(beB 8 n).take j):=k.own.below m;have p:SlB (wr.alloc (.cells #[.int .u8 b.toNat] 5)) ⟨wr.heap.size,0,none⟩ [b]:=vX wr 5 [b];have y:B<=wr.heap.size:=R_ J.out k.bel.size;have l:∀v' g,OwnB g B v' ((a++(beB 8 n).take j)++[b])->(wr.alloc (.cells #[.int .u8 b.toNat] 5)).grownBy g u0.ownBlock->ByB B w v' (a++(beB 8 n).take (j+1)) g:=λv' g ho A=>by
    have:=k.app y m ho A;grind
   have o:B<=(wr.alloc (.cells #[.int .u8 b.toNat] 5)).heap.size:=by simp;omega
   have t:(a++(beB 8 n).take j).length+[b].length<=1000000000000:=by grind
   rw[hx]at h p l o;have F:=h_ h;have D:=h_ p;have C:=h_ l;have z:=h_ o;have E:=h_ t;have Q:=h_ r;clear r hx d G L m h p l o t c y;go_wp2_with (at_builtin;refine zD rfl (.tmp 10) (.tmp 16) rfl B _ (a++(beB 8 n).take j) rfl F.out ⟨wr.heap.size,0,none⟩ [b] 1 rfl D.out E.out z.out ?_);intro v' w' ho f _;rw[<-B8]at ho;have I:=h_ (C.out v' w' ho f);have q:(i:Int)-1=7-((j+1:Nat):Int):=by grind
   have K:=h_ q;have P:(i:Int)<=7:=by omega
   clear ho f q;go_wp2;go_roundw
   case rel=>exact⟨j+1,by rw[<-K.out],by omega,I⟩
   case measure=>simp[intOf]
  ·obtain rfl:j=8:=by omega
   have x:Hid (ByB B w u0 (a++beB 8 n) wr):=by grind [List.take_of_length_le,xu]
   have c:(7:Int)-(8:Nat)=-1:=by omega
   rw[c];go_wp2;go_ret;exact⟨x.bel,_,rfl,x.own⟩
theorem yF9 (b w):Calls prog 112 #[.pointer (some ⟨b,0,none⟩)] w λe w'=>e=.returned (.func (.func 155) #[] #[.pointer (some ⟨w.heap.size,0,none⟩)])/\w.alloc (.cells #[.pointer (some ⟨b,0,none⟩)] 81)=w':=by
 go_enter func112,ntmps112;go_wp2;go_ret;exact⟨rfl,rfl⟩
theorem xUz {B w v}(h:yX B w v)(a:v.es=[])(bx)(c:w.cell? ⟨bx,0,none⟩=some (.pointer (some ⟨v.p,0,none⟩)))(y):
  Calls prog 155 #[y,.pointer (some ⟨bx,0,none⟩)] w λe w'=>(∃u,e=.returned u)/\Below w.heap.size w w':=by
 have HS:Hid (∀f,Calls prog 156 #[.pointer (some ⟨v.p,0,none⟩),f] w λe w'=>e=.returned (.slice none 0 0)/\Below w.heap.size w w'):=h_ λf=>xNm h a f
 clear h a;go_enter func155,ntmps155;go_wp2_with fail;refine(HS.out _).mono ?_;rintro e g ⟨rfl,b⟩;have d:=h_ b;clear b c;go_wp2;refine wp_loop_once ?_;go_wp2;go_end0;exact⟨⟨_,rfl⟩,d.out⟩
theorem xNn {B w v}(h:yX B w v)(z:v.es=[])(c:Nat)(A:v.cut=c)(R:c<=105190559):
  Calls prog 80 #[.pointer (some ⟨v.p,0,none⟩)] w λe w'=>Below w.heap.size w w'/\∃u,e=.returned u/\OwnB w' w.heap.size u (beB 4 c):=by
 have c1:=cell_of_row w v.p 1 _ _ _ h.blk;simp only[v_]at c1;rw[A]at c1;have V:=h_ (yCo [] c (by omega) (.slice none 0 0) w w.heap.size (OwnB.nil _ _) (w_ _) (by simp));have H:=h_ h;have U:=h_ z;clear h z A R;refine(callsIn_wide (n:=4)).1 (callsIn_of_wp_marks func80 rfl trivial ?_ rfl);simp only[ntmps80,T9,x5,L1,Nat.reduceAdd,Nat.reduceSub,aO_,aP_,bd_,aR_,E8,L2];refine wpIn_wide.2 ?_;go_wp2_with fail;refine V.mono ?_;rintro e b ⟨q,u,rfl,i⟩;rw[E8]at i;have Q:u.oneCell'=true:=by
  rcases i.at with⟨E,_⟩|⟨g,cp,E,_⟩ <;> rw[E] <;> rfl
 obtain⟨ug,uc,O,_,_,_,_⟩:∃g cap,u=.slice (some ⟨g,0,none⟩) 4 cap/\w.heap.size<=g/\4<=cap/\cap<=maxLen/\SlB b ⟨g,0,none⟩ (beB 4 c):=by
  rcases i.at with⟨_,h⟩|⟨g,cap,h1,h2,h3,h4,P⟩
  ·grind [List.length,xu]
  grind [beB,xu]
 subst O;obtain⟨a,G⟩:∃a,a=b.alloc (.cells #[.slice (some ⟨ug,0,none⟩) 4 uc] 23):=⟨_,rfl⟩;have r:Below b.heap.size b a:=by grind
 have I:a.heap[b.heap.size]?=some (.cells #[.slice (some ⟨ug,0,none⟩) 4 uc] 23 (0,0)):=by grind
 have f:=h_ (q.trans (r.mono q.size));have x:=h_ (i.below r);have F:=h_ I;clear q i r I c1 Q;go_upto_region 4 with fail
 refine xm G ?_;clear G;go_wp2_with fail;refine(yF9 v.p a).mono ?_;rintro e M ⟨rfl,rfl⟩;have o:Below a.heap.size a (a.alloc (.cells #[.pointer (some ⟨v.p,0,none⟩)] 81)):=by grind
 have m:=yD a #[.pointer (some ⟨v.p,0,none⟩)] 81 0;generalize a.alloc (.cells #[.pointer (some ⟨v.p,0,none⟩)] 81)=M at o m⊢;have j:=h_ o;have K:=h_ m;clear o m;go_wp2;refine xEj rfl (enters_of func155 (by kernel_rfl) rfl) (λy W d=>?_) (λD W C d hK=>?_)
 ·have J:=f.trans (j.mono f.size);exact xUz (H.below (J.trans (d.mono J.size))) U.out _ ((d.cell (p:=⟨a.heap.size,0,none⟩) (block_lt_of_cell K.out)).trans K.out) y
 ·have l:=j.trans (d.mono j.size);have S:=(l.cell (p:=⟨b.heap.size,0,none⟩) (i_ F.out).1).trans (cell_of_row a b.heap.size 0 _ _ _ F.out);simp only[v_]at S;have N:=h_ (x.below l);have s:=h_ (f.trans (l.mono f.size));have T:=h_ hK;have L:=h_ C;clear d hK l C;go_wp2;refine⟨by simp,.inl ⟨_,_,rfl,run_takeDeferred T.out,?_⟩⟩;refine⟨.slice (some ⟨ug,0,none⟩) 4 uc,results_tmp (t:=2) results80 _ _ _,s.grown (grownBy_putObj' _ D _) s.size (λk e=>by cases e;have:=f.size;have:=j.size;have:=L.out;omega),_,rfl,N.grown (grownBy_putObj' _ D _) (λk e=>?_)⟩;cases e
  have h1:=(x.lt (k:=ug) rfl).2;have h2:=j.size;have h3:=L.out;intro h4;have P:ug=D:=G0 h4;omega
section
theorem xBc (a l cap w)(hs:SlB w a l)(hl:l.length=4)(r:4<=cap):
  Calls prog 167 #[.slice (some a) 4 cap] w λe w'=>e=.returned (.int .i64 (deB l:Nat))/\w=w':=by
 have HS:=h_ hs;have m:=h_ hl;have p:(4:Int)<=cap:=by omega
 clear hs hl;go_enter func167,ntmps167;go_wp2;go_loopw [3,9] (λnv u wr=>∃k:Nat,u=.int .i64 k/\nv=.int .i64 (deB (l.take k):Nat)/\k<=4/\wr=w) (λ_ u _=>4-(intOf u).toNat)
 case atStart=>exact⟨0,rfl,by simp[deB],by omega,rfl⟩
 case round=>
  obtain⟨k,rfl,rfl,q,rfl⟩:=hrel;by_cases hlt:k<4
  ·have t:(k:Int)<4:=by omega
   have c:k<l.length:=by grind
   have j:=HS.cell k _ (U_ c);have d:deB (l.take (k+1))=deB (l.take k)*256+(l[k]'c).toNat:=by
    rw[d0 c,xBd]
   have h:=kp (l.take k) (by rw[x8];omega);generalize l[k]'c=b at j d;have o:=b.toNat_lt;obtain⟨n,i⟩:∃n,n=deB (l.take k):=⟨_,rfl⟩;rw[<-i]at d h⊢;have f:=xQt n b.toNat (by omega) (by omega);rw[<-d]at f;have s:(n:Int)<4294967296:=by omega
   have g:k+1<=4:=hlt;clear i d h c;go_wp2;go_roundw
   case rel=>exact⟨k+1,by go_num,rfl,g,trivial⟩
   case measure=>simp[intOf];omega
  ·obtain rfl:k=4:=by omega
   rw[v6 (by rw[m.out];exact w_ _)];go_wp2;go_ret;exact⟨rfl,rfl⟩
attribute [local go_sem ↓] ja vm vo
attribute [local go_sem] xGf xFx xh xg xe xd xx xy xk xj xq xB xw
theorem xNp (a l cap w)(hs:SlB w a l)(ha:a.block<w.heap.size)(hl:l.length=4)(z:4<=cap)(E:deB l<=105190559):
  Calls prog 130 #[.slice (some a) 4 cap] w λe w'=>Below w.heap.size w w'/\∃v,e=.returned (.tuple #[.pointer (some ⟨v.p,0,none⟩),.int .i64 0])/\yX w.heap.size w' v/\v.es=[]/\v.cut=(deB l:Nat):=by
 have L:(4:Int)<=cap:=by omega
 obtain⟨c,i⟩:∃c,c=deB l:=⟨_,rfl⟩;have t:=h_ (xBc a l cap w hs hl z);rw[<-i]at E t⊢;have H:=h_ (kg (c:Int) (by omega) (by omega) w);have J:=h_ (xLv w);have HS:=h_ hs;have I:=h_ hl;have o:=h_ i;have K:(c:Int)<=105190559:=by omega
 clear hs hl i;go_enter func130,ntmps130;go_wp2_with fail;refine t.mono ?_;rintro e w' ⟨rfl,rfl⟩;go_wp2_with fail;refine H.mono ?_;rintro e w' ⟨rfl,rfl⟩;go_wp2_with fail;refine J.mono ?_;rintro e b ⟨C,rfl,d⟩;have y:SlB b a l:=⟨λq x hq=>(C.cell (by rw[xY];exact ha)).trans (HS.cell q x hq)⟩;have s:=h_ (xBc a l cap b y I.out z);rw[<-o.out]at s;have c1:=cell_of_row b (w.heap.size+1) 1 _ _ _ d.blk;have F:=frozen_of_row b (w.heap.size+1) 1 _ _ d.blk;simp only[v_]at c1;have u:yX w.heap.size (b.setCell ⟨w.heap.size+1,1,none⟩ (.int .i64 c)) ⟨w.heap.size+1,w.heap.size,[],0,c⟩:=by
  refine⟨?_,?_,d.ne,d.pB,d.MB,d.vals⟩
  ·rw[heap_setCell_same b (w.heap.size+1) 1 _ _ _ d.blk];rfl
  ·exact(heap_setCell_other b ⟨w.heap.size+1,1,none⟩ w.heap.size _ (by show w.heap.size≠w.heap.size+1;omega)).trans d.map
 have B:Below w.heap.size w (b.setCell ⟨w.heap.size+1,1,none⟩ (.int .i64 c)):=by grind
 have r:=h_ u;have j:=h_ B;obtain⟨f,m⟩:∃f,f=b.setCell ⟨w.heap.size+1,1,none⟩ (.int .i64 c):=⟨_,rfl⟩;rw[<-m]at r j;clear y d u B C;go_wp2_with fail;refine s.mono ?_;rintro e w' ⟨rfl,rfl⟩;go_upto_region 5 with fail
 refine xm m ?_;clear m c1 F;have G:=kF a 4 cap 4 4 rfl (by omega);go_upto_region 6 with fail
 have k:Below f.heap.size f (f.alloc (.cells (xr qy) 79)):=by grind
 generalize f.alloc (.cells (xr qy) 79)=w3 at k⊢;have D:=h_ k;clear k;go_quiet (fail);have h:=h_ (D.trans ((y9 (z_ _ w3) nq).mono D.size));have g:=r.below h.out;have n:=h_ (And.intro (j.trans (h.mono j.size)) g);have c4:=cell_of_row (w3.drewN nq) (w.heap.size+1) 0 _ _ _ g.blk;simp only[v_]at c4;have A:=xK9 underlying145 g.map 3;simp only[L1]at A;generalize w3.drewN nq=w4 at n c4 A⊢;clear g h G;go_wp2;refine wp_loop_once ?_;go_wp2;go_ret2;exact⟨n.1,⟨w.heap.size+1,w.heap.size,[],0,c⟩,rfl,n.2,rfl,rfl⟩
end
section
def xVc:=lx_ 226
def xRj:=sx_ 226
def yJk:=@yh prog 226 4 isAgg226 sizeOf226
def yJ0:=@yk prog 226 4 (by kernel_rfl)
def xDl:=lx_ 250
def xC5:=sx_ 250
def xXr:=@yh prog 250 3 isAgg250 sizeOf250
def xWy:=@yk prog 250 3 (by kernel_rfl)
structure SArt where
 text:ByteArray
 arr:Int
 pl:Int
def xU (x:SArt):Array Value:=#[.string x.text,.int .i64 x.arr,.int .i64 x.pl]
def vv:SArt:=⟨⟨#[]⟩,0,0⟩
theorem yD2 (w):(zeroValue 250).run prog w=.ok (.agg (xU vv)) w:=by kernel_rfl
structure Spo where
 p:Nat
 M:Nat
 es:List (KE Id32)
 mc:Nat
 budget:Nat
 bytes:Nat
 next:Nat
def zf (v:Spo):Array Value:=#[.int .i64 v.budget,.int .i64 v.bytes,.int .i64 v.next,.map (some v.M)]
structure yN (B:Nat)(w:World)(v:Spo):Prop where
 blk:w.heap[v.p]?=some (.cells (zf v) 226 (0,0))
 map:xV ekI w v.M v.es v.mc
 ne:v.p≠v.M
 pB:B<=v.p
 MB:B<=v.M
 vals:(∀k u,getK k v.es=some u->∃x:SArt,u=.agg (xU x))/\xF2 v.es v.mc/\∀e∈v.es,∃x:SArt,e.v=.agg (xU x)
def Spo.foot (v:Spo):List Nat:=[v.p,v.M]
theorem yN.lt {B w v}(h:yN B w v):v.p<w.heap.size/\v.M<w.heap.size:=⟨(i_ h.blk).1,h.map.lt⟩
theorem yN.kept {B w w' v F}(h:yN B w v)(a:Kept F w w')(b:∀k∈v.foot,k∉F):yN B w' v:=
 ⟨(a.block _ h.lt.1 (b _ (by simp[Spo.foot]))).trans h.blk,(a.block _ h.lt.2 (b _ (by simp[Spo.foot]))).trans h.map,h.ne,h.pB,h.MB,h.vals⟩
theorem yN.below {B w w' v}(h:yN B w v)(a:Below w.heap.size w w'):yN B w' v:=h.kept (Kept.of_below (F:=[]) a) (λ_ _ h=>by cases h)
theorem yDl (b:Nat)(h1:1<=b)(h2:b<=1073741824)(w):Calls prog 69 #[.int .i64 b] w λe w'=>Below w.heap.size w w'/\e=.returned (.tuple #[.pointer (some ⟨w.heap.size+1,0,none⟩),.int .i64 0])/\yN w.heap.size w' ⟨w.heap.size+1,w.heap.size,[],0,b,0,0⟩:=by
 have j:=@run_makeMap prog;have a:Below w.heap.size w ((w.alloc (.map #[] 0)).alloc (.cells #[.int .i64 b,.int .i64 0,.int .i64 0,.map (some w.heap.size)] 226)):=by grind
 have c:yN w.heap.size ((w.alloc (.map #[] 0)).alloc (.cells #[.int .i64 b,.int .i64 0,.int .i64 0,.map (some w.heap.size)] 226)) ⟨w.heap.size+1,w.heap.size,[],0,b,0,0⟩:=by
  refine⟨?_,?_,by simp,by simp,w_ _,⟨λk u h=>by simp[xDd]at h,xF2.nil _,λe h=>by cases h⟩⟩
  ·have:=heap_alloc_new (w.alloc (.map #[] 0)) (.cells #[.int .i64 b,.int .i64 0,.int .i64 0,.map (some w.heap.size)] 226);rw[U7]at this;exact this
  grind [xV]
 have d:=h_ a;have f:=h_ c;have i:(1:Int)<=b:=by omega
 have g:(b:Int)<=1073741824:=by omega
 clear a c;go_enter func69,ntmps69;go_wp2;go_ret2;exact⟨d.out,rfl,f.out⟩
theorem xLe (b es clock w)(c:w.heap[b]?=some (.map es clock)):
  Calls prog 125 #[.map (some b)] w λe w'=>e=.returned (.map (some w.heap.size))/\w.alloc (.map es clock)=w':=by
 have a:prog.underlying 224=some (.map 42 250):=by simp
 have hq:=λw=>run_eql_map_nil_sl (P:=prog) w 224 _ _ (some b) a
 go_enter func125,ntmps125;go_wp2;rw[run_callFunc_extern func91 (by kernel_rfl) (by kernel_rfl) (by kernel_rfl) (e:=Extern.MapsClone.clone) (by kernel_rfl),run_maps_clone_sl w 224 c];simp only[Result.andThen];rw[aF_];go_wp2;rw[run_typeAssert_map_sl _ 224 20 _ _ _ a];simp only[Result.andThen];rw[aF_];go_wp2;go_ret;exact⟨rfl,rfl⟩
attribute [local go_sem ↓] xP xI xVc xRj xDl xC5
attribute [local go_sem] zg zj yJk yJ0 xXr xWy zr zx yA yz xh xg xe xd xx xy xk xj xq xB xw
theorem yAx {B w v}(h:yN B w v)(a:v.bytes<=v.budget)(hl:v.budget<=1073741824):Calls prog 175 #[.pointer (some ⟨v.p,0,none⟩)] w λe w'=>e=.returned (.int .i64 (v.budget-v.bytes:Nat))/\∃m,w'=w.drewN m:=by
 have c0:=cell_of_row w v.p 0 _ _ _ h.blk;have c1:=cell_of_row w v.p 1 _ _ _ h.blk;simp only[zf,v_]at c0 c1;have d:(v.budget:Int)-(v.bytes:Int)=((v.budget-v.bytes:Nat):Int):=by omega
 have c:(v.budget:Int)<=1073741824:=by omega
 have b:(v.bytes:Int)<=1073741824:=by omega
 clear h a hl;go_enter func175,ntmps175;go_upto_region 3 with fail
 go_quiet (fail);clear c0 c1;go_wp2;go_ret;exact⟨rfl,_,rfl⟩
theorem xX5 {B w v}(h:yN B w v):Calls prog 89 #[.pointer (some ⟨v.p,0,none⟩)] w λe w'=>Below w.heap.size w w'/\∃v',e=.returned (.pointer (some ⟨v'.p,0,none⟩))/\yN w.heap.size w' v'/\v'.es=v.es/\v'.mc=v.mc/\v'.budget=v.budget/\v'.bytes=v.bytes/\v'.next=v.next:=by
 obtain⟨o1,k⟩:=xF (n:=4) h.blk rfl;have q:xt 4 (zf v)=true:=by simp[zf,xt,Value.oneCell']
 obtain⟨a,i⟩:∃a,a=w.alloc (.cells (zf v) 226):=⟨_,rfl⟩;have j:Below w.heap.size w a:=by grind
 have r:a.heap[w.heap.size]?=some (.cells (zf v) 226 (0,0)):=by grind
 have c:a.heap.size=w.heap.size+1:=by grind
 have g:=h.below j;have c3:=cell_of_row a v.p 3 _ _ _ g.blk;simp only[zf,v_]at c3;have y:=h_ (xLe v.M _ v.mc a g.map);have x:=h_ h.vals;have o:=h_ j;have t:=h_ r;have u:=h_ c;clear h j r c g;unfold zf at i k q;go_enter func89,ntmps89;go_upto_region 4 with fail
 refine xm i ?_;clear i o1 k q;go_wp2_with fail;refine y.mono ?_;rintro e w' ⟨rfl,rfl⟩;have b:Below a.heap.size a (a.alloc (.map (v.es.map (enE ekI)).toArray v.mc)):=by grind
 have f:=heap_alloc_new a (.map (v.es.map (enE ekI)).toArray v.mc);generalize a.alloc (.map (v.es.map (enE ekI)).toArray v.mc)=w2 at b f⊢;have c:=u.out;have d:=(b.block w.heap.size (by omega)).trans t.out;have c2:=cell_of_row w2 w.heap.size 3 _ _ _ d;have z:=frozen_of_row w2 w.heap.size 3 _ _ d;simp only[zf,v_]at c2;have l:(w2.setCell ⟨w.heap.size,3,none⟩ (.map (some a.heap.size))).heap[w.heap.size]?=some (.cells (zf ⟨w.heap.size,a.heap.size,v.es,v.mc,v.budget,v.bytes,v.next⟩) 226 (0,0)):=by rw[heap_setCell_same w2 w.heap.size 3 _ _ _ d];rfl
 have m:yN w.heap.size (w2.setCell ⟨w.heap.size,3,none⟩ (.map (some a.heap.size))) ⟨w.heap.size,a.heap.size,v.es,v.mc,v.budget,v.bytes,v.next⟩:=
  ⟨l,(heap_setCell_other w2 ⟨w.heap.size,3,none⟩ a.heap.size _ (by show a.heap.size≠w.heap.size;omega)).trans f,by show w.heap.size≠a.heap.size;omega,w_ _,by show w.heap.size<=a.heap.size;omega,x.out⟩
 have s:=h_ (And.intro ((o.trans (b.mono o.size)).setCell (p:=⟨w.heap.size,3,none⟩) (w_ _) (.map (some a.heap.size))) m);clear b f d l m c c3;go_wp2;go_ret;exact⟨s.1,⟨w.heap.size,a.heap.size,v.es,v.mc,v.budget,v.bytes,v.next⟩,rfl,s.2,rfl,rfl,rfl,rfl,rfl⟩
end
section
theorem xGu (ρ:Operand->Value)(d)(ty:TypeId)(pos af g w):
  Sem.run prog (execOp ρ ⟨d,.alloc 250,ty,pos,af,g⟩) w=.ok (.value (.pointer (some ⟨w.heap.size,0,none⟩))) (w.alloc (.cells (xU vv) 250)):=by kernel_rfl
theorem yFj (x):xt 3 (xU x)=true:=by simp[xU,xt,Value.oneCell']
def xTi (b:Bool):Int:=if b then 0 else 8
theorem yN.look {B w v}(h:yN B w v)(k):∃x:SArt,(getK k v.es=none->x=vv)/\(∀u,getK k v.es=some u->u=.agg (xU x)) /\
  ∀W,W.heap[v.M]?=w.heap[v.M]?->(Instr.lookup 224 (.map (some v.M)) (.agg (xl k).toArray) true).run prog W=.ok (.tuple #[.agg (xU x),.bool (getK k v.es).isSome]) W:=by
 have b:∀W,W.heap[v.M]?=w.heap[v.M]?->(Instr.lookup 224 (.map (some v.M)) (.agg (xl k).toArray) true).run prog W=.ok (.tuple #[(getK k v.es).getD (.agg (xU vv)),.bool (getK k v.es).isSome]) W:=λW a=>by
  have h1:=xDz keyI underlying224 (.agg (xU vv)) yD2 W v.M v.es v.mc (by have:=h.map;unfold xV at this⊢;exact a.trans this) k;grind [yG,getK]
 cases hg:getK k v.es with
 |none=>
  simp_all
 |some u=>
  obtain⟨x,hx⟩:=h.vals.1 k u hg;refine⟨x,(λh=>(by cases h)),(λu' h=>(by cases h;exact hx)),λW a=>?_⟩;rw[b W a,hg,<-hx];rfl
attribute [local go_sem ↓] xP xI xDl xC5 xGu
attribute [local go_sem] zg zj xXr xWy xh xg xe xd xx xy xk xj xq xB xw
theorem xTh {B w v}(h:yN B w v)(id):∃x:SArt,(getK id v.es=none->x=vv)/\(∀u,getK id v.es=some u->u=.agg (xU x)) /\
  Calls prog 201 #[.pointer (some ⟨v.p,0,none⟩),.agg (xl id).toArray] w λe w'=>Below w.heap.size w w'/\e=.returned (.tuple #[.string x.text,.int .i64 (xTi (getK id v.es).isSome)]):=by
 obtain⟨x,i,j,b⟩:=h.look id;refine⟨x,i,j,?_⟩;obtain⟨a,m⟩:∃a,a=w.alloc (.cells (xl id).toArray 42):=⟨_,rfl⟩;have d:Below w.heap.size w a:=by grind
 have q:a.heap[w.heap.size]?=some (.cells (xl id).toArray 42 (0,0)):=by
  rw[m,heap_alloc_new]
 have k:=h.below d;have c0:=cell_of_row a v.p 3 _ _ _ k.blk;simp only[zf,v_]at c0;have z0:∀z:xf a,z.1.cell? ⟨v.p,3,none⟩=some (.map (some v.M)):=by grind
 have ri:=yx q;have C:∀z:xf a,xp z.1 ⟨w.heap.size,0,none⟩ 32=true:=by grind [xf.ok]
 have A:∀z:xf a,xo z.1 ⟨w.heap.size,0,none⟩ 32=(xl id).toArray:=by grind [xf.rd]
 have z3:∀z:xf a,(Instr.lookup 224 (.map (some v.M)) (.agg (xl id).toArray) true).run prog z.1=.ok (.tuple #[.agg (xU x),.bool (getK id v.es).isSome]) z.1:=λz=>b z.1 ((z.2.block _ k.lt.2).trans (d.block _ h.lt.2))
 obtain⟨ok,l⟩:∃ok,ok=(getK id v.es).isSome:=⟨_,rfl⟩;rw[<-l]at z3⊢;have G:=yFj x;have t:=h_ d;have E:=h_ (And.intro i j);have F:=h_ l;clear q k c0 ri b i j l d h;go_enter func201,ntmps201;go_upto_region 3 with fail
 refine xm m ?_;clear m;refine xz [0,1,2,3,4,5,6,7,8] [9,10,11] (λw'=>∃z:xf a,w'=z.1) ⟨⟨a.drew,(z_ _ _).drew⟩,rfl⟩ ?_;simp only[o_]
 repeat (go_big_quiet_step (fail))
 refine wpQuiet_nil ?_;clear z0 C A z3;refine yo true ?_;simp only[o_];go_wp2;have c:Below a.heap.size a (a.alloc (.cells (xU vv) 250)).drew:=by grind
 have f:(a.alloc (.cells (xU vv) 250)).drew.heap[a.heap.size]?=some (.cells (xU vv) 250 (0,0)):=by grind
 generalize (a.alloc (.cells (xU vv) 250)).drew=w2 at c f⊢;have D:xN w2 a.heap.size 3=true:=za f rfl;have y:=xH c (w_ _) (xU x);have r:=setRow_heap w2 a.heap.size _ (xU x) _ _ f;have s:=h_ c;have n:=h_ y;have o:=h_ r;clear c f y r;refine⟨λ_=>⟨⟨w2,s.out⟩,rfl⟩,yo true ?_⟩;simp only[o_];go_wp2;refine⟨λ_=>⟨⟨_,n.out⟩,rfl⟩,yE ?_⟩;simp only[o_];go_wp2;refine T_ ?_;have cx:=cell_of_row _ _ 0 _ _ _ o.out;simp only[xU,v_]at cx;have g:=h_ (t.trans (n.mono t.size))
 change (w2.setRow a.heap.size #[.string x.text,.int .i64 x.arr,.int .i64 x.pl]).cell? _=_ at cx
 unfold xU at g⊢;clear D s n o;generalize w2.setRow a.heap.size #[.string x.text,.int .i64 x.arr,.int .i64 x.pl]=w3 at cx g⊢;cases ok
 ·go_wp2;go_ret2
  have hx:x=vv:=E.1 (by
   have:=F.out;cases hq:getK id v.es with
   |none=>rfl
   |some u=>rw[hq]at this;cases this)
  exact⟨g.out,by rw[hx];rfl⟩
 ·go_wp2;go_ret2;exact⟨g.out,rfl⟩
end
section
attribute [local go_sem ↓] xP xI xDl xC5 xGu xAf
attribute [local go_sem] zg zj xXr xWy yM xh xg xe xd xx xy xk xj xq xB xw xBs xE7
theorem yDq (b):(xTi b==0)=b:=by cases b <;> rfl
theorem yDp {B w v}(h:yN B w v)(id):
  Calls prog 174 #[.pointer (some ⟨v.p,0,none⟩),.agg (xl id).toArray] w λe w'=>Below w.heap.size w w'/\e=.returned (.bool (getK id v.es).isSome):=by
 obtain⟨a,j⟩:∃a,a=w.alloc (.cells (xl id).toArray 42):=⟨_,rfl⟩;have c:Below w.heap.size w a:=by grind
 have d:a.heap[w.heap.size]?=some (.cells (xl id).toArray 42 (0,0)):=by grind
 obtain⟨o1,m⟩:=yx d;obtain⟨x,_,_,f⟩:=xTh (h.below c) id;have b:=h_ f;have i:=h_ c;obtain⟨ok,g⟩:∃ok,ok=(getK id v.es).isSome:=⟨_,rfl⟩;rw[<-g]at b⊢;obtain⟨se,l⟩:∃se,se=xTi ok:=⟨_,rfl⟩;rw[<-l]at b;have q:(se==0)=ok:=by grind [yDq]
 clear h c d f g l;go_enter func174,ntmps174;go_upto_region 1 with fail
 refine xm j ?_;clear j;go_wp2_with fail;refine b.mono ?_;rintro e o ⟨k,rfl⟩;clear o1 m b;have n:=h_ (i.trans (k.mono i.size));clear k;go_wp2;go_ret;exact⟨n.out,rfl⟩
def yGj (B:Nat)(v:Spo)(id:Id32)(t:ByteArray)(m:Int)(w:World)(e:Ending)(w':World):Prop:=
 e=.returned (.int .i64 0)/\Kept [v.M,v.p] w w'/\yN B w' { v with es:=putL id (.agg (xU ⟨t,m,v.next⟩)) v.mc v.es,mc:=putC id v.mc v.es,bytes:=v.bytes+t.size,next:=v.next+1 }
theorem yN.put {B w v}(h:yN B w v)(id x):yN B (w.putObj v.M (.map ((putL id (.agg (xU x)) v.mc v.es).map (enE ekI)).toArray (putC id v.mc v.es))) { v with es:=putL id (.agg (xU x)) v.mc v.es,mc:=putC id v.mc v.es }:=by
 refine⟨(x6 h.ne).trans h.blk,h.map.put,h.ne,h.pB,h.MB,λk u a=>?_,h.vals.2.1.put _ _,λe b=>(xL4 b).elim (λh1=>⟨x,h1⟩) (h.vals.2.2 e)⟩;simp only at a;rw[xDc]at a;split at a
 ·grind
 ·exact h.vals.1 k u a
theorem yN.own {B w v}(h:yN B w v)(j u v')(hv:(zf v).setIfInBounds j u=zf v')(a:v'.p=v.p)(b:v'.M=v.M)(c:v'.es=v.es)(d:v'.mc=v.mc):yN B (w.setCell ⟨v.p,j,none⟩ u) v':=by
 refine⟨?_,?_,?_,?_,?_,?_⟩
 ·rw[a,heap_setCell_same w v.p j _ _ _ h.blk,hv]
 ·rw[b,c,d];exact(heap_setCell_other w ⟨v.p,j,none⟩ v.M _ (λe=>h.ne e.symm)).trans h.map
 ·rw[a,b];exact h.ne
 ·rw[a];exact h.pB
 ·rw[b];exact h.MB
 ·rw[c,d];exact h.vals
theorem yW (w a u):Kept [a.block] w (w.setCell a u):=⟨rfl,rfl,rfl,by simp,λk _ b=>heap_setCell_other w a k u (λe=>b (by simp[e]))⟩
def xCv (v:Spo)(id:Id32)(t:ByteArray):Int:=if id=yI\/t.size=0 then 1 else if (getK id v.es).isSome then 7 else if v.bytes+t.size<=v.budget then 0 else 9
def yA2 (B:Nat)(v:Spo)(id:Id32)(t:ByteArray)(m:Int)(w:World)(e:Ending)(w':World):Prop:=(xCv v id t=0->yGj B v id t m w e w')/\(xCv v id t≠0->e=.returned (.int .i64 (xCv v id t))/\Below w.heap.size w w')
theorem yDi {B w v}(h:yN B w v)(id t m)(wM:t.size<=65536)(lT:0<=m)(fE:m<=105190559)(y:v.bytes<=v.budget)(hl:v.budget<=1073741824)(u:v.next<=1000):
  Calls prog 176 #[.pointer (some ⟨v.p,0,none⟩),.agg (xl id).toArray,.string t,.int .i64 m] w (yA2 B v id t m w):=by
 obtain⟨r,c⟩:∃r,r=w.alloc (.cells (xl id).toArray 42):=⟨_,rfl⟩;have d:Below w.heap.size w r:=by grind
 have i:r.heap[w.heap.size]?=some (.cells (xl id).toArray 42 (0,0)):=by grind
 obtain⟨o1,r1⟩:=yx i;by_cases hor:id=yI\/t.size=0
 case pos=>
  have I:Hid (xCv v id t=1):=h_ (if_pos hor);have k:=h_ d;have K:(t.size:Int)<=65536:=by omega
  by_cases hz:id=yI
  ·have W:decide (id=yI)=true:=by grind
   clear h d i hor hz y hl u;go_enter func176,ntmps176;go_upto_region 1 with fail
   refine xm c ?_;clear c;go_wp2;go_ret;exact⟨λe=>(by rw[I.out]at e;cases e),λ_=>⟨by rw[I.out];rfl,k.out⟩⟩
  ·have W:decide (id=yI)=false:=by grind
   have OW:t.toList.isEmpty=true:=by simp_all
   clear h d i hor hz y hl u;go_enter func176,ntmps176;go_upto_region 1 with fail
   refine xm c ?_;clear c;go_wp2;go_ret;exact⟨λe=>(by rw[I.out]at e;cases e),λ_=>⟨by rw[I.out];rfl,k.out⟩⟩
 obtain⟨hid,L⟩:=not_or.1 hor;have t_:1<=t.size:=by omega
 have b:xCv v id t=if (getK id v.es).isSome then 7 else if v.bytes+t.size<=v.budget then 0 else 9:=if_neg hor
 obtain⟨gk,mC⟩:∃gk,gk=(getK id v.es).isSome:=⟨_,rfl⟩;have HE:=h_ b;have Jc:=h_ mC;clear hor L b mC;have OX:=h_ (yDp (h.below d) id);have H:=h_ h;have k:=h_ d;have Es:=h_ i;have W:decide (id=yI)=false:=by grind
 obtain⟨n,gT⟩:∃n,n=t.size:=⟨_,rfl⟩;have OW:t.toList.isEmpty=false:=by grind [ByteArray.toList_eq,List.isEmpty_eq_false_iff,List.length_pos_iff,vG]
 have K:(t.size:Int)<=65536:=by omega
 have G:=h_ (And.intro y (And.intro hl u));clear h d i hid gT y hl u;go_enter func176,ntmps176;go_upto_region 1 with fail
 refine xm c ?_;clear c;go_wp2_with fail;refine OX.mono ?_;rintro e w2 ⟨U,rfl⟩;rw[<-Jc.out];have A:=h_ (k.trans (U.mono k.size));have s:=h_ ((U.block _ (i_ Es.out).1).trans Es.out);have oU:=h_ (H.below A.out);clear U OX o1 r1 W OW;cases gk with
 |true=>
  go_wp2;go_ret;have b:xCv v id t=7:=by grind
  exact⟨λe=>(by rw[b]at e;cases e),λ_=>⟨by rw[b];rfl,A.out⟩⟩
 |false=>
 have Lm:xCv v id t=if v.bytes+t.size<=v.budget then 0 else 9:=by grind
 have ly:=h_ Lm;clear Lm;have P:=h_ (yAx oU.out G.1 G.2.1);go_wp2_with fail;refine P.mono ?_;rintro e a ⟨rfl,mm,bQ⟩;have C:Below w2.heap.size w2 a:=by grind
 have D:=h_ (A.trans (C.mono A.size));have J:=(C.block _ (i_ s.out).1).trans s.out;have j:=H.below D.out;have eY:=h_ j;have c3:=cell_of_row a v.p 3 _ _ _ j.blk;have c2:=cell_of_row a v.p 2 _ _ _ j.blk;simp only[zf,v_]at c2 c3;have z0:∀z:xf a,z.1.cell? ⟨v.p,3,none⟩=some (.map (some v.M)):=by grind
 have Z:∀z:xf a,z.1.cell? ⟨v.p,2,none⟩=some (.int .i64 v.next):=by grind
 have ri:=yx J;have Y:∀z:xf a,xp z.1 ⟨w.heap.size,0,none⟩ 32=true:=by grind [xf.ok]
 have z3:∀z:xf a,xo z.1 ⟨w.heap.size,0,none⟩ 32=(xl id).toArray:=by grind [xf.rd]
 by_cases hroom:v.bytes+t.size<=v.budget
 case neg=>
  have N:decide ((v.budget-v.bytes:Nat)<t.size)=true:=by grind
  have b:xCv v id t=9:=by grind
  have OI:=h_ b;clear bQ C J j c3 c2 ri s P z0 Z Y z3 hroom b;obtain⟨fr,g⟩:∃fr,fr=(v.budget-v.bytes:Nat):=⟨_,rfl⟩;rw[<-g]at N⊢;clear g;go_wp2;go_ret;exact⟨λe=>(by rw[OI.out]at e;cases e),λ_=>⟨by rw[OI.out];rfl,D.out⟩⟩
 have N:decide ((v.budget-v.bytes:Nat)<t.size)=false:=by grind
 have tU:=h_ hroom;clear hroom;clear bQ C J j c3 c2 ri s P;obtain⟨fr,g⟩:∃fr,fr=(v.budget-v.bytes:Nat):=⟨_,rfl⟩;rw[<-g]at N⊢;clear g;go_upto_region 11 with fail
 have dI:=G.2.2;have O:=eY.below ((z_ a.heap.size a).drew);have T:(Instr.mapUpdate 224 (.map (some v.M)) (.agg (xl id).toArray) (.agg (xU ⟨t,m,v.next⟩))).run prog a.drew=_:=xBu keyI underlying224 a.drew v.M v.es v.mc O.map id (.agg (xU ⟨t,m,v.next⟩));have au:=O.put id ⟨t,m,v.next⟩;have ey:Kept [v.M,v.p] w (a.drew.putObj v.M (.map ((putL id (.agg (xU ⟨t,m,v.next⟩)) v.mc v.es).map (enE ekI)).toArray (putC id v.mc v.es))):=(Kept.of_below (F:=[v.M,v.p]) (D.trans ((z_ a.heap.size a).drew.mono D.size))).trans (xGg _ _ _) (λq hq=>.inl (by simp at hq⊢;exact .inl hq));have X:=h_ ey;have l:=h_ au;clear O au ey;refine xz [0,1,2,3,4,5,6,7,8,9,10,11] [12] (λw'=>∃z:xf a,w'=z.1) ⟨⟨a.drew,(z_ _ _).drew⟩,rfl⟩ ?_;simp only[o_]
 repeat (go_big_quiet_step (fail))
 refine wpQuiet_nil ?_;clear z0 Z Y z3;refine yE ?_;simp only[o_];generalize a.drew.putObj v.M (.map ((putL id (.agg (xU ⟨t,m,v.next⟩)) v.mc v.es).map (enE ekI)).toArray (putC id v.mc v.es))=w5 at T X l;unfold xU at T;go_wp2;refine T_ ?_;clear T;have c2:=cell_of_row w5 v.p 2 _ _ _ l.blk;have f2:=frozen_of_row w5 v.p 2 _ _ l.blk;simp only[zf,v_]at c2;have o:=l.own 2 (.int .i64 ((v.next+1:Nat):Int)) { v with es:=putL id (.agg (xU ⟨t,m,v.next⟩)) v.mc v.es,mc:=putC id v.mc v.es,next:=v.next+1 } rfl rfl rfl rfl rfl;have x:=X.trans (yW w5 ⟨v.p,2,none⟩ (.int .i64 ((v.next+1:Nat):Int))) (λq hq=>.inl (by simp at hq⊢;exact .inr hq));obtain⟨nx,S⟩:∃nx:Int,nx=((v.next+1:Nat):Int):=⟨_,rfl⟩;have VT:(v.next:Int)+1=nx:=by omega
 have VU:(v.next:Int)<=1000:=by omega
 rw[<-S]at o x;obtain⟨f,Q⟩:∃f,f=w5.setCell ⟨v.p,2,none⟩ (.int .i64 nx):=⟨_,rfl⟩;rw[<-Q]at o x;have E:=h_ o;have OY:=h_ x;have dj:=h_ S;clear o x S l X dI;go_upto_region 13 with fail
 refine xm Q ?_;clear Q c2 f2 VT VU;have c1:=cell_of_row f v.p 1 _ _ _ E.blk;have f1:=frozen_of_row f v.p 1 _ _ E.blk;simp only[zf,v_]at c1;have V:=E.own 1 (.int .i64 ((v.bytes+t.size:Nat):Int)) { v with es:=putL id (.agg (xU ⟨t,m,v.next⟩)) v.mc v.es,mc:=putC id v.mc v.es,next:=v.next+1,bytes:=v.bytes+t.size } rfl rfl rfl rfl rfl;have R:=OY.trans (yW f ⟨v.p,1,none⟩ (.int .i64 ((v.bytes+t.size:Nat):Int))) (λq hq=>.inl (by simp at hq⊢;exact .inr hq));obtain⟨nb,lU⟩:∃nb:Int,nb=((v.bytes+t.size:Nat):Int):=⟨_,rfl⟩;have Je:(v.bytes:Int)+t.size=nb:=by omega
 have VV:nb<=1073741824:=by have:=tU.out;have:=G.2.1;omega
 have VW:0<=nb:=by omega
 rw[<-lU]at V R;have VX:=h_ V;have Gg:=h_ R;clear V R lU E OY;go_wp2;go_ret;exact⟨λ_=>⟨rfl,Gg.out,VX.out⟩,λe=>absurd (by rw[ly.out,if_pos tU.out]) e⟩
theorem yDm {B w v}(h:yN B w v)(n)(a:n=v.es.length):Calls prog 114 #[.pointer (some ⟨v.p,0,none⟩)] w λe w'=>w=w'/\e=.returned (.int .i64 n):=by
 have c3:=cell_of_row w v.p 3 _ _ _ h.blk;simp only[zf,v_]at c3;have b:=xK9 underlying224 h.map 3;rw[<-a]at b;clear h a;go_enter func114,ntmps114;go_wp2;go_ret;exact⟨rfl,rfl⟩
theorem xMa {K:Type}[DecidableEq K]{k:K}{u}:∀{l:List (KE K)} {i j:Nat},yG k l i=some (j,u)->i<=j/\j<i+l.length
 |[],_,_,h=>by cases h
 |e :: l,i,j,h=>by
  unfold yG at h;split at h
  ·cases h;simp
  ·have:=xMa h;grind
theorem yN.del {B w W v}(h:yN B w v)(i)(c:W=w.putObj v.M (.map ((v.es.eraseIdx i).map (enE ekI)).toArray v.mc))(b:∀k u,getK k (v.es.eraseIdx i)=some u->∃x:SArt,u=.agg (xU x)):yN B W { v with es:=v.es.eraseIdx i }:=by
 subst c;have hs:=bc_ v.es i;exact⟨(x6 h.ne).trans h.blk,h.map.put,h.ne,h.pB,h.MB,b,⟨λe a=>h.vals.2.1.1 e (hs.subset a),(hs.map _).nodup h.vals.2.1.2⟩,λe a=>h.vals.2.2 e (hs.subset a)⟩
theorem xV2 {l:List (KE Id32)}(h:∀e∈l,∃x:SArt,e.v=.agg (xU x)){k u}(a:getK k l=some u):∃x:SArt,u=.agg (xU x):=by grind [hv,xM0]
def yKj (B:Nat)(v:Spo)(id:Id32)(x:SArt)(w:World)(e:Ending)(w':World):Prop:=
 (getK id v.es=none->e=.returned (.int .i64 8)/\Below w.heap.size w w')/\∀i,yG id v.es 0=some (i,.agg (xU x))->e=.returned (.int .i64 0)/\Kept [v.M,v.p] w w'/\yN B w' { v with es:=v.es.eraseIdx i,bytes:=v.bytes-x.text.size }
theorem xTa {B w v}(h:yN B w v)(id x)(hx:getK id v.es=none\/getK id v.es=some (.agg (xU x))/\x.text.size<=v.bytes)(hl:v.bytes<=1073741824):
  Calls prog 329 #[.pointer (some ⟨v.p,0,none⟩),.agg (xl id).toArray] w (yKj B v id x w):=by
 obtain⟨r,y⟩:∃r,r=w.alloc (.cells (xl id).toArray 42):=⟨_,rfl⟩;have m:Below w.heap.size w r:=by grind
 have s:r.heap[w.heap.size]?=some (.cells (xl id).toArray 42 (0,0)):=by grind
 obtain⟨o1,O⟩:=yx s;obtain⟨x0,N,T,d⟩:=xTh (h.below m) id;rcases hx with b|⟨b,S⟩
 ·rw[b]at d;have j:xTi (Option.isSome (none:Option Value))=8:=rfl;rw[j]at d;have n:=h_ d;have l:=h_ m;have I:=h_ b;clear h m s d b N T j;go_enter func329,ntmps329;go_upto_region 1 with fail
  refine xm y ?_;clear y;go_wp2_with fail;refine n.mono ?_;rintro e a ⟨f,rfl⟩;have F:=h_ (l.trans (f.mono l.size));clear f o1 O n;go_wp2;go_ret;exact⟨λ_=>⟨rfl,F.out⟩,λi hi=>by have:=I.out;simp[getK,hi]at this⟩
 obtain⟨i,L⟩:∃i,yG id v.es 0=some (i,.agg (xU x)):=by
  unfold getK at b;obtain⟨⟨i,u⟩,h1,h2⟩:=al_.1 b;grind
 have K:=(xMa L).2;rw[m0]at K;have V:x0.text=x.text:=by grind [xU]
 rw[b,V,Option.isSome_some]at d;have j:xTi true=0:=rfl;rw[j]at d;have J:=h_ K;have n:=h_ d;have H:=h_ h;have l:=h_ m;have X:=h_ s;have I:=h_ b;have o:=h_ L;have HN:=h_ (And.intro S hl);clear h m s d V b L T N j S hl K;go_enter func329,ntmps329;go_upto_region 1 with fail
 refine xm y ?_;clear y;go_wp2_with fail;refine n.mono ?_;rintro e a ⟨f,rfl⟩;have F:=h_ (l.trans (f.mono l.size));have g:=(f.block _ (i_ X.out).1).trans X.out;have E:=H.below F.out;have oU:=h_ E;have c3:=cell_of_row a v.p 3 _ _ _ E.blk;simp only[zf,v_]at c3;have z0:∀z:xf a,z.1.cell? ⟨v.p,3,none⟩=some (.map (some v.M)):=by grind
 have ri:=yx g;have Z:∀z:xf a,xp z.1 ⟨w.heap.size,0,none⟩ 32=true:=by grind [xf.ok]
 have z3:∀z:xf a,xo z.1 ⟨w.heap.size,0,none⟩ 32=(xl id).toArray:=by grind [xf.rd]
 clear f g E c3 ri n o1 O;go_upto_region 4 with fail
 refine xz [0,1,2,3,4] [5] (λw'=>∃z:xf a,w'=z.1) ⟨⟨a.drew,(z_ _ _).drew⟩,rfl⟩ ?_;simp only[o_]
 repeat (go_big_quiet_step (fail))
 refine wpQuiet_nil ?_;clear z0 Z z3;have t:=oU.below ((z_ a.heap.size a).drew);obtain⟨c,D⟩:∃c,c=a.drew.putObj v.M (.map ((v.es.eraseIdx i).map (enE ekI)).toArray v.mc):=⟨_,rfl⟩;have Y:∀ty,(Builtin.delete_ #[224,42] ty #[.map (some v.M),.agg (xl id).toArray]).run prog a.drew=.ok (.tuple #[]) c:=λty=>by
  have:=xS3 keyI underlying224 ty a.drew v.M v.es v.mc t.map id i _ o.out J.out;rw[D];exact this
 have W:yN B c { v with es:=v.es.eraseIdx i }:=t.del i D (λk u hu=>xV2 (λe he=>t.vals.2.2 e ((bc_ _ _).subset he)) hu);have U:Kept [v.M,v.p] w c:=by grind
 have A:=h_ W;have P:=h_ U;clear t D W U;refine yE ?_;simp only[o_];refine vU _ rfl (.tmp 19) (.tmp 20) 224 42 rfl _ _ rfl rfl (Y _) ?_;go_wp2;refine T_ ?_;clear Y;have c1:=cell_of_row c v.p 1 _ _ _ A.blk;have f1:=frozen_of_row c v.p 1 _ _ A.blk;simp only[zf,v_]at c1;have G:=A.own 1 (.int .i64 ((v.bytes-x.text.size:Nat):Int)) { v with es:=v.es.eraseIdx i,bytes:=v.bytes-x.text.size } rfl rfl rfl rfl rfl;have C:=P.trans (yW c ⟨v.p,1,none⟩ (.int .i64 ((v.bytes-x.text.size:Nat):Int))) (λq hq=>.inl (by simp at hq⊢;exact .inr hq));obtain⟨nb,Q⟩:∃nb:Int,nb=((v.bytes-x.text.size:Nat):Int):=⟨_,rfl⟩;have Je:(v.bytes:Int)-x.text.size=nb:=by grind
 have VV:nb<=1073741824:=by grind
 have VW:0<=nb:=by omega
 rw[<-Q]at G C;have VX:=h_ G;have Gg:=h_ C;clear G C Q A P;go_wp2;go_ret;exact⟨λe=>(by rw[I.out]at e;cases e),λk R=>by rw[o.out]at R;cases R;exact⟨rfl,Gg.out,VX.out⟩⟩
end
structure ByC (B:Nat)(w:World)(v0 v:Value)(l:By)(W:World):Prop where
 bel:Below B w W
 own:OwnB W B v l
 keep:∀k,k<w.heap.size->v0.ownBlock≠some k->W.heap[k]?=w.heap[k]?
 fr:∀k,v.ownBlock=some k->v0.ownBlock=some k\/w.heap.size<=k
theorem ByC.app {B w W d c v0 v v' l r}(h:ByC B w v0 v l W)(i:B<=W.heap.size)(a:Below W.heap.size W d)(ho:OwnB c B v' (l++r))(g:d.grownBy c v.ownBlock)(j:v'.ownBlock=v.ownBlock\/v'.ownBlock=some d.heap.size)(hs:w.heap.size<=W.heap.size):ByC B w v0 v' (l++r) c:=by
 refine⟨(h.bel.trans (a.mono i)).grown g (R_ i a.size) (λ_ e=>(h.own.lt e).1),ho,λk b f=>?_,λk b=>?_⟩
 ·have h1:v.ownBlock≠some k:=λe=>by
   rcases h.fr k e with h2|h2
   ·exact f h2
   ·omega
  rw[g.block k (by have:=a.size;omega) (λe=>h1 e.symm),a.block k (by omega),h.keep k b f]
 ·rcases j with e|e
  ·exact h.fr k (e▸b)
  grind
theorem xSh (a)(n:Nat)(R:n<=4611686018427387904)(v0 w B)(z:OwnB w B v0 a)(u:B<=w.heap.size)(Q:a.length<=1000000):
  Calls prog 113 #[v0,.int .i64 n] w λe w'=>∃v,e=.returned v/\ByC B w v0 v (a++beB 8 n) w':=by
 have K:Hid (ByC B w v0 v0 (a++(beB 8 n).take 0) w):=h_ ⟨z_ _ _,by simpa using z,λ_ _ _=>rfl,λk h=>.inl h⟩;have N:=h_ u;clear z u;go_enter func113,ntmps113;go_wp2;go_loopw [5,0] (λi bv wr=>∃j:Nat,i=.int .i64 (7-(j:Int))/\j<=8/\Hid (ByC B w v0 bv (a++(beB 8 n).take j) wr)) (λi _ _=>(intOf i+1).toNat)
 case atStart=>exact⟨0,rfl,by omega,K⟩
 case round=>
  obtain⟨j,rfl,S,g⟩:=hrel;by_cases hlt2:j<8
  ·obtain⟨i,t⟩:∃i:Nat,i=7-j:=⟨_,rfl⟩;have c:(7:Int)-j=(i:Int):=by omega
   rw[c];have hx:=jj n i;have d:=jG 8 n j hlt2;rw[show 8-1-j=i by omega]at d;generalize J:UInt8.ofNat (n/256 ^ i)=b at hx d;have P:(a++(beB 8 n).take j)++[b]=a++(beB 8 n).take (j+1):=by grind [List.take_succ_eq_append_getElem,xu,List.append_assoc]
   have b1:(0:Int)<=8*(i:Int):=by omega
   have b2:8*(i:Int)<=64:=by omega
   have b3:(n:Int)<=4611686018427387904:=by omega
   have p:Below wr.heap.size wr (wr.alloc (.cells #[.int .u8 b.toNat] 5)):=by grind
   have m:OwnB (wr.alloc (.cells #[.int .u8 b.toNat] 5)) B u0 (a++(beB 8 n).take j):=g.own.below p;have r:SlB (wr.alloc (.cells #[.int .u8 b.toNat] 5)) ⟨wr.heap.size,0,none⟩ [b]:=vX wr 5 [b];have A:B<=wr.heap.size:=R_ N.out g.bel.size;have o:∀v' l,OwnB l B v' ((a++(beB 8 n).take j)++[b])->(wr.alloc (.cells #[.int .u8 b.toNat] 5)).grownBy l u0.ownBlock->(v'.ownBlock=u0.ownBlock\/v'.ownBlock=some (wr.alloc (.cells #[.int .u8 b.toNat] 5)).heap.size)->ByC B w v0 v' (a++(beB 8 n).take (j+1)) l:=λv' l ho D E=>by
    have:=g.app A p ho D E g.bel.size;grind
   have q:B<=(wr.alloc (.cells #[.int .u8 b.toNat] 5)).heap.size:=by simp;omega
   have y:(a++(beB 8 n).take j).length+[b].length<=1000000000000:=by grind
   rw[hx]at m r o q;have I:=h_ m;have G:=h_ r;have F:=h_ o;have C:=h_ q;have H:=h_ y;have U:=h_ t;clear t hx d J P p m r o q y c A;go_wp2_with (at_builtin;refine zQ rfl (.tmp 10) (.tmp 16) rfl B _ (a++(beB 8 n).take j) rfl I.out ⟨wr.heap.size,0,none⟩ [b] 1 rfl G.out H.out C.out ?_);intro v' w' ho f _ x;rw[<-B8]at ho;have L:=h_ (F.out v' w' ho f (by rw[U7];exact x));have s:(i:Int)-1=7-((j+1:Nat):Int):=by grind
   have O:=h_ s;have T:(i:Int)<=7:=by omega
   clear ho f x s;go_wp2;go_roundw
   case rel=>exact⟨j+1,by rw[<-O.out],by omega,L⟩
   case measure=>simp[intOf]
  ·obtain rfl:j=8:=by omega
   have M:Hid (ByC B w v0 u0 (a++beB 8 n) wr):=by grind [List.take_of_length_le,xu]
   have c:(7:Int)-(8:Nat)=-1:=by omega
   rw[c];go_wp2;go_ret;exact⟨_,rfl,M.out⟩
theorem yDo (f w):Calls prog 256 #[.slice none 0 0,.int .i64 0,.int .i64 0,f] w λe w'=>e=.returned (.tuple #[])/\w=w':=by
 go_enter func256,ntmps256;go_wp2;refine wp_loop_once ?_;go_wp2;go_end0;exact⟨rfl,rfl⟩
theorem yDj (f w):Calls prog 221 #[.slice none 0 0,.int .i64 0,.int .i64 0,.int .i64 0,f] w λe w'=>e=.returned (.tuple #[])/\w=w':=by
 have a:=h_ (yDo f w);go_enter func221,ntmps221;go_wp2;refine wp_loop_once ?_;go_wp2_with fail;refine a.mono ?_;rintro e w' ⟨rfl,rfl⟩;go_wp2
 first|go_end0|(simp only[Exit.inBlock,Exit.then];refine bodyPost_ret (results_none rfl _ _ _) rfl ?_)|refine bodyPost_ret (results_none rfl _ _ _) rfl ?_
 exact⟨rfl,rfl⟩
theorem yAs (f w):Calls prog 194 #[.slice none 0 0,f] w λe w'=>e=.returned (.tuple #[])/\w=w':=by
 have b:=h_ (yDj f w);have c:=h_ (Tryz.bits_Len 0 w (by decide) (by decide));go_enter func194,ntmps194;go_wp2_with fail;refine c.mono ?_;rintro e w' ⟨rfl,rfl⟩;have a:Lib.bitLen (0:Int).toNat=0:=by decide
 rw[a];go_wp2_with fail;refine b.mono ?_;rintro e w' ⟨rfl,rfl⟩;go_wp2;go_end0;exact⟨rfl,rfl⟩
theorem xKu {B w v}(h:yN B w v)(c:v.es=[]):Calls prog 159 #[.pointer (some ⟨v.p,0,none⟩)] w λe w'=>e=.returned (.slice none 0 0)/\Below w.heap.size w w':=by
 obtain⟨a,i⟩:∃a,a=w.alloc (.cells #[.pointer (some ⟨v.p,0,none⟩)] 104):=⟨_,rfl⟩;have f:Below w.heap.size w a:=by grind
 have l:=yD w #[.pointer (some ⟨v.p,0,none⟩)] 104 0;rw[<-i]at l;simp only[v_]at l;have d:=h.below f;have c3:=cell_of_row a v.p 3 _ _ _ d.blk;simp only[zf,v_]at c3;have b:=d.map;unfold xV at b;rw[c]at b;have j:=run_range_map (P:=prog) a 224 _ _ v.M _ v.mc underlying224 b;obtain⟨W,k⟩:∃W,W=a.alloc (.mapIter (some v.M) v.mc #[] v.mc):=⟨_,rfl⟩;have g:Below a.heap.size a W:=by grind
 have hit:W.heap[a.heap.size]?=some (.mapIter (some v.M) v.mc #[] v.mc):=by grind
 have m:∀ty,(Instr.next (.pointer (some ⟨a.heap.size,0,none⟩)) false ty).run prog W=.ok (.tuple #[.bool false]) W:=λty=>by
  rcases run_next_at (P:=prog) W ty a.heap.size v.M v.mc v.mc #[] _ v.mc hit ((g.block _ d.lt.2).trans b) (λx hx=>by cases hx) (w_ _) with⟨_,h1⟩|⟨e,c,_⟩
  ·exact h1
  ·exact absurd (mem_left c).1 (by simp)
 have n:=h_ (f.trans (g.mono f.size));rw[<-k]at j;clear b g hit h c k d f;go_enter func159,ntmps159;go_upto_region 1 with fail
 refine xm i ?_;clear i;go_wp2;refine wp_loop_once ?_;clear j c3;go_wp2_with fail;refine(yAs _ W).mono ?_;rintro e w' ⟨rfl,rfl⟩;clear m;go_wp2;go_ret;exact⟨rfl,n.out⟩
theorem yDu (b w):Calls prog 115 #[.pointer (some ⟨b,0,none⟩)] w λe w'=>e=.returned (.func (.func 158) #[] #[.pointer (some ⟨w.heap.size,0,none⟩)])/\w.alloc (.cells #[.pointer (some ⟨b,0,none⟩)] 104)=w':=by
 go_enter func115,ntmps115;go_wp2;go_ret;exact⟨rfl,rfl⟩
theorem xTp {B w v}(h:yN B w v)(a:v.es=[])(bx)(c:w.cell? ⟨bx,0,none⟩=some (.pointer (some ⟨v.p,0,none⟩)))(y):
  Calls prog 158 #[y,.pointer (some ⟨bx,0,none⟩)] w λe w'=>(∃u,e=.returned u)/\Below w.heap.size w w':=by
 have HS:Hid (Calls prog 159 #[.pointer (some ⟨v.p,0,none⟩)] w λe w'=>e=.returned (.slice none 0 0)/\Below w.heap.size w w'):=h_ (xKu h a);clear h a;go_enter func158,ntmps158;go_wp2_with fail;refine HS.mono ?_;rintro e f ⟨rfl,b⟩;have d:=h_ b;clear b c;go_wp2;refine wp_loop_once ?_;go_wp2;go_end0;exact⟨⟨_,rfl⟩,d.out⟩
theorem xN8 {B w v}(h:yN B w v)(he:v.es=[])(hl:v.budget<=1073741824):
  Calls prog 81 #[.pointer (some ⟨v.p,0,none⟩)] w λe w'=>Below w.heap.size w w'/\∃u,e=.returned u/\OwnB w' w.heap.size u (beB 8 v.budget++beB 8 0):=by
 obtain⟨c,Gi⟩:∃c,c=w.alloc (.cells #[.pointer (some ⟨v.p,0,none⟩)] 104):=⟨_,rfl⟩;have Q:Below w.heap.size w c:=by grind
 have N:c.heap[w.heap.size]?=some (.cells #[.pointer (some ⟨v.p,0,none⟩)] 104 (0,0)):=by grind
 have m:=cell_of_row c w.heap.size 0 _ _ _ N;simp only[v_]at m;have r:=h.below Q;have c0:=cell_of_row c v.p 0 _ _ _ r.blk;simp only[zf,v_]at c0;have HA:=h_ (yCn [] v.budget (by omega) (.slice none 0 0) c c.heap.size (OwnB.nil _ _) (w_ _) (by simp));have H:=h_ h;have f:=h_ Q;have J:=h_ N;have HE:=h_ he;clear h he hl Q N r;refine(callsIn_wide (n:=4)).1 (callsIn_of_wp_marks func81 rfl trivial ?_ rfl);simp only[ntmps81,T9,x5,L1,Nat.reduceAdd,Nat.reduceSub,aO_,aP_,bd_,aR_,E8,L2];refine wpIn_wide.2 ?_;go_upto_region 1 with fail
 refine xm Gi ?_;clear Gi;go_wp2_with fail;refine HA.mono ?_;rintro e a ⟨G,u,rfl,E⟩;rw[E8]at E;obtain⟨ug,uc,L,_,_,_,_⟩:∃g cap,u=.slice (some ⟨g,0,none⟩) 8 cap/\c.heap.size<=g/\8<=cap/\cap<=maxLen/\SlB a ⟨g,0,none⟩ (beB 8 v.budget):=by
  rcases E.at with⟨_,h⟩|⟨g,cap,h1,h2,h3,h4,h5⟩
  ·grind [List.length,xu]
  grind [beB,xu]
 subst L;obtain⟨b,T⟩:∃b,b=a.alloc (.cells #[.slice (some ⟨ug,0,none⟩) 8 uc] 23):=⟨_,rfl⟩;have V:Below a.heap.size a b:=by grind
 have X:b.heap[a.heap.size]?=some (.cells #[.slice (some ⟨ug,0,none⟩) 8 uc] 23 (0,0)):=by grind
 have S:=G.trans (V.mono G.size);have C:=h_ S;have O:=(S.block _ (i_ J.out).1).trans J.out;have CY:=h_ O;have iw:=h_ (E.below V);have dw:=h_ X;have Z:=cell_of_row b a.heap.size 0 _ _ _ X;have o:=cell_of_row b w.heap.size 0 _ _ _ O;simp only[v_]at Z o;have z0:∀z:xf b,z.1.cell? ⟨a.heap.size,0,none⟩=some (.slice (some ⟨ug,0,none⟩) 8 uc):=by grind
 have z1:∀z:xf b,z.1.cell? ⟨w.heap.size,0,none⟩=some (.pointer (some ⟨v.p,0,none⟩)):=by grind
 have F:=h_ (E.lt (k:=ug) rfl).2;have dU:Hid (b.drew.heap.size=a.heap.size+1):=h_ (by show b.heap.size=_;rw[T,U7]);have CR:=h_ G.size;clear G E V X c0 m O S Z o HA;go_upto_region 4 with fail
 refine xm T ?_;clear T;refine xz [0,1] [2,3,4] (λw'=>∃z:xf b,w'=z.1) ⟨⟨b.drew,(z_ _ _).drew⟩,rfl⟩ ?_;simp only[o_]
 repeat (go_big_quiet_step (fail))
 refine wpQuiet_nil ?_;have x:Below b.heap.size b b.drew:=by grind
 clear z0 z1;refine yo true ?_;simp only[o_];go_wp2_with fail;refine(yDm (H.below (f.trans ((C.trans (x.mono C.size)).mono f.size))) 0 (by rw[HE.out];rfl)).mono ?_;rintro e i⟨rfl,rfl⟩;go_wp2;refine⟨λ_=>⟨⟨_,x⟩,rfl⟩,yE ?_⟩;simp only[o_];have Y:=iw.below x;have M:=(Y.lt (k:=ug) rfl).2;have K:=h_ x;go_wp2_with fail;refine(xSh _ 0 (by omega) _ b.drew c.heap.size Y (by have:=C.size;exact this) (by simp[xu])).mono ?_;rintro e i⟨u,rfl,j⟩;have Ln:ug<a.heap.size:=F.out;have dB:b.drew.heap.size=a.heap.size+1:=dU.out;obtain⟨ag,ac,L,_,_,_,_⟩:∃g cap,u=.slice (some ⟨g,0,none⟩) 16 cap/\c.heap.size<=g/\16<=cap/\cap<=maxLen/\SlB i ⟨g,0,none⟩ (beB 8 v.budget++beB 8 0):=by
  rcases j.own.at with⟨_,h⟩|⟨g,cap,h1,h2,h3,h4,h5⟩
  ·exact absurd (congrArg List.length h) (by simp[xu])
  ·have e:(beB 8 v.budget++beB 8 0).length=16:=by simp[xu]
   grind
 subst L;have OZ:ag≠a.heap.size:=by
  rcases j.fr ag rfl with h|h
  ·have:ug=ag:=G0 h;omega
  ·omega
 have R:=(j.keep a.heap.size (by omega) (λe=>by have:ug=a.heap.size:=G0 e;omega)).trans ((K.block a.heap.size (by have:=(i_ dw.out).1;exact this)).trans dw.out);have ao:Below c.heap.size c i:=(C.trans (K.mono C.size)).trans j.bel;have c3:=cell_of_row i a.heap.size 0 _ _ _ R;have f3:=frozen_of_row i a.heap.size 0 _ _ R;simp only[v_]at c3;obtain⟨d,P⟩:∃d,d=i.setCell ⟨a.heap.size,0,none⟩ (.slice (some ⟨ag,0,none⟩) 16 ac):=⟨_,rfl⟩;have VZ:c.heap.size<=a.heap.size:=CR.out;have aQ:Below c.heap.size c d:=by grind
 have dN:d.heap[a.heap.size]?=some (.cells #[.slice (some ⟨ag,0,none⟩) 16 ac] 23 (0,0)):=by grind
 have C7:OwnB d c.heap.size (.slice (some ⟨ag,0,none⟩) 16 ac) (beB 8 v.budget++beB 8 0):=by
  rw[P];exact j.own.grown (grownBy_setCell' i a.heap.size _) (λk e=>by cases e;intro h;exact OZ (G0 h))
 have l:=h_ aQ;have K_:=h_ dN;have Sx:=h_ C7;have Eu:=h_ (j.own.lt (k:=ag) rfl);clear j Ln dB OZ R ao VZ aQ dN C7 Y M F dU iw K x;go_wp2;refine T_ ?_;go_upto_region 5 with fail
 refine xm P ?_;clear P c3 f3;have q:=(l.block _ (i_ J.out).1).trans J.out;have o:=cell_of_row d w.heap.size 0 _ _ _ q;simp only[v_]at o;clear q;go_wp2_with fail;refine(yDu v.p d).mono ?_;rintro e w5 ⟨rfl,rfl⟩;have U:Below d.heap.size d (d.alloc (.cells #[.pointer (some ⟨v.p,0,none⟩)] 104)):=by grind
 have m:=yD d #[.pointer (some ⟨v.p,0,none⟩)] 104 0;generalize d.alloc (.cells #[.pointer (some ⟨v.p,0,none⟩)] 104)=w5 at U m⊢;have A:=h_ U;have OT:=h_ m;clear U m o;go_wp2;refine xEj rfl (enters_of func158 (by kernel_rfl) rfl) (λy W s=>?_) (λD W hD s hK=>?_)
 ·have O0:=f.trans ((l.trans (A.mono l.size)).mono f.size);exact xTp (H.below (O0.trans (s.mono O0.size))) HE.out _ ((s.cell (p:=⟨d.heap.size,0,none⟩) (block_lt_of_cell OT.out)).trans OT.out) y
 ·have I:=A.trans (s.mono A.size);have VS:=(I.cell (p:=⟨a.heap.size,0,none⟩) (i_ K_.out).1).trans (cell_of_row d a.heap.size 0 _ _ _ K_.out);simp only[v_]at VS;have sY:=h_ (Sx.below I);have ny:=h_ (f.trans ((l.trans (I.mono l.size)).mono f.size));have HK:=h_ hK;have HD:=h_ hD;clear s hK I hD;go_wp2;refine⟨by simp,.inl ⟨_,_,rfl,run_takeDeferred HK.out,?_⟩⟩;refine⟨.slice (some ⟨ag,0,none⟩) 16 ac,results_tmp (t:=2) results81 _ _ _,ny.grown (grownBy_putObj' _ D _) ny.size (λk e=>by cases e;have:=l.size;have:=A.size;have:=f.size;have:=HD.out;omega),_,rfl,(sY.base f.size).grown (grownBy_putObj' _ D _) (λk e=>?_)⟩;cases e
  have h1:=(Sx.lt (k:=ag) rfl).2;have h2:=A.size;have h3:=HD.out;intro h4;have h5:ag=D:=G0 h4;omega
theorem xTf (a)(len cap k:Nat)(z:Int)(b:z=k)(c:k<=cap)(w):Sem.run prog (Instr.sliceAt 23 (.slice (some a) len cap) none (some (.int .i64 z)) none) w=.ok (.slice (some a) k cap) w:=by
 subst b;rw[run_sliceAt_slice w 23 _ _ _ _ (by kernel_rfl),run_slice_h w 23 (some a) len cap (by kernel_rfl) .i64 k (by omega) (by omega),xCa,sizeOf5];simp only[t2,sliced,U6,aa_,cm_,az_];have:a.add 0=a:=rfl;split <;> rfl
def xBj (w:World)(r:Nat)(v:Value)(e:Int):Prop:=w.heap[r]?=some (.cells #[v,.int .i64 e] 323 (0,0))
theorem xBj.set {w r v e}(h:xBj w r v e)(u):xBj (w.setCell ⟨r,0,none⟩ u) r u e:=by grind [xBj]
theorem xKt (r v k w)(h:xBj w r v 0):Calls prog 173 #[.pointer (some ⟨r,0,none⟩),.bool false,.int .i64 k] w λe w'=>e=.returned (.tuple #[])/\w=w':=by
 have c1:=cell_of_row w r 1 _ _ _ h;simp only[v_]at c1;clear h;go_enter func173,ntmps173;go_wp2;go_end0;exact⟨rfl,rfl⟩
theorem yDc (r a len cap n w)(h:xBj w r (.slice (some a) len cap) 0)(b:n<=len)(j:len<=cap)(c:cap<=maxLen):Calls prog 172 #[.pointer (some ⟨r,0,none⟩),.int .i64 n] w λe w'=>
  e=.returned (.slice (some a) n cap)/\w.setCell ⟨r,0,none⟩ (.slice (some (cutA a cap n)) (len-n) (cap-n))=w':=by
 have c0:=cell_of_row w r 0 _ _ _ h;have c1:=cell_of_row w r 1 _ _ _ h;have k:=frozen_of_row w r 0 _ _ h;simp only[v_]at c0 c1;have d:=h_ (xKt r _ 23 w h);have m:=xTf a len cap n (n:Int) rfl (by omega);have l:=kF a len cap n (n:Int) rfl b;unfold maxLen at c;have g:(n:Int)<=len:=by omega
 have f:(len:Int)<=9223372036854775807:=by omega
 have i:decide (len<n)=false:=decide_eq_false (by omega);clear h;go_enter func172,ntmps172;go_wp2_with fail;refine d.mono ?_;rintro e w' ⟨rfl,rfl⟩;go_wp2;go_ret;exact⟨rfl,rfl⟩
theorem xOf (r a len cap l w)(h:xBj w r (.slice (some a) len cap) 0)(hs:SlB w a l)(F:l.length=len)(z:8<=len)(y:len<=cap)(v:cap<=maxLen)(D:a.block≠r):Calls prog 171 #[.pointer (some ⟨r,0,none⟩)] w λe w'=>
  e=.returned (.int .u64 (deB (l.take 8):Nat))/\w.setCell ⟨r,0,none⟩ (.slice (some (cutA a cap 8)) (len-8) (cap-8))=w':=by
 have B:=h_ (yDc r a len cap 8 w h z y v);obtain⟨f,o⟩:∃f,f=w.setCell ⟨r,0,none⟩ (.slice (some (cutA a cap 8)) (len-8) (cap-8)):=⟨_,rfl⟩
 have p:SlB f a (l.take 8):=⟨λq x hq=>by
  have h1:=(hs.take 8).cell q x hq;rw[o];have h2:=heap_setCell_other w ⟨r,0,none⟩ a.block (.slice (some (cutA a cap 8)) (len-8) (cap-8)) D;exact(J9 (by rw[xY];exact h2)).trans h1⟩
 obtain⟨c,s⟩:∃c,c=l.take 8:=⟨_,rfl⟩;have A:c.length=8:=by rw[s,x8];omega
 rw[<-o]at B⊢;rw[<-s]at p⊢;have HS:=h_ p;have C:=h_ A;have G:(8:Int)<=cap:=by omega
 clear h hs o p s A F z y v D;go_enter func171,ntmps171;go_wp2_with fail;refine B.mono ?_;rintro e w' ⟨rfl,rfl⟩;go_wp2;go_loopw [3,9] (λnv u wr=>∃k:Nat,u=.int .i64 k/\nv=.int .u64 (deB (c.take k):Nat)/\k<=8/\wr=f) (λ_ u _=>8-(intOf u).toNat)
 case atStart=>exact⟨0,rfl,by simp[deB],by omega,rfl⟩
 case round=>
  obtain⟨k,rfl,rfl,I,rfl⟩:=hrel;by_cases hlt:k<8
  ·have K:(k:Int)<8:=by omega
   have d:k<c.length:=by rw[C.out];exact hlt
   have E:=HS.cell k _ (U_ d);have g:deB (c.take (k+1))=deB (c.take k)*256+(c[k]'d).toNat:=by
    rw[d0 d,xBd]
   have i:=xS5 (c.take k) (by rw[x8];omega);generalize c[k]'d=b at E g;have H:=b.toNat_lt;obtain⟨n,t⟩:∃n,n=deB (c.take k):=⟨_,rfl⟩;rw[<-t]at g i⊢;have j:=xQs n b.toNat i (by omega);rw[<-g]at j;have J:(n:Int)<72057594037927936:=by omega
   have m:k+1<=8:=hlt;clear t g i d;go_wp2;go_roundw
   case rel=>exact⟨k+1,by go_num,rfl,m,trivial⟩
   case measure=>simp[intOf];omega
  ·obtain rfl:k=8:=by omega
   rw[v6 (by rw[C.out];exact w_ _)];go_wp2;go_ret;exact⟨rfl,rfl⟩
theorem xX0 (r a len cap l w)(h:xBj w r (.slice (some a) len cap) 0)(hs:SlB w a l)(j:l.length=len)(i:8<=len)(g:len<=cap)(f:cap<=maxLen)(m:a.block≠r)(n)(li b:Int)(d:deB (l.take 8)=n)(_z6:0<=li)(h1:li<=n)(h2:(n:Int)<=b)(z3:b<=1073741824):Calls prog 170 #[.pointer (some ⟨r,0,none⟩),.int .i64 li,.int .i64 b] w λe w'=>
  e=.returned (.int .i64 n)/\w.setCell ⟨r,0,none⟩ (.slice (some (cutA a cap 8)) (len-8) (cap-8))=w':=by
 have c:=h_ (xOf r a len cap l w h hs j i g f m);have ha:=h.set (.slice (some (cutA a cap 8)) (len-8) (cap-8));rw[d]at c;generalize w.setCell ⟨r,0,none⟩ (.slice (some (cutA a cap 8)) (len-8) (cap-8))=w1 at c ha⊢;have o:=h_ (xKt r _ 3 w1 ha);have c1:=cell_of_row w1 r 1 _ _ _ ha;simp only[v_]at c1;obtain⟨ni,k⟩:∃ni:Int,ni=(n:Int):=⟨_,rfl⟩;have q:li<=ni:=by omega
 have p:ni<=b:=by omega
 have z4:ni<=1073741824:=by omega
 have z5:0<=ni:=by omega
 have dg:decide ((9223372036854775807:Int)<ni)=false:=decide_eq_false (by omega);have d1:decide (ni<li)=false:=decide_eq_false (by omega);have s:decide (b<ni)=false:=decide_eq_false (by omega);rw[<-k]at c⊢;clear k;clear h hs j i g f m d h1 h2 ha;go_enter func170,ntmps170;go_wp2_with fail;refine c.mono ?_;rintro e w' ⟨rfl,rfl⟩;go_wp2_with fail;refine o.mono ?_;rintro e w' ⟨rfl,rfl⟩;go_wp2;go_ret;exact⟨rfl,rfl⟩
theorem xN9 (a l cap w)(hs:SlB w a l)(ha:a.block<w.heap.size)(hl:l.length=16)(J:16<=cap)(j:cap<=maxLen)(n)(I:deB (l.take 8)=n)(h1:1<=n)(h2:n<=1073741824)(K:deB (l.drop 8)=0):
  Calls prog 131 #[.slice (some a) 16 cap] w λe w'=>Below w.heap.size w w'/\∃v,e=.returned (.tuple #[.pointer (some ⟨v.p,0,none⟩),.int .i64 0])/\yN w.heap.size w' v/\v.es=[]/\v.budget=n/\v.bytes=0/\v.next=0:=by
 have X:=@run_makeMap prog;obtain⟨r,H⟩:∃r,r=w.heap.size:=⟨_,rfl⟩;obtain⟨f,S⟩:∃f,f=w.alloc (.cells #[.slice (some a) 16 cap,.int .i64 0] 323):=⟨_,rfl⟩;have M:Below w.heap.size w f:=by grind
 have U:f.heap.size=r+1:=by grind
 have i:xBj f r (.slice (some a) 16 cap) 0:=by grind [xBj]
 have C:a.block≠r:=by omega
 have G:SlB f a l:=⟨λq x hq=>(M.cell (by rw[xY];exact ha)).trans (hs.cell q x hq)⟩;have Q:=h_ (xX0 r a 16 cap l f i G hl (by omega) J j C n 1 1073741824 I (by omega) (by omega) (by omega) (by omega));obtain⟨b,s⟩:∃b,b=f.setCell ⟨r,0,none⟩ (.slice (some (cutA a cap 8)) (16-8) (cap-8)):=⟨_,rfl⟩;have P:xBj b r (.slice (some (cutA a cap 8)) 8 (cap-8)) 0:=by rw[s];exact i.set _
 have t:Below w.heap.size w b:=by grind
 have V:b.heap.size=r+1:=by grind
 rw[<-s]at Q;obtain⟨c,y⟩:∃c,c=(b.alloc (.map #[] 0)).alloc (.cells #[.int .i64 n,.int .i64 0,.int .i64 0,.map (some b.heap.size)] 226):=⟨_,rfl⟩;have z:Below b.heap.size b c:=by grind
 have O:=t.trans (z.mono t.size);have g:yN w.heap.size c ⟨b.heap.size+1,b.heap.size,[],0,n,0,0⟩:=by
  refine⟨?_,?_,by simp,by show w.heap.size<=b.heap.size+1;omega,by show w.heap.size<=b.heap.size;omega,⟨λk u h=>by simp[xDd]at h,xF2.nil _,λe h=>by cases h⟩⟩
  ·have:=heap_alloc_new (b.alloc (.map #[] 0)) (.cells #[.int .i64 n,.int .i64 0,.int .i64 0,.map (some b.heap.size)] 226);rw[U7]at this;rw[y];exact this
  grind [xV]
 have A:xBj c r (.slice (some (cutA a cap 8)) 8 (cap-8)) 0:=(z.block r (by omega)).trans P;have L:SlB c a l:=⟨λq x hq=>(O.cell (by rw[xY];exact ha)).trans (hs.cell q x hq)⟩;have B:=h_ (xOf r (cutA a cap 8) 8 (cap-8) (l.drop 8) c A (L.cut (by omega) 8) (by rw[E0];omega) (by omega) (by omega) (by omega) (by rw[kV];exact C));rw[v6 (by rw[E0];omega),K,show ((0:Nat):Int)=0 from rfl]at B;obtain⟨d,o⟩:∃d,d=c.setCell ⟨r,0,none⟩ (.slice (some (cutA (cutA a cap 8) (cap-8) 8)) (8-8) (cap-8-8)):=⟨_,rfl⟩;have m:xBj d r (.slice (some (cutA (cutA a cap 8) (cap-8) 8)) 0 (cap-8-8)) 0:=by rw[o];exact A.set _
 rw[<-o]at B;have N:Below w.heap.size w d:=by grind
 have D:yN w.heap.size d ⟨b.heap.size+1,b.heap.size,[],0,n,0,0⟩:=by
  rw[o];refine⟨(heap_setCell_other c ⟨r,0,none⟩ (b.heap.size+1) _ (by show b.heap.size+1≠r;omega)).trans g.blk,(heap_setCell_other c ⟨r,0,none⟩ b.heap.size _ (by show b.heap.size≠r;omega)).trans g.map,g.ne,g.pB,g.MB,g.vals⟩
 have W:=h_ (xKt r _ 5 d m);have E:=cell_of_row d r 0 _ _ _ m;have T:=cell_of_row d r 1 _ _ _ m;simp only[v_]at E T;have R:=h_ (And.intro N D);obtain⟨ad,F⟩:∃ad,ad=cutA (cutA a cap 8) (cap-8) 8:=⟨_,rfl⟩;rw[<-F]at E;clear hs ha hl J j I h1 h2 K M U i C G s P t V z O g A L o m N D F;go_enter func131,ntmps131;go_upto_region 2 with fail
 refine xm S ?_;rw[<-H];clear S H;go_wp2_with fail;refine Q.mono ?_;rintro e w' ⟨rfl,rfl⟩;go_upto_region 3 with fail
 refine xm y ?_;clear y;go_wp2_with fail;refine B.mono ?_;rintro e w' ⟨rfl,rfl⟩;go_wp2;refine wp_loop_once ?_;go_wp2_with fail;refine W.mono ?_;rintro e w' ⟨rfl,rfl⟩;go_wp2;go_ret2;exact⟨R.1,⟨b.heap.size+1,b.heap.size,[],0,n,0,0⟩,rfl,R.2,rfl,rfl,rfl,rfl⟩
end Go.Proofs.YtdhapkeimaljfaaGreatDoor
namespace Go.Proofs
open Go.Shelf
def Tryz.cloneIvl_ren:Go.Shelf.Ren:=⟨λ| 41=>126|n=>n,λ| 22=>254|23=>268|4=>4|n=>n,λ| n=>n⟩
theorem Tryz.cloneIvl:Go.Proofs.SlLaysE0.n41 prog Tryz.cloneIvl_ren:={
 mixed:=by kernel_rfl
 f41:=⟨f126.name,by decide,func126.trans (congrArg some (by kernel_rfl))⟩
 t4:=underlying4
 a4:=isAgg4
 z4:=sizeOf4
 v4:=zeroValue4
 t22:=underlying254
 a22:=isAgg254
 z22:=sizeOf254
 v22:=zeroValue254 }
end Go.Proofs
namespace Go.Proofs.YtdhapkeimaljfaaGreatDoor
open Go Go.RowKit Go.Proofs Tryz
def xAe:=lx_ 256
def kj:=sx_ 256
def xR6:=@yh prog 256 3 isAgg256 sizeOf256
def xQa:=@yk prog 256 3 (by kernel_rfl)
def qG:=lx_ 72
def qU:=sx_ 72
def xHw:=@yh prog 72 2 isAgg72 sizeOf72
def xHh:=@yk prog 72 2 (by kernel_rfl)
def xVe:=lx_ 268
def xRl:=sx_ 268
def yJm:=@yh prog 268 2 isAgg268 sizeOf268
def yJ3:=@yk prog 268 2 (by kernel_rfl)
theorem Tryz.info_ivl:(prog.info? 268).map (λi=>(i.zero,i.size,i.bytes))=some (some (.agg #[.int .i64 0,.int .i64 0]),2,16):=by kernel_rfl
theorem Tryz.info_pla:(prog.info? 72).map (λi=>(i.zero,i.size,i.bytes))=some (some (.agg #[.string ⟨#[]⟩,.int .i64 0]),2,24):=by kernel_rfl
structure AC where
 high:Nat
 closed:Bool
 ivs:List (Int×Int)
structure AG where
 name:ByteArray
 c:AC
 v:Value
 born:Nat
def xT (h:Int)(cl:Bool)(v:Value):Array Value:=#[.int .i64 h,.bool cl,v]
def AG.cells (g:AG):Array Value:=xT g.c.high g.c.closed g.v
def AG.e (g:AG):KE ByteArray:=⟨g.name,.agg g.cells,g.born⟩
def uj:Array Value:=xT 0 false (.slice none 0 0)
theorem xSt (w):(zeroValue 256).run prog w=.ok (.agg uj) w:=by kernel_rfl
theorem km (ρ:Operand->Value)(d)(ty:TypeId)(pos af g w):
  Sem.run prog (execOp ρ ⟨d,.alloc 256,ty,pos,af,g⟩) w=.ok (.value (.pointer (some ⟨w.heap.size,0,none⟩))) (w.alloc (.cells uj 256)):=by kernel_rfl
theorem xNw (ρ:Operand->Value)(d)(ty:TypeId)(pos af g w):
  Sem.run prog (execOp ρ ⟨d,.build 256 #[],ty,pos,af,g⟩) w=.ok (.value (.agg uj)) w:=by kernel_rfl
def uB (l:List (Int×Int)):List Value:=l.flatMap λx=>[.int .i64 x.1,.int .i64 x.2]
theorem xD9 (l):(uB l).length=l.length*2:=by
 induction l with
 |nil=>rfl
 |cons a l ih=>simp[uB]at ih⊢;omega
theorem j4 (a b):uB (a++b)=uB a++uB b:=by simp[uB]
theorem xBx:∀(l:List (Int×Int)) (k:Nat) (x),l[k]?=some x->(uB l)[k*2]?=some (.int .i64 x.1)/\(uB l)[k*2+1]?=some (.int .i64 x.2)
 |[],_,_,h=>by cases h
 |a :: l,0,x,h=>by simp at h;subst h;exact⟨rfl,rfl⟩
 |a :: l,k+1,x,h=>by
  have:=xBx l k x (by simpa using h);rw[show (k+1)*2=k*2+1+1 by omega];exact this
def zU (B:Nat)(w:World)(v:Value)(l:List (Int×Int)):Prop:=w.ownsRow B 268 2 v l.length (uB l)
structure Tbl where
 p:Nat
 M:Nat
 gs:List AG
 mc:Nat
def tOf (gs:List AG)(k:ByteArray):Option AG:=gs.find? λg=>decide (g.name=k)
abbrev TF:=ByteArray->Option AC
def Tbl.c (v:Tbl):TF:=λk=>(tOf v.gs k).map (·.c)
theorem xQ4 {gs k g}(h:tOf gs k=some g):g∈gs/\g.name=k:=⟨List.mem_of_find?_eq_some h,by have:=List.find?_some h;simpa using this⟩
structure yC (B:Nat)(w:World)(v:Tbl):Prop where
 blk:w.heap[v.p]?=some (.cells #[.map (some v.M)] 229 (0,0))
 map:xV ekS w v.M (v.gs.map AG.e) v.mc
 pB:B<=v.p
 MB:B<=v.M
 ivs:∀g∈v.gs,zU B w g.v g.c.ivs
 names:(v.gs.map (·.name)).Nodup
 apart:v.gs.Pairwise λg h=>∀k,g.v.ownBlock=some k->h.v.ownBlock≠some k
 young:∀g∈v.gs,g.born<v.mc
 births:(v.gs.map (·.born)).Nodup
def Tbl.foot (v:Tbl):List Nat:=v.p :: v.M :: v.gs.filterMap (·.v.ownBlock)
theorem Tbl.mem_foot {v:Tbl}{k}:k∈v.foot↔k=v.p\/k=v.M\/∃g∈v.gs,g.v.ownBlock=some k:=by simp[Tbl.foot]
theorem yC.lt {B w v}(h:yC B w v):v.p<w.heap.size/\v.M<w.heap.size:=⟨(i_ h.blk).1,h.map.lt⟩
theorem yC.foot_lt {B w v}(h:yC B w v):∀k∈v.foot,B<=k/\k<w.heap.size:=λk a=>by
 rcases Tbl.mem_foot.1 a with rfl|rfl|⟨g,b,c⟩
 ·exact⟨h.pB,h.lt.1⟩
 ·exact⟨h.MB,h.lt.2⟩
 ·exact s5 (h.ivs g b) k c
theorem yC.kept {B w w' v F}(h:yC B w v)(a:Kept F w w')(b:∀k∈v.foot,k∉F):yC B w' v:=
 ⟨(a.block _ h.lt.1 (b _ (by simp[Tbl.foot]))).trans h.blk,(a.block _ h.lt.2 (b _ (by simp[Tbl.foot]))).trans h.map,h.pB,h.MB,
  λg c=>yf (h.ivs g c) a λk d e=>b k (Tbl.mem_foot.2 (.inr (.inr ⟨g,c,e⟩))) d,h.names,h.apart,h.young,h.births⟩
theorem yC.below {B w w' v}(h:yC B w v)(a:Below w.heap.size w w'):yC B w' v:=h.kept (Kept.of_below (F:=[]) a) (λ_ _ h=>by cases h)
theorem yC.base {B B' w v}(h:yC B w v)(a:B'<=B):yC B' w v:=
 ⟨h.blk,h.map,R_ a h.pB,R_ a h.MB,λg b=>zi (h.ivs g b) a,h.names,h.apart,h.young,h.births⟩
theorem yC.ne {B w v}(h:yC B w v):v.p≠v.M:=λe=>by
 have h1:=h.blk;have h2:=h.map;grind [xV]
theorem yC.iv_ne {B w v}(h:yC B w v){C u l}(a:zU C w u l):u.ownBlock≠some v.p/\u.ownBlock≠some v.M:=
 ⟨vf a h.blk (λcs e=>by injection e with _ e2;revert e2;decide),vf a h.map (λcs e=>by cases e)⟩
def xKi (o:Option AG):Array Value:=(o.map AG.cells).getD uj
theorem xGl (k):∀(gs:List AG) (i:Nat),(yG k (gs.map AG.e) i).map (·.2)=(tOf gs k).map λg=>Value.agg g.cells
 |[],_=>rfl
 |g :: gs,i=>by
  unfold tOf;rw[t8];unfold yG;by_cases h:k=g.name
  ·simp[AG.e,h]
  ·have a:¬ g.name=k:=by grind
   have:=xGl k gs (i+1);simp[AG.e,h,a]at this⊢;exact this
theorem yFf (k)(gs:List AG):getK k (gs.map AG.e)=(tOf gs k).map λg=>Value.agg g.cells:=xGl k gs 0
theorem yC.look {B w v}(h:yC B w v)(k):∀W,W.heap[v.M]?=w.heap[v.M]?->(Instr.lookup 227 (.map (some v.M)) (.string k) true).run prog W=.ok (.tuple #[.agg (xKi (tOf v.gs k)),.bool (tOf v.gs k).isSome]) W:=λW a=>by
 have h1:=xDz keyS underlying227 (.agg uj) xSt W v.M (v.gs.map AG.e) v.mc (by have:=h.map;unfold xV at this⊢;exact a.trans this) k;have h2:=xGl k v.gs 0;have h3:(yG k (v.gs.map AG.e) 0).isSome=(tOf v.gs k).isSome:=by
  have:=congrArg Option.isSome h2;simpa using this
 rw[h2,h3]at h1;rw[h1];cases tOf v.gs k <;> rfl
theorem yC.get {B w v}(h:yC B w v)(k):∀W,W.heap[v.M]?=w.heap[v.M]?->(Instr.lookup 227 (.map (some v.M)) (.string k) false).run prog W=.ok (.agg (xKi (tOf v.gs k))) W:=λW a=>by
 have h1:=xGc keyS underlying227 (.agg uj) xSt W v.M (v.gs.map AG.e) v.mc (by have:=h.map;unfold xV at this⊢;exact a.trans this) k;rw[xGl k v.gs 0]at h1;rw[h1];cases tOf v.gs k <;> rfl
def updG (gs:List AG)(k:ByteArray)(c:AC)(u:Value):List AG:=gs.map λg=>if g.name=k then { g with c:=c,v:=u }else g
def putG (gs:List AG)(k:ByteArray)(c:AC)(u:Value)(mc:Nat):List AG:=if (tOf gs k).isSome then updG gs k c u else gs++[⟨k,c,u,mc⟩]
def putF (f:TF)(k:ByteArray)(c:AC):TF:=λt=>if t=k then some c else f t
theorem xCt {gs k}(h:tOf gs k=none):∀g∈gs,g.name≠k:=λg a e=>by
 have:=List.find?_eq_none.1 h g a;simp[e]at this
theorem xT0 {k c u}:∀{gs:List AG},(gs.map (·.name)).Nodup->updL k (.agg (xT c.high c.closed u)) (gs.map AG.e)=(updG gs k c u).map AG.e
 |[],_=>rfl
 |g :: gs,a=>by
  rw[t8,U0]at a;unfold updG;rw[t8,t8,t8];unfold updL;by_cases h:k=g.name
  ·have b:g.name=k:=h.symm;rw[if_pos (show k=g.e.k from h),if_pos b];have hs:(gs.map λg=>if g.name=k then { g with c:=c,v:=u }else g)=gs:=by
    have:∀x∈gs,(if x.name=k then { x with c:=c,v:=u }else x)=x:=λx hx=>if_neg λe=>a.1 (D4.2 ⟨x,hx,e.trans h⟩)
    exact(am_ this).trans (List.map_id gs)
   rw[hs];rfl
  ·have b:¬ g.name=k:=by grind
   rw[if_neg (show ¬ k=g.e.k from h),if_neg b,xT0 a.2];rfl
theorem yE5 {gs:List AG}(a:(gs.map (·.name)).Nodup)(k c u mc):putL k (.agg (xT c.high c.closed u)) mc (gs.map AG.e)=(putG gs k c u mc).map AG.e/\putC k mc (gs.map AG.e)=if (tOf gs k).isSome then mc else mc+1:=by
 have hs:(getK k (gs.map AG.e)).isSome=(tOf gs k).isSome:=by simp[yFf]
 unfold putL putC putG;grind [xT0,AG.e,AG.cells]
theorem yJe {gs:List AG}(k c u mc t):(tOf (putG gs k c u mc) t).map (·.c)=if t=k then some c else (tOf gs t).map (·.c):=by
 unfold putG;split
 ·rename_i hs;unfold updG tOf at *;induction gs with
  |nil=>simp at hs
  |cons g gs ih=>
   rw[t8];by_cases h:g.name=k
   ·rw[if_pos h];by_cases ht:t=k
    ·simp[ht,h]
    ·have b:¬ k=t:=by grind
     have a:¬ g.name=t:=by grind
     rw[if_neg ht,List.find?_cons_of_neg (by simpa using a),List.find?_cons_of_neg (by simpa using a)];clear hs ih;induction gs with
     |nil=>rfl
     |cons x xs ih2=>
      grind
   grind
 grind [tOf]
theorem xWo (gs k c u):(updG gs k c u).map (·.name)=gs.map (·.name):=by grind [updG,List.map_map,List.map_congr_left]
theorem yAj (gs k c u):(updG gs k c u).map (·.born)=gs.map (·.born):=by grind [updG,List.map_map,List.map_congr_left]
theorem xU0 {gs:List AG}{k c u mc g}(h:g∈putG gs k c u mc):(g.name=k/\g.c=c/\g.v=u)\/(g∈gs/\g.name≠k):=by
 unfold putG at h;split at h
 ·grind [updG,List.mem_map.1]
 ·rename_i hs;rcases m3.1 h with h|h
  ·exact .inr ⟨h,xCt (by simpa using hs) g h⟩
  grind
theorem yC.put {B w s v F}(h:yC B s v)(j:Kept F s w)(k)(n:∀b∈F,b≠v.p/\b≠v.M/\∀g∈v.gs,g.name≠k->g.v.ownBlock≠some b)(c:AC)(u)(x:zU B w u c.ivs)(ha:∀g∈v.gs,g.name≠k->∀b,g.v.ownBlock=some b->u.ownBlock≠some b):
  ∃v' W,(Instr.mapUpdate 227 (.map (some v.M)) (.string k) (.agg (xT c.high c.closed u))).run prog w=.ok () W/\Kept [v.M] w W/\W.heap.size=w.heap.size/\yC B W v'/\v'.p=v.p/\v'.M=v.M/\v'.c=putF v.c k c /\
   v'.gs=putG v.gs k c u v.mc:=by
 have D:=(j.block _ h.lt.1 (λl=>(n _ l).1 rfl)).trans h.blk;have o:xV ekS w v.M (v.gs.map AG.e) v.mc:=(j.block _ h.lt.2 (λl=>(n _ l).2.1 rfl)).trans h.map;have h1:=xBu keyS underlying227 w v.M (v.gs.map AG.e) v.mc o k (.agg (xT c.high c.closed u));obtain⟨C,r⟩:=yE5 h.names k c u v.mc;rw[C,r]at h1;have m:Kept [v.M] w (w.putObj v.M (.map (((putG v.gs k c u v.mc).map AG.e).map (enE ekS)).toArray (if (tOf v.gs k).isSome then v.mc else v.mc+1))):=by grind
 have G:u.ownBlock≠some v.M:=vf x o (λcs e=>by cases e);refine⟨⟨v.p,v.M,putG v.gs k c u v.mc,if (tOf v.gs k).isSome then v.mc else v.mc+1⟩,_,h1,m,by simp[World.putObj],⟨(x6 h.ne).trans D,o.put,h.pB,h.MB,λg d=>?_,?_,?_,?_,?_⟩,rfl,rfl,?_,rfl⟩
 ·rcases xU0 d with⟨_,r,A⟩|⟨d,z⟩
  ·rw[r,A];exact yf x m λb f e=>by grind
  ·exact yf (yf (h.ivs g d) j λb f e=>(n b f).2.2 g d z e) m λb f e=>by
    rw[S_]at f;subst f;exact(h.iv_ne (h.ivs g d)).2 e
 ·simp only;unfold putG;split
  ·rw[xWo];exact h.names
  ·rename_i hs;rw[L8,M6];refine⟨h.names,by simp,λa ha b f e=>?_⟩;obtain⟨g,d,rfl⟩:=D4.1 ha;simp at f;exact xCt (by simpa using hs) g d (e.trans f)
 ·simp only;unfold putG;split
  ·rename_i hs;have y:=h.names;have E:=h.apart;unfold updG;rw[cd_];rw[List.Nodup,cd_]at y;refine(E.and (List.Pairwise.and_mem.1 y)).imp ?_;grind
  ·rename_i hs;rw[aM_];refine⟨h.apart,List.pairwise_singleton _ _,λa i b f q hq e=>?_⟩;rw[S_]at f;subst f;exact ha a i (xCt (by simpa using hs) a i) q hq e
 ·intro g d;have hy:=h.young;simp only at d⊢;unfold putG at d;split at d
  ·grind [updG,List.mem_map.1]
  grind
 ·simp only;unfold putG;split
  ·rw[yAj];exact h.births
  ·rw[L8,M6];refine⟨h.births,by simp,λa ha b f e=>?_⟩;obtain⟨g,d,rfl⟩:=D4.1 ha;simp at f;have:=h.young g d;omega
 ·funext t;exact yJe k c u v.mc t
theorem xMs (w):Calls prog 71 #[] w λe w'=>Below w.heap.size w w'/\e=.returned (.pointer (some ⟨w.heap.size+1,0,none⟩))/\yC w.heap.size w' ⟨w.heap.size+1,w.heap.size,[],0⟩:=by
 have f:=@run_makeMap prog;have a:Below w.heap.size w ((w.alloc (.map #[] 0)).alloc (.cells #[.map (some w.heap.size)] 229)):=by grind
 have b:yC w.heap.size ((w.alloc (.map #[] 0)).alloc (.cells #[.map (some w.heap.size)] 229)) ⟨w.heap.size+1,w.heap.size,[],0⟩:=by
  refine⟨?_,?_,by simp,w_ _,λg h=>(by cases h),by simp,.nil,λg h=>(by cases h),by simp⟩
  ·grind
  grind [xV]
 have c:=h_ a;have d:=h_ b;clear a b;go_enter func71,ntmps71;go_wp2;go_ret;exact⟨c.out,rfl,d.out⟩
section
attribute [local go_sem ↓] xAe kj km xNw
attribute [local go_sem] xR6 xQa zr zx yA yz xh xg xe xd xx xy xk xj xq xB xw
theorem qt (h cl){v:Value}(hv:v.oneCell'=true):xt 3 (xT h cl v)=true:=by grind [xT,xt,Value.oneCell',hv]
theorem j3 {B w u l}(h:zU B w u l):∃a c,u=.slice a l.length c:=by
 rcases jt h with⟨rfl,e⟩|⟨g,cap,cur,rfl,_⟩
 ·exact⟨none,0,by rw[e]⟩
 ·exact⟨_,_,rfl⟩
theorem xHx (w:World)(g j:Nat)(v:Value):Kept [g] w (w.setCell ⟨g,j,none⟩ v):=by grind
def kC (l:List (Int×Int))(n:Int):List (Int×Int):=match l.getLast? with
 |some x=>if x.2=n-1 then l.dropLast++[(x.1,n)]else l++[(n,n)]
 |none=>[(n,n)]
def xMt (B:Nat)(u:Value)(l:List (Int×Int))(n:Int)(w:World)(e:Ending)(w':World):Prop:=
 ∃u',e=.returned u'/\Kept u.ownBlock.toList w w'/\zU B w' u' (kC l n)/\∀k,u'.ownBlock=some k->u.ownBlock=some k\/w.heap.size<=k
theorem yAh {l:List (Int×Int)}{n:Int}(h:∀x,l.getLast? = some x->x.2≠n-1):kC l n=l++[(n,n)]:=by grind [kC,List.getLast?_eq_none_iff.1]
theorem yD4 {l:List (Int×Int)}{a n:Int}:kC (l++[(a,n-1)]) n=l++[(a,n)]:=by simp[kC]
theorem yCk {B w u l}(h:zU B w u l)(n:Int)(hl:l.length<=1000000)(t:1<=n/\n<=2147483647)(hB:B<=w.heap.size):Calls prog 326 #[u,.int .i64 n] w (xMt B u l n w):=by
 obtain⟨T,I,M,O,N⟩:=info_parts Tryz.info_ivl;have V:=t.1;have NH:=t.2;obtain⟨f,Z⟩:∃f,f=w.alloc (.cells #[.int .i64 n,.int .i64 n] 268):=⟨_,rfl⟩;have s:Below w.heap.size w f:=by grind
 have P:f.heap[w.heap.size]?=some (.cells #[.int .i64 n,.int .i64 n] 268 (0,0)):=by grind
 have Q:∀j v,([.int .i64 n,.int .i64 n]:List Value)[j]?=some v->f.cell? ((⟨w.heap.size,0,none⟩:Addr).add j)=some v:=λj v hj=>by
  rw[l8,m0,cell_of_row _ w.heap.size j _ _ _ P,l7];exact hj
 have i:=h_ (And.intro I (And.intro M (And.intro O N)));have aq:=h_ s;have K:=h_ Q;have L:zU B f u l:=yf h (Kept.of_below (F:=[]) s) (λ_ h=>by cases h);have A:=h_ L;have HL:=h_ hl;have S:Hid (B<=f.heap.size):=h_ (R_ hB s.size)
 have R:Hid (kC l n=l++[(n,n)]->∀v' w',w'.ownsRow B 268 2 v' (l.length+1) (uB l++[.int .i64 n,.int .i64 n])->f.grownBy w' u.ownBlock->(v'.ownBlock=u.ownBlock\/v'.ownBlock=some f.heap.size)->xMt B u l n w (.returned v') w'):=h_ (λE v' w' ho d r=>by
  have p:Kept u.ownBlock.toList f w':=⟨d.os,d.tape,d.output,d.size,λq hq t=>d.block q hq (λe=>t (by rw[<-e];simp))⟩;refine⟨v',rfl,(Kept.of_below (F:=u.ownBlock.toList) s).trans p (λq hq=>.inl hq),?_,λk p=>?_⟩
  ·rw[E];unfold zU;rw[j4,b6];exact ho
  ·rcases r with e|e
   ·exact .inl (e▸p)
   ·rw[e]at p;cases p
    exact .inr s.size)
 obtain⟨a,c,o⟩:=j3 h;have Jg:(kC l n=l++[(n,n)]/\(l=[]\/∃l' x,l=l' ++ [x]/\x.2≠n-1))\/∃l' b,l=l' ++ [(b,n-1)]:=by
  rcases List.eq_nil_or_concat l with rfl|⟨l',x,hc⟩
  ·exact .inl ⟨rfl,.inl rfl⟩
  grind [yAh]
 rcases Jg with⟨E,X⟩|⟨l',b,rfl⟩
 ·have G:=h_ (R.out E);have ak:l=[]\/∃m g z,l.length=m+1/\a=some ⟨g,0,none⟩/\l.length<=c/\w.cell? ⟨g,m*2+1,none⟩=some (.int .i64 z)/\(z==n-1)=false:=by
   rcases X with h0|⟨l',x,rfl,hx⟩
   ·exact .inl h0
   ·rcases jt h with⟨_,e⟩|⟨g,cap,cur,hv,_,_,h2,_,_,_,J⟩
    ·simp at e
    ·have W:=(xBx (l' ++ [x]) l'.length x (by simp)).2;grind
  subst Z;clear R E X Q P s L h t I M O N;subst o;rcases ak with rfl|⟨m,g,z,y,rfl,RM,U,H⟩
  ·simp only[L1]at A G⊢;go_enter func326,ntmps326;go_upto_region 5 with fail
   go_wp2_with (at_builtin;refine wpList_append_own_at _ rfl (.tmp 27) (.tmp 31) 254 rfl B 268 T (.agg #[.int .i64 0,.int .i64 0]) 2 16 underlying254 i.1 i.2.1 i.2.2.1 i.2.2.2 rfl (by decide) _ 0 [] rfl A.out ⟨w.heap.size,0,none⟩ 1 1 [.int .i64 n,.int .i64 n] rfl rfl K.out (by intro v hv;simp at hv;subst hv;rfl) (by unfold maxLen;omega) (by omega) S.out ?_);intro v' w' ho d _ r;have C:=h_ (G.out v' w' ho d (by rw[U7];exact r));clear ho d r;go_wp2;go_ret;exact C.out
  ·have OR:m<=1000000:=by omega
   have n4:(m:Int)<=1000000:=by omega
   have Du:(m:Int)+1<=c:=by omega
   have nG:((m+1:Nat):Int)-1=(m:Int):=by omega
   unfold zU at A;rw[y]at A G⊢;go_enter func326,ntmps326;go_upto_region 5 with fail
   clear U H;go_wp2_with (at_builtin;refine wpList_append_own_at _ rfl (.tmp 27) (.tmp 31) 254 rfl B 268 T (.agg #[.int .i64 0,.int .i64 0]) 2 16 underlying254 i.1 i.2.1 i.2.2.1 i.2.2.2 rfl (by decide) _ (m+1) _ rfl A.out ⟨w.heap.size,0,none⟩ 1 1 [.int .i64 n,.int .i64 n] rfl rfl K.out (by intro v hv;simp at hv;subst hv;rfl) (by unfold maxLen;omega) (by omega) S.out ?_);intro v' w' ho d _ r;have C:=h_ (G.out v' w' ho d (by rw[U7];exact r));clear ho d r;go_wp2;go_ret;exact C.out
 ·rcases jt h with⟨_,e⟩|⟨g,cap,cur,hv,_,d,h2,_,Y,_,J⟩
  ·simp at e
  rw[o]at hv;cases hv;obtain⟨m,y⟩:∃m,m=l'.length:=⟨_,rfl⟩;have FL:(l' ++ [(b,n-1)]).length=m+1:=by simp[y]
  have U:=J _ _ (xBx (l' ++ [(b,n-1)]) m (b,n-1) (by simp[y])).2;have fo:w.frozen? ⟨g,m*2+1,none⟩=false:=frozen_of_row w g _ _ _ Y;have D:=World.ownsRow.stored (u:=.int .i64 n) (show w.ownsRow B 268 2 (.slice (some ⟨g,0,none⟩) (l' ++ [(b,n-1)]).length c) (l' ++ [(b,n-1)]).length (uB (l' ++ [(b,n-1)])) by rw[<-o];exact h) (m*2+1)
  have C:Hid (xMt B u (l' ++ [(b,n-1)]) n w (.returned u) (w.setCell ⟨g,m*2+1,none⟩ (.int .i64 n))):=h_ (by
   refine⟨u,rfl,?_,?_,λk p=>.inl p⟩
   ·rw[o];exact xHx w g _ _
   ·rw[yD4,o];have e1:(l' ++ [(b,n)]).length=(l' ++ [(b,n-1)]).length:=by simp
    have W:uB (l' ++ [(b,n)])=(uB (l' ++ [(b,n-1)])).set (m*2+1) (.int .i64 n):=by
     have e3:(uB l').length=m*2:=by rw[xD9,y]
     rw[j4,j4,V7 _ _ (by omega),e3,show m*2+1-m*2=1 by omega];rfl
    unfold zU;rw[e1,W];exact D.1)
  rw[FL]at o h2 hl;have n4:(m:Int)<=1000000:=by omega
  have Du:(m:Int)+1<=c:=by omega
  have nG:((m+1:Nat):Int)-1=(m:Int):=by omega
  clear R A K aq i S Z Q P s L h t I M O N D y FL Y J h2 d;rw[o]at C⊢;clear o;go_enter func326,ntmps326;go_wp2;go_ret;exact C.out
theorem yC.cells {B w v}(h:yC B w v)(k):∃(f:Nat) (cl:Bool) (u:Value) (l:List (Int×Int)),xKi (tOf v.gs k)=xT f cl u/\u.oneCell'=true/\zU B w u l/\(v.c k).getD ⟨0,false,[]⟩=⟨f,cl,l⟩/\(∀b,u.ownBlock=some b->∃g∈v.gs,g.name=k/\g.v.ownBlock=some b):=by
 unfold Tbl.c;cases ho:tOf v.gs k with
 |none=>exact⟨0,false,.slice none 0 0,[],rfl,rfl,D1 _ _ _ _,rfl,λb e=>by cases e⟩
 |some g=>
  have d:=xQ4 ho;obtain⟨a,c,e⟩:=j3 (h.ivs g d.1);exact⟨g.c.high,g.c.closed,g.v,g.c.ivs,rfl,by rw[e];rfl,h.ivs g d.1,rfl,λb i=>⟨g,d.1,d.2,i⟩⟩
theorem yC.other {B w v}(h:yC B w v){k}{u:Value}(a:∀b,u.ownBlock=some b->(∃g∈v.gs,g.name=k/\g.v.ownBlock=some b)\/w.heap.size<=b):∀g∈v.gs,g.name≠k->∀b,g.v.ownBlock=some b->u.ownBlock≠some b:=λg f m b i e=>by
 rcases a b e with⟨g',j,o,n⟩|d
 ·have c:g≠g':=by grind
  have:=h.apart;rcases bn_.1 this with l
  grind [List.getElem_of_mem,Nat.lt_trichotomy]
 ·have:=(s5 (h.ivs g f) b i).2;omega
theorem xPm {B w v}(h:yC B w v)(k):
  Calls prog 335 #[.pointer (some ⟨v.p,0,none⟩),.string k] w λe w'=>Below w.heap.size w w'/\e=.returned (.tuple #[.agg (xKi (tOf v.gs k)),.int .i64 (if (v.c k).isSome then 0 else 8)]):=by
 obtain⟨d,cl,u,l,o,F,_,_,_⟩:=h.cells k;have i:(v.c k).isSome=(tOf v.gs k).isSome:=by simp[Tbl.c]
 rw[i];obtain⟨ok,j⟩:∃ok,ok=(tOf v.gs k).isSome:=⟨_,rfl⟩;obtain⟨a,A⟩:∃a,a=w.alloc (.cells uj 256):=⟨_,rfl⟩;have m:Below w.heap.size w a:=by grind
 have s:a.heap[w.heap.size]?=some (.cells uj 256 (0,0)):=by grind
 have q:=h.below m;have c0:=cell_of_row a v.p 0 _ _ _ q.blk;simp only[v_]at c0;have g:=q.look k a rfl;have x:ok=false->xKi (tOf v.gs k)=uj:=λe=>by
  rw[j]at e;have:tOf v.gs k=none:=by simpa using e
  rw[this];rfl
 rw[o,<-j]at g;rw[<-j];rw[o]at x⊢;obtain⟨b,C⟩:∃b,b=a.alloc (.cells (xT d cl u) 256):=⟨_,rfl⟩;have r:Below a.heap.size a b:=by grind
 have D:b.heap[a.heap.size]?=some (.cells (xT d cl u) 256 (0,0)):=by grind
 have t:=(r.block _ (i_ s).1).trans s;have I:=qt d cl F;have L:(uj.size==3)=true:=rfl;obtain⟨o2,H⟩:=xF (n:=3) D rfl;have K:xN b w.heap.size 3=true:=za t rfl;have z:=setRow_heap b w.heap.size _ (xT d cl u) _ _ t;obtain⟨o3,y⟩:=xF (n:=3) z rfl;have f:=h_ (And.intro (xH (m.trans (r.mono m.size)) (w_ _) (xT d cl u)) (And.intro o3 y));have G:=h_ x;have J:xt 3 uj=true:=qt 0 false rfl;clear h m s q r D t z o3 y x o i j;generalize xT d cl u=cs at *;go_enter func335,ntmps335;go_upto_region 1 with fail
 refine xm A ?_;clear A;go_upto_region 4 with fail
 refine xm C ?_;clear C g;cases ok with
 |true=>
  go_wp2;exact bodyPost_ret (v:=.tuple #[.agg cs,.int .i64 0]) (uR rfl isAgg256 sizeOf256 _ _ ⟨w.heap.size,0,none⟩ _ _ rfl rfl f.2.1 f.2.2) rfl ⟨f.1,rfl⟩
 |false=>
  have E:=G.out rfl;subst E;go_wp2;exact bodyPost_ret (v:=.tuple #[.agg uj,.int .i64 8]) (uR rfl isAgg256 sizeOf256 _ _ ⟨w.heap.size,0,none⟩ _ _ rfl rfl f.2.1 f.2.2) rfl ⟨f.1,rfl⟩
def xCf (B:Nat)(v:Tbl)(err:Int)(f:TF)(n:Nat)(w:World)(e:Ending)(w':World):Prop:=
 e=.returned (.int .i64 err)/\(err≠0->Below w.heap.size w w')/\(err=0->Kept v.foot w w'/\∃v',yC B w' v'/\v'.p=v.p/\v'.M=v.M/\v'.c=f/\v'.gs.length=n/\∀k∈v'.foot,k∈v.foot\/w.heap.size<=k)
def xIy (f:TF)(n:Nat)(k:ByteArray):Int:=if zB k≠0 then zB k else match f k with
 |some c=>if c.closed then 0 else 7
 |none=>if 4096<=n then 9 else 0
def xEp (f:TF)(k:ByteArray):TF:=putF f k { (f k).getD ⟨0,false,[]⟩with closed:=false }
def xI6 (f:TF)(k:ByteArray):Int:=match f k with
 |some c=>if c.closed then 10 else 0
 |none=>8
def xDn (f:TF)(k:ByteArray):TF:=putF f k { (f k).getD ⟨0,false,[]⟩with closed:=true }
def newN (f:TF)(n:Nat)(k:ByteArray):Nat:=if (f k).isSome then n else n+1
theorem xU1 (v:Tbl)(k c u mc):(putG v.gs k c u mc).length=newN v.c v.gs.length k:=by grind [tOf,Tbl.c,putG,updG,newN]
theorem yB7 {v v':Tbl}{k c u}(d:v'.p=v.p)(l:v'.M=v.M)(f:v'.gs=putG v.gs k c u v.mc):∀b∈v'.foot,b∈v.foot\/u.ownBlock=some b:=λb j=>by
 rcases Tbl.mem_foot.1 j with h|h|⟨g,a,i⟩
 ·exact .inl (Tbl.mem_foot.2 (.inl (h.trans d)))
 ·exact .inl (Tbl.mem_foot.2 (.inr (.inl (h.trans l))))
 ·rw[f]at a;rcases xU0 a with⟨_,_,e⟩|⟨a,_⟩
  ·grind
  ·exact .inl (Tbl.mem_foot.2 (.inr (.inr ⟨g,a,i⟩)))
theorem yC.finish {B w W v F}(h:yC B w v)(o:Kept F w W)(k)(m:∀b∈F,w.heap.size<=b\/∃g∈v.gs,g.name=k/\g.v.ownBlock=some b)(c:AC)(u)(s:zU B W u c.ivs)(ha:∀b,u.ownBlock=some b->(∃g∈v.gs,g.name=k/\g.v.ownBlock=some b)\/w.heap.size<=b):
  ∃W',(Instr.mapUpdate 227 (.map (some v.M)) (.string k) (.agg (xT c.high c.closed u))).run prog W.drew=.ok () W'/\Kept [v.M] W W'/\W'.heap.size=W.heap.size/\Kept v.foot w W'/\∃v',yC B W' v'/\v'.p=v.p/\v'.M=v.M/\v'.c=putF v.c k c/\v'.gs.length=newN v.c v.gs.length k/\∀b∈v'.foot,b∈v.foot\/w.heap.size<=b:=by
 have l:Kept F w W.drew:=by grind
 obtain⟨v',W',t,D,hs,C,i,d,A,n⟩:=h.put l k (λb z=>by
  rcases m b z with h1|⟨g,a,i,d⟩
  ·exact⟨by have:=h.lt.1;omega,by have:=h.lt.2;omega,λg a _ e=>by have:=(s5 (h.ivs g a) b e).2;omega⟩
  ·refine⟨λe=>(h.iv_ne (h.ivs g a)).1 (e▸d),λe=>(h.iv_ne (h.ivs g a)).2 (e▸d),λg' r x e=>?_⟩;exact h.other (k:=k) (u:=g.v) (λb' j=>.inl ⟨g,a,i,j⟩) g' r x b e d) c u s (h.other (k:=k) ha)
 have f:Kept [v.M] W W':=by grind
 refine⟨W',t,f,hs,?_,v',C,i,d,A,by rw[n];exact xU1 _ _ _ _ _,λb j=>?_⟩
 ·refine(o.mono (F':=v.foot) λq hq y=>?_).trans f (λq hq=>.inl (by rw[S_]at hq;exact Tbl.mem_foot.2 (.inr (.inl hq))));rcases m q hq with h1|⟨g,a,_,e⟩
  ·omega
  ·exact Tbl.mem_foot.2 (.inr (.inr ⟨g,a,e⟩))
 ·rcases yB7 i d n b j with h3|h3
  ·exact .inl h3
  ·rcases ha b h3 with⟨g,a,_,e⟩|h4
   ·exact .inl (Tbl.mem_foot.2 (.inr (.inr ⟨g,a,e⟩)))
   ·exact .inr h4
theorem yCp {B w v}(h:yC B w v)(C:v.gs.length<=1000000)(k)(N:Gl w)(K:k.size<=maxLen):
  Calls prog 345 #[.pointer (some ⟨v.p,0,none⟩),.string k] w (xCf B v (xIy v.c v.gs.length k) (xEp v.c k) (newN v.c v.gs.length k) w):=by
 have x:=h_ (xEr k w N K);have H:=h_ h;have HN:=h_ C;obtain⟨i,cl,u,l,I,J,Q,m,T⟩:=h.cells k;have ir:=qt i cl J;have BH:=qt i false J;have X:=h_ (And.intro Q (And.intro m T));have HE:=h_ (rfl:xIy v.c v.gs.length k=xIy v.c v.gs.length k);obtain⟨err,a⟩:∃err,err=xIy v.c v.gs.length k:=⟨_,rfl⟩;have Jh:=h_ a;rw[<-a];unfold xIy at a;by_cases hne:zB k=0
 case neg=>
  rw[if_pos hne]at a;subst a;have hz:(zB k==0)=false:=by grind
  have be:zB k≠0:=hne;generalize zB k=ne at *;clear h N K C I J Q m T HE;go_enter func345,ntmps345;go_wp2_with fail;refine x.mono ?_;rintro e d ⟨rfl,o⟩;have HB:=h_ o;clear x o;go_wp2;go_ret;exact⟨rfl,λ_=>HB.out,λe=>absurd e be⟩
 rw[if_neg (by simpa using hne)]at a;rw[hne]at x;obtain⟨ok,ay⟩:∃ok,ok=(tOf v.gs k).isSome:=⟨_,rfl⟩;obtain⟨n,A⟩:∃n,n=v.gs.length:=⟨_,rfl⟩
 have eO:Hid ((ok=true->err=if cl then 0 else 7)/\(ok=false->err=if 4096<=n then 9 else 0)):=h_ (by
  have hs:(v.c k).isSome=ok:=by grind [Tbl.c]
  cases hc:v.c k with
  |none=>rw[hc]at hs a;subst hs;rw[A];exact⟨λe=>(by cases e),λ_=>a⟩
  |some c=>
   rw[hc]at hs a m;simp only[aw_]at m;subst hs;refine⟨λ_=>?_,λe=>(by cases e)⟩;rw[a,m])
 have O3:Hid (putF v.c k ⟨i,false,l⟩=xEp v.c k):=h_ (by unfold xEp;rw[m]);obtain⟨d,aj⟩:∃d:World,Below w.heap.size w d:=⟨w,z_ _ _⟩;rw[<-A]at C;have dw:=h_ A;have nZ:(n:Int)<=1000000:=by omega
 clear h N K C Q m T HE a hne A aj d;have Lo:=h_ I;have W:=h_ ay;clear I ay;go_enter func345,ntmps345;go_wp2_with fail;refine x.mono ?_;rintro e d ⟨rfl,o⟩;clear x;have R:=H.below o;have c0:=cell_of_row d v.p 0 _ _ _ R.blk;simp only[v_]at c0;have j:=R.look k d rfl;rw[Lo.out,<-W.out]at j;obtain⟨g,V⟩:∃g,g=d.alloc (.cells (xT i cl u) 256):=⟨_,rfl⟩;have t:g.heap[d.heap.size]?=some (.cells (xT i cl u) 256 (0,0)):=by grind
 have U:Below w.heap.size w g:=by grind
 have S:=H.below U;have ax:=h_ U;have HN2':=h_ t;have aq:=h_ o;have Gk:(uj.size==3)=true:=rfl;have fo:xt 3 uj=true:=qt 0 false rfl;have c2:=cell_of_row g v.p 0 _ _ _ S.blk;have Z:=cell_of_row g d.heap.size 1 _ _ _ t;have D:=frozen_of_row g d.heap.size 1 _ _ t;simp only[xT,v_]at c2 Z;have di:=xK9 underlying227 S.map 3;rw[M5,<-dw.out]at di;have hq:∀w,Sem.run prog (binOp .eql 227 (.map (some v.M)) (.map none)) w=.ok (.bool false) w:=λw=>run_eql_map_nil w 227 _ _ (some v.M) underlying227
 obtain⟨f,s⟩:∃f,f=g.setCell ⟨d.heap.size,1,none⟩ (.bool false):=⟨_,rfl⟩;have E:Below w.heap.size w f:=by grind
 have bI:f.heap[d.heap.size]?=some (.cells (xT i false u) 256 (0,0)):=by rw[s,heap_setCell_same g d.heap.size 1 _ _ _ t];rfl
 obtain⟨W',r,_,_,Y,v',D,f2,f3,P,f5,f7⟩:=H.finish (Kept.of_below (F:=[]) E) k (λb L=>by cases L) ⟨i,false,l⟩ u (yf X.1 (Kept.of_below (F:=[]) E) (λ_ h=>by cases h)) (λb L=>.inl (X.2.2 b L));rw[O3.out]at P;have aC:Hid (xCf B v 0 (xEp v.c k) (newN v.c v.gs.length k) w (.returned (.int .i64 0)) W'):=h_ ⟨rfl,λe=>absurd rfl e,λ_=>⟨Y,v',D,f2,f3,P,f5,f7⟩⟩;have eH:=H.below E;have c3:=cell_of_row f v.p 0 _ _ _ eH.blk;simp only[v_]at c3;have z0:∀z:xf f,z.1.cell? ⟨v.p,0,none⟩=some (.map (some v.M)):=by grind
 have rr:=xF (n:=3) bI rfl;have G:∀z:xf f,xp z.1 ⟨d.heap.size,0,none⟩ 3=true:=by grind [xf.ok]
 have y:∀z:xf f,xo z.1 ⟨d.heap.size,0,none⟩ 3=xT i false u:=by grind [xf.rd]
 simp only at r;clear o R t U S E bI Y D f2 f3 P f5 f7 eH c3 rr;unfold xT at j V ir BH y r;go_upto_region 7 with fail
 refine xm V ?_;clear V j c0;by_cases hA:ok=true/\cl=false
 ·obtain⟨rfl,rfl⟩:=hA;have a:=eO.1 rfl;simp only[av_,if_false]at a;subst a;clear z0 G y r s;go_wp2;go_ret;exact⟨rfl,λ_=>ax.out,λe=>by cases e⟩
 by_cases hB:ok=false/\4096<=n
 ·obtain⟨rfl,q⟩:=hB;have a:=eO.2 rfl;rw[if_pos q]at a;subst a;have bt:(4096:Int)<=(n:Int):=by omega
  clear z0 G y r s;go_wp2;go_ret;exact⟨rfl,λ_=>ax.out,λe=>by cases e⟩
 have O:err=0/\((ok=true/\cl=true)\/(ok=false/\¬ (4096:Int)<=(n:Int))):=by
  cases ok with
  |true=>
   grind
  |false=>
   grind
 obtain⟨rfl,O⟩:=O;clear hA hB;rcases O with⟨rfl,rfl⟩|⟨rfl,bt⟩
 all_goals
  go_upto_region 11 with fail
  clear di;go_upto_region 14 with fail
  refine xm s ?_;clear s c2 Z D hq;refine xz [0,1,2,3,4,5] [6] (λw'=>∃z:xf f,w'=z.1) ⟨⟨f.drew,(z_ _ _).drew⟩,rfl⟩ ?_;simp only[o_]
  repeat (go_big_quiet_step (fail))
  refine wpQuiet_nil ?_;clear z0 G y;refine yE ?_;simp only[o_];go_wp2;refine T_ ?_;clear r;go_wp2;go_ret;exact aC.out
theorem xYu {B w v}(h:yC B w v)(k):
  Calls prog 348 #[.pointer (some ⟨v.p,0,none⟩),.string k] w (xCf B v (xI6 v.c k) (xDn v.c k) (newN v.c v.gs.length k) w):=by
 have I:=h_ (xPm h k);have H:=h_ h;obtain⟨i,cl,u,l,N,A,T,j,V⟩:=h.cells k;have Y:=qt i cl A;have BH:=qt i true A;have J:=h_ (And.intro T (And.intro j V));obtain⟨err,a⟩:∃err,err=xI6 v.c k:=⟨_,rfl⟩;rw[<-a];have O3:Hid (putF v.c k ⟨i,true,l⟩=xDn v.c k):=h_ (by unfold xDn;rw[j]);obtain⟨ok,m⟩:∃ok,ok=(v.c k).isSome:=⟨_,rfl⟩
 have E:Hid ((ok=true->err=if cl then 10 else 0)/\(ok=false->err=8)):=h_ (by
  unfold xI6 at a;cases O:v.c k with
  |none=>rw[O]at m a;subst m;exact⟨λe=>(by cases e),λ_=>a⟩
  |some c=>
   rw[O]at m a j;simp only[aw_]at j;subst m;refine⟨λ_=>?_,λe=>(by cases e)⟩;rw[a,j])
 rw[N,<-m]at I;have Gk:(uj.size==3)=true:=rfl;have fo:xt 3 uj=true:=qt 0 false rfl;clear h N A T j V a m;go_enter func348,ntmps348;go_wp2_with fail;refine I.mono ?_;rintro e f ⟨aa,rfl⟩;clear I;obtain⟨g,G⟩:∃g,g=f.alloc (.cells (xT i cl u) 256):=⟨_,rfl⟩;have x:g.heap[f.heap.size]?=some (.cells (xT i cl u) 256 (0,0)):=by grind
 have X:Below w.heap.size w g:=by grind
 have W:=h_ X;have L:=cell_of_row g f.heap.size 1 _ _ _ x;have Z:=frozen_of_row g f.heap.size 1 _ _ x;simp only[xT,v_]at L;obtain⟨d,r⟩:∃d,d=g.setCell ⟨f.heap.size,1,none⟩ (.bool true):=⟨_,rfl⟩;have t:Below w.heap.size w d:=by grind
 have U:d.heap[f.heap.size]?=some (.cells (xT i true u) 256 (0,0)):=by rw[r,heap_setCell_same g f.heap.size 1 _ _ _ x];rfl
 obtain⟨W',q,_,_,K,v',o,R,Q,D,P,f7⟩:=H.finish (Kept.of_below (F:=[]) t) k (λb C=>by cases C) ⟨i,true,l⟩ u (yf J.1 (Kept.of_below (F:=[]) t) (λ_ h=>by cases h)) (λb C=>.inl (J.2.2 b C));rw[O3.out]at D;have aC:Hid (xCf B v 0 (xDn v.c k) (newN v.c v.gs.length k) w (.returned (.int .i64 0)) W'):=h_ ⟨rfl,λe=>absurd rfl e,λ_=>⟨K,v',o,R,Q,D,P,f7⟩⟩;have S:=H.below t;have c3:=cell_of_row d v.p 0 _ _ _ S.blk;simp only[v_]at c3;have z0:∀z:xf d,z.1.cell? ⟨v.p,0,none⟩=some (.map (some v.M)):=by grind
 have rr:=xF (n:=3) U rfl;have y:∀z:xf d,xp z.1 ⟨f.heap.size,0,none⟩ 3=true:=by grind [xf.ok]
 have s:∀z:xf d,xo z.1 ⟨f.heap.size,0,none⟩ 3=xT i true u:=by grind [xf.rd]
 simp only at q;clear aa x X t U K o R Q D P f7 S c3 rr;unfold xT at G Y BH s q;unfold xT;go_upto_region 2 with fail
 refine xm G ?_;clear G;cases ok with
 |false=>
  have a:=E.2 rfl;subst a;clear z0 y s q r;go_wp2;go_ret;exact⟨rfl,λ_=>W.out,λe=>by cases e⟩
 |true=>
 cases cl with
 |true=>
  have a:=E.1 rfl;subst a;clear z0 y s q r;go_wp2;go_ret;exact⟨rfl,λ_=>W.out,λe=>by cases e⟩
 |false=>
  have a:err=0:=E.1 rfl;subst a;go_upto_region 7 with fail
  refine xm r ?_;clear r L Z;refine xz [0,1,2,3,4,5] [6] (λw'=>∃z:xf d,w'=z.1) ⟨⟨d.drew,(z_ _ _).drew⟩,rfl⟩ ?_;simp only[o_]
  repeat (go_big_quiet_step (fail))
  refine wpQuiet_nil ?_;clear z0 y s;refine yE ?_;simp only[o_];go_wp2;refine T_ ?_;clear q;go_wp2;go_ret;exact aC.out
end
theorem yFz (s x:ByteArray):(s.toList==x.toList)=decide (s=x):=by
 rw[bp_,bp_];by_cases h:s=x
 ·subst h;simp
 ·have:s.data.toList≠x.data.toList:=λe=>h (by cases s;cases x;grind [Array.toList_inj])
  grind
def memB (s:ByteArray)(l:List ByteArray):Bool:=l.any λx=>decide (x=s)
theorem yEj {s l}(h:s∈l):memB s l=true:=List.any_eq_true.2 ⟨s,h,by simp⟩
theorem yEk {s l}(h:s∉l):memB s l=false:=ce_.2 λx hx e=>h (by have:=of_decide_eq_true e;exact this▸hx)
theorem xX3 (xs b c n s w)(h:uk w b 0 xs)(hl:xs.length<=1000000)(q:n<=xs.length):
  Calls prog 228 #[.slice (some ⟨b,0,none⟩) n c,.string s] w λe w'=>w=w'/\∃i:Int,e=.returned (.int .i64 i)/\(decide (0<=i))=memB s (xs.take n):=by
 have m:=h_ h;have u:=h_ hl;clear h hl;have p:(n:Int)<=1000000:=by grind
 go_enter func228,ntmps228;go_wp2;go_loop [8] (λi=>∃k:Nat,k<=n/\i=.int .i64 k/\Hid (s∉xs.take k)) (λi=>n-(intOf i).toNat)
 case atStart=>exact⟨0,n3 _,rfl,h_ (by simp)⟩
 case round=>
  obtain⟨k,r,rfl,a⟩:=hrel;by_cases hlt:k<n
  ·have t:(k:Int)<(n:Int):=by omega
   have l:k<xs.length:=by omega
   have j:=m.out k _ (U_ l);rw[m0]at j;have d:=h_ (d0 l);obtain⟨x,hx⟩:∃x,x=xs[k]:=⟨_,rfl⟩;rw[<-hx]at j d;by_cases he:s=x
   ·have f:(s.toList==x.toList)=true:=by grind
    have g:Hid (decide ((0:Int)<=(k:Int))=memB s (xs.take n)):=h_ (by
     have h1:s∈xs.take n:=by
      have:(xs.take n)[k]?=some s:=by grind
      exact ab_ this
     rw[yEj h1];simp)
    clear hx he a d;go_wp2;go_ret;exact⟨rfl,k,rfl,g.out⟩
   ·have f:(s.toList==x.toList)=false:=by grind [yFz]
    have o:Hid (s∉xs.take (k+1)):=h_ (by rw[d.out];simp[he];exact a.out);clear hx he a d;go_wp2;go_round
    case rel=>exact⟨k+1,hlt,by go_num,o⟩
    case measure=>simp[intOf];omega
  ·obtain rfl:k=n:=by omega
   have g:Hid (decide ((0:Int)<=(-1:Int))=memB s (xs.take k)):=h_ (by
    rw[yEk a.out];rfl)
   clear a;go_wp2;go_ret;exact⟨rfl,-1,rfl,g.out⟩
theorem xNa (xs b c n s w)(a:uk w b 0 xs)(hl:xs.length<=1000000)(d:n<=xs.length):
  Calls prog 203 #[.slice (some ⟨b,0,none⟩) n c,.string s] w λe w'=>w=w'/\e=.returned (.bool (memB s (xs.take n))):=by
 have g:=h_ (xX3 xs b c n s w a hl d);clear a hl d;go_enter func203,ntmps203;go_wp2_with fail;refine g.mono ?_;rintro e w' ⟨rfl,i,rfl,f⟩;have h:=h_ f;clear f;go_wp2;go_ret;exact⟨rfl,by rw[<-h.out];rfl⟩
def qE (f:TF):List ByteArray->Int
 |[]=>0
 |k :: l=>match f k with
  |none=>8
  |some c=>if c.closed then 10 else if 2147483646<=c.high then 9 else qE f l
def uL (f:TF)(l:List ByteArray):Int:=if l=[]then 1 else if l.Nodup then qE f l else 7
def addF (f:TF)(k:ByteArray):TF:=match f k with
 |some c=>putF f k ⟨c.high+1,c.closed,kC c.ivs ((c.high+1:Nat):Int)⟩
 |none=>f
def uK (f:TF)(l:List ByteArray):TF:=l.foldl addF f
def numF (f:TF)(k:ByteArray):Nat:=((f k).map (·.high)).getD 0+1
theorem xJb {f:TF}:∀{l:List ByteArray} {k:Nat} (d:k<l.length),qE f (l.take k)=0->qE f (l.take (k+1))=(match f l[k] with
  |none=>8
  |some c=>if c.closed then 10 else if 2147483646<=c.high then 9 else 0)/\((match f l[k] with
  |none=>(8:Int)
  |some c=>if c.closed then 10 else if 2147483646<=c.high then 9 else 0)≠0->qE f l=(match f l[k] with
  |none=>8
  |some c=>if c.closed then 10 else if 2147483646<=c.high then 9 else 0))
 |a :: l,0,d,_=>by
  simp only[aH_,bg_,qE,bx_];cases f a with
  |none=>exact⟨trivial,λ_=>rfl⟩
  |some c=>
   grind
 |a :: l,k+1,d,b=>by
  simp only[aH_,qE,List.getElem_cons_succ]at b⊢;cases hf:f a with
  |none=>rw[hf]at b;simp at b
  |some c=>
   rw[hf]at b;simp only at b⊢;split at b
   ·simp at b
   ·split at b
    ·simp at b
    ·rename_i h1 h2;simp only[h1,h2,if_false,av_];exact xJb (by simpa using d) b
theorem xAc {f:TF}:∀{l:List ByteArray},qE f l=0->∀k∈l,∃c,f k=some c/\c.closed=false/\c.high<2147483646
 |[],_,_,h=>by cases h
 |a :: l,b,k,d=>by
  unfold qE at b;cases hf:f a with
  |none=>rw[hf]at b;simp at b
  |some c=>
   rw[hf]at b;simp only at b;split at b
   ·simp at b
   ·split at b
    ·simp at b
    ·rename_i h1 h2;rcases g8.1 d with rfl|d
     ·grind
     ·exact xAc b k d
theorem xFp {f:TF}{k t}(h:t≠k):addF f k t=f t:=by
 unfold addF;cases f k with
 |none=>rfl
 |some c=>exact if_neg h
theorem vu:∀{l:List ByteArray} {f:TF} {t},t∉l->uK f l t=f t
 |[],_,_,_=>rfl
 |a :: l,f,t,h=>by
  simp only[g8,not_or]at h;show uK (addF f a) l t=f t
  rw[vu h.2,xFp h.1]
theorem xSf (f:TF)(l k):uK f (l++[k])=addF (uK f l) k:=by simp[uK]
section
attribute [local go_sem ↓] xAe kj km
attribute [local go_sem] xR6 xQa zr zx yA yz xh xg xe xd xx xy xk xj xq xB xw
theorem yC5:prog.elem 43=9:=by kernel_rfl
theorem yGy (b)(len cap k:Nat)(a:k<=cap)(w):Sem.run prog (Instr.sliceAt 43 (.slice (some ⟨b,0,none⟩) len cap) none (some (.int .i64 k)) none) w=.ok (.slice (some ⟨b,0,none⟩) k cap) w:=by
 rw[run_sliceAt_slice w 43 _ _ _ _ (by kernel_rfl),run_slice_h w 43 (some ⟨b,0,none⟩) len cap (by kernel_rfl) .i64 k (by omega) (by omega),yC5,sizeOf9];simp only[t2,sliced,aa_,cm_,az_,U6];split <;> rfl
def vy (l:List (ByteArray×Nat)):List Value:=l.flatMap λx=>[.string x.1,.int .i64 x.2]
theorem xQp (l x):vy (l++[x])=vy l++[.string x.1,.int .i64 x.2]:=by simp[vy]
def plOf (f:TF)(gs:List ByteArray):List (ByteArray×Nat):=gs.map λt=>(t,numF f t)
theorem yC.not_pl {B w v}(h:yC B w v){C k pv xs}(c:w.ownsRow C 72 2 pv k xs){b}(j:pv.ownBlock=some b):b∉v.foot:=λd=>by
 obtain⟨cur,i⟩:=xS c j;rcases Tbl.mem_foot.1 d with rfl|rfl|⟨g,f,e⟩
 ·have:=i.symm.trans h.blk;simp at this
 ·have:=h.map;grind [xV]
 ·obtain⟨a,l⟩:=xS (h.ivs g f) e;grind
structure AsSt (B:Nat)(w:World)(v:Tbl)(gs:List ByteArray)(k:Nat)(pv:Value)(W:World):Prop where
 kept:Kept v.foot w W
 tab:∃v',yC B W v'/\v'.p=v.p/\v'.M=v.M/\v'.c=uK v.c (gs.take k)/\v'.gs.length=v.gs.length/\∀b∈v'.foot,b∈v.foot\/w.heap.size<=b
 pl:W.ownsRow w.heap.size 72 2 pv k (vy (plOf v.c (gs.take k)))
def xSq (B:Nat)(v:Tbl)(gs:List ByteArray)(w:World)(e:Ending)(w':World):Prop:=
 ∃pv,e=.returned (.tuple #[pv,.int .i64 (uL v.c gs)])/\(uL v.c gs≠0->pv=.slice none 0 0/\Below w.heap.size w w')/\(uL v.c gs=0->AsSt B w v gs gs.length pv w')
theorem xW8 {B w v}(h:yC B w v)(gs:List ByteArray)(gb gc)(hS:uk w gb 0 gs)(dI:gb<w.heap.size)(KZ:gb∉v.foot)(CZ:gs.length<=gc)(hne:gs≠[])(hl:gs.length<=1000)(dT:∀k c,v.c k=some c->c.ivs.length<=1000000):
  Calls prog 324 #[.pointer (some ⟨v.p,0,none⟩),.slice (some ⟨gb,0,none⟩) gs.length gc] w (xSq B v gs w):=by
 obtain⟨n,hn⟩:∃n,n=gs.length:=⟨_,rfl⟩;have G:1<=n:=by grind
 have hE:uL v.c gs=if gs.Nodup then qE v.c gs else 7:=by grind [uL]
 obtain⟨err,t⟩:∃err,err=uL v.c gs:=⟨_,rfl⟩;rw[<-t]at hE;have HE:=h_ hE;have HP:Hid (∀pv e w',e=.returned (.tuple #[pv,.int .i64 err])->(err≠0->pv=.slice none 0 0/\Below w.heap.size w w')->(err=0->AsSt B w v gs gs.length pv w')->xSq B v gs w e w'):=h_ λpv e w' h1 h2 h3=>⟨pv,by rw[<-t];exact h1,by rw[<-t];exact h2,by rw[<-t];exact h3⟩
 rw[<-hn];have H:=h_ h;have HS:=h_ hS;have HN:=h_ hn;have HGF:=h_ KZ;have u_:=h_ dT;have nZ:(n:Int)<=1000:=by omega
 have V1:((n:Int)==0)=false:=by grind
 have V2:(n:Int)<=gc:=by omega
 have Lp:Hid (n<=gc):=h_ (by omega);clear h hS hn KZ dT hne hl CZ hE t;go_enter func324,ntmps324;go_wp2;go_step3;go_wp2;go_loopw [26] (λi wr=>∃k:Nat,i=.int .i64 k/\k<=n/\w=wr/\Hid ((gs.take k).Nodup)) (λi _=>n-(intOf i).toNat)
 case atStart=>exact⟨0,rfl,n3 _,rfl,h_ (by simp)⟩
 case round=>
  obtain⟨k,rfl,hk,rfl,HD⟩:=hrel;by_cases hlt:k<n
  ·have X:(k:Int)<(n:Int):=by omega
   have E:k<gs.length:=by grind
   have L:=HS.out k _ (U_ E);rw[m0]at L;have hkc:k<=gc:=by omega
   have cm:=λw=>yGy gb n gc k hkc w
   have CT:=h_ (xNa gs gb gc k gs[k] w HS.out (by have:=HN.out;omega) (by omega));have N:=h_ (d0 E);obtain⟨x,hx⟩:∃x,x=gs[k]:=⟨_,rfl⟩;rw[<-hx]at L CT N;have HXK:=h_ hx;clear hx;go_wp2_with fail;refine CT.mono ?_;rintro e w' ⟨rfl,rfl⟩;clear CT cm;by_cases hct:x∈gs.take k
   ·rw[yEj hct]
    have HF:Hid (err=7):=h_ (by
     rw[HE.out,if_neg];intro cj;have h2:(gs.take (k+1)).Nodup:=by grind
     rw[N.out,M6]at h2;exact h2.2.2 x hct x (by simp) rfl)
    go_wp2;go_ret2;exact HP.out (.slice none 0 0) _ _ (by rw[HF.out];rfl) (λ_=>⟨rfl,z_ _ _⟩) (λe=>by rw[HF.out]at e;cases e)
   ·rw[yEk hct]
    have lX:Hid ((gs.take (k+1)).Nodup):=h_ (by
     rw[N.out,M6];refine⟨HD.out,by simp,λa ha b d e=>?_⟩;simp at d;exact hct (by rw[<-d,<-e];exact ha))
    go_wp2;go_roundw
    case rel=>exact⟨k+1,by go_num,hlt,trivial,lX⟩
    case measure=>simp[intOf];omega
  ·have X:¬ ((k:Int)<(n:Int)):=by omega
   have lX:Hid (gs.Nodup):=h_ (by have:=HD.out;rw[show k=gs.length by have:=HN.out;omega,X3]at this;exact this);have ly:Hid (err=qE v.c gs):=h_ (by rw[HE.out,if_pos lX.out]);clear HD HE;go_wp2;clear X;go_step3;go_wp2;go_loopw [39,8] (λi ev wr=>∃k:Nat,i=.int .i64 k/\k<=n/\ev=.int .i64 0/\Hid (Below w.heap.size w wr)/\Hid (qE v.c (gs.take k)=0)) (λi _ _=>n-(intOf i).toNat)
   case atStart=>exact⟨0,rfl,n3 _,rfl,h_ (z_ _ _),h_ rfl⟩
   case round=>
    obtain⟨k,rfl,hk,rfl,HB,HZ⟩:=hrel;by_cases hlt:k<n
    ·have X:(k:Int)<(n:Int):=by omega
     have E:k<gs.length:=by grind
     have L:wr.cell? ⟨gb,k,none⟩=some (.string gs[k]):=by
      have:=HS.out k _ (U_ E);grind
     have aU:=xJb (f:=v.c) E HZ.out;obtain⟨x,hx⟩:∃x,x=gs[k]:=⟨_,rfl⟩;rw[<-hx]at L aU;have hd:=H.below HB.out;have c0:=cell_of_row wr v.p 0 _ _ _ hd.blk;simp only[v_]at c0;have T:=hd.look x wr rfl;obtain⟨r,cl,u,l,l9,iM,_,V,_⟩:=hd.cells x;have hs:(v.c x).isSome=(tOf v.gs x).isSome:=by simp[Tbl.c]
     obtain⟨ok,ay⟩:∃ok,ok=(tOf v.gs x).isSome:=⟨_,rfl⟩;rw[l9,<-ay]at T;rw[<-ay]at hs
     have bS:Hid ((ok=true->(if cl then (10:Int)else if 2147483646<=r then 9 else 0)=qE v.c (gs.take (k+1))/\((if cl then (10:Int)else if 2147483646<=r then 9 else 0)≠0->err=(if cl then (10:Int)else if 2147483646<=r then 9 else 0)))/\(ok=false->err=8)):=h_ (by
      cases hc:v.c x with
      |none=>
       grind
      |some c=>
       rw[hc]at hs aU V;simp only[aw_]at V;subst hs;rw[V]at aU;exact⟨λ_=>⟨aU.1.symm,λe=>ly.trans (aU.2 e)⟩,λe=>(by cases e)⟩)
     obtain⟨s,W⟩:∃s,s=wr.alloc (.cells (xT r cl u) 256):=⟨_,rfl⟩;have G:s.heap[wr.heap.size]?=some (.cells (xT r cl u) 256 (0,0)):=by grind
     have aa:Below w.heap.size w s:=by grind
     have aq:=h_ aa;have q0:=cell_of_row s wr.heap.size 0 _ _ _ G;have q1:=cell_of_row s wr.heap.size 1 _ _ _ G;simp only[xT,v_]at q0 q1;have ir:=qt r cl iM;have Gk:(uj.size==3)=true:=rfl;have fo:xt 3 uj=true:=qt 0 false rfl;clear aU hd G aa V ay hs l9 hx;unfold xT at T W ir;go_upto_region 14 with fail
     refine xm W ?_;clear W T c0 L;cases ok with
     |false=>
      have t:=bS.2 rfl;subst t;go_wp2;go_ret2;exact HP.out (.slice none 0 0) _ _ rfl (λ_=>⟨rfl,aq.out⟩) (λe=>by cases e)
     |true=>
     cases cl with
     |true=>
      have t:err=10:=by grind
      subst t;go_wp2;go_ret2;exact HP.out (.slice none 0 0) _ _ rfl (λ_=>⟨rfl,aq.out⟩) (λe=>by cases e)
     |false=>
     by_cases hbig:2147483646<=r
     ·have t:err=9:=by grind
      subst t;have bt:(2147483646:Int)<=(r:Int):=by omega
      go_wp2;go_ret2;exact HP.out (.slice none 0 0) _ _ rfl (λ_=>⟨rfl,aq.out⟩) (λe=>by cases e)
     ·have CX:Hid (qE v.c (gs.take (k+1))=0):=h_ (by
       have:=(bS.1 rfl).1;simp only[av_,if_false,if_neg hbig]at this;exact this.symm)
      have bt:¬ (2147483646:Int)<=(r:Int):=by omega
      go_wp2;go_roundw
      case rel=>exact⟨k+1,by go_num,hlt,rfl,aq,CX⟩
      case measure=>simp[intOf];omega
    ·have X:¬ ((k:Int)<(n:Int)):=by omega
     have HZA:Hid (err=0/\qE v.c gs=0):=h_ (by
      have:=HZ.out;rw[show k=gs.length by have:=HN.out;omega,X3]at this;exact⟨ly.trans this,this⟩)
     have ei:=HB;clear ly HB HZ;go_wp2;clear X;go_loopw [68,13] (λi pv wr=>∃k:Nat,i=.int .i64 k/\k<=n/\(∃pa pn pc,pv=.slice pa pn pc)/\Hid (AsSt B w v gs k pv wr)) (λi _ _=>n-(intOf i).toNat)
     case atStart=>exact⟨0,rfl,n3 _,⟨_,_,_,rfl⟩,h_ ⟨Kept.of_below ei.out,⟨v,H.below ei.out,rfl,rfl,rfl,rfl,λb d=>.inl d⟩,D1 _ _ _ _⟩⟩
     case round=>
      obtain⟨k,rfl,hk,⟨pa,pn,pc,rfl⟩,O⟩:=hrel;by_cases hlt:k<n
      ·have X:(k:Int)<(n:Int):=by omega
       have E:k<gs.length:=by grind
       have L:wr.cell? ⟨gb,k,none⟩=some (.string gs[k]):=by
        have:=HS.out k _ (U_ E);rw[m0]at this;exact(J9 (a:=⟨gb,k,none⟩) (O.kept.block gb dI HGF.out)).trans this
       have N:=h_ (d0 E)
       have Ji:Hid (gs[k]∉gs.take k):=h_ (by
        have h1:(gs.take (k+1)).Nodup:=by grind
        rw[N.out,M6]at h1;exact λh2=>h1.2.2 _ h2 _ (by simp) rfl)
       obtain⟨c,J,bD,lQ⟩:=xAc HZA.2 gs[k] (L3 E);obtain⟨x,hx⟩:∃x,x=gs[k]:=⟨_,rfl⟩;rw[<-hx]at L J N Ji;obtain⟨v',m,I,Q,Y,O4,Z⟩:=O.tab;have P:v'.c x=some c:=by rw[Y,vu Ji.out,J]
       obtain⟨r,cl,u,l,l9,iM,dT,V,az⟩:=m.cells x;rw[P,aw_]at V;subst V;simp only at bD lQ;subst bD;have cZ:=u_.out x _ J;have c0:=cell_of_row wr v'.p 0 _ _ _ m.blk;simp only[v_]at c0;have D:=m.get x wr rfl;rw[l9]at D;rw[I]at c0;rw[Q]at D c0;obtain⟨s,W⟩:∃s,s=wr.alloc (.cells (xT r false u) 256):=⟨_,rfl⟩;have G:s.heap[wr.heap.size]?=some (.cells (xT r false u) 256 (0,0)):=by grind
       have aa:Below wr.heap.size wr s:=by grind
       have q0:=cell_of_row s wr.heap.size 0 _ _ _ G;have f0:=frozen_of_row s wr.heap.size 0 _ _ G;simp only[xT,v_]at q0;obtain⟨h1,CN⟩:∃h1:Nat,h1=r+1:=⟨_,rfl⟩;have hh1z:(r:Int)+1=(h1:Int):=by omega
       obtain⟨R,aR⟩:∃R,R=s.setCell ⟨wr.heap.size,0,none⟩ (.int .i64 h1):=⟨_,rfl⟩;have aF:R.heap[wr.heap.size]?=some (.cells (xT h1 false u) 256 (0,0)):=by rw[aR,heap_setCell_same s wr.heap.size 0 _ _ _ G];rfl
       have ai:Below wr.heap.size wr R:=by grind
       have wh:zU B R u l:=yf dT (Kept.of_below (F:=[]) ai) (λ_ h=>by cases h);have Ah:B<=wr.heap.size:=R_ m.pB (T8 m.lt.1);have HW:=h_ (yCk wh (h1:Int) cZ (by omega) (R_ Ah ai.size));have q20:=cell_of_row R wr.heap.size 0 _ _ _ aF;have q22:=cell_of_row R wr.heap.size 2 _ _ _ aF;simp only[xT,v_]at q20 q22;have ir:=qt r false iM;have Gk:(uj.size==3)=true:=rfl;have hhz:(r:Int)<=2147483646:=by omega
       have hh1b:(h1:Int)<=2147483647:=by omega
       have HX:=h_ (And.intro hx (And.intro J (And.intro P CN)));have ee:=h_ (And.intro m (And.intro I (And.intro Q (And.intro Y (And.intro O4 Z)))));have gQ:=h_ az;have ax:=h_ ai;have dw:=h_ aF;have ny:=h_ Ah;clear hx J lQ P m I Q Y O4 Z l9 iM dT az cZ G aa aF ai wh Ah CN;unfold xT at D W ir;go_upto_region 28 with fail
       refine xm W ?_;clear W D c0 L;go_upto_region 29 with fail
       refine xm aR ?_;clear aR q0 f0;go_wp2_with fail;refine HW.mono ?_;rintro e w3 ⟨u',rfl,bz,Ew,hub⟩;clear HW q20 q22;obtain⟨m,I,Q,Y,O4,Z⟩:=ee.out;have O5:∀b∈u.ownBlock.toList,b<wr.heap.size/\b∈v'.foot:=λb d=>by
        obtain⟨g,C,_,he⟩:=gQ.out b (by simpa using d);have:=Tbl.mem_foot.2 (.inr (.inr ⟨g,C,he⟩));exact⟨(m.foot_lt b this).2,this⟩
       have bI:=(bz.block wr.heap.size (i_ dw.out).1 (λS=>W9 _ (O5 _ S).1)).trans dw.out;have r2:=cell_of_row w3 wr.heap.size 2 _ _ _ bI;have r2f:=frozen_of_row w3 wr.heap.size 2 _ _ bI;simp only[xT,v_]at r2;obtain⟨ua,uc,V3⟩:=j3 Ew;obtain⟨A,cY⟩:∃A,A=w3.setCell ⟨wr.heap.size,2,none⟩ u':=⟨_,rfl⟩;have dN:A.heap[wr.heap.size]?=some (.cells (xT h1 false u') 256 (0,0)):=by rw[cY,heap_setCell_same w3 wr.heap.size 2 _ _ _ bI];rfl
       have wi:Kept [wr.heap.size] w3 A:=by rw[cY];exact xHx _ _ _ _
       have U:Kept u.ownBlock.toList wr A:=((Kept.of_below (F:=u.ownBlock.toList) ax.out).trans bz (λq hq=>.inl hq)).trans wi (λq hq=>.inr (by rw[S_.1 hq];exact w_ _));have O6:∀b,u'.ownBlock=some b->(∃g∈v'.gs,g.name=x/\g.v.ownBlock=some b)\/wr.heap.size<=b:=λb d=>by
        rcases hub b d with e|e
        ·exact .inl (gQ.out b e)
        ·exact .inr (R_ ax.size e)
       have O7:zU B A u' (kC l h1):=yf Ew wi (λb d e=>by
        rw[S_]at d;subst d;obtain⟨cur,hc⟩:=xS Ew e;rw[bI]at hc;simp at hc)
       obtain⟨o,ci,A5,sO,Ex,v2,g1,g2,g3,g4,g5,g6⟩:=m.finish U x (λb d=>.inr (gQ.out b (by simpa using d))) ⟨h1,false,kC l h1⟩ u' O7 O6;have cy:wr.heap[v.p]?=some (.cells #[.map (some v'.M)] 229 (0,0)):=by rw[<-I];exact m.blk
       have fB:=(U.block v.p (by rw[<-I];exact m.lt.1) (λS=>by
        obtain⟨g,C,_,he⟩:=gQ.out v.p (by simpa using S);exact(m.iv_ne (m.ivs g C)).1 (by rw[I];exact he))).trans cy
       have c4:=cell_of_row A v.p 0 _ _ _ fB;simp only[v_]at c4;rw[Q]at c4 ci A5;have z0:∀z:xf A,z.1.cell? ⟨v.p,0,none⟩=some (.map (some v.M)):=λz=>z.cell c4
       have rr:=xF (n:=3) dN rfl;have z1:∀z:xf A,xp z.1 ⟨wr.heap.size,0,none⟩ 3=true:=λz=>xf.ok rr.1 z
       have z2:∀z:xf A,xo z.1 ⟨wr.heap.size,0,none⟩ 3=xT h1 false u':=λz=>(xf.rd rr.1 z).trans rr.2
       have ik:o.heap[wr.heap.size]?=some (.cells (xT h1 false u') 256 (0,0)):=(A5.block _ (i_ dN).1 (λS=>by
        have h3:=m.lt.2;rw[Q]at h3;rw[S_]at S;omega)).trans dN
       have iP:o.ownsRow w.heap.size 72 2 (.slice pa pn pc) k (vy (plOf v.c (gs.take k))):=yf O.pl Ex (λb d e=>m.not_pl O.pl e d);have q50:=cell_of_row o wr.heap.size 0 _ _ _ ik;simp only[xT,v_]at q50;obtain⟨i0,hi0,bf,aP,be⟩:=info_parts Tryz.info_pla;have HI:=h_ (And.intro hi0 (And.intro bf (And.intro aP be)));have bM:Below o.heap.size o (o.alloc (.cells #[.string x,.int .i64 h1] 72)):=by grind
       have eE:=heap_alloc_new o (.cells #[.string x,.int .i64 h1] 72);have g7:Hid (∀j y,([.string x,.int .i64 h1]:List Value)[j]?=some y->(o.alloc (.cells #[.string x,.int .i64 h1] 72)).cell? ((⟨o.heap.size,0,none⟩:Addr).add j)=some y):=h_ λj y hj=>by
        rw[l8,m0,cell_of_row _ o.heap.size j _ _ _ eE,l7];exact hj
       have dR:Hid ((o.alloc (.cells #[.string x,.int .i64 h1] 72)).ownsRow w.heap.size 72 2 (.slice pa pn pc) k (vy (plOf v.c (gs.take k)))):=h_ (yf iP (Kept.of_below (F:=[]) bM) (λ_ h=>by cases h));have ot:w.heap.size<=o.heap.size:=R_ O.kept.size Ex.size;have tv:Hid (w.heap.size<=(o.alloc (.cells #[.string x,.int .i64 h1] 72)).heap.size):=h_ (R_ ot bM.size);obtain⟨hx,J,P,CN⟩:=HX.out
       have aC:Hid (∀pv' K,K.ownsRow w.heap.size 72 2 pv' (k+1) (vy (plOf v.c (gs.take k))++[.string x,.int .i64 h1])->(o.alloc (.cells #[.string x,.int .i64 h1] 72)).grownBy K (Value.slice pa pn pc).ownBlock->AsSt B w v gs (k+1) pv' K):=h_ (λpv' K ho C=>by
        have eq:Kept (Value.slice pa pn pc).ownBlock.toList (o.alloc (.cells #[.string x,.int .i64 h1] 72)) K:=⟨C.os,C.tape,C.output,C.size,λq hq hn=>C.block q hq (λe=>hn (by rw[<-e];simp))⟩;have O8:Kept (Value.slice pa pn pc).ownBlock.toList o K:=(Kept.of_below (F:=(Value.slice pa pn pc).ownBlock.toList) bM).trans eq (λq hq=>.inl hq);refine⟨?_,⟨v2,g1.kept O8 (λb d S=>g1.not_pl iP (by simpa using S) d),g2.trans I,g3.trans Q,?_,?_,λb d=>?_⟩,?_⟩
        ·refine(O.kept.trans Ex (λq hq=>Z q hq)).trans O8 (λq hq=>.inr ?_);exact(s5 iP q (by simpa using hq)).1
        ·rw[N.out,xSf,g4,Y];rw[Y]at P;unfold addF;rw[P,CN]
        ·rw[g5];unfold newN;rw[P];exact O4
        ·rcases g6 b d with h|h
         ·exact Z b h
         ·exact .inr (R_ O.kept.size h)
        ·rw[N.out,plOf,L8,t8,aA_,xQp];have:numF v.c x=h1:=by unfold numF;rw[J,CN];rfl
         rw[this];exact ho)
       clear O5 bI Ew hub bz wi U O6 O7 A5 sO Ex g1 g2 g3 g4 g5 g6 cy fB c4 rr dN iP ik hi0 bf aP be bM eE ot hx J P CN m I Q Y O4 Z;rw[V3]at cY z2 ci;unfold xT at z2 ci;simp only at ci;go_upto_region 30 with fail
       refine xm cY ?_;clear cY r2 r2f;refine xz [0,1,2,3,4,5] [6] (λw'=>∃z:xf A,w'=z.1) ⟨⟨A.drew,(z_ _ _).drew⟩,rfl⟩ ?_;simp only[o_]
       repeat (go_big_quiet_step (fail))
       refine wpQuiet_nil ?_;clear z0 z1 z2;refine yE ?_;simp only[o_];go_wp2;refine T_ ?_;clear ci;go_wp2_with (at_builtin;refine wpList_append_own_at _ rfl (.tmp 94) (.tmp 99) 54 rfl w.heap.size 72 i0 (.agg #[.string ⟨#[]⟩,.int .i64 0]) 2 24 underlying54 HI.1 HI.2.1 HI.2.2.1 HI.2.2.2 rfl (by decide) _ k _ rfl dR.out ⟨o.heap.size,0,none⟩ 1 1 [.string x,.int .i64 h1] rfl rfl g7.out (by intro y hy;simp at hy;rcases hy with rfl|rfl <;> rfl) (by unfold maxLen;omega) (by omega) tv.out ?_);intro pv' K ho C _ _;have pU:=h_ (aC.out pv' K ho C);obtain⟨pa',pn',pc',iK⟩:=zd ho;subst iK;clear ho C q50;go_wp2;go_roundw
       case rel=>exact⟨k+1,by go_num,hlt,⟨_,_,_,rfl⟩,pU⟩
       case measure=>simp[intOf];omega
      ·have X:¬ ((k:Int)<(n:Int)):=by omega
       have HF:=h_ O.out;rw[show k=gs.length by have:=HN.out;omega]at HF;have t:=HZA.1;subst t;go_wp2;go_ret2;exact HP.out _ _ _ rfl (λe=>absurd rfl e) (λ_=>HF.out)
end
end Go.Proofs.YtdhapkeimaljfaaGreatDoor
