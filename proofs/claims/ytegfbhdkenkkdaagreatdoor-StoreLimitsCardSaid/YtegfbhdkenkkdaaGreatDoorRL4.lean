/- Parts of the proofs about bulletinlaw29: Jou9, Xf, Xg, Xh, Xi, Xj, Xk, Xl, Xm, Xn, Xo, Xp, His1, His2, His3, His4, His5, His6, Rng0, Num2, His7, His8, Spo1, Spo2, Spo3, Spo4, Num3, Spo5, Spo6. -/
import Derived.Test.YtegfbhdkenkkdaaGreatDoorRL1
import Derived.Test.YtegfbhdkenkkdaaGreatDoorRL2
import Derived.Test.YtegfbhdkenkkdaaGreatDoorRL3
import Derived.Defers
set_option maxRecDepth 100000
set_option linter.all false
set_option maxHeartbeats 8000000
namespace Go.Proofs.YtegfbhdkenkkdaaGreatDoor
open Go Go.RowKit Go.Proofs Tryz
def cz_:=@List.flatMap_append
def cH_:=@List.flatMap_singleton
def aN_:=@World.cell?_of_block
section
theorem jx (ρ:Operand->Value)(d x)(ty:TypeId)(pos af g w):
  Sem.run prog (execOp ρ ⟨d,.load 118 x,ty,pos,af,g⟩) w=yp prog 118 w (ρ x):=rfl
theorem vK (ρ:Operand->Value)(d x y)(ty:TypeId)(pos af g w):
  Sem.run prog (execOp ρ ⟨d,.store 118 x y,ty,pos,af,g⟩) w=yi prog 118 w (ρ x) (ρ y):=rfl
theorem xJn (w a)(h:xo w a 4=true):yp prog 118 w (.pointer (some a))=.ok (.value (.agg (xm w a 4))) w:=
 yf isAgg118 sizeOf118 w a h
theorem xIm (w g cells)(h:xM w g 4=true)(h2:xy 4 cells=true):
  yi prog 118 w (.pointer (some ⟨g,0,none⟩)) (.agg cells)=.ok .skip (w.setRow g cells):=yo (by kernel_rfl) w g cells h h2
def zSta:Array Value:=#[.int .i64 0,.int .i64 0,.slice none 0 0,.int .i64 0]
theorem jC (a b v c)(hv:v.oneCell'=true):xy 4 #[.int .i64 a,.int .i64 b,v,.int .i64 c]=true:=zU rfl (by rw[aD_];intro x hx;simp at hx;rcases hx with rfl|rfl|rfl|rfl <;> first|rfl|exact hv)
attribute [local go_sem ↓] vx qQ uh zI qR qz jx vK
attribute [local go_sem] xGa xG0 xAa xA6 xCx xCq xJn xIm xG8 xG5 xMj zn zu yx yw xh xf xa x9 xu xv xk xj xq xx xt
theorem xR3 {H:By->By}{gen}:∀(f:Nat) (num:Int) (L:List By),(ux H gen f num L).length<=L.length
 |0,_,_=>aV_ _
 |f+1,num,L=>by
  rw[xDx f];cases hj:uH H L with
  |none=>exact aV_ _
  |some x=>
   obtain⟨r,n⟩:=x;have h1:=xV0 hj;simp only;split
   ·exact aV_ _
   ·split
    ·have h2:=xR3 (H:=H) (gen:=gen) f (num+1) (L.drop n);rw[ao_]at h2;rw[av_];omega
    ·exact aV_ _
theorem xFc:∀(l:List (PRec×Value)) (j:Nat) (hj:j<l.length) (i:Nat),i<4->(uu l)[j*4+i]?=(y9 l[j].1.kind l[j].1.gen l[j].1.num l[j].2)[i]?
 |[],j,hj,_,_=>by cases hj
 |x :: l,0,_,i,hi=>by
  have e:uu (x :: l)=y9 x.1.kind x.1.gen x.1.num x.2++uu l:=rfl;rw[e,bZ_,aq_,aJ_ (by simpa[y9]using hi)];rfl
 |x :: l,j+1,hj,i,hi=>by
  have e:uu (x :: l)=y9 x.1.kind x.1.gen x.1.num x.2++uu l:=rfl;rw[e,aF_ (by simp[y9];omega),show (y9 x.1.kind x.1.gen x.1.num x.2).length=4 from rfl,show (j+1)*4+i-4=j*4+i by omega];exact xFc l j (by simpa using hj) i hi
theorem RcAt.get {w B v l}(h:RcAt w B v l)(j)(hj:j<l.length):∃g cap gp pcap,v=.slice (some ⟨g,0,none⟩) l.length cap/\l.length<=cap /\
  (∀i u,(y9 l[j].1.kind l[j].1.gen l[j].1.num (.slice (some ⟨gp,0,none⟩) l[j].1.pay.length pcap))[i]?=some u->w.cell? ⟨g,j*4+i,none⟩=some u) /\
  l[j].2=.slice (some ⟨gp,0,none⟩) l[j].1.pay.length pcap/\gp<w.heap.size/\l[j].1.pay.length<=pcap/\pcap<=maxLen/\SlB w ⟨gp,0,none⟩ l[j].1.pay:=by
 obtain⟨h1,h2,_⟩:=h.el l[j] (bb_ hj);rcases h1.at with⟨h0,_⟩|⟨gp,pcap,hx,_,hl,Ts,hs⟩
 ·exact absurd h0 h2
 rcases h.own.2 with⟨_,h0⟩|⟨g,cap,cur,hv,hg,aq,hle,dC,aJ,eG⟩
 ·omega
 ·refine⟨g,cap,gp,pcap,hv,hle,λi u hu=>?_,hx,(h1.lt (by rw[hx];rfl)).2,hl,Ts,hs⟩;have hi:i<4:=(ax_.1 hu).1;have Tt:(uu l)[j*4+i]?=some u:=by rw[xFc l j hj i hi,hx];exact hu
  have:=bc_ h.own (g:=g) (by rw[hv];rfl) (j*4+i) u Tt
  rwa [an_,aq_]at this
theorem RcAt.rd {w g k}{r:List Value}(hr:r.length=4)(h:∀i u,r[i]?=some u->w.cell? ⟨g,k*4+i,none⟩=some u):xo w ⟨g,k*4,none⟩ 4=true/\xm w ⟨g,k*4,none⟩ 4=r.toArray:=by
 have:=xW (w:=w) (a:=⟨g,k*4,none⟩) (cs:=r) (λj v hj=>by rw[an_];exact h j v hj);rw[hr]at this;exact this
theorem xYj:prog.elem 173=172:=by kernel_rfl
theorem xUd (g len cap)(h1:1<=len)(hc:len<=cap)(w):Sem.run prog (Instr.sliceAt 173 (.slice (some ⟨g,0,none⟩) len cap) (some (.int .i64 1)) none none) w=.ok (.slice (some ⟨g,if cap=1 then 0 else 4,none⟩) (len-1) (cap-1)) w:=by
 rw[run_sliceAt_slice w 173 _ _ _ _ (by kernel_rfl),run_slice_l w 173 (some ⟨g,0,none⟩) len cap (by kernel_rfl) .i64 1 (by omega) (by omega),xYj,sizeOf172];simp only[aw_,sliced,aU_];by_cases h:cap=1
 ·subst h;rfl
 ·rw[if_neg (by show ¬ cap=(1:Int).toNat;simpa using h),if_neg h];rfl
structure LlSt (W1:World)(gen first:Int)(l:List (PRec×Value))(k:Nat)(W:World):Prop where
 bel:Below W1.heap.size W1 W
 st:∃ev,W.heap[W1.heap.size]?=some (.cells #[.int .i64 gen,.int .i64 first,ev,.int .i64 0] 118 (0,0))/\W.ownsRow (W1.heap.size+1) 31 1 ev k ((l.take k).map Prod.snd)
 kinds:∀x∈l.take k,x.1.kind=2
theorem LlSt.en {W1 gen first l k W}(h:LlSt W1 gen first l k W){B}(i3:∀x∈l,OwnB W1 B x.2 x.1.pay/\x.2≠.slice none 0 0)(hB:B<=W1.heap.size)(hk:k<=l.length):
  ∃ev,W.heap[W1.heap.size]?=some (.cells #[.int .i64 gen,.int .i64 first,ev,.int .i64 0] 118 (0,0))/\EnAt W B ev ((l.take k).map λx=>x.1.pay) ((l.take k).map Prod.snd):=by
 obtain⟨ev,h1,h2⟩:=h.st;have ao:(l.take k).length=k:=by rw[ai_];omega
 have C5:=h2;have Xq:((l.take k).map λx=>x.1.pay).length=k:=by rw[aQ_];exact ao
 refine⟨ev,h1,⟨?_,by simp,λi hi=>?_⟩⟩
 ·rw[Xq];exact⟨h2.1,h2.2.imp (λh=>h) λ⟨g,cap,cur,hv,hg,r⟩=>⟨g,cap,cur,hv,by omega,r⟩⟩
 ·have hi2:i<k:=by rw[Xq]at hi;exact hi
  have L7:i<l.length:=by omega
  obtain⟨q1,q2⟩:=i3 l[i] (bb_ L7);simp only[bS_,dh_];refine⟨q1.below h.bel,q2,λj hj e=>?_⟩;have a1:=(q1.lt hj).2;have a2:=(aL_ C5 j e).1;omega
theorem LlSt.next {W1 gen first l k W Wa W2 ev v'}(h:LlSt W1 gen first l k W)(hk:k<l.length)(sw:l[k].1.kind=2)(aM:Below W.heap.size W Wa)
  (ah:W.heap[W1.heap.size]?=some (.cells #[.int .i64 gen,.int .i64 first,ev,.int .i64 0] 118 (0,0))) (eL:∀j,ev.ownBlock=some j->W1.heap.size+1<=j)
  (ho:W2.ownsRow (W1.heap.size+1) 31 1 v' (k+1) ((l.take k).map Prod.snd++[l[k].2])) (hg:Wa.grownBy W2 ev.ownBlock):
  (W2.heap[W1.heap.size]?=some (.cells #[.int .i64 gen,.int .i64 first,ev,.int .i64 0] 118 (0,0)))/\LlSt W1 gen first l (k+1) (W2.setCell ⟨W1.heap.size,2,none⟩ v'):=by
 have hlt:W1.heap.size<W.heap.size:=(i_ ah).1
 have aj:W2.heap[W1.heap.size]?=some (.cells #[.int .i64 gen,.int .i64 first,ev,.int .i64 0] 118 (0,0)):=
  (hg.block _ (ap_ hlt aM.size) (λe=>by have:=eL _ e.symm;omega)).trans ((aM.block _ hlt).trans ah)
 refine⟨aj,((h.bel.trans (aM.mono h.bel.size)).grown hg (by have:=h.bel.size;have:=aM.size;omega) (λj e=>by have:=eL j e;omega)).setCell (p:=⟨W1.heap.size,2,none⟩) (aa_ _) _,⟨v',?_,?_⟩,λx hx=>?_⟩
 ·rw[heap_setCell_same W2 W1.heap.size 2 _ _ v' aj];rfl
 ·rw[am_ hk,bl_,List.map_singleton];exact vv ho λg du _=>heap_setCell_other W2 ⟨W1.heap.size,2,none⟩ g v' (by show g≠W1.heap.size;omega)
 ·rw[am_ hk]at hx;rcases aj_.1 hx with hx|hx
  ·exact h.kinds x hx
  ·rw[ac_.1 hx];exact sw
def xN1 (area q:Nat)(rs:List PRec):Option PJ:=match rs with
 |[]=>none
 |r :: rs=>if r.kind≠1 then none else
  match kU r.pay with
  |none=>none
  |some x=>if x.2<=((rs.takeWhile λr=>r.kind==2).map (·.pay)).length then some ⟨area,q,x.1,x.2,(rs.takeWhile λr=>r.kind==2).map (·.pay)⟩else none
theorem yAb {H:By->By}{area q:Nat}{b0 t p}(h:decP H b0=some p)(hq:p.gen=q)(hp:q%2=area):zl H area (b0 :: t)=xN1 area q (ux H q (b0 :: t).length 0 (b0 :: t)):=by
 unfold zl;simp only[h];rw[if_neg (by rw[hq];simp[hp]),hq];unfold xN1;cases ux H (q:Int) (b0 :: t).length 0 (b0 :: t) with
 |nil=>rfl
 |cons r rs=>
  simp only[be_];cases kU r.pay <;> rfl
theorem xW2 {α:Type}(f:α->Bool):∀(l:List α) (k:Nat),(∀x∈l.take k,f x=true)->(k=l.length\/∃h:k<l.length,f l[k]=false)->l.takeWhile f=l.take k
 |[],k,_,_=>by simp
 |a :: l,0,_,h=>by
  rcases h with h|⟨_,h⟩
  ·simp at h
  ·rw[dF_,if_neg (by simpa using h)];rfl
 |a :: l,k+1,h1,h=>by
  rw[dF_,if_pos (h1 a (by simp)),cU_,xW2 f l k (λx hx=>h1 x (by simp[hx])) ?_];rcases h with h|⟨hl,h⟩
  ·exact .inl (by simpa using h)
  ·exact .inr ⟨by simpa using hl,by simpa using h⟩
theorem xV5 (o):∃(f c:Int) (b:Bool),yDy o=.tuple #[.int .i64 f,.int .i64 c,.bool b]/\(o=none->b=false)/\(∀x,o=some x->f=x.1/\c=x.2/\b=true):=by
 cases o with
 |none=>exact⟨0,0,false,rfl,(λ_=>rfl),(λ_ h=>by cases h)⟩
 |some x=>exact⟨x.1,x.2,true,rfl,(λh=>by cases h),(λy h=>by cases h;exact⟨rfl,rfl,rfl⟩)⟩
theorem xKa (a b c v)(hv:v.oneCell'=true):xy 4 #[.int .i64 a,.int .i64 b,.int .i64 c,v]=true:=zU rfl (by rw[aD_];intro x hx;simp at hx;rcases hx with rfl|rfl|rfl|rfl <;> first|rfl|exact hv)
theorem LlSt.later {W1 gen first l k W W'}(h:LlSt W1 gen first l k W)(hb:Below W.heap.size W W'):LlSt W1 gen first l k W':=by
 obtain⟨ev,h1,h2⟩:=h.st;exact⟨h.bel.trans (hb.mono h.bel.size),⟨ev,(hb.block _ (i_ h1).1).trans h1,vv h2 λg _ hg=>hb.block g hg⟩,h.kinds⟩
def StC (b:Nat)(cs:Array Value):Type:={ z:World // z.heap[b]?=some (.cells cs 118 (0,0)) }
theorem StC.cell {b cs}(z:StC b cs)(j):z.1.cell? ⟨b,j,none⟩=cs[j]?:=cell_of_row _ _ _ _ _ _ z.2
theorem xRu {LS area q x xs k}{hf hc:Int}{ok}(hl:zl sha area LS=xN1 area q ((x :: xs).map Prod.fst))(hk1:x.1.kind=1)
  (hh:(kU x.1.pay=none->ok=false)/\∀y,kU x.1.pay=some y->hf=y.1/\hc=y.2/\ok=true) (Xr:k<=xs.length) (Ht:∀y∈xs.take k,y.1.kind=2) (om:k=xs.length\/∃h:k<xs.length,xs[k].1.kind≠2)
  {w'} {B} {v} (bS:EnAt w' B v ((xs.take k).map λx=>x.1.pay) ((xs.take k).map Prod.snd)):
  match zl sha area LS with
  |none=>(ok&&decide (hc<=(k:Int)))=false
  |some j=>(ok&&decide (hc<=(k:Int)))=true/\(q:Int)=j.gen/\hf=j.first/\∃vs,EnAt w' B v j.entries vs:=by
 have htw:((xs.map Prod.fst).takeWhile λr=>r.kind==2)=(xs.map Prod.fst).take k:=by
  refine xW2 _ _ k (λy hy=>?_) ?_
  ·rw[<-du_]at hy;obtain⟨z,hz,rfl⟩:=az_.1 hy;simpa using Ht z hz
  ·rcases om with h|⟨h1,h2⟩
   ·exact .inl (by simpa using h)
   ·exact .inr ⟨by simpa using h1,by simpa using h2⟩
 have Tu:((xs.map Prod.fst).take k).map (·.pay)=(xs.take k).map λx=>x.1.pay:=by rw[<-du_,bt_];rfl
 have ao:((xs.take k).map λx=>x.1.pay).length=k:=by rw[aQ_,ai_];omega
 rw[hl];unfold xN1;simp only[au_];rw[if_neg (by simp[hk1]),htw,Tu];cases hx:kU x.1.pay with
 |none=>simp only;rw[hh.1 hx];rfl
 |some y=>
  obtain⟨e1,e2,e3⟩:=hh.2 y hx;simp only[ao];by_cases hle:y.2<=k
  ·rw[if_pos hle];refine⟨?_,rfl,e1,_,bS⟩;rw[e3,e2];simpa using hle
  ·rw[if_neg hle];simp only;rw[e3,e2];simpa using hle
def xD8 (d:PD)(area:Nat)(w:World)(e:Ending)(w':World):Prop:=
 Below w.heap.size w w'/\∃(g f:Int) (v:Value) (c:Bool),e=.returned (.tuple #[.agg #[.int .i64 g,.int .i64 f,v,.int .i64 0],.bool c,.int .i64 0])/\(∃a n c,v=.slice a n c) /\
  match zl sha area (d.area d.n area) with
  |none=>c=false
  |some j=>c=true/\g=j.gen/\f=j.first/\∃vs,EnAt w' w.heap.size v j.entries vs
theorem xY2 {D w v d}(h:yu D w v d)(hd:d.down=false)(hK:qU w)(area:Nat)(ha:area<2)(i7:8<=d.n):
  Calls prog 75 #[.agg (xE v.p d.n),.int .i64 area] w (xD8 d area w):=by
 obtain⟨w1,ai⟩:∃w1,w1=(w.alloc (.cells (xE v.p d.n) 113)).alloc (.cells zSta 118):=⟨_,rfl⟩;have aa:Below w.heap.size w w1:=by rw[ai];exact((ab_ _ _).alloc (aa_ _) _).alloc (by simp) _
 have aK:w1.heap.size=w.heap.size+2:=by rw[ai];simp
 have h0:w1.heap[w.heap.size]?=some (.cells (xE v.p d.n) 113 (0,0)):=by
  rw[ai,heap_alloc_old _ _ (by simp),heap_alloc_new]
 have h1:w1.heap[w.heap.size+1]?=some (.cells zSta 118 (0,0)):=by
  have:=heap_alloc_new (w.alloc (.cells (xE v.p d.n) 113)) (.cells zSta 118);rw[al_]at this;rw[ai,this]
 have aA:=h.n2;obtain⟨o1,r1⟩:=xD (n:=3) h0 rfl;obtain⟨m,hm⟩:∃m,m=d.n/2:=⟨_,rfl⟩;have DD:4<=m:=by omega
 have Du:area*m+m<=d.n:=by
  have:area=0\/area=1:=by omega
  rcases this with rfl|rfl <;> omega
 have z1:∀z:x8 w1,xo z.1 ⟨w.heap.size,0,none⟩ 3=true:=λz=>x8.ok o1 z
 have z2:∀z:x8 w1,xm z.1 ⟨w.heap.size,0,none⟩ 3=xE v.p d.n:=λz=>(x8.rd o1 z).trans r1
 have z3:∀z:x8 w1,Calls prog 65 #[.agg (xE v.p d.n)] z.1 λe w'=>e=.returned (.int .i64 m)/\∃z':x8 w1,w'=z'.1:=λz=>x8.call ((xCy v.p d.n aA z.1).mono λe w' ⟨h1,h2⟩=>⟨by rw[h1,hm],h2⟩)
 have gt:Hid (∀z:x8 w1,Calls prog 71 #[.agg (xE v.p d.n),.int .i64 (area*m:Nat),.int .i64 m] z.1 (xD6 d (area*m) m z.1)):=h_ λz=>xN4 ((h.below aa).below z.2) hd (area*m) m Du
 have nE:=h_ z3;have ar:=h_ aa;have HK:=h_ hK;have H1:=h_ h1;have bW:=h_ aK;obtain⟨LS,QT⟩:∃LS,LS=jD d (area*m) m:=⟨_,rfl⟩;have CM:LS.length=m:=by rw[QT];exact zZ _ _ _
 have fN:Hid (∀e w',Below w.heap.size w w'->(∃(g f:Int) (v:Value) (c:Bool),e=.returned (.tuple #[.agg #[.int .i64 g,.int .i64 f,v,.int .i64 0],.bool c,.int .i64 0])/\(∃a n c,v=.slice a n c) /\
  match zl sha area LS with
  |none=>c=false
  |some j=>c=true/\g=j.gen/\f=j.first/\∃vs,EnAt w' w.heap.size v j.entries vs)->xD8 d area w e w'):=h_ (λe w' hb he=>⟨hb,by rw[show d.area d.n area=LS by rw[QT,hm];rfl];exact he⟩)
 obtain⟨am,QU⟩:∃am,am=area*m:=⟨_,rfl⟩;have hamz:(area:Int)*(m:Int)=(am:Int):=by rw[QU];simp
 unfold xD6 at gt;rw[<-QT,<-QU]at gt;have MJ:(area:Int)<2:=by omega
 have hamb:(am:Int)<=4096:=by rw[QU];omega
 have hmb:(m:Int)<=4096:=by omega
 obtain⟨n,hn⟩:∃n,n=d.n:=⟨_,rfl⟩;rw[<-hn]at ai z2 nE gt⊢;unfold xE at ai z2 nE gt⊢;unfold zSta at ai H1;have HL:=h_ CM;have Mx:=h_ DD;clear h hd aa aK h0 h1 aA o1 r1 hm Du z3 hK QT CM QU hn i7 DD;go_enter func75,ntmps75;go_upto_region 1 with fail
 refine xr ai ?_;clear ai;refine ui (by kernel_rfl) ?_;refine jZ [0,1,2,3,4,5,6] [7,8] 4 (λw'=>∃z:x8 w1,w'=z.1) (by kernel_rfl) (by kernel_rfl) rfl rfl ⟨⟨_,(ab_ _ _).drew⟩,rfl⟩ ?_;simp only[o_]
 repeat (go_big_quiet_step (first|(go_at_call 65;exact nE.out _)))
 refine wpQuiet_nil ?_;rintro _ ⟨z,rfl⟩;clear z1 z2 nE;refine uD [7,8] _ _ (by kernel_rfl) ?_;simp only[o_];go_wp2_with fail;refine(gt.out z).mono ?_;rintro e w2 ⟨aj,lv,vs,rfl,fd⟩;obtain⟨z,bz⟩:=z;have dh:Below w.heap.size w w2:=ar.trans ((bz.trans (aj.mono bz.size)).mono ar.size);have aP:w2.heap[w.heap.size+1]?=some (.cells zSta 118 (0,0)):=by
  have hs:=bW.out;have hz:=bz.size;exact(aj.block _ (by show w.heap.size+1<z.heap.size;omega)).trans ((bz.block _ (by omega)).trans H1.out)
 have rh:ScAt w2 (w.heap.size+2) lv LS vs:=fd.base (by have hs:=bW.out;have hz:=bz.size;show w.heap.size+2<=z.heap.size;omega);have au:=h_ dh;have fu:=h_ aP;have Hu:=h_ rh;clear dh aP rh fd aj bz gt ar H1;go_wp2;refine ag_ ?_;rw[uo];refine kf [9,10] [11,12] 0 (λw'=>w'=w2) (by kernel_rfl) (by kernel_rfl) (by kernel_rfl) rfl rfl rfl ?_;simp only[o_]
 repeat (go_big_quiet_step (fail))
 refine wpQuiet_nil ?_;refine xBp true rfl (by kernel_rfl) ?_;go_wp2;refine⟨λ_=>rfl,uD [12] _ _ (by kernel_rfl) ?_⟩;simp only[o_];go_wp2;refine ag_ ?_;rw[uo];refine vB (by kernel_rfl) ?_;go_upto_region 4 with fail
 have hne:0<LS.length:=by have:=HL.out;have:=Mx.out;omega
 obtain⟨g,cap,e0,iR,aT,ao,QP,hes,cZ⟩:=xE8 Hu.out 0 hne;rw[HL.out]at iR;subst iR;have MR:m<=cap:=by
  obtain⟨g',cap',h1,_,_,h4,_⟩:=Hu.at (λe=>by rw[e]at hne;simp at hne);cases h1
  rw[HL.out]at h4;exact h4
 have eJ:=vT e0 _ w2 (HK.below au.out (aa_ _)) cZ ao hes;obtain⟨b0,bf⟩:∃b0,b0=LS[0]:=⟨_,rfl⟩;obtain⟨LR,Xs⟩:∃LR,LR=LS.drop 1:=⟨_,rfl⟩;have Fh:LS=b0 :: LR:=by rw[bf,Xs];exact bG_ (i:=0) hne
 rw[<-bf]at eJ;have iJ:=h_ eJ;have Be:=h_ Fh;have lX:(1:Int)<=m:=by have:=Mx.out;omega
 clear eJ cZ ao bf Xs Fh hne;go_wp2_with fail;refine iJ.mono ?_;rintro e w3 ⟨al,ch⟩;have hlt2:w.heap.size+1<w2.heap.size:=(i_ fu.out).1;have ay:Hid (Below w.heap.size w w3):=h_ (au.trans (al.mono au.size));have dv:w3.heap[w.heap.size+1]?=some (.cells zSta 118 (0,0)):=(al.block _ hlt2).trans fu.out;have Tv:Hid (ScAt w3 (w.heap.size+2) (.slice (some ⟨g,0,none⟩) m cap) LS vs):=h_ (Hu.later al);have eT:w2.heap.size<=w3.heap.size:=al.size;clear iJ al aT;rcases ch with⟨p,vp,hp,rfl,ae,pt⟩|⟨r,bp,hr,rfl⟩
 ·have aD:=xD3 hp;have tw:(0:Int)<=p.gen:=aD.1.2.2.1;have du:p.gen<=2147483647:=aD.1.2.2.2.1;obtain⟨q,hq⟩:∃q:Nat,q=p.gen.toNat:=⟨_,rfl⟩;have Hj:p.gen=(q:Int):=by omega
  unfold zg;have hvo:vp.oneCell'=true:=by
   rcases ae.at with⟨h,_⟩|⟨g,c,h,_⟩ <;> rw[h] <;> rfl
  have bJ:=xVa p.kind p.gen p.num p.idx p.cnt vp hvo;obtain⟨w4,cP⟩:∃w4,w4=w3.alloc (.cells #[.int .i64 p.kind,.int .i64 p.gen,.int .i64 p.num,.int .i64 p.idx,.int .i64 p.cnt,vp] 167):=⟨_,rfl⟩;have aM:Below w3.heap.size w3 w4:=by rw[cP];exact b_ _ _
  have bt:=h_ (ay.trans (aM.mono ay.size));have Tw:w4.heap[w3.heap.size]?=some (.cells #[.int .i64 p.kind,.int .i64 p.gen,.int .i64 p.num,.int .i64 p.idx,.int .i64 p.cnt,vp] 167 (0,0)):=by rw[cP];exact heap_alloc_new w3 _
  have lB:w4.heap[w.heap.size+1]?=some (.cells zSta 118 (0,0)):=(aM.block _ (by omega)).trans dv;have Tx:=h_ (Tv.later aM);have c1:=cell_of_row w4 w3.heap.size 1 _ _ _ Tw;simp only[v_]at c1;have HPR:=h_ Tw;have oH:=h_ lB;have HP:=h_ hp;have fR:w3.heap.size+1=w4.heap.size:=by rw[cP];simp
  rw[Hj]at cP bJ c1 du⊢;have di:=h_ fR;have Xt:=h_ Hj;clear aD tw hq ae pt aM Tw lB dv eT hp fR Hj;go_upto_region 5 with fail
  refine xr cP ?_;clear cP bJ;by_cases hpar:q%2=area
  ·have Fi:((q:Int)%2==(area:Int))=true:=by rw[beq_iff_eq];omega
   have Bf:((q:Int)%2 != (area:Int))=false:=by rw[bne_eq_false_iff_eq];omega
   have MS:xCn w4 ⟨g,0,none⟩ LS:=⟨λi hi=>by
    obtain⟨g',cap',e1,h1,h2,h3,_,h5,h6⟩:=xE8 Tx.out i hi;cases h1;exact⟨e1,by rw[an_,aq_];exact h2,h3,h5,h6⟩⟩
   have mH:=xZu (q:Int) 0 ⟨g,0,none⟩ LS cap w4 (HK.below bt.out (aa_ _)) MS ⟨by omega,by omega,by omega,by omega,by omega,by omega⟩ (by rw[HL.out];exact MR) (by rw[HL.out];omega);rw[HL.out]at mH;have MT:=h_ mH;clear MS mH;go_upto_region 7 with fail
   clear Fi Bf;go_wp2_with fail;refine MT.mono ?_;rintro e w5 ⟨aF,rv,l,x1,x2,rfl,i3,io⟩;rw[xMn LS.length 0 LS (aa_ _)]at io;obtain⟨ra,rc,Fj⟩:=yd i3.own;have ao:l.length<=1000000:=by
    have h1:l.length=(ux sha (q:Int) LS.length 0 LS).length:=by rw[<-io];simp
    have:=xR3 (H:=sha) (gen:=(q:Int)) LS.length 0 LS;have:=HL.out;omega
   have aU:=h_ (bt.trans (aF.mono bt.size));have po:Hid (w5.heap[w.heap.size+1]?=some (.cells zSta 118 (0,0))):=h_ ((aF.block _ (i_ oH.out).1).trans oH.out);have Fk:zl sha area LS=xN1 area q (l.map Prod.fst):=by
    rw[io,Be.out];exact yAb HP.out Xt.out hpar
   have sO:=h_ Fk;have AB:=h_ i3;have MU:=h_ aF;have g_:=jC 0 0 (.slice none 0 0) 0 rfl;have bu:xM w5 (w.heap.size+1) 4=true:=by unfold xM;rw[po.out];rfl
   subst Fj;clear Fk i3 aF io;cases l with
   |nil=>
    have b7:=h_ (xK aU.out (show w.heap.size<=w.heap.size+1 by omega) zSta);have HR:=h_ (xD (n:=4) (setRow_heap _ (w.heap.size+1) _ zSta _ _ po.out) rfl);unfold zSta at b7 HR;simp only[bm_];go_wp2;refine bodyPost_ret (v:=.tuple #[.agg zSta,.bool false,.int .i64 0]) ?_ rfl (fN.out _ _ b7.out ⟨0,0,.slice none 0 0,false,rfl,⟨_,_,_,rfl⟩,by rw[sO.out];rfl⟩);exact uF rfl isAgg118 sizeOf118 _ _ ⟨w.heap.size+1,0,none⟩ _ _ _ rfl rfl rfl HR.1 HR.2
   |cons x xs=>
    obtain⟨gr,RG,gp,pcap,mX,Bg,aJ,eN,wL,hpl,o8,im⟩:=AB.get 0 (by simp);cases mX
    obtain⟨nl,dY⟩:∃nl,nl=(x :: xs).length:=⟨_,rfl⟩;rw[<-dY]at Bg ao⊢;have Hv:nl=xs.length+1:=by rw[dY];rfl
    have k0:=aJ 0 _ rfl;have k3:=aJ 3 _ rfl;simp only[bZ_,aq_,List.getElem_cons_zero]at k0 k3 eN hpl im;have pC:(1:Int)<=nl:=by omega
    have Te:((nl:Int)==0)=false:=by rw[beq_eq_false_iff_ne];omega
    have wZ:=h_ Hv;have Dm:=h_ eN;have HKC:=h_ aJ;have MV:=h_ Bg;by_cases hk1:x.1.kind=1
    ·have DI:(x.1.kind != 1)=false:=by rw[bne_eq_false_iff_eq];exact hk1
     have Ty:=xI2 x.1.pay ⟨gp,0,none⟩ pcap w5 im wL hpl (ad_ hpl o8);obtain⟨hf,hc,aD,oo,eW,Kb⟩:=xV5 (kU x.1.pay);rw[oo]at Ty;have HHN:=h_ Ty;have Xu:=h_ (And.intro eW Kb);have cu:=xUd gr nl rc (by omega) Bg;clear Ty eW Kb oo im wL hpl aJ eN dY Hv;go_wp2_with fail;refine HHN.mono ?_;rintro e w6 ⟨bV,rfl⟩;have Tz:=jC q hf (.slice none 0 0) 0 rfl;have k1:=(bV.cell (p:=⟨w3.heap.size,1,none⟩) (by have:=di.out;have:=MU.size;show w3.heap.size<w5.heap.size;omega)).trans ((MU.cell (p:=⟨w3.heap.size,1,none⟩) (by have:=di.out;show w3.heap.size<w4.heap.size;omega)).trans c1);have fb:=h_ (aU.trans (bV.mono aU.size));have Bh:Hid (w6.heap[w.heap.size+1]?=some (.cells zSta 118 (0,0))):=h_ ((bV.block _ (i_ po.out).1).trans po.out);have l_:=h_ (AB.later bV);have aO:Hid (LlSt w6 q hf xs 0 (w6.alloc (.cells #[.int .i64 q,.int .i64 hf,.slice none 0 0,.int .i64 0] 118))):=h_ ⟨(ab_ _ _).alloc (aa_ _) _,⟨_,heap_alloc_new w6 _,aP_ _ _ _ _⟩,λx hx=>by cases hx⟩;obtain⟨bo,Mc⟩:∃bo,bo=if rc=1 then 0 else 4:=⟨_,rfl⟩
     rw[<-Mc]at cu;have HBO:=h_ Mc;obtain⟨xn,Xv⟩:∃xn,xn=xs.length:=⟨_,rfl⟩;have bj:nl-1=xn:=by have:=wZ.out;omega
     rw[bj]at cu;have DJ:=h_ Xv;have Tm:(xn:Int)<=1000000:=by have:=wZ.out;omega
     have nQ:(0:Int)<=1:=by decide
     clear k0 k3 DI c1 bV Mc bj Xv;go_wp2;go_loopw [86] (λu wr=>∃k:Nat,u=.int .i64 k/\k<=xn/\Hid (LlSt w6 q hf xs k wr)) (λu _=>xn-(intOf u).toNat)
     case atStart=>exact⟨0,rfl,aV_ _,aO⟩
     case round=>
      obtain⟨k,rfl,hk,HS⟩:=hrel;by_cases hlt:k<xn
      ·have cr:(k:Int)<xn:=by omega
       have Xr:k<xs.length:=by rw[<-DJ.out];exact hlt
       obtain rfl:bo=4:=by rw[HBO.out];exact if_neg (by have:=MV.out;have:=wZ.out;omega)
       have DK:=l_.later HS.bel;obtain⟨g9,c9,gq,qcap,TA,_,Hw,ET,hgq,QV,hqm,Xw⟩:=DK.get (k+1) (by rw[av_];omega);cases TA
       simp only[List.getElem_cons_succ]at Hw ET QV Xw;obtain⟨ro,rr⟩:=RcAt.rd (show (y9 xs[k].1.kind xs[k].1.gen xs[k].1.num (.slice (some ⟨gq,0,none⟩) xs[k].1.pay.length qcap)).length=4 from rfl) Hw;rw[show (k+1)*4=4+k*4 by omega]at ro rr;unfold y9 at rr;obtain⟨y,hy⟩:∃y,y=xs[k]:=⟨_,rfl⟩;rw[<-hy]at rr;have bJ:=xKa y.1.kind y.1.gen y.1.num (.slice (some ⟨gq,0,none⟩) y.1.pay.length qcap) rfl;have aM:Below wr.heap.size wr (wr.alloc (.cells #[.int .i64 y.1.kind,.int .i64 y.1.gen,.int .i64 y.1.num,.slice (some ⟨gq,0,none⟩) y.1.pay.length qcap] 172)):=(ab_ _ _).alloc (aa_ _) _;have Fl:=heap_alloc_new wr (.cells #[.int .i64 y.1.kind,.int .i64 y.1.gen,.int .i64 y.1.num,.slice (some ⟨gq,0,none⟩) y.1.pay.length qcap] 172);obtain⟨w7,da⟩:∃w7,w7=wr.alloc (.cells #[.int .i64 y.1.kind,.int .i64 y.1.gen,.int .i64 y.1.num,.slice (some ⟨gq,0,none⟩) y.1.pay.length qcap] 172):=⟨_,rfl⟩;have HY:=h_ hy;have HX9:=h_ ET;clear Hw hy ET QV hqm Xw;go_upto_region 15 with fail
       refine xr da ?_;rw[<-da]at aM Fl;clear da ro rr bJ;have eQ:=h_ aM;have c0:=cell_of_row w7 wr.heap.size 0 _ _ _ Fl;have c3:=cell_of_row w7 wr.heap.size 3 _ _ _ Fl;simp only[v_]at c0 c3;clear Fl aM;by_cases hk2:y.1.kind=2
       ·have MW:(y.1.kind != 2)=false:=by rw[bne_eq_false_iff_eq];exact hk2
        obtain⟨ev,ah,ae⟩:=HS.st;obtain⟨ea,ec,eL⟩:=yd ae;have Bi:=(eQ.block _ (i_ ah).1).trans ah;have ce:=cell_of_row w7 w6.heap.size 2 _ _ _ Bi;simp only[v_]at ce;obtain⟨i0,hi,bd,aL,bk⟩:=info_parts Tryz.info_slb;have HI:=h_ (And.intro hi (And.intro bd (And.intro aL bk)));have CC:Below w7.heap.size w7 (w7.alloc (.cells #[.slice (some ⟨gq,0,none⟩) y.1.pay.length qcap] 31)):=(ab_ _ _).alloc (aa_ _) _;have dW:=vv ae (w':=w7.alloc (.cells #[.slice (some ⟨gq,0,none⟩) y.1.pay.length qcap] 31)) λg _ hg=>(CC.block g (ap_ hg eQ.size)).trans (eQ.block g hg)
        have As:(w7.alloc (.cells #[.slice (some ⟨gq,0,none⟩) y.1.pay.length qcap] 31)).cell? ⟨w7.heap.size,0,none⟩=some (.slice (some ⟨gq,0,none⟩) y.1.pay.length qcap):=by rw[yz];rfl
        have Hx:w6.heap.size+1<=(w7.alloc (.cells #[.slice (some ⟨gq,0,none⟩) y.1.pay.length qcap] 31)).heap.size:=by
         have h1:=(i_ Bi).1;rw[al_];omega
        have sv:k+1<=maxLen:=by unfold maxLen;omega
        have MX:xs[k].2=.slice (some ⟨gq,0,none⟩) y.1.pay.length qcap:=by rw[HY.out];exact HX9.out
        have hbC:=h_ (eQ.trans (CC.mono eQ.size));have MY:=h_ (λj (hj:ev.ownBlock=some j)=>(aL_ ae j hj).1);have Fm:=h_ (λv' W2 (h1:W2.ownsRow (w6.heap.size+1) 31 1 v' (k+1) ((xs.take k).map Prod.snd++[xs[k].2])) (h2:(w7.alloc (.cells #[.slice (some ⟨gq,0,none⟩) y.1.pay.length qcap] 31)).grownBy W2 ev.ownBlock)=>HS.next Xr (by rw[<-HY.out];exact hk2) hbC.out ah MY.out h1 h2);rw[MX]at Fm;have bX:=h_ ah;have sF:=h_ dW;have GB:=h_ As;have gB:=h_ Hx;have HKM:=h_ sv;have TB:k+1<=xn:=hlt;rw[eL]at ce sF;have Xx:=h_ eL;have TC:(k:Int)<=1000000:=by omega
        have Hy:Hid ((k+1)*24<=140737488355328):=h_ (by omega);clear ah ae Bi hi bd aL bk CC dW As Hx MX sv eL MY
        go_wp2_with (at_builtin;refine wpList_append_own_at _ rfl (.tmp 94) (.tmp 97) 116 rfl (w6.heap.size+1) 31 i0 (.slice none 0 0) 1 24 underlying116 HI.1 HI.2.1 HI.2.2.1 HI.2.2.2 rfl (by decide) _ k _ rfl sF.out ⟨w7.heap.size,0,none⟩ 1 1 [.slice (some ⟨gq,0,none⟩) y.1.pay.length qcap] rfl rfl (λj u hj=>by
          match j,hj with
          |0,hj=>
           simp only[aC_,aR_]at hj;subst hj;rw[an_];exact GB.out) (λu hu=>by simp at hu;rw[hu];rfl) HKM.out Hy.out gB.out ?_)
        intro v' w9 h9 DL _ _;rw[<-du_]at h9;obtain⟨va,vc,TA⟩:=yd h9;have bj:=Fm.out v' w9 h9 (by rw[Xx.out];exact DL);have f9:=frozen_of_row w9 w6.heap.size 2 _ _ bj.1;have c9:=cell_of_row w9 w6.heap.size 2 _ _ _ bj.1;simp only[v_]at c9;have HN:=h_ bj.2;subst TA;rw[Xx.out]at c9;clear bj h9 DL c0 c3 ce;go_wp2;go_roundw
        case rel=>exact⟨k+1,by go_num,TB,HN⟩
        case measure=>simp[intOf];omega
       ·have MW:(y.1.kind != 2)=true:=by rw[bne_iff_ne];exact hk2
        go_upto_region 18 with fail
        have dw:=h_ (HS.later eQ.out);obtain⟨ev,ah,bS⟩:=dw.en (B:=w.heap.size+2) (λy hy=>by have:=l_.el y (by simp[hy]);exact⟨this.1.base (i_ oH.out).1,this.2.1⟩) (i_ Bh.out).1 (by rw[<-DJ.out];exact hk);obtain⟨ea,ec,eL⟩:=yd bS.own;have cW:((xs.take k).map λx=>x.1.pay).length=k:=by rw[aQ_,ai_,<-DJ.out];omega
        rw[cW]at eL;subst eL;have eB:=h_ bS;have bX:=h_ ah;have om:=h_ (show k=xs.length\/∃h:k<xs.length,xs[k].1.kind≠2 from .inr ⟨by rw[<-DJ.out];exact hlt,by rw[<-HY.out];exact hk2⟩);have TC:(k:Int)<=1000000:=by omega
        have z1:∀z:StC w6.heap.size #[.int .i64 q,.int .i64 hf,.slice ea k ec,.int .i64 0],xo z.1 ⟨w6.heap.size,0,none⟩ 4=true:=λz=>(xD (n:=4) z.2 rfl).1
        have z2:∀z:StC w6.heap.size #[.int .i64 q,.int .i64 hf,.slice ea k ec,.int .i64 0],xm z.1 ⟨w6.heap.size,0,none⟩ 4=#[.int .i64 q,.int .i64 hf,.slice ea k ec,.int .i64 0]:=λz=>(xD (n:=4) z.2 rfl).2
        have z3:∀z:StC w6.heap.size #[.int .i64 q,.int .i64 hf,.slice ea k ec,.int .i64 0],z.1.cell? ⟨w6.heap.size,2,none⟩=some (.slice ea k ec):=λz=>z.cell 2
        haveI:Nonempty (StC w6.heap.size #[.int .i64 q,.int .i64 hf,.slice ea k ec,.int .i64 0]):=⟨⟨_,ah⟩⟩
        have MZ:w7.drew.heap[w.heap.size+1]?=some (.cells zSta 118 (0,0)):=(dw.bel.block _ (i_ Bh.out).1).trans Bh.out;have M0:Below w.heap.size w w7.drew:=fb.trans (dw.bel.drew.mono fb.size);have Bj:w.heap.size+1≠w6.heap.size:=eb_ (i_ Bh.out).1;clear bS ah cW;refine zS [0,1,2,3,4,5,6,7,8] [9,10,11] 3 (λw'=>∃z:StC w6.heap.size #[.int .i64 q,.int .i64 hf,.slice ea k ec,.int .i64 0],w'=z.1) (by kernel_rfl) (by kernel_rfl) rfl ⟨⟨w7.drew,bX.out⟩,rfl⟩ ?_;simp only[o_];have M1:=h_ MZ;have TD:=h_ M0;have TE:=h_ Bj;clear MZ M0 Bj;by_cases hge:hc<=(k:Int)
        case' pos=>have fT:decide (hc<=(k:Int))=true:=decide_eq_true hge
        case' neg=>have fT:decide (hc<=(k:Int))=false:=decide_eq_false hge
        all_goals
         have aS:=h_ (λ(W:World) (h:EnAt W w.heap.size (.slice ea k ec) ((xs.take k).map λx=>x.1.pay) ((xs.take k).map Prod.snd))=>xRu sO.out hk1 Xu.out (by rw[<-DJ.out];exact hk) dw.kinds om.out h);cases aD
        all_goals
         repeat (go_big_quiet_step (fail))
         refine wpQuiet_nil ?_;clear z1 z2 z3;refine zz [9,10,11] rfl (by kernel_rfl) (by kernel_rfl) (by kernel_rfl) ?_;have TF:xM w7.drew (w.heap.size+1) 4=true:=by unfold xM;rw[M1.out];rfl
         have hfT:=jC q hf (.slice ea k ec) 0 rfl;have Hz:(w7.drew.setRow (w.heap.size+1) #[.int .i64 q,.int .i64 hf,.slice ea k ec,.int .i64 0]).heap[w6.heap.size]?=some (.cells #[.int .i64 q,.int .i64 hf,.slice ea k ec,.int .i64 0] 118 (0,0)):=(setRow_other _ _ _ _ TE.symm).trans bX.out;refine yb true (by kernel_rfl) (by kernel_rfl) ?_;simp only[o_];go_wp2;refine⟨λ_=>⟨⟨_,Hz⟩,rfl⟩,xB [10,11] _ _ (by kernel_rfl) ?_⟩;simp only[o_];go_wp2;refine ag_ ?_;go_wp2;have Bk:=eB.under (w':=(w7.setRow (w.heap.size+1) #[.int .i64 q,.int .i64 hf,.slice ea k ec,.int .i64 0]).drew) λg hg _=>setRow_other _ _ _ _ (by omega)
         have b7:=(xK TD.out (show w.heap.size<=w.heap.size+1 by omega) #[.int .i64 q,.int .i64 hf,.slice ea k ec,.int .i64 0]);have HR:=xD (n:=4) (setRow_heap w7.drew (w.heap.size+1) _ #[.int .i64 q,.int .i64 hf,.slice ea k ec,.int .i64 0] _ _ M1.out) rfl
         first
          |exact bodyPost_ret (v:=.tuple #[.agg #[.int .i64 q,.int .i64 hf,.slice ea k ec,.int .i64 0],.bool (false&&decide (hc<=(k:Int))),.int .i64 0]) (uF rfl isAgg118 sizeOf118 _ _ ⟨w.heap.size+1,0,none⟩ _ _ _ rfl (by rw[fT];rfl) rfl HR.1 HR.2) rfl (fN.out _ _ b7 ⟨q,hf,.slice ea k ec,_,rfl,⟨_,_,_,rfl⟩,aS.out _ (Bk.base (by omega))⟩)
          |exact bodyPost_ret (v:=.tuple #[.agg #[.int .i64 q,.int .i64 hf,.slice ea k ec,.int .i64 0],.bool (true&&decide (hc<=(k:Int))),.int .i64 0]) (uF rfl isAgg118 sizeOf118 _ _ ⟨w.heap.size+1,0,none⟩ _ _ _ rfl (by rw[fT];rfl) rfl HR.1 HR.2) rfl (fN.out _ _ b7 ⟨q,hf,.slice ea k ec,_,rfl,⟨_,_,_,rfl⟩,aS.out _ (Bk.base (by omega))⟩)
      ·obtain rfl:k=xn:=by omega
       go_upto_region 18 with fail
       have dw:=h_ (HS.out);obtain⟨ev,ah,bS⟩:=dw.en (B:=w.heap.size+2) (λy hy=>by have:=l_.el y (by simp[hy]);exact⟨this.1.base (i_ oH.out).1,this.2.1⟩) (i_ Bh.out).1 (by rw[<-DJ.out];exact hk);obtain⟨ea,ec,eL⟩:=yd bS.own;have cW:((xs.take k).map λx=>x.1.pay).length=k:=by rw[aQ_,ai_,<-DJ.out];omega
       rw[cW]at eL;subst eL;have eB:=h_ bS;have bX:=h_ ah;have om:=h_ (show k=xs.length\/∃h:k<xs.length,xs[k].1.kind≠2 from .inl DJ.out);have TC:(k:Int)<=1000000:=by omega
       have z1:∀z:StC w6.heap.size #[.int .i64 q,.int .i64 hf,.slice ea k ec,.int .i64 0],xo z.1 ⟨w6.heap.size,0,none⟩ 4=true:=λz=>(xD (n:=4) z.2 rfl).1
       have z2:∀z:StC w6.heap.size #[.int .i64 q,.int .i64 hf,.slice ea k ec,.int .i64 0],xm z.1 ⟨w6.heap.size,0,none⟩ 4=#[.int .i64 q,.int .i64 hf,.slice ea k ec,.int .i64 0]:=λz=>(xD (n:=4) z.2 rfl).2
       have z3:∀z:StC w6.heap.size #[.int .i64 q,.int .i64 hf,.slice ea k ec,.int .i64 0],z.1.cell? ⟨w6.heap.size,2,none⟩=some (.slice ea k ec):=λz=>z.cell 2
       haveI:Nonempty (StC w6.heap.size #[.int .i64 q,.int .i64 hf,.slice ea k ec,.int .i64 0]):=⟨⟨_,ah⟩⟩
       have MZ:wr.drew.heap[w.heap.size+1]?=some (.cells zSta 118 (0,0)):=(dw.bel.block _ (i_ Bh.out).1).trans Bh.out;have M0:Below w.heap.size w wr.drew:=fb.trans (dw.bel.drew.mono fb.size);have Bj:w.heap.size+1≠w6.heap.size:=eb_ (i_ Bh.out).1;clear bS ah cW;refine zS [0,1,2,3,4,5,6,7,8] [9,10,11] 3 (λw'=>∃z:StC w6.heap.size #[.int .i64 q,.int .i64 hf,.slice ea k ec,.int .i64 0],w'=z.1) (by kernel_rfl) (by kernel_rfl) rfl ⟨⟨wr.drew,bX.out⟩,rfl⟩ ?_;simp only[o_];have M1:=h_ MZ;have TD:=h_ M0;have TE:=h_ Bj;clear MZ M0 Bj;by_cases hge:hc<=(k:Int)
       case' pos=>have fT:decide (hc<=(k:Int))=true:=decide_eq_true hge
       case' neg=>have fT:decide (hc<=(k:Int))=false:=decide_eq_false hge
       all_goals
        have aS:=h_ (λ(W:World) (h:EnAt W w.heap.size (.slice ea k ec) ((xs.take k).map λx=>x.1.pay) ((xs.take k).map Prod.snd))=>xRu sO.out hk1 Xu.out (by rw[<-DJ.out];exact hk) dw.kinds om.out h);cases aD
       all_goals
        repeat (go_big_quiet_step (fail))
        refine wpQuiet_nil ?_;clear z1 z2 z3;refine zz [9,10,11] rfl (by kernel_rfl) (by kernel_rfl) (by kernel_rfl) ?_;have TF:xM wr.drew (w.heap.size+1) 4=true:=by unfold xM;rw[M1.out];rfl
        have hfT:=jC q hf (.slice ea k ec) 0 rfl;have Hz:(wr.drew.setRow (w.heap.size+1) #[.int .i64 q,.int .i64 hf,.slice ea k ec,.int .i64 0]).heap[w6.heap.size]?=some (.cells #[.int .i64 q,.int .i64 hf,.slice ea k ec,.int .i64 0] 118 (0,0)):=(setRow_other _ _ _ _ TE.symm).trans bX.out;refine yb true (by kernel_rfl) (by kernel_rfl) ?_;simp only[o_];go_wp2;refine⟨λ_=>⟨⟨_,Hz⟩,rfl⟩,xB [10,11] _ _ (by kernel_rfl) ?_⟩;simp only[o_];go_wp2;refine ag_ ?_;go_wp2;have Bk:=eB.under (w':=(wr.setRow (w.heap.size+1) #[.int .i64 q,.int .i64 hf,.slice ea k ec,.int .i64 0]).drew) λg hg _=>setRow_other _ _ _ _ (by omega)
        have b7:=(xK TD.out (show w.heap.size<=w.heap.size+1 by omega) #[.int .i64 q,.int .i64 hf,.slice ea k ec,.int .i64 0]);have HR:=xD (n:=4) (setRow_heap wr.drew (w.heap.size+1) _ #[.int .i64 q,.int .i64 hf,.slice ea k ec,.int .i64 0] _ _ M1.out) rfl
        first
         |exact bodyPost_ret (v:=.tuple #[.agg #[.int .i64 q,.int .i64 hf,.slice ea k ec,.int .i64 0],.bool (false&&decide (hc<=(k:Int))),.int .i64 0]) (uF rfl isAgg118 sizeOf118 _ _ ⟨w.heap.size+1,0,none⟩ _ _ _ rfl (by rw[fT];rfl) rfl HR.1 HR.2) rfl (fN.out _ _ b7 ⟨q,hf,.slice ea k ec,_,rfl,⟨_,_,_,rfl⟩,aS.out _ (Bk.base (by omega))⟩)
         |exact bodyPost_ret (v:=.tuple #[.agg #[.int .i64 q,.int .i64 hf,.slice ea k ec,.int .i64 0],.bool (true&&decide (hc<=(k:Int))),.int .i64 0]) (uF rfl isAgg118 sizeOf118 _ _ ⟨w.heap.size+1,0,none⟩ _ _ _ rfl (by rw[fT];rfl) rfl HR.1 HR.2) rfl (fN.out _ _ b7 ⟨q,hf,.slice ea k ec,_,rfl,⟨_,_,_,rfl⟩,aS.out _ (Bk.base (by omega))⟩)
    ·have DI:(x.1.kind != 1)=true:=by rw[bne_iff_ne];exact hk1
     have dE:zl sha area LS=none:=by rw[sO.out];unfold xN1;simp only[au_];rw[if_pos hk1]
     have oI:=h_ dE;have b7:=h_ (xK aU.out (show w.heap.size<=w.heap.size+1 by omega) zSta);have HR:=h_ (xD (n:=4) (setRow_heap _ (w.heap.size+1) _ zSta _ _ po.out) rfl);unfold zSta at b7 HR;clear dE hk1 aJ eN hpl im wL dY Hv;go_wp2;refine bodyPost_ret (v:=.tuple #[.agg zSta,.bool false,.int .i64 0]) ?_ rfl (fN.out _ _ b7.out ⟨0,0,.slice none 0 0,false,rfl,⟨_,_,_,rfl⟩,by rw[oI.out]⟩);exact uF rfl isAgg118 sizeOf118 _ _ ⟨w.heap.size+1,0,none⟩ _ _ _ rfl rfl rfl HR.1 HR.2
  ·have Fi:((q:Int)%2==(area:Int))=false:=by rw[beq_eq_false_iff_ne];omega
   have Bf:((q:Int)%2 != (area:Int))=true:=by rw[bne_iff_ne];omega
   have g_:=jC 0 0 (.slice none 0 0) 0 rfl;have bu:xM w4 (w.heap.size+1) 4=true:=by unfold xM;rw[oH.out];rfl
   have dE:zl sha area LS=none:=by
    rw[Be.out];unfold zl;simp only[HP.out];rw[if_pos (by rw[Xt.out];exact hpar)]
   have oI:=h_ dE;have b7:=h_ (xK bt.out (show w.heap.size<=w.heap.size+1 by omega) zSta);have HR:=h_ (xD (n:=4) (setRow_heap _ (w.heap.size+1) _ zSta _ _ oH.out) rfl);unfold zSta at b7 HR;clear dE hpar;go_wp2;refine bodyPost_ret (v:=.tuple #[.agg zSta,.bool false,.int .i64 0]) ?_ rfl (fN.out _ _ b7.out ⟨0,0,.slice none 0 0,false,rfl,⟨_,_,_,rfl⟩,by rw[oI.out]⟩);exact uF rfl isAgg118 sizeOf118 _ _ ⟨w.heap.size+1,0,none⟩ _ _ _ rfl rfl rfl HR.1 HR.2
 ·have aV:(r==0)=false:=by rw[beq_eq_false_iff_ne];exact hr
  have aP:(r != 0)=true:=by rw[bne_iff_ne];exact hr
  have gw:=xCe;have g_:=jC 0 0 (.slice none 0 0) 0 rfl;unfold zg;have aM:Below w3.heap.size w3 (w3.alloc (.cells uC 167)):=(ab_ _ _).alloc (aa_ _) _;have ah:(w3.alloc (.cells uC 167)).heap[w.heap.size+1]?=some (.cells zSta 118 (0,0)):=(aM.block _ (by omega)).trans dv;have bu:xM (w3.alloc (.cells uC 167)) (w.heap.size+1) 4=true:=by unfold xM;rw[ah];rfl
  unfold uC at bu ah;have dE:zl sha area LS=none:=by rw[Be.out];unfold zl;simp only[bp]
  have oI:=h_ dE;have aQ:Below w.heap.size w (w3.alloc (.cells uC 167)):=ay.trans (aM.mono ay.size);have b7:=h_ (xK aQ (show w.heap.size<=w.heap.size+1 by omega) zSta);have HR:=h_ (xD (n:=4) (setRow_heap _ (w.heap.size+1) _ zSta _ _ ah) rfl);unfold uC zSta at b7 HR;clear bp hr aM dE ah aQ dv;go_wp2;refine bodyPost_ret (v:=.tuple #[.agg zSta,.bool false,.int .i64 0]) ?_ rfl (fN.out _ _ b7.out ⟨0,0,.slice none 0 0,false,rfl,⟨_,_,_,rfl⟩,by rw[oI.out]⟩);exact uF rfl isAgg118 sizeOf118 _ _ ⟨w.heap.size+1,0,none⟩ _ _ _ rfl rfl rfl HR.1 HR.2
end
def qx (W:World)(B:Nat)(c:Bool)(o:Option PJ)(g f:Int)(v:Value):Prop:=(∃x n k,v=.slice x n k)/\match o with
 |none=>c=false
 |some j=>c=true/\g=j.gen/\f=j.first/\∃vs,EnAt W B v j.entries vs
theorem qx.under {W W' B c o g f v}(h:qx W B c o g f v)(hb:∀k,B<=k->k<W.heap.size->W'.heap[k]?=W.heap[k]?):qx W' B c o g f v:=by
 refine⟨h.1,?_⟩;have h2:=h.2;cases o with
 |none=>exact h2
 |some j=>exact⟨h2.1,h2.2.1,h2.2.2.1,h2.2.2.2.choose,h2.2.2.2.choose_spec.under hb⟩
theorem qx.base {W B B' c o g f v}(h:qx W B c o g f v)(hb:B'<=B):qx W B' c o g f v:=by
 refine⟨h.1,?_⟩;have h2:=h.2;cases o with
 |none=>exact h2
 |some j=>exact⟨h2.1,h2.2.1,h2.2.2.1,h2.2.2.2.choose,h2.2.2.2.choose_spec.base hb⟩
def xV (g f:Int)(v:Value):List Value:=[.int .i64 g,.int .i64 f,v,.int .i64 0]
structure CuSt (w:World)(p n:Nat)(d:PD)(cs:List Value)(W:World):Prop where
 bel:Below w.heap.size w W
 st:W.heap[w.heap.size]?=some (.cells (xE p n) 113 (0,0))
 res:W.heap[w.heap.size+1]?=some (.cells zSta 118 (0,0))
 areas:W.heap[w.heap.size+1+1]?=some (.cells cs.toArray 175 (0,0))
theorem CuSt.load {w p n d cs W W1}(h:CuSt w p n d cs W)(hb:Below W.heap.size W W1):CuSt w p n d cs W1:=
 ⟨h.bel.trans (hb.mono h.bel.size),(hb.block _ (i_ h.st).1).trans h.st,(hb.block _ (i_ h.res).1).trans h.res,(hb.block _ (i_ h.areas).1).trans h.areas⟩
theorem CuSt.set {w p n d cs W}(h:CuSt w p n d cs W)(cs'):CuSt w p n d cs' (W.setRow (w.heap.size+1+1) cs'.toArray):=
 ⟨xK h.bel (by omega) _,(setRow_other _ _ _ _ (by omega)).trans h.st,(setRow_other _ _ _ _ (by omega)).trans h.res,setRow_heap _ _ _ _ _ _ h.areas⟩
def xTv (d:PD)(w:World)(e:Ending)(w':World):Prop:=
 Below w.heap.size w w'/\∃(a g f:Int) (v:Value) (c:Bool),e=.returned (.tuple #[.int .i64 a,.agg #[.int .i64 g,.int .i64 f,v,.int .i64 0],.bool c,.int .i64 0])/\(∀j,curP sha d.n d=some j->a=j.area)/\qx w' w.heap.size c (curP sha d.n d) g f v
theorem xG9 {H:By->By}{area l x}(h:zl H area l=some x):x.area=area:=(xRt H h).1
theorem xRs {d area W W' e}(h:xD8 d area W e W'):Below W.heap.size W W'/\∃(g f:Int) (x:Option Addr) (m k:Nat) (c:Bool),e=.returned (.tuple #[.agg #[.int .i64 g,.int .i64 f,.slice x m k,.int .i64 0],.bool c,.int .i64 0])/\qx W' W.heap.size c (zl sha area (d.area d.n area)) g f (.slice x m k):=by
 obtain⟨hb,g,f,v,c,he,⟨x,m,k,rfl⟩,hm⟩:=h;exact⟨hb,g,f,x,m,k,c,he,⟨_,_,_,rfl⟩,hm⟩
theorem yDe {d W B c0 c1 g0 f0 g1 f1 v0 v1}(h0:qx W B c0 (zl sha 0 (d.area d.n 0)) g0 f0 v0)(h1:qx W B c1 (zl sha 1 (d.area d.n 1)) g1 f1 v1):
  ((c1&&(!c0||decide (g0<g1)))=true->(∀j,curP sha d.n d=some j->(1:Int)=j.area)/\qx W B true (curP sha d.n d) g1 f1 v1) /\
  ((c1&&(!c0||decide (g0<g1)))=false->(∀j,curP sha d.n d=some j->(0:Int)=j.area)/\qx W B c0 (curP sha d.n d) g0 f0 v0):=by
 unfold curP;cases e0:zl sha 0 (d.area d.n 0) with
 |none=>
  rw[e0]at h0;have hc0:c0=false:=h0.2;subst hc0;cases e1:zl sha 1 (d.area d.n 1) with
  |none=>
   rw[e1]at h1;have dO:c1=false:=h1.2;subst dO;exact⟨λh=>(by simp at h),λ_=>⟨λj hj=>(by simp at hj),h0⟩⟩
  |some b=>
   rw[e1]at h1;have dO:c1=true:=h1.2.1;subst dO;refine⟨λ_=>⟨λj hj=>?_,h1⟩,λh=>(by simp at h)⟩;have:=xG9 e1;simp only[aR_]at hj;rw[<-hj,this];rfl
 |some a=>
  rw[e0]at h0;have hc0:c0=true:=h0.2.1;have tw:g0=a.gen:=h0.2.2.1;have ha:=xG9 e0;subst hc0;cases e1:zl sha 1 (d.area d.n 1) with
  |none=>
   rw[e1]at h1;have dO:c1=false:=h1.2;subst dO;refine⟨λh=>(by simp at h),λ_=>⟨λj hj=>?_,h0⟩⟩;simp only[aR_]at hj;rw[<-hj,ha];rfl
  |some b=>
   rw[e1]at h1;have dO:c1=true:=h1.2.1;have du:g1=b.gen:=h1.2.2.1;have hb:=xG9 e1;subst dO;by_cases hlt:a.gen<b.gen
   ·simp only[if_pos hlt];refine⟨λ_=>⟨λj hj=>?_,h1⟩,λh=>?_⟩
    ·simp only[aR_]at hj;rw[<-hj,hb];rfl
    ·simp at h;omega
   ·simp only[if_neg hlt];refine⟨λh=>?_,λ_=>⟨λj hj=>?_,h0⟩⟩
    ·simp at h;omega
    ·simp only[aR_]at hj;rw[<-hj,ha];rfl
section
attribute [local go_sem ↓] uh zI jx vK
attribute [local go_sem] xAa xA6 xJn xIm zn zu yx yw xh xf xa x9 xu xv xk xj
theorem xZx {P fn s p t u ty n}(h:fn.results=#[.tmp s,.cell p ty,.tmp t,.tmp u])(hA:∀w,Sem.run P (isAgg ty) w=.ok true w)(hs:∀w,Sem.run P (Go.sizeOf ty) w=.ok n w)
  (tmps) (w) (a) (cs) (v0 v v2) (hp:tmps.getD p undef=.pointer (some a)) (M3:tmps.getD s undef=v0) (hv:tmps.getD t undef=v) (mX:tmps.getD u undef=v2) (aD:xo w a n=true) (eR:xm w a n=cs):
  (results fn tmps).run P w=.ok (.tuple #[v0,.agg cs,v,v2]) w:=by
 have nW:tmps[p]?.getD undef=.pointer (some a):=by simpa using hp
 have TG:tmps[s]?.getD undef=v0:=by simpa using M3
 have fB:tmps[t]?.getD undef=v:=by simpa using hv
 have GD:tmps[u]?.getD undef=v2:=by simpa using mX
 have hl:(loadVar ty a).run P w=.ok (.agg cs) w:=by
  simp[loadVar,hA,hs,zf w a n aD,eR]
 simp[results,h,nW,TG,fB,GD,asAddr,hl]
theorem xXh (W b g f g' f' g1 f1 x m k v' v1)(h:W.heap[b]?=some (.cells (xV g' f' v' ++ xV g1 f1 v1).toArray 175 (0,0))):
  yi prog 118 W (.pointer (some ⟨b,0,none⟩)) (.agg #[.int .i64 g,.int .i64 f,.slice x m k,.int .i64 0])=.ok .skip (W.setRow b #[.int .i64 g,.int .i64 f,.slice x m k,.int .i64 0,.int .i64 g1,.int .i64 f1,v1,.int .i64 0]):=by
 have:=k8 sizeOf118 W b 0 _ _ h (xV g f (.slice x m k)) rfl (by simp[xV]) (λy hy=>by simp[xV]at hy;rcases hy with rfl|rfl|rfl|rfl <;> rfl);exact this
theorem xXg (W b g f g' f' g0 f0 x m k v' v0)(h:W.heap[b]?=some (.cells (xV g0 f0 v0++xV g' f' v').toArray 175 (0,0))):
  yi prog 118 W (.pointer (some ⟨b,4,none⟩)) (.agg #[.int .i64 g,.int .i64 f,.slice x m k,.int .i64 0])=.ok .skip (W.setRow b #[.int .i64 g0,.int .i64 f0,v0,.int .i64 0,.int .i64 g,.int .i64 f,.slice x m k,.int .i64 0]):=by
 have:=k8 sizeOf118 W b 4 _ _ h (xV g f (.slice x m k)) rfl (by simp[xV]) (λy hy=>by simp[xV]at hy;rcases hy with rfl|rfl|rfl|rfl <;> rfl);exact this
def ArC (b:Nat)(cs:Array Value):Type:={ z:World // z.heap[b]?=some (.cells cs 175 (0,0)) }
theorem ArC.rd0 {b a1 a2 a3 a4 b1 b2 b3 b4}(z:ArC b #[a1,a2,a3,a4,b1,b2,b3,b4]):xo z.1 ⟨b,0,none⟩ 4=true/\xm z.1 ⟨b,0,none⟩ 4=#[a1,a2,a3,a4]:=by
 have:=xW (w:=z.1) (a:=⟨b,0,none⟩) (cs:=[a1,a2,a3,a4]) (λj v hj=>by
  rw[an_,cell_of_row _ _ _ _ _ _ z.2]
  match j,hj with
  |0,hj=>exact hj
  |1,hj=>exact hj
  |2,hj=>exact hj
  |3,hj=>exact hj)
 exact this
theorem ArC.rd4 {b a1 a2 a3 a4 b1 b2 b3 b4}(z:ArC b #[a1,a2,a3,a4,b1,b2,b3,b4]):xo z.1 ⟨b,4,none⟩ 4=true/\xm z.1 ⟨b,4,none⟩ 4=#[b1,b2,b3,b4]:=by
 have:=xW (w:=z.1) (a:=⟨b,4,none⟩) (cs:=[b1,b2,b3,b4]) (λj v hj=>by
  rw[an_,cell_of_row _ _ _ _ _ _ z.2]
  match j,hj with
  |0,hj=>exact hj
  |1,hj=>exact hj
  |2,hj=>exact hj
  |3,hj=>exact hj)
 exact this
theorem xPb {D w v d}(h:yu D w v d)(hd:d.down=false)(hK:qU w)(i7:8<=d.n):
  Calls prog 48 #[.agg (xE v.p d.n)] w (xTv d w):=by
 obtain⟨w1,ai⟩:∃w1,w1=((w.alloc (.cells (xE v.p d.n) 113)).alloc (.cells zSta 118)).alloc (.cells (xV 0 0 (.slice none 0 0)++xV 0 0 (.slice none 0 0)).toArray 175):=⟨_,rfl⟩;have ax:CuSt w v.p d.n d (xV 0 0 (.slice none 0 0)++xV 0 0 (.slice none 0 0)) w1:=by
  rw[ai];refine⟨(((ab_ _ _).alloc (aa_ _) _).alloc (by simp) _).alloc (by simp;omega) _,?_,?_,?_⟩
  ·rw[heap_alloc_old _ _ (by simp;omega),heap_alloc_old _ _ (by simp),heap_alloc_new]
  ·have:=heap_alloc_new (w.alloc (.cells (xE v.p d.n) 113)) (.cells zSta 118);rw[al_]at this;rw[heap_alloc_old _ _ (by simp),this]
  ·have:=heap_alloc_new ((w.alloc (.cells (xE v.p d.n) 113)).alloc (.cells zSta 118)) (.cells (xV 0 0 (.slice none 0 0)++xV 0 0 (.slice none 0 0)).toArray 175);rw[al_,al_]at this;exact this
 have aO:=h_ ax;have QW:Hid (∀(W:World) (area:Nat),area<2->Below w.heap.size w W->Calls prog 75 #[.agg (xE v.p d.n),.int .i64 area] W (xD8 d area W)):=h_ λW area ha hb=>xY2 (h.below hb) hd (hK.below hb (aa_ _)) area ha i7
 obtain⟨n,hn⟩:∃n,n=d.n:=⟨_,rfl⟩;rw[<-hn]at ai aO QW⊢;have HN:=h_ hn;unfold xE at ai QW⊢;unfold xV zSta at ai;simp only[aK_,aM_]at ai;clear ax h hd hK i7 hn;go_enter func48,ntmps48;go_upto_region 2 with fail
 refine xr ai ?_;clear ai;go_wp2
 go_loopw [9,2,4] (λiv av fv wr=>
  (iv=.int .i64 0/\av=.int .i64 0/\fv=.bool false/\Hid (CuSt w v.p n d (xV 0 0 (.slice none 0 0)++xV 0 0 (.slice none 0 0)) wr)) \/
  (iv=.int .i64 1/\av=.int .i64 0/\∃c0 g0 f0 v0,fv=.bool c0/\Hid (CuSt w v.p n d (xV g0 f0 v0++xV 0 0 (.slice none 0 0)) wr/\qx wr (w.heap.size+3) c0 (zl sha 0 (d.area d.n 0)) g0 f0 v0)) \/
  (iv=.int .i64 2/\∃c0 g0 f0 v0 c1 g1 f1 v1,((av=.int .i64 0/\fv=.bool c0/\Hid ((c1&&(!c0||decide ((g0:Int)<g1)))=false))\/(av=.int .i64 1/\fv=.bool true/\Hid ((c1&&(!c0||decide ((g0:Int)<g1)))=true))) /\
   Hid (CuSt w v.p n d (xV g0 f0 v0++xV g1 f1 v1) wr/\qx wr (w.heap.size+3) c0 (zl sha 0 (d.area d.n 0)) g0 f0 v0/\qx wr (w.heap.size+3) c1 (zl sha 1 (d.area d.n 1)) g1 f1 v1))) (λiv _ _ _=>2-(intOf iv).toNat)
 case atStart=>exact .inl ⟨rfl,rfl,rfl,aO⟩
 case round=>
  rcases hrel with⟨rfl,rfl,rfl,HS⟩|⟨rfl,rfl,c0,g0,f0,v0,rfl,HS⟩|⟨rfl,c0,g0,f0,v0,c1,g1,f1,v1,QX,HS⟩
  ·have r0:=xD (n:=3) HS.st rfl;have q1:=r0.1;have q2:=r0.2;unfold xE at q2;clear r0;go_wp2_with fail;refine(QW.out wr 0 (by omega) HS.bel).mono ?_;rintro e w2 ch;obtain⟨aj,g0,f0,x,m,k,c0,rfl,wC⟩:=xRs ch;have H7:=HS.load aj;have H8:=xXh w2 _ g0 f0 0 0 0 0 x m k _ _ H7.areas;have bm:w.heap.size+1+1<wr.heap.size:=(i_ HS.areas).1;have nF:=h_ (H7.set (xV g0 f0 (.slice x m k)++xV 0 0 (.slice none 0 0)));have nC:=h_ ((wC.base (B':=w.heap.size+3) (by omega)).under (W':=w2.setRow (w.heap.size+1+1) (xV g0 f0 (.slice x m k)++xV 0 0 (.slice none 0 0)).toArray) λj hj _=>setRow_other _ _ _ _ (by omega));unfold xV at nF nC;simp only[aK_,aM_]at nF nC;obtain⟨w3,rt⟩:∃w3,w3=w2.setRow (w.heap.size+1+1) #[.int .i64 g0,.int .i64 f0,.slice x m k,.int .i64 0,.int .i64 0,.int .i64 0,.slice none 0 0,.int .i64 0]:=⟨_,rfl⟩;clear H7 wC ch aj q1 q2 bm;go_upto_region 7 with fail
   refine xr rt ?_;rw[<-rt]at nF nC;clear rt H8;go_upto_region 9 with fail
   cases c0 with
   |false=>
    go_quiet (fail);have lC:Hid (CuSt w v.p n d (xV g0 f0 (.slice x m k)++xV 0 0 (.slice none 0 0)) (w3.drewN nq)/\qx (w3.drewN nq) (w.heap.size+3) false (zl sha 0 (d.area d.n 0)) g0 f0 (.slice x m k)):=h_ ⟨CuSt.load nF.out (xS (ab_ _ _) nq),nC.under λj _ hj=>(xS (ab_ _ w3) nq).block j hj⟩;go_wp2;go_roundw
    case rel=>exact .inr (.inl ⟨rfl,rfl,false,g0,f0,.slice x m k,rfl,lC⟩)
    case measure=>simp[intOf]
   |true=>
    go_quiet (fail);have lC:Hid (CuSt w v.p n d (xV g0 f0 (.slice x m k)++xV 0 0 (.slice none 0 0)) (w3.drewN nq)/\qx (w3.drewN nq) (w.heap.size+3) true (zl sha 0 (d.area d.n 0)) g0 f0 (.slice x m k)):=h_ ⟨CuSt.load nF.out (xS (ab_ _ _) nq),nC.under λj _ hj=>(xS (ab_ _ w3) nq).block j hj⟩;go_wp2;go_roundw
    case rel=>exact .inr (.inl ⟨rfl,rfl,true,g0,f0,.slice x m k,rfl,lC⟩)
    case measure=>simp[intOf]
  ·have r0:=xD (n:=3) HS.1.st rfl;have q1:=r0.1;have q2:=r0.2;unfold xE at q2;obtain⟨x0,m0,k0,M3⟩:=HS.2.1;clear r0;go_wp2_with fail;refine(QW.out wr 1 (by omega) HS.1.bel).mono ?_;rintro e w2 ch;obtain⟨aj,g1,f1,x,m,k,c1,rfl,wC⟩:=xRs ch;have H7:=HS.1.load aj;have H8:=xXg w2 _ g1 f1 0 0 g0 f0 x m k _ _ H7.areas;have bm:w.heap.size+1+1<wr.heap.size:=(i_ HS.1.areas).1;have nF:=h_ (H7.set (xV g0 f0 v0++xV g1 f1 (.slice x m k)));have nC:=h_ ((wC.base (B':=w.heap.size+3) (by omega)).under (W':=w2.setRow (w.heap.size+1+1) (xV g0 f0 v0++xV g1 f1 (.slice x m k)).toArray) λj hj _=>setRow_other _ _ _ _ (by omega));have ee:=h_ ((HS.2.under (W':=w2) λj _ hj=>aj.block j hj).under (W':=w2.setRow (w.heap.size+1+1) (xV g0 f0 v0++xV g1 f1 (.slice x m k)).toArray) λj hj _=>setRow_other _ _ _ _ (by omega));subst M3;unfold xV at nF nC ee;simp only[aK_,aM_]at nF nC ee;obtain⟨w3,rt⟩:∃w3,w3=w2.setRow (w.heap.size+1+1) #[.int .i64 g0,.int .i64 f0,.slice x0 m0 k0,.int .i64 0,.int .i64 g1,.int .i64 f1,.slice x m k,.int .i64 0]:=⟨_,rfl⟩;clear H7 wC ch aj q1 q2 bm;go_upto_region 7 with fail
   refine xr rt ?_;rw[<-rt]at nF nC ee;clear rt H8;have k0:=cell_of_row w3 (w.heap.size+1+1) 0 _ _ _ nF.areas;have k4:=cell_of_row w3 (w.heap.size+1+1) 4 _ _ _ nF.areas;simp only[v_]at k0 k4;go_upto_region 9 with fail
   cases c1 with
   |false=>
    go_quiet (fail);clear k0 k4;have lC:Hid (CuSt w v.p n d (xV g0 f0 (.slice x0 m0 k0)++xV g1 f1 (.slice x m k)) (w3.drewN nq)/\qx (w3.drewN nq) (w.heap.size+3) c0 (zl sha 0 (d.area d.n 0)) g0 f0 (.slice x0 m0 k0)/\qx (w3.drewN nq) (w.heap.size+3) false (zl sha 1 (d.area d.n 1)) g1 f1 (.slice x m k)):=h_ ⟨CuSt.load nF.out (xS (ab_ _ _) nq),ee.under λj _ hj=>(xS (ab_ _ w3) nq).block j hj,nC.under λj _ hj=>(xS (ab_ _ w3) nq).block j hj⟩;go_wp2;go_roundw
    case rel=>exact .inr (.inr ⟨rfl,c0,g0,f0,.slice x0 m0 k0,false,g1,f1,.slice x m k,.inl ⟨rfl,rfl,h_ (by simp)⟩,lC⟩)
    case measure=>simp[intOf]
   |true=>
    cases c0 with
    |false=>
     go_quiet (fail);clear k0 k4;have lC:Hid (CuSt w v.p n d (xV g0 f0 (.slice x0 m0 k0)++xV g1 f1 (.slice x m k)) (w3.drewN nq)/\qx (w3.drewN nq) (w.heap.size+3) false (zl sha 0 (d.area d.n 0)) g0 f0 (.slice x0 m0 k0)/\qx (w3.drewN nq) (w.heap.size+3) true (zl sha 1 (d.area d.n 1)) g1 f1 (.slice x m k)):=h_ ⟨CuSt.load nF.out (xS (ab_ _ _) nq),ee.under λj _ hj=>(xS (ab_ _ w3) nq).block j hj,nC.under λj _ hj=>(xS (ab_ _ w3) nq).block j hj⟩;go_wp2;go_roundw
     case rel=>exact .inr (.inr ⟨rfl,false,g0,f0,.slice x0 m0 k0,true,g1,f1,.slice x m k,.inr ⟨rfl,rfl,h_ (by simp)⟩,lC⟩)
     case measure=>simp[intOf]
    |true=>
     by_cases hge:g0<g1
     ·have fT:decide (g0<g1)=true:=decide_eq_true hge;have Mm:=h_ hge;go_quiet (fail);clear k0 k4 fT;have lC:Hid (CuSt w v.p n d (xV g0 f0 (.slice x0 m0 k0)++xV g1 f1 (.slice x m k)) (w3.drewN nq)/\qx (w3.drewN nq) (w.heap.size+3) true (zl sha 0 (d.area d.n 0)) g0 f0 (.slice x0 m0 k0)/\qx (w3.drewN nq) (w.heap.size+3) true (zl sha 1 (d.area d.n 1)) g1 f1 (.slice x m k)):=h_ ⟨CuSt.load nF.out (xS (ab_ _ _) nq),ee.under λj _ hj=>(xS (ab_ _ w3) nq).block j hj,nC.under λj _ hj=>(xS (ab_ _ w3) nq).block j hj⟩;go_wp2;go_roundw
      case rel=>exact .inr (.inr ⟨rfl,true,g0,f0,.slice x0 m0 k0,true,g1,f1,.slice x m k,.inr ⟨rfl,rfl,h_ (by simp[Mm.out])⟩,lC⟩)
      case measure=>simp[intOf]
     ·have fT:decide (g0<g1)=false:=decide_eq_false hge;have Mm:=h_ hge;go_quiet (fail);clear k0 k4 fT;have lC:Hid (CuSt w v.p n d (xV g0 f0 (.slice x0 m0 k0)++xV g1 f1 (.slice x m k)) (w3.drewN nq)/\qx (w3.drewN nq) (w.heap.size+3) true (zl sha 0 (d.area d.n 0)) g0 f0 (.slice x0 m0 k0)/\qx (w3.drewN nq) (w.heap.size+3) true (zl sha 1 (d.area d.n 1)) g1 f1 (.slice x m k)):=h_ ⟨CuSt.load nF.out (xS (ab_ _ _) nq),ee.under λj _ hj=>(xS (ab_ _ w3) nq).block j hj,nC.under λj _ hj=>(xS (ab_ _ w3) nq).block j hj⟩;go_wp2;go_roundw
      case rel=>exact .inr (.inr ⟨rfl,true,g0,f0,.slice x0 m0 k0,true,g1,f1,.slice x m k,.inl ⟨rfl,rfl,h_ (by simp[Mm.out])⟩,lC⟩)
      case measure=>simp[intOf]
  ·obtain⟨x0,m0,k0,M3⟩:=HS.2.1.1;obtain⟨x,m,k,wv⟩:=HS.2.2.1;subst M3;subst wv;have CO:=h_ HS.1.areas;have K9:=h_ HS.1.res;have lY:=h_ HS.1.bel;have aS:=h_ (yDe HS.2.1 HS.2.2);unfold xV at CO;simp only[aK_,aM_]at CO;rcases QX with⟨rfl,rfl,hcm⟩|⟨rfl,rfl,hcm⟩
   ·go_upto_region 12 with fail
    have z1:∀z:ArC (w.heap.size+1+1) #[.int .i64 g0,.int .i64 f0,.slice x0 m0 k0,.int .i64 0,.int .i64 g1,.int .i64 f1,.slice x m k,.int .i64 0],xo z.1 ⟨w.heap.size+1+1,0,none⟩ 4=true:=λz=>(ArC.rd0 z).1
    have z2:∀z:ArC (w.heap.size+1+1) #[.int .i64 g0,.int .i64 f0,.slice x0 m0 k0,.int .i64 0,.int .i64 g1,.int .i64 f1,.slice x m k,.int .i64 0],xm z.1 ⟨w.heap.size+1+1,0,none⟩ 4=#[.int .i64 g0,.int .i64 f0,.slice x0 m0 k0,.int .i64 0]:=λz=>(ArC.rd0 z).2
    haveI:Nonempty (ArC (w.heap.size+1+1) #[.int .i64 g0,.int .i64 f0,.slice x0 m0 k0,.int .i64 0,.int .i64 g1,.int .i64 f1,.slice x m k,.int .i64 0]):=⟨⟨wr,CO.out⟩⟩
    refine xp [0,1,2,3,4] [5,6,7,8] (λw'=>∃z:ArC (w.heap.size+1+1) #[.int .i64 g0,.int .i64 f0,.slice x0 m0 k0,.int .i64 0,.int .i64 g1,.int .i64 f1,.slice x m k,.int .i64 0],w'=z.1) (by kernel_rfl) (by kernel_rfl) (by kernel_rfl) ⟨⟨wr.drew,CO.out⟩,rfl⟩ ?_;simp only[o_]
    repeat (go_big_quiet_step (fail))
    refine wpQuiet_nil ?_;clear z1 z2;refine yb true (by kernel_rfl) (by kernel_rfl) ?_;simp only[o_];go_wp2;have bu:xM wr.drew (w.heap.size+1) 4=true:=by unfold xM;rw[show wr.drew.heap=wr.heap from rfl,K9.out];rfl
    have g_:=jC g0 f0 (.slice x0 m0 k0) 0 rfl;have aT:(wr.drew.setRow (w.heap.size+1) #[.int .i64 g0,.int .i64 f0,.slice x0 m0 k0,.int .i64 0]).heap[w.heap.size+1+1]?=some (.cells #[.int .i64 g0,.int .i64 f0,.slice x0 m0 k0,.int .i64 0,.int .i64 g1,.int .i64 f1,.slice x m k,.int .i64 0] 175 (0,0)):=(setRow_other _ _ _ _ (by omega)).trans CO.out;refine⟨λ_=>⟨⟨wr.drew,CO.out⟩,rfl⟩,yb true (by kernel_rfl) (by kernel_rfl) ?_⟩;simp only[o_];go_wp2;refine⟨λ_=>⟨⟨_,aT⟩,rfl⟩,xB [7,8] _ _ (by kernel_rfl) ?_⟩;simp only[o_];go_wp2;refine ag_ ?_;have b7:=h_ (xK lY.drew (show w.heap.size<=w.heap.size+1 by omega) #[.int .i64 g0,.int .i64 f0,.slice x0 m0 k0,.int .i64 0]);have HR:=h_ (xD (n:=4) (setRow_heap wr.drew (w.heap.size+1) _ #[.int .i64 g0,.int .i64 f0,.slice x0 m0 k0,.int .i64 0] _ _ K9.out) rfl);clear bu aT g_;go_wp2;obtain⟨ha,hs⟩:=aS.2 hcm.out
    exact bodyPost_ret (v:=.tuple #[.int .i64 0,.agg #[.int .i64 g0,.int .i64 f0,.slice x0 m0 k0,.int .i64 0],.bool c0,.int .i64 0]) (xZx rfl isAgg118 sizeOf118 _ _ ⟨w.heap.size+1,0,none⟩ _ _ _ _ rfl rfl rfl rfl HR.1 HR.2) rfl ⟨b7.out,0,g0,f0,.slice x0 m0 k0,c0,rfl,ha,(hs.under (W':=(wr.setRow (w.heap.size+1) #[.int .i64 g0,.int .i64 f0,.slice x0 m0 k0,.int .i64 0]).drew) λj hj _=>setRow_other _ _ _ _ (by omega)).base (by omega)⟩
   ·go_upto_region 12 with fail
    have z1:∀z:ArC (w.heap.size+1+1) #[.int .i64 g0,.int .i64 f0,.slice x0 m0 k0,.int .i64 0,.int .i64 g1,.int .i64 f1,.slice x m k,.int .i64 0],xo z.1 ⟨w.heap.size+1+1,4,none⟩ 4=true:=λz=>(ArC.rd4 z).1
    have z2:∀z:ArC (w.heap.size+1+1) #[.int .i64 g0,.int .i64 f0,.slice x0 m0 k0,.int .i64 0,.int .i64 g1,.int .i64 f1,.slice x m k,.int .i64 0],xm z.1 ⟨w.heap.size+1+1,4,none⟩ 4=#[.int .i64 g1,.int .i64 f1,.slice x m k,.int .i64 0]:=λz=>(ArC.rd4 z).2
    haveI:Nonempty (ArC (w.heap.size+1+1) #[.int .i64 g0,.int .i64 f0,.slice x0 m0 k0,.int .i64 0,.int .i64 g1,.int .i64 f1,.slice x m k,.int .i64 0]):=⟨⟨wr,CO.out⟩⟩
    refine xp [0,1,2,3,4] [5,6,7,8] (λw'=>∃z:ArC (w.heap.size+1+1) #[.int .i64 g0,.int .i64 f0,.slice x0 m0 k0,.int .i64 0,.int .i64 g1,.int .i64 f1,.slice x m k,.int .i64 0],w'=z.1) (by kernel_rfl) (by kernel_rfl) (by kernel_rfl) ⟨⟨wr.drew,CO.out⟩,rfl⟩ ?_;simp only[o_]
    repeat (go_big_quiet_step (fail))
    refine wpQuiet_nil ?_;clear z1 z2;refine yb true (by kernel_rfl) (by kernel_rfl) ?_;simp only[o_];go_wp2;have bu:xM wr.drew (w.heap.size+1) 4=true:=by unfold xM;rw[show wr.drew.heap=wr.heap from rfl,K9.out];rfl
    have g_:=jC g1 f1 (.slice x m k) 0 rfl;have aT:(wr.drew.setRow (w.heap.size+1) #[.int .i64 g1,.int .i64 f1,.slice x m k,.int .i64 0]).heap[w.heap.size+1+1]?=some (.cells #[.int .i64 g0,.int .i64 f0,.slice x0 m0 k0,.int .i64 0,.int .i64 g1,.int .i64 f1,.slice x m k,.int .i64 0] 175 (0,0)):=(setRow_other _ _ _ _ (by omega)).trans CO.out;refine⟨λ_=>⟨⟨wr.drew,CO.out⟩,rfl⟩,yb true (by kernel_rfl) (by kernel_rfl) ?_⟩;simp only[o_];go_wp2;refine⟨λ_=>⟨⟨_,aT⟩,rfl⟩,xB [7,8] _ _ (by kernel_rfl) ?_⟩;simp only[o_];go_wp2;refine ag_ ?_;have b7:=h_ (xK lY.drew (show w.heap.size<=w.heap.size+1 by omega) #[.int .i64 g1,.int .i64 f1,.slice x m k,.int .i64 0]);have HR:=h_ (xD (n:=4) (setRow_heap wr.drew (w.heap.size+1) _ #[.int .i64 g1,.int .i64 f1,.slice x m k,.int .i64 0] _ _ K9.out) rfl);clear bu aT g_;go_wp2;obtain⟨ha,hs⟩:=aS.1 hcm.out
    exact bodyPost_ret (v:=.tuple #[.int .i64 1,.agg #[.int .i64 g1,.int .i64 f1,.slice x m k,.int .i64 0],.bool true,.int .i64 0]) (xZx rfl isAgg118 sizeOf118 _ _ ⟨w.heap.size+1,0,none⟩ _ _ _ _ rfl rfl rfl rfl HR.1 HR.2) rfl ⟨b7.out,1,g1,f1,.slice x m k,true,rfl,ha,(hs.under (W':=(wr.setRow (w.heap.size+1) #[.int .i64 g1,.int .i64 f1,.slice x m k,.int .i64 0]).drew) λj hj _=>setRow_other _ _ _ _ (by omega)).base (by omega)⟩
end
theorem xH1:∀(l l':List By) (d:PD) (a:Nat),d.Up->(d.puts a (l++l')).1=((d.puts a l).1.puts (a+l.length) l').1
 |[],l',d,a,h=>rfl
 |c :: l,l',d,a,h=>by
  have h2:PD.Up { d with pend:=d.pend++[(a,c)] }:=h;have ih:=xH1 l l' _ (a+1) h2;simp only[aK_,PD.puts,PD.write_up h];rw[ih];have:a+1+l.length=a+(c :: l).length:=by simp only[av_];omega
  rw[this]
theorem qU.kept {w w' F}(h:qU w)(hk:Kept F w w')(hF:∀k∈F,2<k):qU w':=
 ⟨λt ht=>by
  have h1:=h.tab t ht;unfold World.cell? at h1⊢;rw[hk.block _ (Sk.lt h) (λhm=>bX_ _ (hF _ hm))];exact h1⟩
theorem xSa {gen}:∀{l:List PRec} {k:Int},xNy gen k l->∀r∈l,r.Ok
 |r :: l,k,h,x,hx=>by
  rcases ae_.1 hx with rfl|hx
  ·exact h.1
  ·exact xSa h.2.2.2 x hx
theorem xIc {rest ops o a}{Q:Exit->Act->World->Prop}{w}(fT:o.guard=none)(s x)
  (ho:o.op=.call { callee:=.builtin .append,args:=#[s,x],argTypes:=#[173,173] }) (B) (v) (l) (hs:a.eval s=v) (i3:RcAt w B v l)
  (r:PRec×Value) (hr:OwnB w B r.2 r.1.pay/\r.2≠.slice none 0 0/\∀k,r.2.ownBlock=some k->v.ownBlock≠some k) (bP:r.2.oneCell'=true) (ad) (hx:a.eval x=.slice (some ad) 1 1)
  (hc:∀j u,(y9 r.1.kind r.1.gen r.1.num r.2)[j]?=some u->w.cell? (ad.add j)=some u) (ao:l.length<=1000000) (hB:B<=w.heap.size)
  (h:∀v' w',RcAt w' B v' (l++[r])->w.grownBy w' v.ownBlock->(v'.ownBlock=v.ownBlock\/v'.ownBlock=some w.heap.size)->wpList prog ops Q rest (a.put o.dst v') w'):wpList prog ops Q (o :: rest) a w:=by
 obtain⟨i0,hi,bd,aL,bk⟩:=info_parts Tryz.info_rec;refine wpList_append_own_at w fT s x 173 ho B 172 i0 (.agg #[.int .i64 0,.int .i64 0,.int .i64 0,.slice none 0 0]) 4 48 underlying173 hi bd aL bk rfl (by decide) v l.length (uu l) hs i3.own ad 1 1 (y9 r.1.kind r.1.gen r.1.num r.2) hx rfl hc (λu hu=>?_) (by unfold maxLen;omega) (by omega) hB λv' w' h1 h2 _ h4=>?_
 ·simp only[y9,ae_,ch_,or_false]at hu;rcases hu with rfl|rfl|rfl|rfl <;> first|rfl|exact bP
 ·refine h v' w' (i3.app h1 h2 hr λk hk=>?_) h2 h4;rcases h4 with h|h
  ·exact .inl (h▸hk)
  ·right;rw[h]at hk;injection hk with hk;omega
theorem RcAt.one {w B g}(r)(ah:w.heap[g]?=some (.cells (y9 r.1.kind r.1.gen r.1.num r.2).toArray 172 (0,0)))(hB:B<=g)
  (hr:OwnB w B r.2 r.1.pay/\r.2≠.slice none 0 0/\∀k,r.2.ownBlock=some k->k≠g):RcAt w B (.slice (some ⟨g,0,none⟩) 1 1) [r]:=by
 refine⟨⟨by simp[uu,y9],.inr ⟨g,1,_,rfl,hB,ah,aa_ _,by decide,rfl,by simp[uu,y9]⟩⟩,λx hx=>?_⟩;rw[ac_.1 hx];exact⟨hr.1,hr.2.1,λk hk e=>hr.2.2 k hk (by simpa[Value.ownBlock]using e.symm)⟩
def jE (gen first carried:Nat)(hv:Value)(L:List By)(vs:List Value)(k:Nat):List (PRec×Value):=(qY gen first carried,hv) :: (qA gen 1 (L.take k)).zip (vs.take k)
theorem xUl (gen first carried hv L vs):jE gen first carried hv L vs 0=[(qY gen first carried,hv)]:=rfl
theorem xEq {gen first carried hv L vs k}(hl:vs.length=L.length)(hk:k<=L.length):(jE gen first carried hv L vs k).length=k+1:=by
 simp[jE,jl,hl];omega
theorem xUm {gen first carried hv L vs k}(hl:vs.length=L.length)(hk:k<L.length):
  jE gen first carried hv L vs (k+1)=jE gen first carried hv L vs k++[(⟨2,gen,((1+k:Nat):Int),L[k]⟩,vs[k]'(by rw[hl];exact hk))]:=by
 unfold jE;rw[am_ hk,am_ (by rw[hl];exact hk),xCm,ai_,cd_ (bB_ hk),List.zip_append (by simp[jl,hl])];rfl
theorem xXu {gen first carried hv L vs}(hl:vs.length=L.length):(jE gen first carried hv L vs L.length).map Prod.fst=j6 gen first carried L:=by
 unfold jE j6;rw[au_,ea_,<-hl,ea_];congr 1;exact List.map_fst_zip (by rw[jl,hl];exact aa_ _)
noncomputable def vE (R:List PRec)(k:Nat):Nat:=((R.take k).flatMap (yk sha)).length
theorem xU0 (R k)(hk:k<R.length):vE R (k+1)=vE R k+xO R[k].pay.length:=by
 unfold vE;rw[am_ hk,cz_,af_];congr 1;rw[cH_,zx]
theorem xZ9 (R k):vE R k<=(R.flatMap (yk sha)).length:=by
 unfold vE
 conv=>rhs;rw[<-bM_ k R,cz_,af_]
 omega
theorem xXv {d:PD}(h:d.Up)(base R k)(hk:k<R.length):(d.puts base ((R.take (k+1)).flatMap (yk sha))).1=((d.puts base ((R.take k).flatMap (yk sha))).1.puts (base+vE R k) (yk sha R[k])).1:=by
 rw[am_ hk,cz_,xH1 _ _ _ _ h,cH_];rfl
section
attribute [local go_sem ↓] vx qQ uh zI jx vK
attribute [local go_sem] xGa xG0 xAa xA6 xJn xIm zn zu yx yw xh xf xa x9 xu xv xk xj xq xx xt
def xBf (D:Nat)(v:Dev)(d:PD)(j:PJ)(ev:Value)(w:World)(e:Ending)(w':World):Prop:=
 e=.returned (.tuple #[.agg #[.int .i64 j.gen,.int .i64 j.first,ev,.int .i64 (j.secs sha).length],.int .i64 0])/\Kept v.foot w w'/\∃v',v'.p=v.p/\v'.M=v.M/\yu D w' v' (d.puts (j.area*(d.n/2)) (j.secs sha)).1.flushed/\∀k∈v'.foot,k∈v.foot\/w.heap.size<=k
structure WcSt (w:World)(B:Nat)(p n:Nat)(gen first:Nat)(ev hv:Value)(L:List By)(vs:List Value)(k:Nat)(rv:Value)(W:World):Prop where
 bel:Below w.heap.size w W
 st:W.heap[w.heap.size]?=some (.cells (xE p n) 113 (0,0))
 res:W.heap[w.heap.size+1]?=some (.cells zSta 118 (0,0))
 x:W.heap[w.heap.size+1+1]?=some (.cells #[.int .i64 gen,.int .i64 first,ev,.int .i64 0] 118 (0,0))
 rc:RcAt W B rv (jE gen first L.length hv L vs k)
 rb:∀j,rv.ownBlock=some j->w.heap.size+3<=j
theorem EnAt.blk {w B v L vs}(h:EnAt w B v L vs):∀x∈vs,∀k,x.ownBlock=some k->B<=k/\k<w.heap.size/\v.ownBlock≠some k:=by
 intro x hx k hk;obtain⟨i,hi,rfl⟩:=bF_.1 hx;obtain⟨h1,_,h3⟩:=h.el i (by rw[<-h.len];exact hi);exact⟨(h1.lt hk).1,(h1.lt hk).2,h3 k hk⟩
theorem xMu {w w':World}{B t s n x T v xs cs}(h:w.ownsRow B t s v n xs)(hx:w.heap[x]?=some (.cells cs T (0,0)))(ht:T≠t)(hb:∀g,v.ownBlock=some g->g<w.heap.size->g≠x->w'.heap[g]?=w.heap[g]?):w'.ownsRow B t s v n xs:=by
 refine⟨h.1,?_⟩;rcases h.2 with h0|⟨g,cap,cur,hv,hg,aq,r⟩
 ·exact .inl h0
 ·refine .inr ⟨g,cap,cur,hv,hg,(hb g (by rw[hv];rfl) (i_ aq).1 (λe=>?_)).trans aq,r⟩;subst e;rw[hx]at aq;simp at aq;exact ht aq.2
theorem RcAt.sameX {w w' B x T v l cs}(h:RcAt w B v l)(hx:w.heap[x]?=some (.cells cs T (0,0)))(ht:T≠172)(gX:T≠5)(hb:∀g,(v.ownBlock=some g\/∃y∈l,y.2.ownBlock=some g)->g<w.heap.size->g≠x->w'.heap[g]?=w.heap[g]?):RcAt w' B v l:=
 ⟨xMu h.own hx ht (λg hg=>hb g (.inl hg)),λy hy=>⟨xMu (h.el y hy).1 hx gX (λg hg=>hb g (.inr ⟨y,hy,hg⟩)),(h.el y hy).2⟩⟩
theorem xXt {gen first carried hv L vs k y}(h:y∈jE gen first carried hv L vs k):y.2=hv\/y.2∈vs:=by
 unfold jE at h;rcases ae_.1 h with h|h
 ·exact .inl (by rw[h])
 ·exact .inr (List.mem_of_mem_take (List.of_mem_zip (a:=y.1) (b:=y.2) h).2)
theorem EnAt.val {w B g n cap L vs x}(h:EnAt w B (.slice (some ⟨g,0,none⟩) n cap) L vs)(i)(hi:i<L.length)(hn:n=L.length)(hc:w.cell? ⟨g,i,none⟩=some x):vs[i]'(by rw[h.len];exact hi)=x:=by
 subst hn;have:=cM_ h.own i (by omega);rw[hc,ak_ (by rw[h.len];exact hi)]at this;exact(as_ this).symm
theorem WcSt.next {w B p n gen first ev hv L vs k rv v' W Wa W'}(h:WcSt w B p n gen first ev hv L vs k rv W)(aM:Below W.heap.size W Wa)(hg:Wa.grownBy W' rv.ownBlock)
  (i3:RcAt W' B v' (jE gen first L.length hv L vs (k+1))) (fB:v'.ownBlock=rv.ownBlock\/v'.ownBlock=some Wa.heap.size):WcSt w B p n gen first ev hv L vs (k+1) v' W':=by
 have hs:=(i_ h.x).1;have hk:∀g,g<w.heap.size+3->g<W.heap.size->W'.heap[g]?=W.heap[g]?:=λg du hg2=>(hg.block g (ap_ hg2 aM.size) (λe=>by have:=h.rb g e.symm;omega)).trans (aM.block g hg2)
 refine⟨(h.bel.trans (aM.mono h.bel.size)).grown hg (by have:=h.bel.size;have:=aM.size;omega) (λj e=>by have:=h.rb j e;omega),(hk _ (by omega) (by omega)).trans h.st,(hk _ (by omega) (by omega)).trans h.res,(hk _ (by omega) (by omega)).trans h.x,i3,λj e=>?_⟩;rcases fB with h1|h1
 ·exact h.rb j (h1▸e)
 ·rw[h1]at e;have:=as_ e;have:=aM.size;omega
theorem qL (w g cs):Kept [g] w (w.setRow g cs):=⟨rfl,rfl,rfl,by simp[World.setRow],λk _ hn=>setRow_other _ _ _ _ (by simpa using hn)⟩
theorem xSm {d:PD}(h:d.Up):d.flush=(d.flushed,true):=by simp[PD.flush,PD.oper,h.1,h.2]
structure WpSt (D B:Nat)(w w4:World)(v:Dev)(d:PD)(gen first:Nat)(ev:Value)(base:Nat)(R:List PRec)(k:Nat)(W:World):Prop where
 kept:Kept v.foot w W
 mid:∀g,g∉v.foot->g<w4.heap.size->g≠w.heap.size+1+1->W.heap[g]?=w4.heap[g]?
 sz:w4.heap.size<=W.heap.size
 x:W.heap[w.heap.size+1+1]?=some (.cells #[.int .i64 gen,.int .i64 first,ev,.int .i64 (vE R k)] 118 (0,0))
 at':∃v',v'.p=v.p/\v'.M=v.M/\yu D W v' (d.puts base ((R.take k).flatMap (yk sha))).1/\∀j∈v'.foot,j∈v.foot\/w4.heap.size<=j
theorem WpSt.next {D B w w4}{v v1 v2:Dev}{d gen first ev base R k W W5 W7}(h:WpSt D B w w4 v d gen first ev base R k W)(bL:∀k∈v.foot,k<w.heap.size)(h4:w.heap.size+3<=w4.heap.size)
  (hb:Below W.heap.size W W5) (gK:∀j∈v1.foot,j∈v.foot\/w4.heap.size<=j) (hk:Kept v1.foot W5 W7) (hp:v2.p=v.p) (hM:v2.M=v.M) (hd:yu D W7 v2 (d.puts base ((R.take (k+1)).flatMap (yk sha))).1) (dP:∀j∈v2.foot,j∈v1.foot\/W5.heap.size<=j):
  W7.heap[w.heap.size+1+1]?=some (.cells #[.int .i64 gen,.int .i64 first,ev,.int .i64 (vE R k)] 118 (0,0)) /\
  WpSt D B w w4 v d gen first ev base R (k+1) (W7.setCell ⟨w.heap.size+1+1,3,none⟩ (.int .i64 (vE R (k+1)))):=by
 have il:∀g,g∉v.foot->g<w4.heap.size->g∉v1.foot:=λg du hg2 hm=>by
  rcases gK g hm with h|h
  ·exact du h
  ·omega
 have QY:w.heap.size+1+1∉v.foot:=λh=>by have:=bL _ h;omega
 have aI:=h.sz;have bO:∀g,g∉v.foot->g<w4.heap.size->W7.heap[g]?=W.heap[g]?:=λg du hg2=>(hk.block g (ap_ hg2 (ad_ aI hb.size)) (il g du hg2)).trans (hb.block g (ap_ hg2 aI))
 have ry:=(bO (w.heap.size+1+1) QY (by omega)).trans h.x;have bJ:∀j∈v2.foot,j∈v.foot\/w4.heap.size<=j:=λj hj=>by
  rcases dP j hj with h1|h1
  ·exact gK j h1
  ·exact .inr (ad_ aI (ad_ hb.size h1))
 refine⟨ry,⟨?_,λg du hg2 fo=>?_,?_,?_,v2,hp,hM,?_,bJ⟩⟩
 ·refine((h.kept.trans (Kept.of_below (F:=[]) hb) (λ_ h=>by cases h)).trans hk (λj hj=>?_)).trans (zd W7 (w.heap.size+1+1) 3 _) (λj hj=>?_)
  ·rcases gK j hj with h1|h1
   ·exact .inl h1
   ·exact .inr (by omega)
  ·rw[ac_.1 hj];exact .inr (by omega)
 ·exact(heap_setCell_other W7 ⟨w.heap.size+1+1,3,none⟩ g _ fo).trans ((bO g du hg2).trans (h.mid g du hg2 fo))
 ·have:=hk.size;have:=hb.size;simp[World.setCell];omega
 ·rw[heap_setCell_same W7 (w.heap.size+1+1) 3 _ _ _ ry];rfl
 ·refine hd.keep (by simp[World.setCell]) λj hj=>heap_setCell_other W7 ⟨w.heap.size+1+1,3,none⟩ j _ ?_
  show j≠w.heap.size+1+1
  rcases bJ j hj with h1|h1
  ·have:=bL j h1;omega
  ·omega
theorem xJs {D B w v d}(h:yu D w v d)(hu:d.Up)(hK:qU w)(j)(hj:j.Ok)(hc:j.carried=j.entries.length)(ev vs)(bS:EnAt w B ev j.entries vs)(hB:B<=w.heap.size)
  (bL:∀x∈vs,∀k,x.ownBlock=some k->k∉v.foot) (bM:(j.secs sha).length<=d.n/2) (aN:d.pend.length<=900000) (hD:D<=w.heap.size) (ao:j.entries.length<=1000) (lS:2<D):
  Calls prog 47 #[.agg (xE v.p d.n),.int .i64 j.area,.int .i64 j.gen,.int .i64 j.first,ev] w (xBf D v d j ev w):=by
 obtain⟨ea,ec,eL⟩:=yd bS.own;obtain⟨gen,pS⟩:∃gen,gen=j.gen:=⟨_,rfl⟩;obtain⟨first,rz⟩:∃first,first=j.first:=⟨_,rfl⟩;obtain⟨L,hL⟩:∃L,L=j.entries:=⟨_,rfl⟩;obtain⟨ln,cX⟩:∃ln,ln=L.length:=⟨_,rfl⟩;have DM:=hj.gen;have gw:=hj.first;rw[<-hL]at eL bS ao;rw[<-cX]at eL ao;rw[<-pS]at DM⊢;rw[<-rz]at gw⊢;subst eL
 obtain⟨w1,ai⟩:∃w1,w1=(((w.alloc (.cells (xE v.p d.n) 113)).alloc (.cells zSta 118)).alloc (.cells #[.int .i64 gen,.int .i64 first,.slice ea ln ec,.int .i64 0] 118)).alloc (.cells #[.int .i64 first,.int .i64 ln] 3):=⟨_,rfl⟩;have aa:Below w.heap.size w w1:=by rw[ai];exact((((ab_ _ _).alloc (aa_ _) _).alloc (by simp) _).alloc (by simp;omega) _).alloc (by simp;omega) _
 have aK:w1.heap.size=w.heap.size+4:=by rw[ai];simp
 have h0:w1.heap[w.heap.size]?=some (.cells (xE v.p d.n) 113 (0,0)):=by
  rw[ai];simp only[yA,al_];rw[if_neg (by omega),if_neg (by omega),if_neg (by omega),if_pos trivial]
 have h1:w1.heap[w.heap.size+1]?=some (.cells zSta 118 (0,0)):=by
  rw[ai];simp only[yA,al_];rw[if_neg (by omega),if_neg (by omega),if_pos trivial]
 have h2:w1.heap[w.heap.size+1+1]?=some (.cells #[.int .i64 gen,.int .i64 first,.slice ea ln ec,.int .i64 0] 118 (0,0)):=by
  rw[ai];simp only[yA,al_];rw[if_neg (by omega),if_pos trivial]
 have h3:w1.heap[w.heap.size+1+1+1]?=some (.cells #[.int .i64 first,.int .i64 ln] 3 (0,0)):=by
  rw[ai];simp only[yA,al_];rw[if_pos trivial]
 have Xy:=h_ (xLr first ln (by omega) (by omega) (w.heap.size+1+1+1) 2 w1 (cell_of_row _ _ _ _ _ _ h3) (cell_of_row _ _ _ _ _ _ h3) (by omega));have ar:=h_ aa;have bW:=h_ aK;have H0:=h_ h0;have H1:=h_ h1;have H2:=h_ h2;have HD:=h_ h;have HU:=h_ hu;have HK:=h_ hK;have HJ:=h_ hj;have eB:=h_ bS;have fX:=h_ hB;have TH:=h_ bL;have sK:=h_ (λk hk=>(h.foot_lt k hk).2);have DF:=h_ bM;have HP:=h_ aN;have H_:=h_ pS;have rA:=h_ rz;have HL:=h_ hL;have dR:=h_ cX;have aA:=h.n2;obtain⟨n,hn⟩:∃n,n=d.n:=⟨_,rfl⟩;rw[<-hn]at ai aA H0 DF⊢;have HN:=h_ hn;have du:(gen:Int)<=2147483647:=by omega
 have gK:(first:Int)<=2147483647:=by omega
 have Ad:(ln:Int)<=1000:=by omega
 have g_:=jC gen first (.slice ea ln ec) 0 rfl;unfold xE at ai⊢;unfold zSta at ai;clear h hu hK hj bS hB bL bM aN pS rz hL cX hn aa aK h0 h1 h2 h3 DM gw
 go_enter func47,ntmps47;go_wp2_with fail;rw[<-ai];refine Xy.mono ?_;rintro e w2 ⟨aj,hv,rfl,ae⟩;obtain⟨lT,dy,hhv,pD,_,_,_⟩:∃g cap,hv=.slice (some ⟨g,0,none⟩) 16 cap/\w1.heap.size<=g/\16<=cap/\cap<=maxLen/\SlB w2 ⟨g,0,none⟩ (beB 8 first++beB 8 ln):=by
  rcases ae.at with⟨_,h⟩|⟨g,cap,h1,h2,h3,h4,h5⟩
  ·exact absurd (congrArg List.length h) (by simp[xe])
  ·have e:(beB 8 first++beB 8 ln).length=16:=by simp[xe]
   rw[e]at h1 h3;exact⟨g,cap,h1,h2,h3,h4,h5⟩
 subst hhv;have au:=h_ aj;have dl:=h_ ae;clear ai aj ae;have Ia:Below w2.heap.size w2 (w2.alloc (.cells #[.int .i64 1,.int .i64 gen,.int .i64 0,.slice (some ⟨lT,0,none⟩) 16 dy] 172)):=(ab_ _ _).alloc (aa_ _) _;have ia:=au.size
 have aO:Hid (WcSt w B v.p n gen first (.slice ea ln ec) (.slice (some ⟨lT,0,none⟩) 16 dy) L vs 0 (.slice (some ⟨w2.heap.size,0,none⟩) 1 1) (w2.alloc (.cells #[.int .i64 1,.int .i64 gen,.int .i64 0,.slice (some ⟨lT,0,none⟩) 16 dy] 172))):=h_ (by
  have hs:=bW.out;have al:=au.trans (Ia.mono au.size);refine⟨ar.trans (al.mono ar.size),(al.block _ (by omega)).trans H0.out,(al.block _ (by omega)).trans H1.out,(al.block _ (by omega)).trans H2.out,?_,λj e=>by have:=(as_ e:w2.heap.size=j);omega⟩;rw[xUl];refine RcAt.one _ (heap_alloc_new w2 _) (by have:=fX.out;omega) ⟨?_,by simp,λk e=>by have:=(as_ e:lT=k);have:=(dl.lt (k:=lT) rfl).2;omega⟩;have:=(dl.below Ia).base (B':=B) (by have:=fX.out;omega);rw[dR.out]at this;exact this)
 have HGB:=h_ pD;clear Ia ia pD;go_wp2;go_loopw [35,13] (λu rv wr=>∃k:Nat,∃ra rn rc,u=.int .i64 k/\rv=.slice ra rn rc/\k<=ln/\Hid (WcSt w B v.p n gen first (.slice ea ln ec) (.slice (some ⟨lT,0,none⟩) 16 dy) L vs k (.slice ra rn rc) wr)) (λu _ _=>ln-(intOf u).toNat)
 case atStart=>exact⟨0,_,_,_,rfl,rfl,aV_ _,aO⟩
 case round=>
  obtain⟨k,ra,rn,rc,rfl,rfl,hk,HS⟩:=hrel;by_cases hlt:k<ln
  ·have cr:(k:Int)<ln:=by omega
   have ct:k<L.length:=by rw[<-dR.out];exact hlt
   obtain⟨g,cap,e0,ecap,hv,aT,QP,hes,eK,cZ,dL⟩:=eB.get k ct;obtain⟨y,hy⟩:∃y,y=L[k]:=⟨_,rfl⟩;rw[<-hy]at aT eK cZ dL;have TI:ea=some ⟨g,0,none⟩:=by injection hv
   subst TI;have eE:=(HS.bel.cell (p:=⟨g,k,none⟩) (block_lt_of_cell aT)).trans aT;have aM:Below wr.heap.size wr (wr.alloc (.cells #[.int .i64 2,.int .i64 gen,.int .i64 ((k:Int)+1),.slice (some ⟨e0,0,none⟩) y.length ecap] 172)):=(ab_ _ _).alloc (aa_ _) _;have EW:=h_ (HS.rc.later aM);have Fn:(jE gen first L.length (.slice (some ⟨lT,0,none⟩) 16 dy) L vs k).length<=1000000:=by rw[xEq eB.len (by omega)];omega
   have HLR:=h_ Fn;have HBR:=h_ (show B<=(wr.alloc (.cells #[.int .i64 2,.int .i64 gen,.int .i64 ((k:Int)+1),.slice (some ⟨e0,0,none⟩) y.length ecap] 172)).heap.size by have:=HS.bel.size;have:=fX.out;rw[al_];omega);have Fj:vs[k]'(by rw[eB.len];exact ct)=.slice (some ⟨e0,0,none⟩) y.length ecap:=eB.val k ct dR.out aT;have gE:((1+k:Nat):Int)=1+(k:Int):=by omega
   have hre:Hid (jE gen first L.length (.slice (some ⟨lT,0,none⟩) 16 dy) L vs (k+1)=jE gen first L.length (.slice (some ⟨lT,0,none⟩) 16 dy) L vs k++[(⟨2,gen,1+(k:Int),y⟩,.slice (some ⟨e0,0,none⟩) y.length ecap)]):=h_ (by rw[xUm eB.len ct,Fj,hy,gE])
   have aJ:Hid (∀i u,(y9 2 gen (1+(k:Int)) (.slice (some ⟨e0,0,none⟩) y.length ecap))[i]?=some u->(wr.alloc (.cells #[.int .i64 2,.int .i64 gen,.int .i64 ((k:Int)+1),.slice (some ⟨e0,0,none⟩) y.length ecap] 172)).cell? ((⟨wr.heap.size,0,none⟩:Addr).add i)=some u):=h_ (λi u hi=>by
    rw[an_,aq_,yz];rw[show 1+(k:Int)=(k:Int)+1 by omega]at hi;simpa[y9]using hi)
   have bu:Hid (OwnB (wr.alloc (.cells #[.int .i64 2,.int .i64 gen,.int .i64 ((k:Int)+1),.slice (some ⟨e0,0,none⟩) y.length ecap] 172)) B (.slice (some ⟨e0,0,none⟩) y.length ecap) y/\(Value.slice (some ⟨e0,0,none⟩) y.length ecap)≠.slice none 0 0/\∀i,(Value.slice (some ⟨e0,0,none⟩) y.length ecap).ownBlock=some i->(Value.slice ra rn rc).ownBlock≠some i):=h_ ⟨(dL.below HS.bel).below aM,by simp,λi e e2=>by have:=HS.rb i e2;have:=(as_ e:e0=i);omega⟩;have eQ:=h_ aM;have hk1:k+1<=ln:=hlt;have TC:(k:Int)<=1000:=by omega
   clear aT eK cZ dL aM Fn Fj hv hy ct gE;go_wp2_with (at_builtin;refine xIc rfl (.tmp 40) (.tmp 46) rfl B _ _ rfl EW.out (⟨2,gen,1+(k:Int),y⟩,.slice (some ⟨e0,0,none⟩) y.length ecap) bu.out rfl ⟨wr.heap.size,0,none⟩ rfl aJ.out HLR.out HBR.out ?_);intro v' w5 DN wl M4;rw[<-hre.out]at DN;obtain⟨va,vc,Fo⟩:=yd DN.own;have bQ:=h_ (HS.next eQ.out wl DN (by rw[al_];exact M4));rw[Fo]at bQ;subst Fo;clear DN wl M4 eE;go_wp2;go_roundw
   case rel=>exact⟨k+1,_,_,_,by go_num,rfl,hk1,bQ⟩
   case measure=>simp[intOf];omega
  ·obtain rfl:k=ln:=by omega
   have Ho:=xEq (gen:=gen) (first:=first) (carried:=L.length) (hv:=.slice (some ⟨lT,0,none⟩) 16 dy) (L:=L) (vs:=vs) (k:=k) eB.len (by rw[<-dR.out];exact aa_ _);obtain⟨RL,QZ⟩:∃RL,RL=jE gen first L.length (.slice (some ⟨lT,0,none⟩) 16 dy) L vs k:=⟨_,rfl⟩;have i3:=HS.rc;have TJ:=h_ HS.rb;rw[<-QZ]at i3 Ho;obtain⟨ra',rc',Fj⟩:=yd i3.own;rw[Ho]at Fj;have Q0:rn=k+1:=by injection Fj
   subst Q0;have Q1:RL.map Prod.fst=j6 gen first L.length L:=by rw[QZ,dR.out];exact xXu eB.len
   obtain⟨R,hR⟩:∃R,R=j6 gen first L.length L:=⟨_,rfl⟩;rw[<-hR]at Q1;have Fp:(j.secs sha)=R.flatMap (yk sha):=by rw[hR];unfold PJ.secs xG2;rw[<-H_.out,<-rA.out,hc,<-HL.out]
   have M5:∀r∈R,r.Ok:=by
    have h1:=xSa (xIz HJ.out);rw[hc,<-H_.out,<-rA.out,<-HL.out,<-hR]at h1;exact h1
   have M6:R.length=k+1:=by rw[<-Q1,aQ_];exact Ho
   obtain⟨w4,cP⟩:∃w4,w4=wr:=⟨_,rfl⟩;have h4:=(i_ HS.x).1;have eU:Hid (WpSt D B w wr v d gen first (.slice ea k ec) (j.area*(n/2)) R 0 wr):=h_ ⟨Kept.of_below HS.bel,λ_ _ _ _=>rfl,aa_ _,HS.x,v,rfl,rfl,HD.below HS.bel,λj hj=>.inl hj⟩;have M7:=h_ i3;have em:=h_ HS.st;have Kk:=h_ HS.x;have Fq:=h_ HS.res;have M8:=h_ HS.bel;have H4:=h_ h4;have Kl:=h_ Q1;have y_:=h_ Ho
   have Wg:Hid (∀y∈RL,∀g,y.2.ownBlock=some g->g∉v.foot):=h_ (λy hy g hg=>by
    rw[QZ]at hy;rcases xXt hy with h|h
    ·rw[h]at hg;have:=(as_ hg:lT=g);exact λhm=>by have:=sK.out g hm;have:=HGB.out;have:=bW.out;omega
    ·exact TH.out _ h g hg)
   have M9:=h_ M6;have Bm:=h_ Fp;have TK:=h_ M5;have C9:(k:Int)+1<=1001:=by omega
   rw[<-cP]at eU M7 em Kk Fq M8 H4;have wI:=h_ cP;clear Ho QZ i3 Fj Q1 hR Fp M5 M6 cP h4 HS aO dl;have Ga:((k+1:Nat):Int)=(k:Int)+1:=by omega
   go_wp2;go_loopw [51] (λu Tl=>∃i:Nat,u=.int .i64 i/\i<=k+1/\Hid (WpSt D B w w4 v d gen first (.slice ea k ec) (j.area*(n/2)) R i Tl)) (λu _=>k+1-(intOf u).toNat)
   case atStart=>exact⟨0,rfl,aV_ _,by rw[<-wI.out];exact eU⟩
   case round=>
    obtain⟨i,rfl,L7,HS⟩:=hrel;by_cases hlt2:i<k+1
    ·have E_:(i:Int)<(k:Int)+1:=by omega
     have sN:=(i_ Kk.out).1;have rq:=HS.mid
     have DK:RcAt wr B (.slice ra (k+1) rc) RL:=M7.sameX Kk.out (by decide) (by decide) λg h1 h2 h3=>rq g (λhm=>by
      rcases h1 with h|⟨y,hy,h⟩
      ·have:=TJ.out g h;have:=sK.out g hm;omega
      ·exact Wg.out y hy g h hm) h2 h3
     obtain⟨gr,rcap,gp,pcap,mX,_,aJ,eN,wL,hpl,_,im⟩:=DK.get i (by rw[y_.out];exact hlt2);have hra:ra=some ⟨gr,0,none⟩:=by injection mX
     subst hra;have C3:i<R.length:=by rw[M9.out];exact hlt2
     have hri:(RL[i]'(by rw[y_.out];exact hlt2)).1=R[i]:=by
      have h1:=bS_ (f:=Prod.fst) (l:=RL) (i:=i) (h:=by rw[aQ_,y_.out];exact hlt2);rw[<-h1];simp only[Kl.out]
     rw[hri]at aJ eN hpl im;obtain⟨y,hy⟩:∃y,y=R[i]:=⟨_,rfl⟩;have M_:=TK.out y (by rw[hy];exact bb_ C3);rw[<-hy]at aJ eN hpl im;obtain⟨ro,rr⟩:=RcAt.rd (show (y9 y.kind y.gen y.num (.slice (some ⟨gp,0,none⟩) y.pay.length pcap)).length=4 from rfl) aJ;unfold y9 at rr;have tP:=(rq w.heap.size (λhm=>bX_ _ (sK.out _ hm)) (by omega) (by omega)).trans em.out;have bJ:=xKa y.kind y.gen y.num (.slice (some ⟨gp,0,none⟩) y.pay.length pcap) rfl;obtain⟨w5,aY⟩:∃w5,w5=wr.alloc (.cells #[.int .i64 y.kind,.int .i64 y.gen,.int .i64 y.num,.slice (some ⟨gp,0,none⟩) y.pay.length pcap] 172):=⟨_,rfl⟩;have aF:Below wr.heap.size wr w5:=by rw[aY];exact b_ _ _
     have Fl:w5.heap[wr.heap.size]?=some (.cells #[.int .i64 y.kind,.int .i64 y.gen,.int .i64 y.num,.slice (some ⟨gp,0,none⟩) y.pay.length pcap] 172 (0,0)):=by rw[aY];exact heap_alloc_new wr _
     have Bn:=(aF.block _ (i_ tP).1).trans tP;have lD:=(aF.block _ (i_ HS.x).1).trans HS.x;obtain⟨v1,lR,CN,bg,gK⟩:=HS.at';obtain⟨_,dB,iB,_⟩:=PD.puts_up ((R.take i).flatMap (yk sha)) d (j.area*(n/2)) HU.out;have pU:=xCr ((R.take i).flatMap (yk sha)) d (j.area*(n/2)) HU.out;have hpdd:=HP.out;have mM:=xU0 R i C3;have wM:=xZ9 R (i+1);rw[<-hy]at mM;have bM:=DF.out;rw[Bm.out]at bM;have Bo:=HJ.area;have gF:j.area*(n/2)+vE R (i+1)<=n:=by
      rcases (show j.area=0\/j.area=1 by omega)with h|h <;> rw[h] <;> omega
     have Na:((R.take i).flatMap (yk sha)).length=vE R i:=rfl;have Nb:SlB w5 ⟨gp,0,none⟩ y.pay:=⟨λq c hq=>(aF.cell (by rw[ya];exact wL)).trans (im.cell q c hq)⟩;have lE:=xXv HU.out (j.area*(n/2)) R i C3;rw[<-hy]at lE;have Fr:∀z:x8 w5,Below wr.heap.size wr z.1:=λz=>aF.trans (z.2.mono aF.size)
     have gL:Hid (∀z:x8 w5,Calls prog 74 #[.agg (xE v.p n),.int .i64 (j.area*(n/2)+vE R i:Nat),.agg (y9 y.kind y.gen y.num (.slice (some ⟨gp,0,none⟩) y.pay.length pcap)).toArray] z.1 (xFu D v1 (d.puts (j.area*(n/2)) ((R.take i).flatMap (yk sha))).1 (j.area*(n/2)+vE R i) y z.1)):=h_ λz=>by
      have hz:=Fr z;have h1:=xS5 (bg.below hz) dB ((HK.kept HS.kept (λq hq=>ap_ lS (HD.foot_lt q hq).1)).below hz (aa_ _)) (j.area*(n/2)+vE R i) y M_ ⟨gp,0,none⟩ pcap hpl ⟨λq c hq=>(z.2.cell (by rw[ya];have:=aF.size;show gp<w5.heap.size;omega)).trans (Nb.cell q c hq)⟩ (by have:=hz.size;show gp<z.1.heap.size;omega) (by rw[iB,<-HN.out];omega) (by rw[pU,Na];omega) (by have:=hz.size;have:=HS.sz;omega);rw[lR,iB,<-HN.out]at h1;exact h1
     have hlt5:wr.heap.size<w5.heap.size:=(i_ Fl).1;have r5:=xD (n:=3) Bn rfl;have z1:∀z:x8 w5,xo z.1 ⟨w.heap.size,0,none⟩ 3=true:=λz=>x8.ok r5.1 z
     have z2:∀z:x8 w5,xm z.1 ⟨w.heap.size,0,none⟩ 3=xE v.p n:=λz=>(x8.rd r5.1 z).trans r5.2
     obtain⟨m2,eV⟩:∃m2,m2=n/2:=⟨_,rfl⟩;obtain⟨bs,pE⟩:∃bs,bs=j.area*m2:=⟨_,rfl⟩;obtain⟨us,DO⟩:∃us,us=vE R i:=⟨_,rfl⟩;obtain⟨at_,aB⟩:∃at_,at_=bs+us:=⟨_,rfl⟩;have z3:∀z:x8 w5,Calls prog 65 #[.agg (xE v.p n)] z.1 λe w'=>e=.returned (.int .i64 m2)/\∃z':x8 w5,w'=z'.1:=λz=>x8.call ((xCy v.p n aA z.1).mono λe w' ⟨h1,h2⟩=>⟨by rw[h1,eV],h2⟩)
     have k5:=cell_of_row w5 (w.heap.size+1+1) 3 _ _ _ lD;simp only[v_]at k5;rw[<-DO]at k5;have z4:∀z:x8 w5,z.1.cell? ⟨w.heap.size+1+1,3,none⟩=some (.int .i64 us):=λz=>z.cell k5
     have r6:=xD (n:=4) Fl rfl;have z5:∀z:x8 w5,xo z.1 ⟨wr.heap.size,0,none⟩ 4=true:=λz=>x8.ok r6.1 z
     have z6:∀z:x8 w5,xm z.1 ⟨wr.heap.size,0,none⟩ 4=#[.int .i64 y.kind,.int .i64 y.gen,.int .i64 y.num,.slice (some ⟨gp,0,none⟩) y.pay.length pcap]:=λz=>(x8.rd r6.1 z).trans r6.2
     rw[<-eV]at gL lE gF;rw[<-pE]at gL lE gF;rw[<-DO]at gL lE mM;rw[<-aB]at gL lE;have TL:(j.area:Int)*(m2:Int)=(bs:Int):=by rw[pE];simp
     have Nc:(bs:Int)+(us:Int)=(at_:Int):=by rw[aB];simp
     have bz:(bs:Int)<=4096:=by omega
     have Dy:(m2:Int)<=4096:=by omega
     have Xz:(us:Int)<=4096:=by omega
     have MJ:(j.area:Int)<=1:=by omega
     have Nd:=h_ lE;have Ib:=h_ mM;have TM:=h_ DO;have nE:=h_ z3;have aU:=h_ aF;have DG:=h_ gK;have sM:=h_ (And.intro lR CN);have wu:=h_ pE;have QO:=h_ eV;have gU:i+1<=k+1:=hlt2;have hiq:(i:Int)<=1001:=by omega
     have pC:((xO y.pay.length:Nat):Int)<=4096:=by omega
     have Nf:Hid (((us:Nat):Int)+(xO y.pay.length:Nat)=(vE R (i+1):Nat)):=h_ (by rw[mM];simp);have hul4:vE R (i+1)<=4096:=by omega
     clear rq DK mX aJ eN wL hpl im C3 hri M_ tP lE mM wM bM Bo gF Na Nb Fr pU iB dB bg gK lR CN sN pE DO aB eV aF z3 hy Fl Bn lD k5;go_upto_region 11 with fail
     refine xr aY ?_;clear aY ro rr bJ r5 r6;unfold xE at z2 nE;refine ui (by kernel_rfl) ?_;refine jZ [0,1,2,3,4,5,6,7,8] [9,10] 4 (λw'=>∃z:x8 w5,w'=z.1) (by kernel_rfl) (by kernel_rfl) rfl rfl ⟨⟨_,(ab_ _ _).drew⟩,rfl⟩ ?_;simp only[o_]
     repeat (go_big_quiet_step (first|(go_at_call 65;exact nE.out _)))
     refine wpQuiet_nil ?_;rintro _ ⟨z,rfl⟩;clear z1 z2 z4 z5 z6 nE;refine uD [9,10] _ _ (by kernel_rfl) ?_;simp only[o_];unfold xE y9 at gL;go_wp2_with fail;refine(gL.out z).mono ?_;rintro e w7 ⟨rfl,lU,v2,ey,i4,bE,dP⟩;have ed:=h_ (HS.next sK.out H4.out (aU.trans (z.2.mono aU.size)) DG.out lU (ey.trans sM.1) (i4.trans sM.2) (by rw[<-QO.out,<-wu.out,Nd.out];exact bE) dP);clear lU ey i4 bE dP gL;go_wp2;refine ag_ ?_;rw[uo];refine kf [11,12] [13,14] 0 (λw'=>w'=w7) (by kernel_rfl) (by kernel_rfl) (by kernel_rfl) rfl rfl rfl ?_;simp only[o_]
     repeat (go_big_quiet_step (fail))
     refine wpQuiet_nil ?_;refine xBp true rfl (by kernel_rfl) ?_;go_wp2;refine⟨λ_=>rfl,uD [14] _ _ (by kernel_rfl) ?_⟩;simp only[o_];go_wp2;refine ag_ ?_;rw[uo];refine vB (by kernel_rfl) ?_;have As:=cell_of_row w7 (w.heap.size+1+1) 3 _ _ _ ed.1;have iA:=frozen_of_row w7 (w.heap.size+1+1) 3 _ _ ed.1;simp only[v_]at As;rw[<-TM.out]at As;go_wp2;rw[Nf.out];go_roundw
     case rel=>exact⟨i+1,by go_num,gU,h_ ed.2⟩
     case measure=>simp[intOf];omega
    ·obtain rfl:i=k+1:=by omega
     obtain⟨v1,lR,CN,bg,gK⟩:=HS.at';have eG:R.take (k+1)=R:=ar_ (by rw[M9.out];exact aa_ _);rw[eG]at bg;obtain⟨_,dB,iB,_⟩:=PD.puts_up (R.flatMap (yk sha)) d (j.area*(n/2)) HU.out;have wF:=xNc bg dB.1;rw[lR]at wF;have pF:=h_ wF;have sN:=(i_ Kk.out).1;have tP:=(HS.mid w.heap.size (λhm=>bX_ _ (sK.out _ hm)) (by omega) (by omega)).trans em.out;have c0:=cell_of_row wr w.heap.size 0 _ _ _ tP;unfold xE at c0;simp only[v_]at c0;have mM:vE R (k+1)=(j.secs sha).length:=by rw[Bm.out];unfold vE;rw[eG]
     have Ib:=h_ mM;have DG:=h_ gK;have sM:=h_ (And.intro lR CN);have HUP:=h_ dB;clear wF tP mM gK lR CN dB iB bg eG;go_wp2_with fail;refine pF.mono ?_;rintro e w7 ⟨rfl,lU,v2,ey,i4,bE,dP⟩;rw[xSm HUP.out]at bE⊢;simp only at bE;have il:∀g,w.heap.size<=g->g<w4.heap.size->g∉v1.foot:=λg du hg2 hm=>by
      rcases DG.out g hm with h|h
      ·have:=sK.out g h;omega
      ·omega
     have aI:=HS.sz;have ry:=(lU.block _ (ap_ (show w.heap.size+1+1<w4.heap.size from sN) aI) (il _ (by omega) sN)).trans HS.x;have rB:w7.heap[w.heap.size+1]?=some (.cells zSta 118 (0,0)):=(lU.block _ (ap_ (show w.heap.size+1<w4.heap.size by omega) aI) (il _ (by omega) (by omega))).trans ((HS.mid _ (λhm=>by have:=sK.out _ hm;omega) (by omega) (by omega)).trans Fq.out);rw[Ib.out]at ry;have rx:=xD (n:=4) ry rfl;have rx1:=rx.1;have rx2:=rx.2;have bu:xM w7 (w.heap.size+1) 4=true:=by unfold xM;rw[rB];rfl
     obtain⟨ul,wM⟩:∃ul,ul=(j.secs sha).length:=⟨_,rfl⟩;rw[<-wM]at rx2;have Tz:=jC gen first (.slice ea k ec) ul rfl;have HR:=h_ (xD (n:=4) (setRow_heap w7 (w.heap.size+1) _ #[.int .i64 gen,.int .i64 first,.slice ea k ec,.int .i64 ul] _ _ rB) rfl);have ma:∀q∈v2.foot,q∈v.foot\/w4.heap.size<=q:=λq hq=>by
      rcases dP q hq with h1|h1
      ·exact DG.out q h1
      ·exact .inr (ad_ aI h1)
     have aS:=h_ (show xBf D v d j (.slice ea k ec) w (.returned (.tuple #[.agg #[.int .i64 gen,.int .i64 first,.slice ea k ec,.int .i64 ul],.int .i64 0])) (w7.setRow (w.heap.size+1) #[.int .i64 gen,.int .i64 first,.slice ea k ec,.int .i64 ul])from by
      refine⟨by rw[wM,H_.out,rA.out],?_,v2,ey.trans sM.1,i4.trans sM.2,?_,λq hq=>?_⟩
      ·refine(HS.kept.trans lU (λq hq=>?_)).trans (qL w7 (w.heap.size+1) _) (λq hq=>.inr (by rw[ac_.1 hq];omega));rcases DG.out q hq with h1|h1
       ·exact .inl h1
       ·exact .inr (by omega)
      ·rw[<-HN.out,Bm.out];refine bE.keep (by simp[World.setRow]) λq hq=>setRow_other _ _ _ _ ?_
       rcases ma q hq with h1|h1
       ·have:=sK.out q h1;omega
       ·omega
      ·rcases ma q hq with h1|h1
       ·exact .inl h1
       ·exact .inr (by omega))
     clear ry rB rx lU ey i4 bE dP il wM pF c0 ma;go_wp2;exact bodyPost_ret (v:=.tuple #[.agg #[.int .i64 gen,.int .i64 first,.slice ea k ec,.int .i64 ul],.int .i64 0]) (qV rfl isAgg118 sizeOf118 _ _ ⟨w.heap.size+1,0,none⟩ _ _ rfl rfl HR.1 HR.2) rfl aS.out
end
section
attribute [local go_sem ↓] uh zI
attribute [local go_sem] xAa xA6 zn yx yw xh xf xa x9 xu xv xk xj xq xx xt
def yE2 (D:Nat)(v:Dev)(d':PD)(w w':World):Prop:=Kept v.foot w w'/\∃v',v'.p=v.p/\v'.M=v.M/\yu D w' v' d'/\∀k∈v'.foot,k∈v.foot\/w.heap.size<=k
theorem xV2 {D w v d}(h:yu D w v d)(hu:d.Up)(hK:qU w)(i7:8<=d.n)(aN:d.pend=[])(hz:∀s,s<d.n->decP sha (d.vis s)=none)(hD:D<=w.heap.size)(lS:2<D):
  Calls prog 24 #[.pointer (some ⟨v.p,0,none⟩),.int .i64 0,.int .i64 d.n] w λe w'=>e=.returned (.int .i64 0)/\yE2 D v (d.puts 0 (zV.secs sha)).1.flushed w w':=by
 obtain⟨w1,ai⟩:∃w1,w1=w.alloc (.cells (xE v.p d.n) 113):=⟨_,rfl⟩;have aa:Below w.heap.size w w1:=by rw[ai];exact b_ _ _
 have ah:w1.heap[w.heap.size]?=some (.cells (xE v.p d.n) 113 (0,0)):=by rw[ai];exact heap_alloc_new w _
 have n_:=h_ (xJw (h.below aa) i7);rw[hu.1]at n_;have mN:genK d 0 d.n=0:=xH7 sha d.n d 0 hz;have ed:Hid (∀W,Below w.heap.size w W->Calls prog 46 #[.agg (xE v.p d.n),.int .i64 0] W λe w'=>Below W.heap.size W w'/\e=.returned (.tuple #[.int .i64 0,.int .i64 0])):=h_ λW hb=>by
  have:=xN5 (h.below hb) hu.1 (hK.below hb (aa_ _)) 0 (by omega) (by rw[mN];decide);rw[mN]at this;exact this
 have aD:zV.Ok:=⟨rfl,by decide,by decide,by decide,by decide,λb hb=>by simp[zV]at hb⟩;have bM:(zV.secs sha).length<=d.n/2:=by rw[zM];simp[zV,jF];omega
 have sL:Hid (∀W,Below w.heap.size w W->Calls prog 47 #[.agg (xE v.p d.n),.int .i64 0,.int .i64 0,.int .i64 0,.slice none 0 0] W (xBf D v d zV (.slice none 0 0) W)):=h_ λW hb=>
  xJs (B:=w.heap.size) (h.below hb) hu (hK.below hb (aa_ _)) zV aD rfl (.slice none 0 0) [] (EnAt.nil W w.heap.size) hb.size (λx hx=>by cases hx) bM (by rw[aN];exact aV_ _) (ad_ hD hb.size) (by decide) lS
 obtain⟨n,hn⟩:∃n,n=d.n:=⟨_,rfl⟩;have ar:=h_ aa;rw[<-hn]at ai n_ ed sL ah⊢;have HN:=h_ hn;have bX:=h_ ah;obtain⟨o1,r1⟩:=xD (n:=3) ah rfl;have bJ:xy 3 (xE v.p n)=true:=by simp[xE,xy,Value.oneCell']
 unfold xE at ai n_ ed sL r1 bJ;rw[ai]at o1 r1;clear h hu hK i7 aN hz mN aD bM hn aa ah;go_enter func24,ntmps24;go_wp2_with fail;rw[<-ai];clear ai o1 r1;refine n_.mono ?_;rintro e w2 ⟨rfl,aj⟩;unfold yBo;have au:=h_ (ar.trans (aj.mono ar.size));have aP:=(aj.block _ (i_ bX.out).1).trans bX.out;have fu:=h_ aP;obtain⟨o1,r1⟩:=xD (n:=3) aP rfl;unfold xE at r1;clear aj aP;go_wp2_with fail;refine(ed.out w2 au.out).mono ?_;rintro e w3 ⟨al,rfl⟩;have ay:=h_ (au.trans (al.mono au.size));have dv:=(al.block _ (i_ fu.out).1).trans fu.out;clear o1 r1;obtain⟨o1,r1⟩:=xD (n:=3) dv rfl;unfold xE at r1;clear al dv;go_wp2_with fail;refine(sL.out w3 ay.out).mono ?_;rintro e w4 ⟨rfl,dQ,v',tQ,oB,eq,mF⟩
 have aS:=h_ (show yE2 D v (d.puts 0 (zV.secs sha)).1.flushed w w4 from ⟨(Kept.of_below (F:=v.foot) ay.out).trans dQ (λq hq=>.inl hq),v',tQ,oB,by
  have h0:zV.area*(d.n/2)=0:=by show 0*_=0;rw[bZ_]
  rw[h0]at eq;exact eq,λq hq=>by
  rcases mF q hq with h1|h1
  ·exact .inl h1
  ·exact .inr (ad_ ay.size h1)⟩)
 clear dQ tQ oB eq mF o1 r1;go_wp2;go_ret;exact⟨rfl,aS.out⟩
end
section
def xX (p n:Nat)(area gen first:Nat)(ev:Value)(used:Nat)(sy fa:Int):Array Value:=#[.pointer (some ⟨p,0,none⟩),.int .i64 0,.int .i64 n,.int .i64 area,.int .i64 gen,.int .i64 first,ev,.int .i64 used,.int .i64 sy,.int .i64 fa]
attribute [local go_sem ↓] uh zI
attribute [local go_sem] xAa xA6 zn yx yw xh xf xa x9 xu xv xk xj
theorem xP9 {w b p n area gen first used ev sy fa}(h:w.heap[b]?=some (.cells (xX p n area gen first ev used sy fa) 124 (0,0))):xo w ⟨b,0,none⟩ 3=true/\xm w ⟨b,0,none⟩ 3=xE p n:=by
 have:=xW (w:=w) (a:=⟨b,0,none⟩) (cs:=[.pointer (some ⟨p,0,none⟩),.int .i64 0,.int .i64 n]) (λj v hj=>by
  rw[an_,cell_of_row _ _ _ _ _ _ h]
  match j,hj with
  |0,hj=>exact hj
  |1,hj=>exact hj
  |2,hj=>exact hj)
 exact this
theorem kS {w b p n area gen first used ev sy fa}(h:w.heap[b]?=some (.cells (xX p n area gen first ev used sy fa) 124 (0,0))):
  Calls prog 37 #[.pointer (some ⟨b,0,none⟩)] w λe w'=>e=.returned (.int .i64 fa)/\w=w':=by
 have c9:=cell_of_row w b 9 _ _ _ h;simp only[xX,v_]at c9;clear h;go_enter func37,ntmps37;go_wp2;go_ret;exact⟨rfl,rfl⟩
theorem ju {w:World}{b p n area gen first used:Nat}{ea k ec sy fa}(h:w.heap[b]?=some (.cells (xX p n area gen first (.slice ea k ec) used sy fa) 124 (0,0)))(hf:first<=2147483647)(hk:k<=2147483647):
  Calls prog 35 #[.pointer (some ⟨b,0,none⟩)] w λe w'=>e=.returned (.int .i64 ((first:Int)+k))/\∃m,w'=w.drewN m:=by
 have c5:=cell_of_row w b 5 _ _ _ h;have c6:=cell_of_row w b 6 _ _ _ h;simp only[xX,v_]at c5 c6;have gw:(first:Int)<=2147483647:=by omega
 have C9:(k:Int)<=2147483647:=by omega
 clear h;go_enter func35,ntmps35;go_upto_region 3 with fail
 go_quiet (fail);clear c5 c6;go_wp2;go_ret;exact⟨rfl,_,rfl⟩
theorem xGb (n:Nat)(w)(hn:n<=100000):Calls prog 52 #[.int .i64 n] w λe w'=>e=.returned (.tuple #[.int .i64 (xO n:Nat),.int .i64 0])/\w=w':=by
 have pC:(n:Int)<=100000:=by omega
 have wt:=h_ (xRq n w (by omega));go_enter func52,ntmps52;go_wp2_with fail;refine wt.mono ?_;rintro e w' ⟨rfl,rfl⟩;go_wp2;go_ret2;exact⟨rfl,rfl⟩
theorem xD0 {w b p n area gen first used ev sy fa}(h:w.heap[b]?=some (.cells (xX p n area gen first ev used sy fa) 124 (0,0)))(hn:n<=4096)(hu:used<=n/2):
  Calls prog 33 #[.pointer (some ⟨b,0,none⟩)] w λe w'=>e=.returned (.int .i64 (n/2-used:Nat))/\Below w.heap.size w w':=by
 have c7:=cell_of_row w b 7 _ _ _ h;simp only[xX,v_]at c7;have z1:∀z:x8 w,z.1.cell? ⟨b,7,none⟩=some (.int .i64 used):=λz=>z.cell c7
 obtain⟨o1,r1⟩:=xP9 h;have z2:∀z:x8 w,xo z.1 ⟨b,0,none⟩ 3=true:=λz=>x8.ok o1 z
 have z3:∀z:x8 w,xm z.1 ⟨b,0,none⟩ 3=xE p n:=λz=>(x8.rd o1 z).trans r1
 obtain⟨m,hm⟩:∃m,m=n/2:=⟨_,rfl⟩;have z4:∀z:x8 w,Calls prog 65 #[.agg (xE p n)] z.1 λe w'=>e=.returned (.int .i64 m)/\∃z':x8 w,w'=z'.1:=λz=>x8.call ((xCy p n hn z.1).mono λe w' ⟨h1,h2⟩=>⟨by rw[h1,hm],h2⟩)
 have Ic:=h_ z4;rw[<-hm]at hu⊢;have Dy:(m:Int)<=4096:=by omega
 have oA:(m:Int)-(used:Int)=((m-used:Nat):Int):=by omega
 have Xz:(used:Int)<=4096:=by omega
 unfold xE at z3 Ic;clear z4 h c7 o1 r1 hm;go_enter func33,ntmps33;go_upto_region 3 with fail
 refine ui (by kernel_rfl) ?_;refine jZ [0,1,2,3,4,5,6,7,8,9] [10,11] 0 (λw'=>∃z:x8 w,w'=z.1) (by kernel_rfl) (by kernel_rfl) rfl rfl ⟨⟨_,(ab_ _ _).drew⟩,rfl⟩ ?_;simp only[o_]
 repeat (go_big_quiet_step (first|(go_at_call 65;exact Ic.out _)))
 refine wpQuiet_nil ?_;rintro _ ⟨z,rfl⟩;clear z1 z2 z3 Ic;refine uD [10,11] _ _ (by kernel_rfl) ?_;simp only[o_];go_wp2;refine ag_ ?_;rw[uo];refine vB (by kernel_rfl) ?_;go_wp2;go_ret;exact⟨rfl,z.2⟩
end
section
attribute [local go_sem ↓] uh zI jx vK
attribute [local go_sem] xAa xA6 xJn xIm zn zu yx yw xh xf xa x9 xu xv xk xj xq xx xt
theorem yE9 (w b p n area gen first ev used sy fa)(g2 f2 u2:Nat)(x m k)(h:w.heap[b]?=some (.cells (xX p n area gen first ev used sy fa) 124 (0,0))):
  yi prog 118 w (.pointer (some ⟨b,4,none⟩)) (.agg #[.int .i64 g2,.int .i64 f2,.slice x m k,.int .i64 u2])=.ok .skip (w.setRow b (xX p n area g2 f2 (.slice x m k) u2 sy fa)):=by
 have:=k8 sizeOf118 w b 4 [.pointer (some ⟨p,0,none⟩),.int .i64 0,.int .i64 n,.int .i64 area,.int .i64 gen,.int .i64 first,ev,.int .i64 used,.int .i64 sy,.int .i64 fa] _ h [.int .i64 g2,.int .i64 f2,.slice x m k,.int .i64 u2] rfl (by simp) (λy hy=>by simp at hy;rcases hy with rfl|rfl|rfl|rfl <;> rfl);exact this
noncomputable def movJ (n:Nat)(d:PD)(j:PJ)(fi:Nat)(L:List By):PJ:=⟨1-j.area,xH8 sha n d (1-j.area),fi,L.length,L⟩
theorem xP1 {n d j}(h:JInv sha n d j)(hg:j.gen+2<=2147483647){fi L}(hf:fi<=2147483647)(hl:L.length<2147483647)(hL:∀b∈L,b.length<=131072):(movJ n d j fi L).Ok/\(movJ n d j fi L).gen<=j.gen+2:=by
 have ha:=h.ok.area;obtain⟨g1,_,g3⟩:=xCu sha n d (show 1-j.area<2 by omega);have g4:=g3 j.gen λs hs p hp=>(h.old s hs p hp).1
 exact⟨⟨g1,ad_ g4 hg,hf,hl,aa_ _,hL⟩,g4⟩
theorem JInv.moved {n d j}(h:JInv sha n d j)(hd:d.Up)(hg:j.gen+2<=2147483647){fi L}(hf:fi<=2147483647)(hl:L.length<2147483647)(hL:∀b∈L,b.length<=131072)(bM:1+jF L<=n/2):
  (d.puts ((movJ n d j fi L).area*(n/2)) ((movJ n d j fi L).secs sha)).1.Up/\(d.puts ((movJ n d j fi L).area*(n/2)) ((movJ n d j fi L).secs sha)).1.n=d.n/\JInv sha n (d.puts ((movJ n d j fi L).area*(n/2)) ((movJ n d j fi L).secs sha)).1 (movJ n d j fi L):=by
 have ha:=h.ok.area;obtain⟨ho,_⟩:=xP1 h hg hf hl hL;obtain⟨_,g2,_⟩:=xCu sha n d (show 1-j.area<2 by omega);exact(JInv.fresh sha yZ hd (movJ n d j fi L) ho (by rw[zM];exact bM) λs hs p hp=>g2 s hs p hp).2
def xD7 (D b:Nat)(v:Dev)(d:PD)(j:PJ)(ev:Value)(w:World)(e:Ending)(w':World):Prop:=
 e=.returned (.int .i64 0)/\Kept (b :: v.foot) w w'/\w'.heap[b]?=some (.cells (xX v.p d.n j.area j.gen j.first ev (j.secs sha).length ((j.first:Int)+j.entries.length) 0) 124 (0,0)) /\
 ∃v',v'.p=v.p/\v'.M=v.M/\yu D w' v' (d.puts (j.area*(d.n/2)) (j.secs sha)).1.flushed/\∀k∈v'.foot,k∈v.foot\/w.heap.size<=k
theorem xN6 {D B b w v d}(h:yu D w v d)(hu:d.Up)(hK:qU w)(j)(aZ:JInv sha d.n d j)(hg2:j.gen+2<=2147483647)(fi:Nat)(mJ:fi<=2147483647)(L)(hL:∀b∈L,b.length<=131072)(Km:1+jF L<=d.n/2)(ev vs)(bS:EnAt w B ev L vs)(hB:B<=w.heap.size)
  (bL:∀x∈vs,∀k,x.ownBlock=some k->k∉v.foot) (aN:d.pend.length<=900000) (hD:D<=w.heap.size) (ao:L.length<=1000) (lS:2<D) (hb:b∉v.foot) (g0 f0) (e0) (u0) (s0) (ah:w.heap[b]?=some (.cells (xX v.p d.n j.area g0 f0 e0 u0 s0 0) 124 (0,0))):
  Calls prog 49 #[.pointer (some ⟨b,0,none⟩),.int .i64 fi,ev] w (xD7 D b v d (movJ d.n d j fi L) ev w):=by
 obtain⟨ea,ec,eL⟩:=yd bS.own;obtain⟨ln,cX⟩:∃ln,ln=L.length:=⟨_,rfl⟩;rw[<-cX]at eL ao;subst eL;obtain⟨ho,XA⟩:=xP1 aZ hg2 mJ (show L.length<2147483647 by omega) hL;have ha:=aZ.ok.area;have hf:=mJ;obtain⟨J,hJ⟩:∃J,J=movJ d.n d j fi L:=⟨_,rfl⟩;obtain⟨a2,gy⟩:∃a2,a2=J.area:=⟨_,rfl⟩;obtain⟨g2,tR⟩:∃g2,g2=J.gen:=⟨_,rfl⟩;obtain⟨fr,nG⟩:∃fr,fr=fi:=⟨_,rfl⟩;have Kn:J.first=fr:=by rw[hJ,nG];rfl
 have oJ:J.entries=L:=by rw[hJ];rfl
 have XB:J.carried=J.entries.length:=by rw[hJ];rfl
 have Fs:a2=1-j.area:=by rw[gy,hJ];rfl
 have mN:genK d a2 d.n=g2:=by rw[tR,Fs,hJ];rfl
 rw[<-hJ]at ho XA⊢;have eH:g2<=2147483647:=by rw[tR];exact ho.gen
 have bM:(J.secs sha).length<=d.n/2:=by
  rw[zM,oJ];exact Km
 have aA:=h.n2;have ed:Hid (∀W,Below w.heap.size w W->Calls prog 46 #[.agg (xE v.p d.n),.int .i64 a2] W λe w'=>Below W.heap.size W w'/\e=.returned (.tuple #[.int .i64 g2,.int .i64 0])):=h_ λW hb=>by
  have:=xN5 (h.below hb) hu.1 (hK.below hb (aa_ _)) a2 (by rw[Fs];omega) (by rw[mN];exact eH);rw[mN]at this;exact this
 have sL:Hid (∀W,Below w.heap.size w W->Calls prog 47 #[.agg (xE v.p d.n),.int .i64 a2,.int .i64 g2,.int .i64 fr,.slice ea ln ec] W (xBf D v d J (.slice ea ln ec) W)):=h_ λW hb=>by
  have:=xJs (B:=B) (h.below hb) hu (hK.below hb (aa_ _)) J ho XB (.slice ea ln ec) vs (by rw[oJ];exact bS.later hb) (ad_ hB hb.size) bL bM aN (ad_ hD hb.size) (by rw[oJ,<-cX];exact ao) lS;rw[<-gy,<-tR,Kn]at this;exact this
 have Ng:=(i_ ah).1;have bJ:=h.foot_lt;obtain⟨n,hn⟩:∃n,n=d.n:=⟨_,rfl⟩;obtain⟨ul,wM⟩:∃ul,ul=(J.secs sha).length:=⟨_,rfl⟩;rw[<-nG]at hf⊢;rw[<-hn]at aA ah ed sL bM;rw[<-wM]at bM;have oA:(1:Int)-(j.area:Int)=(a2:Int):=by omega
 have MJ:(j.area:Int)<=1:=by omega
 have ha2z:(a2:Int)<=1:=by omega
 have DM:(g2:Int)<=2147483647:=by omega
 have gw:(fr:Int)<=2147483647:=by omega
 have G_:(ln:Int)<=1000:=by omega
 have bX:=h_ ah;have HB:=h_ hb;have sK:=h_ bJ;have HN:=h_ hn;have XC:=h_ wM;have oK:=h_ gy;have Bb:=h_ tR;have Q2:=h_ Kn;have iZ:=h_ (show J.entries.length=ln by rw[oJ,cX]);have c3:=cell_of_row w b 3 _ _ _ ah;simp only[xX,v_]at c3;obtain⟨o1,r1⟩:=xP9 ah;unfold xE at r1 ed sL;clear h hu hK aZ hg2 mJ hL Km bS hB bL aN cX hJ gy tR nG Kn oJ XB Fs mN ho XA bM hn wM ah hb bJ;go_enter func49,ntmps49;go_wp2_with fail;refine(ed.out w (ab_ _ _)).mono ?_;rintro e w2 ⟨aj,rfl⟩;have aP:=(aj.block _ Ng).trans bX.out;have fu:=h_ aP;have au:=h_ aj;clear o1 r1 c3;obtain⟨o1,r1⟩:=xP9 aP;unfold xE at r1;clear aP aj;go_wp2_with fail;refine(sL.out w2 au.out).mono ?_;rintro e w4 ⟨rfl,dQ,v',tQ,oB,eq,mF⟩;rw[<-Bb.out,Q2.out,<-XC.out];have lB:=(dQ.block b (ap_ Ng au.size) HB.out).trans fu.out;have A7:=h_ dQ;have DP:=h_ eq;have EN:=h_ mF;have iG:=h_ (And.intro tQ oB);have DQ:b<w4.heap.size:=(i_ lB).1;have iA:=jC g2 fr (.slice ea ln ec) ul rfl;obtain⟨w5,aY⟩:∃w5,w5=w4.alloc (.cells #[.int .i64 g2,.int .i64 fr,.slice ea ln ec,.int .i64 ul] 118):=⟨_,rfl⟩;have aF:Below w4.heap.size w4 w5:=by rw[aY];exact b_ _ _
 have lD:w5.heap[w4.heap.size]?=some (.cells #[.int .i64 g2,.int .i64 fr,.slice ea ln ec,.int .i64 ul] 118 (0,0)):=by rw[aY];exact heap_alloc_new w4 _
 have mA:=(aF.block b DQ).trans lB;clear o1 r1 dQ tQ oB eq mF;go_upto_region 8 with fail
 refine xr aY ?_;clear aY iA;have z1:∀z:StC w4.heap.size #[.int .i64 g2,.int .i64 fr,.slice ea ln ec,.int .i64 ul],xo z.1 ⟨w4.heap.size,0,none⟩ 4=true:=λz=>(xD (n:=4) z.2 rfl).1
 have z2:∀z:StC w4.heap.size #[.int .i64 g2,.int .i64 fr,.slice ea ln ec,.int .i64 ul],xm z.1 ⟨w4.heap.size,0,none⟩ 4=#[.int .i64 g2,.int .i64 fr,.slice ea ln ec,.int .i64 ul]:=λz=>(xD (n:=4) z.2 rfl).2
 haveI:Nonempty (StC w4.heap.size #[.int .i64 g2,.int .i64 fr,.slice ea ln ec,.int .i64 ul]):=⟨⟨_,lD⟩⟩
 have re:=h_ lD;have po:=h_ mA;have aU:=h_ aF;clear lD mA aF lB;refine xp [0,1,2,3] [4,5,6,7,8,9] (λw'=>∃z:StC w4.heap.size #[.int .i64 g2,.int .i64 fr,.slice ea ln ec,.int .i64 ul],w'=z.1) (by kernel_rfl) (by kernel_rfl) (by kernel_rfl) ⟨⟨w5.drew,re.out⟩,rfl⟩ ?_;simp only[o_]
 repeat (go_big_quiet_step (fail))
 refine wpQuiet_nil ?_;clear z1 z2;have sP:w5.drew.heap[b]?=some (.cells (xX v.p n j.area g0 f0 e0 u0 s0 0) 124 (0,0)):=po.out;have c3:=cell_of_row w5.drew b 3 _ _ _ sP;have f3:=frozen_of_row w5.drew b 3 _ _ sP;simp only[xX,v_]at c3;have hne:w4.heap.size≠b:=by omega
 have rB:(w5.setCell ⟨b,3,none⟩ (.int .i64 a2)).drew.heap[b]?=some (.cells (xX v.p n a2 g0 f0 e0 u0 s0 0) 124 (0,0)):=by show (w5.setCell ⟨b,3,none⟩ (.int .i64 a2)).heap[b]?=_;rw[heap_setCell_same w5 b 3 _ _ _ po.out];rfl
 have ry:(w5.setCell ⟨b,3,none⟩ (.int .i64 a2)).drew.heap[w4.heap.size]?=some (.cells #[.int .i64 g2,.int .i64 fr,.slice ea ln ec,.int .i64 ul] 118 (0,0)):=(heap_setCell_other w5 ⟨b,3,none⟩ w4.heap.size _ hne).trans re.out;have tA:=yE9 _ b v.p n a2 g0 f0 e0 u0 s0 0 g2 fr ul ea ln ec rB;have sQ:=setRow_heap (w5.setCell ⟨b,3,none⟩ (.int .i64 a2)).drew b _ (xX v.p n a2 g2 fr (.slice ea ln ec) ul s0 0) _ _ rB;have HX7:=h_ ry;have Nh:=h_ sQ;obtain⟨w7,da⟩:∃w7,w7=(w5.setCell ⟨b,3,none⟩ (.int .i64 a2)).drew.setRow b (xX v.p n a2 g2 fr (.slice ea ln ec) ul s0 0):=⟨_,rfl⟩;have sR:=h_ da;rw[<-da]at tA;clear sP rB ry sQ da hne;refine yb true (by kernel_rfl) (by kernel_rfl) ?_;simp only[o_];go_wp2;refine⟨λ_=>⟨⟨w5.drew,re.out⟩,rfl⟩,yb true (by kernel_rfl) (by kernel_rfl) ?_⟩;simp only[o_];go_wp2;refine⟨λ_=>⟨⟨w5.drew,re.out⟩,rfl⟩,yb true (by kernel_rfl) (by kernel_rfl) ?_⟩;simp only[o_];go_wp2;refine⟨λ_=>⟨⟨_,HX7.out⟩,rfl⟩,xB [7,8,9] _ _ (by kernel_rfl) ?_⟩;simp only[o_];go_wp2;refine ag_ ?_;have Ni:w7.heap[b]?=some (.cells (xX v.p n a2 g2 fr (.slice ea ln ec) ul s0 0) 124 (0,0)):=by rw[sR.out];exact Nh.out
 have Nj:=h_ Ni;have sG:=h_ (ju Ni (by omega) (by omega));clear tA c3 f3;go_wp2_with fail;refine sG.mono ?_;rintro e w8 ⟨rfl,m8,rfl⟩;have sQ:(w7.drewN m8).heap[b]?=some (.cells (xX v.p n a2 g2 fr (.slice ea ln ec) ul s0 0) 124 (0,0)):=by rw[(xS (ab_ _ w7) m8).block b (i_ Nj.out).1];exact Nj.out
 have c8:=cell_of_row (w7.drewN m8) b 8 _ _ _ sQ;have f8:=frozen_of_row (w7.drewN m8) b 8 _ _ sQ;simp only[xX,v_]at c8;have Bp:((w7.drewN m8).setCell ⟨b,8,none⟩ (.int .i64 ((fr:Int)+ln))).heap[b]?=some (.cells (xX v.p n a2 g2 fr (.slice ea ln ec) ul ((fr:Int)+ln) 0) 124 (0,0)):=by rw[heap_setCell_same _ b 8 _ _ _ sQ];rfl
 have lU:Kept [b] w5 w7:=by
  rw[sR.out];exact((zd w5 b 3 _).trans (Kept.of_below (F:=[b]) ((ab_ _ _).drew)) (λq hq=>.inl hq)).trans (qL _ b _) (λq hq=>.inl hq)
 have tG:Kept (b :: v.foot) w ((w7.drewN m8).setCell ⟨b,8,none⟩ (.int .i64 ((fr:Int)+ln))):=by
  have k1:=((Kept.of_below (F:=b :: v.foot) au.out).trans A7.out (λq hq=>.inl (aY_ _ hq))).trans (Kept.of_below (F:=[]) aU.out) (λq hq=>by cases hq);have k2:=(k1.trans lU (λq hq=>.inl (by rw[ac_.1 hq];exact bf_ ..))).trans (Kept.of_below (F:=[]) (xS (ab_ _ w7) m8)) (λq hq=>by cases hq);exact k2.trans (zd (w7.drewN m8) b 8 _) (λq hq=>.inl (by rw[ac_.1 hq];exact bf_ ..))
 have eF:b∉v'.foot:=λhm=>by
  rcases EN.out b hm with h1|h1
  ·exact HB.out h1
  ·have:=au.size;omega
 have TN:yu D ((w7.drewN m8).setCell ⟨b,8,none⟩ (.int .i64 ((fr:Int)+ln))) v' (d.puts (J.area*(d.n/2)) (J.secs sha)).1.flushed:=by
  have k3:=((Kept.of_below (F:=[b]) aU.out).trans lU (λq hq=>.inl hq)).trans (Kept.of_below (F:=[]) (xS (ab_ _ w7) m8)) (λq hq=>by cases hq);have k4:=k3.trans (zd (w7.drewN m8) b 8 (.int .i64 ((fr:Int)+ln))) (λq hq=>.inl hq);exact DP.kept k4 (λq hq hm=>eF (by rw[ac_.1 hm]at hq;exact hq))
 have aS:=h_ (show xD7 D b v d J (.slice ea ln ec) w (.returned (.int .i64 0)) ((w7.drewN m8).setCell ⟨b,8,none⟩ (.int .i64 ((fr:Int)+ln))) from
  ⟨rfl,tG,by rw[<-oK.out,<-Bb.out,Q2.out,<-XC.out,iZ.out,<-HN.out];exact Bp,v',iG.1,iG.2,TN,λq hq=>by
   rcases EN.out q hq with h1|h1
   ·exact .inl h1
   ·exact .inr (ad_ au.size h1)⟩)
 clear sQ Bp lU tG eF TN;go_wp2;go_ret;exact aS.out
theorem xV1 {D B b w v d}(h:yu D w v d)(hu:d.Up)(hK:qU w)(j)(aZ:JInv sha d.n d j)(hg2:j.gen+2<=2147483647)(ev vs)(bS:EnAt w B ev j.entries vs)(hB:B<=w.heap.size)
  (bL:∀k∈v.foot,k<B) (aN:d.pend=[]) (hD:D<=w.heap.size) (ao:j.entries.length<=1000) (lS:2<D) (hb:b∉v.foot) (ah:w.heap[b]?=some (.cells (xX v.p d.n j.area j.gen j.first ev 0 0 0) 124 (0,0))):
  Calls prog 49 #[.pointer (some ⟨b,0,none⟩),.int .i64 j.first,ev] w (xD7 D b v d (kk sha d.n d j) ev w):=
 xN6 h hu hK j aZ hg2 j.first aZ.ok.first j.entries aZ.ok.ents (by rw[<-zM sha];exact aZ.fit) ev vs bS hB (λx hx k hk hm=>by have:=(bS.blk x hx k hk).1;have:=bL k hm;omega) (by rw[aN];exact aV_ _) hD ao lS hb j.gen j.first ev 0 0 ah
end
structure JAt (D:Nat)(w:World)(b:Nat)(v:Dev)(d:PD)(j:PJ)(es:List Nat)(sy fa:Int):Prop where
 ex:∃ev vs,w.heap[b]?=some (.cells (xX v.p d.n j.area j.gen j.first ev (j.secs sha).length sy fa) 124 (0,0))/\EnAt w D ev j.entries vs/\(∀k,ev.ownBlock=some k->k∈es)/\∀x∈vs,∀k,x.ownBlock=some k->k∈es
 dev:yu D w v d
 inv:JInv sha d.n d j
 up:d.Up
 bB:D<=b
 bv:b∉v.foot
 es_:∀k∈es,D<=k/\k<w.heap.size/\k≠b/\k∉v.foot
theorem JAt.blt {D w b v d j es sy fa}(h:JAt D w b v d j es sy fa):b<w.heap.size:=by
 obtain⟨ev,vs,h1,_⟩:=h.ex;exact(i_ h1).1
theorem xC4 {w w' F B t s n v xs}(h:w.ownsRow B t s v n xs)(hk:Kept F w w')(hF:∀k∈F,v.ownBlock≠some k):w'.ownsRow B t s v n xs:=by
 refine⟨h.1,?_⟩;rcases h.2 with h0|⟨g,cap,cur,hv,hg,aq,r⟩
 ·exact .inl h0
 ·exact .inr ⟨g,cap,cur,hv,hg,(hk.block g (i_ aq).1 (λhm=>hF g hm (by rw[hv];rfl))).trans aq,r⟩
theorem EnAt.kept {w w' F B v L vs}(h:EnAt w B v L vs)(hk:Kept F w w')(hF:∀k∈F,v.ownBlock≠some k/\∀x∈vs,x.ownBlock≠some k):EnAt w' B v L vs:=
 ⟨xC4 h.own hk (λk hm=>(hF k hm).1),h.len,λi hi=>⟨xC4 (h.el i hi).1 hk (λk hm=>(hF k hm).2 _ (bb_ _)),(h.el i hi).2⟩⟩
theorem Tryz.info_ent:(prog.info? 128).map (λi=>(i.zero,i.size,i.bytes))=some (some (.agg #[.int .i64 0,.slice none 0 0]),2,32):=by kernel_rfl
def uO (k:Int)(v:Value):List Value:=[.int .i64 k,v]
def vI:List (Int×By×Value)->List Value:=List.flatMap λx=>uO x.1 x.2.2
theorem xPg (l)(x:Int×By×Value):vI (l++[x])=vI l++uO x.1 x.2.2:=by simp[vI]
theorem xHf:∀(l:List (Int×By×Value)) (j:Nat) (hj:j<l.length) (i:Nat),i<2->(vI l)[j*2+i]?=(uO l[j].1 l[j].2.2)[i]?
 |[],j,hj,_,_=>by cases hj
 |x :: l,0,_,i,hi=>by
  have e:vI (x :: l)=uO x.1 x.2.2++vI l:=rfl;rw[e,bZ_,aq_,aJ_ (by simpa[uO]using hi)];rfl
 |x :: l,j+1,hj,i,hi=>by
  have e:vI (x :: l)=uO x.1 x.2.2++vI l:=rfl;rw[e,aF_ (by simp[uO];omega),show (uO x.1 x.2.2).length=2 from rfl,show (j+1)*2+i-2=j*2+i by omega];exact xHf l j (by simpa using hj) i hi
structure JeAt (w:World)(B:Nat)(v:Value)(l:List (Int×By×Value)):Prop where
 own:w.ownsRow B 128 2 v l.length (vI l)
 el:∀x∈l,OwnB w B x.2.2 x.2.1/\x.2.2≠.slice none 0 0/\∀k,x.2.2.ownBlock=some k->v.ownBlock≠some k
theorem JeAt.nil (w B):JeAt w B (.slice none 0 0) []:=⟨aP_ _ _ _ _,λx hx=>by cases hx⟩
theorem JeAt.later {w w' B v l}(h:JeAt w B v l)(hb:Below w.heap.size w w'):JeAt w' B v l:=
 ⟨vv h.own λg _ hg=>hb.block g hg,λx hx=>⟨(h.el x hx).1.below hb,(h.el x hx).2⟩⟩
theorem JeAt.base {w B B' v l}(h:JeAt w B v l)(hb:B'<=B):JeAt w B' v l:=
 ⟨⟨h.own.1,h.own.2.imp (λh=>h) λ⟨g,cap,cur,hv,hg,r⟩=>⟨g,cap,cur,hv,ad_ hb hg,r⟩⟩,λx hx=>⟨(h.el x hx).1.base hb,(h.el x hx).2⟩⟩
theorem JeAt.get {w B v l}(h:JeAt w B v l)(j)(hj:j<l.length):∃g cap gp pcap,v=.slice (some ⟨g,0,none⟩) l.length cap/\l.length<=cap /\
  (∀i u,(uO l[j].1 (.slice (some ⟨gp,0,none⟩) l[j].2.1.length pcap))[i]?=some u->w.cell? ⟨g,j*2+i,none⟩=some u) /\
  gp<w.heap.size/\l[j].2.1.length<=pcap/\pcap<=maxLen/\SlB w ⟨gp,0,none⟩ l[j].2.1:=by
 obtain⟨h1,h2,_⟩:=h.el l[j] (bb_ hj);rcases h1.at with⟨h0,_⟩|⟨gp,pcap,hx,_,hl,hm,hs⟩
 ·exact absurd h0 h2
 rcases h.own.2 with⟨_,h0⟩|⟨g,cap,cur,hv,hg,aq,hle,dC,aJ,eG⟩
 ·omega
 ·refine⟨g,cap,gp,pcap,hv,hle,λi u hu=>?_,(h1.lt (by rw[hx];rfl)).2,hl,hm,hs⟩;have hi:i<2:=(ax_.1 hu).1;have Tt:(vI l)[j*2+i]?=some u:=by rw[xHf l j hj i hi,hx];exact hu
  have:=bc_ h.own (g:=g) (by rw[hv];rfl) (j*2+i) u Tt
  rwa [an_,aq_]at this
theorem xId {rest ops o a}{Q:Exit->Act->World->Prop}{w}(fT:o.guard=none)(s x)
  (ho:o.op=.call { callee:=.builtin .append,args:=#[s,x],argTypes:=#[75,75] }) (B) (v) (l) (hs:a.eval s=v) (tS:JeAt w B v l)
  (r:Int×By×Value) (hr:OwnB w B r.2.2 r.2.1/\r.2.2≠.slice none 0 0/\∀k,r.2.2.ownBlock=some k->v.ownBlock≠some k) (bP:r.2.2.oneCell'=true) (ad) (hx:a.eval x=.slice (some ad) 1 1)
  (hc:∀j u,(uO r.1 r.2.2)[j]?=some u->w.cell? (ad.add j)=some u) (ao:l.length<=1000000) (hB:B<=w.heap.size)
  (h:∀v' w',JeAt w' B v' (l++[r])->w.grownBy w' v.ownBlock->(v'.ownBlock=v.ownBlock\/v'.ownBlock=some w.heap.size)->wpList prog ops Q rest (a.put o.dst v') w'):wpList prog ops Q (o :: rest) a w:=by
 obtain⟨i0,hi,bd,aL,bk⟩:=info_parts Tryz.info_ent;refine wpList_append_own_at w fT s x 75 ho B 128 i0 (.agg #[.int .i64 0,.slice none 0 0]) 2 32 underlying75 hi bd aL bk rfl (by decide) v l.length (vI l) hs tS.own ad 1 1 (uO r.1 r.2.2) hx rfl hc (λu hu=>?_) (by unfold maxLen;omega) (by omega) hB λv' w' h1 h2 _ h4=>?_
 ·simp only[uO,ae_,ch_,or_false]at hu;rcases hu with rfl|rfl <;> first|rfl|exact bP
 ·refine h v' w' ⟨by rw[xPg];simpa using h1,λy hy=>?_⟩ h2 h4;have iL:OwnB w B y.2.2 y.2.1/\y.2.2≠.slice none 0 0/\∀k,y.2.2.ownBlock=some k->v.ownBlock≠some k:=by
   rcases aj_.1 hy with h|h
   ·exact tS.el y h
   ·rw[ac_.1 h];exact hr
  refine⟨iL.1.grown h2 (λk e e2=>iL.2.2 k e2 e),iL.2.1,λk e e2=>?_⟩;rcases h4 with h|h
  ·exact iL.2.2 k e (h▸e2)
  ·have h5:=(iL.1.lt e).2;rw[h]at e2;have:=as_ e2;omega
section
attribute [local go_sem ↓] uh zI jx vK
attribute [local go_sem] xAa xA6 xJn xIm zn zu yx yw xh xf xa x9 xu xv xk xj xq xx xt
theorem JAt.kept {D w w' b v d j es sy fa F}(h:JAt D w b v d j es sy fa)(hk:Kept F w w')(hF:∀k∈F,k≠b/\k∉v.foot/\k∉es):JAt D w' b v d j es sy fa:=by
 obtain⟨ev,vs,h0,h2,h3,h4⟩:=h.ex;have hb:=(i_ h0).1
 exact⟨⟨ev,vs,(hk.block b hb (λhm=>(hF b hm).1 rfl)).trans h0,h2.kept hk (λk hm=>⟨λe=>(hF k hm).2.2 (h3 k e),λx hx e=>(hF k hm).2.2 (h4 x hx k e)⟩),h3,h4⟩,h.dev.kept hk (λk hk hm=>(hF k hm).2.1 hk),h.inv,h.up,h.bB,h.bv,
  λk bG=>⟨(h.es_ k bG).1,ap_ (h.es_ k bG).2.1 hk.size,(h.es_ k bG).2.2⟩⟩
theorem JAt.below {D w w' b v d j es sy fa}(h:JAt D w b v d j es sy fa)(hb:Below w.heap.size w w'):JAt D w' b v d j es sy fa:=
 h.kept (Kept.of_below (F:=[]) hb) (λ_ h=>by cases h)
theorem xGc (d:PD):d.flushed.n=d.n:=rfl
theorem xB5 {d:PD}(h:d.Up):d.flushed.Up:=h
def xNx (D:Nat)(v:Dev)(d:PD)(J:PJ)(w:World)(e:Ending)(w':World):Prop:=
 ∃b v' es entv l,e=.returned (.tuple #[.pointer (some ⟨b,0,none⟩),entv,.int .i64 0])/\Kept v.foot w w'/\JAt D w' b v' (d.puts (J.area*(d.n/2)) (J.secs sha)).1.flushed J es ((J.first:Int)+J.entries.length) 0/\w.heap.size<=b/\v'.p=v.p/\v'.M=v.M /\
 (∀k∈v'.foot,k∈v.foot\/w.heap.size<=k)/\(∀k∈es,w.heap.size<=k)/\JeAt w' w.heap.size entv l/\l.map (λx=>x.2.1)=J.entries
structure JoSt (w5:World)(first:Nat)(L:List By)(k:Nat)(rv:Value)(W:World):Prop where
 bel:Below w5.heap.size w5 W
 je:∃l,JeAt W w5.heap.size rv l/\l.map (λx=>x.2.1)=L.take k
theorem xJt {D w v d}(h:yu D w v d)(hu:d.Up)(hK:qU w)(j)(aZ:JInv sha d.n d j)(hg2:j.gen+2<=2147483647)(aN:d.pend=[])(hD:D<=w.heap.size)(ao:j.entries.length<=1000)(lS:2<D)(i7:8<=d.n):
  Calls prog 25 #[.pointer (some ⟨v.p,0,none⟩),.int .i64 0,.int .i64 d.n] w (xNx D v d (kk sha d.n d j) w):=by
 obtain⟨w1,ai⟩:∃w1,w1=w.alloc (.cells (xE v.p d.n) 113):=⟨_,rfl⟩;have aa:Below w.heap.size w w1:=by rw[ai];exact b_ _ _
 have ah:w1.heap[w.heap.size]?=some (.cells (xE v.p d.n) 113 (0,0)):=by rw[ai];exact heap_alloc_new w _
 have n_:=h_ (xJw (h.below aa) i7);rw[hu.1]at n_;have nF:Hid (∀W,Below w.heap.size w W->Calls prog 48 #[.agg (xE v.p d.n)] W (xTv d W)):=h_ λW hb=>xPb (h.below hb) hu.1 (hK.below hb (aa_ _)) i7
 have aq:=aZ.cur sha yZ
 have Ft:Hid (∀W b ev vs,Below w.heap.size w W->EnAt W w.heap.size ev j.entries vs->b∉v.foot->W.heap[b]?=some (.cells (xX v.p d.n j.area j.gen j.first ev 0 0 0) 124 (0,0))->Calls prog 49 #[.pointer (some ⟨b,0,none⟩),.int .i64 j.first,ev] W (xD7 D b v d (kk sha d.n d j) ev W)):=h_ λW b ev vs hb bS b7 hr=>
  xV1 (h.below hb) hu (hK.below hb (aa_ _)) j aZ hg2 ev vs bS hb.size (λk hk=>(h.foot_lt k hk).2) aN (ad_ hD hb.size) ao lS b7 hr
 obtain⟨n,hn⟩:∃n,n=d.n:=⟨_,rfl⟩;have ar:=h_ aa;obtain⟨J,hJ⟩:∃J,J=kk sha d.n d j:=⟨_,rfl⟩;obtain⟨_,ru,_,rn,rinv⟩:=aZ.reopen sha yZ hu hg2;have rup:=(PD.puts_up ((kk sha d.n d j).secs sha) d ((1-j.area)*(d.n/2)) hu).2.1;have Id:Hid ((1-j.area)=J.area):=h_ (by rw[hJ];rfl);rw[<-hJ]at ru rn rinv rup Ft⊢;rw[Id.out]at ru rn rinv rup;have HRE:=h_ (And.intro rn (And.intro rinv rup));have iZ:Hid (J.entries=j.entries/\J.first=j.first):=h_ (by rw[hJ];exact⟨rfl,rfl⟩);have Fu:=h_ aq;have HD:=h_ h;have Ie:=h_ hD;have gw:(j.first:Int)<=2147483647:=by have:=aZ.ok.first;omega
 have MJ:(j.area:Int)<=1:=by have:=aZ.ok.area;omega
 have DM:(j.gen:Int)<=2147483647:=by have:=aZ.ok.gen;omega
 have Nk:=h_ aZ.ok.ents;have HN:=h_ hn;rw[<-hn]at ai n_ ah nF Ft⊢;unfold xE at nF;have bX:=h_ ah;obtain⟨o1,r1⟩:=xD (n:=3) ah rfl;have bJ:xy 3 (xE v.p n)=true:=by simp[xE,xy,Value.oneCell']
 unfold xE at ai n_ r1 bJ;rw[ai]at o1 r1;clear h i7 hn aa ah hK hu aZ hg2 aN hD lS aq hJ rn rinv rup ru;go_enter func25,ntmps25;go_wp2_with fail;rw[<-ai];clear ai o1 r1;refine n_.mono ?_;rintro e w2 ⟨rfl,aj⟩;unfold yBo;have aP:=(aj.block _ (i_ bX.out).1).trans bX.out;have fu:=h_ aP;have au:=h_ (ar.trans (aj.mono ar.size));obtain⟨o1,r1⟩:=xD (n:=3) aP rfl;unfold xE at r1;clear aj aP;go_wp2_with fail;refine(nF.out w2 au.out).mono ?_;rintro e w3 ⟨al,ca,cg,cf,cv,cc,rfl,JV,wC⟩;have XD:=wC.2;have TO:=JV j Fu.out;rw[Fu.out]at XD;obtain⟨rfl,rfl,rfl,vs,bS⟩:=XD;subst TO;obtain⟨ea,ec,eL⟩:=yd bS.own;obtain⟨ln,cX⟩:∃ln,ln=j.entries.length:=⟨_,rfl⟩;rw[<-cX]at eL ao;subst eL;have dR:=h_ cX;have ay:=h_ (au.trans (al.mono au.size));have dv:=(al.block _ (i_ fu.out).1).trans fu.out;have g_:=jC j.gen j.first (.slice ea ln ec) 0 rfl;obtain⟨w5,aY⟩:∃w5,w5=(w3.alloc (.cells #[.int .i64 j.gen,.int .i64 j.first,.slice ea ln ec,.int .i64 0] 118)).alloc (.cells (xX v.p n j.area j.gen j.first (.slice ea ln ec) 0 0 0) 124):=⟨_,rfl⟩;have aF:Below w3.heap.size w3 w5:=by rw[aY];exact((ab_ _ _).alloc (aa_ _) _).alloc (by simp) _
 have nt:w5.heap.size=w3.heap.size+2:=by rw[aY];simp
 have lD:w5.heap[w3.heap.size]?=some (.cells #[.int .i64 j.gen,.int .i64 j.first,.slice ea ln ec,.int .i64 0] 118 (0,0)):=by
  rw[aY,heap_alloc_old _ _ (by simp),heap_alloc_new]
 have sB:w5.heap[w3.heap.size+1]?=some (.cells (xX v.p n j.area j.gen j.first (.slice ea ln ec) 0 0 0) 124 (0,0)):=by
  have:=heap_alloc_new (w3.alloc (.cells #[.int .i64 j.gen,.int .i64 j.first,.slice ea ln ec,.int .i64 0] 118)) (.cells (xX v.p n j.area j.gen j.first (.slice ea ln ec) 0 0 0) 124);rw[al_]at this;rw[aY,this]
 have eB:=h_ (bS.base au.size);have aU:=h_ aF;have oC:=h_ nt;have re:=h_ lD;have rC:=h_ sB;have Nl:=h_ (show w3.heap.size+1∉v.foot from λhm=>by have:=(HD.foot_lt _ hm).2;have:=ay.size;omega);have Nm:=h_ (Ft.out w5 (w3.heap.size+1) _ vs (ay.trans (aU.mono ay.size)) (eB.later aU.out) Nl.out rC.out);have DR:∀z:World,z.heap[w.heap.size]?=some (.cells (xE v.p n) 113 (0,0))->xo z ⟨w.heap.size,0,none⟩ 3=true/\xm z ⟨w.heap.size,0,none⟩ 3=xE v.p n:=λz hz=>xD (n:=3) hz rfl
 obtain⟨o3,r3⟩:=DR _ ((heap_alloc_old (w:=w3) (o:=.cells #[.int .i64 j.gen,.int .i64 j.first,.slice ea ln ec,.int .i64 0] 118) (h:=(i_ dv).1)).trans dv);unfold xE at r3;obtain⟨o4,r4⟩:=xD (n:=4) (heap_alloc_new w3 (.cells #[.int .i64 j.gen,.int .i64 j.first,.slice ea ln ec,.int .i64 0] 118)) rfl;have c1:=cell_of_row w5 w3.heap.size 1 _ _ _ lD;have c2:=cell_of_row w5 w3.heap.size 2 _ _ _ lD;simp only[v_]at c1 c2;unfold xX at aY;clear wC JV al o1 r1 bS aF nt lD sB dv DR cX Ft;go_upto_region 11 with fail
 refine xr aY ?_;clear aY o3 r3 g_ bJ o4 r4;go_wp2_with fail;refine Nm.mono ?_;rintro e w6 ⟨rfl,dq,pG,v',Bq,wG,XE,CP⟩;obtain⟨Q0,Fv,Nn⟩:=HRE.out;have hb53:=aU.size;have hB3s:=ay.size
 have TP:w6.heap[w3.heap.size]?=some (.cells #[.int .i64 j.gen,.int .i64 j.first,.slice ea ln ec,.int .i64 0] 118 (0,0)):=(dq.block _ (by have:=oC.out;omega) (λhm=>by
  rcases ae_.1 hm with h1|h1
  ·omega
  ·have:=(HD.foot_lt _ h1).2;omega)).trans re.out
 have If:EnAt w6 w.heap.size (.slice ea ln ec) j.entries vs:=eB.under λg du hg2=>(dq.block g (by omega) (λhm=>by
  rcases ae_.1 hm with h1|h1
  ·omega
  ·have:=(HD.foot_lt _ h1).2;omega)).trans (aU.block g hg2)
 have DS:∀q∈v'.foot,q∈v.foot\/w5.heap.size<=q:=CP;have Ig:∀q∈(Value.slice ea ln ec).ownBlock.toList++vs.filterMap Value.ownBlock,w.heap.size<=q/\q<w3.heap.size:=λq hq=>by
  rcases aj_.1 hq with h1|h1
  ·exact aL_ eB.own q (aT_.1 h1)
  ·obtain⟨x,hx,he⟩:=cG_.1 h1;exact⟨(eB.blk x hx q he).1,(eB.blk x hx q he).2.1⟩
 have No:=h_ Ig;have oL:JAt D w6 (w3.heap.size+1) v' (d.puts (J.area*(d.n/2)) (J.secs sha)).1.flushed J ((Value.slice ea ln ec).ownBlock.toList++vs.filterMap Value.ownBlock) ((J.first:Int)+J.entries.length) 0:=by
  have eW:(d.puts (J.area*(d.n/2)) (J.secs sha)).1.flushed.n=d.n:=Q0;refine⟨⟨.slice ea ln ec,vs,by rw[Bq,eW];exact pG,?_,λq hq=>aj_.2 (.inl (aT_.2 hq)),λx hx q hq=>aj_.2 (.inr (cG_.2 ⟨x,hx,hq⟩))⟩,XE,by rw[eW];exact JInv.flushed sha Fv,xB5 Nn,by have:=Ie.out;omega,λhm=>?_,λq hq=>?_⟩
  ·have h1:=If.base (B':=D) Ie.out;rw[iZ.1];exact h1
  ·rcases DS _ hm with h1|h1
   ·exact Nl.out h1
   ·have:=oC.out;omega
  ·have h0:=Ig q hq;have h9:=dq.size;refine⟨by have:=Ie.out;omega,by omega,by omega,λhm=>?_⟩;rcases DS _ hm with h1|h1
   ·have:=(HD.foot_lt _ h1).2;omega
   ·omega
 have DT:Kept v.foot w w6:=by
  refine((Kept.of_below (F:=v.foot) (ay.trans (aU.mono ay.size))).trans dq (λq hq=>?_));rcases ae_.1 hq with h1|h1
  ·exact .inr (by omega)
  ·exact .inl h1
 have aS:Hid (∀W rv l,Below w6.heap.size w6 W->JeAt W w6.heap.size rv l->l.map (λx=>x.2.1)=j.entries->xNx D v d J w (.returned (.tuple #[.pointer (some ⟨w3.heap.size+1,0,none⟩),rv,.int .i64 0])) W):=h_ λW rv l hb tS hl=>by
  refine⟨w3.heap.size+1,v',_,rv,l,rfl,DT.trans (Kept.of_below (F:=[]) hb) (λ_ h=>by cases h),oL.below hb,by omega,Bq,wG,λq hq=>?_,λq hq=>(No.out q hq).1,tS.base DT.size,by rw[hl,iZ.1]⟩;rcases DS q hq with h1|h1
  ·exact .inl h1
  ·exact .inr (by omega)
 have c2:=cell_of_row w6 w3.heap.size 2 _ _ _ TP;simp only[v_]at c2;have XF:=h_ TP;have TQ:=h_ If;have aO:Hid (JoSt w6 j.first j.entries 0 (.slice none 0 0) w6):=h_ ⟨ab_ _ _,[],JeAt.nil _ _,rfl⟩;have G_:(ln:Int)<=1000:=by omega
 clear dq pG Bq wG XE CP Q0 Fv Nn TP If DS Ig No oL DT c1 Nm rC re;go_wp2;go_loopw [58,17] (λu rv wr=>∃k:Nat,u=.int .i64 k/\k<=ln/\Hid (JoSt w6 j.first j.entries k rv wr)) (λu _ _=>ln-(intOf u).toNat)
 case atStart=>exact⟨0,rfl,aV_ _,aO⟩
 case round=>
  obtain⟨k,rfl,hk,HS⟩:=hrel;by_cases hlt:k<ln
  ·have cr:(k:Int)<ln:=by omega
   have ct:k<j.entries.length:=by rw[<-dR.out];exact hlt
   obtain⟨g,cap,e0,ecap,hv,aT,QP,hes,eK,cZ,dL⟩:=TQ.get k ct;have TI:ea=some ⟨g,0,none⟩:=by injection hv
   subst TI;obtain⟨y,hy⟩:∃y,y=j.entries[k]:=⟨_,rfl⟩;have hyl:y.length<=131072:=by rw[hy];exact Nk.out _ (bb_ ct)
   rw[<-hy]at aT eK cZ dL;have eE:=(HS.bel.cell (p:=⟨g,k,none⟩) (block_lt_of_cell aT)).trans aT;have XG:=(HS.bel.block _ (i_ XF.out).1).trans XF.out;have cf:=cell_of_row wr w3.heap.size 1 _ _ _ XG;simp only[v_]at cf;have z1:∀z:x8 wr,z.1.cell? ⟨w3.heap.size,1,none⟩=some (.int .i64 j.first):=λz=>z.cell cf
   have Np:SlB wr.drew ⟨e0,0,none⟩ y:=⟨λq c hq=>(HS.bel.cell (by rw[ya];exact hes)).trans (cZ.cell q c hq)⟩;have bF:=h_ (kB ⟨e0,0,none⟩ y ecap wr.drew Np (by omega));obtain⟨l,tS,hl⟩:=HS.je;have iY:=h_ tS;have dw:=h_ hl;have gW:l.length=k:=by
    have:=congrArg List.length hl;rw[aQ_,ai_,<-dR.out]at this;omega
   have HLK:=h_ gW;have p8:Hid (j.entries.take (k+1)=j.entries.take k++[y]):=h_ (by rw[am_ ct,hy]);have C9:(k:Int)<=1000:=by omega
   have hk1:k+1<=ln:=hlt;obtain⟨yn,rD⟩:∃yn,yn=y.length:=⟨_,rfl⟩;rw[<-rD]at eE bF;have rE:=h_ rD;clear ct aT hes eK cZ dL XG cf Np tS hl gW hv hy rD;go_upto_region 18 with fail
   clear eE;refine xp [0,1,2,3,4,5] [6,7,8,9,10] (λw'=>∃z:x8 wr,w'=z.1) (by kernel_rfl) (by kernel_rfl) (by kernel_rfl) ⟨⟨wr.drew,(ab_ _ _).drew⟩,rfl⟩ ?_;simp only[o_]
   repeat (go_big_quiet_step (fail))
   refine wpQuiet_nil ?_;clear z1;refine yb true (by kernel_rfl) (by kernel_rfl) ?_;simp only[o_];go_wp2_with fail;refine bF.mono ?_;rintro e w7 ⟨cv,rfl,sS,Ih,cY⟩;have Br:Below wr.heap.size wr w7:=(ab_ wr.heap.size wr).drew.trans (cY.mono (aa_ _));obtain⟨cg,cc,gV,_,_,_,_⟩:∃g cap,cv=.slice (some ⟨g,0,none⟩) y.length cap/\wr.drew.heap.size<=g/\y.length<=cap/\cap<=maxLen/\SlB w7 ⟨g,0,none⟩ y:=by
    rcases sS.at with⟨h0,_⟩|h0
    ·exact absurd h0 Ih
    ·exact h0
   rw[<-rE.out]at gV;subst gV;have aM:Below w7.heap.size w7 (w7.alloc (.cells #[.int .i64 ((j.first:Int)+k),.slice (some ⟨cg,0,none⟩) yn cc] 128)):=(ab_ _ _).alloc (aa_ _) _;have gB:=h_ (Br.trans (aM.mono Br.size));have HJ8:=h_ ((iY.later Br).later aM)
   have Nh:Hid (OwnB (w7.alloc (.cells #[.int .i64 ((j.first:Int)+k),.slice (some ⟨cg,0,none⟩) yn cc] 128)) w6.heap.size (.slice (some ⟨cg,0,none⟩) yn cc) y/\(Value.slice (some ⟨cg,0,none⟩) yn cc)≠.slice none 0 0/\∀q,(Value.slice (some ⟨cg,0,none⟩) yn cc).ownBlock=some q->u17.ownBlock≠some q):=h_ ⟨(sS.below aM).base HS.bel.size,Ih,λq e e2=>by
    have h1:=(sS.lt e).1;have h2:=(aL_ iY.own q e2).2;exact absurd h1 (Nat.not_le.2 h2)⟩
   have Fw:Hid (∀i u,(uO ((j.first:Int)+k) (.slice (some ⟨cg,0,none⟩) yn cc))[i]?=some u->(w7.alloc (.cells #[.int .i64 ((j.first:Int)+k),.slice (some ⟨cg,0,none⟩) yn cc] 128)).cell? ((⟨w7.heap.size,0,none⟩:Addr).add i)=some u):=h_ λi u hi=>by
    rw[an_,aq_,yz];simpa[uO]using hi
   have Nq:Hid (l.length<=1000000):=h_ (by rw[HLK.out];omega);have Ko:Hid (w6.heap.size<=(w7.alloc (.cells #[.int .i64 ((j.first:Int)+k),.slice (some ⟨cg,0,none⟩) yn cc] 128)).heap.size):=h_ (ad_ HS.bel.size gB.size);have TR:Below wr.heap.size wr (w7.alloc (.cells #[.int .i64 ((j.first:Int)+k),.slice (some ⟨cg,0,none⟩) yn cc] 128)):=gB.out;have Nr:=h_ Br;clear sS Ih cY aM Br TR;go_wp2_with fail;refine⟨λ_=>⟨⟨_,Nr.out⟩,rfl⟩,yb true (by kernel_rfl) (by kernel_rfl) ?_⟩;simp only[o_];go_wp2;refine⟨λ_=>⟨⟨_,Nr.out⟩,rfl⟩,yb true (by kernel_rfl) (by kernel_rfl) ?_⟩;simp only[o_];go_wp2;refine⟨λ_=>⟨⟨_,gB.out⟩,rfl⟩,xB [9,10] _ _ (by kernel_rfl) ?_⟩;simp only[o_];go_wp2_with (at_builtin;refine xId rfl (.tmp 63) (.tmp 71) rfl w6.heap.size _ _ rfl HJ8.out ((j.first:Int)+k,y,.slice (some ⟨cg,0,none⟩) yn cc) Nh.out rfl ⟨w7.heap.size,0,none⟩ rfl Fw.out Nq.out Ko.out ?_);intro v9 w9 Ns DL _;have bQ:Hid (JoSt w6 j.first j.entries (k+1) v9 w9):=h_ ⟨(HS.bel.trans (gB.mono HS.bel.size)).grown DL Ko.out (λq e=>(aL_ iY.own q e).1),_,Ns,by rw[bl_,dw.out,p8.out];rfl⟩;clear Ns DL;go_wp2;refine ag_ ?_;go_wp2;go_roundw
   case rel=>exact⟨k+1,by go_num,hk1,bQ⟩
   case measure=>simp[intOf];omega
  ·obtain rfl:k=ln:=by omega
   obtain⟨l,tS,hl⟩:=HS.je;rw[ar_ (by rw[<-dR.out];exact aa_ _)]at hl;have HF:=h_ (aS.out wr u17 l HS.bel tS hl);clear tS hl;go_wp2;go_ret3;exact HF.out
end
theorem xIg (b g w)(h:w.cell? ⟨g,0,none⟩=some (.int .i64 0)):CallsD prog 60 #[.pointer (some ⟨b,0,none⟩),.pointer (some ⟨g,0,none⟩)] .returning w λe u' w'=>u'=.returning/\(e=.returned (.tuple #[])/\w'=w):=by
 go_enter_d func60,ntmps60;go_wp2;go_end0;exact⟨rfl,rfl⟩
theorem xJi (w a v)(h:w.cell? a=some v):(loadVar 24 a).run prog w=.ok v w:=by
 have hA:Sem.run prog (isAgg 24) w=.ok false w:=by kernel_rfl
 unfold loadVar;simp[hA,h]
theorem xMp {fn p}(h:fn.results=#[.cell p 24])(tmps w a v)(hp:tmps.getD p undef=.pointer (some a))(hv:w.cell? a=some v):(results fn tmps).run prog w=.ok v w:=by
 have nW:tmps[p]?.getD undef=.pointer (some a):=by simpa using hp
 simp[results,h,nW,asAddr,xJi w a v hv]
theorem xOn {fn s p}(h:fn.results=#[.tmp s,.cell p 24])(tmps w a v0 v)(h0:tmps.getD s undef=v0)(hp:tmps.getD p undef=.pointer (some a))(hv:w.cell? a=some v):(results fn tmps).run prog w=.ok (.tuple #[v0,v]) w:=by
 have nW:tmps[p]?.getD undef=.pointer (some a):=by simpa using hp
 have RQ:tmps[s]?.getD undef=v0:=by simpa using h0
 simp[results,h,nW,RQ,asAddr,xJi w a v hv]
def xNw (D b:Nat)(v:Dev)(d:PD)(j:PJ)(es:List Nat)(w:World)(e:Ending)(w':World):Prop:=
 e=.returned (.int .i64 0)/\Kept (b :: v.foot) w w'/\∃v' sy',v'.p=v.p/\v'.M=v.M/\JAt D w' b v' d.flushed j es sy' 0/\∀k∈v'.foot,k∈v.foot\/w.heap.size<=k
theorem xN3 {D b w v d j es sy}(h:JAt D w b v d j es sy 0)(ao:j.entries.length<=100000):
  Calls prog 28 #[.pointer (some ⟨b,0,none⟩)] w (xNw D b v d j es w):=by
 obtain⟨ev,vs,Fx,fE,fF,gM⟩:=h.ex;have oM:=h_ (And.intro fE (And.intro fF gM));have ae:=fE.own;obtain⟨ea,ec,eL⟩:=yd ae;obtain⟨ln,cX⟩:∃ln,ln=j.entries.length:=⟨_,rfl⟩;rw[<-cX]at eL ao;subst eL;have aG:=h.blt;obtain⟨w1,ai⟩:∃w1,w1=w.alloc (.cells #[.int .i64 0] 24):=⟨_,rfl⟩;have aa:Below w.heap.size w w1:=by rw[ai];exact b_ _ _
 have iD:w1.heap[w.heap.size]?=some (.cells #[.int .i64 0] 24 (0,0)):=by rw[ai];exact heap_alloc_new w _
 have aV:=(aa.block b aG).trans Fx;have Bs:=h_ (kS aV);have pF:=h_ (xNc (h.dev.below aa) h.up.1);have HUF:Hid (d.flush=(d.flushed,true)):=h_ (xSm h.up);have c0:=cell_of_row w1 b 0 _ _ _ aV;simp only[xX,v_]at c0;have gw:j.first<=2147483647:=h.inv.ok.first;have H:=h_ h;have ar:=h_ aa;have wN:=h_ iD;have iw:=h_ aV;have dR:=h_ cX;clear h aa iD aV ae cX Fx fE fF gM;go_enter_defers func28,ntmps28;go_upto_region 1 with fail
 refine xr ai ?_;clear ai;go_wp2_with fail;refine Bs.mono ?_;rintro e w2 ⟨rfl,rfl⟩;go_wp2_with fail;refine pF.mono ?_;rintro e w2 ⟨rfl,hk2,v',ey,i4,bE,dP⟩;rw[HUF.out]at bE⊢;have b7:b∉v.foot:=H.bv;have aP:=(hk2.block b (ap_ aG ar.size) b7).trans iw.out;have fu:=h_ aP;have sG:=h_ (ju aP gw (by omega));have mj:=(hk2.block w.heap.size (i_ wN.out).1 (λhm=>bX_ _ (H.dev.foot_lt _ hm).2)).trans wN.out;have A6:=h_ mj;have CG:=h_ hk2;have mI:=h_ (And.intro ey (And.intro i4 (And.intro bE dP)));clear aP mj hk2 ey i4 bE dP c0;go_wp2_with fail;refine sG.mono ?_;rintro e w3 ⟨rfl,m3,rfl⟩;have al:Below w2.heap.size w2 (w2.drewN m3):=xS (ab_ _ _) m3;have dv:=(al.block b (i_ fu.out).1).trans fu.out;have sT:=(al.block _ (i_ A6.out).1).trans A6.out;have c8:=cell_of_row (w2.drewN m3) b 8 _ _ _ dv;have f8:=frozen_of_row (w2.drewN m3) b 8 _ _ dv;simp only[xX,v_]at c8;have hne:w.heap.size≠b:=by omega
 obtain⟨w4,cP⟩:∃w4,w4=(w2.drewN m3).setCell ⟨b,8,none⟩ (.int .i64 ((j.first:Int)+ln)):=⟨_,rfl⟩;have rF:w4.heap[w.heap.size]?=some (.cells #[.int .i64 0] 24 (0,0)):=by rw[cP];exact(heap_setCell_other _ ⟨b,8,none⟩ w.heap.size _ hne).trans sT
 have lB:w4.heap[b]?=some (.cells (xX v.p d.n j.area j.gen j.first (.slice ea ln ec) (j.secs sha).length ((j.first:Int)+ln) 0) 124 (0,0)):=by rw[cP,heap_setCell_same _ b 8 _ _ _ dv];rfl
 have dQ:Kept [b] w2 w4:=by
  rw[cP];exact(Kept.of_below (F:=[b]) al).trans (zd (w2.drewN m3) b 8 _) (λq hq=>.inl hq)
 have c4:=cell_of_row w4 w.heap.size 0 _ _ _ rF;have f4:=frozen_of_row w4 w.heap.size 0 _ _ rF;simp only[v_]at c4;have Bt:(w4.setCell ⟨w.heap.size,0,none⟩ (.int .i64 0)).heap[w.heap.size]?=some (.cells #[.int .i64 0] 24 (0,0)):=by rw[heap_setCell_same w4 w.heap.size 0 _ _ _ rF];rfl
 have e_:Kept [w.heap.size] w4 (w4.setCell ⟨w.heap.size,0,none⟩ (.int .i64 0)):=zd w4 w.heap.size 0 _;obtain⟨ey,i4,bE,dP⟩:=mI.out;have Ii:b∉v'.foot:=λhm=>by
  rcases dP b hm with h1|h1
  ·exact b7 h1
  ·have:=ar.size;omega
 have Nt:w.heap.size∉v'.foot:=λhm=>by
  rcases dP _ hm with h1|h1
  ·exact bX_ _ (H.dev.foot_lt _ h1).2
  ·have:=(i_ wN.out).1;omega
 have oL:JAt D (w4.setCell ⟨w.heap.size,0,none⟩ (.int .i64 0)) b v' d.flushed j es ((j.first:Int)+ln) 0:=by
  obtain⟨fE,fF,gM⟩:=oM.out;have Fy:Kept (w.heap.size :: b :: v.foot) w (w4.setCell ⟨w.heap.size,0,none⟩ (.int .i64 0)):=(((Kept.of_below (F:=w.heap.size :: b :: v.foot) ar.out).trans CG.out (λq hq=>.inl (aY_ _ (aY_ _ hq)))).trans dQ (λq hq=>.inl (by rw[ac_.1 hq];simp))).trans e_ (λq hq=>.inl (by rw[ac_.1 hq];simp));have bp:∀k∈es,k∉w.heap.size :: b :: v.foot:=λk hk hm=>by
   have h9:=H.es_ k hk;rcases ae_.1 hm with h1|h1
   ·omega
   ·rcases ae_.1 h1 with h2|h2
    ·exact h9.2.2.1 h2
    ·exact h9.2.2.2 h2
  refine⟨⟨_,vs,?_,fE.kept Fy (λk hm=>⟨λe=>bp k (fF k e) hm,λx hx e=>bp k (gM x hx k e) hm⟩),fF,gM⟩,?_,JInv.flushed sha H.inv,xB5 H.up,H.bB,Ii,λq hq=>⟨(H.es_ q hq).1,ap_ (H.es_ q hq).2.1 Fy.size,(H.es_ q hq).2.2.1,λhm=>?_⟩⟩
  ·rw[ey];exact(heap_setCell_other w4 ⟨w.heap.size,0,none⟩ b _ hne.symm).trans lB
  ·exact bE.kept (F:=[b,w.heap.size]) ((dQ.mono (λq hq _=>by simp at hq;simp[hq])).trans e_ (λq hq=>.inl (by simp at hq;simp[hq]))) (λq hq hm=>by
    simp only[ae_,ch_,or_false]at hm;rcases hm with h1|h1
    ·exact Ii (h1▸hq)
    ·exact Nt (h1▸hq))
  ·rcases dP q hm with h1|h1
   ·exact(H.es_ q hq).2.2.2 h1
   ·have h0:=(H.es_ q hq).2.1;have:=ar.size;omega
 have DT:Kept (b :: v.foot) w (w4.setCell ⟨w.heap.size,0,none⟩ (.int .i64 0)):=by
  have k1:=(Kept.of_below (F:=b :: v.foot) ar.out).trans CG.out (λq hq=>.inl (aY_ _ hq));have k2:=k1.trans dQ (λq hq=>.inl (by rw[ac_.1 hq];exact bf_ ..));exact k2.trans e_ (λq hq=>.inr (by rw[ac_.1 hq];exact aa_ _))
 have aS:=h_ (show xNw D b v d j es w (.returned (.int .i64 0)) (w4.setCell ⟨w.heap.size,0,none⟩ (.int .i64 0))from ⟨rfl,DT,v',_,ey,i4,oL,λq hq=>by
  rcases dP q hq with h1|h1
  ·exact .inl h1
  ·exact .inr (ad_ ar.size h1)⟩)
 have Ka:=h_ Bt;clear dv sT hne rF lB dQ e_ ey i4 bE dP Ii Nt oL DT al Bt;go_upto_region 9 with fail
 refine xr cP ?_;clear cP c8 f8;go_wp2;have Nu:=cell_of_row _ w.heap.size 0 _ _ _ Ka.out;refine leaves_cons (f:=60) (args:=#[.pointer (some ⟨b,0,none⟩),.pointer (some ⟨w.heap.size,0,none⟩)]) (by simp) (by simp[go_sem]) ?_;refine(xIg b w.heap.size _ Nu).mono ?_;rintro e u' w'' ⟨rfl,rfl,rfl⟩;exact⟨_,xMp rfl _ _ _ _ rfl Nu,aS.out⟩
section
attribute [local go_sem ↓] vx qQ uh zI
attribute [local go_sem] xGa xG0 xAa xA6 zn zu yx yw xh xf xa x9 xu xv xk xj xq xx xt
def xTw (D b:Nat)(v:Dev)(d:PD)(j:PJ)(y:By)(es:List Nat)(sy:Int)(w:World)(e:Ending)(w':World):Prop:=
 e=.returned (.tuple #[.int .i64 ((j.first:Int)+j.entries.length),.int .i64 0])/\Kept (b :: (v.foot++es)) w w'/\∃v' es',v'.p=v.p/\v'.M=v.M /\
  JAt D w' b v' (d.puts (j.area*(d.n/2)+(j.secs sha).length) (yk sha (j.body y))).1 (j.add y) es' sy 0/\(∀k∈v'.foot,k∈v.foot\/w.heap.size<=k)/\∀k∈es',k∈es\/w.heap.size<=k
def JbC (b:Nat)(cs:Array Value):Type:={ z:World // z.heap[b]?=some (.cells cs 124 (0,0)) }
theorem JbC.cell {b cs}(z:JbC b cs)(j):z.1.cell? ⟨b,j,none⟩=cs[j]?:=cell_of_row _ _ _ _ _ _ z.2
theorem xS7 {D b w v d j es sy}(h:JAt D w b v d j es sy 0)(hK:qU w)(y a cap)(hs:SlB w a y)(ha:a.block<w.heap.size)(QX:a.block∉v.foot)(hl:y.length<=cap)(hy:y.length<=100000)
  (aC:(j.secs sha).length+xO y.length<=d.n/2) (ci:d.pend.length+xO y.length<=1000000) (ao:j.entries.length<=100000) (hD:D<=w.heap.size):
  Calls prog 53 #[.pointer (some ⟨b,0,none⟩),.slice (some a) y.length cap] w (xTw D b v d j y es sy w):=by
 obtain⟨ev,vs,bO,fE,fF,gM⟩:=h.ex;have oM:=h_ (And.intro fE (And.intro fF gM));have ae:=fE.own;obtain⟨ea,ec,eL⟩:=yd ae;obtain⟨ln,cX⟩:∃ln,ln=j.entries.length:=⟨_,rfl⟩;obtain⟨us,mM⟩:∃us,us=(j.secs sha).length:=⟨_,rfl⟩;obtain⟨yn,rD⟩:∃yn,yn=y.length:=⟨_,rfl⟩;obtain⟨nd,bZ⟩:∃nd,nd=xO y.length:=⟨_,rfl⟩;obtain⟨n,hn⟩:∃n,n=d.n:=⟨_,rfl⟩;rw[<-cX]at eL ao;subst eL;rw[<-mM,<-hn]at bO;rw[<-mM,<-bZ,<-hn]at aC;rw[<-bZ]at ci;have aA:n<=4096:=by rw[hn];exact h.dev.n2
 have aG:=(i_ bO).1;obtain⟨w1,ai⟩:∃w1,w1=w.alloc (.cells #[.int .i64 0] 24):=⟨_,rfl⟩;have aa:Below w.heap.size w w1:=by rw[ai];exact b_ _ _
 have iD:w1.heap[w.heap.size]?=some (.cells #[.int .i64 0] 24 (0,0)):=by rw[ai];exact heap_alloc_new w _
 have aV:=(aa.block b aG).trans bO;have Bs:=h_ (kS aV);have wt:=h_ (xGb y.length w1 hy);rw[<-bZ,<-rD]at wt;have gw:j.first<=2147483647:=h.inv.ok.first;have XH:=h.inv.ok.area;have pS:=h.inv.ok.gen;have c1:=cell_of_row w1 w.heap.size 0 _ _ _ iD;have f1:=frozen_of_row w1 w.heap.size 0 _ _ iD;simp only[v_]at c1;obtain⟨w2,aw⟩:∃w2,w2=w1.setCell ⟨w.heap.size,0,none⟩ (.int .i64 0):=⟨_,rfl⟩;have aj:Below w.heap.size w w2:=by rw[aw];exact aa.setCell (p:=⟨w.heap.size,0,none⟩) (aa_ _) _
 have mj:w2.heap[w.heap.size]?=some (.cells #[.int .i64 0] 24 (0,0)):=by rw[aw,heap_setCell_same w1 w.heap.size 0 _ _ _ iD];rfl
 have aP:=(aj.block b aG).trans bO;have c2:=cell_of_row w2 w.heap.size 0 _ _ _ mj;simp only[v_]at c2;have wO:=h_ (xD0 aP aA (by omega));have H:=h_ h;have HK:=h_ hK;have HS:=h_ hs;have au:=h_ aj;have A6:=h_ mj;have fu:=h_ aP;have dR:=h_ cX;have Ib:=h_ mM;have rE:=h_ rD;have Bu:=h_ bZ;have HN:=h_ hn;have HAV:=h_ QX;have mf:=h_ ci;have Ie:=h_ hD;have Fz:=h_ aC;rw[<-rD]at hl hy⊢;have To:(yn:Int)<=100000:=by omega
 have TS:(nd:Int)<=((n/2-us:Nat):Int):=by omega
 have Nv:(nd:Int)<=4096:=by omega
 have TT:((n/2-us:Nat):Int)<=4096:=by omega
 obtain⟨fr,nG⟩:∃fr,fr=n/2-us:=⟨_,rfl⟩;rw[<-nG]at TS TT wO;clear h aa iD aV ae cX hK hs bO fE fF gM aj mj aP mM rD bZ hn QX ci hD nG aC;go_enter_defers func53,ntmps53;go_upto_region 1 with fail
 refine xr ai ?_;clear ai;go_wp2_with fail;refine Bs.mono ?_;rintro e w' ⟨rfl,rfl⟩;go_wp2_with fail;refine wt.mono ?_;rintro e w' ⟨rfl,rfl⟩;go_upto_region 5 with fail
 refine xr aw ?_;clear aw c1 f1;go_wp2_with fail;refine wO.mono ?_;rintro e w3 ⟨rfl,al⟩;have ay:=h_ (au.trans (al.mono au.size));have sT:=(al.block _ (i_ A6.out).1).trans A6.out;have dv:=(al.block _ (i_ fu.out).1).trans fu.out;have k4:=cell_of_row w3 b 4 _ _ _ dv;have k6:=cell_of_row w3 b 6 _ _ _ dv;simp only[xX,v_]at k4 k6;have z1:∀z:x8 w3,z.1.cell? ⟨b,4,none⟩=some (.int .i64 j.gen):=λz=>z.cell k4
 have z2:∀z:x8 w3,z.1.cell? ⟨b,6,none⟩=some (.slice ea ln ec):=λz=>z.cell k6
 have Kq:=h_ sT;have iq:=h_ dv;have G_:(ln:Int)<=100000:=by omega
 have DM:(j.gen:Int)<=2147483647:=by omega
 clear al sT dv k4 k6;go_upto_region 10 with fail
 refine zS [0,1,2,3,4,5,6,7,8,9,10,11,12,13] [14,15] 2 (λw'=>∃z:x8 w3,w'=z.1) (by kernel_rfl) (by kernel_rfl) rfl ⟨⟨_,(ab_ _ _).drew⟩,rfl⟩ ?_;simp only[o_]
 repeat (go_big_quiet_step (fail))
 refine wpQuiet_nil ?_;clear z1 z2;refine zz [14,15] rfl (by kernel_rfl) (by kernel_rfl) (by kernel_rfl) ?_;refine yb true (by kernel_rfl) (by kernel_rfl) ?_;simp only[o_];go_wp2;refine⟨λ_=>⟨⟨_,(((ab_ _ _).alloc (aa_ _) _).drew:Below w3.heap.size w3 _)⟩,rfl⟩,xB [15] _ _ (by kernel_rfl) ?_⟩;simp only[o_];have bJ:=xKa 2 j.gen ((ln:Int)+1) (.slice (some a) yn cap) rfl;go_wp2;refine ag_ ?_;go_upto_region 11 with fail
 clear bJ;obtain⟨w4,cP⟩:∃w4,w4=(w3.alloc (.cells #[.int .i64 2,.int .i64 j.gen,.int .i64 ((ln:Int)+1),.slice (some a) yn cap] 172)).drew:=⟨_,rfl⟩;refine xr cP ?_;have aQ:Below w3.heap.size w3 w4:=by rw[cP];exact((ab_ _ _).alloc (aa_ _) _).drew
 have Nw:w4.heap[w3.heap.size]?=some (.cells #[.int .i64 2,.int .i64 j.gen,.int .i64 ((ln:Int)+1),.slice (some a) yn cap] 172 (0,0)):=by rw[cP];exact heap_alloc_new w3 _
 have bt:=h_ (ay.trans (aQ.mono ay.size));have lB:=(aQ.block _ (i_ iq.out).1).trans iq.out;have rF:=(aQ.block _ (i_ Kq.out).1).trans Kq.out;have k3:=cell_of_row w4 b 3 _ _ _ lB;have k7:=cell_of_row w4 b 7 _ _ _ lB;simp only[xX,v_]at k3 k7;have z1:∀z:x8 w4,z.1.cell? ⟨b,3,none⟩=some (.int .i64 j.area):=λz=>z.cell k3
 have z2:∀z:x8 w4,z.1.cell? ⟨b,7,none⟩=some (.int .i64 us):=λz=>z.cell k7
 have r5:=xP9 lB;have z3:∀z:x8 w4,xo z.1 ⟨b,0,none⟩ 3=true:=λz=>x8.ok r5.1 z
 have z4:∀z:x8 w4,xm z.1 ⟨b,0,none⟩ 3=xE v.p n:=λz=>(x8.rd r5.1 z).trans r5.2
 have r6:=xD (n:=4) Nw rfl;have z5:∀z:x8 w4,xo z.1 ⟨w3.heap.size,0,none⟩ 4=true:=λz=>x8.ok r6.1 z
 have z6:∀z:x8 w4,xm z.1 ⟨w3.heap.size,0,none⟩ 4=#[.int .i64 2,.int .i64 j.gen,.int .i64 ((ln:Int)+1),.slice (some a) yn cap]:=λz=>(x8.rd r6.1 z).trans r6.2
 obtain⟨m2,eV⟩:∃m2,m2=n/2:=⟨_,rfl⟩;obtain⟨bs,pE⟩:∃bs,bs=j.area*m2:=⟨_,rfl⟩;obtain⟨at_,aB⟩:∃at_,at_=bs+us:=⟨_,rfl⟩;have Nx:at_+nd<=n:=by
  have:=Fz.out;rw[<-eV]at this;rcases (show j.area=0\/j.area=1 by omega)with h|h <;> rw[aB,pE,h] <;> omega
 have z7:∀z:x8 w4,Calls prog 65 #[.agg (xE v.p n)] z.1 λe w'=>e=.returned (.int .i64 m2)/\∃z':x8 w4,w'=z'.1:=λz=>x8.call ((xCy v.p n aA z.1).mono λe w' ⟨h1,h2⟩=>⟨by rw[h1,eV],h2⟩)
 have gE:((1+j.entries.length:Nat):Int)=(ln:Int)+1:=by have:=dR.out;omega
 have gL:Hid (∀z:x8 w4,Calls prog 74 #[.agg (xE v.p n),.int .i64 at_,.agg #[.int .i64 2,.int .i64 j.gen,.int .i64 ((ln:Int)+1),.slice (some a) yn cap]] z.1 (xFu D v d at_ (j.body y) z.1)):=h_ λz=>by
  have hz:=bt.trans (z.2.mono bt.size);have h1:=xS5 (H.dev.below hz) H.up (HK.below hz (aa_ _)) at_ (j.body y) (xWv H.inv.ok y (by have:=rE.out;omega) (by have:=dR.out;omega)) a cap (by show y.length<=cap;rw[<-rE.out];exact hl) ⟨λq c hq=>(hz.cell (by rw[ya];exact ha)).trans (HS.cell q c hq)⟩ (by have:=hz.size;omega) (by show at_+xO y.length<=d.n;rw[<-Bu.out,<-HN.out];exact Nx) (by show d.pend.length+xO y.length<=1000000;rw[<-Bu.out];exact mf.out) (by have:=hz.size;have:=Ie.out;omega);rw[<-HN.out]at h1;have e1:(y9 (j.body y).kind (j.body y).gen (j.body y).num (.slice (some a) (j.body y).pay.length cap)).toArray=#[.int .i64 2,.int .i64 j.gen,.int .i64 ((ln:Int)+1),.slice (some a) yn cap]:=by
   unfold PJ.body;simp only[y9];rw[gE,<-rE.out]
  rw[e1]at h1;exact h1
 have TL:(j.area:Int)*(m2:Int)=(bs:Int):=by rw[pE];simp
 have Nc:(bs:Int)+(us:Int)=(at_:Int):=by rw[aB];simp
 have bz:(bs:Int)<=4096:=by omega
 have Dy:(m2:Int)<=4096:=by omega
 have Xz:(us:Int)<=4096:=by omega
 have MJ:(j.area:Int)<=1:=by omega
 have Ny:=h_ z7;have TU:=h_ rF;have oH:=h_ lB;have pA:Hid (at_=j.area*(d.n/2)+(j.secs sha).length):=h_ (by rw[aB,pE,eV,HN.out,Ib.out]);have QO:=h_ eV;clear cP aQ Nw lB rF k3 k7 r5 r6 eV pE aB Nx z7 gE;unfold xE at z4 Ny gL;refine ui (by kernel_rfl) ?_;refine jZ [0,1,2,3,4,5,6,7,8,9,10,11,12,13,14,15,16,17,18,19,20] [21,22] 4 (λw'=>∃z:x8 w4,w'=z.1) (by kernel_rfl) (by kernel_rfl) rfl rfl ⟨⟨_,(ab_ _ _).drew⟩,rfl⟩ ?_;simp only[o_]
 repeat (go_big_quiet_step (first|(go_at_call 65;exact Ny.out _)))
 refine wpQuiet_nil ?_;rintro _ ⟨z,rfl⟩;clear z1 z2 z3 z4 z5 z6 Ny;refine uD [21,22] _ _ (by kernel_rfl) ?_;simp only[o_];go_wp2_with fail;refine(gL.out z).mono ?_;rintro e w5 ⟨rfl,e_,v2,ey,i4,bE,dP⟩;obtain⟨z,Bv⟩:=z;have Ij:Below w.heap.size w z:=bt.trans (Bv.mono bt.size);have pH:w.heap.size<z.heap.size:=ap_ (i_ TU.out).1 Bv.size;have Q3:w.heap.size∉v.foot:=λhm=>bX_ _ (H.dev.foot_lt _ hm).2
 have Bt:=(e_.block w.heap.size pH Q3).trans ((Bv.block _ (i_ TU.out).1).trans TU.out);have mA:=(e_.block b (by show b<z.heap.size;omega) H.bv).trans ((Bv.block _ (i_ oH.out).1).trans oH.out);have c5:=cell_of_row w5 w.heap.size 0 _ _ _ Bt;have f5:=frozen_of_row w5 w.heap.size 0 _ _ Bt;simp only[v_]at c5;have Nz:Kept v.foot w w5:=(Kept.of_below (F:=v.foot) Ij).trans e_ (λq hq=>.inl hq);have tT:∀q∈v2.foot,q∈v.foot\/z.heap.size<=q:=dP;have Bw:=h_ Nz;have mI:=h_ (And.intro ey (And.intro i4 (And.intro bE tT)));have Ka:=h_ Bt;have po:=h_ mA;have HZS:=h_ pH;have hne:b≠w.heap.size:=by omega
 obtain⟨w6,b8⟩:∃w6,w6=w5.setCell ⟨w.heap.size,0,none⟩ (.int .i64 0):=⟨_,rfl⟩;have TV:w6.heap[w.heap.size]?=some (.cells #[.int .i64 0] 24 (0,0)):=by rw[b8,heap_setCell_same w5 w.heap.size 0 _ _ _ Bt];rfl
 have sP:w6.heap[b]?=some (.cells (xX v.p n j.area j.gen j.first (.slice ea ln ec) us sy 0) 124 (0,0)):=by rw[b8];exact(heap_setCell_other w5 ⟨w.heap.size,0,none⟩ b _ hne).trans mA
 have fG:Kept [w.heap.size] w5 w6:=by rw[b8];exact zd w5 w.heap.size 0 _
 have XI:=h_ TV;have Bh:=h_ sP;have rG:=h_ fG;have c6:=cell_of_row w6 w.heap.size 0 _ _ _ TV;simp only[v_]at c6;have sG:=h_ (ju sP gw (by omega));have HB4Z:=h_ Ij;clear e_ ey i4 bE dP Bt mA Nz tT pH Q3 TV sP fG Ij Bv gL;rw[show xO (j.body y).pay.length=nd from by show xO y.length=nd;exact Bu.symm];go_wp2;refine ag_ ?_;rw[uo];refine kf [23,24] [25,26] 0 (λw'=>w'=w5) (by kernel_rfl) (by kernel_rfl) (by kernel_rfl) rfl rfl rfl ?_;simp only[o_]
 repeat (go_big_quiet_step (fail))
 refine wpQuiet_nil ?_;refine xBp true rfl (by kernel_rfl) ?_;go_wp2;refine⟨λ_=>rfl,uD [26] _ _ (by kernel_rfl) ?_⟩;simp only[o_];go_wp2;refine ag_ ?_;rw[uo];refine vB (by kernel_rfl) ?_;go_upto_region 12 with fail
 refine xr b8 ?_;clear b8 c5 f5;go_wp2_with fail;refine sG.mono ?_;rintro e w7 ⟨rfl,m7,rfl⟩;have cY:Below w6.heap.size w6 (w6.drewN m7):=xS (ab_ _ _) m7;have rB:=(cY.block b (i_ Bh.out).1).trans Bh.out;have TW:=(cY.block _ (i_ XI.out).1).trans XI.out;clear c6;generalize w6.drewN m7=w7 at cY rB TW⊢
 have NA:SlB w7.drew a y:=⟨λq c hq=>by
  have h0:=HS.cell q c hq;have XJ:(a.add q).block=a.block:=ya ..;unfold World.cell? at h0⊢;rw[show w7.drew.heap=w7.heap from rfl,XJ,cY.block a.block (ap_ ha (ad_ Bw.size rG.size)),rG.block a.block (ap_ ha Bw.size) (by simp;omega),Bw.block a.block ha HAV.out,<-XJ];exact h0⟩
 have bF:=h_ (kB a y cap w7.drew NA (by have:=rE.out;omega));rw[<-rE.out]at bF;have fA:=h_ cY;have FA:=h_ rB;have TX:=h_ TW;have z1:∀z:JbC b (xX v.p n j.area j.gen j.first (.slice ea ln ec) us sy 0),z.1.cell? ⟨b,6,none⟩=some (.slice ea ln ec):=λz=>z.cell 6
 haveI:Nonempty (JbC b (xX v.p n j.area j.gen j.first (.slice ea ln ec) us sy 0)):=⟨⟨w7,rB⟩⟩
 clear NA cY rB TW;go_upto_region 15 with fail
 refine xp [0,1,2,3,4,5,6] [7,8,9,10,11,12,13] (λw'=>∃z:JbC b (xX v.p n j.area j.gen j.first (.slice ea ln ec) us sy 0),w'=z.1) (by kernel_rfl) (by kernel_rfl) (by kernel_rfl) ⟨⟨w7.drew,FA.out⟩,rfl⟩ ?_;simp only[o_]
 repeat (go_big_quiet_step (fail))
 refine wpQuiet_nil ?_;clear z1;refine yb true (by kernel_rfl) (by kernel_rfl) ?_;simp only[o_];go_wp2_with fail;refine bF.mono ?_;rintro e w8 ⟨cv,rfl,dW,Ik,dj⟩;have iS:Below w7.heap.size w7 w8:=(ab_ w7.heap.size w7).drew.trans (dj.mono (aa_ _));have bP:cv.oneCell'=true:=by
  rcases dW.at with⟨h0,_⟩|⟨g,c,h0,_⟩ <;> rw[h0] <;> rfl
 obtain⟨cg,cc,gV,_,_,_,_⟩:∃g cap,cv=.slice (some ⟨g,0,none⟩) y.length cap/\w7.drew.heap.size<=g/\y.length<=cap/\cap<=maxLen/\SlB w8 ⟨g,0,none⟩ y:=by
  rcases dW.at with⟨h0,_⟩|h0
  ·exact absurd h0 Ik
  ·exact h0
 rw[<-rE.out]at gV;subst gV;have fc:Below w8.heap.size w8 (w8.alloc (.cells #[.slice (some ⟨cg,0,none⟩) yn cc] 31)):=(ab_ _ _).alloc (aa_ _) _;have na:=iS.trans (fc.mono iS.size);have sQ:=(iS.block _ (i_ FA.out).1).trans FA.out;have Bp:=(na.block _ (i_ FA.out).1).trans FA.out;have XK:=(na.block _ (i_ TX.out).1).trans TX.out;have Il:Kept (w.heap.size :: v.foot) w w7:=((Bw.mono (λq hq _=>aY_ _ hq)).trans rG.out (λq hq=>.inl (by rw[ac_.1 hq];exact bf_ ..))).trans (Kept.of_below (F:=[]) fA.out) (λq hq=>by cases hq);have DU:=Il.trans (Kept.of_below (F:=[]) na) (λq hq=>by cases hq);obtain⟨fE,fF,gM⟩:=oM.out;have oN:=fE.own;rw[<-dR.out]at oN;have bp:∀k∈es,k<w.heap.size/\k≠b/\k∉v.foot:=λk hk=>(H.es_ k hk).2
 have Im:∀q,(Value.slice ea ln ec).ownBlock=some q->q<w.heap.size/\q≠b/\q∉v.foot:=λq hq=>bp q (fF q hq)
 have In:EnAt (w8.alloc (.cells #[.slice (some ⟨cg,0,none⟩) yn cc] 31)) D (.slice ea ln ec) j.entries vs:=fE.kept DU (λk hm=>by
  have h5:k∉es:=λhk=>by
   have h9:=bp k hk;rcases ae_.1 hm with h1|h1
   ·omega
   ·exact h9.2.2 h1
  exact⟨λe=>h5 (fF k e),λx hx e=>h5 (gM x hx k e)⟩)
 have mD:=In.own;rw[<-dR.out]at mD;have ET:OwnB (w8.alloc (.cells #[.slice (some ⟨cg,0,none⟩) yn cc] 31)) D (.slice (some ⟨cg,0,none⟩) yn cc) y/\(Value.slice (some ⟨cg,0,none⟩) yn cc)≠.slice none 0 0/\∀k,(Value.slice (some ⟨cg,0,none⟩) yn cc).ownBlock=some k->(Value.slice ea ln ec).ownBlock≠some k:=by
  have h7:w.heap.size<=w7.heap.size:=ad_ (ad_ Bw.size rG.size) fA.size;refine⟨(dW.below fc).base (by show D<=w7.heap.size;have:=Ie.out;omega),Ik,λk hk e=>?_⟩;have h1:w7.heap.size<=k:=(dW.lt hk).1;have h2:=(Im k e).1;omega
 have E8:w.heap.size<cg/\w5.heap.size<=cg:=by
  have h1:w7.heap.size<=cg:=(dW.lt (k:=cg) rfl).1;have h2:=rG.size;have h3:=fA.size;have h4:=(i_ TX.out).1;omega
 have Bx:=h_ (And.intro In (And.intro ET E8));obtain⟨i0,hi,bd,aL,bk⟩:=info_parts Tryz.info_slb;have HI:=h_ (And.intro hi (And.intro bd (And.intro aL bk)));have GB:Hid ((w8.alloc (.cells #[.slice (some ⟨cg,0,none⟩) yn cc] 31)).cell? ⟨w8.heap.size,0,none⟩=some (.slice (some ⟨cg,0,none⟩) yn cc)):=h_ (by rw[yz];rfl);have sv:Hid (ln+1<=maxLen):=h_ (by unfold maxLen;omega);have Hy:Hid ((ln+1)*24<=140737488355328):=h_ (by omega);have ER:Hid (D<=(w8.alloc (.cells #[.slice (some ⟨cg,0,none⟩) yn cc] 31)).heap.size):=h_ (ad_ Ie.out DU.size);have AA:=h_ mD;have Bz:=h_ Im;have Nh:=h_ sQ;have Q4:=h_ Bp;have TY:=h_ XK;have TZ:=h_ DU;have NB:w8.heap.size<(w8.alloc (.cells #[.slice (some ⟨cg,0,none⟩) yn cc] 31)).heap.size:=by rw[al_];omega
 have HS89:=h_ NB;have HK07:=h_ Il;have T0:=h_ iS;have T1:=h_ na;clear dW Ik dj iS fc na sQ Bp XK Il DU fE fF gM oN bp Im In ET E8 mD hi bd aL bk NB bF bP;go_wp2_with fail;refine⟨λ_=>⟨⟨w8,Nh.out⟩,rfl⟩,yb true (by kernel_rfl) (by kernel_rfl) ?_⟩;simp only[o_];go_wp2;refine⟨λ_=>⟨⟨_,Q4.out⟩,rfl⟩,yb true (by kernel_rfl) (by kernel_rfl) ?_⟩;simp only[o_]
 go_wp2_with (at_builtin;refine wpList_append_own_at _ rfl (.tmp 77) (.tmp 80) 116 rfl D 31 i0 (.slice none 0 0) 1 24 underlying116 HI.1 HI.2.1 HI.2.2.1 HI.2.2.2 rfl (by decide) _ ln _ rfl AA.out ⟨w8.heap.size,0,none⟩ 1 1 [.slice (some ⟨cg,0,none⟩) yn cc] rfl rfl (λq u hq=>by
   match q,hq with
   |0,hq=>
    simp only[aC_,aR_]at hq;subst hq;rw[an_];exact GB.out) (λu hu=>by simp at hu;rw[hu];rfl) sv.out Hy.out ER.out ?_)
 intro v' bn tC cJ _ mE;obtain⟨va,vc,T2⟩:=yd tC;have l7:=(cJ.block b (i_ Q4.out).1 (λe=>(Bz.out b e.symm).2.1 rfl)).trans Q4.out;have NC:=(cJ.block _ (i_ TY.out).1 (λe=>by have:=(Bz.out _ e.symm).1;omega)).trans TY.out;have Kr:=cell_of_row bn b 6 _ _ _ l7;have f10:=frozen_of_row bn b 6 _ _ l7;simp only[xX,v_]at Kr;have T3:∀q,v'.ownBlock=some q->q≠b/\q≠w.heap.size/\((Value.slice ea ln ec).ownBlock=some q\/(w.heap.size<q/\w5.heap.size<=q)):=λq hq=>by
  rcases mE with h1|h1
  ·have h2:=Bz.out q (h1▸hq);exact⟨h2.2.1,by omega,.inl (h1▸hq)⟩
  ·rw[h1]at hq;have h2:=as_ hq;have h3:=(i_ TY.out).1;have h4:=(i_ Q4.out).1;simp only[al_]at h2 h3 h4;have h6:=rG.size;have h7:=fA.size;have h8:=T0.size;exact⟨by omega,by omega,.inr ⟨by omega,by omega⟩⟩
 subst T2;have T4:∀q:Nat,q=q:=λ_=>rfl
 obtain⟨aW,eo⟩:∃aW,aW=bn.setCell ⟨b,6,none⟩ (.slice va (ln+1) vc):=⟨_,rfl⟩;have l9:aW.heap[b]?=some (.cells (xX v.p n j.area j.gen j.first (.slice va (ln+1) vc) us sy 0) 124 (0,0)):=by rw[eo,heap_setCell_same bn b 6 _ _ _ l7];rfl
 have ND:aW.heap[w.heap.size]?=some (.cells #[.int .i64 0] 24 (0,0)):=by rw[eo];exact(heap_setCell_other bn ⟨b,6,none⟩ _ _ (by show w.heap.size≠b;omega)).trans NC
 have XL:=cell_of_row aW b 7 _ _ _ l9;have f11:=frozen_of_row aW b 7 _ _ l9;simp only[xX,v_]at XL;obtain⟨w12,ep⟩:∃w12,w12=aW.setCell ⟨b,7,none⟩ (.int .i64 ((us:Int)+nd)):=⟨_,rfl⟩;have NE:w12.heap[b]?=some (.cells (xX v.p n j.area j.gen j.first (.slice va (ln+1) vc) (us+nd) sy 0) 124 (0,0)):=by
  rw[ep,heap_setCell_same aW b 7 _ _ _ l9];have e:((us:Int)+nd)=((us+nd:Nat):Int):=by omega
  rw[e];rfl
 have DV:w12.heap[w.heap.size]?=some (.cells #[.int .i64 0] 24 (0,0)):=by rw[ep];exact(heap_setCell_other aW ⟨b,7,none⟩ _ _ (by show w.heap.size≠b;omega)).trans ND
 have c12:=cell_of_row w12 w.heap.size 0 _ _ _ DV;have f12:=frozen_of_row w12 w.heap.size 0 _ _ DV;simp only[v_]at c12;have NF:(w12.setCell ⟨w.heap.size,0,none⟩ (.int .i64 0)).heap[w.heap.size]?=some (.cells #[.int .i64 0] 24 (0,0)):=by rw[heap_setCell_same w12 w.heap.size 0 _ _ _ DV];rfl
 have Io:(w12.setCell ⟨w.heap.size,0,none⟩ (.int .i64 0)).heap[b]?=some (.cells (xX v.p n j.area j.gen j.first (.slice va (ln+1) vc) (us+nd) sy 0) 124 (0,0)):=(heap_setCell_other w12 ⟨w.heap.size,0,none⟩ b _ hne).trans NE;have FB:=h_ NF;have nH:Kept [b,w.heap.size] bn (w12.setCell ⟨w.heap.size,0,none⟩ (.int .i64 0)):=by
  have k1:Kept [b] bn aW:=by rw[eo];exact zd bn b 6 _
  have k2:Kept [b] aW w12:=by rw[ep];exact zd aW b 7 _
  exact((k1.trans k2 (λq hq=>.inl hq)).mono (λq hq _=>by simp at hq;simp[hq])).trans (zd w12 w.heap.size 0 _) (λq hq=>.inl (by simp at hq;simp[hq]))
 have BA:Kept ((Value.slice ea ln ec).ownBlock.toList) (w8.alloc (.cells #[.slice (some ⟨cg,0,none⟩) yn cc] 31)) bn:=⟨cJ.os,cJ.tape,cJ.output,cJ.size,λq hq hn=>cJ.block q hq (λe=>hn (by rw[<-e];simp))⟩;have FC:EnAt bn D (.slice va (ln+1) vc) (j.entries++[y]) (vs++[.slice (some ⟨cg,0,none⟩) yn cc]):=EnAt.app Bx.1 (by rw[<-dR.out];exact tC) cJ Bx.2.1 (λk hk=>mE.imp (λh=>h.symm.trans hk) (λh=>by have h2:=h.symm.trans hk;simp only[al_,aR_]at h2⊢;omega));have FD:=h_ FC
 have aS:Hid (xTw D b v d j y es sy w (.returned (.tuple #[.int .i64 ((j.first:Int)+ln),.int .i64 0])) (w12.setCell ⟨w.heap.size,0,none⟩ (.int .i64 0))):=h_ (by
  obtain⟨ey,i4,bE,tT⟩:=mI.out;have pH:=HZS.out;have il:∀q,q<z.heap.size->q∉v.foot->q∉v2.foot:=λq h1 h2 hm=>by
   rcases tT q hm with h3|h3
   ·exact h2 h3
   ·omega
  have bz:b<z.heap.size:=by omega
  have T5:∀q,(Value.slice ea ln ec).ownBlock=some q->q∉v2.foot:=λq hq=>il q (by have:=(Bz.out q hq).1;omega) (Bz.out q hq).2.2
  have Q3:w.heap.size∉v.foot:=λhm=>bX_ _ (H.dev.foot_lt _ hm).2
  have aZ:=H.inv.add sha yZ H.up y (by have:=rE.out;omega) (by have:=dR.out;omega) (by have:=Fz.out;rw[<-Ib.out,<-Bu.out,<-HN.out];exact this);refine⟨by rw[dR.out],?_,v2,es++(cg :: (Value.slice va (ln+1) vc).ownBlock.toList),ey,i4,?_,λq hq=>?_,λq hq=>?_⟩
  ·have k1:=TZ.mono (F':=b :: (w.heap.size :: (v.foot++(Value.slice ea ln ec).ownBlock.toList))) (λq hq _=>by
    rcases ae_.1 hq with h1|h1
    ·simp[h1]
    ·simp[h1])
   have k2:=(k1.trans BA (λq hq=>.inl (by simp at hq;simp[hq]))).trans nH (λq hq=>.inl (by simp at hq;rcases hq with h|h <;> simp[h]));refine k2.mono (λq hq hlt=>?_);simp only[ae_]at hq⊢;rcases hq with h1|h1|h1
   ·exact .inl h1
   ·omega
   ·rcases aj_.1 h1 with h2|h2
    ·exact .inr (aj_.2 (.inl h2))
    ·exact .inr (aj_.2 (.inr (oM.2.1 q (aT_.1 h2))))
  ·have eW:(d.puts (j.area*(d.n/2)+(j.secs sha).length) (yk sha (j.body y))).1.n=d.n:=aZ.2.2.1;have hes:∀q∈es++(cg :: (Value.slice va (ln+1) vc).ownBlock.toList),q∈es\/(w.heap.size<q/\w5.heap.size<=q):=λq hq=>by
    rcases aj_.1 hq with h1|h1
    ·exact .inl h1
    ·rcases ae_.1 h1 with h2|h2
     ·exact .inr (h2▸Bx.2.2)
     ·exact(T3 q (aT_.1 h2)).2.2.imp (λh=>oM.2.1 q h) id
   have sU:EnAt (w12.setCell ⟨w.heap.size,0,none⟩ (.int .i64 0)) D (.slice va (ln+1) vc) (j.entries++[y]) (vs++[.slice (some ⟨cg,0,none⟩) yn cc]):=FD.kept nH (λk hm=>by
    have h5:k∉es++(cg :: (Value.slice va (ln+1) vc).ownBlock.toList):=λhk=>by
     have h9:k=b\/k=w.heap.size:=by simpa using hm
     rcases hes k hk with h1|h1
     ·have h2:=(H.es_ k h1).2;rcases h9 with h|h
      ·exact h2.2.1 h
      ·omega
     ·omega
    refine⟨λe=>h5 (aj_.2 (.inr (aY_ _ (aT_.2 e)))),λx hx e=>h5 ?_⟩;rcases aj_.1 hx with h1|h1
    ·exact aj_.2 (.inl (oM.2.2 x h1 k e))
    ·rw[ac_.1 h1]at e;have:cg=k:=as_ e;exact aj_.2 (.inr (by rw[this];exact bf_ ..)))
   have NG:EnAt (w12.setCell ⟨w.heap.size,0,none⟩ (.int .i64 0)) D (.slice va (ln+1) vc) (j.add y).entries (vs++[Value.slice (some ⟨cg,0,none⟩) yn cc]):=sU;refine⟨⟨Value.slice va (ln+1) vc,vs++[Value.slice (some ⟨cg,0,none⟩) yn cc],?_,NG,λq hq=>aj_.2 (.inr (aY_ _ (aT_.2 hq))),λx hx q hq=>?_⟩,?_,by rw[eW];exact aZ.2.2.2,aZ.2.1,H.bB,il b bz H.bv,λq hq=>?_⟩
   ·rw[ey,eW];have cu:((j.add y).secs sha).length=us+nd:=by
     rw[xEk,af_,zx,Ib.out,Bu.out];rfl
    rw[cu,<-HN.out];exact Io
   ·rcases aj_.1 hx with h1|h1
    ·exact aj_.2 (.inl (oM.2.2 x h1 q hq))
    ·rw[ac_.1 h1]at hq;have:cg=q:=as_ hq;exact aj_.2 (.inr (by rw[this];exact bf_ ..))
   ·have k5:Kept (w.heap.size :: (b :: (Value.slice ea ln ec).ownBlock.toList)) w5 (w12.setCell ⟨w.heap.size,0,none⟩ (.int .i64 0)):=by
     have a1:=(rG.mono (F':=w.heap.size :: (b :: (Value.slice ea ln ec).ownBlock.toList)) (λq hq _=>by simp at hq;simp[hq])).trans (Kept.of_below (F:=[]) (fA.trans (T1.mono fA.size))) (λq hq=>by cases hq);exact(a1.trans BA (λq hq=>.inl (by simp at hq;simp[hq]))).trans nH (λq hq=>.inl (by simp at hq;rcases hq with h|h <;> simp[h]))
    rw[<-pA.out];refine bE.kept k5 (λq hq hm=>?_);rcases ae_.1 hm with h1|h1
    ·exact il _ pH Q3 (h1▸hq)
    ·rcases ae_.1 h1 with h2|h2
     ·exact il b bz H.bv (h2▸hq)
     ·exact T5 q (by simpa using h2) hq
   ·have XM:D<=q/\q<(w12.setCell ⟨w.heap.size,0,none⟩ (.int .i64 0)).heap.size:=by
     rcases aj_.1 hq with h1|h1
     ·have h2:=H.es_ q h1;have h3:=(sU.own).1;have h4:=(i_ Io).1;have h5:=(i_ FB.out).1;exact⟨h2.1,by omega⟩
     ·rcases ae_.1 h1 with h2|h2
      ·have:=sU.blk (.slice (some ⟨cg,0,none⟩) yn cc) (aj_.2 (.inr (ac_.2 rfl))) cg rfl;rw[h2];exact⟨this.1,this.2.1⟩
      ·exact aL_ sU.own q (aT_.1 h2)
    refine⟨XM.1,XM.2,?_⟩;rcases hes q hq with h1|h1
    ·have h2:=(H.es_ q h1).2;exact⟨h2.2.1,il q (by omega) h2.2.2⟩
    ·refine⟨by omega,λhm=>?_⟩;rcases tT q hm with h3|h3
     ·have:=(H.dev.foot_lt _ h3).2;omega
     ·have:=(bE.foot_lt _ hm).2;omega
  ·rcases tT q hq with h3|h3
   ·exact .inl h3
   ·exact .inr (by omega)
  ·rcases aj_.1 hq with h1|h1
   ·exact .inl h1
   ·rcases ae_.1 h1 with h2|h2
    ·exact .inr (by have:=Bx.2.2;omega)
    ·rcases (T3 q (aT_.1 h2)).2.2 with h3|h3
     ·exact .inl (oM.2.1 q h3)
     ·exact .inr (by omega))
 have Db:=h_ l7;clear l7 NC T3 l9 ND NE DV NF Io nH BA cJ tC mE FC FD Bx T4;go_wp2_with fail;refine⟨λ_=>⟨⟨bn,Db.out⟩,rfl⟩,xB [10,11,12,13] _ _ (by kernel_rfl) ?_⟩;simp only[o_];go_wp2;refine ag_ ?_;go_upto_region 16 with fail
 refine xr eo ?_;clear eo Kr f10;go_upto_region 17 with fail
 refine xr ep ?_;clear ep XL f11;go_wp2;have NH:=cell_of_row _ w.heap.size 0 _ _ _ FB.out;refine leaves_cons (f:=60) (args:=#[.pointer (some ⟨b,0,none⟩),.pointer (some ⟨w.heap.size,0,none⟩)]) (by simp) (by simp[go_sem]) ?_;refine(xIg b w.heap.size _ NH).mono ?_;rintro e u' w'' ⟨rfl,rfl,rfl⟩;exact⟨.tuple #[.int .i64 ((j.first:Int)+ln),.int .i64 0],xOn rfl _ _ _ _ _ rfl rfl NH,aS.out⟩
end
structure HEnt where
 id:Id32
 arr:Int
 date:Int
 st:Int
 perm:Bool
def yt (x:HEnt):List Value:=xl x.id++[.int .i64 x.arr,.int .i64 x.date,.int .i64 x.st,.bool x.perm]
def x7 (x:HEnt):Array Value:=(yt x).toArray
theorem yW (x):(yt x).length=36:=by simp[yt,xz]
theorem xC (x):(x7 x).size=36:=by simp[x7,yW]
theorem kT (x j):(yt x)[32+j]?=[Value.int .i64 x.arr,.int .i64 x.date,.int .i64 x.st,.bool x.perm][j]?:=by
 unfold yt;rw[aF_ (by rw[xz];omega),xz,show 32+j-32=j by omega]
theorem he32 (x):(x7 x)[32]?=some (.int .i64 x.arr):=by simpa[x7]using kT x 0
theorem he33 (x):(x7 x)[33]?=some (.int .i64 x.date):=by simpa[x7]using kT x 1
theorem he34 (x):(x7 x)[34]?=some (.int .i64 x.st):=by simpa[x7]using kT x 2
theorem he35 (x):(x7 x)[35]?=some (.bool x.perm):=by simpa[x7]using kT x 3
theorem xJz (x):∀v∈yt x,v.oneCell'=true:=by
 intro v hv;unfold yt at hv;rcases aj_.1 hv with h|h
 ·exact uS x.id v h
 ·simp at h;rcases h with rfl|rfl|rfl|rfl <;> rfl
theorem vw (x):xy 36 (x7 x)=true:=zU (xC x) (by
 rw[aD_];intro v hv;exact xJz x v (by simpa[x7]using hv))
def HEnt.Ok (x:HEnt):Prop:=0<=x.arr/\x.arr<=105190559/\0<=x.date/\x.date<=105190559/\(x.st=0\/x.st=1)
theorem HEnt.Ok.of {x y}(h:x.Ok)(e:x7 x=x7 y):y.Ok:=by
 have h1:=(he32 x).symm.trans ((congrArg (λa=>a[32]?) e).trans (he32 y));have h2:=(he33 x).symm.trans ((congrArg (λa=>a[33]?) e).trans (he33 y));have h3:=(he34 x).symm.trans ((congrArg (λa=>a[34]?) e).trans (he34 y));simp only[aR_,Value.int.injEq,true_and]at h1 h2 h3;unfold HEnt.Ok at *;rw[<-h1,<-h2,<-h3];exact h
theorem xSk {k u}:∀{l:List (KE Id32)},getK k l=some u->∃e∈l,e.v=u
 |[],h=>by simp[xAh]at h
 |e :: l,h=>by
  rw[qf]at h;split at h
  ·exact⟨e,bf_ ..,as_ h⟩
  ·obtain⟨x,hx,hu⟩:=xSk h;exact⟨x,aY_ _ hx,hu⟩
def xCo (es:List (KE Id32))(c:Nat):Prop:=(∀e∈es,e.b<c)/\(es.map (·.b)).Nodup
theorem xCo.nil (c):xCo [] c:=⟨λe h=>(by cases h),by simp⟩
theorem xU1 (k v):∀(l:List (KE Id32)),(updL k v l).map (·.b)=l.map (·.b)
 |[]=>rfl
 |e :: l=>by
  unfold updL;by_cases h:k=e.k
  ·rw[if_pos h];rfl
  ·rw[if_neg h,au_,au_,xU1 k v l]
theorem xQo {k v x}:∀{l:List (KE Id32)},x∈updL k v l->x.v=v\/x∈l
 |[],h=>by cases h
 |e :: l,h=>by
  unfold updL at h;by_cases hk:k=e.k
  ·rw[if_pos hk]at h;rcases ae_.1 h with h|h
   ·exact .inl (by rw[h])
   ·exact .inr (aY_ _ h)
  ·rw[if_neg hk]at h;rcases ae_.1 h with h|h
   ·exact .inr (h▸bf_ ..)
   ·exact(xQo h).imp_right (aY_ _)
theorem xJ5 {k:Id32}{v c l x}(h:x∈putL k v c l):x.v=v\/x∈l:=by
 unfold putL at h;split at h
 ·exact xQo h
 ·rcases aj_.1 h with h|h
  ·exact .inr h
  ·rw[ac_.1 h];exact .inl rfl
theorem xCo.put {es c}(h:xCo es c)(k v):xCo (putL k v c es) (putC k c es):=by
 unfold putL putC;split
 ·refine⟨λe he=>?_,by rw[xU1];exact h.2⟩;have:e.b∈es.map (·.b):=by rw[<-xU1 k v];exact az_.2 ⟨e,he,rfl⟩
  obtain⟨e',wi,hb⟩:=az_.1 this;rw[<-hb];exact h.1 e' wi
 ·refine⟨λe he=>?_,?_⟩
  ·rcases aj_.1 he with he|he
   ·exact Nat.lt_succ_of_lt (h.1 e he)
   ·rw[ac_.1 he];exact cQ_ _
  ·rw[bl_,aZ_];refine⟨h.2,by simp,λa ha b hb e=>?_⟩;obtain⟨x,hx,rfl⟩:=az_.1 ha;have hbc:b=c:=by simpa using hb
   have:=h.1 x hx;omega
structure Hst where
 p:Nat
 M:Nat
 es:List (KE Id32)
 mc:Nat
 cut:Int
structure yO (B:Nat)(w:World)(v:Hst):Prop where
 blk:w.heap[v.p]?=some (.cells #[.map (some v.M),.int .i64 v.cut] 104 (0,0))
 map:y4 ekI w v.M v.es v.mc
 ne:v.p≠v.M
 pB:B<=v.p
 MB:B<=v.M
 vals:(∀k u,getK k v.es=some u->∃x:HEnt,u=.agg (x7 x))/\xCo v.es v.mc/\∀e∈v.es,∃x:HEnt,x.Ok/\e.v=.agg (x7 x)
def Hst.foot (v:Hst):List Nat:=[v.p,v.M]
theorem yO.lt {B w v}(h:yO B w v):v.p<w.heap.size/\v.M<w.heap.size:=⟨(i_ h.blk).1,h.map.lt⟩
theorem yO.kept {B w w' v F}(h:yO B w v)(hk:Kept F w w')(hF:∀k∈v.foot,k∉F):yO B w' v:=
 ⟨(hk.block _ h.lt.1 (hF _ (by simp[Hst.foot]))).trans h.blk,(hk.block _ h.lt.2 (hF _ (by simp[Hst.foot]))).trans h.map,h.ne,h.pB,h.MB,h.vals⟩
theorem yO.below {B w w' v}(h:yO B w v)(hb:Below w.heap.size w w'):yO B w' v:=h.kept (Kept.of_below (F:=[]) hb) (λ_ _ h=>by cases h)
theorem xJy (w):Calls prog 42 #[] w λe w'=>Below w.heap.size w w'/\e=.returned (.pointer (some ⟨w.heap.size+1,0,none⟩))/\yO w.heap.size w' ⟨w.heap.size+1,w.heap.size,[],0,0⟩:=by
 have lQ:=@run_makeMap prog;have hb:Below w.heap.size w ((w.alloc (.map #[] 0)).alloc (.cells #[.map (some w.heap.size),.int .i64 0] 104)):=((ab_ _ _).alloc (aa_ _) _).alloc (by simp) _;have aB:yO w.heap.size ((w.alloc (.map #[] 0)).alloc (.cells #[.map (some w.heap.size),.int .i64 0] 104)) ⟨w.heap.size+1,w.heap.size,[],0,0⟩:=by
  refine⟨?_,?_,by simp,by simp,aa_ _,⟨λk u h=>by simp[xAh]at h,xCo.nil _,λe h=>by cases h⟩⟩
  ·have:=heap_alloc_new (w.alloc (.map #[] 0)) (.cells #[.map (some w.heap.size),.int .i64 0] 104);rw[al_]at this;exact this
  ·unfold y4;rw[heap_alloc_old _ _ (by simp),heap_alloc_new];rfl
 have HB:=h_ hb;have HA:=h_ aB;clear hb aB;go_enter func42,ntmps42;go_wp2;go_ret;exact⟨HB.out,rfl,HA.out⟩
theorem xAz (n)(h0:0<=n)(h1:n<=105190559)(w):Calls prog 155 #[.int .i64 n] w λe w'=>e=.returned (.bool true)/\w=w':=by
 go_enter func155,ntmps155;go_wp2;go_ret;exact⟨xWa (by simp),rfl⟩
theorem xJe (b es clock w)(hb:w.heap[b]?=some (.map es clock)):
  Calls prog 70 #[.map (some b)] w λe w'=>e=.returned (.map (some w.heap.size))/\w.alloc (.map es clock)=w':=by
 have hu:prog.underlying 102=some (.map 33 58):=underlying102;have hq:=λw=>run_eql_map_nil_sl (P:=prog) w 102 _ _ (some b) hu
 go_enter func70,ntmps70;go_wp2;rw[run_callFunc_extern func93 (by kernel_rfl) (by kernel_rfl) (by kernel_rfl) (e:=Extern.MapsClone.clone) (by kernel_rfl),run_maps_clone_sl w 102 hb];simp only[Result.andThen];rw[ce_];go_wp2;rw[run_typeAssert_map_sl _ 102 20 _ _ _ hu];simp only[Result.andThen];rw[ce_];go_wp2;go_ret;exact⟨rfl,rfl⟩
theorem xK2 {B w v}(h:yO B w v):Calls prog 40 #[.pointer (some ⟨v.p,0,none⟩)] w λe w'=>Below w.heap.size w w'/\∃v',e=.returned (.pointer (some ⟨v'.p,0,none⟩))/\yO w.heap.size w' v'/\v'.es=v.es/\v'.mc=v.mc/\v'.cut=v.cut:=by
 have c0:=cell_of_row w v.p 0 _ _ _ h.blk;have c1:=cell_of_row w v.p 1 _ _ _ h.blk;simp only[v_]at c0 c1;have z0:∀z:x8 w,z.1.cell? ⟨v.p,0,none⟩=some (.map (some v.M)):=λz=>z.cell c0
 have z1:∀z:x8 w,z.1.cell? ⟨v.p,1,none⟩=some (.int .i64 v.cut):=λz=>z.cell c1
 have HC:=h_ (xJe v.M _ v.mc w.drew h.map);have HV:=h_ h.vals;clear h c0 c1;go_enter func40,ntmps40;go_upto_region 3 with fail
 refine xp [0,1,2,3,5,6,7,8] [4,9,10,11] (λw'=>∃z:x8 w,w'=z.1) (by kernel_rfl) (by kernel_rfl) (by kernel_rfl) ⟨⟨w.drew,(ab_ _ _).drew⟩,rfl⟩ ?_;simp only[o_]
 repeat (go_big_quiet_step (fail))
 refine wpQuiet_nil ?_;clear z0 z1;refine yb true (by kernel_rfl) (by kernel_rfl) ?_;simp only[o_];go_wp2_with fail;refine HC.mono ?_;rintro e w' ⟨rfl,rfl⟩;have aa:Below w.heap.size w (w.drew.alloc (.map (v.es.map (enE ekI)).toArray v.mc)):=(ab_ _ _).drew.alloc (aa_ _) _;have lX:=heap_alloc_new w.drew (.map (v.es.map (enE ekI)).toArray v.mc);have aK:(w.drew.alloc (.map (v.es.map (enE ekI)).toArray v.mc)).heap.size=w.heap.size+1:=al_ ..;generalize w.drew.alloc (.map (v.es.map (enE ekI)).toArray v.mc)=w1 at aa lX aK⊢;have ar:=h_ aa;have aj:Below w.heap.size w (w1.alloc (.cells #[.map (some w.heap.size),.int .i64 v.cut] 104)):=aa.alloc aa.size _
 have aB:yO w.heap.size (w1.alloc (.cells #[.map (some w.heap.size),.int .i64 v.cut] 104)) ⟨w1.heap.size,w.heap.size,v.es,v.mc,v.cut⟩:=
  ⟨heap_alloc_new w1 _,(heap_alloc_old _ _ (by show w.heap.size<w1.heap.size;omega)).trans lX,by show w1.heap.size≠w.heap.size;omega,aa.size,aa_ _,HV.out⟩
 have HF:=h_ (And.intro aj aB);clear aa lX aK aj aB;go_wp2_with fail;refine⟨λ_=>⟨⟨w1,ar.out⟩,rfl⟩,xB [9,10,11] _ _ (by kernel_rfl) ?_⟩;simp only[o_];go_wp2;refine ag_ ?_;go_wp2;go_ret;exact⟨HF.1,⟨w1.heap.size,w.heap.size,v.es,v.mc,v.cut⟩,rfl,HF.2,rfl,rfl,rfl⟩
section
theorem ud (ρ:Operand->Value)(d x)(ty:TypeId)(pos af g w):
  Sem.run prog (execOp ρ ⟨d,.load 58 x,ty,pos,af,g⟩) w=yp prog 58 w (ρ x):=rfl
theorem zJ (ρ:Operand->Value)(d x y)(ty:TypeId)(pos af g w):
  Sem.run prog (execOp ρ ⟨d,.store 58 x y,ty,pos,af,g⟩) w=yi prog 58 w (ρ x) (ρ y):=rfl
theorem kR (w a)(h:xo w a 36=true):yp prog 58 w (.pointer (some a))=.ok (.value (.agg (xm w a 36))) w:=
 yf isAgg58 sizeOf58 w a h
theorem kJ (w g cells)(h:xM w g 36=true)(h2:xy 36 cells=true):
  yi prog 58 w (.pointer (some ⟨g,0,none⟩)) (.agg cells)=.ok .skip (w.setRow g cells):=yo (by kernel_rfl) w g cells h h2
def zy:HEnt:=⟨uq,0,0,0,false⟩
theorem zK (ρ:Operand->Value)(d)(ty:TypeId)(pos af g w):
  Sem.run prog (execOp ρ ⟨d,.alloc 58,ty,pos,af,g⟩) w=.ok (.value (.pointer (some ⟨w.heap.size,0,none⟩))) (w.alloc (.cells (x7 zy) 58)):=by kernel_rfl
theorem xX5 (w):(zeroValue 58).run prog w=.ok (.agg (x7 zy)) w:=by kernel_rfl
theorem xWj {w b x}{t:TypeId}(h:w.heap[b]?=some (.cells (x7 x) t (0,0))):xo w ⟨b,0,none⟩ 32=true/\xm w ⟨b,0,none⟩ 32=(xl x.id).toArray:=by
 have:=xW (w:=w) (a:=⟨b,0,none⟩) (cs:=xl x.id) (λj v hj=>by
  rw[an_,aq_,cell_of_row _ _ _ _ _ _ h];unfold x7 yt;rw[ah_,aJ_ (ax_.1 hj).1];exact hj)
 rw[xz]at this;exact this
theorem yO.look {B w v}(h:yO B w v)(k):∃x:HEnt,(getK k v.es=none->x=zy)/\(∀u,getK k v.es=some u->u=.agg (x7 x)) /\
  ∀W,W.heap[v.M]?=w.heap[v.M]?->(Instr.lookup 102 (.map (some v.M)) (.agg (xl k).toArray) true).run prog W=.ok (.tuple #[.agg (x7 x),.bool (getK k v.es).isSome]) W:=by
 have hk:∀W,W.heap[v.M]?=w.heap[v.M]?->(Instr.lookup 102 (.map (some v.M)) (.agg (xl k).toArray) true).run prog W=.ok (.tuple #[(getK k v.es).getD (.agg (x7 zy)),.bool (getK k v.es).isSome]) W:=λW hW=>by
  have h1:=xCv keyI underlying102 (.agg (x7 zy)) xX5 W v.M v.es v.mc (by have:=h.map;unfold y4 at this⊢;exact hW.trans this) k;have h2:(yN k v.es 0).isSome=(getK k v.es).isSome:=by unfold getK;cases yN k v.es 0 <;> rfl
  rw[h2]at h1;exact h1
 cases hg:getK k v.es with
 |none=>
  refine⟨zy,(λ_=>rfl),(λu h=>(by cases h)),λW hW=>?_⟩;rw[hk W hW,hg];rfl
 |some u=>
  obtain⟨x,hx⟩:=h.vals.1 k u hg;refine⟨x,(λh=>(by cases h)),(λu' h=>(by cases h;exact hx)),λW hW=>?_⟩;rw[hk W hW,hg,<-hx];rfl
attribute [local go_sem ↓] xL xI ud zJ zK
attribute [local go_sem] zm zA kR kJ xh xf xa x9 xu xv xk xj xq xx xt
theorem yB0 {B w v}(h:yO B w v)(id):∃x:HEnt,(getK id v.es=none->x=zy)/\(∀u,getK id v.es=some u->u=.agg (x7 x)) /\
  Calls prog 21 #[.pointer (some ⟨v.p,0,none⟩),.agg (xl id).toArray] w λe w'=>Below w.heap.size w w'/\e=.returned (.tuple #[.agg (x7 x),.bool (getK id v.es).isSome]):=by
 obtain⟨x,fP,eN,cW⟩:=h.look id;refine⟨x,fP,eN,?_⟩;obtain⟨w1,ai⟩:∃w1,w1=(w.alloc (.cells (xl id).toArray 33)).alloc (.cells (x7 zy) 58):=⟨_,rfl⟩;have aa:Below w.heap.size w w1:=by rw[ai];exact((ab_ _ _).alloc (aa_ _) _).alloc (by simp) _
 have gU:w1.heap[w.heap.size]?=some (.cells (xl id).toArray 33 (0,0)):=by
  rw[ai,heap_alloc_old _ _ (by simp),heap_alloc_new]
 have aV:w1.heap[w.heap.size+1]?=some (.cells (x7 zy) 58 (0,0)):=by
  have:=heap_alloc_new (w.alloc (.cells (xl id).toArray 33)) (.cells (x7 zy) 58);rw[al_]at this;rw[ai,this]
 have bg:=h.below aa;have c0:=cell_of_row w1 v.p 0 _ _ _ bg.blk;simp only[v_]at c0;have z0:∀z:x8 w1,z.1.cell? ⟨v.p,0,none⟩=some (.map (some v.M)):=λz=>z.cell c0
 have ri:=yj gU;have z1:∀z:x8 w1,xo z.1 ⟨w.heap.size,0,none⟩ 32=true:=λz=>x8.ok ri.1 z
 have z2:∀z:x8 w1,xm z.1 ⟨w.heap.size,0,none⟩ 32=(xl id).toArray:=λz=>(x8.rd ri.1 z).trans ri.2
 have z3:∀z:x8 w1,(Instr.lookup 102 (.map (some v.M)) (.agg (xl id).toArray) true).run prog z.1=.ok (.tuple #[.agg (x7 x),.bool (getK id v.es).isSome]) z.1:=λz=>cW z.1 ((z.2.block _ bg.lt.2).trans (aa.block _ h.lt.2))
 obtain⟨ok,aD⟩:∃ok,ok=(getK id v.es).isSome:=⟨_,rfl⟩;rw[<-aD]at z3⊢;have iA:=vw x;have QY:=xC x;have aI:=xC zy;have ar:=h_ aa;have iw:=h_ aV;have NI:((x7 zy).size==36)=true:=by rw[aI];rfl
 clear gU bg c0 ri cW fP eN aD aa aV h QY aI;go_enter func21,ntmps21;go_upto_region 3 with fail
 refine xr ai ?_;clear ai;refine xp [0,1,2,3,4,5,6,7,8] [9,10,11] (λw'=>∃z:x8 w1,w'=z.1) (by kernel_rfl) (by kernel_rfl) (by kernel_rfl) ⟨⟨w1.drew,(ab_ _ _).drew⟩,rfl⟩ ?_;simp only[o_]
 repeat (go_big_quiet_step (fail))
 refine wpQuiet_nil ?_;clear z0 z1 z2 z3;refine yb true (by kernel_rfl) (by kernel_rfl) ?_;simp only[o_];go_wp2;refine⟨λ_=>⟨⟨_,(((ab_ _ _).alloc (aa_ _) _).drew:Below w1.heap.size w1 _)⟩,rfl⟩,yb true (by kernel_rfl) (by kernel_rfl) ?_⟩;simp only[o_];go_wp2;have aj:Below w1.heap.size w1 (w1.alloc (.cells (x7 x) 58)).drew:=((ab_ _ _).alloc (aa_ _) _).drew;have aA:(w1.alloc (.cells (x7 x) 58)).drew.heap[w1.heap.size]?=some (.cells (x7 x) 58 (0,0)):=heap_alloc_new w1 _;generalize (w1.alloc (.cells (x7 x) 58)).drew=w2 at aj aA⊢;have au:=h_ aj;have aP:=(aj.block _ (i_ iw.out).1).trans iw.out;obtain⟨o2,r2⟩:=xD (n:=36) aA (xC x);have bu:xM w2 (w.heap.size+1) 36=true:=zN aP (xC zy);have HR:=h_ (xD (n:=36) (setRow_heap w2 (w.heap.size+1) _ (x7 x) _ _ aP) (xC x));have HF:=h_ (xK (ar.trans (aj.mono ar.size)) (show w.heap.size<=w.heap.size+1 by omega) (x7 x));clear aj aA aP;refine⟨λ_=>⟨⟨w2,au.out⟩,rfl⟩,xB [11] _ _ (by kernel_rfl) ?_⟩;simp only[o_];go_wp2;refine ag_ ?_;go_wp2;exact bodyPost_ret (v:=.tuple #[.agg (x7 x),.bool ok]) (qV rfl isAgg58 sizeOf58 _ _ ⟨w.heap.size+1,0,none⟩ _ _ rfl rfl HR.1 HR.2) rfl ⟨HF.out,rfl⟩
end
section
attribute [local go_sem ↓] xL xI ud zJ zK
attribute [local go_sem] zm zA kR kJ xh xf xa x9 xu xv xk xj xq xx xt
theorem xF6 {K:Type}{ek:K->Value}{kt et mt:TypeId}(hm:prog.underlying mt=some (.map kt et)){w M l c}(h:y4 ek w M l c)(ty:TypeId):(Builtin.len_ #[mt] ty #[.map (some M)]).run prog w=.ok (.int .i64 l.length) w:=by
 unfold y4 at h;simp[Builtin.len_,run_underlying hm,MapKept.run_getObj_map h,goInt,Result.andThen]
theorem xY8 (x)(hx:x.Ok)(w):Calls prog 195 #[.agg (x7 x)] w λe w'=>e=.returned (.int .i64 0)/\Below w.heap.size w w':=by
 obtain⟨w1,ai⟩:∃w1,w1=w.alloc (.cells (x7 x) 58):=⟨_,rfl⟩;have aa:Below w.heap.size w w1:=by rw[ai];exact b_ _ _
 have aV:w1.heap[w.heap.size]?=some (.cells (x7 x) 58 (0,0)):=by rw[ai];exact heap_alloc_new w _
 have c1:=(cell_of_row w1 w.heap.size 32 _ _ _ aV).trans (he32 x);have c2:=(cell_of_row w1 w.heap.size 33 _ _ _ aV).trans (he33 x);have c3:=(cell_of_row w1 w.heap.size 34 _ _ _ aV).trans (he34 x);have H1:=h_ (xAz x.arr hx.1 hx.2.1 w1);have H2:=h_ (xAz x.date hx.2.2.1 hx.2.2.2.1 w1);have ar:=h_ aa;have ax:=hx.2.2.2.2;clear aa aV hx;go_enter func195,ntmps195;go_upto_region 1 with fail
 refine xr ai ?_;clear ai;obtain⟨s,hs⟩:∃s,s=x.st:=⟨_,rfl⟩;rw[<-hs]at ax c3;clear hs;go_wp2_with fail;refine H1.mono ?_;rintro e w' ⟨rfl,rfl⟩;go_wp2_with fail;refine H2.mono ?_;rintro e w' ⟨rfl,rfl⟩;rcases ax with rfl|rfl
 ·go_wp2;go_ret;exact⟨rfl,ar.out⟩
 ·go_wp2;go_ret;exact⟨rfl,ar.out⟩
def yCc (B:Nat)(v:Hst)(x:HEnt)(w:World)(e:Ending)(w':World):Prop:=
 e=.returned (.int .i64 0)/\Kept [v.M] w w'/\yO B w' { v with es:=putL x.id (.agg (x7 x)) v.mc v.es,mc:=putC x.id v.mc v.es }
theorem yO.put {B w v}(h:yO B w v)(x)(hx:x.Ok):yO B (w.putObj v.M (.map ((putL x.id (.agg (x7 x)) v.mc v.es).map (enE ekI)).toArray (putC x.id v.mc v.es))) { v with es:=putL x.id (.agg (x7 x)) v.mc v.es,mc:=putC x.id v.mc v.es }:=by
 refine⟨(aB_ h.ne).trans h.blk,h.map.put,h.ne,h.pB,h.MB,λk u hu=>?_,h.vals.2.1.put _ _,λe he=>(xJ5 he).elim (λh1=>⟨x,hx,h1⟩) (h.vals.2.2 e)⟩;simp only at hu;rw[xFb]at hu;split at hu
 ·exact⟨x,(as_ hu).symm⟩
 ·exact h.vals.1 k u hu
theorem qX (w M o):Kept [M] w (w.putObj M o):=⟨rfl,rfl,rfl,by simp[World.putObj],λk _ hn=>aB_ (λe=>hn (by simp[e]))⟩
theorem xSh {B w v}(h:yO B w v)(x)(hx:x.Ok)(dS:getK x.id v.es=none)(hl:v.es.length<=1000):
  Calls prog 320 #[.pointer (some ⟨v.p,0,none⟩),.agg (x7 x)] w (yCc B v x w):=by
 obtain⟨w1,ai⟩:∃w1,w1=w.alloc (.cells (x7 x) 58):=⟨_,rfl⟩;have aa:Below w.heap.size w w1:=by rw[ai];exact b_ _ _
 have aV:w1.heap[w.heap.size]?=some (.cells (x7 x) 58 (0,0)):=by rw[ai];exact heap_alloc_new w _
 obtain⟨o1,r1⟩:=xD (n:=36) aV (xC x);have n_:=h_ (xY8 x hx w1);have H:=h_ h;have ar:=h_ aa;have iw:=h_ aV;have mp:=h_ dS;have HXO:=h_ hx;clear h aa aV dS hx;go_enter func320,ntmps320;go_upto_region 1 with fail
 refine xr ai ?_;clear ai;go_wp2_with fail;refine n_.mono ?_;rintro e w2 ⟨rfl,aj⟩;have au:=h_ (ar.trans (aj.mono ar.size));have aP:=(aj.block _ (i_ iw.out).1).trans iw.out;have fu:=h_ aP;have bE:=H.below au.out;have c0:=cell_of_row w2 v.p 0 _ _ _ bE.blk;simp only[v_]at c0;have z0:∀z:x8 w2,z.1.cell? ⟨v.p,0,none⟩=some (.map (some v.M)):=λz=>z.cell c0
 have ri:=xWj aP;have z1:∀z:x8 w2,xo z.1 ⟨w.heap.size,0,none⟩ 32=true:=λz=>x8.ok ri.1 z
 have z2:∀z:x8 w2,xm z.1 ⟨w.heap.size,0,none⟩ 32=(xl x.id).toArray:=λz=>(x8.rd ri.1 z).trans ri.2
 obtain⟨x0,dJ,_,cW⟩:=H.look x.id;obtain rfl:x0=zy:=dJ mp.out;have z3:∀z:x8 w2,(Instr.lookup 102 (.map (some v.M)) (.agg (xl x.id).toArray) true).run prog z.1=.ok (.tuple #[.agg (x7 zy),.bool false]) z.1:=λz=>by
  have:=cW z.1 ((z.2.block _ bE.lt.2).trans (au.block _ H.lt.2));rw[mp.out]at this;exact this
 have gw:=vw zy;have NI:((x7 zy).size==36)=true:=by rw[xC];rfl
 clear aP aj bE c0 ri cW o1 r1 dJ;go_upto_region 6 with fail
 refine xp [0,1,2,3,4,5,6,7,8,9] [10,11,12] (λw'=>∃z:x8 w2,w'=z.1) (by kernel_rfl) (by kernel_rfl) (by kernel_rfl) ⟨⟨w2.drew,(ab_ _ _).drew⟩,rfl⟩ ?_;simp only[o_]
 repeat (go_big_quiet_step (fail))
 refine wpQuiet_nil ?_;clear z0 z1 z2 z3;refine yb true (by kernel_rfl) (by kernel_rfl) ?_;simp only[o_];go_wp2;refine⟨λ_=>⟨⟨_,(((ab_ _ _).alloc (aa_ _) _).drew:Below w2.heap.size w2 _)⟩,rfl⟩,yb true (by kernel_rfl) (by kernel_rfl) ?_⟩;simp only[o_];go_wp2;have al:Below w2.heap.size w2 (w2.alloc (.cells (x7 zy) 58)).drew:=((ab_ _ _).alloc (aa_ _) _).drew;generalize (w2.alloc (.cells (x7 zy) 58)).drew=w3 at al⊢;have nI:=h_ al;have ay:=h_ (au.trans (al.mono au.size));have dv:=(al.block _ (i_ fu.out).1).trans fu.out;have iq:=h_ dv;have fk:=H.below ay.out;have CQ:=h_ fk;have c0:=cell_of_row w3 v.p 0 _ _ _ fk.blk;simp only[v_]at c0;clear al dv fk;refine⟨λ_=>⟨⟨w3,nI.out⟩,rfl⟩,xB [12] _ _ (by kernel_rfl) ?_⟩;simp only[o_];go_wp2;refine ag_ ?_;have hq:∀w,Sem.run prog (binOp .eql 102 (.map (some v.M)) (.map none)) w=.ok (.bool false) w:=λw=>run_eql_map_nil w 102 _ _ (some v.M) underlying102
 have cX:=xF6 underlying102 CQ.map 3;obtain⟨ml,XN⟩:∃ml,ml=v.es.length:=⟨_,rfl⟩;rw[<-XN]at cX hl;have G_:(ml:Int)<=1000:=by omega
 have JU:decide (1048576<=(ml:Int))=false:=decide_eq_false (by omega);clear XN;go_upto_region 9 with fail
 go_upto_region 11 with fail
 clear cX JU;go_upto_region 13 with fail
 have c3:=cell_of_row w3 v.p 0 _ _ _ CQ.blk;simp only[v_]at c3;have z0:∀z:x8 w3,z.1.cell? ⟨v.p,0,none⟩=some (.map (some v.M)):=λz=>z.cell c3
 have ri:=xWj iq.out;have rr:=xD (n:=36) iq.out (xC x);have z1:∀z:x8 w3,xo z.1 ⟨w.heap.size,0,none⟩ 32=true:=λz=>x8.ok ri.1 z
 have z2:∀z:x8 w3,xm z.1 ⟨w.heap.size,0,none⟩ 32=(xl x.id).toArray:=λz=>(x8.rd ri.1 z).trans ri.2
 have z3:∀z:x8 w3,xo z.1 ⟨w.heap.size,0,none⟩ 36=true:=λz=>x8.ok rr.1 z
 have z4:∀z:x8 w3,xm z.1 ⟨w.heap.size,0,none⟩ 36=x7 x:=λz=>(x8.rd rr.1 z).trans rr.2
 clear c0 c3 ri rr hq;refine xp [0,1,2,3,4,5,6] [7] (λw'=>∃z:x8 w3,w'=z.1) (by kernel_rfl) (by kernel_rfl) (by kernel_rfl) ⟨⟨w3.drew,(ab_ _ _).drew⟩,rfl⟩ ?_;simp only[o_]
 repeat (go_big_quiet_step (fail))
 refine wpQuiet_nil ?_;clear z0 z1 z2 z3 z4;have eq:=CQ.below ((ab_ w3.heap.size w3).drew);have dB:(Instr.mapUpdate 102 (.map (some v.M)) (.agg (xl x.id).toArray) (.agg (x7 x))).run prog w3.drew=_:=xEv keyI underlying102 w3.drew v.M v.es v.mc eq.map x.id (.agg (x7 x));have aB:=eq.put x HXO.out;have ef:Kept [v.M] w (w3.drew.putObj v.M (.map ((putL x.id (.agg (x7 x)) v.mc v.es).map (enE ekI)).toArray (putC x.id v.mc v.es))):=(Kept.of_below (F:=[v.M]) (ay.trans ((ab_ w3.heap.size w3).drew.mono ay.size))).trans (qX _ _ _) (λq hq=>.inl hq);have HF:=h_ (And.intro ef aB);clear eq aB ef;refine xB [7] _ _ (by kernel_rfl) ?_;simp only[o_];generalize w3.drew.putObj v.M (.map ((putL x.id (.agg (x7 x)) v.mc v.es).map (enE ekI)).toArray (putC x.id v.mc v.es))=w5 at dB HF;go_wp2;refine ag_ ?_;clear dB;go_wp2;go_ret;exact⟨rfl,HF.1,HF.2⟩
theorem yB1 (x s):(x7 x).setIfInBounds 34 (.int .i64 s)=x7 { x with st:=s }:=by
 unfold x7;rw[bD_];congr 1;unfold yt;rw[bL_ _ _ (by rw[xz];omega),xz];rfl
def xZ0 (B:Nat)(v:Hst)(id:Id32)(x:HEnt)(w:World)(e:Ending)(w':World):Prop:=
 e=.returned (.int .i64 0)/\Kept [v.M] w w'/\yO B w' { v with es:=putL id (.agg (x7 { x with st:=1 })) v.mc v.es,mc:=putC id v.mc v.es }
theorem yO.putId {B w v}(h:yO B w v)(id x)(aD:x.Ok):yO B (w.putObj v.M (.map ((putL id (.agg (x7 x)) v.mc v.es).map (enE ekI)).toArray (putC id v.mc v.es))) { v with es:=putL id (.agg (x7 x)) v.mc v.es,mc:=putC id v.mc v.es }:=by
 refine⟨(aB_ h.ne).trans h.blk,h.map.put,h.ne,h.pB,h.MB,λk u hu=>?_,h.vals.2.1.put _ _,λe he=>(xJ5 he).elim (λh1=>⟨x,aD,h1⟩) (h.vals.2.2 e)⟩;simp only at hu;rw[xFb]at hu;split at hu
 ·exact⟨x,(as_ hu).symm⟩
 ·exact h.vals.1 k u hu
theorem xN8 {B w v}(h:yO B w v)(id x)(hx:getK id v.es=some (.agg (x7 x)))(ax:x.st=0):
  Calls prog 330 #[.pointer (some ⟨v.p,0,none⟩),.agg (xl id).toArray] w (xZ0 B v id x w):=by
 have iW:Hid (HEnt.Ok { x with st:=1 }):=h_ (by
  obtain⟨e,he,hv⟩:=xSk hx;obtain⟨y,hy,Ip⟩:=h.vals.2.2 e he;have h1:y.Ok:=hy;have h2:x.Ok:=h1.of (by have:=hv.symm.trans Ip;injection this with h3;exact h3.symm);exact⟨h2.1,h2.2.1,h2.2.2.1,h2.2.2.2.1,.inr rfl⟩)
 obtain⟨w1,ai⟩:∃w1,w1=w.alloc (.cells (xl id).toArray 33):=⟨_,rfl⟩;have aa:Below w.heap.size w w1:=by rw[ai];exact b_ _ _
 have gU:w1.heap[w.heap.size]?=some (.cells (xl id).toArray 33 (0,0)):=by rw[ai];exact heap_alloc_new w _
 have bg:=h.below aa;have c0:=cell_of_row w1 v.p 0 _ _ _ bg.blk;simp only[v_]at c0;have z0:∀z:x8 w1,z.1.cell? ⟨v.p,0,none⟩=some (.map (some v.M)):=λz=>z.cell c0
 have ri:=yj gU;have z1:∀z:x8 w1,xo z.1 ⟨w.heap.size,0,none⟩ 32=true:=λz=>x8.ok ri.1 z
 have z2:∀z:x8 w1,xm z.1 ⟨w.heap.size,0,none⟩ 32=(xl id).toArray:=λz=>(x8.rd ri.1 z).trans ri.2
 obtain⟨x0,_,dJ,cW⟩:=h.look id;have C6:x7 x0=x7 x:=by have:=dJ _ hx;injection this with h1;exact h1.symm
 have z3:∀z:x8 w1,(Instr.lookup 102 (.map (some v.M)) (.agg (xl id).toArray) true).run prog z.1=.ok (.tuple #[.agg (x7 x),.bool true]) z.1:=λz=>by
  have:=cW z.1 ((z.2.block _ bg.lt.2).trans (aa.block _ h.lt.2));rw[hx,C6]at this;exact this
 have iA:=vw x;have NI:((x7 zy).size==36)=true:=by rw[xC];rfl
 have H:=h_ h;have ar:=h_ aa;have DW:=h_ gU;have aO:=h_ ax;clear h aa gU bg c0 ri dJ cW C6 hx ax;go_enter func330,ntmps330;go_upto_region 3 with fail
 refine xr ai ?_;clear ai;refine xp [0,1,2,3,4,5,6,7,8] [9,10,11] (λw'=>∃z:x8 w1,w'=z.1) (by kernel_rfl) (by kernel_rfl) (by kernel_rfl) ⟨⟨w1.drew,(ab_ _ _).drew⟩,rfl⟩ ?_;simp only[o_]
 repeat (go_big_quiet_step (fail))
 refine wpQuiet_nil ?_;clear z0 z1 z2 z3;refine yb true (by kernel_rfl) (by kernel_rfl) ?_;simp only[o_];go_wp2;refine⟨λ_=>⟨⟨_,(((ab_ _ _).alloc (aa_ _) _).drew:Below w1.heap.size w1 _)⟩,rfl⟩,yb true (by kernel_rfl) (by kernel_rfl) ?_⟩;simp only[o_];go_wp2;have aj:Below w1.heap.size w1 (w1.alloc (.cells (x7 x) 58)).drew:=((ab_ _ _).alloc (aa_ _) _).drew;have aA:(w1.alloc (.cells (x7 x) 58)).drew.heap[w1.heap.size]?=some (.cells (x7 x) 58 (0,0)):=heap_alloc_new w1 _;generalize (w1.alloc (.cells (x7 x) 58)).drew=w2 at aj aA⊢;have au:=h_ aj;have Ab:=(cell_of_row w2 w1.heap.size 34 _ _ _ aA).trans (he34 x);have f34:=frozen_of_row w2 w1.heap.size 34 _ _ aA;rw[aO.out]at Ab;have bK:(w2.setCell ⟨w1.heap.size,34,none⟩ (.int .i64 1)).heap[w1.heap.size]?=some (.cells (x7 { x with st:=1 }) 58 (0,0)):=by rw[heap_setCell_same w2 w1.heap.size 34 _ _ _ aA,yB1]
 have al:Below w.heap.size w (w2.setCell ⟨w1.heap.size,34,none⟩ (.int .i64 1)):=(ar.trans (aj.mono ar.size)).setCell (p:=⟨w1.heap.size,34,none⟩) ar.size _;have mo:(w2.setCell ⟨w1.heap.size,34,none⟩ (.int .i64 1)).heap[w.heap.size]?=some (.cells (xl id).toArray 33 (0,0)):=(heap_setCell_other w2 ⟨w1.heap.size,34,none⟩ w.heap.size _ (by have:=(i_ DW.out).1;show w.heap.size≠w1.heap.size;omega)).trans ((aj.block _ (i_ DW.out).1).trans DW.out);obtain⟨w3,bm⟩:∃w3,w3=w2.setCell ⟨w1.heap.size,34,none⟩ (.int .i64 1):=⟨_,rfl⟩;rw[<-bm]at bK al mo;have dV:=h_ bK;have ay:=h_ al;have mL:=h_ mo;clear aj aA bK al mo;refine⟨λ_=>⟨⟨w2,au.out⟩,rfl⟩,xB [11] _ _ (by kernel_rfl) ?_⟩;simp only[o_];go_wp2;refine ag_ ?_;go_upto_region 9 with fail
 refine xr bm ?_;clear bm Ab f34;have fk:=H.below ay.out;have c3:=cell_of_row w3 v.p 0 _ _ _ fk.blk;simp only[v_]at c3;have z0:∀z:x8 w3,z.1.cell? ⟨v.p,0,none⟩=some (.map (some v.M)):=λz=>z.cell c3
 have ri:=yj mL.out;have rr:=xD (n:=36) dV.out (xC _);have z1:∀z:x8 w3,xo z.1 ⟨w.heap.size,0,none⟩ 32=true:=λz=>x8.ok ri.1 z
 have z2:∀z:x8 w3,xm z.1 ⟨w.heap.size,0,none⟩ 32=(xl id).toArray:=λz=>(x8.rd ri.1 z).trans ri.2
 have z3:∀z:x8 w3,xo z.1 ⟨w1.heap.size,0,none⟩ 36=true:=λz=>x8.ok rr.1 z
 have z4:∀z:x8 w3,xm z.1 ⟨w1.heap.size,0,none⟩ 36=x7 { x with st:=1 }:=λz=>(x8.rd rr.1 z).trans rr.2
 have eq:=fk.below ((ab_ w3.heap.size w3).drew);have dB:(Instr.mapUpdate 102 (.map (some v.M)) (.agg (xl id).toArray) (.agg (x7 { x with st:=1 }))).run prog w3.drew=_:=xEv keyI underlying102 w3.drew v.M v.es v.mc eq.map id (.agg (x7 { x with st:=1 }));have aB:=eq.putId id { x with st:=1 } iW.out;have ef:Kept [v.M] w (w3.drew.putObj v.M (.map ((putL id (.agg (x7 { x with st:=1 })) v.mc v.es).map (enE ekI)).toArray (putC id v.mc v.es))):=(Kept.of_below (F:=[v.M]) (ay.trans ((ab_ w3.heap.size w3).drew.mono ay.size))).trans (qX _ _ _) (λq hq=>.inl hq);have HF:=h_ (And.intro ef aB);clear fk eq aB ef c3 ri rr;refine xp [0,1,2,3,4,5] [6] (λw'=>∃z:x8 w3,w'=z.1) (by kernel_rfl) (by kernel_rfl) (by kernel_rfl) ⟨⟨w3.drew,(ab_ _ _).drew⟩,rfl⟩ ?_;simp only[o_]
 repeat (go_big_quiet_step (fail))
 refine wpQuiet_nil ?_;clear z0 z1 z2 z3 z4;refine xB [6] _ _ (by kernel_rfl) ?_;simp only[o_];generalize w3.drew.putObj v.M (.map ((putL id (.agg (x7 { x with st:=1 })) v.mc v.es).map (enE ekI)).toArray (putC id v.mc v.es))=w5 at dB HF;go_wp2;refine ag_ ?_;clear dB;go_wp2;go_ret;exact⟨rfl,HF.1,HF.2⟩
end
theorem yAz (f w):Calls prog 209 #[.slice none 0 0,.int .i64 0,.int .i64 0,f] w λe w'=>e=.returned (.tuple #[])/\w=w':=by
 go_enter func209,ntmps209;go_wp2;refine wp_loop_once ?_;go_wp2;go_end0;exact⟨rfl,rfl⟩
theorem yAw (f w):Calls prog 173 #[.slice none 0 0,.int .i64 0,.int .i64 0,.int .i64 0,f] w λe w'=>e=.returned (.tuple #[])/\w=w':=by
 have HI:=h_ (yAz f w);go_enter func173,ntmps173;go_wp2;refine wp_loop_once ?_;go_wp2_with fail;refine HI.mono ?_;rintro e w' ⟨rfl,rfl⟩;go_wp2
 first|go_end0|(simp only[Exit.inBlock,Exit.then];refine bodyPost_ret (results_none rfl _ _ _) rfl ?_)|refine bodyPost_ret (results_none rfl _ _ _) rfl ?_
 exact⟨rfl,rfl⟩
theorem xY4 (f w):Calls prog 141 #[.slice none 0 0,f] w λe w'=>e=.returned (.tuple #[])/\w=w':=by
 have HI:=h_ (yAw f w);have HB:=h_ (Tryz.bits_Len 0 w (by decide) (by decide));go_enter func141,ntmps141;go_wp2_with fail;refine HB.mono ?_;rintro e w' ⟨rfl,rfl⟩;have h0:Lib.bitLen (0:Int).toNat=0:=by decide
 rw[h0];go_wp2_with fail;refine HI.mono ?_;rintro e w' ⟨rfl,rfl⟩;go_wp2;go_end0;exact⟨rfl,rfl⟩
theorem xLp {B w v}(h:yO B w v)(he:v.es=[])(f):Calls prog 114 #[.pointer (some ⟨v.p,0,none⟩),f] w λe w'=>e=.returned (.slice none 0 0)/\Below w.heap.size w w':=by
 have c0:=cell_of_row w v.p 0 _ _ _ h.blk;simp only[v_]at c0;have hm:=h.map;unfold y4 at hm;rw[he]at hm;have mq:=run_range_map (P:=prog) w 102 _ _ v.M _ v.mc underlying102 hm;obtain⟨W,hW⟩:∃W,W=w.alloc (.mapIter (some v.M) v.mc #[] v.mc):=⟨_,rfl⟩;have hb:Below w.heap.size w W:=by rw[hW];exact b_ _ _
 have hit:W.heap[w.heap.size]?=some (.mapIter (some v.M) v.mc #[] v.mc):=by rw[hW];exact heap_alloc_new w _
 have bj:∀ty,(Instr.next (.pointer (some ⟨w.heap.size,0,none⟩)) false ty).run prog W=.ok (.tuple #[.bool false]) W:=λty=>by
  rcases run_next_at (P:=prog) W ty w.heap.size v.M v.mc v.mc #[] _ v.mc hit ((hb.block _ h.lt.2).trans hm) (λx hx=>by cases hx) (aa_ _) with⟨_,h1⟩|⟨e,he,_⟩
  ·exact h1
  ·exact absurd (mem_left he).1 (by simp)
 have HB:=h_ hb;rw[<-hW]at mq;clear hm hb hit h he hW;go_enter func114,ntmps114;go_wp2;refine wp_loop_once ?_;clear mq c0;go_wp2_with fail;refine(xY4 _ W).mono ?_;rintro e w' ⟨rfl,rfl⟩;clear bj;go_wp2;go_ret;exact⟨rfl,HB.out⟩
theorem xZs {α:Type}{gf n lb}{encs:α->Array Value}{Kp:World->World->Prop}{w}(h:∀y W,Below w.heap.size w W->Calls prog gf (#[y]++lb) W λe W'=>(∃v,e=.returned v)/\Below W.heap.size W W'):
  SeqStopsK Fence.wide n prog gf lb encs Kp (λxs=>xs=[]) (λ_=>False) 0 w:=λl J Jx W hW hJ _ _ hj=>
 callsIn_wide.2 ((h _ W hW).mono λe W' ⟨he,hb⟩=>⟨he,.inl ⟨[],rfl,hJ [] W W' none hj (zp hb none) (λr hr=>by cases hr)⟩⟩)
theorem xDb {g ps assign body}{Q:Exit->Act->World->Prop}{a w gf lb}(hg:a.eval g=.func (.func gf) #[] lb)(eg:∀args w,(callFunc gf args).run prog w=.ok (.enter gf args) w)
  (bH:∀y W,Below w.heap.size w W->Calls prog gf (#[y]++lb) W λe W'=>(∃v,e=.returned v)/\Below W.heap.size W W')
  (NJ:∀(D:Nat) (W:World),w.heap.size<=D->Below w.heap.size w W->W.heap[D]?=some (.deferred (some []))->Q .normal { a with defers:={ target:=.collected D,args:=#[] } :: a.defers } W):(Code.rangeFunc g ps assign body).wp prog Q a w:=
 (wpIn_wide (n:=4)).1 (wpIn_rangeFunc_ownH (α:=Empty) rfl (by omega) hg trivial eg (encs:=λx=>x.elim) (Kp:=λ_ _=>True) (xZs bH) (λ_ _=>trivial) (λ_ _ _ _ _ _ _ _=>trivial) (ab_ _ _) (λx=>x.elim)
  (λ_ W=>Below w.heap.size w W) (λ_ _ _=>False) (λpre A B row h hg hr=>h.grown hg h.size (λk e=>(hr k e).1)) (λc pre A B row h hg hr=>h) (ab_ _ _) (λx _ _=>x.elim) (λx=>x.elim)
  (λ_ _ x=>x.elim) (λ_ _ x=>x.elim) (λD xs W hD _ hI hK=>NJ D W hD hI hK) (λ_ _ _ _ _ h=>h.elim))
structure ByB (B:Nat)(w:World)(v:Value)(l:By)(W:World):Prop where
 bel:Below B w W
 own:OwnB W B v l
theorem ByB.app {B w W W1 W2 v v' l r}(h:ByB B w v l W)(hB:B<=W.heap.size)(hb:Below W.heap.size W W1)(ho:OwnB W2 B v' (l++r))(hg:W1.grownBy W2 v.ownBlock):ByB B w v' (l++r) W2:=
 ⟨(h.bel.trans (hb.mono hB)).grown hg (ad_ hB hb.size) (λ_ e=>(h.own.lt e).1),ho⟩
theorem xNq (l0)(n:Nat)(hn:n<=4611686018427387904)(v0 w B)(ae:OwnB w B v0 l0)(hB:B<=w.heap.size)(nQ:l0.length<=1000000):
  Calls prog 78 #[v0,.int .i64 n] w λe w'=>Below B w w'/\∃v,e=.returned v/\OwnB w' B v (l0++beB 4 n):=by
 have aO:Hid (ByB B w v0 (l0++(beB 4 n).take 0) w):=h_ ⟨ab_ _ _,by simpa using ae⟩;have HB:=h_ hB;clear ae hB;go_enter func78,ntmps78;go_wp2;go_loopw [5,0] (λi bv wr=>∃j:Nat,i=.int .i64 (3-(j:Int))/\j<=4/\Hid (ByB B w bv (l0++(beB 4 n).take j) wr)) (λi _ _=>(intOf i+1).toNat)
 case atStart=>exact⟨0,rfl,by omega,aO⟩
 case round=>
  obtain⟨j,rfl,hj,cF⟩:=hrel;by_cases hlt2:j<4
  ·obtain⟨i,hi⟩:∃i:Nat,i=3-j:=⟨_,rfl⟩;have hi2:(3:Int)-j=(i:Int):=by omega
   rw[hi2];have hx:=vd n i;have hge:=vV 4 n j hlt2;rw[show 4-1-j=i by omega]at hge;generalize be:UInt8.ofNat (n/256 ^ i)=b at hx hge;have mz:(l0++(beB 4 n).take j)++[b]=l0++(beB 4 n).take (j+1):=by
    rw[am_ (by rw[xe];exact hlt2),hge,aH_]
   have b1:(0:Int)<=8*(i:Int):=by omega
   have b2:8*(i:Int)<=64:=by omega
   have b3:(n:Int)<=4611686018427387904:=by omega
   have b9:Below wr.heap.size wr (wr.alloc (.cells #[.int .u8 b.toNat] 5)):=(ab_ _ _).alloc (aa_ _) _;have cd:OwnB (wr.alloc (.cells #[.int .u8 b.toNat] 5)) B u0 (l0++(beB 4 n).take j):=cF.own.below b9;have aK:SlB (wr.alloc (.cells #[.int .u8 b.toNat] 5)) ⟨wr.heap.size,0,none⟩ [b]:=vi wr 5 [b];have BB:B<=wr.heap.size:=ad_ HB.out cF.bel.size;have bj:∀v' W2,OwnB W2 B v' ((l0++(beB 4 n).take j)++[b])->(wr.alloc (.cells #[.int .u8 b.toNat] 5)).grownBy W2 u0.ownBlock->ByB B w v' (l0++(beB 4 n).take (j+1)) W2:=λv' W2 ho hg=>by
    have:=cF.app BB b9 ho hg;rw[mz]at this;exact this
   have aI:B<=(wr.alloc (.cells #[.int .u8 b.toNat] 5)).heap.size:=by simp;omega
   have gW:(l0++(beB 4 n).take j).length+[b].length<=1000000000000:=by rw[af_,ai_];simp;omega
   rw[hx]at cd aK bj aI;have ew:=h_ cd;have bW:=h_ aK;have ed:=h_ bj;have eX:=h_ aI;have dw:=h_ gW;have HI:=h_ hi;clear hi hx hge be mz b9 cd aK bj aI gW hi2 BB;go_wp2_with (at_builtin;refine zE rfl (.tmp 10) (.tmp 16) rfl B _ (l0++(beB 4 n).take j) rfl ew.out ⟨wr.heap.size,0,none⟩ [b] 1 rfl bW.out dw.out eX.out ?_);intro v' w' ho hg2 _;rw[<-aH_]at ho;have HN:=h_ (ed.out v' w' ho hg2);have mo:(i:Int)-1=3-((j+1:Nat):Int):=by have:=HI.out;omega
   have mL:=h_ mo;have QR:(i:Int)<=3:=by have:=HI.out;omega
   clear ho hg2 mo;go_wp2;go_roundw
   case rel=>exact⟨j+1,by rw[<-mL.out],by omega,HN⟩
   case measure=>simp[intOf]
  ·obtain rfl:j=4:=by omega
   have HF:Hid (ByB B w u0 (l0++beB 4 n) wr):=by
    have:=cF.out;rw[ar_ (by rw[xe];exact aa_ _)]at this;exact h_ this
   have hi2:(3:Int)-(4:Nat)=-1:=by omega
   rw[hi2];go_wp2;go_ret;exact⟨HF.bel,_,rfl,HF.own⟩
theorem xNp (l0)(n:Nat)(hn:n<=4611686018427387904)(v0 w B)(ae:OwnB w B v0 l0)(hB:B<=w.heap.size)(nQ:l0.length<=1000000):
  Calls prog 80 #[v0,.int .i64 n] w λe w'=>Below B w w'/\∃v,e=.returned v/\OwnB w' B v (l0++beB 8 n):=by
 have aO:Hid (ByB B w v0 (l0++(beB 8 n).take 0) w):=h_ ⟨ab_ _ _,by simpa using ae⟩;have HB:=h_ hB;clear ae hB;go_enter func80,ntmps80;go_wp2;go_loopw [5,0] (λi bv wr=>∃j:Nat,i=.int .i64 (7-(j:Int))/\j<=8/\Hid (ByB B w bv (l0++(beB 8 n).take j) wr)) (λi _ _=>(intOf i+1).toNat)
 case atStart=>exact⟨0,rfl,by omega,aO⟩
 case round=>
  obtain⟨j,rfl,hj,cF⟩:=hrel;by_cases hlt2:j<8
  ·obtain⟨i,hi⟩:∃i:Nat,i=7-j:=⟨_,rfl⟩;have hi2:(7:Int)-j=(i:Int):=by omega
   rw[hi2];have hx:=vd n i;have hge:=vV 8 n j hlt2;rw[show 8-1-j=i by omega]at hge;generalize be:UInt8.ofNat (n/256 ^ i)=b at hx hge;have mz:(l0++(beB 8 n).take j)++[b]=l0++(beB 8 n).take (j+1):=by
    rw[am_ (by rw[xe];exact hlt2),hge,aH_]
   have b1:(0:Int)<=8*(i:Int):=by omega
   have b2:8*(i:Int)<=64:=by omega
   have b3:(n:Int)<=4611686018427387904:=by omega
   have b9:Below wr.heap.size wr (wr.alloc (.cells #[.int .u8 b.toNat] 5)):=(ab_ _ _).alloc (aa_ _) _;have cd:OwnB (wr.alloc (.cells #[.int .u8 b.toNat] 5)) B u0 (l0++(beB 8 n).take j):=cF.own.below b9;have aK:SlB (wr.alloc (.cells #[.int .u8 b.toNat] 5)) ⟨wr.heap.size,0,none⟩ [b]:=vi wr 5 [b];have BB:B<=wr.heap.size:=ad_ HB.out cF.bel.size;have bj:∀v' W2,OwnB W2 B v' ((l0++(beB 8 n).take j)++[b])->(wr.alloc (.cells #[.int .u8 b.toNat] 5)).grownBy W2 u0.ownBlock->ByB B w v' (l0++(beB 8 n).take (j+1)) W2:=λv' W2 ho hg=>by
    have:=cF.app BB b9 ho hg;rw[mz]at this;exact this
   have aI:B<=(wr.alloc (.cells #[.int .u8 b.toNat] 5)).heap.size:=by simp;omega
   have gW:(l0++(beB 8 n).take j).length+[b].length<=1000000000000:=by rw[af_,ai_];simp;omega
   rw[hx]at cd aK bj aI;have ew:=h_ cd;have bW:=h_ aK;have ed:=h_ bj;have eX:=h_ aI;have dw:=h_ gW;have HI:=h_ hi;clear hi hx hge be mz b9 cd aK bj aI gW hi2 BB;go_wp2_with (at_builtin;refine zE rfl (.tmp 10) (.tmp 16) rfl B _ (l0++(beB 8 n).take j) rfl ew.out ⟨wr.heap.size,0,none⟩ [b] 1 rfl bW.out dw.out eX.out ?_);intro v' w' ho hg2 _;rw[<-aH_]at ho;have HN:=h_ (ed.out v' w' ho hg2);have mo:(i:Int)-1=7-((j+1:Nat):Int):=by have:=HI.out;omega
   have mL:=h_ mo;have QR:(i:Int)<=7:=by have:=HI.out;omega
   clear ho hg2 mo;go_wp2;go_roundw
   case rel=>exact⟨j+1,by rw[<-mL.out],by omega,HN⟩
   case measure=>simp[intOf]
  ·obtain rfl:j=8:=by omega
   have HF:Hid (ByB B w u0 (l0++beB 8 n) wr):=by
    have:=cF.out;rw[ar_ (by rw[xe];exact aa_ _)]at this;exact h_ this
   have hi2:(7:Int)-(8:Nat)=-1:=by omega
   rw[hi2];go_wp2;go_ret;exact⟨HF.bel,_,rfl,HF.own⟩
theorem xSf (b w):Calls prog 79 #[.pointer (some ⟨b,0,none⟩)] w λe w'=>e=.returned (.func (.func 113) #[] #[.pointer (some ⟨w.heap.size,0,none⟩)])/\w.alloc (.cells #[.pointer (some ⟨b,0,none⟩)] 53)=w':=by
 go_enter func79,ntmps79;go_wp2;go_ret;exact⟨rfl,rfl⟩
theorem xSg {B w v}(h:yO B w v)(he:v.es=[])(bx)(be:w.cell? ⟨bx,0,none⟩=some (.pointer (some ⟨v.p,0,none⟩)))(y):
  Calls prog 113 #[y,.pointer (some ⟨bx,0,none⟩)] w λe w'=>(∃u,e=.returned u)/\Below w.heap.size w w':=by
 have HS:Hid (∀f,Calls prog 114 #[.pointer (some ⟨v.p,0,none⟩),f] w λe w'=>e=.returned (.slice none 0 0)/\Below w.heap.size w w'):=h_ λf=>xLp h he f
 clear h he;go_enter func113,ntmps113;go_wp2_with fail;refine(HS.out _).mono ?_;rintro e w1 ⟨rfl,hb⟩;have HB:=h_ hb;clear hb be;go_wp2;refine wp_loop_once ?_;go_wp2;go_end0;exact⟨⟨_,rfl⟩,HB.out⟩
theorem xLq {B w v}(h:yO B w v)(he:v.es=[])(c:Nat)(hc:v.cut=c)(aT:c<=105190559):
  Calls prog 56 #[.pointer (some ⟨v.p,0,none⟩)] w λe w'=>Below w.heap.size w w'/\∃u,e=.returned u/\OwnB w' w.heap.size u (beB 4 c):=by
 have c1:=cell_of_row w v.p 1 _ _ _ h.blk;simp only[v_]at c1;rw[hc]at c1;have HA:=h_ (xNq [] c (by omega) (.slice none 0 0) w w.heap.size (OwnB.nil _ _) (aa_ _) (by simp));have H:=h_ h;have HE:=h_ he;clear h he hc aT;refine(callsIn_wide (n:=4)).1 (callsIn_of_wp_marks func56 rfl trivial ?_ rfl);simp only[ntmps56,aW_,av_,bm_,Nat.reduceAdd,Nat.reduceSub,cl_,cm_,cv_,cp_,aM_,aK_];refine wpIn_wide.2 ?_;go_wp2_with fail;refine HA.mono ?_;rintro e w1 ⟨aa,u,rfl,ae⟩;rw[aM_]at ae;have bP:u.oneCell'=true:=by
  rcases ae.at with⟨h0,_⟩|⟨g,cp,h0,_⟩ <;> rw[h0] <;> rfl
 obtain⟨ug,uc,hu,_,_,_,_⟩:∃g cap,u=.slice (some ⟨g,0,none⟩) 4 cap/\w.heap.size<=g/\4<=cap/\cap<=maxLen/\SlB w1 ⟨g,0,none⟩ (beB 4 c):=by
  rcases ae.at with⟨_,h⟩|⟨g,cap,h1,h2,h3,h4,h5⟩
  ·exact absurd (congrArg List.length h) (by simp[xe])
  ·have e:(beB 4 c).length=4:=by simp[xe]
   rw[e]at h1 h3;exact⟨g,cap,h1,h2,h3,h4,h5⟩
 subst hu;obtain⟨w2,aw⟩:∃w2,w2=w1.alloc (.cells #[.slice (some ⟨ug,0,none⟩) 4 uc] 31):=⟨_,rfl⟩;have ak:Below w1.heap.size w1 w2:=by rw[aw];exact b_ _ _
 have aA:w2.heap[w1.heap.size]?=some (.cells #[.slice (some ⟨ug,0,none⟩) 4 uc] 31 (0,0)):=by rw[aw];exact heap_alloc_new w1 _
 have au:=h_ (aa.trans (ak.mono aa.size));have gZ:=h_ (ae.below ak);have bQ:=h_ aA;clear aa ae ak aA c1 bP;go_upto_region 4 with fail
 refine xr aw ?_;clear aw;go_wp2_with fail;refine(xSf v.p w2).mono ?_;rintro e w3 ⟨rfl,rfl⟩;have al:Below w2.heap.size w2 (w2.alloc (.cells #[.pointer (some ⟨v.p,0,none⟩)] 53)):=(ab_ _ _).alloc (aa_ _) _;have be:=yz w2 #[.pointer (some ⟨v.p,0,none⟩)] 53 0;generalize w2.alloc (.cells #[.pointer (some ⟨v.p,0,none⟩)] 53)=w3 at al be⊢;have ay:=h_ al;have CR:=h_ be;clear al be;go_wp2;refine xDb rfl (enters_of func113 (by kernel_rfl) rfl) (λy W hW=>?_) (λD W hD hW hK=>?_)
 ·have tU:=au.trans (ay.mono au.size);exact xSg (H.below (tU.trans (hW.mono tU.size))) HE.out _ ((hW.cell (p:=⟨w2.heap.size,0,none⟩) (block_lt_of_cell CR.out)).trans CR.out) y
 ·have Q5:=ay.trans (hW.mono ay.size);have Iq:=(Q5.cell (p:=⟨w1.heap.size,0,none⟩) (i_ bQ.out).1).trans (cell_of_row w2 w1.heap.size 0 _ _ _ bQ.out);simp only[v_]at Iq;have sV:=h_ (gZ.below Q5);have iy:=h_ (au.trans (Q5.mono au.size));have HK:=h_ hK;have HD:=h_ hD;clear hW hK Q5 hD;go_wp2;refine⟨by simp,.inl ⟨_,_,rfl,run_takeDeferred HK.out,?_⟩⟩;refine⟨.slice (some ⟨ug,0,none⟩) 4 uc,results_tmp (t:=2) results56 _ _ _,iy.grown (grownBy_putObj' _ D _) iy.size (λk e=>by cases e;have:=au.size;have:=ay.size;have:=HD.out;omega),_,rfl,sV.grown (grownBy_putObj' _ D _) (λk e=>?_)⟩;cases e
  have h1:=(gZ.lt (k:=ug) rfl).2;have h2:=ay.size;have h3:=HD.out;intro h4;have h5:ug=D:=as_ h4;omega
section
theorem xAk (a l cap w)(hs:SlB w a l)(hl:l.length=4)(hc:4<=cap):
  Calls prog 156 #[.slice (some a) 4 cap] w λe w'=>e=.returned (.int .i64 (deB l:Nat))/\w=w':=by
 have HS:=h_ hs;have HL:=h_ hl;have hz:(4:Int)<=cap:=by omega
 clear hs hl;go_enter func156,ntmps156;go_wp2;go_loopw [3,9] (λnv u wr=>∃k:Nat,u=.int .i64 k/\nv=.int .i64 (deB (l.take k):Nat)/\k<=4/\wr=w) (λ_ u _=>4-(intOf u).toNat)
 case atStart=>exact⟨0,rfl,by simp[deB],by omega,rfl⟩
 case round=>
  obtain⟨k,rfl,rfl,hk,rfl⟩:=hrel;by_cases hlt:k<4
  ·have cr:(k:Int)<4:=by omega
   have ct:k<l.length:=by rw[HL.out];exact hlt
   have aT:=HS.cell k _ (ak_ ct);have hd:deB (l.take (k+1))=deB (l.take k)*256+(l[k]'ct).toNat:=by
    rw[am_ ct,xAl]
   have mZ:=jX (l.take k) (by rw[ai_];omega);generalize l[k]'ct=b at aT hd;have sr:=b.toNat_lt;obtain⟨n,hn⟩:∃n,n=deB (l.take k):=⟨_,rfl⟩;rw[<-hn]at hd mZ⊢;have C_:=xOu n b.toNat (by omega) (by omega);rw[<-hd]at C_;have b0:(n:Int)<4294967296:=by omega
   have hk1:k+1<=4:=hlt;clear hn hd mZ ct;go_wp2;go_roundw
   case rel=>exact⟨k+1,by go_num,rfl,hk1,trivial⟩
   case measure=>simp[intOf];omega
  ·obtain rfl:k=4:=by omega
   rw[ar_ (by rw[HL.out];exact aa_ _)];go_wp2;go_ret;exact⟨rfl,rfl⟩
attribute [local go_sem ↓] ud zJ zK
attribute [local go_sem] kR kJ xh xf xa x9 xu xv xk xj xq xx xt
theorem xLs (a l cap w)(hs:SlB w a l)(ha:a.block<w.heap.size)(hl:l.length=4)(hc:4<=cap)(hm:deB l<=105190559):
  Calls prog 127 #[.slice (some a) 4 cap] w λe w'=>Below w.heap.size w w'/\∃v,e=.returned (.tuple #[.pointer (some ⟨v.p,0,none⟩),.int .i64 0])/\yO w.heap.size w' v/\v.es=[]/\v.cut=(deB l:Nat):=by
 have hz:(4:Int)<=cap:=by omega
 obtain⟨c,Q6⟩:∃c,c=deB l:=⟨_,rfl⟩;have mg:=h_ (xAk a l cap w hs hl hc);rw[<-Q6]at hm mg⊢;have QG:=h_ (xAz (c:Int) (by omega) (by omega) w);have mp:=h_ (xJy w);have HS:=h_ hs;have HL:=h_ hl;have HCD:=h_ Q6;have Dy:(c:Int)<=105190559:=by omega
 clear hs hl Q6;go_enter func127,ntmps127;go_wp2_with fail;refine mg.mono ?_;rintro e w' ⟨rfl,rfl⟩;go_wp2_with fail;refine QG.mono ?_;rintro e w' ⟨rfl,rfl⟩;go_wp2_with fail;refine mp.mono ?_;rintro e w1 ⟨aa,rfl,aB⟩;have ll:SlB w1 a l:=⟨λq x hq=>(aa.cell (by rw[ya];exact ha)).trans (HS.cell q x hq)⟩;have mI:=h_ (xAk a l cap w1 ll HL.out hc);rw[<-HCD.out]at mI;have c1:=cell_of_row w1 (w.heap.size+1) 1 _ _ _ aB.blk;have f1:=frozen_of_row w1 (w.heap.size+1) 1 _ _ aB.blk;simp only[v_]at c1;have fY:yO w.heap.size (w1.setCell ⟨w.heap.size+1,1,none⟩ (.int .i64 c)) ⟨w.heap.size+1,w.heap.size,[],0,c⟩:=by
  refine⟨?_,?_,aB.ne,aB.pB,aB.MB,aB.vals⟩
  ·rw[heap_setCell_same w1 (w.heap.size+1) 1 _ _ _ aB.blk];rfl
  ·exact(heap_setCell_other w1 ⟨w.heap.size+1,1,none⟩ w.heap.size _ (by show w.heap.size≠w.heap.size+1;omega)).trans aB.map
 have aj:Below w.heap.size w (w1.setCell ⟨w.heap.size+1,1,none⟩ (.int .i64 c)):=aa.setCell (p:=⟨w.heap.size+1,1,none⟩) (by simp) _;have oK:=h_ fY;have au:=h_ aj;obtain⟨w2,aw⟩:∃w2,w2=w1.setCell ⟨w.heap.size+1,1,none⟩ (.int .i64 c):=⟨_,rfl⟩;rw[<-aw]at oK au;clear ll aB fY aj aa;go_wp2_with fail;refine mI.mono ?_;rintro e w' ⟨rfl,rfl⟩;go_upto_region 5 with fail
 refine xr aw ?_;clear aw c1 f1;have cu:=kh a 4 cap 4 4 rfl (by omega);go_upto_region 6 with fail
 have al:Below w2.heap.size w2 (w2.alloc (.cells (x7 zy) 58)):=(ab_ _ _).alloc (aa_ _) _;generalize w2.alloc (.cells (x7 zy) 58)=w3 at al⊢;have ay:=h_ al;clear al;go_quiet (fail);have bt:=h_ (ay.trans ((xS (ab_ _ w3) nq).mono ay.size));have DX:=oK.below bt.out;have HF:=h_ (And.intro (au.trans (bt.mono au.size)) DX);have c4:=cell_of_row (w3.drewN nq) (w.heap.size+1) 0 _ _ _ DX.blk;simp only[v_]at c4;have cX:=xF6 underlying102 DX.map 3;simp only[bm_]at cX;generalize w3.drewN nq=w4 at HF c4 cX⊢;clear DX bt cu;go_wp2;refine wp_loop_once ?_;go_wp2;go_ret2;exact⟨HF.1,⟨w.heap.size+1,w.heap.size,[],0,c⟩,rfl,HF.2,rfl,rfl⟩
end
section
theorem xSy (ρ:Operand->Value)(d x)(ty:TypeId)(pos af g w):
  Sem.run prog (execOp ρ ⟨d,.load 101 x,ty,pos,af,g⟩) w=yp prog 101 w (ρ x):=rfl
theorem xPi (ρ:Operand->Value)(d x y)(ty:TypeId)(pos af g w):
  Sem.run prog (execOp ρ ⟨d,.store 101 x y,ty,pos,af,g⟩) w=yi prog 101 w (ρ x) (ρ y):=rfl
theorem yEs (w a)(h:xo w a 4=true):yp prog 101 w (.pointer (some a))=.ok (.value (.agg (xm w a 4))) w:=
 yf isAgg101 sizeOf101 w a h
theorem yE8 (w g cells)(h:xM w g 4=true)(h2:xy 4 cells=true):
  yi prog 101 w (.pointer (some ⟨g,0,none⟩)) (.agg cells)=.ok .skip (w.setRow g cells):=yo (by kernel_rfl) w g cells h h2
theorem jz (ρ:Operand->Value)(d x)(ty:TypeId)(pos af g w):
  Sem.run prog (execOp ρ ⟨d,.load 155 x,ty,pos,af,g⟩) w=yp prog 155 w (ρ x):=rfl
theorem vO (ρ:Operand->Value)(d x y)(ty:TypeId)(pos af g w):
  Sem.run prog (execOp ρ ⟨d,.store 155 x y,ty,pos,af,g⟩) w=yi prog 155 w (ρ x) (ρ y):=rfl
theorem xP8 (w a)(h:xo w a 3=true):yp prog 155 w (.pointer (some a))=.ok (.value (.agg (xm w a 3))) w:=
 yf isAgg155 sizeOf155 w a h
theorem xOe (w g cells)(h:xM w g 3=true)(h2:xy 3 cells=true):
  yi prog 155 w (.pointer (some ⟨g,0,none⟩)) (.agg cells)=.ok .skip (w.setRow g cells):=yo (by kernel_rfl) w g cells h h2
structure SArt where
 text:ByteArray
 arr:Int
 pl:Int
def xG (x:SArt):Array Value:=#[.string x.text,.int .i64 x.arr,.int .i64 x.pl]
def qo:SArt:=⟨⟨#[]⟩,0,0⟩
theorem xQk (w):(zeroValue 155).run prog w=.ok (.agg (xG qo)) w:=by kernel_rfl
structure Spo where
 p:Nat
 M:Nat
 es:List (KE Id32)
 mc:Nat
 budget:Nat
 bytes:Nat
 next:Nat
def za (v:Spo):Array Value:=#[.int .i64 v.budget,.int .i64 v.bytes,.int .i64 v.next,.map (some v.M)]
structure yE (B:Nat)(w:World)(v:Spo):Prop where
 blk:w.heap[v.p]?=some (.cells (za v) 101 (0,0))
 map:y4 ekI w v.M v.es v.mc
 ne:v.p≠v.M
 pB:B<=v.p
 MB:B<=v.M
 vals:(∀k u,getK k v.es=some u->∃x:SArt,u=.agg (xG x))/\xCo v.es v.mc/\∀e∈v.es,∃x:SArt,e.v=.agg (xG x)
def Spo.foot (v:Spo):List Nat:=[v.p,v.M]
theorem yE.lt {B w v}(h:yE B w v):v.p<w.heap.size/\v.M<w.heap.size:=⟨(i_ h.blk).1,h.map.lt⟩
theorem yE.kept {B w w' v F}(h:yE B w v)(hk:Kept F w w')(hF:∀k∈v.foot,k∉F):yE B w' v:=
 ⟨(hk.block _ h.lt.1 (hF _ (by simp[Spo.foot]))).trans h.blk,(hk.block _ h.lt.2 (hF _ (by simp[Spo.foot]))).trans h.map,h.ne,h.pB,h.MB,h.vals⟩
theorem yE.below {B w w' v}(h:yE B w v)(hb:Below w.heap.size w w'):yE B w' v:=h.kept (Kept.of_below (F:=[]) hb) (λ_ _ h=>by cases h)
theorem xZl (b:Nat)(h1:1<=b)(h2:b<=1073741824)(w):Calls prog 41 #[.int .i64 b] w λe w'=>Below w.heap.size w w'/\e=.returned (.tuple #[.pointer (some ⟨w.heap.size+1,0,none⟩),.int .i64 0])/\yE w.heap.size w' ⟨w.heap.size+1,w.heap.size,[],0,b,0,0⟩:=by
 have lQ:=@run_makeMap prog;have hb:Below w.heap.size w ((w.alloc (.map #[] 0)).alloc (.cells #[.int .i64 b,.int .i64 0,.int .i64 0,.map (some w.heap.size)] 101)):=((ab_ _ _).alloc (aa_ _) _).alloc (by simp) _;have aB:yE w.heap.size ((w.alloc (.map #[] 0)).alloc (.cells #[.int .i64 b,.int .i64 0,.int .i64 0,.map (some w.heap.size)] 101)) ⟨w.heap.size+1,w.heap.size,[],0,b,0,0⟩:=by
  refine⟨?_,?_,by simp,by simp,aa_ _,⟨λk u h=>by simp[xAh]at h,xCo.nil _,λe h=>by cases h⟩⟩
  ·have:=heap_alloc_new (w.alloc (.map #[] 0)) (.cells #[.int .i64 b,.int .i64 0,.int .i64 0,.map (some w.heap.size)] 101);rw[al_]at this;exact this
  ·unfold y4;rw[heap_alloc_old _ _ (by simp),heap_alloc_new];rfl
 have HB:=h_ hb;have HA:=h_ aB;have z1:(1:Int)<=b:=by omega
 have z2:(b:Int)<=1073741824:=by omega
 clear hb aB;go_enter func41,ntmps41;go_wp2;go_ret2;exact⟨HB.out,rfl,HA.out⟩
theorem xJd (b es clock w)(hb:w.heap[b]?=some (.map es clock)):
  Calls prog 69 #[.map (some b)] w λe w'=>e=.returned (.map (some w.heap.size))/\w.alloc (.map es clock)=w':=by
 have hu:prog.underlying 99=some (.map 33 155):=underlying99;have hq:=λw=>run_eql_map_nil_sl (P:=prog) w 99 _ _ (some b) hu
 go_enter func69,ntmps69;go_wp2;rw[run_callFunc_extern func93 (by kernel_rfl) (by kernel_rfl) (by kernel_rfl) (e:=Extern.MapsClone.clone) (by kernel_rfl),run_maps_clone_sl w 99 hb];simp only[Result.andThen];rw[ce_];go_wp2;rw[run_typeAssert_map_sl _ 99 20 _ _ _ hu];simp only[Result.andThen];rw[ce_];go_wp2;go_ret;exact⟨rfl,rfl⟩
attribute [local go_sem ↓] xL xI xSy xPi jz vO
attribute [local go_sem] zm zA yEs yE8 xP8 xOe zn zu yx yw xh xf xa x9 xu xv xk xj xq xx xt
theorem xXp {B w v}(h:yE B w v)(hb:v.bytes<=v.budget)(hl:v.budget<=1073741824):Calls prog 162 #[.pointer (some ⟨v.p,0,none⟩)] w λe w'=>e=.returned (.int .i64 (v.budget-v.bytes:Nat))/\∃m,w'=w.drewN m:=by
 have c0:=cell_of_row w v.p 0 _ _ _ h.blk;have c1:=cell_of_row w v.p 1 _ _ _ h.blk;simp only[za,v_]at c0 c1;have oA:(v.budget:Int)-(v.bytes:Int)=((v.budget-v.bytes:Nat):Int):=by omega
 have z1:(v.budget:Int)<=1073741824:=by omega
 have z2:(v.bytes:Int)<=1073741824:=by omega
 clear h hb hl;go_enter func162,ntmps162;go_upto_region 3 with fail
 go_quiet (fail);clear c0 c1;go_wp2;go_ret;exact⟨rfl,_,rfl⟩
theorem xIv {B w v}(h:yE B w v):Calls prog 38 #[.pointer (some ⟨v.p,0,none⟩)] w λe w'=>Below w.heap.size w w'/\∃v',e=.returned (.pointer (some ⟨v'.p,0,none⟩))/\yE w.heap.size w' v'/\v'.es=v.es/\v'.mc=v.mc/\v'.budget=v.budget/\v'.bytes=v.bytes/\v'.next=v.next:=by
 obtain⟨o1,r1⟩:=xD (n:=4) h.blk rfl;have bJ:xy 4 (za v)=true:=by simp[za,xy,Value.oneCell']
 obtain⟨w1,ai⟩:∃w1,w1=w.alloc (.cells (za v) 101):=⟨_,rfl⟩;have aa:Below w.heap.size w w1:=by rw[ai];exact b_ _ _
 have az:w1.heap[w.heap.size]?=some (.cells (za v) 101 (0,0)):=by rw[ai];exact heap_alloc_new w _
 have aK:w1.heap.size=w.heap.size+1:=by rw[ai];simp
 have bg:=h.below aa;have c3:=cell_of_row w1 v.p 3 _ _ _ bg.blk;simp only[za,v_]at c3;have HC:=h_ (xJd v.M _ v.mc w1 bg.map);have HV:=h_ h.vals;have ar:=h_ aa;have cz:=h_ az;have bW:=h_ aK;clear h aa az aK bg;unfold za at ai r1 bJ;go_enter func38,ntmps38;go_upto_region 4 with fail
 refine xr ai ?_;clear ai o1 r1 bJ;go_wp2_with fail;refine HC.mono ?_;rintro e w' ⟨rfl,rfl⟩;have aj:Below w1.heap.size w1 (w1.alloc (.map (v.es.map (enE ekI)).toArray v.mc)):=(ab_ _ _).alloc (aa_ _) _;have eV:=heap_alloc_new w1 (.map (v.es.map (enE ekI)).toArray v.mc);generalize w1.alloc (.map (v.es.map (enE ekI)).toArray v.mc)=w2 at aj eV⊢;have aK:=bW.out;have aA:=(aj.block w.heap.size (by omega)).trans cz.out;have c2:=cell_of_row w2 w.heap.size 3 _ _ _ aA;have f2:=frozen_of_row w2 w.heap.size 3 _ _ aA;simp only[za,v_]at c2;have bK:(w2.setCell ⟨w.heap.size,3,none⟩ (.map (some w1.heap.size))).heap[w.heap.size]?=some (.cells (za ⟨w.heap.size,w1.heap.size,v.es,v.mc,v.budget,v.bytes,v.next⟩) 101 (0,0)):=by rw[heap_setCell_same w2 w.heap.size 3 _ _ _ aA];rfl
 have aB:yE w.heap.size (w2.setCell ⟨w.heap.size,3,none⟩ (.map (some w1.heap.size))) ⟨w.heap.size,w1.heap.size,v.es,v.mc,v.budget,v.bytes,v.next⟩:=
  ⟨bK,(heap_setCell_other w2 ⟨w.heap.size,3,none⟩ w1.heap.size _ (by show w1.heap.size≠w.heap.size;omega)).trans eV,by show w.heap.size≠w1.heap.size;omega,aa_ _,by show w.heap.size<=w1.heap.size;omega,HV.out⟩
 have HF:=h_ (And.intro ((ar.trans (aj.mono ar.size)).setCell (p:=⟨w.heap.size,3,none⟩) (aa_ _) (.map (some w1.heap.size))) aB);clear aj eV aA bK aB aK c3;go_wp2;go_ret;exact⟨HF.1,⟨w.heap.size,w1.heap.size,v.es,v.mc,v.budget,v.bytes,v.next⟩,rfl,HF.2,rfl,rfl,rfl,rfl,rfl⟩
end
section
theorem xBa (ρ:Operand->Value)(d)(ty:TypeId)(pos af g w):
  Sem.run prog (execOp ρ ⟨d,.alloc 155,ty,pos,af,g⟩) w=.ok (.value (.pointer (some ⟨w.heap.size,0,none⟩))) (w.alloc (.cells (xG qo) 155)):=by kernel_rfl
theorem xSr (x):xy 3 (xG x)=true:=by simp[xG,xy,Value.oneCell']
def xW5 (b:Bool):Int:=if b then 0 else 8
theorem yE.look {B w v}(h:yE B w v)(k):∃x:SArt,(getK k v.es=none->x=qo)/\(∀u,getK k v.es=some u->u=.agg (xG x)) /\
  ∀W,W.heap[v.M]?=w.heap[v.M]?->(Instr.lookup 99 (.map (some v.M)) (.agg (xl k).toArray) true).run prog W=.ok (.tuple #[.agg (xG x),.bool (getK k v.es).isSome]) W:=by
 have hk:∀W,W.heap[v.M]?=w.heap[v.M]?->(Instr.lookup 99 (.map (some v.M)) (.agg (xl k).toArray) true).run prog W=.ok (.tuple #[(getK k v.es).getD (.agg (xG qo)),.bool (getK k v.es).isSome]) W:=λW hW=>by
  have h1:=xCv keyI underlying99 (.agg (xG qo)) xQk W v.M v.es v.mc (by have:=h.map;unfold y4 at this⊢;exact hW.trans this) k;have h2:(yN k v.es 0).isSome=(getK k v.es).isSome:=by unfold getK;cases yN k v.es 0 <;> rfl
  rw[h2]at h1;exact h1
 cases hg:getK k v.es with
 |none=>
  refine⟨qo,(λ_=>rfl),(λu h=>(by cases h)),λW hW=>?_⟩;rw[hk W hW,hg];rfl
 |some u=>
  obtain⟨x,hx⟩:=h.vals.1 k u hg;refine⟨x,(λh=>(by cases h)),(λu' h=>(by cases h;exact hx)),λW hW=>?_⟩;rw[hk W hW,hg,<-hx];rfl
attribute [local go_sem ↓] xL xI jz vO xBa
attribute [local go_sem] zm zA xP8 xOe xh xf xa x9 xu xv xk xj xq xx xt
theorem xR0 {B w v}(h:yE B w v)(id):∃x:SArt,(getK id v.es=none->x=qo)/\(∀u,getK id v.es=some u->u=.agg (xG x)) /\
  Calls prog 39 #[.pointer (some ⟨v.p,0,none⟩),.agg (xl id).toArray] w λe w'=>Below w.heap.size w w'/\e=.returned (.tuple #[.string x.text,.int .i64 (xW5 (getK id v.es).isSome)]):=by
 obtain⟨x,fP,eN,cW⟩:=h.look id;refine⟨x,fP,eN,?_⟩;obtain⟨w1,ai⟩:∃w1,w1=w.alloc (.cells (xl id).toArray 33):=⟨_,rfl⟩;have aa:Below w.heap.size w w1:=by rw[ai];exact b_ _ _
 have gU:w1.heap[w.heap.size]?=some (.cells (xl id).toArray 33 (0,0)):=by
  rw[ai,heap_alloc_new]
 have bg:=h.below aa;have c0:=cell_of_row w1 v.p 3 _ _ _ bg.blk;simp only[za,v_]at c0;have z0:∀z:x8 w1,z.1.cell? ⟨v.p,3,none⟩=some (.map (some v.M)):=λz=>z.cell c0
 have ri:=yj gU;have z1:∀z:x8 w1,xo z.1 ⟨w.heap.size,0,none⟩ 32=true:=λz=>x8.ok ri.1 z
 have z2:∀z:x8 w1,xm z.1 ⟨w.heap.size,0,none⟩ 32=(xl id).toArray:=λz=>(x8.rd ri.1 z).trans ri.2
 have z3:∀z:x8 w1,(Instr.lookup 99 (.map (some v.M)) (.agg (xl id).toArray) true).run prog z.1=.ok (.tuple #[.agg (xG x),.bool (getK id v.es).isSome]) z.1:=λz=>cW z.1 ((z.2.block _ bg.lt.2).trans (aa.block _ h.lt.2))
 obtain⟨ok,aD⟩:∃ok,ok=(getK id v.es).isSome:=⟨_,rfl⟩;rw[<-aD]at z3⊢;have iA:=xSr x;have ar:=h_ aa;have HX:=h_ (And.intro fP eN);have HO:=h_ aD;clear gU bg c0 ri cW fP eN aD aa h;go_enter func39,ntmps39;go_upto_region 3 with fail
 refine xr ai ?_;clear ai;refine xp [0,1,2,3,4,5,6,7,8] [9,10,11] (λw'=>∃z:x8 w1,w'=z.1) (by kernel_rfl) (by kernel_rfl) (by kernel_rfl) ⟨⟨w1.drew,(ab_ _ _).drew⟩,rfl⟩ ?_;simp only[o_]
 repeat (go_big_quiet_step (fail))
 refine wpQuiet_nil ?_;clear z0 z1 z2 z3;refine yb true (by kernel_rfl) (by kernel_rfl) ?_;simp only[o_];go_wp2;have aj:Below w1.heap.size w1 (w1.alloc (.cells (xG qo) 155)).drew:=((ab_ _ _).alloc (aa_ _) _).drew;have aA:(w1.alloc (.cells (xG qo) 155)).drew.heap[w1.heap.size]?=some (.cells (xG qo) 155 (0,0)):=heap_alloc_new w1 _;generalize (w1.alloc (.cells (xG qo) 155)).drew=w2 at aj aA⊢;have bu:xM w2 w1.heap.size 3=true:=zN aA rfl;have al:=xK aj (aa_ _) (xG x);have bK:=setRow_heap w2 w1.heap.size _ (xG x) _ _ aA;have au:=h_ aj;have ay:=h_ al;have dV:=h_ bK;clear aj aA al bK;refine⟨λ_=>⟨⟨w2,au.out⟩,rfl⟩,yb true (by kernel_rfl) (by kernel_rfl) ?_⟩;simp only[o_];go_wp2;refine⟨λ_=>⟨⟨_,ay.out⟩,rfl⟩,xB [11] _ _ (by kernel_rfl) ?_⟩;simp only[o_];go_wp2;refine ag_ ?_;have cx:=cell_of_row _ _ 0 _ _ _ dV.out;simp only[xG,v_]at cx;have HF:=h_ (ar.trans (ay.mono ar.size))
 change (w2.setRow w1.heap.size #[.string x.text,.int .i64 x.arr,.int .i64 x.pl]).cell? _=_ at cx
 unfold xG at HF⊢;clear bu au ay dV;generalize w2.setRow w1.heap.size #[.string x.text,.int .i64 x.arr,.int .i64 x.pl]=w3 at cx HF⊢;cases ok
 ·go_wp2;go_ret2
  have hx:x=qo:=HX.1 (by
   have:=HO.out;cases hq:getK id v.es with
   |none=>rfl
   |some u=>rw[hq]at this;cases this)
  exact⟨HF.out,by rw[hx];rfl⟩
 ·go_wp2;go_ret2;exact⟨HF.out,rfl⟩
end
section
attribute [local go_sem ↓] xL xI jz vO xBa xA1
attribute [local go_sem] zm zA xP8 xOe zb xh xf xa x9 xu xv xk xj xq xx xt xDy xI8
theorem xZp (b):(xW5 b==0)=b:=by cases b <;> rfl
theorem xIr {B w v}(h:yE B w v)(id):
  Calls prog 16 #[.pointer (some ⟨v.p,0,none⟩),.agg (xl id).toArray] w λe w'=>Below w.heap.size w w'/\e=.returned (.bool (getK id v.es).isSome):=by
 obtain⟨w1,ai⟩:∃w1,w1=w.alloc (.cells (xl id).toArray 33):=⟨_,rfl⟩;have aa:Below w.heap.size w w1:=by rw[ai];exact b_ _ _
 have gU:w1.heap[w.heap.size]?=some (.cells (xl id).toArray 33 (0,0)):=by rw[ai];exact heap_alloc_new w _
 obtain⟨o1,r1⟩:=yj gU;obtain⟨x,_,_,bU⟩:=xR0 (h.below aa) id;have HG:=h_ bU;have ar:=h_ aa;obtain⟨ok,aD⟩:∃ok,ok=(getK id v.es).isSome:=⟨_,rfl⟩;rw[<-aD]at HG⊢;obtain⟨se,Ks⟩:∃se,se=xW5 ok:=⟨_,rfl⟩;rw[<-Ks]at HG;have Ir:(se==0)=ok:=by rw[Ks];exact xZp ok
 clear h aa gU bU aD Ks;go_enter func16,ntmps16;go_upto_region 1 with fail
 refine xr ai ?_;clear ai;go_wp2_with fail;refine HG.mono ?_;rintro e w2 ⟨aj,rfl⟩;clear o1 r1 HG;have au:=h_ (ar.trans (aj.mono ar.size));clear aj;go_wp2;go_ret;exact⟨au.out,rfl⟩
def yC6 (B:Nat)(v:Spo)(id:Id32)(t:ByteArray)(m:Int)(w:World)(e:Ending)(w':World):Prop:=
 e=.returned (.int .i64 0)/\Kept [v.M,v.p] w w'/\yE B w' { v with es:=putL id (.agg (xG ⟨t,m,v.next⟩)) v.mc v.es,mc:=putC id v.mc v.es,bytes:=v.bytes+t.size,next:=v.next+1 }
theorem yE.put {B w v}(h:yE B w v)(id x):yE B (w.putObj v.M (.map ((putL id (.agg (xG x)) v.mc v.es).map (enE ekI)).toArray (putC id v.mc v.es))) { v with es:=putL id (.agg (xG x)) v.mc v.es,mc:=putC id v.mc v.es }:=by
 refine⟨(aB_ h.ne).trans h.blk,h.map.put,h.ne,h.pB,h.MB,λk u hu=>?_,h.vals.2.1.put _ _,λe he=>(xJ5 he).elim (λh1=>⟨x,h1⟩) (h.vals.2.2 e)⟩;simp only at hu;rw[xFb]at hu;split at hu
 ·exact⟨x,(as_ hu).symm⟩
 ·exact h.vals.1 k u hu
theorem yE.own {B w v}(h:yE B w v)(j u v')(hv:(za v).setIfInBounds j u=za v')(hp:v'.p=v.p)(hM:v'.M=v.M)(he:v'.es=v.es)(hc:v'.mc=v.mc):yE B (w.setCell ⟨v.p,j,none⟩ u) v':=by
 refine⟨?_,?_,?_,?_,?_,?_⟩
 ·rw[hp,heap_setCell_same w v.p j _ _ _ h.blk,hv]
 ·rw[hM,he,hc];exact(heap_setCell_other w ⟨v.p,j,none⟩ v.M _ (λe=>h.ne e.symm)).trans h.map
 ·rw[hp,hM];exact h.ne
 ·rw[hp];exact h.pB
 ·rw[hM];exact h.MB
 ·rw[he,hc];exact h.vals
theorem zh (w a u):Kept [a.block] w (w.setCell a u):=⟨rfl,rfl,rfl,by simp,λk _ hn=>heap_setCell_other w a k u (λe=>hn (by simp[e]))⟩
theorem xQt {B w v}(h:yE B w v)(id t m)(hid:id≠uq)(ir:1<=t.size)(gX:t.size<=65536)(lX:0<=m)(eV:m<=105190559)(dS:getK id v.es=none)
  (hb:v.bytes+t.size<=v.budget) (hl:v.budget<=1073741824) (hn:v.next<=1000):
  Calls prog 163 #[.pointer (some ⟨v.p,0,none⟩),.agg (xl id).toArray,.string t,.int .i64 m] w (yC6 B v id t m w):=by
 obtain⟨w1,ai⟩:∃w1,w1=w.alloc (.cells (xl id).toArray 33):=⟨_,rfl⟩;have aa:Below w.heap.size w w1:=by rw[ai];exact b_ _ _
 have gU:w1.heap[w.heap.size]?=some (.cells (xl id).toArray 33 (0,0)):=by rw[ai];exact heap_alloc_new w _
 obtain⟨o1,r1⟩:=yj gU;have NK:=h_ (xIr (h.below aa) id);have H:=h_ h;have ar:=h_ aa;have DW:=h_ gU;have mp:=h_ dS;have T6:decide (id=uq)=false:=decide_eq_false hid;obtain⟨n,eW⟩:∃n,n=t.size:=⟨_,rfl⟩;have T7:t.toList.isEmpty=false:=by
  rw[dE_,List.isEmpty_eq_false_iff,<-cy_,vu];omega
 have hts:(t.size:Int)<=65536:=by omega
 have HN:=h_ (And.intro hb (And.intro hl hn));clear h aa gU dS hid eW hb hl hn;go_enter func163,ntmps163;go_upto_region 1 with fail
 refine xr ai ?_;clear ai;go_wp2_with fail;refine NK.mono ?_;rintro e w2 ⟨aj,rfl⟩;rw[mp.out,Option.isSome_none];have au:=h_ (ar.trans (aj.mono ar.size));have mG:=h_ ((aj.block _ (i_ DW.out).1).trans DW.out);have mI:=h_ (H.below au.out);clear aj NK o1 r1 T6 T7;have wO:=h_ (xXp mI.out (by have:=HN.1;omega) HN.2.1);go_wp2_with fail;refine wO.mono ?_;rintro e w3 ⟨rfl,mm,bm⟩;have al:Below w2.heap.size w2 w3:=by rw[bm];exact xS (ab_ _ _) _
 have ay:=h_ (au.trans (al.mono au.size));have mo:=(al.block _ (i_ mG.out).1).trans mG.out;have fk:=H.below ay.out;have CQ:=h_ fk;have c3:=cell_of_row w3 v.p 3 _ _ _ fk.blk;have c2:=cell_of_row w3 v.p 2 _ _ _ fk.blk;simp only[za,v_]at c2 c3;have z0:∀z:x8 w3,z.1.cell? ⟨v.p,3,none⟩=some (.map (some v.M)):=λz=>z.cell c3
 have z1:∀z:x8 w3,z.1.cell? ⟨v.p,2,none⟩=some (.int .i64 v.next):=λz=>z.cell c2
 have ri:=yj mo;have z2:∀z:x8 w3,xo z.1 ⟨w.heap.size,0,none⟩ 32=true:=λz=>x8.ok ri.1 z
 have z3:∀z:x8 w3,xm z.1 ⟨w.heap.size,0,none⟩ 32=(xl id).toArray:=λz=>(x8.rd ri.1 z).trans ri.2
 have aC:decide ((v.budget-v.bytes:Nat)<t.size)=false:=decide_eq_false (by have:=HN.1;omega);clear bm al mo fk c3 c2 ri mG wO;obtain⟨fr,nG⟩:∃fr,fr=(v.budget-v.bytes:Nat):=⟨_,rfl⟩;rw[<-nG]at aC⊢;clear nG;go_upto_region 11 with fail
 have eH:=HN.2.2;have eq:=CQ.below ((ab_ w3.heap.size w3).drew);have dB:(Instr.mapUpdate 99 (.map (some v.M)) (.agg (xl id).toArray) (.agg (xG ⟨t,m,v.next⟩))).run prog w3.drew=_:=xEv keyI underlying99 w3.drew v.M v.es v.mc eq.map id (.agg (xG ⟨t,m,v.next⟩));have aB:=eq.put id ⟨t,m,v.next⟩;have ef:Kept [v.M,v.p] w (w3.drew.putObj v.M (.map ((putL id (.agg (xG ⟨t,m,v.next⟩)) v.mc v.es).map (enE ekI)).toArray (putC id v.mc v.es))):=(Kept.of_below (F:=[v.M,v.p]) (ay.trans ((ab_ w3.heap.size w3).drew.mono ay.size))).trans (qX _ _ _) (λq hq=>.inl (by simp at hq⊢;exact .inl hq));have HK:=h_ ef;have HA:=h_ aB;clear eq aB ef;refine xp [0,1,2,3,4,5,6,7,8,9,10,11] [12] (λw'=>∃z:x8 w3,w'=z.1) (by kernel_rfl) (by kernel_rfl) (by kernel_rfl) ⟨⟨w3.drew,(ab_ _ _).drew⟩,rfl⟩ ?_;simp only[o_]
 repeat (go_big_quiet_step (fail))
 refine wpQuiet_nil ?_;clear z0 z1 z2 z3;refine xB [12] _ _ (by kernel_rfl) ?_;simp only[o_];generalize w3.drew.putObj v.M (.map ((putL id (.agg (xG ⟨t,m,v.next⟩)) v.mc v.es).map (enE ekI)).toArray (putC id v.mc v.es))=w5 at dB HK HA;unfold xG at dB;go_wp2;refine ag_ ?_;clear dB;have c2:=cell_of_row w5 v.p 2 _ _ _ HA.blk;have f2:=frozen_of_row w5 v.p 2 _ _ HA.blk;simp only[za,v_]at c2;have wP:=HA.own 2 (.int .i64 ((v.next+1:Nat):Int)) { v with es:=putL id (.agg (xG ⟨t,m,v.next⟩)) v.mc v.es,mc:=putC id v.mc v.es,next:=v.next+1 } rfl rfl rfl rfl rfl;have dq:=HK.trans (zh w5 ⟨v.p,2,none⟩ (.int .i64 ((v.next+1:Nat):Int))) (λq hq=>.inl (by simp at hq⊢;exact .inr hq));obtain⟨nx,bj⟩:∃nx:Int,nx=((v.next+1:Nat):Int):=⟨_,rfl⟩;have Is:(v.next:Int)+1=nx:=by omega
 have T8:(v.next:Int)<=1000:=by omega
 rw[<-bj]at wP dq;obtain⟨w6,b8⟩:∃w6,w6=w5.setCell ⟨v.p,2,none⟩ (.int .i64 nx):=⟨_,rfl⟩;rw[<-b8]at wP dq;have Q7:=h_ wP;have Q8:=h_ dq;have ed:=h_ bj;clear wP dq bj HA HK eH;go_upto_region 13 with fail
 refine xr b8 ?_;clear b8 c2 f2 Is T8;have c1:=cell_of_row w6 v.p 1 _ _ _ Q7.blk;have f1:=frozen_of_row w6 v.p 1 _ _ Q7.blk;simp only[za,v_]at c1;have It:=Q7.own 1 (.int .i64 ((v.bytes+t.size:Nat):Int)) { v with es:=putL id (.agg (xG ⟨t,m,v.next⟩)) v.mc v.es,mc:=putC id v.mc v.es,next:=v.next+1,bytes:=v.bytes+t.size } rfl rfl rfl rfl rfl;have lU:=Q8.trans (zh w6 ⟨v.p,1,none⟩ (.int .i64 ((v.bytes+t.size:Nat):Int))) (λq hq=>.inl (by simp at hq⊢;exact .inr hq));obtain⟨nb,eF⟩:∃nb:Int,nb=((v.bytes+t.size:Nat):Int):=⟨_,rfl⟩;have T9:(v.bytes:Int)+t.size=nb:=by omega
 have T_:nb<=1073741824:=by have:=HN.1;have:=HN.2.1;omega
 have Ua:0<=nb:=by omega
 rw[<-eF]at It lU;have Ub:=h_ It;have Kt:=h_ lU;clear It lU eF Q7 Q8;go_wp2;go_ret;exact⟨rfl,Kt.out,Ub.out⟩
theorem xIp {B w v}(h:yE B w v)(n)(hn:n=v.es.length):Calls prog 17 #[.pointer (some ⟨v.p,0,none⟩)] w λe w'=>w=w'/\e=.returned (.int .i64 n):=by
 have c3:=cell_of_row w v.p 3 _ _ _ h.blk;simp only[za,v_]at c3;have cX:=xF6 underlying99 h.map 3;rw[<-hn]at cX;clear h hn;go_enter func17,ntmps17;go_wp2;go_ret;exact⟨rfl,rfl⟩
theorem xGx {B w v}(h:yE B w v)(id x bb)(he:v.es=[⟨id,.agg (xG x),bb⟩])(hb:x.text.size<=v.bytes)(hl:v.bytes<=1073741824):
  Calls prog 326 #[.pointer (some ⟨v.p,0,none⟩),.agg (xl id).toArray] w λe w'=>e=.returned (.int .i64 0)/\Kept [v.M,v.p] w w'/\yE B w' { v with es:=[],bytes:=v.bytes-x.text.size }:=by
 obtain⟨w1,ai⟩:∃w1,w1=w.alloc (.cells (xl id).toArray 33):=⟨_,rfl⟩;have aa:Below w.heap.size w w1:=by rw[ai];exact b_ _ _
 have gU:w1.heap[w.heap.size]?=some (.cells (xl id).toArray 33 (0,0)):=by rw[ai];exact heap_alloc_new w _
 obtain⟨o1,r1⟩:=yj gU;have J_:yN id v.es 0=some (0,.agg (xG x)):=by rw[he];simp[yN]
 have mN:getK id v.es=some (.agg (xG x)):=by unfold getK;rw[J_];rfl
 obtain⟨x0,_,dJ,bU⟩:=xR0 (h.below aa) id;have C6:x0.text=x.text:=by
  have:=dJ _ mN;injection this with h1
  unfold xG at h1;have h2:=congrArg (λa=>a[0]?) h1;simp at h2;exact h2.symm
 rw[mN,C6,Option.isSome_some]at bU;have hE:xW5 true=0:=rfl;rw[hE]at bU;have HG:=h_ bU;have H:=h_ h;have ar:=h_ aa;have DW:=h_ gU;have HE:=h_ he;have HFK:=h_ J_;have HN:=h_ (And.intro hb hl);clear h aa gU bU C6 mN J_ he dJ hE hb hl;go_enter func326,ntmps326;go_upto_region 1 with fail
 refine xr ai ?_;clear ai;go_wp2_with fail;refine HG.mono ?_;rintro e w2 ⟨aj,rfl⟩;have au:=h_ (ar.trans (aj.mono ar.size));have hi2:=(aj.block _ (i_ DW.out).1).trans DW.out;have bE:=H.below au.out;have mI:=h_ bE;have c3:=cell_of_row w2 v.p 3 _ _ _ bE.blk;simp only[za,v_]at c3;have z0:∀z:x8 w2,z.1.cell? ⟨v.p,3,none⟩=some (.map (some v.M)):=λz=>z.cell c3
 have ri:=yj hi2;have z2:∀z:x8 w2,xo z.1 ⟨w.heap.size,0,none⟩ 32=true:=λz=>x8.ok ri.1 z
 have z3:∀z:x8 w2,xm z.1 ⟨w.heap.size,0,none⟩ 32=(xl id).toArray:=λz=>(x8.rd ri.1 z).trans ri.2
 clear aj hi2 bE c3 ri HG o1 r1;go_upto_region 4 with fail
 refine xp [0,1,2,3,4] [5] (λw'=>∃z:x8 w2,w'=z.1) (by kernel_rfl) (by kernel_rfl) (by kernel_rfl) ⟨⟨w2.drew,(ab_ _ _).drew⟩,rfl⟩ ?_;simp only[o_]
 repeat (go_big_quiet_step (fail))
 refine wpQuiet_nil ?_;clear z0 z2 z3;have eq:=mI.below ((ab_ w2.heap.size w2).drew);obtain⟨w3,bm⟩:∃w3,w3=w2.drew.putObj v.M (.map (([]:List (KE Id32)).map (enE ekI)).toArray v.mc):=⟨_,rfl⟩;have A5:∀ty,(Builtin.delete_ #[99,33] ty #[.map (some v.M),.agg (xl id).toArray]).run prog w2.drew=.ok (.tuple #[]) w3:=λty=>by
  have:=xQ0 keyI underlying99 ty w2.drew v.M v.es v.mc eq.map id 0 _ HFK.out (by rw[HE.out];exact Nat.one_pos);rw[HE.out,List.eraseIdx_cons_zero]at this;rw[bm];exact this
 have sW:yE B w3 { v with es:=[] }:=by
  rw[bm];exact⟨(aB_ eq.ne).trans eq.blk,eq.map.put,eq.ne,eq.pB,eq.MB,λk u hu=>by simp[xAh]at hu,xCo.nil _,λe he=>by cases he⟩
 have dp:Kept [v.M,v.p] w w3:=by
  rw[bm];exact(Kept.of_below (F:=[v.M,v.p]) (au.trans ((ab_ w2.heap.size w2).drew.mono au.size))).trans (qX _ _ _) (λq hq=>.inl (by simp at hq⊢;exact .inl hq))
 have wQ:=h_ sW;have CS:=h_ dp;clear eq bm sW dp;refine xB [5] _ _ (by kernel_rfl) ?_;simp only[o_];refine vC _ rfl (.tmp 19) (.tmp 20) 99 33 rfl _ _ rfl rfl (A5 _) ?_;go_wp2;refine ag_ ?_;clear A5;have c1:=cell_of_row w3 v.p 1 _ _ _ wQ.blk;have f1:=frozen_of_row w3 v.p 1 _ _ wQ.blk;simp only[za,v_]at c1;have It:=wQ.own 1 (.int .i64 ((v.bytes-x.text.size:Nat):Int)) { v with es:=[],bytes:=v.bytes-x.text.size } rfl rfl rfl rfl rfl;have lU:=CS.trans (zh w3 ⟨v.p,1,none⟩ (.int .i64 ((v.bytes-x.text.size:Nat):Int))) (λq hq=>.inl (by simp at hq⊢;exact .inr hq));obtain⟨nb,eF⟩:∃nb:Int,nb=((v.bytes-x.text.size:Nat):Int):=⟨_,rfl⟩;have T9:(v.bytes:Int)-x.text.size=nb:=by have:=HN.1;omega
 have T_:nb<=1073741824:=by have:=HN.2;omega
 have Ua:0<=nb:=by omega
 rw[<-eF]at It lU;have Ub:=h_ It;have Kt:=h_ lU;clear It lU eF wQ CS;go_wp2;go_ret;exact⟨rfl,Kt.out,Ub.out⟩
end
structure ByC (B:Nat)(w:World)(v0 v:Value)(l:By)(W:World):Prop where
 bel:Below B w W
 own:OwnB W B v l
 keep:∀k,k<w.heap.size->v0.ownBlock≠some k->W.heap[k]?=w.heap[k]?
 fr:∀k,v.ownBlock=some k->v0.ownBlock=some k\/w.heap.size<=k
theorem ByC.app {B w W W1 W2 v0 v v' l r}(h:ByC B w v0 v l W)(hB:B<=W.heap.size)(hb:Below W.heap.size W W1)(ho:OwnB W2 B v' (l++r))(hg:W1.grownBy W2 v.ownBlock)(hf:v'.ownBlock=v.ownBlock\/v'.ownBlock=some W1.heap.size)(hs:w.heap.size<=W.heap.size):ByC B w v0 v' (l++r) W2:=by
 refine⟨(h.bel.trans (hb.mono hB)).grown hg (ad_ hB hb.size) (λ_ e=>(h.own.lt e).1),ho,λk hk hn=>?_,λk hk=>?_⟩
 ·have h1:v.ownBlock≠some k:=λe=>by
   rcases h.fr k e with h2|h2
   ·exact hn h2
   ·omega
  rw[hg.block k (by have:=hb.size;omega) (λe=>h1 e.symm),hb.block k (by omega),h.keep k hk hn]
 ·rcases hf with e|e
  ·exact h.fr k (e▸hk)
  ·right
   have h2:W1.heap.size=k:=as_ (e.symm.trans hk);have:=hb.size;omega
theorem jY (l0)(n:Nat)(hn:n<=4611686018427387904)(v0 w B)(ae:OwnB w B v0 l0)(hB:B<=w.heap.size)(nQ:l0.length<=1000000):
  Calls prog 80 #[v0,.int .i64 n] w λe w'=>∃v,e=.returned v/\ByC B w v0 v (l0++beB 8 n) w':=by
 have aO:Hid (ByC B w v0 v0 (l0++(beB 8 n).take 0) w):=h_ ⟨ab_ _ _,by simpa using ae,λ_ _ _=>rfl,λk h=>.inl h⟩;have HB:=h_ hB;clear ae hB;go_enter func80,ntmps80;go_wp2;go_loopw [5,0] (λi bv wr=>∃j:Nat,i=.int .i64 (7-(j:Int))/\j<=8/\Hid (ByC B w v0 bv (l0++(beB 8 n).take j) wr)) (λi _ _=>(intOf i+1).toNat)
 case atStart=>exact⟨0,rfl,by omega,aO⟩
 case round=>
  obtain⟨j,rfl,hj,cF⟩:=hrel;by_cases hlt2:j<8
  ·obtain⟨i,hi⟩:∃i:Nat,i=7-j:=⟨_,rfl⟩;have hi2:(7:Int)-j=(i:Int):=by omega
   rw[hi2];have hx:=vd n i;have hge:=vV 8 n j hlt2;rw[show 8-1-j=i by omega]at hge;generalize be:UInt8.ofNat (n/256 ^ i)=b at hx hge;have mz:(l0++(beB 8 n).take j)++[b]=l0++(beB 8 n).take (j+1):=by
    rw[am_ (by rw[xe];exact hlt2),hge,aH_]
   have b1:(0:Int)<=8*(i:Int):=by omega
   have b2:8*(i:Int)<=64:=by omega
   have b3:(n:Int)<=4611686018427387904:=by omega
   have b9:Below wr.heap.size wr (wr.alloc (.cells #[.int .u8 b.toNat] 5)):=(ab_ _ _).alloc (aa_ _) _;have cd:OwnB (wr.alloc (.cells #[.int .u8 b.toNat] 5)) B u0 (l0++(beB 8 n).take j):=cF.own.below b9;have aK:SlB (wr.alloc (.cells #[.int .u8 b.toNat] 5)) ⟨wr.heap.size,0,none⟩ [b]:=vi wr 5 [b];have BB:B<=wr.heap.size:=ad_ HB.out cF.bel.size;have bj:∀v' W2,OwnB W2 B v' ((l0++(beB 8 n).take j)++[b])->(wr.alloc (.cells #[.int .u8 b.toNat] 5)).grownBy W2 u0.ownBlock->(v'.ownBlock=u0.ownBlock\/v'.ownBlock=some (wr.alloc (.cells #[.int .u8 b.toNat] 5)).heap.size)->ByC B w v0 v' (l0++(beB 8 n).take (j+1)) W2:=λv' W2 ho hg hf=>by
    have:=cF.app BB b9 ho hg hf cF.bel.size;rw[mz]at this;exact this
   have aI:B<=(wr.alloc (.cells #[.int .u8 b.toNat] 5)).heap.size:=by simp;omega
   have gW:(l0++(beB 8 n).take j).length+[b].length<=1000000000000:=by rw[af_,ai_];simp;omega
   rw[hx]at cd aK bj aI;have ew:=h_ cd;have bW:=h_ aK;have ed:=h_ bj;have eX:=h_ aI;have dw:=h_ gW;have HI:=h_ hi;clear hi hx hge be mz b9 cd aK bj aI gW hi2 BB;go_wp2_with (at_builtin;refine zw rfl (.tmp 10) (.tmp 16) rfl B _ (l0++(beB 8 n).take j) rfl ew.out ⟨wr.heap.size,0,none⟩ [b] 1 rfl bW.out dw.out eX.out ?_);intro v' w' ho hg2 _ dP;rw[<-aH_]at ho;have HN:=h_ (ed.out v' w' ho hg2 (by rw[al_];exact dP));have mo:(i:Int)-1=7-((j+1:Nat):Int):=by have:=HI.out;omega
   have mL:=h_ mo;have QR:(i:Int)<=7:=by have:=HI.out;omega
   clear ho hg2 dP mo;go_wp2;go_roundw
   case rel=>exact⟨j+1,by rw[<-mL.out],by omega,HN⟩
   case measure=>simp[intOf]
  ·obtain rfl:j=8:=by omega
   have HF:Hid (ByC B w v0 u0 (l0++beB 8 n) wr):=by
    have:=cF.out;rw[ar_ (by rw[xe];exact aa_ _)]at this;exact h_ this
   have hi2:(7:Int)-(8:Nat)=-1:=by omega
   rw[hi2];go_wp2;go_ret;exact⟨_,rfl,HF.out⟩
theorem xZo (f w):Calls prog 218 #[.slice none 0 0,.int .i64 0,.int .i64 0,f] w λe w'=>e=.returned (.tuple #[])/\w=w':=by
 go_enter func218,ntmps218;go_wp2;refine wp_loop_once ?_;go_wp2;go_end0;exact⟨rfl,rfl⟩
theorem xZj (f w):Calls prog 175 #[.slice none 0 0,.int .i64 0,.int .i64 0,.int .i64 0,f] w λe w'=>e=.returned (.tuple #[])/\w=w':=by
 have HI:=h_ (xZo f w);go_enter func175,ntmps175;go_wp2;refine wp_loop_once ?_;go_wp2_with fail;refine HI.mono ?_;rintro e w' ⟨rfl,rfl⟩;go_wp2
 first|go_end0|(simp only[Exit.inBlock,Exit.then];refine bodyPost_ret (results_none rfl _ _ _) rfl ?_)|refine bodyPost_ret (results_none rfl _ _ _) rfl ?_
 exact⟨rfl,rfl⟩
theorem xXj (f w):Calls prog 143 #[.slice none 0 0,f] w λe w'=>e=.returned (.tuple #[])/\w=w':=by
 have HI:=h_ (xZj f w);have HB:=h_ (Tryz.bits_Len 0 w (by decide) (by decide));go_enter func143,ntmps143;go_wp2_with fail;refine HB.mono ?_;rintro e w' ⟨rfl,rfl⟩;have h0:Lib.bitLen (0:Int).toNat=0:=by decide
 rw[h0];go_wp2_with fail;refine HI.mono ?_;rintro e w' ⟨rfl,rfl⟩;go_wp2;go_end0;exact⟨rfl,rfl⟩
theorem xBw {B w v}(h:yE B w v)(he:v.es=[]):Calls prog 117 #[.pointer (some ⟨v.p,0,none⟩)] w λe w'=>e=.returned (.slice none 0 0)/\Below w.heap.size w w':=by
 obtain⟨w1,ai⟩:∃w1,w1=w.alloc (.cells #[.pointer (some ⟨v.p,0,none⟩)] 50):=⟨_,rfl⟩;have aa:Below w.heap.size w w1:=by rw[ai];exact b_ _ _
 have be:=yz w #[.pointer (some ⟨v.p,0,none⟩)] 50 0;rw[<-ai]at be;simp only[v_]at be;have bg:=h.below aa;have c3:=cell_of_row w1 v.p 3 _ _ _ bg.blk;simp only[za,v_]at c3;have hm:=bg.map;unfold y4 at hm;rw[he]at hm;have mq:=run_range_map (P:=prog) w1 99 _ _ v.M _ v.mc underlying99 hm;obtain⟨W,hW⟩:∃W,W=w1.alloc (.mapIter (some v.M) v.mc #[] v.mc):=⟨_,rfl⟩;have hb:Below w1.heap.size w1 W:=by rw[hW];exact b_ _ _
 have hit:W.heap[w1.heap.size]?=some (.mapIter (some v.M) v.mc #[] v.mc):=by rw[hW];exact heap_alloc_new w1 _
 have bj:∀ty,(Instr.next (.pointer (some ⟨w1.heap.size,0,none⟩)) false ty).run prog W=.ok (.tuple #[.bool false]) W:=λty=>by
  rcases run_next_at (P:=prog) W ty w1.heap.size v.M v.mc v.mc #[] _ v.mc hit ((hb.block _ bg.lt.2).trans hm) (λx hx=>by cases hx) (aa_ _) with⟨_,h1⟩|⟨e,he,_⟩
  ·exact h1
  ·exact absurd (mem_left he).1 (by simp)
 have HB:=h_ (aa.trans (hb.mono aa.size));rw[<-hW]at mq;clear hm hb hit h he hW bg aa;go_enter func117,ntmps117;go_upto_region 1 with fail
 refine xr ai ?_;clear ai;go_wp2;refine wp_loop_once ?_;clear mq c3;go_wp2_with fail;refine(xXj _ W).mono ?_;rintro e w' ⟨rfl,rfl⟩;clear bj;go_wp2;go_ret;exact⟨rfl,HB.out⟩
theorem xR6 (b w):Calls prog 81 #[.pointer (some ⟨b,0,none⟩)] w λe w'=>e=.returned (.func (.func 116) #[] #[.pointer (some ⟨w.heap.size,0,none⟩)])/\w.alloc (.cells #[.pointer (some ⟨b,0,none⟩)] 50)=w':=by
 go_enter func81,ntmps81;go_wp2;go_ret;exact⟨rfl,rfl⟩
theorem xR7 {B w v}(h:yE B w v)(he:v.es=[])(bx)(be:w.cell? ⟨bx,0,none⟩=some (.pointer (some ⟨v.p,0,none⟩)))(y):
  Calls prog 116 #[y,.pointer (some ⟨bx,0,none⟩)] w λe w'=>(∃u,e=.returned u)/\Below w.heap.size w w':=by
 have HS:Hid (Calls prog 117 #[.pointer (some ⟨v.p,0,none⟩)] w λe w'=>e=.returned (.slice none 0 0)/\Below w.heap.size w w'):=h_ (xBw h he);clear h he;go_enter func116,ntmps116;go_wp2_with fail;refine HS.mono ?_;rintro e w1 ⟨rfl,hb⟩;have HB:=h_ hb;clear hb be;go_wp2;refine wp_loop_once ?_;go_wp2;go_end0;exact⟨⟨_,rfl⟩,HB.out⟩
theorem xLc {B w v}(h:yE B w v)(he:v.es=[])(hl:v.budget<=1073741824):
  Calls prog 57 #[.pointer (some ⟨v.p,0,none⟩)] w λe w'=>Below w.heap.size w w'/\∃u,e=.returned u/\OwnB w' w.heap.size u (beB 8 v.budget++beB 8 0):=by
 obtain⟨w0,mO⟩:∃w0,w0=w.alloc (.cells #[.pointer (some ⟨v.p,0,none⟩)] 50):=⟨_,rfl⟩;have bf:Below w.heap.size w w0:=by rw[mO];exact b_ _ _
 have dJ:w0.heap[w.heap.size]?=some (.cells #[.pointer (some ⟨v.p,0,none⟩)] 50 (0,0)):=by rw[mO];exact heap_alloc_new w _
 have be:=cell_of_row w0 w.heap.size 0 _ _ _ dJ;simp only[v_]at be;have NL:=h.below bf;have c0:=cell_of_row w0 v.p 0 _ _ _ NL.blk;simp only[za,v_]at c0;have HA:=h_ (xNp [] v.budget (by omega) (.slice none 0 0) w0 w0.heap.size (OwnB.nil _ _) (aa_ _) (by simp));have H:=h_ h;have db:=h_ bf;have wR:=h_ dJ;have HE:=h_ he;clear h he hl bf dJ NL;refine(callsIn_wide (n:=4)).1 (callsIn_of_wp_marks func57 rfl trivial ?_ rfl);simp only[ntmps57,aW_,av_,bm_,Nat.reduceAdd,Nat.reduceSub,cl_,cm_,cv_,cp_,aM_,aK_];refine wpIn_wide.2 ?_;go_upto_region 1 with fail
 refine xr mO ?_;clear mO;go_wp2_with fail;refine HA.mono ?_;rintro e w1 ⟨aa,u,rfl,ae⟩;rw[aM_]at ae;obtain⟨ug,uc,hu,_,_,_,_⟩:∃g cap,u=.slice (some ⟨g,0,none⟩) 8 cap/\w0.heap.size<=g/\8<=cap/\cap<=maxLen/\SlB w1 ⟨g,0,none⟩ (beB 8 v.budget):=by
  rcases ae.at with⟨_,h⟩|⟨g,cap,h1,h2,h3,h4,h5⟩
  ·exact absurd (congrArg List.length h) (by simp[xe])
  ·have e:(beB 8 v.budget).length=8:=by simp[xe]
   rw[e]at h1 h3;exact⟨g,cap,h1,h2,h3,h4,h5⟩
 subst hu;obtain⟨w2,aw⟩:∃w2,w2=w1.alloc (.cells #[.slice (some ⟨ug,0,none⟩) 8 uc] 31):=⟨_,rfl⟩;have ak:Below w1.heap.size w1 w2:=by rw[aw];exact b_ _ _
 have aA:w2.heap[w1.heap.size]?=some (.cells #[.slice (some ⟨ug,0,none⟩) 8 uc] 31 (0,0)):=by rw[aw];exact heap_alloc_new w1 _
 have aj:=aa.trans (ak.mono aa.size);have au:=h_ aj;have eN:=(aj.block _ (i_ wR.out).1).trans wR.out;have Dm:=h_ eN;have gZ:=h_ (ae.below ak);have bQ:=h_ aA;have q0:=cell_of_row w2 w1.heap.size 0 _ _ _ aA;have q1:=cell_of_row w2 w.heap.size 0 _ _ _ eN;simp only[v_]at q0 q1;have z0:∀z:x8 w2,z.1.cell? ⟨w1.heap.size,0,none⟩=some (.slice (some ⟨ug,0,none⟩) 8 uc):=λz=>z.cell q0
 have z1:∀z:x8 w2,z.1.cell? ⟨w.heap.size,0,none⟩=some (.pointer (some ⟨v.p,0,none⟩)):=λz=>z.cell q1
 have NM:=h_ (ae.lt (k:=ug) rfl).2;have cF:Hid (w2.drew.heap.size=w1.heap.size+1):=h_ (by show w2.heap.size=_;rw[aw,al_]);have mC:=h_ aa.size;clear aa ae ak aA c0 be eN aj q0 q1 HA;go_upto_region 4 with fail
 refine xr aw ?_;clear aw;refine xp [0,1] [2,3,4] (λw'=>∃z:x8 w2,w'=z.1) (by kernel_rfl) (by kernel_rfl) (by kernel_rfl) ⟨⟨w2.drew,(ab_ _ _).drew⟩,rfl⟩ ?_;simp only[o_]
 repeat (go_big_quiet_step (fail))
 refine wpQuiet_nil ?_;have bD:Below w2.heap.size w2 w2.drew:=(ab_ _ _).drew;clear z0 z1;refine yb true (by kernel_rfl) (by kernel_rfl) ?_;simp only[o_];go_wp2_with fail;refine(xIp (H.below (db.trans ((au.trans (bD.mono au.size)).mono db.size))) 0 (by rw[HE.out];rfl)).mono ?_;rintro e w3⟨rfl,rfl⟩;go_wp2;refine⟨λ_=>⟨⟨_,bD⟩,rfl⟩,xB [3,4] _ _ (by kernel_rfl) ?_⟩;simp only[o_];have Iu:=gZ.below bD;have hlt:=(Iu.lt (k:=ug) rfl).2;have eD:=h_ bD;go_wp2_with fail;refine(jY _ 0 (by omega) _ w2.drew w0.heap.size Iu (by have:=au.size;exact this) (by simp[xe])).mono ?_;rintro e w3⟨u,rfl,hc⟩;have Ku:ug<w1.heap.size:=NM.out;have cT:w2.drew.heap.size=w1.heap.size+1:=cF.out;obtain⟨ag,ac,hu,_,_,_,_⟩:∃g cap,u=.slice (some ⟨g,0,none⟩) 16 cap/\w0.heap.size<=g/\16<=cap/\cap<=maxLen/\SlB w3 ⟨g,0,none⟩ (beB 8 v.budget++beB 8 0):=by
  rcases hc.own.at with⟨_,h⟩|⟨g,cap,h1,h2,h3,h4,h5⟩
  ·exact absurd (congrArg List.length h) (by simp[xe])
  ·have e:(beB 8 v.budget++beB 8 0).length=16:=by simp[xe]
   rw[e]at h1 h3;exact⟨g,cap,h1,h2,h3,h4,h5⟩
 subst hu;have BC:ag≠w1.heap.size:=by
  rcases hc.fr ag rfl with h|h
  ·have:ug=ag:=as_ h;omega
  ·omega
 have bK:=(hc.keep w1.heap.size (by omega) (λe=>by have:ug=w1.heap.size:=as_ e;omega)).trans ((eD.block w1.heap.size (by have:=(i_ bQ.out).1;exact this)).trans bQ.out);have al:Below w0.heap.size w0 w3:=(au.trans (eD.mono au.size)).trans hc.bel;have c3:=cell_of_row w3 w1.heap.size 0 _ _ _ bK;have f3:=frozen_of_row w3 w1.heap.size 0 _ _ bK;simp only[v_]at c3;obtain⟨w4,cP⟩:∃w4,w4=w3.setCell ⟨w1.heap.size,0,none⟩ (.slice (some ⟨ag,0,none⟩) 16 ac):=⟨_,rfl⟩;have BD:w0.heap.size<=w1.heap.size:=mC.out;have aQ:Below w0.heap.size w0 w4:=by rw[cP];exact al.setCell (p:=⟨w1.heap.size,0,none⟩) BD _
 have eh:w4.heap[w1.heap.size]?=some (.cells #[.slice (some ⟨ag,0,none⟩) 16 ac] 31 (0,0)):=by rw[cP,heap_setCell_same w3 w1.heap.size 0 _ _ _ bK];rfl
 have iQ:OwnB w4 w0.heap.size (.slice (some ⟨ag,0,none⟩) 16 ac) (beB 8 v.budget++beB 8 0):=by
  rw[cP];exact hc.own.grown (grownBy_setCell' w3 w1.heap.size _) (λk e=>by cases e;intro h;exact BC (as_ h))
 have bt:=h_ aQ;have g6:=h_ eh;have wS:=h_ iQ;have XO:=h_ (hc.own.lt (k:=ag) rfl);clear hc Ku cT BC bK al BD aQ eh iQ Iu hlt NM cF gZ eD bD;go_wp2;refine ag_ ?_;go_upto_region 5 with fail
 refine xr cP ?_;clear cP c3 f3;have NN:=(bt.block _ (i_ wR.out).1).trans wR.out;have q1:=cell_of_row w4 w.heap.size 0 _ _ _ NN;simp only[v_]at q1;clear NN;go_wp2_with fail;refine(xR6 v.p w4).mono ?_;rintro e w5 ⟨rfl,rfl⟩;have aF:Below w4.heap.size w4 (w4.alloc (.cells #[.pointer (some ⟨v.p,0,none⟩)] 50)):=(ab_ _ _).alloc (aa_ _) _;have be:=yz w4 #[.pointer (some ⟨v.p,0,none⟩)] 50 0;generalize w4.alloc (.cells #[.pointer (some ⟨v.p,0,none⟩)] 50)=w5 at aF be⊢;have aU:=h_ aF;have CR:=h_ be;clear aF be q1;go_wp2;refine xDb rfl (enters_of func116 (by kernel_rfl) rfl) (λy W hW=>?_) (λD W hD hW hK=>?_)
 ·have nJ:=db.trans ((bt.trans (aU.mono bt.size)).mono db.size);exact xR7 (H.below (nJ.trans (hW.mono nJ.size))) HE.out _ ((hW.cell (p:=⟨w4.heap.size,0,none⟩) (block_lt_of_cell CR.out)).trans CR.out) y
 ·have Q9:=aU.trans (hW.mono aU.size);have Iq:=(Q9.cell (p:=⟨w1.heap.size,0,none⟩) (i_ g6.out).1).trans (cell_of_row w4 w1.heap.size 0 _ _ _ g6.out);simp only[v_]at Iq;have sV:=h_ (wS.below Q9);have iy:=h_ (db.trans ((bt.trans (Q9.mono bt.size)).mono db.size));have HK:=h_ hK;have HD:=h_ hD;clear hW hK Q9 hD;go_wp2;refine⟨by simp,.inl ⟨_,_,rfl,run_takeDeferred HK.out,?_⟩⟩;refine⟨.slice (some ⟨ag,0,none⟩) 16 ac,results_tmp (t:=2) results57 _ _ _,iy.grown (grownBy_putObj' _ D _) iy.size (λk e=>by cases e;have:=bt.size;have:=aU.size;have:=db.size;have:=HD.out;omega),_,rfl,(sV.base db.size).grown (grownBy_putObj' _ D _) (λk e=>?_)⟩;cases e
  have h1:=(wS.lt (k:=ag) rfl).2;have h2:=aU.size;have h3:=HD.out;intro h4;have h5:ag=D:=as_ h4;omega
theorem xQy (a)(len cap k:Nat)(z:Int)(hz:z=k)(hk:k<=cap)(w):Sem.run prog (Instr.sliceAt 31 (.slice (some a) len cap) none (some (.int .i64 z)) none) w=.ok (.slice (some a) k cap) w:=by
 subst hz;rw[run_sliceAt_slice w 31 _ _ _ _ (by kernel_rfl),run_slice_h w 31 (some a) len cap (by kernel_rfl) .i64 k (by omega) (by omega),xBb,sizeOf5];simp only[aw_,sliced,be_,aU_,dI_,bZ_];have:a.add 0=a:=rfl;split <;> rfl
def xAp (w:World)(r:Nat)(v:Value)(e:Int):Prop:=w.heap[r]?=some (.cells #[v,.int .i64 e] 299 (0,0))
theorem xAp.set {w r v e}(h:xAp w r v e)(u):xAp (w.setCell ⟨r,0,none⟩ u) r u e:=by
 unfold xAp at h⊢;rw[heap_setCell_same w r 0 _ _ _ h];rfl
theorem xIs (r v k w)(h:xAp w r v 0):Calls prog 161 #[.pointer (some ⟨r,0,none⟩),.bool false,.int .i64 k] w λe w'=>e=.returned (.tuple #[])/\w=w':=by
 have c1:=cell_of_row w r 1 _ _ _ h;simp only[v_]at c1;clear h;go_enter func161,ntmps161;go_wp2;go_end0;exact⟨rfl,rfl⟩
theorem xZd (r a len cap n w)(h:xAp w r (.slice (some a) len cap) 0)(hn:n<=len)(hc:len<=cap)(hm:cap<=maxLen):Calls prog 160 #[.pointer (some ⟨r,0,none⟩),.int .i64 n] w λe w'=>
  e=.returned (.slice (some a) n cap)/\w.setCell ⟨r,0,none⟩ (.slice (some (cutA a cap n)) (len-n) (cap-n))=w':=by
 have c0:=cell_of_row w r 0 _ _ _ h;have c1:=cell_of_row w r 1 _ _ _ h;have f0:=frozen_of_row w r 0 _ _ h;simp only[v_]at c0 c1;have HF:=h_ (xIs r _ 23 w h);have aK:=xQy a len cap n (n:Int) rfl (by omega);have cT:=kh a len cap n (n:Int) rfl hn;unfold maxLen at hm;have z1:(n:Int)<=len:=by omega
 have z2:(len:Int)<=9223372036854775807:=by omega
 have hd:decide (len<n)=false:=decide_eq_false (by omega);clear h;go_enter func160,ntmps160;go_wp2_with fail;refine HF.mono ?_;rintro e w' ⟨rfl,rfl⟩;go_wp2;go_ret;exact⟨rfl,rfl⟩
theorem xMl (r a len cap l w)(h:xAp w r (.slice (some a) len cap) 0)(hs:SlB w a l)(ao:l.length=len)(h8:8<=len)(hc:len<=cap)(hm:cap<=maxLen)(Bo:a.block≠r):Calls prog 159 #[.pointer (some ⟨r,0,none⟩)] w λe w'=>
  e=.returned (.int .u64 (deB (l.take 8):Nat))/\w.setCell ⟨r,0,none⟩ (.slice (some (cutA a cap 8)) (len-8) (cap-8))=w':=by
 have HT:=h_ (xZd r a len cap 8 w h h8 hc hm);obtain⟨w1,ai⟩:∃w1,w1=w.setCell ⟨r,0,none⟩ (.slice (some (cutA a cap 8)) (len-8) (cap-8)):=⟨_,rfl⟩
 have aK:SlB w1 a (l.take 8):=⟨λq x hq=>by
  have h1:=(hs.take 8).cell q x hq;rw[ai];have h2:=heap_setCell_other w ⟨r,0,none⟩ a.block (.slice (some (cutA a cap 8)) (len-8) (cap-8)) Bo;exact(aN_ (by rw[ya];exact h2)).trans h1⟩
 obtain⟨l8,NO⟩:∃l8,l8=l.take 8:=⟨_,rfl⟩;have NP:l8.length=8:=by rw[NO,ai_];omega
 rw[<-ai]at HT⊢;rw[<-NO]at aK⊢;have HS:=h_ aK;have HL:=h_ NP;have Aa:(8:Int)<=cap:=by omega
 clear h hs ai aK NO NP ao h8 hc hm Bo;go_enter func159,ntmps159;go_wp2_with fail;refine HT.mono ?_;rintro e w' ⟨rfl,rfl⟩;go_wp2;go_loopw [3,9] (λnv u wr=>∃k:Nat,u=.int .i64 k/\nv=.int .u64 (deB (l8.take k):Nat)/\k<=8/\wr=w1) (λ_ u _=>8-(intOf u).toNat)
 case atStart=>exact⟨0,rfl,by simp[deB],by omega,rfl⟩
 case round=>
  obtain⟨k,rfl,rfl,hk,rfl⟩:=hrel;by_cases hlt:k<8
  ·have cr:(k:Int)<8:=by omega
   have ct:k<l8.length:=by rw[HL.out];exact hlt
   have aT:=HS.cell k _ (ak_ ct);have hd:deB (l8.take (k+1))=deB (l8.take k)*256+(l8[k]'ct).toNat:=by
    rw[am_ ct,xAl]
   have mZ:=xQ2 (l8.take k) (by rw[ai_];omega);generalize l8[k]'ct=b at aT hd;have sr:=b.toNat_lt;obtain⟨n,hn⟩:∃n,n=deB (l8.take k):=⟨_,rfl⟩;rw[<-hn]at hd mZ⊢;have C_:=xOt n b.toNat mZ (by omega);rw[<-hd]at C_;have b0:(n:Int)<72057594037927936:=by omega
   have hk1:k+1<=8:=hlt;clear hn hd mZ ct;go_wp2;go_roundw
   case rel=>exact⟨k+1,by go_num,rfl,hk1,trivial⟩
   case measure=>simp[intOf];omega
  ·obtain rfl:k=8:=by omega
   rw[ar_ (by rw[HL.out];exact aa_ _)];go_wp2;go_ret;exact⟨rfl,rfl⟩
theorem xUb (r a len cap l w)(h:xAp w r (.slice (some a) len cap) 0)(hs:SlB w a l)(ao:l.length=len)(h8:8<=len)(hc:len<=cap)(hm:cap<=maxLen)(Bo:a.block≠r)(n)(li hi2:Int)(hn:deB (l.take 8)=n)(_z6:0<=li)(h1:li<=n)(h2:(n:Int)<=hi2)(z3:hi2<=1073741824):Calls prog 158 #[.pointer (some ⟨r,0,none⟩),.int .i64 li,.int .i64 hi2] w λe w'=>
  e=.returned (.int .i64 n)/\w.setCell ⟨r,0,none⟩ (.slice (some (cutA a cap 8)) (len-8) (cap-8))=w':=by
 have HC:=h_ (xMl r a len cap l w h hs ao h8 hc hm Bo);have ha:=h.set (.slice (some (cutA a cap 8)) (len-8) (cap-8));rw[hn]at HC;generalize w.setCell ⟨r,0,none⟩ (.slice (some (cutA a cap 8)) (len-8) (cap-8))=w1 at HC ha⊢;have HF:=h_ (xIs r _ 3 w1 ha);have c1:=cell_of_row w1 r 1 _ _ _ ha;simp only[v_]at c1;obtain⟨ni,XP⟩:∃ni:Int,ni=(n:Int):=⟨_,rfl⟩;have z1:li<=ni:=by omega
 have z2:ni<=hi2:=by omega
 have z4:ni<=1073741824:=by omega
 have z5:0<=ni:=by omega
 have dg:decide ((9223372036854775807:Int)<ni)=false:=decide_eq_false (by omega);have d1:decide (ni<li)=false:=decide_eq_false (by omega);have d2:decide (hi2<ni)=false:=decide_eq_false (by omega);rw[<-XP]at HC⊢;clear XP;clear h hs ao h8 hc hm Bo hn h1 h2 ha;go_enter func158,ntmps158;go_wp2_with fail;refine HC.mono ?_;rintro e w' ⟨rfl,rfl⟩;go_wp2_with fail;refine HF.mono ?_;rintro e w' ⟨rfl,rfl⟩;go_wp2;go_ret;exact⟨rfl,rfl⟩
end Go.Proofs.YtegfbhdkenkkdaaGreatDoor
